/- Several texts of this claim, joined: Stab0 Stab1 Stab2 PaFrz Stab3 Stab4 PlayFlow Forecast Project Order29 Merge29 Fc0 Acc1 AccLib Acc2 Acc3. -/
import Derived.Test.YtfbogibogkbhmaaGreatDoorPk4
import Derived.Below
import Derived.Lib.Hide
import Derived.Lib.AppendZerosOnto
import Derived.Lib.Walk
import Derived.Lib.SliceRun
set_option linter.unusedSimpArgs false
set_option linter.unusedVariables false
set_option maxRecDepth 4000
namespace Go.Proofs.YtfbogibogkbhmaaGreatDoor
structure SOrd {α:Type} (lt:α→α→Bool):Prop where
 asym:∀a b,lt a b=true→lt b a=false
 tr:∀a b c,lt a b=false→lt b c=false→lt a c=false
section
variable {α:Type} {lt:α→α→Bool}
def ji (lt:α→α→Bool) (x:α):List α→List α
 |[]=>[x]
 |y::l=>if lt x y then x::y::l else y::ji lt x l
def aP (lt:α→α→Bool):List α→List α→List α
 |[],B=>B
 |a::A,[]=>a::A
 |a::A,b::B=>if lt b a then b::aP lt (a::A) B else a::aP lt A (b::B)
termination_by A B=>A.length+B.length
abbrev Srt (lt:α→α→Bool) (l:List α):Prop:=l.Pairwise fun x y=>lt y x=false
theorem SOrd.lt_lt (h:SOrd lt) {a b c:α} (h1:lt a b=true) (h2:lt b c=true):lt a c=true:=by
 cases hc:lt a c
 ·have:=h.tr a c b hc (h.asym _ _ h2)
  rw[this]at h1
  cases h1
 ·rfl
theorem SOrd.le_lt_le (h:SOrd lt) {y l x z:α} (h1:lt l y=false) (h2:lt l z=true) (h3:lt x z=false):lt y x=true:=by
 cases hc:lt y x
 ·have:=h.tr l y z h1 (h.tr y x z hc h3)
  rw[this]at h2
  cases h2
 ·rfl
theorem qz {P:List α→Prop} (h0:P []) (h1:∀l x,P l→P (l++[x])) (l:List α):P l:=by
 rw[←l.reverse_reverse]
 induction l.reverse with
 |nil=>exact h0
 |cons x r ih=>rw[List.reverse_cons];exact h1 _ _ ih
theorem Mx {a b:α} {A B:List α} (h:lt b a=true):aP lt (a::A) (b::B)=b::aP lt (a::A) B:=by rw[aP,if_pos h]
theorem LS {a b:α} {A B:List α} (h:lt b a=false):aP lt (a::A) (b::B)=a::aP lt A (b::B):=by rw[aP,if_neg (by rw[h];simp)]
theorem ff (A:List α):aP lt A []=A:=by cases A<;>simp[aP]
theorem rM:∀A B:List α,(aP lt A B).length=A.length+B.length
 |[],B=>by simp[aP]
 |a::A,[]=>by simp[aP]
 |a::A,b::B=>by
  rw[aP]
  split
  ·rw[wI,rM];simp;omega
  ·rw[wI,rM];simp;omega
termination_by A B=>A.length+B.length
theorem FU (x:α):∀l:List α,(ji lt x l).length=l.length+1
 |[]=>rfl
 |y::l=>by
  rw[ji]
  split
  ·simp
  ·simp[FU x l]
theorem lN (h:SOrd lt) (x:α):∀A B:List α,aP lt A (ji lt x B)=ji lt x (aP lt A B)
 |[],B=>by simp[aP]
 |a::A,[]=>by
  rw[ff,ji,aP,ji,ff]
  split
  ·rfl
  ·have:=lN h x A []
   rw[ff,ji]at this
   rw[this]
 |a::A,b::B=>by
  rw[ji,aP]
  by_cases h1:lt b a=true
  ·rw[if_pos h1,ji]
   by_cases h2:lt x b=true
   ·rw[if_pos h2,if_pos h2,aP,if_pos (h.lt_lt h2 h1),aP,if_pos h1]
   ·rw[if_neg h2,if_neg h2,aP,if_pos h1,lN h x (a::A) B]
  ·rw[if_neg h1,ji]
   have ih:=lN h x A (b::B)
   rw[ji]at ih
   by_cases h2:lt x b=true
   ·rw[if_pos h2]at ih⊢
    rw[aP]
    by_cases h3:lt x a=true
    ·rw[if_pos h3,if_pos h3,aP,if_neg h1]
    ·rw[if_neg h3,if_neg h3,ih]
   ·rw[if_neg h2]at ih⊢
    have h3:lt x a=false:=h.tr x b a (by simpa using h2) (by simpa using h1)
    rw[aP,if_neg h1,h3,ih]
    simp
termination_by A B=>A.length+B.length
def dx (lt:α→α→Bool) (l:List α):List α:=l.foldl (fun acc x=>ji lt x acc) []
theorem jB (l:List α) (x:α):dx lt (l++[x])=ji lt x (dx lt l):=by simp[dx]
theorem eu (l:List α):(dx lt l).length=l.length:=by
 induction l using qz with
 |h0=>rfl
 |h1 l x ih=>rw[jB,FU,ih];simp
theorem DJ (h:SOrd lt) (A B:List α):dx lt (A++B)=aP lt (dx lt A) (dx lt B):=by
 induction B using qz with
 |h0=>rw[wY];exact (ff _).symm
 |h1 B x ih=>rw[←vJ,jB,jB,ih,lN h]
theorem AF {x y:α}:∀{l:List α},y∈ji lt x l↔y=x∨y∈l
 |[]=>by simp[ji]
 |z::l=>by
  rw[ji]
  split
  ·simp
  ·simp[AF (l:=l)]
   constructor
   ·rintro (h|h|h)<;>simp[h]
   ·rintro (h|h|h)<;>simp[h]
theorem C5 {y:α} {l:List α}:y∈dx lt l↔y∈l:=by
 induction l using qz with
 |h0=>rfl
 |h1 l x ih=>rw[jB,AF,ih];simp[or_comm]
theorem Hm (h:SOrd lt) (x:α):∀{l:List α},Srt lt l→Srt lt (ji lt x l)
 |[],_=>by simp[ji]
 |y::l,hs=>by
  rw[ji]
  have hy:=vD.1 hs
  split
  ·rename_i hx
   refine vD.2 ⟨fun z hz=>?_,hs⟩
   rcases zO.1 hz with rfl|hz
   ·exact h.asym _ _ hx
   ·exact h.tr z y x (hy.1 z hz) (h.asym _ _ hx)
  ·rename_i hx
   refine vD.2 ⟨fun z hz=>?_,Hm h x hy.2⟩
   rcases AF.1 hz with rfl|hz
   ·simpa using hx
   ·exact hy.1 z hz
theorem mQ (h:SOrd lt) (l:List α):Srt lt (dx lt l):=by
 induction l using qz with
 |h0=>exact .nil
 |h1 l x ih=>rw[jB];exact Hm h x ih
theorem Fd (h:SOrd lt) {x y:α} (hx:lt x y=true):∀l:List α,ji lt x (l++[y])=ji lt x l++[y]
 |[]=>by simp[ji,hx]
 |z::l=>by
  rw[vX,ji,ji]
  split
  ·rfl
  ·rw[Fd h hx l];rfl
theorem CV {x:α}:∀{l:List α},(∀z,z∈l→lt x z=false)→ji lt x l=l++[x]
 |[],_=>rfl
 |z::l,hz=>by
  rw[ji,if_neg (by rw[hz z (by simp)];simp),CV fun w hw=>hz w (by simp[hw])]
  rfl
theorem Nf (h:SOrd lt) (x:α) (l:List α) (hs:Srt lt l):(oN lt x l.reverse).reverse=ji lt x l:=by
 induction l using qz with
 |h0=>rfl
 |h1 l y ih=>
  rw[List.reverse_append,List.reverse_singleton,List.singleton_append,oN]
  have hp:=List.pairwise_append.1 hs
  split
  ·rename_i hx
   rw[List.reverse_cons,ih hp.1,Fd h hx]
  ·rename_i hx
   rw[CV]
   ·simp
   ·intro z hz
    rcases wA.1 hz with hz|hz
    ·exact h.tr x y z (by simpa using hx) (hp.2.2 z hz y (by simp))
    ·simp at hz;subst hz;simpa using hx
theorem pw (h:SOrd lt) (l:List α):gG lt l=dx lt l:=by
 induction l using qz with
 |h0=>rfl
 |h1 l x ih=>
  have e:mM lt l=(dx lt l).reverse:=by rw[←ih,gG,List.reverse_reverse]
  rw[gG,zc,e,Nf h x _ (mQ h l),jB]
theorem iH (h:SOrd lt):∀{A1 A2 B1 B2:List α},(∀x,x∈A2→∀y,y∈B1→lt y x=true)→(∀x,x∈A1→∀y,y∈B2→lt y x=false)→aP lt (A1++A2) (B1++B2)=aP lt A1 B1++aP lt A2 B2
 |[],A2,[],B2,_,_=>by simp[aP]
 |[],[],b::B1,B2,_,_=>by simp[aP]
 |[],a::A2,b::B1,B2,h1,h2=>by
  rw[vY,vX,Mx (h1 a (by simp) b (by simp))]
  have ih:=iH h (A1:=[]) (A2:=a::A2) (B1:=B1) (B2:=B2) (fun x hx y hy=>h1 x hx y (by simp[hy])) (by simp)
  rw[vY]at ih
  rw[ih]
  simp[aP]
 |a::A1,A2,b::B1,B2,h1,h2=>by
  rw[vX,vX,aP,aP]
  split
  ·have ih:=iH h (A1:=a::A1) (A2:=A2) (B1:=B1) (B2:=B2) (fun x hx y hy=>h1 x hx y (by simp[hy])) h2
   rw[vX]at ih
   rw[ih];rfl
  ·have ih:=iH h (A1:=A1) (A2:=A2) (B1:=b::B1) (B2:=B2) h1 (fun x hx=>h2 x (by simp[hx]))
   rw[vX]at ih
   rw[ih];rfl
 |a::A1,A2,[],[],_,_=>by simp[ff]
 |a::A1,A2,[],b::B2,h1,h2=>by
  rw[vX,vY,LS (h2 a (by simp) b (by simp))]
  have ih:=iH h (A1:=A1) (A2:=A2) (B1:=[]) (B2:=b::B2) (by simp) (fun x hx=>h2 x (by simp[hx]))
  rw[vY]at ih
  rw[ih,ff,ff];rfl
termination_by A1 A2 B1 B2=>A1.length+A2.length+B1.length+B2.length
theorem Au (x:α):∀(B:List α) (i:Nat),i≤B.length→(∀y,y∈B.take i→lt y x=true)→(∀y,(B.drop i).head?=some y→lt y x=false)→aP lt [x] B=B.take i++x::B.drop i
 |[],i,_,_,_=>by simp[aP]
 |b::B,0,_,_,h2=>by
  rw[aP,if_neg (by rw[h2 b rfl];simp)]
  simp[aP]
 |b::B,i+1,hi,h1,h2=>by
  rw[aP,if_pos (h1 b (by simp)),Au x B i (by simpa using hi) (fun y hy=>h1 y (by simp[hy])) (by simpa using h2)]
  simp
theorem xy (y:α):∀(A:List α) (i:Nat),i≤A.length→(∀x,x∈A.take i→lt y x=false)→(∀x,(A.drop i).head?=some x→lt y x=true)→aP lt A [y]=A.take i++y::A.drop i
 |[],i,_,_,_=>by simp[aP]
 |a::A,0,_,_,h2=>by
  rw[aP,if_pos (h2 a rfl),ff]
  simp
 |a::A,i+1,hi,h1,h2=>by
  rw[aP,if_neg (by rw[h1 a (by simp)];simp),xy y A i (by simpa using hi) (fun x hx=>h1 x (by simp[hx])) (by simpa using h2)]
  simp
def blk (lt:α→α→Bool) (bs:Nat):Nat→List α→List α
 |0,_=>[]
 |f+1,l=>dx lt (l.take bs)++blk lt bs f (l.drop bs)
theorem Ky (bs:Nat):∀f,blk lt bs f []=[]
 |0=>rfl
 |f+1=>by simp[blk,Ky bs f,dx]
theorem p8 (bs f:Nat) {l:List α} (h:l.length≤bs):blk lt bs (f+1) l=dx lt l:=by rw[blk,zQ h,vH h,Ky,wY]
theorem KJ (bs:Nat):∀(f:Nat) (l:List α),l.length≤f*bs→(blk lt bs f l).length=l.length
 |0,l,h=>by simp at h;simp[blk,h]
 |f+1,l,h=>by
  rw[blk,zK,eu,KJ bs f _ (by rw[wP];rw[Nat.succ_mul]at h;omega)]
  simp;omega
theorem S1 (h:SOrd lt) (bs f:Nat) (l:List α):blk lt bs (f+2) l=dx lt (l.take bs)++dx lt ((l.drop bs).take bs)++blk lt bs f (l.drop (2*bs))∧dx lt (l.take (2*bs))=aP lt (dx lt (l.take bs)) (dx lt ((l.drop bs).take bs)):=by
 constructor
 ·rw[blk,blk,List.drop_drop,vJ]
  congr 3
  rw[Nat.two_mul]
 ·rw[←DJ h,Nat.two_mul,List.take_add]
end
open Go.PA
open Go.RowKit
theorem o5 {β:Type} (L R:List β) (x:β) {i:Nat} (h:i=L.length):(L++x::R)[i]?=some x:=by subst h;simp
theorem P3 {β:Type} (L M R:List β) (x y:β) {i j:Nat} (hi:i=L.length) (hj:j=L.length+1+M.length):((L++x::(M++y::R)).set i y).set j x=L++y::(M++x::R):=by
 subst hi;subst hj
 rw[List.set_append_right _ _ (zZ _),Nat.sub_self,List.set_cons_zero,List.set_append_right _ _ (by omega),show L.length+1+M.length-L.length=M.length+1 from by omega,List.set_cons_succ,List.set_append_right _ _ (zZ _),Nat.sub_self,List.set_cons_zero]
section
variable {α:Type} (enc:α→List AV) (lt:α→α→Bool) (g:FuncId)
theorem eWz {cs:List α} {i:Nat} {x:α} (h:cs[i]?=some x):(ao enc cs)[i]?=some (enc x):=by rw[ao,zR,h];rfl
theorem kl (cs:List α) (i:Nat) (x:α):ao enc (cs.set i x)=(ao enc cs).set i (enc x):=by rw[ao,ao,List.map_set]
abbrev flO (cs:List α):Option AObj:=some ⟨97,4,ao enc cs⟩
theorem jA {H:ah} {id:Nat} {o:Option AObj} (h:H[id]?=some o):H.set id o=H:=by
 apply List.ext_getElem?
 intro j
 rw[wO]
 split
 ·rename_i e;subst e;rw[if_pos (gsI h),h]
 ·rfl
theorem rK {cs:List α} {H Hs:ah} {id:Nat} (hk:∀a,(enc a).length=4) (him:∀a c,c∈enc a→Imm c∧c.cellish=true) (hs:Hs=H.set id (flO enc cs)) (hlt:id<H.length) {i j:Nat} {x y:α} (hi:cs[i]?=some x) (hj:cs[j]?=some y) (hij:i≠j):
  Hs[id]?=some (flO enc cs)∧id<Hs.length∧(ao enc cs)[i]?=some (enc x)∧(ao enc cs)[j]?=some (enc y)∧(∀v,((ao enc cs).set i v)[j]?=some (enc y))∧(∀v,((ao enc cs).set j v)[i]?=some (enc x))∧(∀o:Option AObj,(Hs.set id o)[id]?=some o)∧(∀z,(enc z).take 4=enc z)∧(∀z,(enc z).drop 4=[])∧(enc x).all AV.cellish=true∧(enc y).all AV.cellish=true:=by
 have hl:id<Hs.length:=by rw[hs,wX];exact hlt
 refine⟨by rw[hs];simp[hlt],hl,eWz enc hi,eWz enc hj,fun v=>?_,fun v=>?_,fun o=>by simp[hl],fun z=>zQ (by rw[hk];omega),fun z=>vH (by rw[hk];omega),zS.2 fun c h=>(him x c h).2,zS.2 fun c h=>(him y c h).2⟩
 ·rw[zH hij];exact eWz enc hj
 ·rw[zH hij.symm];exact eWz enc hi
theorem oU {row src:Option Nat} (hc:oB enc lt g) (P X M Y S:List α) (H:ah) (id a b n N:Nat) (hX:X.length=n) (hY:Y.length=n) (ha:a=P.length) (hb:b=P.length+n+M.length) (hT:N=(P++X++M++Y++S).length) (hb9:N≤1000000000)
  (hH:H[id]?=some (flO enc (P++X++M++Y++S))):
  MFun Tryz.prog row src 294 [.sref id 0 N,iv a,iv b,iv n,.fn g []] H (fun _ H'=>H'=H.set id (flO enc (P++Y++M++X++S))):=by
 obtain⟨hk,him,hen,hcmp⟩:=hc
 refine aG Tryz.func294 rfl (by simp[Tryz.f294]) (by kernel_rfl) (⟨.tup [],_,rfl⟩) ?_
 intro E hP hr hs hN
 have hlt:id<H.length:=(gsI hH)
 obtain⟨C,hC⟩:∃C,C=fun (_:AV) H'=>H'=H.set id (flO enc (P++Y++M++X++S)):=⟨_,rfl⟩
 rw[←hC]
 simp only[zK]at hT
 simp -dsimp[go_sem,hP]
 obtain⟨I,hI⟩:∃I:Nat→St→Prop,I=fun m s=>∃(k:Nat) (X1 X2 Y1 Y2:List α),k≤n∧m=n-k∧X=X1++X2∧Y=Y1++Y2∧X1.length=k∧Y1.length=k∧s.t 0= .sref id 0 N∧s.t 1=iv a∧s.t 2=iv b∧s.t 3=iv n∧s.t 10=iv k∧s.H=H.set id (flO enc (P++Y1++X2++M++X1++Y2++S)):=⟨_,rfl⟩
 refine az I (n) (by rw[hN];rfl) ?_ ?_
 ·rw[hI]
  refine⟨0,[],X,[],Y,by omega,by omega,rfl,rfl,rfl,rfl,rfl,rfl,rfl,rfl,rfl,?_⟩
  rw[wY,wY,jA hH]
 intro m s hs'
 rw[hI]at hs'
 obtain⟨k,X1,X2,Y1,Y2,hkn,hm,e1,e2,l1,l2,t0,t1,t2,t3,t10,hs'⟩:=hs'
 simp -dsimp[go_sem,hP,t10,t3]
 refine aB ?_ ?_<;>intro h
 ·have hkn:k<n:=by simpa using h
  rw[e1,zK]at hX
  rw[e2,zK]at hY
  obtain⟨x,X3,rfl⟩:=List.exists_cons_of_ne_nil (l:=X2) (by rintro rfl;simp at hX;omega)
  obtain⟨y,Y3,rfl⟩:=List.exists_cons_of_ne_nil (l:=Y2) (by rintro rfl;simp at hY;omega)
  rw[wI]at hX hY
  have lX:X.length=n:=by rw[e1,zK,wI];omega
  have lY:Y.length=n:=by rw[e2,zK,wI];omega
  obtain⟨cs,hcs⟩:∃cs,cs=P++Y1++(x::X3)++M++X1++(y::Y3)++S:=⟨_,rfl⟩
  have ecs:cs=(P++Y1)++x::((X3++M++X1)++y::(Y3++S)):=by rw[hcs];simp
  obtain⟨i,hi⟩:∃i,i=a+k:=⟨_,rfl⟩
  obtain⟨j,hj⟩:∃j,j=b+k:=⟨_,rfl⟩
  have li:i=(P++Y1).length:=by rw[zK];omega
  have lj:j=(P++Y1).length+1+(X3++M++X1).length:=by simp only[zK];omega
  rw[←hcs]at hs'
  have gi:cs[i]?=some x:=by rw[ecs];exact o5 _ _ _ li
  have gj:cs[j]?=some y:=by
   rw[ecs,show (P++Y1)++x::((X3++M++X1)++y::(Y3++S))=((P++Y1)++x::(X3++M++X1))++y::(Y3++S) by simp]
   exact o5 _ _ _ (by rw[lj];simp;omega)
  have sw:(cs.set i y).set j x=P++(Y1++[y])++X3++M++(X1++[x])++Y3++S:=by rw[ecs,P3 _ _ _ x y li lj];simp
  obtain⟨hHid,hlS,ei,ej,eij,eji,hset,tk,dk,cx,cy⟩:=rK enc hk him hs' hlt gi gj (by omega)
  have wi:=ae ((i:Int)) (by omega)
  have wj:=ae ((j:Int)) (by omega)
  have ci:(a:Int)+k=i:=by omega
  have cj:(b:Int)+k=j:=by omega
  have di:i<N:=by omega
  have dj:j<N:=by omega
  have wk:=ae ((k:Int)+1) (by omega)
  obtain⟨es,hes⟩:∃es,es=ao enc cs:=⟨_,rfl⟩
  rw[←hes]at ei ej eij eji
  simp only[flO]at hHid
  rw[←hes]at hHid
  simp -dsimp[go_sem,hP]
  refine aq (fun _=>true) [21,23] hP (by kernel_rfl) (by kernel_rfl) ?_
  simp -dsimp[-getElem?_pos,go_sem,hP,t0,t1,t2,t10,ci,cj,wi,wj,hHid,hlS,ei,ej,eij,hset,tk,dk,cx,cy,di,dj,hk,wk]
  refine⟨n-(k+1),by omega,?_⟩
  rw[hI]
  refine⟨k+1,X1++[x],X3,Y1++[y],Y3,by omega,rfl,by rw[e1];simp,by rw[e2];simp,by simp;omega,by simp;omega,t0,t1,t2,t3,rfl,?_⟩
  rw[←sw,flO,kl,kl,←hes]
  show s.H.set id _=_
  rw[hs',List.set_set]
 ·have hkn:k=n:=by
   have:¬k<n:=by simpa using h
   omega
  subst hkn
  rw[e1,zK]at hX
  rw[e2,zK]at hY
  have x2:X2=[]:=uH.1 (by omega)
  have y2:Y2=[]:=uH.1 (by omega)
  subst x2;subst y2
  simp -dsimp[go_sem,hP]
  rw[hC,hs',e1,e2]
  simp
theorem Ry {row src:Option Nat} (hc:oB enc lt g) (P A B S:List α) (H:ah) (id a m0 b N:Nat) (hA:1≤A.length) (hB:1≤B.length) (ha:a=P.length) (hm0:m0=a+A.length) (hb:b=m0+B.length) (hT:N=(P++A++B++S).length) (hb9:N≤1000000000)
  (hH:H[id]?=some (flO enc (P++A++B++S))):
  MFun Tryz.prog row src 238 [.sref id 0 N,iv a,iv m0,iv b,.fn g []] H (fun _ H'=>H'=H.set id (flO enc (P++B++A++S))):=by
 refine aG Tryz.func238 rfl (by simp[Tryz.f238]) (by kernel_rfl) (⟨.tup [],_,rfl⟩) ?_
 intro E hP hr hs hN
 have hlt:id<H.length:=(gsI hH)
 obtain⟨C,hC⟩:∃C,C=fun (_:AV) H'=>H'=H.set id (flO enc (P++B++A++S)):=⟨_,rfl⟩
 rw[←hC]
 simp only[zK]at hT
 have w1:=ae ((m0:Int)-a) (by omega)
 have w2:=ae ((b:Int)-m0) (by omega)
 have c1:(m0:Int)-a=A.length:=by omega
 have c2:(b:Int)-m0=B.length:=by omega
 rw[c1]at w1
 rw[c2]at w2
 simp -dsimp[go_sem,hP,c1,c2,w1,w2]
 obtain⟨I,hI⟩:∃I:Nat→St→Prop,I=fun m s=>∃(DL X Y DR:List α),m=X.length+Y.length∧1≤X.length∧1≤Y.length∧B++A=DL++Y++X++DR∧P.length+DL.length+X.length=m0∧s.t 0= .sref id 0 N∧s.t 2=iv m0∧s.t 4= .fn g []∧s.t 10=iv X.length∧s.t 11=iv Y.length∧s.H=H.set id (flO enc (P++DL++X++Y++DR++S)):=⟨_,rfl⟩
 refine az I (A.length+B.length) (by rw[hN];rfl) ?_ ?_
 ·rw[hI]
  refine⟨[],A,B,[],rfl,hA,hB,by simp,by simp;omega,rfl,rfl,rfl,rfl,rfl,?_⟩
  simp only[wY]
  exact (jA hH).symm
 intro m s hs'
 rw[hI]at hs'
 obtain⟨DL,X,Y,DR,hm,lx,ly,he,hmm,t0,t2,t4,t10,t11,hs'⟩:=hs'
 have hid:s.H[id]?=some (flO enc (P++DL++X++Y++DR++S)):=by rw[hs'];simp[hlt]
 have htot:(P++DL++X++Y++DR++S).length=N:=by
  have:=congrArg List.length he
  simp only[zK]at this⊢
  omega
 simp only[zK]at htot
 obtain⟨q,hq⟩:∃q,q=(P++DL).length:=⟨_,rfl⟩
 have hq2:q=P.length+DL.length:=by rw[hq,zK]
 simp -dsimp[go_sem,hP,t10,t11]
 refine aB ?_ ?_<;>intro h
 rotate_left
 ·have hne:¬X.length=Y.length:=by
   have:¬(X.length:Int)=Y.length:=by simpa using h
   omega
  simp -dsimp[go_sem,hP,t10,t11]
  refine aB ?_ ?_<;>intro h
  ·have hgt:Y.length<X.length:=by simpa using h
   obtain⟨X1,X2,rfl,l1⟩:∃X1 X2,X=X1++X2∧X1.length=Y.length:=⟨X.take Y.length,X.drop Y.length,(vV _ _).symm,by rw[zY];omega⟩
   rw[zK]at hgt hne hmm htot lx t10
   have w3:=ae ((m0:Int)-((X1.length:Int)+X2.length)) (by omega)
   have c3:(m0:Int)-((X1.length:Int)+X2.length)=(q:Nat):=by omega
   rw[c3]at w3
   have hsr:=oU (row:=E.row) (src:=E.src) enc lt g hc (P++DL) X1 X2 Y (DR++S) s.H id q m0 Y.length N l1 rfl hq (by rw[←hq];omega) (by simp only[zK];omega) hb9 (by rw[hid];simp)
   have w4:=ae (((X1.length:Int)+X2.length)-Y.length) (by omega)
   have c4:((X1.length:Int)+X2.length)-Y.length=(X2.length:Nat):=by omega
   rw[c4]at w4
   simp -dsimp[go_sem,hP,t0,t2,t4,t10,t11,c3,w3]
   refine aI hsr hP Ik ?_
   rintro r H' rfl
   simp -dsimp[go_sem,hP,t10,t11,c4,w4]
   refine⟨X2.length+Y.length,by simp only[zK]at hm;omega,?_⟩
   rw[hI]
   refine⟨DL++Y,X2,X1,DR,by omega,by omega,by omega,by rw[he];simp,by rw[zK];omega,t0,t2,t4,rfl,by simp -dsimp[-getElem?_pos,go_sem,t11,l1],?_⟩
   show s.H.set id _=_
   rw[hs',List.set_set]
   simp
  ·have hgt:X.length<Y.length:=by
    have:¬Y.length<X.length:=by simpa using h
    omega
   obtain⟨Y1,Y2,rfl,l1⟩:∃Y1 Y2,Y=Y1++Y2∧Y2.length=X.length:=⟨Y.take (Y.length-X.length),Y.drop (Y.length-X.length),(vV _ _).symm,by rw[wP];omega⟩
   rw[zK]at hgt hne htot ly t11
   have w3:=ae ((m0:Int)-X.length) (by omega)
   have c3:(m0:Int)-X.length=(q:Nat):=by omega
   rw[c3]at w3
   obtain⟨q3,hq3⟩:∃q3,q3=m0+Y1.length:=⟨_,rfl⟩
   have w5:=ae ((m0:Int)+((Y1.length:Int)+Y2.length)) (by omega)
   have w6:=ae ((m0:Int)+((Y1.length:Int)+Y2.length)-X.length) (by omega)
   have c6:(m0:Int)+((Y1.length:Int)+Y2.length)-X.length=(q3:Nat):=by omega
   rw[c6]at w6
   have hsr:=oU (row:=E.row) (src:=E.src) enc lt g hc (P++DL) X Y1 Y2 (DR++S) s.H id q q3 X.length N rfl l1 hq (by rw[←hq];omega) (by simp only[zK];omega) hb9 (by rw[hid];simp)
   have w4:=ae (((Y1.length:Int)+Y2.length)-X.length) (by omega)
   have c4:((Y1.length:Int)+Y2.length)-X.length=(Y1.length:Nat):=by omega
   rw[c4]at w4
   simp -dsimp[go_sem,hP,t0,t2,t4,t10,t11,c3,w3,w5,c6,w6]
   refine aI hsr hP Ik ?_
   rintro r H' rfl
   simp -dsimp[go_sem,hP,t10,t11,c4,w4]
   refine⟨X.length+Y1.length,by simp only[zK]at hm;omega,?_⟩
   rw[hI]
   refine⟨DL,Y2,Y1,X++DR,by omega,by omega,by omega,by rw[he];simp,by omega,t0,t2,t4,by simp -dsimp[-getElem?_pos,go_sem,t10,l1],rfl,?_⟩
   show s.H.set id _=_
   rw[hs',List.set_set]
   simp
 ·have heq:X.length=Y.length:=by
   have:(X.length:Int)=Y.length:=by simpa using h
   omega
  have w3:=ae ((m0:Int)-X.length) (by omega)
  have c3:(m0:Int)-X.length=(q:Nat):=by omega
  rw[c3]at w3
  have hsr:=oU (row:=E.row) (src:=E.src) enc lt g hc (P++DL) X [] Y (DR++S) s.H id q m0 X.length N rfl heq.symm hq (by rw[←hq,List.length_nil];omega) (by simp only[zK,List.length_nil];omega) hb9 (by rw[hid];simp)
  simp -dsimp[go_sem,hP,t0,t2,t4,t10,t11,c3,w3]
  refine aI hsr hP Ik ?_
  rintro r H' rfl
  simp -dsimp[go_sem,hP]
  rw[hC,hs',List.set_set]
  have:P++B++A++S=P++(B++A)++S:=by simp
  rw[this,he]
  simp
end
open Go.PA
open Go.RowKit
section
variable {α:Type} (enc:α→List AV) (lt:α→α→Bool) (g:FuncId)
theorem SOrd.irr {lt:α→α→Bool} (h:SOrd lt) (x:α):lt x x=false:=by
 cases hc:lt x x
 ·rfl
 ·rw[h.asym _ _ hc]at hc;cases hc
theorem tK {l:List α} {k:Nat} {y:α} (hy:y∈l.take (k+1)) {z:α} (hz:l[k]?=some z):y=z∨y∈l.take k:=by
 rw[wJ,hz]at hy
 rcases wA.1 hy with h|h
 ·exact .inr h
 ·simp at h;exact .inl h
theorem tP {lt:α→α→Bool} {l:List α} (hs:Srt lt l) {k:Nat} {y z:α} (hy:y∈l.take k) (hz:l[k]?=some z):lt z y=false:=by
 obtain⟨i,hi⟩:=wN hy
 have hik:i<k:=by have:=(gsI hi);rw[zY]at this;omega
 rw[vE,if_pos hik]at hi
 obtain⟨h1,e1⟩:=zM.1 hi
 obtain⟨h2,e2⟩:=zM.1 hz
 have:=vT.1 hs i k h1 h2 hik
 rw[e1,e2]at this
 exact this
theorem FG {lt:α→α→Bool} (ho:SOrd lt) {l:List α} (hs:Srt lt l) {k:Nat} {y z:α} (hy:y∈l.drop k) (hz:l[k]?=some z):lt y z=false:=by
 obtain⟨i,hi⟩:=wN hy
 rw[uG]at hi
 obtain⟨h1,e1⟩:=zM.1 hi
 obtain⟨h2,e2⟩:=zM.1 hz
 cases i with
 |zero=>rw[Nat.add_zero]at hi;rw[hi]at hz;cases hz;exact ho.irr _
 |succ i=>
  have:=vT.1 hs k (k+(i+1)) h2 h1 (by omega)
  rw[e1,e2]at this
  exact this
theorem Qn {l:List α} {k:Nat} {y:α} (h:l[k]?=some y):l.drop k=y::l.drop (k+1):=by
 obtain⟨h1,h2⟩:=zM.1 h
 rw[wE h1,h2]
theorem DU {l:List α} {k:Nat} {y:α} (h:l[k]?=some y):l.take (k+1)=l.take k++[y]:=by rw[wJ,h];rfl
theorem DG (l:List α) (k:Nat):(l.drop k).head?=l[k]?:=by rw[List.head?_drop]
theorem QM {row src:Option Nat} (hc:oB enc lt g) (ho:SOrd lt) (P:List α) (x:α) (B S:List α) (H:ah) (id a b N:Nat) (hB:1≤B.length) (sB:Srt lt B) (ha:a=P.length) (hb:b=a+1+B.length) (hT:N=(P++[x]++B++S).length) (hb9:N≤1000000000)
  (hH:H[id]?=some (flO enc (P++[x]++B++S))):
  MFun Tryz.prog row src 164 [.sref id 0 N,iv a,iv (a+1:Nat),iv b,.fn g []] H (fun _ H'=>H'=H.set id (flO enc (P++aP lt [x] B++S))):=by
 have hc':=hc
 obtain⟨hk,him,hen,hcmp⟩:=hc'
 refine aG Tryz.func164 rfl (by simp[Tryz.f164]) (by kernel_rfl) (⟨.tup [],_,rfl⟩) ?_
 intro E hP hr hs hN
 have hlt:id<H.length:=(gsI hH)
 obtain⟨C,hC⟩:∃C,C=fun (_:AV) H'=>H'=H.set id (flO enc (P++aP lt [x] B++S)):=⟨_,rfl⟩
 rw[←hC]
 simp only[zK,vN]at hT
 obtain⟨m0,hm0⟩:∃m0,m0=a+1:=⟨_,rfl⟩
 rw[←hm0]
 have c1:(m0:Int)-a=1:=by omega
 have w1:=ae 1 (by omega)
 simp -dsimp[go_sem,hP,c1,w1]
 obtain⟨cs,hcs⟩:∃cs,cs=P++[x]++B++S:=⟨_,rfl⟩
 rw[←hcs]at hH
 have ga:cs[a]?=some x:=by rw[hcs,show P++[x]++B++S=P++x::(B++S) by simp];exact o5 _ _ _ ha
 have gb:∀k y,B[k]?=some y→cs[m0+k]?=some y:=fun k y hy=>by
  have hk:=(gsI hy)
  rw[hcs,zD (by simp only[zK,vN];omega),zN (by simp only[zK,vN];omega)]
  rw[show m0+k-(P++[x]).length=k by rw[zK,vN];omega]
  exact hy
 obtain⟨I,hI⟩:∃I:Nat→St→Prop,I=fun m s=>∃i j:Nat,m0≤i∧i≤j∧j≤b∧m=j-i∧(∀y,y∈B.take (i-m0)→lt y x=true)∧(∀y,(B.drop (j-m0)).head?=some y→lt y x=false)∧s.t 0= .sref id 0 N∧s.t 1=iv a∧s.t 2=iv m0∧s.t 3=iv b∧s.t 4= .fn g []∧s.t 10=iv i∧s.t 11=iv j∧s.H=H:=⟨_,rfl⟩
 refine az I (B.length) (by rw[hN];rfl) ?_ ?_
 ·rw[hI]
  refine⟨m0,b,by omega,by omega,by omega,by omega,by simp,?_,rfl,rfl,rfl,rfl,rfl,rfl,rfl,rfl⟩
  rw[vH (by omega)]
  simp
 intro m s hs'
 rw[hI]at hs'
 obtain⟨i,j,h1,h2,h3,hm,hi,hj,t0,t1,t2,t3,t4,t10,t11,hs'⟩:=hs'
 simp -dsimp[go_sem,hP,t10,t11]
 refine aB ?_ ?_<;>intro h
 ·have hij:i<j:=by simpa using h
  have e1:=ae ((i:Int)+j) (by omega)
  have wu:IntKind.u64.wrap ((i:Int)+j)=(i:Int)+j:=by rw[IntKind.wrap_u64];omega
  obtain⟨h,hh⟩:∃h,h=(i+j) / 2:=⟨_,rfl⟩
  have wh:IntKind.i64.wrap (((i:Int)+j) / 2)=(h:Int):=by rw[ae _ (by omega)];omega
  obtain⟨y,hy⟩:∃y,B[h-m0]?=some y:=⟨_,zF (by omega)⟩
  have gh:cs[h]?=some y:=by have:=gb _ _ hy;rwa[show m0+(h-m0)=h by omega]at this
  have eh:=eWz enc gh
  have ea:=eWz enc ga
  have w2:=ae ((h:Int)+1) (by omega)
  have hN':h<N:=by omega
  have aN:a<N:=by omega
  have tk:∀z,(enc z).take 4=enc z:=fun z=>zQ (by rw[hk];omega)
  obtain⟨es,hes⟩:∃es,es=ao enc cs:=⟨_,rfl⟩
  rw[←hes]at eh ea
  have hid:s.H[id]?=some (some ⟨97,4,es⟩):=by rw[hs',hes];exact hH
  simp -dsimp[go_sem,hP,t10,t11,e1,wu,xz,pU,wh]
  refine aq (fun _=>true) [] hP (by kernel_rfl) (by kernel_rfl) ?_
  simp -dsimp[go_sem,hP,t0,t1,t4,hid,hN',aN,eh,ea,tk,hk]
  refine cn ((hcmp y x).lift _ _) hP hen (ak (by simp[go_sem];exact⟨fun c h=>(him y c h).1,fun c h=>(him x c h).1⟩)) ⟨iv (if lt y x then -1 else 0),_,rfl,by cases lt y x<;>simp⟩ (by rintro r ⟨c,rfl,_⟩;exact .sc) ?_
  rintro r ⟨c,rfl,hlt'⟩
  simp -dsimp[go_sem,hP,hlt']
  refine aB ?_ ?_<;>intro hl
  ·simp -dsimp[go_sem,hP,w2]
   refine⟨j-(h+1),by omega,?_⟩
   rw[hI]
   refine⟨h+1,j,by omega,by omega,h3,rfl,fun z hz=>?_,hj,t0,t1,t2,t3,t4,rfl,t11,hs'⟩
   rw[show h+1-m0=(h-m0)+1 by omega]at hz
   rcases tK hz hy with rfl|hz
   ·exact hl
   ·exact ho.le_lt_le (tP sB hz hy) hl (ho.irr x)
  ·simp -dsimp[go_sem,hP]
   refine⟨h-i,by omega,?_⟩
   rw[hI]
   refine⟨i,h,by omega,by omega,by omega,rfl,hi,fun z hz=>?_,t0,t1,t2,t3,t4,t10,rfl,hs'⟩
   rw[DG,hy]at hz
   cases hz
   exact hl
 ·have hij:i=j:=by
   have:¬i<j:=by simpa using h
   omega
  subst hij
  have hres:=Au x B (i-m0) (by omega) hi hj
  obtain⟨d,hd⟩:∃d,d=i-m0:=⟨_,rfl⟩
  rw[←hd]at hres
  have w3:=ae ((i:Int)-1) (by omega)
  have c3:(i:Int)-1=((a+d:Nat):Int):=by omega
  obtain⟨e,he⟩:∃e,e=a+d:=⟨_,rfl⟩
  rw[←he]at c3
  rw[c3]at w3
  simp -dsimp[go_sem,hP,t1]
  obtain⟨J,hJ⟩:∃I:Nat→St→Prop,I=fun m s=>∃k:Nat,k≤d∧m=d-k∧s.t 0= .sref id 0 N∧s.t 10=iv i∧s.t 13=iv (a+k:Nat)∧s.H=H.set id (flO enc (P++B.take k++x::B.drop k++S)):=⟨_,rfl⟩
  refine az J (d) (by rw[hN];rfl) ?_ ?_
  ·rw[hJ]
   refine⟨0,by omega,by omega,t0,t10,by simp -dsimp[-getElem?_pos,go_sem,t1],?_⟩
   show s.H=_
   rw[hs',List.take_zero,vW,wY,show P++x::B++S=cs by rw[hcs];simp]
   exact (jA hH).symm
  clear t0 t1 t2 t3 t4 t10 t11 hs'
  intro m s hs'
  rw[hJ]at hs'
  obtain⟨k,hkd,hm2,t0,t10,t13,hs'⟩:=hs'
  obtain⟨q,hq⟩:∃q,q=a+k:=⟨_,rfl⟩
  rw[←hq]at t13
  simp -dsimp[go_sem,hP,t13,t10,c3,w3]
  refine aB ?_ ?_<;>intro h
  ·have hke:q<e:=by simpa using h
   obtain⟨y,hy⟩:∃y,B[k]?=some y:=⟨_,zF (by omega)⟩
   have ed:B.drop k=y::B.drop (k+1):=Qn hy
   have et:B.take (k+1)=B.take k++[y]:=DU hy
   obtain⟨cs2,hcs2⟩:∃cs2,cs2=P++B.take k++x::B.drop k++S:=⟨_,rfl⟩
   rw[←hcs2]at hs'
   have ecs:cs2=(P++B.take k)++x::([]++y::(B.drop (k+1)++S)):=by rw[hcs2,ed];simp
   have lL:(P++B.take k).length=q:=by simp;omega
   have gi:cs2[q]?=some x:=by rw[ecs];exact o5 _ _ _ lL.symm
   have gj:cs2[q+1]?=some y:=by
    rw[ecs,show (P++B.take k)++x::([]++y::(B.drop (k+1)++S))=((P++B.take k)++[x])++y::(B.drop (k+1)++S) by simp]
    exact o5 _ _ _ (by rw[zK,lL];rfl)
   have sw:(cs2.set q y).set (q+1) x=P++B.take (k+1)++x::B.drop (k+1)++S:=by
    rw[ecs,P3 _ [] _ x y lL.symm (by rw[lL];rfl),et]
    simp
   obtain⟨q1,hq1⟩:∃q1,q1=q+1:=⟨_,rfl⟩
   rw[←hq1]at gj sw
   obtain⟨hHid,hlS,ei,ej,eij,eji,hset,tk,dk,cx,cy⟩:=rK enc hk him hs' hlt gi gj (by omega)
   have wq:=ae ((q:Int)+1) (by omega)
   have cq:(q:Int)+1=q1:=by omega
   rw[cq]at wq
   have di:q<N:=by omega
   have dj:q1<N:=by omega
   obtain⟨es,hes⟩:∃es,es=ao enc cs2:=⟨_,rfl⟩
   rw[←hes]at ei ej eij eji
   simp only[flO]at hHid
   rw[←hes]at hHid
   simp -dsimp[go_sem,hP]
   refine aq (fun _=>true) [15,17] hP (by kernel_rfl) (by kernel_rfl) ?_
   simp -dsimp[-getElem?_pos,go_sem,hP,t0,t13,cq,wq,hHid,hlS,ei,ej,eij,hset,tk,dk,cx,cy,di,dj,hk]
   refine⟨d-(k+1),by omega,?_⟩
   rw[hJ]
   refine⟨k+1,by omega,rfl,t0,t10,by rw[show a+(k+1)=q1 by omega];simp -dsimp[go_sem],?_⟩
   rw[←sw,flO,kl,kl,←hes]
   show s.H.set id _=_
   rw[hs',List.set_set]
  ·have hke:k=d:=by
    have:¬q<e:=by simpa using h
    omega
   subst hke
   simp -dsimp[go_sem,hP]
   rw[hC,hs',hres]
   simp
theorem MC {row src:Option Nat} (hc:oB enc lt g) (ho:SOrd lt) (P A:List α) (y:α) (S:List α) (H:ah) (id a m0 b N:Nat) (hA:2≤A.length) (sA:Srt lt A) (ha:a=P.length) (hm0:m0=a+A.length) (hb:b=m0+1) (hT:N=(P++A++[y]++S).length) (hb9:N≤1000000000)
  (hH:H[id]?=some (flO enc (P++A++[y]++S))):
  MFun Tryz.prog row src 164 [.sref id 0 N,iv a,iv m0,iv b,.fn g []] H (fun _ H'=>H'=H.set id (flO enc (P++aP lt A [y]++S))):=by
 have hc':=hc
 obtain⟨hk,him,hen,hcmp⟩:=hc'
 refine aG Tryz.func164 rfl (by simp[Tryz.f164]) (by kernel_rfl) (⟨.tup [],_,rfl⟩) ?_
 intro E hP hr hs hN
 have hlt:id<H.length:=(gsI hH)
 obtain⟨C,hC⟩:∃C,C=fun (_:AV) H'=>H'=H.set id (flO enc (P++aP lt A [y]++S)):=⟨_,rfl⟩
 rw[←hC]
 simp only[zK,vN]at hT
 have c1:(m0:Int)-a=A.length:=by omega
 have w1:=ae ((A.length:Nat):Int) (by omega)
 have d1:decide (((A.length:Nat):Int)=1)=false:=zA (by omega)
 have c2:(b:Int)-m0=1:=by omega
 have w2:=ae 1 (by omega)
 simp -dsimp[go_sem,hP,c1,w1,d1,c2,w2]
 obtain⟨cs,hcs⟩:∃cs,cs=P++A++[y]++S:=⟨_,rfl⟩
 rw[←hcs]at hH
 have gm:cs[m0]?=some y:=by rw[hcs,show P++A++[y]++S=(P++A)++y::S by simp];exact o5 _ _ _ (by rw[zK];omega)
 have gb:∀k x,A[k]?=some x→cs[a+k]?=some x:=fun k x hx=>by
  have hk:=(gsI hx)
  rw[hcs,vJ,zD (by simp only[zK];omega),zN (by omega),←ha,Nat.add_sub_cancel_left]
  exact hx
 obtain⟨I,hI⟩:∃I:Nat→St→Prop,I=fun m s=>∃i j:Nat,a≤i∧i≤j∧j≤m0∧m=j-i∧(∀x,x∈A.take (i-a)→lt y x=false)∧(∀x,(A.drop (j-a)).head?=some x→lt y x=true)∧s.t 0= .sref id 0 N∧s.t 1=iv a∧s.t 2=iv m0∧s.t 3=iv b∧s.t 4= .fn g []∧s.t 14=iv i∧s.t 15=iv j∧s.H=H:=⟨_,rfl⟩
 refine az I (A.length) (by rw[hN];rfl) ?_ ?_
 ·rw[hI]
  refine⟨a,m0,by omega,by omega,by omega,by omega,by simp,?_,rfl,rfl,rfl,rfl,rfl,rfl,rfl,rfl⟩
  rw[vH (by omega)]
  simp
 intro m s hs'
 rw[hI]at hs'
 obtain⟨i,j,h1,h2,h3,hm,hi,hj,t0,t1,t2,t3,t4,t14,t15,hs'⟩:=hs'
 simp -dsimp[go_sem,hP,t14,t15]
 refine aB ?_ ?_<;>intro h
 ·have hij:i<j:=by simpa using h
  have e1:=ae ((i:Int)+j) (by omega)
  have wu:IntKind.u64.wrap ((i:Int)+j)=(i:Int)+j:=by rw[IntKind.wrap_u64];omega
  obtain⟨h,hh⟩:∃h,h=(i+j) / 2:=⟨_,rfl⟩
  have wh:IntKind.i64.wrap (((i:Int)+j) / 2)=(h:Int):=by rw[ae _ (by omega)];omega
  obtain⟨x,hx⟩:∃x,A[h-a]?=some x:=⟨_,zF (by omega)⟩
  have gh:cs[h]?=some x:=by have:=gb _ _ hx;rwa[show a+(h-a)=h by omega]at this
  have eh:=eWz enc gh
  have ea:=eWz enc gm
  have w3:=ae ((h:Int)+1) (by omega)
  have hN':h<N:=by omega
  have mN:m0<N:=by omega
  have tk:∀z,(enc z).take 4=enc z:=fun z=>zQ (by rw[hk];omega)
  obtain⟨es,hes⟩:∃es,es=ao enc cs:=⟨_,rfl⟩
  rw[←hes]at eh ea
  have hid:s.H[id]?=some (some ⟨97,4,es⟩):=by rw[hs',hes];exact hH
  simp -dsimp[go_sem,hP,t14,t15,e1,wu,xz,pU,wh]
  refine aq (fun _=>true) [] hP (by kernel_rfl) (by kernel_rfl) ?_
  simp -dsimp[go_sem,hP,t0,t2,t4,hid,hN',mN,eh,ea,tk,hk]
  refine cn ((hcmp y x).lift _ _) hP hen (ak (by simp[go_sem];exact⟨fun c h=>(him y c h).1,fun c h=>(him x c h).1⟩)) ⟨iv (if lt y x then -1 else 0),_,rfl,by cases lt y x<;>simp⟩ (by rintro r ⟨c,rfl,_⟩;exact .sc) ?_
  rintro r ⟨c,rfl,hlt'⟩
  simp -dsimp[go_sem,hP,hlt']
  refine aB ?_ ?_<;>intro hl
  ·simp -dsimp[go_sem,hP]
   refine⟨h-i,by omega,?_⟩
   rw[hI]
   refine⟨i,h,by omega,by omega,by omega,rfl,hi,fun z hz=>?_,t0,t1,t2,t3,t4,t14,rfl,hs'⟩
   rw[DG,hx]at hz
   cases hz
   exact hl
  ·simp -dsimp[go_sem,hP,w3]
   refine⟨j-(h+1),by omega,?_⟩
   rw[hI]
   refine⟨h+1,j,by omega,by omega,h3,rfl,fun z hz=>?_,hj,t0,t1,t2,t3,t4,rfl,t15,hs'⟩
   rw[show h+1-a=(h-a)+1 by omega]at hz
   rcases tK hz hx with rfl|hz
   ·exact hl
   ·exact ho.tr _ _ _ hl (tP sA hz hx)
 ·have hij:i=j:=by
   have:¬i<j:=by simpa using h
   omega
  subst hij
  have hres:=xy y A (i-a) (by omega) hi hj
  obtain⟨d,hd⟩:∃d,d=i-a:=⟨_,rfl⟩
  rw[←hd]at hres
  simp -dsimp[go_sem,hP,t2]
  obtain⟨J,hJ⟩:∃I:Nat→St→Prop,I=fun m s=>∃k:Nat,d≤k∧k≤A.length∧m=k∧s.t 0= .sref id 0 N∧s.t 14=iv i∧s.t 17=iv (a+k:Nat)∧s.H=H.set id (flO enc (P++A.take k++y::A.drop k++S)):=⟨_,rfl⟩
  refine az J (A.length) (by rw[hN];rfl) ?_ ?_
  ·rw[hJ]
   refine⟨A.length,by omega,by omega,rfl,t0,t14,by rw[←hm0];simp -dsimp[go_sem,t2],?_⟩
   show s.H=_
   rw[hs',zT,wG,show P++A++[y]++S=cs by rw[hcs]]
   exact (jA hH).symm
  clear t0 t1 t2 t3 t4 t14 t15 hs'
  intro m s hs'
  rw[hJ]at hs'
  obtain⟨k,hdk,hkA,hm2,t0,t14,t17,hs'⟩:=hs'
  obtain⟨q,hq⟩:∃q,q=a+k:=⟨_,rfl⟩
  rw[←hq]at t17
  simp -dsimp[go_sem,hP,t17,t14]
  refine aB ?_ ?_<;>intro h
  ·have hke:i<q:=by simpa using h
   obtain⟨k',rfl⟩:∃k',k=k'+1:=⟨k-1,by omega⟩
   obtain⟨z,hz⟩:∃z,A[k']?=some z:=⟨_,zF (by omega)⟩
   have ed:A.drop k'=z::A.drop (k'+1):=Qn hz
   have et:A.take (k'+1)=A.take k'++[z]:=DU hz
   obtain⟨cs2,hcs2⟩:∃cs2,cs2=P++A.take (k'+1)++y::A.drop (k'+1)++S:=⟨_,rfl⟩
   rw[←hcs2]at hs'
   have ecs:cs2=(P++A.take k')++z::([]++y::(A.drop (k'+1)++S)):=by rw[hcs2,et];simp
   obtain⟨q0,hq0⟩:∃q0,q0=a+k':=⟨_,rfl⟩
   have lL:(P++A.take k').length=q0:=by rw[zK,zY];omega
   have gi:cs2[q0]?=some z:=by rw[ecs];exact o5 _ _ _ lL.symm
   have gj:cs2[q]?=some y:=by
    rw[ecs,show (P++A.take k')++z::([]++y::(A.drop (k'+1)++S))=((P++A.take k')++[z])++y::(A.drop (k'+1)++S) by simp]
    exact o5 _ _ _ (by rw[zK,lL,vN];omega)
   have sw:(cs2.set q z).set q0 y=P++A.take k'++y::A.drop k'++S:=by
    rw[List.set_comm _ _ (by omega),ecs,P3 _ [] _ z y lL.symm (by rw[lL,List.length_nil];omega),ed]
    simp
   obtain⟨hHid,hlS,ei,ej,eij,eji,hset,tk,dk,cx,cy⟩:=rK enc hk him hs' hlt gi gj (by omega)
   have wq:=ae ((q:Int)-1) (by omega)
   have cq:(q:Int)-1=q0:=by omega
   rw[cq]at wq
   have di:q<N:=by omega
   have dj:q0<N:=by omega
   obtain⟨es,hes⟩:∃es,es=ao enc cs2:=⟨_,rfl⟩
   rw[←hes]at ei ej eij eji
   simp only[flO]at hHid
   rw[←hes]at hHid
   simp -dsimp[go_sem,hP]
   refine aq (fun _=>true) [15,17] hP (by kernel_rfl) (by kernel_rfl) ?_
   simp -dsimp[-getElem?_pos,go_sem,hP,t0,t17,cq,wq,hHid,hlS,ei,ej,eji,hset,tk,dk,cx,cy,di,dj,hk]
   refine⟨k',by omega,?_⟩
   rw[hJ]
   refine⟨k',by omega,by omega,rfl,t0,t14,by rw[←hq0];simp -dsimp[go_sem],?_⟩
   rw[←sw,flO,kl,kl,←hes]
   show s.H.set id _=_
   rw[hs',List.set_set]
  ·have hke:k=d:=by
    have:¬i<q:=by simpa using h
    omega
   subst hke
   simp -dsimp[go_sem,hP]
   rw[hC,hs',hres]
   simp
end
end Go.Proofs.YtfbogibogkbhmaaGreatDoor
namespace Go.PA
open Go.RowKit
section
variable {E:Env}
theorem J7 {w:World} {ρ:aW} {H:ah} {ok:Nat→Prop} (X:Nat→Prop) (g:Good E w ρ H ok) {v:Value} {id i j:Nat} {cs:List AV} (hra:Rep w ρ H ok v (.ref id i j)) (has:aO H (.ref id i j)=some cs) (him:∀c,c∈cs→Imm c) (hX:X id):jY w (okX X ρ H ok) v (.iref cs):=by
 obtain⟨o,b,cap,ho,hρ,hcap,rfl⟩:=nw hra has
 obtain⟨ad,he,f',hf⟩:=kz g hra has
 simp only[Value.pointer.injEq,zB]at he
 subst he
 exact .iref f' (.inr ⟨id,o,cap,hX,ho,hρ⟩) (fun j a hj=>(hf j a hj).1) (fun j a hj=>(hf j a hj).2.1) (fun j a hj=>(hf j a hj).2.2.imm (fun _ h=> .inl h) (him a (zE hj)))
theorem E7 {s:St} (j:Nat) {id:Nat} {cs:List AV} (hW:∀b,¬E.W b) (ht:s.t j= .ref id 0 0) (has:aO s.H (.ref id 0 0)=some cs) (him:∀c,c∈cs→Imm c):Weaker E s ⟨upd s.t j (.iref cs),s.H.set id none⟩:=by
 rintro a w ⟨ρ,ok,g,hx,hd,hs,hr⟩
 obtain⟨ok',g1,x1,hok⟩:=g.freeze [id] hW
 refine⟨ρ,ok',g1,hx.trans x1,hd,hs,fun i=>?_⟩
 simp only[upd]
 split
 ·rename_i hi
  have hri:=hr i
  rw[hi,ht]at hri
  rw[hi]
  exact Rep.imm (J7 (·∈[id]) g hri has him (by simp)) hok (cY.2 him)
 ·exact (hr i).ext x1
theorem AO {s:St} {o id ty k ty' kk n r c:Nat} {es fs:List (List AV)} {e:List AV} (hW:∀b,¬E.W b) (ho:s.H[o]?=some (some ⟨ty,k,es⟩)) (hk:k≠2) (he:es[r]?=some e) (hc:e[c]?=some (.sref id 0 n))
  (hid:s.H[id]?=some (some ⟨ty',kk,fs⟩)) (hn:n=fs.length) (hi:Imm (.list kk fs)) (hne:o≠id):Weaker E s ⟨s.t,(s.H.set id none).set o (some ⟨ty,k,es.set r (e.set c (.list kk fs))⟩)⟩:=by
 rintro a w ⟨ρ,ok,g,hx,hd,hs,hr⟩
 obtain⟨ok',g1,x1,hok⟩:=g.freeze [id] hW
 have g1:Good E w ρ (s.H.set id none) ok':=g1
 have x1:Ext w ρ s.H ok w ρ (s.H.set id none) ok':=x1
 have ho1:(s.H.set id none)[o]?=some (some ⟨ty,k,es⟩):=by rw[zH (Ne.symm hne)];exact ho
 have hobj:=g.obj o _ ho
 have hlen:=g.len o _ ho
 have hmem:=zE he
 have hv:dB s.H (.sref id 0 n)= .list kk fs:=by
  simp only[dB,hid,vW]
  rw[hn,zT]
 cases hρ:ρ o with
 |none=>
  rw[hρ]at hobj
  have:es=[]:=hobj
  rw[this]at he
  cases he
 |some bc=>
  obtain⟨b,cap⟩:=bc
  rw[hρ]at hobj
  rcases hobj with⟨cur,h1,h2,h3,h4,h5⟩|⟨_,hk',_⟩|⟨_,hk',hit⟩
  ·obtain⟨g',x'⟩:=g1.change (w':=w) ho1 hρ ⟨ty,k,es.set r (e.set c (.list kk fs))⟩ rfl (by simp) (fun e' he'=>by
    rcases List.mem_or_eq_of_mem_set he' with he'|rfl
    ·exact hlen e' he'
    ·rw[wX];exact hlen e hmem) rfl rfl rfl rfl (fun _ _=>rfl) fun hx'=> .inl ⟨cur,h1,h2,by simpa using h3,h4,fun i e' j a' hie hja=>by
     by_cases hir:i=r
     ·subst hir
      have hil:=(gsI he)
      rw[wK hil,zB]at hie
      subst hie
      by_cases hjc:j=c
      ·subst hjc
       have hjl:=(gsI hc)
       rw[wK hjl,zB]at hja
       subst hja
       obtain⟨v,v1,v2,v3⟩:=h5 i e j _ he hc
       refine⟨v,v1,v2,?_⟩
       have hri:=kf (·∈[id]) g v3 (by rw[hv];exact hi) (by simp[mA])
       rw[hv]at hri
       exact (Rep.imm hri hok hi).ext hx'
      ·rw[zH (Ne.symm hjc)]at hja
       obtain⟨v,v1,v2,v3⟩:=h5 i e j _ he hja
       exact⟨v,v1,v2,(v3.ext x1).ext hx'⟩
     ·rw[zH (Ne.symm hir)]at hie
      obtain⟨v,v1,v2,v3⟩:=h5 i e' j _ hie hja
      exact⟨v,v1,v2,(v3.ext x1).ext hx'⟩⟩
   exact⟨ρ,ok',g',hx.trans (x1.trans x'),hd,hs,fun i=>((hr i).ext x1).ext x'⟩
  ·exact absurd hk' hk
  ·exfalso
   rcases hit with⟨hes,_⟩|⟨m,clk,seen,ents,c1,c2,_,_,_,_,hes,hcc⟩
   ·have hes:es=[[.junk,.junk,.imap []]]:=hes
    subst hes
    have:e=[.junk,.junk,.imap []]:=by
     rcases r with _|r
     ·simpa using he.symm
     ·simp at he
    subst this
    rcases c with _|_|_|c<;>simp at hc
   ·have hes:es=[[c1,c2,.imap ((ents.toList.filter fun e=>!seen.contains e.born).map fun e=>(e.key,e.val))]]:=hes
    subst hes
    have:e=[c1,c2,.imap ((ents.toList.filter fun e=>!seen.contains e.born).map fun e=>(e.key,e.val))]:=by
     rcases r with _|r
     ·simpa using he.symm
     ·simp at he
    subst this
    rcases hcc with⟨rfl,rfl⟩|⟨x,_,_,rfl,rfl⟩<;>rcases c with _|_|_|c<;>simp at hc
def Wa (E:Env) (Inv:St→Prop) (s:St):Prop:=∃s',Weaker E s s'∧Inv s'
theorem Weaker.refl (s:St):Weaker E s s:=fun _ _ h=>h
theorem eN {a b:Code} {s:St} {Q:Exit→St→Prop} (Inv:St→Prop) (hc:gD E.N a=true) (h:awp E a s (xI (fun s'=>Wa E Inv s') Q)) (hk:∀s',Inv s'→AWp E b s' Q):AWp E (.seq a b) s Q:=by
 intro x w r
 refine wp_seq (wp_mono (be a s _ hc h x w r) fun e a' w' h'=>?_)
 obtain⟨s',h1,h2⟩:=h'
 cases e with
 |normal=>
  obtain⟨s2,k1,k2⟩:=h1
  exact hk s2 k2 a' w' (k1 a' w' h2)
 |_=>exact⟨s',h1,h2⟩
end
end Go.PA
namespace Go.Proofs.YtfbogibogkbhmaaGreatDoor
open Go.PA
open Go.RowKit
section
variable {α:Type} (enc:α→List AV) (lt:α→α→Bool) (g:FuncId)
theorem T2 {lt:α→α→Bool} (ho:SOrd lt) {A B:List α} (sA:Srt lt A) (sB:Srt lt B) {i j:Nat} (hi:i≤A.length) (hj:j≤B.length)
  (h1:i=0∨j=B.length∨∃x y,A[i-1]?=some x∧B[j]?=some y∧lt y x=false) (h2:i=A.length∨j=0∨∃x y,A[i]?=some x∧B[j-1]?=some y∧lt y x=true):
  aP lt A B=aP lt (A.take i) (B.take j)++aP lt (A.drop i) (B.drop j):=by
 have:=iH ho (A1:=A.take i) (A2:=A.drop i) (B1:=B.take j) (B2:=B.drop j) ?_ ?_
 ·rw[←this,vV,vV]
 ·intro x hx y hy
  rcases h2 with h2|h2|⟨a,b,ha,hb,hab⟩
  ·rw[vH (by omega)]at hx;simp at hx
  ·rw[h2]at hy;simp at hy
  ·have hj1:j=(j-1)+1:=by
    rcases wR j with h|h
    ·rw[h]at hy;simp at hy
    ·omega
   rw[hj1]at hy
   have hby:lt b y=false:=by
    rcases tK hy hb with rfl|hy
    ·exact ho.irr _
    ·exact tP sB hy hb
   exact ho.le_lt_le hby hab (FG ho sA hx ha)
 ·intro x hx y hy
  rcases h1 with h1|h1|⟨a,b,ha,hb,hab⟩
  ·rw[h1]at hx;simp at hx
  ·rw[vH (by omega)]at hy;simp at hy
  ·have hi1:i=(i-1)+1:=by
    rcases wR i with h|h
    ·rw[h]at hx;simp at hx
    ·omega
   rw[hi1]at hx
   have hax:lt a x=false:=by
    rcases tK hx ha with rfl|hx
    ·exact ho.irr _
    ·exact tP sA hx ha
   exact ho.tr _ _ _ (FG ho sB hy hb) (ho.tr _ _ _ hab hax)
def OE (f:Nat):Prop:=∀(row src:Option Nat) (P A B S:List α) (H:ah) (id a m0 b N:Nat),A.length+B.length≤f→1≤A.length→1≤B.length→Srt lt A→Srt lt B→a=P.length→m0=a+A.length→b=m0+B.length→N=(P++A++B++S).length→N≤1000000000→
  H[id]?=some (flO enc (P++A++B++S))→
  MFun Tryz.prog row src 164 [.sref id 0 N,iv a,iv m0,iv b,.fn g []] H (fun _ H'=>H'=H.set id (flO enc (P++aP lt A B++S)))
set_option maxHeartbeats 8000000 in
theorem SS (hc:oB enc lt g) (ho:SOrd lt) (f:Nat) (ih:OE enc lt g f):OE enc lt g (f+1):=by
 intro row src P A B S H id a m0 b N hf hA hB sA sB ha hm0 hb hT hb9 hH
 by_cases hA1:A.length=1
 ·obtain⟨x,rfl⟩:=List.length_eq_one_iff.1 hA1
  rw[hm0]
  exact QM enc lt g hc ho P x B S H id a b N hB sB ha (by rw[hb,hm0];simp) hT hb9 hH
 by_cases hB1:B.length=1
 ·obtain⟨y,rfl⟩:=List.length_eq_one_iff.1 hB1
  exact MC enc lt g hc ho P A y S H id a m0 b N (by omega) sA ha hm0 (by rw[hb];simp) hT hb9 hH
 have hc':=hc
 obtain⟨hk,him,hen,hcmp⟩:=hc'
 refine o6 Tryz.func164 rfl (by simp[Tryz.f164]) ⟨.tup [],_,rfl⟩ ?_
 intro E hP hr hs hN
 have hlt:id<H.length:=(gsI hH)
 obtain⟨C,hC⟩:∃C,C=fun (_:AV) H'=>H'=H.set id (flO enc (P++aP lt A B++S)):=⟨_,rfl⟩
 rw[←hC]
 simp only[zK]at hT
 have c1:(m0:Int)-a=A.length:=by omega
 have w1:=ae ((A.length:Nat):Int) (by omega)
 have d1:decide (((A.length:Nat):Int)=1)=false:=zA (by omega)
 have c2:(b:Int)-m0=B.length:=by omega
 have w2:=ae ((B.length:Nat):Int) (by omega)
 have d2:decide (((B.length:Nat):Int)=1)=false:=zA (by omega)
 have e1:=ae ((a:Int)+b) (by omega)
 have wu:IntKind.u64.wrap ((a:Int)+b)=(a:Int)+b:=by rw[IntKind.wrap_u64];omega
 obtain⟨mid,hmid⟩:∃mid,mid=(a+b) / 2:=⟨_,rfl⟩
 have wh:IntKind.i64.wrap (((a:Int)+b) / 2)=(mid:Int):=by rw[ae _ (by omega)];omega
 obtain⟨n,hn⟩:∃n,n=mid+m0:=⟨_,rfl⟩
 have wn:IntKind.i64.wrap ((mid:Int)+m0)=(n:Int):=by rw[ae _ (by omega)];omega
 obtain⟨s0,r0,hs0,hmr⟩:∃s0 r0:Nat,s0≤r0∧((mid<m0∧s0=n-b∧r0=mid)∨(m0≤mid∧s0=a∧r0=m0)):=by
  by_cases h:mid<m0
  ·exact⟨n-b,mid,by omega,.inl ⟨h,rfl,rfl⟩⟩
  ·exact⟨a,m0,by omega,.inr ⟨by omega,rfl,rfl⟩⟩
 have as0:a≤s0∧r0≤m0∧r0≤mid∧n≤b+s0:=by omega
 have hmd:a<mid∧mid<b:=by omega
 have hnb:mid<m0→b≤n:=by omega
 have HN:=Lib.hid hnb
 clear hnb
 have HM:=Lib.hid hmr
 have HD:=Lib.hid hmid
 clear hmr hmid
 refine aM (by rw[hN];kernel_rfl) ?_
 simp -dsimp -implicitDefEqProofs [go_sem,hP,c1,w1,d1]
 refine aM (by rw[hN];kernel_rfl) ?_
 simp -dsimp -implicitDefEqProofs [go_sem,hP,c2,w2,d2]
 refine aM (by rw[hN];kernel_rfl) ?_
 simp -dsimp -implicitDefEqProofs [go_sem,hP,e1,wu,xz,pU,wh]
 refine aM (by rw[hN];kernel_rfl) ?_
 simp -dsimp -implicitDefEqProofs [go_sem,hP,wn]
 refine aM (by rw[hN];kernel_rfl) ?_
 simp -dsimp -implicitDefEqProofs [go_sem,hP]
 obtain⟨Inv,hInv⟩:∃Inv:St→Prop,Inv=fun s=>s.t 0= .sref id 0 N∧s.t 1=iv a∧s.t 2=iv m0∧s.t 3=iv b∧s.t 4= .fn g []∧s.t 18=iv mid∧s.t 19=iv n∧s.t 20=iv s0∧s.t 21=iv r0∧s.H=H:=⟨_,rfl⟩
 refine eN Inv (by rw[hN];kernel_rfl) ?_ ?_
 ·rcases HM.out with⟨h1,h2,h3⟩|⟨h1,h2,h3⟩
  ·have hnb:=HN.out h1
   have d3:decide (mid<m0)=true:=zC h1
   have w3:IntKind.i64.wrap ((n:Int)-b)=(s0:Int):=by rw[ae _ (by omega)];omega
   simp -dsimp -implicitDefEqProofs [go_sem,hP,d3,w3]
   refine⟨_,Weaker.refl _,?_⟩
   rw[hInv]
   exact⟨rfl,rfl,rfl,rfl,rfl,rfl,rfl,rfl,by simp -dsimp[-getElem?_pos,go_sem,h3],rfl⟩
  ·have d3:decide (mid<m0)=false:=zA (by omega)
   simp -dsimp -implicitDefEqProofs [go_sem,hP,d3]
   refine⟨_,Weaker.refl _,?_⟩
   rw[hInv]
   exact⟨rfl,rfl,rfl,rfl,rfl,rfl,rfl,by simp -dsimp[-getElem?_pos,go_sem,h2],by simp -dsimp[-getElem?_pos,go_sem,h3],rfl⟩
 intro s hs'
 rw[hInv]at hs'
 obtain⟨t0,t1,t2,t3,t4,t18,t19,t20,t21,hHs⟩:=hs'
 obtain⟨p,hp⟩:∃p,p=n-1:=⟨_,rfl⟩
 have wp:IntKind.i64.wrap ((n:Int)-1)=(p:Int):=by rw[ae _ (by omega)];omega
 refine aM (by rw[hN];kernel_rfl) ?_
 simp -dsimp -implicitDefEqProofs [go_sem,hP,t19,wp]
 refine aM (by rw[hN];kernel_rfl) ?_
 simp -dsimp -implicitDefEqProofs [go_sem,hP]
 obtain⟨cs,hcs⟩:∃cs,cs=P++A++B++S:=⟨_,rfl⟩
 have hH0:=hH
 rw[←hcs]at hH
 have gA:∀c x,a≤c→A[c-a]?=some x→cs[c]?=some x:=fun c x hc hx=>by
  have hk:=(gsI hx)
  rw[hcs,vJ,zD (by simp only[zK];omega),zN (by omega),←ha]
  exact hx
 have gB:∀c y,m0≤c→B[c-m0]?=some y→cs[c]?=some y:=fun c y hc hy=>by
  have hk:=(gsI hy)
  rw[hcs,zD (by simp only[zK];omega),zN (by simp only[zK];omega),show c-(P++A).length=c-m0 by rw[zK];omega]
  exact hy
 obtain⟨J,hJ⟩:∃I:Nat→St→Prop,I=fun m s=>∃u v:Nat,s0≤u∧u≤v∧v≤r0∧m=v-u∧(u=s0∨∃x y,A[u-1-a]?=some x∧B[n-u-m0]?=some y∧lt y x=false)∧(v=r0∨∃x y,A[v-a]?=some x∧B[n-v-1-m0]?=some y∧lt y x=true)∧s.t 0= .sref id 0 N∧s.t 1=iv a∧s.t 2=iv m0∧s.t 3=iv b∧s.t 4= .fn g []∧s.t 18=iv mid∧s.t 19=iv n∧s.t 20=iv u∧s.t 21=iv v∧s.t 22=iv p∧s.H=H:=⟨_,rfl⟩
 refine az J (r0-s0) (by rw[hN];rfl) ?_ ?_
 ·rw[hJ]
  exact⟨s0,r0,by omega,hs0,by omega,rfl,.inl rfl,.inl rfl,t0,t1,t2,t3,t4,t18,t19,t20,t21,rfl,hHs⟩
 clear t0 t1 t2 t3 t4 t18 t19 t20 t21 hHs
 intro m s hs'
 rw[hJ]at hs'
 obtain⟨u,v,hu0,huv,hvr,hm,hlo,hhi,t0,t1,t2,t3,t4,t18,t19,t20,t21,t22,hs'⟩:=hs'
 simp -dsimp -implicitDefEqProofs [go_sem,hP,t20,t21]
 refine aB ?_ ?_<;>intro h
 ·have huv:u<v:=by simpa using h
  have e1:=ae ((u:Int)+v) (by omega)
  have wu:IntKind.u64.wrap ((u:Int)+v)=(u:Int)+v:=by rw[IntKind.wrap_u64];omega
  obtain⟨c,wh,hcu,hcv⟩:∃c:Nat,IntKind.i64.wrap (((u:Int)+v) / 2)=(c:Int)∧u≤c∧c<v:=by
   clear HM HD hhi hlo
   exact⟨(u+v) / 2,by rw[ae _ (by omega)];omega,by omega,by omega⟩
  have cA:c-a<A.length:=by omega
  obtain⟨q,hq⟩:∃q,q=p-c:=⟨_,rfl⟩
  have qB:m0≤q∧q-m0<B.length:=by omega
  obtain⟨x,hx⟩:∃x,A[c-a]?=some x:=⟨_,zF cA⟩
  obtain⟨y,hy⟩:∃y,B[q-m0]?=some y:=⟨_,zF qB.2⟩
  have ex:=eWz enc (gA c x (by omega) hx)
  have ey:=eWz enc (gB q y qB.1 hy)
  have wq:IntKind.i64.wrap ((p:Int)-c)=(q:Int):=by rw[ae _ (by omega)];omega
  have w3:=ae ((c:Int)+1) (by omega)
  have qN:q<N:=by omega
  have cN:c<N:=by omega
  have tk:∀z,(enc z).take 4=enc z:=fun z=>zQ (by rw[hk];omega)
  obtain⟨es,hes⟩:∃es,es=ao enc cs:=⟨_,rfl⟩
  rw[←hes]at ex ey
  have hid:s.H[id]?=some (some ⟨97,4,es⟩):=by rw[hs',hes];exact hH
  simp -dsimp -implicitDefEqProofs [go_sem,hP,t20,t21,e1,wu,xz,pU,wh]
  refine aq (fun _=>true) [] hP (by kernel_rfl) (by kernel_rfl) ?_
  simp -dsimp -implicitDefEqProofs [go_sem,hP,t0,t22,t4,wq,hid,qN,cN,ex,ey,tk,hk]
  refine cn ((hcmp y x).lift _ _) hP hen (ak (by simp[go_sem];exact⟨fun c h=>(him y c h).1,fun c h=>(him x c h).1⟩)) ⟨iv (if lt y x then -1 else 0),_,rfl,by cases lt y x<;>simp⟩ (by rintro r ⟨c,rfl,_⟩;exact .sc) ?_
  rintro r ⟨z,rfl,hlt'⟩
  simp -dsimp -implicitDefEqProofs [go_sem,hP,hlt']
  refine aB ?_ ?_<;>intro hl
  ·simp -dsimp -implicitDefEqProofs [go_sem,hP]
   refine⟨c-u,by omega,?_⟩
   rw[hJ]
   refine⟨u,c,hu0,by omega,by omega,rfl,hlo,.inr ⟨x,y,hx,by rw[show n-c-1-m0=q-m0 by omega];exact hy,hl⟩,t0,t1,t2,t3,t4,t18,t19,t20,rfl,t22,hs'⟩
  ·simp -dsimp -implicitDefEqProofs [go_sem,hP,w3]
   refine⟨v-(c+1),by omega,?_⟩
   rw[hJ]
   refine⟨c+1,v,by omega,by omega,hvr,rfl,.inr ⟨x,y,by rw[show c+1-1-a=c-a by omega];exact hx,by rw[show n-(c+1)-m0=q-m0 by omega];exact hy,hl⟩,hhi,t0,t1,t2,t3,t4,t18,t19,rfl,t21,t22,hs'⟩
 have huv':u=v:=by
  have:¬u<v:=by simpa using h
  omega
 subst huv'
 obtain⟨e,he⟩:∃e,e=n-u:=⟨_,rfl⟩
 have we:IntKind.i64.wrap ((n:Int)-u)=(e:Int):=by rw[ae _ (by omega)];omega
 obtain⟨i,hi⟩:∃i,i=u-a:=⟨_,rfl⟩
 obtain⟨j,hj⟩:∃j,j=e-m0:=⟨_,rfl⟩
 have hres:=T2 ho sA sB (i:=i) (j:=j) (by omega) (by omega) (by
  rcases hlo with h|⟨x,y,h1,h2,h3⟩
  ·rcases HM.out with⟨h0,h',_⟩|⟨_,h',_⟩
   ·have hnb:=HN.out h0
    exact .inr (.inl (by omega))
   ·exact .inl (by omega)
  ·exact .inr (.inr ⟨x,y,by rw[show i-1=u-1-a by omega];exact h1,by rw[show j=n-u-m0 by omega];exact h2,h3⟩)) (by
  rcases hhi with h|⟨x,y,h1,h2,h3⟩
  ·rcases HM.out with⟨_,_,h'⟩|⟨_,_,h'⟩
   ·exact .inr (.inl (by omega))
   ·exact .inl (by omega)
  ·exact .inr (.inr ⟨x,y,by rw[hi];exact h1,by rw[show j-1=n-u-1-m0 by omega];exact h2,h3⟩))
 obtain⟨A1,hA1'⟩:∃A1,A1=A.take i:=⟨_,rfl⟩
 obtain⟨A2,hA2'⟩:∃A2,A2=A.drop i:=⟨_,rfl⟩
 obtain⟨B1,hB1'⟩:∃B1,B1=B.take j:=⟨_,rfl⟩
 obtain⟨B2,hB2'⟩:∃B2,B2=B.drop j:=⟨_,rfl⟩
 have lA1:A1.length=i:=by rw[hA1',zY];omega
 have lA2:A2.length=A.length-i:=by rw[hA2',wP]
 have lB1:B1.length=j:=by rw[hB1',zY];omega
 have lB2:B2.length=B.length-j:=by rw[hB2',wP]
 have sA1:Srt lt A1:=by rw[hA1'];exact sA.sublist (List.take_sublist _ _)
 have sA2:Srt lt A2:=by rw[hA2'];exact sA.sublist (List.drop_sublist _ _)
 have sB1:Srt lt B1:=by rw[hB1'];exact sB.sublist (List.take_sublist _ _)
 have sB2:Srt lt B2:=by rw[hB2'];exact sB.sublist (List.drop_sublist _ _)
 have eA:A=A1++A2:=by rw[hA1',hA2',vV]
 have eB:B=B1++B2:=by rw[hB1',hB2',vV]
 rw[←hA1',←hA2',←hB1',←hB2']at hres
 simp -dsimp -implicitDefEqProofs [go_sem,hP]
 refine aM (by rw[hN];kernel_rfl) ?_
 simp -dsimp -implicitDefEqProofs [go_sem,hP,t19,t20,we]
 have lens:a+i=u∧u≤m0∧u≤mid∧e=m0+j∧mid=u+j∧mid+A2.length=e∧e+B2.length=b:=by clear HM HN HD hlo hhi hcmp ih;omega
 obtain⟨K1,hK1⟩:∃K1:St→Prop,K1=fun s=>s.t 0= .sref id 0 N∧s.t 1=iv a∧s.t 3=iv b∧s.t 4= .fn g []∧s.t 18=iv mid∧s.t 20=iv u∧s.t 24=iv e∧s.H=H.set id (flO enc (P++A1++B1++A2++B2++S)):=⟨_,rfl⟩
 clear HM HN HD hlo hhi
 have hcs0:P++A++B++S=P++A1++A2++B1++B2++S:=by rw[eA,eB];simp
 rw[hcs0]at hH0
 refine eN K1 (by rw[hN];kernel_rfl) ?_ ?_
 ·by_cases q1:u<m0
  ·have q1':decide (u<m0)=true:=zC q1
   by_cases q2:m0<e
   ·have q2':decide (m0<e)=true:=zC q2
    have hro:=Ry (row:=E.row) (src:=E.src) enc lt g hc (P++A1) A2 B1 (B2++S) s.H id u m0 e N (by omega) (by omega) (by rw[zK];omega) (by omega) (by omega) (by simp only[zK];omega) hb9 (by rw[hs',hH0];simp)
    simp -dsimp -implicitDefEqProofs [go_sem,hP,t20,t2,q1',q2',t0,t4]
    refine aI hro hP Vr ?_
    rintro r H' rfl
    simp -dsimp -implicitDefEqProofs [go_sem,hP]
    refine⟨_,Weaker.refl _,?_⟩
    rw[hK1]
    refine⟨t0,t1,t3,t4,t18,t20,rfl,?_⟩
    show s.H.set id _=_
    rw[hs']
    simp
   ·have q2':decide (m0<e)=false:=zA q2
    have b1:B1=[]:=uH.1 (by omega)
    simp -dsimp -implicitDefEqProofs [go_sem,hP,t20,t2,q1',q2']
    refine⟨_,Weaker.refl _,?_⟩
    rw[hK1]
    refine⟨t0,t1,t3,t4,t18,t20,rfl,?_⟩
    show s.H=_
    rw[hs',show P++A1++B1++A2++B2++S=P++A1++A2++B1++B2++S by rw[b1];simp,jA hH0]
  ·have q1':decide (u<m0)=false:=zA q1
   have a2:A2=[]:=uH.1 (by omega)
   simp -dsimp -implicitDefEqProofs [go_sem,hP,t20,t2,q1']
   refine⟨_,Weaker.refl _,?_⟩
   rw[hK1]
   refine⟨t0,t1,t3,t4,t18,t20,rfl,?_⟩
   show s.H=_
   rw[hs',show P++A1++B1++A2++B2++S=P++A1++A2++B1++B2++S by rw[a2];simp,jA hH0]
 clear t0 t1 t2 t3 t4 t18 t19 t20 t21 t22 hs'
 intro s hs'
 rw[hK1]at hs'
 obtain⟨t0,t1,t3,t4,t18,t20,t24,hs'⟩:=hs'
 obtain⟨K2,hK2⟩:∃K2:St→Prop,K2=fun s=>s.t 0= .sref id 0 N∧s.t 3=iv b∧s.t 4= .fn g []∧s.t 18=iv mid∧s.t 24=iv e∧s.H=H.set id (flO enc (P++aP lt A1 B1++A2++B2++S)):=⟨_,rfl⟩
 have hid1:s.H[id]?=some (flO enc (P++A1++B1++A2++B2++S)):=by rw[hs'];simp[hlt]
 refine eN K2 (by rw[hN];kernel_rfl) ?_ ?_
 ·by_cases q1:a<u
  ·have q1':decide (a<u)=true:=zC q1
   by_cases q2:u<mid
   ·have q2':decide (u<mid)=true:=zC q2
    have hsy:=ih E.row E.src P A1 B1 (A2++B2++S) s.H id a u mid N (by omega) (by omega) (by omega) sA1 sB1 ha (by omega) (by omega) (by simp only[zK];omega) hb9 (by rw[hid1];simp)
    simp -dsimp -implicitDefEqProofs [go_sem,hP,t20,t1,t18,q1',q2',t0,t4]
    refine aI hsy hP O5 ?_
    rintro r H' rfl
    simp -dsimp -implicitDefEqProofs [go_sem,hP]
    refine⟨_,Weaker.refl _,?_⟩
    rw[hK2]
    refine⟨t0,t3,t4,t18,t24,?_⟩
    show s.H.set id _=_
    rw[hs',List.set_set]
    simp
   ·have q2':decide (u<mid)=false:=zA q2
    have b1:B1=[]:=uH.1 (by omega)
    simp -dsimp -implicitDefEqProofs [go_sem,hP,t20,t1,t18,q1',q2']
    refine⟨_,Weaker.refl _,?_⟩
    rw[hK2]
    refine⟨t0,t3,t4,t18,t24,?_⟩
    show s.H=_
    rw[hs',b1,ff]
    simp
  ·have q1':decide (a<u)=false:=zA q1
   have a1:A1=[]:=uH.1 (by omega)
   simp -dsimp -implicitDefEqProofs [go_sem,hP,t20,t1,q1']
   refine⟨_,Weaker.refl _,?_⟩
   rw[hK2]
   refine⟨t0,t3,t4,t18,t24,?_⟩
   show s.H=_
   rw[hs',a1]
   simp[aP]
 clear t0 t1 t3 t4 t18 t20 t24 hs' hid1
 intro s hs'
 rw[hK2]at hs'
 obtain⟨t0,t3,t4,t18,t24,hs'⟩:=hs'
 have hid2:s.H[id]?=some (flO enc (P++aP lt A1 B1++A2++B2++S)):=by rw[hs'];simp[hlt]
 have lm:=rM (lt:=lt) A1 B1
 refine be _ _ _ (by rw[hN];kernel_rfl) ?_
 by_cases q1:mid<e
 ·have q1':decide (mid<e)=true:=zC q1
  by_cases q2:e<b
  ·have q2':decide (e<b)=true:=zC q2
   have hsy:=ih E.row E.src (P++aP lt A1 B1) A2 B2 S s.H id mid e b N (by omega) (by omega) (by omega) sA2 sB2 (by rw[zK,lm];omega) (by omega) (by omega) (by simp only[zK,lm];omega) hb9 hid2
   simp -dsimp -implicitDefEqProofs [go_sem,hP,t18,t24,t3,q1',q2',t0,t4]
   refine aI hsy hP O5 ?_
   rintro r H' rfl
   simp -dsimp -implicitDefEqProofs [go_sem,hP]
   rw[hC,hs',List.set_set,hres]
   simp
  ·have q2':decide (e<b)=false:=zA q2
   have b2:B2=[]:=uH.1 (by omega)
   simp -dsimp -implicitDefEqProofs [go_sem,hP,t18,t24,t3,q1',q2']
   rw[hC,hs',hres,b2,ff]
   simp
 ·have q1':decide (mid<e)=false:=zA q1
  have a2:A2=[]:=uH.1 (by omega)
  simp -dsimp -implicitDefEqProofs [go_sem,hP,t18,t24,q1']
  rw[hC,hs',hres,a2]
  simp[aP]
theorem Bo (hc:oB enc lt g) (ho:SOrd lt) (f:Nat):OE enc lt g f:=by
 induction f with
 |zero=>intro row src P A B S H id a m0 b N hf hA hB;omega
 |succ f ih=>exact SS enc lt g hc ho f ih
end
open Go.PA
open Go.RowKit
section
variable {α:Type} (enc:α→List AV) (lt:α→α→Bool) (g:FuncId)
set_option maxHeartbeats 4000000 in
theorem Nb {row src:Option Nat} (hc:oB enc lt g) (ho:SOrd lt) (l:List α) (H:ah) (id n:Nat) (hn:n=l.length) (hb9:n≤100000000)
  (hH:H[id]?=some (flO enc l)):
  MFun Tryz.prog row src 99 [.sref id 0 n,iv n,.fn g []] H (fun _ H'=>H'=H.set id (flO enc (dx lt l))):=by
 refine aG Tryz.func99 rfl (by simp[Tryz.f99]) (by kernel_rfl) (⟨.tup [],_,rfl⟩) ?_
 intro E hP hr hs hN
 have hlt:id<H.length:=(gsI hH)
 obtain⟨C,hC⟩:∃C,C=fun (_:AV) H'=>H'=H.set id (flO enc (dx lt l)):=⟨_,rfl⟩
 rw[←hC]
 simp -dsimp -implicitDefEqProofs [go_sem,hP]
 obtain⟨I,hI⟩:∃I:Nat→St→Prop,I=fun m s=>∃(D rest:List α) (f a:Nat),a=D.length∧m=n+20-a∧D.length+rest.length=n∧rest.length≤f∧blk lt 20 (n+1) l=D++blk lt 20 (f+1) rest∧s.t 0= .sref id 0 n∧s.t 1=iv n∧s.t 2= .fn g []∧s.t 6=iv 20∧s.t 7=iv a∧s.t 8=iv (a+20:Nat)∧s.H=H.set id (flO enc (D++rest)):=⟨_,rfl⟩
 refine az I (n+20) (by rw[hN];rfl) ?_ ?_
 ·rw[hI]
  exact⟨[],l,n,0,rfl,rfl,by simp[hn],by omega,rfl,rfl,rfl,rfl,rfl,rfl,rfl,(jA hH).symm⟩
 intro m s hs'
 rw[hI]at hs'
 obtain⟨D,rest,f,a,ha,hm,hl,hf,hblk,t0,t1,t2,t6,t7,t8,hs'⟩:=hs'
 have hid:s.H[id]?=some (flO enc (D++rest)):=by rw[hs'];simp[hlt]
 obtain⟨b,hb⟩:∃b,b=a+20:=⟨_,rfl⟩
 rw[←hb]at t8
 simp -dsimp -implicitDefEqProofs [go_sem,hP,t8,t1]
 refine aB ?_ ?_<;>intro h
 ·have hbn:b≤n:=by simpa using h
  obtain⟨f',rfl⟩:∃f',f=f'+1:=⟨f-1,by omega⟩
  have er:rest=rest.take 20++rest.drop 20:=(vV _ _).symm
  have l20:(rest.take 20).length=20:=by rw[zY];omega
  have hins:=xd (row:=E.row) (src:=E.src) enc lt g hc D (rest.take 20) (rest.drop 20) s.H id a b n ha (by omega) (by rw[wP];omega) (by omega) (by rw[vJ,←er];exact hid)
  have wb:=ae ((b:Int)+20) (by omega)
  simp -dsimp -implicitDefEqProofs [go_sem,hP,t0,t7,t8,t2]
  refine aI hins hP (by kernel_rfl) ?_
  rintro r H' rfl
  simp -dsimp -implicitDefEqProofs [go_sem,hP,t8,t6,wb]
  refine⟨n+20-b,by omega,?_⟩
  rw[hI]
  refine⟨D++dx lt (rest.take 20),rest.drop 20,f',b,by rw[zK,eu];omega,rfl,by rw[zK,eu,wP];omega,by rw[wP];omega,by rw[hblk,blk];simp,t0,t1,t2,t6,rfl,rfl,?_⟩
  show s.H.set id _=_
  rw[hs',List.set_set,pw ho]
  simp
 have hbn:n<b:=by
  have:¬b≤n:=by simpa using h
  omega
 have hins:=xd (row:=E.row) (src:=E.src) enc lt g hc D rest [] s.H id a n n ha (by omega) (by simp only[List.length_nil];omega) (by omega) (by rw[wY];exact hid)
 simp -dsimp -implicitDefEqProofs [go_sem,hP,t0,t7,t1,t2]
 refine aI hins hP (by kernel_rfl) ?_
 rintro r H' hH'
 have hH2:H'=H.set id (flO enc (blk lt 20 (n+1) l)):=by
  rw[hH',hs',List.set_set]
  congr 2
  rw[hblk,p8 _ _ (by omega),pw ho,wY]
 clear hH' hblk hs' hid hins
 simp -dsimp -implicitDefEqProofs [go_sem,hP]
 obtain⟨J,hJ⟩:∃I:Nat→St→Prop,I=fun m s=>∃bs:Nat,1≤bs∧bs≤200000000∧m=n-bs∧s.t 0= .sref id 0 n∧s.t 1=iv n∧s.t 2= .fn g []∧s.t 6=iv bs∧s.H=H.set id (flO enc (blk lt bs (n+1) l)):=⟨_,rfl⟩
 refine az J (n-20) (by rw[hN];rfl) ?_ ?_
 ·rw[hJ]
  exact⟨20,by omega,by omega,rfl,t0,t1,t2,t6,hH2⟩
 clear t0 t1 t2 t6 t7 t8 hH2 hbn h hb b hm hl hf ha a f rest D m
 intro m s hs'
 rw[hJ]at hs'
 obtain⟨bs,hb1,hb2,hm3,t0,t1,t2,t6,hs'⟩:=hs'
 subst hm3
 simp -dsimp -implicitDefEqProofs [go_sem,hP,t6,t1]
 refine aB ?_ ?_<;>intro h
 rotate_left
 ·have hbs:n≤bs:=by
   have:¬bs<n:=by simpa using h
   omega
  simp -dsimp -implicitDefEqProofs [go_sem,hP]
  rw[hC,hs',p8 _ _ (by omega)]
 have hbs:bs<n:=by simpa using h
 have w2:=ae (2*(bs:Int)) (by omega)
 obtain⟨b2,hb22⟩:∃b2,b2=2*bs:=⟨_,rfl⟩
 have c2:2*(bs:Int)=b2:=by omega
 rw[c2]at w2
 simp -dsimp -implicitDefEqProofs [go_sem,hP,t6,c2,w2]
 obtain⟨K,hK⟩:∃I:Nat→St→Prop,I=fun m s=>∃(D rest:List α) (f f2 a:Nat),a=D.length∧m=n-a∧D.length+rest.length=n∧rest.length≤f∧rest.length≤f2∧blk lt b2 (n+1) l=D++blk lt b2 (f2+1) rest∧s.t 0= .sref id 0 n∧s.t 1=iv n∧s.t 2= .fn g []∧s.t 6=iv bs∧s.t 7=iv a∧s.t 8=iv (a+b2:Nat)∧s.H=H.set id (flO enc (D++blk lt bs (f+1) rest)):=⟨_,rfl⟩
 refine az K (n) (by rw[hN];rfl) ?_ ?_
 ·rw[hK]
  exact⟨[],l,n,n,0,rfl,rfl,by simp[hn],by omega,by omega,rfl,t0,t1,t2,t6,rfl,by simp -dsimp[-getElem?_pos,go_sem],hs'⟩
 clear t0 t1 t2 t6 hs'
 intro m s hs'
 rw[hK]at hs'
 obtain⟨D,rest,f,f2,a,ha,hm,hl,hf,hf2,hblk,t0,t1,t2,t6,t7,t8,hs'⟩:=hs'
 subst hm
 have hid:s.H[id]?=some (flO enc (D++blk lt bs (f+1) rest)):=by rw[hs'];simp[hlt]
 obtain⟨b,hb⟩:∃b,b=a+b2:=⟨_,rfl⟩
 rw[←hb]at t8
 obtain⟨m1,hm1⟩:∃m1,m1=a+bs:=⟨_,rfl⟩
 have wm:IntKind.i64.wrap ((a:Int)+bs)=(m1:Int):=by rw[ae _ (by omega)];omega
 simp -dsimp -implicitDefEqProofs [go_sem,hP,t8,t1]
 refine aB ?_ ?_<;>intro h
 ·have hbn:b≤n:=by simpa using h
  obtain⟨f',rfl⟩:∃f',f=f'+2:=⟨f-2,by omega⟩
  obtain⟨f3,rfl⟩:∃f3,f2=f3+1:=⟨f2-1,by omega⟩
  obtain⟨k1,k2⟩:=S1 (lt:=lt) ho bs (f'+1) rest
  rw[show f'+1+2=f'+2+1 from rfl,←hb22]at k1
  rw[←hb22]at k2
  have lA:(dx lt (rest.take bs)).length=bs:=by rw[eu,zY];omega
  have lB:(dx lt ((rest.drop bs).take bs)).length=bs:=by rw[eu,zY,wP];omega
  have lR:(blk lt bs (f'+1) (rest.drop b2)).length=rest.length-b2:=by
   have hle:(rest.drop b2).length≤f'+1:=by rw[wP];omega
   rw[KJ _ _ _ (Nat.le_trans hle (Nat.le_mul_of_pos_right _ hb1)),wP]
  have hsy:=Bo enc lt g hc ho (bs+bs) E.row E.src D (dx lt (rest.take bs)) (dx lt ((rest.drop bs).take bs)) (blk lt bs (f'+1) (rest.drop b2)) s.H id a m1 b n (by omega) (by omega) (by omega) (mQ ho _) (mQ ho _) ha (by omega) (by omega) (by simp only[zK];omega) (by omega) (by rw[hid,k1];simp)
  have wb:IntKind.i64.wrap ((b:Int)+b2)=((b+b2:Nat):Int):=by rw[ae _ (by omega)];omega
  obtain⟨b3,hb3⟩:∃b3,b3=b+b2:=⟨_,rfl⟩
  rw[←hb3]at wb
  simp -dsimp -implicitDefEqProofs [go_sem,hP,t0,t7,t6,wm,t8,t2]
  refine aI hsy hP (by kernel_rfl) ?_
  rintro r H' hH'
  simp -dsimp -implicitDefEqProofs [go_sem,hP,t8,t6,c2,w2,wb]
  refine⟨n-b,by omega,?_⟩
  rw[hK]
  refine⟨D++dx lt (rest.take b2),rest.drop b2,f',f3,b,by rw[zK,eu,zY];omega,rfl,by rw[zK,eu,zY,wP];omega,by rw[wP];omega,by rw[wP];omega,by rw[hblk,blk];simp,t0,t1,t2,t6,rfl,by rw[←hb3];simp -dsimp -implicitDefEqProofs [go_sem],?_⟩
  show H'=_
  rw[hH',hs',List.set_set,k2]
 have hbn:n<b:=by
  have:¬b≤n:=by simpa using h
  omega
 have w6:=ae ((bs:Int)*2) (by omega)
 have c6:(bs:Int)*2=b2:=by omega
 rw[c6]at w6
 have fin:∀(s':St),s'.t 0= .sref id 0 n→s'.t 1=iv n→s'.t 2= .fn g []→s'.t 6=iv b2→s'.H=H.set id (flO enc (blk lt b2 (n+1) l))→∃n',n'<n-bs∧J n' s':=fun s' a0 a1 a2 a6 aH=>by
  refine⟨n-b2,by omega,?_⟩
  rw[hJ]
  exact⟨b2,by omega,by omega,rfl,a0,a1,a2,a6,aH⟩
 by_cases hmn:m1<n
 ·have d1:decide (m1<n)=true:=zC hmn
  have er:blk lt bs (f+1) rest=dx lt (rest.take bs)++dx lt (rest.drop bs):=by
   obtain⟨f',rfl⟩:∃f',f=f'+1:=⟨f-1,by omega⟩
   rw[blk,p8 _ _ (by rw[wP];omega)]
  have lA:(dx lt (rest.take bs)).length=bs:=by rw[eu,zY];omega
  have lB:(dx lt (rest.drop bs)).length=rest.length-bs:=by rw[eu,wP]
  have hsy:=Bo enc lt g hc ho (bs+rest.length) E.row E.src D (dx lt (rest.take bs)) (dx lt (rest.drop bs)) [] s.H id a m1 n n (by omega) (by omega) (by omega) (mQ ho _) (mQ ho _) ha (by omega) (by omega) (by simp only[zK,List.length_nil];omega) (by omega) (by rw[hid,er];simp)
  simp -dsimp -implicitDefEqProofs [go_sem,hP,t7,t6,wm,t1,d1,t0,t2]
  refine aI hsy hP (by kernel_rfl) ?_
  rintro r H' hH'
  simp -dsimp -implicitDefEqProofs [go_sem,hP,t6,c6,w6]
  refine fin _ t0 t1 t2 rfl ?_
  show H'=_
  rw[hH',hs',List.set_set,hblk,p8 _ _ (by omega),←DJ ho,vV]
  simp
 ·have d1:decide (m1<n)=false:=zA hmn
  simp -dsimp -implicitDefEqProofs [go_sem,hP,t7,t6,wm,t1,d1,c6,w6]
  refine fin _ t0 t1 t2 rfl ?_
  show s.H=_
  rw[hs',hblk,p8 _ _ (by omega),p8 _ _ (by omega)]
theorem mw {row src:Option Nat} (hc:oB enc lt g) (ho:SOrd lt) (l:List α) (H:ah) (id n:Nat) (hn:n=l.length) (hb9:n≤100000000)
  (hH:H[id]?=some (flO enc l)):
  MFun Tryz.prog row src 33 [.sref id 0 n,.fn g []] H (fun _ H'=>H'=H.set id (flO enc (dx lt l))):=by
 refine aG Tryz.func33 rfl (by simp[Tryz.f33]) (by kernel_rfl) (⟨.tup [],_,rfl⟩) ?_
 intro E hP hr hs hN
 simp[go_sem,hP,hH]
 refine aI (Nb enc lt g hc ho l H id n hn hb9 hH) hP (by kernel_rfl) ?_
 rintro r H' rfl
 simp[go_sem,hP]
end
open Go.PA
open Go.RowKit
structure Flow where
 d:Int
 a:Int
 k:Int
 n:Int
def Flow.cells (f:Flow):List AV:=[iv f.d,iv f.a,iv f.k,iv f.n]
def bJ (fs:List Flow):AV:= .list 4 (fs.map Flow.cells)
theorem jq (fs:List Flow):Imm (bJ fs):=by simp[go_sem,bJ,Flow.cells]
open Go.PA
open Go.RowKit
def bV (n lo hi:Int):Bool:=decide (lo≤n)&&decide (n≤hi)
theorem kW (n lo hi:Int):PFun Tryz.prog none none 46 [iv n,iv lo,iv hi] (·=bv (bV n lo hi)):=by
 refine ab Tryz.func46 rfl (by simp[Tryz.f46]) (by kernel_rfl) ?_
 intro E hP hr hs hW hN
 by_cases h1:lo≤n<;>by_cases h2:n≤hi<;>simp[go_sem,hP,h1,h2,bV]
def ge (n:Int):Bool:=bV n (-1000000000000000) 1000000000000000
theorem nU (n:Int):PFun Tryz.prog none none 48 [iv n] (·=bv (ge n)):=by
 refine ab Tryz.func48 rfl (by simp[Tryz.f48]) (by kernel_rfl) ?_
 intro E hP hr hs hW hN
 by_cases h1: -1000000000000000≤n<;>by_cases h2:n≤1000000000000000<;>simp[go_sem,hP,h1,h2,ge,bV]
def oL (n:Int):Bool:=bV n 0 36000
theorem Ew (n:Int):PFun Tryz.prog none none 49 [iv n] (·=bv (oL n)):=by
 refine ab Tryz.func49 rfl (by simp[Tryz.f49]) (by kernel_rfl) ?_
 intro E hP hr hs hW hN
 by_cases h1:0≤n<;>by_cases h2:n≤36000<;>simp[go_sem,hP,h1,h2,oL,bV]
def bK (f:Flow):Bool:=oL f.d&&!decide (f.a=0)&&bV f.a (-1000000000000) 1000000000000&&bV f.k 1 5&&bV f.n 0 1000000
theorem HQ (f:Flow):PFun Tryz.prog none none 111 [.agg f.cells] (·=bv (bK f)):=by
 refine ab Tryz.func111 rfl (by simp[Tryz.f111]) (by kernel_rfl) ?_
 intro E hP hr hs hW hN
 simp[go_sem,hP,Flow.cells]
 refine ai (Ew f.d) hP s8 (by simp[go_sem]) .sc ?_
 simp[go_sem, *]
 refine BS (fun h1=>?_) (fun h1=>by simp[go_sem,bK, *])
 simp[go_sem, *]
 by_cases h2:f.a=0
 ·simp[go_sem,bK, *]
 simp[go_sem, *]
 refine ai (kW f.a (-1000000000000) 1000000000000) hP HC (by simp[go_sem]) .sc ?_
 simp[go_sem, *]
 refine BS (fun h3=>?_) (fun h3=>by simp[go_sem,bK, *])
 simp[go_sem, *]
 refine ai (kW f.k 1 5) hP HC (by simp[go_sem]) .sc ?_
 simp[go_sem, *]
 refine BS (fun h4=>?_) (fun h4=>by simp[go_sem,bK, *])
 simp[go_sem, *]
 refine ai (kW f.n 0 1000000) hP HC (by simp[go_sem]) .sc ?_
 simp[go_sem,bK, *]
theorem ML (f:Flow):PFun Tryz.prog none none 110 [.agg f.cells] (·=bv (!bK f)):=by
 refine ab Tryz.func110 rfl (by simp[Tryz.f110]) (by kernel_rfl) ?_
 intro E hP hr hs hW hN
 simp[go_sem,hP,Flow.cells]
 refine ai (HQ f) hP Vi (by simp[go_sem,Flow.cells]) .sc ?_
 simp[go_sem, *]
theorem QB (fs:List Flow) (hl:fs.length≤100000):PFun Tryz.prog none none 169 [bJ fs,.fn 110 []] (fun x=>∃i:Int,x=iv i∧decide (0≤i)=fs.any (fun f=>!bK f)):=by
 refine ab Tryz.func169 rfl (by simp[Tryz.f169]) (by kernel_rfl) ?_
 intro E hP hr hs hW hN
 simp[go_sem,hP,bJ]
 refine az (fun n s=>∃k,k≤fs.length∧n=fs.length-k∧(∀f,f∈fs.take k→bK f=true)∧s.t 0=bJ fs∧s.t 1= .fn 110 []∧s.t 7=iv fs.length∧s.t 8=iv k) fs.length (by rw[hN];rfl) ?_ ?_
 ·refine⟨0,by simp,by simp,by simp,?_⟩
  simp[go_sem,bJ]
 rintro n s ⟨k,hk,hn,hv,t0,t1,t7,t8⟩
 simp[go_sem, *,bJ]
 refine aB ?_ ?_<;>intro h
 ·have hk':k<fs.length:=by simpa using h
  simp[go_sem, *,bJ,Flow.cells]
  refine ai (ML fs[k]) hP Vz (by simp[go_sem,Flow.cells]) .sc ?_
  simp[go_sem, *]
  refine aB ?_ ?_<;>intro h
  ·have hw:IntKind.i64.wrap (↑k+1)=((k+1:Nat):Int):=by rw[ae _ (by omega)];rfl
   simp[go_sem,hP,hw,t0,t1,t7,t8,bJ,Flow.cells]
   refine⟨fs.length-(k+1),by omega,k+1,by omega,rfl,?_,rfl⟩
   intro f hf
   rw[List.take_succ_eq_append_getElem hk',wA]at hf
   rcases hf with hf|hf
   ·exact hv f hf
   ·simp at hf;subst hf;exact h
  ·simp[go_sem, *,Tryz.f169]
   refine⟨fs[k],List.getElem_mem hk',h⟩
 ·simp[go_sem, *,Tryz.f169]
  intro f hf
  refine hv f ?_
  rw[zQ (by simpa using h)]
  exact hf
theorem G9 (fs:List Flow) (hl:fs.length≤100000):PFun Tryz.prog none none 109 [bJ fs,.fn 110 []] (·=bv (fs.any (fun f=>!bK f))):=by
 refine ab Tryz.func109 rfl (by simp[Tryz.f109]) (by kernel_rfl) ?_
 intro E hP hr hs hW hN
 simp[go_sem,hP,bJ]
 refine cn ((QB fs hl).lift _ _) hP Up (ak (by simp[go_sem,Flow.cells])) ⟨iv (if fs.any (fun f=>!bK f)then 0 else -1),_,rfl,by cases fs.any (fun f=>!bK f)<;>simp⟩ ?_ ?_
 ·rintro r ⟨i,rfl,_⟩
  exact .sc
 ·rintro r ⟨i,rfl,h⟩
  simp[go_sem,hP,Tryz.f109]
  simpa using h
def eJ (fs:List Flow):Int:=if 400<fs.length then 3 else if fs.any (fun f=>!bK f)then 72 else 0
theorem BK (fs:List Flow) (hl:fs.length≤100000):PFun Tryz.prog none none 43 [bJ fs] (·=iv (eJ fs)):=by
 refine ab Tryz.func43 rfl (by simp[Tryz.f43]) (by kernel_rfl) ?_
 intro E hP hr hs hW hN
 simp[go_sem,hP,bJ]
 refine aB ?_ ?_<;>intro h
 ·have h':400<fs.length:=by simp at h;omega
  simp[go_sem,hP,Tryz.f43]
  simp[eJ,h']
 have h':¬400<fs.length:=by simp at h;omega
 simp[go_sem, *]
 refine ai (G9 fs hl) hP Ub (ak (by simp[go_sem,Flow.cells])) .sc ?_
 simp[go_sem, *]
 refine aB ?_ ?_<;>intro h
 ·simp[go_sem,hP,Tryz.f43]
  simp only[eJ,h,if_neg h',if_true]
 ·simp[go_sem,hP,Tryz.f43]
  simp only[eJ,h,if_neg h']
  simp
open Go.PA
open Go.RowKit
structure Pos where
 d:Int
 a:Int
def Pos.cells (p:Pos):List AV:=[iv p.d,iv p.a]
def I5 (l:List Pos):AV:= .list 2 (l.map Pos.cells)
def delta (fs:List Flow) (d:Int):Int:=((fs.filter fun f=>decide (f.d=d)).map (·.a)).sum
def run (fs:List Flow) (lo:Int):Nat→Nat→Int→Option (List Pos)
 |_,0,_=>some []
 |i,n+1,o=>if ge (o+delta fs (lo+i))then (run fs lo (i+1) n (o+delta fs (lo+i))).map (⟨lo+i,o+delta fs (lo+i)⟩::·)else none
def iQ (o:Int) (fs:List Flow) (lo hi:Int):List Pos×Int:=
 if¬eJ fs=0 then ([],eJ fs)else if (!ge o||(!oL lo||!oL hi))=true then ([],2)else if 1000<hi-lo+1 then ([],3)else
 match run fs lo 0 (hi-lo+1).toNat o with
 |none=>([],2)
 |some l=>(l,0)
theorem Av {fs:List Flow} (h:eJ fs=0):fs.length≤400∧∀f,f∈fs→(0≤f.d∧f.d≤36000)∧(-1000000000000≤f.a∧f.a≤1000000000000):=by
 unfold eJ at h
 split at h
 ·cases h
 ·rename_i hl
  split at h
  ·cases h
  ·rename_i ha
   refine⟨by omega,fun f hf=>?_⟩
   have hv:bK f=true:=by
    cases hv:bK f with
    |true=>rfl
    |false=>exact absurd (vL.2 ⟨f,hf,by simp[hv]⟩) ha
   simp[bK,oL,bV]at hv
   omega
theorem Ni (d:Int):delta [] d=0:=rfl
theorem uN (xs ys:List Flow) (d:Int):delta (xs++ys) d=delta xs d+delta ys d:=by simp[delta,List.filter_append]
theorem v6 (f:Flow) (d:Int):delta [f] d=if f.d=d then f.a else 0:=by
 by_cases h:f.d=d<;>simp[delta,h]
theorem pY (d:Int):∀(fs:List Flow),(∀f,f∈fs→ -1000000000000≤f.a∧f.a≤1000000000000)→ -1000000000000*(fs.length:Int)≤delta fs d∧delta fs d≤1000000000000*(fs.length:Int)
 |[],_=>by simp[delta]
 |f::fs,h=>by
  have h1:=pY d fs fun g hg=>h g (uC _ hg)
  have h2:=h f (List.mem_cons_self ..)
  have e:delta (f::fs) d=delta [f] d+delta fs d:=uN [f] fs d
  rw[e,v6,wI]
  split<;>omega
def dl (lo:Int) (n:Nat) (fs:List Flow):List (List AV):=(List.range n).map fun (i:Nat)=>[iv (delta fs (lo+(i:Int)))]
theorem NY (lo:Int) (n:Nat) (fs:List Flow):(dl lo n fs).length=n:=by simp[dl]
theorem Kv (lo:Int) (n i:Nat) (fs:List Flow) (h:i<(dl lo n fs).length):(dl lo n fs)[i]=[iv (delta fs (lo+(i:Int)))]:=by simp[dl]
theorem Vm (lo:Int) (n:Nat):dl lo n []=List.replicate n [iv 0]:=by simp[dl,Ni,List.eq_replicate_iff]
theorem XC (lo:Int) (n i:Nat) (fs:List Flow) (f:Flow) (hd:f.d=lo+(i:Int)):(dl lo n fs).set i [iv (delta fs (lo+(i:Int))+f.a)]=dl lo n (fs++[f]):=by
 apply List.ext_getElem
 ·simp[dl]
 ·intro j h1 h2
  simp only[dl,List.getElem_set,List.getElem_map,List.getElem_range,uN,v6]
  by_cases hj:i=j
  ·subst hj;simp[hd]
  ·have:¬f.d=lo+(j:Int):=by omega
   simp[hj,this]
theorem Vj (lo:Int) (n:Nat) (fs:List Flow) (f:Flow) (hd:f.d<lo∨lo+(n:Int)≤f.d):dl lo n (fs++[f])=dl lo n fs:=by
 apply vA
 intro j hj
 have:=List.mem_range.1 hj
 rw[uN,v6,if_neg (by omega)]
 simp
theorem JD (o:Int) (fs:List Flow) (lo hi:Int) (hl:fs.length≤100000):
  PFun Tryz.prog none none 12 [iv o,bJ fs,iv lo,iv hi] (·= .tup [I5 (iQ o fs lo hi).1,iv (iQ o fs lo hi).2]):=by
 refine ab Tryz.func12 rfl (by simp[Tryz.f12]) (by kernel_rfl) ?_
 intro E hP hr hs hW hN
 simp[go_sem,hP]
 refine ai (BK fs hl) hP Tx (ak (by simp[jq])) .sc ?_
 simp[go_sem,hP]
 refine aB ?_ ?_<;>intro h0
 rotate_left
 ·simp[go_sem,hP,Tryz.f12]
  refine aK 2 ?_
  have:¬eJ fs=0:=by simpa using h0
  simp[iQ,this,I5]
 have h0:eJ fs=0:=by simpa using h0
 simp[go_sem,hP,h0]
 refine ai (nU o) hP KC (ak (by simp[go_sem])) .sc ?_
 simp[go_sem,hP]
 have bad:(!ge o||(!oL lo||!oL hi))=true→∀(H:ah) (b),jh H (.tup [.nil,iv 2]) (·= .tup [I5 (iQ o fs lo hi).1,iv (iQ o fs lo hi).2]) b:=fun hc H b=>by
  refine aK 2 ?_
  simp[iQ,h0,hc,I5]
 cases h1:ge o with
 |false=>
  simp[go_sem,hP,h1,Tryz.f12]
  exact bad (by simp[h1]) _ _
 |true=>
 simp[go_sem,hP,h1]
 refine ai (Ew lo) hP s8 (ak (by simp[go_sem])) .sc ?_
 simp[go_sem,hP]
 cases h2:oL lo with
 |false=>
  simp[go_sem,hP,h1,h2,Tryz.f12]
  exact bad (by simp[h2]) _ _
 |true=>
 simp[go_sem,hP,h1,h2]
 refine ai (Ew hi) hP s8 (ak (by simp[go_sem])) .sc ?_
 simp[go_sem,hP]
 cases h3:oL hi with
 |false=>
  simp[go_sem,hP,h1,h2,h3,Tryz.f12]
  exact bad (by simp[h3]) _ _
 |true=>
 have b1: -1000000000000000≤o∧o≤1000000000000000:=by simpa[ge,bV]using h1
 have b2:0≤lo∧lo≤36000:=by simpa[oL,bV]using h2
 have b3:0≤hi∧hi≤36000:=by simpa[oL,bV]using h3
 have w1:=ae (hi-lo) (by omega)
 have w2:=ae (hi-lo+1) (by omega)
 simp[go_sem,hP,h1,h2,h3,w1,w2]
 refine aB ?_ ?_<;>intro h4
 ·have h4:1000<hi-lo+1:=by simpa using h4
  simp[go_sem,hP,Tryz.f12]
  refine aK 2 ?_
  simp[iQ,h0,h1,h2,h3,h4,I5]
 have h4:¬1000<hi-lo+1:=by simpa using h4
 simp[go_sem,hP,w1,w2,mO,cX]
 obtain⟨n,hn⟩:∃n:Nat,max (hi-lo+1) 0=n:=⟨(max (hi-lo+1) 0).toNat,by omega⟩
 have hn1:n≤1000:=by omega
 simp[hn,go_sem,hP,bJ]
 refine⟨by omega,by omega,?_⟩
 obtain⟨k1,k2⟩:=Av h0
 refine az (fun m s=>∃(k id:Nat),k≤fs.length∧m=fs.length-k∧s.t 0=iv o∧s.t 2=iv lo∧s.t 3=iv hi∧s.t 46=bJ fs∧s.t 47=iv fs.length∧s.t 48=iv k∧s.t 11= .sref id 0 n∧s.H[id]?=some (some ⟨3,1,dl lo n (fs.take k)⟩)) fs.length (by rw[hN];rfl) ?_ ?_
 ·exact⟨0,0,by simp,by simp,by simp[go_sem],by simp[go_sem],by simp[go_sem],by simp[go_sem,bJ],by simp[go_sem],by simp[go_sem],by simp[go_sem],by simp[Vm]⟩
 rintro m s ⟨k,id,hk,rfl,t0,t2,t3,t46,t47,t48,t11,hH⟩
 obtain⟨hlt,hG⟩:=zM.1 hH
 simp[go_sem,hP,t46,t47,t48]
 refine aB ?_ ?_<;>intro h
 ·have hk':k<fs.length:=by simpa using h
  have tk:fs.take (k+1)=fs.take k++[fs[k]]:=List.take_succ_eq_append_getElem hk'
  have wk:IntKind.i64.wrap (↑k+1)=((k+1:Nat):Int):=by rw[ae _ (by omega)];rfl
  simp[go_sem,hP,t46,t48,bJ,hk',Flow.cells,t2,t3]
  refine ai (kW fs[k].d lo hi) hP HC (ak (by simp[go_sem])) .sc ?_
  simp[go_sem,hP]
  refine aB ?_ ?_<;>intro h5
  ·have h5:lo≤fs[k].d∧fs[k].d≤hi:=by simpa[bV]using h5
   obtain⟨b4,b5⟩:=k2 fs[k] (List.getElem_mem hk')
   obtain⟨i,hi'⟩:∃i:Nat,fs[k].d-lo=i:=⟨(fs[k].d-lo).toNat,by omega⟩
   have w5:=ae (i:Int) (by omega)
   have hin:i<n:=by omega
   have b6:=pY (lo+i) (fs.take k) fun f hf=>(k2 f (wV hf)).2
   have b7:(fs.take k).length≤400:=by rw[zY];omega
   have w6:=ae (delta (fs.take k) (lo+i)+fs[k].a) (by omega)
   refine aq (fun _=>true) [11] hP (by kernel_rfl) rfl ?_
   simp[go_sem,hP,t2,t11,t48,wk,w5,hi',hG,hlt,hin,NY,Kv,w6]
   refine⟨fs.length-(k+1),by omega,k+1,by omega,rfl,t0,t3,by rw[t46];rfl,t47,by omega,?_⟩
   rw[tk]
   exact XC lo n i _ _ (by omega)
  ·simp[go_sem,hP,t48,wk]
   have h5:¬(lo≤fs[k].d∧fs[k].d≤hi):=by simpa[bV]using h5
   refine⟨fs.length-(k+1),by omega,k+1,by omega,rfl,t0,t2,t3,t46,t47,by omega,id,?_⟩
   rw[tk,Vj lo n _ _ (by omega)]
   simp[go_sem,hlt,t11,hG]
 ·have hk':k=fs.length:=by simp at h;omega
  subst hk'
  have hnn:n=(hi-lo+1).toNat:=by omega
  have hpr:iQ o fs lo hi=match run fs lo 0 n o with|none=>([],2)|some l=>(l,0):=by
   rw[hnn]
   unfold iQ
   rw[if_neg (by simp[h0]),if_neg (by simp[h1,h2,h3]),if_neg h4]
  rw[zT]at hH hG
  simp[go_sem,hP,t11,hG,hlt]
  refine cV 14 66 2 (by simp[go_sem]) ?_
  refine az (fun m s=>∃(i id id2:Nat) (oi:Int) (l:List Pos),i+m=n∧l.length≤i∧s.t 2=iv lo∧s.t 69= .sref id 0 n∧s.t 70=iv n∧s.t 71=iv i∧s.t 0=iv oi∧(-1000000000000000≤oi∧oi≤1000000000000000)∧s.t 14= .sref id2 0 l.length∧¬id2=id∧
   s.H[id]?=some (some ⟨3,1,dl lo n fs⟩)∧s.H[id2]?=some (some ⟨66,2,l.map Pos.cells⟩)∧run fs lo 0 n o=(run fs lo i m oi).map (l++·)) n (by rw[hN];rfl) ?_ ?_
  ·refine⟨0,id,s.H.length,o,[],by simp,by simp,by simp[go_sem,t2],by simp[go_sem],by simp[go_sem],by simp[go_sem],by simp[go_sem,t0],b1,by simp[go_sem],by omega,by simp[go_sem,hlt,hG],by simp[go_sem],by simp⟩
  rintro m s ⟨i,id,id2,oi,l,him,hll,t2,t69,t70,t71,t0,ho,t14,hne,hH,hH2,hrun⟩
  obtain⟨hlt,hG⟩:=zM.1 hH
  obtain⟨hlt2,hG2⟩:=zM.1 hH2
  simp[go_sem,hP,t70,t71]
  refine aB ?_ ?_<;>intro h
  ·have hin:i<n:=by simpa using h
   obtain⟨m,rfl⟩:∃m',m=m'+1:=⟨m-1,by omega⟩
   have hD:=pY (lo+i) fs fun f hf=>(k2 f hf).2
   have w7:=ae (oi+delta fs (lo+i)) (by omega)
   have w8:=ae (lo+i) (by omega)
   have w9:IntKind.i64.wrap (↑i+1)=((i+1:Nat):Int):=by rw[ae _ (by omega)];rfl
   simp[go_sem,hP,t70,t71,t0,t69,hlt,hG,hin,NY,Kv,w7]
   refine ai (nU (oi+delta fs (lo+i))) hP KC (ak (by simp[go_sem])) .sc ?_
   simp[go_sem,hP]
   refine aB ?_ ?_<;>intro h6
   ·have b8: -1000000000000000≤oi+delta fs (lo+i)∧oi+delta fs (lo+i)≤1000000000000000:=by simpa[ge,bV]using h6
    simp[go_sem,hP,t2,t14,hlt,hlt2,hG,hG2,w8,t71,w9]
    refine⟨by omega,by omega,m,by omega,i+1,by omega,id,s.H.length,_,l++[⟨lo+i,oi+delta fs (lo+i)⟩],by simp;omega,t69,t70,by omega,rfl,b8,⟨rfl,by simp⟩,by omega,?_,?_,?_⟩
    ·simp[go_sem,hlt,hne,hG]
    ·simp[go_sem,Pos.cells]
    ·rw[hrun,run,if_pos (by rw[h6])]
     cases run fs lo (i+1) m (oi+delta fs (lo+i))<;>simp
   ·simp[go_sem,hP,Tryz.f12]
    refine aK 2 ?_
    have:run fs lo 0 n o=none:=by rw[hrun,run,if_neg (by rw[h6];simp)];rfl
    rw[hpr,this]
    rfl
  ·have hin:m=0:=by simp at h;omega
   subst hin
   simp[go_sem,hP,Tryz.f12,t14]
   have:run fs lo 0 n o=some l:=by rw[hrun];simp[run]
   refine done (x:= .tup [I5 l,iv 0]) ?_ ?_ ?_
   ·simp[go_sem,hlt2,hG2,Pos.cells]
   ·rw[hpr,this]
   ·simp[go_sem,hlt2,hG2,I5]
open Go.PA
open Go.RowKit
def eR (a b:Flow):Bool:=decide (a.d<b.d)||(decide (a.d=b.d)&&(decide (a.k<b.k)||(decide (a.k=b.k)&&decide (a.n<b.n))))
theorem Vl (a b:Flow):decide (orI [jg a.d b.d,jg a.k b.k,jg a.n b.n]<0)=eR a b:=by
 grind [jg,orI,eR]
theorem J5 (a b:Flow):PFun Tryz.prog none none 112 [.agg a.cells,.agg b.cells] (fun r=>∃i:Int,r=iv i∧decide (i<0)=eR a b):=by
 refine ab Tryz.func112 rfl (by simp[Tryz.f112]) (by kernel_rfl) ?_
 intro E hP hr hs hW hN
 simp[go_sem,hP,Flow.cells]
 refine aq (fun _=>true) [] hP (by kernel_rfl) (by kernel_rfl) ?_
 simp[go_sem,hP]
 refine ai (fe a.d b.d) hP rj (ak (by simp[go_sem])) .sc ?_
 simp[go_sem,hP]
 refine ai (fe a.k b.k) hP rj (ak (by simp[go_sem])) .sc ?_
 simp[go_sem,hP]
 refine ai (fe a.n b.n) hP rj (ak (by simp[go_sem])) .sc ?_
 simp[go_sem,hP]
 refine ai (K0 [jg a.d b.d,jg a.k b.k,jg a.n b.n] (by simp)) hP Kw (ak (by simp[go_sem])) .sc ?_
 simp[go_sem,hP]
 exact Vl a b
theorem T1:oB Flow.cells eR 112:=by
 refine⟨fun a=>rfl,fun a c h=>?_,Vs,J5⟩
 simp[Flow.cells]at h
 rcases h with rfl|rfl|rfl|rfl<;>exact⟨.sc,rfl⟩
theorem KP:SOrd eR where
 asym a b h:=by
  simp only[eR,wZ,zG,zI,Bool.or_eq_false_iff,Bool.and_eq_false_iff,wH]at h⊢
  omega
 tr a b c h1 h2:=by
  simp only[eR,Bool.or_eq_false_iff,Bool.and_eq_false_iff,wH]at h1 h2⊢
  omega
abbrev ke (fs:List Flow):Option AObj:=some ⟨97,4,ao Flow.cells fs⟩
theorem KZ {row src:Option Nat} (l:List Flow) (H:ah) (id n:Nat) (hn:n=l.length) (hb9:n≤1000000) (hH:H[id]?=some (ke l)):
  MFun Tryz.prog row src 44 [.sref id 0 n] H (fun r H'=>r= .sref id 0 n∧H'=H.set id (ke (gG eR l))):=by
 refine aG Tryz.func44 rfl (by simp[Tryz.f44]) (by kernel_rfl) ⟨_,_,rfl,rfl⟩ ?_
 intro E hP hr hs hN
 simp[go_sem,hP]
 refine aI (mw Flow.cells eR _ T1 KP l H id n hn (by omega) hH) hP (by kernel_rfl) ?_
 rintro r H' rfl
 rw[pw KP]
 simp[go_sem,hP]
theorem sN (a:Flow) (c:AV) (h:c∈a.cells):Imm c:=by
 simp[Flow.cells]at h
 rcases h with rfl|rfl|rfl|rfl<;>exact .sc
open Go.PA
open Go.RowKit
theorem JY (w:World):Calls Tryz.prog 108 #[.slice none 0 0,.int .i64 0] w fun e w'=>e= .returned (.slice none 0 0)∧w'=w:=by
 go_enter Tryz.func108,Tryz.ntmps108
 go_wp2
 go_ret
 exact⟨rfl,rfl⟩
set_option maxRecDepth 8000 in
set_option maxHeartbeats 1000000 in
theorem J1 (n:Nat) (h1:1≤n) (hb:n*32≤140737488355328) (h63:n≤4611686018427387904) (i0:TypeInfo) (z:Value) (hi0:Tryz.prog.info? 97=some i0) (hz0:i0.zero=some z) (hs0:0<i0.size) (hbytes:i0.bytes=32) (w:World):
  Calls Tryz.prog 108 #[.slice none 0 0,.int .i64 n] w fun e w'=>e= .returned (.slice (some ⟨w.heap.size,0,none⟩) 0 (grownCap w n 0 97))∧w'=w.drew.alloc (.cells (([]:List Value).toArray++Builtin.zeroCells z.cells n++Builtin.zeroCells z.cells (grownCap w n 0 97-n)) 97):=by
 have h1':¬((n:Int)<0):=by omega
 have h2:wrap64 (0:Int)=0:=by unfold wrap64;omega
 have h3:wrap64 (n:Int)=(n:Int):=by unfold wrap64;omega
 have h4:(n:Int)>0:=by omega
 have hrz:∀ty,(Builtin.append_ #[45,3] ty #[.slice none 0 0,.int .i64 n]).run Tryz.prog w=
   .ok (.slice (some ⟨w.heap.size,0,none⟩) n (grownCap w n 0 97)) (w.drew.alloc (.cells (([]:List Value).toArray++Builtin.zeroCells z.cells n++Builtin.zeroCells z.cells (grownCap w n 0 97-n)) 97)):=fun ty=>by
  have h:=Lib.run_append_grow_zeros w 45 3 ty 97 i0 z .i64 .i64 Tryz.underlying45 Tryz.underlying3 hi0 hz0 none 0 0 [] (run_firstCells_none w.drew i0.size 0 0 0) n (by omega) hs0 (by omega) (by omega) (by rw[hbytes];omega) (by rw[hbytes,vR];exact growslice_fits (by omega) (by omega))
  simp only[vR]at h
  exact h
 have hGn:n≤grownCap w n 0 97:=grownCap_ge w _ _ _
 obtain⟨G,hG⟩:∃G,G=grownCap w n 0 97:=⟨_,rfl⟩
 rw[←hG]at hrz hGn⊢
 have hG63:G≤9223372036854775807:=by
  have:=grownCap_le_maxLen w n 0 97 (by unfold maxLen;omega)
  rw[←hG]at this
  unfold maxLen at this
  omega
 clear hG
 go_enter Tryz.func108,Tryz.ntmps108
 go_wp2_with (at_builtin;refine Lib.wpList_append_run _ rfl _ _ _ _ rfl _ _ rfl rfl _ _ (hrz _) ?_)
 all_goals (go_ret;exact⟨rfl,rfl⟩)
theorem Fg {row src:Option Nat} (n:Nat) (hn:n≤1000000) (H:ah):MFun Tryz.prog row src 108 [.nil,iv n] H (fun r H'=>r= .sref H.length 0 0∧H'=H++[some ⟨97,4,[]⟩]):=by
 obtain⟨i0,hi0⟩:∃i,Tryz.prog.info? 97=some i:=wU.1 (by kernel_rfl)
 have hz0':(i0.zero).isSome=true:=by
  have:((Tryz.prog.info? 97).bind (·.zero)).isSome=true:=by kernel_rfl
  rw[hi0]at this
  simpa using this
 obtain⟨z,hz0⟩:=wU.1 hz0'
 have hsz:i0.size=4:=by
  have:((Tryz.prog.info? 97).map (·.size))=some 4:=by kernel_rfl
  rw[hi0]at this
  simpa using this
 have hby:i0.bytes=32:=by
  have:((Tryz.prog.info? 97).map (·.bytes))=some 32:=by kernel_rfl
  rw[hi0]at this
  simpa using this
 have hzc:z.cells.size=4:=by
  have:(((Tryz.prog.info? 97).bind (·.zero)).map (·.cells.size))=some 4:=by kernel_rfl
  rw[hi0]at this
  simp only[Option.bind_some,hz0,vI,zB]at this
  exact this
 refine MFun.mono (C:=fun r H'=>r= .sref H.length 0 0∧H'=H++[some ⟨97,4,[]⟩]) ?_ (fun _ _ h=>h)
 intro E hP hrow hsrc
 refine⟨⟨_,_,rfl,rfl⟩,fun w ρ ok vs g hsz' hrep=>?_⟩
 rw[hP]
 have hv0:=hrep 0 (vs[0]'(by simp at hsz';omega)) .nil (zX _) rfl
 have hv1:=hrep 1 (vs[1]'(by simp at hsz';omega)) (iv n) (zX _) rfl
 have e1:=cM hv1
 have e0:vs[0]'(by simp at hsz';omega)= .slice none 0 0:=by
  generalize vs[0]'(by simp at hsz';omega)=v at hv0
  cases hv0
  rfl
 have hvs:vs=#[.slice none 0 0,.int .i64 n]:=by
  apply Array.ext
  ·simpa using hsz'
  ·intro i h1 h2
   match i with
   |0=>simpa using e0
   |1=>simpa using e1
   |i+2=>simp at h2;omega
 subst hvs
 rcases wR n with rfl|hpos
 ·refine (JY w).mono ?_
  rintro e w' ⟨rfl,rfl⟩
  obtain⟨g2,x2⟩:=g.add ⟨97,4,[]⟩ none rfl (by simp) (by simp)
  exact⟨_,_,_,_,_,rfl,⟨rfl,rfl⟩,g2,x2,.srefNil cO (by simp[fK])⟩
 ·refine (J1 n hpos (by omega) (by omega) i0 z hi0 hz0 (by omega) hby w).mono ?_
  rintro e w' ⟨rfl,rfl⟩
  have hGn:n≤grownCap w n 0 97:=grownCap_ge w _ _ _
  have hG63:=grownCap_le_maxLen w n 0 97 (by unfold maxLen;omega)
  obtain⟨G,hG⟩:∃G,G=grownCap w n 0 97:=⟨_,rfl⟩
  rw[←hG]at hGn hG63⊢
  obtain⟨g1,x1⟩:=g.step (w':=w.drew) (ok':=ok) (fun _=>False) rfl rfl rfl (zZ _) (fun _ _ _=>rfl) (fun _ h=>h.elim) (fun _ h=>h) (fun _ h=> .inl h)
  obtain⟨g2,x2⟩:=g1.newObj ⟨97,4,[]⟩ G (([]:List Value).toArray++Builtin.zeroCells z.cells n++Builtin.zeroCells z.cells (G-n)) (by
   simp only[Array.size_append,Builtin.zeroCells,Array.size_map,Array.size_range,hzc]
   simp
   omega) (by simp) hG63 (by simp) (by simp)
  refine⟨_,.sref H.length 0 0,_,_,_,rfl,⟨rfl,rfl⟩,g2,x1.trans x2,?_⟩
  have:=Rep.sref (w:=w.drew.alloc (.cells (([]:List Value).toArray++Builtin.zeroCells z.cells n++Builtin.zeroCells z.cells (G-n)) 97)) (ρ:=fK ρ H.length (some (w.drew.heap.size,G))) (H:=H++[some ⟨97,4,[]⟩]) (ok:=ok) (id:=H.length) (lo:=0) (n:=0) (c:=G) cO (b:=w.drew.heap.size) (cap:=G) (by simp[fK]) (by simp) (fun _=>rfl) (Nat.zero_le _) hG63
  simpa using this
theorem Cn {row src:Option Nat} (ls:List (List Flow)) (al:List Flow) (hal:al=ls.flatten) (hl:ls.length≤1000) (hn:al.length≤1000000) (H:ah):
  MFun Tryz.prog row src 42 [.list 1 (ls.map fun l=>[.list 4 (ao Flow.cells l)])] H (fun r H'=>∃id,r= .sref id 0 al.length∧H.length≤id∧H'[id]?=some (some ⟨97,4,ao Flow.cells al⟩)∧Kept [] H H'):=by
 subst hal
 refine aG Tryz.func42 rfl (by simp[Tryz.f42]) (by kernel_rfl) ⟨_,H++[some ⟨97,4,ao Flow.cells ls.flatten⟩],H.length,rfl,zZ _,by simp,fB _ (aD _ _)⟩ ?_
 intro E hP hr hs hN
 simp -dsimp -implicitDefEqProofs [-getElem?_pos,go_sem,hP]
 obtain⟨I,hI⟩:∃I:Nat→St→Prop,I=fun m s=>∃k:Nat,k≤ls.length∧m=ls.length-k∧s.t 0= .list 1 (ls.map fun l=>[.list 4 (ao Flow.cells l)])∧s.t 9= .list 1 (ls.map fun l=>[.list 4 (ao Flow.cells l)])∧s.t 10=iv ls.length∧s.t 11=iv k∧s.t 3=iv ((ls.take k).flatten.length:Nat)∧s.H=H:=⟨_,rfl⟩
 refine az I ls.length (by rw[hN];rfl) ?_ ?_
 ·rw[hI]
  exact⟨0,by omega,by omega,rfl,rfl,rfl,rfl,rfl,rfl⟩
 intro m s hs'
 rw[hI]at hs'
 obtain⟨k,hk,hm,t0,t9,t10,t11,t3,sH⟩:=hs'
 simp -dsimp -implicitDefEqProofs [-getElem?_pos,go_sem,hP,t11,t10]
 have flat:∀k,k≤ls.length→(ls.take k).flatten.length≤ls.flatten.length:=fun k hk=>by
  have:=congrArg List.length (congrArg List.flatten (vV k ls))
  simp only[List.flatten_append,zK]at this
  omega
 refine aB ?_ ?_<;>intro h
 ·have hk:k<ls.length:=by simpa using h
  obtain⟨l,hl'⟩:∃l,ls[k]?=some l:=⟨_,zF hk⟩
  have e1:ls.take (k+1)=ls.take k++[l]:=by rw[wJ,hl'];rfl
  have e2:(ls.take (k+1)).flatten.length=(ls.take k).flatten.length+l.length:=by rw[e1];simp
  have:=flat (k+1) (by omega)
  have wk:=ae ((k:Int)+1) (by omega)
  have w3:=ae (((ls.take k).flatten.length:Int)+(l.length:Int)) (by omega)
  have hneg:decide (((ls.take k).flatten.length:Int)+(l.length:Int)<0)=false:=by simp;omega
  obtain⟨m1,hm1⟩:∃m1,m1=(ls.take k).flatten.length:=⟨_,rfl⟩
  rw[←hm1]at w3 hneg t3 e2
  simp -dsimp -implicitDefEqProofs [-getElem?_pos,go_sem,hP,t9,t11,hk,hl',t3,w3,hneg,wk]
  refine⟨ls.length-(k+1),by omega,?_⟩
  rw[hI]
  exact⟨k+1,by omega,rfl,t0,t9,t10,rfl,by rw[e2];simp -dsimp -implicitDefEqProofs [-getElem?_pos,go_sem],sH⟩
 ·have hk:k=ls.length:=by simp at h;omega
  subst hk
  rw[zT]at t3
  obtain⟨n,hnn⟩:∃n,n=ls.flatten.length:=⟨_,rfl⟩
  rw[←hnn]at t3
  simp -dsimp -implicitDefEqProofs [-getElem?_pos,go_sem,hP,t3]
  refine aI (Fg n (by omega) s.H) hP (by kernel_rfl) ?_
  rintro r H' ⟨rfl,rfl⟩
  simp -dsimp -implicitDefEqProofs [-getElem?_pos,go_sem,hP,t0]
  obtain⟨J,hJ⟩:∃J:Nat→St→Prop,J=fun m s=>∃(k id:Nat),k≤ls.length∧m=ls.length-k∧s.t 25= .list 1 (ls.map fun l=>[.list 4 (ao Flow.cells l)])∧s.t 26=iv ls.length∧s.t 27=iv k∧s.t 6= .sref id 0 (ls.take k).flatten.length∧H.length≤id∧s.H[id]?=some (some ⟨97,4,ao Flow.cells (ls.take k).flatten⟩)∧Kept [] H s.H:=⟨_,rfl⟩
  refine az J ls.length (by rw[hN];rfl) ?_ ?_
  ·rw[hJ]
   exact⟨0,H.length,by omega,by omega,rfl,rfl,rfl,by simp -dsimp[-getElem?_pos,go_sem,sH],zZ _,by simp -dsimp[-getElem?_pos,go_sem,sH],by simp -dsimp[-getElem?_pos,go_sem,sH];exact fB _ (aD _ _)⟩
  clear t0 t9 t10 t11 t3 sH
  intro m s hs'
  rw[hJ]at hs'
  obtain⟨k,id,hk,hm,t25,t26,t27,t6,hid,hH,hKp⟩:=hs'
  simp -dsimp -implicitDefEqProofs [-getElem?_pos,go_sem,hP,t26,t27]
  refine aB ?_ ?_<;>intro h
  ·have hk:k<ls.length:=by simpa using h
   obtain⟨l,hl'⟩:∃l,ls[k]?=some l:=⟨_,zF hk⟩
   have e1:ls.take (k+1)=ls.take k++[l]:=by rw[wJ,hl'];rfl
   have e2:(ls.take (k+1)).flatten=(ls.take k).flatten++l:=by rw[e1];simp
   have hle:=flat (k+1) (by omega)
   have wk:=ae ((k:Int)+1) (by omega)
   rw[e2,zK]at hle
   obtain⟨fl,hfl⟩:∃fl,fl=(ls.take k).flatten:=⟨_,rfl⟩
   rw[←hfl]at e2 t6 hH hle
   have hlt:=(gsI hH)
   simp -dsimp -implicitDefEqProofs [-getElem?_pos,go_sem,hP,t25,t27,hk,hl',t6,hH,wk]
   refine⟨by omega,by omega,ls.length-(k+1),by omega,?_⟩
   rw[hJ]
   refine⟨k+1,s.H.length,by omega,rfl,t25,t26,rfl,by simp -dsimp[-getElem?_pos,go_sem,e2],by omega,?_,?_⟩
   ·simp -dsimp -implicitDefEqProofs [-getElem?_pos,go_sem,e2,On]
   ·simp -dsimp -implicitDefEqProofs [-getElem?_pos,go_sem]
    exact fB _ (tJ _ hid hKp)
  ·have hk:k=ls.length:=by simp at h;omega
   subst hk
   rw[zT]at t6 hH
   simp -dsimp -implicitDefEqProofs [-getElem?_pos,go_sem,hP,t6]
   exact⟨hid,hH,hKp⟩
def v8 (al:List Flow):List Flow×Int:=if eJ al=0 then (gG eR al,0)else ([],eJ al)
theorem Qr (ls:List (List Flow)) (al:List Flow) (hal:al=ls.flatten) (hl:ls.length≤1000) (hn:al.length≤100000):
  PFun Tryz.prog none none 10 [.list 1 (ls.map fun l=>[bJ l])] (·= .tup [bJ (v8 al).1,iv (v8 al).2]):=by
 refine ab Tryz.func10 rfl (by simp[Tryz.f10]) (by kernel_rfl) ?_
 intro E hP hr hs hW hN
 simp -dsimp -implicitDefEqProofs [go_sem,hP]
 refine aI (Cn (row:=E.row) (src:=E.src) ls al hal hl (by omega) _) hP (by kernel_rfl) ?_
 clear hal
 rintro r H' ⟨id,rfl,hid,hH,hKp⟩
 have hi:=aY Flow.cells (k:=4) sN al
 simp -dsimp -implicitDefEqProofs [go_sem,hP]
 refine ai (BK al (by omega)) hP Tx (ez hH (by simp[ao]) hi (aZ.2 trivial)) .sc ?_
 simp -dsimp -implicitDefEqProofs [go_sem,hP]
 refine aB ?_ ?_<;>intro h0
 rotate_left
 ·simp -dsimp -implicitDefEqProofs [go_sem,hP]
  refine aK 4 ?_
  have:¬eJ al=0:=by simpa using h0
  simp[v8,this,bJ]
 have h0:eJ al=0:=by simpa using h0
 simp -dsimp -implicitDefEqProofs [go_sem,hP]
 have ho:=KZ (row:=E.row) (src:=E.src) al H' id (al.length) rfl (by omega) hH
 refine aI ho hP TL ?_
 rintro r H'' ⟨rfl,rfl⟩
 have hlt:=(gsI hH)
 simp -dsimp -implicitDefEqProofs [go_sem,hP]
 have e5:=fL Flow.cells (gG eR al) al.length (by rw[mH])
 refine done (x:= .tup [bJ (gG eR al),iv 0]) ?_ (by simp[v8,h0,bJ]) ?_
 ·simp -dsimp -implicitDefEqProofs [-getElem?_pos,go_sem,hlt,e5]
  exact dv.1 (aY Flow.cells (k:=4) sN _)
 ·simp -dsimp -implicitDefEqProofs [-getElem?_pos,go_sem,hlt,e5]
  rfl
open Go.PA
open Go.RowKit
open Go.PA
def bu (n lo hi:Int):Bool:=decide (lo≤n)&&decide (n≤hi)
theorem jm {n lo hi:Int}:bu n lo hi=true↔lo≤n∧n≤hi:=by simp[bu]
def vB (n:Int):Bool:=bu n 0 1000000000000
def yp:Int→List Int→Bool
 |_,[]=>true
 |p,i::l=>bu i 1 1000&&(decide (p<i)&&yp i l)
def iJ (ids:List Int):Bool:=yp 0 ids&&decide (ids.head?=some 1)
def ids (l:List TSub):List Int:=l.map (·.ID)
theorem fG (l:List TSub):(ids l).length=l.length:=by simp[ids]
theorem EA (l:List TSub) (i:Nat):(ids l)[i]?=(l[i]?).map (·.ID):=by simp[ids]
theorem EY:∀(l:List Int) (p:Int),yp p l=true→∀i,i∈l→p<i∧1≤i∧i≤1000
 |[],p,_,i,hi=>by simp at hi
 |a::l,p,h,i,hi=>by
  simp only[yp,zG,jm,zI]at h
  rcases zO.1 hi with rfl|hi
  ·exact⟨h.2.1,h.1⟩
  ·have:=EY l a h.2.2 i hi
   omega
theorem A3:∀(l:List Int) (p:Int),yp p l=true→l.Nodup
 |[],p,_=>List.nodup_nil
 |a::l,p,h=>by
  simp only[yp,zG,jm,zI]at h
  refine List.nodup_cons.2 ⟨fun hm=>?_,A3 l a h.2.2⟩
  have:=EY l a h.2.2 a hm
  omega
def adj (l:List TSub) (id amt:Int):List TSub:=l.map fun s=>if s.ID=id then⟨s.ID,s.Balance+amt⟩else s
theorem bm (l:List TSub) (id amt:Int):(adj l id amt).length=l.length:=by simp[adj]
theorem fR (l:List TSub) (id amt:Int):ids (adj l id amt)=ids l:=by
 simp only[ids,adj,List.map_map]
 apply vA
 intro s _
 simp only[Function.comp]
 split<;>rfl
theorem si {l:List TSub} {id amt:Int} (h:id∉ids l):adj l id amt=l:=by
 have:∀s,s∈l→(if s.ID=id then (⟨s.ID,s.Balance+amt⟩:TSub)else s)=s:=fun s hs=>by
  rw[if_neg]
  intro e
  exact h (zV.2 ⟨s,hs,e⟩)
 unfold adj
 rw[vA this]
 simp
theorem ka (l:List TSub) (id amt:Int) (i:Nat):(adj l id amt)[i]?=(l[i]?).map fun s=>if s.ID=id then⟨s.ID,s.Balance+amt⟩else s:=by simp[adj]
theorem ur {l:List TSub} (h:(ids l).Nodup) {i j:Nat} {a b:TSub} (hi:l[i]?=some a) (hj:l[j]?=some b) (e:a.ID=b.ID):i=j:=by
 have h1:(ids l)[i]?=some a.ID:=by rw[EA,hi];rfl
 have h2:(ids l)[j]?=some a.ID:=by rw[EA,hj,e];rfl
 exact (List.getElem?_inj (gsI h1) h).1 (h1.trans h2.symm)
theorem sM {l:List TSub} (hn:(ids l).Nodup) {i:Nat} {a:TSub} (hi:l[i]?=some a) (amt:Int):l.set i ⟨a.ID,a.Balance+amt⟩=adj l a.ID amt:=by
 apply List.ext_getElem?
 intro j
 rw[ka,wO]
 by_cases hij:i=j
 ·subst hij
  have:=(gsI hi)
  simp[-getElem?_pos,this,hi]
 ·rw[if_neg hij]
  cases hj:l[j]? with
  |none=>rfl
  |some b=>
   have:¬b.ID=a.ID:=fun e=>hij (ur hn hi hj e.symm)
   simp[this]
def fO (l:List TSub) (id:Int):Int:=fD (fun s=>decide (s.ID=id)) l
theorem jK (l:List TSub) (id:Int):(fO l id= -1∧id∉ids l)∨∃(i:Nat) (a:TSub),l[i]?=some a∧a.ID=id∧fO l id=(i:Int)∧id∈ids l:=by
 rcases dF (fun s:TSub=>decide (s.ID=id)) l with⟨h1,h2⟩|⟨i,a,h1,h2,h3,_⟩
 ·refine .inl ⟨h1,fun hm=>?_⟩
  obtain⟨s,hs,e⟩:=zV.1 hm
  have:=h2 s hs
  simp[e]at this
 ·exact .inr ⟨i,a,h1,by simpa using h2,h3,zV.2 ⟨a,zE h1,by simpa using h2⟩⟩
def fC (credit:Int) (s:TSub):Bool:=decide ((if s.ID=1 then -credit else 0)≤s.Balance)&&decide (s.Balance≤1000000000000000)
def fc (credit:Int) (l:List TSub) (id:Int):Bool:=l.all fun s=>!decide (s.ID=id)||fC credit s
def jU (credit:Int) (l:List TSub):Bool:=l.all (fC credit)
theorem qq {credit:Int} {l:List TSub} {id:Int} (h:id∉ids l):fc credit l id=true:=by
 refine zS.2 fun s hs=>?_
 have:¬s.ID=id:=fun e=>h (zV.2 ⟨s,hs,e⟩)
 simp[this]
theorem pQ {credit:Int} {l:List TSub} (hn:(ids l).Nodup) {i:Nat} {a:TSub} (hi:l[i]?=some a):fc credit l a.ID=fC credit a:=by
 rw[Bool.eq_iff_iff,fc,zS]
 constructor
 ·intro h
  have:=h a (zE hi)
  simpa using this
 ·intro h s hs
  obtain⟨j,hj⟩:=wN hs
  by_cases e:s.ID=a.ID
  ·have:=ur hn hi hj e.symm
   subst this
   rw[hi]at hj
   simp only[zB]at hj
   subst hj
   simp[h]
  ·simp[e]
def mB (n:Int) (e:TEntry):Bool:=!decide (e.Number=n+1)
def j5 (d:Int) (e:TEntry):Bool:=!bu e.Day d 36000
def kP (e:TEntry):Bool:=!(decide (0<e.Amount)&&vB e.Amount)||!bu e.Ref 0 1000000
def jr (l:List TSub) (id:Int):Bool:=decide (id=0)||decide (0≤fO l id)
theorem n8 (l:List TSub) (id:Int):jr l id=true↔id=0∨id∈ids l:=by
 unfold jr
 rcases jK l id with⟨h1,h2⟩|⟨i,a,_,_,h3,h4⟩
 ·simp[h1,h2]
 ·simp[h3,h4]
def eC (l:List TSub) (e:TEntry):Bool:=decide (e.From=e.To)||(!jr l e.From||!jr l e.To)
def aV (credit n d:Int) (l:List TSub) (e:TEntry):Int×List TSub:=
 if mB n e=true then (65,l)else if j5 d e=true then (8,l)else if kP e=true then (2,l)else if eC l e=true then (60,l)else
 if fc credit (adj l e.From (-e.Amount)) e.From=false then (61,adj l e.From (-e.Amount))else
 if fc credit (adj (adj l e.From (-e.Amount)) e.To e.Amount) e.To=false then (61,adj (adj l e.From (-e.Amount)) e.To e.Amount)else (0,adj (adj l e.From (-e.Amount)) e.To e.Amount)
def bD (credit:Int):Int→Int→List TSub→List TEntry→Option (Int×Int×List TSub)
 |n,d,l,[]=>some (n,d,l)
 |n,d,l,e::es=>if (aV credit n d l e).1=0 then bD credit e.Number e.Day (aV credit n d l e).2 es else none
def cC (l:List TSub):List TSub:=l.map fun s=>⟨s.ID,0⟩
theorem qr (l:List TSub):ids (cC l)=ids l:=by simp[ids,cC]
theorem ng (l:List TSub):(cC l).length=l.length:=by simp[cC]
def aF (a:TAccount):Int:=
 if 20<a.Subs.length∨400<a.Entries.length then 3 else if (!vB a.Credit||!iJ (ids a.Subs))=true then 62 else
 match bD a.Credit 0 0 (cC a.Subs) a.Entries with
 |none=>62
 |some r=>if r.2.2=a.Subs then 0 else 62
theorem kx (credit n d:Int) (l:List TSub) (e:TEntry):ids (aV credit n d l e).2=ids l:=by
 unfold aV
 repeat' split
 all_goals simp[fR]
theorem ux {credit:Int} {l:List TSub} {id amt:Int} (h:jU credit l=true) (ha:fc credit (adj l id amt) id=true):jU credit (adj l id amt)=true:=by
 refine zS.2 fun s hs=>?_
 by_cases e:s.ID=id
 ·have:=zS.1 ha s hs
  simpa[e]using this
 ·obtain⟨t,ht,hst⟩:=zV.1 hs
  split at hst
  ·rename_i h'
   subst hst
   exact absurd h' e
  ·subst hst
   exact zS.1 h t ht
theorem kC {credit n d:Int} {l:List TSub} {e:TEntry} (h:(aV credit n d l e).1=0):
  e.Number=n+1∧d≤e.Day∧e.Day≤36000∧0<e.Amount∧e.Amount≤1000000000000∧0≤e.Ref∧e.Ref≤1000000∧e.From≠e.To∧(e.From=0∨e.From∈ids l)∧(e.To=0∨e.To∈ids l)∧
   fc credit (adj l e.From (-e.Amount)) e.From=true∧fc credit (adj (adj l e.From (-e.Amount)) e.To e.Amount) e.To=true∧(aV credit n d l e).2=adj (adj l e.From (-e.Amount)) e.To e.Amount:=by
 unfold aV at h⊢
 split at h
 ·simp at h
 rename_i h1
 rw[if_neg h1]
 split at h
 ·simp at h
 rename_i h2
 rw[if_neg h2]
 split at h
 ·simp at h
 rename_i h3
 rw[if_neg h3]
 split at h
 ·simp at h
 rename_i h4
 rw[if_neg h4]
 split at h
 ·simp at h
 rename_i h5
 rw[if_neg h5]
 split at h
 ·simp at h
 rename_i h6
 rw[if_neg h6]
 have h1:e.Number=n+1:=by simpa[mB]using h1
 have h2:d≤e.Day∧e.Day≤36000:=by simpa[j5,bu]using h2
 have h3:(0<e.Amount∧(0≤e.Amount∧e.Amount≤1000000000000))∧(0≤e.Ref∧e.Ref≤1000000):=by simpa[kP,vB,bu]using h3
 have h4:¬e.From=e.To∧(jr l e.From=true∧jr l e.To=true):=by simpa[eC]using h4
 rw[n8,n8]at h4
 exact⟨h1,h2.1,h2.2,h3.1.1,h3.1.2.2,h3.2.1,h3.2.2,h4.1,h4.2.1,h4.2.2,by simpa using h5,by simpa using h6,rfl⟩
theorem u6 {credit n d:Int} {l:List TSub} {e:TEntry} (h:(aV credit n d l e).1=0) (hl:jU credit l=true):jU credit (aV credit n d l e).2=true:=by
 obtain⟨_,_,_,_,_,_,_,_,_,_,h1,h2,h3⟩:=kC h
 rw[h3]
 exact ux (ux hl h1) h2
theorem m8 {credit:Int} (hc:0≤credit) (l:List TSub):jU credit (cC l)=true:=by
 refine zS.2 fun s hs=>?_
 obtain⟨t,_,rfl⟩:=zV.1 hs
 simp[fC]
 split<;>omega
theorem wy (credit:Int):∀(es es':List TEntry) (n d:Int) (l:List TSub),bD credit n d l (es++es')=(bD credit n d l es).bind fun r=>bD credit r.1 r.2.1 r.2.2 es'
 |[],es',n,d,l=>rfl
 |e::es,es',n,d,l=>by
  rw[vX,bD,bD]
  split
  ·exact wy credit es es' _ _ _
  ·rfl
theorem jI (credit:Int):∀(es:List TEntry) (n d:Int) (l:List TSub) (r:Int×Int×List TSub),jU credit l=true→bD credit n d l es=some r→
  jU credit r.2.2=true∧ids r.2.2=ids l∧r.1=n+es.length∧d≤r.2.1∧(d≤36000→r.2.1≤36000)
 |[],n,d,l,r,hl,h=>by
  simp only[bD,zB]at h
  subst h
  exact⟨hl,rfl,by simp,Int.le_refl _,fun h=>h⟩
 |e::es,n,d,l,r,hl,h=>by
  rw[bD]at h
  split at h
  ·rename_i hp
   obtain⟨h1,h2,h3,_⟩:=kC hp
   obtain⟨a1,a2,a3,a4,a5⟩:=jI credit es _ _ _ r (u6 hp hl) h
   refine⟨a1,a2.trans (kx _ _ _ _ _),by rw[a3,h1,wI];omega,by omega,fun _=>a5 h3⟩
  ·cases h
open Go.PA
open Go.RowKit
theorem xn {row src:Option Nat} (l:List TSub) (x:AV) (H:ah) (g:FuncId) (caps:List AV) (p:TSub→Bool) (hx:SlIs H x 2 (ao TSub.cells l)) (hl:l.length≤1000000) (hen:aa Tryz.prog g=true)
  (hg:∀a,a∈l→∀H',Kept [] H H'→MFun Tryz.prog row src g (.agg (TSub.cells a)::caps) H' (fun r H''=>r=bv (p a)∧Kept [] H' H'')):
  MFun Tryz.prog row src 249 [x,.fn g caps] H (fun r H'=>r=iv (fD p l)∧Kept [] H H'):=by
 refine aG Tryz.func249 rfl (by simp[Tryz.f249]) (by kernel_rfl) ⟨_,H,rfl,aD _ _⟩ ?_
 intro E hP hr hs hN
 have hlen:=hx.len
 rw[ar]at hlen
 simp -dsimp -implicitDefEqProofs [-getElem?_pos,go_sem,hP,hlen]
 obtain⟨I,hI⟩:∃I:Nat→St→Prop,I=fun m s=>∃k:Nat,k≤l.length∧m=l.length-k∧fD p l=bE p k (l.drop k)∧s.t 0=x∧s.t 1= .fn g caps∧s.t 7=iv l.length∧s.t 8=iv k∧Kept [] H s.H:=⟨_,rfl⟩
 refine az I l.length (by rw[hN];rfl) ?_ ?_
 ·rw[hI]
  exact⟨0,by omega,by omega,by simp[fD],rfl,rfl,rfl,rfl,by simp -dsimp[go_sem];exact aD _ _⟩
 intro m s hs'
 rw[hI]at hs'
 obtain⟨k,hk,hm,hi,t0,t1,t7,t8,hKp⟩:=hs'
 simp -dsimp -implicitDefEqProofs [go_sem,hP,t7,t8]
 refine aB ?_ ?_<;>intro h
 ·have hk:k<l.length:=by simpa using h
  obtain⟨a,ha⟩:=gkE hk
  have wk:=ae ((k:Int)+1) (by omega)
  obtain⟨ad,h1,h2⟩:=(hx.kept hKp).idx (P:=Tryz.prog) (t:=25) (e:=117) Wi (by rw[UM]) Uk k (by rw[ar];exact hk)
  have h2':aO s.H ad=some (TSub.cells a):=by
   rw[h2]
   have:=eW TSub.cells l k
   rw[ha,zF (by rw[ar];exact hk)]at this
   exact this
  have hz:(TSub.cells a).take 2=TSub.cells a:=zQ (by rw[TSub.len];omega)
  simp -dsimp -implicitDefEqProofs [go_sem,hP,t8,t1,t0,h1,h2',TSub.len,hz]
  have hd:l.drop k=a::l.drop (k+1):=by
   rw[zF hk]at ha
   rw[wE hk,wT ha]
  refine aI (by rw[hr,hs];exact hg a (zE ha) s.H hKp) hP hen ?_
  rintro r H' ⟨rfl,hK2⟩
  rw[hd]at hi
  simp only[bE]at hi
  simp -dsimp -implicitDefEqProofs [go_sem,hP]
  refine aB ?_ ?_<;>intro hp
  ·rw[if_pos hp]at hi
   simp -dsimp -implicitDefEqProofs [go_sem,hP]
   exact⟨hi.symm,hKp.trans hK2⟩
  ·rw[hp,if_neg (by simp)]at hi
   simp -dsimp -implicitDefEqProofs [go_sem,hP,t8,wk]
   refine⟨l.length-(k+1),by omega,?_⟩
   rw[hI]
   exact⟨k+1,by omega,rfl,hi,t0,t1,t7,rfl,by simp -dsimp[go_sem];exact hKp.trans hK2⟩
 ·have hk:k=l.length:=by simp at h;omega
  subst hk
  rw[wG]at hi
  simp -dsimp -implicitDefEqProofs [go_sem,hP]
  exact⟨hi.symm,hKp⟩
open Go.PA
open Go.RowKit
abbrev bw (l:List TSub):AV:= .list 2 (ao TSub.cells l)
abbrev cU (l:List TEntry):AV:= .list 6 (ao TEntry.cells l)
theorem aU (l:List TSub):Imm (bw l):=aY _ TSub.imm l
theorem pz (l:List TEntry):Imm (cU l):=aY _ TEntry.imm l
theorem cQ (a:TAccount):Imm (.agg a.cells):= .agg fun c hc=>a.imm c hc
theorem gR (e:TEntry):Imm (.agg e.cells):= .agg fun c hc=>e.imm c hc
theorem rO (n:Int):PFun Tryz.prog none none 137 [iv n] (·=bv (vB n)):=by
 refine ab Tryz.func137 rfl (by simp[Tryz.f137]) (by kernel_rfl) ?_
 intro E hP hr hs hW hN
 by_cases h1:0≤n<;>by_cases h2:n≤1000000000000<;>simp -dsimp[go_sem,hP,h1,h2,vB,bu]
theorem FH (n:Int):PFun Tryz.prog none none 141 [iv n] (·=bv (bu n 0 36000)):=by
 refine ab Tryz.func141 rfl (by simp[Tryz.f141]) (by kernel_rfl) ?_
 intro E hP hr hs hW hN
 by_cases h1:0≤n<;>by_cases h2:n≤36000<;>simp -dsimp[go_sem,hP,h1,h2,bu]
theorem ky (l:List TSub) (id:Int) (hl:l.length≤100000):PFun Tryz.prog none none 217 [bw l,iv id] (·=iv (fO l id)):=by
 refine ab Tryz.func217 rfl (by simp[Tryz.f217]) (by kernel_rfl) ?_
 intro E hP hr hs hW hN
 simp -dsimp[go_sem,hP]
 obtain⟨I,hI⟩:∃I:Nat→St→Prop,I=fun m s=>∃k:Nat,k≤l.length∧m=l.length-k∧fO l id=bE (fun s=>decide (s.ID=id)) k (l.drop k)∧s.t 1=iv id∧s.t 7=bw l∧s.t 8=iv l.length∧s.t 9=iv k:=⟨_,rfl⟩
 refine az I (l.length) (by rw[hN];rfl) ?_ ?_
 ·rw[hI]
  exact⟨0,by omega,by omega,by simp[fO,fD],rfl,rfl,rfl,rfl⟩
 intro m s hs'
 rw[hI]at hs'
 obtain⟨k,hk,hm,hi,t1,t7,t8,t9⟩:=hs'
 simp -dsimp[go_sem,hP,t8,t9]
 refine aB ?_ ?_<;>intro h
 ·have hk:k<l.length:=by simpa using h
  obtain⟨a,ha⟩:=gkE hk
  have wk:=ae ((k:Int)+1) (by omega)
  have hd:l.drop k=a::l.drop (k+1):=by
   rw[zF hk]at ha
   rw[wE hk,wT ha]
  rw[hd]at hi
  simp only[bE]at hi
  simp -dsimp[go_sem,hP,t9,t7,t1,ha,TSub.cells]
  refine aB ?_ ?_<;>intro hp
  ·rw[if_pos hp]at hi
   simp -dsimp[go_sem,hP]
   exact hi.symm
  ·rw[if_neg (by simpa using hp)]at hi
   simp -dsimp[go_sem,hP,t9,wk]
   refine⟨l.length-(k+1),by omega,?_⟩
   rw[hI]
   exact⟨k+1,by omega,rfl,hi,t1,t7,t8,rfl⟩
 ·have hk:k=l.length:=by simp at h;omega
  subst hk
  rw[wG]at hi
  simp -dsimp[go_sem,hP]
  exact hi.symm
theorem Oq (l:List TSub) (hl:l.length≤100000):PFun Tryz.prog none none 218 [bw l] (·=bw (cC l)):=by
 refine ab Tryz.func218 rfl (by simp[Tryz.f218]) (by kernel_rfl) ?_
 intro E hP hr hs hW hN
 simp -dsimp[go_sem,hP]
 refine cV 3 117 2 rfl ?_
 obtain⟨I,hI⟩:∃I:Nat→St→Prop,I=fun m s=>∃k id:Nat,k≤l.length∧m=l.length-k∧s.t 6=bw l∧s.t 7=iv l.length∧s.t 8=iv k∧s.t 3= .sref id 0 k∧s.H[id]?=some (some ⟨117,2,ao TSub.cells (cC (l.take k))⟩):=⟨_,rfl⟩
 refine E4 3 hW I (l.length) (by rw[hN];rfl) ?_ ?_
 ·rw[hI]
  exact⟨0,0,by omega,by omega,rfl,rfl,rfl,rfl,by simp -dsimp[-getElem?_pos,go_sem,cC]⟩
 intro m s hs'
 rw[hI]at hs'
 obtain⟨k,id,hk,hm,t6,t7,t8,t3,hH⟩:=hs'
 have hlt:=(gsI hH)
 simp -dsimp[go_sem,hP,t7,t8]
 refine aB ?_ ?_<;>intro h
 ·have hk:k<l.length:=by simpa using h
  obtain⟨a,ha⟩:=gkE hk
  have wk:=ae ((k:Int)+1) (by omega)
  have e1:l.take (k+1)=l.take k++[a]:=by rw[wJ,ha];rfl
  have hz:(cC (l.take k)).length=k:=by rw[ng];simp;omega
  have e2:=fL TSub.cells (cC (l.take k)) k hz.symm
  simp -dsimp[-getElem?_pos,go_sem,hP,t8,t6,ha,TSub.cells,t3,hH,hlt,e2,hz,wk]
  refine⟨by omega,by omega,l.length-(k+1),by omega,?_⟩
  rw[hI]
  refine⟨k+1,s.H.length+1,by omega,rfl,t6,t7,rfl,rfl,?_⟩
  simp -dsimp[go_sem,e1,cC,ao,TSub.cells]
 ·have hk:k=l.length:=by simp at h;omega
  subst hk
  rw[zT]at hH
  simp -dsimp[go_sem,hP]
  refine frz id l.length 117 2 (ao TSub.cells (cC l)) t3 hH (by simp[ao,cC]) (aU _) ?_
  simp -dsimp[go_sem,hP]
  exact aw (aU _) rfl
def nD (credit:Int) (l:List TSub) (last e:TEntry):List TSub×Int:=if (aV credit last.Number last.Day l e).1=0 then ((aV credit last.Number last.Day l e).2,0)else ([],(aV credit last.Number last.Day l e).1)
theorem fu (credit:Int) (s:TSub):fC credit s=true↔(if s.ID=1 then -credit else 0)≤s.Balance∧s.Balance≤1000000000000000:=by simp[fC]
theorem Ls {l:List TSub} (hn:(ids l).Nodup) {i:Nat} {a:TSub} (hi:l[i]?=some a):fO l a.ID=(i:Int):=by
 rcases jK l a.ID with⟨_,h2⟩|⟨j,b,h1,h2,h3,_⟩
 ·exact absurd (zV.2 ⟨a,zE hi,rfl⟩) h2
 ·rw[h3,ur hn hi h1 h2.symm]
set_option maxHeartbeats 1000000 in
theorem Rq (credit:Int) (l:List TSub) (last e:TEntry) (hl:l.length≤100000) (hc:0≤credit∧credit≤1000000000000) (hn:(ids l).Nodup) (h0:0∉ids l) (hok:jU credit l=true) (hln: -1000000000≤last.Number∧last.Number≤1000000000) (hld:0≤last.Day):
  PFun Tryz.prog none none 139 [iv credit,bw l,.agg last.cells,.agg e.cells] (·= .tup [bw (nD credit l last e).1,iv (nD credit l last e).2]):=by
 refine ab Tryz.func139 rfl (by simp[Tryz.f139]) (by kernel_rfl) ?_
 intro E hP hr hs hW hN
 have w1:=ae (last.Number+1) (by omega)
 have fin:∀(n:Int) (H:ah) (b),¬n=0→(aV credit last.Number last.Day l e).1=n→jh H (.tup [.nil,iv n]) (·= .tup [bw (nD credit l last e).1,iv (nD credit l last e).2]) b:=fun n H b hn0 hp=>by
  refine aK 2 ?_
  unfold nD
  rw[if_neg (by rw[hp];exact hn0),hp]
  simp[ao]
 by_cases h1:e.Number=last.Number+1
 rotate_left
 ·have h1':mB last.Number e=true:=by simpa[mB]using h1
  simp -dsimp -implicitDefEqProofs [go_sem,hP,TEntry.cells,w1,h1]
  exact fin 65 _ _ (by omega) (by rw[aV,if_pos h1'])
 have h1':¬mB last.Number e=true:=by simpa[mB]using h1
 by_cases h2:e.Day<last.Day
 ·have h2':j5 last.Day e=true:=by simp[j5,bu];omega
  simp -dsimp -implicitDefEqProofs [go_sem,hP,TEntry.cells,w1,h1,h2]
  exact fin 8 _ _ (by omega) (by rw[aV,if_neg h1',if_pos h2'])
 simp -dsimp -implicitDefEqProofs [go_sem,hP,TEntry.cells,w1,h1,h2]
 refine ai (FH e.Day) hP PF (ak (by simp -dsimp[go_sem])) .sc ?_
 by_cases h3:bu e.Day 0 36000=true
 rotate_left
 ·have h2':j5 last.Day e=true:=by simp[bu]at h3;simp[j5,bu];omega
  simp -dsimp -implicitDefEqProofs [go_sem,hP,h3]
  exact fin 8 _ _ (by omega) (by rw[aV,if_neg h1',if_pos h2'])
 have h2':¬j5 last.Day e=true:=by simp[bu]at h3;simp[j5,bu];omega
 simp -dsimp -implicitDefEqProofs [go_sem,hP,h3]
 refine ai (rO e.Amount) hP HZ (ak (by simp -dsimp[go_sem])) .sc ?_
 have b3:kP e=true↔¬(vB e.Amount=true∧¬e.Amount=0∧¬e.Ref<0∧¬1000000<e.Ref):=by
  simp[kP,vB,bu]
  omega
 by_cases h4:kP e=true
 ·have f4:∀(H:ah) (b),jh H (.tup [.nil,iv 2]) (·= .tup [bw (nD credit l last e).1,iv (nD credit l last e).2]) b:=fun H b=>fin 2 _ _ (by omega) (by rw[aV,if_neg h1',if_neg h2',if_pos h4])
  by_cases a1:vB e.Amount=true
  rotate_left
  ·simp -dsimp -implicitDefEqProofs [go_sem,hP,a1]
   exact f4 _ _
  by_cases a2:e.Amount=0
  ·have d2:decide (e.Amount=0)=true:=by simpa using a2
   simp -dsimp -implicitDefEqProofs [go_sem,hP,a1,d2]
   exact f4 _ _
  by_cases a3:e.Ref<0
  ·simp -dsimp -implicitDefEqProofs [go_sem,hP,a1,a2,a3]
   exact f4 _ _
  by_cases a4:1000000<e.Ref
  ·simp -dsimp -implicitDefEqProofs [go_sem,hP,a1,a2,a3,a4]
   exact f4 _ _
  ·exact absurd ⟨a1,a2,a3,a4⟩ (b3.1 h4)
 have h4':=h4
 rw[b3,Classical.not_not]at h4'
 have a1:=h4'.1
 have a2:=h4'.2.1
 have a3:=h4'.2.2.1
 have a4:=h4'.2.2.2
 clear h4'
 simp -dsimp -implicitDefEqProofs [go_sem,hP,a1,a2,a3,a4]
 have b5:eC l e=true↔¬(¬e.From=e.To∧(e.From=0∨0≤fO l e.From)∧(e.To=0∨0≤fO l e.To)):=by
  simp[eC,jr]
  grind
 by_cases a5:e.From=e.To
 ·have h5:eC l e=true:=b5.2 fun h=>h.1 a5
  have d5:decide (e.From=e.To)=true:=by simpa using a5
  simp -dsimp -implicitDefEqProofs [go_sem,hP,d5]
  exact fin 60 _ _ (by omega) (by rw[aV,if_neg h1',if_neg h2',if_neg h4,if_pos h5])
 have f5:∀(H:ah) (b),eC l e=true→jh H (.tup [.nil,iv 60]) (·= .tup [bw (nD credit l last e).1,iv (nD credit l last e).2]) b:=fun H b h5=>fin 60 _ _ (by omega) (by rw[aV,if_neg h1',if_neg h2',if_neg h4,if_pos h5])
 have iS:=aU l
 have two:∀(From:Int),From=0∧fO l From= -1∨¬From=0∧fO l From= -1∨∃(i:Nat) (a:TSub),¬From=0∧l[i]?=some a∧a.ID=From∧fO l From=(i:Int):=fun From=>by
  rcases jK l From with⟨p1,p2⟩|⟨i,a,p1,p2,p3,p4⟩
  ·by_cases hz:From=0
   ·exact .inl ⟨hz,p1⟩
   ·exact .inr (.inl ⟨hz,p1⟩)
  ·exact .inr (.inr ⟨i,a,fun hz=>h0 (hz▸p4),p1,p2,p3⟩)
 have e0:=fL TSub.cells l l.length rfl
 have pS:aV credit last.Number last.Day l e=if eC l e=true then (60,l)else if fc credit (adj l e.From (-e.Amount)) e.From=false then (61,adj l e.From (-e.Amount))else
   if fc credit (adj (adj l e.From (-e.Amount)) e.To e.Amount) e.To=false then (61,adj (adj l e.From (-e.Amount)) e.To e.Amount)else (0,adj (adj l e.From (-e.Amount)) e.To e.Amount):=by
  rw[aV,if_neg h1',if_neg h2',if_neg h4]
 have okR:∀L,aV credit last.Number last.Day l e=(0,L)→nD credit l last e=(L,0):=fun L h=>by unfold nD;rw[h];rfl
 have hamt:0≤e.Amount∧e.Amount≤1000000000000:=by simpa[vB,bu]using a1
 have okg:∀(i:Nat) (a:TSub),l[i]?=some a→fC credit a=true:=fun i a hi=>zS.1 hok a (zE hi)
 have bnd:∀(i:Nat) (a:TSub),l[i]?=some a→ -1000000000000≤a.Balance∧a.Balance≤1000000000000000:=fun i a hi=>by
  have:=(fu _ _).1 (okg i a hi)
  split at this<;>omega
 have wneg:=ae (0-credit) (by omega)
 rw[Int.zero_sub]at wneg
 rcases two e.From with⟨z1,p1⟩|⟨z1,p1⟩|⟨i,a,z1,i1,ea,p1⟩
 ·have d1:decide (e.From=0)=true:=by simpa using z1
  have nf:adj l e.From (-e.Amount)=l:=si (z1▸h0)
  have of:fc credit l e.From=true:=qq (z1▸h0)
  rcases two e.To with⟨z2,p2⟩|⟨z2,p2⟩|⟨j,b,z2,jL,eb,p2⟩
  ·exact absurd (z1.trans z2.symm) a5
  ·have h5:eC l e=true:=b5.2 fun h=>by have:=h.2.2;omega
   simp -dsimp -implicitDefEqProofs [go_sem,hP,a5,d1,z2]
   refine ai (ky l e.To hl) hP gU (aL iS (aL .sc (aZ.2 trivial))) .sc ?_
   simp -dsimp -implicitDefEqProofs [go_sem,hP,a5,d1,z2,p2]
   exact f5 _ _ h5
  ·have h5:eC l e=false:=by simpa using fun h=>b5.1 h ⟨a5,.inl z1,.inr (by omega)⟩
   have ok1:(if eC l e=true then ((60:Int),l)else if fc credit (adj l e.From (-e.Amount)) e.From=false then (61,adj l e.From (-e.Amount))else
     if fc credit (adj (adj l e.From (-e.Amount)) e.To e.Amount) e.To=false then (61,adj (adj l e.From (-e.Amount)) e.To e.Amount)else (0,adj (adj l e.From (-e.Amount)) e.To e.Amount))=
     if fc credit (adj l e.To e.Amount) e.To=false then (61,adj l e.To e.Amount)else (0,adj l e.To e.Amount):=by
    rw[nf,of,h5];simp
   have okb:=okg j b jL
   have hb:=bnd j b jL
   have wb:=ae (b.Balance+e.Amount) (by omega)
   have nL:=hn
   have q2:=p2
   simp -dsimp -implicitDefEqProofs [go_sem,hP,a5,d1,z2]
   refine ai (ky l e.To hl) hP gU (aL iS (aL .sc (aZ.2 trivial))) .sc ?_
   have d2:decide ((j:Int)<0)=false:=by simp
   simp -dsimp -implicitDefEqProofs [go_sem,hP,a5,d1,z2,p2,d2]
   refine⟨by omega,by omega,?_⟩
   refine ai (ky l e.From (by (try simp only[bm]);omega)) hP gU (ez rfl (by simp[ao,adj]) (aU _) (aL .sc (aZ.2 trivial))) .sc ?_
   simp -dsimp -implicitDefEqProofs [go_sem,hP,p1]
   have hj:j<l.length:=(gsI jL)
   have hjl:j<l.length:=by (try simp only[bm]at hj);omega
   refine ai (ky l e.To (by (try simp only[bm]);omega)) hP gU (ez rfl (by simp[ao,adj]) (aU _) (aL .sc (aZ.2 trivial))) .sc ?_
   simp -dsimp -implicitDefEqProofs [go_sem,hP,q2]
   refine aq (fun _=>true) [10] hP (by kernel_rfl) (by kernel_rfl) ?_
   have set2:(ao TSub.cells l).set j [iv b.ID,iv (b.Balance+e.Amount)]=ao TSub.cells (adj l e.To e.Amount):=by
    rw[←eb,←sM nL jL,←kR]
    rfl
   have g2:(adj l e.To e.Amount)[j]?=some ⟨b.ID,b.Balance+e.Amount⟩:=by rw[ka,jL,←eb];simp
   have len2:(adj l e.To e.Amount).length=l.length:=by simp[bm]
   have o2:fc credit (adj l e.To e.Amount) e.To=fC credit ⟨b.ID,b.Balance+e.Amount⟩:=by
    rw[←eb]at g2⊢
    exact pQ (by rw[fR];exact nL) g2
   have lt2:(j:Int)<(l.length:Int):=by omega
   simp -dsimp -implicitDefEqProofs [-getElem?_pos,go_sem,hP,bm,jL,TSub.cells,hjl,lt2,wb,set2,g2]
   by_cases c4:1000000000000000<b.Balance+e.Amount
   ·have o2':fc credit (adj l e.To e.Amount) e.To=false:=by rw[o2];simp[fC];omega
    simp -dsimp -implicitDefEqProofs [-getElem?_pos,go_sem,hP,bm,g2,TSub.cells,hjl,lt2,c4]
    exact fin 61 _ _ (by omega) (by rw[pS,ok1];simp[nf,z1,o2'])
   ·have o2':fc credit (adj l e.To e.Amount) e.To=true:=by
     rw[o2]
     have:=(fu _ _).1 okb
     rw[fu]
     dsimp only
     omega
    simp -dsimp -implicitDefEqProofs [-getElem?_pos,go_sem,hP,bm,g2,TSub.cells,hjl,lt2,c4]
    have e2:=fL TSub.cells (adj l e.To e.Amount) l.length (by simp[bm])
    refine done (x:= .tup [bw (adj l e.To e.Amount),iv 0]) ?_ ?_ ?_
    ·simp -dsimp -implicitDefEqProofs [go_sem,e2]
     exact dv.1 (aU _)
    ·rw[okR (adj l e.To e.Amount) (by rw[pS,ok1];simp[nf,z1,o2'])]
    ·simp -dsimp -implicitDefEqProofs [go_sem,e2]
 ·have h5:eC l e=true:=b5.2 fun h=>by have:=h.2.1;omega
  simp -dsimp -implicitDefEqProofs [go_sem,hP,a5,z1]
  refine ai (ky l e.From hl) hP gU (aL iS (aL .sc (aZ.2 trivial))) .sc ?_
  simp -dsimp -implicitDefEqProofs [go_sem,hP,a5,z1,p1]
  exact f5 _ _ h5
 ·have d2:decide ((i:Int)<0)=false:=by simp
  simp -dsimp -implicitDefEqProofs [go_sem,hP,a5,z1]
  refine ai (ky l e.From hl) hP gU (aL iS (aL .sc (aZ.2 trivial))) .sc ?_
  simp -dsimp -implicitDefEqProofs [go_sem,hP,a5,z1,p1,d2]
  have hi:i<l.length:=(gsI i1)
  have hia:=bnd i a i1
  have oka:=(fu _ _).1 (okg i a i1)
  have wa:=ae (a.Balance-e.Amount) (by omega)
  have set1:(ao TSub.cells l).set i [iv a.ID,iv (a.Balance-e.Amount)]=ao TSub.cells (adj l e.From (-e.Amount)):=by
   rw[←ea,←sM hn i1,←kR]
   rfl
  have g1:(adj l e.From (-e.Amount))[i]?=some ⟨a.ID,a.Balance-e.Amount⟩:=by rw[ka,i1,←ea];simp;omega
  have nL1:(ids (adj l e.From (-e.Amount))).Nodup:=by rw[fR];exact hn
  have o1:fc credit (adj l e.From (-e.Amount)) e.From=fC credit ⟨a.ID,a.Balance-e.Amount⟩:=by
   rw[←ea]at g1 nL1⊢
   exact pQ nL1 g1
  have e1:=fL TSub.cells (adj l e.From (-e.Amount)) l.length (by simp[bm])
  have len1:(adj l e.From (-e.Amount)).length=l.length:=by simp[bm]
  have lt1:(i:Int)<(l.length:Int):=by omega
  have stepF:eC l e=false→∀(P:Prop),(fC credit ⟨a.ID,a.Balance-e.Amount⟩=false→P)→(fC credit ⟨a.ID,a.Balance-e.Amount⟩=true→P)→P:=fun _ P h k=>by
   cases hh:fC credit ⟨a.ID,a.Balance-e.Amount⟩
   ·exact h hh
   ·exact k hh
  rcases two e.To with⟨z2,p2⟩|⟨z2,p2⟩|⟨j,b,z2,j1,eb,p2⟩
  rotate_left
  ·have h5:eC l e=true:=b5.2 fun h=>by have:=h.2.2;omega
   simp -dsimp -implicitDefEqProofs [go_sem,hP,a5,z1,z2,p1,d2]
   refine ai (ky l e.To hl) hP gU (aL iS (aL .sc (aZ.2 trivial))) .sc ?_
   simp -dsimp -implicitDefEqProofs [go_sem,hP,a5,z1,z2,p1,p2,d2]
   exact f5 _ _ h5
  ·have h5:eC l e=false:=by simpa using fun h=>b5.1 h ⟨a5,.inr (by omega),.inr (by omega)⟩
   have d4:decide ((j:Int)<0)=false:=by simp
   have okb:=okg j b j1
   have hb:=bnd j b j1
   have wb:=ae (b.Balance+e.Amount) (by omega)
   have q2:fO (adj l e.From (-e.Amount)) e.To=(j:Int):=by
    have hne:¬b.ID=e.From:=fun h=>a5 (h.symm.trans eb)
    have:(adj l e.From (-e.Amount))[j]?=some b:=by rw[ka,j1];simp[hne]
    rw[←eb]
    exact Ls nL1 this
   simp -dsimp -implicitDefEqProofs [go_sem,hP,a5,z1,z2,p1,d2]
   refine ai (ky l e.To hl) hP gU (aL iS (aL .sc (aZ.2 trivial))) .sc ?_
   simp -dsimp -implicitDefEqProofs [go_sem,hP,a5,z1,z2,p1,p2,d2,d4]
   refine⟨by omega,by omega,?_⟩
   refine ai (ky l e.From (by (try simp only[bm]);omega)) hP gU (ez rfl (by simp[ao,adj]) (aU _) (aL .sc (aZ.2 trivial))) .sc ?_
   simp -dsimp -implicitDefEqProofs [go_sem,hP,p1]
   refine aq (fun _=>true) [10] hP (by kernel_rfl) (by kernel_rfl) ?_
   simp -dsimp -implicitDefEqProofs [-getElem?_pos,go_sem,hP,bm,i1,TSub.cells,hi,lt1,wa,set1,g1]
   have nok:fC credit ⟨a.ID,a.Balance-e.Amount⟩=false↔(a.Balance-e.Amount<0∧(¬a.ID=1∨a.Balance-e.Amount< -credit)):=by
    rw[←Bool.not_eq_true,fu]
    dsimp only
    by_cases hid:a.ID=1
    ·rw[if_pos hid];omega
    ·rw[if_neg hid];simp[hid];omega
   by_cases hno:fC credit ⟨a.ID,a.Balance-e.Amount⟩=false
   ·have r61:∀(H:ah) (b),jh H (.tup [.nil,iv 61]) (·= .tup [bw (nD credit l last e).1,iv (nD credit l last e).2]) b:=fun H b=>fin 61 _ _ (by omega) (by rw[pS,h5,o1,hno];simp)
    obtain⟨c1,c2⟩:=nok.1 hno
    by_cases c3:a.ID=1
    ·have c4:a.Balance-e.Amount< -credit:=c2.resolve_left (fun h=>h c3)
     have d3:decide (a.ID=1)=true:=by simpa using c3
     simp -dsimp -implicitDefEqProofs [-getElem?_pos,go_sem,hP,bm,g1,TSub.cells,hi,lt1,c1,d3,c4,wneg]
     exact r61 _ _
    ·simp -dsimp -implicitDefEqProofs [-getElem?_pos,go_sem,hP,bm,g1,TSub.cells,hi,lt1,c1,c3]
     exact r61 _ _
   have hyes:fC credit ⟨a.ID,a.Balance-e.Amount⟩=true:=by simpa using hno
   have f1:fc credit (adj l e.From (-e.Amount)) e.From=true:=by rw[o1,hyes]
   have ok1:(if eC l e=true then ((60:Int),l)else if fc credit (adj l e.From (-e.Amount)) e.From=false then (61,adj l e.From (-e.Amount))else
     if fc credit (adj (adj l e.From (-e.Amount)) e.To e.Amount) e.To=false then (61,adj (adj l e.From (-e.Amount)) e.To e.Amount)else (0,adj (adj l e.From (-e.Amount)) e.To e.Amount))=
     if fc credit (adj (adj l e.From (-e.Amount)) e.To e.Amount) e.To=false then (61,adj (adj l e.From (-e.Amount)) e.To e.Amount)else (0,adj (adj l e.From (-e.Amount)) e.To e.Amount):=by
    rw[f1,h5];simp
   have go:∀{p:Prop},(a.Balance-e.Amount<0→a.ID=1→¬a.Balance-e.Amount< -credit→p)→(¬a.Balance-e.Amount<0→p)→p:=fun h k=>by
    by_cases c1:a.Balance-e.Amount<0
    ·have c3:a.ID=1:=Classical.byContradiction fun h3=>hno (nok.2 ⟨c1,.inl h3⟩)
     exact h c1 c3 fun h4=>hno (nok.2 ⟨c1,.inr h4⟩)
    ·exact k c1
   refine go (fun c1 c3 c4=>?_) (fun c1=>?_)
   ·have d3:decide (a.ID=1)=true:=by simpa using c3
    simp -dsimp -implicitDefEqProofs [-getElem?_pos,go_sem,hP,bm,g1,TSub.cells,hi,lt1,c1,d3,c4,wneg]
    have hj:j<l.length:=(gsI j1)
    have hne:¬b.ID=e.From:=fun h=>a5 (h.symm.trans eb)
    have jL:(adj l e.From (-e.Amount))[j]?=some b:=by rw[ka,j1];simp[hne]
    refine ai (ky (adj l e.From (-e.Amount)) e.To (by (try simp only[bm]);omega)) hP gU (ez rfl (by simp[ao,adj]) (aU _) (aL .sc (aZ.2 trivial))) .sc ?_
    simp -dsimp -implicitDefEqProofs [go_sem,hP,q2]
    refine aq (fun _=>true) [10] hP (by kernel_rfl) (by kernel_rfl) ?_
    have set2:(ao TSub.cells (adj l e.From (-e.Amount))).set j [iv b.ID,iv (b.Balance+e.Amount)]=ao TSub.cells (adj (adj l e.From (-e.Amount)) e.To e.Amount):=by
     rw[←eb,←sM nL1 jL,←kR]
     rfl
    have g2:(adj (adj l e.From (-e.Amount)) e.To e.Amount)[j]?=some ⟨b.ID,b.Balance+e.Amount⟩:=by rw[ka,jL,←eb];simp
    have o2:fc credit (adj (adj l e.From (-e.Amount)) e.To e.Amount) e.To=fC credit ⟨b.ID,b.Balance+e.Amount⟩:=by
     rw[←eb]at g2⊢
     exact pQ (by rw[fR];exact nL1) g2
    have lt2:(j:Int)<(l.length:Int):=by omega
    simp -dsimp -implicitDefEqProofs [-getElem?_pos,go_sem,hP,bm,jL,TSub.cells,hj,lt2,wb,set2,g2]
    by_cases c4:1000000000000000<b.Balance+e.Amount
    ·have o2':fc credit (adj (adj l e.From (-e.Amount)) e.To e.Amount) e.To=false:=by rw[o2];simp[fC];omega
     simp -dsimp -implicitDefEqProofs [-getElem?_pos,go_sem,hP,bm,g2,TSub.cells,hj,lt2,c4]
     exact fin 61 _ _ (by omega) (by rw[pS,ok1];simp[o2'])
    ·have o2':fc credit (adj (adj l e.From (-e.Amount)) e.To e.Amount) e.To=true:=by
      rw[o2]
      have:=(fu _ _).1 okb
      rw[fu]
      dsimp only
      omega
     simp -dsimp -implicitDefEqProofs [-getElem?_pos,go_sem,hP,bm,g2,TSub.cells,hj,lt2,c4]
     have e2:=fL TSub.cells (adj (adj l e.From (-e.Amount)) e.To e.Amount) l.length (by simp[bm])
     refine done (x:= .tup [bw (adj (adj l e.From (-e.Amount)) e.To e.Amount),iv 0]) ?_ ?_ ?_
     ·simp -dsimp -implicitDefEqProofs [go_sem,e2]
      exact dv.1 (aU _)
     ·rw[okR (adj (adj l e.From (-e.Amount)) e.To e.Amount) (by rw[pS,ok1];simp[o2'])]
     ·simp -dsimp -implicitDefEqProofs [go_sem,e2]
   ·simp -dsimp -implicitDefEqProofs [-getElem?_pos,go_sem,hP,bm,g1,TSub.cells,hi,lt1,c1]
    have hj:j<l.length:=(gsI j1)
    have hne:¬b.ID=e.From:=fun h=>a5 (h.symm.trans eb)
    have jL:(adj l e.From (-e.Amount))[j]?=some b:=by rw[ka,j1];simp[hne]
    refine ai (ky (adj l e.From (-e.Amount)) e.To (by (try simp only[bm]);omega)) hP gU (ez rfl (by simp[ao,adj]) (aU _) (aL .sc (aZ.2 trivial))) .sc ?_
    simp -dsimp -implicitDefEqProofs [go_sem,hP,q2]
    refine aq (fun _=>true) [10] hP (by kernel_rfl) (by kernel_rfl) ?_
    have set2:(ao TSub.cells (adj l e.From (-e.Amount))).set j [iv b.ID,iv (b.Balance+e.Amount)]=ao TSub.cells (adj (adj l e.From (-e.Amount)) e.To e.Amount):=by
     rw[←eb,←sM nL1 jL,←kR]
     rfl
    have g2:(adj (adj l e.From (-e.Amount)) e.To e.Amount)[j]?=some ⟨b.ID,b.Balance+e.Amount⟩:=by rw[ka,jL,←eb];simp
    have o2:fc credit (adj (adj l e.From (-e.Amount)) e.To e.Amount) e.To=fC credit ⟨b.ID,b.Balance+e.Amount⟩:=by
     rw[←eb]at g2⊢
     exact pQ (by rw[fR];exact nL1) g2
    have lt2:(j:Int)<(l.length:Int):=by omega
    simp -dsimp -implicitDefEqProofs [-getElem?_pos,go_sem,hP,bm,jL,TSub.cells,hj,lt2,wb,set2,g2]
    by_cases c4:1000000000000000<b.Balance+e.Amount
    ·have o2':fc credit (adj (adj l e.From (-e.Amount)) e.To e.Amount) e.To=false:=by rw[o2];simp[fC];omega
     simp -dsimp -implicitDefEqProofs [-getElem?_pos,go_sem,hP,bm,g2,TSub.cells,hj,lt2,c4]
     exact fin 61 _ _ (by omega) (by rw[pS,ok1];simp[o2'])
    ·have o2':fc credit (adj (adj l e.From (-e.Amount)) e.To e.Amount) e.To=true:=by
      rw[o2]
      have:=(fu _ _).1 okb
      rw[fu]
      dsimp only
      omega
     simp -dsimp -implicitDefEqProofs [-getElem?_pos,go_sem,hP,bm,g2,TSub.cells,hj,lt2,c4]
     have e2:=fL TSub.cells (adj (adj l e.From (-e.Amount)) e.To e.Amount) l.length (by simp[bm])
     refine done (x:= .tup [bw (adj (adj l e.From (-e.Amount)) e.To e.Amount),iv 0]) ?_ ?_ ?_
     ·simp -dsimp -implicitDefEqProofs [go_sem,e2]
      exact dv.1 (aU _)
     ·rw[okR (adj (adj l e.From (-e.Amount)) e.To e.Amount) (by rw[pS,ok1];simp[o2'])]
     ·simp -dsimp -implicitDefEqProofs [go_sem,e2]
  ·have h5:eC l e=false:=by simpa using fun h=>b5.1 h ⟨a5,.inr (by omega),.inl z2⟩
   have d5:decide (e.To=0)=true:=by simpa using z2
   have q2:fO (adj l e.From (-e.Amount)) e.To= -1:=by
    rcases jK (adj l e.From (-e.Amount)) e.To with⟨h,_⟩|⟨_,_,_,_,_,h⟩
    ·exact h
    ·rw[fR,z2]at h;exact absurd h h0
   simp -dsimp -implicitDefEqProofs [go_sem,hP,a5,z1,p1,d2,d5]
   refine⟨by omega,by omega,?_⟩
   refine ai (ky l e.From (by (try simp only[bm]);omega)) hP gU (ez rfl (by simp[ao,adj]) (aU _) (aL .sc (aZ.2 trivial))) .sc ?_
   simp -dsimp -implicitDefEqProofs [go_sem,hP,p1]
   refine aq (fun _=>true) [10] hP (by kernel_rfl) (by kernel_rfl) ?_
   simp -dsimp -implicitDefEqProofs [-getElem?_pos,go_sem,hP,bm,i1,TSub.cells,hi,lt1,wa,set1,g1]
   have nok:fC credit ⟨a.ID,a.Balance-e.Amount⟩=false↔(a.Balance-e.Amount<0∧(¬a.ID=1∨a.Balance-e.Amount< -credit)):=by
    rw[←Bool.not_eq_true,fu]
    dsimp only
    by_cases hid:a.ID=1
    ·rw[if_pos hid];omega
    ·rw[if_neg hid];simp[hid];omega
   by_cases hno:fC credit ⟨a.ID,a.Balance-e.Amount⟩=false
   ·have r61:∀(H:ah) (b),jh H (.tup [.nil,iv 61]) (·= .tup [bw (nD credit l last e).1,iv (nD credit l last e).2]) b:=fun H b=>fin 61 _ _ (by omega) (by rw[pS,h5,o1,hno];simp)
    obtain⟨c1,c2⟩:=nok.1 hno
    by_cases c3:a.ID=1
    ·have c4:a.Balance-e.Amount< -credit:=c2.resolve_left (fun h=>h c3)
     have d3:decide (a.ID=1)=true:=by simpa using c3
     simp -dsimp -implicitDefEqProofs [-getElem?_pos,go_sem,hP,bm,g1,TSub.cells,hi,lt1,c1,d3,c4,wneg]
     exact r61 _ _
    ·simp -dsimp -implicitDefEqProofs [-getElem?_pos,go_sem,hP,bm,g1,TSub.cells,hi,lt1,c1,c3]
     exact r61 _ _
   have hyes:fC credit ⟨a.ID,a.Balance-e.Amount⟩=true:=by simpa using hno
   have f1:fc credit (adj l e.From (-e.Amount)) e.From=true:=by rw[o1,hyes]
   have ok1:(if eC l e=true then ((60:Int),l)else if fc credit (adj l e.From (-e.Amount)) e.From=false then (61,adj l e.From (-e.Amount))else
     if fc credit (adj (adj l e.From (-e.Amount)) e.To e.Amount) e.To=false then (61,adj (adj l e.From (-e.Amount)) e.To e.Amount)else (0,adj (adj l e.From (-e.Amount)) e.To e.Amount))=
     if fc credit (adj (adj l e.From (-e.Amount)) e.To e.Amount) e.To=false then (61,adj (adj l e.From (-e.Amount)) e.To e.Amount)else (0,adj (adj l e.From (-e.Amount)) e.To e.Amount):=by
    rw[f1,h5];simp
   have go:∀{p:Prop},(a.Balance-e.Amount<0→a.ID=1→¬a.Balance-e.Amount< -credit→p)→(¬a.Balance-e.Amount<0→p)→p:=fun h k=>by
    by_cases c1:a.Balance-e.Amount<0
    ·have c3:a.ID=1:=Classical.byContradiction fun h3=>hno (nok.2 ⟨c1,.inl h3⟩)
     exact h c1 c3 fun h4=>hno (nok.2 ⟨c1,.inr h4⟩)
    ·exact k c1
   refine go (fun c1 c3 c4=>?_) (fun c1=>?_)
   ·have d3:decide (a.ID=1)=true:=by simpa using c3
    simp -dsimp -implicitDefEqProofs [-getElem?_pos,go_sem,hP,bm,g1,TSub.cells,hi,lt1,c1,d3,c4,wneg]
    refine ai (ky (adj l e.From (-e.Amount)) e.To (by (try simp only[bm]);omega)) hP gU (ez rfl (by simp[ao,adj]) (aU _) (aL .sc (aZ.2 trivial))) .sc ?_
    simp -dsimp -implicitDefEqProofs [go_sem,hP,q2]
    refine done (x:= .tup [bw (adj l e.From (-e.Amount)),iv 0]) ?_ ?_ ?_
    ·simp -dsimp -implicitDefEqProofs [go_sem,e1]
     exact dv.1 (aU _)
    ·have nt:adj (adj l e.From (-e.Amount)) e.To e.Amount=(adj l e.From (-e.Amount)):=si (by rw[fR,z2];exact h0)
     have ot:fc credit (adj l e.From (-e.Amount)) e.To=true:=qq (by rw[fR,z2];exact h0)
     rw[okR (adj l e.From (-e.Amount)) (by rw[pS,ok1,nt,ot];simp)]
    ·simp -dsimp -implicitDefEqProofs [go_sem,e1]
   ·simp -dsimp -implicitDefEqProofs [-getElem?_pos,go_sem,hP,bm,g1,TSub.cells,hi,lt1,c1]
    refine ai (ky (adj l e.From (-e.Amount)) e.To (by (try simp only[bm]);omega)) hP gU (ez rfl (by simp[ao,adj]) (aU _) (aL .sc (aZ.2 trivial))) .sc ?_
    simp -dsimp -implicitDefEqProofs [go_sem,hP,q2]
    refine done (x:= .tup [bw (adj l e.From (-e.Amount)),iv 0]) ?_ ?_ ?_
    ·simp -dsimp -implicitDefEqProofs [go_sem,e1]
     exact dv.1 (aU _)
    ·have nt:adj (adj l e.From (-e.Amount)) e.To e.Amount=(adj l e.From (-e.Amount)):=si (by rw[fR,z2];exact h0)
     have ot:fc credit (adj l e.From (-e.Amount)) e.To=true:=qq (by rw[fR,z2];exact h0)
     rw[okR (adj l e.From (-e.Amount)) (by rw[pS,ok1,nt,ot];simp)]
    ·simp -dsimp -implicitDefEqProofs [go_sem,e1]
open Go.PA
open Go.RowKit
def Gt (credit:Int):TEntry→List TSub→List TEntry→List TSub×Int
 |_,l,[]=>(l,0)
 |last,l,e::es=>if (aV credit last.Number last.Day l e).1=0 then Gt credit e (aV credit last.Number last.Day l e).2 es else ([],(aV credit last.Number last.Day l e).1)
theorem xl (credit:Int):∀(es:List TEntry) (last:TEntry) (l:List TSub),(∃r,bD credit last.Number last.Day l es=some r∧Gt credit last l es=(r.2.2,0))∨(bD credit last.Number last.Day l es=none∧(Gt credit last l es).1=[]∧¬(Gt credit last l es).2=0)
 |[],last,l=> .inl ⟨_,rfl,rfl⟩
 |e::es,last,l=>by
  rw[bD,Gt]
  by_cases h:(aV credit last.Number last.Day l e).1=0
  ·rw[if_pos h,if_pos h]
   exact xl credit es e _
  ·rw[if_neg h,if_neg h]
   exact .inr ⟨rfl,rfl,h⟩
abbrev oA:TEntry:=⟨0,0,0,0,0,0⟩
def Bk (day:Int) (e:TEntry):Bool:=decide (e.Day≤day)
def oR (a:TAccount) (day:Int):List TSub×Int:=Gt a.Credit oA (cC a.Subs) (a.Entries.takeWhile (Bk day))
theorem KT {credit:Int} {l:List TSub} {last e:TEntry} (h:(aV credit last.Number last.Day l e).1=0):nD credit l last e=((aV credit last.Number last.Day l e).2,0):=by rw[nD,if_pos h]
theorem FZ {credit:Int} {l:List TSub} {last e:TEntry} (h:¬(aV credit last.Number last.Day l e).1=0):nD credit l last e=([],(aV credit last.Number last.Day l e).1):=by rw[nD,if_neg h]
set_option maxHeartbeats 1000000 in
theorem OY (a:TAccount) (day:Int) (hl:a.Subs.length≤100000) (he:a.Entries.length≤100000) (hc:0≤a.Credit∧a.Credit≤1000000000000) (hn:(ids a.Subs).Nodup) (h0:0∉ids a.Subs):
  PFun Tryz.prog none none 142 [.agg a.cells,iv day] (·= .tup [bw (oR a day).1,iv (oR a day).2]):=by
 refine ab Tryz.func142 rfl (by simp[Tryz.f142]) (by kernel_rfl) ?_
 intro E hP hr hs hW hN
 simp -dsimp -implicitDefEqProofs [go_sem,hP,TAccount.cells]
 refine aJ ((Oq a.Subs hl).lift _ _) hP Uc (by simp[aU]) (aU _) ?_
 simp -dsimp -implicitDefEqProofs [go_sem,hP]
 obtain⟨I,hI⟩:∃I:Nat→St→Prop,I=fun m s=>∃(k id:Nat) (last:TEntry) (l:List TSub),k≤a.Entries.length∧1≤id∧m=a.Entries.length-k∧oR a day=Gt a.Credit last l ((a.Entries.drop k).takeWhile (Bk day))∧last.Number=k∧0≤last.Day∧jU a.Credit l=true∧ids l=ids a.Subs∧s.t 1=iv day∧s.t 2= .ref 0 0 0∧s.t 6=bw l∧s.t 7= .ref id 0 0∧s.t 17=cU a.Entries∧s.t 18=iv a.Entries.length∧s.t 19=iv k∧s.H[0]?=some (some ⟨28,3,[a.cells]⟩)∧s.H[id]?=some (some ⟨79,6,[last.cells]⟩):=⟨_,rfl⟩
 refine az I (a.Entries.length) (by rw[hN];rfl) ?_ ?_
 ·rw[hI]
  exact⟨0,1,oA,cC a.Subs,by omega,by omega,by omega,by simp[oR],rfl,Int.le_refl _,m8 hc.1 _,qr _,rfl,rfl,rfl,rfl,rfl,rfl,rfl,by simp -dsimp[go_sem,TAccount.cells],by simp -dsimp[go_sem,TEntry.cells]⟩
 intro m s hs'
 rw[hI]at hs'
 obtain⟨k,id,last,l,hk,hid,hm,hu,hnum,hday,hok,hids,t1,t2,t6,t7,t17,t18,t19,hA,hL⟩:=hs'
 have hll:l.length=a.Subs.length:=by rw[←fG l,hids,fG]
 simp -dsimp -implicitDefEqProofs [go_sem,hP,t18,t19]
 refine aB ?_ ?_<;>intro h
 ·have hk:k<a.Entries.length:=by simpa using h
  obtain⟨e,hee⟩:=gkE hk
  have wk:=ae ((k:Int)+1) (by omega)
  have hd:a.Entries.drop k=e::a.Entries.drop (k+1):=by
   rw[zF hk]at hee
   rw[wE hk,wT hee]
  rw[hd]at hu
  have hlt0:=(gsI hA)
  have hne0:¬id=0:=by omega
  have hlt:=(gsI hL)
  have tkE:e.cells.take 6=e.cells:=zQ (by rw[TEntry.len];omega)
  have tkL:last.cells.take 6=last.cells:=zQ (by rw[TEntry.len];omega)
  have drE:e.cells.drop 6=[]:=vH (by rw[TEntry.len];omega)
  have drL:last.cells.drop 6=[]:=vH (by rw[TEntry.len];omega)
  by_cases hearly:e.Day≤day
  ·have h2:decide (day<e.Day)=false:=by simp;omega
   have hu2:oR a day=if (aV a.Credit last.Number last.Day l e).1=0 then Gt a.Credit e (aV a.Credit last.Number last.Day l e).2 ((a.Entries.drop (k+1)).takeWhile (Bk day))else ([],(aV a.Credit last.Number last.Day l e).1):=by
    rw[hu,List.takeWhile_cons_of_pos (by simpa[Bk]using hearly)]
    rfl
   have ap:=Rq a.Credit l last e (by omega) hc (hids▸hn) (hids▸h0) hok (by omega) hday
   have cE:e.cells=[iv e.Number,iv e.Day,iv e.From,iv e.To,iv e.Amount,iv e.Ref]:=rfl
   simp -dsimp -implicitDefEqProofs [-getElem?_pos,go_sem,hP,t17,t19,hee,t1,cE,h2,t2,hA,hlt0,hlt,TAccount.cells,t6,t7,hL,TEntry.len,tkL]
   refine af ap hP Pz (by simp[aU,an];exact⟨gR last,gR e⟩) (aj (aU _) .sc) ?_
   by_cases hp:(aV a.Credit last.Number last.Day l e).1=0
   ·rw[KT hp]
    rw[if_pos hp]at hu2
    obtain⟨q1,q2,q3,_⟩:=kC hp
    simp -dsimp -implicitDefEqProofs [go_sem,hP]
    refine aq (fun _=>true) [3] hP (by kernel_rfl) (by kernel_rfl) ?_
    simp -dsimp -implicitDefEqProofs [-getElem?_pos,go_sem,hP,t7,hL,hlt,t19,wk,drL,TEntry.len]
    refine⟨a.Entries.length-(k+1),by omega,?_⟩
    rw[hI]
    refine⟨k+1,id,e,(aV a.Credit last.Number last.Day l e).2,by omega,hid,rfl,hu2,by rw[q1,hnum];simp,by omega,u6 hp hok,(kx _ _ _ _ _).trans hids,t1,t2,rfl,t7,t17,t18,rfl,?_,?_⟩
    ·simp -dsimp -implicitDefEqProofs [-getElem?_pos,go_sem,hne0,hlt0,hA]
    ·simp -dsimp -implicitDefEqProofs [-getElem?_pos,go_sem,hlt,TEntry.cells]
   ·rw[FZ hp]
    rw[if_neg hp]at hu2
    simp -dsimp -implicitDefEqProofs [go_sem,hP,hp]
    refine aK 2 ?_
    rw[hu2]
    simp[ao]
  ·have h2:decide (day<e.Day)=true:=by simp;omega
   have hu2:oR a day=(l,0):=by
    rw[hu,List.takeWhile_cons_of_neg (by simpa[Bk]using hearly)]
    rfl
   have cE:e.cells=[iv e.Number,iv e.Day,iv e.From,iv e.To,iv e.Amount,iv e.Ref]:=rfl
   simp -dsimp -implicitDefEqProofs [go_sem,hP,t17,t19,hee,t1,cE,h2,t6]
   refine aw (aj (aU _) .sc) ?_
   rw[hu2]
 ·have hk:k=a.Entries.length:=by simp at h;omega
  subst hk
  rw[wG]at hu
  have hu2:oR a day=(l,0):=hu
  simp -dsimp -implicitDefEqProofs [go_sem,hP,t6]
  refine aw (aj (aU _) .sc) ?_
  rw[hu2]
theorem zd (a b:List TSub) (ha:a.length≤100000) (hb:b.length≤100000):
  PFun Tryz.prog none none 121 [.list 2 (ao TSub.cells a),.list 2 (ao TSub.cells b)] (·=bv (decide (a=b))):=by
 refine ab Tryz.func121 rfl (by simp[Tryz.f121]) (by kernel_rfl) ?_
 intro E hP hr hs hW hN
 by_cases hlen:a.length=b.length
 rotate_left
 ·have hne:¬a=b:=fun h=>hlen (by rw[h])
  have hl:decide ((a.length:Int)=(b.length:Int))=false:=by simp;omega
  simp -dsimp -implicitDefEqProofs [-getElem?_pos,go_sem,hP,hl,hne]
 have hl:decide ((a.length:Int)=(b.length:Int))=true:=by simp;omega
 simp -dsimp -implicitDefEqProofs [-getElem?_pos,go_sem,hP,hl]
 obtain⟨I,hI⟩:∃I:Nat→St→Prop,I=fun m s=>∃k:Nat,k≤a.length∧m=a.length-k∧s.t 0= .list 2 (ao TSub.cells a)∧s.t 1= .list 2 (ao TSub.cells b)∧s.t 12=iv a.length∧s.t 13=iv k∧a.take k=b.take k:=⟨_,rfl⟩
 refine az I (a.length) (by rw[hN];rfl) ?_ ?_
 ·rw[hI]
  exact⟨0,by omega,by omega,rfl,rfl,rfl,rfl,by simp⟩
 intro m s hs'
 rw[hI]at hs'
 obtain⟨k,hk,hm,t0,t1,t12,t13,heq⟩:=hs'
 simp -dsimp -implicitDefEqProofs [go_sem,hP,t12,t13]
 refine aB ?_ ?_<;>intro h
 ·have hk:k<a.length:=by simpa using h
  obtain⟨x,hx⟩:=gkE hk
  obtain⟨y,hy⟩:∃y,b[k]?=some y:=⟨_,zF (by omega)⟩
  have wk:=ae ((k:Int)+1) (by omega)
  have tx:a.take (k+1)=a.take k++[x]:=by rw[wJ,hx];rfl
  have ty:b.take (k+1)=b.take k++[y]:=by rw[wJ,hy];rfl
  simp -dsimp -implicitDefEqProofs [go_sem,hP,t13]
  refine aq (fun _=>true) [] hP (by kernel_rfl) (by kernel_rfl) ?_
  by_cases hxy:x=y
  ·subst hxy
   simp -dsimp -implicitDefEqProofs [go_sem,hP,t0,t1,hx,hy,TSub.cells,t13,wk]
   refine⟨a.length-(k+1),by omega,?_⟩
   rw[hI]
   exact⟨k+1,by omega,rfl,t0,t1,t12,rfl,by rw[tx,ty,heq]⟩
  ·have hne:¬a=b:=fun h=>by
    subst h
    rw[hx]at hy
    exact hxy (wT hy)
   simp -dsimp -implicitDefEqProofs [go_sem,hP,t0,t1,hx,hy,TSub.cells,t13,wk]
   refine aB ?_ ?_<;>intro h
   ·simp -dsimp -implicitDefEqProofs [go_sem,hP,hne]
   ·exact absurd (by cases x;cases y;simp at h;simp[h]) hxy
 ·have hk:k=a.length:=by simp at h;omega
  subst hk
  rw[zT]at heq
  rw[hlen,zT]at heq
  simp -dsimp -implicitDefEqProofs [go_sem,hP,heq]
theorem F9 (a:TAccount) (hl:a.Subs.length≤100000):PFun Tryz.prog none none 138 [.agg a.cells] (·=bv (vB a.Credit&&iJ (ids a.Subs))):=by
 refine ab Tryz.func138 rfl (by simp[Tryz.f138]) (by kernel_rfl) ?_
 intro E hP hr hs hW hN
 simp -dsimp -implicitDefEqProofs [go_sem,hP,TAccount.cells]
 refine ai (rO a.Credit) hP HZ (ak (by simp -dsimp[go_sem])) .sc ?_
 by_cases hv:vB a.Credit=true
 rotate_left
 ·simp -dsimp -implicitDefEqProofs [go_sem,hP,hv]
 by_cases hz:a.Subs.length<1
 ·have hnil:a.Subs=[]:=wF (by omega)
  have hd:decide ((a.Subs.length:Int)<1)=true:=by simp;omega
  simp -dsimp -implicitDefEqProofs [go_sem,hP,hv,hd]
  simp[hnil,iJ,ids]
 have hd:decide ((a.Subs.length:Int)<1)=false:=by simp;omega
 simp -dsimp -implicitDefEqProofs [go_sem,hP,hv,hd]
 obtain⟨I,hI⟩:∃I:Nat→St→Prop,I=fun m s=>∃(k:Nat) (p:Int),k≤a.Subs.length∧m=a.Subs.length-k∧iJ (ids a.Subs)=(yp p ((ids a.Subs).drop k)&&(decide (k=0→(ids a.Subs).head?=some 1)))∧(k=0→p=0)∧(∀j x,k=j+1→a.Subs[j]?=some x→p=x.ID)∧s.t 1= .ref 0 0 0∧s.t 16=bw a.Subs∧s.t 17=iv a.Subs.length∧s.t 18=iv k∧s.H[0]?=some (some ⟨28,3,[a.cells]⟩):=⟨_,rfl⟩
 refine az I (a.Subs.length) (by rw[hN];rfl) ?_ ?_
 ·rw[hI]
  exact⟨0,0,by omega,by omega,by simp[iJ],by simp,by omega,rfl,rfl,rfl,rfl,by simp -dsimp[go_sem,TAccount.cells]⟩
 intro m s hs'
 rw[hI]at hs'
 obtain⟨k,p,hk,hm,hnum,hp0,hp1,t1,t16,t17,t18,hA⟩:=hs'
 have hlt0:=(gsI hA)
 simp -dsimp -implicitDefEqProofs [go_sem,hP,t17,t18]
 refine aB ?_ ?_<;>intro h
 ·have hk:k<a.Subs.length:=by simpa using h
  obtain⟨x,hx⟩:=gkE hk
  have wk:=ae ((k:Int)+1) (by omega)
  have hdr:(ids a.Subs).drop k=x.ID::(ids a.Subs).drop (k+1):=by
   have h1:(ids a.Subs)[k]?=some x.ID:=by rw[EA,hx];rfl
   obtain⟨h2,h3⟩:=zM.1 h1
   rw[wE h2,h3]
  rw[hdr,yp]at hnum
  have hhead:k=0→(ids a.Subs).head?=some x.ID:=fun h=>by
   subst h
   rw[vW]at hdr
   rw[hdr]
   rfl
  have fin:∀s':St,(bu x.ID 1 1000&&decide (p<x.ID))=true→(k=0→x.ID=1)→s'.t 1=s.t 1→s'.t 16=s.t 16→s'.t 17=s.t 17→s'.t 18=iv ((k:Int)+1)→s'.H[0]?=s.H[0]?→∃n',n'<m∧I n' s':=fun s' hc h1 e1 e16 e17 e18 eH=>by
   refine⟨a.Subs.length-(k+1),by omega,?_⟩
   rw[hI]
   simp only[zG]at hc
   refine⟨k+1,x.ID,by omega,rfl,?_,by omega,fun j y hj hy=>?_,by rw[e1,t1],by rw[e16,t16],by rw[e17,t17],by rw[e18];simp,by rw[eH,hA]⟩
   ·rw[hnum,hc.1,hc.2]
    have:decide (k=0→(ids a.Subs).head?=some 1)=true:=by
     simp only[zI]
     exact fun h=>by rw[hhead h,h1 h]
    rw[this]
    simp
   ·have:j=k:=by omega
    subst this
    rw[hx]at hy
    rw[wT hy]
  have bad:(bu x.ID 1 1000&&decide (p<x.ID))=false∨(k=0∧¬x.ID=1)→iJ (ids a.Subs)=false:=fun h=>by
   rcases h with h|⟨h1,h2⟩
   ·rw[hnum,←Bool.and_assoc (bu _ _ _),h];simp
   ·rw[hnum]
    have:decide (k=0→(ids a.Subs).head?=some 1)=false:=by
     simp only[wH]
     intro h
     have:=h h1
     rw[hhead h1]at this
     exact h2 (wT this)
    rw[this];simp
  simp -dsimp -implicitDefEqProofs [go_sem,hP,t16,t18,hx,TSub.cells]
  refine aq (fun _=>true) [] hP (by kernel_rfl) (by kernel_rfl) ?_
  by_cases c1:x.ID<1
  ·have:=bad (.inl (by simp[bu];omega))
   simp -dsimp -implicitDefEqProofs [go_sem,hP,c1,this]
  by_cases c2:1000<x.ID
  ·have:=bad (.inl (by simp[bu];omega))
   simp -dsimp -implicitDefEqProofs [go_sem,hP,c1,c2,this]
  rcases wR k with hk0|hkp
  ·have d0:decide (k=0)=true:=by simp;omega
   have d1:decide (0<k)=false:=by simp;omega
   by_cases c3:x.ID=1
   ·have d3:decide (x.ID=1)=true:=by simpa using c3
    simp -dsimp -implicitDefEqProofs [go_sem,hP,c1,c2,d0,d1,d3,t18,wk]
    exact fin _ (by have:=hp0 hk0;simp[bu];omega) (fun _=>c3) rfl rfl rfl rfl (by simp -dsimp[-getElem?_pos,go_sem,hlt0])
   ·have:=bad (.inr ⟨hk0,c3⟩)
    simp -dsimp -implicitDefEqProofs [go_sem,hP,c1,c2,d0,d1,c3,this]
  ·obtain⟨j,rfl⟩:∃j,k=j+1:=⟨k-1,by omega⟩
   obtain⟨y,hy⟩:∃y,a.Subs[j]?=some y:=⟨_,zF (by omega)⟩
   have d0:decide (((j:Int)+1)=0)=false:=by simp<;>omega
   have d1:decide ((0:Int)<(j:Int)+1)=true:=by simp<;>omega
   have wj:=ae ((j:Int)+1-1) (by omega)
   rw[vC]at wj
   have hpy:=hp1 j y rfl hy
   have wk':=ae ((j:Int)+1+1) (by omega)
   by_cases c3:x.ID≤y.ID
   ·have:=bad (.inl (by simp[bu];omega))
    simp -dsimp -implicitDefEqProofs [-getElem?_pos,go_sem,hP,c1,c2,d0,d1,vC,wj,t1,hA,hlt0,TAccount.cells,hy,TSub.cells,c3,this]
   ·simp -dsimp -implicitDefEqProofs [-getElem?_pos,go_sem,hP,c1,c2,d0,d1,vC,wj,t1,hA,hlt0,TAccount.cells,hy,TSub.cells,c3,t18,wk']
    exact fin _ (by simp[bu];omega) (by omega) rfl rfl rfl rfl (by simp -dsimp[-getElem?_pos,go_sem,hlt0])
 ·have hk:k=a.Subs.length:=by simp at h;omega
  subst hk
  have hdn:(ids a.Subs).drop a.Subs.length=[]:=vH (by rw[fG];omega)
  have hh:decide (a.Subs.length=0→(ids a.Subs).head?=some 1)=true:=by
   simp only[zI]
   intro h
   omega
  rw[hdn,hh]at hnum
  have hnum:iJ (ids a.Subs)=true:=hnum
  simp -dsimp -implicitDefEqProofs [go_sem,hP,hnum,hv]
end Go.Proofs.YtfbogibogkbhmaaGreatDoor
