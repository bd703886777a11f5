/- Several texts of this claim, joined: BatLib Bat2 Bat3 Bat4 Bat5 Bat6 Bat7 Bat8 Bat9 PaFrz Bat10 Bat11 Bat12 Bat13 Bat14 Bat15 Bat16 PaPf Rec2 Rec3 Rec4. -/
import Derived.Test.YtmmpcldnpflchaaGreatDoorPk4
set_option linter.unusedSimpArgs false
set_option linter.unusedVariables false
namespace Go.Proofs.YtmmpcldnpflchaaGreatDoor
open Go.PA
open Go.RowKit
theorem BK (l:List Int) (v:Int) (hl:l.length≤1000000):PFun Tryz.prog none none 208 [aI l,iv v] (·=iv (dC (fun x=>decide (v=x)) l)):=by
 refine ae Tryz.func208 rfl (by simp[Tryz.f208]) (by kernel_rfl) ?_
 intro E hP hr hs hW hN
 simp -dsimp -implicitDefEqProofs [-getElem?_pos,go_sem,hP,aI]
 obtain⟨I,hI⟩:∃I:Nat→St→Prop,I=fun m s=>∃k:Nat,k≤l.length∧m=l.length-k∧dC (fun x=>decide (v=x)) l=br (fun x=>decide (v=x)) k (l.drop k)∧s.t 0=aI l∧s.t 1=iv v∧s.t 7=iv l.length∧s.t 8=iv k:=⟨_,rfl⟩
 refine aF I (l.length) (by rw[hN];rfl) ?_ ?_
 ·rw[hI]
  exact⟨0,by omega,by omega,by simp[dC],by simp -dsimp[-getElem?_pos,go_sem,aI],by simp -dsimp[-getElem?_pos,go_sem],by simp -dsimp[-getElem?_pos,go_sem],by simp -dsimp[-getElem?_pos,go_sem]⟩
 intro m s hs'
 rw[hI]at hs'
 obtain⟨k,hk,hm,hi,t0,t1,t7,t8⟩:=hs'
 simp -dsimp -implicitDefEqProofs [-getElem?_pos,go_sem,hP,t7,t8]
 refine aH (fun h=>?_) (fun h=>?_)
 ·have hk:k<l.length:=by simpa using h
  obtain⟨a,ha⟩:∃a,l[k]?=some a:=⟨_,List.getElem?_eq_getElem hk⟩
  have wk:=ah ((k:Int)+1) (by omega)
  have hd:l.drop k=a::l.drop (k+1):=by
   rw[List.getElem?_eq_getElem hk]at ha
   rw[List.drop_eq_getElem_cons hk,Option.some.inj ha]
  rw[hd]at hi
  simp only[br]at hi
  simp -dsimp -implicitDefEqProofs [-getElem?_pos,go_sem,hP,t8,t1,t0,ha,aI]
  by_cases hp:v=a
  ·rw[if_pos (by simpa using hp)]at hi
   simp -dsimp -implicitDefEqProofs [-getElem?_pos,go_sem,hP,hp]
   rw[hp]at hi
   exact hi.symm
  ·rw[if_neg (by simpa using hp)]at hi
   simp -dsimp -implicitDefEqProofs [-getElem?_pos,go_sem,hP,t8,wk,hp]
   refine⟨l.length-(k+1),by omega,?_⟩
   rw[hI]
   exact⟨k+1,by omega,rfl,hi,by simp -dsimp[-getElem?_pos,go_sem,t0],by simp -dsimp[-getElem?_pos,go_sem,t1],by simp -dsimp[-getElem?_pos,go_sem,t7],by simp -dsimp[-getElem?_pos,go_sem]⟩
 ·have hk:k=l.length:=by simp at h;omega
  subst hk
  rw[List.drop_length]at hi
  simp -dsimp -implicitDefEqProofs [-getElem?_pos,go_sem,hP]
  exact hi.symm
theorem dz (l:List Int):Imm (aI l):=by simp[go_sem,aI]
theorem nr (l:List Int) (v:Int) (hl:l.length≤1000000):PFun Tryz.prog none none 160 [aI l,iv v] (·=bv (decide (v∈l))):=by
 refine ae Tryz.func160 rfl (by simp[Tryz.f160]) (by kernel_rfl) ?_
 intro E hP hr hs hW hN
 simp -dsimp -implicitDefEqProofs [-getElem?_pos,go_sem,hP]
 refine ak ((BK l v hl).lift _ _) hP QO (by simp[dz,aP]) .sc ?_
 rcases cN (fun x=>decide (v=x)) l with⟨h1,h2⟩|⟨i,a,h1,h2,h3,_⟩
 ·have:decide (v∈l)=false:=decide_eq_false fun hv=>by simpa using h2 v hv
  simp -dsimp -implicitDefEqProofs [-getElem?_pos,go_sem,hP,h1,this]
 ·have d:decide ((0:Int)≤(i:Int))=true:=decide_eq_true (by omega)
  have hva:v=a:=by simpa using h2
  have:decide (v∈l)=true:=decide_eq_true (hva▸List.mem_of_getElem? h1)
  simp -dsimp -implicitDefEqProofs [-getElem?_pos,go_sem,hP,h3,d,this]
theorem Nf (x:Int):PFun Tryz.prog none none 196 [iv x] (·=bv false):=by
 refine ae Tryz.func196 rfl (by simp[Tryz.f196]) (by kernel_rfl) ?_
 intro E hP hr hs hW hN
 simp -dsimp -implicitDefEqProofs [-getElem?_pos,go_sem,hP]
theorem NH (x y:Int):PFun Tryz.prog none none 195 [iv x,iv y] (·=bv (decide (x<y))):=by
 refine ae Tryz.func195 rfl (by simp[Tryz.f195]) (by kernel_rfl) ?_
 intro E hP hr hs hW hN
 simp -dsimp -implicitDefEqProofs [-getElem?_pos,go_sem,hP]
 refine aj (v8 x) hP L8 (an (by simp -dsimp[-getElem?_pos,go_sem])) .sc ?_
 simp -dsimp -implicitDefEqProofs [-getElem?_pos,go_sem,hP]
set_option maxHeartbeats 1000000 in
theorem FF (l:List Int) (v:Int) (k:Nat) (hl:l.length≤1000000) (hk:k≤l.length) (hm:∀h x,l[h]?=some x→(x<v↔h<k)):PFun Tryz.prog none none 142 [aI l,iv v] (·= .tup [iv k,bv (decide (l[k]?=some v))]):=by
 refine ae Tryz.func142 rfl (by simp[Tryz.f142]) (by kernel_rfl) ?_
 intro E hP hr hs hW hN
 simp -dsimp -implicitDefEqProofs [-getElem?_pos,go_sem,hP,aI]
 obtain⟨I,hI⟩:∃I:Nat→St→Prop,I=fun m s=>∃i j:Nat,i≤k∧k≤j∧j≤l.length∧m=j-i∧s.t 0=aI l∧s.t 1=iv v∧s.t 6=iv l.length∧s.t 7=iv i∧s.t 8=iv j:=⟨_,rfl⟩
 refine aF I (l.length) (by rw[hN];rfl) ?_ ?_
 ·rw[hI]
  exact⟨0,l.length,by omega,hk,by omega,rfl,by simp -dsimp[-getElem?_pos,go_sem,aI],by simp -dsimp[-getElem?_pos,go_sem],by simp -dsimp[-getElem?_pos,go_sem],by simp -dsimp[-getElem?_pos,go_sem],by simp -dsimp[-getElem?_pos,go_sem]⟩
 intro m s hs'
 rw[hI]at hs'
 obtain⟨i,j,hi,hj,hjl,hm',t0,t1,t6,t7,t8⟩:=hs'
 simp -dsimp -implicitDefEqProofs [-getElem?_pos,go_sem,hP,t7,t8]
 refine aH (fun h=>?_) (fun h=>?_)
 ·have hij:i<j:=by simpa using h
  have w1:=ah ((i:Int)+j) (by omega)
  have wu:IntKind.u64.wrap ((i:Int)+j)=(i:Int)+j:=by rw[IntKind.wrap_u64];omega
  obtain⟨h,hh⟩:∃h,h=(i+j) / 2:=⟨_,rfl⟩
  have wh:IntKind.i64.wrap (((i:Int)+j) / 2)=(h:Int):=by rw[ah _ (by omega)];omega
  obtain⟨a,ha⟩:∃a,l[h]?=some a:=⟨_,List.getElem?_eq_getElem (by omega)⟩
  have hcmp:=hm h a ha
  have w2:=ah ((h:Int)+1) (by omega)
  simp -dsimp -implicitDefEqProofs [-getElem?_pos,go_sem,hP,t7,t8,w1,wu,xk,qz,wh,t0,t1,aI,ha]
  refine aj (NH a v) hP Pl (an (by simp -dsimp[-getElem?_pos,go_sem])) .sc ?_
  by_cases c:a<v
  ·simp -dsimp -implicitDefEqProofs [-getElem?_pos,go_sem,hP,c,w2]
   refine⟨j-(h+1),by omega,?_⟩
   rw[hI]
   exact⟨h+1,j,by have:=hcmp.1 c;omega,by omega,by omega,rfl,by simp -dsimp[-getElem?_pos,go_sem,t0],by simp -dsimp[-getElem?_pos,go_sem,t1],by simp -dsimp[-getElem?_pos,go_sem,t6],by simp -dsimp[-getElem?_pos,go_sem],by simp -dsimp[-getElem?_pos,go_sem,t8]⟩
  ·have d:decide (a<v)=false:=decide_eq_false c
   simp -dsimp -implicitDefEqProofs [-getElem?_pos,go_sem,hP,d]
   refine⟨h-i,by omega,?_⟩
   rw[hI]
   exact⟨i,h,by omega,by have:=mt hcmp.2 c;omega,by omega,rfl,by simp -dsimp[-getElem?_pos,go_sem,t0],by simp -dsimp[-getElem?_pos,go_sem,t1],by simp -dsimp[-getElem?_pos,go_sem,t6],by simp -dsimp[-getElem?_pos,go_sem,t7],by simp -dsimp[-getElem?_pos,go_sem]⟩
 ·have hik:i=k:=by
   have:¬i<j:=by simpa using h
   omega
  subst hik
  by_cases c:i<l.length
  ·obtain⟨a,ha⟩:∃a,l[i]?=some a:=⟨_,List.getElem?_eq_getElem c⟩
   have d:decide ((i:Int)<(l.length:Int))=true:=decide_eq_true (by omega)
   by_cases e:a=v
   ·simp -dsimp -implicitDefEqProofs [-getElem?_pos,go_sem,hP,t7,t6,c,d,t0,t1,aI,ha,e]
    exact aN (aE .sc .sc) (by simp[ha,e])
   ·have e':decide (a=v)=false:=decide_eq_false e
    simp -dsimp -implicitDefEqProofs [-getElem?_pos,go_sem,hP,t7,t6,c,d,t0,t1,aI,ha,e,e']
    refine aj (Nf a) hP PU (an (by simp -dsimp[-getElem?_pos,go_sem])) .sc ?_
    simp -dsimp -implicitDefEqProofs [-getElem?_pos,go_sem,hP,t7,t6,c,d,t0,t1,aI,ha,e,e']
    exact aN (aE .sc .sc) (by simp[ha,e])
  ·have d:decide ((i:Int)<(l.length:Int))=false:=decide_eq_false (by omega)
   have n:l[i]?=none:=List.getElem?_eq_none (by omega)
   simp -dsimp -implicitDefEqProofs [-getElem?_pos,go_sem,hP,t7,t6,c,d,n]
   exact aN (aE .sc .sc) (by simp[n])
open Go.PA
open Go.RowKit
theorem uo {α β:Type} {f:α→β} {l:List α} {k:Nat} {p:α} (hp:l[k]?=some p):∀j x,k+1=j+1→l[j]?=some x→f p=f x:=fun j x hj hx=>by
 cases (show k=j by omega)
 rw[hp]at hx
 cases hx
 rfl
theorem gI (n lo hi:Int):PFun Tryz.prog none none 197 [iv n,iv lo,iv hi] (·=bv (amg n lo hi)):=by
 refine ae Tryz.func197 rfl (by simp[Tryz.f197]) (by kernel_rfl) ?_
 intro E hP hr hs hW hN
 by_cases h1:lo≤n<;>by_cases h2:n≤hi<;>simp -dsimp -implicitDefEqProofs [-getElem?_pos,go_sem,hP,h1,h2,amg]
theorem zQ (p:TPayment):PFun Tryz.prog none none 143 [.agg p.cells] (·=bv (iQ p)):=by
 refine ae Tryz.func143 rfl (by simp[Tryz.f143]) (by kernel_rfl) ?_
 intro E hP hr hs hW hN
 simp -dsimp -implicitDefEqProofs [-getElem?_pos,go_sem,hP,cPy]
 refine aj (gI p.Warrant 1 1000000) hP ph (an (by simp -dsimp[-getElem?_pos,go_sem])) .sc ?_
 cases h1:amg p.Warrant 1 1000000
 ·simp -dsimp -implicitDefEqProofs [-getElem?_pos,go_sem,hP,iQ,h1]
 simp -dsimp -implicitDefEqProofs [-getElem?_pos,go_sem,hP]
 refine aj (gI p.Payee 1 1000000) hP ph (an (by simp -dsimp[-getElem?_pos,go_sem])) .sc ?_
 cases h2:amg p.Payee 1 1000000
 ·simp -dsimp -implicitDefEqProofs [-getElem?_pos,go_sem,hP,iQ,h1,h2]
 simp -dsimp -implicitDefEqProofs [-getElem?_pos,go_sem,hP]
 refine aj (gI p.Amount 1 1000000000000) hP ph (an (by simp -dsimp[-getElem?_pos,go_sem])) .sc ?_
 cases h3:amg p.Amount 1 1000000000000
 ·simp -dsimp -implicitDefEqProofs [-getElem?_pos,go_sem,hP,iQ,h1,h2,h3]
 simp -dsimp -implicitDefEqProofs [-getElem?_pos,go_sem,hP]
 refine aj (gI p.Due 0 35990) hP ph (an (by simp -dsimp[-getElem?_pos,go_sem])) .sc ?_
 cases h4:amg p.Due 0 35990
 ·simp -dsimp -implicitDefEqProofs [-getElem?_pos,go_sem,hP,iQ,h1,h2,h3,h4]
 simp -dsimp -implicitDefEqProofs [-getElem?_pos,go_sem,hP]
 refine aj (gI p.Sub 1 1000) hP ph (an (by simp -dsimp[-getElem?_pos,go_sem])) .sc ?_
 simp -dsimp -implicitDefEqProofs [-getElem?_pos,go_sem,hP,iQ,h1,h2,h3,h4]
def zR (a b:TPayment):Int:=orI [iF a.Due b.Due,iF a.Warrant b.Warrant]
theorem uv {a b:TPayment}:zR a b<0↔Bef a b:=by
 simp only[zR,orI,iF,Bef]
 repeat' split
 all_goals omega
theorem Nq {a b:TPayment} (h:¬Bef a b):0≤zR a b:=by
 have:=mt uv.1 h
 omega
theorem mW (a b:TPayment):PFun Tryz.prog none none 199 [.agg a.cells,.agg b.cells] (·=iv (zR a b)):=by
 refine ae Tryz.func199 rfl (by simp[Tryz.f199]) (by kernel_rfl) ?_
 intro E hP hr hs hW hN
 simp -dsimp -implicitDefEqProofs [-getElem?_pos,go_sem,hP,cPy]
 refine au (fun _=>true) [] hP (by kernel_rfl) (by kernel_rfl) ?_
 simp -dsimp -implicitDefEqProofs [-getElem?_pos,go_sem,hP]
 refine aj (gB a.Due b.Due) hP yI (an (by simp -dsimp[-getElem?_pos,go_sem])) .sc ?_
 simp -dsimp -implicitDefEqProofs [-getElem?_pos,go_sem,hP]
 refine aj (gB a.Warrant b.Warrant) hP yI (an (by simp -dsimp[-getElem?_pos,go_sem])) .sc ?_
 simp -dsimp -implicitDefEqProofs [-getElem?_pos,go_sem,hP]
 refine aj (OG [iF a.Due b.Due,iF a.Warrant b.Warrant] (by simp)) hP LO (an (by simp -dsimp[-getElem?_pos,go_sem])) .sc ?_
 simp -dsimp -implicitDefEqProofs [-getElem?_pos,go_sem,hP,zR]
theorem sW (l:List TPayment) (hl:l.length≤1000000):PFun Tryz.prog none none 187 [aT l] (·=bv (fk none l)):=by
 refine ae Tryz.func187 rfl (by simp[Tryz.f187]) (by kernel_rfl) ?_
 intro E hP hr hs hW hN
 obtain⟨R,hR⟩:∃R,R=fk none l:=⟨_,rfl⟩
 rw[←hR]
 simp -dsimp -implicitDefEqProofs [-getElem?_pos,go_sem,hP]
 obtain⟨I,hI⟩:∃I:Nat→St→Prop,I=fun m s=>∃(k:Nat) (o:Option TPayment),k≤l.length∧m=l.length-k∧R=fk o (l.drop k)∧(k=0→o=none)∧(∀j x,k=j+1→l[j]?=some x→o=some x)∧s.t 0=aT l∧s.t 5=aT l∧s.t 6=iv l.length∧s.t 7=iv k:=⟨_,rfl⟩
 refine aF I (l.length) (by rw[hN];rfl) ?_ ?_
 ·rw[hI]
  exact⟨0,none,by omega,by omega,by rw[hR];rfl,by simp,by omega,by simp -dsimp[-getElem?_pos,go_sem],by simp -dsimp[-getElem?_pos,go_sem],by simp -dsimp[-getElem?_pos,go_sem],by simp -dsimp[-getElem?_pos,go_sem]⟩
 intro m s hs'
 rw[hI]at hs'
 obtain⟨k,o,hk,hm,hq,ho0,ho1,t0,t5,t6,t7⟩:=hs'
 simp -dsimp -implicitDefEqProofs [-getElem?_pos,go_sem,hP,t6,t7]
 refine aH (fun h=>?_) (fun h=>?_)
 ·have hk:k<l.length:=by simpa using h
  obtain⟨p,hp⟩:∃p,l[k]?=some p:=⟨_,List.getElem?_eq_getElem hk⟩
  have wk:=ah ((k:Int)+1) (by omega)
  have ip:=gS p
  have py:=zQ p
  rw[cPy]at py ip
  rw[mh hp,fk]at hq
  simp -dsimp -implicitDefEqProofs [-getElem?_pos,go_sem,hP,t5,t7,hp,cPy]
  refine au (fun _=>true) [] hP (by kernel_rfl) (by kernel_rfl) ?_
  simp -dsimp -implicitDefEqProofs [-getElem?_pos,go_sem,hP]
  refine ak (py.lift _ _) hP Ej (by simpa using ip) .sc ?_
  cases h1:iQ p
  ·rw[h1,Bool.false_and]at hq
   simp -dsimp -implicitDefEqProofs [-getElem?_pos,go_sem,hP,h1,hq]
  rw[h1,Bool.true_and]at hq
  rcases Nat.eq_zero_or_pos k with k0|k0
  ·rw[ho0 k0,DK,Bool.true_and]at hq
   have k0':¬0<k:=by omega
   have hjk:decide ((0:Int)<(k:Int))=false:=decide_eq_false (by omega)
   simp -dsimp -implicitDefEqProofs [-getElem?_pos,go_sem,hP,h1,t7,k0',hjk,wk]
   refine⟨l.length-(k+1),by omega,?_⟩
   rw[hI]
   exact⟨k+1,some p,by omega,rfl,hq,by omega,uo (f:=some) hp,by simp -dsimp[-getElem?_pos,go_sem,t0],by simp -dsimp[-getElem?_pos,go_sem,t5],by simp -dsimp[-getElem?_pos,go_sem,t6],by simp -dsimp[-getElem?_pos,go_sem]⟩
  ·obtain⟨j,hj⟩:∃j,k=j+1:=⟨k-1,by omega⟩
   obtain⟨x,hx⟩:∃x,l[j]?=some x:=⟨_,List.getElem?_eq_getElem (by omega)⟩
   have hox:=ho1 j x hj hx
   have hjk:decide ((0:Int)<(k:Int))=true:=decide_eq_true (by omega)
   have wj:IntKind.i64.wrap ((k:Int)-1)=(j:Int):=by rw[ah _ (by omega)];omega
   have cm:=mW x p
   have ix:=gS x
   rw[cPy,cPy]at cm
   rw[cPy]at ix
   rw[hox,DK]at hq
   simp -dsimp -implicitDefEqProofs [-getElem?_pos,go_sem,hP,h1,t7,k0,hjk,wj,t0,hx,cPy]
   refine ak (cm.lift _ _) hP Fd (by simpa using⟨ix,ip⟩) .sc ?_
   by_cases c:Bef x p
   ·have c1:=uv.2 c
    have d1:decide (0≤zR x p)=false:=decide_eq_false (by omega)
    rw[mK.2 c,Bool.true_and]at hq
    simp -dsimp -implicitDefEqProofs [-getElem?_pos,go_sem,hP,h1,t7,k0,hjk,wj,t0,hx,cPy,d1,wk]
    refine⟨l.length-(k+1),by omega,?_⟩
    rw[hI]
    exact⟨k+1,some p,by omega,rfl,hq,by omega,uo (f:=some) hp,by simp -dsimp[-getElem?_pos,go_sem,t0],by simp -dsimp[-getElem?_pos,go_sem,t5],by simp -dsimp[-getElem?_pos,go_sem,t6],by simp -dsimp[-getElem?_pos,go_sem]⟩
   ·have c1:=Nq c
    have d1:decide (0≤zR x p)=true:=decide_eq_true c1
    have cb:ke x p=false:=by simpa[ke]using c
    rw[cb,Bool.false_and]at hq
    simp -dsimp -implicitDefEqProofs [-getElem?_pos,go_sem,hP,h1,t7,k0,hjk,wj,t0,hx,cPy,d1,hq]
 ·have hk:k=l.length:=by simp at h;omega
  subst hk
  rw[List.drop_length,fk]at hq
  simp -dsimp -implicitDefEqProofs [-getElem?_pos,go_sem,hP,hq]
theorem Hi (l:List Int) (hl:l.length≤1000000):PFun Tryz.prog none none 188 [aI l] (·=bv (jI none l)):=by
 refine ae Tryz.func188 rfl (by simp[Tryz.f188]) (by kernel_rfl) ?_
 intro E hP hr hs hW hN
 obtain⟨R,hR⟩:∃R,R=jI none l:=⟨_,rfl⟩
 rw[←hR]
 simp -dsimp -implicitDefEqProofs [-getElem?_pos,go_sem,hP,aI]
 obtain⟨I,hI⟩:∃I:Nat→St→Prop,I=fun m s=>∃(k:Nat) (o:Option Int),k≤l.length∧m=l.length-k∧R=jI o (l.drop k)∧(k=0→o=none)∧(∀j x,k=j+1→l[j]?=some x→o=some x)∧s.t 0=aI l∧s.t 5=aI l∧s.t 6=iv l.length∧s.t 7=iv k:=⟨_,rfl⟩
 refine aF I (l.length) (by rw[hN];rfl) ?_ ?_
 ·rw[hI]
  exact⟨0,none,by omega,by omega,by rw[hR];rfl,by simp,by omega,by simp -dsimp[-getElem?_pos,go_sem,aI],by simp -dsimp[-getElem?_pos,go_sem,aI],by simp -dsimp[-getElem?_pos,go_sem],by simp -dsimp[-getElem?_pos,go_sem]⟩
 intro m s hs'
 rw[hI]at hs'
 obtain⟨k,o,hk,hm,hq,ho0,ho1,t0,t5,t6,t7⟩:=hs'
 simp -dsimp -implicitDefEqProofs [-getElem?_pos,go_sem,hP,t6,t7]
 refine aH (fun h=>?_) (fun h=>?_)
 ·have hk:k<l.length:=by simpa using h
  obtain⟨p,hp⟩:∃p,l[k]?=some p:=⟨_,List.getElem?_eq_getElem hk⟩
  have wk:=ah ((k:Int)+1) (by omega)
  rw[mh hp,jI]at hq
  simp -dsimp -implicitDefEqProofs [-getElem?_pos,go_sem,hP,t5,t7,aI,hp]
  refine aj (gI p 1 1000000) hP ph (an (by simp -dsimp[-getElem?_pos,go_sem])) .sc ?_
  cases h1:amg p 1 1000000
  ·rw[h1,Bool.false_and]at hq
   simp -dsimp -implicitDefEqProofs [-getElem?_pos,go_sem,hP,h1,hq]
  rw[h1,Bool.true_and]at hq
  rcases Nat.eq_zero_or_pos k with k0|k0
  ·rw[ho0 k0,DK,Bool.true_and]at hq
   have k0':¬0<k:=by omega
   have hjk:decide ((0:Int)<(k:Int))=false:=decide_eq_false (by omega)
   simp -dsimp -implicitDefEqProofs [-getElem?_pos,go_sem,hP,h1,t7,k0',hjk,wk]
   refine⟨l.length-(k+1),by omega,?_⟩
   rw[hI]
   exact⟨k+1,some p,by omega,rfl,hq,by omega,uo (f:=some) hp,by simp -dsimp[-getElem?_pos,go_sem,t0],by simp -dsimp[-getElem?_pos,go_sem,t5],by simp -dsimp[-getElem?_pos,go_sem,t6],by simp -dsimp[-getElem?_pos,go_sem]⟩
  ·obtain⟨j,hj⟩:∃j,k=j+1:=⟨k-1,by omega⟩
   obtain⟨x,hx⟩:∃x,l[j]?=some x:=⟨_,List.getElem?_eq_getElem (by omega)⟩
   have hox:=ho1 j x hj hx
   have hjk:decide ((0:Int)<(k:Int))=true:=decide_eq_true (by omega)
   have wj:IntKind.i64.wrap ((k:Int)-1)=(j:Int):=by rw[ah _ (by omega)];omega
   rw[hox,DK]at hq
   by_cases c:x<p
   ·have d1:decide (p≤x)=false:=decide_eq_false (by omega)
    rw[decide_eq_true c,Bool.true_and]at hq
    simp -dsimp -implicitDefEqProofs [-getElem?_pos,go_sem,hP,h1,t7,k0,hjk,wj,t0,aI,hx,d1,wk]
    refine⟨l.length-(k+1),by omega,?_⟩
    rw[hI]
    exact⟨k+1,some p,by omega,rfl,hq,by omega,uo (f:=some) hp,by simp -dsimp[-getElem?_pos,go_sem,t0],by simp -dsimp[-getElem?_pos,go_sem,t5],by simp -dsimp[-getElem?_pos,go_sem,t6],by simp -dsimp[-getElem?_pos,go_sem]⟩
   ·have d1:decide (p≤x)=true:=decide_eq_true (by omega)
    rw[decide_eq_false c,Bool.false_and]at hq
    simp -dsimp -implicitDefEqProofs [-getElem?_pos,go_sem,hP,h1,t7,k0,hjk,wj,t0,aI,hx,d1,hq]
 ·have hk:k=l.length:=by simp at h;omega
  subst hk
  rw[List.drop_length,jI]at hq
  simp -dsimp -implicitDefEqProofs [-getElem?_pos,go_sem,hP,hq]
open Go.PA
open Go.RowKit
theorem DL (p:TPayment) (q:TQueue) (hl:q.Known.length≤1000000):PFun Tryz.prog none none 222 [.agg p.cells,.iref q.cells] (·=bv (!inK q.Known p)):=by
 refine ae Tryz.func222 rfl (by simp[Tryz.f222]) (by kernel_rfl) ?_
 intro E hP hr hs hW hN
 simp -dsimp -implicitDefEqProofs [-getElem?_pos,go_sem,hP,cPy,cQu]
 refine ak ((nr q.Known p.Warrant hl).lift _ _) hP LW (by simp[dz,aP]) .sc ?_
 simp -dsimp -implicitDefEqProofs [-getElem?_pos,go_sem,hP,inK]
theorem th (q:TQueue) (l:List TPayment) (hq:q.Known.length≤1000000) (hl:l.length≤1000000):PFun Tryz.prog none none 189 [.agg q.cells,aT l] (·=bv (!l.all (inK q.Known))):=by
 refine ae Tryz.func189 rfl (by simp[Tryz.f189]) (by kernel_rfl) ?_
 intro E hP hr hs hW hN
 have iq:=q.imm
 have ip:=aV l
 simp -dsimp -implicitDefEqProofs [-getElem?_pos,go_sem,hP,cQu,aI]
 refine aj (mr l 222 [.iref q.cells] (fun p=>!inK q.Known p) hl PM (by simp[bH];exact q.imm) fun p _=>DL p q hq) hP Kw (bI ip (eK (cs:=[.ref 0 0 0]) (by simp -dsimp[-getElem?_pos,go_sem,eC,cQu,aI]) (by simp[bH];exact q.imm) (cH.2 trivial))) .sc ?_
 have e:l.any (fun p=>!inK q.Known p)=!l.all (inK q.Known):=by rw[List.not_all_eq_any_not]
 simp -dsimp -implicitDefEqProofs [-getElem?_pos,go_sem,hP,e]
theorem GL (p:TPayment) (w:Int):PFun Tryz.prog none none 209 [.agg p.cells,.iref [iv w]] (·=bv (decide (p.Warrant=w))):=by
 refine ae Tryz.func209 rfl (by simp[Tryz.f209]) (by kernel_rfl) ?_
 intro E hP hr hs hW hN
 simp -dsimp -implicitDefEqProofs [-getElem?_pos,go_sem,hP,cPy]
theorem G7 (q:TQueue) (w:Int) (hl:q.Waiting.length≤1000000):PFun Tryz.prog none none 162 [.agg q.cells,iv w] (·=iv (gl q w)):=by
 refine ae Tryz.func162 rfl (by simp[Tryz.f162]) (by kernel_rfl) ?_
 intro E hP hr hs hW hN
 have ip:=aV q.Waiting
 simp -dsimp -implicitDefEqProofs [-getElem?_pos,go_sem,hP,cQu,aI]
 refine aj (kW q.Waiting 209 [.iref [iv w]] (fun p=>decide (p.Warrant=w)) hl Pp (by simp[bH,aP]) fun p _=>GL p w) hP Am (bI ip (eK (cs:=[.ref 1 0 0]) (by simp -dsimp[-getElem?_pos,go_sem,eC]) (by simp[bH,aP]) (cH.2 trivial))) .sc ?_
 simp -dsimp -implicitDefEqProofs [-getElem?_pos,go_sem,hP,gl]
theorem Ke {β:Type} (l:List (Int×β)) (k a:Int) (v:β):iM (tY l k v) a=if a=k then some v else iM l a:=by
 induction l with
 |nil=>
  simp only[tY,iM]
  by_cases h:a=k
  ·subst h;simp
  ·rw[if_neg (fun e=>h e.symm),if_neg h]
 |cons e l ih=>
  simp only[tY]
  by_cases h:e.1=k
  ·rw[if_pos h]
   simp only[iM]
   by_cases h':a=k
   ·subst h';simp
   ·rw[if_neg (fun e=>h' e.symm),if_neg h',if_neg (fun e'=>h' (e'.symm.trans h))]
  ·rw[if_neg h]
   simp only[iM,ih]
   by_cases h':e.1=a
   ·rw[if_pos h',if_pos h',if_neg (fun e'=>h (h'.trans e'))]
   ·rw[if_neg h',if_neg h']
def tz (l:List TPayment):List (Int×Bool):=l.foldl (fun m p=>tY m p.Warrant true) []
theorem yY (w:Int):∀(l:List TPayment) (m:List (Int×Bool)),(iM (l.foldl (fun m p=>tY m p.Warrant true) m) w).getD false=((iM m w).getD false||l.any fun x=>decide (x.Warrant=w))
 |[],m=>by simp
 |p::l,m=>by
  rw[List.foldl_cons,yY w l,Ke,List.any_cons]
  by_cases h:w=p.Warrant
  ·simp[h]
  ·have h':¬p.Warrant=w:=fun e=>h e.symm
   simp[h,h']
theorem K4 (l:List TPayment) (w:Int):(iM (tz l) w).getD false=l.any fun x=>decide (x.Warrant=w):=by
 rw[tz,yY]
 simp[iM]
theorem Jc (l:List TPayment) (p:TPayment):tY (tz l) p.Warrant true=tz (l++[p]):=by
 rw[tz,tz,List.foldl_append]
 rfl
theorem zc (l:List TPayment) (hl:l.length≤1000000):PFun Tryz.prog none none 190 [aT l] (·=bv (!eA [] l)):=by
 refine ae Tryz.func190 rfl (by simp[Tryz.f190]) (by kernel_rfl) ?_
 intro E hP hr hs hW hN
 obtain⟨R,hR⟩:∃R,R=eA [] l:=⟨_,rfl⟩
 rw[←hR]
 simp -dsimp -implicitDefEqProofs [-getElem?_pos,go_sem,hP]
 obtain⟨I,hI⟩:∃I:Nat→St→Prop,I=fun m s=>∃k:Nat,k≤l.length∧m=l.length-k∧R=eA (l.take k) (l.drop k)∧s.t 3= .mref 0∧s.t 7=aT l∧s.t 8=iv l.length∧s.t 9=iv k∧s.H[0]?=some (some ⟨0,2,mz FB (tz (l.take k))⟩):=⟨_,rfl⟩
 refine aF I (l.length) (by rw[hN];rfl) ?_ ?_
 ·rw[hI]
  exact⟨0,by omega,by omega,by rw[hR];rfl,by simp -dsimp[-getElem?_pos,go_sem],by simp -dsimp[-getElem?_pos,go_sem],by simp -dsimp[-getElem?_pos,go_sem],by simp -dsimp[-getElem?_pos,go_sem],by simp -dsimp[-getElem?_pos,go_sem];rfl⟩
 intro m s hs'
 rw[hI]at hs'
 obtain⟨k,hk,hm,hq,t3,t7,t8,t9,hH⟩:=hs'
 have lt0:=(gsI hH)
 simp -dsimp -implicitDefEqProofs [-getElem?_pos,go_sem,hP,t8,t9]
 refine aH (fun h=>?_) (fun h=>?_)
 ·have hk:k<l.length:=by simpa using h
  obtain⟨p,hp⟩:∃p,l[k]?=some p:=⟨_,List.getElem?_eq_getElem hk⟩
  have wk:=ah ((k:Int)+1) (by omega)
  rw[mh hp,eA]at hq
  have sg:=K4 (l.take k) p.Warrant
  have ss:=Jc (l.take k) p
  rw[←gQ hp]at ss hq
  generalize tz (l.take k)=M at sg ss hH
  generalize (l.take k).any (fun x=>decide (x.Warrant=p.Warrant))=y at sg hq
  cases y
  ·rw[Bool.not_false,Bool.true_and]at hq
   simp -dsimp -implicitDefEqProofs [-getElem?_pos,go_sem,hP,t7,t9,hp,cPy,t3,lt0,hH,sg]
   simp -dsimp -implicitDefEqProofs [-getElem?_pos,go_sem,hP,t3,lt0,hH,wk,t9,ss]
   refine⟨l.length-(k+1),by omega,?_⟩
   rw[hI]
   exact⟨k+1,by omega,rfl,hq,by simp -dsimp[-getElem?_pos,go_sem,t3],by simp -dsimp[-getElem?_pos,go_sem,t7],by simp -dsimp[-getElem?_pos,go_sem,t8],by simp -dsimp[-getElem?_pos,go_sem],by simp -dsimp[-getElem?_pos,go_sem,lt0]⟩
  ·rw[Bool.not_true,Bool.false_and]at hq
   simp -dsimp -implicitDefEqProofs [-getElem?_pos,go_sem,hP,t7,t9,hp,cPy,t3,lt0,hH,sg,hq]
 ·have hk:k=l.length:=by simp at h;omega
  subst hk
  rw[List.drop_length,eA]at hq
  simp -dsimp -implicitDefEqProofs [-getElem?_pos,go_sem,hP,hq]
theorem IA (d:Int):PFun Tryz.prog none none 155 [iv d] (·=bv (amg d 0 36000)):=by
 refine ae Tryz.func155 rfl (by simp[Tryz.f155]) (by kernel_rfl) ?_
 intro E hP hr hs hW hN
 by_cases h1:0≤d<;>by_cases h2:d≤36000<;>simp -dsimp -implicitDefEqProofs [-getElem?_pos,go_sem,hP,h1,h2,amg]
theorem k9 (d:Int):PFun Tryz.prog none none 107 [iv d] (·=bv (rM d)):=by
 refine ae Tryz.func107 rfl (by simp[Tryz.f107]) (by kernel_rfl) ?_
 intro E hP hr hs hW hN
 simp -dsimp -implicitDefEqProofs [-getElem?_pos,go_sem,hP]
 refine aj (IA d) hP PC (an (by simp -dsimp[-getElem?_pos,go_sem])) .sc ?_
 cases h:amg d 0 36000
 ·simp -dsimp -implicitDefEqProofs [-getElem?_pos,go_sem,hP,h,rM]
 have hd:=fu.1 h
 have e:d.tmod 7=d%7:=Int.tmod_eq_emod_of_nonneg (by omega)
 have w:=ah (d%7) (by omega)
 simp -dsimp -implicitDefEqProofs [-getElem?_pos,go_sem,hP,h,rM,e,w]
open Go.PA
open Go.RowKit
set_option maxHeartbeats 1000000 in
theorem J3 (q:TQueue) (hf:FitQ q):PFun Tryz.prog none none 191 [.agg q.cells] (·=bv (cr q.Known 0 0 q.Batches)):=by
 refine ae Tryz.func191 rfl (by simp[Tryz.f191]) (by kernel_rfl) ?_
 intro E hP hr hs hW hN
 have iq:=dr q
 obtain⟨R,hR⟩:∃R,R=cr q.Known 0 0 q.Batches:=⟨_,rfl⟩
 rw[←hR]
 have str:=th q
 rw[cQu]at iq str
 simp only[aI]at iq str
 have hk9:=hf.k
 have hb9:=hf.b
 obtain⟨l,hl⟩:∃l,l=q.Batches:=⟨_,rfl⟩
 have each:∀b,b∈l→b.Payments.length≤100000:=hl▸hf.each
 rw[←hl]at hR hb9 str iq
 simp -dsimp -implicitDefEqProofs [-getElem?_pos,go_sem,hP,cQu,aI,←hl]
 obtain⟨I,hI⟩:∃I:Nat→St→Prop,I=fun m s=>∃(k:Nat) (d:Int),k≤l.length∧m=l.length-k∧R=cr q.Known k d (l.drop k)∧s.t 1= .ref 0 0 0∧s.t 3=iv d∧s.t 7=bY l∧s.t 8=iv l.length∧s.t 9=iv k∧s.H[0]?=some (some ⟨32,3,[[aT q.Waiting,.list 1 (q.Known.map fun x=>[iv x]),bY l]]⟩):=⟨_,rfl⟩
 refine aF I (l.length) (by rw[hN];rfl) ?_ ?_
 ·rw[hI]
  exact⟨0,0,by omega,by omega,by rw[hR];rfl,by simp -dsimp[-getElem?_pos,go_sem],by simp -dsimp[-getElem?_pos,go_sem],by simp -dsimp[-getElem?_pos,go_sem],by simp -dsimp[-getElem?_pos,go_sem],by simp -dsimp[-getElem?_pos,go_sem],by simp -dsimp[-getElem?_pos,go_sem]⟩
 intro m s hs'
 rw[hI]at hs'
 obtain⟨k,d,hk,hm,hq,t1,t3,t7,t8,t9,h0⟩:=hs'
 have lt0:=(gsI h0)
 simp -dsimp -implicitDefEqProofs [-getElem?_pos,go_sem,hP,t8,t9]
 refine aH (fun h=>?_) (fun h=>?_)
 ·have hk:k<l.length:=by simpa using h
  obtain⟨b,hb⟩:∃b,l[k]?=some b:=⟨_,List.getElem?_eq_getElem hk⟩
  have hbl:=each b (List.mem_of_getElem? hb)
  have wk:=ah ((k:Int)+1) (by omega)
  have ip:=aV b.Payments
  rw[mh hb,cr,z6]at hq
  simp -dsimp -implicitDefEqProofs [-getElem?_pos,go_sem,hP,t7,t9,hb,cBt]
  by_cases c1:b.Number=(k:Int)+1
  rotate_left
  ·rw[decide_eq_false c1,Bool.false_and,Bool.false_and]at hq
   have d1:=decide_eq_false c1
   simp -dsimp -implicitDefEqProofs [-getElem?_pos,go_sem,hP,wk,c1,d1,hq]
  rw[decide_eq_true c1,Bool.true_and]at hq
  by_cases c2:d≤b.Day
  rotate_left
  ·rw[decide_eq_false c2,Bool.false_and,Bool.false_and]at hq
   have d2:decide (b.Day<d)=true:=decide_eq_true (by omega)
   simp -dsimp -implicitDefEqProofs [-getElem?_pos,go_sem,hP,wk,c1,t3,d2,hq]
  rw[decide_eq_true c2,Bool.true_and]at hq
  have d2:decide (b.Day<d)=false:=decide_eq_false (by omega)
  simp -dsimp -implicitDefEqProofs [-getElem?_pos,go_sem,hP,wk,c1,t3,d2]
  refine aj (k9 b.Day) hP Es (an (by simp -dsimp[-getElem?_pos,go_sem])) .sc ?_
  cases c3:rM b.Day
  ·rw[c3,Bool.false_and,Bool.false_and]at hq
   simp -dsimp -implicitDefEqProofs [-getElem?_pos,go_sem,hP,c3,hq]
  rw[c3,Bool.true_and]at hq
  simp -dsimp -implicitDefEqProofs [-getElem?_pos,go_sem,hP,c3]
  refine aj (gI b.Payments.length 1 10) hP ph (an (by simp -dsimp[-getElem?_pos,go_sem])) .sc ?_
  cases c4:amg b.Payments.length 1 10
  ·rw[c4,Bool.false_and,Bool.false_and]at hq
   simp -dsimp -implicitDefEqProofs [-getElem?_pos,go_sem,hP,c4,hq]
  rw[c4,Bool.true_and,G0]at hq
  simp -dsimp -implicitDefEqProofs [-getElem?_pos,go_sem,hP,c4]
  refine ak ((sW b.Payments (by omega)).lift _ _) hP KN (by simpa using ip) .sc ?_
  cases c5:fk none b.Payments
  ·rw[c5,Bool.false_and,Bool.false_and]at hq
   simp -dsimp -implicitDefEqProofs [-getElem?_pos,go_sem,hP,c5,hq]
  rw[c5,Bool.true_and]at hq
  simp -dsimp -implicitDefEqProofs [-getElem?_pos,go_sem,hP,c5,t1,h0,lt0]
  refine ak ((str b.Payments (by omega) (by omega)).lift _ _) hP Kx (by simpa using⟨iq,ip⟩) .sc ?_
  cases c6:b.Payments.all (inK q.Known)
  ·rw[c6,Bool.false_and,Bool.false_and]at hq
   simp -dsimp -implicitDefEqProofs [-getElem?_pos,go_sem,hP,c6,hq]
  rw[c6,Bool.true_and]at hq
  simp -dsimp -implicitDefEqProofs [-getElem?_pos,go_sem,hP,c6]
  refine ak ((zc b.Payments (by omega)).lift _ _) hP J8 (by simpa using ip) .sc ?_
  cases c7:eA [] b.Payments
  ·rw[c7,Bool.false_and]at hq
   simp -dsimp -implicitDefEqProofs [-getElem?_pos,go_sem,hP,c7,hq]
  rw[c7,Bool.true_and]at hq
  simp -dsimp -implicitDefEqProofs [-getElem?_pos,go_sem,hP,c7,t9,wk]
  refine⟨l.length-(k+1),by omega,?_⟩
  rw[hI]
  exact⟨k+1,b.Day,by omega,rfl,hq,by simp -dsimp[-getElem?_pos,go_sem,t1],by simp -dsimp[-getElem?_pos,go_sem],by simp -dsimp[-getElem?_pos,go_sem,t7],by simp -dsimp[-getElem?_pos,go_sem,t8],by simp -dsimp[-getElem?_pos,go_sem],by simp -dsimp[-getElem?_pos,go_sem,lt0,h0]⟩
 ·have hk:k=l.length:=by simp at h;omega
  subst hk
  rw[List.drop_length,cr]at hq
  simp -dsimp -implicitDefEqProofs [-getElem?_pos,go_sem,hP,hq]
set_option maxHeartbeats 1000000 in
theorem iW (q:TQueue) (hf:FitQ q):PFun Tryz.prog none none 139 [.agg q.cells] (·=iv (cT q)):=by
 refine ae Tryz.func139 rfl (by simp[Tryz.f139]) (by kernel_rfl) ?_
 intro E hP hr hs hW hN
 have iq:=dr q
 have iw:=aV q.Waiting
 have ik:=dz q.Known
 obtain⟨R,hR⟩:∃R,R=cT q:=⟨_,rfl⟩
 rw[←hR]
 have str:=th q
 have sen:=J3 q hf
 have knn:=Hi q.Known (by have:=hf.k;omega)
 rw[cQu]at iq str sen
 simp only[aI]at iq str sen knn ik
 have hk9:=hf.k
 have hb9:=hf.b
 have hw9:=hf.w
 rw[cT]at hR
 by_cases c1:100<q.Waiting.length
 ·have d1:decide ((100:Int)<(q.Waiting.length:Int))=true:=decide_eq_true (by omega)
  rw[if_pos (.inl c1)]at hR
  simp -dsimp -implicitDefEqProofs [-getElem?_pos,go_sem,hP,cQu,aI,c1,d1,hR]
 have d1:decide ((100:Int)<(q.Waiting.length:Int))=false:=decide_eq_false (by omega)
 by_cases c2:200<q.Known.length
 ·have d2:decide ((200:Int)<(q.Known.length:Int))=true:=decide_eq_true (by omega)
  rw[if_pos (.inr (.inl c2))]at hR
  simp -dsimp -implicitDefEqProofs [-getElem?_pos,go_sem,hP,cQu,aI,c1,d1,c2,d2,hR]
 have d2:decide ((200:Int)<(q.Known.length:Int))=false:=decide_eq_false (by omega)
 by_cases c3:200<q.Batches.length
 ·have d3:decide ((200:Int)<(q.Batches.length:Int))=true:=decide_eq_true (by omega)
  rw[if_pos (.inr (.inr c3))]at hR
  simp -dsimp -implicitDefEqProofs [-getElem?_pos,go_sem,hP,cQu,aI,c1,d1,c2,d2,c3,d3,hR]
 have d3:decide ((200:Int)<(q.Batches.length:Int))=false:=decide_eq_false (by omega)
 rw[if_neg (by omega),G0]at hR
 simp -dsimp -implicitDefEqProofs [-getElem?_pos,go_sem,hP,cQu,aI,d1,d2,d3]
 refine ak ((sW q.Waiting (by omega)).lift _ _) hP KN (by simpa using iw) .sc ?_
 cases c5:fk none q.Waiting
 ·rw[c5,Bool.false_and,Bool.false_and,Bool.and_false,if_neg (by simp)]at hR
  simp -dsimp -implicitDefEqProofs [-getElem?_pos,go_sem,hP,c5,hR]
 rw[c5,Bool.true_and]at hR
 simp -dsimp -implicitDefEqProofs [-getElem?_pos,go_sem,hP,c5]
 refine ak (knn.lift _ _) hP PH (by simpa using ik) .sc ?_
 cases c4:jI none q.Known
 ·rw[c4,Bool.false_and,if_neg (by simp)]at hR
  simp -dsimp -implicitDefEqProofs [-getElem?_pos,go_sem,hP,c4,hR]
 rw[c4,Bool.true_and]at hR
 simp -dsimp -implicitDefEqProofs [-getElem?_pos,go_sem,hP,c4]
 refine ak ((str q.Waiting (by omega) (by omega)).lift _ _) hP Kx (by simpa using⟨iq,iw⟩) .sc ?_
 cases c6:q.Waiting.all (inK q.Known)
 ·rw[c6,Bool.false_and,Bool.false_and,if_neg (by simp)]at hR
  simp -dsimp -implicitDefEqProofs [-getElem?_pos,go_sem,hP,c6,hR]
 rw[c6,Bool.true_and]at hR
 simp -dsimp -implicitDefEqProofs [-getElem?_pos,go_sem,hP,c6]
 refine ak ((zc q.Waiting (by omega)).lift _ _) hP J8 (by simpa using iw) .sc ?_
 cases c7:eA [] q.Waiting
 ·rw[c7,Bool.false_and,if_neg (by simp)]at hR
  simp -dsimp -implicitDefEqProofs [-getElem?_pos,go_sem,hP,c7,hR]
 rw[c7,Bool.true_and]at hR
 simp -dsimp -implicitDefEqProofs [-getElem?_pos,go_sem,hP,c7]
 refine ak (sen.lift _ _) hP QP (by simpa using iq) .sc ?_
 cases c8:cr q.Known 0 0 q.Batches
 ·rw[c8,if_neg (by simp)]at hR
  simp -dsimp -implicitDefEqProofs [-getElem?_pos,go_sem,hP,c8,hR]
 rw[c8,if_pos rfl]at hR
 simp -dsimp -implicitDefEqProofs [-getElem?_pos,go_sem,hP,c8,hR]
open Go.PA
open Go.RowKit
open Go.PA
open Go.RowKit
theorem jR {row src:Option Nat} (l:List TPayment) (H:ab) (hl:l.length≤1000000):MFun Tryz.prog row src 39 [.list 5 (ac TPayment.cells l)] H (fun r H'=>∃id,r= .sref id 0 l.length∧H.length≤id∧H'[id]?=some (some ⟨108,5,ac TPayment.cells l⟩)∧Kept [] H H'):=by
 have own:MFun Tryz.prog row src 39 [.list 5 (ac TPayment.cells l)] H (fun r H'=>(r= .nil∧l=[]∧H'=H)∨∃id,r= .sref id 0 l.length∧H.length≤id∧H'[id]?=some (some ⟨108,5,ac TPayment.cells l⟩)∧Kept [] H H'):=by
  cases l with
  |nil=>
   refine bu fun A c=>?_
   refine al Tryz.func39 rfl (by simp[Tryz.f39]) (by kernel_rfl) ⟨.nil,H,.inl ⟨rfl,rfl,rfl⟩⟩ ?_
   intro E hP hr hs hN
   cases A with
   |none=>simp -dsimp -implicitDefEqProofs [-getElem?_pos,go_sem,hP]
   |some a=>
    simp -dsimp -implicitDefEqProofs [-getElem?_pos,go_sem,hP]
    exact ap _ _ _
  |cons a l=>
   refine al Tryz.func39 rfl (by simp[Tryz.f39]) (by kernel_rfl) ⟨_,H++[some ⟨108,5,ac TPayment.cells (a::l)⟩],.inr ⟨H.length,rfl,Nat.le_refl _,by simp,az _ (ai _ _)⟩⟩ ?_
   intro E hP hr hs hN
   simp only[List.length_cons]at hl
   have e:ac TPayment.cells (a::l)=TPayment.cells a::ac TPayment.cells l:=rfl
   simp -dsimp -implicitDefEqProofs [-getElem?_pos,go_sem,hP,e]
   refine⟨by omega,by omega,?_⟩
   exact ap _ _ _
 refine (own.ownNil 108 5).mono ?_
 rintro r H' (⟨H0,h0,rfl,rfl⟩|⟨hne,h⟩)
 ·rcases h0 with⟨_,rfl,rfl⟩|⟨id,h,_⟩
  ·exact⟨_,rfl,Nat.le_refl _,by simp[ac],az _ (ai _ _)⟩
  ·cases h
 ·rcases h with⟨h,_⟩|h
  ·exact absurd h hne
  ·exact h
theorem qS (l:List TPayment) (hl:l.length≤1000000):PFun Tryz.prog none none 39 [.list 5 (ac TPayment.cells l)] (·= .list 5 (ac TPayment.cells l)):=by
 cases l with
 |nil=>
  refine bw fun A c=>?_
  refine ae Tryz.func39 rfl (by simp[Tryz.f39]) (by kernel_rfl) ?_
  intro E hP hr hs hW hN
  cases A with
  |none=>
   simp -dsimp -implicitDefEqProofs [-getElem?_pos,go_sem,hP]
   exact aB .nil (aG.2 (by simp)) (.nil _) rfl
  |some a=>
   simp -dsimp -implicitDefEqProofs [-getElem?_pos,go_sem,hP]
   refine aB (x:= .list 5 []) ?_ (aG.2 (by simp)) ?_ rfl
   ·simp -dsimp -implicitDefEqProofs [-getElem?_pos,go_sem]
   ·simp -dsimp -implicitDefEqProofs [-getElem?_pos,go_sem]
    first|exact .refl _|skip
 |cons a l=>
  refine ae Tryz.func39 rfl (by simp[Tryz.f39]) (by kernel_rfl) ?_
  intro E hP hr hs hW hN
  simp only[List.length_cons]at hl
  have e:ac TPayment.cells (a::l)=TPayment.cells a::ac TPayment.cells l:=rfl
  have im:Imm (.list 5 (TPayment.cells a::ac TPayment.cells l)):=by rw[←e];exact aC _ TPayment.imm _
  have et:(TPayment.cells a::ac TPayment.cells l).take (l.length+1)=TPayment.cells a::ac TPayment.cells l:=by
   rw[←e]
   exact cX TPayment.cells (a::l) _ (by simp)
  simp -dsimp -implicitDefEqProofs [-getElem?_pos,go_sem,hP,e]
  refine⟨by omega,by omega,?_⟩
  refine aB (x:= .list 5 (TPayment.cells a::ac TPayment.cells l)) ?_ im ?_ rfl
  ·simp -dsimp -implicitDefEqProofs [-getElem?_pos,go_sem]
   first|exact im|(have h:=aG.1 im;simp only[List.mem_cons,forall_eq_or_imp]at h;exact h)
  ·simp -dsimp -implicitDefEqProofs [-getElem?_pos,go_sem]
   first|exact .refl _|skip
theorem lV {row src:Option Nat} (l:List Int) (H:ab) (hl:l.length≤1000000):MFun Tryz.prog row src 40 [.list 1 (ac aJ l)] H (fun r H'=>∃id,r= .sref id 0 l.length∧H.length≤id∧H'[id]?=some (some ⟨3,1,ac aJ l⟩)∧Kept [] H H'):=by
 have own:MFun Tryz.prog row src 40 [.list 1 (ac aJ l)] H (fun r H'=>(r= .nil∧l=[]∧H'=H)∨∃id,r= .sref id 0 l.length∧H.length≤id∧H'[id]?=some (some ⟨3,1,ac aJ l⟩)∧Kept [] H H'):=by
  cases l with
  |nil=>
   refine bu fun A c=>?_
   refine al Tryz.func40 rfl (by simp[Tryz.f40]) (by kernel_rfl) ⟨.nil,H,.inl ⟨rfl,rfl,rfl⟩⟩ ?_
   intro E hP hr hs hN
   cases A with
   |none=>simp -dsimp -implicitDefEqProofs [-getElem?_pos,go_sem,hP]
   |some a=>
    simp -dsimp -implicitDefEqProofs [-getElem?_pos,go_sem,hP]
    exact ap _ _ _
  |cons a l=>
   refine al Tryz.func40 rfl (by simp[Tryz.f40]) (by kernel_rfl) ⟨_,H++[some ⟨3,1,ac aJ (a::l)⟩],.inr ⟨H.length,rfl,Nat.le_refl _,by simp,az _ (ai _ _)⟩⟩ ?_
   intro E hP hr hs hN
   simp only[List.length_cons]at hl
   have e:ac aJ (a::l)=aJ a::ac aJ l:=rfl
   simp -dsimp -implicitDefEqProofs [-getElem?_pos,go_sem,hP,e]
   refine⟨by omega,by omega,?_⟩
   exact ap _ _ _
 refine (own.ownNil 3 1).mono ?_
 rintro r H' (⟨H0,h0,rfl,rfl⟩|⟨hne,h⟩)
 ·rcases h0 with⟨_,rfl,rfl⟩|⟨id,h,_⟩
  ·exact⟨_,rfl,Nat.le_refl _,by simp[ac],az _ (ai _ _)⟩
  ·cases h
 ·rcases h with⟨h,_⟩|h
  ·exact absurd h hne
  ·exact h
abbrev bF (l:List Int):List (List AV):=l.map fun x=>[iv x]
theorem fL (l:List Int):(bF l).length=l.length:=by simp[bF]
set_option maxHeartbeats 2000000 in
theorem uq {row src:Option Nat} (q:TQueue) (H:ab) (hf:FitQ q):
  MFun Tryz.prog row src 145 [.agg q.cells] H (fun r H'=>∃i1 i2 x,r= .agg [.sref i1 0 q.Waiting.length,.sref i2 0 q.Known.length,x]∧H.length≤i1∧H.length≤i2∧i1≠i2∧H'[i1]?=some (some ⟨108,5,ac TPayment.cells q.Waiting⟩)∧H'[i2]?=some (some ⟨3,1,bF q.Known⟩)∧(∃B,i1<B∧i2<B∧Grown B H' x 111 3 (ac TBatch.cells q.Batches))∧Kept [] H H'):=by
 obtain⟨C,hC⟩:∃C:AV→ab→Prop,C=fun r H'=>∃i1 i2 x,r= .agg [.sref i1 0 q.Waiting.length,.sref i2 0 q.Known.length,x]∧H.length≤i1∧H.length≤i2∧i1≠i2∧H'[i1]?=some (some ⟨108,5,ac TPayment.cells q.Waiting⟩)∧H'[i2]?=some (some ⟨3,1,bF q.Known⟩)∧(∃B,i1<B∧i2<B∧Grown B H' x 111 3 (ac TBatch.cells q.Batches))∧Kept [] H H':=⟨_,rfl⟩
 rw[←hC]
 have ex:∃r H',C r H':=⟨.agg [.sref H.length 0 q.Waiting.length,.sref (H.length+1) 0 q.Known.length,.sref (H.length+2) 0 q.Batches.length],H++[some ⟨108,5,ac TPayment.cells q.Waiting⟩,some ⟨3,1,bF q.Known⟩,some ⟨111,3,ac TBatch.cells q.Batches⟩],by
  rw[hC]
  exact⟨H.length,H.length+1,_,rfl,Nat.le_refl _,by omega,by omega,by simp,by rw[List.getElem?_append_right (by omega)];simp,⟨H.length+2,by omega,by omega,.inr ⟨H.length+2,Nat.le_refl _,by rw[af],by rw[List.getElem?_append_right (by omega)];simp⟩⟩,ap _ _ _⟩⟩
 refine al Tryz.func145 rfl (by simp[Tryz.f145]) (by kernel_rfl) (ex) ?_
 intro E hP hr hs hN
 have ip:=aV q.Waiting
 have i2:=dz q.Known
 have i3:=di q.Batches
 simp only[aI]at i2
 simp -dsimp -implicitDefEqProofs [-getElem?_pos,go_sem,hP,cQu,aI]
 have lw:=hf.w
 have lk:=hf.k
 have lb:=hf.b
 obtain⟨Inv,hInv⟩:∃Inv:St→Prop,Inv=fun s=>∃(p j1 j2:Nat),s.t 1= .ref H.length 0 0∧s.t 2= .ref (H.length+1) 0 0∧s.t 3= .ref p 0 0∧H.length+2≤p∧H.length+2≤j1∧H.length+2≤j2∧p≠j1∧p≠j2∧j1≠j2∧s.H[H.length]?=some (some ⟨32,3,[[aT q.Waiting,.list 1 (bF q.Known),bY q.Batches]]⟩)∧s.H[H.length+1]?=some (some ⟨32,3,[[.nil,.nil,.nil]]⟩)∧s.H[p]?=some (some ⟨32,3,[[.sref j1 0 q.Waiting.length,.sref j2 0 q.Known.length,.nil]]⟩)∧s.H[j1]?=some (some ⟨108,5,ac TPayment.cells q.Waiting⟩)∧s.H[j2]?=some (some ⟨3,1,bF q.Known⟩)∧Kept [] H s.H:=⟨_,rfl⟩
 obtain⟨H1,hH1⟩:∃H1:ab,H1=H++[some ⟨32,3,[[aT q.Waiting,.list 1 (bF q.Known),bY q.Batches]]⟩,some ⟨32,3,[[.nil,.nil,.nil]]⟩]:=⟨_,rfl⟩
 have l1:H1.length=H.length+2:=by rw[hH1];simp
 have a0:H1[H.length]?=some (some ⟨32,3,[[aT q.Waiting,.list 1 (bF q.Known),bY q.Batches]]⟩):=by rw[hH1];simp
 have a1:H1[H.length+1]?=some (some ⟨32,3,[[.nil,.nil,.nil]]⟩):=by rw[hH1,List.getElem?_append_right (by omega)];simp
 have k1:Kept [] H H1:=by rw[hH1];exact ap _ _ _
 simp only[←hH1]
 have aD:∀(X X':ab),Kept [] X X'→X[H.length]?=H1[H.length]?→X[H.length+1]?=H1[H.length+1]?→Agree (fun i=>decide (i=H.length)||decide (i=H.length+1)) X X':=fun X X' hk e0 e1=>dZ hk fun i hi=>by
  simp only[Bool.or_eq_true,decide_eq_true_eq]at hi
  rcases hi with rfl|rfl
  ·exact⟨by simp,_,e0.trans a0⟩
  ·exact⟨by simp,_,e1.trans a1⟩
 refine ym Inv ?_ ?_
 ·refine EM (fun i=>decide (i=H.length)||decide (i=H.length+1)) [8] [] 2 hP (by kernel_rfl) (by kernel_rfl) (by simp) ?_
  simp -dsimp -implicitDefEqProofs [-getElem?_pos,go_sem,hP,List.take_succ_cons,List.take_zero,ao,a0,l1]
  refine gD 3 rfl (by kernel_rfl) ?_
  simp -dsimp -implicitDefEqProofs [-getElem?_pos,go_sem,hP,a0,ao,l1]
  refine gD 4 rfl (by kernel_rfl) ?_
  simp -dsimp -implicitDefEqProofs [-getElem?_pos,go_sem,hP,a0,ao,l1]
  refine nL (i:=2) (j:=7) (by kernel_rfl) rfl rfl ?_ ?_
  ·simp -dsimp -implicitDefEqProofs [-getElem?_pos,go_sem,hP]
   refine ar (by rw[hr,hs];exact jR q.Waiting H1 (by omega)) hP sL ?_
   rintro r H2 ⟨j1,rfl,hj1,o1,hk⟩
   have b0:=hk _ _ (by simp) a0
   have b1:=hk _ _ (by simp) a1
   have ltn:=(gsI b1)
   have lt1:=(gsI o1)
   simp -dsimp -implicitDefEqProofs [-getElem?_pos,go_sem,hP]
   refine⟨aD _ _ hk rfl rfl,?_⟩
   refine nL (i:=5) (j:=7) (by kernel_rfl) rfl rfl ?_ ?_
   ·simp -dsimp -implicitDefEqProofs [-getElem?_pos,go_sem,hP]
    refine ar (by rw[hr,hs];exact lV q.Known H2 (by omega)) hP zm ?_
    rintro r H3 ⟨j2,rfl,hj2,o2,hk2⟩
    have c0:=hk2 _ _ (by simp) b0
    have c1:=hk2 _ _ (by simp) b1
    have p1:=hk2 _ _ (by simp) o1
    have ltn2:=(gsI c1)
    have lt2:=(gsI o2)
    have lt3:=(gsI p1)
    have eI:ac aJ q.Known=bF q.Known:=rfl
    have fin:∀t,t 1=AV.ref H.length 0 0→t 2=AV.ref (H.length+1) 0 0→t 3=AV.ref H3.length 0 0→Inv ⟨t,H3++[some ⟨32,3,[[.sref j1 0 q.Waiting.length,.sref j2 0 q.Known.length,.nil]]⟩]⟩:=fun t e1 e2 e3=>by
     rw[hInv]
     refine⟨H3.length,j1,j2,e1,e2,e3,by omega,by omega,by omega,by omega,by omega,by omega,?_,?_,by simp,?_,?_,((k1.trans hk).trans hk2).trans (ap _ _ _)⟩
     ·rw[List.getElem?_append_left (by omega),c0]
     ·rw[List.getElem?_append_left (by omega),c1]
     ·rw[List.getElem?_append_left (by omega),p1]
     ·rw[List.getElem?_append_left (by omega),o2,eI]
    simp -dsimp -implicitDefEqProofs [-getElem?_pos,go_sem,hP]
    refine⟨aD _ _ hk2 (b0.trans a0.symm) (b1.trans a1.symm),?_⟩
    refine nL (i:=6) (j:=7) (by kernel_rfl) rfl rfl ?_ ?_
    ·simp -dsimp -implicitDefEqProofs [-getElem?_pos,go_sem,hP]
     refine bC (i:=7) (by kernel_rfl) rfl ?_
     simp -dsimp -implicitDefEqProofs [-getElem?_pos,go_sem,hP]
     refine⟨aD _ _ (ap _ _ _) (c0.trans a0.symm) (c1.trans a1.symm),?_⟩
     refine bC (i:=8) (by kernel_rfl) rfl ?_
     simp -dsimp -implicitDefEqProofs [-getElem?_pos,go_sem,hP]
     refine iG (by kernel_rfl) ?_
     exact fin _ (by simp -dsimp[-getElem?_pos,go_sem]) (by simp -dsimp[-getElem?_pos,go_sem]) (by simp -dsimp[-getElem?_pos,go_sem])
    ·simp -dsimp -implicitDefEqProofs [-getElem?_pos,go_sem,hP]
     refine⟨aD _ _ (ap _ _ _) (c0.trans a0.symm) (c1.trans a1.symm),?_⟩
     refine bC (i:=6) (by kernel_rfl) rfl ?_
     simp -dsimp -implicitDefEqProofs [-getElem?_pos,go_sem,hP]
     refine bC (i:=8) (by kernel_rfl) rfl ?_
     simp -dsimp -implicitDefEqProofs [-getElem?_pos,go_sem,hP]
     refine iG (by kernel_rfl) ?_
     exact fin _ (by simp -dsimp[-getElem?_pos,go_sem]) (by simp -dsimp[-getElem?_pos,go_sem]) (by simp -dsimp[-getElem?_pos,go_sem])
   ·simp -dsimp -implicitDefEqProofs [-getElem?_pos,go_sem,hP]
    refine⟨aD _ _ (ap _ _ _) (b0.trans a0.symm) (b1.trans a1.symm),?_⟩
    refine bC (i:=5) (by kernel_rfl) rfl ?_
    obtain⟨H3,hH3⟩:∃H3:ab,H3=H2++[some ⟨32,3,[[.nil,.nil,.nil]]⟩]:=⟨_,rfl⟩
    have l3:H3.length=H2.length+1:=by rw[hH3];simp
    have c0:H3[H.length]?=H1[H.length]?:=by rw[hH3,List.getElem?_append_left (by omega),b0,a0]
    have c1:H3[H.length+1]?=H1[H.length+1]?:=by rw[hH3,List.getElem?_append_left (by omega),b1,a1]
    have c2:H3[H2.length]?=some (some ⟨32,3,[[.nil,.nil,.nil]]⟩):=by rw[hH3];simp
    have p1:H3[j1]?=some (some ⟨108,5,ac TPayment.cells q.Waiting⟩):=by rw[hH3,List.getElem?_append_left (by omega),o1]
    have k3:Kept [] H2 H3:=by rw[hH3];exact ap _ _ _
    simp only[←hH3]
    simp -dsimp -implicitDefEqProofs [-getElem?_pos,go_sem,hP,c0,a0,l3]
    refine ar (by rw[hr,hs];exact lV q.Known H3 (by omega)) hP zm ?_
    rintro r H4 ⟨j2,rfl,hj2,o2,hk2⟩
    have d0:=hk2 _ _ (by simp) (c0.trans a0)
    have d1:=hk2 _ _ (by simp) (c1.trans a1)
    have d2:=hk2 _ _ (by simp) c2
    have p2:=hk2 _ _ (by simp) p1
    have ltn2:=(gsI d2)
    have eI:ac aJ q.Known=bF q.Known:=rfl
    simp -dsimp -implicitDefEqProofs [-getElem?_pos,go_sem,hP]
    refine⟨aD _ _ hk2 c0 c1,?_⟩
    refine bC (i:=6) (by kernel_rfl) rfl ?_
    simp -dsimp -implicitDefEqProofs [-getElem?_pos,go_sem,hP]
    refine bC (i:=8) (by kernel_rfl) rfl ?_
    simp -dsimp -implicitDefEqProofs [-getElem?_pos,go_sem,hP,d2,ltn2]
    refine iG (by kernel_rfl) ?_
    rw[hInv]
    refine⟨H2.length,j1,j2,by simp -dsimp[-getElem?_pos,go_sem],by simp -dsimp[-getElem?_pos,go_sem],by simp -dsimp[-getElem?_pos,go_sem],by omega,by omega,by omega,by omega,by omega,by omega,?_,?_,?_,?_,?_,?_⟩
    ·rw[List.getElem?_set_ne (by omega),d0]
    ·rw[List.getElem?_set_ne (by omega),d1]
    ·rw[List.getElem?_set_self ltn2]
    ·rw[List.getElem?_set_ne (by omega),p2]
    ·rw[List.getElem?_set_ne (by omega),o2,eI]
    ·exact cG _ (by omega) (((k1.trans hk).trans k3).trans hk2)
  ·simp -dsimp -implicitDefEqProofs [-getElem?_pos,go_sem,hP]
   refine⟨aD _ _ (ap _ _ _) rfl rfl,?_⟩
   refine bC (i:=2) (by kernel_rfl) rfl ?_
   obtain⟨H2,hH2⟩:∃H2:ab,H2=H1++[some ⟨32,3,[[.nil,.nil,.nil]]⟩]:=⟨_,rfl⟩
   have l2:H2.length=H1.length+1:=by rw[hH2];simp
   have b0:H2[H.length]?=H1[H.length]?:=by rw[hH2,List.getElem?_append_left (by omega)]
   have b1:H2[H.length+1]?=H1[H.length+1]?:=by rw[hH2,List.getElem?_append_left (by omega)]
   have b2:H2[H.length+2]?=some (some ⟨32,3,[[.nil,.nil,.nil]]⟩):=by rw[hH2,←l1];simp
   have k2:Kept [] H1 H2:=by rw[hH2];exact ap _ _ _
   simp only[←hH2]
   simp -dsimp -implicitDefEqProofs [-getElem?_pos,go_sem,hP,b0,a0,l1,l2]
   refine ar (by rw[hr,hs];exact jR q.Waiting H2 (by omega)) hP sL ?_
   rintro r H3 ⟨j1,rfl,hj1,o1,hk⟩
   have c0:=hk _ _ (by simp) (b0.trans a0)
   have c1:=hk _ _ (by simp) (b1.trans a1)
   have c2:=hk _ _ (by simp) b2
   have ltn:=(gsI c2)
   have lto:=(gsI o1)
   simp -dsimp -implicitDefEqProofs [-getElem?_pos,go_sem,hP]
   refine⟨aD _ _ hk b0 b1,?_⟩
   refine bC (i:=5) (by kernel_rfl) rfl ?_
   simp -dsimp -implicitDefEqProofs [-getElem?_pos,go_sem,hP,c0,l1]
   refine ar (by rw[hr,hs];exact lV q.Known H3 (by omega)) hP zm ?_
   rintro r H4 ⟨j2,rfl,hj2,o2,hk2⟩
   have d0:=hk2 _ _ (by simp) c0
   have d1:=hk2 _ _ (by simp) c1
   have d2:=hk2 _ _ (by simp) c2
   have p2:=hk2 _ _ (by simp) o1
   have ltn2:=(gsI d2)
   have eI:ac aJ q.Known=bF q.Known:=rfl
   simp -dsimp -implicitDefEqProofs [-getElem?_pos,go_sem,hP]
   refine⟨aD _ _ hk2 (c0.trans a0.symm) (c1.trans a1.symm),?_⟩
   refine bC (i:=6) (by kernel_rfl) rfl ?_
   simp -dsimp -implicitDefEqProofs [-getElem?_pos,go_sem,hP]
   refine bC (i:=8) (by kernel_rfl) rfl ?_
   simp -dsimp -implicitDefEqProofs [-getElem?_pos,go_sem,hP,d2,ltn2,l1]
   refine iG (by kernel_rfl) ?_
   rw[hInv]
   refine⟨H.length+2,j1,j2,by simp -dsimp[-getElem?_pos,go_sem],by simp -dsimp[-getElem?_pos,go_sem],by simp -dsimp[-getElem?_pos,go_sem],by omega,by omega,by omega,by omega,by omega,by omega,?_,?_,?_,?_,?_,?_⟩
   ·rw[List.getElem?_set_ne (by omega),d0]
   ·rw[List.getElem?_set_ne (by omega),d1]
   ·rw[List.getElem?_set_self ltn2]
   ·rw[List.getElem?_set_ne (by omega),p2]
   ·rw[List.getElem?_set_ne (by omega),o2,eI]
   ·exact cG _ (by omega) (((k1.trans k2).trans hk).trans hk2)
 ·rw[hInv]
  rintro s ⟨p,j1,j2,t1,t2,t3,hp2,hj1,hj2,n1,n2,n3,h0,h1,hp,ho1,ho2,hK⟩
  have lt0:=(gsI h0)
  have ltp:=(gsI hp)
  have lti:=(gsI ho1)
  have ltj:=(gsI ho2)
  obtain⟨B,hB⟩:∃B,B=s.H.length:=⟨_,rfl⟩
  rw[←hB]at ltp lti ltj
  have hBle:B≤s.H.length:=by omega
  obtain⟨l,hl⟩:∃l,l=q.Batches:=⟨_,rfl⟩
  have each:=hf.each
  rw[←hl]at lb h0 each i3
  simp -dsimp -implicitDefEqProofs [-getElem?_pos,go_sem,hP,t1,h0,lt0]
  rw[←hl]at hC
  obtain⟨I,hI⟩:∃I:Nat→St→Prop,I=fun m s=>∃(k:Nat) (x:AV),k≤l.length∧m=l.length-k∧B≤s.H.length∧s.t 2= .ref (H.length+1) 0 0∧s.t 3= .ref p 0 0∧s.t 14=bY l∧s.t 15=iv l.length∧s.t 16=iv k∧s.H[H.length+1]?=some (some ⟨32,3,[[.nil,.nil,.nil]]⟩)∧s.H[p]?=some (some ⟨32,3,[[.sref j1 0 q.Waiting.length,.sref j2 0 q.Known.length,x]]⟩)∧s.H[j1]?=some (some ⟨108,5,ac TPayment.cells q.Waiting⟩)∧s.H[j2]?=some (some ⟨3,1,bF q.Known⟩)∧Grown B s.H x 111 3 (ac TBatch.cells (l.take k))∧Kept [] H s.H:=⟨_,rfl⟩
  refine aF I (l.length) (by rw[hN];rfl) ?_ ?_
  ·rw[hI]
   exact⟨0,.nil,by omega,by omega,by simp -dsimp[-getElem?_pos,go_sem];omega,by simp -dsimp[-getElem?_pos,go_sem,t2],by simp -dsimp[-getElem?_pos,go_sem,t3],by simp -dsimp[-getElem?_pos,go_sem],by simp -dsimp[-getElem?_pos,go_sem],by simp -dsimp[-getElem?_pos,go_sem],by simp -dsimp[-getElem?_pos,go_sem,h1],by simp -dsimp[-getElem?_pos,go_sem,hp],by simp -dsimp[-getElem?_pos,go_sem,ho1],by simp -dsimp[-getElem?_pos,go_sem,ho2],.inl ⟨rfl,rfl⟩,by simp -dsimp[-getElem?_pos,go_sem];exact hK⟩
  clear t1 t2 t3 h0 h1 hp ho1 ho2 hK lt0 hB hBle
  intro m s hs'
  rw[hI]at hs'
  obtain⟨k,x,hk,hm,hBle,t2,t3,t14,t15,t16,h1,hp,ho1,ho2,hg,hK⟩:=hs'
  have lt1:=(gsI h1)
  simp -dsimp -implicitDefEqProofs [-getElem?_pos,go_sem,hP,t15,t16]
  refine aH (fun h=>?_) (fun h=>?_)
  ·have hk:k<l.length:=by simpa using h
   obtain⟨c,hcc⟩:∃c,l[k]?=some c:=⟨_,List.getElem?_eq_getElem hk⟩
   have wk:=ah ((k:Int)+1) (by omega)
   have ec:=each c (List.mem_of_getElem? hcc)
   have ic:=aV c.Payments
   have ltp':p<s.H.length:=by omega
   have lti':j1<s.H.length:=by omega
   have ltj':j2<s.H.length:=by omega
   have e1:ac TBatch.cells (l.take (k+1))=ac TBatch.cells (l.take k)++[[iv c.Number,iv c.Day,aT c.Payments]]:=by
    rw[List.take_add_one,hcc]
    exact (cJ TBatch.cells (l.take k) c).symm
   have nl:(ac TBatch.cells (l.take k)).length=k:=by rw[af,List.length_take];omega
   have np1:¬p=H.length+1:=by omega
   simp -dsimp -implicitDefEqProofs [-getElem?_pos,go_sem,hP,t14,t16,hcc,cBt]
   refine ak ((qS c.Payments (by omega)).lift _ _) hP sL (by simpa using ic) ic ?_
   rcases hg with⟨rfl,hg⟩|⟨jd,h2,rfl,hg⟩
   ·simp -dsimp -implicitDefEqProofs [-getElem?_pos,go_sem,hP,t3,hp,ltp',t16,wk]
    refine⟨l.length-(k+1),by omega,?_⟩
    rw[hI]
    refine⟨k+1,.sref (s.H.length+1) 0 1,by omega,rfl,by simp -dsimp[-getElem?_pos,go_sem];omega,by simp -dsimp[-getElem?_pos,go_sem,t2],by simp -dsimp[-getElem?_pos,go_sem,t3],by simp -dsimp[-getElem?_pos,go_sem,t14],by simp -dsimp[-getElem?_pos,go_sem,t15],by simp -dsimp[-getElem?_pos,go_sem],?_,?_,?_,?_,.inr ⟨s.H.length+1,by omega,?_,?_⟩,?_⟩
    ·simp -dsimp -implicitDefEqProofs [-getElem?_pos,go_sem,lt1,h1,np1]
    ·simp -dsimp -implicitDefEqProofs [-getElem?_pos,go_sem,ltp']
    ·simp -dsimp -implicitDefEqProofs [-getElem?_pos,go_sem,lti',ho1,n1]
    ·simp -dsimp -implicitDefEqProofs [-getElem?_pos,go_sem,ltj',ho2,n2]
    ·rw[e1,hg];rfl
    ·rw[e1,hg]
     simp -dsimp -implicitDefEqProofs [-getElem?_pos,go_sem]
    ·simp -dsimp -implicitDefEqProofs [-getElem?_pos,go_sem]
     exact (cG _ (by omega) hK).trans (ap _ _ _)
   ·have lj:=(gsI hg)
    have m1:¬jd=H.length+1:=by omega
    have m2:¬jd=p:=by omega
    have m3:¬jd=j1:=by omega
    have m4:¬jd=j2:=by omega
    simp -dsimp -implicitDefEqProofs [-getElem?_pos,go_sem,hP,t3,hp,ltp',t16,wk,hg,lj,m1,m2,m3,m4,nl]
    refine⟨by omega,by omega,?_⟩
    refine⟨l.length-(k+1),by omega,?_⟩
    rw[hI]
    refine⟨k+1,.sref (s.H.length+1) 0 (k+1),by omega,rfl,by simp -dsimp[-getElem?_pos,go_sem];omega,by simp -dsimp[-getElem?_pos,go_sem,t2],by simp -dsimp[-getElem?_pos,go_sem,t3],by simp -dsimp[-getElem?_pos,go_sem,t14],by simp -dsimp[-getElem?_pos,go_sem,t15],by simp -dsimp[-getElem?_pos,go_sem],?_,?_,?_,?_,.inr ⟨s.H.length+1,by omega,?_,?_⟩,?_⟩
    ·simp -dsimp -implicitDefEqProofs [-getElem?_pos,go_sem,lt1,h1,np1,m1]
    ·simp -dsimp -implicitDefEqProofs [-getElem?_pos,go_sem,ltp',m2]
    ·simp -dsimp -implicitDefEqProofs [-getElem?_pos,go_sem,lti',ho1,n1,m3]
    ·simp -dsimp -implicitDefEqProofs [-getElem?_pos,go_sem,ltj',ho2,n2,m4]
    ·rw[e1,List.length_append,nl];rfl
    ·rw[e1]
     simp -dsimp -implicitDefEqProofs [-getElem?_pos,go_sem]
    ·simp -dsimp -implicitDefEqProofs [-getElem?_pos,go_sem]
     exact (cG _ (by omega) (cG _ (by omega) hK)).trans (ap _ _ _)
  ·have hk:k=l.length:=by simp at h;omega
   subst hk
   rw[List.take_length]at hg
   have hc:=hg.cellish
   have ltp':p<s.H.length:=by omega
   simp -dsimp -implicitDefEqProofs [-getElem?_pos,go_sem,hP,t3,hp,ltp',t2,h1,lt1,hc]
   rw[hC]
   refine⟨j1,j2,x,rfl,by omega,by omega,n3,?_,?_,⟨B,by omega,by omega,hg.kept (X:=[H.length+1]) (ay _ (by simp) (ai _ _)) (by simp;omega)⟩,cG _ (by omega) hK⟩
   ·rw[List.getElem?_set_ne (by omega),ho1]
   ·rw[List.getElem?_set_ne (by omega),ho2]
open Go.PA
open Go.RowKit
def Uy (k:Nat) (r:AV):Prop:=∃b,r= .tup [iv k,bv b]
set_option maxHeartbeats 1000000 in
theorem QB (l:List TPayment) (p:TPayment) (k:Nat) (hl:l.length≤1000000) (hk:k≤l.length) (hm:∀h x,l[h]?=some x→(Bef x p↔h<k)):PFun Tryz.prog none none 198 [aT l,.agg p.cells,.fn 199 []] (Uy k):=by
 refine ae Tryz.func198 rfl (by simp[Tryz.f198]) (by kernel_rfl) ?_
 intro E hP hr hs hW hN
 have ip:=gS p
 simp -dsimp -implicitDefEqProofs [-getElem?_pos,go_sem,hP,cPy]
 obtain⟨I,hI⟩:∃I:Nat→St→Prop,I=fun m s=>∃i j:Nat,i≤k∧k≤j∧j≤l.length∧m=j-i∧s.t 0=aT l∧s.t 2= .fn 199 []∧s.t 4= .ref 0 0 0∧s.t 8=iv l.length∧s.t 9=iv i∧s.t 10=iv j∧s.H[0]?=some (some ⟨108,5,[p.cells]⟩):=⟨_,rfl⟩
 refine aF I (l.length) (by rw[hN];rfl) ?_ ?_
 ·rw[hI]
  exact⟨0,l.length,by omega,hk,by omega,rfl,by simp -dsimp[-getElem?_pos,go_sem],by simp -dsimp[-getElem?_pos,go_sem],by simp -dsimp[-getElem?_pos,go_sem],by simp -dsimp[-getElem?_pos,go_sem],by simp -dsimp[-getElem?_pos,go_sem],by simp -dsimp[-getElem?_pos,go_sem],by simp -dsimp[-getElem?_pos,go_sem,cPy]⟩
 intro m s hs'
 rw[hI]at hs'
 obtain⟨i,j,hi,hj,hjl,hm',t0,t2,t4,t8,t9,t10,hp⟩:=hs'
 have lt0:=(gsI hp)
 simp -dsimp -implicitDefEqProofs [-getElem?_pos,go_sem,hP,t9,t10]
 refine aH (fun h=>?_) (fun h=>?_)
 ·have hij:i<j:=by simpa using h
  have w1:=ah ((i:Int)+j) (by omega)
  have wu:IntKind.u64.wrap ((i:Int)+j)=(i:Int)+j:=by rw[IntKind.wrap_u64];omega
  obtain⟨h,hh⟩:∃h,h=(i+j) / 2:=⟨_,rfl⟩
  have wh:IntKind.i64.wrap (((i:Int)+j) / 2)=(h:Int):=by rw[ah _ (by omega)];omega
  obtain⟨a,ha⟩:∃a,l[h]?=some a:=⟨_,List.getElem?_eq_getElem (by omega)⟩
  have hcmp:=hm h a ha
  have w2:=ah ((h:Int)+1) (by omega)
  have ia:=gS a
  have cm:=mW a p
  rw[cPy,cPy]at cm
  rw[cPy]at ia ip
  simp -dsimp -implicitDefEqProofs [-getElem?_pos,go_sem,hP,t9,t10,w1,wu,xk,qz,wh]
  refine au (fun _=>true) [] hP (by kernel_rfl) (by kernel_rfl) ?_
  simp -dsimp -implicitDefEqProofs [-getElem?_pos,go_sem,hP,t0,t2,t4,ha,hp,lt0,cPy]
  refine ak (cm.lift _ _) hP Fd (by simpa using⟨ia,ip⟩) .sc ?_
  by_cases c:Bef a p
  ·have c1:decide (zR a p<0)=true:=decide_eq_true (uv.2 c)
   simp -dsimp -implicitDefEqProofs [-getElem?_pos,go_sem,hP,c1,w2]
   refine⟨j-(h+1),by omega,?_⟩
   rw[hI]
   exact⟨h+1,j,by have:=hcmp.1 c;omega,by omega,by omega,rfl,by simp -dsimp[-getElem?_pos,go_sem,t0],by simp -dsimp[-getElem?_pos,go_sem,t2],by simp -dsimp[-getElem?_pos,go_sem,t4],by simp -dsimp[-getElem?_pos,go_sem,t8],by simp -dsimp[-getElem?_pos,go_sem],by simp -dsimp[-getElem?_pos,go_sem,t10],by simp -dsimp[-getElem?_pos,go_sem,hp]⟩
  ·have c1:decide (zR a p<0)=false:=decide_eq_false (mt uv.1 c)
   simp -dsimp -implicitDefEqProofs [-getElem?_pos,go_sem,hP,c1]
   refine⟨h-i,by omega,?_⟩
   rw[hI]
   exact⟨i,h,by omega,by have:=mt hcmp.2 c;omega,by omega,rfl,by simp -dsimp[-getElem?_pos,go_sem,t0],by simp -dsimp[-getElem?_pos,go_sem,t2],by simp -dsimp[-getElem?_pos,go_sem,t4],by simp -dsimp[-getElem?_pos,go_sem,t8],by simp -dsimp[-getElem?_pos,go_sem,t9],by simp -dsimp[-getElem?_pos,go_sem],by simp -dsimp[-getElem?_pos,go_sem,hp]⟩
 ·have hik:i=k:=by
   have:¬i<j:=by simpa using h
   omega
  subst hik
  simp -dsimp -implicitDefEqProofs [-getElem?_pos,go_sem,hP]
  refine au (fun _=>true) [] hP (by kernel_rfl) (by kernel_rfl) ?_
  by_cases c:i<l.length
  ·obtain⟨a,ha⟩:∃a,l[i]?=some a:=⟨_,List.getElem?_eq_getElem c⟩
   have d:decide ((i:Int)<(l.length:Int))=true:=decide_eq_true (by omega)
   have ia:=gS a
   have cm:=mW a p
   rw[cPy,cPy]at cm
   rw[cPy]at ia ip
   simp -dsimp -implicitDefEqProofs [-getElem?_pos,go_sem,hP,t9,t8,c,d,t0,t2,t4,ha,hp,lt0,cPy]
   refine ak (cm.lift _ _) hP Fd (by simpa using⟨ia,ip⟩) .sc ?_
   simp -dsimp -implicitDefEqProofs [-getElem?_pos,go_sem,hP,t9,t8,c,d,t0,t2,t4,ha,hp,lt0,cPy]
   exact aN (aE .sc .sc) ⟨_,rfl⟩
  ·have d:decide ((i:Int)<(l.length:Int))=false:=decide_eq_false (by omega)
   simp -dsimp -implicitDefEqProofs [-getElem?_pos,go_sem,hP,t9,t8,c,d]
   exact aN (aE .sc .sc) ⟨_,rfl⟩
theorem Ir {l:List TPayment} {p:TPayment} (hl:l.Pairwise Bef):∃k,k≤l.length∧(∀h x,l[h]?=some x→(Bef x p↔h<k))∧ins ke l p=l.take k++p::l.drop k:=by
 obtain⟨A,B,rfl,h2,h3,h4⟩:=kJ ke l p
 refine⟨A.length,by simp,fun h x hx=>?_,by rw[h2];simp⟩
 by_cases c:h<A.length
 ·rw[List.getElem?_append_left c]at hx
  exact⟨fun _=>c,fun _=>mK.1 (h3 x (List.mem_of_getElem? hx))⟩
 ·refine⟨fun hb=>absurd hb ?_,fun hc=>absurd hc c⟩
  rw[List.getElem?_append_right (by omega)]at hx
  have hx:=List.mem_of_getElem? hx
  obtain⟨_,p2,_⟩:=List.pairwise_append.1 hl
  cases B with
  |nil=>cases hx
  |cons b B=>
   have hb:¬Bef b p:=fun e=>by
    have:=h4 b rfl
    rw[mK.2 e]at this
    cases this
   rcases List.mem_cons.1 hx with rfl|hx
   ·exact hb
   ·exact fun e=>hb ((List.rel_of_pairwise_cons p2 hx).trans e)
theorem xl {l:List Int} {p:Int} (hl:l.Pairwise (·<·)):∃k,k≤l.length∧(∀h x,l[h]?=some x→(x<p↔h<k))∧ins ltB l p=l.take k++p::l.drop k∧(l[k]?=some p↔p∈l):=by
 obtain⟨A,B,rfl,h2,h3,h4⟩:=kJ ltB l p
 have hB:∀x,x∈B→¬x<p:=by
  obtain⟨_,p2,_⟩:=List.pairwise_append.1 hl
  cases B with
  |nil=>simp
  |cons b B=>
   have hb:¬b<p:=fun e=>by
    have:=h4 b rfl
    rw[(zF b p).2 e]at this
    cases this
   intro x hx
   rcases List.mem_cons.1 hx with rfl|hx
   ·exact hb
   ·have:=List.rel_of_pairwise_cons p2 hx
    omega
 refine⟨A.length,by simp,fun h x hx=>?_,by rw[h2];simp,?_⟩
 ·by_cases c:h<A.length
  ·rw[List.getElem?_append_left c]at hx
   exact⟨fun _=>c,fun _=>(zF _ _).1 (h3 x (List.mem_of_getElem? hx))⟩
  ·rw[List.getElem?_append_right (by omega)]at hx
   exact⟨fun hb=>absurd hb (hB x (List.mem_of_getElem? hx)),fun hc=>absurd hc c⟩
 ·rw[List.getElem?_append_right (Nat.le_refl _),Nat.sub_self]
  constructor
  ·exact fun h=>List.mem_append.2 (.inr (List.mem_of_getElem? h))
  ·intro h
   rcases List.mem_append.1 h with h|h
   ·exact absurd ((zF _ _).1 (h3 p h)) (by omega)
   ·cases B with
    |nil=>cases h
    |cons b B=>
     obtain⟨_,p2,_⟩:=List.pairwise_append.1 hl
     rcases List.mem_cons.1 h with rfl|h
     ·rfl
     ·have h1:=List.rel_of_pairwise_cons p2 h
      exact absurd h1 (hB b (by simp))
open Go.PA
open Go.RowKit
set_option maxHeartbeats 1000000 in
theorem Np {row src:Option Nat} (l:List TPayment) (p:TPayment) (id:Nat) (y z:AV) (H:ab) (hl:l.length≤100000) (hs0:l.Pairwise Bef) (ho:H[id]?=some (some ⟨108,5,ac TPayment.cells l⟩)) (cy:y.cellish=true) (cz:z.cellish=true):
  MFun Tryz.prog row src 144 [.agg [.sref id 0 l.length,y,z],.agg p.cells] H (fun r H'=>∃jd,r= .agg [.sref jd 0 (l.length+1),y,z]∧(jd=id∨H.length≤jd)∧H'[jd]?=some (some ⟨108,5,ac TPayment.cells (ins ke l p)⟩)∧Kept [id] H H'):=by
 obtain⟨C,hC⟩:∃C:AV→ab→Prop,C=fun r H'=>∃jd,r= .agg [.sref jd 0 (l.length+1),y,z]∧(jd=id∨H.length≤jd)∧H'[jd]?=some (some ⟨108,5,ac TPayment.cells (ins ke l p)⟩)∧Kept [id] H H':=⟨_,rfl⟩
 rw[←hC]
 have ex:∃r H',C r H':=⟨.agg [.sref H.length 0 (l.length+1),y,z],H++[some ⟨108,5,ac TPayment.cells (ins ke l p)⟩],by
  rw[hC]
  exact⟨H.length,rfl,.inr (Nat.le_refl _),by simp,ap _ _ _⟩⟩
 obtain⟨k,hk,hm,hi⟩:=Ir (p:=p) hs0
 refine al Tryz.func144 rfl (by simp[Tryz.f144]) (by kernel_rfl) (ex) ?_
 intro E hP hr hs hN
 have ip:=gS p
 have il:=aV l
 have lid:=(gsI ho)
 rw[cPy]at ip
 simp -dsimp -implicitDefEqProofs [-getElem?_pos,go_sem,hP,cPy,cy,cz]
 obtain⟨H1,hH1⟩:∃H1:ab,H1=H++[some ⟨32,3,[[.sref id 0 l.length,y,z]]⟩,some ⟨108,5,[[iv p.Warrant,iv p.Payee,iv p.Amount,iv p.Due,iv p.Sub]]⟩,some ⟨32,3,[[.nil,.nil,.nil]]⟩]:=⟨_,rfl⟩
 have l1:H1.length=H.length+3:=by rw[hH1];simp
 have k1:Kept [] H H1:=by rw[hH1];exact ap _ _ _
 have a0:H1[H.length]?=some (some ⟨32,3,[[.sref id 0 l.length,y,z]]⟩):=by rw[hH1];simp
 have a1:H1[H.length+1]?=some (some ⟨108,5,[[iv p.Warrant,iv p.Payee,iv p.Amount,iv p.Due,iv p.Sub]]⟩):=by rw[hH1,List.getElem?_append_right (by omega)];simp
 have a2:H1[H.length+2]?=some (some ⟨32,3,[[.nil,.nil,.nil]]⟩):=by rw[hH1,List.getElem?_append_right (by omega)];simp
 have aid:=k1 _ _ (by simp) ho
 simp only[←hH1]
 refine dA ((QB l p k (by omega) hk hm).lift _ _) hP Qt (iY aid (by rw[af]) il (bI ip (eK rfl (by simp) (cH.2 trivial)))) ⟨_,true,rfl⟩ (by rintro r ⟨b,rfl⟩;simp[pW,kU]) ?_
 rintro r ⟨b,rfl⟩
 simp -dsimp -implicitDefEqProofs [-getElem?_pos,go_sem,hP,a0,a1,l1]
 have insm:=fun {row src:Option Nat}=>zP (row:=row) (src:=src) (ac TPayment.cells l) [iv p.Warrant,iv p.Payee,iv p.Amount,iv p.Due,iv p.Sub] k id H1 (by rw[af];exact hk) (by rw[af];omega) aid (by simp)
 rw[af]at insm
 refine ar (by rw[hr,hs];exact insm) hP Qk ?_
 rintro r H3 ⟨jd,rfl,hjd,hoj,hk3⟩
 have c0:=hk3 _ _ (by simp;omega) a0
 have c2:=hk3 _ _ (by simp;omega) a2
 have lt0:=(gsI c0)
 have lt2:=(gsI c2)
 have n02:¬H.length=H.length+2:=by omega
 simp -dsimp -implicitDefEqProofs [-getElem?_pos,go_sem,hP,c0,lt0,c2,lt2,cy,cz]
 rw[hC]
 have ei:(ac TPayment.cells l).take k++[iv p.Warrant,iv p.Payee,iv p.Amount,iv p.Due,iv p.Sub]::(ac TPayment.cells l).drop k=ac TPayment.cells (ins ke l p):=by
  rw[hi,dw,bV]
  simp[ac,cPy]
 refine⟨jd,rfl,?_,?_,?_⟩
 ·omega
 ·rw[List.getElem?_set_ne (by omega),List.getElem?_set_ne (by omega),hoj,ei]
 ·refine cG _ (by omega) ?_
  refine cG _ (by omega) ?_
  exact (k1.mono (by simp)).trans hk3
open Go.PA
open Go.RowKit
theorem BD {H:ab}:CW H [.nil,.nil,.nil] cS.cells:=bK (bK (bK .nil))
theorem fH {H:ab} {n:Int} {Q:AV→Prop} {b:Bx Q} (h:Q (.tup [.agg cS.cells,iv n])):mD H (.tup [.agg [.nil,.nil,.nil],iv n]) Q b:=cZ BD h
theorem Ad (l:List Int) (k:Nat):(bF l).take k=bF (l.take k):=by simp[bF,List.map_take]
theorem zB (l:List Int) (k:Nat):(bF l).drop k=bF (l.drop k):=by simp[bF,List.map_drop]
set_option maxHeartbeats 1000000 in
theorem Ok (q:TQueue) (p:TPayment) (hf:FitQ q):PFun Tryz.prog none none 99 [.agg q.cells,.agg p.cells] (·= .tup [.agg (gp q p).1.cells,iv (gp q p).2]):=by
 refine ae Tryz.func99 rfl (by simp[Tryz.f99]) (by kernel_rfl) ?_
 intro E hP hr hs hW hN
 have ck:=iW q hf
 have iq:=dr q
 have ipp:=gS p
 have ip:=aV q.Waiting
 have i2:=dz q.Known
 have i3:=di q.Batches
 rw[cQu]at ck iq
 rw[cPy]at ipp
 simp only[aI]at i2 ck iq
 simp -dsimp -implicitDefEqProofs [-getElem?_pos,go_sem,hP,cQu,cPy,aI]
 refine ak (ck.lift _ _) hP rF (by simpa using iq) .sc ?_
 by_cases c1:cT q=0
 rotate_left
 ·have:gp q p=(cS,cT q):=by rw[gp,if_neg c1]
  simp -dsimp -implicitDefEqProofs [-getElem?_pos,go_sem,hP,c1]
  refine fH ?_
  rw[this]
 have hq:=dx.1 c1
 obtain⟨k,hk,hm,hi,hin⟩:=xl (p:=p.Warrant) hq.ks
 have bs:=FF q.Known p.Warrant k (by have:=hf.k;omega) hk hm
 simp only[aI]at bs
 have py:=zQ p
 rw[cPy]at py
 simp -dsimp -implicitDefEqProofs [-getElem?_pos,go_sem,hP,c1]
 refine ak (bs.lift _ _) hP Qg (by simpa[aP]using i2) (aE .sc .sc) ?_
 simp -dsimp -implicitDefEqProofs [-getElem?_pos,go_sem,hP]
 refine ak (py.lift _ _) hP Ej (by simpa using ipp) .sc ?_
 cases c2:iQ p
 ·have:gp q p=(cS,64):=by rw[gp,if_pos c1,if_neg (by simp[c2])]
  simp -dsimp -implicitDefEqProofs [-getElem?_pos,go_sem,hP,c2]
  refine fH ?_
  rw[this]
 by_cases c3:p.Warrant∈q.Known
 ·have d3:decide (q.Known[k]?=some p.Warrant)=true:=decide_eq_true (hin.2 c3)
  have:gp q p=(cS,65):=by rw[gp,if_pos c1,if_pos c2,if_pos c3]
  simp -dsimp -implicitDefEqProofs [-getElem?_pos,go_sem,hP,c2,d3,hin.2 c3]
  refine fH ?_
  rw[this]
 have d3:decide (q.Known[k]?=some p.Warrant)=false:=decide_eq_false (mt hin.1 c3)
 by_cases c4:q.Waiting.length=100
 ·have d4:decide ((q.Waiting.length:Int)=100)=true:=decide_eq_true (by omega)
  have:gp q p=(cS,3):=by rw[gp,if_pos c1,if_pos c2,if_neg c3,if_pos (.inl c4)]
  simp -dsimp -implicitDefEqProofs [-getElem?_pos,go_sem,hP,c2,d3,d4,mt hin.1 c3]
  refine fH ?_
  rw[this]
 have d4:decide ((q.Waiting.length:Int)=100)=false:=decide_eq_false (by omega)
 by_cases c5:q.Known.length=200
 ·have d5:decide ((q.Known.length:Int)=200)=true:=decide_eq_true (by omega)
  have:gp q p=(cS,3):=by rw[gp,if_pos c1,if_pos c2,if_neg c3,if_pos (.inr c5)]
  simp -dsimp -implicitDefEqProofs [-getElem?_pos,go_sem,hP,c2,d3,d4,d5,mt hin.1 c3]
  refine fH ?_
  rw[this]
 have d5:decide ((q.Known.length:Int)=200)=false:=decide_eq_false (by omega)
 have hadd:gp q p=(⟨ins ke q.Waiting p,ins ltB q.Known p.Warrant,q.Batches⟩,0):=by rw[gp,if_pos c1,if_pos c2,if_neg c3,if_neg (by omega)]
 rw[hadd]
 simp -dsimp -implicitDefEqProofs [-getElem?_pos,go_sem,hP,c2,d3,d4,d5,mt hin.1 c3]
 obtain⟨H2,hH2⟩:∃H2:ab,H2=[some ⟨32,3,[[aT q.Waiting,.list 1 (q.Known.map fun x=>[iv x]),bY q.Batches]]⟩,some ⟨108,5,[[iv p.Warrant,iv p.Payee,iv p.Amount,iv p.Due,iv p.Sub]]⟩,some ⟨32,3,[[.nil,.nil,.nil]]⟩]:=⟨_,rfl⟩
 have b0:H2[0]?=some (some ⟨32,3,[[aT q.Waiting,.list 1 (q.Known.map fun x=>[iv x]),bY q.Batches]]⟩):=by rw[hH2];rfl
 have b1:H2[1]?=some (some ⟨108,5,[[iv p.Warrant,iv p.Payee,iv p.Amount,iv p.Due,iv p.Sub]]⟩):=by rw[hH2];rfl
 have b2:H2[2]?=some (some ⟨32,3,[[.nil,.nil,.nil]]⟩):=by rw[hH2];rfl
 have l2:H2.length=3:=by rw[hH2];rfl
 simp only[←hH2]
 have D:∀i,decide (i<3)=true→i=0∨i=1∨i=2:=fun i hi=>by
  simp only[decide_eq_true_eq]at hi
  omega
 refine au (fun i=>decide (i<3)) [4] hP (by kernel_rfl) (by kernel_rfl) ?_
 simp -dsimp -implicitDefEqProofs [-getElem?_pos,go_sem,hP,b0,l2]
 refine ar (by rw[hr,hs];exact uq q H2 hf) hP AY ?_
 rintro r H3 ⟨j1,j2,x,rfl,hj1,hj2,n12,o1,o2,⟨B,hB1,hB2,hg⟩,hk3⟩
 have e0:=hk3 _ _ (by simp) b0
 have e1:=hk3 _ _ (by simp) b1
 have e2:=hk3 _ _ (by simp) b2
 have g0:=(gsI e0)
 have g1:=(gsI e1)
 have g2:=(gsI e2)
 have t1:=(gsI o1)
 have t2:=(gsI o2)
 have hc:=hg.cellish
 simp -dsimp -implicitDefEqProofs [-getElem?_pos,go_sem,hP,e1,g1]
 refine⟨dZ hk3 fun i hi=>⟨by simp,?_⟩,?_⟩
 ·rcases D i hi with rfl|rfl|rfl
  ·exact⟨_,b0⟩
  ·exact⟨_,b1⟩
  ·exact⟨_,b2⟩
 have wm:=fun {row src:Option Nat}=>Np (row:=row) (src:=src) q.Waiting p j1 (.sref j2 0 q.Known.length) x H3 (by have:=hq.lw;omega) hq.asc.ord o1 rfl hc
 rw[cPy]at wm
 refine ar (by rw[hr,hs];exact wm) hP PL ?_
 rintro r H4 ⟨jd,rfl,hjd,oj,hk4⟩
 have f0:=hk4 _ _ (by simp;omega) e0
 have f1:=hk4 _ _ (by simp;omega) e1
 have f2:=hk4 _ _ (by simp;omega) e2
 have p2:=hk4 _ _ (by simp;omega) o2
 have s0:=(gsI f0)
 have s1:=(gsI f1)
 have s2:=(gsI f2)
 have sj:=(gsI oj)
 have sj2:=(gsI p2)
 have hg4:=hg.kept hk4 (by simp;omega)
 refine⟨fun _=>dZ hk4 fun i hi=>⟨by simp only[List.mem_singleton];rcases D i hi with rfl|rfl|rfl<;>omega,?_⟩,?_⟩
 ·rcases D i hi with rfl|rfl|rfl
  ·exact⟨_,e0⟩
  ·exact⟨_,e1⟩
  ·exact⟨_,e2⟩
 simp -dsimp -implicitDefEqProofs [-getElem?_pos,go_sem,hP,f0,s0,hc,f1,s1]
 generalize hH5:List.set H4 0 _=H5
 have l5:H5.length=H4.length:=by rw[←hH5];simp
 have v0:H5[0]?=some (some ⟨32,3,[[.sref jd 0 (q.Waiting.length+1),.sref j2 0 q.Known.length,x]]⟩):=by rw[←hH5,List.getElem?_set_self s0]
 have v1:H5[1]?=H4[1]?:=by rw[←hH5,List.getElem?_set_ne (by omega)]
 have v2:H5[2]?=H4[2]?:=by rw[←hH5,List.getElem?_set_ne (by omega)]
 have vj:H5[jd]?=H4[jd]?:=by rw[←hH5,List.getElem?_set_ne (by omega)]
 have vj2:H5[j2]?=H4[j2]?:=by rw[←hH5,List.getElem?_set_ne (by omega)]
 rw[f1]at v1
 rw[f2]at v2
 rw[oj]at vj
 rw[p2]at vj2
 have k5:Kept [0] H4 H5:=by rw[←hH5];exact ay _ (by simp) (ai _ _)
 have hg5:=hg4.kept k5 (by simp;omega)
 have insm:=fun {row src:Option Nat}=>zS (row:=row) (src:=src) (bF q.Known) [iv p.Warrant] k j2 H5 (by rw[fL];exact hk) (by rw[fL];have:=hf.k;omega) vj2 (by simp)
 rw[fL,Ad,zB]at insm
 refine ar (by rw[hr,hs];exact insm) hP QC ?_
 rintro r H6 ⟨jk,rfl,hjk,ok,hk6⟩
 have w0:=hk6 _ _ (by simp;omega) v0
 have w2:=hk6 _ _ (by simp;omega) v2
 have wj:=hk6 _ _ (by simp;omega) vj
 have hg6:=hg5.kept hk6 (by simp;omega)
 have x0:=(gsI w0)
 have x2:=(gsI w2)
 simp -dsimp -implicitDefEqProofs [-getElem?_pos,go_sem,hP,w0,w2,x0,x2,hc]
 have ei:bF (q.Known.take k)++[iv p.Warrant]::bF (q.Known.drop k)=bF (ins ltB q.Known p.Warrant):=by rw[hi];simp[bF]
 rw[ei]at ok
 refine cZ (cs':=(TQueue.mk (ins ke q.Waiting p) (ins ltB q.Known p.Warrant) q.Batches).cells) ?_ rfl
 refine cv (ty:=108) ?_ (by rw[af,nS]) (aV _) (cv (ty:=3) (es:=bF (ins ltB q.Known p.Warrant)) ?_ (by rw[fL,nS]) (dz _) (((hg6.kept (X:=[0]) (ay _ (by simp) (ai _ _)) (by simp;omega)).kept (X:=[2]) (ay _ (by simp) (ai _ _)) (by simp;omega)).cw (di _) .nil))
 ·rw[List.getElem?_set_ne (by omega),List.getElem?_set_ne (by omega),wj]
 ·rw[List.getElem?_set_ne (by omega),List.getElem?_set_ne (by omega),ok]
end Go.Proofs.YtmmpcldnpflchaaGreatDoor
namespace Go.PA
open Go.RowKit
section
variable {E:Env}
theorem D4 {w:World} {ρ:aR} {H:ab} {ok:Nat→Prop} (X:Nat→Prop) (g:Good E w ρ H ok) {v:Value} {id i j:Nat} {cs:List AV} (hra:Rep w ρ H ok v (.ref id i j)) (has:aM H (.ref id i j)=some cs) (him:∀c,c∈cs→Imm c) (hX:X id):iH w (okX X ρ H ok) v (.iref cs):=by
 obtain⟨o,b,cap,ho,hρ,hcap,rfl⟩:=k6 hra has
 obtain⟨ad,he,f',hf⟩:=jr g hra has
 simp only[Value.pointer.injEq,Option.some.injEq]at he
 subst he
 exact .iref f' (.inr ⟨id,o,cap,hX,ho,hρ⟩) (fun j a hj=>(hf j a hj).1) (fun j a hj=>(hf j a hj).2.1) (fun j a hj=>(hf j a hj).2.2.imm (fun _ h=> .inl h) (him a (List.mem_of_getElem? hj)))
theorem Cr {s:St} (j:Nat) {id:Nat} {cs:List AV} (hW:∀b,¬E.W b) (ht:s.t j= .ref id 0 0) (has:aM s.H (.ref id 0 0)=some cs) (him:∀c,c∈cs→Imm c):Weaker E s ⟨upd s.t j (.iref cs),s.H.set id none⟩:=by
 rintro a w ⟨ρ,ok,g,hx,hd,hs,hr⟩
 obtain⟨ok',g1,x1,hok⟩:=g.freeze [id] hW
 refine⟨ρ,ok',g1,hx.trans x1,hd,hs,fun i=>?_⟩
 simp only[upd]
 split
 ·rename_i hi
  have hri:=hr i
  rw[hi,ht]at hri
  rw[hi]
  exact Rep.imm (D4 (·∈[id]) g hri has him (by simp)) hok (bH.2 him)
 ·exact (hr i).ext x1
theorem uZ {s:St} {o id ty k ty' kk n r c:Nat} {es fs:List (List AV)} {e:List AV} (hW:∀b,¬E.W b) (ho:s.H[o]?=some (some ⟨ty,k,es⟩)) (hk:k≠2) (he:es[r]?=some e) (hc:e[c]?=some (.sref id 0 n))
  (hid:s.H[id]?=some (some ⟨ty',kk,fs⟩)) (hn:n=fs.length) (hi:Imm (.list kk fs)) (hne:o≠id):Weaker E s ⟨s.t,(s.H.set id none).set o (some ⟨ty,k,es.set r (e.set c (.list kk fs))⟩)⟩:=by
 rintro a w ⟨ρ,ok,g,hx,hd,hs,hr⟩
 obtain⟨ok',g1,x1,hok⟩:=g.freeze [id] hW
 have g1:Good E w ρ (s.H.set id none) ok':=g1
 have x1:Ext w ρ s.H ok w ρ (s.H.set id none) ok':=x1
 have ho1:(s.H.set id none)[o]?=some (some ⟨ty,k,es⟩):=by rw[List.getElem?_set_ne (Ne.symm hne)];exact ho
 have hobj:=g.obj o _ ho
 have hlen:=g.len o _ ho
 have hmem:=List.mem_of_getElem? he
 have hv:cD s.H (.sref id 0 n)= .list kk fs:=by
  simp only[cD,hid,List.drop_zero]
  rw[hn,List.take_length]
 cases hρ:ρ o with
 |none=>
  rw[hρ]at hobj
  have:es=[]:=hobj
  rw[this]at he
  cases he
 |some bc=>
  obtain⟨b,cap⟩:=bc
  rw[hρ]at hobj
  rcases hobj with⟨cur,h1,h2,h3,h4,h5⟩|⟨_,hk',_⟩|⟨_,hk',hit⟩
  ·obtain⟨g',x'⟩:=g1.change (w':=w) ho1 hρ ⟨ty,k,es.set r (e.set c (.list kk fs))⟩ rfl (by simp) (fun e' he'=>by
    rcases List.mem_or_eq_of_mem_set he' with he'|rfl
    ·exact hlen e' he'
    ·rw[List.length_set];exact hlen e hmem) rfl rfl rfl rfl (fun _ _=>rfl) fun hx'=> .inl ⟨cur,h1,h2,by simpa using h3,h4,fun i e' j a' hie hja=>by
     by_cases hir:i=r
     ·subst hir
      have hil:=(gsI he)
      rw[List.getElem?_set_self hil,Option.some.injEq]at hie
      subst hie
      by_cases hjc:j=c
      ·subst hjc
       have hjl:=(gsI hc)
       rw[List.getElem?_set_self hjl,Option.some.injEq]at hja
       subst hja
       obtain⟨v,v1,v2,v3⟩:=h5 i e j _ he hc
       refine⟨v,v1,v2,?_⟩
       have hri:=iT (·∈[id]) g v3 (by rw[hv];exact hi) (by simp[kj])
       rw[hv]at hri
       exact (Rep.imm hri hok hi).ext hx'
      ·rw[List.getElem?_set_ne (Ne.symm hjc)]at hja
       obtain⟨v,v1,v2,v3⟩:=h5 i e j _ he hja
       exact⟨v,v1,v2,(v3.ext x1).ext hx'⟩
     ·rw[List.getElem?_set_ne (Ne.symm hir)]at hie
      obtain⟨v,v1,v2,v3⟩:=h5 i e' j _ hie hja
      exact⟨v,v1,v2,(v3.ext x1).ext hx'⟩⟩
   exact⟨ρ,ok',g',hx.trans (x1.trans x'),hd,hs,fun i=>((hr i).ext x1).ext x'⟩
  ·exact absurd hk' hk
  ·exfalso
   rcases hit with⟨hes,_⟩|⟨m,clk,seen,ents,c1,c2,_,_,_,_,hes,hcc⟩
   ·have hes:es=[[.junk,.junk,.imap []]]:=hes
    subst hes
    have:e=[.junk,.junk,.imap []]:=by
     rcases r with _|r
     ·simpa using he.symm
     ·simp at he
    subst this
    rcases c with _|_|_|c<;>simp at hc
   ·have hes:es=[[c1,c2,.imap ((ents.toList.filter fun e=>!seen.contains e.born).map fun e=>(e.key,e.val))]]:=hes
    subst hes
    have:e=[c1,c2,.imap ((ents.toList.filter fun e=>!seen.contains e.born).map fun e=>(e.key,e.val))]:=by
     rcases r with _|r
     ·simpa using he.symm
     ·simp at he
    subst this
    rcases hcc with⟨rfl,rfl⟩|⟨x,_,_,rfl,rfl⟩<;>rcases c with _|_|_|c<;>simp at hc
def Sp (E:Env) (Inv:St→Prop) (s:St):Prop:=∃s',Weaker E s s'∧Inv s'
theorem Weaker.refl (s:St):Weaker E s s:=fun _ _ h=>h
theorem fe {a b:Code} {s:St} {Q:Exit→St→Prop} (Inv:St→Prop) (hc:e8 E.N a=true) (h:awp E a s (vH (fun s'=>Sp E Inv s') Q)) (hk:∀s',Inv s'→AWp E b s' Q):AWp E (.seq a b) s Q:=by
 intro x w r
 refine wp_seq (wp_mono (bE a s _ hc h x w r) fun e a' w' h'=>?_)
 obtain⟨s',h1,h2⟩:=h'
 cases e with
 |normal=>
  obtain⟨s2,k1,k2⟩:=h1
  exact hk s2 k2 a' w' (k1 a' w' h2)
 |_=>exact⟨s',h1,h2⟩
end
end Go.PA
namespace Go.Proofs.YtmmpcldnpflchaaGreatDoor
open Go.PA
open Go.RowKit
theorem Dh {H:ab} {id n:Nat} {ty:TypeId} {k:Nat} {es tl:List (List AV)} {xs xs':List AV} (hH:H[id]?=some (some ⟨ty,k,es++tl⟩)) (hn:n=es.length) (hi:Imm (.list k es)) (t:CW H xs xs'):CW H (.sref id 0 n::xs) (.list k es::xs'):=by
 have hv:cD H (.sref id 0 n)= .list k es:=by rw[o6,hH,fG];simp[hn]
 exact .cons (by rw[hv];exact .refl _) (by rw[hv];exact hi) hi t
theorem Eo {H:ab} {id n:Nat} {ty:TypeId} {k:Nat} {es tl:List (List AV)} {Q:AV→Prop} {b:Bx Q} (hH:H[id]?=some (some ⟨ty,k,es++tl⟩)) (hn:n=es.length) (hi:Imm (.list k es)) (hq:Q (.list k es)):mD H (.sref id 0 n) Q b:=by
 have hv:dg H (.sref id 0 n)= .list k es:=by rw[go,hH,fG];simp[hn]
 exact aB (by rw[hv];exact hi) hi (by rw[hv];exact .refl _) hq
theorem IM (p:TPayment) (day:Int):PFun Tryz.prog none none 157 [.agg p.cells,.iref [iv day]] (·=bv (decide (day<p.Due))):=by
 refine ae Tryz.func157 rfl (by simp[Tryz.f157]) (by kernel_rfl) ?_
 intro E hP hr hs hW hN
 simp -dsimp -implicitDefEqProofs [-getElem?_pos,go_sem,hP,cPy]
set_option maxHeartbeats 1000000 in
theorem GE (q:TQueue) (day:Int) (hf:FitQ q):PFun Tryz.prog none none 108 [.agg q.cells,iv day] (·=aT (dJ q day)):=by
 refine dX Tryz.func108 rfl (by simp[Tryz.f108]) ?_
 intro E hP hr hs hW hN
 have ck:=iW q hf
 have iq:=dr q
 have ip:=aV q.Waiting
 have i2:=dz q.Known
 have i3:=di q.Batches
 rw[cQu]at ck iq
 simp only[aI]at i2 ck iq
 refine bG (by rw[hN];kernel_rfl) ?_
 simp -dsimp -implicitDefEqProofs [-getElem?_pos,go_sem,hP,cQu,aI]
 refine AWp.weaken (Cr 3 (id:=1) (cs:=[iv day]) hW (by simp -dsimp[-getElem?_pos,go_sem]) (by simp -dsimp[-getElem?_pos,go_sem]) (by simp[aP])) ?_
 refine bE _ _ _ (by rw[hN];kernel_rfl) ?_
 simp -dsimp -implicitDefEqProofs [-getElem?_pos,go_sem,hP]
 refine ak (ck.lift _ _) hP rF (by simpa using iq) .sc ?_
 by_cases c1:cT q=0
 rotate_left
 ·have:dJ q day=[]:=by rw[dJ,if_neg c1]
  simp -dsimp -implicitDefEqProofs [-getElem?_pos,go_sem,hP,c1]
  exact aB .nil (aG.2 (by simp)) (.nil 5) (by rw[this];rfl)
 have hrd:dJ q day=q.Waiting.filter (fun p=>decide (p.Due≤day)):=by rw[dJ,if_pos c1]
 rw[hrd]
 simp -dsimp -implicitDefEqProofs [-getElem?_pos,go_sem,hP,c1]
 obtain⟨H2,hH2⟩:∃H2:ab,H2=[some ⟨32,3,[[aT q.Waiting,.list 1 (q.Known.map fun x=>[iv x]),bY q.Batches]]⟩,none]:=⟨_,rfl⟩
 simp only[←hH2]
 refine ar (by rw[hr,hs];exact jR q.Waiting H2 (by have:=hf.w;omega)) hP sL ?_
 rintro r H3 ⟨id,rfl,hid,ho,hk⟩
 simp -dsimp -implicitDefEqProofs [-getElem?_pos,go_sem,hP,pB]
 refine ar (by rw[hr,hs];exact r8 q.Waiting id H3 157 [.iref [iv day]] [.iref [iv day]] (fun p=>decide (day<p.Due)) (by have:=hf.w;omega) ho JX (by simp[bH,aP]) (fun H' _=>⟨bI (by simp[bH,aP]) (cH.2 trivial),by simp[pB]⟩) (fun p _=>IM p day)) hP AE ?_
 rintro r H4 ⟨tl,rfl,ho4,hk4⟩
 have ef:(q.Waiting.filter fun a=>!decide (day<a.Due))=q.Waiting.filter fun p=>decide (p.Due≤day):=by
  refine List.filter_congr fun p _=>?_
  by_cases h:day<p.Due
  ·simp[h,show¬p.Due≤day by omega]
  ·simp[h,show p.Due≤day by omega]
 rw[ef]at ho4
 simp -dsimp -implicitDefEqProofs [-getElem?_pos,go_sem,hP]
 exact Eo ho4 (by rw[af,ef]) (aV _) rfl
set_option maxHeartbeats 1000000 in
theorem Ma (q:TQueue) (w:Int) (hf:FitQ q):PFun Tryz.prog none none 116 [.agg q.cells,iv w] (·= .tup [.agg (gY q w).1.cells,iv (gY q w).2]):=by
 refine ae Tryz.func116 rfl (by simp[Tryz.f116]) (by kernel_rfl) ?_
 intro E hP hr hs hW hN
 have ck:=iW q hf
 have iq:=dr q
 have ip:=aV q.Waiting
 have i2:=dz q.Known
 have i3:=di q.Batches
 have wt:=G7 q w (by have:=hf.w;omega)
 rw[cQu]at ck iq wt
 simp only[aI]at i2 ck iq wt
 simp -dsimp -implicitDefEqProofs [-getElem?_pos,go_sem,hP,cQu,aI]
 refine ak (ck.lift _ _) hP rF (by simpa using iq) .sc ?_
 by_cases c1:cT q=0
 rotate_left
 ·have:gY q w=(cS,cT q):=by rw[gY,if_neg c1]
  simp -dsimp -implicitDefEqProofs [-getElem?_pos,go_sem,hP,c1]
  refine fH ?_
  rw[this]
 have hq:=dx.1 c1
 simp -dsimp -implicitDefEqProofs [-getElem?_pos,go_sem,hP,c1]
 refine ak (wt.lift _ _) hP Qm (by simpa[aP]using iq) .sc ?_
 by_cases c2:gl q w<0
 ·have d2:decide (gl q w<0)=true:=decide_eq_true c2
  have:gY q w=(cS,6):=by rw[gY,if_pos c1,if_pos c2]
  simp -dsimp -implicitDefEqProofs [-getElem?_pos,go_sem,hP,d2]
  refine fH ?_
  rw[this]
 have d2:decide (gl q w<0)=false:=decide_eq_false c2
 obtain⟨i,p,hi,hip,hpw,hil⟩:=o7 c2
 have hdr:gY q w=(⟨q.Waiting.eraseIdx i,q.Known,q.Batches⟩,0):=by rw[gY,if_pos c1,if_neg c2,hi];rfl
 rw[hdr]
 rw[hi]at d2
 have lw:=hq.lw
 have w1:=ah ((i:Int)+1) (by omega)
 obtain⟨H2,hH2⟩:∃H2:ab,H2=[some ⟨32,3,[[aT q.Waiting,.list 1 (q.Known.map fun x=>[iv x]),bY q.Batches]]⟩,some ⟨32,3,[[.nil,.nil,.nil]]⟩]:=⟨_,rfl⟩
 have b0:H2[0]?=some (some ⟨32,3,[[aT q.Waiting,.list 1 (q.Known.map fun x=>[iv x]),bY q.Batches]]⟩):=by rw[hH2];rfl
 have b1:H2[1]?=some (some ⟨32,3,[[.nil,.nil,.nil]]⟩):=by rw[hH2];rfl
 have l2:H2.length=2:=by rw[hH2];rfl
 simp -dsimp -implicitDefEqProofs [-getElem?_pos,go_sem,hP,hi,d2]
 simp only[←hH2]
 refine ar (by rw[hr,hs];exact uq q H2 hf) hP AY ?_
 rintro r H3 ⟨j1,j2,x,rfl,hj1,hj2,n12,o1,o2,⟨B,hB1,hB2,hg⟩,hk3⟩
 have e0:=hk3 _ _ (by simp) b0
 have e1:=hk3 _ _ (by simp) b1
 have g0:=(gsI e0)
 have g1:=(gsI e1)
 have hc:=hg.cellish
 have n0:¬j1=0:=by omega
 have n1:¬j2=0:=by omega
 simp -dsimp -implicitDefEqProofs [-getElem?_pos,go_sem,hP,e0,g0,hc,w1]
 generalize hH4:List.set H3 0 _=H4
 have v0:H4[0]?=some (some ⟨32,3,[[.sref j1 0 q.Waiting.length,.sref j2 0 q.Known.length,x]]⟩):=by rw[←hH4,List.getElem?_set_self g0]
 have v1:H4[1]?=H3[1]?:=by rw[←hH4,List.getElem?_set_ne (by omega)]
 have vj:H4[j1]?=H3[j1]?:=by rw[←hH4,List.getElem?_set_ne (by omega)]
 have vj2:H4[j2]?=H3[j2]?:=by rw[←hH4,List.getElem?_set_ne (by omega)]
 rw[e1]at v1
 rw[o1]at vj
 rw[o2]at vj2
 have k4:Kept [0] H3 H4:=by rw[←hH4];exact ay _ (by simp) (ai _ _)
 have hg4:=hg.kept k4 (by simp;omega)
 have delm:=fun {row src:Option Nat}=>A9 (row:=row) (src:=src) (ac TPayment.cells q.Waiting) i j1 H4 (by rw[af];exact hil) (by rw[af];omega) vj
 rw[af,dw,bV,iV]at delm
 refine ar (by rw[hr,hs];exact delm) hP Qa ?_
 rintro r H5 ⟨tl,rfl,o5,hk5⟩
 have f0:=hk5 _ _ (by simp;omega) v0
 have f1:=hk5 _ _ (by simp;omega) v1
 have p2:=hk5 _ _ (by simp;omega) vj2
 have s0:=(gsI f0)
 have s1:=(gsI f1)
 have hg5:=hg4.kept hk5 (by simp;omega)
 simp -dsimp -implicitDefEqProofs [-getElem?_pos,go_sem,hP,f0,s0,f1,s1,hc]
 have ee:q.Waiting.take i++q.Waiting.drop (i+1)=q.Waiting.eraseIdx i:=(List.eraseIdx_eq_take_drop_succ _ _).symm
 rw[ee]at o5
 refine cZ (cs':=(TQueue.mk (q.Waiting.eraseIdx i) q.Known q.Batches).cells) ?_ rfl
 refine Dh (ty:=108) (tl:=tl) ?_ (by rw[af,List.length_eraseIdx,if_pos hil]) (aV _) (cv (ty:=3) (es:=bF q.Known) ?_ (by rw[fL]) (dz _) (((hg5.kept (X:=[0]) (ay _ (by simp) (ai _ _)) (by simp;omega)).kept (X:=[1]) (ay _ (by simp) (ai _ _)) (by simp;omega)).cw (di _) .nil))
 ·rw[List.getElem?_set_ne (by omega),List.getElem?_set_ne (by omega),o5]
 ·rw[List.getElem?_set_ne (by omega),List.getElem?_set_ne (by omega),p2]
open Go.PA
open Go.RowKit
theorem qv {a b c:AV} (ha:Imm a) (hb:Imm b) (hc:Imm c):Imm (.tup [a,b,c]):=by
 refine .tup fun x hx=>?_
 simp only[List.mem_cons,List.not_mem_nil,or_false]at hx
 rcases hx with rfl|rfl|rfl<;>assumption
theorem HZ {a b c a' b' c':AV} (ha:Weak a a') (hb:Weak b b') (hc:Weak c c'):Weak (.tup [a,b,c]) (.tup [a',b',c']):=by
 refine .tup rfl fun i x y hx hy=>?_
 match i,hx,hy with
 |0,hx,hy=>simp at hx hy;subst hx;subst hy;exact ha
 |1,hx,hy=>simp at hx hy;subst hx;subst hy;exact hb
 |2,hx,hy=>simp at hx hy;subst hx;subst hy;exact hc
 |i+3,hx,hy=>simp at hx
theorem nR {H:ab} {cs cs' ds ds':List AV} {v:Value} {Q:AV→Prop} {b:Bx Q} (h:CW H cs cs') (h2:CW H ds ds') (hq:Q (.tup [.agg cs',.agg ds',.sc v])):mD H (.tup [.agg cs,.agg ds,.sc v]) Q b:=
 aB (qv h.imm h2.imm .sc) (qv h.imm' h2.imm' .sc) (HZ h.weak h2.weak (.refl _)) hq
theorem BW {H:ab}:CW H [iv 0,iv 0,.nil] dO.cells:=cg .sc (cg .sc (bK .nil))
theorem eR {H:ab} {n:Int} {Q:AV→Prop} {b:Bx Q} (h:Q (.tup [.agg cS.cells,.agg dO.cells,iv n])):mD H (.tup [.agg [.nil,.nil,.nil],.agg [iv 0,iv 0,.nil],iv n]) Q b:=nR BD BW h
theorem AP {H:ab}:∀{cs:List AV},(∀a,a∈cs→Imm a)→CW H cs cs
 |[],_=> .nil
 |a::cs,h=>cg (h a (by simp)) (AP fun x hx=>h x (List.mem_cons_of_mem _ hx))
@[go_sem] theorem fsz:aw Tryz.prog 233=1:=by kernel_rfl
@[go_sem] theorem fkn:aA Tryz.prog 233=true:=by kernel_rfl
@[go_sem] theorem fag:bA Tryz.prog 233=false:=by kernel_rfl
theorem JZ {row src:Option Nat} (p:TPayment) (day:Int) (o:Nat) (ty:TypeId) (H:ab) (ho:H[o]?=some (some ⟨ty,1,[[iv day]]⟩)):MFun Tryz.prog row src 157 [.agg p.cells,.ref o 0 0] H (fun r H'=>r=bv (decide (day<p.Due))∧Kept [] H H'):=by
 refine al Tryz.func157 rfl (by simp[Tryz.f157]) (by kernel_rfl) (⟨_,H,rfl,ai _ _⟩) ?_
 intro E hP hr hs hN
 have lt:=(gsI ho)
 simp -dsimp -implicitDefEqProofs [-getElem?_pos,go_sem,hP,cPy,ho,lt]
 exact ap _ _ _
theorem F7 {row src:Option Nat} (p:TPayment) (ws:List Int) (o:Nat) (ty:TypeId) (H:ab) (hw:ws.length≤1000000) (ho:H[o]?=some (some ⟨ty,1,[[aI ws]]⟩)):MFun Tryz.prog row src 159 [.agg p.cells,.ref o 0 0] H (fun r H'=>r=bv (bP ws p)∧Kept [] H H'):=by
 refine al Tryz.func159 rfl (by simp[Tryz.f159]) (by kernel_rfl) (⟨_,H,rfl,ai _ _⟩) ?_
 intro E hP hr hs hN
 have lt:=(gsI ho)
 have iw:=dz ws
 simp -dsimp -implicitDefEqProofs [-getElem?_pos,go_sem,hP,cPy,ho,lt]
 refine ak ((nr ws p.Warrant hw).lift _ _) hP LW (by simp[iw,aP]) .sc ?_
 simp -dsimp -implicitDefEqProofs [-getElem?_pos,go_sem,hP,bP]
 exact ap _ _ _
theorem NJ {row src:Option Nat} (p:TPayment) (ws:List Int) (o o2:Nat) (ty ty2:TypeId) (H:ab) (hw:ws.length≤1000000) (ho:H[o]?=some (some ⟨ty,1,[[aI ws]]⟩)) (ho2:H[o2]?=some (some ⟨ty2,1,[[.fn 159 [.ref o 0 0]]]⟩)):
  MFun Tryz.prog row src 161 [.agg p.cells,.ref o2 0 0] H (fun r H'=>r=bv (!bP ws p)∧Kept [] H H'):=by
 refine al Tryz.func161 rfl (by simp[Tryz.f161]) (by kernel_rfl) (⟨_,H,rfl,ai _ _⟩) ?_
 intro E hP hr hs hN
 have lt:=(gsI ho)
 have lt2:=(gsI ho2)
 simp -dsimp -implicitDefEqProofs [-getElem?_pos,go_sem,hP,cPy,ho2,lt2]
 generalize hH2:H++_=H2
 have k2:Kept [] H H2:=by rw[←hH2];exact ap _ _ _
 have tm:=fun {row src:Option Nat}=>F7 (row:=row) (src:=src) p ws o ty H2 hw (k2 _ _ (by simp) ho)
 rw[cPy]at tm
 refine ar (by rw[hr,hs];exact tm) hP Mx ?_
 rintro r H3 ⟨rfl,hk3⟩
 simp -dsimp -implicitDefEqProofs [-getElem?_pos,go_sem,hP]
 exact k2.trans hk3
set_option maxHeartbeats 1000000 in
theorem Ks {row src:Option Nat} (q:TQueue) (day:Int) (H:ab) (hf:FitQ q) (c1:cT q=0):MFun Tryz.prog row src 108 [.agg q.cells,iv day] H (fun r H'=>∃id tl,r= .sref id 0 (dJ q day).length∧H.length≤id∧H'[id]?=some (some ⟨108,5,ac TPayment.cells (dJ q day)++tl⟩)∧Kept [] H H'):=by
 obtain⟨L,hL⟩:∃L,L=dJ q day:=⟨_,rfl⟩
 have hrd:L=q.Waiting.filter (fun p=>decide (p.Due≤day)):=by rw[hL,dJ,if_pos c1]
 rw[←hL]
 obtain⟨C,hC⟩:∃C:AV→ab→Prop,C=fun r H'=>∃id tl,r= .sref id 0 L.length∧H.length≤id∧H'[id]?=some (some ⟨108,5,ac TPayment.cells L++tl⟩)∧Kept [] H H':=⟨_,rfl⟩
 rw[←hC]
 have ex:∃r H',C r H':=⟨.sref H.length 0 L.length,H++[some ⟨108,5,ac TPayment.cells L++[]⟩],by
  rw[hC]
  exact⟨H.length,[],rfl,Nat.le_refl _,by simp,ap _ _ _⟩⟩
 refine al Tryz.func108 rfl (by simp[Tryz.f108]) (by kernel_rfl) (ex) ?_
 intro E hP hr hs hN
 have ck:=iW q hf
 have iq:=dr q
 have ip:=aV q.Waiting
 have i2:=dz q.Known
 have i3:=di q.Batches
 rw[cQu]at ck iq
 simp only[aI]at i2 ck iq
 simp -dsimp -implicitDefEqProofs [-getElem?_pos,go_sem,hP,cQu,aI]
 refine ak (ck.lift _ _) hP rF (by simpa using iq) .sc ?_
 simp -dsimp -implicitDefEqProofs [-getElem?_pos,go_sem,hP,c1]
 generalize hH2:H++_=H2
 have l2:H2.length=H.length+2:=by rw[←hH2];simp
 have k2:Kept [] H H2:=by rw[←hH2];exact ap _ _ _
 have b1:H2[H.length+1]?=some (some ⟨3,1,[[iv day]]⟩):=by rw[←hH2,List.getElem?_append_right (by omega)];simp
 refine ar (by rw[hr,hs];exact jR q.Waiting H2 (by have:=hf.w;omega)) hP sL ?_
 rintro r H3 ⟨id,rfl,hid,ho,hk⟩
 have e1:=hk _ _ (by simp) b1
 simp -dsimp -implicitDefEqProofs [-getElem?_pos,go_sem,hP]
 refine ar (by rw[hr,hs];exact iI q.Waiting [] id H3 157 [.ref (H.length+1) 0 0] (fun p=>decide (day<p.Due)) (by have:=hf.w;omega) (by rw[List.append_nil];exact ho) JX (fun p _ H' hk'=>JZ p day (H.length+1) _ H' (hk' _ _ (by simp;omega) e1))) hP AE ?_
 rintro r H4 ⟨tl,rfl,ho4,hk4⟩
 have ef:(q.Waiting.filter fun a=>!decide (day<a.Due))=L:=by
  rw[hrd]
  refine List.filter_congr fun p _=>?_
  by_cases h:day<p.Due
  ·simp[h,show¬p.Due≤day by omega]
  ·simp[h,show p.Due≤day by omega]
 rw[ef]at ho4
 simp -dsimp -implicitDefEqProofs [-getElem?_pos,go_sem,hP,ef]
 rw[hC]
 refine⟨id,tl,rfl,by omega,ho4,fun j o hj hoj=>?_⟩
 have hjl:=(gsI hoj)
 exact hk4 j o (by simp;omega) (hk j o (by simp) (k2 j o (by simp) hoj))
open Go.PA
open Go.RowKit
@[go_sem] theorem fze:bg Tryz.prog 233=some [.sc .nilFunc]:=by kernel_rfl
set_option maxHeartbeats 4000000 in
theorem JN (q:TQueue) (day:Int) (ws:List Int) (hf:FitQ q) (hw:ws.length≤100000):PFun Tryz.prog none none 111 [.agg q.cells,iv day,aI ws] (·= .tup [.agg (cC q day ws).1.cells,.agg (cC q day ws).2.1.cells,iv (cC q day ws).2.2]):=by
 refine dX Tryz.func111 rfl (by simp[Tryz.f111]) ?_
 intro E hP hr hs hW hN
 have ck:=iW q hf
 have iq:=dr q
 have ip:=aV q.Waiting
 have i2:=dz q.Known
 have i3:=di q.Batches
 have iw:=dz ws
 have lb:=hf.b
 rw[cQu]at ck iq
 simp only[aI]at i2 ck iq iw
 refine bG (by rw[hN];kernel_rfl) ?_
 simp -dsimp -implicitDefEqProofs [-getElem?_pos,go_sem,hP,cQu,aI]
 refine bG (by rw[hN];kernel_rfl) ?_
 simp -dsimp -implicitDefEqProofs [-getElem?_pos,go_sem,hP]
 refine ak (ck.lift _ _) hP rF (by simpa using iq) .sc ?_
 by_cases c1:cT q=0
 rotate_left
 ·have:cC q day ws=(cS,dO,cT q):=by rw[cC,if_neg c1]
  simp -dsimp -implicitDefEqProofs [-getElem?_pos,go_sem,hP,c1]
  refine eR ?_
  rw[this];rfl
 have hq:=dx.1 c1
 simp -dsimp -implicitDefEqProofs [-getElem?_pos,go_sem,hP,c1]
 refine bG (by rw[hN];kernel_rfl) ?_
 simp -dsimp -implicitDefEqProofs [-getElem?_pos,go_sem,hP]
 obtain⟨Inv,hInv⟩:∃Inv:St→Prop,Inv=fun s=>s.t 1=iv day∧s.t 3= .ref 0 0 0∧s.t 5= .ref 1 0 0∧s.t 6= .ref 2 0 0∧s.t 7= .ref 3 0 0∧s.t 10=iv (eH q)∧s.H=[some ⟨32,3,[[aT q.Waiting,.list 1 (q.Known.map fun x=>[iv x]),bY q.Batches]]⟩,some ⟨22,1,[[.list 1 (ws.map fun x=>[iv x])]]⟩,some ⟨32,3,[[.nil,.nil,.nil]]⟩,some ⟨111,3,[[iv 0,iv 0,.nil]]⟩]:=⟨_,rfl⟩
 refine fe Inv (by rw[hN];kernel_rfl) ?_ ?_
 ·cases hlast:q.Batches.getLast? with
  |none=>
   have hnil:q.Batches=[]:=by simpa using hlast
   have l0:eH q=0:=by rw[eH,hlast]
   simp -dsimp -implicitDefEqProofs [-getElem?_pos,go_sem,hP,hnil]
   refine⟨_,Weaker.refl _,?_⟩
   rw[hInv]
   exact⟨by simp -dsimp[-getElem?_pos,go_sem],by simp -dsimp[-getElem?_pos,go_sem],by simp -dsimp[-getElem?_pos,go_sem],by simp -dsimp[-getElem?_pos,go_sem],by simp -dsimp[-getElem?_pos,go_sem],by simp -dsimp[-getElem?_pos,go_sem,l0],by rw[hnil]⟩
  |some b=>
   have l0:eH q=b.Day:=by rw[eH,hlast]
   have hpos:0<q.Batches.length:=by
    cases h:q.Batches with
    |nil=>simp[h]at hlast
    |cons _ _=>simp
   have hb:q.Batches[q.Batches.length-1]?=some b:=by rw[←List.getLast?_eq_getElem?];exact hlast
   have d0:decide ((0:Int)<(q.Batches.length:Int))=true:=decide_eq_true (by omega)
   have w1:IntKind.i64.wrap ((q.Batches.length:Int)-1)=((q.Batches.length-1:Nat):Int):=by rw[ah _ (by omega)];omega
   simp -dsimp -implicitDefEqProofs [-getElem?_pos,go_sem,hP,d0,hpos]
   simp -dsimp -implicitDefEqProofs [-getElem?_pos,go_sem,hP,w1,hb,cBt]
   refine⟨_,Weaker.refl _,?_⟩
   rw[hInv]
   exact⟨by simp -dsimp[-getElem?_pos,go_sem],by simp -dsimp[-getElem?_pos,go_sem],by simp -dsimp[-getElem?_pos,go_sem],by simp -dsimp[-getElem?_pos,go_sem],by simp -dsimp[-getElem?_pos,go_sem],by simp -dsimp[-getElem?_pos,go_sem,l0],rfl⟩
 intro s hs'
 rw[hInv]at hs'
 obtain⟨t1,t3,t5,t6,t7,t10,hH⟩:=hs'
 refine bG (by rw[hN];kernel_rfl) ?_
 simp -dsimp -implicitDefEqProofs [-getElem?_pos,go_sem,hP,t1]
 refine ak ((k9 day).lift _ _) hP Es (by simp[aP]) .sc ?_
 cases c2:rM day
 ·have:cC q day ws=(cS,dO,66):=by rw[cC,if_pos c1,if_neg (by simp[c2])]
  simp -dsimp -implicitDefEqProofs [-getElem?_pos,go_sem,hP,c2,t6,t7,hH]
  refine eR ?_
  rw[this];rfl
 by_cases c3:day<eH q
 ·have d3:decide (day<eH q)=true:=decide_eq_true c3
  have:cC q day ws=(cS,dO,8):=by rw[cC,if_pos c1,if_pos c2,if_pos c3]
  simp -dsimp -implicitDefEqProofs [-getElem?_pos,go_sem,hP,c2,t6,t7,hH,t1,t10,d3]
  refine eR ?_
  rw[this];rfl
 have d3:decide (day<eH q)=false:=decide_eq_false c3
 by_cases c4:ws.length=0
 ·have d4:decide ((ws.length:Int)=0)=true:=decide_eq_true (by omega)
  have:cC q day ws=(cS,dO,10):=by rw[cC,if_pos c1,if_pos c2,if_neg c3,if_pos c4]
  simp -dsimp -implicitDefEqProofs [-getElem?_pos,go_sem,hP,c2,t6,t7,hH,t1,t10,d3,t5,c4]
  refine eR ?_
  rw[this];rfl
 have d4:decide ((ws.length:Int)=0)=false:=decide_eq_false (by omega)
 by_cases c5:10<ws.length
 ·have d5:decide ((10:Int)<(ws.length:Int))=true:=decide_eq_true (by omega)
  have:cC q day ws=(cS,dO,3):=by rw[cC,if_pos c1,if_pos c2,if_neg c3,if_neg c4,if_pos (.inl c5)]
  simp -dsimp -implicitDefEqProofs [-getElem?_pos,go_sem,hP,c2,t6,t7,hH,t1,t10,d3,t5,t3,c4,d4,d5]
  refine eR ?_
  rw[this];rfl
 have d5:decide ((10:Int)<(ws.length:Int))=false:=decide_eq_false (by omega)
 by_cases c6:200≤q.Batches.length
 ·have d6:decide ((200:Int)≤(q.Batches.length:Int))=true:=decide_eq_true (by omega)
  have:cC q day ws=(cS,dO,3):=by rw[cC,if_pos c1,if_pos c2,if_neg c3,if_neg c4,if_pos (.inr c6)]
  simp -dsimp -implicitDefEqProofs [-getElem?_pos,go_sem,hP,c2,t6,t7,hH,t1,t10,d3,t5,t3,c4,d4,d5,d6]
  refine eR ?_
  rw[this];rfl
 have d6:decide ((200:Int)≤(q.Batches.length:Int))=false:=decide_eq_false (by omega)
 simp -dsimp -implicitDefEqProofs [-getElem?_pos,go_sem,hP,c2,t6,t7,hH,t1,t10,d3,t5,t3,c4,d4,d5,d6]
 refine bG (by rw[hN];kernel_rfl) ?_
 simp -dsimp -implicitDefEqProofs [-getElem?_pos,go_sem,hP,t5,hH]
 refine bG (by rw[hN];kernel_rfl) ?_
 obtain⟨H2,hH2⟩:∃H2:ab,H2=[some ⟨32,3,[[aT q.Waiting,.list 1 (q.Known.map fun x=>[iv x]),bY q.Batches]]⟩,some ⟨22,1,[[.list 1 (ws.map fun x=>[iv x])]]⟩,some ⟨32,3,[[.nil,.nil,.nil]]⟩,some ⟨111,3,[[iv 0,iv 0,.nil]]⟩,some ⟨233,1,[[.fn 159 [.ref 1 0 0]]]⟩]:=⟨_,rfl⟩
 have b0:H2[0]?=some (some ⟨32,3,[[aT q.Waiting,.list 1 (q.Known.map fun x=>[iv x]),bY q.Batches]]⟩):=by rw[hH2];rfl
 have b1:H2[1]?=some (some ⟨22,1,[[aI ws]]⟩):=by rw[hH2];rfl
 have b2:H2[2]?=some (some ⟨32,3,[[.nil,.nil,.nil]]⟩):=by rw[hH2];rfl
 have b3:H2[3]?=some (some ⟨111,3,[[iv 0,iv 0,.nil]]⟩):=by rw[hH2];rfl
 have b4:H2[4]?=some (some ⟨233,1,[[.fn 159 [.ref 1 0 0]]]⟩):=by rw[hH2];rfl
 have l2:H2.length=5:=by rw[hH2];rfl
 simp only[←hH2]
 clear hH
 have rd:=fun {row src:Option Nat}=>Ks (row:=row) (src:=src) q day H2 hf c1
 rw[cQu]at rd
 simp only[aI]at rd
 simp -dsimp -implicitDefEqProofs [-getElem?_pos,go_sem,hP,t3,t1,b0,l2]
 refine ar (by rw[hr,hs];exact rd) hP LG ?_
 rintro r H3 ⟨id,tl,rfl,hid,ho,hk3⟩
 have e0:=hk3 _ _ (by simp) b0
 have e1:=hk3 _ _ (by simp) b1
 have e2:=hk3 _ _ (by simp) b2
 have e3:=hk3 _ _ (by simp) b3
 have e4:=hk3 _ _ (by simp) b4
 obtain⟨R,hR⟩:∃R,R=dJ q day:=⟨_,rfl⟩
 have hRf:R=q.Waiting.filter (fun p=>decide (p.Due≤day)):=by rw[hR,dJ,if_pos c1]
 have hRl:R.length≤100000:=by
  have:=hf.w
  have:=List.length_filter_le (fun p:TPayment=>decide (p.Due≤day)) q.Waiting
  rw[hRf]
  omega
 rw[←hR]at ho⊢
 simp -dsimp -implicitDefEqProofs [-getElem?_pos,go_sem,hP]
 refine ar (by rw[hr,hs];exact iI R tl id H3 161 [.ref 4 0 0] (fun p=>!bP ws p) hRl ho PI (fun p _ H' hk'=>NJ p ws 1 4 _ _ H' (by omega) (hk' _ _ (by simp;omega) e1) (hk' _ _ (by simp;omega) e4))) hP AE ?_
 rintro r H4 ⟨tl4,rfl,ho4,hk4⟩
 have f0:=hk4 _ _ (by simp;omega) e0
 have f1:=hk4 _ _ (by simp;omega) e1
 have f2:=hk4 _ _ (by simp;omega) e2
 have f3:=hk4 _ _ (by simp;omega) e3
 have f4:=hk4 _ _ (by simp;omega) e4
 obtain⟨L,hL⟩:∃L,L=R.filter (fun a=>!!bP ws a):=⟨_,rfl⟩
 have hLf:L=R.filter (bP ws):=by rw[hL];simp
 rw[←hL]at ho4⊢
 have iL:=aV L
 simp -dsimp -implicitDefEqProofs [-getElem?_pos,go_sem,hP]
 refine AWp.weaken (lY hW 13 (id:=id) (lo:=0) (n:=L.length) (o:=⟨108,5,ac TPayment.cells L++tl4⟩) (by simp -dsimp[-getElem?_pos,go_sem]) (by simp -dsimp[-getElem?_pos,go_sem,ho4]) ?_) ?_
 ·have:((ac TPayment.cells L++tl4).drop 0).take L.length=ac TPayment.cells L:=by simp[List.take_append_of_le_length,af,List.take_of_length_le]
  dsimp only
  rw[this]
  exact iL
 have hrows:((ac TPayment.cells L++tl4).drop 0).take L.length=ac TPayment.cells L:=by simp[List.take_append_of_le_length,af,List.take_of_length_le]
 simp only[hrows]
 generalize hH5:List.set H4 id none=H5
 have g0:H5[0]?=H4[0]?:=by rw[←hH5,List.getElem?_set_ne (by omega)]
 have g1:H5[1]?=H4[1]?:=by rw[←hH5,List.getElem?_set_ne (by omega)]
 have g2:H5[2]?=H4[2]?:=by rw[←hH5,List.getElem?_set_ne (by omega)]
 have g3:H5[3]?=H4[3]?:=by rw[←hH5,List.getElem?_set_ne (by omega)]
 have g4:H5[4]?=H4[4]?:=by rw[←hH5,List.getElem?_set_ne (by omega)]
 rw[f0]at g0
 rw[f1]at g1
 rw[f2]at g2
 rw[f3]at g3
 rw[f4]at g4
 have n0:=(gsI g0)
 have n1:=(gsI g1)
 have n2:=(gsI g2)
 have n3:=(gsI g3)
 have n4:=(gsI g4)
 clear hH5 f0 f1 f2 f3 f4 e0 e1 e2 e3 e4 b0 b1 b2 b3 b4 hk3 hk4 ho ho4
 refine bG (by rw[hN];kernel_rfl) ?_
 have hdl:=C3 (day:=day) (ws:=ws) hq.asc.nd
 rw[←hRf,←hLf]at hdl
 have g1':=g1
 simp only[aI]at g1'
 by_cases c7:DB q day ws=true
 rotate_left
 ·have c7':¬L.length=ws.length:=mt hdl.1 c7
  have d7:decide ((L.length:Int)=(ws.length:Int))=false:=decide_eq_false (by omega)
  have:cC q day ws=(cS,dO,6):=by rw[cC,if_pos c1,if_pos c2,if_neg c3,if_neg c4,if_neg (by omega),if_neg c7]
  simp -dsimp -implicitDefEqProofs [-getElem?_pos,go_sem,hP,t5,g1',n1,d7,c7',t6,t7,g2,n2,g3,n3]
  refine eR ?_
  rw[this];rfl
 have c7':L.length=ws.length:=hdl.2 c7
 have hLW:L=q.Waiting.filter (bP ws):=by rw[hLf,hRf];exact sG hq.asc.nd c7
 have htk:cC q day ws=(⟨q.Waiting.filter (fun p=>!bP ws p),q.Known,q.Batches++[oO q day ws]⟩,oO q day ws,0):=by rw[cC,if_pos c1,if_pos c2,if_neg c3,if_neg c4,if_neg (by omega),if_pos c7]
 have htb:oO q day ws=⟨q.Batches.length+1,day,L⟩:=by rw[oO,←hLW]
 rw[htk,htb]
 simp -dsimp -implicitDefEqProofs [-getElem?_pos,go_sem,hP,t5,g1',n1,c7',t3,g0,n0]
 refine bG (by rw[hN];kernel_rfl) ?_
 simp -dsimp -implicitDefEqProofs [-getElem?_pos,go_sem,hP,t5,g1',n1,c7',t3,g0,n0]
 refine ar (by rw[hr,hs];exact uq q H5 hf) hP AY ?_
 rintro r H6 ⟨j1,j2,x,rfl,hj1,hj2,n12,o1,o2,⟨B,hB1,hB2,hg⟩,hk6⟩
 have e0:=hk6 _ _ (by simp) g0
 have e1:=hk6 _ _ (by simp) g1
 have e2:=hk6 _ _ (by simp) g2
 have e3:=hk6 _ _ (by simp) g3
 have e4:=hk6 _ _ (by simp) g4
 have u0:=(gsI e0)
 have u4:=(gsI e4)
 have hc:=hg.cellish
 have m10:¬j1=0:=by omega
 have m20:¬j2=0:=by omega
 have z4:¬(4=0):=by omega
 simp -dsimp -implicitDefEqProofs [-getElem?_pos,go_sem,hP,t3,e0,u0,hc,e4,u4]
 generalize hH7:List.set H6 0 _=H7
 have v0:H7[0]?=some (some ⟨32,3,[[.sref j1 0 q.Waiting.length,.sref j2 0 q.Known.length,x]]⟩):=by rw[←hH7,List.getElem?_set_self u0]
 have v1:H7[1]?=H6[1]?:=by rw[←hH7,List.getElem?_set_ne (by omega)]
 have v2:H7[2]?=H6[2]?:=by rw[←hH7,List.getElem?_set_ne (by omega)]
 have v3:H7[3]?=H6[3]?:=by rw[←hH7,List.getElem?_set_ne (by omega)]
 have vj:H7[j1]?=H6[j1]?:=by rw[←hH7,List.getElem?_set_ne (by omega)]
 have vj2:H7[j2]?=H6[j2]?:=by rw[←hH7,List.getElem?_set_ne (by omega)]
 rw[e1]at v1
 rw[e2]at v2
 rw[e3]at v3
 rw[o1]at vj
 rw[o2]at vj2
 have k7:Kept [0] H6 H7:=by rw[←hH7];exact ay _ (by simp) (ai _ _)
 have hg7:=hg.kept k7 (by simp;omega)
 have y4:H7[4]?=H6[4]?:=by rw[←hH7,List.getElem?_set_ne (by omega)]
 rw[e4]at y4
 have p0:=(gsI v0)
 have p4:=(gsI y4)
 refine bG (by rw[hN];kernel_rfl) ?_
 simp -dsimp -implicitDefEqProofs [-getElem?_pos,go_sem,hP,t3,v0,y4,p0,p4]
 refine ar (by rw[hr,hs];exact iI q.Waiting [] j1 H7 159 [.ref 1 0 0] (bP ws) (by have:=hf.w;omega) (by rw[List.append_nil];exact vj) Mx (fun p _ H' hk'=>F7 p ws 1 _ H' (by omega) (hk' _ _ (by simp;omega) v1))) hP AE ?_
 rintro r H8 ⟨tl8,rfl,ho8,hk8⟩
 obtain⟨M,hM⟩:∃M,M=q.Waiting.filter (fun a=>!bP ws a):=⟨_,rfl⟩
 rw[←hM]at ho8⊢
 have w0:=hk8 _ _ (by simp;omega) v0
 have w2:=hk8 _ _ (by simp;omega) v2
 have w3:=hk8 _ _ (by simp;omega) v3
 have wj2:=hk8 _ _ (by simp;omega) vj2
 have hg8:=hg7.kept hk8 (by simp;omega)
 have s0:=(gsI w0)
 have s2:=(gsI w2)
 have s3:=(gsI w3)
 have sj1:=(gsI ho8)
 have sj2:=(gsI wj2)
 have wl:=ah ((q.Batches.length:Int)+1) (by omega)
 simp -dsimp -implicitDefEqProofs [-getElem?_pos,go_sem,hP,t3,w0,s0,hc]
 obtain⟨Inv2,hInv2⟩:∃Inv:St→Prop,Inv=fun s=>∃b':Nat,5≤b'∧s.t 1=iv day∧s.t 3= .ref 0 0 0∧s.t 6= .ref 2 0 0∧s.t 7= .ref 3 0 0∧s.t 13=aT L∧s.H[0]?=some (some ⟨32,3,[[.sref j1 0 M.length,.sref j2 0 q.Known.length,.sref b' 0 (q.Batches.length+1)]]⟩)∧s.H[2]?=some (some ⟨32,3,[[.nil,.nil,.nil]]⟩)∧s.H[3]?=some (some ⟨111,3,[[iv 0,iv 0,.nil]]⟩)∧s.H[j1]?=some (some ⟨108,5,ac TPayment.cells M++tl8⟩)∧s.H[j2]?=some (some ⟨3,1,bF q.Known⟩)∧s.H[b']?=some (some ⟨111,3,ac TBatch.cells (q.Batches++[⟨q.Batches.length+1,day,L⟩])⟩):=⟨_,rfl⟩
 refine fe Inv2 (by rw[hN];kernel_rfl) ?_ ?_
 ·have en:ac TBatch.cells q.Batches++[[iv ((q.Batches.length:Int)+1),iv day,aT L]]=ac TBatch.cells (q.Batches++[⟨q.Batches.length+1,day,L⟩]):=cJ TBatch.cells q.Batches ⟨q.Batches.length+1,day,L⟩
  rcases hg8 with⟨rfl,h⟩|⟨jd,hjd,rfl,h⟩
  ·have hl0:q.Batches.length=0:=by have:=congrArg List.length h;rwa[af]at this
   rw[h,hl0]at en
   have w01:IntKind.i64.wrap 1=1:=ah _ (by omega)
   have w01':IntKind.i64.wrap (0+1)=1:=ah _ (by omega)
   simp -dsimp -implicitDefEqProofs [-getElem?_pos,go_sem,hP,t3,t1,s0,wl,hl0,w01,w01']
   refine⟨_,Weaker.refl _,?_⟩
   rw[hInv2]
   refine⟨H8.length,by omega,by simp -dsimp[-getElem?_pos,go_sem,t1],by simp -dsimp[-getElem?_pos,go_sem,t3],by simp -dsimp[-getElem?_pos,go_sem,t6],by simp -dsimp[-getElem?_pos,go_sem,t7],by simp -dsimp[-getElem?_pos,go_sem],by simp -dsimp[-getElem?_pos,go_sem,s0,hl0],?_,?_,?_,?_,?_⟩
   ·dsimp only
    rw[List.getElem?_append_left (by simp;omega),List.getElem?_set_ne (by omega)]
    try rw[List.getElem?_set_ne (by omega)]
    exact w2
   ·dsimp only
    rw[List.getElem?_append_left (by simp;omega),List.getElem?_set_ne (by omega)]
    try rw[List.getElem?_set_ne (by omega)]
    exact w3
   ·dsimp only
    rw[List.getElem?_append_left (by simp;omega),List.getElem?_set_ne (by omega)]
    try rw[List.getElem?_set_ne (by omega)]
    exact ho8
   ·dsimp only
    rw[List.getElem?_append_left (by simp;omega),List.getElem?_set_ne (by omega)]
    try rw[List.getElem?_set_ne (by omega)]
    exact wj2
   ·dsimp only
    rw[hl0,←en]
    simp -dsimp -implicitDefEqProofs [-getElem?_pos,go_sem]
  ·have sjd:=(gsI h)
   have nd0:¬jd=0:=by omega
   have nd0':¬0=jd:=by omega
   rw[af]
   simp -dsimp -implicitDefEqProofs [-getElem?_pos,go_sem,hP,t3,t1,s0,wl,h,sjd,nd0,nd0',af]
   refine⟨by omega,by omega,?_⟩
   refine⟨_,Weaker.refl _,?_⟩
   rw[hInv2]
   refine⟨H8.length,by omega,by simp -dsimp[-getElem?_pos,go_sem,t1],by simp -dsimp[-getElem?_pos,go_sem,t3],by simp -dsimp[-getElem?_pos,go_sem,t6],by simp -dsimp[-getElem?_pos,go_sem,t7],by simp -dsimp[-getElem?_pos,go_sem],by simp -dsimp[-getElem?_pos,go_sem,s0,nd0],?_,?_,?_,?_,?_⟩
   ·dsimp only
    rw[List.getElem?_append_left (by simp;omega)]
    repeat rw[List.getElem?_set_ne (by omega)]
    exact w2
   ·dsimp only
    rw[List.getElem?_append_left (by simp;omega)]
    repeat rw[List.getElem?_set_ne (by omega)]
    exact w3
   ·dsimp only
    rw[List.getElem?_append_left (by simp;omega)]
    repeat rw[List.getElem?_set_ne (by omega)]
    exact ho8
   ·dsimp only
    rw[List.getElem?_append_left (by simp;omega)]
    repeat rw[List.getElem?_set_ne (by omega)]
    exact wj2
   ·dsimp only
    rw[←en]
    simp -dsimp -implicitDefEqProofs [-getElem?_pos,go_sem]
 intro s hs'
 rw[hInv2]at hs'
 obtain⟨b',hb',t1,t3,t6,t7,t13,h0,h2,h3,h4,h5,h6⟩:=hs'
 have r0:=(gsI h0)
 have r2:=(gsI h2)
 have r3:=(gsI h3)
 refine bE _ _ _ (by rw[hN];kernel_rfl) ?_
 simp -dsimp -implicitDefEqProofs [-getElem?_pos,go_sem,hP]
 refine au (fun i=>decide (i=0)||decide (i=b')) [] hP (by kernel_rfl) (by kernel_rfl) ?_
 simp -dsimp -implicitDefEqProofs [-getElem?_pos,go_sem,hP,t1,t3,t6,t7,t13,h0,r0,h6]
 refine ak ((qS L (by omega)).lift _ _) hP sL (by simpa using iL) iL ?_
 have n22:¬b'=2:=by omega
 have n33:¬b'=3:=by omega
 simp -dsimp -implicitDefEqProofs [-getElem?_pos,go_sem,hP,t1,t13,t6,t7,h2,r2,h3,r3]
 refine⟨fun i hi=>?_,fun i hi=>?_,?_⟩
 ·simp only[Bool.or_eq_true,decide_eq_true_eq]at hi
  rw[List.getElem?_set_ne (by omega)]
 ·simp only[Bool.or_eq_true,decide_eq_true_eq]at hi
  rw[List.getElem?_set_ne (by omega)]
 have iB:=Aq ⟨q.Batches.length+1,day,L⟩
 refine nR (cs':=(TQueue.mk M q.Known (q.Batches++[⟨q.Batches.length+1,day,L⟩])).cells) (ds':=(TBatch.mk (q.Batches.length+1) day L).cells) ?_ (AP (aO.1 iB)) rfl
 refine Dh (ty:=108) (tl:=tl8) ?_ (by rw[af]) (aV _) (cv (ty:=3) (es:=bF q.Known) ?_ (by rw[fL]) (dz _) (cv (ty:=111) (es:=ac TBatch.cells (q.Batches++[⟨q.Batches.length+1,day,L⟩])) ?_ (by rw[af];simp) (di _) .nil))
 ·rw[List.getElem?_set_ne (by omega),List.getElem?_set_ne (by omega),h4]
 ·rw[List.getElem?_set_ne (by omega),List.getElem?_set_ne (by omega),h5]
 ·rw[List.getElem?_set_ne (by omega),List.getElem?_set_ne (by omega),h6]
open Go.PA
open Go.RowKit
open Go.PA
open Go.RowKit
open Go.PA
open Go.RowKit
open Go.PA
open Go.RowKit
end Go.Proofs.YtmmpcldnpflchaaGreatDoor
namespace Go.PA
open Go.RowKit
theorem lK {P:Program} {row src:Option Nat} {f:FuncId} {args:List AV} {C:AV→ab→Prop} {Q:AV→Prop} (h:MFun P row src f args [] C)
  (hC:∀r H',C r H'→∃x,Weak (dg H' r) x∧Imm (dg H' r)∧Imm x∧Q x):PFun P row src f args Q:=by
 intro w ok vs h1 h2 h3 h4
 let E:Env:={P:=P,w0:=w,okA:=ok,row:=row,src:=src,N:=0,W:=fun _=>False,ρ0:=fun _=>none,H0:=[]}
 have g:Good E w (fun _=>none) [] ok:=⟨rfl,rfl,rfl,Nat.le_refl _,fun _ _ _ _=>rfl,h2,fun b hb=>⟨(h1 b hb).1,(h1 b hb).2,.inl hb⟩,by simp,by simp,by simp,by simp⟩
 refine ((h E rfl rfl rfl).2 w (fun _=>none) ok vs g h3 h4).mono ?_
 rintro e w' ⟨v,r,H',ρ,ok',rfl,hc,g',_,hrep⟩
 obtain⟨x,hwk,hi,hix,hx⟩:=hC r H' hc
 refine⟨v,x,rfl,hx,hix,?_,⟨g'.os,g'.tape,g'.output,g'.size,fun k hk hne=>g'.blk k hk (fun h=>h) hne⟩,?_⟩
 ·refine Rep.weak hwk ((uJ g' hrep hi).imm (fun b hb=>?_) hi)
  rcases hb with hb|⟨_,_,_,ho,hρ⟩
  ·obtain⟨b1,_,b3⟩:=g'.oks b hb
   exact b3.imp id fun h=>⟨h,b1⟩
  ·have hobj:=g'.obj _ _ ho
   rw[hρ]at hobj
   obtain⟨_,_,b3⟩:=g'.own _ _ b _ ho hρ
   exact .inr ⟨b3.resolve_left (fun h=>h),hobj.lt⟩
 ·refine⟨⟨h2.1.1,h2.1.2.at g'.inv.1.2⟩,fun p hp=>?_⟩
  exact g'.inv.2 p hp
theorem kD {P:Program} {row src:Option Nat} {f:FuncId} {args:List AV} {C:AV→ab→Prop} {cs:List AV} (h:MFun P row src f args [] C)
  (hi:Imm (.agg cs)) (hC:∀r H',C r H'→∃xs,r= .agg xs∧CW H' xs cs):PFun P row src f args (·= .agg cs):=
 lK h fun r H' hc=>by
  obtain⟨xs,rfl,hw⟩:=hC r H' hc
  exact⟨.agg cs,hw.weak,hw.imm,hi,rfl⟩
end Go.PA
namespace Go.Proofs.YtmmpcldnpflchaaGreatDoor
open Go.PA
open Go.RowKit
theorem vU (l:List TEntry) (g:FuncId) (caps:List AV) (p:TEntry→Bool) (hl:l.length≤1000000) (hen:aa Tryz.prog g=true) (hcap:∀a,a∈caps→Imm a)
  (hg:∀a,a∈l→PFun Tryz.prog none none g (.agg (TEntry.cells a)::caps) (·=bv (p a))):
  PFun Tryz.prog none none 149 [.list 6 (ac TEntry.cells l),.fn g caps] (·=iv (dC p l)):=by
 refine ae Tryz.func149 rfl (by simp[Tryz.f149]) (by kernel_rfl) ?_
 intro E hP hr hs hW hN
 simp -dsimp -implicitDefEqProofs [-getElem?_pos,go_sem,hP]
 obtain⟨I,hI⟩:∃I:Nat→St→Prop,I=fun m s=>∃k:Nat,k≤l.length∧m=l.length-k∧dC p l=br p k (l.drop k)∧s.t 0= .list 6 (ac TEntry.cells l)∧s.t 1= .fn g caps∧s.t 7=iv l.length∧s.t 8=iv k:=⟨_,rfl⟩
 refine aF I (l.length) (by rw[hN];rfl) ?_ ?_
 ·rw[hI]
  exact⟨0,by omega,by omega,by simp[dC],by simp -dsimp[-getElem?_pos,go_sem],by simp -dsimp[-getElem?_pos,go_sem],by simp -dsimp[-getElem?_pos,go_sem],by simp -dsimp[-getElem?_pos,go_sem]⟩
 intro m s hs'
 rw[hI]at hs'
 obtain⟨k,hk,hm,hi,t0,t1,t7,t8⟩:=hs'
 simp -dsimp -implicitDefEqProofs [-getElem?_pos,go_sem,hP,t7,t8]
 refine aH (fun h=>?_) (fun h=>?_)
 ·have hk:k<l.length:=by simpa using h
  obtain⟨a,ha⟩:∃a,l[k]?=some a:=⟨_,List.getElem?_eq_getElem hk⟩
  have wk:=ah ((k:Int)+1) (by omega)
  have hz:(TEntry.cells a).take 6=TEntry.cells a:=List.take_of_length_le (by rw[TEntry.len];omega)
  have hd:l.drop k=a::l.drop (k+1):=by
   rw[List.getElem?_eq_getElem hk]at ha
   rw[List.drop_eq_getElem_cons hk,Option.some.inj ha]
  simp -dsimp -implicitDefEqProofs [-getElem?_pos,go_sem,hP,t8,t1,t0,ha,TEntry.len,hz]
  refine ak ((hg a (List.mem_of_getElem? ha)).lift _ _) hP hen (fun x hx=>?_) .sc ?_
  ·rcases List.mem_cons.1 hx with rfl|hx
   ·exact aO.2 (TEntry.imm a)
   ·exact hcap x hx
  rw[hd]at hi
  simp only[br]at hi
  simp -dsimp -implicitDefEqProofs [-getElem?_pos,go_sem,hP]
  refine aH (fun hp=>?_) (fun hp=>?_)
  ·rw[if_pos hp]at hi
   simp -dsimp -implicitDefEqProofs [-getElem?_pos,go_sem,hP]
   exact hi.symm
  ·rw[hp,if_neg (by simp)]at hi
   simp -dsimp -implicitDefEqProofs [-getElem?_pos,go_sem,hP,t8,wk]
   refine⟨l.length-(k+1),by omega,?_⟩
   rw[hI]
   exact⟨k+1,by omega,rfl,hi,by simp -dsimp[-getElem?_pos,go_sem,t0],by simp -dsimp[-getElem?_pos,go_sem,t1],by simp -dsimp[-getElem?_pos,go_sem,t7],by simp -dsimp[-getElem?_pos,go_sem]⟩
 ·have hk:k=l.length:=by simp at h;omega
  subst hk
  rw[List.drop_length]at hi
  simp -dsimp -implicitDefEqProofs [-getElem?_pos,go_sem,hP]
  exact hi.symm
theorem zW {row src:Option Nat} (l:List TItem) (H:ab) (hl:l.length≤1000000):MFun Tryz.prog row src 41 [.list 7 (ac TItem.cells l)] H (fun r H'=>∃id,r= .sref id 0 l.length∧H.length≤id∧H'[id]?=some (some ⟨114,7,ac TItem.cells l⟩)∧Kept [] H H'):=by
 have own:MFun Tryz.prog row src 41 [.list 7 (ac TItem.cells l)] H (fun r H'=>(r= .nil∧l=[]∧H'=H)∨∃id,r= .sref id 0 l.length∧H.length≤id∧H'[id]?=some (some ⟨114,7,ac TItem.cells l⟩)∧Kept [] H H'):=by
  cases l with
  |nil=>
   refine bu fun A c=>?_
   refine al Tryz.func41 rfl (by simp[Tryz.f41]) (by kernel_rfl) ⟨.nil,H,.inl ⟨rfl,rfl,rfl⟩⟩ ?_
   intro E hP hr hs hN
   cases A with
   |none=>simp -dsimp -implicitDefEqProofs [-getElem?_pos,go_sem,hP]
   |some a=>
    simp -dsimp -implicitDefEqProofs [-getElem?_pos,go_sem,hP]
    exact ap _ _ _
  |cons a l=>
   refine al Tryz.func41 rfl (by simp[Tryz.f41]) (by kernel_rfl) ⟨_,H++[some ⟨114,7,ac TItem.cells (a::l)⟩],.inr ⟨H.length,rfl,Nat.le_refl _,by simp,az _ (ai _ _)⟩⟩ ?_
   intro E hP hr hs hN
   simp only[List.length_cons]at hl
   have e:ac TItem.cells (a::l)=TItem.cells a::ac TItem.cells l:=rfl
   simp -dsimp -implicitDefEqProofs [-getElem?_pos,go_sem,hP,e]
   refine⟨by omega,by omega,?_⟩
   exact ap _ _ _
 refine (own.ownNil 114 7).mono ?_
 rintro r H' (⟨H0,h0,rfl,rfl⟩|⟨hne,h⟩)
 ·rcases h0 with⟨_,rfl,rfl⟩|⟨id,h,_⟩
  ·exact⟨_,rfl,Nat.le_refl _,by simp[ac],az _ (ai _ _)⟩
  ·cases h
 ·rcases h with⟨h,_⟩|h
  ·exact absurd h hne
  ·exact h
theorem cQn (q:TQueue):q.cells=[aT q.Waiting,e9 q.Known,bY q.Batches]:=rfl
theorem cDn (d:TDesk):d.cells=[iv d.Account.Credit,cj d.Account.Subs,b9 d.Account.Entries,aT d.Queue.Waiting,e9 d.Queue.Known,bY d.Queue.Batches,dt d.Items]:=rfl
theorem Ba (a b:List Int) (ha:a.length≤100000) (hb:b.length≤100000):
  PFun Tryz.prog none none 141 [.list 1 (ac aJ a),.list 1 (ac aJ b)] (·=bv (decide (a=b))):=by
 refine ae Tryz.func141 rfl (by simp[Tryz.f141]) (by kernel_rfl) ?_
 intro E hP hr hs hW hN
 by_cases hlen:a.length=b.length
 rotate_left
 ·have hne:¬a=b:=fun h=>hlen (by rw[h])
  have hl:decide ((a.length:Int)=(b.length:Int))=false:=by simp;omega
  simp -dsimp -implicitDefEqProofs [-getElem?_pos,go_sem,hP,hl,hne]
 have hl:decide ((a.length:Int)=(b.length:Int))=true:=by simp;omega
 simp -dsimp -implicitDefEqProofs [-getElem?_pos,go_sem,hP,hl]
 obtain⟨I,hI⟩:∃I:Nat→St→Prop,I=fun m s=>∃k:Nat,k≤a.length∧m=a.length-k∧s.t 0= .list 1 (ac aJ a)∧s.t 1= .list 1 (ac aJ b)∧s.t 12=iv a.length∧s.t 13=iv k∧a.take k=b.take k:=⟨_,rfl⟩
 refine aF I (a.length) (by rw[hN];rfl) ?_ ?_
 ·rw[hI]
  exact⟨0,by omega,by omega,by simp -dsimp[-getElem?_pos,go_sem],by simp -dsimp[-getElem?_pos,go_sem],by simp -dsimp[-getElem?_pos,go_sem],by simp -dsimp[-getElem?_pos,go_sem],by simp⟩
 intro m s hs'
 rw[hI]at hs'
 obtain⟨k,hk,hm,t0,t1,t12,t13,heq⟩:=hs'
 simp -dsimp -implicitDefEqProofs [-getElem?_pos,go_sem,hP,t12,t13]
 refine aH (fun h=>?_) (fun h=>?_)
 ·have hk:k<a.length:=by simpa using h
  obtain⟨x,hx⟩:∃x,a[k]?=some x:=⟨_,List.getElem?_eq_getElem hk⟩
  obtain⟨y,hy⟩:∃y,b[k]?=some y:=⟨_,List.getElem?_eq_getElem (by omega)⟩
  have wk:=ah ((k:Int)+1) (by omega)
  have tx:a.take (k+1)=a.take k++[x]:=by rw[List.take_add_one,hx];rfl
  have ty:b.take (k+1)=b.take k++[y]:=by rw[List.take_add_one,hy];rfl
  simp -dsimp -implicitDefEqProofs [-getElem?_pos,go_sem,hP,t13]
  refine au (fun _=>true) [] hP (by kernel_rfl) (by kernel_rfl) ?_
  by_cases hxy:x=y
  ·subst hxy
   simp -dsimp -implicitDefEqProofs [-getElem?_pos,go_sem,hP,t0,t1,hx,hy,aJ,t13,wk]
   refine⟨a.length-(k+1),by omega,?_⟩
   rw[hI]
   exact⟨k+1,by omega,rfl,by simp -dsimp[-getElem?_pos,go_sem,t0],by simp -dsimp[-getElem?_pos,go_sem,t1],by simp -dsimp[-getElem?_pos,go_sem,t12],by simp -dsimp[-getElem?_pos,go_sem],by rw[tx,ty,heq]⟩
  ·have hne:¬a=b:=fun h=>by
    subst h
    rw[hx]at hy
    exact hxy (Option.some.inj hy)
   have dxy:decide (x=y)=false:=decide_eq_false hxy
   simp -dsimp -implicitDefEqProofs [-getElem?_pos,go_sem,hP,t0,t1,hx,hy,aJ,t13,wk,dxy,hne]
 ·have hk:k=a.length:=by simp at h;omega
  subst hk
  rw[List.take_length]at heq
  rw[hlen,List.take_length]at heq
  simp -dsimp -implicitDefEqProofs [-getElem?_pos,go_sem,hP,heq]
theorem BV (l:List TPayment) (v:TPayment) (hl:l.length≤1000000):PFun Tryz.prog none none 223 [aT l,.agg v.cells] (·=iv (dC (fun x=>decide (v=x)) l)):=by
 refine ae Tryz.func223 rfl (by simp[Tryz.f223]) (by kernel_rfl) ?_
 intro E hP hr hs hW hN
 simp -dsimp -implicitDefEqProofs [-getElem?_pos,go_sem,hP,cPy]
 obtain⟨I,hI⟩:∃I:Nat→St→Prop,I=fun m s=>∃k:Nat,k≤l.length∧m=l.length-k∧dC (fun x=>decide (v=x)) l=br (fun x=>decide (v=x)) k (l.drop k)∧s.t 0=aT l∧s.t 3= .ref 0 0 0∧s.t 7=iv l.length∧s.t 8=iv k∧s.H[0]?=some (some ⟨108,5,[[iv v.Warrant,iv v.Payee,iv v.Amount,iv v.Due,iv v.Sub]]⟩):=⟨_,rfl⟩
 refine aF I (l.length) (by rw[hN];rfl) ?_ ?_
 ·rw[hI]
  exact⟨0,by omega,by omega,by simp[dC],by simp -dsimp[-getElem?_pos,go_sem],by simp -dsimp[-getElem?_pos,go_sem],by simp -dsimp[-getElem?_pos,go_sem],by simp -dsimp[-getElem?_pos,go_sem],by simp -dsimp[-getElem?_pos,go_sem]⟩
 intro m s hs'
 rw[hI]at hs'
 obtain⟨k,hk,hm,hi,t0,t3,t7,t8,h0⟩:=hs'
 have lt0:=(gsI h0)
 simp -dsimp -implicitDefEqProofs [-getElem?_pos,go_sem,hP,t7,t8]
 refine aH (fun h=>?_) (fun h=>?_)
 ·have hk:k<l.length:=by simpa using h
  obtain⟨a,ha⟩:∃a,l[k]?=some a:=⟨_,List.getElem?_eq_getElem hk⟩
  have wk:=ah ((k:Int)+1) (by omega)
  rw[mh ha]at hi
  simp only[br]at hi
  simp -dsimp -implicitDefEqProofs [-getElem?_pos,go_sem,hP,t8]
  refine au (fun _=>true) [] hP (by kernel_rfl) (by kernel_rfl) ?_
  by_cases hp:v=a
  ·subst hp
   rw[if_pos (by simp)]at hi
   simp -dsimp -implicitDefEqProofs [-getElem?_pos,go_sem,hP,t8,t3,t0,ha,h0,lt0,cPy]
   exact hi.symm
  ·rw[if_neg (by simpa using hp)]at hi
   simp -dsimp -implicitDefEqProofs [-getElem?_pos,go_sem,hP,t8,t3,t0,ha,h0,lt0,cPy,wk]
   refine aH (fun h=>?_) (fun h=>?_)
   ·exact absurd (by cases v;cases a;simp at h;simp[h]) hp
   ·simp -dsimp -implicitDefEqProofs [-getElem?_pos,go_sem,hP,t8,wk]
    refine⟨l.length-(k+1),by omega,?_⟩
    rw[hI]
    exact⟨k+1,by omega,rfl,hi,by simp -dsimp[-getElem?_pos,go_sem,t0],by simp -dsimp[-getElem?_pos,go_sem,t3],by simp -dsimp[-getElem?_pos,go_sem,t7],by simp -dsimp[-getElem?_pos,go_sem],by simp -dsimp[-getElem?_pos,go_sem,h0]⟩
 ·have hk:k=l.length:=by simp at h;omega
  subst hk
  rw[List.drop_length]at hi
  simp -dsimp -implicitDefEqProofs [-getElem?_pos,go_sem,hP]
  exact hi.symm
theorem vY (l:List TPayment) (v:TPayment) (hl:l.length≤1000000):PFun Tryz.prog none none 192 [aT l,.agg v.cells] (·=bv (decide (v∈l))):=by
 refine ae Tryz.func192 rfl (by simp[Tryz.f192]) (by kernel_rfl) ?_
 intro E hP hr hs hW hN
 have ix:=BV l v hl
 have iv':=gS v
 have il:=aV l
 rw[cPy]at ix iv'
 simp -dsimp -implicitDefEqProofs [-getElem?_pos,go_sem,hP,cPy]
 refine ak (ix.lift _ _) hP P9 (by simpa using⟨il,iv'⟩) .sc ?_
 rcases cN (fun x=>decide (v=x)) l with⟨h1,h2⟩|⟨i,a,h1,h2,h3,_⟩
 ·have:decide (v∈l)=false:=decide_eq_false fun hv=>by simpa using h2 v hv
  simp -dsimp -implicitDefEqProofs [-getElem?_pos,go_sem,hP,h1,this]
 ·have d:decide ((0:Int)≤(i:Int))=true:=decide_eq_true (by omega)
  have hva:v=a:=by simpa using h2
  have:decide (v∈l)=true:=decide_eq_true (hva▸List.mem_of_getElem? h1)
  simp -dsimp -implicitDefEqProofs [-getElem?_pos,go_sem,hP,h3,d,this]
def CutI (l:List TItem) (w:Int) (k:Nat):Prop:=k≤l.length∧∀h x,l[h]?=some x→(x.Payment.Warrant<w↔h<k)
def PlaceQ (l:List TItem) (w:Int) (r:AV):Prop:=∃i:Nat,i≤l.length∧r= .tup [iv i,bv (decide ((l[i]?).map wrt=some w))]∧∀k,CutI l w k→i=k
theorem yl (x:TItem) (w:Int):PFun Tryz.prog none none 152 [.agg x.cells,iv w] (·=iv (iF x.Payment.Warrant w)):=by
 refine ae Tryz.func152 rfl (by simp[Tryz.f152]) (by kernel_rfl) ?_
 intro E hP hr hs hW hN
 simp -dsimp -implicitDefEqProofs [-getElem?_pos,go_sem,hP,cIt]
 refine aj (gB x.Payment.Warrant w) hP yI (an (by simp -dsimp[-getElem?_pos,go_sem])) .sc ?_
 simp -dsimp -implicitDefEqProofs [-getElem?_pos,go_sem,hP]
theorem Ov (a b:Int):decide (iF a b<0)=decide (a<b):=by
 rw[decide_eq_decide]
 simp only[iF]
 repeat' split
 all_goals omega
theorem Ou (a b:Int):decide (iF a b=0)=decide (a=b):=by
 rw[decide_eq_decide]
 simp only[iF]
 repeat' split
 all_goals omega
set_option maxHeartbeats 1000000 in
theorem Er (l:List TItem) (w:Int) (hl:l.length≤1000000):PFun Tryz.prog none none 151 [dt l,iv w,.fn 152 []] (PlaceQ l w):=by
 refine ae Tryz.func151 rfl (by simp[Tryz.f151]) (by kernel_rfl) ?_
 intro E hP hr hs hW hN
 simp -dsimp -implicitDefEqProofs [-getElem?_pos,go_sem,hP]
 obtain⟨I,hI⟩:∃I:Nat→St→Prop,I=fun m s=>∃i j:Nat,(∀k,CutI l w k→i≤k∧k≤j)∧i≤j∧j≤l.length∧m=j-i∧s.t 0=dt l∧s.t 1=iv w∧s.t 2= .fn 152 []∧s.t 8=iv l.length∧s.t 9=iv i∧s.t 10=iv j:=⟨_,rfl⟩
 refine aF I (l.length) (by rw[hN];rfl) ?_ ?_
 ·rw[hI]
  exact⟨0,l.length,fun k hk=>⟨by omega,hk.1⟩,by omega,by omega,rfl,by simp -dsimp[-getElem?_pos,go_sem],by simp -dsimp[-getElem?_pos,go_sem],by simp -dsimp[-getElem?_pos,go_sem],by simp -dsimp[-getElem?_pos,go_sem],by simp -dsimp[-getElem?_pos,go_sem],by simp -dsimp[-getElem?_pos,go_sem]⟩
 intro m s hs'
 rw[hI]at hs'
 obtain⟨i,j,hc,hij,hjl,hm',t0,t1,t2,t8,t9,t10⟩:=hs'
 simp -dsimp -implicitDefEqProofs [-getElem?_pos,go_sem,hP,t9,t10]
 refine aH (fun h=>?_) (fun h=>?_)
 ·have hij:i<j:=by simpa using h
  have w1:=ah ((i:Int)+j) (by omega)
  have wu:IntKind.u64.wrap ((i:Int)+j)=(i:Int)+j:=by rw[IntKind.wrap_u64];omega
  obtain⟨h,hh⟩:∃h,h=(i+j) / 2:=⟨_,rfl⟩
  have wh:IntKind.i64.wrap (((i:Int)+j) / 2)=(h:Int):=by rw[ah _ (by omega)];omega
  obtain⟨a,ha⟩:∃a,l[h]?=some a:=⟨_,List.getElem?_eq_getElem (by omega)⟩
  have w2:=ah ((h:Int)+1) (by omega)
  have ia:=mI a
  have cm:=yl a w
  rw[cIt]at cm ia
  have cl:=Ov a.Payment.Warrant w
  simp -dsimp -implicitDefEqProofs [-getElem?_pos,go_sem,hP,t9,t10,w1,wu,xk,qz,wh,t0,t1,t2,ha,cIt]
  refine ak (cm.lift _ _) hP Ll (by simpa[aP]using ia) .sc ?_
  by_cases c:a.Payment.Warrant<w
  ·have c1:decide (iF a.Payment.Warrant w<0)=true:=by rw[cl];exact decide_eq_true c
   simp -dsimp -implicitDefEqProofs [-getElem?_pos,go_sem,hP,c1,w2]
   refine⟨j-(h+1),by omega,?_⟩
   rw[hI]
   exact⟨h+1,j,fun k hk=>⟨by have:=(hk.2 h a ha).1 c;omega,(hc k hk).2⟩,by omega,by omega,rfl,by simp -dsimp[-getElem?_pos,go_sem,t0],by simp -dsimp[-getElem?_pos,go_sem,t1],by simp -dsimp[-getElem?_pos,go_sem,t2],by simp -dsimp[-getElem?_pos,go_sem,t8],by simp -dsimp[-getElem?_pos,go_sem],by simp -dsimp[-getElem?_pos,go_sem,t10]⟩
  ·have c1:decide (iF a.Payment.Warrant w<0)=false:=by rw[cl];exact decide_eq_false c
   simp -dsimp -implicitDefEqProofs [-getElem?_pos,go_sem,hP,c1]
   refine⟨h-i,by omega,?_⟩
   rw[hI]
   exact⟨i,h,fun k hk=>⟨(hc k hk).1,by have:=mt (hk.2 h a ha).2 c;omega⟩,by omega,by omega,rfl,by simp -dsimp[-getElem?_pos,go_sem,t0],by simp -dsimp[-getElem?_pos,go_sem,t1],by simp -dsimp[-getElem?_pos,go_sem,t2],by simp -dsimp[-getElem?_pos,go_sem,t8],by simp -dsimp[-getElem?_pos,go_sem,t9],by simp -dsimp[-getElem?_pos,go_sem]⟩
 ·have hik:i=j:=by
   have:¬i<j:=by simpa using h
   omega
  subst hik
  have fin:PlaceQ l w (.tup [iv i,bv (decide ((l[i]?).map wrt=some w))]):=⟨i,hjl,rfl,fun k hk=>by have:=hc k hk;omega⟩
  by_cases c:i<l.length
  ·obtain⟨a,ha⟩:∃a,l[i]?=some a:=⟨_,List.getElem?_eq_getElem c⟩
   have d:decide ((i:Int)<(l.length:Int))=true:=decide_eq_true (by omega)
   have ia:=mI a
   have cm:=yl a w
   rw[cIt]at cm ia
   rw[ha]at fin
   have e:decide (Option.map wrt (some a)=some w)=decide (iF a.Payment.Warrant w=0):=by rw[Ou,decide_eq_decide];simp[wrt]
   rw[e]at fin
   simp -dsimp -implicitDefEqProofs [-getElem?_pos,go_sem,hP,t9,t8,c,d,t0,t1,t2,ha,cIt]
   refine ak (cm.lift _ _) hP Ll (by simpa[aP]using ia) .sc ?_
   simp -dsimp -implicitDefEqProofs [-getElem?_pos,go_sem,hP,t9,t8,c,d,t0,t2,ha]
   exact aN (aE .sc .sc) fin
  ·have d:decide ((i:Int)<(l.length:Int))=false:=decide_eq_false (by omega)
   rw[List.getElem?_eq_none (by omega)]at fin
   simp -dsimp -implicitDefEqProofs [-getElem?_pos,go_sem,hP,t9,t8,c,d]
   exact aN (aE .sc .sc) (by simpa using fin)
theorem CutI.uniq {l:List TItem} {w:Int} {j k:Nat} (hj:CutI l w j) (hk:CutI l w k):j=k:=by
 have key:∀{j k:Nat},CutI l w j→CutI l w k→¬j<k:=fun {j k} hj hk h=>by
  obtain⟨x,hx⟩:∃x,l[j]?=some x:=⟨_,List.getElem?_eq_getElem (by have:=hk.1;omega)⟩
  have h1:=(hk.2 j x hx).2 h
  have h2:=(hj.2 j x hx).1 h1
  omega
 have:=key hj hk
 have:=key hk hj
 omega
theorem nW (l:List TItem) (w:Int):∃r,PlaceQ l w r∧Imm r:=by
 by_cases h:∃k,CutI l w k
 ·obtain⟨k,hk⟩:=h
  exact⟨_,⟨k,hk.1,rfl,fun j hj=>hk.uniq hj⟩,aE .sc .sc⟩
 ·exact⟨_,⟨0,by omega,rfl,fun j hj=>absurd ⟨j,hj⟩ h⟩,aE .sc .sc⟩
theorem PlaceQ.flat {l:List TItem} {w:Int} {r:AV} (h:PlaceQ l w r):Flat r:=by
 obtain⟨i,_,rfl,_⟩:=h
 simp[pW,kU]
theorem wH (d:TDesk) (w:Int) (hl:d.Items.length≤1000000):PFun Tryz.prog none none 104 [.agg d.cells,iv w] (PlaceQ d.Items w):=by
 refine ae Tryz.func104 rfl (by simp[Tryz.f104]) (by kernel_rfl) ?_
 intro E hP hr hs hW hN
 have ii:=fK d.Items
 simp -dsimp -implicitDefEqProofs [-getElem?_pos,go_sem,hP,cDn]
 refine aX ((Er d.Items w hl).lift _ _) hP Ph (by simp[aP,lr,ii]) (nW _ _) ?_
 rintro r ⟨i,h1,rfl,h2⟩ _
 simp -dsimp -implicitDefEqProofs [-getElem?_pos,go_sem,hP]
 exact aN (aE .sc .sc) ⟨i,h1,by simp,h2⟩
open Go.PA
open Go.RowKit
theorem P3 (x:TItem):PFun Tryz.prog none none 225 [.agg x.cells] (·=bv (nH x)):=by
 refine ae Tryz.func225 rfl (by simp[Tryz.f225]) (by kernel_rfl) ?_
 intro E hP hr hs hW hN
 by_cases h1:x.State=2
 ·simp -dsimp -implicitDefEqProofs [-getElem?_pos,go_sem,hP,cIt,h1,nH]
 ·have d1:=decide_eq_false h1
  simp -dsimp -implicitDefEqProofs [-getElem?_pos,go_sem,hP,cIt,h1,d1,nH]
theorem Ew (a:TAccount) (he:a.Entries.length≤100000):PFun Tryz.prog none none 106 [.agg a.cells] (·=iv (dS a)):=by
 refine ae Tryz.func106 rfl (by simp[Tryz.f106]) (by kernel_rfl) ?_
 intro E hP hr hs hW hN
 by_cases h0:a.Entries.length=0
 ·have d0:decide (0<a.Entries.length)=false:=decide_eq_false (by omega)
  have:dS a=0:=by rw[dS,yE h0]
  simp -dsimp -implicitDefEqProofs [-getElem?_pos,go_sem,hP,cA,d0,this]
 ·obtain⟨k,hk⟩:∃k,a.Entries.length=k+1:=⟨a.Entries.length-1,by omega⟩
  obtain⟨e,hee⟩:∃e,a.Entries[k]?=some e:=⟨_,List.getElem?_eq_getElem (by omega)⟩
  have d0:decide ((0:Int)<(k:Int)+1)=true:=by simp
  have wk:=ah ((k:Int)+1-1) (by omega)
  rw[Int.add_sub_cancel]at wk
  have:dS a=e.Day:=by rw[dS,yx hk hee]
  simp -dsimp -implicitDefEqProofs [-getElem?_pos,go_sem,hP,cA,hk,d0,Int.add_sub_cancel,wk,hee,cE,this]
theorem L6 (p:TPayment) (w:Int):PFun Tryz.prog none none 224 [.agg p.cells,.iref [iv w]] (·=bv (fF w p)):=by
 refine ae Tryz.func224 rfl (by simp[Tryz.f224]) (by kernel_rfl) ?_
 intro E hP hr hs hW hN
 simp -dsimp -implicitDefEqProofs [-getElem?_pos,go_sem,hP,cPy,fF]
theorem Nj (q:TQueue) (w:Int) (hf:FitQ q):PFun Tryz.prog none none 193 [.agg q.cells,iv w] (·=iv (w4 q w)):=by
 refine ae Tryz.func193 rfl (by simp[Tryz.f193]) (by kernel_rfl) ?_
 intro E hP hr hs hW hN
 obtain⟨R,hR⟩:∃R,R=w4 q w:=⟨_,rfl⟩
 rw[←hR]
 rw[w4]at hR
 have lb:=hf.b
 have each:=hf.each
 obtain⟨l,hl⟩:∃l,l=q.Batches:=⟨_,rfl⟩
 rw[←hl]at hR lb each
 simp -dsimp -implicitDefEqProofs [-getElem?_pos,go_sem,hP,cQn,←hl]
 obtain⟨I,hI⟩:∃I:Nat→St→Prop,I=fun m s=>∃k:Nat,k≤l.length∧m=l.length-k∧s.t 3= .ref 1 0 0∧s.t 5=iv ((l.take k).countP fun b=>b.Payments.any (fF w))∧s.t 9=bY l∧s.t 10=iv l.length∧s.t 11=iv k∧s.H[1]?=some (some ⟨3,1,[[iv w]]⟩):=⟨_,rfl⟩
 refine aF I (l.length) (by rw[hN];rfl) ?_ ?_
 ·rw[hI]
  exact⟨0,by omega,by omega,by simp -dsimp[-getElem?_pos,go_sem],by simp -dsimp[-getElem?_pos,go_sem],by simp -dsimp[-getElem?_pos,go_sem],by simp -dsimp[-getElem?_pos,go_sem],by simp -dsimp[-getElem?_pos,go_sem],by simp -dsimp[-getElem?_pos,go_sem]⟩
 intro m s hs'
 rw[hI]at hs'
 obtain⟨k,hk,hm,t3,t5,t9,t10,t11,h1⟩:=hs'
 have lt1:=(gsI h1)
 simp -dsimp -implicitDefEqProofs [-getElem?_pos,go_sem,hP,t10,t11]
 refine aH (fun h=>?_) (fun h=>?_)
 ·have hk:k<l.length:=by simpa using h
  obtain⟨b,hb⟩:∃b,l[k]?=some b:=⟨_,List.getElem?_eq_getElem hk⟩
  have wk:=ah ((k:Int)+1) (by omega)
  have hbl:=each b (List.mem_of_getElem? hb)
  have ip:=aV b.Payments
  have g1:∀x:Option AObj,(s.H++[x])[1]?=some (some ⟨3,1,[[iv w]]⟩):=fun x=>by rw[List.getElem?_append_left lt1];exact h1
  have es:(l.take (k+1)).countP (fun b=>b.Payments.any (fF w))=(l.take k).countP (fun b=>b.Payments.any (fF w))+if b.Payments.any (fF w)=true then 1 else 0:=by rw[gQ hb,List.countP_append,List.countP_cons,List.countP_nil,Nat.zero_add]
  have lc:=List.countP_le_length (p:=fun b:TBatch=>b.Payments.any (fF w)) (l:=l.take k)
  rw[List.length_take]at lc
  generalize (l.take k).countP (fun b=>b.Payments.any (fF w))=c at es t5 lc
  have wc:=ah ((c:Int)+1) (by omega)
  simp -dsimp -implicitDefEqProofs [-getElem?_pos,go_sem,hP,t9,t11,hb,cBt,t3]
  refine aj (mr b.Payments 224 [.iref [iv w]] (fF w) (by omega) Pz (by simp[bH,aP]) fun p _=>L6 p w) hP Kw (bI ip (eK (cs:=[.ref 1 0 0]) (by simp -dsimp[-getElem?_pos,go_sem,eC,g1,lt1,h1]) (by simp[bH,aP]) (cH.2 trivial))) .sc ?_
  cases hc:b.Payments.any (fF w)
  ·rw[hc]at es
   simp -dsimp -implicitDefEqProofs [-getElem?_pos,go_sem,hP,t5,t11,wk]
   refine⟨l.length-(k+1),by omega,?_⟩
   rw[hI]
   exact⟨k+1,by omega,rfl,by simp -dsimp[-getElem?_pos,go_sem,t3],by simp -dsimp[-getElem?_pos,go_sem,t5,es],by simp -dsimp[-getElem?_pos,go_sem,t9],by simp -dsimp[-getElem?_pos,go_sem,t10],by simp -dsimp[-getElem?_pos,go_sem],by simp -dsimp[-getElem?_pos,go_sem,lt1,h1]⟩
  ·rw[hc]at es
   simp -dsimp -implicitDefEqProofs [-getElem?_pos,go_sem,hP,t5,t11,wk,wc]
   refine⟨l.length-(k+1),by omega,?_⟩
   rw[hI]
   exact⟨k+1,by omega,rfl,by simp -dsimp[-getElem?_pos,go_sem,t3],by simp -dsimp[-getElem?_pos,go_sem,es],by simp -dsimp[-getElem?_pos,go_sem,t9],by simp -dsimp[-getElem?_pos,go_sem,t10],by simp -dsimp[-getElem?_pos,go_sem],by simp -dsimp[-getElem?_pos,go_sem,lt1,h1]⟩
 ·have hk:k=l.length:=by simp at h;omega
  subst hk
  rw[List.take_length]at t5
  simp -dsimp -implicitDefEqProofs [-getElem?_pos,go_sem,hP,t5,hR]
theorem Kh (a:TAccount) (x:TItem) (he:a.Entries.length≤100000) (hs1:1≤x.Payment.Sub):PFun Tryz.prog none none 194 [.agg a.cells,.agg x.cells] (·=bv (pC a x)):=by
 refine ae Tryz.func194 rfl (by simp[Tryz.f194]) (by kernel_rfl) ?_
 intro E hP hr hs hW hN
 have ix:=mI x
 have ot:=P3 x
 rw[cIt]at ix ot
 obtain⟨R,hR⟩:∃R,R=pC a x:=⟨_,rfl⟩
 rw[←hR]
 rw[pC]at hR
 obtain⟨l,hl⟩:∃l,l=a.Entries:=⟨_,rfl⟩
 rw[←hl]at hR he
 simp -dsimp -implicitDefEqProofs [-getElem?_pos,go_sem,hP,cA,cIt,←hl]
 obtain⟨I,hI⟩:∃I:Nat→St→Prop,I=fun m s=>∃k:Nat,k≤l.length∧m=l.length-k∧(l.take k).all (okE x.Payment)=true∧s.t 3= .ref 1 0 0∧s.t 5=iv ((l.take k).countP (jo x.Payment))∧s.t 6=iv ((l.take k).countP (inE x.Payment))∧s.t 10=b9 l∧s.t 11=iv l.length∧s.t 12=iv k∧s.H[1]?=some (some ⟨114,7,[[iv x.Payment.Warrant,iv x.Payment.Payee,iv x.Payment.Amount,iv x.Payment.Due,iv x.Payment.Sub,iv x.State,iv x.Attempts]]⟩):=⟨_,rfl⟩
 refine aF I (l.length) (by rw[hN];rfl) ?_ ?_
 ·rw[hI]
  exact⟨0,by omega,by omega,by simp,by simp -dsimp[-getElem?_pos,go_sem],by simp -dsimp[-getElem?_pos,go_sem],by simp -dsimp[-getElem?_pos,go_sem],by simp -dsimp[-getElem?_pos,go_sem],by simp -dsimp[-getElem?_pos,go_sem],by simp -dsimp[-getElem?_pos,go_sem],by simp -dsimp[-getElem?_pos,go_sem]⟩
 intro m s hs'
 rw[hI]at hs'
 obtain⟨k,hk,hm,hall,t3,t5,t6,t10,t11,t12,h1⟩:=hs'
 have lt1:=(gsI h1)
 have lo:=List.countP_le_length (p:=jo x.Payment) (l:=l.take k)
 have li:=List.countP_le_length (p:=inE x.Payment) (l:=l.take k)
 rw[List.length_take]at lo li
 simp -dsimp -implicitDefEqProofs [-getElem?_pos,go_sem,hP,t11,t12]
 refine aH (fun h=>?_) (fun h=>?_)
 ·have hk:k<l.length:=by simpa using h
  obtain⟨e,hee⟩:∃e,l[k]?=some e:=⟨_,List.getElem?_eq_getElem hk⟩
  have wk:=ah ((k:Int)+1) (by omega)
  have g1:∀y:Option AObj,(s.H++[y])[1]?=some (some ⟨114,7,[[iv x.Payment.Warrant,iv x.Payment.Payee,iv x.Payment.Amount,iv x.Payment.Due,iv x.Payment.Sub,iv x.State,iv x.Attempts]]⟩):=fun y=>by rw[List.getElem?_append_left lt1];exact h1
  have eo:(l.take (k+1)).countP (jo x.Payment)=(l.take k).countP (jo x.Payment)+if jo x.Payment e=true then 1 else 0:=by rw[gQ hee,List.countP_append,List.countP_cons,List.countP_nil,Nat.zero_add]
  have ei:(l.take (k+1)).countP (inE x.Payment)=(l.take k).countP (inE x.Payment)+if inE x.Payment e=true then 1 else 0:=by rw[gQ hee,List.countP_append,List.countP_cons,List.countP_nil,Nat.zero_add]
  have ea:(l.take (k+1)).all (okE x.Payment)=okE x.Payment e:=by rw[gQ hee,List.all_append,hall];simp
  generalize (l.take k).countP (jo x.Payment)=co at eo t5 lo
  generalize (l.take k).countP (inE x.Payment)=ci at ei t6 li
  have wo:=ah ((co:Int)+1) (by omega)
  have wi:=ah ((ci:Int)+1) (by omega)
  have fin:∀s':St,okE x.Payment e=true→s'.t 3= .ref 1 0 0→s'.t 5=iv ((l.take (k+1)).countP (jo x.Payment))→s'.t 6=iv ((l.take (k+1)).countP (inE x.Payment))→s'.t 10=b9 l→s'.t 11=iv l.length→s'.t 12=iv (k+1)→s'.H[1]?=some (some ⟨114,7,[[iv x.Payment.Warrant,iv x.Payment.Payee,iv x.Payment.Amount,iv x.Payment.Due,iv x.Payment.Sub,iv x.State,iv x.Attempts]]⟩)→∃m',m'<m∧I m' s':=fun s' a1 a2 a3 a4 a5 a6 a7 a8=>by
   refine⟨l.length-(k+1),by omega,?_⟩
   rw[hI]
   exact⟨k+1,by omega,rfl,by rw[ea];exact a1,a2,a3,a4,a5,a6,a7,a8⟩
  have bad:okE x.Payment e=false→R=false:=fun h=>by
   rw[hR,Bool.and_eq_false_iff]
   refine .inl (List.all_eq_false.2 ⟨e,List.mem_of_getElem? hee,by simp[h]⟩)
  by_cases c1:e.Ref=x.Payment.Warrant
  rotate_left
  ·have d1:=decide_eq_false c1
   rw[show jo x.Payment e=false by simp[jo,d1],if_neg (by simp)]at eo
   rw[show inE x.Payment e=false by simp[inE,d1],if_neg (by simp)]at ei
   simp -dsimp -implicitDefEqProofs [-getElem?_pos,go_sem,hP,t10,t12,hee,cE,t3,g1,lt1,h1,c1,d1,wk]
   exact fin _ (by simp[okE,d1]) (by simp -dsimp[-getElem?_pos,go_sem,t3]) (by simp -dsimp[-getElem?_pos,go_sem,t5,eo]) (by simp -dsimp[-getElem?_pos,go_sem,t6,ei]) (by simp -dsimp[-getElem?_pos,go_sem,t10]) (by simp -dsimp[-getElem?_pos,go_sem,t11]) (by simp -dsimp[-getElem?_pos,go_sem]) (by simp -dsimp[-getElem?_pos,go_sem,lt1,h1])
  have d1:decide (e.Ref=x.Payment.Warrant)=true:=decide_eq_true c1
  have bool1:∀a b c d f:Bool,(a&&(b&&c))=false→(d&&(f&&c))=false→(!true||(c&&(a&&b||d&&f)))=false:=by decide
  simp -dsimp -implicitDefEqProofs [-getElem?_pos,go_sem,hP,t10,t12,hee,cE,t3,g1,lt1,h1,c1]
  refine aH (fun q1=>?_) (fun q1=>?_)
  ·simp only[Bool.and_eq_true,decide_eq_true_eq]at q1
   obtain⟨q1,q2,q3⟩:=q1
   rw[show jo x.Payment e=true by simp[jo,c1,q1,q2],if_pos rfl]at eo
   rw[show inE x.Payment e=false by simp[inE,c1,q1];omega,if_neg (by simp)]at ei
   simp -dsimp -implicitDefEqProofs [-getElem?_pos,go_sem,hP,t5,t12,wo,wk]
   exact fin _ (by simp[okE,d1,q1,q2,q3]) (by simp -dsimp[-getElem?_pos,go_sem,t3]) (by simp -dsimp[-getElem?_pos,go_sem,eo]) (by simp -dsimp[-getElem?_pos,go_sem,t6,ei]) (by simp -dsimp[-getElem?_pos,go_sem,t10]) (by simp -dsimp[-getElem?_pos,go_sem,t11]) (by simp -dsimp[-getElem?_pos,go_sem]) (by simp -dsimp[-getElem?_pos,go_sem,lt1,h1])
  simp -dsimp -implicitDefEqProofs [-getElem?_pos,go_sem,hP,t3,g1,lt1,h1]
  refine aH (fun q5=>?_) (fun q5=>?_)
  ·simp only[Bool.and_eq_true,decide_eq_true_eq]at q5
   obtain⟨q5,q6,q7⟩:=q5
   rw[show jo x.Payment e=false by simp[jo,c1,q5];omega,if_neg (by simp)]at eo
   rw[show inE x.Payment e=true by simp[inE,c1,q5,q6],if_pos rfl]at ei
   simp -dsimp -implicitDefEqProofs [-getElem?_pos,go_sem,hP,t6,t12,wi,wk]
   exact fin _ (by simp[okE,d1,q5,q6,q7]) (by simp -dsimp[-getElem?_pos,go_sem,t3]) (by simp -dsimp[-getElem?_pos,go_sem,t5,eo]) (by simp -dsimp[-getElem?_pos,go_sem,ei]) (by simp -dsimp[-getElem?_pos,go_sem,t10]) (by simp -dsimp[-getElem?_pos,go_sem,t11]) (by simp -dsimp[-getElem?_pos,go_sem]) (by simp -dsimp[-getElem?_pos,go_sem,lt1,h1])
  have:=bad (by rw[okE,d1];exact bool1 _ _ _ _ _ q1 q5)
  simp -dsimp -implicitDefEqProofs [-getElem?_pos,go_sem,hP,this]
 ·have hk:k=l.length:=by simp at h;omega
  subst hk
  rw[List.take_length]at t5 t6 hall lo li
  rw[hall,Bool.true_and]at hR
  generalize l.countP (jo x.Payment)=co at hR t5 lo
  generalize l.countP (inE x.Payment)=ci at hR t6 li
  have wi:=ah ((ci:Int)+1) (by omega)
  simp -dsimp -implicitDefEqProofs [-getElem?_pos,go_sem,hP,t3,h1,lt1]
  refine ak (ot.lift _ _) hP Qf (by simpa using ix) .sc ?_
  cases hg:nH x
  ·rw[show j5 x=0 by simp[j5,hg]]at hR
   by_cases c2:(co:Int)=x.Attempts
   ·have d2:=decide_eq_true c2
    rw[d2,Bool.true_and]at hR
    simp -dsimp -implicitDefEqProofs [-getElem?_pos,go_sem,hP,hg,t5,t6,t3,h1,lt1,d2,hR,c2]
   ·have d2:=decide_eq_false c2
    rw[d2,Bool.false_and]at hR
    simp -dsimp -implicitDefEqProofs [-getElem?_pos,go_sem,hP,hg,t5,t6,t3,h1,lt1,d2,hR,c2]
  ·rw[show j5 x=1 by simp[j5,hg]]at hR
   by_cases c2:(co:Int)=x.Attempts
   ·have d2:=decide_eq_true c2
    rw[d2,Bool.true_and]at hR
    simp -dsimp -implicitDefEqProofs [-getElem?_pos,go_sem,hP,hg,t5,t6,t3,h1,lt1,d2,hR,c2,wi]
   ·have d2:=decide_eq_false c2
    rw[d2,Bool.false_and]at hR
    simp -dsimp -implicitDefEqProofs [-getElem?_pos,go_sem,hP,hg,t5,t6,t3,h1,lt1,d2,hR,c2,wi]
open Go.PA
open Go.RowKit
abbrev wv (d:TDesk):AObj:=⟨35,7,[[iv d.Account.Credit,cj d.Account.Subs,b9 d.Account.Entries,aT d.Queue.Waiting,e9 d.Queue.Known,bY d.Queue.Batches,dt d.Items]]⟩
abbrev SG (x:TItem):AObj:=⟨114,7,[[iv x.Payment.Warrant,iv x.Payment.Payee,iv x.Payment.Amount,iv x.Payment.Due,iv x.Payment.Sub,iv x.State,iv x.Attempts]]⟩
set_option maxHeartbeats 2000000 in
theorem K0 (d:TDesk) (x:TItem) (hf:FitD d):PFun Tryz.prog none none 140 [.agg d.cells,.agg x.cells] (·=bv (kg d x)):=by
 refine dX Tryz.func140 rfl (by simp[Tryz.f140]) ?_
 intro E hP hr hs hW hN
 have ix:=mI x
 have ia:=dQ d.Account
 have iq:=dr d.Queue
 have ip:=gS x.Payment
 have i1:=aV d.Queue.Waiting
 have bl:=wV d.Account x.Payment.Sub hf.s hf.e
 have py:=zQ x.Payment
 have cp:=vY d.Queue.Waiting x.Payment (by have:=hf.q.w;omega)
 have sn:=Nj d.Queue x.Payment.Warrant hf.q
 have mv:=fun h=>Kh d.Account x hf.e h
 rw[cIt]at ix
 rw[cA]at ia bl
 rw[cPy]at ip py cp
 rw[cQn]at iq sn
 rw[cA,cIt]at mv
 obtain⟨R,hR⟩:∃R,R=kg d x:=⟨_,rfl⟩
 rw[←hR]
 rw[kg]at hR
 refine bG (by rw[hN];kernel_rfl) ?_
 simp -dsimp -implicitDefEqProofs [-getElem?_pos,go_sem,hP,cDn,cIt]
 refine bG (by rw[hN];kernel_rfl) ?_
 simp -dsimp -implicitDefEqProofs [-getElem?_pos,go_sem,hP]
 obtain⟨Inv,hInv⟩:∃Inv:St→Prop,Inv=fun s=>s.t 2= .ref 0 0 0∧s.t 3= .ref 1 0 0∧s.t 5=iv (pN x)∧s.t 6=iv (js x)∧s.H=[some (wv d),some (SG x)]:=⟨_,rfl⟩
 refine fe Inv (by rw[hN];kernel_rfl) ?_ ?_
 ·by_cases s1:x.State=1
  ·have e1:pN x=4:=by rw[pN,if_pos s1]
   have e2:js x=0:=by rw[js,if_pos s1]
   simp -dsimp -implicitDefEqProofs [-getElem?_pos,go_sem,hP,s1]
   refine⟨_,Weaker.refl _,?_⟩
   rw[hInv]
   exact⟨by simp -dsimp[-getElem?_pos,go_sem],by simp -dsimp[-getElem?_pos,go_sem],by simp -dsimp[-getElem?_pos,go_sem,e1],by simp -dsimp[-getElem?_pos,go_sem,e2],by simp[s1]⟩
  have d1:=decide_eq_false s1
  have e1:pN x=5:=by rw[pN,if_neg s1]
  by_cases s5:x.State=5
  ·have e2:js x=0:=by rw[js,if_neg s1,if_pos s5]
   simp -dsimp -implicitDefEqProofs [-getElem?_pos,go_sem,hP,s1,d1,s5]
   refine⟨_,Weaker.refl _,?_⟩
   rw[hInv]
   exact⟨by simp -dsimp[-getElem?_pos,go_sem],by simp -dsimp[-getElem?_pos,go_sem],by simp -dsimp[-getElem?_pos,go_sem,e1],by simp -dsimp[-getElem?_pos,go_sem,e2],by simp[s5]⟩
  ·have d5:=decide_eq_false s5
   have e2:js x=1:=by rw[js,if_neg s1,if_neg s5]
   simp -dsimp -implicitDefEqProofs [-getElem?_pos,go_sem,hP,s1,d1,s5,d5]
   refine⟨_,Weaker.refl _,?_⟩
   rw[hInv]
   exact⟨by simp -dsimp[-getElem?_pos,go_sem],by simp -dsimp[-getElem?_pos,go_sem],by simp -dsimp[-getElem?_pos,go_sem,e1],by simp -dsimp[-getElem?_pos,go_sem,e2],rfl⟩
 intro s hs'
 rw[hInv]at hs'
 obtain⟨t2,t3,t5,t6,hH⟩:=hs'
 clear hInv Inv
 refine bE _ _ _ (by rw[hN];kernel_rfl) ?_
 simp -dsimp -implicitDefEqProofs [-getElem?_pos,go_sem,hP,t2,t3,hH]
 refine ak (cp.lift _ _) hP QJ (by simpa using⟨i1,ip⟩) .sc ?_
 simp -dsimp -implicitDefEqProofs [-getElem?_pos,go_sem,hP,t2,t3,hH]
 refine ak (bl.lift _ _) hP Lv (by simpa[aP]using ia) (aE .sc .sc) ?_
 simp -dsimp -implicitDefEqProofs [-getElem?_pos,go_sem,hP,t2,t3,hH]
 refine au (fun _=>true) [] hP (by kernel_rfl) (by kernel_rfl) ?_
 cases c1:(cR d.Account x.Payment.Sub).2
 ·rw[c1,Bool.false_and]at hR
  simp -dsimp -implicitDefEqProofs [-getElem?_pos,go_sem,hP,c1,hR]
 rw[c1,Bool.true_and]at hR
 simp -dsimp -implicitDefEqProofs [-getElem?_pos,go_sem,hP,t2,t3,hH]
 refine ak (py.lift _ _) hP Ej (by simpa using ip) .sc ?_
 cases c2:iQ x.Payment
 ·rw[c2,Bool.false_and]at hR
  simp -dsimp -implicitDefEqProofs [-getElem?_pos,go_sem,hP,c2,hR]
 have hsub:=((jf x.Payment).1 c2).sub.1
 rw[c2,Bool.true_and]at hR
 simp -dsimp -implicitDefEqProofs [-getElem?_pos,go_sem,hP,t2,t3,hH]
 by_cases c3:1≤x.State
 rotate_left
 ·rw[AU (by omega),Bool.false_and]at hR
  have d3:=decide_eq_false c3
  simp -dsimp -implicitDefEqProofs [-getElem?_pos,go_sem,hP,t2,t3,c3,d3,hR]
 have d3:=decide_eq_true c3
 by_cases c4:x.State≤5
 rotate_left
 ·rw[AU (by omega),Bool.false_and]at hR
  have d4:=decide_eq_false c4
  simp -dsimp -implicitDefEqProofs [-getElem?_pos,go_sem,hP,t2,t3,d3,d4,hR]
 have d4:=decide_eq_true c4
 rw[fu.2 ⟨c3,c4⟩,Bool.true_and]at hR
 by_cases c5:js x≤x.Attempts
 rotate_left
 ·rw[AU (by omega),Bool.false_and]at hR
  have d5:=decide_eq_false c5
  simp -dsimp -implicitDefEqProofs [-getElem?_pos,go_sem,hP,t2,t3,d3,d4,d5,hR,t5,t6]
 have d5:=decide_eq_true c5
 by_cases c6:x.Attempts≤pN x
 rotate_left
 ·rw[AU (by omega),Bool.false_and]at hR
  have d6:=decide_eq_false c6
  simp -dsimp -implicitDefEqProofs [-getElem?_pos,go_sem,hP,t2,t3,d3,d4,d5,d6,hR,t5,t6]
 have d6:=decide_eq_true c6
 rw[fu.2 ⟨c5,c6⟩,Bool.true_and]at hR
 simp -dsimp -implicitDefEqProofs [-getElem?_pos,go_sem,hP,t2,t3,d3,d4,d5,d6,t5,t6]
 by_cases c7:decide (x.Payment∈d.Queue.Waiting)=decide (x.State=1)
 rotate_left
 ·rw[decide_eq_false c7,Bool.false_and]at hR
  have d7:(decide (x.Payment∈d.Queue.Waiting)==decide (x.State=1))=false:=by rw[beq_eq_false_iff_ne];exact c7
  simp -dsimp -implicitDefEqProofs [-getElem?_pos,go_sem,hP,t2,t3,d7,hR]
 have d7:(decide (x.Payment∈d.Queue.Waiting)==decide (x.State=1))=true:=by rw[beq_iff_eq];exact c7
 rw[decide_eq_true c7,Bool.true_and]at hR
 simp -dsimp -implicitDefEqProofs [-getElem?_pos,go_sem,hP,t2,t3,d7]
 refine ak (sn.lift _ _) hP Pu (by simpa[aP]using iq) .sc ?_
 by_cases c8:(w4 d.Queue x.Payment.Warrant:Int)=x.Attempts
 rotate_left
 ·rw[decide_eq_false c8,Bool.false_and]at hR
  have d8:=decide_eq_false c8
  simp -dsimp -implicitDefEqProofs [-getElem?_pos,go_sem,hP,t2,t3,d7,d8,hR]
 have d8:=decide_eq_true c8
 rw[d8,Bool.true_and]at hR
 simp -dsimp -implicitDefEqProofs [-getElem?_pos,go_sem,hP,t2,t3,d7,d8]
 refine ak ((mv hsub).lift _ _) hP Pn (by simpa using⟨ia,ix⟩) .sc ?_
 simp -dsimp -implicitDefEqProofs [-getElem?_pos,go_sem,hP,d7,d8,hR]
theorem Mt {d:TDesk} (hq:QOk d.Queue) (ha:bd d.Account=0):cI d=if Mn d=true then 0 else 68:=by
 rw[cI,if_pos ha,if_pos (dx.2 hq),KT hq]
theorem yc {l:List TItem} {k:Nat} {x:TItem} (h:l[k]?=some x):(l.take (k+1)).map wrt=(l.take k).map wrt++[wrt x]:=by rw[gQ h,List.map_append];rfl
set_option maxHeartbeats 2000000 in
theorem rD (d:TDesk) (hf:FitD d):PFun Tryz.prog none none 98 [.agg d.cells] (·=iv (cI d)):=by
 refine ae Tryz.func98 rfl (by simp[Tryz.f98]) (by kernel_rfl) ?_
 intro E hP hr hs hW hN
 have ia:=dQ d.Account
 have iq:=dr d.Queue
 have id':=dh d
 have cka:=wO d.Account hf.s hf.e
 have ckq:=iW d.Queue hf.q
 have rt:=fun x=>K0 d x hf
 rw[cA]at ia cka
 rw[cQn]at iq ckq
 rw[cDn]at id'
 simp only[cDn]at rt
 have li:=hf.i
 have lk:=hf.q.k
 have lw:=hf.q.w
 obtain⟨R,hR⟩:∃R,R=cI d:=⟨_,rfl⟩
 rw[←hR]
 simp -dsimp -implicitDefEqProofs [-getElem?_pos,go_sem,hP,cDn]
 refine ak (cka.lift _ _) hP MP (by simpa using ia) .sc ?_
 by_cases c1:bd d.Account=0
 rotate_left
 ·have:R=bd d.Account:=by rw[hR,cI,if_neg c1]
  simp -dsimp -implicitDefEqProofs [-getElem?_pos,go_sem,hP,c1,this]
 simp -dsimp -implicitDefEqProofs [-getElem?_pos,go_sem,hP,c1]
 refine ak (ckq.lift _ _) hP rF (by simpa using iq) .sc ?_
 by_cases c2:cT d.Queue=0
 rotate_left
 ·have:R=cT d.Queue:=by rw[hR,cI,if_pos c1,if_neg c2]
  simp -dsimp -implicitDefEqProofs [-getElem?_pos,go_sem,hP,c2,this]
 have hq:=dx.1 c2
 rw[Mt hq c1]at hR
 obtain⟨l,hl⟩:∃l,l=d.Items:=⟨_,rfl⟩
 have hRl:R=if (l.all (kg d)&&(decide (l.map wrt=d.Queue.Known)&&decide (l.countP bN=d.Queue.Waiting.length)))=true then 0 else 68:=by rw[hR,hl];rfl
 clear hR
 rw[←hl]at li
 simp only[←hl]at rt id'
 simp -dsimp -implicitDefEqProofs [-getElem?_pos,go_sem,hP,c2,←hl]
 refine jh 5 3 1 (by simp -dsimp[-getElem?_pos,go_sem]) ?_
 obtain⟨I,hI⟩:∃I:Nat→St→Prop,I=fun m s=>∃(k id:Nat),k≤l.length∧m=l.length-k∧(l.take k).all (kg d)=true∧1≤id∧s.t 1= .ref 0 0 0∧s.t 5= .sref id 0 k∧s.t 6=iv ((l.take k).countP bN)∧s.t 22=dt l∧s.t 23=iv l.length∧s.t 24=iv k∧s.H[0]?=some (some ⟨35,7,[[iv d.Account.Credit,cj d.Account.Subs,b9 d.Account.Entries,aT d.Queue.Waiting,e9 d.Queue.Known,bY d.Queue.Batches,dt l]]⟩)∧s.H[id]?=some (some ⟨3,1,ac aJ ((l.take k).map wrt)⟩):=⟨_,rfl⟩
 refine aF I (l.length) (by rw[hN];rfl) ?_ ?_
 ·rw[hI]
  exact⟨0,1,by omega,by omega,by simp,by omega,by simp -dsimp[-getElem?_pos,go_sem],by simp -dsimp[-getElem?_pos,go_sem],by simp -dsimp[-getElem?_pos,go_sem],by simp -dsimp[-getElem?_pos,go_sem],by simp -dsimp[-getElem?_pos,go_sem],by simp -dsimp[-getElem?_pos,go_sem],by simp -dsimp[-getElem?_pos,go_sem],by simp -dsimp[-getElem?_pos,go_sem,ac]⟩
 intro m s hs'
 rw[hI]at hs'
 obtain⟨k,id,hk,hm,hall,hid,t1,t5,t6,t22,t23,t24,h0,hH⟩:=hs'
 have lt0:=(gsI h0)
 have lti:=(gsI hH)
 have lc:=List.countP_le_length (p:=bN) (l:=l.take k)
 rw[List.length_take]at lc
 have lws:(ac aJ ((l.take k).map wrt)).length=k:=by rw[af,List.length_map,List.length_take];omega
 simp -dsimp -implicitDefEqProofs [-getElem?_pos,go_sem,hP,t23,t24]
 refine aH (fun hh=>?_) (fun hh=>?_)
 ·have hk:k<l.length:=by simpa using hh
  obtain⟨x,hx⟩:∃x,l[k]?=some x:=⟨_,List.getElem?_eq_getElem hk⟩
  have wk:=ah ((k:Int)+1) (by omega)
  have ix:=mI x
  have rx:=rt x
  rw[cIt]at ix rx
  have g0:∀y:Option AObj,(s.H++[y])[0]?=some (some ⟨35,7,[[iv d.Account.Credit,cj d.Account.Subs,b9 d.Account.Entries,aT d.Queue.Waiting,e9 d.Queue.Known,bY d.Queue.Batches,dt l]]⟩):=fun y=>by rw[List.getElem?_append_left lt0];exact h0
  have gi:∀y:Option AObj,(s.H++[y])[id]?=some (some ⟨3,1,ac aJ ((l.take k).map wrt)⟩):=fun y=>by rw[List.getElem?_append_left lti];exact hH
  have ec:(l.take (k+1)).countP bN=(l.take k).countP bN+if bN x=true then 1 else 0:=by rw[gQ hx,List.countP_append,List.countP_cons,List.countP_nil,Nat.zero_add]
  have ea:(l.take (k+1)).all (kg d)=kg d x:=by rw[gQ hx,List.all_append,hall];simp
  have ew:ac aJ ((l.take (k+1)).map wrt)=ac aJ ((l.take k).map wrt)++[[iv x.Payment.Warrant]]:=by rw[yc hx];exact (cJ aJ _ _).symm
  generalize (l.take k).countP bN=cq at ec t6 lc
  generalize ac aJ ((l.take k).map wrt)=ws at ew hH gi lws
  have wq:=ah ((cq:Int)+1) (by omega)
  simp -dsimp -implicitDefEqProofs [-getElem?_pos,go_sem,hP,t22,t24,hx,cIt,t1,g0,lt0,h0]
  refine ak (rx.lift _ _) hP Qe (by simpa using⟨id',ix⟩) .sc ?_
  have n0:¬id=0:=by omega
  cases hrx:kg d x
  ·have:R=68:=by
    rw[hRl,if_neg]
    rw[Bool.and_eq_true]
    rintro⟨h1,_⟩
    have:=List.all_eq_true.1 h1 x (List.mem_of_getElem? hx)
    rw[hrx]at this
    cases this
   simp -dsimp -implicitDefEqProofs [-getElem?_pos,go_sem,hP,this]
  rw[hrx]at ea
  have fin:∀s':St,s'.t 1= .ref 0 0 0→s'.t 5= .sref (s.H.length+1) 0 (k+1)→s'.t 6=iv ((l.take (k+1)).countP bN)→s'.t 22=dt l→s'.t 23=iv l.length→s'.t 24=iv (k+1)→s'.H[0]?=some (some ⟨35,7,[[iv d.Account.Credit,cj d.Account.Subs,b9 d.Account.Entries,aT d.Queue.Waiting,e9 d.Queue.Known,bY d.Queue.Batches,dt l]]⟩)→s'.H[s.H.length+1]?=some (some ⟨3,1,ws++[[iv x.Payment.Warrant]]⟩)→∃m',m'<m∧I m' s':=fun s' a1 a2 a3 a4 a5 a6 a7 a8=>by
   refine⟨l.length-(k+1),by omega,?_⟩
   rw[hI]
   exact⟨k+1,s.H.length+1,by omega,rfl,ea,by omega,a1,a2,a3,a4,a5,a6,a7,by rw[ew];exact a8⟩
  by_cases hs:x.State=1
  ·rw[show bN x=true by simp[bN,hs],if_pos rfl]at ec
   simp -dsimp -implicitDefEqProofs [-getElem?_pos,go_sem,hP,hs,t6,wq,t5,gi,hH,lti,lws,t24,wk]
   refine⟨by omega,by omega,?_⟩
   exact fin _ (by simp -dsimp[-getElem?_pos,go_sem,t1]) (by simp -dsimp[-getElem?_pos,go_sem]) (by simp -dsimp[-getElem?_pos,go_sem,ec]) (by simp -dsimp[-getElem?_pos,go_sem,t22]) (by simp -dsimp[-getElem?_pos,go_sem,t23]) (by simp -dsimp[-getElem?_pos,go_sem]) (by simp -dsimp[-getElem?_pos,go_sem,lt0,h0,n0]) (by simp -dsimp[-getElem?_pos,go_sem])
  ·rw[show bN x=false by simp[bN,hs],if_neg (by simp)]at ec
   have ds:=decide_eq_false hs
   simp -dsimp -implicitDefEqProofs [-getElem?_pos,go_sem,hP,hs,ds,t5,gi,hH,lti,lws,t24,wk]
   refine⟨by omega,by omega,?_⟩
   exact fin _ (by simp -dsimp[-getElem?_pos,go_sem,t1]) (by simp -dsimp[-getElem?_pos,go_sem]) (by simp -dsimp[-getElem?_pos,go_sem,t6,ec]) (by simp -dsimp[-getElem?_pos,go_sem,t22]) (by simp -dsimp[-getElem?_pos,go_sem,t23]) (by simp -dsimp[-getElem?_pos,go_sem]) (by simp -dsimp[-getElem?_pos,go_sem,lt0,h0,n0]) (by simp -dsimp[-getElem?_pos,go_sem])
 ·have hk:k=l.length:=by simp at hh;omega
  subst hk
  rw[List.take_length]at t6 hall hH
  rw[hall,Bool.true_and]at hRl
  have eq:=Ba (l.map wrt) d.Queue.Known (by rw[List.length_map];omega) (by omega)
  simp -dsimp -implicitDefEqProofs [-getElem?_pos,go_sem,hP,t5,t1,h0,lt0]
  refine aj eq hP QD (iY hH (by rw[af,List.length_map]) (dG _) (bI (dG _) (cH.2 trivial))) .sc ?_
  by_cases c3:l.map wrt=d.Queue.Known
  rotate_left
  ·have d3:=decide_eq_false c3
   rw[d3,Bool.false_and]at hRl
   simp -dsimp -implicitDefEqProofs [-getElem?_pos,go_sem,hP,d3,hRl]
  have d3:=decide_eq_true c3
  rw[d3,Bool.true_and]at hRl
  by_cases c4:l.countP bN=d.Queue.Waiting.length
  ·have d4:decide ((l.countP bN:Int)=(d.Queue.Waiting.length:Int))=true:=decide_eq_true (by omega)
   rw[decide_eq_true c4]at hRl
   simp -dsimp -implicitDefEqProofs [-getElem?_pos,go_sem,hP,d3,t1,h0,lt0,t6,d4,hRl]
  ·have d4:decide ((l.countP bN:Int)=(d.Queue.Waiting.length:Int))=false:=decide_eq_false (by omega)
   rw[decide_eq_false c4]at hRl
   simp -dsimp -implicitDefEqProofs [-getElem?_pos,go_sem,hP,d3,t1,h0,lt0,t6,d4,hRl]
end Go.Proofs.YtmmpcldnpflchaaGreatDoor
