/- Several texts of this claim, joined: BatLib Bat2 Bat3 Bat4 Bat5 Bat6 Bat7 Bat8 Bat9 PaFrz Bat10 Bat11 Bat12 Bat13 Bat14 Bat15 Bat16 PaPf Rec2 Rec3 Rec4. -/
import Derived.Test.YtaenimpfelpafaaGreatDoorPk4
set_option linter.unusedSimpArgs false
set_option linter.unusedVariables false
namespace Go.Proofs.YtaenimpfelpafaaGreatDoor
open Go.PA
open Go.RowKit
theorem indexInt_pf (l:List Int) (v:Int) (hl:l.length≤1000000):PFun Tryz.prog none none 256 [intsL l,iv v] (·=iv (idxI (fun x=>decide (v=x)) l)):=by
 refine pfun_intro Tryz.func256 rfl (by simp[Tryz.f256]) (by kernel_rfl) ?_
 intro E hP hr hs hW hN
 simp -dsimp -implicitDefEqProofs [-getElem?_pos,go_sem,hP,intsL]
 obtain⟨I,hI⟩:∃I:Nat→St→Prop,I=fun m s=>∃k:Nat,k≤l.length∧m=l.length-k∧idxI (fun x=>decide (v=x)) l=idxFrom (fun x=>decide (v=x)) k (l.drop k)∧s.t 0=intsL l∧s.t 1=iv v∧s.t 7=iv l.length∧s.t 8=iv k:=⟨_,rfl⟩
 refine aloop0 I (l.length) (by rw[hN];rfl) ?_ ?_
 ·rw[hI]
  exact⟨0,by omega,by omega,by simp[idxI],by simp -dsimp[-getElem?_pos,go_sem,intsL],by simp -dsimp[-getElem?_pos,go_sem],by simp -dsimp[-getElem?_pos,go_sem],by simp -dsimp[-getElem?_pos,go_sem]⟩
 intro m s hs'
 rw[hI]at hs'
 obtain⟨k,hk,hm,hi,t0,t1,t7,t8⟩:=hs'
 simp -dsimp -implicitDefEqProofs [-getElem?_pos,go_sem,hP,t7,t8]
 refine condP (fun h=>?_) (fun h=>?_)
 ·have hk:k<l.length:=by simpa using h
  obtain⟨a,ha⟩:∃a,l[k]?=some a:=⟨_,List.getElem?_eq_getElem hk⟩
  have wk:=wrap_in ((k:Int)+1) (by omega)
  have hd:l.drop k=a::l.drop (k+1):=by
   rw[List.getElem?_eq_getElem hk]at ha
   rw[List.drop_eq_getElem_cons hk,Option.some.inj ha]
  rw[hd]at hi
  simp only[idxFrom]at hi
  simp -dsimp -implicitDefEqProofs [-getElem?_pos,go_sem,hP,t8,t1,t0,ha,intsL]
  by_cases hp:v=a
  ·rw[if_pos (by simpa using hp)]at hi
   simp -dsimp -implicitDefEqProofs [-getElem?_pos,go_sem,hP,hp]
   rw[hp]at hi
   exact hi.symm
  ·rw[if_neg (by simpa using hp)]at hi
   simp -dsimp -implicitDefEqProofs [-getElem?_pos,go_sem,hP,t8,wk,hp]
   refine⟨l.length-(k+1),by omega,?_⟩
   rw[hI]
   exact⟨k+1,by omega,rfl,hi,by simp -dsimp[-getElem?_pos,go_sem,t0],by simp -dsimp[-getElem?_pos,go_sem,t1],by simp -dsimp[-getElem?_pos,go_sem,t7],by simp -dsimp[-getElem?_pos,go_sem]⟩
 ·have hk:k=l.length:=by simp at h;omega
  subst hk
  rw[List.drop_length]at hi
  simp -dsimp -implicitDefEqProofs [-getElem?_pos,go_sem,hP]
  exact hi.symm
theorem imm_ints (l:List Int):Imm (intsL l):=by simp[go_sem,intsL]
theorem containsInt_pf (l:List Int) (v:Int) (hl:l.length≤1000000):PFun Tryz.prog none none 187 [intsL l,iv v] (·=bv (decide (v∈l))):=by
 refine pfun_intro Tryz.func187 rfl (by simp[Tryz.f187]) (by kernel_rfl) ?_
 intro E hP hr hs hW hN
 simp -dsimp -implicitDefEqProofs [-getElem?_pos,go_sem,hP]
 refine callB_is ((indexInt_pf l v hl).lift _ _) hP en_256 (by simp[imm_ints,imm_sc]) .sc ?_
 rcases idxI_spec (fun x=>decide (v=x)) l with⟨h1,h2⟩|⟨i,a,h1,h2,h3,_⟩
 ·have:decide (v∈l)=false:=decide_eq_false fun hv=>by simpa using h2 v hv
  simp -dsimp -implicitDefEqProofs [-getElem?_pos,go_sem,hP,h1,this]
 ·have d:decide ((0:Int)≤(i:Int))=true:=decide_eq_true (by omega)
  have hva:v=a:=by simpa using h2
  have:decide (v∈l)=true:=decide_eq_true (hva▸List.mem_of_getElem? h1)
  simp -dsimp -implicitDefEqProofs [-getElem?_pos,go_sem,hP,h3,d,this]
theorem snan_pf (x:Int):PFun Tryz.prog none none 244 [iv x] (·=bv false):=by
 refine pfun_intro Tryz.func244 rfl (by simp[Tryz.f244]) (by kernel_rfl) ?_
 intro E hP hr hs hW hN
 simp -dsimp -implicitDefEqProofs [-getElem?_pos,go_sem,hP]
theorem less_pf (x y:Int):PFun Tryz.prog none none 243 [iv x,iv y] (·=bv (decide (x<y))):=by
 refine pfun_intro Tryz.func243 rfl (by simp[Tryz.f243]) (by kernel_rfl) ?_
 intro E hP hr hs hW hN
 simp -dsimp -implicitDefEqProofs [-getElem?_pos,go_sem,hP]
 refine callB_pure (isNaN_pf x) hP en_103 (args_same (by simp -dsimp[-getElem?_pos,go_sem])) .sc ?_
 simp -dsimp -implicitDefEqProofs [-getElem?_pos,go_sem,hP]
set_option maxHeartbeats 1000000 in
theorem bsearch_pf (l:List Int) (v:Int) (k:Nat) (hl:l.length≤1000000) (hk:k≤l.length) (hm:∀h x,l[h]?=some x→(x<v↔h<k)):PFun Tryz.prog none none 170 [intsL l,iv v] (·= .tup [iv k,bv (decide (l[k]?=some v))]):=by
 refine pfun_intro Tryz.func170 rfl (by simp[Tryz.f170]) (by kernel_rfl) ?_
 intro E hP hr hs hW hN
 simp -dsimp -implicitDefEqProofs [-getElem?_pos,go_sem,hP,intsL]
 obtain⟨I,hI⟩:∃I:Nat→St→Prop,I=fun m s=>∃i j:Nat,i≤k∧k≤j∧j≤l.length∧m=j-i∧s.t 0=intsL l∧s.t 1=iv v∧s.t 6=iv l.length∧s.t 7=iv i∧s.t 8=iv j:=⟨_,rfl⟩
 refine aloop0 I (l.length) (by rw[hN];rfl) ?_ ?_
 ·rw[hI]
  exact⟨0,l.length,by omega,hk,by omega,rfl,by simp -dsimp[-getElem?_pos,go_sem,intsL],by simp -dsimp[-getElem?_pos,go_sem],by simp -dsimp[-getElem?_pos,go_sem],by simp -dsimp[-getElem?_pos,go_sem],by simp -dsimp[-getElem?_pos,go_sem]⟩
 intro m s hs'
 rw[hI]at hs'
 obtain⟨i,j,hi,hj,hjl,hm',t0,t1,t6,t7,t8⟩:=hs'
 simp -dsimp -implicitDefEqProofs [-getElem?_pos,go_sem,hP,t7,t8]
 refine condP (fun h=>?_) (fun h=>?_)
 ·have hij:i<j:=by simpa using h
  have w1:=wrap_in ((i:Int)+j) (by omega)
  have wu:IntKind.u64.wrap ((i:Int)+j)=(i:Int)+j:=by rw[IntKind.wrap_u64];omega
  obtain⟨h,hh⟩:∃h,h=(i+j) / 2:=⟨_,rfl⟩
  have wh:IntKind.i64.wrap (((i:Int)+j) / 2)=(h:Int):=by rw[wrap_in _ (by omega)];omega
  obtain⟨a,ha⟩:∃a,l[h]?=some a:=⟨_,List.getElem?_eq_getElem (by omega)⟩
  have hcmp:=hm h a ha
  have w2:=wrap_in ((h:Int)+1) (by omega)
  simp -dsimp -implicitDefEqProofs [-getElem?_pos,go_sem,hP,t7,t8,w1,wu,aconv,aint_shr,wh,t0,t1,intsL,ha]
  refine callB_pure (less_pf a v) hP en_243 (args_same (by simp -dsimp[-getElem?_pos,go_sem])) .sc ?_
  by_cases c:a<v
  ·simp -dsimp -implicitDefEqProofs [-getElem?_pos,go_sem,hP,c,w2]
   refine⟨j-(h+1),by omega,?_⟩
   rw[hI]
   exact⟨h+1,j,by have:=hcmp.1 c;omega,by omega,by omega,rfl,by simp -dsimp[-getElem?_pos,go_sem,t0],by simp -dsimp[-getElem?_pos,go_sem,t1],by simp -dsimp[-getElem?_pos,go_sem,t6],by simp -dsimp[-getElem?_pos,go_sem],by simp -dsimp[-getElem?_pos,go_sem,t8]⟩
  ·have d:decide (a<v)=false:=decide_eq_false c
   simp -dsimp -implicitDefEqProofs [-getElem?_pos,go_sem,hP,d]
   refine⟨h-i,by omega,?_⟩
   rw[hI]
   exact⟨i,h,by omega,by have:=mt hcmp.2 c;omega,by omega,rfl,by simp -dsimp[-getElem?_pos,go_sem,t0],by simp -dsimp[-getElem?_pos,go_sem,t1],by simp -dsimp[-getElem?_pos,go_sem,t6],by simp -dsimp[-getElem?_pos,go_sem,t7],by simp -dsimp[-getElem?_pos,go_sem]⟩
 ·have hik:i=k:=by
   have:¬i<j:=by simpa using h
   omega
  subst hik
  by_cases c:i<l.length
  ·obtain⟨a,ha⟩:∃a,l[i]?=some a:=⟨_,List.getElem?_eq_getElem c⟩
   have d:decide ((i:Int)<(l.length:Int))=true:=decide_eq_true (by omega)
   by_cases e:a=v
   ·simp -dsimp -implicitDefEqProofs [-getElem?_pos,go_sem,hP,t7,t6,c,d,t0,t1,intsL,ha,e]
    exact done_imm (imm_pair .sc .sc) (by simp[ha,e])
   ·have e':decide (a=v)=false:=decide_eq_false e
    simp -dsimp -implicitDefEqProofs [-getElem?_pos,go_sem,hP,t7,t6,c,d,t0,t1,intsL,ha,e,e']
    refine callB_pure (snan_pf a) hP en_244 (args_same (by simp -dsimp[-getElem?_pos,go_sem])) .sc ?_
    simp -dsimp -implicitDefEqProofs [-getElem?_pos,go_sem,hP,t7,t6,c,d,t0,t1,intsL,ha,e,e']
    exact done_imm (imm_pair .sc .sc) (by simp[ha,e])
  ·have d:decide ((i:Int)<(l.length:Int))=false:=decide_eq_false (by omega)
   have n:l[i]?=none:=List.getElem?_eq_none (by omega)
   simp -dsimp -implicitDefEqProofs [-getElem?_pos,go_sem,hP,t7,t6,c,d,n]
   exact done_imm (imm_pair .sc .sc) (by simp[n])
open Go.PA
open Go.RowKit
theorem prev_at {α β:Type} {f:α→β} {l:List α} {k:Nat} {p:α} (hp:l[k]?=some p):∀j x,k+1=j+1→l[j]?=some x→f p=f x:=fun j x hj hx=>by
 cases (show k=j by omega)
 rw[hp]at hx
 cases hx
 rfl
theorem bamong_pf (n lo hi:Int):PFun Tryz.prog none none 245 [iv n,iv lo,iv hi] (·=bv (amg n lo hi)):=by
 refine pfun_intro Tryz.func245 rfl (by simp[Tryz.f245]) (by kernel_rfl) ?_
 intro E hP hr hs hW hN
 by_cases h1:lo≤n<;>by_cases h2:n≤hi<;>simp -dsimp -implicitDefEqProofs [-getElem?_pos,go_sem,hP,h1,h2,amg]
theorem bpay_pf (p:TPayment):PFun Tryz.prog none none 171 [.agg p.cells] (·=bv (payPB p)):=by
 refine pfun_intro Tryz.func171 rfl (by simp[Tryz.f171]) (by kernel_rfl) ?_
 intro E hP hr hs hW hN
 simp -dsimp -implicitDefEqProofs [-getElem?_pos,go_sem,hP,cPy]
 refine callB_pure (bamong_pf p.Warrant 1 1000000) hP en_245 (args_same (by simp -dsimp[-getElem?_pos,go_sem])) .sc ?_
 cases h1:amg p.Warrant 1 1000000
 ·simp -dsimp -implicitDefEqProofs [-getElem?_pos,go_sem,hP,payPB,h1]
 simp -dsimp -implicitDefEqProofs [-getElem?_pos,go_sem,hP]
 refine callB_pure (bamong_pf p.Payee 1 1000000) hP en_245 (args_same (by simp -dsimp[-getElem?_pos,go_sem])) .sc ?_
 cases h2:amg p.Payee 1 1000000
 ·simp -dsimp -implicitDefEqProofs [-getElem?_pos,go_sem,hP,payPB,h1,h2]
 simp -dsimp -implicitDefEqProofs [-getElem?_pos,go_sem,hP]
 refine callB_pure (bamong_pf p.Amount 1 1000000000000) hP en_245 (args_same (by simp -dsimp[-getElem?_pos,go_sem])) .sc ?_
 cases h3:amg p.Amount 1 1000000000000
 ·simp -dsimp -implicitDefEqProofs [-getElem?_pos,go_sem,hP,payPB,h1,h2,h3]
 simp -dsimp -implicitDefEqProofs [-getElem?_pos,go_sem,hP]
 refine callB_pure (bamong_pf p.Due 0 35990) hP en_245 (args_same (by simp -dsimp[-getElem?_pos,go_sem])) .sc ?_
 cases h4:amg p.Due 0 35990
 ·simp -dsimp -implicitDefEqProofs [-getElem?_pos,go_sem,hP,payPB,h1,h2,h3,h4]
 simp -dsimp -implicitDefEqProofs [-getElem?_pos,go_sem,hP]
 refine callB_pure (bamong_pf p.Sub 1 1000) hP en_245 (args_same (by simp -dsimp[-getElem?_pos,go_sem])) .sc ?_
 simp -dsimp -implicitDefEqProofs [-getElem?_pos,go_sem,hP,payPB,h1,h2,h3,h4]
def cmpP (a b:TPayment):Int:=orI [cmpI a.Due b.Due,cmpI a.Warrant b.Warrant]
theorem cmpP_lt {a b:TPayment}:cmpP a b<0↔Bef a b:=by
 simp only[cmpP,orI,cmpI,Bef]
 repeat' split
 all_goals omega
theorem cmpP_ge {a b:TPayment} (h:¬Bef a b):0≤cmpP a b:=by
 have:=mt cmpP_lt.1 h
 omega
theorem bcompare_pf (a b:TPayment):PFun Tryz.prog none none 247 [.agg a.cells,.agg b.cells] (·=iv (cmpP a b)):=by
 refine pfun_intro Tryz.func247 rfl (by simp[Tryz.f247]) (by kernel_rfl) ?_
 intro E hP hr hs hW hN
 simp -dsimp -implicitDefEqProofs [-getElem?_pos,go_sem,hP,cPy]
 refine adrawB (fun _=>true) [] hP (by kernel_rfl) (by kernel_rfl) ?_
 simp -dsimp -implicitDefEqProofs [-getElem?_pos,go_sem,hP]
 refine callB_pure (compare_pf a.Due b.Due) hP en_55 (args_same (by simp -dsimp[-getElem?_pos,go_sem])) .sc ?_
 simp -dsimp -implicitDefEqProofs [-getElem?_pos,go_sem,hP]
 refine callB_pure (compare_pf a.Warrant b.Warrant) hP en_55 (args_same (by simp -dsimp[-getElem?_pos,go_sem])) .sc ?_
 simp -dsimp -implicitDefEqProofs [-getElem?_pos,go_sem,hP]
 refine callB_pure (or_pf [cmpI a.Due b.Due,cmpI a.Warrant b.Warrant] (by simp)) hP en_287 (args_same (by simp -dsimp[-getElem?_pos,go_sem])) .sc ?_
 simp -dsimp -implicitDefEqProofs [-getElem?_pos,go_sem,hP,cmpP]
theorem bordered_pf (l:List TPayment) (hl:l.length≤1000000):PFun Tryz.prog none none 195 [paysL l] (·=bv (ordFrom none l)):=by
 refine pfun_intro Tryz.func195 rfl (by simp[Tryz.f195]) (by kernel_rfl) ?_
 intro E hP hr hs hW hN
 obtain⟨R,hR⟩:∃R,R=ordFrom none l:=⟨_,rfl⟩
 rw[←hR]
 simp -dsimp -implicitDefEqProofs [-getElem?_pos,go_sem,hP]
 obtain⟨I,hI⟩:∃I:Nat→St→Prop,I=fun m s=>∃(k:Nat) (o:Option TPayment),k≤l.length∧m=l.length-k∧R=ordFrom o (l.drop k)∧(k=0→o=none)∧(∀j x,k=j+1→l[j]?=some x→o=some x)∧s.t 0=paysL l∧s.t 5=paysL l∧s.t 6=iv l.length∧s.t 7=iv k:=⟨_,rfl⟩
 refine aloop0 I (l.length) (by rw[hN];rfl) ?_ ?_
 ·rw[hI]
  exact⟨0,none,by omega,by omega,by rw[hR];rfl,by simp,by omega,by simp -dsimp[-getElem?_pos,go_sem],by simp -dsimp[-getElem?_pos,go_sem],by simp -dsimp[-getElem?_pos,go_sem],by simp -dsimp[-getElem?_pos,go_sem]⟩
 intro m s hs'
 rw[hI]at hs'
 obtain⟨k,o,hk,hm,hq,ho0,ho1,t0,t5,t6,t7⟩:=hs'
 simp -dsimp -implicitDefEqProofs [-getElem?_pos,go_sem,hP,t6,t7]
 refine condP (fun h=>?_) (fun h=>?_)
 ·have hk:k<l.length:=by simpa using h
  obtain⟨p,hp⟩:∃p,l[k]?=some p:=⟨_,List.getElem?_eq_getElem hk⟩
  have wk:=wrap_in ((k:Int)+1) (by omega)
  have ip:=imm_pay p
  have py:=bpay_pf p
  rw[cPy]at py ip
  rw[drop_at hp,ordFrom]at hq
  simp -dsimp -implicitDefEqProofs [-getElem?_pos,go_sem,hP,t5,t7,hp,cPy]
  refine adrawB (fun _=>true) [] hP (by kernel_rfl) (by kernel_rfl) ?_
  simp -dsimp -implicitDefEqProofs [-getElem?_pos,go_sem,hP]
  refine callB_is (py.lift _ _) hP en_171 (by simpa using ip) .sc ?_
  cases h1:payPB p
  ·rw[h1,Bool.false_and]at hq
   simp -dsimp -implicitDefEqProofs [-getElem?_pos,go_sem,hP,h1,hq]
  rw[h1,Bool.true_and]at hq
  rcases Nat.eq_zero_or_pos k with k0|k0
  ·rw[ho0 k0,allO,Bool.true_and]at hq
   have k0':¬0<k:=by omega
   have hjk:decide ((0:Int)<(k:Int))=false:=decide_eq_false (by omega)
   simp -dsimp -implicitDefEqProofs [-getElem?_pos,go_sem,hP,h1,t7,k0',hjk,wk]
   refine⟨l.length-(k+1),by omega,?_⟩
   rw[hI]
   exact⟨k+1,some p,by omega,rfl,hq,by omega,prev_at (f:=some) hp,by simp -dsimp[-getElem?_pos,go_sem,t0],by simp -dsimp[-getElem?_pos,go_sem,t5],by simp -dsimp[-getElem?_pos,go_sem,t6],by simp -dsimp[-getElem?_pos,go_sem]⟩
  ·obtain⟨j,hj⟩:∃j,k=j+1:=⟨k-1,by omega⟩
   obtain⟨x,hx⟩:∃x,l[j]?=some x:=⟨_,List.getElem?_eq_getElem (by omega)⟩
   have hox:=ho1 j x hj hx
   have hjk:decide ((0:Int)<(k:Int))=true:=decide_eq_true (by omega)
   have wj:IntKind.i64.wrap ((k:Int)-1)=(j:Int):=by rw[wrap_in _ (by omega)];omega
   have cm:=bcompare_pf x p
   have ix:=imm_pay x
   rw[cPy,cPy]at cm
   rw[cPy]at ix
   rw[hox,allO]at hq
   simp -dsimp -implicitDefEqProofs [-getElem?_pos,go_sem,hP,h1,t7,k0,hjk,wj,t0,hx,cPy]
   refine callB_is (cm.lift _ _) hP en_247 (by simpa using⟨ix,ip⟩) .sc ?_
   by_cases c:Bef x p
   ·have c1:=cmpP_lt.2 c
    have d1:decide (0≤cmpP x p)=false:=decide_eq_false (by omega)
    rw[befB_iff.2 c,Bool.true_and]at hq
    simp -dsimp -implicitDefEqProofs [-getElem?_pos,go_sem,hP,h1,t7,k0,hjk,wj,t0,hx,cPy,d1,wk]
    refine⟨l.length-(k+1),by omega,?_⟩
    rw[hI]
    exact⟨k+1,some p,by omega,rfl,hq,by omega,prev_at (f:=some) hp,by simp -dsimp[-getElem?_pos,go_sem,t0],by simp -dsimp[-getElem?_pos,go_sem,t5],by simp -dsimp[-getElem?_pos,go_sem,t6],by simp -dsimp[-getElem?_pos,go_sem]⟩
   ·have c1:=cmpP_ge c
    have d1:decide (0≤cmpP x p)=true:=decide_eq_true c1
    have cb:befB x p=false:=by simpa[befB]using c
    rw[cb,Bool.false_and]at hq
    simp -dsimp -implicitDefEqProofs [-getElem?_pos,go_sem,hP,h1,t7,k0,hjk,wj,t0,hx,cPy,d1,hq]
 ·have hk:k=l.length:=by simp at h;omega
  subst hk
  rw[List.drop_length,ordFrom]at hq
  simp -dsimp -implicitDefEqProofs [-getElem?_pos,go_sem,hP,hq]
theorem bknown_pf (l:List Int) (hl:l.length≤1000000):PFun Tryz.prog none none 196 [intsL l] (·=bv (knFrom none l)):=by
 refine pfun_intro Tryz.func196 rfl (by simp[Tryz.f196]) (by kernel_rfl) ?_
 intro E hP hr hs hW hN
 obtain⟨R,hR⟩:∃R,R=knFrom none l:=⟨_,rfl⟩
 rw[←hR]
 simp -dsimp -implicitDefEqProofs [-getElem?_pos,go_sem,hP,intsL]
 obtain⟨I,hI⟩:∃I:Nat→St→Prop,I=fun m s=>∃(k:Nat) (o:Option Int),k≤l.length∧m=l.length-k∧R=knFrom o (l.drop k)∧(k=0→o=none)∧(∀j x,k=j+1→l[j]?=some x→o=some x)∧s.t 0=intsL l∧s.t 5=intsL l∧s.t 6=iv l.length∧s.t 7=iv k:=⟨_,rfl⟩
 refine aloop0 I (l.length) (by rw[hN];rfl) ?_ ?_
 ·rw[hI]
  exact⟨0,none,by omega,by omega,by rw[hR];rfl,by simp,by omega,by simp -dsimp[-getElem?_pos,go_sem,intsL],by simp -dsimp[-getElem?_pos,go_sem,intsL],by simp -dsimp[-getElem?_pos,go_sem],by simp -dsimp[-getElem?_pos,go_sem]⟩
 intro m s hs'
 rw[hI]at hs'
 obtain⟨k,o,hk,hm,hq,ho0,ho1,t0,t5,t6,t7⟩:=hs'
 simp -dsimp -implicitDefEqProofs [-getElem?_pos,go_sem,hP,t6,t7]
 refine condP (fun h=>?_) (fun h=>?_)
 ·have hk:k<l.length:=by simpa using h
  obtain⟨p,hp⟩:∃p,l[k]?=some p:=⟨_,List.getElem?_eq_getElem hk⟩
  have wk:=wrap_in ((k:Int)+1) (by omega)
  rw[drop_at hp,knFrom]at hq
  simp -dsimp -implicitDefEqProofs [-getElem?_pos,go_sem,hP,t5,t7,intsL,hp]
  refine callB_pure (bamong_pf p 1 1000000) hP en_245 (args_same (by simp -dsimp[-getElem?_pos,go_sem])) .sc ?_
  cases h1:amg p 1 1000000
  ·rw[h1,Bool.false_and]at hq
   simp -dsimp -implicitDefEqProofs [-getElem?_pos,go_sem,hP,h1,hq]
  rw[h1,Bool.true_and]at hq
  rcases Nat.eq_zero_or_pos k with k0|k0
  ·rw[ho0 k0,allO,Bool.true_and]at hq
   have k0':¬0<k:=by omega
   have hjk:decide ((0:Int)<(k:Int))=false:=decide_eq_false (by omega)
   simp -dsimp -implicitDefEqProofs [-getElem?_pos,go_sem,hP,h1,t7,k0',hjk,wk]
   refine⟨l.length-(k+1),by omega,?_⟩
   rw[hI]
   exact⟨k+1,some p,by omega,rfl,hq,by omega,prev_at (f:=some) hp,by simp -dsimp[-getElem?_pos,go_sem,t0],by simp -dsimp[-getElem?_pos,go_sem,t5],by simp -dsimp[-getElem?_pos,go_sem,t6],by simp -dsimp[-getElem?_pos,go_sem]⟩
  ·obtain⟨j,hj⟩:∃j,k=j+1:=⟨k-1,by omega⟩
   obtain⟨x,hx⟩:∃x,l[j]?=some x:=⟨_,List.getElem?_eq_getElem (by omega)⟩
   have hox:=ho1 j x hj hx
   have hjk:decide ((0:Int)<(k:Int))=true:=decide_eq_true (by omega)
   have wj:IntKind.i64.wrap ((k:Int)-1)=(j:Int):=by rw[wrap_in _ (by omega)];omega
   rw[hox,allO]at hq
   by_cases c:x<p
   ·have d1:decide (p≤x)=false:=decide_eq_false (by omega)
    rw[decide_eq_true c,Bool.true_and]at hq
    simp -dsimp -implicitDefEqProofs [-getElem?_pos,go_sem,hP,h1,t7,k0,hjk,wj,t0,intsL,hx,d1,wk]
    refine⟨l.length-(k+1),by omega,?_⟩
    rw[hI]
    exact⟨k+1,some p,by omega,rfl,hq,by omega,prev_at (f:=some) hp,by simp -dsimp[-getElem?_pos,go_sem,t0],by simp -dsimp[-getElem?_pos,go_sem,t5],by simp -dsimp[-getElem?_pos,go_sem,t6],by simp -dsimp[-getElem?_pos,go_sem]⟩
   ·have d1:decide (p≤x)=true:=decide_eq_true (by omega)
    rw[decide_eq_false c,Bool.false_and]at hq
    simp -dsimp -implicitDefEqProofs [-getElem?_pos,go_sem,hP,h1,t7,k0,hjk,wj,t0,intsL,hx,d1,hq]
 ·have hk:k=l.length:=by simp at h;omega
  subst hk
  rw[List.drop_length,knFrom]at hq
  simp -dsimp -implicitDefEqProofs [-getElem?_pos,go_sem,hP,hq]
open Go.PA
open Go.RowKit
theorem strange1_pf (p:TPayment) (q:TQueue) (hl:q.Known.length≤1000000):PFun Tryz.prog none none 259 [.agg p.cells,.iref q.cells] (·=bv (!inK q.Known p)):=by
 refine pfun_intro Tryz.func259 rfl (by simp[Tryz.f259]) (by kernel_rfl) ?_
 intro E hP hr hs hW hN
 simp -dsimp -implicitDefEqProofs [-getElem?_pos,go_sem,hP,cPy,cQu]
 refine callB_is ((containsInt_pf q.Known p.Warrant hl).lift _ _) hP en_187 (by simp[imm_ints,imm_sc]) .sc ?_
 simp -dsimp -implicitDefEqProofs [-getElem?_pos,go_sem,hP,inK]
theorem bstrange_pf (q:TQueue) (l:List TPayment) (hq:q.Known.length≤1000000) (hl:l.length≤1000000):PFun Tryz.prog none none 197 [.agg q.cells,paysL l] (·=bv (!l.all (inK q.Known))):=by
 refine pfun_intro Tryz.func197 rfl (by simp[Tryz.f197]) (by kernel_rfl) ?_
 intro E hP hr hs hW hN
 have iq:=q.imm
 have ip:=imm_pays l
 simp -dsimp -implicitDefEqProofs [-getElem?_pos,go_sem,hP,cQu,intsL]
 refine callB_pure (contains_pf_pay l 259 [.iref q.cells] (fun p=>!inK q.Known p) hl en_259 (by simp[imm_iref];exact q.imm) fun p _=>strange1_pf p q hq) hP en_258 (args_imm ip (args_fnc (cs:=[.ref 0 0 0]) (by simp -dsimp[-getElem?_pos,go_sem,viewR_ref,cQu,intsL]) (by simp[imm_iref];exact q.imm) (args_nil.2 trivial))) .sc ?_
 have e:l.any (fun p=>!inK q.Known p)=!l.all (inK q.Known):=by rw[List.not_all_eq_any_not]
 simp -dsimp -implicitDefEqProofs [-getElem?_pos,go_sem,hP,e]
theorem waits1_pf (p:TPayment) (w:Int):PFun Tryz.prog none none 257 [.agg p.cells,.iref [iv w]] (·=bv (decide (p.Warrant=w))):=by
 refine pfun_intro Tryz.func257 rfl (by simp[Tryz.f257]) (by kernel_rfl) ?_
 intro E hP hr hs hW hN
 simp -dsimp -implicitDefEqProofs [-getElem?_pos,go_sem,hP,cPy]
theorem bwaits_pf (q:TQueue) (w:Int) (hl:q.Waiting.length≤1000000):PFun Tryz.prog none none 189 [.agg q.cells,iv w] (·=iv (waitQ q w)):=by
 refine pfun_intro Tryz.func189 rfl (by simp[Tryz.f189]) (by kernel_rfl) ?_
 intro E hP hr hs hW hN
 have ip:=imm_pays q.Waiting
 simp -dsimp -implicitDefEqProofs [-getElem?_pos,go_sem,hP,cQu,intsL]
 refine callB_pure (index_pf_pay q.Waiting 257 [.iref [iv w]] (fun p=>decide (p.Warrant=w)) hl en_257 (by simp[imm_iref,imm_sc]) fun p _=>waits1_pf p w) hP en_252 (args_imm ip (args_fnc (cs:=[.ref 1 0 0]) (by simp -dsimp[-getElem?_pos,go_sem,viewR_ref]) (by simp[imm_iref,imm_sc]) (args_nil.2 trivial))) .sc ?_
 simp -dsimp -implicitDefEqProofs [-getElem?_pos,go_sem,hP,waitQ]
theorem getM_put {β:Type} (l:List (Int×β)) (k a:Int) (v:β):getM (putM l k v) a=if a=k then some v else getM l a:=by
 induction l with
 |nil=>
  simp only[putM,getM]
  by_cases h:a=k
  ·subst h;simp
  ·rw[if_neg (fun e=>h e.symm),if_neg h]
 |cons e l ih=>
  simp only[putM]
  by_cases h:e.1=k
  ·rw[if_pos h]
   simp only[getM]
   by_cases h':a=k
   ·subst h';simp
   ·rw[if_neg (fun e=>h' e.symm),if_neg h',if_neg (fun e'=>h' (e'.symm.trans h))]
  ·rw[if_neg h]
   simp only[getM,ih]
   by_cases h':e.1=a
   ·rw[if_pos h',if_pos h',if_neg (fun e'=>h (h'.trans e'))]
   ·rw[if_neg h',if_neg h']
def seenM (l:List TPayment):List (Int×Bool):=l.foldl (fun m p=>putM m p.Warrant true) []
theorem seen_from (w:Int):∀(l:List TPayment) (m:List (Int×Bool)),(getM (l.foldl (fun m p=>putM m p.Warrant true) m) w).getD false=((getM m w).getD false||l.any fun x=>decide (x.Warrant=w))
 |[],m=>by simp
 |p::l,m=>by
  rw[List.foldl_cons,seen_from w l,getM_put,List.any_cons]
  by_cases h:w=p.Warrant
  ·simp[h]
  ·have h':¬p.Warrant=w:=fun e=>h e.symm
   simp[h,h']
theorem seen_get (l:List TPayment) (w:Int):(getM (seenM l) w).getD false=l.any fun x=>decide (x.Warrant=w):=by
 rw[seenM,seen_from]
 simp[getM]
theorem seen_snoc (l:List TPayment) (p:TPayment):putM (seenM l) p.Warrant true=seenM (l++[p]):=by
 rw[seenM,seenM,List.foldl_append]
 rfl
theorem btwice_pf (l:List TPayment) (hl:l.length≤1000000):PFun Tryz.prog none none 198 [paysL l] (·=bv (!distFrom [] l)):=by
 refine pfun_intro Tryz.func198 rfl (by simp[Tryz.f198]) (by kernel_rfl) ?_
 intro E hP hr hs hW hN
 obtain⟨R,hR⟩:∃R,R=distFrom [] l:=⟨_,rfl⟩
 rw[←hR]
 simp -dsimp -implicitDefEqProofs [-getElem?_pos,go_sem,hP]
 obtain⟨I,hI⟩:∃I:Nat→St→Prop,I=fun m s=>∃k:Nat,k≤l.length∧m=l.length-k∧R=distFrom (l.take k) (l.drop k)∧s.t 3= .mref 0∧s.t 7=paysL l∧s.t 8=iv l.length∧s.t 9=iv k∧s.H[0]?=some (some ⟨0,2,encK valB (seenM (l.take k))⟩):=⟨_,rfl⟩
 refine aloop0 I (l.length) (by rw[hN];rfl) ?_ ?_
 ·rw[hI]
  exact⟨0,by omega,by omega,by rw[hR];rfl,by simp -dsimp[-getElem?_pos,go_sem],by simp -dsimp[-getElem?_pos,go_sem],by simp -dsimp[-getElem?_pos,go_sem],by simp -dsimp[-getElem?_pos,go_sem],by simp -dsimp[-getElem?_pos,go_sem];rfl⟩
 intro m s hs'
 rw[hI]at hs'
 obtain⟨k,hk,hm,hq,t3,t7,t8,t9,hH⟩:=hs'
 have lt0:=(gsI hH)
 simp -dsimp -implicitDefEqProofs [-getElem?_pos,go_sem,hP,t8,t9]
 refine condP (fun h=>?_) (fun h=>?_)
 ·have hk:k<l.length:=by simpa using h
  obtain⟨p,hp⟩:∃p,l[k]?=some p:=⟨_,List.getElem?_eq_getElem hk⟩
  have wk:=wrap_in ((k:Int)+1) (by omega)
  rw[drop_at hp,distFrom]at hq
  have sg:=seen_get (l.take k) p.Warrant
  have ss:=seen_snoc (l.take k) p
  rw[←take_at hp]at ss hq
  generalize seenM (l.take k)=M at sg ss hH
  generalize (l.take k).any (fun x=>decide (x.Warrant=p.Warrant))=y at sg hq
  cases y
  ·rw[Bool.not_false,Bool.true_and]at hq
   simp -dsimp -implicitDefEqProofs [-getElem?_pos,go_sem,hP,t7,t9,hp,cPy,t3,lt0,hH,sg]
   simp -dsimp -implicitDefEqProofs [-getElem?_pos,go_sem,hP,t3,lt0,hH,wk,t9,ss]
   refine⟨l.length-(k+1),by omega,?_⟩
   rw[hI]
   exact⟨k+1,by omega,rfl,hq,by simp -dsimp[-getElem?_pos,go_sem,t3],by simp -dsimp[-getElem?_pos,go_sem,t7],by simp -dsimp[-getElem?_pos,go_sem,t8],by simp -dsimp[-getElem?_pos,go_sem],by simp -dsimp[-getElem?_pos,go_sem,lt0]⟩
  ·rw[Bool.not_true,Bool.false_and]at hq
   simp -dsimp -implicitDefEqProofs [-getElem?_pos,go_sem,hP,t7,t9,hp,cPy,t3,lt0,hH,sg,hq]
 ·have hk:k=l.length:=by simp at h;omega
  subst hk
  rw[List.drop_length,distFrom]at hq
  simp -dsimp -implicitDefEqProofs [-getElem?_pos,go_sem,hP,hq]
theorem cvalid_pf (d:Int):PFun Tryz.prog none none 182 [iv d] (·=bv (amg d 0 36000)):=by
 refine pfun_intro Tryz.func182 rfl (by simp[Tryz.f182]) (by kernel_rfl) ?_
 intro E hP hr hs hW hN
 by_cases h1:0≤d<;>by_cases h2:d≤36000<;>simp -dsimp -implicitDefEqProofs [-getElem?_pos,go_sem,hP,h1,h2,amg]
theorem cbusiness_pf (d:Int):PFun Tryz.prog none none 118 [iv d] (·=bv (busB d)):=by
 refine pfun_intro Tryz.func118 rfl (by simp[Tryz.f118]) (by kernel_rfl) ?_
 intro E hP hr hs hW hN
 simp -dsimp -implicitDefEqProofs [-getElem?_pos,go_sem,hP]
 refine callB_pure (cvalid_pf d) hP en_182 (args_same (by simp -dsimp[-getElem?_pos,go_sem])) .sc ?_
 cases h:amg d 0 36000
 ·simp -dsimp -implicitDefEqProofs [-getElem?_pos,go_sem,hP,h,busB]
 have hd:=amg_iff.1 h
 have e:d.tmod 7=d%7:=Int.tmod_eq_emod_of_nonneg (by omega)
 have w:=wrap_in (d%7) (by omega)
 simp -dsimp -implicitDefEqProofs [-getElem?_pos,go_sem,hP,h,busB,e,w]
open Go.PA
open Go.RowKit
set_option maxHeartbeats 1000000 in
theorem bsent_pf (q:TQueue) (hf:FitQ q):PFun Tryz.prog none none 199 [.agg q.cells] (·=bv (batsFrom q.Known 0 0 q.Batches)):=by
 refine pfun_intro Tryz.func199 rfl (by simp[Tryz.f199]) (by kernel_rfl) ?_
 intro E hP hr hs hW hN
 have iq:=imm_que q
 obtain⟨R,hR⟩:∃R,R=batsFrom q.Known 0 0 q.Batches:=⟨_,rfl⟩
 rw[←hR]
 have str:=bstrange_pf q
 rw[cQu]at iq str
 simp only[intsL]at iq str
 have hk9:=hf.k
 have hb9:=hf.b
 obtain⟨l,hl⟩:∃l,l=q.Batches:=⟨_,rfl⟩
 have each:∀b,b∈l→b.Payments.length≤100000:=hl▸hf.each
 rw[←hl]at hR hb9 str iq
 simp -dsimp -implicitDefEqProofs [-getElem?_pos,go_sem,hP,cQu,intsL,←hl]
 obtain⟨I,hI⟩:∃I:Nat→St→Prop,I=fun m s=>∃(k:Nat) (d:Int),k≤l.length∧m=l.length-k∧R=batsFrom q.Known k d (l.drop k)∧s.t 1= .ref 0 0 0∧s.t 3=iv d∧s.t 7=batsL l∧s.t 8=iv l.length∧s.t 9=iv k∧s.H[0]?=some (some ⟨32,3,[[paysL q.Waiting,.list 1 (q.Known.map fun x=>[iv x]),batsL l]]⟩):=⟨_,rfl⟩
 refine aloop0 I (l.length) (by rw[hN];rfl) ?_ ?_
 ·rw[hI]
  exact⟨0,0,by omega,by omega,by rw[hR];rfl,by simp -dsimp[-getElem?_pos,go_sem],by simp -dsimp[-getElem?_pos,go_sem],by simp -dsimp[-getElem?_pos,go_sem],by simp -dsimp[-getElem?_pos,go_sem],by simp -dsimp[-getElem?_pos,go_sem],by simp -dsimp[-getElem?_pos,go_sem]⟩
 intro m s hs'
 rw[hI]at hs'
 obtain⟨k,d,hk,hm,hq,t1,t3,t7,t8,t9,h0⟩:=hs'
 have lt0:=(gsI h0)
 simp -dsimp -implicitDefEqProofs [-getElem?_pos,go_sem,hP,t8,t9]
 refine condP (fun h=>?_) (fun h=>?_)
 ·have hk:k<l.length:=by simpa using h
  obtain⟨b,hb⟩:∃b,l[k]?=some b:=⟨_,List.getElem?_eq_getElem hk⟩
  have hbl:=each b (List.mem_of_getElem? hb)
  have wk:=wrap_in ((k:Int)+1) (by omega)
  have ip:=imm_pays b.Payments
  rw[drop_at hb,batsFrom,batB]at hq
  simp -dsimp -implicitDefEqProofs [-getElem?_pos,go_sem,hP,t7,t9,hb,cBt]
  by_cases c1:b.Number=(k:Int)+1
  rotate_left
  ·rw[decide_eq_false c1,Bool.false_and,Bool.false_and]at hq
   have d1:=decide_eq_false c1
   simp -dsimp -implicitDefEqProofs [-getElem?_pos,go_sem,hP,wk,c1,d1,hq]
  rw[decide_eq_true c1,Bool.true_and]at hq
  by_cases c2:d≤b.Day
  rotate_left
  ·rw[decide_eq_false c2,Bool.false_and,Bool.false_and]at hq
   have d2:decide (b.Day<d)=true:=decide_eq_true (by omega)
   simp -dsimp -implicitDefEqProofs [-getElem?_pos,go_sem,hP,wk,c1,t3,d2,hq]
  rw[decide_eq_true c2,Bool.true_and]at hq
  have d2:decide (b.Day<d)=false:=decide_eq_false (by omega)
  simp -dsimp -implicitDefEqProofs [-getElem?_pos,go_sem,hP,wk,c1,t3,d2]
  refine callB_pure (cbusiness_pf b.Day) hP en_118 (args_same (by simp -dsimp[-getElem?_pos,go_sem])) .sc ?_
  cases c3:busB b.Day
  ·rw[c3,Bool.false_and,Bool.false_and]at hq
   simp -dsimp -implicitDefEqProofs [-getElem?_pos,go_sem,hP,c3,hq]
  rw[c3,Bool.true_and]at hq
  simp -dsimp -implicitDefEqProofs [-getElem?_pos,go_sem,hP,c3]
  refine callB_pure (bamong_pf b.Payments.length 1 10) hP en_245 (args_same (by simp -dsimp[-getElem?_pos,go_sem])) .sc ?_
  cases c4:amg b.Payments.length 1 10
  ·rw[c4,Bool.false_and,Bool.false_and]at hq
   simp -dsimp -implicitDefEqProofs [-getElem?_pos,go_sem,hP,c4,hq]
  rw[c4,Bool.true_and,ascB]at hq
  simp -dsimp -implicitDefEqProofs [-getElem?_pos,go_sem,hP,c4]
  refine callB_is ((bordered_pf b.Payments (by omega)).lift _ _) hP en_195 (by simpa using ip) .sc ?_
  cases c5:ordFrom none b.Payments
  ·rw[c5,Bool.false_and,Bool.false_and]at hq
   simp -dsimp -implicitDefEqProofs [-getElem?_pos,go_sem,hP,c5,hq]
  rw[c5,Bool.true_and]at hq
  simp -dsimp -implicitDefEqProofs [-getElem?_pos,go_sem,hP,c5,t1,h0,lt0]
  refine callB_is ((str b.Payments (by omega) (by omega)).lift _ _) hP en_197 (by simpa using⟨iq,ip⟩) .sc ?_
  cases c6:b.Payments.all (inK q.Known)
  ·rw[c6,Bool.false_and,Bool.false_and]at hq
   simp -dsimp -implicitDefEqProofs [-getElem?_pos,go_sem,hP,c6,hq]
  rw[c6,Bool.true_and]at hq
  simp -dsimp -implicitDefEqProofs [-getElem?_pos,go_sem,hP,c6]
  refine callB_is ((btwice_pf b.Payments (by omega)).lift _ _) hP en_198 (by simpa using ip) .sc ?_
  cases c7:distFrom [] b.Payments
  ·rw[c7,Bool.false_and]at hq
   simp -dsimp -implicitDefEqProofs [-getElem?_pos,go_sem,hP,c7,hq]
  rw[c7,Bool.true_and]at hq
  simp -dsimp -implicitDefEqProofs [-getElem?_pos,go_sem,hP,c7,t9,wk]
  refine⟨l.length-(k+1),by omega,?_⟩
  rw[hI]
  exact⟨k+1,b.Day,by omega,rfl,hq,by simp -dsimp[-getElem?_pos,go_sem,t1],by simp -dsimp[-getElem?_pos,go_sem],by simp -dsimp[-getElem?_pos,go_sem,t7],by simp -dsimp[-getElem?_pos,go_sem,t8],by simp -dsimp[-getElem?_pos,go_sem],by simp -dsimp[-getElem?_pos,go_sem,lt0,h0]⟩
 ·have hk:k=l.length:=by simp at h;omega
  subst hk
  rw[List.drop_length,batsFrom]at hq
  simp -dsimp -implicitDefEqProofs [-getElem?_pos,go_sem,hP,hq]
set_option maxHeartbeats 1000000 in
theorem bcheck_pf (q:TQueue) (hf:FitQ q):PFun Tryz.prog none none 135 [.agg q.cells] (·=iv (checkQ q)):=by
 refine pfun_intro Tryz.func135 rfl (by simp[Tryz.f135]) (by kernel_rfl) ?_
 intro E hP hr hs hW hN
 have iq:=imm_que q
 have iw:=imm_pays q.Waiting
 have ik:=imm_ints q.Known
 obtain⟨R,hR⟩:∃R,R=checkQ q:=⟨_,rfl⟩
 rw[←hR]
 have str:=bstrange_pf q
 have sen:=bsent_pf q hf
 have knn:=bknown_pf q.Known (by have:=hf.k;omega)
 rw[cQu]at iq str sen
 simp only[intsL]at iq str sen knn ik
 have hk9:=hf.k
 have hb9:=hf.b
 have hw9:=hf.w
 rw[checkQ]at hR
 by_cases c1:100<q.Waiting.length
 ·have d1:decide ((100:Int)<(q.Waiting.length:Int))=true:=decide_eq_true (by omega)
  rw[if_pos (.inl c1)]at hR
  simp -dsimp -implicitDefEqProofs [-getElem?_pos,go_sem,hP,cQu,intsL,c1,d1,hR]
 have d1:decide ((100:Int)<(q.Waiting.length:Int))=false:=decide_eq_false (by omega)
 by_cases c2:200<q.Known.length
 ·have d2:decide ((200:Int)<(q.Known.length:Int))=true:=decide_eq_true (by omega)
  rw[if_pos (.inr (.inl c2))]at hR
  simp -dsimp -implicitDefEqProofs [-getElem?_pos,go_sem,hP,cQu,intsL,c1,d1,c2,d2,hR]
 have d2:decide ((200:Int)<(q.Known.length:Int))=false:=decide_eq_false (by omega)
 by_cases c3:200<q.Batches.length
 ·have d3:decide ((200:Int)<(q.Batches.length:Int))=true:=decide_eq_true (by omega)
  rw[if_pos (.inr (.inr c3))]at hR
  simp -dsimp -implicitDefEqProofs [-getElem?_pos,go_sem,hP,cQu,intsL,c1,d1,c2,d2,c3,d3,hR]
 have d3:decide ((200:Int)<(q.Batches.length:Int))=false:=decide_eq_false (by omega)
 rw[if_neg (by omega),ascB]at hR
 simp -dsimp -implicitDefEqProofs [-getElem?_pos,go_sem,hP,cQu,intsL,d1,d2,d3]
 refine callB_is ((bordered_pf q.Waiting (by omega)).lift _ _) hP en_195 (by simpa using iw) .sc ?_
 cases c5:ordFrom none q.Waiting
 ·rw[c5,Bool.false_and,Bool.false_and,Bool.and_false,if_neg (by simp)]at hR
  simp -dsimp -implicitDefEqProofs [-getElem?_pos,go_sem,hP,c5,hR]
 rw[c5,Bool.true_and]at hR
 simp -dsimp -implicitDefEqProofs [-getElem?_pos,go_sem,hP,c5]
 refine callB_is (knn.lift _ _) hP en_196 (by simpa using ik) .sc ?_
 cases c4:knFrom none q.Known
 ·rw[c4,Bool.false_and,if_neg (by simp)]at hR
  simp -dsimp -implicitDefEqProofs [-getElem?_pos,go_sem,hP,c4,hR]
 rw[c4,Bool.true_and]at hR
 simp -dsimp -implicitDefEqProofs [-getElem?_pos,go_sem,hP,c4]
 refine callB_is ((str q.Waiting (by omega) (by omega)).lift _ _) hP en_197 (by simpa using⟨iq,iw⟩) .sc ?_
 cases c6:q.Waiting.all (inK q.Known)
 ·rw[c6,Bool.false_and,Bool.false_and,if_neg (by simp)]at hR
  simp -dsimp -implicitDefEqProofs [-getElem?_pos,go_sem,hP,c6,hR]
 rw[c6,Bool.true_and]at hR
 simp -dsimp -implicitDefEqProofs [-getElem?_pos,go_sem,hP,c6]
 refine callB_is ((btwice_pf q.Waiting (by omega)).lift _ _) hP en_198 (by simpa using iw) .sc ?_
 cases c7:distFrom [] q.Waiting
 ·rw[c7,Bool.false_and,if_neg (by simp)]at hR
  simp -dsimp -implicitDefEqProofs [-getElem?_pos,go_sem,hP,c7,hR]
 rw[c7,Bool.true_and]at hR
 simp -dsimp -implicitDefEqProofs [-getElem?_pos,go_sem,hP,c7]
 refine callB_is (sen.lift _ _) hP en_199 (by simpa using iq) .sc ?_
 cases c8:batsFrom q.Known 0 0 q.Batches
 ·rw[c8,if_neg (by simp)]at hR
  simp -dsimp -implicitDefEqProofs [-getElem?_pos,go_sem,hP,c8,hR]
 rw[c8,if_pos rfl]at hR
 simp -dsimp -implicitDefEqProofs [-getElem?_pos,go_sem,hP,c8,hR]
open Go.PA
open Go.RowKit
open Go.PA
open Go.RowKit
theorem clone_m_pay {row src:Option Nat} (l:List TPayment) (H:Heap) (hl:l.length≤1000000):MFun Tryz.prog row src 63 [.list 5 (encL TPayment.cells l)] H (fun r H'=>∃id,r= .sref id 0 l.length∧H.length≤id∧H'[id]?=some (some ⟨81,5,encL TPayment.cells l⟩)∧Kept [] H H'):=by
 have own:MFun Tryz.prog row src 63 [.list 5 (encL TPayment.cells l)] H (fun r H'=>(r= .nil∧l=[]∧H'=H)∨∃id,r= .sref id 0 l.length∧H.length≤id∧H'[id]?=some (some ⟨81,5,encL TPayment.cells l⟩)∧Kept [] H H'):=by
  cases l with
  |nil=>
   refine mfun_list_nil fun A c=>?_
   refine mfun_intro Tryz.func63 rfl (by simp[Tryz.f63]) (by kernel_rfl) ⟨.nil,H,.inl ⟨rfl,rfl,rfl⟩⟩ ?_
   intro E hP hr hs hN
   cases A with
   |none=>simp -dsimp -implicitDefEqProofs [-getElem?_pos,go_sem,hP]
   |some a=>
    simp -dsimp -implicitDefEqProofs [-getElem?_pos,go_sem,hP]
    exact kept_app _ _ _
  |cons a l=>
   refine mfun_intro Tryz.func63 rfl (by simp[Tryz.f63]) (by kernel_rfl) ⟨_,H++[some ⟨81,5,encL TPayment.cells (a::l)⟩],.inr ⟨H.length,rfl,Nat.le_refl _,by simp,kept_push _ (kept_refl _ _)⟩⟩ ?_
   intro E hP hr hs hN
   simp only[List.length_cons]at hl
   have e:encL TPayment.cells (a::l)=TPayment.cells a::encL TPayment.cells l:=rfl
   simp -dsimp -implicitDefEqProofs [-getElem?_pos,go_sem,hP,e]
   refine⟨by omega,by omega,?_⟩
   exact kept_app _ _ _
 refine (own.ownNil 81 5).mono ?_
 rintro r H' (⟨H0,h0,rfl,rfl⟩|⟨hne,h⟩)
 ·rcases h0 with⟨_,rfl,rfl⟩|⟨id,h,_⟩
  ·exact⟨_,rfl,Nat.le_refl _,by simp[encL],kept_push _ (kept_refl _ _)⟩
  ·cases h
 ·rcases h with⟨h,_⟩|h
  ·exact absurd h hne
  ·exact h
theorem clone_pf_pay (l:List TPayment) (hl:l.length≤1000000):PFun Tryz.prog none none 63 [.list 5 (encL TPayment.cells l)] (·= .list 5 (encL TPayment.cells l)):=by
 cases l with
 |nil=>
  refine pfun_list_nil fun A c=>?_
  refine pfun_intro Tryz.func63 rfl (by simp[Tryz.f63]) (by kernel_rfl) ?_
  intro E hP hr hs hW hN
  cases A with
  |none=>
   simp -dsimp -implicitDefEqProofs [-getElem?_pos,go_sem,hP]
   exact done_weak .nil (imm_list.2 (by simp)) (.nil _) rfl
  |some a=>
   simp -dsimp -implicitDefEqProofs [-getElem?_pos,go_sem,hP]
   refine done_weak (x:= .list 5 []) ?_ (imm_list.2 (by simp)) ?_ rfl
   ·simp -dsimp -implicitDefEqProofs [-getElem?_pos,go_sem]
   ·simp -dsimp -implicitDefEqProofs [-getElem?_pos,go_sem]
    first|exact .refl _|skip
 |cons a l=>
  refine pfun_intro Tryz.func63 rfl (by simp[Tryz.f63]) (by kernel_rfl) ?_
  intro E hP hr hs hW hN
  simp only[List.length_cons]at hl
  have e:encL TPayment.cells (a::l)=TPayment.cells a::encL TPayment.cells l:=rfl
  have im:Imm (.list 5 (TPayment.cells a::encL TPayment.cells l)):=by rw[←e];exact imm_encL _ TPayment.imm _
  have et:(TPayment.cells a::encL TPayment.cells l).take (l.length+1)=TPayment.cells a::encL TPayment.cells l:=by
   rw[←e]
   exact encL_take TPayment.cells (a::l) _ (by simp)
  simp -dsimp -implicitDefEqProofs [-getElem?_pos,go_sem,hP,e]
  refine⟨by omega,by omega,?_⟩
  refine done_weak (x:= .list 5 (TPayment.cells a::encL TPayment.cells l)) ?_ im ?_ rfl
  ·simp -dsimp -implicitDefEqProofs [-getElem?_pos,go_sem]
   first|exact im|(have h:=imm_list.1 im;simp only[List.mem_cons,forall_eq_or_imp]at h;exact h)
  ·simp -dsimp -implicitDefEqProofs [-getElem?_pos,go_sem]
   first|exact .refl _|skip
theorem clone_m_intB {row src:Option Nat} (l:List Int) (H:Heap) (hl:l.length≤1000000):MFun Tryz.prog row src 64 [.list 1 (encL encI l)] H (fun r H'=>∃id,r= .sref id 0 l.length∧H.length≤id∧H'[id]?=some (some ⟨3,1,encL encI l⟩)∧Kept [] H H'):=by
 have own:MFun Tryz.prog row src 64 [.list 1 (encL encI l)] H (fun r H'=>(r= .nil∧l=[]∧H'=H)∨∃id,r= .sref id 0 l.length∧H.length≤id∧H'[id]?=some (some ⟨3,1,encL encI l⟩)∧Kept [] H H'):=by
  cases l with
  |nil=>
   refine mfun_list_nil fun A c=>?_
   refine mfun_intro Tryz.func64 rfl (by simp[Tryz.f64]) (by kernel_rfl) ⟨.nil,H,.inl ⟨rfl,rfl,rfl⟩⟩ ?_
   intro E hP hr hs hN
   cases A with
   |none=>simp -dsimp -implicitDefEqProofs [-getElem?_pos,go_sem,hP]
   |some a=>
    simp -dsimp -implicitDefEqProofs [-getElem?_pos,go_sem,hP]
    exact kept_app _ _ _
  |cons a l=>
   refine mfun_intro Tryz.func64 rfl (by simp[Tryz.f64]) (by kernel_rfl) ⟨_,H++[some ⟨3,1,encL encI (a::l)⟩],.inr ⟨H.length,rfl,Nat.le_refl _,by simp,kept_push _ (kept_refl _ _)⟩⟩ ?_
   intro E hP hr hs hN
   simp only[List.length_cons]at hl
   have e:encL encI (a::l)=encI a::encL encI l:=rfl
   simp -dsimp -implicitDefEqProofs [-getElem?_pos,go_sem,hP,e]
   refine⟨by omega,by omega,?_⟩
   exact kept_app _ _ _
 refine (own.ownNil 3 1).mono ?_
 rintro r H' (⟨H0,h0,rfl,rfl⟩|⟨hne,h⟩)
 ·rcases h0 with⟨_,rfl,rfl⟩|⟨id,h,_⟩
  ·exact⟨_,rfl,Nat.le_refl _,by simp[encL],kept_push _ (kept_refl _ _)⟩
  ·cases h
 ·rcases h with⟨h,_⟩|h
  ·exact absurd h hne
  ·exact h
abbrev intRows (l:List Int):List (List AV):=l.map fun x=>[iv x]
theorem intRows_len (l:List Int):(intRows l).length=l.length:=by simp[intRows]
set_option maxHeartbeats 2000000 in
theorem bcopy_m {row src:Option Nat} (q:TQueue) (H:Heap) (hf:FitQ q):
  MFun Tryz.prog row src 173 [.agg q.cells] H (fun r H'=>∃i1 i2 x,r= .agg [.sref i1 0 q.Waiting.length,.sref i2 0 q.Known.length,x]∧H.length≤i1∧H.length≤i2∧i1≠i2∧H'[i1]?=some (some ⟨81,5,encL TPayment.cells q.Waiting⟩)∧H'[i2]?=some (some ⟨3,1,intRows q.Known⟩)∧(∃B,i1<B∧i2<B∧Grown B H' x 140 3 (encL TBatch.cells q.Batches))∧Kept [] H H'):=by
 obtain⟨C,hC⟩:∃C:AV→Heap→Prop,C=fun r H'=>∃i1 i2 x,r= .agg [.sref i1 0 q.Waiting.length,.sref i2 0 q.Known.length,x]∧H.length≤i1∧H.length≤i2∧i1≠i2∧H'[i1]?=some (some ⟨81,5,encL TPayment.cells q.Waiting⟩)∧H'[i2]?=some (some ⟨3,1,intRows q.Known⟩)∧(∃B,i1<B∧i2<B∧Grown B H' x 140 3 (encL TBatch.cells q.Batches))∧Kept [] H H':=⟨_,rfl⟩
 rw[←hC]
 have ex:∃r H',C r H':=⟨.agg [.sref H.length 0 q.Waiting.length,.sref (H.length+1) 0 q.Known.length,.sref (H.length+2) 0 q.Batches.length],H++[some ⟨81,5,encL TPayment.cells q.Waiting⟩,some ⟨3,1,intRows q.Known⟩,some ⟨140,3,encL TBatch.cells q.Batches⟩],by
  rw[hC]
  exact⟨H.length,H.length+1,_,rfl,Nat.le_refl _,by omega,by omega,by simp,by rw[List.getElem?_append_right (by omega)];simp,⟨H.length+2,by omega,by omega,.inr ⟨H.length+2,Nat.le_refl _,by rw[encL_len],by rw[List.getElem?_append_right (by omega)];simp⟩⟩,kept_app _ _ _⟩⟩
 refine mfun_intro Tryz.func173 rfl (by simp[Tryz.f173]) (by kernel_rfl) (ex) ?_
 intro E hP hr hs hN
 have ip:=imm_pays q.Waiting
 have i2:=imm_ints q.Known
 have i3:=imm_bats q.Batches
 simp only[intsL]at i2
 simp -dsimp -implicitDefEqProofs [-getElem?_pos,go_sem,hP,cQu,intsL]
 have lw:=hf.w
 have lk:=hf.k
 have lb:=hf.b
 obtain⟨Inv,hInv⟩:∃Inv:St→Prop,Inv=fun s=>∃(p j1 j2:Nat),s.t 1= .ref H.length 0 0∧s.t 2= .ref (H.length+1) 0 0∧s.t 3= .ref p 0 0∧H.length+2≤p∧H.length+2≤j1∧H.length+2≤j2∧p≠j1∧p≠j2∧j1≠j2∧s.H[H.length]?=some (some ⟨32,3,[[paysL q.Waiting,.list 1 (intRows q.Known),batsL q.Batches]]⟩)∧s.H[H.length+1]?=some (some ⟨32,3,[[.nil,.nil,.nil]]⟩)∧s.H[p]?=some (some ⟨32,3,[[.sref j1 0 q.Waiting.length,.sref j2 0 q.Known.length,.nil]]⟩)∧s.H[j1]?=some (some ⟨81,5,encL TPayment.cells q.Waiting⟩)∧s.H[j2]?=some (some ⟨3,1,intRows q.Known⟩)∧Kept [] H s.H:=⟨_,rfl⟩
 obtain⟨H1,hH1⟩:∃H1:Heap,H1=H++[some ⟨32,3,[[paysL q.Waiting,.list 1 (intRows q.Known),batsL q.Batches]]⟩,some ⟨32,3,[[.nil,.nil,.nil]]⟩]:=⟨_,rfl⟩
 have l1:H1.length=H.length+2:=by rw[hH1];simp
 have a0:H1[H.length]?=some (some ⟨32,3,[[paysL q.Waiting,.list 1 (intRows q.Known),batsL q.Batches]]⟩):=by rw[hH1];simp
 have a1:H1[H.length+1]?=some (some ⟨32,3,[[.nil,.nil,.nil]]⟩):=by rw[hH1,List.getElem?_append_right (by omega)];simp
 have k1:Kept [] H H1:=by rw[hH1];exact kept_app _ _ _
 simp only[←hH1]
 have aD:∀(X X':Heap),Kept [] X X'→X[H.length]?=H1[H.length]?→X[H.length+1]?=H1[H.length+1]?→Agree (fun i=>decide (i=H.length)||decide (i=H.length+1)) X X':=fun X X' hk e0 e1=>agree_live hk fun i hi=>by
  simp only[Bool.or_eq_true,decide_eq_true_eq]at hi
  rcases hi with rfl|rfl
  ·exact⟨by simp,_,e0.trans a0⟩
  ·exact⟨by simp,_,e1.trans a1⟩
 refine adraw_cut Inv ?_ ?_
 ·refine adrawK (fun i=>decide (i=H.length)||decide (i=H.length+1)) [8] [] 2 hP (by kernel_rfl) (by kernel_rfl) (by simp) ?_
  simp -dsimp -implicitDefEqProofs [-getElem?_pos,go_sem,hP,List.take_succ_cons,List.take_zero,restr_get,a0,l1]
  refine xany_pick 3 rfl (by kernel_rfl) ?_
  simp -dsimp -implicitDefEqProofs [-getElem?_pos,go_sem,hP,a0,restr_get,l1]
  refine xany_pick 4 rfl (by kernel_rfl) ?_
  simp -dsimp -implicitDefEqProofs [-getElem?_pos,go_sem,hP,a0,restr_get,l1]
  refine xany_two (i:=2) (j:=7) (by kernel_rfl) rfl rfl ?_ ?_
  ·simp -dsimp -implicitDefEqProofs [-getElem?_pos,go_sem,hP]
   refine callB_m (by rw[hr,hs];exact clone_m_pay q.Waiting H1 (by omega)) hP en_63 ?_
   rintro r H2 ⟨j1,rfl,hj1,o1,hk⟩
   have b0:=hk _ _ (by simp) a0
   have b1:=hk _ _ (by simp) a1
   have ltn:=(gsI b1)
   have lt1:=(gsI o1)
   simp -dsimp -implicitDefEqProofs [-getElem?_pos,go_sem,hP]
   refine⟨aD _ _ hk rfl rfl,?_⟩
   refine xany_two (i:=5) (j:=7) (by kernel_rfl) rfl rfl ?_ ?_
   ·simp -dsimp -implicitDefEqProofs [-getElem?_pos,go_sem,hP]
    refine callB_m (by rw[hr,hs];exact clone_m_intB q.Known H2 (by omega)) hP en_64 ?_
    rintro r H3 ⟨j2,rfl,hj2,o2,hk2⟩
    have c0:=hk2 _ _ (by simp) b0
    have c1:=hk2 _ _ (by simp) b1
    have p1:=hk2 _ _ (by simp) o1
    have ltn2:=(gsI c1)
    have lt2:=(gsI o2)
    have lt3:=(gsI p1)
    have eI:encL encI q.Known=intRows q.Known:=rfl
    have fin:∀t,t 1=AV.ref H.length 0 0→t 2=AV.ref (H.length+1) 0 0→t 3=AV.ref H3.length 0 0→Inv ⟨t,H3++[some ⟨32,3,[[.sref j1 0 q.Waiting.length,.sref j2 0 q.Known.length,.nil]]⟩]⟩:=fun t e1 e2 e3=>by
     rw[hInv]
     refine⟨H3.length,j1,j2,e1,e2,e3,by omega,by omega,by omega,by omega,by omega,by omega,?_,?_,by simp,?_,?_,((k1.trans hk).trans hk2).trans (kept_app _ _ _)⟩
     ·rw[List.getElem?_append_left (by omega),c0]
     ·rw[List.getElem?_append_left (by omega),c1]
     ·rw[List.getElem?_append_left (by omega),p1]
     ·rw[List.getElem?_append_left (by omega),o2,eI]
    simp -dsimp -implicitDefEqProofs [-getElem?_pos,go_sem,hP]
    refine⟨aD _ _ hk2 (b0.trans a0.symm) (b1.trans a1.symm),?_⟩
    refine xany_two (i:=6) (j:=7) (by kernel_rfl) rfl rfl ?_ ?_
    ·simp -dsimp -implicitDefEqProofs [-getElem?_pos,go_sem,hP]
     refine xany_one (i:=7) (by kernel_rfl) rfl ?_
     simp -dsimp -implicitDefEqProofs [-getElem?_pos,go_sem,hP]
     refine⟨aD _ _ (kept_app _ _ _) (c0.trans a0.symm) (c1.trans a1.symm),?_⟩
     refine xany_one (i:=8) (by kernel_rfl) rfl ?_
     simp -dsimp -implicitDefEqProofs [-getElem?_pos,go_sem,hP]
     refine xany_nil (by kernel_rfl) ?_
     exact fin _ (by simp -dsimp[-getElem?_pos,go_sem]) (by simp -dsimp[-getElem?_pos,go_sem]) (by simp -dsimp[-getElem?_pos,go_sem])
    ·simp -dsimp -implicitDefEqProofs [-getElem?_pos,go_sem,hP]
     refine⟨aD _ _ (kept_app _ _ _) (c0.trans a0.symm) (c1.trans a1.symm),?_⟩
     refine xany_one (i:=6) (by kernel_rfl) rfl ?_
     simp -dsimp -implicitDefEqProofs [-getElem?_pos,go_sem,hP]
     refine xany_one (i:=8) (by kernel_rfl) rfl ?_
     simp -dsimp -implicitDefEqProofs [-getElem?_pos,go_sem,hP]
     refine xany_nil (by kernel_rfl) ?_
     exact fin _ (by simp -dsimp[-getElem?_pos,go_sem]) (by simp -dsimp[-getElem?_pos,go_sem]) (by simp -dsimp[-getElem?_pos,go_sem])
   ·simp -dsimp -implicitDefEqProofs [-getElem?_pos,go_sem,hP]
    refine⟨aD _ _ (kept_app _ _ _) (b0.trans a0.symm) (b1.trans a1.symm),?_⟩
    refine xany_one (i:=5) (by kernel_rfl) rfl ?_
    obtain⟨H3,hH3⟩:∃H3:Heap,H3=H2++[some ⟨32,3,[[.nil,.nil,.nil]]⟩]:=⟨_,rfl⟩
    have l3:H3.length=H2.length+1:=by rw[hH3];simp
    have c0:H3[H.length]?=H1[H.length]?:=by rw[hH3,List.getElem?_append_left (by omega),b0,a0]
    have c1:H3[H.length+1]?=H1[H.length+1]?:=by rw[hH3,List.getElem?_append_left (by omega),b1,a1]
    have c2:H3[H2.length]?=some (some ⟨32,3,[[.nil,.nil,.nil]]⟩):=by rw[hH3];simp
    have p1:H3[j1]?=some (some ⟨81,5,encL TPayment.cells q.Waiting⟩):=by rw[hH3,List.getElem?_append_left (by omega),o1]
    have k3:Kept [] H2 H3:=by rw[hH3];exact kept_app _ _ _
    simp only[←hH3]
    simp -dsimp -implicitDefEqProofs [-getElem?_pos,go_sem,hP,c0,a0,l3]
    refine callB_m (by rw[hr,hs];exact clone_m_intB q.Known H3 (by omega)) hP en_64 ?_
    rintro r H4 ⟨j2,rfl,hj2,o2,hk2⟩
    have d0:=hk2 _ _ (by simp) (c0.trans a0)
    have d1:=hk2 _ _ (by simp) (c1.trans a1)
    have d2:=hk2 _ _ (by simp) c2
    have p2:=hk2 _ _ (by simp) p1
    have ltn2:=(gsI d2)
    have eI:encL encI q.Known=intRows q.Known:=rfl
    simp -dsimp -implicitDefEqProofs [-getElem?_pos,go_sem,hP]
    refine⟨aD _ _ hk2 c0 c1,?_⟩
    refine xany_one (i:=6) (by kernel_rfl) rfl ?_
    simp -dsimp -implicitDefEqProofs [-getElem?_pos,go_sem,hP]
    refine xany_one (i:=8) (by kernel_rfl) rfl ?_
    simp -dsimp -implicitDefEqProofs [-getElem?_pos,go_sem,hP,d2,ltn2]
    refine xany_nil (by kernel_rfl) ?_
    rw[hInv]
    refine⟨H2.length,j1,j2,by simp -dsimp[-getElem?_pos,go_sem],by simp -dsimp[-getElem?_pos,go_sem],by simp -dsimp[-getElem?_pos,go_sem],by omega,by omega,by omega,by omega,by omega,by omega,?_,?_,?_,?_,?_,?_⟩
    ·rw[List.getElem?_set_ne (by omega),d0]
    ·rw[List.getElem?_set_ne (by omega),d1]
    ·rw[List.getElem?_set_self ltn2]
    ·rw[List.getElem?_set_ne (by omega),p2]
    ·rw[List.getElem?_set_ne (by omega),o2,eI]
    ·exact kept_new _ (by omega) (((k1.trans hk).trans k3).trans hk2)
  ·simp -dsimp -implicitDefEqProofs [-getElem?_pos,go_sem,hP]
   refine⟨aD _ _ (kept_app _ _ _) rfl rfl,?_⟩
   refine xany_one (i:=2) (by kernel_rfl) rfl ?_
   obtain⟨H2,hH2⟩:∃H2:Heap,H2=H1++[some ⟨32,3,[[.nil,.nil,.nil]]⟩]:=⟨_,rfl⟩
   have l2:H2.length=H1.length+1:=by rw[hH2];simp
   have b0:H2[H.length]?=H1[H.length]?:=by rw[hH2,List.getElem?_append_left (by omega)]
   have b1:H2[H.length+1]?=H1[H.length+1]?:=by rw[hH2,List.getElem?_append_left (by omega)]
   have b2:H2[H.length+2]?=some (some ⟨32,3,[[.nil,.nil,.nil]]⟩):=by rw[hH2,←l1];simp
   have k2:Kept [] H1 H2:=by rw[hH2];exact kept_app _ _ _
   simp only[←hH2]
   simp -dsimp -implicitDefEqProofs [-getElem?_pos,go_sem,hP,b0,a0,l1,l2]
   refine callB_m (by rw[hr,hs];exact clone_m_pay q.Waiting H2 (by omega)) hP en_63 ?_
   rintro r H3 ⟨j1,rfl,hj1,o1,hk⟩
   have c0:=hk _ _ (by simp) (b0.trans a0)
   have c1:=hk _ _ (by simp) (b1.trans a1)
   have c2:=hk _ _ (by simp) b2
   have ltn:=(gsI c2)
   have lto:=(gsI o1)
   simp -dsimp -implicitDefEqProofs [-getElem?_pos,go_sem,hP]
   refine⟨aD _ _ hk b0 b1,?_⟩
   refine xany_one (i:=5) (by kernel_rfl) rfl ?_
   simp -dsimp -implicitDefEqProofs [-getElem?_pos,go_sem,hP,c0,l1]
   refine callB_m (by rw[hr,hs];exact clone_m_intB q.Known H3 (by omega)) hP en_64 ?_
   rintro r H4 ⟨j2,rfl,hj2,o2,hk2⟩
   have d0:=hk2 _ _ (by simp) c0
   have d1:=hk2 _ _ (by simp) c1
   have d2:=hk2 _ _ (by simp) c2
   have p2:=hk2 _ _ (by simp) o1
   have ltn2:=(gsI d2)
   have eI:encL encI q.Known=intRows q.Known:=rfl
   simp -dsimp -implicitDefEqProofs [-getElem?_pos,go_sem,hP]
   refine⟨aD _ _ hk2 (c0.trans a0.symm) (c1.trans a1.symm),?_⟩
   refine xany_one (i:=6) (by kernel_rfl) rfl ?_
   simp -dsimp -implicitDefEqProofs [-getElem?_pos,go_sem,hP]
   refine xany_one (i:=8) (by kernel_rfl) rfl ?_
   simp -dsimp -implicitDefEqProofs [-getElem?_pos,go_sem,hP,d2,ltn2,l1]
   refine xany_nil (by kernel_rfl) ?_
   rw[hInv]
   refine⟨H.length+2,j1,j2,by simp -dsimp[-getElem?_pos,go_sem],by simp -dsimp[-getElem?_pos,go_sem],by simp -dsimp[-getElem?_pos,go_sem],by omega,by omega,by omega,by omega,by omega,by omega,?_,?_,?_,?_,?_,?_⟩
   ·rw[List.getElem?_set_ne (by omega),d0]
   ·rw[List.getElem?_set_ne (by omega),d1]
   ·rw[List.getElem?_set_self ltn2]
   ·rw[List.getElem?_set_ne (by omega),p2]
   ·rw[List.getElem?_set_ne (by omega),o2,eI]
   ·exact kept_new _ (by omega) (((k1.trans k2).trans hk).trans hk2)
 ·rw[hInv]
  rintro s ⟨p,j1,j2,t1,t2,t3,hp2,hj1,hj2,n1,n2,n3,h0,h1,hp,ho1,ho2,hK⟩
  have lt0:=(gsI h0)
  have ltp:=(gsI hp)
  have lti:=(gsI ho1)
  have ltj:=(gsI ho2)
  obtain⟨B,hB⟩:∃B,B=s.H.length:=⟨_,rfl⟩
  rw[←hB]at ltp lti ltj
  have hBle:B≤s.H.length:=by omega
  obtain⟨l,hl⟩:∃l,l=q.Batches:=⟨_,rfl⟩
  have each:=hf.each
  rw[←hl]at lb h0 each i3
  simp -dsimp -implicitDefEqProofs [-getElem?_pos,go_sem,hP,t1,h0,lt0]
  rw[←hl]at hC
  obtain⟨I,hI⟩:∃I:Nat→St→Prop,I=fun m s=>∃(k:Nat) (x:AV),k≤l.length∧m=l.length-k∧B≤s.H.length∧s.t 2= .ref (H.length+1) 0 0∧s.t 3= .ref p 0 0∧s.t 14=batsL l∧s.t 15=iv l.length∧s.t 16=iv k∧s.H[H.length+1]?=some (some ⟨32,3,[[.nil,.nil,.nil]]⟩)∧s.H[p]?=some (some ⟨32,3,[[.sref j1 0 q.Waiting.length,.sref j2 0 q.Known.length,x]]⟩)∧s.H[j1]?=some (some ⟨81,5,encL TPayment.cells q.Waiting⟩)∧s.H[j2]?=some (some ⟨3,1,intRows q.Known⟩)∧Grown B s.H x 140 3 (encL TBatch.cells (l.take k))∧Kept [] H s.H:=⟨_,rfl⟩
  refine aloop0 I (l.length) (by rw[hN];rfl) ?_ ?_
  ·rw[hI]
   exact⟨0,.nil,by omega,by omega,by simp -dsimp[-getElem?_pos,go_sem];omega,by simp -dsimp[-getElem?_pos,go_sem,t2],by simp -dsimp[-getElem?_pos,go_sem,t3],by simp -dsimp[-getElem?_pos,go_sem],by simp -dsimp[-getElem?_pos,go_sem],by simp -dsimp[-getElem?_pos,go_sem],by simp -dsimp[-getElem?_pos,go_sem,h1],by simp -dsimp[-getElem?_pos,go_sem,hp],by simp -dsimp[-getElem?_pos,go_sem,ho1],by simp -dsimp[-getElem?_pos,go_sem,ho2],.inl ⟨rfl,rfl⟩,by simp -dsimp[-getElem?_pos,go_sem];exact hK⟩
  clear t1 t2 t3 h0 h1 hp ho1 ho2 hK lt0 hB hBle
  intro m s hs'
  rw[hI]at hs'
  obtain⟨k,x,hk,hm,hBle,t2,t3,t14,t15,t16,h1,hp,ho1,ho2,hg,hK⟩:=hs'
  have lt1:=(gsI h1)
  simp -dsimp -implicitDefEqProofs [-getElem?_pos,go_sem,hP,t15,t16]
  refine condP (fun h=>?_) (fun h=>?_)
  ·have hk:k<l.length:=by simpa using h
   obtain⟨c,hcc⟩:∃c,l[k]?=some c:=⟨_,List.getElem?_eq_getElem hk⟩
   have wk:=wrap_in ((k:Int)+1) (by omega)
   have ec:=each c (List.mem_of_getElem? hcc)
   have ic:=imm_pays c.Payments
   have ltp':p<s.H.length:=by omega
   have lti':j1<s.H.length:=by omega
   have ltj':j2<s.H.length:=by omega
   have e1:encL TBatch.cells (l.take (k+1))=encL TBatch.cells (l.take k)++[[iv c.Number,iv c.Day,paysL c.Payments]]:=by
    rw[List.take_add_one,hcc]
    exact (encL_snoc TBatch.cells (l.take k) c).symm
   have nl:(encL TBatch.cells (l.take k)).length=k:=by rw[encL_len,List.length_take];omega
   have np1:¬p=H.length+1:=by omega
   simp -dsimp -implicitDefEqProofs [-getElem?_pos,go_sem,hP,t14,t16,hcc,cBt]
   refine callB_is ((clone_pf_pay c.Payments (by omega)).lift _ _) hP en_63 (by simpa using ic) ic ?_
   rcases hg with⟨rfl,hg⟩|⟨jd,h2,rfl,hg⟩
   ·simp -dsimp -implicitDefEqProofs [-getElem?_pos,go_sem,hP,t3,hp,ltp',t16,wk]
    refine⟨l.length-(k+1),by omega,?_⟩
    rw[hI]
    refine⟨k+1,.sref (s.H.length+1) 0 1,by omega,rfl,by simp -dsimp[-getElem?_pos,go_sem];omega,by simp -dsimp[-getElem?_pos,go_sem,t2],by simp -dsimp[-getElem?_pos,go_sem,t3],by simp -dsimp[-getElem?_pos,go_sem,t14],by simp -dsimp[-getElem?_pos,go_sem,t15],by simp -dsimp[-getElem?_pos,go_sem],?_,?_,?_,?_,.inr ⟨s.H.length+1,by omega,?_,?_⟩,?_⟩
    ·simp -dsimp -implicitDefEqProofs [-getElem?_pos,go_sem,lt1,h1,np1]
    ·simp -dsimp -implicitDefEqProofs [-getElem?_pos,go_sem,ltp']
    ·simp -dsimp -implicitDefEqProofs [-getElem?_pos,go_sem,lti',ho1,n1]
    ·simp -dsimp -implicitDefEqProofs [-getElem?_pos,go_sem,ltj',ho2,n2]
    ·rw[e1,hg];rfl
    ·rw[e1,hg]
     simp -dsimp -implicitDefEqProofs [-getElem?_pos,go_sem]
    ·simp -dsimp -implicitDefEqProofs [-getElem?_pos,go_sem]
     exact (kept_new _ (by omega) hK).trans (kept_app _ _ _)
   ·have lj:=(gsI hg)
    have m1:¬jd=H.length+1:=by omega
    have m2:¬jd=p:=by omega
    have m3:¬jd=j1:=by omega
    have m4:¬jd=j2:=by omega
    simp -dsimp -implicitDefEqProofs [-getElem?_pos,go_sem,hP,t3,hp,ltp',t16,wk,hg,lj,m1,m2,m3,m4,nl]
    refine⟨by omega,by omega,?_⟩
    refine⟨l.length-(k+1),by omega,?_⟩
    rw[hI]
    refine⟨k+1,.sref (s.H.length+1) 0 (k+1),by omega,rfl,by simp -dsimp[-getElem?_pos,go_sem];omega,by simp -dsimp[-getElem?_pos,go_sem,t2],by simp -dsimp[-getElem?_pos,go_sem,t3],by simp -dsimp[-getElem?_pos,go_sem,t14],by simp -dsimp[-getElem?_pos,go_sem,t15],by simp -dsimp[-getElem?_pos,go_sem],?_,?_,?_,?_,.inr ⟨s.H.length+1,by omega,?_,?_⟩,?_⟩
    ·simp -dsimp -implicitDefEqProofs [-getElem?_pos,go_sem,lt1,h1,np1,m1]
    ·simp -dsimp -implicitDefEqProofs [-getElem?_pos,go_sem,ltp',m2]
    ·simp -dsimp -implicitDefEqProofs [-getElem?_pos,go_sem,lti',ho1,n1,m3]
    ·simp -dsimp -implicitDefEqProofs [-getElem?_pos,go_sem,ltj',ho2,n2,m4]
    ·rw[e1,List.length_append,nl];rfl
    ·rw[e1]
     simp -dsimp -implicitDefEqProofs [-getElem?_pos,go_sem]
    ·simp -dsimp -implicitDefEqProofs [-getElem?_pos,go_sem]
     exact (kept_new _ (by omega) (kept_new _ (by omega) hK)).trans (kept_app _ _ _)
  ·have hk:k=l.length:=by simp at h;omega
   subst hk
   rw[List.take_length]at hg
   have hc:=hg.cellish
   have ltp':p<s.H.length:=by omega
   simp -dsimp -implicitDefEqProofs [-getElem?_pos,go_sem,hP,t3,hp,ltp',t2,h1,lt1,hc]
   rw[hC]
   refine⟨j1,j2,x,rfl,by omega,by omega,n3,?_,?_,⟨B,by omega,by omega,hg.kept (X:=[H.length+1]) (kept_set _ (by simp) (kept_refl _ _)) (by simp;omega)⟩,kept_new _ (by omega) hK⟩
   ·rw[List.getElem?_set_ne (by omega),ho1]
   ·rw[List.getElem?_set_ne (by omega),ho2]
open Go.PA
open Go.RowKit
def BsfQ (k:Nat) (r:AV):Prop:=∃b,r= .tup [iv k,bv b]
set_option maxHeartbeats 1000000 in
theorem bsf_pf (l:List TPayment) (p:TPayment) (k:Nat) (hl:l.length≤1000000) (hk:k≤l.length) (hm:∀h x,l[h]?=some x→(Bef x p↔h<k)):PFun Tryz.prog none none 246 [paysL l,.agg p.cells,.fn 247 []] (BsfQ k):=by
 refine pfun_intro Tryz.func246 rfl (by simp[Tryz.f246]) (by kernel_rfl) ?_
 intro E hP hr hs hW hN
 have ip:=imm_pay p
 simp -dsimp -implicitDefEqProofs [-getElem?_pos,go_sem,hP,cPy]
 obtain⟨I,hI⟩:∃I:Nat→St→Prop,I=fun m s=>∃i j:Nat,i≤k∧k≤j∧j≤l.length∧m=j-i∧s.t 0=paysL l∧s.t 2= .fn 247 []∧s.t 4= .ref 0 0 0∧s.t 8=iv l.length∧s.t 9=iv i∧s.t 10=iv j∧s.H[0]?=some (some ⟨81,5,[p.cells]⟩):=⟨_,rfl⟩
 refine aloop0 I (l.length) (by rw[hN];rfl) ?_ ?_
 ·rw[hI]
  exact⟨0,l.length,by omega,hk,by omega,rfl,by simp -dsimp[-getElem?_pos,go_sem],by simp -dsimp[-getElem?_pos,go_sem],by simp -dsimp[-getElem?_pos,go_sem],by simp -dsimp[-getElem?_pos,go_sem],by simp -dsimp[-getElem?_pos,go_sem],by simp -dsimp[-getElem?_pos,go_sem],by simp -dsimp[-getElem?_pos,go_sem,cPy]⟩
 intro m s hs'
 rw[hI]at hs'
 obtain⟨i,j,hi,hj,hjl,hm',t0,t2,t4,t8,t9,t10,hp⟩:=hs'
 have lt0:=(gsI hp)
 simp -dsimp -implicitDefEqProofs [-getElem?_pos,go_sem,hP,t9,t10]
 refine condP (fun h=>?_) (fun h=>?_)
 ·have hij:i<j:=by simpa using h
  have w1:=wrap_in ((i:Int)+j) (by omega)
  have wu:IntKind.u64.wrap ((i:Int)+j)=(i:Int)+j:=by rw[IntKind.wrap_u64];omega
  obtain⟨h,hh⟩:∃h,h=(i+j) / 2:=⟨_,rfl⟩
  have wh:IntKind.i64.wrap (((i:Int)+j) / 2)=(h:Int):=by rw[wrap_in _ (by omega)];omega
  obtain⟨a,ha⟩:∃a,l[h]?=some a:=⟨_,List.getElem?_eq_getElem (by omega)⟩
  have hcmp:=hm h a ha
  have w2:=wrap_in ((h:Int)+1) (by omega)
  have ia:=imm_pay a
  have cm:=bcompare_pf a p
  rw[cPy,cPy]at cm
  rw[cPy]at ia ip
  simp -dsimp -implicitDefEqProofs [-getElem?_pos,go_sem,hP,t9,t10,w1,wu,aconv,aint_shr,wh]
  refine adrawB (fun _=>true) [] hP (by kernel_rfl) (by kernel_rfl) ?_
  simp -dsimp -implicitDefEqProofs [-getElem?_pos,go_sem,hP,t0,t2,t4,ha,hp,lt0,cPy]
  refine callB_is (cm.lift _ _) hP en_247 (by simpa using⟨ia,ip⟩) .sc ?_
  by_cases c:Bef a p
  ·have c1:decide (cmpP a p<0)=true:=decide_eq_true (cmpP_lt.2 c)
   simp -dsimp -implicitDefEqProofs [-getElem?_pos,go_sem,hP,c1,w2]
   refine⟨j-(h+1),by omega,?_⟩
   rw[hI]
   exact⟨h+1,j,by have:=hcmp.1 c;omega,by omega,by omega,rfl,by simp -dsimp[-getElem?_pos,go_sem,t0],by simp -dsimp[-getElem?_pos,go_sem,t2],by simp -dsimp[-getElem?_pos,go_sem,t4],by simp -dsimp[-getElem?_pos,go_sem,t8],by simp -dsimp[-getElem?_pos,go_sem],by simp -dsimp[-getElem?_pos,go_sem,t10],by simp -dsimp[-getElem?_pos,go_sem,hp]⟩
  ·have c1:decide (cmpP a p<0)=false:=decide_eq_false (mt cmpP_lt.1 c)
   simp -dsimp -implicitDefEqProofs [-getElem?_pos,go_sem,hP,c1]
   refine⟨h-i,by omega,?_⟩
   rw[hI]
   exact⟨i,h,by omega,by have:=mt hcmp.2 c;omega,by omega,rfl,by simp -dsimp[-getElem?_pos,go_sem,t0],by simp -dsimp[-getElem?_pos,go_sem,t2],by simp -dsimp[-getElem?_pos,go_sem,t4],by simp -dsimp[-getElem?_pos,go_sem,t8],by simp -dsimp[-getElem?_pos,go_sem,t9],by simp -dsimp[-getElem?_pos,go_sem],by simp -dsimp[-getElem?_pos,go_sem,hp]⟩
 ·have hik:i=k:=by
   have:¬i<j:=by simpa using h
   omega
  subst hik
  simp -dsimp -implicitDefEqProofs [-getElem?_pos,go_sem,hP]
  refine adrawB (fun _=>true) [] hP (by kernel_rfl) (by kernel_rfl) ?_
  by_cases c:i<l.length
  ·obtain⟨a,ha⟩:∃a,l[i]?=some a:=⟨_,List.getElem?_eq_getElem c⟩
   have d:decide ((i:Int)<(l.length:Int))=true:=decide_eq_true (by omega)
   have ia:=imm_pay a
   have cm:=bcompare_pf a p
   rw[cPy,cPy]at cm
   rw[cPy]at ia ip
   simp -dsimp -implicitDefEqProofs [-getElem?_pos,go_sem,hP,t9,t8,c,d,t0,t2,t4,ha,hp,lt0,cPy]
   refine callB_is (cm.lift _ _) hP en_247 (by simpa using⟨ia,ip⟩) .sc ?_
   simp -dsimp -implicitDefEqProofs [-getElem?_pos,go_sem,hP,t9,t8,c,d,t0,t2,t4,ha,hp,lt0,cPy]
   exact done_imm (imm_pair .sc .sc) ⟨_,rfl⟩
  ·have d:decide ((i:Int)<(l.length:Int))=false:=decide_eq_false (by omega)
   simp -dsimp -implicitDefEqProofs [-getElem?_pos,go_sem,hP,t9,t8,c,d]
   exact done_imm (imm_pair .sc .sc) ⟨_,rfl⟩
theorem ins_place {l:List TPayment} {p:TPayment} (hl:l.Pairwise Bef):∃k,k≤l.length∧(∀h x,l[h]?=some x→(Bef x p↔h<k))∧ins befB l p=l.take k++p::l.drop k:=by
 obtain⟨A,B,rfl,h2,h3,h4⟩:=ins_split befB l p
 refine⟨A.length,by simp,fun h x hx=>?_,by rw[h2];simp⟩
 by_cases c:h<A.length
 ·rw[List.getElem?_append_left c]at hx
  exact⟨fun _=>c,fun _=>befB_iff.1 (h3 x (List.mem_of_getElem? hx))⟩
 ·refine⟨fun hb=>absurd hb ?_,fun hc=>absurd hc c⟩
  rw[List.getElem?_append_right (by omega)]at hx
  have hx:=List.mem_of_getElem? hx
  obtain⟨_,p2,_⟩:=List.pairwise_append.1 hl
  cases B with
  |nil=>cases hx
  |cons b B=>
   have hb:¬Bef b p:=fun e=>by
    have:=h4 b rfl
    rw[befB_iff.2 e]at this
    cases this
   rcases List.mem_cons.1 hx with rfl|hx
   ·exact hb
   ·exact fun e=>hb ((List.rel_of_pairwise_cons p2 hx).trans e)
theorem ins_placeK {l:List Int} {p:Int} (hl:l.Pairwise (·<·)):∃k,k≤l.length∧(∀h x,l[h]?=some x→(x<p↔h<k))∧ins ltB l p=l.take k++p::l.drop k∧(l[k]?=some p↔p∈l):=by
 obtain⟨A,B,rfl,h2,h3,h4⟩:=ins_split ltB l p
 have hB:∀x,x∈B→¬x<p:=by
  obtain⟨_,p2,_⟩:=List.pairwise_append.1 hl
  cases B with
  |nil=>simp
  |cons b B=>
   have hb:¬b<p:=fun e=>by
    have:=h4 b rfl
    rw[(ltB_lt b p).2 e]at this
    cases this
   intro x hx
   rcases List.mem_cons.1 hx with rfl|hx
   ·exact hb
   ·have:=List.rel_of_pairwise_cons p2 hx
    omega
 refine⟨A.length,by simp,fun h x hx=>?_,by rw[h2];simp,?_⟩
 ·by_cases c:h<A.length
  ·rw[List.getElem?_append_left c]at hx
   exact⟨fun _=>c,fun _=>(ltB_lt _ _).1 (h3 x (List.mem_of_getElem? hx))⟩
  ·rw[List.getElem?_append_right (by omega)]at hx
   exact⟨fun hb=>absurd hb (hB x (List.mem_of_getElem? hx)),fun hc=>absurd hc c⟩
 ·rw[List.getElem?_append_right (Nat.le_refl _),Nat.sub_self]
  constructor
  ·exact fun h=>List.mem_append.2 (.inr (List.mem_of_getElem? h))
  ·intro h
   rcases List.mem_append.1 h with h|h
   ·exact absurd ((ltB_lt _ _).1 (h3 p h)) (by omega)
   ·cases B with
    |nil=>cases h
    |cons b B=>
     obtain⟨_,p2,_⟩:=List.pairwise_append.1 hl
     rcases List.mem_cons.1 h with rfl|h
     ·rfl
     ·have h1:=List.rel_of_pairwise_cons p2 h
      exact absurd h1 (hB b (by simp))
open Go.PA
open Go.RowKit
set_option maxHeartbeats 1000000 in
theorem bwait_m {row src:Option Nat} (l:List TPayment) (p:TPayment) (id:Nat) (y z:AV) (H:Heap) (hl:l.length≤100000) (hs0:l.Pairwise Bef) (ho:H[id]?=some (some ⟨81,5,encL TPayment.cells l⟩)) (cy:y.cellish=true) (cz:z.cellish=true):
  MFun Tryz.prog row src 172 [.agg [.sref id 0 l.length,y,z],.agg p.cells] H (fun r H'=>∃jd,r= .agg [.sref jd 0 (l.length+1),y,z]∧(jd=id∨H.length≤jd)∧H'[jd]?=some (some ⟨81,5,encL TPayment.cells (ins befB l p)⟩)∧Kept [id] H H'):=by
 obtain⟨C,hC⟩:∃C:AV→Heap→Prop,C=fun r H'=>∃jd,r= .agg [.sref jd 0 (l.length+1),y,z]∧(jd=id∨H.length≤jd)∧H'[jd]?=some (some ⟨81,5,encL TPayment.cells (ins befB l p)⟩)∧Kept [id] H H':=⟨_,rfl⟩
 rw[←hC]
 have ex:∃r H',C r H':=⟨.agg [.sref H.length 0 (l.length+1),y,z],H++[some ⟨81,5,encL TPayment.cells (ins befB l p)⟩],by
  rw[hC]
  exact⟨H.length,rfl,.inr (Nat.le_refl _),by simp,kept_app _ _ _⟩⟩
 obtain⟨k,hk,hm,hi⟩:=ins_place (p:=p) hs0
 refine mfun_intro Tryz.func172 rfl (by simp[Tryz.f172]) (by kernel_rfl) (ex) ?_
 intro E hP hr hs hN
 have ip:=imm_pay p
 have il:=imm_pays l
 have lid:=(gsI ho)
 rw[cPy]at ip
 simp -dsimp -implicitDefEqProofs [-getElem?_pos,go_sem,hP,cPy,cy,cz]
 obtain⟨H1,hH1⟩:∃H1:Heap,H1=H++[some ⟨32,3,[[.sref id 0 l.length,y,z]]⟩,some ⟨81,5,[[iv p.Warrant,iv p.Payee,iv p.Amount,iv p.Due,iv p.Sub]]⟩,some ⟨32,3,[[.nil,.nil,.nil]]⟩]:=⟨_,rfl⟩
 have l1:H1.length=H.length+3:=by rw[hH1];simp
 have k1:Kept [] H H1:=by rw[hH1];exact kept_app _ _ _
 have a0:H1[H.length]?=some (some ⟨32,3,[[.sref id 0 l.length,y,z]]⟩):=by rw[hH1];simp
 have a1:H1[H.length+1]?=some (some ⟨81,5,[[iv p.Warrant,iv p.Payee,iv p.Amount,iv p.Due,iv p.Sub]]⟩):=by rw[hH1,List.getElem?_append_right (by omega)];simp
 have a2:H1[H.length+2]?=some (some ⟨32,3,[[.nil,.nil,.nil]]⟩):=by rw[hH1,List.getElem?_append_right (by omega)];simp
 have aid:=k1 _ _ (by simp) ho
 simp only[←hH1]
 refine callB_flat ((bsf_pf l p k (by omega) hk hm).lift _ _) hP en_246 (args_sref aid (by rw[encL_len]) il (args_imm ip (args_fnc rfl (by simp) (args_nil.2 trivial)))) ⟨_,true,rfl⟩ (by rintro r ⟨b,rfl⟩;simp[flat_tup,flat_sc]) ?_
 rintro r ⟨b,rfl⟩
 simp -dsimp -implicitDefEqProofs [-getElem?_pos,go_sem,hP,a0,a1,l1]
 have insm:=fun {row src:Option Nat}=>insert_m_pay (row:=row) (src:=src) (encL TPayment.cells l) [iv p.Warrant,iv p.Payee,iv p.Amount,iv p.Due,iv p.Sub] k id H1 (by rw[encL_len];exact hk) (by rw[encL_len];omega) aid (by simp)
 rw[encL_len]at insm
 refine callB_m (by rw[hr,hs];exact insm) hP en_248 ?_
 rintro r H3 ⟨jd,rfl,hjd,hoj,hk3⟩
 have c0:=hk3 _ _ (by simp;omega) a0
 have c2:=hk3 _ _ (by simp;omega) a2
 have lt0:=(gsI c0)
 have lt2:=(gsI c2)
 have n02:¬H.length=H.length+2:=by omega
 simp -dsimp -implicitDefEqProofs [-getElem?_pos,go_sem,hP,c0,lt0,c2,lt2,cy,cz]
 rw[hC]
 have ei:(encL TPayment.cells l).take k++[iv p.Warrant,iv p.Payee,iv p.Amount,iv p.Due,iv p.Sub]::(encL TPayment.cells l).drop k=encL TPayment.cells (ins befB l p):=by
  rw[hi,encL_takeE,encL_dropE]
  simp[encL,cPy]
 refine⟨jd,rfl,?_,?_,?_⟩
 ·omega
 ·rw[List.getElem?_set_ne (by omega),List.getElem?_set_ne (by omega),hoj,ei]
 ·refine kept_new _ (by omega) ?_
  refine kept_new _ (by omega) ?_
  exact (k1.mono (by simp)).trans hk3
open Go.PA
open Go.RowKit
theorem cw_zeroQ {H:Heap}:CW H [.nil,.nil,.nil] zeroQ.cells:=cw_nil (cw_nil (cw_nil .nil))
theorem done_zeroQ {H:Heap} {n:Int} {Q:AV→Prop} {b:Bx Q} (h:Q (.tup [.agg zeroQ.cells,iv n])):Done H (.tup [.agg [.nil,.nil,.nil],iv n]) Q b:=done_agg2 cw_zeroQ h
theorem intRows_take (l:List Int) (k:Nat):(intRows l).take k=intRows (l.take k):=by simp[intRows,List.map_take]
theorem intRows_drop (l:List Int) (k:Nat):(intRows l).drop k=intRows (l.drop k):=by simp[intRows,List.map_drop]
set_option maxHeartbeats 1000000 in
theorem badd_pf (q:TQueue) (p:TPayment) (hf:FitQ q):PFun Tryz.prog none none 110 [.agg q.cells,.agg p.cells] (·= .tup [.agg (addQ q p).1.cells,iv (addQ q p).2]):=by
 refine pfun_intro Tryz.func110 rfl (by simp[Tryz.f110]) (by kernel_rfl) ?_
 intro E hP hr hs hW hN
 have ck:=bcheck_pf q hf
 have iq:=imm_que q
 have ipp:=imm_pay p
 have ip:=imm_pays q.Waiting
 have i2:=imm_ints q.Known
 have i3:=imm_bats q.Batches
 rw[cQu]at ck iq
 rw[cPy]at ipp
 simp only[intsL]at i2 ck iq
 simp -dsimp -implicitDefEqProofs [-getElem?_pos,go_sem,hP,cQu,cPy,intsL]
 refine callB_is (ck.lift _ _) hP en_135 (by simpa using iq) .sc ?_
 by_cases c1:checkQ q=0
 rotate_left
 ·have:addQ q p=(zeroQ,checkQ q):=by rw[addQ,if_neg c1]
  simp -dsimp -implicitDefEqProofs [-getElem?_pos,go_sem,hP,c1]
  refine done_zeroQ ?_
  rw[this]
 have hq:=checkQ_iff.1 c1
 obtain⟨k,hk,hm,hi,hin⟩:=ins_placeK (p:=p.Warrant) hq.ks
 have bs:=bsearch_pf q.Known p.Warrant k (by have:=hf.k;omega) hk hm
 simp only[intsL]at bs
 have py:=bpay_pf p
 rw[cPy]at py
 simp -dsimp -implicitDefEqProofs [-getElem?_pos,go_sem,hP,c1]
 refine callB_is (bs.lift _ _) hP en_170 (by simpa[imm_sc]using i2) (imm_pair .sc .sc) ?_
 simp -dsimp -implicitDefEqProofs [-getElem?_pos,go_sem,hP]
 refine callB_is (py.lift _ _) hP en_171 (by simpa using ipp) .sc ?_
 cases c2:payPB p
 ·have:addQ q p=(zeroQ,64):=by rw[addQ,if_pos c1,if_neg (by simp[c2])]
  simp -dsimp -implicitDefEqProofs [-getElem?_pos,go_sem,hP,c2]
  refine done_zeroQ ?_
  rw[this]
 by_cases c3:p.Warrant∈q.Known
 ·have d3:decide (q.Known[k]?=some p.Warrant)=true:=decide_eq_true (hin.2 c3)
  have:addQ q p=(zeroQ,65):=by rw[addQ,if_pos c1,if_pos c2,if_pos c3]
  simp -dsimp -implicitDefEqProofs [-getElem?_pos,go_sem,hP,c2,d3,hin.2 c3]
  refine done_zeroQ ?_
  rw[this]
 have d3:decide (q.Known[k]?=some p.Warrant)=false:=decide_eq_false (mt hin.1 c3)
 by_cases c4:q.Waiting.length=100
 ·have d4:decide ((q.Waiting.length:Int)=100)=true:=decide_eq_true (by omega)
  have:addQ q p=(zeroQ,3):=by rw[addQ,if_pos c1,if_pos c2,if_neg c3,if_pos (.inl c4)]
  simp -dsimp -implicitDefEqProofs [-getElem?_pos,go_sem,hP,c2,d3,d4,mt hin.1 c3]
  refine done_zeroQ ?_
  rw[this]
 have d4:decide ((q.Waiting.length:Int)=100)=false:=decide_eq_false (by omega)
 by_cases c5:q.Known.length=200
 ·have d5:decide ((q.Known.length:Int)=200)=true:=decide_eq_true (by omega)
  have:addQ q p=(zeroQ,3):=by rw[addQ,if_pos c1,if_pos c2,if_neg c3,if_pos (.inr c5)]
  simp -dsimp -implicitDefEqProofs [-getElem?_pos,go_sem,hP,c2,d3,d4,d5,mt hin.1 c3]
  refine done_zeroQ ?_
  rw[this]
 have d5:decide ((q.Known.length:Int)=200)=false:=decide_eq_false (by omega)
 have hadd:addQ q p=(⟨ins befB q.Waiting p,ins ltB q.Known p.Warrant,q.Batches⟩,0):=by rw[addQ,if_pos c1,if_pos c2,if_neg c3,if_neg (by omega)]
 rw[hadd]
 simp -dsimp -implicitDefEqProofs [-getElem?_pos,go_sem,hP,c2,d3,d4,d5,mt hin.1 c3]
 obtain⟨H2,hH2⟩:∃H2:Heap,H2=[some ⟨32,3,[[paysL q.Waiting,.list 1 (q.Known.map fun x=>[iv x]),batsL q.Batches]]⟩,some ⟨81,5,[[iv p.Warrant,iv p.Payee,iv p.Amount,iv p.Due,iv p.Sub]]⟩,some ⟨32,3,[[.nil,.nil,.nil]]⟩]:=⟨_,rfl⟩
 have b0:H2[0]?=some (some ⟨32,3,[[paysL q.Waiting,.list 1 (q.Known.map fun x=>[iv x]),batsL q.Batches]]⟩):=by rw[hH2];rfl
 have b1:H2[1]?=some (some ⟨81,5,[[iv p.Warrant,iv p.Payee,iv p.Amount,iv p.Due,iv p.Sub]]⟩):=by rw[hH2];rfl
 have b2:H2[2]?=some (some ⟨32,3,[[.nil,.nil,.nil]]⟩):=by rw[hH2];rfl
 have l2:H2.length=3:=by rw[hH2];rfl
 simp only[←hH2]
 have D:∀i,decide (i<3)=true→i=0∨i=1∨i=2:=fun i hi=>by
  simp only[decide_eq_true_eq]at hi
  omega
 refine adrawB (fun i=>decide (i<3)) [4] hP (by kernel_rfl) (by kernel_rfl) ?_
 simp -dsimp -implicitDefEqProofs [-getElem?_pos,go_sem,hP,b0,l2]
 refine callB_m (by rw[hr,hs];exact bcopy_m q H2 hf) hP en_173 ?_
 rintro r H3 ⟨j1,j2,x,rfl,hj1,hj2,n12,o1,o2,⟨B,hB1,hB2,hg⟩,hk3⟩
 have e0:=hk3 _ _ (by simp) b0
 have e1:=hk3 _ _ (by simp) b1
 have e2:=hk3 _ _ (by simp) b2
 have g0:=(gsI e0)
 have g1:=(gsI e1)
 have g2:=(gsI e2)
 have t1:=(gsI o1)
 have t2:=(gsI o2)
 have hc:=hg.cellish
 simp -dsimp -implicitDefEqProofs [-getElem?_pos,go_sem,hP,e1,g1]
 refine⟨agree_live hk3 fun i hi=>⟨by simp,?_⟩,?_⟩
 ·rcases D i hi with rfl|rfl|rfl
  ·exact⟨_,b0⟩
  ·exact⟨_,b1⟩
  ·exact⟨_,b2⟩
 have wm:=fun {row src:Option Nat}=>bwait_m (row:=row) (src:=src) q.Waiting p j1 (.sref j2 0 q.Known.length) x H3 (by have:=hq.lw;omega) hq.asc.ord o1 rfl hc
 rw[cPy]at wm
 refine callB_m (by rw[hr,hs];exact wm) hP en_172 ?_
 rintro r H4 ⟨jd,rfl,hjd,oj,hk4⟩
 have f0:=hk4 _ _ (by simp;omega) e0
 have f1:=hk4 _ _ (by simp;omega) e1
 have f2:=hk4 _ _ (by simp;omega) e2
 have p2:=hk4 _ _ (by simp;omega) o2
 have s0:=(gsI f0)
 have s1:=(gsI f1)
 have s2:=(gsI f2)
 have sj:=(gsI oj)
 have sj2:=(gsI p2)
 have hg4:=hg.kept hk4 (by simp;omega)
 refine⟨fun _=>agree_live hk4 fun i hi=>⟨by simp only[List.mem_singleton];rcases D i hi with rfl|rfl|rfl<;>omega,?_⟩,?_⟩
 ·rcases D i hi with rfl|rfl|rfl
  ·exact⟨_,e0⟩
  ·exact⟨_,e1⟩
  ·exact⟨_,e2⟩
 simp -dsimp -implicitDefEqProofs [-getElem?_pos,go_sem,hP,f0,s0,hc,f1,s1]
 generalize hH5:List.set H4 0 _=H5
 have l5:H5.length=H4.length:=by rw[←hH5];simp
 have v0:H5[0]?=some (some ⟨32,3,[[.sref jd 0 (q.Waiting.length+1),.sref j2 0 q.Known.length,x]]⟩):=by rw[←hH5,List.getElem?_set_self s0]
 have v1:H5[1]?=H4[1]?:=by rw[←hH5,List.getElem?_set_ne (by omega)]
 have v2:H5[2]?=H4[2]?:=by rw[←hH5,List.getElem?_set_ne (by omega)]
 have vj:H5[jd]?=H4[jd]?:=by rw[←hH5,List.getElem?_set_ne (by omega)]
 have vj2:H5[j2]?=H4[j2]?:=by rw[←hH5,List.getElem?_set_ne (by omega)]
 rw[f1]at v1
 rw[f2]at v2
 rw[oj]at vj
 rw[p2]at vj2
 have k5:Kept [0] H4 H5:=by rw[←hH5];exact kept_set _ (by simp) (kept_refl _ _)
 have hg5:=hg4.kept k5 (by simp;omega)
 have insm:=fun {row src:Option Nat}=>insert_m_int (row:=row) (src:=src) (intRows q.Known) [iv p.Warrant] k j2 H5 (by rw[intRows_len];exact hk) (by rw[intRows_len];have:=hf.k;omega) vj2 (by simp)
 rw[intRows_len,intRows_take,intRows_drop]at insm
 refine callB_m (by rw[hr,hs];exact insm) hP en_174 ?_
 rintro r H6 ⟨jk,rfl,hjk,ok,hk6⟩
 have w0:=hk6 _ _ (by simp;omega) v0
 have w2:=hk6 _ _ (by simp;omega) v2
 have wj:=hk6 _ _ (by simp;omega) vj
 have hg6:=hg5.kept hk6 (by simp;omega)
 have x0:=(gsI w0)
 have x2:=(gsI w2)
 simp -dsimp -implicitDefEqProofs [-getElem?_pos,go_sem,hP,w0,w2,x0,x2,hc]
 have ei:intRows (q.Known.take k)++[iv p.Warrant]::intRows (q.Known.drop k)=intRows (ins ltB q.Known p.Warrant):=by rw[hi];simp[intRows]
 rw[ei]at ok
 refine done_agg2 (cs':=(TQueue.mk (ins befB q.Waiting p) (ins ltB q.Known p.Warrant) q.Batches).cells) ?_ rfl
 refine cw_sref (ty:=81) ?_ (by rw[encL_len,ins_len]) (imm_pays _) (cw_sref (ty:=3) (es:=intRows (ins ltB q.Known p.Warrant)) ?_ (by rw[intRows_len,ins_len]) (imm_ints _) (((hg6.kept (X:=[0]) (kept_set _ (by simp) (kept_refl _ _)) (by simp;omega)).kept (X:=[2]) (kept_set _ (by simp) (kept_refl _ _)) (by simp;omega)).cw (imm_bats _) .nil))
 ·rw[List.getElem?_set_ne (by omega),List.getElem?_set_ne (by omega),wj]
 ·rw[List.getElem?_set_ne (by omega),List.getElem?_set_ne (by omega),ok]
end Go.Proofs.YtaenimpfelpafaaGreatDoor
namespace Go.PA
open Go.RowKit
section
variable {E:Env}
theorem iref_sound {w:World} {ρ:Places} {H:Heap} {ok:Nat→Prop} (X:Nat→Prop) (g:Good E w ρ H ok) {v:Value} {id i j:Nat} {cs:List AV} (hra:Rep w ρ H ok v (.ref id i j)) (has:addrCells H (.ref id i j)=some cs) (him:∀c,c∈cs→Imm c) (hX:X id):RepI w (okX X ρ H ok) v (.iref cs):=by
 obtain⟨o,b,cap,ho,hρ,hcap,rfl⟩:=rep_live_ref hra has
 obtain⟨ad,he,f',hf⟩:=addr_sound g hra has
 simp only[Value.pointer.injEq,Option.some.injEq]at he
 subst he
 exact .iref f' (.inr ⟨id,o,cap,hX,ho,hρ⟩) (fun j a hj=>(hf j a hj).1) (fun j a hj=>(hf j a hj).2.1) (fun j a hj=>(hf j a hj).2.2.imm (fun _ h=> .inl h) (him a (List.mem_of_getElem? hj)))
theorem weaker_iref {s:St} (j:Nat) {id:Nat} {cs:List AV} (hW:∀b,¬E.W b) (ht:s.t j= .ref id 0 0) (has:addrCells s.H (.ref id 0 0)=some cs) (him:∀c,c∈cs→Imm c):Weaker E s ⟨upd s.t j (.iref cs),s.H.set id none⟩:=by
 rintro a w ⟨ρ,ok,g,hx,hd,hs,hr⟩
 obtain⟨ok',g1,x1,hok⟩:=g.freeze [id] hW
 refine⟨ρ,ok',g1,hx.trans x1,hd,hs,fun i=>?_⟩
 simp only[upd]
 split
 ·rename_i hi
  have hri:=hr i
  rw[hi,ht]at hri
  rw[hi]
  exact Rep.imm (iref_sound (·∈[id]) g hri has him (by simp)) hok (imm_iref.2 him)
 ·exact (hr i).ext x1
theorem weaker_frzcell {s:St} {o id ty k ty' kk n r c:Nat} {es fs:List (List AV)} {e:List AV} (hW:∀b,¬E.W b) (ho:s.H[o]?=some (some ⟨ty,k,es⟩)) (hk:k≠2) (he:es[r]?=some e) (hc:e[c]?=some (.sref id 0 n))
  (hid:s.H[id]?=some (some ⟨ty',kk,fs⟩)) (hn:n=fs.length) (hi:Imm (.list kk fs)) (hne:o≠id):Weaker E s ⟨s.t,(s.H.set id none).set o (some ⟨ty,k,es.set r (e.set c (.list kk fs))⟩)⟩:=by
 rintro a w ⟨ρ,ok,g,hx,hd,hs,hr⟩
 obtain⟨ok',g1,x1,hok⟩:=g.freeze [id] hW
 have g1:Good E w ρ (s.H.set id none) ok':=g1
 have x1:Ext w ρ s.H ok w ρ (s.H.set id none) ok':=x1
 have ho1:(s.H.set id none)[o]?=some (some ⟨ty,k,es⟩):=by rw[List.getElem?_set_ne (Ne.symm hne)];exact ho
 have hobj:=g.obj o _ ho
 have hlen:=g.len o _ ho
 have hmem:=List.mem_of_getElem? he
 have hv:view1 s.H (.sref id 0 n)= .list kk fs:=by
  simp only[view1,hid,List.drop_zero]
  rw[hn,List.take_length]
 cases hρ:ρ o with
 |none=>
  rw[hρ]at hobj
  have:es=[]:=hobj
  rw[this]at he
  cases he
 |some bc=>
  obtain⟨b,cap⟩:=bc
  rw[hρ]at hobj
  rcases hobj with⟨cur,h1,h2,h3,h4,h5⟩|⟨_,hk',_⟩|⟨_,hk',hit⟩
  ·obtain⟨g',x'⟩:=g1.change (w':=w) ho1 hρ ⟨ty,k,es.set r (e.set c (.list kk fs))⟩ rfl (by simp) (fun e' he'=>by
    rcases List.mem_or_eq_of_mem_set he' with he'|rfl
    ·exact hlen e' he'
    ·rw[List.length_set];exact hlen e hmem) rfl rfl rfl rfl (fun _ _=>rfl) fun hx'=> .inl ⟨cur,h1,h2,by simpa using h3,h4,fun i e' j a' hie hja=>by
     by_cases hir:i=r
     ·subst hir
      have hil:=(gsI he)
      rw[List.getElem?_set_self hil,Option.some.injEq]at hie
      subst hie
      by_cases hjc:j=c
      ·subst hjc
       have hjl:=(gsI hc)
       rw[List.getElem?_set_self hjl,Option.some.injEq]at hja
       subst hja
       obtain⟨v,v1,v2,v3⟩:=h5 i e j _ he hc
       refine⟨v,v1,v2,?_⟩
       have hri:=view1_soundX (·∈[id]) g v3 (by rw[hv];exact hi) (by simp[srefs1])
       rw[hv]at hri
       exact (Rep.imm hri hok hi).ext hx'
      ·rw[List.getElem?_set_ne (Ne.symm hjc)]at hja
       obtain⟨v,v1,v2,v3⟩:=h5 i e j _ he hja
       exact⟨v,v1,v2,(v3.ext x1).ext hx'⟩
     ·rw[List.getElem?_set_ne (Ne.symm hir)]at hie
      obtain⟨v,v1,v2,v3⟩:=h5 i e' j _ hie hja
      exact⟨v,v1,v2,(v3.ext x1).ext hx'⟩⟩
   exact⟨ρ,ok',g',hx.trans (x1.trans x'),hd,hs,fun i=>((hr i).ext x1).ext x'⟩
  ·exact absurd hk' hk
  ·exfalso
   rcases hit with⟨hes,_⟩|⟨m,clk,seen,ents,c1,c2,_,_,_,_,hes,hcc⟩
   ·have hes:es=[[.junk,.junk,.imap []]]:=hes
    subst hes
    have:e=[.junk,.junk,.imap []]:=by
     rcases r with _|r
     ·simpa using he.symm
     ·simp at he
    subst this
    rcases c with _|_|_|c<;>simp at hc
   ·have hes:es=[[c1,c2,.imap ((ents.toList.filter fun e=>!seen.contains e.born).map fun e=>(e.key,e.val))]]:=hes
    subst hes
    have:e=[c1,c2,.imap ((ents.toList.filter fun e=>!seen.contains e.born).map fun e=>(e.key,e.val))]:=by
     rcases r with _|r
     ·simpa using he.symm
     ·simp at he
    subst this
    rcases hcc with⟨rfl,rfl⟩|⟨x,_,_,rfl,rfl⟩<;>rcases c with _|_|_|c<;>simp at hc
def AInv (E:Env) (Inv:St→Prop) (s:St):Prop:=∃s',Weaker E s s'∧Inv s'
theorem Weaker.refl (s:St):Weaker E s s:=fun _ _ h=>h
theorem awp_join {a b:Code} {s:St} {Q:Exit→St→Prop} (Inv:St→Prop) (hc:codeOk E.N a=true) (h:awp E a s (Athen (fun s'=>AInv E Inv s') Q)) (hk:∀s',Inv s'→AWp E b s' Q):AWp E (.seq a b) s Q:=by
 intro x w r
 refine wp_seq (wp_mono (awp_sound a s _ hc h x w r) fun e a' w' h'=>?_)
 obtain⟨s',h1,h2⟩:=h'
 cases e with
 |normal=>
  obtain⟨s2,k1,k2⟩:=h1
  exact hk s2 k2 a' w' (k1 a' w' h2)
 |_=>exact⟨s',h1,h2⟩
end
end Go.PA
namespace Go.Proofs.YtaenimpfelpafaaGreatDoor
open Go.PA
open Go.RowKit
theorem cw_srefT {H:Heap} {id n:Nat} {ty:TypeId} {k:Nat} {es tl:List (List AV)} {xs xs':List AV} (hH:H[id]?=some (some ⟨ty,k,es++tl⟩)) (hn:n=es.length) (hi:Imm (.list k es)) (t:CW H xs xs'):CW H (.sref id 0 n::xs) (.list k es::xs'):=by
 have hv:view1 H (.sref id 0 n)= .list k es:=by rw[view1_sref,hH,viewS_some];simp[hn]
 exact .cons (by rw[hv];exact .refl _) (by rw[hv];exact hi) hi t
theorem done_srefT {H:Heap} {id n:Nat} {ty:TypeId} {k:Nat} {es tl:List (List AV)} {Q:AV→Prop} {b:Bx Q} (hH:H[id]?=some (some ⟨ty,k,es++tl⟩)) (hn:n=es.length) (hi:Imm (.list k es)) (hq:Q (.list k es)):Done H (.sref id 0 n) Q b:=by
 have hv:view H (.sref id 0 n)= .list k es:=by rw[view_sref,hH,viewS_some];simp[hn]
 exact done_weak (by rw[hv];exact hi) hi (by rw[hv];exact .refl _) hq
theorem ready1_pf (p:TPayment) (day:Int):PFun Tryz.prog none none 184 [.agg p.cells,.iref [iv day]] (·=bv (decide (day<p.Due))):=by
 refine pfun_intro Tryz.func184 rfl (by simp[Tryz.f184]) (by kernel_rfl) ?_
 intro E hP hr hs hW hN
 simp -dsimp -implicitDefEqProofs [-getElem?_pos,go_sem,hP,cPy]
set_option maxHeartbeats 1000000 in
theorem bready_pf (q:TQueue) (day:Int) (hf:FitQ q):PFun Tryz.prog none none 119 [.agg q.cells,iv day] (·=paysL (readyQ q day)):=by
 refine pfun_introA Tryz.func119 rfl (by simp[Tryz.f119]) ?_
 intro E hP hr hs hW hN
 have ck:=bcheck_pf q hf
 have iq:=imm_que q
 have ip:=imm_pays q.Waiting
 have i2:=imm_ints q.Known
 have i3:=imm_bats q.Batches
 rw[cQu]at ck iq
 simp only[intsL]at i2 ck iq
 refine awp_cut (by rw[hN];kernel_rfl) ?_
 simp -dsimp -implicitDefEqProofs [-getElem?_pos,go_sem,hP,cQu,intsL]
 refine AWp.weaken (weaker_iref 3 (id:=1) (cs:=[iv day]) hW (by simp -dsimp[-getElem?_pos,go_sem]) (by simp -dsimp[-getElem?_pos,go_sem]) (by simp[imm_sc])) ?_
 refine awp_sound _ _ _ (by rw[hN];kernel_rfl) ?_
 simp -dsimp -implicitDefEqProofs [-getElem?_pos,go_sem,hP]
 refine callB_is (ck.lift _ _) hP en_135 (by simpa using iq) .sc ?_
 by_cases c1:checkQ q=0
 rotate_left
 ·have:readyQ q day=[]:=by rw[readyQ,if_neg c1]
  simp -dsimp -implicitDefEqProofs [-getElem?_pos,go_sem,hP,c1]
  exact done_weak .nil (imm_list.2 (by simp)) (.nil 5) (by rw[this];rfl)
 have hrd:readyQ q day=q.Waiting.filter (fun p=>decide (p.Due≤day)):=by rw[readyQ,if_pos c1]
 rw[hrd]
 simp -dsimp -implicitDefEqProofs [-getElem?_pos,go_sem,hP,c1]
 obtain⟨H2,hH2⟩:∃H2:Heap,H2=[some ⟨32,3,[[paysL q.Waiting,.list 1 (q.Known.map fun x=>[iv x]),batsL q.Batches]]⟩,none]:=⟨_,rfl⟩
 simp only[←hH2]
 refine callB_m (by rw[hr,hs];exact clone_m_pay q.Waiting H2 (by have:=hf.w;omega)) hP en_63 ?_
 rintro r H3 ⟨id,rfl,hid,ho,hk⟩
 simp -dsimp -implicitDefEqProofs [-getElem?_pos,go_sem,hP,viewR_iref]
 refine callB_m (by rw[hr,hs];exact deleteFunc_m_pay q.Waiting id H3 184 [.iref [iv day]] [.iref [iv day]] (fun p=>decide (day<p.Due)) (by have:=hf.w;omega) ho en_184 (by simp[imm_iref,imm_sc]) (fun H' _=>⟨args_imm (by simp[imm_iref,imm_sc]) (args_nil.2 trivial),by simp[viewR_iref]⟩) (fun p _=>ready1_pf p day)) hP en_183 ?_
 rintro r H4 ⟨tl,rfl,ho4,hk4⟩
 have ef:(q.Waiting.filter fun a=>!decide (day<a.Due))=q.Waiting.filter fun p=>decide (p.Due≤day):=by
  refine List.filter_congr fun p _=>?_
  by_cases h:day<p.Due
  ·simp[h,show¬p.Due≤day by omega]
  ·simp[h,show p.Due≤day by omega]
 rw[ef]at ho4
 simp -dsimp -implicitDefEqProofs [-getElem?_pos,go_sem,hP]
 exact done_srefT ho4 (by rw[encL_len,ef]) (imm_pays _) rfl
set_option maxHeartbeats 1000000 in
theorem bdrop_pf (q:TQueue) (w:Int) (hf:FitQ q):PFun Tryz.prog none none 127 [.agg q.cells,iv w] (·= .tup [.agg (dropQ q w).1.cells,iv (dropQ q w).2]):=by
 refine pfun_intro Tryz.func127 rfl (by simp[Tryz.f127]) (by kernel_rfl) ?_
 intro E hP hr hs hW hN
 have ck:=bcheck_pf q hf
 have iq:=imm_que q
 have ip:=imm_pays q.Waiting
 have i2:=imm_ints q.Known
 have i3:=imm_bats q.Batches
 have wt:=bwaits_pf q w (by have:=hf.w;omega)
 rw[cQu]at ck iq wt
 simp only[intsL]at i2 ck iq wt
 simp -dsimp -implicitDefEqProofs [-getElem?_pos,go_sem,hP,cQu,intsL]
 refine callB_is (ck.lift _ _) hP en_135 (by simpa using iq) .sc ?_
 by_cases c1:checkQ q=0
 rotate_left
 ·have:dropQ q w=(zeroQ,checkQ q):=by rw[dropQ,if_neg c1]
  simp -dsimp -implicitDefEqProofs [-getElem?_pos,go_sem,hP,c1]
  refine done_zeroQ ?_
  rw[this]
 have hq:=checkQ_iff.1 c1
 simp -dsimp -implicitDefEqProofs [-getElem?_pos,go_sem,hP,c1]
 refine callB_is (wt.lift _ _) hP en_189 (by simpa[imm_sc]using iq) .sc ?_
 by_cases c2:waitQ q w<0
 ·have d2:decide (waitQ q w<0)=true:=decide_eq_true c2
  have:dropQ q w=(zeroQ,6):=by rw[dropQ,if_pos c1,if_pos c2]
  simp -dsimp -implicitDefEqProofs [-getElem?_pos,go_sem,hP,d2]
  refine done_zeroQ ?_
  rw[this]
 have d2:decide (waitQ q w<0)=false:=decide_eq_false c2
 obtain⟨i,p,hi,hip,hpw,hil⟩:=waitQ_some c2
 have hdr:dropQ q w=(⟨q.Waiting.eraseIdx i,q.Known,q.Batches⟩,0):=by rw[dropQ,if_pos c1,if_neg c2,hi];rfl
 rw[hdr]
 rw[hi]at d2
 have lw:=hq.lw
 have w1:=wrap_in ((i:Int)+1) (by omega)
 obtain⟨H2,hH2⟩:∃H2:Heap,H2=[some ⟨32,3,[[paysL q.Waiting,.list 1 (q.Known.map fun x=>[iv x]),batsL q.Batches]]⟩,some ⟨32,3,[[.nil,.nil,.nil]]⟩]:=⟨_,rfl⟩
 have b0:H2[0]?=some (some ⟨32,3,[[paysL q.Waiting,.list 1 (q.Known.map fun x=>[iv x]),batsL q.Batches]]⟩):=by rw[hH2];rfl
 have b1:H2[1]?=some (some ⟨32,3,[[.nil,.nil,.nil]]⟩):=by rw[hH2];rfl
 have l2:H2.length=2:=by rw[hH2];rfl
 simp -dsimp -implicitDefEqProofs [-getElem?_pos,go_sem,hP,hi,d2]
 simp only[←hH2]
 refine callB_m (by rw[hr,hs];exact bcopy_m q H2 hf) hP en_173 ?_
 rintro r H3 ⟨j1,j2,x,rfl,hj1,hj2,n12,o1,o2,⟨B,hB1,hB2,hg⟩,hk3⟩
 have e0:=hk3 _ _ (by simp) b0
 have e1:=hk3 _ _ (by simp) b1
 have g0:=(gsI e0)
 have g1:=(gsI e1)
 have hc:=hg.cellish
 have n0:¬j1=0:=by omega
 have n1:¬j2=0:=by omega
 simp -dsimp -implicitDefEqProofs [-getElem?_pos,go_sem,hP,e0,g0,hc,w1]
 generalize hH4:List.set H3 0 _=H4
 have v0:H4[0]?=some (some ⟨32,3,[[.sref j1 0 q.Waiting.length,.sref j2 0 q.Known.length,x]]⟩):=by rw[←hH4,List.getElem?_set_self g0]
 have v1:H4[1]?=H3[1]?:=by rw[←hH4,List.getElem?_set_ne (by omega)]
 have vj:H4[j1]?=H3[j1]?:=by rw[←hH4,List.getElem?_set_ne (by omega)]
 have vj2:H4[j2]?=H3[j2]?:=by rw[←hH4,List.getElem?_set_ne (by omega)]
 rw[e1]at v1
 rw[o1]at vj
 rw[o2]at vj2
 have k4:Kept [0] H3 H4:=by rw[←hH4];exact kept_set _ (by simp) (kept_refl _ _)
 have hg4:=hg.kept k4 (by simp;omega)
 have delm:=fun {row src:Option Nat}=>delete_m_pay (row:=row) (src:=src) (encL TPayment.cells q.Waiting) i j1 H4 (by rw[encL_len];exact hil) (by rw[encL_len];omega) vj
 rw[encL_len,encL_takeE,encL_dropE,encL_appE]at delm
 refine callB_m (by rw[hr,hs];exact delm) hP en_190 ?_
 rintro r H5 ⟨tl,rfl,o5,hk5⟩
 have f0:=hk5 _ _ (by simp;omega) v0
 have f1:=hk5 _ _ (by simp;omega) v1
 have p2:=hk5 _ _ (by simp;omega) vj2
 have s0:=(gsI f0)
 have s1:=(gsI f1)
 have hg5:=hg4.kept hk5 (by simp;omega)
 simp -dsimp -implicitDefEqProofs [-getElem?_pos,go_sem,hP,f0,s0,f1,s1,hc]
 have ee:q.Waiting.take i++q.Waiting.drop (i+1)=q.Waiting.eraseIdx i:=(List.eraseIdx_eq_take_drop_succ _ _).symm
 rw[ee]at o5
 refine done_agg2 (cs':=(TQueue.mk (q.Waiting.eraseIdx i) q.Known q.Batches).cells) ?_ rfl
 refine cw_srefT (ty:=81) (tl:=tl) ?_ (by rw[encL_len,List.length_eraseIdx,if_pos hil]) (imm_pays _) (cw_sref (ty:=3) (es:=intRows q.Known) ?_ (by rw[intRows_len]) (imm_ints _) (((hg5.kept (X:=[0]) (kept_set _ (by simp) (kept_refl _ _)) (by simp;omega)).kept (X:=[1]) (kept_set _ (by simp) (kept_refl _ _)) (by simp;omega)).cw (imm_bats _) .nil))
 ·rw[List.getElem?_set_ne (by omega),List.getElem?_set_ne (by omega),o5]
 ·rw[List.getElem?_set_ne (by omega),List.getElem?_set_ne (by omega),p2]
open Go.PA
open Go.RowKit
theorem imm_trip {a b c:AV} (ha:Imm a) (hb:Imm b) (hc:Imm c):Imm (.tup [a,b,c]):=by
 refine .tup fun x hx=>?_
 simp only[List.mem_cons,List.not_mem_nil,or_false]at hx
 rcases hx with rfl|rfl|rfl<;>assumption
theorem weak_tup3 {a b c a' b' c':AV} (ha:Weak a a') (hb:Weak b b') (hc:Weak c c'):Weak (.tup [a,b,c]) (.tup [a',b',c']):=by
 refine .tup rfl fun i x y hx hy=>?_
 match i,hx,hy with
 |0,hx,hy=>simp at hx hy;subst hx;subst hy;exact ha
 |1,hx,hy=>simp at hx hy;subst hx;subst hy;exact hb
 |2,hx,hy=>simp at hx hy;subst hx;subst hy;exact hc
 |i+3,hx,hy=>simp at hx
theorem done_trip {H:Heap} {cs cs' ds ds':List AV} {v:Value} {Q:AV→Prop} {b:Bx Q} (h:CW H cs cs') (h2:CW H ds ds') (hq:Q (.tup [.agg cs',.agg ds',.sc v])):Done H (.tup [.agg cs,.agg ds,.sc v]) Q b:=
 done_weak (imm_trip h.imm h2.imm .sc) (imm_trip h.imm' h2.imm' .sc) (weak_tup3 h.weak h2.weak (.refl _)) hq
theorem cw_zeroB {H:Heap}:CW H [iv 0,iv 0,.nil] zeroB.cells:=cw_imm .sc (cw_imm .sc (cw_nil .nil))
theorem done_zeroQ3 {H:Heap} {n:Int} {Q:AV→Prop} {b:Bx Q} (h:Q (.tup [.agg zeroQ.cells,.agg zeroB.cells,iv n])):Done H (.tup [.agg [.nil,.nil,.nil],.agg [iv 0,iv 0,.nil],iv n]) Q b:=done_trip cw_zeroQ cw_zeroB h
theorem cw_immL {H:Heap}:∀{cs:List AV},(∀a,a∈cs→Imm a)→CW H cs cs
 |[],_=> .nil
 |a::cs,h=>cw_imm (h a (by simp)) (cw_immL fun x hx=>h x (List.mem_cons_of_mem _ hx))
@[go_sem] theorem fsz:szOf Tryz.prog 237=1:=by kernel_rfl
@[go_sem] theorem fkn:knownT Tryz.prog 237=true:=by kernel_rfl
@[go_sem] theorem fag:aggOf Tryz.prog 237=false:=by kernel_rfl
theorem ready1_m {row src:Option Nat} (p:TPayment) (day:Int) (o:Nat) (ty:TypeId) (H:Heap) (ho:H[o]?=some (some ⟨ty,1,[[iv day]]⟩)):MFun Tryz.prog row src 184 [.agg p.cells,.ref o 0 0] H (fun r H'=>r=bv (decide (day<p.Due))∧Kept [] H H'):=by
 refine mfun_intro Tryz.func184 rfl (by simp[Tryz.f184]) (by kernel_rfl) (⟨_,H,rfl,kept_refl _ _⟩) ?_
 intro E hP hr hs hN
 have lt:=(gsI ho)
 simp -dsimp -implicitDefEqProofs [-getElem?_pos,go_sem,hP,cPy,ho,lt]
 exact kept_app _ _ _
theorem take1_m {row src:Option Nat} (p:TPayment) (ws:List Int) (o:Nat) (ty:TypeId) (H:Heap) (hw:ws.length≤1000000) (ho:H[o]?=some (some ⟨ty,1,[[intsL ws]]⟩)):MFun Tryz.prog row src 186 [.agg p.cells,.ref o 0 0] H (fun r H'=>r=bv (takenB ws p)∧Kept [] H H'):=by
 refine mfun_intro Tryz.func186 rfl (by simp[Tryz.f186]) (by kernel_rfl) (⟨_,H,rfl,kept_refl _ _⟩) ?_
 intro E hP hr hs hN
 have lt:=(gsI ho)
 have iw:=imm_ints ws
 simp -dsimp -implicitDefEqProofs [-getElem?_pos,go_sem,hP,cPy,ho,lt]
 refine callB_is ((containsInt_pf ws p.Warrant hw).lift _ _) hP en_187 (by simp[iw,imm_sc]) .sc ?_
 simp -dsimp -implicitDefEqProofs [-getElem?_pos,go_sem,hP,takenB]
 exact kept_app _ _ _
theorem take2_m {row src:Option Nat} (p:TPayment) (ws:List Int) (o o2:Nat) (ty ty2:TypeId) (H:Heap) (hw:ws.length≤1000000) (ho:H[o]?=some (some ⟨ty,1,[[intsL ws]]⟩)) (ho2:H[o2]?=some (some ⟨ty2,1,[[.fn 186 [.ref o 0 0]]]⟩)):
  MFun Tryz.prog row src 188 [.agg p.cells,.ref o2 0 0] H (fun r H'=>r=bv (!takenB ws p)∧Kept [] H H'):=by
 refine mfun_intro Tryz.func188 rfl (by simp[Tryz.f188]) (by kernel_rfl) (⟨_,H,rfl,kept_refl _ _⟩) ?_
 intro E hP hr hs hN
 have lt:=(gsI ho)
 have lt2:=(gsI ho2)
 simp -dsimp -implicitDefEqProofs [-getElem?_pos,go_sem,hP,cPy,ho2,lt2]
 generalize hH2:H++_=H2
 have k2:Kept [] H H2:=by rw[←hH2];exact kept_app _ _ _
 have tm:=fun {row src:Option Nat}=>take1_m (row:=row) (src:=src) p ws o ty H2 hw (k2 _ _ (by simp) ho)
 rw[cPy]at tm
 refine callB_m (by rw[hr,hs];exact tm) hP en_186 ?_
 rintro r H3 ⟨rfl,hk3⟩
 simp -dsimp -implicitDefEqProofs [-getElem?_pos,go_sem,hP]
 exact k2.trans hk3
set_option maxHeartbeats 1000000 in
theorem bready_m {row src:Option Nat} (q:TQueue) (day:Int) (H:Heap) (hf:FitQ q) (c1:checkQ q=0):MFun Tryz.prog row src 119 [.agg q.cells,iv day] H (fun r H'=>∃id tl,r= .sref id 0 (readyQ q day).length∧H.length≤id∧H'[id]?=some (some ⟨81,5,encL TPayment.cells (readyQ q day)++tl⟩)∧Kept [] H H'):=by
 obtain⟨L,hL⟩:∃L,L=readyQ q day:=⟨_,rfl⟩
 have hrd:L=q.Waiting.filter (fun p=>decide (p.Due≤day)):=by rw[hL,readyQ,if_pos c1]
 rw[←hL]
 obtain⟨C,hC⟩:∃C:AV→Heap→Prop,C=fun r H'=>∃id tl,r= .sref id 0 L.length∧H.length≤id∧H'[id]?=some (some ⟨81,5,encL TPayment.cells L++tl⟩)∧Kept [] H H':=⟨_,rfl⟩
 rw[←hC]
 have ex:∃r H',C r H':=⟨.sref H.length 0 L.length,H++[some ⟨81,5,encL TPayment.cells L++[]⟩],by
  rw[hC]
  exact⟨H.length,[],rfl,Nat.le_refl _,by simp,kept_app _ _ _⟩⟩
 refine mfun_intro Tryz.func119 rfl (by simp[Tryz.f119]) (by kernel_rfl) (ex) ?_
 intro E hP hr hs hN
 have ck:=bcheck_pf q hf
 have iq:=imm_que q
 have ip:=imm_pays q.Waiting
 have i2:=imm_ints q.Known
 have i3:=imm_bats q.Batches
 rw[cQu]at ck iq
 simp only[intsL]at i2 ck iq
 simp -dsimp -implicitDefEqProofs [-getElem?_pos,go_sem,hP,cQu,intsL]
 refine callB_is (ck.lift _ _) hP en_135 (by simpa using iq) .sc ?_
 simp -dsimp -implicitDefEqProofs [-getElem?_pos,go_sem,hP,c1]
 generalize hH2:H++_=H2
 have l2:H2.length=H.length+2:=by rw[←hH2];simp
 have k2:Kept [] H H2:=by rw[←hH2];exact kept_app _ _ _
 have b1:H2[H.length+1]?=some (some ⟨3,1,[[iv day]]⟩):=by rw[←hH2,List.getElem?_append_right (by omega)];simp
 refine callB_m (by rw[hr,hs];exact clone_m_pay q.Waiting H2 (by have:=hf.w;omega)) hP en_63 ?_
 rintro r H3 ⟨id,rfl,hid,ho,hk⟩
 have e1:=hk _ _ (by simp) b1
 simp -dsimp -implicitDefEqProofs [-getElem?_pos,go_sem,hP]
 refine callB_m (by rw[hr,hs];exact deleteFuncM_pay q.Waiting [] id H3 184 [.ref (H.length+1) 0 0] (fun p=>decide (day<p.Due)) (by have:=hf.w;omega) (by rw[List.append_nil];exact ho) en_184 (fun p _ H' hk'=>ready1_m p day (H.length+1) _ H' (hk' _ _ (by simp;omega) e1))) hP en_183 ?_
 rintro r H4 ⟨tl,rfl,ho4,hk4⟩
 have ef:(q.Waiting.filter fun a=>!decide (day<a.Due))=L:=by
  rw[hrd]
  refine List.filter_congr fun p _=>?_
  by_cases h:day<p.Due
  ·simp[h,show¬p.Due≤day by omega]
  ·simp[h,show p.Due≤day by omega]
 rw[ef]at ho4
 simp -dsimp -implicitDefEqProofs [-getElem?_pos,go_sem,hP,ef]
 rw[hC]
 refine⟨id,tl,rfl,by omega,ho4,fun j o hj hoj=>?_⟩
 have hjl:=(gsI hoj)
 exact hk4 j o (by simp;omega) (hk j o (by simp) (k2 j o (by simp) hoj))
open Go.PA
open Go.RowKit
@[go_sem] theorem fze:zeros Tryz.prog 237=some [.sc .nilFunc]:=by kernel_rfl
set_option maxHeartbeats 4000000 in
theorem btake_pf (q:TQueue) (day:Int) (ws:List Int) (hf:FitQ q) (hw:ws.length≤100000):PFun Tryz.prog none none 122 [.agg q.cells,iv day,intsL ws] (·= .tup [.agg (takeQ q day ws).1.cells,.agg (takeQ q day ws).2.1.cells,iv (takeQ q day ws).2.2]):=by
 refine pfun_introA Tryz.func122 rfl (by simp[Tryz.f122]) ?_
 intro E hP hr hs hW hN
 have ck:=bcheck_pf q hf
 have iq:=imm_que q
 have ip:=imm_pays q.Waiting
 have i2:=imm_ints q.Known
 have i3:=imm_bats q.Batches
 have iw:=imm_ints ws
 have lb:=hf.b
 rw[cQu]at ck iq
 simp only[intsL]at i2 ck iq iw
 refine awp_cut (by rw[hN];kernel_rfl) ?_
 simp -dsimp -implicitDefEqProofs [-getElem?_pos,go_sem,hP,cQu,intsL]
 refine awp_cut (by rw[hN];kernel_rfl) ?_
 simp -dsimp -implicitDefEqProofs [-getElem?_pos,go_sem,hP]
 refine callB_is (ck.lift _ _) hP en_135 (by simpa using iq) .sc ?_
 by_cases c1:checkQ q=0
 rotate_left
 ·have:takeQ q day ws=(zeroQ,zeroB,checkQ q):=by rw[takeQ,if_neg c1]
  simp -dsimp -implicitDefEqProofs [-getElem?_pos,go_sem,hP,c1]
  refine done_zeroQ3 ?_
  rw[this];rfl
 have hq:=checkQ_iff.1 c1
 simp -dsimp -implicitDefEqProofs [-getElem?_pos,go_sem,hP,c1]
 refine awp_cut (by rw[hN];kernel_rfl) ?_
 simp -dsimp -implicitDefEqProofs [-getElem?_pos,go_sem,hP]
 obtain⟨Inv,hInv⟩:∃Inv:St→Prop,Inv=fun s=>s.t 1=iv day∧s.t 3= .ref 0 0 0∧s.t 5= .ref 1 0 0∧s.t 6= .ref 2 0 0∧s.t 7= .ref 3 0 0∧s.t 10=iv (lastQ q)∧s.H=[some ⟨32,3,[[paysL q.Waiting,.list 1 (q.Known.map fun x=>[iv x]),batsL q.Batches]]⟩,some ⟨22,1,[[.list 1 (ws.map fun x=>[iv x])]]⟩,some ⟨32,3,[[.nil,.nil,.nil]]⟩,some ⟨140,3,[[iv 0,iv 0,.nil]]⟩]:=⟨_,rfl⟩
 refine awp_join Inv (by rw[hN];kernel_rfl) ?_ ?_
 ·cases hlast:q.Batches.getLast? with
  |none=>
   have hnil:q.Batches=[]:=by simpa using hlast
   have l0:lastQ q=0:=by rw[lastQ,hlast]
   simp -dsimp -implicitDefEqProofs [-getElem?_pos,go_sem,hP,hnil]
   refine⟨_,Weaker.refl _,?_⟩
   rw[hInv]
   exact⟨by simp -dsimp[-getElem?_pos,go_sem],by simp -dsimp[-getElem?_pos,go_sem],by simp -dsimp[-getElem?_pos,go_sem],by simp -dsimp[-getElem?_pos,go_sem],by simp -dsimp[-getElem?_pos,go_sem],by simp -dsimp[-getElem?_pos,go_sem,l0],by rw[hnil]⟩
  |some b=>
   have l0:lastQ q=b.Day:=by rw[lastQ,hlast]
   have hpos:0<q.Batches.length:=by
    cases h:q.Batches with
    |nil=>simp[h]at hlast
    |cons _ _=>simp
   have hb:q.Batches[q.Batches.length-1]?=some b:=by rw[←List.getLast?_eq_getElem?];exact hlast
   have d0:decide ((0:Int)<(q.Batches.length:Int))=true:=decide_eq_true (by omega)
   have w1:IntKind.i64.wrap ((q.Batches.length:Int)-1)=((q.Batches.length-1:Nat):Int):=by rw[wrap_in _ (by omega)];omega
   simp -dsimp -implicitDefEqProofs [-getElem?_pos,go_sem,hP,d0,hpos]
   simp -dsimp -implicitDefEqProofs [-getElem?_pos,go_sem,hP,w1,hb,cBt]
   refine⟨_,Weaker.refl _,?_⟩
   rw[hInv]
   exact⟨by simp -dsimp[-getElem?_pos,go_sem],by simp -dsimp[-getElem?_pos,go_sem],by simp -dsimp[-getElem?_pos,go_sem],by simp -dsimp[-getElem?_pos,go_sem],by simp -dsimp[-getElem?_pos,go_sem],by simp -dsimp[-getElem?_pos,go_sem,l0],rfl⟩
 intro s hs'
 rw[hInv]at hs'
 obtain⟨t1,t3,t5,t6,t7,t10,hH⟩:=hs'
 refine awp_cut (by rw[hN];kernel_rfl) ?_
 simp -dsimp -implicitDefEqProofs [-getElem?_pos,go_sem,hP,t1]
 refine callB_is ((cbusiness_pf day).lift _ _) hP en_118 (by simp[imm_sc]) .sc ?_
 cases c2:busB day
 ·have:takeQ q day ws=(zeroQ,zeroB,66):=by rw[takeQ,if_pos c1,if_neg (by simp[c2])]
  simp -dsimp -implicitDefEqProofs [-getElem?_pos,go_sem,hP,c2,t6,t7,hH]
  refine done_zeroQ3 ?_
  rw[this];rfl
 by_cases c3:day<lastQ q
 ·have d3:decide (day<lastQ q)=true:=decide_eq_true c3
  have:takeQ q day ws=(zeroQ,zeroB,8):=by rw[takeQ,if_pos c1,if_pos c2,if_pos c3]
  simp -dsimp -implicitDefEqProofs [-getElem?_pos,go_sem,hP,c2,t6,t7,hH,t1,t10,d3]
  refine done_zeroQ3 ?_
  rw[this];rfl
 have d3:decide (day<lastQ q)=false:=decide_eq_false c3
 by_cases c4:ws.length=0
 ·have d4:decide ((ws.length:Int)=0)=true:=decide_eq_true (by omega)
  have:takeQ q day ws=(zeroQ,zeroB,10):=by rw[takeQ,if_pos c1,if_pos c2,if_neg c3,if_pos c4]
  simp -dsimp -implicitDefEqProofs [-getElem?_pos,go_sem,hP,c2,t6,t7,hH,t1,t10,d3,t5,c4]
  refine done_zeroQ3 ?_
  rw[this];rfl
 have d4:decide ((ws.length:Int)=0)=false:=decide_eq_false (by omega)
 by_cases c5:10<ws.length
 ·have d5:decide ((10:Int)<(ws.length:Int))=true:=decide_eq_true (by omega)
  have:takeQ q day ws=(zeroQ,zeroB,3):=by rw[takeQ,if_pos c1,if_pos c2,if_neg c3,if_neg c4,if_pos (.inl c5)]
  simp -dsimp -implicitDefEqProofs [-getElem?_pos,go_sem,hP,c2,t6,t7,hH,t1,t10,d3,t5,t3,c4,d4,d5]
  refine done_zeroQ3 ?_
  rw[this];rfl
 have d5:decide ((10:Int)<(ws.length:Int))=false:=decide_eq_false (by omega)
 by_cases c6:200≤q.Batches.length
 ·have d6:decide ((200:Int)≤(q.Batches.length:Int))=true:=decide_eq_true (by omega)
  have:takeQ q day ws=(zeroQ,zeroB,3):=by rw[takeQ,if_pos c1,if_pos c2,if_neg c3,if_neg c4,if_pos (.inr c6)]
  simp -dsimp -implicitDefEqProofs [-getElem?_pos,go_sem,hP,c2,t6,t7,hH,t1,t10,d3,t5,t3,c4,d4,d5,d6]
  refine done_zeroQ3 ?_
  rw[this];rfl
 have d6:decide ((200:Int)≤(q.Batches.length:Int))=false:=decide_eq_false (by omega)
 simp -dsimp -implicitDefEqProofs [-getElem?_pos,go_sem,hP,c2,t6,t7,hH,t1,t10,d3,t5,t3,c4,d4,d5,d6]
 refine awp_cut (by rw[hN];kernel_rfl) ?_
 simp -dsimp -implicitDefEqProofs [-getElem?_pos,go_sem,hP,t5,hH]
 refine awp_cut (by rw[hN];kernel_rfl) ?_
 obtain⟨H2,hH2⟩:∃H2:Heap,H2=[some ⟨32,3,[[paysL q.Waiting,.list 1 (q.Known.map fun x=>[iv x]),batsL q.Batches]]⟩,some ⟨22,1,[[.list 1 (ws.map fun x=>[iv x])]]⟩,some ⟨32,3,[[.nil,.nil,.nil]]⟩,some ⟨140,3,[[iv 0,iv 0,.nil]]⟩,some ⟨237,1,[[.fn 186 [.ref 1 0 0]]]⟩]:=⟨_,rfl⟩
 have b0:H2[0]?=some (some ⟨32,3,[[paysL q.Waiting,.list 1 (q.Known.map fun x=>[iv x]),batsL q.Batches]]⟩):=by rw[hH2];rfl
 have b1:H2[1]?=some (some ⟨22,1,[[intsL ws]]⟩):=by rw[hH2];rfl
 have b2:H2[2]?=some (some ⟨32,3,[[.nil,.nil,.nil]]⟩):=by rw[hH2];rfl
 have b3:H2[3]?=some (some ⟨140,3,[[iv 0,iv 0,.nil]]⟩):=by rw[hH2];rfl
 have b4:H2[4]?=some (some ⟨237,1,[[.fn 186 [.ref 1 0 0]]]⟩):=by rw[hH2];rfl
 have l2:H2.length=5:=by rw[hH2];rfl
 simp only[←hH2]
 clear hH
 have rd:=fun {row src:Option Nat}=>bready_m (row:=row) (src:=src) q day H2 hf c1
 rw[cQu]at rd
 simp only[intsL]at rd
 simp -dsimp -implicitDefEqProofs [-getElem?_pos,go_sem,hP,t3,t1,b0,l2]
 refine callB_m (by rw[hr,hs];exact rd) hP en_119 ?_
 rintro r H3 ⟨id,tl,rfl,hid,ho,hk3⟩
 have e0:=hk3 _ _ (by simp) b0
 have e1:=hk3 _ _ (by simp) b1
 have e2:=hk3 _ _ (by simp) b2
 have e3:=hk3 _ _ (by simp) b3
 have e4:=hk3 _ _ (by simp) b4
 obtain⟨R,hR⟩:∃R,R=readyQ q day:=⟨_,rfl⟩
 have hRf:R=q.Waiting.filter (fun p=>decide (p.Due≤day)):=by rw[hR,readyQ,if_pos c1]
 have hRl:R.length≤100000:=by
  have:=hf.w
  have:=List.length_filter_le (fun p:TPayment=>decide (p.Due≤day)) q.Waiting
  rw[hRf]
  omega
 rw[←hR]at ho⊢
 simp -dsimp -implicitDefEqProofs [-getElem?_pos,go_sem,hP]
 refine callB_m (by rw[hr,hs];exact deleteFuncM_pay R tl id H3 188 [.ref 4 0 0] (fun p=>!takenB ws p) hRl ho en_188 (fun p _ H' hk'=>take2_m p ws 1 4 _ _ H' (by omega) (hk' _ _ (by simp;omega) e1) (hk' _ _ (by simp;omega) e4))) hP en_183 ?_
 rintro r H4 ⟨tl4,rfl,ho4,hk4⟩
 have f0:=hk4 _ _ (by simp;omega) e0
 have f1:=hk4 _ _ (by simp;omega) e1
 have f2:=hk4 _ _ (by simp;omega) e2
 have f3:=hk4 _ _ (by simp;omega) e3
 have f4:=hk4 _ _ (by simp;omega) e4
 obtain⟨L,hL⟩:∃L,L=R.filter (fun a=>!!takenB ws a):=⟨_,rfl⟩
 have hLf:L=R.filter (takenB ws):=by rw[hL];simp
 rw[←hL]at ho4⊢
 have iL:=imm_pays L
 simp -dsimp -implicitDefEqProofs [-getElem?_pos,go_sem,hP]
 refine AWp.weaken (weaker_frz hW 13 (id:=id) (lo:=0) (n:=L.length) (o:=⟨81,5,encL TPayment.cells L++tl4⟩) (by simp -dsimp[-getElem?_pos,go_sem]) (by simp -dsimp[-getElem?_pos,go_sem,ho4]) ?_) ?_
 ·have:((encL TPayment.cells L++tl4).drop 0).take L.length=encL TPayment.cells L:=by simp[List.take_append_of_le_length,encL_len,List.take_of_length_le]
  dsimp only
  rw[this]
  exact iL
 have hrows:((encL TPayment.cells L++tl4).drop 0).take L.length=encL TPayment.cells L:=by simp[List.take_append_of_le_length,encL_len,List.take_of_length_le]
 simp only[hrows]
 generalize hH5:List.set H4 id none=H5
 have g0:H5[0]?=H4[0]?:=by rw[←hH5,List.getElem?_set_ne (by omega)]
 have g1:H5[1]?=H4[1]?:=by rw[←hH5,List.getElem?_set_ne (by omega)]
 have g2:H5[2]?=H4[2]?:=by rw[←hH5,List.getElem?_set_ne (by omega)]
 have g3:H5[3]?=H4[3]?:=by rw[←hH5,List.getElem?_set_ne (by omega)]
 have g4:H5[4]?=H4[4]?:=by rw[←hH5,List.getElem?_set_ne (by omega)]
 rw[f0]at g0
 rw[f1]at g1
 rw[f2]at g2
 rw[f3]at g3
 rw[f4]at g4
 have n0:=(gsI g0)
 have n1:=(gsI g1)
 have n2:=(gsI g2)
 have n3:=(gsI g3)
 have n4:=(gsI g4)
 clear hH5 f0 f1 f2 f3 f4 e0 e1 e2 e3 e4 b0 b1 b2 b3 b4 hk3 hk4 ho ho4
 refine awp_cut (by rw[hN];kernel_rfl) ?_
 have hdl:=dueB_len (day:=day) (ws:=ws) hq.asc.nd
 rw[←hRf,←hLf]at hdl
 have g1':=g1
 simp only[intsL]at g1'
 by_cases c7:dueB q day ws=true
 rotate_left
 ·have c7':¬L.length=ws.length:=mt hdl.1 c7
  have d7:decide ((L.length:Int)=(ws.length:Int))=false:=decide_eq_false (by omega)
  have:takeQ q day ws=(zeroQ,zeroB,6):=by rw[takeQ,if_pos c1,if_pos c2,if_neg c3,if_neg c4,if_neg (by omega),if_neg c7]
  simp -dsimp -implicitDefEqProofs [-getElem?_pos,go_sem,hP,t5,g1',n1,d7,c7',t6,t7,g2,n2,g3,n3]
  refine done_zeroQ3 ?_
  rw[this];rfl
 have c7':L.length=ws.length:=hdl.2 c7
 have hLW:L=q.Waiting.filter (takenB ws):=by rw[hLf,hRf];exact dueB_filter hq.asc.nd c7
 have htk:takeQ q day ws=(⟨q.Waiting.filter (fun p=>!takenB ws p),q.Known,q.Batches++[takeB q day ws]⟩,takeB q day ws,0):=by rw[takeQ,if_pos c1,if_pos c2,if_neg c3,if_neg c4,if_neg (by omega),if_pos c7]
 have htb:takeB q day ws=⟨q.Batches.length+1,day,L⟩:=by rw[takeB,←hLW]
 rw[htk,htb]
 simp -dsimp -implicitDefEqProofs [-getElem?_pos,go_sem,hP,t5,g1',n1,c7',t3,g0,n0]
 refine awp_cut (by rw[hN];kernel_rfl) ?_
 simp -dsimp -implicitDefEqProofs [-getElem?_pos,go_sem,hP,t5,g1',n1,c7',t3,g0,n0]
 refine callB_m (by rw[hr,hs];exact bcopy_m q H5 hf) hP en_173 ?_
 rintro r H6 ⟨j1,j2,x,rfl,hj1,hj2,n12,o1,o2,⟨B,hB1,hB2,hg⟩,hk6⟩
 have e0:=hk6 _ _ (by simp) g0
 have e1:=hk6 _ _ (by simp) g1
 have e2:=hk6 _ _ (by simp) g2
 have e3:=hk6 _ _ (by simp) g3
 have e4:=hk6 _ _ (by simp) g4
 have u0:=(gsI e0)
 have u4:=(gsI e4)
 have hc:=hg.cellish
 have m10:¬j1=0:=by omega
 have m20:¬j2=0:=by omega
 have z4:¬(4=0):=by omega
 simp -dsimp -implicitDefEqProofs [-getElem?_pos,go_sem,hP,t3,e0,u0,hc,e4,u4]
 generalize hH7:List.set H6 0 _=H7
 have v0:H7[0]?=some (some ⟨32,3,[[.sref j1 0 q.Waiting.length,.sref j2 0 q.Known.length,x]]⟩):=by rw[←hH7,List.getElem?_set_self u0]
 have v1:H7[1]?=H6[1]?:=by rw[←hH7,List.getElem?_set_ne (by omega)]
 have v2:H7[2]?=H6[2]?:=by rw[←hH7,List.getElem?_set_ne (by omega)]
 have v3:H7[3]?=H6[3]?:=by rw[←hH7,List.getElem?_set_ne (by omega)]
 have vj:H7[j1]?=H6[j1]?:=by rw[←hH7,List.getElem?_set_ne (by omega)]
 have vj2:H7[j2]?=H6[j2]?:=by rw[←hH7,List.getElem?_set_ne (by omega)]
 rw[e1]at v1
 rw[e2]at v2
 rw[e3]at v3
 rw[o1]at vj
 rw[o2]at vj2
 have k7:Kept [0] H6 H7:=by rw[←hH7];exact kept_set _ (by simp) (kept_refl _ _)
 have hg7:=hg.kept k7 (by simp;omega)
 have y4:H7[4]?=H6[4]?:=by rw[←hH7,List.getElem?_set_ne (by omega)]
 rw[e4]at y4
 have p0:=(gsI v0)
 have p4:=(gsI y4)
 refine awp_cut (by rw[hN];kernel_rfl) ?_
 simp -dsimp -implicitDefEqProofs [-getElem?_pos,go_sem,hP,t3,v0,y4,p0,p4]
 refine callB_m (by rw[hr,hs];exact deleteFuncM_pay q.Waiting [] j1 H7 186 [.ref 1 0 0] (takenB ws) (by have:=hf.w;omega) (by rw[List.append_nil];exact vj) en_186 (fun p _ H' hk'=>take1_m p ws 1 _ H' (by omega) (hk' _ _ (by simp;omega) v1))) hP en_183 ?_
 rintro r H8 ⟨tl8,rfl,ho8,hk8⟩
 obtain⟨M,hM⟩:∃M,M=q.Waiting.filter (fun a=>!takenB ws a):=⟨_,rfl⟩
 rw[←hM]at ho8⊢
 have w0:=hk8 _ _ (by simp;omega) v0
 have w2:=hk8 _ _ (by simp;omega) v2
 have w3:=hk8 _ _ (by simp;omega) v3
 have wj2:=hk8 _ _ (by simp;omega) vj2
 have hg8:=hg7.kept hk8 (by simp;omega)
 have s0:=(gsI w0)
 have s2:=(gsI w2)
 have s3:=(gsI w3)
 have sj1:=(gsI ho8)
 have sj2:=(gsI wj2)
 have wl:=wrap_in ((q.Batches.length:Int)+1) (by omega)
 simp -dsimp -implicitDefEqProofs [-getElem?_pos,go_sem,hP,t3,w0,s0,hc]
 obtain⟨Inv2,hInv2⟩:∃Inv:St→Prop,Inv=fun s=>∃b':Nat,5≤b'∧s.t 1=iv day∧s.t 3= .ref 0 0 0∧s.t 6= .ref 2 0 0∧s.t 7= .ref 3 0 0∧s.t 13=paysL L∧s.H[0]?=some (some ⟨32,3,[[.sref j1 0 M.length,.sref j2 0 q.Known.length,.sref b' 0 (q.Batches.length+1)]]⟩)∧s.H[2]?=some (some ⟨32,3,[[.nil,.nil,.nil]]⟩)∧s.H[3]?=some (some ⟨140,3,[[iv 0,iv 0,.nil]]⟩)∧s.H[j1]?=some (some ⟨81,5,encL TPayment.cells M++tl8⟩)∧s.H[j2]?=some (some ⟨3,1,intRows q.Known⟩)∧s.H[b']?=some (some ⟨140,3,encL TBatch.cells (q.Batches++[⟨q.Batches.length+1,day,L⟩])⟩):=⟨_,rfl⟩
 refine awp_join Inv2 (by rw[hN];kernel_rfl) ?_ ?_
 ·have en:encL TBatch.cells q.Batches++[[iv ((q.Batches.length:Int)+1),iv day,paysL L]]=encL TBatch.cells (q.Batches++[⟨q.Batches.length+1,day,L⟩]):=encL_snoc TBatch.cells q.Batches ⟨q.Batches.length+1,day,L⟩
  rcases hg8 with⟨rfl,h⟩|⟨jd,hjd,rfl,h⟩
  ·have hl0:q.Batches.length=0:=by have:=congrArg List.length h;rwa[encL_len]at this
   rw[h,hl0]at en
   have w01:IntKind.i64.wrap 1=1:=wrap_in _ (by omega)
   have w01':IntKind.i64.wrap (0+1)=1:=wrap_in _ (by omega)
   simp -dsimp -implicitDefEqProofs [-getElem?_pos,go_sem,hP,t3,t1,s0,wl,hl0,w01,w01']
   refine⟨_,Weaker.refl _,?_⟩
   rw[hInv2]
   refine⟨H8.length,by omega,by simp -dsimp[-getElem?_pos,go_sem,t1],by simp -dsimp[-getElem?_pos,go_sem,t3],by simp -dsimp[-getElem?_pos,go_sem,t6],by simp -dsimp[-getElem?_pos,go_sem,t7],by simp -dsimp[-getElem?_pos,go_sem],by simp -dsimp[-getElem?_pos,go_sem,s0,hl0],?_,?_,?_,?_,?_⟩
   ·dsimp only
    rw[List.getElem?_append_left (by simp;omega),List.getElem?_set_ne (by omega)]
    try rw[List.getElem?_set_ne (by omega)]
    exact w2
   ·dsimp only
    rw[List.getElem?_append_left (by simp;omega),List.getElem?_set_ne (by omega)]
    try rw[List.getElem?_set_ne (by omega)]
    exact w3
   ·dsimp only
    rw[List.getElem?_append_left (by simp;omega),List.getElem?_set_ne (by omega)]
    try rw[List.getElem?_set_ne (by omega)]
    exact ho8
   ·dsimp only
    rw[List.getElem?_append_left (by simp;omega),List.getElem?_set_ne (by omega)]
    try rw[List.getElem?_set_ne (by omega)]
    exact wj2
   ·dsimp only
    rw[hl0,←en]
    simp -dsimp -implicitDefEqProofs [-getElem?_pos,go_sem]
  ·have sjd:=(gsI h)
   have nd0:¬jd=0:=by omega
   have nd0':¬0=jd:=by omega
   rw[encL_len]
   simp -dsimp -implicitDefEqProofs [-getElem?_pos,go_sem,hP,t3,t1,s0,wl,h,sjd,nd0,nd0',encL_len]
   refine⟨by omega,by omega,?_⟩
   refine⟨_,Weaker.refl _,?_⟩
   rw[hInv2]
   refine⟨H8.length,by omega,by simp -dsimp[-getElem?_pos,go_sem,t1],by simp -dsimp[-getElem?_pos,go_sem,t3],by simp -dsimp[-getElem?_pos,go_sem,t6],by simp -dsimp[-getElem?_pos,go_sem,t7],by simp -dsimp[-getElem?_pos,go_sem],by simp -dsimp[-getElem?_pos,go_sem,s0,nd0],?_,?_,?_,?_,?_⟩
   ·dsimp only
    rw[List.getElem?_append_left (by simp;omega)]
    repeat rw[List.getElem?_set_ne (by omega)]
    exact w2
   ·dsimp only
    rw[List.getElem?_append_left (by simp;omega)]
    repeat rw[List.getElem?_set_ne (by omega)]
    exact w3
   ·dsimp only
    rw[List.getElem?_append_left (by simp;omega)]
    repeat rw[List.getElem?_set_ne (by omega)]
    exact ho8
   ·dsimp only
    rw[List.getElem?_append_left (by simp;omega)]
    repeat rw[List.getElem?_set_ne (by omega)]
    exact wj2
   ·dsimp only
    rw[←en]
    simp -dsimp -implicitDefEqProofs [-getElem?_pos,go_sem]
 intro s hs'
 rw[hInv2]at hs'
 obtain⟨b',hb',t1,t3,t6,t7,t13,h0,h2,h3,h4,h5,h6⟩:=hs'
 have r0:=(gsI h0)
 have r2:=(gsI h2)
 have r3:=(gsI h3)
 refine awp_sound _ _ _ (by rw[hN];kernel_rfl) ?_
 simp -dsimp -implicitDefEqProofs [-getElem?_pos,go_sem,hP]
 refine adrawB (fun i=>decide (i=0)||decide (i=b')) [] hP (by kernel_rfl) (by kernel_rfl) ?_
 simp -dsimp -implicitDefEqProofs [-getElem?_pos,go_sem,hP,t1,t3,t6,t7,t13,h0,r0,h6]
 refine callB_is ((clone_pf_pay L (by omega)).lift _ _) hP en_63 (by simpa using iL) iL ?_
 have n22:¬b'=2:=by omega
 have n33:¬b'=3:=by omega
 simp -dsimp -implicitDefEqProofs [-getElem?_pos,go_sem,hP,t1,t13,t6,t7,h2,r2,h3,r3]
 refine⟨fun i hi=>?_,fun i hi=>?_,?_⟩
 ·simp only[Bool.or_eq_true,decide_eq_true_eq]at hi
  rw[List.getElem?_set_ne (by omega)]
 ·simp only[Bool.or_eq_true,decide_eq_true_eq]at hi
  rw[List.getElem?_set_ne (by omega)]
 have iB:=imm_bat ⟨q.Batches.length+1,day,L⟩
 refine done_trip (cs':=(TQueue.mk M q.Known (q.Batches++[⟨q.Batches.length+1,day,L⟩])).cells) (ds':=(TBatch.mk (q.Batches.length+1) day L).cells) ?_ (cw_immL (imm_agg.1 iB)) rfl
 refine cw_srefT (ty:=81) (tl:=tl8) ?_ (by rw[encL_len]) (imm_pays _) (cw_sref (ty:=3) (es:=intRows q.Known) ?_ (by rw[intRows_len]) (imm_ints _) (cw_sref (ty:=140) (es:=encL TBatch.cells (q.Batches++[⟨q.Batches.length+1,day,L⟩])) ?_ (by rw[encL_len];simp) (imm_bats _) .nil))
 ·rw[List.getElem?_set_ne (by omega),List.getElem?_set_ne (by omega),h4]
 ·rw[List.getElem?_set_ne (by omega),List.getElem?_set_ne (by omega),h5]
 ·rw[List.getElem?_set_ne (by omega),List.getElem?_set_ne (by omega),h6]
open Go.PA
open Go.RowKit
open Go.PA
open Go.RowKit
open Go.PA
open Go.RowKit
open Go.PA
open Go.RowKit
end Go.Proofs.YtaenimpfelpafaaGreatDoor
namespace Go.PA
open Go.RowKit
theorem pfun_of_mfun {P:Program} {row src:Option Nat} {f:FuncId} {args:List AV} {C:AV→Heap→Prop} {Q:AV→Prop} (h:MFun P row src f args [] C)
  (hC:∀r H',C r H'→∃x,Weak (view H' r) x∧Imm (view H' r)∧Imm x∧Q x):PFun P row src f args Q:=by
 intro w ok vs h1 h2 h3 h4
 let E:Env:={P:=P,w0:=w,okA:=ok,row:=row,src:=src,N:=0,W:=fun _=>False,ρ0:=fun _=>none,H0:=[]}
 have g:Good E w (fun _=>none) [] ok:=⟨rfl,rfl,rfl,Nat.le_refl _,fun _ _ _ _=>rfl,h2,fun b hb=>⟨(h1 b hb).1,(h1 b hb).2,.inl hb⟩,by simp,by simp,by simp,by simp⟩
 refine ((h E rfl rfl rfl).2 w (fun _=>none) ok vs g h3 h4).mono ?_
 rintro e w' ⟨v,r,H',ρ,ok',rfl,hc,g',_,hrep⟩
 obtain⟨x,hwk,hi,hix,hx⟩:=hC r H' hc
 refine⟨v,x,rfl,hx,hix,?_,⟨g'.os,g'.tape,g'.output,g'.size,fun k hk hne=>g'.blk k hk (fun h=>h) hne⟩,?_⟩
 ·refine Rep.weak hwk ((view_sound g' hrep hi).imm (fun b hb=>?_) hi)
  rcases hb with hb|⟨_,_,_,ho,hρ⟩
  ·obtain⟨b1,_,b3⟩:=g'.oks b hb
   exact b3.imp id fun h=>⟨h,b1⟩
  ·have hobj:=g'.obj _ _ ho
   rw[hρ]at hobj
   obtain⟨_,_,b3⟩:=g'.own _ _ b _ ho hρ
   exact .inr ⟨b3.resolve_left (fun h=>h),hobj.lt⟩
 ·refine⟨⟨h2.1.1,h2.1.2.at g'.inv.1.2⟩,fun p hp=>?_⟩
  exact g'.inv.2 p hp
theorem pfun_of_mfun_agg {P:Program} {row src:Option Nat} {f:FuncId} {args:List AV} {C:AV→Heap→Prop} {cs:List AV} (h:MFun P row src f args [] C)
  (hi:Imm (.agg cs)) (hC:∀r H',C r H'→∃xs,r= .agg xs∧CW H' xs cs):PFun P row src f args (·= .agg cs):=
 pfun_of_mfun h fun r H' hc=>by
  obtain⟨xs,rfl,hw⟩:=hC r H' hc
  exact⟨.agg cs,hw.weak,hw.imm,hi,rfl⟩
end Go.PA
namespace Go.Proofs.YtaenimpfelpafaaGreatDoor
open Go.PA
open Go.RowKit
theorem index_pf_entry (l:List TEntry) (g:FuncId) (caps:List AV) (p:TEntry→Bool) (hl:l.length≤1000000) (hen:enterable Tryz.prog g=true) (hcap:∀a,a∈caps→Imm a)
  (hg:∀a,a∈l→PFun Tryz.prog none none g (.agg (TEntry.cells a)::caps) (·=bv (p a))):
  PFun Tryz.prog none none 143 [.list 6 (encL TEntry.cells l),.fn g caps] (·=iv (idxI p l)):=by
 refine pfun_intro Tryz.func143 rfl (by simp[Tryz.f143]) (by kernel_rfl) ?_
 intro E hP hr hs hW hN
 simp -dsimp -implicitDefEqProofs [-getElem?_pos,go_sem,hP]
 obtain⟨I,hI⟩:∃I:Nat→St→Prop,I=fun m s=>∃k:Nat,k≤l.length∧m=l.length-k∧idxI p l=idxFrom p k (l.drop k)∧s.t 0= .list 6 (encL TEntry.cells l)∧s.t 1= .fn g caps∧s.t 7=iv l.length∧s.t 8=iv k:=⟨_,rfl⟩
 refine aloop0 I (l.length) (by rw[hN];rfl) ?_ ?_
 ·rw[hI]
  exact⟨0,by omega,by omega,by simp[idxI],by simp -dsimp[-getElem?_pos,go_sem],by simp -dsimp[-getElem?_pos,go_sem],by simp -dsimp[-getElem?_pos,go_sem],by simp -dsimp[-getElem?_pos,go_sem]⟩
 intro m s hs'
 rw[hI]at hs'
 obtain⟨k,hk,hm,hi,t0,t1,t7,t8⟩:=hs'
 simp -dsimp -implicitDefEqProofs [-getElem?_pos,go_sem,hP,t7,t8]
 refine condP (fun h=>?_) (fun h=>?_)
 ·have hk:k<l.length:=by simpa using h
  obtain⟨a,ha⟩:∃a,l[k]?=some a:=⟨_,List.getElem?_eq_getElem hk⟩
  have wk:=wrap_in ((k:Int)+1) (by omega)
  have hz:(TEntry.cells a).take 6=TEntry.cells a:=List.take_of_length_le (by rw[TEntry.len];omega)
  have hd:l.drop k=a::l.drop (k+1):=by
   rw[List.getElem?_eq_getElem hk]at ha
   rw[List.drop_eq_getElem_cons hk,Option.some.inj ha]
  simp -dsimp -implicitDefEqProofs [-getElem?_pos,go_sem,hP,t8,t1,t0,ha,TEntry.len,hz]
  refine callB_is ((hg a (List.mem_of_getElem? ha)).lift _ _) hP hen (fun x hx=>?_) .sc ?_
  ·rcases List.mem_cons.1 hx with rfl|hx
   ·exact imm_agg.2 (TEntry.imm a)
   ·exact hcap x hx
  rw[hd]at hi
  simp only[idxFrom]at hi
  simp -dsimp -implicitDefEqProofs [-getElem?_pos,go_sem,hP]
  refine condP (fun hp=>?_) (fun hp=>?_)
  ·rw[if_pos hp]at hi
   simp -dsimp -implicitDefEqProofs [-getElem?_pos,go_sem,hP]
   exact hi.symm
  ·rw[hp,if_neg (by simp)]at hi
   simp -dsimp -implicitDefEqProofs [-getElem?_pos,go_sem,hP,t8,wk]
   refine⟨l.length-(k+1),by omega,?_⟩
   rw[hI]
   exact⟨k+1,by omega,rfl,hi,by simp -dsimp[-getElem?_pos,go_sem,t0],by simp -dsimp[-getElem?_pos,go_sem,t1],by simp -dsimp[-getElem?_pos,go_sem,t7],by simp -dsimp[-getElem?_pos,go_sem]⟩
 ·have hk:k=l.length:=by simp at h;omega
  subst hk
  rw[List.drop_length]at hi
  simp -dsimp -implicitDefEqProofs [-getElem?_pos,go_sem,hP]
  exact hi.symm
theorem clone_m_item {row src:Option Nat} (l:List TItem) (H:Heap) (hl:l.length≤1000000):MFun Tryz.prog row src 65 [.list 7 (encL TItem.cells l)] H (fun r H'=>∃id,r= .sref id 0 l.length∧H.length≤id∧H'[id]?=some (some ⟨83,7,encL TItem.cells l⟩)∧Kept [] H H'):=by
 have own:MFun Tryz.prog row src 65 [.list 7 (encL TItem.cells l)] H (fun r H'=>(r= .nil∧l=[]∧H'=H)∨∃id,r= .sref id 0 l.length∧H.length≤id∧H'[id]?=some (some ⟨83,7,encL TItem.cells l⟩)∧Kept [] H H'):=by
  cases l with
  |nil=>
   refine mfun_list_nil fun A c=>?_
   refine mfun_intro Tryz.func65 rfl (by simp[Tryz.f65]) (by kernel_rfl) ⟨.nil,H,.inl ⟨rfl,rfl,rfl⟩⟩ ?_
   intro E hP hr hs hN
   cases A with
   |none=>simp -dsimp -implicitDefEqProofs [-getElem?_pos,go_sem,hP]
   |some a=>
    simp -dsimp -implicitDefEqProofs [-getElem?_pos,go_sem,hP]
    exact kept_app _ _ _
  |cons a l=>
   refine mfun_intro Tryz.func65 rfl (by simp[Tryz.f65]) (by kernel_rfl) ⟨_,H++[some ⟨83,7,encL TItem.cells (a::l)⟩],.inr ⟨H.length,rfl,Nat.le_refl _,by simp,kept_push _ (kept_refl _ _)⟩⟩ ?_
   intro E hP hr hs hN
   simp only[List.length_cons]at hl
   have e:encL TItem.cells (a::l)=TItem.cells a::encL TItem.cells l:=rfl
   simp -dsimp -implicitDefEqProofs [-getElem?_pos,go_sem,hP,e]
   refine⟨by omega,by omega,?_⟩
   exact kept_app _ _ _
 refine (own.ownNil 83 7).mono ?_
 rintro r H' (⟨H0,h0,rfl,rfl⟩|⟨hne,h⟩)
 ·rcases h0 with⟨_,rfl,rfl⟩|⟨id,h,_⟩
  ·exact⟨_,rfl,Nat.le_refl _,by simp[encL],kept_push _ (kept_refl _ _)⟩
  ·cases h
 ·rcases h with⟨h,_⟩|h
  ·exact absurd h hne
  ·exact h
theorem cQn (q:TQueue):q.cells=[paysL q.Waiting,numsL q.Known,batsL q.Batches]:=rfl
theorem cDn (d:TDesk):d.cells=[iv d.Account.Credit,subsL d.Account.Subs,entsL d.Account.Entries,paysL d.Queue.Waiting,numsL d.Queue.Known,batsL d.Queue.Batches,itemsL d.Items]:=rfl
theorem equalInts_pf (a b:List Int) (ha:a.length≤100000) (hb:b.length≤100000):
  PFun Tryz.prog none none 137 [.list 1 (encL encI a),.list 1 (encL encI b)] (·=bv (decide (a=b))):=by
 refine pfun_intro Tryz.func137 rfl (by simp[Tryz.f137]) (by kernel_rfl) ?_
 intro E hP hr hs hW hN
 by_cases hlen:a.length=b.length
 rotate_left
 ·have hne:¬a=b:=fun h=>hlen (by rw[h])
  have hl:decide ((a.length:Int)=(b.length:Int))=false:=by simp;omega
  simp -dsimp -implicitDefEqProofs [-getElem?_pos,go_sem,hP,hl,hne]
 have hl:decide ((a.length:Int)=(b.length:Int))=true:=by simp;omega
 simp -dsimp -implicitDefEqProofs [-getElem?_pos,go_sem,hP,hl]
 obtain⟨I,hI⟩:∃I:Nat→St→Prop,I=fun m s=>∃k:Nat,k≤a.length∧m=a.length-k∧s.t 0= .list 1 (encL encI a)∧s.t 1= .list 1 (encL encI b)∧s.t 12=iv a.length∧s.t 13=iv k∧a.take k=b.take k:=⟨_,rfl⟩
 refine aloop0 I (a.length) (by rw[hN];rfl) ?_ ?_
 ·rw[hI]
  exact⟨0,by omega,by omega,by simp -dsimp[-getElem?_pos,go_sem],by simp -dsimp[-getElem?_pos,go_sem],by simp -dsimp[-getElem?_pos,go_sem],by simp -dsimp[-getElem?_pos,go_sem],by simp⟩
 intro m s hs'
 rw[hI]at hs'
 obtain⟨k,hk,hm,t0,t1,t12,t13,heq⟩:=hs'
 simp -dsimp -implicitDefEqProofs [-getElem?_pos,go_sem,hP,t12,t13]
 refine condP (fun h=>?_) (fun h=>?_)
 ·have hk:k<a.length:=by simpa using h
  obtain⟨x,hx⟩:∃x,a[k]?=some x:=⟨_,List.getElem?_eq_getElem hk⟩
  obtain⟨y,hy⟩:∃y,b[k]?=some y:=⟨_,List.getElem?_eq_getElem (by omega)⟩
  have wk:=wrap_in ((k:Int)+1) (by omega)
  have tx:a.take (k+1)=a.take k++[x]:=by rw[List.take_add_one,hx];rfl
  have ty:b.take (k+1)=b.take k++[y]:=by rw[List.take_add_one,hy];rfl
  simp -dsimp -implicitDefEqProofs [-getElem?_pos,go_sem,hP,t13]
  refine adrawB (fun _=>true) [] hP (by kernel_rfl) (by kernel_rfl) ?_
  by_cases hxy:x=y
  ·subst hxy
   simp -dsimp -implicitDefEqProofs [-getElem?_pos,go_sem,hP,t0,t1,hx,hy,encI,t13,wk]
   refine⟨a.length-(k+1),by omega,?_⟩
   rw[hI]
   exact⟨k+1,by omega,rfl,by simp -dsimp[-getElem?_pos,go_sem,t0],by simp -dsimp[-getElem?_pos,go_sem,t1],by simp -dsimp[-getElem?_pos,go_sem,t12],by simp -dsimp[-getElem?_pos,go_sem],by rw[tx,ty,heq]⟩
  ·have hne:¬a=b:=fun h=>by
    subst h
    rw[hx]at hy
    exact hxy (Option.some.inj hy)
   have dxy:decide (x=y)=false:=decide_eq_false hxy
   simp -dsimp -implicitDefEqProofs [-getElem?_pos,go_sem,hP,t0,t1,hx,hy,encI,t13,wk,dxy,hne]
 ·have hk:k=a.length:=by simp at h;omega
  subst hk
  rw[List.take_length]at heq
  rw[hlen,List.take_length]at heq
  simp -dsimp -implicitDefEqProofs [-getElem?_pos,go_sem,hP,heq]
theorem indexPay_pf (l:List TPayment) (v:TPayment) (hl:l.length≤1000000):PFun Tryz.prog none none 260 [paysL l,.agg v.cells] (·=iv (idxI (fun x=>decide (v=x)) l)):=by
 refine pfun_intro Tryz.func260 rfl (by simp[Tryz.f260]) (by kernel_rfl) ?_
 intro E hP hr hs hW hN
 simp -dsimp -implicitDefEqProofs [-getElem?_pos,go_sem,hP,cPy]
 obtain⟨I,hI⟩:∃I:Nat→St→Prop,I=fun m s=>∃k:Nat,k≤l.length∧m=l.length-k∧idxI (fun x=>decide (v=x)) l=idxFrom (fun x=>decide (v=x)) k (l.drop k)∧s.t 0=paysL l∧s.t 3= .ref 0 0 0∧s.t 7=iv l.length∧s.t 8=iv k∧s.H[0]?=some (some ⟨81,5,[[iv v.Warrant,iv v.Payee,iv v.Amount,iv v.Due,iv v.Sub]]⟩):=⟨_,rfl⟩
 refine aloop0 I (l.length) (by rw[hN];rfl) ?_ ?_
 ·rw[hI]
  exact⟨0,by omega,by omega,by simp[idxI],by simp -dsimp[-getElem?_pos,go_sem],by simp -dsimp[-getElem?_pos,go_sem],by simp -dsimp[-getElem?_pos,go_sem],by simp -dsimp[-getElem?_pos,go_sem],by simp -dsimp[-getElem?_pos,go_sem]⟩
 intro m s hs'
 rw[hI]at hs'
 obtain⟨k,hk,hm,hi,t0,t3,t7,t8,h0⟩:=hs'
 have lt0:=(gsI h0)
 simp -dsimp -implicitDefEqProofs [-getElem?_pos,go_sem,hP,t7,t8]
 refine condP (fun h=>?_) (fun h=>?_)
 ·have hk:k<l.length:=by simpa using h
  obtain⟨a,ha⟩:∃a,l[k]?=some a:=⟨_,List.getElem?_eq_getElem hk⟩
  have wk:=wrap_in ((k:Int)+1) (by omega)
  rw[drop_at ha]at hi
  simp only[idxFrom]at hi
  simp -dsimp -implicitDefEqProofs [-getElem?_pos,go_sem,hP,t8]
  refine adrawB (fun _=>true) [] hP (by kernel_rfl) (by kernel_rfl) ?_
  by_cases hp:v=a
  ·subst hp
   rw[if_pos (by simp)]at hi
   simp -dsimp -implicitDefEqProofs [-getElem?_pos,go_sem,hP,t8,t3,t0,ha,h0,lt0,cPy]
   exact hi.symm
  ·rw[if_neg (by simpa using hp)]at hi
   simp -dsimp -implicitDefEqProofs [-getElem?_pos,go_sem,hP,t8,t3,t0,ha,h0,lt0,cPy,wk]
   refine condP (fun h=>?_) (fun h=>?_)
   ·exact absurd (by cases v;cases a;simp at h;simp[h]) hp
   ·simp -dsimp -implicitDefEqProofs [-getElem?_pos,go_sem,hP,t8,wk]
    refine⟨l.length-(k+1),by omega,?_⟩
    rw[hI]
    exact⟨k+1,by omega,rfl,hi,by simp -dsimp[-getElem?_pos,go_sem,t0],by simp -dsimp[-getElem?_pos,go_sem,t3],by simp -dsimp[-getElem?_pos,go_sem,t7],by simp -dsimp[-getElem?_pos,go_sem],by simp -dsimp[-getElem?_pos,go_sem,h0]⟩
 ·have hk:k=l.length:=by simp at h;omega
  subst hk
  rw[List.drop_length]at hi
  simp -dsimp -implicitDefEqProofs [-getElem?_pos,go_sem,hP]
  exact hi.symm
theorem containsPay_pf (l:List TPayment) (v:TPayment) (hl:l.length≤1000000):PFun Tryz.prog none none 200 [paysL l,.agg v.cells] (·=bv (decide (v∈l))):=by
 refine pfun_intro Tryz.func200 rfl (by simp[Tryz.f200]) (by kernel_rfl) ?_
 intro E hP hr hs hW hN
 have ix:=indexPay_pf l v hl
 have iv':=imm_pay v
 have il:=imm_pays l
 rw[cPy]at ix iv'
 simp -dsimp -implicitDefEqProofs [-getElem?_pos,go_sem,hP,cPy]
 refine callB_is (ix.lift _ _) hP en_260 (by simpa using⟨il,iv'⟩) .sc ?_
 rcases idxI_spec (fun x=>decide (v=x)) l with⟨h1,h2⟩|⟨i,a,h1,h2,h3,_⟩
 ·have:decide (v∈l)=false:=decide_eq_false fun hv=>by simpa using h2 v hv
  simp -dsimp -implicitDefEqProofs [-getElem?_pos,go_sem,hP,h1,this]
 ·have d:decide ((0:Int)≤(i:Int))=true:=decide_eq_true (by omega)
  have hva:v=a:=by simpa using h2
  have:decide (v∈l)=true:=decide_eq_true (hva▸List.mem_of_getElem? h1)
  simp -dsimp -implicitDefEqProofs [-getElem?_pos,go_sem,hP,h3,d,this]
def CutI (l:List TItem) (w:Int) (k:Nat):Prop:=k≤l.length∧∀h x,l[h]?=some x→(x.Payment.Warrant<w↔h<k)
def PlaceQ (l:List TItem) (w:Int) (r:AV):Prop:=∃i:Nat,i≤l.length∧r= .tup [iv i,bv (decide ((l[i]?).map wrt=some w))]∧∀k,CutI l w k→i=k
theorem place1_pf (x:TItem) (w:Int):PFun Tryz.prog none none 179 [.agg x.cells,iv w] (·=iv (cmpI x.Payment.Warrant w)):=by
 refine pfun_intro Tryz.func179 rfl (by simp[Tryz.f179]) (by kernel_rfl) ?_
 intro E hP hr hs hW hN
 simp -dsimp -implicitDefEqProofs [-getElem?_pos,go_sem,hP,cIt]
 refine callB_pure (compare_pf x.Payment.Warrant w) hP en_55 (args_same (by simp -dsimp[-getElem?_pos,go_sem])) .sc ?_
 simp -dsimp -implicitDefEqProofs [-getElem?_pos,go_sem,hP]
theorem cmpI_lt (a b:Int):decide (cmpI a b<0)=decide (a<b):=by
 rw[decide_eq_decide]
 simp only[cmpI]
 repeat' split
 all_goals omega
theorem cmpI_eq (a b:Int):decide (cmpI a b=0)=decide (a=b):=by
 rw[decide_eq_decide]
 simp only[cmpI]
 repeat' split
 all_goals omega
set_option maxHeartbeats 1000000 in
theorem bsfItem_pf (l:List TItem) (w:Int) (hl:l.length≤1000000):PFun Tryz.prog none none 178 [itemsL l,iv w,.fn 179 []] (PlaceQ l w):=by
 refine pfun_intro Tryz.func178 rfl (by simp[Tryz.f178]) (by kernel_rfl) ?_
 intro E hP hr hs hW hN
 simp -dsimp -implicitDefEqProofs [-getElem?_pos,go_sem,hP]
 obtain⟨I,hI⟩:∃I:Nat→St→Prop,I=fun m s=>∃i j:Nat,(∀k,CutI l w k→i≤k∧k≤j)∧i≤j∧j≤l.length∧m=j-i∧s.t 0=itemsL l∧s.t 1=iv w∧s.t 2= .fn 179 []∧s.t 8=iv l.length∧s.t 9=iv i∧s.t 10=iv j:=⟨_,rfl⟩
 refine aloop0 I (l.length) (by rw[hN];rfl) ?_ ?_
 ·rw[hI]
  exact⟨0,l.length,fun k hk=>⟨by omega,hk.1⟩,by omega,by omega,rfl,by simp -dsimp[-getElem?_pos,go_sem],by simp -dsimp[-getElem?_pos,go_sem],by simp -dsimp[-getElem?_pos,go_sem],by simp -dsimp[-getElem?_pos,go_sem],by simp -dsimp[-getElem?_pos,go_sem],by simp -dsimp[-getElem?_pos,go_sem]⟩
 intro m s hs'
 rw[hI]at hs'
 obtain⟨i,j,hc,hij,hjl,hm',t0,t1,t2,t8,t9,t10⟩:=hs'
 simp -dsimp -implicitDefEqProofs [-getElem?_pos,go_sem,hP,t9,t10]
 refine condP (fun h=>?_) (fun h=>?_)
 ·have hij:i<j:=by simpa using h
  have w1:=wrap_in ((i:Int)+j) (by omega)
  have wu:IntKind.u64.wrap ((i:Int)+j)=(i:Int)+j:=by rw[IntKind.wrap_u64];omega
  obtain⟨h,hh⟩:∃h,h=(i+j) / 2:=⟨_,rfl⟩
  have wh:IntKind.i64.wrap (((i:Int)+j) / 2)=(h:Int):=by rw[wrap_in _ (by omega)];omega
  obtain⟨a,ha⟩:∃a,l[h]?=some a:=⟨_,List.getElem?_eq_getElem (by omega)⟩
  have w2:=wrap_in ((h:Int)+1) (by omega)
  have ia:=imm_item a
  have cm:=place1_pf a w
  rw[cIt]at cm ia
  have cl:=cmpI_lt a.Payment.Warrant w
  simp -dsimp -implicitDefEqProofs [-getElem?_pos,go_sem,hP,t9,t10,w1,wu,aconv,aint_shr,wh,t0,t1,t2,ha,cIt]
  refine callB_is (cm.lift _ _) hP en_179 (by simpa[imm_sc]using ia) .sc ?_
  by_cases c:a.Payment.Warrant<w
  ·have c1:decide (cmpI a.Payment.Warrant w<0)=true:=by rw[cl];exact decide_eq_true c
   simp -dsimp -implicitDefEqProofs [-getElem?_pos,go_sem,hP,c1,w2]
   refine⟨j-(h+1),by omega,?_⟩
   rw[hI]
   exact⟨h+1,j,fun k hk=>⟨by have:=(hk.2 h a ha).1 c;omega,(hc k hk).2⟩,by omega,by omega,rfl,by simp -dsimp[-getElem?_pos,go_sem,t0],by simp -dsimp[-getElem?_pos,go_sem,t1],by simp -dsimp[-getElem?_pos,go_sem,t2],by simp -dsimp[-getElem?_pos,go_sem,t8],by simp -dsimp[-getElem?_pos,go_sem],by simp -dsimp[-getElem?_pos,go_sem,t10]⟩
  ·have c1:decide (cmpI a.Payment.Warrant w<0)=false:=by rw[cl];exact decide_eq_false c
   simp -dsimp -implicitDefEqProofs [-getElem?_pos,go_sem,hP,c1]
   refine⟨h-i,by omega,?_⟩
   rw[hI]
   exact⟨i,h,fun k hk=>⟨(hc k hk).1,by have:=mt (hk.2 h a ha).2 c;omega⟩,by omega,by omega,rfl,by simp -dsimp[-getElem?_pos,go_sem,t0],by simp -dsimp[-getElem?_pos,go_sem,t1],by simp -dsimp[-getElem?_pos,go_sem,t2],by simp -dsimp[-getElem?_pos,go_sem,t8],by simp -dsimp[-getElem?_pos,go_sem,t9],by simp -dsimp[-getElem?_pos,go_sem]⟩
 ·have hik:i=j:=by
   have:¬i<j:=by simpa using h
   omega
  subst hik
  have fin:PlaceQ l w (.tup [iv i,bv (decide ((l[i]?).map wrt=some w))]):=⟨i,hjl,rfl,fun k hk=>by have:=hc k hk;omega⟩
  by_cases c:i<l.length
  ·obtain⟨a,ha⟩:∃a,l[i]?=some a:=⟨_,List.getElem?_eq_getElem c⟩
   have d:decide ((i:Int)<(l.length:Int))=true:=decide_eq_true (by omega)
   have ia:=imm_item a
   have cm:=place1_pf a w
   rw[cIt]at cm ia
   rw[ha]at fin
   have e:decide (Option.map wrt (some a)=some w)=decide (cmpI a.Payment.Warrant w=0):=by rw[cmpI_eq,decide_eq_decide];simp[wrt]
   rw[e]at fin
   simp -dsimp -implicitDefEqProofs [-getElem?_pos,go_sem,hP,t9,t8,c,d,t0,t1,t2,ha,cIt]
   refine callB_is (cm.lift _ _) hP en_179 (by simpa[imm_sc]using ia) .sc ?_
   simp -dsimp -implicitDefEqProofs [-getElem?_pos,go_sem,hP,t9,t8,c,d,t0,t2,ha]
   exact done_imm (imm_pair .sc .sc) fin
  ·have d:decide ((i:Int)<(l.length:Int))=false:=decide_eq_false (by omega)
   rw[List.getElem?_eq_none (by omega)]at fin
   simp -dsimp -implicitDefEqProofs [-getElem?_pos,go_sem,hP,t9,t8,c,d]
   exact done_imm (imm_pair .sc .sc) (by simpa using fin)
theorem CutI.uniq {l:List TItem} {w:Int} {j k:Nat} (hj:CutI l w j) (hk:CutI l w k):j=k:=by
 have key:∀{j k:Nat},CutI l w j→CutI l w k→¬j<k:=fun {j k} hj hk h=>by
  obtain⟨x,hx⟩:∃x,l[j]?=some x:=⟨_,List.getElem?_eq_getElem (by have:=hk.1;omega)⟩
  have h1:=(hk.2 j x hx).2 h
  have h2:=(hj.2 j x hx).1 h1
  omega
 have:=key hj hk
 have:=key hk hj
 omega
theorem placeQ_ex (l:List TItem) (w:Int):∃r,PlaceQ l w r∧Imm r:=by
 by_cases h:∃k,CutI l w k
 ·obtain⟨k,hk⟩:=h
  exact⟨_,⟨k,hk.1,rfl,fun j hj=>hk.uniq hj⟩,imm_pair .sc .sc⟩
 ·exact⟨_,⟨0,by omega,rfl,fun j hj=>absurd ⟨j,hj⟩ h⟩,imm_pair .sc .sc⟩
theorem PlaceQ.flat {l:List TItem} {w:Int} {r:AV} (h:PlaceQ l w r):Flat r:=by
 obtain⟨i,_,rfl,_⟩:=h
 simp[flat_tup,flat_sc]
theorem place_pf (d:TDesk) (w:Int) (hl:d.Items.length≤1000000):PFun Tryz.prog none none 115 [.agg d.cells,iv w] (PlaceQ d.Items w):=by
 refine pfun_intro Tryz.func115 rfl (by simp[Tryz.f115]) (by kernel_rfl) ?_
 intro E hP hr hs hW hN
 have ii:=imm_items d.Items
 simp -dsimp -implicitDefEqProofs [-getElem?_pos,go_sem,hP,cDn]
 refine callB_isQ ((bsfItem_pf d.Items w hl).lift _ _) hP en_178 (by simp[imm_sc,imm_fn,ii]) (placeQ_ex _ _) ?_
 rintro r ⟨i,h1,rfl,h2⟩ _
 simp -dsimp -implicitDefEqProofs [-getElem?_pos,go_sem,hP]
 exact done_imm (imm_pair .sc .sc) ⟨i,h1,by simp,h2⟩
open Go.PA
open Go.RowKit
theorem out_pf (x:TItem):PFun Tryz.prog none none 262 [.agg x.cells] (·=bv (goneB x)):=by
 refine pfun_intro Tryz.func262 rfl (by simp[Tryz.f262]) (by kernel_rfl) ?_
 intro E hP hr hs hW hN
 by_cases h1:x.State=2
 ·simp -dsimp -implicitDefEqProofs [-getElem?_pos,go_sem,hP,cIt,h1,goneB]
 ·have d1:=decide_eq_false h1
  simp -dsimp -implicitDefEqProofs [-getElem?_pos,go_sem,hP,cIt,h1,d1,goneB]
theorem lastDay_pf (a:TAccount) (he:a.Entries.length≤100000):PFun Tryz.prog none none 117 [.agg a.cells] (·=iv (lastDay a)):=by
 refine pfun_intro Tryz.func117 rfl (by simp[Tryz.f117]) (by kernel_rfl) ?_
 intro E hP hr hs hW hN
 by_cases h0:a.Entries.length=0
 ·have d0:decide (0<a.Entries.length)=false:=decide_eq_false (by omega)
  have:lastDay a=0:=by rw[lastDay,lastE_nil h0]
  simp -dsimp -implicitDefEqProofs [-getElem?_pos,go_sem,hP,cA,d0,this]
 ·obtain⟨k,hk⟩:∃k,a.Entries.length=k+1:=⟨a.Entries.length-1,by omega⟩
  obtain⟨e,hee⟩:∃e,a.Entries[k]?=some e:=⟨_,List.getElem?_eq_getElem (by omega)⟩
  have d0:decide ((0:Int)<(k:Int)+1)=true:=by simp
  have wk:=wrap_in ((k:Int)+1-1) (by omega)
  rw[Int.add_sub_cancel]at wk
  have:lastDay a=e.Day:=by rw[lastDay,lastE_get hk hee]
  simp -dsimp -implicitDefEqProofs [-getElem?_pos,go_sem,hP,cA,hk,d0,Int.add_sub_cancel,wk,hee,cE,this]
theorem sent1_pf (p:TPayment) (w:Int):PFun Tryz.prog none none 261 [.agg p.cells,.iref [iv w]] (·=bv (hasW w p)):=by
 refine pfun_intro Tryz.func261 rfl (by simp[Tryz.f261]) (by kernel_rfl) ?_
 intro E hP hr hs hW hN
 simp -dsimp -implicitDefEqProofs [-getElem?_pos,go_sem,hP,cPy,hasW]
theorem sent_pf (q:TQueue) (w:Int) (hf:FitQ q):PFun Tryz.prog none none 201 [.agg q.cells,iv w] (·=iv (sentN q w)):=by
 refine pfun_intro Tryz.func201 rfl (by simp[Tryz.f201]) (by kernel_rfl) ?_
 intro E hP hr hs hW hN
 obtain⟨R,hR⟩:∃R,R=sentN q w:=⟨_,rfl⟩
 rw[←hR]
 rw[sentN]at hR
 have lb:=hf.b
 have each:=hf.each
 obtain⟨l,hl⟩:∃l,l=q.Batches:=⟨_,rfl⟩
 rw[←hl]at hR lb each
 simp -dsimp -implicitDefEqProofs [-getElem?_pos,go_sem,hP,cQn,←hl]
 obtain⟨I,hI⟩:∃I:Nat→St→Prop,I=fun m s=>∃k:Nat,k≤l.length∧m=l.length-k∧s.t 3= .ref 1 0 0∧s.t 5=iv ((l.take k).countP fun b=>b.Payments.any (hasW w))∧s.t 9=batsL l∧s.t 10=iv l.length∧s.t 11=iv k∧s.H[1]?=some (some ⟨3,1,[[iv w]]⟩):=⟨_,rfl⟩
 refine aloop0 I (l.length) (by rw[hN];rfl) ?_ ?_
 ·rw[hI]
  exact⟨0,by omega,by omega,by simp -dsimp[-getElem?_pos,go_sem],by simp -dsimp[-getElem?_pos,go_sem],by simp -dsimp[-getElem?_pos,go_sem],by simp -dsimp[-getElem?_pos,go_sem],by simp -dsimp[-getElem?_pos,go_sem],by simp -dsimp[-getElem?_pos,go_sem]⟩
 intro m s hs'
 rw[hI]at hs'
 obtain⟨k,hk,hm,t3,t5,t9,t10,t11,h1⟩:=hs'
 have lt1:=(gsI h1)
 simp -dsimp -implicitDefEqProofs [-getElem?_pos,go_sem,hP,t10,t11]
 refine condP (fun h=>?_) (fun h=>?_)
 ·have hk:k<l.length:=by simpa using h
  obtain⟨b,hb⟩:∃b,l[k]?=some b:=⟨_,List.getElem?_eq_getElem hk⟩
  have wk:=wrap_in ((k:Int)+1) (by omega)
  have hbl:=each b (List.mem_of_getElem? hb)
  have ip:=imm_pays b.Payments
  have g1:∀x:Option AObj,(s.H++[x])[1]?=some (some ⟨3,1,[[iv w]]⟩):=fun x=>by rw[List.getElem?_append_left lt1];exact h1
  have es:(l.take (k+1)).countP (fun b=>b.Payments.any (hasW w))=(l.take k).countP (fun b=>b.Payments.any (hasW w))+if b.Payments.any (hasW w)=true then 1 else 0:=by rw[take_at hb,List.countP_append,List.countP_cons,List.countP_nil,Nat.zero_add]
  have lc:=List.countP_le_length (p:=fun b:TBatch=>b.Payments.any (hasW w)) (l:=l.take k)
  rw[List.length_take]at lc
  generalize (l.take k).countP (fun b=>b.Payments.any (hasW w))=c at es t5 lc
  have wc:=wrap_in ((c:Int)+1) (by omega)
  simp -dsimp -implicitDefEqProofs [-getElem?_pos,go_sem,hP,t9,t11,hb,cBt,t3]
  refine callB_pure (contains_pf_pay b.Payments 261 [.iref [iv w]] (hasW w) (by omega) en_261 (by simp[imm_iref,imm_sc]) fun p _=>sent1_pf p w) hP en_258 (args_imm ip (args_fnc (cs:=[.ref 1 0 0]) (by simp -dsimp[-getElem?_pos,go_sem,viewR_ref,g1,lt1,h1]) (by simp[imm_iref,imm_sc]) (args_nil.2 trivial))) .sc ?_
  cases hc:b.Payments.any (hasW w)
  ·rw[hc]at es
   simp -dsimp -implicitDefEqProofs [-getElem?_pos,go_sem,hP,t5,t11,wk]
   refine⟨l.length-(k+1),by omega,?_⟩
   rw[hI]
   exact⟨k+1,by omega,rfl,by simp -dsimp[-getElem?_pos,go_sem,t3],by simp -dsimp[-getElem?_pos,go_sem,t5,es],by simp -dsimp[-getElem?_pos,go_sem,t9],by simp -dsimp[-getElem?_pos,go_sem,t10],by simp -dsimp[-getElem?_pos,go_sem],by simp -dsimp[-getElem?_pos,go_sem,lt1,h1]⟩
  ·rw[hc]at es
   simp -dsimp -implicitDefEqProofs [-getElem?_pos,go_sem,hP,t5,t11,wk,wc]
   refine⟨l.length-(k+1),by omega,?_⟩
   rw[hI]
   exact⟨k+1,by omega,rfl,by simp -dsimp[-getElem?_pos,go_sem,t3],by simp -dsimp[-getElem?_pos,go_sem,es],by simp -dsimp[-getElem?_pos,go_sem,t9],by simp -dsimp[-getElem?_pos,go_sem,t10],by simp -dsimp[-getElem?_pos,go_sem],by simp -dsimp[-getElem?_pos,go_sem,lt1,h1]⟩
 ·have hk:k=l.length:=by simp at h;omega
  subst hk
  rw[List.take_length]at t5
  simp -dsimp -implicitDefEqProofs [-getElem?_pos,go_sem,hP,t5,hR]
theorem moved_pf (a:TAccount) (x:TItem) (he:a.Entries.length≤100000) (hs1:1≤x.Payment.Sub):PFun Tryz.prog none none 202 [.agg a.cells,.agg x.cells] (·=bv (movedB a x)):=by
 refine pfun_intro Tryz.func202 rfl (by simp[Tryz.f202]) (by kernel_rfl) ?_
 intro E hP hr hs hW hN
 have ix:=imm_item x
 have ot:=out_pf x
 rw[cIt]at ix ot
 obtain⟨R,hR⟩:∃R,R=movedB a x:=⟨_,rfl⟩
 rw[←hR]
 rw[movedB]at hR
 obtain⟨l,hl⟩:∃l,l=a.Entries:=⟨_,rfl⟩
 rw[←hl]at hR he
 simp -dsimp -implicitDefEqProofs [-getElem?_pos,go_sem,hP,cA,cIt,←hl]
 obtain⟨I,hI⟩:∃I:Nat→St→Prop,I=fun m s=>∃k:Nat,k≤l.length∧m=l.length-k∧(l.take k).all (okE x.Payment)=true∧s.t 3= .ref 1 0 0∧s.t 5=iv ((l.take k).countP (outE x.Payment))∧s.t 6=iv ((l.take k).countP (inE x.Payment))∧s.t 10=entsL l∧s.t 11=iv l.length∧s.t 12=iv k∧s.H[1]?=some (some ⟨83,7,[[iv x.Payment.Warrant,iv x.Payment.Payee,iv x.Payment.Amount,iv x.Payment.Due,iv x.Payment.Sub,iv x.State,iv x.Attempts]]⟩):=⟨_,rfl⟩
 refine aloop0 I (l.length) (by rw[hN];rfl) ?_ ?_
 ·rw[hI]
  exact⟨0,by omega,by omega,by simp,by simp -dsimp[-getElem?_pos,go_sem],by simp -dsimp[-getElem?_pos,go_sem],by simp -dsimp[-getElem?_pos,go_sem],by simp -dsimp[-getElem?_pos,go_sem],by simp -dsimp[-getElem?_pos,go_sem],by simp -dsimp[-getElem?_pos,go_sem],by simp -dsimp[-getElem?_pos,go_sem]⟩
 intro m s hs'
 rw[hI]at hs'
 obtain⟨k,hk,hm,hall,t3,t5,t6,t10,t11,t12,h1⟩:=hs'
 have lt1:=(gsI h1)
 have lo:=List.countP_le_length (p:=outE x.Payment) (l:=l.take k)
 have li:=List.countP_le_length (p:=inE x.Payment) (l:=l.take k)
 rw[List.length_take]at lo li
 simp -dsimp -implicitDefEqProofs [-getElem?_pos,go_sem,hP,t11,t12]
 refine condP (fun h=>?_) (fun h=>?_)
 ·have hk:k<l.length:=by simpa using h
  obtain⟨e,hee⟩:∃e,l[k]?=some e:=⟨_,List.getElem?_eq_getElem hk⟩
  have wk:=wrap_in ((k:Int)+1) (by omega)
  have g1:∀y:Option AObj,(s.H++[y])[1]?=some (some ⟨83,7,[[iv x.Payment.Warrant,iv x.Payment.Payee,iv x.Payment.Amount,iv x.Payment.Due,iv x.Payment.Sub,iv x.State,iv x.Attempts]]⟩):=fun y=>by rw[List.getElem?_append_left lt1];exact h1
  have eo:(l.take (k+1)).countP (outE x.Payment)=(l.take k).countP (outE x.Payment)+if outE x.Payment e=true then 1 else 0:=by rw[take_at hee,List.countP_append,List.countP_cons,List.countP_nil,Nat.zero_add]
  have ei:(l.take (k+1)).countP (inE x.Payment)=(l.take k).countP (inE x.Payment)+if inE x.Payment e=true then 1 else 0:=by rw[take_at hee,List.countP_append,List.countP_cons,List.countP_nil,Nat.zero_add]
  have ea:(l.take (k+1)).all (okE x.Payment)=okE x.Payment e:=by rw[take_at hee,List.all_append,hall];simp
  generalize (l.take k).countP (outE x.Payment)=co at eo t5 lo
  generalize (l.take k).countP (inE x.Payment)=ci at ei t6 li
  have wo:=wrap_in ((co:Int)+1) (by omega)
  have wi:=wrap_in ((ci:Int)+1) (by omega)
  have fin:∀s':St,okE x.Payment e=true→s'.t 3= .ref 1 0 0→s'.t 5=iv ((l.take (k+1)).countP (outE x.Payment))→s'.t 6=iv ((l.take (k+1)).countP (inE x.Payment))→s'.t 10=entsL l→s'.t 11=iv l.length→s'.t 12=iv (k+1)→s'.H[1]?=some (some ⟨83,7,[[iv x.Payment.Warrant,iv x.Payment.Payee,iv x.Payment.Amount,iv x.Payment.Due,iv x.Payment.Sub,iv x.State,iv x.Attempts]]⟩)→∃m',m'<m∧I m' s':=fun s' a1 a2 a3 a4 a5 a6 a7 a8=>by
   refine⟨l.length-(k+1),by omega,?_⟩
   rw[hI]
   exact⟨k+1,by omega,rfl,by rw[ea];exact a1,a2,a3,a4,a5,a6,a7,a8⟩
  have bad:okE x.Payment e=false→R=false:=fun h=>by
   rw[hR,Bool.and_eq_false_iff]
   refine .inl (List.all_eq_false.2 ⟨e,List.mem_of_getElem? hee,by simp[h]⟩)
  by_cases c1:e.Ref=x.Payment.Warrant
  rotate_left
  ·have d1:=decide_eq_false c1
   rw[show outE x.Payment e=false by simp[outE,d1],if_neg (by simp)]at eo
   rw[show inE x.Payment e=false by simp[inE,d1],if_neg (by simp)]at ei
   simp -dsimp -implicitDefEqProofs [-getElem?_pos,go_sem,hP,t10,t12,hee,cE,t3,g1,lt1,h1,c1,d1,wk]
   exact fin _ (by simp[okE,d1]) (by simp -dsimp[-getElem?_pos,go_sem,t3]) (by simp -dsimp[-getElem?_pos,go_sem,t5,eo]) (by simp -dsimp[-getElem?_pos,go_sem,t6,ei]) (by simp -dsimp[-getElem?_pos,go_sem,t10]) (by simp -dsimp[-getElem?_pos,go_sem,t11]) (by simp -dsimp[-getElem?_pos,go_sem]) (by simp -dsimp[-getElem?_pos,go_sem,lt1,h1])
  have d1:decide (e.Ref=x.Payment.Warrant)=true:=decide_eq_true c1
  have bool1:∀a b c d f:Bool,(a&&(b&&c))=false→(d&&(f&&c))=false→(!true||(c&&(a&&b||d&&f)))=false:=by decide
  simp -dsimp -implicitDefEqProofs [-getElem?_pos,go_sem,hP,t10,t12,hee,cE,t3,g1,lt1,h1,c1]
  refine condP (fun q1=>?_) (fun q1=>?_)
  ·simp only[Bool.and_eq_true,decide_eq_true_eq]at q1
   obtain⟨q1,q2,q3⟩:=q1
   rw[show outE x.Payment e=true by simp[outE,c1,q1,q2],if_pos rfl]at eo
   rw[show inE x.Payment e=false by simp[inE,c1,q1];omega,if_neg (by simp)]at ei
   simp -dsimp -implicitDefEqProofs [-getElem?_pos,go_sem,hP,t5,t12,wo,wk]
   exact fin _ (by simp[okE,d1,q1,q2,q3]) (by simp -dsimp[-getElem?_pos,go_sem,t3]) (by simp -dsimp[-getElem?_pos,go_sem,eo]) (by simp -dsimp[-getElem?_pos,go_sem,t6,ei]) (by simp -dsimp[-getElem?_pos,go_sem,t10]) (by simp -dsimp[-getElem?_pos,go_sem,t11]) (by simp -dsimp[-getElem?_pos,go_sem]) (by simp -dsimp[-getElem?_pos,go_sem,lt1,h1])
  simp -dsimp -implicitDefEqProofs [-getElem?_pos,go_sem,hP,t3,g1,lt1,h1]
  refine condP (fun q5=>?_) (fun q5=>?_)
  ·simp only[Bool.and_eq_true,decide_eq_true_eq]at q5
   obtain⟨q5,q6,q7⟩:=q5
   rw[show outE x.Payment e=false by simp[outE,c1,q5];omega,if_neg (by simp)]at eo
   rw[show inE x.Payment e=true by simp[inE,c1,q5,q6],if_pos rfl]at ei
   simp -dsimp -implicitDefEqProofs [-getElem?_pos,go_sem,hP,t6,t12,wi,wk]
   exact fin _ (by simp[okE,d1,q5,q6,q7]) (by simp -dsimp[-getElem?_pos,go_sem,t3]) (by simp -dsimp[-getElem?_pos,go_sem,t5,eo]) (by simp -dsimp[-getElem?_pos,go_sem,ei]) (by simp -dsimp[-getElem?_pos,go_sem,t10]) (by simp -dsimp[-getElem?_pos,go_sem,t11]) (by simp -dsimp[-getElem?_pos,go_sem]) (by simp -dsimp[-getElem?_pos,go_sem,lt1,h1])
  have:=bad (by rw[okE,d1];exact bool1 _ _ _ _ _ q1 q5)
  simp -dsimp -implicitDefEqProofs [-getElem?_pos,go_sem,hP,this]
 ·have hk:k=l.length:=by simp at h;omega
  subst hk
  rw[List.take_length]at t5 t6 hall lo li
  rw[hall,Bool.true_and]at hR
  generalize l.countP (outE x.Payment)=co at hR t5 lo
  generalize l.countP (inE x.Payment)=ci at hR t6 li
  have wi:=wrap_in ((ci:Int)+1) (by omega)
  simp -dsimp -implicitDefEqProofs [-getElem?_pos,go_sem,hP,t3,h1,lt1]
  refine callB_is (ot.lift _ _) hP en_262 (by simpa using ix) .sc ?_
  cases hg:goneB x
  ·rw[show goneN x=0 by simp[goneN,hg]]at hR
   by_cases c2:(co:Int)=x.Attempts
   ·have d2:=decide_eq_true c2
    rw[d2,Bool.true_and]at hR
    simp -dsimp -implicitDefEqProofs [-getElem?_pos,go_sem,hP,hg,t5,t6,t3,h1,lt1,d2,hR,c2]
   ·have d2:=decide_eq_false c2
    rw[d2,Bool.false_and]at hR
    simp -dsimp -implicitDefEqProofs [-getElem?_pos,go_sem,hP,hg,t5,t6,t3,h1,lt1,d2,hR,c2]
  ·rw[show goneN x=1 by simp[goneN,hg]]at hR
   by_cases c2:(co:Int)=x.Attempts
   ·have d2:=decide_eq_true c2
    rw[d2,Bool.true_and]at hR
    simp -dsimp -implicitDefEqProofs [-getElem?_pos,go_sem,hP,hg,t5,t6,t3,h1,lt1,d2,hR,c2,wi]
   ·have d2:=decide_eq_false c2
    rw[d2,Bool.false_and]at hR
    simp -dsimp -implicitDefEqProofs [-getElem?_pos,go_sem,hP,hg,t5,t6,t3,h1,lt1,d2,hR,c2,wi]
open Go.PA
open Go.RowKit
abbrev deskO (d:TDesk):AObj:=⟨35,7,[[iv d.Account.Credit,subsL d.Account.Subs,entsL d.Account.Entries,paysL d.Queue.Waiting,numsL d.Queue.Known,batsL d.Queue.Batches,itemsL d.Items]]⟩
abbrev itemO (x:TItem):AObj:=⟨83,7,[[iv x.Payment.Warrant,iv x.Payment.Payee,iv x.Payment.Amount,iv x.Payment.Due,iv x.Payment.Sub,iv x.State,iv x.Attempts]]⟩
set_option maxHeartbeats 2000000 in
theorem right_pf (d:TDesk) (x:TItem) (hf:FitD d):PFun Tryz.prog none none 136 [.agg d.cells,.agg x.cells] (·=bv (rightB d x)):=by
 refine pfun_introA Tryz.func136 rfl (by simp[Tryz.f136]) ?_
 intro E hP hr hs hW hN
 have ix:=imm_item x
 have ia:=imm_acc d.Account
 have iq:=imm_que d.Queue
 have ip:=imm_pay x.Payment
 have i1:=imm_pays d.Queue.Waiting
 have bl:=balance_pf d.Account x.Payment.Sub hf.s hf.e
 have py:=bpay_pf x.Payment
 have cp:=containsPay_pf d.Queue.Waiting x.Payment (by have:=hf.q.w;omega)
 have sn:=sent_pf d.Queue x.Payment.Warrant hf.q
 have mv:=fun h=>moved_pf d.Account x hf.e h
 rw[cIt]at ix
 rw[cA]at ia bl
 rw[cPy]at ip py cp
 rw[cQn]at iq sn
 rw[cA,cIt]at mv
 obtain⟨R,hR⟩:∃R,R=rightB d x:=⟨_,rfl⟩
 rw[←hR]
 rw[rightB]at hR
 refine awp_cut (by rw[hN];kernel_rfl) ?_
 simp -dsimp -implicitDefEqProofs [-getElem?_pos,go_sem,hP,cDn,cIt]
 refine awp_cut (by rw[hN];kernel_rfl) ?_
 simp -dsimp -implicitDefEqProofs [-getElem?_pos,go_sem,hP]
 obtain⟨Inv,hInv⟩:∃Inv:St→Prop,Inv=fun s=>s.t 2= .ref 0 0 0∧s.t 3= .ref 1 0 0∧s.t 5=iv (mostI x)∧s.t 6=iv (leastI x)∧s.H=[some (deskO d),some (itemO x)]:=⟨_,rfl⟩
 refine awp_join Inv (by rw[hN];kernel_rfl) ?_ ?_
 ·by_cases s1:x.State=1
  ·have e1:mostI x=4:=by rw[mostI,if_pos s1]
   have e2:leastI x=0:=by rw[leastI,if_pos s1]
   simp -dsimp -implicitDefEqProofs [-getElem?_pos,go_sem,hP,s1]
   refine⟨_,Weaker.refl _,?_⟩
   rw[hInv]
   exact⟨by simp -dsimp[-getElem?_pos,go_sem],by simp -dsimp[-getElem?_pos,go_sem],by simp -dsimp[-getElem?_pos,go_sem,e1],by simp -dsimp[-getElem?_pos,go_sem,e2],by simp[s1]⟩
  have d1:=decide_eq_false s1
  have e1:mostI x=5:=by rw[mostI,if_neg s1]
  by_cases s5:x.State=5
  ·have e2:leastI x=0:=by rw[leastI,if_neg s1,if_pos s5]
   simp -dsimp -implicitDefEqProofs [-getElem?_pos,go_sem,hP,s1,d1,s5]
   refine⟨_,Weaker.refl _,?_⟩
   rw[hInv]
   exact⟨by simp -dsimp[-getElem?_pos,go_sem],by simp -dsimp[-getElem?_pos,go_sem],by simp -dsimp[-getElem?_pos,go_sem,e1],by simp -dsimp[-getElem?_pos,go_sem,e2],by simp[s5]⟩
  ·have d5:=decide_eq_false s5
   have e2:leastI x=1:=by rw[leastI,if_neg s1,if_neg s5]
   simp -dsimp -implicitDefEqProofs [-getElem?_pos,go_sem,hP,s1,d1,s5,d5]
   refine⟨_,Weaker.refl _,?_⟩
   rw[hInv]
   exact⟨by simp -dsimp[-getElem?_pos,go_sem],by simp -dsimp[-getElem?_pos,go_sem],by simp -dsimp[-getElem?_pos,go_sem,e1],by simp -dsimp[-getElem?_pos,go_sem,e2],rfl⟩
 intro s hs'
 rw[hInv]at hs'
 obtain⟨t2,t3,t5,t6,hH⟩:=hs'
 clear hInv Inv
 refine awp_sound _ _ _ (by rw[hN];kernel_rfl) ?_
 simp -dsimp -implicitDefEqProofs [-getElem?_pos,go_sem,hP,t2,t3,hH]
 refine callB_is (cp.lift _ _) hP en_200 (by simpa using⟨i1,ip⟩) .sc ?_
 simp -dsimp -implicitDefEqProofs [-getElem?_pos,go_sem,hP,t2,t3,hH]
 refine callB_is (bl.lift _ _) hP en_111 (by simpa[imm_sc]using ia) (imm_pair .sc .sc) ?_
 simp -dsimp -implicitDefEqProofs [-getElem?_pos,go_sem,hP,t2,t3,hH]
 refine adrawB (fun _=>true) [] hP (by kernel_rfl) (by kernel_rfl) ?_
 cases c1:(balanceA d.Account x.Payment.Sub).2
 ·rw[c1,Bool.false_and]at hR
  simp -dsimp -implicitDefEqProofs [-getElem?_pos,go_sem,hP,c1,hR]
 rw[c1,Bool.true_and]at hR
 simp -dsimp -implicitDefEqProofs [-getElem?_pos,go_sem,hP,t2,t3,hH]
 refine callB_is (py.lift _ _) hP en_171 (by simpa using ip) .sc ?_
 cases c2:payPB x.Payment
 ·rw[c2,Bool.false_and]at hR
  simp -dsimp -implicitDefEqProofs [-getElem?_pos,go_sem,hP,c2,hR]
 have hsub:=((payPB_iff x.Payment).1 c2).sub.1
 rw[c2,Bool.true_and]at hR
 simp -dsimp -implicitDefEqProofs [-getElem?_pos,go_sem,hP,t2,t3,hH]
 by_cases c3:1≤x.State
 rotate_left
 ·rw[amg_no (by omega),Bool.false_and]at hR
  have d3:=decide_eq_false c3
  simp -dsimp -implicitDefEqProofs [-getElem?_pos,go_sem,hP,t2,t3,c3,d3,hR]
 have d3:=decide_eq_true c3
 by_cases c4:x.State≤5
 rotate_left
 ·rw[amg_no (by omega),Bool.false_and]at hR
  have d4:=decide_eq_false c4
  simp -dsimp -implicitDefEqProofs [-getElem?_pos,go_sem,hP,t2,t3,d3,d4,hR]
 have d4:=decide_eq_true c4
 rw[amg_iff.2 ⟨c3,c4⟩,Bool.true_and]at hR
 by_cases c5:leastI x≤x.Attempts
 rotate_left
 ·rw[amg_no (by omega),Bool.false_and]at hR
  have d5:=decide_eq_false c5
  simp -dsimp -implicitDefEqProofs [-getElem?_pos,go_sem,hP,t2,t3,d3,d4,d5,hR,t5,t6]
 have d5:=decide_eq_true c5
 by_cases c6:x.Attempts≤mostI x
 rotate_left
 ·rw[amg_no (by omega),Bool.false_and]at hR
  have d6:=decide_eq_false c6
  simp -dsimp -implicitDefEqProofs [-getElem?_pos,go_sem,hP,t2,t3,d3,d4,d5,d6,hR,t5,t6]
 have d6:=decide_eq_true c6
 rw[amg_iff.2 ⟨c5,c6⟩,Bool.true_and]at hR
 simp -dsimp -implicitDefEqProofs [-getElem?_pos,go_sem,hP,t2,t3,d3,d4,d5,d6,t5,t6]
 by_cases c7:decide (x.Payment∈d.Queue.Waiting)=decide (x.State=1)
 rotate_left
 ·rw[decide_eq_false c7,Bool.false_and]at hR
  have d7:(decide (x.Payment∈d.Queue.Waiting)==decide (x.State=1))=false:=by rw[beq_eq_false_iff_ne];exact c7
  simp -dsimp -implicitDefEqProofs [-getElem?_pos,go_sem,hP,t2,t3,d7,hR]
 have d7:(decide (x.Payment∈d.Queue.Waiting)==decide (x.State=1))=true:=by rw[beq_iff_eq];exact c7
 rw[decide_eq_true c7,Bool.true_and]at hR
 simp -dsimp -implicitDefEqProofs [-getElem?_pos,go_sem,hP,t2,t3,d7]
 refine callB_is (sn.lift _ _) hP en_201 (by simpa[imm_sc]using iq) .sc ?_
 by_cases c8:(sentN d.Queue x.Payment.Warrant:Int)=x.Attempts
 rotate_left
 ·rw[decide_eq_false c8,Bool.false_and]at hR
  have d8:=decide_eq_false c8
  simp -dsimp -implicitDefEqProofs [-getElem?_pos,go_sem,hP,t2,t3,d7,d8,hR]
 have d8:=decide_eq_true c8
 rw[d8,Bool.true_and]at hR
 simp -dsimp -implicitDefEqProofs [-getElem?_pos,go_sem,hP,t2,t3,d7,d8]
 refine callB_is ((mv hsub).lift _ _) hP en_202 (by simpa using⟨ia,ix⟩) .sc ?_
 simp -dsimp -implicitDefEqProofs [-getElem?_pos,go_sem,hP,d7,d8,hR]
theorem deskP_or {d:TDesk} (hq:QOk d.Queue) (ha:checkA d.Account=0):checkD d=if deskP d=true then 0 else 68:=by
 rw[checkD,if_pos ha,if_pos (checkQ_iff.2 hq),deskP_eq hq]
theorem map_snoc_take {l:List TItem} {k:Nat} {x:TItem} (h:l[k]?=some x):(l.take (k+1)).map wrt=(l.take k).map wrt++[wrt x]:=by rw[take_at h,List.map_append];rfl
set_option maxHeartbeats 2000000 in
theorem dcheck_pf (d:TDesk) (hf:FitD d):PFun Tryz.prog none none 83 [.agg d.cells] (·=iv (checkD d)):=by
 refine pfun_intro Tryz.func83 rfl (by simp[Tryz.f83]) (by kernel_rfl) ?_
 intro E hP hr hs hW hN
 have ia:=imm_acc d.Account
 have iq:=imm_que d.Queue
 have id':=imm_desk d
 have cka:=check_pf d.Account hf.s hf.e
 have ckq:=bcheck_pf d.Queue hf.q
 have rt:=fun x=>right_pf d x hf
 rw[cA]at ia cka
 rw[cQn]at iq ckq
 rw[cDn]at id'
 simp only[cDn]at rt
 have li:=hf.i
 have lk:=hf.q.k
 have lw:=hf.q.w
 obtain⟨R,hR⟩:∃R,R=checkD d:=⟨_,rfl⟩
 rw[←hR]
 simp -dsimp -implicitDefEqProofs [-getElem?_pos,go_sem,hP,cDn]
 refine callB_is (cka.lift _ _) hP en_82 (by simpa using ia) .sc ?_
 by_cases c1:checkA d.Account=0
 rotate_left
 ·have:R=checkA d.Account:=by rw[hR,checkD,if_neg c1]
  simp -dsimp -implicitDefEqProofs [-getElem?_pos,go_sem,hP,c1,this]
 simp -dsimp -implicitDefEqProofs [-getElem?_pos,go_sem,hP,c1]
 refine callB_is (ckq.lift _ _) hP en_135 (by simpa using iq) .sc ?_
 by_cases c2:checkQ d.Queue=0
 rotate_left
 ·have:R=checkQ d.Queue:=by rw[hR,checkD,if_pos c1,if_neg c2]
  simp -dsimp -implicitDefEqProofs [-getElem?_pos,go_sem,hP,c2,this]
 have hq:=checkQ_iff.1 c2
 rw[deskP_or hq c1]at hR
 obtain⟨l,hl⟩:∃l,l=d.Items:=⟨_,rfl⟩
 have hRl:R=if (l.all (rightB d)&&(decide (l.map wrt=d.Queue.Known)&&decide (l.countP queuedB=d.Queue.Waiting.length)))=true then 0 else 68:=by rw[hR,hl];rfl
 clear hR
 rw[←hl]at li
 simp only[←hl]at rt id'
 simp -dsimp -implicitDefEqProofs [-getElem?_pos,go_sem,hP,c2,←hl]
 refine aloop_own 5 3 1 (by simp -dsimp[-getElem?_pos,go_sem]) ?_
 obtain⟨I,hI⟩:∃I:Nat→St→Prop,I=fun m s=>∃(k id:Nat),k≤l.length∧m=l.length-k∧(l.take k).all (rightB d)=true∧1≤id∧s.t 1= .ref 0 0 0∧s.t 5= .sref id 0 k∧s.t 6=iv ((l.take k).countP queuedB)∧s.t 22=itemsL l∧s.t 23=iv l.length∧s.t 24=iv k∧s.H[0]?=some (some ⟨35,7,[[iv d.Account.Credit,subsL d.Account.Subs,entsL d.Account.Entries,paysL d.Queue.Waiting,numsL d.Queue.Known,batsL d.Queue.Batches,itemsL l]]⟩)∧s.H[id]?=some (some ⟨3,1,encL encI ((l.take k).map wrt)⟩):=⟨_,rfl⟩
 refine aloop0 I (l.length) (by rw[hN];rfl) ?_ ?_
 ·rw[hI]
  exact⟨0,1,by omega,by omega,by simp,by omega,by simp -dsimp[-getElem?_pos,go_sem],by simp -dsimp[-getElem?_pos,go_sem],by simp -dsimp[-getElem?_pos,go_sem],by simp -dsimp[-getElem?_pos,go_sem],by simp -dsimp[-getElem?_pos,go_sem],by simp -dsimp[-getElem?_pos,go_sem],by simp -dsimp[-getElem?_pos,go_sem],by simp -dsimp[-getElem?_pos,go_sem,encL]⟩
 intro m s hs'
 rw[hI]at hs'
 obtain⟨k,id,hk,hm,hall,hid,t1,t5,t6,t22,t23,t24,h0,hH⟩:=hs'
 have lt0:=(gsI h0)
 have lti:=(gsI hH)
 have lc:=List.countP_le_length (p:=queuedB) (l:=l.take k)
 rw[List.length_take]at lc
 have lws:(encL encI ((l.take k).map wrt)).length=k:=by rw[encL_len,List.length_map,List.length_take];omega
 simp -dsimp -implicitDefEqProofs [-getElem?_pos,go_sem,hP,t23,t24]
 refine condP (fun hh=>?_) (fun hh=>?_)
 ·have hk:k<l.length:=by simpa using hh
  obtain⟨x,hx⟩:∃x,l[k]?=some x:=⟨_,List.getElem?_eq_getElem hk⟩
  have wk:=wrap_in ((k:Int)+1) (by omega)
  have ix:=imm_item x
  have rx:=rt x
  rw[cIt]at ix rx
  have g0:∀y:Option AObj,(s.H++[y])[0]?=some (some ⟨35,7,[[iv d.Account.Credit,subsL d.Account.Subs,entsL d.Account.Entries,paysL d.Queue.Waiting,numsL d.Queue.Known,batsL d.Queue.Batches,itemsL l]]⟩):=fun y=>by rw[List.getElem?_append_left lt0];exact h0
  have gi:∀y:Option AObj,(s.H++[y])[id]?=some (some ⟨3,1,encL encI ((l.take k).map wrt)⟩):=fun y=>by rw[List.getElem?_append_left lti];exact hH
  have ec:(l.take (k+1)).countP queuedB=(l.take k).countP queuedB+if queuedB x=true then 1 else 0:=by rw[take_at hx,List.countP_append,List.countP_cons,List.countP_nil,Nat.zero_add]
  have ea:(l.take (k+1)).all (rightB d)=rightB d x:=by rw[take_at hx,List.all_append,hall];simp
  have ew:encL encI ((l.take (k+1)).map wrt)=encL encI ((l.take k).map wrt)++[[iv x.Payment.Warrant]]:=by rw[map_snoc_take hx];exact (encL_snoc encI _ _).symm
  generalize (l.take k).countP queuedB=cq at ec t6 lc
  generalize encL encI ((l.take k).map wrt)=ws at ew hH gi lws
  have wq:=wrap_in ((cq:Int)+1) (by omega)
  simp -dsimp -implicitDefEqProofs [-getElem?_pos,go_sem,hP,t22,t24,hx,cIt,t1,g0,lt0,h0]
  refine callB_is (rx.lift _ _) hP en_136 (by simpa using⟨id',ix⟩) .sc ?_
  have n0:¬id=0:=by omega
  cases hrx:rightB d x
  ·have:R=68:=by
    rw[hRl,if_neg]
    rw[Bool.and_eq_true]
    rintro⟨h1,_⟩
    have:=List.all_eq_true.1 h1 x (List.mem_of_getElem? hx)
    rw[hrx]at this
    cases this
   simp -dsimp -implicitDefEqProofs [-getElem?_pos,go_sem,hP,this]
  rw[hrx]at ea
  have fin:∀s':St,s'.t 1= .ref 0 0 0→s'.t 5= .sref (s.H.length+1) 0 (k+1)→s'.t 6=iv ((l.take (k+1)).countP queuedB)→s'.t 22=itemsL l→s'.t 23=iv l.length→s'.t 24=iv (k+1)→s'.H[0]?=some (some ⟨35,7,[[iv d.Account.Credit,subsL d.Account.Subs,entsL d.Account.Entries,paysL d.Queue.Waiting,numsL d.Queue.Known,batsL d.Queue.Batches,itemsL l]]⟩)→s'.H[s.H.length+1]?=some (some ⟨3,1,ws++[[iv x.Payment.Warrant]]⟩)→∃m',m'<m∧I m' s':=fun s' a1 a2 a3 a4 a5 a6 a7 a8=>by
   refine⟨l.length-(k+1),by omega,?_⟩
   rw[hI]
   exact⟨k+1,s.H.length+1,by omega,rfl,ea,by omega,a1,a2,a3,a4,a5,a6,a7,by rw[ew];exact a8⟩
  by_cases hs:x.State=1
  ·rw[show queuedB x=true by simp[queuedB,hs],if_pos rfl]at ec
   simp -dsimp -implicitDefEqProofs [-getElem?_pos,go_sem,hP,hs,t6,wq,t5,gi,hH,lti,lws,t24,wk]
   refine⟨by omega,by omega,?_⟩
   exact fin _ (by simp -dsimp[-getElem?_pos,go_sem,t1]) (by simp -dsimp[-getElem?_pos,go_sem]) (by simp -dsimp[-getElem?_pos,go_sem,ec]) (by simp -dsimp[-getElem?_pos,go_sem,t22]) (by simp -dsimp[-getElem?_pos,go_sem,t23]) (by simp -dsimp[-getElem?_pos,go_sem]) (by simp -dsimp[-getElem?_pos,go_sem,lt0,h0,n0]) (by simp -dsimp[-getElem?_pos,go_sem])
  ·rw[show queuedB x=false by simp[queuedB,hs],if_neg (by simp)]at ec
   have ds:=decide_eq_false hs
   simp -dsimp -implicitDefEqProofs [-getElem?_pos,go_sem,hP,hs,ds,t5,gi,hH,lti,lws,t24,wk]
   refine⟨by omega,by omega,?_⟩
   exact fin _ (by simp -dsimp[-getElem?_pos,go_sem,t1]) (by simp -dsimp[-getElem?_pos,go_sem]) (by simp -dsimp[-getElem?_pos,go_sem,t6,ec]) (by simp -dsimp[-getElem?_pos,go_sem,t22]) (by simp -dsimp[-getElem?_pos,go_sem,t23]) (by simp -dsimp[-getElem?_pos,go_sem]) (by simp -dsimp[-getElem?_pos,go_sem,lt0,h0,n0]) (by simp -dsimp[-getElem?_pos,go_sem])
 ·have hk:k=l.length:=by simp at hh;omega
  subst hk
  rw[List.take_length]at t6 hall hH
  rw[hall,Bool.true_and]at hRl
  have eq:=equalInts_pf (l.map wrt) d.Queue.Known (by rw[List.length_map];omega) (by omega)
  simp -dsimp -implicitDefEqProofs [-getElem?_pos,go_sem,hP,t5,t1,h0,lt0]
  refine callB_pure eq hP en_137 (args_sref hH (by rw[encL_len,List.length_map]) (imm_nums _) (args_imm (imm_nums _) (args_nil.2 trivial))) .sc ?_
  by_cases c3:l.map wrt=d.Queue.Known
  rotate_left
  ·have d3:=decide_eq_false c3
   rw[d3,Bool.false_and]at hRl
   simp -dsimp -implicitDefEqProofs [-getElem?_pos,go_sem,hP,d3,hRl]
  have d3:=decide_eq_true c3
  rw[d3,Bool.true_and]at hRl
  by_cases c4:l.countP queuedB=d.Queue.Waiting.length
  ·have d4:decide ((l.countP queuedB:Int)=(d.Queue.Waiting.length:Int))=true:=decide_eq_true (by omega)
   rw[decide_eq_true c4]at hRl
   simp -dsimp -implicitDefEqProofs [-getElem?_pos,go_sem,hP,d3,t1,h0,lt0,t6,d4,hRl]
  ·have d4:decide ((l.countP queuedB:Int)=(d.Queue.Waiting.length:Int))=false:=decide_eq_false (by omega)
   rw[decide_eq_false c4]at hRl
   simp -dsimp -implicitDefEqProofs [-getElem?_pos,go_sem,hP,d3,t1,h0,lt0,t6,d4,hRl]
end Go.Proofs.YtaenimpfelpafaaGreatDoor
