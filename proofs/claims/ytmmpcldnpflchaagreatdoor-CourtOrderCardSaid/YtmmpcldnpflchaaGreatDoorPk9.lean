/- Several texts of this claim, joined: CrtGen PaRun Crt8 CrtSame SaneCo LawCo. -/
import Derived.Test.YtmmpcldnpflchaaGreatDoorPk8
import Derived.Scope
set_option linter.unusedSimpArgs false
set_option linter.unusedVariables false
namespace Go.Proofs.YtmmpcldnpflchaaGreatDoor
open Go.PA
open Go.RowKit
def secs0:List TSecurity:=[⟨1,100,0,7200,5000,6,false⟩,⟨2,100,90,450,0,0,false⟩]
theorem ssecs_pf (p:Nat) (src:Option Nat):PFun Tryz.prog (some p) src 6 [sp p] (·=secsL secs0):=by
 refine pfun_intro Tryz.func6 rfl (by simp[Tryz.f6]) (by kernel_rfl) ?_
 intro E hP hr hs hW hN
 simp -dsimp -implicitDefEqProofs [-getElem?_pos,go_sem,hP]
 exact done_imm (imm_secs secs0) rfl
def DeedQ (x:AV):Prop:=∃d:TDeed,x= .agg d.cells
theorem DeedQ_ex:∃r,DeedQ r∧Imm r:=⟨_,⟨⟨0,0,0,0,0,0,0⟩,rfl⟩,imm_agg.2 (TDeed.imm _)⟩
set_option maxHeartbeats 4000000 in
theorem sdeed_pf (p:Nat) (src:Option Nat) (day:Int) (hd:0≤day∧day≤30000):PFun Tryz.prog (some p) src 15 [sp p,iv day] DeedQ:=by
 refine pfun_intro Tryz.func15 rfl (by simp[Tryz.f15]) (by kernel_rfl) ?_
 intro E hP hr hs hW hN
 have up:∀{f:FuncId} {args:List AV} {Q:AV→Prop},PFun Tryz.prog (some p) src f args Q→PFun Tryz.prog E.row E.src f args Q:=fun h=>hr▸hs▸h
 have fin:∀d:TDeed,Imm (.agg d.cells):=fun d=>imm_agg.2 d.imm
 have am:amax [iv day,iv 100]=some (iv (max day 100)):=by simp[amax,amaxFrom]
 have RG:∀lo hi:Int, -1000000000000000000≤lo∧lo≤hi→hi≤1000000000000000000→PFun Tryz.prog E.row E.src 34 [sp p,iv lo,iv hi] (RQ lo hi):=fun lo hi h1 h2=>up (rangeQ_pf p src lo hi h1 h2)
 have PK:∀xs:List Int,1≤xs.length∧xs.length≤1000→PFun Tryz.prog E.row E.src 35 [sp p,intsL xs] (PQ xs):=fun xs h=>up (pickQ_pf p src xs h)
 simp -dsimp -implicitDefEqProofs [-getElem?_pos,go_sem,hP]
 refine callB_isQ (RG 1 8 (by omega) (by omega)) hP en_34 (by simp -dsimp[-getElem?_pos,go_sem]) (RQ_ex (by omega)) ?_
 rintro r ⟨w,rfl,hw⟩ _
 simp -dsimp -implicitDefEqProofs [-getElem?_pos,go_sem,hP]
 refine callB_isQ (RG 1 9 (by omega) (by omega)) hP en_34 (by simp -dsimp[-getElem?_pos,go_sem]) (RQ_ex (by omega)) ?_
 rintro r ⟨k,rfl,hk⟩ _
 by_cases c1:k=1
 ·subst c1
  simp -dsimp -implicitDefEqProofs [-getElem?_pos,go_sem,hP,am]
  refine callB_isQ (PK [2,3,7] (by simp)) hP en_35 (by simp -dsimp[-getElem?_pos,go_sem]) (PQ_ex (by simp)) ?_
  rintro r ⟨_,rfl,_⟩ _
  simp -dsimp -implicitDefEqProofs [-getElem?_pos,go_sem,hP]
  refine callB_isQ (RG 1 3 (by omega) (by omega)) hP en_34 (by simp -dsimp[-getElem?_pos,go_sem]) (RQ_ex (by omega)) ?_
  rintro r ⟨_,rfl,_⟩ _
  simp -dsimp -implicitDefEqProofs [-getElem?_pos,go_sem,hP]
  refine callB_isQ (PK [0,0,4] (by simp)) hP en_35 (by simp -dsimp[-getElem?_pos,go_sem]) (PQ_ex (by simp)) ?_
  rintro r ⟨_,rfl,_⟩ _
  simp -dsimp -implicitDefEqProofs [-getElem?_pos,go_sem,hP]
  refine callB_isQ (PK [10,100,400] (by simp)) hP en_35 (by simp -dsimp[-getElem?_pos,go_sem]) (PQ_ex (by simp)) ?_
  rintro r ⟨_,rfl,_⟩ _
  simp -dsimp -implicitDefEqProofs [-getElem?_pos,go_sem,hP]
  exact done_imm (fin ⟨_,_,_,_,_,_,_⟩) ⟨⟨_,_,_,_,_,_,_⟩,rfl⟩
 have d1:decide (k=1)=false:=decide_eq_false c1
 by_cases c2:k=2
 ·subst c2
  simp -dsimp -implicitDefEqProofs [-getElem?_pos,go_sem,hP,am]
  refine callB_isQ (RG 1 4 (by omega) (by omega)) hP en_34 (by simp -dsimp[-getElem?_pos,go_sem]) (RQ_ex (by omega)) ?_
  rintro r ⟨_,rfl,_⟩ _
  simp -dsimp -implicitDefEqProofs [-getElem?_pos,go_sem,hP]
  refine callB_isQ (PK [1,2,3,7] (by simp)) hP en_35 (by simp -dsimp[-getElem?_pos,go_sem]) (PQ_ex (by simp)) ?_
  rintro r ⟨_,rfl,_⟩ _
  simp -dsimp -implicitDefEqProofs [-getElem?_pos,go_sem,hP]
  refine callB_isQ (PK [5,30,90] (by simp)) hP en_35 (by simp -dsimp[-getElem?_pos,go_sem]) (PQ_ex (by simp)) ?_
  rintro r ⟨_,rfl,_⟩ _
  simp -dsimp -implicitDefEqProofs [-getElem?_pos,go_sem,hP]
  exact done_imm (fin ⟨_,_,_,_,_,_,_⟩) ⟨⟨_,_,_,_,_,_,_⟩,rfl⟩
 have d2:decide (k=2)=false:=decide_eq_false c2
 by_cases c3:k=3
 ·subst c3
  simp -dsimp -implicitDefEqProofs [-getElem?_pos,go_sem,hP,am]
  refine callB_is ((business_pf day hd).lift _ _) hP en_36 (by simp -dsimp[-getElem?_pos,go_sem]) .sc ?_
  simp -dsimp -implicitDefEqProofs [-getElem?_pos,go_sem,hP]
  exact done_imm (fin ⟨_,_,_,_,_,_,_⟩) ⟨⟨_,_,_,_,_,_,_⟩,rfl⟩
 have d3:decide (k=3)=false:=decide_eq_false c3
 by_cases c4:k=4
 ·subst c4
  simp -dsimp -implicitDefEqProofs [-getElem?_pos,go_sem,hP,am]
  exact done_imm (fin ⟨_,_,_,_,_,_,_⟩) ⟨⟨_,_,_,_,_,_,_⟩,rfl⟩
 have d4:decide (k=4)=false:=decide_eq_false c4
 by_cases c5:k=5
 ·subst c5
  simp -dsimp -implicitDefEqProofs [-getElem?_pos,go_sem,hP,am]
  exact done_imm (fin ⟨_,_,_,_,_,_,_⟩) ⟨⟨_,_,_,_,_,_,_⟩,rfl⟩
 have d5:decide (k=5)=false:=decide_eq_false c5
 by_cases c6:k=6
 ·subst c6
  simp -dsimp -implicitDefEqProofs [-getElem?_pos,go_sem,hP,am]
  exact done_imm (fin ⟨_,_,_,_,_,_,_⟩) ⟨⟨_,_,_,_,_,_,_⟩,rfl⟩
 have d6:decide (k=6)=false:=decide_eq_false c6
 by_cases c7:k=7
 ·subst c7
  simp -dsimp -implicitDefEqProofs [-getElem?_pos,go_sem,hP,am]
  refine callB_isQ (RG 1 2 (by omega) (by omega)) hP en_34 (by simp -dsimp[-getElem?_pos,go_sem]) (RQ_ex (by omega)) ?_
  rintro r ⟨_,rfl,_⟩ _
  simp -dsimp -implicitDefEqProofs [-getElem?_pos,go_sem,hP]
  refine callB_isQ (RG 1 3 (by omega) (by omega)) hP en_34 (by simp -dsimp[-getElem?_pos,go_sem]) (RQ_ex (by omega)) ?_
  rintro r ⟨_,rfl,_⟩ _
  simp -dsimp -implicitDefEqProofs [-getElem?_pos,go_sem,hP]
  refine callB_isQ (PK [100,1000] (by simp)) hP en_35 (by simp -dsimp[-getElem?_pos,go_sem]) (PQ_ex (by simp)) ?_
  rintro r ⟨_,rfl,_⟩ _
  simp -dsimp -implicitDefEqProofs [-getElem?_pos,go_sem,hP]
  exact done_imm (fin ⟨_,_,_,_,_,_,_⟩) ⟨⟨_,_,_,_,_,_,_⟩,rfl⟩
 have d7:decide (k=7)=false:=decide_eq_false c7
 by_cases c8:k=8
 ·subst c8
  simp -dsimp -implicitDefEqProofs [-getElem?_pos,go_sem,hP,am]
  refine callB_isQ (RG 1 2 (by omega) (by omega)) hP en_34 (by simp -dsimp[-getElem?_pos,go_sem]) (RQ_ex (by omega)) ?_
  rintro r ⟨_,rfl,_⟩ _
  simp -dsimp -implicitDefEqProofs [-getElem?_pos,go_sem,hP]
  refine callB_isQ (RG 1 3 (by omega) (by omega)) hP en_34 (by simp -dsimp[-getElem?_pos,go_sem]) (RQ_ex (by omega)) ?_
  rintro r ⟨_,rfl,_⟩ _
  simp -dsimp -implicitDefEqProofs [-getElem?_pos,go_sem,hP]
  refine callB_isQ (PK [100,1000] (by simp)) hP en_35 (by simp -dsimp[-getElem?_pos,go_sem]) (PQ_ex (by simp)) ?_
  rintro r ⟨_,rfl,_⟩ _
  simp -dsimp -implicitDefEqProofs [-getElem?_pos,go_sem,hP]
  exact done_imm (fin ⟨_,_,_,_,_,_,_⟩) ⟨⟨_,_,_,_,_,_,_⟩,rfl⟩
 have d8:decide (k=8)=false:=decide_eq_false c8
 simp -dsimp -implicitDefEqProofs [-getElem?_pos,go_sem,hP,d1,d2,d3,d4,d5,d6,d7,d8]
 refine callB_isQ (PK [1,2,3] (by simp)) hP en_35 (by simp -dsimp[-getElem?_pos,go_sem]) (PQ_ex (by simp)) ?_
 rintro r ⟨_,rfl,_⟩ _
 simp -dsimp -implicitDefEqProofs [-getElem?_pos,go_sem,hP]
 refine callB_isQ (PK [1,2,7] (by simp)) hP en_35 (by simp -dsimp[-getElem?_pos,go_sem]) (PQ_ex (by simp)) ?_
 rintro r ⟨_,rfl,_⟩ _
 simp -dsimp -implicitDefEqProofs [-getElem?_pos,go_sem,hP]
 refine callB_isQ (PK [5,50] (by simp)) hP en_35 (by simp -dsimp[-getElem?_pos,go_sem]) (PQ_ex (by simp)) ?_
 rintro r ⟨_,rfl,_⟩ _
 simp -dsimp -implicitDefEqProofs [-getElem?_pos,go_sem,hP]
 exact done_imm (fin ⟨_,_,_,_,_,_,_⟩) ⟨⟨_,_,_,_,_,_,_⟩,rfl⟩
def DeedsQ (n:Nat) (x:AV):Prop:=∃l:List TDeed,x=deedsL l∧l.length≤n
theorem DeedsQ_ex (n:Nat):∃r,DeedsQ n r∧Imm r:=⟨_,⟨[],rfl,by simp⟩,imm_deeds []⟩
set_option maxHeartbeats 2000000 in
theorem sdeeds_pf (p:Nat) (src:Option Nat) (n:Nat) (hn:n≤100):PFun Tryz.prog (some p) src 7 [sp p,iv n] (DeedsQ n):=by
 refine pfun_intro Tryz.func7 rfl (by simp[Tryz.f7]) (by kernel_rfl) ?_
 intro E hP hr hs hW hN
 have up:∀{f:FuncId} {args:List AV} {Q:AV→Prop},PFun Tryz.prog (some p) src f args Q→PFun Tryz.prog E.row E.src f args Q:=fun h=>hr▸hs▸h
 have w1:=wrap_in ((n:Int)+1) (by omega)
 simp -dsimp -implicitDefEqProofs [-getElem?_pos,go_sem,hP,w1]
 refine callB_flat (up (N_pf p src ((n:Int)+1) (by omega))) hP en_9 (args_same (by simp -dsimp[-getElem?_pos,go_sem])) (NQ_ex _) (NQ_flat _) ?_
 rintro r ⟨z,rfl,_,hz⟩
 have hz:=hz (by omega)
 obtain⟨c,rfl⟩:∃c:Nat,z=c:=⟨z.toNat,by omega⟩
 simp -dsimp -implicitDefEqProofs [-getElem?_pos,go_sem,hP]
 refine aloop_own 5 64 7 (by simp -dsimp[-getElem?_pos,go_sem]) ?_
 obtain⟨I,hI⟩:∃I:Nat→St→Prop,I=fun m s=>∃(id:Nat) (l:List TDeed) (day:Int),m≤c∧l.length+m=c∧0≤day∧day≤100+3*l.length∧s.t 0=sp p∧s.t 5= .sref id 0 l.length∧s.t 6=iv day∧s.t 7=iv m∧s.H[id]?=some (some ⟨64,7,encL TDeed.cells l⟩):=⟨_,rfl⟩
 refine aloop0 I (c) (by rw[hN];rfl) ?_ ?_
 ·rw[hI]
  exact⟨0,[],100,by omega,by simp,by omega,by simp,by simp -dsimp[-getElem?_pos,go_sem],by simp -dsimp[-getElem?_pos,go_sem],by simp -dsimp[-getElem?_pos,go_sem],by simp -dsimp[-getElem?_pos,go_sem],by simp -dsimp[-getElem?_pos,go_sem,encL]⟩
 intro m s hs'
 rw[hI]at hs'
 obtain⟨id,l,day,hk,hl,hd0,hd1,t0,t5,t6,t7,hH⟩:=hs'
 have ltH:=(gsI hH)
 simp -dsimp -implicitDefEqProofs [-getElem?_pos,go_sem,hP,t7]
 refine condP (fun h=>?_) (fun h=>?_)
 ·have hm:0<m:=by simpa using h
  have wm:=wrap_in ((m:Int)-1) (by omega)
  simp -dsimp -implicitDefEqProofs [-getElem?_pos,go_sem,hP,t0,t6]
  refine callB_isQ (up (N_pf p src 3 (by omega))) hP en_9 (by simp -dsimp[-getElem?_pos,go_sem]) ⟨_,⟨0,rfl,by omega,by omega⟩,.sc⟩ ?_
  rintro r ⟨z,rfl,_,a3⟩ _
  have a3:=a3 (by omega)
  have wd:=wrap_in (day+z) (by omega)
  simp -dsimp -implicitDefEqProofs [-getElem?_pos,go_sem,hP,t5,t0,hH,wd]
  refine callB_isQ (up (sdeed_pf p src (day+z) (by omega))) hP en_15 (by simp -dsimp[-getElem?_pos,go_sem]) DeedQ_ex ?_
  rintro r ⟨d,rfl⟩ _
  have im:=imm_agg.2 d.imm
  rw[cDeedX]at im
  simp -dsimp -implicitDefEqProofs [-getElem?_pos,go_sem,hP,t5,t0,hH,ltH,encL_len,t7,wm,cDeedX]
  refine⟨by omega,by omega,m-1,by omega,?_⟩
  rw[hI]
  refine⟨s.H.length,l++[d],day+z,by omega,by simp;omega,by omega,by simp;omega,by simp -dsimp[-getElem?_pos,go_sem,t0],by simp -dsimp[-getElem?_pos,go_sem],by simp -dsimp[-getElem?_pos,go_sem],?_,by simp -dsimp[-getElem?_pos,go_sem,encL,cDeedX]⟩
  simp -dsimp -implicitDefEqProofs [-getElem?_pos,go_sem,hP]
  omega
 ·have hm:m=0:=by
   have:¬0<m:=by simpa using h
   omega
  simp -dsimp -implicitDefEqProofs [-getElem?_pos,go_sem,hP,t5]
  refine done (x:=deedsL l) ?_ ⟨l,rfl,by omega⟩ ?_<;>rw[view_sref,hH,viewS_some]
  ·rw[List.drop_zero,List.take_of_length_le (by simp[encL])]
   exact imm_deeds l
  ·rw[List.drop_zero,List.take_of_length_le (by simp[encL])]
end Go.Proofs.YtmmpcldnpflchaaGreatDoor
namespace Go.PA
open Go.RowKit
abbrev CS:=List AV×Heap
def setP:List AV→Nat→AV→List AV
 |[],0,v=>[v]
 |[],n+1,v=> .sc undef::setP [] n v
 |_::l,0,v=>v::l
 |a::l,n+1,v=>a::setP l n v
theorem initT_setP:∀(l:List AV) (i:Nat) (v:AV),initT (setP l i v)=upd (initT l) i v:=by
 have key:∀(l:List AV) (i:Nat) (v:AV) (j:Nat),(setP l i v).getD j (.sc undef)=if j=i then v else l.getD j (.sc undef):=by
  intro l
  induction l with
  |nil=>
   intro i
   induction i with
   |zero=>intro v j;cases j<;>simp[setP]
   |succ i ih=>intro v j;cases j with
    |zero=>simp[setP]
    |succ j=>simpa[setP]using ih v j
  |cons a l ih=>
   intro i v j
   cases i with
   |zero=>cases j<;>simp[setP]
   |succ i=>cases j with
    |zero=>simp[setP]
    |succ j=>simpa[setP]using ih i v j
 intro l i v
 funext j
 exact key l i v j
def CS.st (s:CS):St:=⟨initT s.1,s.2⟩
def putL (l:List AV) (d:Option Tmp) (x:AV):List AV:=match d with
 |some d=>setP l d x
 |none=>l
theorem putL_t (l:List AV) (d:Option Tmp) (x:AV):initT (putL l d x)=putT (initT l) d x:=by
 cases d
 ·rfl
 ·exact initT_setP _ _ _
def immB:Nat→AV→Bool
 |0,_=>false
 |_,.sc _=>true
 |_,.nil=>true
 |_,.imap _=>true
 |n+1,.agg cs=>cs.all (immB n)
 |n+1,.tup cs=>cs.all (immB n)
 |n+1,.iref cs=>cs.all (immB n)
 |n+1,.fn _ cs=>cs.all (immB n)
 |n+1,.list _ es=>es.all fun e=>e.all (immB n)
 |_,_=>false
theorem immB_imm:∀(n:Nat) (a:AV),immB n a=true→Imm a
 |0,_,h=>by simp[immB]at h
 |n+1,a,h=>by
  cases a<;>simp only[immB,List.all_eq_true,reduceCtorEq]at h
  case sc=>exact .sc
  case nil=>exact .nil
  case imap=>exact .imap
  case agg cs=>exact .agg fun a ha=>immB_imm n a (h a ha)
  case tup cs=>exact .tup fun a ha=>immB_imm n a (h a ha)
  case iref cs=>exact .iref fun a ha=>immB_imm n a (h a ha)
  case fn f cs=>exact .fn fun a ha=>immB_imm n a (h a ha)
  case list k es=>exact .list fun e he a ha=>immB_imm n a (h e he a ha)
def flatB:Nat→AV→Bool
 |0,_=>false
 |_,.sc _=>true
 |_,.nil=>true
 |n+1,.agg cs=>cs.all (flatB n)
 |n+1,.tup cs=>cs.all (flatB n)
 |_,_=>false
theorem flatB_flat:∀(n:Nat) (a:AV),flatB n a=true→Flat a
 |0,_,h=>by simp[flatB]at h
 |n+1,a,h=>by
  cases a<;>simp only[flatB,List.all_eq_true,reduceCtorEq]at h
  case sc=>exact .sc
  case nil=>exact .nil
  case agg cs=>exact .agg fun a ha=>flatB_flat n a (h a ha)
  case tup cs=>exact .tup fun a ha=>flatB_flat n a (h a ha)
def valEq:Value→Value→Bool
 | .int k a,.int k' b=>decide (k=k')&&decide (a=b)
 | .bool a,.bool b=>decide (a=b)
 | .string a,.string b=>decide (a=b)
 |_,_=>false
theorem valEq_eq {v u:Value} (h:valEq v u=true):v=u:=by
 cases v<;>cases u<;>simp_all [valEq]
def listEq {α:Type} (f:α→α→Bool):List α→List α→Bool
 |[],[]=>true
 |a::l,b::r=>f a b&&listEq f l r
 |_,_=>false
theorem listEq_eq {α:Type} {f:α→α→Bool} (hf:∀a b,f a b=true→a=b):∀{l r:List α},listEq f l r=true→l=r
 |[],[],_=>rfl
 |a::l,b::r,h=>by
  simp only[listEq,Bool.and_eq_true]at h
  rw[hf _ _ h.1,listEq_eq hf h.2]
 |[],_::_,h=>by simp[listEq]at h
 |_::_,[],h=>by simp[listEq]at h
def avEq:Nat→AV→AV→Bool
 |0,_,_=>false
 |_+1,.sc v,.sc u=>valEq v u
 |_+1,.nil,.nil=>true
 |n+1,.agg xs,.agg ys=>listEq (avEq n) xs ys
 |n+1,.tup xs,.tup ys=>listEq (avEq n) xs ys
 |n+1,.list k xs,.list k' ys=>decide (k=k')&&listEq (listEq (avEq n)) xs ys
 |n+1,.iref xs,.iref ys=>listEq (avEq n) xs ys
 |n+1,.fn f xs,.fn g ys=>decide (f=g)&&listEq (avEq n) xs ys
 |_+1,.ref i j k,.ref i' j' k'=>decide (i=i')&&decide (j=j')&&decide (k=k')
 |_+1,.sref i j k,.sref i' j' k'=>decide (i=i')&&decide (j=j')&&decide (k=k')
 |_+1,_,_=>false
theorem avEq_eq:∀(n:Nat) {a b:AV},avEq n a b=true→a=b
 |0,_,_,h=>by simp[avEq]at h
 |n+1,a,b,h=>by
  have ih:∀x y,avEq n x y=true→x=y:=fun x y=>avEq_eq n
  cases a<;>cases b<;>simp only[avEq,reduceCtorEq,Bool.and_eq_true,decide_eq_true_eq]at h
  case sc v u=>rw[valEq_eq h]
  case nil=>rfl
  case agg xs ys=>rw[listEq_eq ih h]
  case tup xs ys=>rw[listEq_eq ih h]
  case list k xs k' ys=>
   obtain⟨rfl,h⟩:=h
   rw[listEq_eq (fun _ _=>listEq_eq ih) h]
  case iref xs ys=>rw[listEq_eq ih h]
  case fn f xs g ys=>
   obtain⟨rfl,h⟩:=h
   rw[listEq_eq ih h]
  case ref i j k i' j' k'=>
   obtain⟨⟨rfl,rfl⟩,rfl⟩:=h
   rfl
  case sref i j k i' j' k'=>
   obtain⟨⟨rfl,rfl⟩,rfl⟩:=h
   rfl
def objEq:Option AObj→Option AObj→Bool
 |none,none=>true
 |some o,some o'=>decide (o.ty=o'.ty)&&decide (o.k=o'.k)&&listEq (listEq (avEq 6)) o.es o'.es
 |_,_=>false
theorem objEq_eq {a b:Option AObj} (h:objEq a b=true):a=b:=by
 cases a with
 |none=>cases b with
  |none=>rfl
  |some o=>simp[objEq]at h
 |some o=>cases b with
  |none=>simp[objEq]at h
  |some o'=>
   obtain⟨ty,k,es⟩:=o
   obtain⟨ty',k',es'⟩:=o'
   simp only[objEq,Bool.and_eq_true,decide_eq_true_eq]at h
   obtain⟨⟨rfl,rfl⟩,h⟩:=h
   rw[listEq_eq (fun _ _=>listEq_eq fun _ _=>avEq_eq 6) h]
def agreeB (D:Nat→Bool):Nat→Heap→Heap→Bool
 |_,[],_=>true
 |i,x::l,r=>match r with
  |y::r=>(!D i||objEq x y)&&agreeB D (i+1) l r
  |[]=>false
theorem agreeB_get {D:Nat→Bool}:∀{H H':Heap} {i:Nat},agreeB D i H H'=true→∀j,j<H.length→D (i+j)=true→H'[j]?=H[j]?
 |[],_,_,_,j,hj,_=>by simp at hj
 |x::l,[],i,h,_,_,_=>by simp[agreeB]at h
 |x::l,y::r,i,h,j,hj,hd=>by
  simp only[agreeB,Bool.and_eq_true,Bool.or_eq_true,Bool.not_eq_true']at h
  match j,hj,hd with
  |0,_,hd=>
   have:=h.1.resolve_left (by rw[Nat.add_zero]at hd;rw[hd];simp)
   simp[objEq_eq this]
  |j+1,hj,hd=>
   rw[List.getElem?_cons_succ,List.getElem?_cons_succ]
   exact agreeB_get h.2 j (by simpa using hj) (by rw[show i+1+j=i+(j+1) by omega];exact hd)
def bindL {α β:Type} (f:α→Option (List β)):List α→Option (List β)
 |[]=>some []
 |a::l=>match f a with
  |some xs=>match bindL f l with
   |some ys=>some (xs++ys)
   |none=>none
  |none=>none
theorem bindL_mem {α β:Type} {f:α→Option (List β)}:∀{l:List α} {ys:List β},bindL f l=some ys→∀a,a∈l→∃xs,f a=some xs∧∀x,x∈xs→x∈ys
 |[],ys,h,a,ha=>by cases ha
 |b::l,ys,h,a,ha=>by
  simp only[bindL]at h
  split at h
  ·rename_i xs hx
   split at h
   ·rename_i zs hz
    simp only[Option.some.injEq]at h
    subst h
    rcases List.mem_cons.1 ha with rfl|ha
    ·exact⟨xs,hx,fun x hx=>by simp[hx]⟩
    ·obtain⟨us,h1,h2⟩:=bindL_mem hz a ha
     exact⟨us,h1,fun x hx=>by simp[h2 x hx]⟩
   ·cases h
  ·cases h
def xclear (P:Program) (t:TypeId) (H:Heap) (x:AV):Option Heap:=match x,elemOf P t with
 | .sref id lo dn,some e=>match H[id]?,zeros P e with
  |some (some o),some zs=>if o.k=szOf P e∧0<o.k∧0<dn∧lo≤o.es.length then some (H.set id (some {o with es:=o.es.take lo++List.replicate dn zs++o.es.drop (lo+dn)}))else none
  |_,_=>none
 | .list _ [],some _=>some H
 |_,_=>none
abbrev Run:=FuncId→List AV→Heap→Option (List (AV×Heap))
def xeff (P:Program) (call:Run) (op:Op) (ev:Operand→AV) (H:Heap):Option (List (AV×Heap)):=
 match op with
 | .store t a x=>(astore P t H (ev a) (ev x)).map fun H'=>[(.sc undef,H')]
 | .alloc t=>(zeros P t).map fun zs=>[(.ref H.length 0 0,H++[some ⟨t,szOf P t,[zs]⟩])]
 | .box t x=>((ev x).cells?).map fun xs=>[(.ref H.length 0 0,H++[some ⟨t,xs.length,[xs]⟩])]
 | .makeSlice t l c=>match amake P t H (ev l) (ev c)with
  |some (r,H',m,B)=>if (B:Int)*m≤281474976710656∧m≤9223372036854775807 then some [(r,H')]else none
  |none=>none
 | .buildSlice t 0 parts=>match elemOf P t with
  |some e=>if knownT P e=true∧parts.size=0 then some [(.sref H.length 0 0,H++[some ⟨e,szOf P e,[]⟩])]else none
  |none=>none
 | .makeMap _ none=>some [(.mref H.length,H++[some ⟨0,2,[]⟩])]
 | .mapUpdate t x k v=>(aupdate P t H (ev x) (ev k) (ev v)).map fun H'=>[(.sc undef,H')]
 | .mapEntry ..=>none
 | .entryStore ..=>none
 | .range _ _=>none
 | .next _ _=>none
 | .call c=>match c.callee with
  | .builtin .append=>if fullBase (c.args.toList.map ev)=true then none else match c.args.toList,c.argTypes.toList with
   |[s,x],[t,t']=>if t=t' then match aappend P t H (ev s) (ev x)with
    |some (r,H',N,B)=>if N≤9223372036854775807∧N*B≤140737488355328 then some [(r,H')]else none
    |none=>none else none
   |_,_=>none
  | .builtin .copy=>none
  | .builtin .clear=>match c.args.toList,c.argTypes.toList with
   |[x],[t]=>(xclear P t H (ev x)).map fun H'=>[(.tup [],H')]
   |_,_=>none
  | .value f=>match ev f with
   | .fn g caps=>if enterable P g=true then call g (c.args.toList.map ev++caps) H else none
   |_=>none
  |_=>(aread P (.call c) ev H).map fun v=>[(v,H)]
 |op=>(aread P op ev H).map fun v=>[(v,H)]
section
variable {E:Env}
abbrev IsL (L:List (AV×Heap)):AV→Heap→Prop:=fun x K=>(x,K)∈L
abbrev CallOk (E:Env) (call:Run):Prop:=∀g args H L,call g args H=some L→ACall E g args H (IsL L)
abbrev RunOk (P:Program) (run:Run):Prop:=∀g args H L,run g args H=some L→∀row src,MFun P row src g args H (IsL L)
theorem xeff_sound {call:Run} (hc:CallOk E call) {op:Op} {ev:Operand→AV} {H:Heap} {L:List (AV×Heap)}
  (h:xeff E.P call op ev H=some L):AEff E op ev H (IsL L):=by
 have rd:∀{o:Option AV},o.map (fun v=>[(v,H)])=some L→(match o with|some v=>IsL L v H|none=>False):=fun {o} h=>by
  cases o with
  |none=>simp at h
  |some v=>simp only[Option.map_some,Option.some.injEq]at h;subst h;exact List.mem_singleton.2 rfl
 have one:∀{x:AV} {K:Heap},some [(x,K)]=some L→IsL L x K:=fun h=>by
  simp only[Option.some.injEq]at h
  subst h
  exact List.mem_singleton.2 rfl
 unfold xeff at h
 unfold AEff
 split at h
 ·simp only[Option.map_eq_some_iff]at h
  obtain⟨K,hK,rfl⟩:=h
  simp only[hK]
  exact List.mem_singleton.2 rfl
 ·simp only[Option.map_eq_some_iff]at h
  obtain⟨K,hK,rfl⟩:=h
  simp only[hK]
  exact List.mem_singleton.2 rfl
 ·simp only[Option.map_eq_some_iff]at h
  obtain⟨K,hK,rfl⟩:=h
  simp only[hK]
  exact List.mem_singleton.2 rfl
 ·split at h
  ·rename_i hm
   split at h
   ·rename_i hb
    simp only[hm]
    exact⟨hb.1,hb.2,one h⟩
   ·cases h
  ·cases h
 ·split at h
  ·rename_i e he
   split at h
   ·rename_i hb
    simp only[he,if_pos hb]
    exact one h
   ·cases h
  ·cases h
 ·exact one h
 ·simp only[Option.map_eq_some_iff]at h
  obtain⟨K,hK,rfl⟩:=h
  simp only[hK]
  exact List.mem_singleton.2 rfl
 ·cases h
 ·cases h
 ·cases h
 ·cases h
 ·rename_i c
  split at h
  ·rename_i hcal
   simp only[hcal]
   split at h
   ·cases h
   ·rename_i hf
    rw[if_neg hf]
    split at h
    ·rename_i s x t t' h1 h2
     split at h
     ·rename_i htt
      split at h
      ·rename_i ha
       split at h
       ·rename_i hb
        simp only[h1,h2,ha]
        exact⟨htt,hb.1,hb.2,one h⟩
       ·cases h
      ·cases h
     ·cases h
    ·cases h
  ·cases h
  ·rename_i hcal
   simp only[hcal]
   split at h
   ·rename_i x t h1 h2
    simp only[Option.map_eq_some_iff]at h
    obtain⟨K,hK,rfl⟩:=h
    have e2:c.argTypes=#[t]:=Array.toList_inj.1 h2
    rw[h1,e2]
    unfold xclear at hK
    split at hK
    ·rename_i id lo dn e hx he
     split at hK
     ·rename_i o zs ho hz
      split at hK
      ·rename_i hc'
       simp only[Option.some.injEq]at hK
       subst hK
       rw[List.map_cons,List.map_nil,hx]
       exact buiB_clear (b:= .mk) (.inl rfl) ho he hc'.1 hc'.2.1 hz hc'.2.2.1 hc'.2.2.2 (List.mem_singleton.2 rfl)
      ·cases hK
     ·cases hK
    ·rename_i k e hx he
     simp only[Option.some.injEq]at hK
     subst hK
     rw[List.map_cons,List.map_nil,hx]
     exact buiB_clear_nil (b:= .mk) he (List.mem_singleton.2 rfl)
    ·cases hK
   ·cases h
  ·rename_i f hcal
   simp only[hcal]
   split at h
   ·rename_i g caps hg
    split at h
    ·rename_i hen
     simp only[hg]
     exact .inl ⟨hen,hc _ _ _ _ h⟩
    ·cases h
   ·cases h
  ·rename_i h1 h2 h3 h4
   dsimp only
   split
   ·rename_i hcal;exact (h1 hcal).elim
   ·rename_i hcal;exact (h2 hcal).elim
   ·rename_i hcal;exact (h3 hcal).elim
   ·rename_i f hcal;exact (h4 f hcal).elim
   ·exact rd h
 ·rename_i h1 h2 h3 h4 h5 h6 h7 ha hb h8 h9 h10
  split
  ·exact (h1 _ _ _ rfl).elim
  ·exact (h2 _ rfl).elim
  ·exact (h3 _ _ rfl).elim
  ·exact (h4 _ _ _ rfl).elim
  ·exact (h5 _ _ rfl).elim
  ·exact (h6 _ rfl).elim
  ·exact (h7 _ _ _ _ rfl).elim
  ·exact (ha _ _ _ rfl).elim
  ·exact (hb _ _ _ _ rfl).elim
  ·exact (h8 _ _ rfl).elim
  ·exact (h9 _ _ rfl).elim
  ·exact (h10 _ rfl).elim
  ·exact rd h
def xstep (P:Program) (call:Run) (ops:Array Oper) (o:Oper) (s:CS):Option (List CS):=
 match aguard ops o (initT s.1)with
 |some true=>(xeff P call o.op (St.eval ⟨initT s.1,s.2⟩) s.2).map fun L=>L.map fun y=>(putL s.1 o.dst y.1,y.2)
 |some false=>some [(putL s.1 o.dst (.sc undef),s.2)]
 |none=>none
def xops (P:Program) (call:Run) (ops:Array Oper):List Oper→CS→Option (List CS)
 |[],s=>some [s]
 |o::l,s=>match xstep P call ops o s with
  |some ss=>bindL (xops P call ops l) ss
  |none=>none
def xr (D:Nat→Bool):Nat→Heap→Heap
 |_,[]=>[]
 |i,x::l=>(if D i then x else none)::xr D (i+1) l
theorem xr_get (D:Nat→Bool):∀(H:Heap) (i j:Nat),(xr D i H)[j]?=H[j]?.map fun x=>if D (i+j)then x else none
 |[],i,j=>by simp[xr]
 |x::l,i,0=>by simp[xr]
 |x::l,i,j+1=>by rw[xr,List.getElem?_cons_succ,xr_get D l,List.getElem?_cons_succ,show i+1+j=i+(j+1) by omega]
theorem xr_eq (D:Nat→Bool) (H:Heap):xr D 0 H=restr D H:=by
 apply List.ext_getElem?
 intro j
 rw[xr_get,restr,List.getElem?_mapIdx,Nat.zero_add]
def xtouch (op:Op) (ev:Operand→AV):Option (List Nat):=match op with
 | .store _ a _=>match ev a with
  | .ref id _ _=>some [id]
  |_=>none
 | .alloc _=>some []
 | .box _ _=>some []
 | .makeSlice _ _ _=>some []
 | .call c=>match c.callee with
  | .builtin .append=>match c.args.toList.map ev with
   | .sref id _ _::_=>some [id]
   | .nil::_=>some []
   |_=>none
  |_=>none
 |_=>none
theorem get_app {H:Heap} {x:Option AObj} {id:Nat} (h:id<H.length):(H++[x])[id]?=H[id]?:=List.getElem?_append_left h
theorem xtouch_sound {P:Program} {call:Run} {op:Op} {ev:Operand→AV} {H:Heap} {L:List (AV×Heap)} {X:List Nat}
  (h:xeff P call op ev H=some L) (ht:xtouch op ev=some X) (id:Nat) (hid:id<H.length) (hX:id∉X) {r:AV} {H':Heap} (hL:(r,H')∈L):H'[id]?=H[id]?:=by
 unfold xtouch at ht
 split at ht
 ·rename_i t a x
  simp only[xeff,Option.map_eq_some_iff]at h
  obtain⟨K,hK,rfl⟩:=h
  simp only[List.mem_singleton,Prod.mk.injEq]at hL
  obtain⟨_,rfl⟩:=hL
  split at ht
  ·rename_i i j k ha
   simp only[Option.some.injEq]at ht
   subst ht
   rw[ha]at hK
   unfold astore at hK
   split at hK
   ·rename_i i' _ _ _ _ heq _
    cases heq
    split at hK
    ·split at hK
     ·split at hK
      ·simp only[Option.some.injEq]at hK
       subst hK
       rw[List.getElem?_set_ne (by simpa using Ne.symm (by simpa using hX))]
      ·cases hK
     ·cases hK
    ·cases hK
   ·cases hK
  ·cases ht
 ·simp only[xeff,Option.map_eq_some_iff]at h
  obtain⟨K,hK,rfl⟩:=h
  simp only[List.mem_singleton,Prod.mk.injEq]at hL
  obtain⟨_,rfl⟩:=hL
  exact get_app hid
 ·simp only[xeff,Option.map_eq_some_iff]at h
  obtain⟨K,hK,rfl⟩:=h
  simp only[List.mem_singleton,Prod.mk.injEq]at hL
  obtain⟨_,rfl⟩:=hL
  exact get_app hid
 ·simp only[xeff]at h
  split at h
  ·rename_i hm
   split at h
   ·simp only[Option.some.injEq]at h
    subst h
    simp only[List.mem_singleton,Prod.mk.injEq]at hL
    obtain⟨_,rfl⟩:=hL
    unfold amake at hm
    split at hm
    ·split at hm
     ·split at hm
      ·simp only[Option.some.injEq,Prod.mk.injEq]at hm
       obtain⟨_,rfl,_⟩:=hm
       exact get_app hid
      ·cases hm
     ·cases hm
    ·cases hm
   ·cases h
  ·cases h
 ·rename_i c
  split at ht
  ·rename_i hcal
   simp only[xeff,hcal]at h
   split at h
   ·cases h
   ·split at h
    ·rename_i s x t t' h1 h2
     split at h
     ·split at h
      ·rename_i ha
       split at h
       ·simp only[Option.some.injEq]at h
        subst h
        simp only[List.mem_singleton,Prod.mk.injEq]at hL
        obtain⟨_,rfl⟩:=hL
        rw[h1]at ht
        unfold aappend at ha
        split at ha
        ·cases ha
        ·split at ha
         ·split at ha
          ·cases ha
          ·split at ha
           ·simp only[Option.some.injEq,Prod.mk.injEq]at ha
            obtain⟨_,rfl,_⟩:=ha
            exact get_app hid
           ·rename_i hs
            simp only[List.map_cons,hs,Option.some.injEq]at ht
            subst ht
            split at ha
            ·split at ha
             ·simp only[Option.some.injEq,Prod.mk.injEq]at ha
              obtain⟨_,rfl,_⟩:=ha
              rw[get_app (by simpa using hid),List.getElem?_set_ne (by simpa using Ne.symm (by simpa using hX))]
             ·cases ha
            ·cases ha
           ·cases ha
         ·cases ha
       ·cases h
      ·cases h
     ·cases h
    ·cases h
  ·cases ht
 ·cases ht
def xsame:List (AV×Heap)→Option AV
 |[]=>none
 |(r,H)::L=>if immB 6 (view H r)&&L.all (fun y=>avEq 6 (view H r) (view y.2 y.1))then some (view H r)else none
theorem xsame_sound {L:List (AV×Heap)} {v:AV} (h:xsame L=some v):Imm v∧∀y,y∈L→view y.2 y.1=v:=by
 unfold xsame at h
 split at h
 ·cases h
 ·rename_i r H L
  split at h
  ·rename_i hc
   simp only[Bool.and_eq_true,List.all_eq_true]at hc
   simp only[Option.some.injEq]at h
   subst h
   refine⟨immB_imm 6 _ hc.1,fun y hy=>?_⟩
   rcases List.mem_cons.1 hy with rfl|hy
   ·rfl
   ·exact (avEq_eq 6 (hc.2 y hy)).symm
  ·cases h
def xpure (run:Run) (g:FuncId) (args:List AV):Option AV:=
 if args.all (immB 6)then match run g args []with
  |some L=>xsame L
  |none=>none
 else none
def xdstep (P:Program) (run call:Run) (D:Nat→Bool) (n:Nat) (S T:List Nat) (ops:Array Oper) (k:Nat) (o:Oper) (s:CS):Option (List CS):=
 match aguard ops o (initT s.1)with
 |some true=>
  if T.contains k then (match o.op with
   | .call c=>match c.callee with
    | .value f=>match St.eval ⟨initT s.1,s.2⟩ f with
     | .fn g caps=>if enterable P g=true then (xpure run g (c.args.toList.map (St.eval ⟨initT s.1,s.2⟩)++caps)).map fun x=>[(putL s.1 o.dst x,s.2)]else none
     |_=>none
    |_=>none
   |_=>none)
  else if isRead o.op then (aread P o.op (St.eval ⟨initT s.1,s.2⟩) (if S.contains k then s.2 else xr D 0 s.2)).map fun x=>[(putL s.1 o.dst x,s.2)]
  else if S.contains k then (xeff P call o.op (St.eval ⟨initT s.1,s.2⟩) s.2).map fun L=>L.map fun y=>(putL s.1 o.dst y.1,y.2)
  else match xtouch o.op (St.eval ⟨initT s.1,s.2⟩)with
   |some X=>if n≤s.2.length&&X.all (fun i=>!D i)then (xeff P call o.op (St.eval ⟨initT s.1,s.2⟩) s.2).map fun L=>L.map fun y=>(putL s.1 o.dst y.1,y.2)else none
   |none=>match xeff P call o.op (St.eval ⟨initT s.1,s.2⟩) s.2 with
    |some L=>if n≤s.2.length&&L.all (fun y=>agreeB D 0 s.2 y.2)then some (L.map fun y=>(putL s.1 o.dst y.1,y.2))else none
    |none=>none
 |some false=>some [(putL s.1 o.dst (.sc undef),s.2)]
 |none=>none
def xdops (P:Program) (run call:Run) (D:Nat→Bool) (n:Nat) (S T:List Nat) (ops:Array Oper):List Oper→Nat→CS→Option (List CS)
 |[],_,s=>some [s]
 |o::l,k,s=>match xdstep P run call D n S T ops k o s with
  |some ss=>bindL (xdops P run call D n S T ops l (k+1)) ss
  |none=>none
def xorders (P:Program) (run call:Run) (D:Nat→Bool) (n:Nat) (S T:List Nat) (ops:Array Oper):Nat→Array Bool→CS→Option (List CS)
 |0,listed,s=>if Region.ready .any ops listed=[]then some [s]else none
 |k+1,listed,s=>match Region.ready .any ops listed with
  |[]=>none
  |R=>let one:=fun i=>match ops[i]? with
    |some o=>match xdstep P run call D n S T ops i o s with
     |some ss=>bindL (xorders P run call D n S T ops k (listed.setIfInBounds i true)) ss
     |none=>none
    |none=>none
   match R.find? fun i=>pickOk ops S T listed i with
   |some i=>one i
   |none=>bindL one R
structure DH where
 S:List Nat
 T:List Nat
 X:List Nat
def idOf:AV→Option Nat
 | .ref id _ _=>some id
 | .sref id _ _=>some id
 | .mref id=>some id
 |_=>none
def DH.D (d:DH) (s:CS):Nat→Bool:=fun i=>decide (i<s.2.length)&&d.X.all fun j=>!(idOf (initT s.1 j)==some i)
def xregion (P:Program) (run call:Run) (d:DH) (ops:Array Oper) (s:CS):Option (List CS):=
 if regionX ops d.S d.T then xdops P run call (d.D s) s.2.length d.S d.T ops ops.toList 0 s
 else xorders P run call (d.D s) s.2.length d.S d.T ops ops.size (Array.replicate ops.size false) s
abbrev Outs:=Option (List (Exit×CS))
def xcode (P:Program) (N:Nat) (hint:Nat→DH) (run:Run) (call:Nat→Run):Nat→Code→CS→Outs
 |0,_,_=>none
 |n+1,c,s=>match c with
  | .skip=>some [(.normal,s)]
  | .region id ops d=>if dstsOk N ops then (match (if d then xregion P run (call id) (hint id) ops s else xops P (call id) ops ops.toList s)with
   |some ss=>some (ss.map fun s'=>(.normal,s'))
   |none=>none)else none
  | .seq a b=>match xcode P N hint run call n a s with
   |some rs=>bindL (fun r=>match r.1 with
    | .normal=>xcode P N hint run call n b r.2
    |e=>some [(e,r.2)]) rs
   |none=>none
  | .cond x a b=>match St.eval ⟨initT s.1,s.2⟩ x with
   | .sc (.bool true)=>xcode P N hint run call n a s
   | .sc (.bool false)=>xcode P N hint run call n b s
   |_=>none
  | .block id c=>match xcode P N hint run call n c s with
   |some rs=>some (rs.map fun r=>match r.1 with
    | .exit i=>if i=id then (.normal,r.2)else (.exit i,r.2)
    |e=>(e,r.2))
   |none=>none
  | .exit id=>some [(.exit id,s)]
  | .label _=>some [(.normal,s)]
  | .ret=>some [(.ret,s)]
  | .loop c=>match xcode P N hint run call n c s with
   |some rs=>bindL (fun r=>match r.1 with
    | .normal=>xcode P N hint run call n (.loop c) r.2
    |e=>some [(e,r.2)]) rs
   |none=>none
  |_=>none
abbrev SL (L:List CS):St→Prop:=fun st=>∃s,s∈L∧st=⟨initT s.1,s.2⟩
theorem AStep.mono {ops:Array Oper} {o:Oper} {s:St} {K K':St→Prop} (h:AStep E ops o s K) (hk:∀s',K s'→K' s'):AStep E ops o s K':=by
 unfold AStep at h⊢
 split
 ·rename_i hg;rw[hg]at h;exact AEff.mono h fun x H' hx=>hk _ hx
 ·rename_i hg;rw[hg]at h;exact hk _ h
 ·rename_i hg;rw[hg]at h;exact h
variable {run call:Run}
theorem sl_of {L:List (AV×Heap)} {s:CS} {d:Option Tmp} {x:AV} {K:Heap} (h:(x,K)∈L):SL (L.map fun y=>(putL s.1 d y.1,y.2)) ⟨putT (initT s.1) d x,K⟩:=
 ⟨_,List.mem_map_of_mem h,by rw[←putL_t]⟩
theorem sl_one {l:List AV} {d:Option Tmp} {x:AV} {H:Heap}:SL [(putL l d x,H)] ⟨putT (initT l) d x,H⟩:=⟨_,List.mem_singleton.2 rfl,by rw[←putL_t]⟩
theorem xstep_sound (hc:CallOk E call) {ops:Array Oper} {o:Oper} {s:CS} {L:List CS} (h:xstep E.P call ops o s=some L):AStep E ops o ⟨initT s.1,s.2⟩ (SL L):=by
 unfold xstep at h
 unfold AStep
 split at h
 ·rename_i hg
  simp only[hg]
  simp only[Option.map_eq_some_iff]at h
  obtain⟨M,hM,rfl⟩:=h
  exact (xeff_sound hc hM).mono fun x K hx=>sl_of hx
 ·rename_i hg
  simp only[hg]
  simp only[Option.some.injEq]at h
  subst h
  exact sl_one
 ·cases h
theorem AOps.mono {ops:Array Oper}:∀(l:List Oper) {s:St} {K K':St→Prop},(∀s,K s→K' s)→AOps E ops l s K→AOps E ops l s K'
 |[],_,_,_,hk,h=>hk _ h
 |_::l,_,_,_,hk,h=>AStep.mono h fun _ h1=>AOps.mono l hk h1
theorem AXOps.mono {D:Nat→Bool} {S T:List Nat} {ops:Array Oper}:∀(l:List Oper) (k:Nat) {s:St} {K K':St→Prop},(∀s,K s→K' s)→AXOps D E ops S T l k s K→AXOps D E ops S T l k s K'
 |[],_,_,_,_,hk,h=>hk _ h
 |_::l,k,_,_,_,hk,h=>XStep.mono h fun _ h1=>AXOps.mono l (k+1) hk h1
theorem xops_sound (hc:CallOk E call) {ops:Array Oper}:∀(l:List Oper) {s:CS} {L:List CS},xops E.P call ops l s=some L→AOps E ops l ⟨initT s.1,s.2⟩ (SL L)
 |[],s,L,h=>by simp only[xops,Option.some.injEq]at h;subst h;exact⟨s,List.mem_singleton.2 rfl,rfl⟩
 |o::l,s,L,h=>by
  simp only[xops]at h
  split at h
  ·rename_i ss h1
   refine (xstep_sound hc h1).mono ?_
   rintro _ ⟨s1,hm,rfl⟩
   obtain⟨M,h2,h3⟩:=bindL_mem h s1 hm
   exact AOps.mono l (fun _ ⟨s2,h4,h5⟩=>⟨s2,h3 s2 h4,h5⟩) (xops_sound hc l h2)
  ·cases h
theorem xpure_sound {P:Program} (hr:RunOk P run) {g:FuncId} {args:List AV} {v:AV} (h:xpure run g args=some v) (row src:Option Nat):
  PFun P row src g args (·=v)∧(∀a,a∈args→Imm a)∧Imm v:=by
 unfold xpure at h
 split at h
 ·rename_i ha
  split at h
  ·rename_i L h1
   obtain⟨hi,hv⟩:=xsame_sound h
   refine⟨pfun_of_mfun (hr _ _ _ _ h1 row src) ?_,fun a hx=>immB_imm 6 a (List.all_eq_true.1 ha a hx),hi⟩
   intro r' K hm
   have:=hv _ hm
   dsimp only at this
   exact⟨v,by rw[this];exact .refl _,by rw[this];exact hi,hi,rfl⟩
  ·cases h
 ·cases h
theorem xdstep_sound (hr:RunOk E.P run) (hc:CallOk E call)
  {D:Nat→Bool} {n:Nat} (hD:∀i,D i=true→i<n) {S T:List Nat} {ops:Array Oper} {k:Nat} {o:Oper} {s:CS} {L:List CS} (h:xdstep E.P run call D n S T ops k o s=some L):XStep D E ops S T k o ⟨initT s.1,s.2⟩ (SL L):=by
 unfold xdstep at h
 unfold XStep
 split at h
 ·rename_i hg
  split at h
  ·rename_i hT
   rw[if_pos hT]
   unfold QStep QOut
   simp only[hg]
   unfold QEff
   split at h
   ·rename_i c hop
    split at h
    ·rename_i f hcal
     split at h
     ·rename_i g caps hf
      split at h
      ·rename_i hen
       simp only[Option.map_eq_some_iff]at h
       obtain⟨v,hv,rfl⟩:=h
       obtain⟨h1,h2,h3⟩:=xpure_sound hr hv E.row E.src
       rw[eval_heap _ _ []]at hf
       simp only[hop,hcal,hf]
       have:=callQ_is (E:=E) (b:= .mk) (k:=fun x=>SL [(putL s.1 o.dst v,s.2)] ⟨putT (initT s.1) o.dst x,s.2⟩) h1 rfl hen h2 h3 sl_one
       rw[eval_heap _ _ []]at this
       exact this
      ·cases h
     ·cases h
    ·cases h
   ·cases h
  ·rename_i hT
   rw[if_neg hT]
   unfold DStep
   simp only[hg]
   unfold DEff
   split at h
   ·rename_i hrd
    rw[if_pos hrd]
    simp only[Option.map_eq_some_iff]at h
    obtain⟨v,hv,rfl⟩:=h
    have e:rdH (!S.contains k) D s.2=(if S.contains k=true then s.2 else xr D 0 s.2):=by
     rw[xr_eq]
     cases S.contains k<;>rfl
    dsimp only
    rw[e]
    simp only[hv]
    exact sl_one
   ·rename_i hrd
    rw[if_neg hrd]
    split at h
    ·rename_i hS
     simp only[Option.map_eq_some_iff]at h
     obtain⟨M,hv,rfl⟩:=h
     refine (xeff_sound hc hv).mono fun x K hx=>⟨fun hs=>?_,sl_of hx⟩
     rw[hS]at hs
     cases hs
    ·split at h
     ·rename_i X hX
      split at h
      ·rename_i hb
       simp only[Bool.and_eq_true,decide_eq_true_eq,List.all_eq_true,Bool.not_eq_true']at hb
       simp only[Option.map_eq_some_iff]at h
       obtain⟨M,hv,rfl⟩:=h
       refine (xeff_sound hc hv).mono fun x K hx=>⟨fun _ id hid=>xtouch_sound hv hX id (Nat.lt_of_lt_of_le (hD id hid) hb.1) (fun hm=>?_) hx,sl_of hx⟩
       rw[hb.2 id hm]at hid
       cases hid
      ·cases h
     ·split at h
      ·rename_i M hv
       split at h
       ·rename_i hb
        simp only[Bool.and_eq_true,decide_eq_true_eq,List.all_eq_true]at hb
        simp only[Option.some.injEq]at h
        subst h
        exact (xeff_sound hc hv).mono fun x K hx=>⟨fun _ id hid=>agreeB_get (hb.2 _ hx) id (Nat.lt_of_lt_of_le (hD id hid) hb.1) (by rw[Nat.zero_add];exact hid),sl_of hx⟩
       ·cases h
      ·cases h
 ·rename_i hg
  simp only[Option.some.injEq]at h
  subst h
  split
  ·unfold QStep QOut
   simp only[hg]
   exact sl_one
  ·unfold DStep
   simp only[hg]
   exact sl_one
 ·cases h
theorem xdops_sound (hr:RunOk E.P run) (hc:CallOk E call)
  {D:Nat→Bool} {n:Nat} (hD:∀i,D i=true→i<n) {S T:List Nat} {ops:Array Oper}:∀(l:List Oper) (k:Nat) {s:CS} {L:List CS},xdops E.P run call D n S T ops l k s=some L→AXOps D E ops S T l k ⟨initT s.1,s.2⟩ (SL L)
 |[],k,s,L,h=>by simp only[xdops,Option.some.injEq]at h;subst h;exact⟨s,List.mem_singleton.2 rfl,rfl⟩
 |o::l,k,s,L,h=>by
  simp only[xdops]at h
  split at h
  ·rename_i ss h1
   refine (xdstep_sound hr hc hD h1).mono ?_
   rintro _ ⟨s1,hm,rfl⟩
   obtain⟨M,h2,h3⟩:=bindL_mem h s1 hm
   exact AXOps.mono l (k+1) (fun _ ⟨s2,h4,h5⟩=>⟨s2,h3 s2 h4,h5⟩) (xdops_sound hr hc hD l (k+1) h2)
  ·cases h
theorem xorders_sound (hr:RunOk E.P run) (hc:CallOk E call)
  {D:Nat→Bool} {n:Nat} (hD:∀i,D i=true→i<n) {S T:List Nat} {ops:Array Oper}:∀(k:Nat) (listed:Array Bool) {s:CS} {L:List CS},xorders E.P run call D n S T ops k listed s=some L→XAny D E ops S T (SL L) k listed ⟨initT s.1,s.2⟩
 |0,listed,s,L,h=>by
  simp only[xorders]at h
  split at h
  ·rename_i h0
   simp only[Option.some.injEq]at h
   subst h
   exact⟨h0,s,List.mem_singleton.2 rfl,rfl⟩
  ·cases h
 |k+1,listed,s,L,h=>by
  simp only[xorders]at h
  split at h
  ·cases h
  ·rename_i R hne
   have one:∀(i:Nat) (M:List CS),(match ops[i]? with
     |some o=>match xdstep E.P run call D n S T ops i o s with
      |some ss=>bindL (xorders E.P run call D n S T ops k (listed.setIfInBounds i true)) ss
      |none=>none
     |none=>none)=some M→(∀x,x∈M→x∈L)→∃o,ops[i]?=some o∧XStep D E ops S T i o ⟨initT s.1,s.2⟩ (XAny D E ops S T (SL L) k (listed.setIfInBounds i true)):=fun i M hM hsub=>by
    split at hM
    ·rename_i o ho
     split at hM
     ·rename_i ss h1
      refine⟨o,ho,(xdstep_sound hr hc hD h1).mono ?_⟩
      rintro _ ⟨s1,hm,rfl⟩
      obtain⟨M',h2,h3⟩:=bindL_mem hM s1 hm
      exact XAny.mono (fun _ ⟨s2,h4,h5⟩=>⟨s2,hsub _ (h3 s2 h4),h5⟩) _ _ _ (xorders_sound hr hc hD k _ h2)
     ·cases hM
    ·cases hM
   split at h
   ·rename_i i hi
    obtain⟨o,ho,hx⟩:=one i L h fun _ h=>h
    have hp:=List.find?_some hi
    exact xany_pick i ho hp hx
   ·refine⟨fun h0=>(hne h0).elim,fun i hi o ho=>?_⟩
    obtain⟨M,h1,h2⟩:=bindL_mem h i hi
    obtain⟨o',ho',hx⟩:=one i M h1 h2
    rw[ho]at ho'
    cases ho'
    exact hx
theorem DH.D_lt (d:DH) (s:CS):∀i,d.D s i=true→i<s.2.length:=fun i h=>by
 simp only[DH.D,Bool.and_eq_true,decide_eq_true_eq]at h
 exact h.1
theorem xregion_sound (hm:E.P.follows .mixedOrders=true) (hr:RunOk E.P run) (hc:CallOk E call) {d:DH} {ops:Array Oper} {s:CS} {L:List CS} {id:Nat} (hb:dstsOk E.N ops=true) (h:xregion E.P run call d ops s=some L):
  AWp E (.region id ops true) ⟨initT s.1,s.2⟩ (fun x st=>x= .normal∧SL L st):=by
 unfold xregion at h
 split at h
 ·rename_i hx
  exact awp_drawA (d.D s) d.S d.T hm hb (XAny.mono (K:=SL L) (fun st hs=>⟨rfl,hs⟩) _ _ _ (xany_all hx (xdops_sound hr hc (DH.D_lt d s) ops.toList 0 h)))
 ·exact awp_drawA (d.D s) d.S d.T hm hb (XAny.mono (K:=SL L) (fun st hs=>⟨rfl,hs⟩) _ _ _ (xorders_sound hr hc (DH.D_lt d s) ops.size _ h))
abbrev OL (L:List (Exit×CS)):Exit→St→Prop:=fun x st=>∃s,(x,s)∈L∧st=⟨initT s.1,s.2⟩
theorem xcode_sound (hm:E.P.follows .mixedOrders=true) (hint:Nat→DH) (hr:RunOk E.P run) {call:Nat→Run} (hc:∀id,CallOk E (call id)):
  ∀(n:Nat) (c:Code) (s:CS) (L:List (Exit×CS)),xcode E.P E.N hint run call n c s=some L→AWp E c ⟨initT s.1,s.2⟩ (OL L):=by
 intro n
 induction n using Nat.strongRecOn with
 |_ n ih=>
  intro c s L h
  cases n with
  |zero=>simp[xcode]at h
  |succ n=>
   have ih1:=ih n (Nat.lt_succ_self n)
   have one:∀{e:Exit} {s:CS},some [(e,s)]=some L→OL L e ⟨initT s.1,s.2⟩:=fun h=>by
    simp only[Option.some.injEq]at h
    subst h
    exact⟨_,List.mem_singleton.2 rfl,rfl⟩
   cases c
   case skip=>simp only[xcode]at h;exact fun a w r=>wp_skip ⟨_,one h,r⟩
   case region id ops d=>
    simp only[xcode]at h
    split at h
    ·rename_i hb
     split at h
     ·rename_i ss h1
      simp only[Option.some.injEq]at h
      subst h
      cases d
      ·simp only[Bool.false_eq_true,if_false]at h1
       refine AWp.mono (awp_region (Q:=fun x st=>x= .normal∧SL ss st) hb (AOps.mono _ (fun s hs=>⟨rfl,hs⟩) (xops_sound (hc id) ops.toList h1))) ?_
       rintro x st ⟨rfl,s1,h2,rfl⟩
       exact⟨s1,List.mem_map.2 ⟨s1,h2,rfl⟩,rfl⟩
      ·simp only[if_true]at h1
       refine AWp.mono (xregion_sound (id:=id) hm hr (hc id) hb h1) ?_
       rintro x st ⟨rfl,s1,h2,rfl⟩
       exact⟨s1,List.mem_map.2 ⟨s1,h2,rfl⟩,rfl⟩
     ·cases h
    ·cases h
   case seq x y=>
    simp only[xcode]at h
    split at h
    ·rename_i rs h1
     intro a w r
     refine wp_seq (wp_mono (ih1 x s _ h1 a w r) ?_)
     rintro e' a' w' ⟨st,⟨s1,hs,rfl⟩,r'⟩
     obtain⟨M,h2,h3⟩:=bindL_mem h _ hs
     dsimp only at h2
     cases e' with
     |normal=>exact wp_mono (ih1 y s1 _ h2 a' w' r') fun e a w ⟨st,⟨s2,h4,h5⟩,r2⟩=>⟨st,⟨s2,h3 _ h4,h5⟩,r2⟩
     |_=>
      simp only[Option.some.injEq]at h2
      subst h2
      exact⟨_,⟨s1,h3 _ (List.mem_singleton.2 rfl),rfl⟩,r'⟩
    ·cases h
   case cond x y z=>
    simp only[xcode]at h
    have he:∀{a:Act} {w:World} {v:Value},Rel E ⟨initT s.1,s.2⟩ a w→St.eval ⟨initT s.1,s.2⟩ x= .sc v→a.eval x=v:=fun {a w v} r hx=>by
     obtain⟨ρ,ok,g,_,_,_,hrr⟩:=r
     have:=rep_eval hrr x
     rw[hx]at this
     exact rep_sc this
    intro a w r
    split at h
    ·rename_i hx
     exact wp_cond_split (he r hx) (fun _=>ih1 y s _ h a w r) (fun e=>by cases e)
    ·rename_i hx
     exact wp_cond_split (he r hx) (fun e=>by cases e) (fun _=>ih1 z s _ h a w r)
    ·cases h
   case block id c=>
    simp only[xcode]at h
    split at h
    ·rename_i rs h1
     simp only[Option.some.injEq]at h
     subst h
     intro a w r
     refine wp_block (wp_mono (ih1 c s _ h1 a w r) ?_)
     rintro e' a' w' ⟨st,⟨s1,hs,rfl⟩,r'⟩
     cases e' with
     |exit i=>
      simp only[Exit.inBlock]
      split
      ·rename_i hi
       exact⟨_,⟨s1,List.mem_map.2 ⟨_,hs,by dsimp only;rw[if_pos hi]⟩,rfl⟩,r'⟩
      ·rename_i hi
       exact⟨_,⟨s1,List.mem_map.2 ⟨_,hs,by dsimp only;rw[if_neg hi]⟩,rfl⟩,r'⟩
     |_=>exact⟨_,⟨s1,List.mem_map.2 ⟨_,hs,rfl⟩,rfl⟩,r'⟩
    ·cases h
   case exit id=>simp only[xcode]at h;exact fun a w r=>wp_exit ⟨_,one h,r⟩
   case label l=>simp only[xcode]at h;exact fun a w r=>wp_label ⟨_,one h,r⟩
   case ret=>simp only[xcode]at h;exact fun a w r=>wp_ret ⟨_,one h,r⟩
   case loop c=>
    intro a w r
    refine wp_loop_ghost (fun k a w=>k≤n+1∧∃s1 M,xcode E.P E.N hint run call k (.loop c) s1=some M∧(∀x,x∈M→x∈L)∧Rel E ⟨initT s1.1,s1.2⟩ a w) (n+1) ⟨Nat.le_refl _,s,L,h,fun _ h=>h,r⟩ ?_
    rintro k a w ⟨hk,s1,M,h1,hsub,r1⟩
    match k,hk,h1 with
    |0,_,h1=>simp[xcode]at h1
    |k+1,hk,h1=>
     simp only[xcode]at h1
     split at h1
     ·rename_i rs h2
      refine wp_mono (ih k (by omega) c s1 _ h2 a w r1) ?_
      rintro e' a' w' ⟨st,⟨s2,hs,rfl⟩,r'⟩
      obtain⟨M',h3,h4⟩:=bindL_mem h1 _ hs
      dsimp only at h3
      cases e' with
      |normal=>exact⟨k,Nat.lt_succ_self k,by omega,s2,M',h3,fun x hx=>hsub x (h4 x hx),r'⟩
      |_=>
       simp only[Option.some.injEq]at h3
       subst h3
       exact⟨_,⟨s2,hsub _ (h4 _ (List.mem_singleton.2 rfl)),rfl⟩,r'⟩
     ·cases h1
   all_goals simp[xcode]at h
end
def xcall (mode:FuncId→Bool) (run:Run) (g:FuncId) (args:List AV) (H:Heap):Option (List (AV×Heap)):=
 if mode g then run g args H
 else if (args.map (view H)).all (immB 6)then match run g (args.map (view H)) []with
  |some L=>match xsame L with
   |some v=>if flatB 6 v||args.all fun a=>(srefs a).isEmpty then some [(v,H)]else run g args H
   |none=>none
  |none=>none
 else run g args H
def xres (P:Program) (rs:List ResultVar):List (Exit×CS)→Option (List (AV×Heap)):=bindL fun r=>match r.1 with
 | .normal=>(ares P ⟨initT r.2.1,r.2.2⟩ rs).map fun v=>[(v,r.2.2)]
 | .ret=>(ares P ⟨initT r.2.1,r.2.2⟩ rs).map fun v=>[(v,r.2.2)]
 |_=>none
def xrun (P:Program) (prim:Run) (hints:FuncId→Nat→DH) (mode:FuncId→Nat→FuncId→Bool) (F:Nat):Nat→Run
 |0,_,_,_=>none
 |n+1,f,args,H=>match prim f args H with
  |some L=>some L
  |none=>match P.funcs[f]? with
   |some fn=>match fn.body with
    |some body=>if args.length≤fn.ntmps then match xcode P fn.ntmps (hints f) (xrun P prim hints mode F n) (fun id=>xcall (mode f id) (xrun P prim hints mode F n)) F body (args,H)with
     |some rs=>match xres P fn.results.toList rs with
      |some (y::L)=>some (y::L)
      |_=>none
     |none=>none
     else none
    |none=>none
   |none=>none
theorem args_view {H:Heap}:∀(args:List AV),(∀a,a∈args→Imm (view H a))→Args H args (args.map (view H))
 |[],_=> .nil
 |a::l,h=> .cons (.refl _) (h a (by simp)) (args_view l fun x hx=>h x (by simp[hx]))
theorem xcall_sound {E:Env} {mode:FuncId→Bool} {run:Run} (hr:RunOk E.P run):CallOk E (xcall mode run):=by
 intro g args H L h
 unfold xcall at h
 split at h
 ·exact hr _ _ _ _ h E.row E.src E rfl rfl rfl
 ·split at h
  ·rename_i ha
   split at h
   ·rename_i L1 h1
    split at h
    ·rename_i v hv
     obtain⟨hi,hall⟩:=xsame_sound hv
     have hav:∀a,a∈args→Imm (view H a):=fun a hx=>immB_imm 6 _ (List.all_eq_true.1 ha _ (List.mem_map_of_mem hx))
     have pf:PFun E.P E.row E.src g (args.map (view H)) (·=v):=pfun_of_mfun (hr _ _ _ _ h1 E.row E.src) (by
      intro r' K hm
      have:=hall _ hm
      dsimp only at this
      exact⟨v,by rw[this];exact .refl _,by rw[this];exact hi,hi,rfl⟩)
     split at h
     ·rename_i hf
      simp only[Option.some.injEq]at h
      subst h
      simp only[Bool.or_eq_true]at hf
      rcases hf with hf|hf
      ·exact acall_flat _ rfl pf (args_view args hav) ⟨_,rfl⟩ (by rintro x rfl;exact flatB_flat 6 _ hf) (by rintro x rfl;exact List.mem_singleton.2 rfl)
      ·exact acall_imm _ rfl pf (args_view args hav) (fun a hx=>by simpa using List.all_eq_true.1 hf a hx) (by rintro x rfl _;exact List.mem_singleton.2 rfl) ⟨_,rfl,hi⟩
     ·exact hr _ _ _ _ h E.row E.src E rfl rfl rfl
    ·cases h
   ·cases h
  ·exact hr _ _ _ _ h E.row E.src E rfl rfl rfl
theorem xrun_sound {P:Program} (hm:P.follows .mixedOrders=true) {prim:Run} (hp:RunOk P prim) (hints:FuncId→Nat→DH) (mode:FuncId→Nat→FuncId→Bool) (F:Nat):∀(n:Nat),RunOk P (xrun P prim hints mode F n)
 |0=>fun _ _ _ _ h=>by simp[xrun]at h
 |n+1=>by
  intro f args H L h row src
  have ih:=xrun_sound hm hp hints mode F n
  simp only[xrun]at h
  split at h
  ·rename_i L1 h1
   simp only[Option.some.injEq]at h
   subst h
   exact hp _ _ _ _ h1 row src
  split at h
  ·rename_i fn hfn
   split at h
   ·rename_i body hb
    split at h
    ·rename_i hn
     split at h
     ·rename_i rs hrs
      split at h
      ·rename_i y L' hres
       simp only[Option.some.injEq]at h
       rw[h]at hres
       refine mfun_of_AWp hfn hb hn ⟨y.1,y.2,by rw[←h];simp⟩ fun E hP _ _ hN=>?_
       subst hP
       rw[←hN]at hrs
       refine (xcode_sound (E:=E) hm (hints f) ih (fun id=>xcall_sound (mode:=mode f id) ih) F body (args,H) _ hrs).mono ?_
       rintro x st ⟨s1,hs,rfl⟩
       obtain⟨M,h2,h3⟩:=bindL_mem hres _ hs
       dsimp only at h2
       cases x<;>simp only[reduceCtorEq,Option.map_eq_some_iff]at h2⊢
       ·obtain⟨v,hv,rfl⟩:=h2
        simp only[AM,hv]
        exact h3 _ (List.mem_singleton.2 rfl)
       ·obtain⟨v,hv,rfl⟩:=h2
        simp only[AM,hv]
        exact h3 _ (List.mem_singleton.2 rfl)
      ·cases h
     ·cases h
    ·cases h
   ·cases h
  ·cases h
theorem pfun_run {P:Program} {prim:Run} (hp:RunOk P prim) (hints:FuncId→Nat→DH) (mode:FuncId→Nat→FuncId→Bool) (F n:Nat) {f:FuncId} {args:List AV} {v:AV} (hm:P.follows .mixedOrders=true)
  (h:xpure (xrun P prim hints mode F n) f args=some v) (row src:Option Nat):PFun P row src f args (·=v):=(xpure_sound (xrun_sound hm hp hints mode F n) h row src).1
def twoE (ty:TypeId) (k:Nat) (H:Heap):List (AV×Heap):=[(.sref H.length 0 0,H++[some ⟨ty,k,[]⟩]),(.sref (H.length+1) 0 0,H++[none]++[some ⟨ty,k,[]⟩])]
def primE (l:List (FuncId×TypeId×Nat)):Run:=fun f args H=>match l.find? (fun x=>x.1==f),args with
 |some (_,ty,k),[.list k' []]=>if k'=k then some (twoE ty k H)else none
 |_,_=>none
theorem primE_ok {P:Program} {l:List (FuncId×TypeId×Nat)} (h:∀x,x∈l→∀(H:Heap) row src,MFun P row src x.1 [.list x.2.2 []] H (IsL (twoE x.2.1 x.2.2 H))):RunOk P (primE l):=by
 intro g args H L hL row src
 unfold primE at hL
 split at hL
 ·rename_i f ty k k' hf
  split at hL
  ·rename_i hk
   subst hk
   simp only[Option.some.injEq]at hL
   subst hL
   have hm:=List.mem_of_find?_eq_some hf
   have hg:=List.find?_some hf
   simp only[beq_iff_eq]at hg
   subst hg
   exact h _ hm H row src
  ·cases hL
 ·cases hL
def modeOf (l:List (FuncId×Nat×FuncId)) (f:FuncId) (r:Nat) (g:FuncId):Bool:=l.any fun x=>x.1==f&&x.2.1==r&&x.2.2==g
def hintOf:List (Nat×Nat×DH)→FuncId→Nat→DH
 |[],_,_=>⟨[],[],[]⟩
 |(f,r,d)::l,g,q=>if f=g then (if r=q then d else hintOf l g q)else hintOf l g q
abbrev KL:=List (FuncId×List AV×AV)
def primK (l:KL):Run:=fun f args H=>match l.find? (fun x=>x.1==f&&listEq (avEq 6) x.2.1 args)with
 |some x=>if args.all (immB 6)&&immB 6 x.2.2 then some [(x.2.2,H)]else none
 |none=>none
def primOr (p q:Run):Run:=fun f args H=>match p f args H with
 |some L=>some L
 |none=>q f args H
theorem primOr_ok {P:Program} {p q:Run} (hp:RunOk P p) (hq:RunOk P q):RunOk P (primOr p q):=by
 intro g args H L h row src
 unfold primOr at h
 split at h
 ·rename_i L1 h1
  simp only[Option.some.injEq]at h
  subst h
  exact hp _ _ _ _ h1 row src
 ·exact hq _ _ _ _ h row src
abbrev KOk (P:Program) (l:KL):Prop:=∀x,x∈l→PFun P none none x.1 x.2.1 (·=x.2.2)
theorem primK_ok {P:Program} {l:KL} (h:KOk P l):RunOk P (primK l):=by
 intro g args H L hL row src
 unfold primK at hL
 split at hL
 ·rename_i x hx
  split at hL
  ·rename_i hi
   simp only[Option.some.injEq]at hL
   subst hL
   simp only[Bool.and_eq_true]at hi
   have hf:=List.find?_some hx
   simp only[Bool.and_eq_true,beq_iff_eq]at hf
   have ha:=listEq_eq (fun _ _=>avEq_eq 6) hf.2
   have hg:=hf.1
   have him:∀a,a∈args→Imm a:=fun a ha=>immB_imm 6 a (List.all_eq_true.1 hi.1 a ha)
   intro E hP hrow hsrc
   subst hrow;subst hsrc
   have pf:=(h x (List.mem_of_find?_eq_some hx)).lift E.row E.src
   rw[ha,hg]at pf
   exact acall_imm args hP pf (args_same him) (fun a ha=>srefs_imm (him a ha)) (fun r hr _=>by rw[hr];exact List.mem_singleton.2 rfl) ⟨_,rfl,immB_imm 6 _ hi.2⟩
  ·cases hL
 ·cases hL
theorem kstep {P:Program} {pE:Run} (hE:RunOk P pE) {l:KL} (h:KOk P l) (hints:FuncId→Nat→DH) (mode:FuncId→Nat→FuncId→Bool) (hm:P.follows .mixedOrders=true) {f:FuncId} {args:List AV} {v:AV}
  (hr:xpure (xrun P (primOr pE (primK l)) hints mode 10000 60) f args=some v):KOk P ((f,args,v)::l):=by
 intro x hx
 rcases List.mem_cons.1 hx with rfl|hx
 ·exact pfun_run (primOr_ok hE (primK_ok h)) hints mode 10000 60 hm hr none none
 ·exact h x hx
theorem kOk_nil {P:Program}:KOk P []:=fun _ h=>by cases h
end Go.PA
set_option maxRecDepth 100000
namespace Go.Proofs.YtmmpcldnpflchaaGreatDoor
open Go.PA
open Go.RowKit
theorem pfun_weak {P:Program} {row src:Option Nat} {f:FuncId} {args:List AV} {v x:AV} (h:PFun P row src f args (·=v)) (hi:Imm x) (hw:Weak v x):PFun P row src f args (·=x):=fun w ok vs h1 h2 h3 h4=>
 (h w ok vs h1 h2 h3 h4).mono fun _ _ ⟨u,y,e,hy,_,hr,rest⟩=>by
  subst hy
  exact⟨u,x,e,rfl,hi,hr.weak hw,rest⟩
def WkL:List AV→List AV→Prop
 |[],[]=>True
 |a::us,b::zs=>Weak a b∧WkL us zs
 |_,_=>False
theorem wkL:∀{us zs:List AV},WkL us zs→us.length=zs.length∧∀(i:Nat) (a b:AV),us[i]?=some a→zs[i]?=some b→Weak a b
 |[],[],_=>⟨rfl,fun i a b h=>by simp at h⟩
 |a::us,b::zs,⟨h,h'⟩=>by
  obtain⟨h1,h2⟩:=wkL h'
  refine⟨by simp[h1],fun i x y hx hy=>?_⟩
  cases i with
  |zero=>
   cases hx;cases hy
   exact h
  |succ i=>exact h2 i x y hx hy
 |[],_::_,h=>h.elim
 |_::_,[],h=>h.elim
def startS:TState:=⟨⟨⟨0,[⟨1,0⟩,⟨2,0⟩,⟨3,0⟩,⟨7,0⟩],[]⟩,⟨[],[],[]⟩,[]⟩,⟨[],[],[],[]⟩,⟨secs0,[],[]⟩,⟨[]⟩⟩
def strM:=modeOf [(27,9,69),(14,9,32),(14,10,33),(32,1,74),(32,1,75),(32,1,76)]
def strH:FuncId→Nat→DH:=hintOf [(32,1,⟨[10],[],[]⟩)]
theorem cstart_pf (row src:Option Nat):PFun Tryz.prog row src 5 [intsL [1,2,3,7],iv 0,secsL secs0] (·= .tup [.agg startS.cells,iv 0]):=by
 refine pfun_weak (v:= .tup [.agg [iv 0,.list 2 [[iv 1,iv 0],[iv 2,iv 0],[iv 3,iv 0],[iv 7,iv 0]],.nil,.nil,.nil,.nil,.nil,.nil,.nil,.nil,.nil,.list 7 [[iv 1,iv 100,iv 0,iv 7200,iv 5000,iv 6,bv false],[iv 2,iv 100,iv 90,iv 450,iv 0,iv 0,bv false]],.nil,.nil,.nil],iv 0])
  (pfun_run (primE_ok (l:=[]) fun x hx=>by cases hx) strH strM 10000 60 (by kernel_rfl) (by kernel_rfl) row src) (imm_pair (imm_st startS) .sc) ?_
 refine weak_tup2 ?_ (.refl _)
 obtain⟨h1,h2⟩:=wkL (us:=[iv 0,.list 2 [[iv 1,iv 0],[iv 2,iv 0],[iv 3,iv 0],[iv 7,iv 0]],.nil,.nil,.nil,.nil,.nil,.nil,.nil,.nil,.nil,.list 7 [[iv 1,iv 100,iv 0,iv 7200,iv 5000,iv 6,bv false],[iv 2,iv 100,iv 90,iv 450,iv 0,iv 0,bv false]],.nil,.nil,.nil]) (zs:=startS.cells) ⟨.refl _,.refl _,.nil _,.nil _,.nil _,.nil _,.nil _,.nil _,.nil _,.nil _,.nil _,.refl _,.nil _,.nil _,.nil _,trivial⟩
 exact .agg h1 h2
theorem start_fit:FitS 0 startS where
 d:=⟨by simp[startS],by simp[startS],⟨by simp[startS],by simp[startS],by simp[startS],by simp[startS]⟩,by simp[startS]⟩
 c:=rfl
 cl:=⟨rfl,by simp[startS]⟩
 r:=⟨by kernel_rfl,by simp[startS,secs0],.nil,by simp[startS]⟩
 rm:=by simp[startS]
 l:=by simp[startS]
theorem FitS.holds {j:Nat} {s:TState} (h:FitS j s):s.Register.Holdings.length≤100000:=by
 have h1:=(h.r.run.ok).len
 have:=h.r.mlen
 simp only at h1
 omega
theorem run_len:∀(l:List TDeed) (i:Nat) (s:TState),i≤(runGo i s l).2.1∧(runGo i s l).2.1≤i+l.length∧((runGo i s l).2.2=0→(runGo i s l).2.1=i+l.length)
 |[],i,s=>by simp[runGo]
 |d::l,i,s=>by
  rw[runGo]
  split
  ·have:=run_len l (i+1) (doS s d).1
   simp only[List.length_cons]
   omega
  ·rename_i h
   simp only[List.length_cons]
   exact⟨by omega,by omega,fun e=>absurd e h⟩
theorem run_end:∀(l:List TDeed) (i:Nat) (s:TState),(runGo i s l).2.1=i+l.length→(runGo i s l).2.2=0
 |[],i,s,_=>rfl
 |d::l,i,s,h=>by
  rw[runGo]at h⊢
  split at h
  ·rename_i e
   rw[if_pos e]
   exact run_end l (i+1) _ (by simp only[List.length_cons]at h;omega)
  ·simp only[List.length_cons]at h
   omega
theorem run_stop:∀(l:List TDeed) (i:Nat) (s:TState),(runGo i s l).2.1<i+l.length→∃d,l[(runGo i s l).2.1-i]?=some d∧(doS (runGo i s l).1 d).2=(runGo i s l).2.2∧(runGo i s l).2.2≠0
 |[],i,s,h=>by simp[runGo]at h
 |d::l,i,s,h=>by
  have ln:=run_len l (i+1) (doS s d).1
  rw[runGo]at h⊢
  split at h
  ·rename_i e
   rw[if_pos e]
   obtain⟨x,h1,h2⟩:=run_stop l (i+1) (doS s d).1 (by simp only[List.length_cons]at h;omega)
   refine⟨x,?_,h2⟩
   rw[show (runGo (i+1) (doS s d).1 l).2.1-i=(runGo (i+1) (doS s d).1 l).2.1-(i+1)+1 from by omega,List.getElem?_cons_succ]
   exact h1
  ·rename_i e
   rw[if_neg e]
   exact⟨d,by simp,rfl,e⟩
theorem run_parts:∀(l:List TDeed) (i j:Nat) (s:TState) (k:Nat),i+k≤(runGo i s l).2.1→
  ∃a,runGo i s (l.take k)=(a,i+k,0)∧runGo j a ((l.drop k).take ((runGo i s l).2.1-i-k))=((runGo i s l).1,j+((runGo i s l).2.1-i-k),0)
 |[],i,j,s,k,h=>by
  simp only[runGo]at h
  have:k=0:=by omega
  subst this
  exact⟨s,rfl,by simp[runGo]⟩
 |d::l,i,j,s,k,h=>by
  have ln:=run_len l (i+1) (doS s d).1
  by_cases e:(doS s d).2=0
  ·have hr:runGo i s (d::l)=runGo (i+1) (doS s d).1 l:=by rw[runGo,if_pos e]
   rw[hr]at h⊢
   cases k with
   |zero=>
    obtain⟨a,h1,h2⟩:=run_parts l (i+1) (j+1) (doS s d).1 0 (by omega)
    simp only[List.take_zero,runGo,Prod.mk.injEq]at h1
    obtain⟨rfl,_⟩:=h1
    refine⟨s,rfl,?_⟩
    rw[List.drop_zero,show (runGo (i+1) (doS s d).1 l).2.1-i-0=(runGo (i+1) (doS s d).1 l).2.1-(i+1)-0+1 from by omega,List.take_succ_cons,runGo,if_pos e]
    rw[List.drop_zero]at h2
    rw[h2,show j+1+((runGo (i+1) (doS s d).1 l).2.1-(i+1)-0)=j+((runGo (i+1) (doS s d).1 l).2.1-(i+1)-0+1)from by omega]
   |succ k=>
    obtain⟨a,h1,h2⟩:=run_parts l (i+1) j (doS s d).1 k (by omega)
    refine⟨a,?_,?_⟩
    ·rw[List.take_succ_cons,runGo,if_pos e,h1,show i+1+k=i+(k+1)from by omega]
    ·rw[List.drop_succ_cons,show (runGo (i+1) (doS s d).1 l).2.1-i-(k+1)=(runGo (i+1) (doS s d).1 l).2.1-(i+1)-k from by omega]
     exact h2
  ·have hr:runGo i s (d::l)=(s,i,(doS s d).2):=by rw[runGo,if_neg e]
   rw[hr]at h⊢
   simp only at h⊢
   have:k=0:=by omega
   subst this
   exact⟨s,rfl,by simp[runGo]⟩
theorem run_fit:∀(l:List TDeed) (i j:Nat) (s:TState),FitS j s→j+l.length≤400→FitS (j+l.length) (runGo i s l).1
 |[],i,j,s,h,_=>h
 |d::l,i,j,s,h,hj=>by
  simp only[List.length_cons]at hj⊢
  rw[runGo]
  split
  ·rename_i e
   have:=run_fit l (i+1) (j+1) (doS s d).1 (doS_fit h (by omega) e) (by omega)
   rwa[show j+(l.length+1)=j+1+l.length from by omega]
  ·exact h.mono (by omega)
open Go.PA
open Go.RowKit
theorem listRe_pf_subs (a:List TSub) (ha:a.length≤100000):
  PFun Tryz.prog none none 79 [.list 2 (encL TSub.cells a),.list 2 (encL TSub.cells a)] (·=bv true):=by
 refine pfun_intro Tryz.func79 rfl (by simp[Tryz.f79]) (by kernel_rfl) ?_
 intro E hP hr hs hW hN
 simp -dsimp -implicitDefEqProofs [-getElem?_pos,go_sem,hP]
 obtain⟨I,hI⟩:∃I:Nat→St→Prop,I=fun m s=>∃k:Nat,k≤a.length∧m=a.length-k∧s.t 0= .list 2 (encL TSub.cells a)∧s.t 1= .list 2 (encL TSub.cells a)∧s.t 12=iv a.length∧s.t 13=iv k:=⟨_,rfl⟩
 refine aloop0 I (a.length) (by rw[hN];rfl) ?_ ?_
 ·rw[hI]
  exact⟨0,by omega,by omega,by simp -dsimp[-getElem?_pos,go_sem],by simp -dsimp[-getElem?_pos,go_sem],by simp -dsimp[-getElem?_pos,go_sem],by simp -dsimp[-getElem?_pos,go_sem]⟩
 intro m s hs'
 rw[hI]at hs'
 obtain⟨k,hk,hm,t0,t1,t12,t13⟩:=hs'
 simp -dsimp -implicitDefEqProofs [-getElem?_pos,go_sem,hP,t12,t13]
 refine condP (fun h=>?_) (fun h=>?_)
 ·have hk:k<a.length:=by simpa using h
  obtain⟨x,hx⟩:∃x,a[k]?=some x:=⟨_,List.getElem?_eq_getElem hk⟩
  have wk:=wrap_in ((k:Int)+1) (by omega)
  simp -dsimp -implicitDefEqProofs [-getElem?_pos,go_sem,hP,t13]
  refine adrawB (fun _=>true) [] hP (by kernel_rfl) (by kernel_rfl) ?_
  simp -dsimp -implicitDefEqProofs [-getElem?_pos,go_sem,hP,t0,t1,hx,TSub.cells,t13,wk]
  refine⟨a.length-(k+1),by omega,?_⟩
  rw[hI]
  exact⟨k+1,by omega,rfl,by simp -dsimp[-getElem?_pos,go_sem,t0],by simp -dsimp[-getElem?_pos,go_sem,t1],by simp -dsimp[-getElem?_pos,go_sem,t12],by simp -dsimp[-getElem?_pos,go_sem]⟩
 ·simp -dsimp -implicitDefEqProofs [-getElem?_pos,go_sem,hP]
theorem listRe_pf_ents (a:List TEntry) (ha:a.length≤100000):
  PFun Tryz.prog none none 80 [.list 6 (encL TEntry.cells a),.list 6 (encL TEntry.cells a)] (·=bv true):=by
 refine pfun_intro Tryz.func80 rfl (by simp[Tryz.f80]) (by kernel_rfl) ?_
 intro E hP hr hs hW hN
 simp -dsimp -implicitDefEqProofs [-getElem?_pos,go_sem,hP]
 obtain⟨I,hI⟩:∃I:Nat→St→Prop,I=fun m s=>∃k:Nat,k≤a.length∧m=a.length-k∧s.t 0= .list 6 (encL TEntry.cells a)∧s.t 1= .list 6 (encL TEntry.cells a)∧s.t 12=iv a.length∧s.t 13=iv k:=⟨_,rfl⟩
 refine aloop0 I (a.length) (by rw[hN];rfl) ?_ ?_
 ·rw[hI]
  exact⟨0,by omega,by omega,by simp -dsimp[-getElem?_pos,go_sem],by simp -dsimp[-getElem?_pos,go_sem],by simp -dsimp[-getElem?_pos,go_sem],by simp -dsimp[-getElem?_pos,go_sem]⟩
 intro m s hs'
 rw[hI]at hs'
 obtain⟨k,hk,hm,t0,t1,t12,t13⟩:=hs'
 simp -dsimp -implicitDefEqProofs [-getElem?_pos,go_sem,hP,t12,t13]
 refine condP (fun h=>?_) (fun h=>?_)
 ·have hk:k<a.length:=by simpa using h
  obtain⟨x,hx⟩:∃x,a[k]?=some x:=⟨_,List.getElem?_eq_getElem hk⟩
  have wk:=wrap_in ((k:Int)+1) (by omega)
  simp -dsimp -implicitDefEqProofs [-getElem?_pos,go_sem,hP,t13]
  refine adrawB (fun _=>true) [] hP (by kernel_rfl) (by kernel_rfl) ?_
  simp -dsimp -implicitDefEqProofs [-getElem?_pos,go_sem,hP,t0,t1,hx,TEntry.cells,t13,wk]
  refine⟨a.length-(k+1),by omega,?_⟩
  rw[hI]
  exact⟨k+1,by omega,rfl,by simp -dsimp[-getElem?_pos,go_sem,t0],by simp -dsimp[-getElem?_pos,go_sem,t1],by simp -dsimp[-getElem?_pos,go_sem,t12],by simp -dsimp[-getElem?_pos,go_sem]⟩
 ·simp -dsimp -implicitDefEqProofs [-getElem?_pos,go_sem,hP]
theorem listRe_pf_pays (a:List TPayment) (ha:a.length≤100000):
  PFun Tryz.prog none none 81 [.list 5 (encL TPayment.cells a),.list 5 (encL TPayment.cells a)] (·=bv true):=by
 refine pfun_intro Tryz.func81 rfl (by simp[Tryz.f81]) (by kernel_rfl) ?_
 intro E hP hr hs hW hN
 simp -dsimp -implicitDefEqProofs [-getElem?_pos,go_sem,hP]
 obtain⟨I,hI⟩:∃I:Nat→St→Prop,I=fun m s=>∃k:Nat,k≤a.length∧m=a.length-k∧s.t 0= .list 5 (encL TPayment.cells a)∧s.t 1= .list 5 (encL TPayment.cells a)∧s.t 12=iv a.length∧s.t 13=iv k:=⟨_,rfl⟩
 refine aloop0 I (a.length) (by rw[hN];rfl) ?_ ?_
 ·rw[hI]
  exact⟨0,by omega,by omega,by simp -dsimp[-getElem?_pos,go_sem],by simp -dsimp[-getElem?_pos,go_sem],by simp -dsimp[-getElem?_pos,go_sem],by simp -dsimp[-getElem?_pos,go_sem]⟩
 intro m s hs'
 rw[hI]at hs'
 obtain⟨k,hk,hm,t0,t1,t12,t13⟩:=hs'
 simp -dsimp -implicitDefEqProofs [-getElem?_pos,go_sem,hP,t12,t13]
 refine condP (fun h=>?_) (fun h=>?_)
 ·have hk:k<a.length:=by simpa using h
  obtain⟨x,hx⟩:∃x,a[k]?=some x:=⟨_,List.getElem?_eq_getElem hk⟩
  have wk:=wrap_in ((k:Int)+1) (by omega)
  simp -dsimp -implicitDefEqProofs [-getElem?_pos,go_sem,hP,t13]
  refine adrawB (fun _=>true) [] hP (by kernel_rfl) (by kernel_rfl) ?_
  simp -dsimp -implicitDefEqProofs [-getElem?_pos,go_sem,hP,t0,t1,hx,TPayment.cells,t13,wk]
  refine⟨a.length-(k+1),by omega,?_⟩
  rw[hI]
  exact⟨k+1,by omega,rfl,by simp -dsimp[-getElem?_pos,go_sem,t0],by simp -dsimp[-getElem?_pos,go_sem,t1],by simp -dsimp[-getElem?_pos,go_sem,t12],by simp -dsimp[-getElem?_pos,go_sem]⟩
 ·simp -dsimp -implicitDefEqProofs [-getElem?_pos,go_sem,hP]
theorem listRe_pf_items (a:List TItem) (ha:a.length≤100000):
  PFun Tryz.prog none none 48 [.list 7 (encL TItem.cells a),.list 7 (encL TItem.cells a)] (·=bv true):=by
 refine pfun_intro Tryz.func48 rfl (by simp[Tryz.f48]) (by kernel_rfl) ?_
 intro E hP hr hs hW hN
 simp -dsimp -implicitDefEqProofs [-getElem?_pos,go_sem,hP]
 obtain⟨I,hI⟩:∃I:Nat→St→Prop,I=fun m s=>∃k:Nat,k≤a.length∧m=a.length-k∧s.t 0= .list 7 (encL TItem.cells a)∧s.t 1= .list 7 (encL TItem.cells a)∧s.t 12=iv a.length∧s.t 13=iv k:=⟨_,rfl⟩
 refine aloop0 I (a.length) (by rw[hN];rfl) ?_ ?_
 ·rw[hI]
  exact⟨0,by omega,by omega,by simp -dsimp[-getElem?_pos,go_sem],by simp -dsimp[-getElem?_pos,go_sem],by simp -dsimp[-getElem?_pos,go_sem],by simp -dsimp[-getElem?_pos,go_sem]⟩
 intro m s hs'
 rw[hI]at hs'
 obtain⟨k,hk,hm,t0,t1,t12,t13⟩:=hs'
 simp -dsimp -implicitDefEqProofs [-getElem?_pos,go_sem,hP,t12,t13]
 refine condP (fun h=>?_) (fun h=>?_)
 ·have hk:k<a.length:=by simpa using h
  obtain⟨x,hx⟩:∃x,a[k]?=some x:=⟨_,List.getElem?_eq_getElem hk⟩
  have wk:=wrap_in ((k:Int)+1) (by omega)
  simp -dsimp -implicitDefEqProofs [-getElem?_pos,go_sem,hP,t13]
  refine adrawB (fun _=>true) [] hP (by kernel_rfl) (by kernel_rfl) ?_
  simp -dsimp -implicitDefEqProofs [-getElem?_pos,go_sem,hP,t0,t1,hx,TItem.cells,TPayment.cells,t13,wk]
  refine⟨a.length-(k+1),by omega,?_⟩
  rw[hI]
  exact⟨k+1,by omega,rfl,by simp -dsimp[-getElem?_pos,go_sem,t0],by simp -dsimp[-getElem?_pos,go_sem,t1],by simp -dsimp[-getElem?_pos,go_sem,t12],by simp -dsimp[-getElem?_pos,go_sem]⟩
 ·simp -dsimp -implicitDefEqProofs [-getElem?_pos,go_sem,hP]
theorem listRe_pf_clms (a:List TClaim) (ha:a.length≤100000):
  PFun Tryz.prog none none 49 [.list 6 (encL TClaim.cells a),.list 6 (encL TClaim.cells a)] (·=bv true):=by
 refine pfun_intro Tryz.func49 rfl (by simp[Tryz.f49]) (by kernel_rfl) ?_
 intro E hP hr hs hW hN
 simp -dsimp -implicitDefEqProofs [-getElem?_pos,go_sem,hP]
 obtain⟨I,hI⟩:∃I:Nat→St→Prop,I=fun m s=>∃k:Nat,k≤a.length∧m=a.length-k∧s.t 0= .list 6 (encL TClaim.cells a)∧s.t 1= .list 6 (encL TClaim.cells a)∧s.t 12=iv a.length∧s.t 13=iv k:=⟨_,rfl⟩
 refine aloop0 I (a.length) (by rw[hN];rfl) ?_ ?_
 ·rw[hI]
  exact⟨0,by omega,by omega,by simp -dsimp[-getElem?_pos,go_sem],by simp -dsimp[-getElem?_pos,go_sem],by simp -dsimp[-getElem?_pos,go_sem],by simp -dsimp[-getElem?_pos,go_sem]⟩
 intro m s hs'
 rw[hI]at hs'
 obtain⟨k,hk,hm,t0,t1,t12,t13⟩:=hs'
 simp -dsimp -implicitDefEqProofs [-getElem?_pos,go_sem,hP,t12,t13]
 refine condP (fun h=>?_) (fun h=>?_)
 ·have hk:k<a.length:=by simpa using h
  obtain⟨x,hx⟩:∃x,a[k]?=some x:=⟨_,List.getElem?_eq_getElem hk⟩
  have wk:=wrap_in ((k:Int)+1) (by omega)
  simp -dsimp -implicitDefEqProofs [-getElem?_pos,go_sem,hP,t13]
  refine adrawB (fun _=>true) [] hP (by kernel_rfl) (by kernel_rfl) ?_
  simp -dsimp -implicitDefEqProofs [-getElem?_pos,go_sem,hP,t0,t1,hx,TClaim.cells,t13,wk]
  refine⟨a.length-(k+1),by omega,?_⟩
  rw[hI]
  exact⟨k+1,by omega,rfl,by simp -dsimp[-getElem?_pos,go_sem,t0],by simp -dsimp[-getElem?_pos,go_sem,t1],by simp -dsimp[-getElem?_pos,go_sem,t12],by simp -dsimp[-getElem?_pos,go_sem]⟩
 ·simp -dsimp -implicitDefEqProofs [-getElem?_pos,go_sem,hP]
theorem listRe_pf_mats (a:List TMatch) (ha:a.length≤100000):
  PFun Tryz.prog none none 50 [.list 3 (encL TMatch.cells a),.list 3 (encL TMatch.cells a)] (·=bv true):=by
 refine pfun_intro Tryz.func50 rfl (by simp[Tryz.f50]) (by kernel_rfl) ?_
 intro E hP hr hs hW hN
 simp -dsimp -implicitDefEqProofs [-getElem?_pos,go_sem,hP]
 obtain⟨I,hI⟩:∃I:Nat→St→Prop,I=fun m s=>∃k:Nat,k≤a.length∧m=a.length-k∧s.t 0= .list 3 (encL TMatch.cells a)∧s.t 1= .list 3 (encL TMatch.cells a)∧s.t 12=iv a.length∧s.t 13=iv k:=⟨_,rfl⟩
 refine aloop0 I (a.length) (by rw[hN];rfl) ?_ ?_
 ·rw[hI]
  exact⟨0,by omega,by omega,by simp -dsimp[-getElem?_pos,go_sem],by simp -dsimp[-getElem?_pos,go_sem],by simp -dsimp[-getElem?_pos,go_sem],by simp -dsimp[-getElem?_pos,go_sem]⟩
 intro m s hs'
 rw[hI]at hs'
 obtain⟨k,hk,hm,t0,t1,t12,t13⟩:=hs'
 simp -dsimp -implicitDefEqProofs [-getElem?_pos,go_sem,hP,t12,t13]
 refine condP (fun h=>?_) (fun h=>?_)
 ·have hk:k<a.length:=by simpa using h
  obtain⟨x,hx⟩:∃x,a[k]?=some x:=⟨_,List.getElem?_eq_getElem hk⟩
  have wk:=wrap_in ((k:Int)+1) (by omega)
  simp -dsimp -implicitDefEqProofs [-getElem?_pos,go_sem,hP,t13]
  refine adrawB (fun _=>true) [] hP (by kernel_rfl) (by kernel_rfl) ?_
  simp -dsimp -implicitDefEqProofs [-getElem?_pos,go_sem,hP,t0,t1,hx,TMatch.cells,t13,wk]
  refine⟨a.length-(k+1),by omega,?_⟩
  rw[hI]
  exact⟨k+1,by omega,rfl,by simp -dsimp[-getElem?_pos,go_sem,t0],by simp -dsimp[-getElem?_pos,go_sem,t1],by simp -dsimp[-getElem?_pos,go_sem,t12],by simp -dsimp[-getElem?_pos,go_sem]⟩
 ·simp -dsimp -implicitDefEqProofs [-getElem?_pos,go_sem,hP]
theorem listRe_pf_hols (a:List THolding) (ha:a.length≤100000):
  PFun Tryz.prog none none 51 [.list 3 (encL THolding.cells a),.list 3 (encL THolding.cells a)] (·=bv true):=by
 refine pfun_intro Tryz.func51 rfl (by simp[Tryz.f51]) (by kernel_rfl) ?_
 intro E hP hr hs hW hN
 simp -dsimp -implicitDefEqProofs [-getElem?_pos,go_sem,hP]
 obtain⟨I,hI⟩:∃I:Nat→St→Prop,I=fun m s=>∃k:Nat,k≤a.length∧m=a.length-k∧s.t 0= .list 3 (encL THolding.cells a)∧s.t 1= .list 3 (encL THolding.cells a)∧s.t 12=iv a.length∧s.t 13=iv k:=⟨_,rfl⟩
 refine aloop0 I (a.length) (by rw[hN];rfl) ?_ ?_
 ·rw[hI]
  exact⟨0,by omega,by omega,by simp -dsimp[-getElem?_pos,go_sem],by simp -dsimp[-getElem?_pos,go_sem],by simp -dsimp[-getElem?_pos,go_sem],by simp -dsimp[-getElem?_pos,go_sem]⟩
 intro m s hs'
 rw[hI]at hs'
 obtain⟨k,hk,hm,t0,t1,t12,t13⟩:=hs'
 simp -dsimp -implicitDefEqProofs [-getElem?_pos,go_sem,hP,t12,t13]
 refine condP (fun h=>?_) (fun h=>?_)
 ·have hk:k<a.length:=by simpa using h
  obtain⟨x,hx⟩:∃x,a[k]?=some x:=⟨_,List.getElem?_eq_getElem hk⟩
  have wk:=wrap_in ((k:Int)+1) (by omega)
  simp -dsimp -implicitDefEqProofs [-getElem?_pos,go_sem,hP,t13]
  refine adrawB (fun _=>true) [] hP (by kernel_rfl) (by kernel_rfl) ?_
  simp -dsimp -implicitDefEqProofs [-getElem?_pos,go_sem,hP,t0,t1,hx,THolding.cells,t13,wk]
  refine⟨a.length-(k+1),by omega,?_⟩
  rw[hI]
  exact⟨k+1,by omega,rfl,by simp -dsimp[-getElem?_pos,go_sem,t0],by simp -dsimp[-getElem?_pos,go_sem,t1],by simp -dsimp[-getElem?_pos,go_sem,t12],by simp -dsimp[-getElem?_pos,go_sem]⟩
 ·simp -dsimp -implicitDefEqProofs [-getElem?_pos,go_sem,hP]
theorem listRe_pf_posts (a:List TPosting) (ha:a.length≤100000):
  PFun Tryz.prog none none 20 [.list 8 (encL TPosting.cells a),.list 8 (encL TPosting.cells a)] (·=bv true):=by
 refine pfun_intro Tryz.func20 rfl (by simp[Tryz.f20]) (by kernel_rfl) ?_
 intro E hP hr hs hW hN
 simp -dsimp -implicitDefEqProofs [-getElem?_pos,go_sem,hP]
 obtain⟨I,hI⟩:∃I:Nat→St→Prop,I=fun m s=>∃k:Nat,k≤a.length∧m=a.length-k∧s.t 0= .list 8 (encL TPosting.cells a)∧s.t 1= .list 8 (encL TPosting.cells a)∧s.t 12=iv a.length∧s.t 13=iv k:=⟨_,rfl⟩
 refine aloop0 I (a.length) (by rw[hN];rfl) ?_ ?_
 ·rw[hI]
  exact⟨0,by omega,by omega,by simp -dsimp[-getElem?_pos,go_sem],by simp -dsimp[-getElem?_pos,go_sem],by simp -dsimp[-getElem?_pos,go_sem],by simp -dsimp[-getElem?_pos,go_sem]⟩
 intro m s hs'
 rw[hI]at hs'
 obtain⟨k,hk,hm,t0,t1,t12,t13⟩:=hs'
 simp -dsimp -implicitDefEqProofs [-getElem?_pos,go_sem,hP,t12,t13]
 refine condP (fun h=>?_) (fun h=>?_)
 ·have hk:k<a.length:=by simpa using h
  obtain⟨x,hx⟩:∃x,a[k]?=some x:=⟨_,List.getElem?_eq_getElem hk⟩
  have wk:=wrap_in ((k:Int)+1) (by omega)
  simp -dsimp -implicitDefEqProofs [-getElem?_pos,go_sem,hP,t13]
  refine adrawB (fun _=>true) [] hP (by kernel_rfl) (by kernel_rfl) ?_
  simp -dsimp -implicitDefEqProofs [-getElem?_pos,go_sem,hP,t0,t1,hx,TPosting.cells,t13,wk]
  refine⟨a.length-(k+1),by omega,?_⟩
  rw[hI]
  exact⟨k+1,by omega,rfl,by simp -dsimp[-getElem?_pos,go_sem,t0],by simp -dsimp[-getElem?_pos,go_sem,t1],by simp -dsimp[-getElem?_pos,go_sem,t12],by simp -dsimp[-getElem?_pos,go_sem]⟩
 ·simp -dsimp -implicitDefEqProofs [-getElem?_pos,go_sem,hP]
theorem listRe_pf_ints (a:List Int) (ha:a.length≤100000):
  PFun Tryz.prog none none 82 [.list 1 (encL encI a),.list 1 (encL encI a)] (·=bv true):=by
 refine pfun_intro Tryz.func82 rfl (by simp[Tryz.f82]) (by kernel_rfl) ?_
 intro E hP hr hs hW hN
 simp -dsimp -implicitDefEqProofs [-getElem?_pos,go_sem,hP]
 obtain⟨I,hI⟩:∃I:Nat→St→Prop,I=fun m s=>∃k:Nat,k≤a.length∧m=a.length-k∧s.t 0= .list 1 (encL encI a)∧s.t 1= .list 1 (encL encI a)∧s.t 12=iv a.length∧s.t 13=iv k:=⟨_,rfl⟩
 refine aloop0 I (a.length) (by rw[hN];rfl) ?_ ?_
 ·rw[hI]
  exact⟨0,by omega,by omega,by simp -dsimp[-getElem?_pos,go_sem],by simp -dsimp[-getElem?_pos,go_sem],by simp -dsimp[-getElem?_pos,go_sem],by simp -dsimp[-getElem?_pos,go_sem]⟩
 intro m s hs'
 rw[hI]at hs'
 obtain⟨k,hk,hm,t0,t1,t12,t13⟩:=hs'
 simp -dsimp -implicitDefEqProofs [-getElem?_pos,go_sem,hP,t12,t13]
 refine condP (fun h=>?_) (fun h=>?_)
 ·have hk:k<a.length:=by simpa using h
  obtain⟨x,hx⟩:∃x,a[k]?=some x:=⟨_,List.getElem?_eq_getElem hk⟩
  have wk:=wrap_in ((k:Int)+1) (by omega)
  simp -dsimp -implicitDefEqProofs [-getElem?_pos,go_sem,hP,t13]
  refine adrawB (fun _=>true) [] hP (by kernel_rfl) (by kernel_rfl) ?_
  simp -dsimp -implicitDefEqProofs [-getElem?_pos,go_sem,hP,t0,t1,hx,encI,t13,wk]
  refine⟨a.length-(k+1),by omega,?_⟩
  rw[hI]
  exact⟨k+1,by omega,rfl,by simp -dsimp[-getElem?_pos,go_sem,t0],by simp -dsimp[-getElem?_pos,go_sem,t1],by simp -dsimp[-getElem?_pos,go_sem,t12],by simp -dsimp[-getElem?_pos,go_sem]⟩
 ·simp -dsimp -implicitDefEqProofs [-getElem?_pos,go_sem,hP]
theorem sameA_pf (a:TAccount) (hsl:a.Subs.length≤100000) (he:a.Entries.length≤100000):PFun Tryz.prog none none 46 [.agg a.cells,.agg a.cells] (·=bv true):=by
 have i1:=imm_subs a.Subs
 have i2:=imm_ents a.Entries
 refine pfun_intro Tryz.func46 rfl (by simp[Tryz.f46]) (by kernel_rfl) ?_
 intro E hP hr hs hW hN
 simp -dsimp -implicitDefEqProofs [-getElem?_pos,go_sem,hP,cA]
 refine callB_is ((listRe_pf_subs _ hsl).lift _ _) hP en_79 (by simp[i1]) .sc ?_
 simp -dsimp -implicitDefEqProofs [-getElem?_pos,go_sem,hP]
 refine callB_is ((listRe_pf_ents _ he).lift _ _) hP en_80 (by simp[i2]) .sc ?_
 simp -dsimp -implicitDefEqProofs [-getElem?_pos,go_sem,hP]
theorem sameB_pf (b:TBatch) (h:b.Payments.length≤100000):PFun Tryz.prog none none 83 [.agg b.cells,.agg b.cells] (·=bv true):=by
 have i1:=imm_pays b.Payments
 refine pfun_intro Tryz.func83 rfl (by simp[Tryz.f83]) (by kernel_rfl) ?_
 intro E hP hr hs hW hN
 simp -dsimp -implicitDefEqProofs [-getElem?_pos,go_sem,hP,cBt]
 refine callB_is ((listRe_pf_pays _ h).lift _ _) hP en_81 (by simp[i1]) .sc ?_
 simp -dsimp -implicitDefEqProofs [-getElem?_pos,go_sem,hP]
theorem sameQ_pf (q:TQueue) (hf:FitQ q):PFun Tryz.prog none none 47 [.agg q.cells,.agg q.cells] (·=bv true):=by
 obtain⟨w,k,l⟩:=q
 obtain⟨a1,a2,a3,a4⟩:=hf
 simp only at a1 a2 a3 a4
 have iw:=imm_pays w
 have ik:Imm (.list 1 (encL encI k)):=imm_encL _ imm_encI k
 refine pfun_intro Tryz.func47 rfl (by simp[Tryz.f47]) (by kernel_rfl) ?_
 intro E hP hr hs hW hN
 simp -dsimp -implicitDefEqProofs [-getElem?_pos,go_sem,hP,cQn]
 refine callB_is ((listRe_pf_pays w a1).lift _ _) hP en_81 (by simp[iw]) .sc ?_
 simp -dsimp -implicitDefEqProofs [-getElem?_pos,go_sem,hP]
 refine callB_is ((listRe_pf_ints k a2).lift _ _) hP en_82 (by simp[ik]) .sc ?_
 simp -dsimp -implicitDefEqProofs [-getElem?_pos,go_sem,hP]
 obtain⟨I,hI⟩:∃I:Nat→St→Prop,I=fun m s=>∃(n:Nat),n≤l.length∧m=l.length-n∧s.t 2= .ref 0 0 0∧s.t 3= .ref 1 0 0∧s.t 31=iv l.length∧s.t 32=iv n∧s.H[0]?=some (some ⟨32,3,[[paysL w,.list 1 (encL encI k),batsL l]]⟩)∧s.H[1]?=some (some ⟨32,3,[[paysL w,.list 1 (encL encI k),batsL l]]⟩):=⟨_,rfl⟩
 refine aloop0 I (l.length) (by rw[hN];rfl) ?_ ?_
 ·rw[hI]
  exact⟨0,by omega,by omega,by simp -dsimp[-getElem?_pos,go_sem],by simp -dsimp[-getElem?_pos,go_sem],by simp -dsimp[-getElem?_pos,go_sem],by simp -dsimp[-getElem?_pos,go_sem],by simp -dsimp[-getElem?_pos,go_sem],by simp -dsimp[-getElem?_pos,go_sem]⟩
 intro m s hs'
 rw[hI]at hs'
 obtain⟨n,hn,hm,t2,t3,t31,t32,h0,h1⟩:=hs'
 have lt0:=(gsI h0)
 have lt1:=(gsI h1)
 simp -dsimp -implicitDefEqProofs [-getElem?_pos,go_sem,hP,t31,t32]
 refine condP (fun hh=>?_) (fun hh=>?_)
 ·have hn:n<l.length:=by simpa using hh
  obtain⟨x,hx⟩:∃x,l[n]?=some x:=⟨_,List.getElem?_eq_getElem hn⟩
  have wk:=wrap_in ((n:Int)+1) (by omega)
  have ix:=imm_bat x
  have bt:=sameB_pf x (a4 x (List.mem_of_getElem? hx))
  rw[cBt]at bt ix
  simp -dsimp -implicitDefEqProofs [-getElem?_pos,go_sem,hP,t32]
  refine adrawB (fun _=>true) [] hP (by kernel_rfl) (by kernel_rfl) ?_
  simp -dsimp -implicitDefEqProofs [-getElem?_pos,go_sem,hP,t2,t3,h0,h1,lt0,lt1,hx,cBt]
  refine callB_is (bt.lift _ _) hP en_83 (by simpa using ix) .sc ?_
  simp -dsimp -implicitDefEqProofs [-getElem?_pos,go_sem,hP,t32,wk]
  refine⟨l.length-(n+1),by omega,?_⟩
  rw[hI]
  exact⟨n+1,by omega,rfl,by simp -dsimp[-getElem?_pos,go_sem,t2],by simp -dsimp[-getElem?_pos,go_sem,t3],by simp -dsimp[-getElem?_pos,go_sem,t31],by simp -dsimp[-getElem?_pos,go_sem],by simp -dsimp[-getElem?_pos,go_sem,h0],by simp -dsimp[-getElem?_pos,go_sem,h1]⟩
 ·simp -dsimp -implicitDefEqProofs [-getElem?_pos,go_sem,hP]
theorem sameD_pf (d:TDesk) (hf:FitD d):PFun Tryz.prog none none 17 [.agg d.cells,.agg d.cells] (·=bv true):=by
 have i1:=imm_acc d.Account
 have i3:=imm_que d.Queue
 have i5:=imm_items d.Items
 have s1:=sameA_pf d.Account hf.s hf.e
 have s2:=sameQ_pf d.Queue hf.q
 have s3:=listRe_pf_items d.Items hf.i
 simp only[cA]at i1 s1
 simp only[cQn]at i3 s2
 refine pfun_intro Tryz.func17 rfl (by simp[Tryz.f17]) (by kernel_rfl) ?_
 intro E hP hr hs hW hN
 simp -dsimp -implicitDefEqProofs [-getElem?_pos,go_sem,hP,cDn]
 refine callB_is (s1.lift _ _) hP en_46 (by simpa using i1) .sc ?_
 simp -dsimp -implicitDefEqProofs [-getElem?_pos,go_sem,hP]
 refine callB_is (s2.lift _ _) hP en_47 (by simpa using i3) .sc ?_
 simp -dsimp -implicitDefEqProofs [-getElem?_pos,go_sem,hP]
 refine callB_is (s3.lift _ _) hP en_48 (by simpa using i5) .sc ?_
 simp -dsimp -implicitDefEqProofs [-getElem?_pos,go_sem,hP]
set_option maxHeartbeats 1000000 in
theorem sameC_pf (c:TCash) (hf:FitC c):PFun Tryz.prog none none 18 [.agg c.cells,.agg c.cells] (·=bv true):=by
 have ic:=imm_agg.2 c.imm
 have i1:=imm_claims c.Claims
 have i3:=imm_matches c.Matches
 have f1:=hf.fi
 have f2:=hf.fl
 refine pfun_intro Tryz.func18 rfl (by simp[Tryz.f18]) (by kernel_rfl) ?_
 intro E hP hr hs hW hN
 simp -dsimp -implicitDefEqProofs [-getElem?_pos,go_sem,hP,cCsh]
 refine callB_is ((listRe_pf_clms c.Claims hf.fc).lift _ _) hP en_49 (by simp[i1]) .sc ?_
 simp -dsimp -implicitDefEqProofs [-getElem?_pos,go_sem,hP]
 refine callB_is ((listRe_pf_mats c.Matches hf.fm).lift _ _) hP en_50 (by simp[i3]) .sc ?_
 simp -dsimp -implicitDefEqProofs [-getElem?_pos,go_sem,hP,encL_len]
 obtain⟨I0,hI0⟩:∃I:Nat→St→Prop,I=fun m s=>∃n:Nat,n≤c.Incomes.length∧m=c.Incomes.length-n∧s.t 2= .ref 0 0 0∧s.t 3= .ref 1 0 0∧s.t 41=iv c.Incomes.length∧s.t 42=iv n∧s.H[0]?=some (some ⟨40,4,[[claimsL c.Claims,incomesL c.Incomes,matchesL c.Matches,.list 1 (encL encI c.Loose)]]⟩)∧s.H[1]?=some (some ⟨40,4,[[claimsL c.Claims,incomesL c.Incomes,matchesL c.Matches,.list 1 (encL encI c.Loose)]]⟩):=⟨_,rfl⟩
 refine aloop0 I0 (c.Incomes.length) (by rw[hN];rfl) ?_ ?_
 ·rw[hI0]
  exact⟨0,by omega,by omega,by simp -dsimp[-getElem?_pos,go_sem],by simp -dsimp[-getElem?_pos,go_sem],by simp -dsimp[-getElem?_pos,go_sem],by simp -dsimp[-getElem?_pos,go_sem],by simp -dsimp[-getElem?_pos,go_sem],by simp -dsimp[-getElem?_pos,go_sem]⟩
 intro m s hs'
 rw[hI0]at hs'
 obtain⟨n,hn,hm,t2,t3,ta,tb,h0,h1⟩:=hs'
 have lt0:=(gsI h0)
 have lt1:=(gsI h1)
 simp -dsimp -implicitDefEqProofs [-getElem?_pos,go_sem,hP,ta,tb]
 refine condP (fun hh=>?_) (fun hh=>?_)
 ·have hn:n<c.Incomes.length:=by simpa using hh
  obtain⟨x,hx⟩:∃x,c.Incomes[n]?=some x:=⟨_,List.getElem?_eq_getElem hn⟩
  have wk:=wrap_in ((n:Int)+1) (by omega)
  simp -dsimp -implicitDefEqProofs [-getElem?_pos,go_sem,hP,tb]
  refine adrawB (fun _=>true) [] hP (by kernel_rfl) (by kernel_rfl) ?_
  simp -dsimp -implicitDefEqProofs [-getElem?_pos,go_sem,hP,t2,t3,h0,h1,lt0,lt1,hx,TIncome.cells,tb,wk]
  refine⟨c.Incomes.length-(n+1),by omega,?_⟩
  rw[hI0]
  exact⟨n+1,by omega,rfl,by simp -dsimp[-getElem?_pos,go_sem,t2],by simp -dsimp[-getElem?_pos,go_sem,t3],by simp -dsimp[-getElem?_pos,go_sem,ta],by simp -dsimp[-getElem?_pos,go_sem],by simp -dsimp[-getElem?_pos,go_sem,h0],by simp -dsimp[-getElem?_pos,go_sem,h1]⟩
 simp -dsimp -implicitDefEqProofs [-getElem?_pos,go_sem,hP,t2,t3,h0,h1,lt0,lt1,encL_len]
 obtain⟨I1,hI1⟩:∃I:Nat→St→Prop,I=fun m s=>∃n:Nat,n≤c.Loose.length∧m=c.Loose.length-n∧s.t 2= .ref 0 0 0∧s.t 3= .ref 1 0 0∧s.t 59=iv c.Loose.length∧s.t 60=iv n∧s.H[0]?=some (some ⟨40,4,[[claimsL c.Claims,incomesL c.Incomes,matchesL c.Matches,.list 1 (encL encI c.Loose)]]⟩)∧s.H[1]?=some (some ⟨40,4,[[claimsL c.Claims,incomesL c.Incomes,matchesL c.Matches,.list 1 (encL encI c.Loose)]]⟩):=⟨_,rfl⟩
 refine aloop0 I1 (c.Loose.length) (by rw[hN];rfl) ?_ ?_
 ·rw[hI1]
  exact⟨0,by omega,by omega,by simp -dsimp[-getElem?_pos,go_sem,t2,t3,h0,h1,lt0,lt1,encL_len],by simp -dsimp[-getElem?_pos,go_sem,t2,t3,h0,h1,lt0,lt1,encL_len],by simp -dsimp[-getElem?_pos,go_sem,t2,t3,h0,h1,lt0,lt1,encL_len],by simp -dsimp[-getElem?_pos,go_sem,t2,t3,h0,h1,lt0,lt1,encL_len],by simp -dsimp[-getElem?_pos,go_sem,t2,t3,h0,h1,lt0,lt1,encL_len],by simp -dsimp[-getElem?_pos,go_sem,t2,t3,h0,h1,lt0,lt1,encL_len]⟩
 intro m s hs'
 rw[hI1]at hs'
 obtain⟨n,hn,hm,t2,t3,ta,tb,h0,h1⟩:=hs'
 have lt0:=(gsI h0)
 have lt1:=(gsI h1)
 simp -dsimp -implicitDefEqProofs [-getElem?_pos,go_sem,hP,ta,tb]
 refine condP (fun hh=>?_) (fun hh=>?_)
 ·have hn:n<c.Loose.length:=by simpa using hh
  obtain⟨x,hx⟩:∃x,c.Loose[n]?=some x:=⟨_,List.getElem?_eq_getElem hn⟩
  have wk:=wrap_in ((n:Int)+1) (by omega)
  simp -dsimp -implicitDefEqProofs [-getElem?_pos,go_sem,hP,tb]
  refine adrawB (fun _=>true) [] hP (by kernel_rfl) (by kernel_rfl) ?_
  simp -dsimp -implicitDefEqProofs [-getElem?_pos,go_sem,hP,t2,t3,h0,h1,lt0,lt1,hx,encI,tb,wk]
  refine⟨c.Loose.length-(n+1),by omega,?_⟩
  rw[hI1]
  exact⟨n+1,by omega,rfl,by simp -dsimp[-getElem?_pos,go_sem,t2],by simp -dsimp[-getElem?_pos,go_sem,t3],by simp -dsimp[-getElem?_pos,go_sem,ta],by simp -dsimp[-getElem?_pos,go_sem],by simp -dsimp[-getElem?_pos,go_sem,h0],by simp -dsimp[-getElem?_pos,go_sem,h1]⟩
 simp -dsimp -implicitDefEqProofs [-getElem?_pos,go_sem,hP]
set_option maxHeartbeats 1000000 in
theorem sameR_pf (c:TRegister) (f1:c.Securities.length≤100000) (f2:c.Holdings.length≤100000) (f3:c.Moves.length≤100000):PFun Tryz.prog none none 19 [.agg c.cells,.agg c.cells] (·=bv true):=by
 have ic:=imm_agg.2 c.imm
 have i1:=imm_holds c.Holdings
 refine pfun_intro Tryz.func19 rfl (by simp[Tryz.f19]) (by kernel_rfl) ?_
 intro E hP hr hs hW hN
 simp -dsimp -implicitDefEqProofs [-getElem?_pos,go_sem,hP,cReg]
 refine callB_is ((listRe_pf_hols c.Holdings f2).lift _ _) hP en_51 (by simp[i1]) .sc ?_
 simp -dsimp -implicitDefEqProofs [-getElem?_pos,go_sem,hP,encL_len]
 obtain⟨I0,hI0⟩:∃I:Nat→St→Prop,I=fun m s=>∃n:Nat,n≤c.Securities.length∧m=c.Securities.length-n∧s.t 2= .ref 0 0 0∧s.t 3= .ref 1 0 0∧s.t 33=iv c.Securities.length∧s.t 34=iv n∧s.H[0]?=some (some ⟨45,3,[[secsL c.Securities,holdsL c.Holdings,movesL c.Moves]]⟩)∧s.H[1]?=some (some ⟨45,3,[[secsL c.Securities,holdsL c.Holdings,movesL c.Moves]]⟩):=⟨_,rfl⟩
 refine aloop0 I0 (c.Securities.length) (by rw[hN];rfl) ?_ ?_
 ·rw[hI0]
  exact⟨0,by omega,by omega,by simp -dsimp[-getElem?_pos,go_sem],by simp -dsimp[-getElem?_pos,go_sem],by simp -dsimp[-getElem?_pos,go_sem],by simp -dsimp[-getElem?_pos,go_sem],by simp -dsimp[-getElem?_pos,go_sem],by simp -dsimp[-getElem?_pos,go_sem]⟩
 intro m s hs'
 rw[hI0]at hs'
 obtain⟨n,hn,hm,t2,t3,ta,tb,h0,h1⟩:=hs'
 have lt0:=(gsI h0)
 have lt1:=(gsI h1)
 simp -dsimp -implicitDefEqProofs [-getElem?_pos,go_sem,hP,ta,tb]
 refine condP (fun hh=>?_) (fun hh=>?_)
 ·have hn:n<c.Securities.length:=by simpa using hh
  obtain⟨x,hx⟩:∃x,c.Securities[n]?=some x:=⟨_,List.getElem?_eq_getElem hn⟩
  have wk:=wrap_in ((n:Int)+1) (by omega)
  simp -dsimp -implicitDefEqProofs [-getElem?_pos,go_sem,hP,tb]
  refine adrawB (fun _=>true) [] hP (by kernel_rfl) (by kernel_rfl) ?_
  simp -dsimp -implicitDefEqProofs [-getElem?_pos,go_sem,hP,t2,t3,h0,h1,lt0,lt1,hx,TSecurity.cells,tb,wk]
  refine⟨c.Securities.length-(n+1),by omega,?_⟩
  rw[hI0]
  exact⟨n+1,by omega,rfl,by simp -dsimp[-getElem?_pos,go_sem,t2],by simp -dsimp[-getElem?_pos,go_sem,t3],by simp -dsimp[-getElem?_pos,go_sem,ta],by simp -dsimp[-getElem?_pos,go_sem],by simp -dsimp[-getElem?_pos,go_sem,h0],by simp -dsimp[-getElem?_pos,go_sem,h1]⟩
 simp -dsimp -implicitDefEqProofs [-getElem?_pos,go_sem,hP,t2,t3,h0,h1,lt0,lt1,encL_len]
 obtain⟨I1,hI1⟩:∃I:Nat→St→Prop,I=fun m s=>∃n:Nat,n≤c.Moves.length∧m=c.Moves.length-n∧s.t 2= .ref 0 0 0∧s.t 3= .ref 1 0 0∧s.t 51=iv c.Moves.length∧s.t 52=iv n∧s.H[0]?=some (some ⟨45,3,[[secsL c.Securities,holdsL c.Holdings,movesL c.Moves]]⟩)∧s.H[1]?=some (some ⟨45,3,[[secsL c.Securities,holdsL c.Holdings,movesL c.Moves]]⟩):=⟨_,rfl⟩
 refine aloop0 I1 (c.Moves.length) (by rw[hN];rfl) ?_ ?_
 ·rw[hI1]
  exact⟨0,by omega,by omega,by simp -dsimp[-getElem?_pos,go_sem,t2,t3,h0,h1,lt0,lt1,encL_len],by simp -dsimp[-getElem?_pos,go_sem,t2,t3,h0,h1,lt0,lt1,encL_len],by simp -dsimp[-getElem?_pos,go_sem,t2,t3,h0,h1,lt0,lt1,encL_len],by simp -dsimp[-getElem?_pos,go_sem,t2,t3,h0,h1,lt0,lt1,encL_len],by simp -dsimp[-getElem?_pos,go_sem,t2,t3,h0,h1,lt0,lt1,encL_len],by simp -dsimp[-getElem?_pos,go_sem,t2,t3,h0,h1,lt0,lt1,encL_len]⟩
 intro m s hs'
 rw[hI1]at hs'
 obtain⟨n,hn,hm,t2,t3,ta,tb,h0,h1⟩:=hs'
 have lt0:=(gsI h0)
 have lt1:=(gsI h1)
 simp -dsimp -implicitDefEqProofs [-getElem?_pos,go_sem,hP,ta,tb]
 refine condP (fun hh=>?_) (fun hh=>?_)
 ·have hn:n<c.Moves.length:=by simpa using hh
  obtain⟨x,hx⟩:∃x,c.Moves[n]?=some x:=⟨_,List.getElem?_eq_getElem hn⟩
  have wk:=wrap_in ((n:Int)+1) (by omega)
  simp -dsimp -implicitDefEqProofs [-getElem?_pos,go_sem,hP,tb]
  refine adrawB (fun _=>true) [] hP (by kernel_rfl) (by kernel_rfl) ?_
  simp -dsimp -implicitDefEqProofs [-getElem?_pos,go_sem,hP,t2,t3,h0,h1,lt0,lt1,hx,TMove.cells,tb,wk]
  refine⟨c.Moves.length-(n+1),by omega,?_⟩
  rw[hI1]
  exact⟨n+1,by omega,rfl,by simp -dsimp[-getElem?_pos,go_sem,t2],by simp -dsimp[-getElem?_pos,go_sem,t3],by simp -dsimp[-getElem?_pos,go_sem,ta],by simp -dsimp[-getElem?_pos,go_sem],by simp -dsimp[-getElem?_pos,go_sem,h0],by simp -dsimp[-getElem?_pos,go_sem,h1]⟩
 simp -dsimp -implicitDefEqProofs [-getElem?_pos,go_sem,hP]
set_option maxHeartbeats 1000000 in
theorem sameS_pf {j:Nat} (x:TState) (hf:FitS j x) (hh:x.Register.Holdings.length≤100000):PFun Tryz.prog none none 10 [.agg x.cells,.agg x.cells] (·=bv true):=by
 have i0:=imm_st x
 have ra:=hf.r
 have l1:=hf.l
 have s1:=sameD_pf x.Desk hf.d
 have s2:=sameC_pf x.Cash hf.fc
 have s3:=sameR_pf x.Register (by have:=ra.slen;omega) hh (by have:=ra.mlen;omega)
 have s4:=listRe_pf_posts x.Ledger.Postings (by omega)
 have j1:=imm_agg.2 x.Desk.imm
 have j2:=imm_csh x.Cash
 have j3:=imm_agg.2 x.Register.imm
 have j4:=imm_posts x.Ledger.Postings
 simp only[cDeskX]at s1 j1
 simp only[cCsh]at s2 j2
 simp only[cReg]at s3 j3
 refine pfun_intro Tryz.func10 rfl (by simp[Tryz.f10]) (by kernel_rfl) ?_
 intro E hP hr hs hW hN
 simp -dsimp -implicitDefEqProofs [-getElem?_pos,go_sem,hP,cStX]
 refine callB_is (s1.lift _ _) hP en_17 (by simpa using j1) .sc ?_
 simp -dsimp -implicitDefEqProofs [-getElem?_pos,go_sem,hP]
 refine callB_is (s2.lift _ _) hP en_18 (by simpa using j2) .sc ?_
 simp -dsimp -implicitDefEqProofs [-getElem?_pos,go_sem,hP]
 refine callB_is (s3.lift _ _) hP en_19 (by simpa using j3) .sc ?_
 simp -dsimp -implicitDefEqProofs [-getElem?_pos,go_sem,hP]
 refine callB_is (s4.lift _ _) hP en_20 (by simpa using j4) .sc ?_
 simp -dsimp -implicitDefEqProofs [-getElem?_pos,go_sem,hP]
end Go.Proofs.YtmmpcldnpflchaaGreatDoor
set_option maxRecDepth 100000
namespace Go.Proofs.YtmmpcldnpflchaaGreatDoor
open Go.PA
open Go.RowKit
theorem cloneS_0 {row src:Option Nat} (H:Heap):MFun Tryz.prog row src 39 [.list 5 []] H (IsL (twoE 108 5 H)):=by
 have own:MFun Tryz.prog row src 39 [.list 5 []] H (fun r H'=>(r= .nil∧H'=H)∨(r= .sref (H.length+1) 0 0∧H'=H++[none]++[some ⟨108,5,[]⟩])):=by
  refine mfun_list_nil fun A c=>?_
  refine mfun_intro Tryz.func39 rfl (by simp[Tryz.f39]) (by kernel_rfl) ⟨.nil,H,.inl ⟨rfl,rfl⟩⟩ ?_
  intro E hP hr hs hN
  cases A with
  |none=>simp -dsimp -implicitDefEqProofs [-getElem?_pos,go_sem,hP]
  |some a=>simp -dsimp -implicitDefEqProofs [-getElem?_pos,go_sem,hP,hset_new]
 refine (own.ownNil 108 5).mono ?_
 rintro r H' (⟨H0,h0,rfl,rfl⟩|⟨hne,h⟩)
 ·rcases h0 with⟨_,rfl⟩|⟨h,_⟩
  ·exact .head _
  ·cases h
 ·rcases h with⟨h,_⟩|⟨rfl,rfl⟩
  ·exact absurd h hne
  ·exact .tail _ (.head _)
def sanE:List (FuncId×TypeId×Nat):=[(39,108,5)]
theorem sanE_ok:RunOk Tryz.prog (primE sanE):=primE_ok fun x hx H row src=>by
 simp only[sanE,List.mem_cons,List.not_mem_nil,or_false]at hx
 subst hx
 exact cloneS_0 H
def sanM:=modeOf [(27,9,69),(109,6,126),(84,5,126),(126,1,175),(97,16,134),(134,1,42),(134,1,43),(134,1,44),(134,1,40),(109,10,38),(58,12,103),(103,1,41),(111,20,145),(145,1,39),(145,1,40),(111,17,156),(111,21,156),(67,12,45),(112,9,103),(87,1,38),(87,1,130)]
def sanH:FuncId→Nat→DH:=hintOf [(23,7,⟨[],[7],[]⟩),(24,4,⟨[],[6],[]⟩),(55,7,⟨[],[15],[]⟩),(58,19,⟨[],[11,12],[]⟩),(65,1,⟨[],[19,20],[]⟩),(23,12,⟨[13],[],[]⟩),(114,2,⟨[28],[],[]⟩),(16,10,⟨[10],[],[]⟩),(58,34,⟨[3],[],[4]⟩),(111,23,⟨[8,9],[],[]⟩),(58,24,⟨[7],[],[]⟩),(23,5,⟨[20],[],[]⟩),(57,14,⟨[9,11],[],[]⟩),(103,1,⟨[10],[],[]⟩),(150,1,⟨[9],[],[]⟩),(99,11,⟨[4],[],[]⟩),(67,12,⟨[7],[],[]⟩),(109,10,⟨[13],[],[]⟩),(158,11,⟨[6,7,9,10],[],[0]⟩),(175,5,⟨[12,9],[],[]⟩),(97,35,⟨[12],[],[]⟩),(97,18,⟨[19,22],[],[]⟩),(16,15,⟨[8,11],[],[]⟩),(32,1,⟨[10],[],[]⟩),(16,14,⟨[26,29,32,35],[],[]⟩),(16,3,⟨[14,17],[],[]⟩),(16,2,⟨[14,17],[],[]⟩)]
theorem sk0:KOk Tryz.prog []:=kOk_nil
def sl1:KL:=(26,[.list 1 [[iv 1],[iv 2]]],bv true)::[]
theorem sk1:KOk Tryz.prog sl1:=kstep sanE_ok sk0 sanH sanM (by kernel_rfl) (by kernel_rfl)
def sl2:KL:=(121,[.agg [iv 1,iv 0,iv 1,iv 110,iv 410,iv 100,iv 0,iv 0]],bv true)::sl1
theorem sk2:KOk Tryz.prog sl2:=kstep sanE_ok sk1 sanH sanM (by kernel_rfl) (by kernel_rfl)
def sl3:KL:=(12,[.agg [iv 0,.list 2 [[iv 1,iv 0],[iv 2,iv 0]],.nil,.nil,.nil,.nil,.nil,.nil,.nil,.nil,.nil,.nil,.nil,.nil,.nil],.agg [iv 1,iv 0,iv 2,iv 1,iv 0,iv 100,iv 0]],.tup [.agg [iv 0,.list 2 [[iv 1,iv 0],[iv 2,iv 100]],.list 6 [[iv 1,iv 0,iv 0,iv 2,iv 100,iv 0]],.nil,.nil,.nil,.nil,.nil,.list 5 [[iv 1,iv 0,iv 1,iv 100,iv 0]],.nil,.list 1 [[iv 100]],.nil,.nil,.nil,.list 8 [[iv 1,iv 0,iv 1,iv 110,iv 410,iv 100,iv 0,iv 0]]],iv 0])::sl2
theorem sk3:KOk Tryz.prog sl3:=kstep sanE_ok sk2 sanH sanM (by kernel_rfl) (by kernel_rfl)
def sl4:KL:=(84,[.agg [iv 0,.list 2 [[iv 1,iv 0],[iv 2,iv 100]],.list 6 [[iv 1,iv 0,iv 0,iv 2,iv 100,iv 0]]]],iv 0)::sl3
theorem sk4:KOk Tryz.prog sl4:=kstep sanE_ok sk3 sanH sanM (by kernel_rfl) (by kernel_rfl)
def sl5:KL:=(143,[.agg [iv 5,iv 1,iv 60,iv 0,iv 2]],bv true)::sl4
theorem sk5:KOk Tryz.prog sl5:=kstep sanE_ok sk4 sanH sanM (by kernel_rfl) (by kernel_rfl)
def sl6:KL:=(139,[.agg [.list 5 [[iv 5,iv 1,iv 60,iv 0,iv 2]],.list 1 [[iv 5]],.nil]],iv 0)::sl5
theorem sk6:KOk Tryz.prog sl6:=kstep sanE_ok sk5 sanH sanM (by kernel_rfl) (by kernel_rfl)
def sl7:KL:=(58,[.agg [iv 0,.list 2 [[iv 1,iv 0],[iv 2,iv 100]],.list 6 [[iv 1,iv 0,iv 0,iv 2,iv 100,iv 0]],.list 5 [[iv 5,iv 1,iv 60,iv 0,iv 2]],.list 1 [[iv 5]],.nil,.list 7 [[iv 5,iv 1,iv 60,iv 0,iv 2,iv 1,iv 0]]],iv 0],.tup [.agg [iv 0,.list 2 [[iv 1,iv 0],[iv 2,iv 40]],.list 6 [[iv 1,iv 0,iv 0,iv 2,iv 100,iv 0],[iv 2,iv 0,iv 2,iv 0,iv 60,iv 5]],.list 5 [],.list 1 [[iv 5]],.list 3 [[iv 1,iv 0,.list 5 [[iv 5,iv 1,iv 60,iv 0,iv 2]]]],.list 7 [[iv 5,iv 1,iv 60,iv 0,iv 2,iv 2,iv 1]]],.agg [iv 1,iv 0,.list 5 [[iv 5,iv 1,iv 60,iv 0,iv 2]]],iv 0])::sl6
theorem sk7:KOk Tryz.prog sl7:=kstep sanE_ok sk6 sanH sanM (by kernel_rfl) (by kernel_rfl)
def sl8:KL:=(121,[.agg [iv 2,iv 0,iv 1,iv 510,iv 110,iv 60,iv 0,iv 5]],bv true)::sl7
theorem sk8:KOk Tryz.prog sl8:=kstep sanE_ok sk7 sanH sanM (by kernel_rfl) (by kernel_rfl)
def sl9:KL:=(84,[.agg [iv 0,.list 2 [[iv 1,iv 0],[iv 2,iv 40]],.list 6 [[iv 1,iv 0,iv 0,iv 2,iv 100,iv 0],[iv 2,iv 0,iv 2,iv 0,iv 60,iv 5]]]],iv 0)::sl8
theorem sk9:KOk Tryz.prog sl9:=kstep sanE_ok sk8 sanH sanM (by kernel_rfl) (by kernel_rfl)
def sl10:KL:=(191,[.agg [.list 5 [],.list 1 [[iv 5]],.list 3 [[iv 1,iv 0,.list 5 [[iv 5,iv 1,iv 60,iv 0,iv 2]]]]]],bv true)::sl9
theorem sk10:KOk Tryz.prog sl10:=kstep sanE_ok sk9 sanH sanM (by kernel_rfl) (by kernel_rfl)
def sl11:KL:=(140,[.agg [iv 0,.list 2 [[iv 1,iv 0],[iv 2,iv 40]],.list 6 [[iv 1,iv 0,iv 0,iv 2,iv 100,iv 0],[iv 2,iv 0,iv 2,iv 0,iv 60,iv 5]],.list 5 [],.list 1 [[iv 5]],.list 3 [[iv 1,iv 0,.list 5 [[iv 5,iv 1,iv 60,iv 0,iv 2]]]],.list 7 [[iv 5,iv 1,iv 60,iv 0,iv 2,iv 2,iv 1]]],.agg [iv 5,iv 1,iv 60,iv 0,iv 2,iv 2,iv 1]],bv true)::sl10
theorem sk11:KOk Tryz.prog sl11:=kstep sanE_ok sk10 sanH sanM (by kernel_rfl) (by kernel_rfl)
def sl12:KL:=(145,[.agg [.list 5 [],.list 1 [[iv 5]],.list 3 [[iv 1,iv 0,.list 5 [[iv 5,iv 1,iv 60,iv 0,iv 2]]]]]],.agg [.list 5 [],.list 1 [[iv 5]],.list 3 [[iv 1,iv 0,.list 5 [[iv 5,iv 1,iv 60,iv 0,iv 2]]]]])::sl11
theorem sk12:KOk Tryz.prog sl12:=kstep sanE_ok sk11 sanH sanM (by kernel_rfl) (by kernel_rfl)
def sl13:KL:=(109,[.agg [iv 0,.list 2 [[iv 1,iv 0],[iv 2,iv 40]],.list 6 [[iv 1,iv 0,iv 0,iv 2,iv 100,iv 0],[iv 2,iv 0,iv 2,iv 0,iv 60,iv 5]]],.agg [iv 3,iv 1,iv 0,iv 2,iv 60,iv 5]],.tup [.agg [iv 0,.list 2 [[iv 1,iv 0],[iv 2,iv 100]],.list 6 [[iv 1,iv 0,iv 0,iv 2,iv 100,iv 0],[iv 2,iv 0,iv 2,iv 0,iv 60,iv 5],[iv 3,iv 1,iv 0,iv 2,iv 60,iv 5]]],iv 0])::sl12
theorem sk13:KOk Tryz.prog sl13:=kstep sanE_ok sk12 sanH sanM (by kernel_rfl) (by kernel_rfl)
def sl14:KL:=(12,[.agg [iv 0,.list 2 [[iv 1,iv 0],[iv 2,iv 40]],.list 6 [[iv 1,iv 0,iv 0,iv 2,iv 100,iv 0],[iv 2,iv 0,iv 2,iv 0,iv 60,iv 5]],.list 5 [],.list 1 [[iv 5]],.list 3 [[iv 1,iv 0,.list 5 [[iv 5,iv 1,iv 60,iv 0,iv 2]]]],.list 7 [[iv 5,iv 1,iv 60,iv 0,iv 2,iv 2,iv 1]],.nil,.list 5 [[iv 1,iv 0,iv 1,iv 100,iv 0]],.nil,.list 1 [[iv 100]],.nil,.nil,.nil,.list 8 [[iv 1,iv 0,iv 1,iv 110,iv 410,iv 100,iv 0,iv 0],[iv 2,iv 0,iv 1,iv 510,iv 110,iv 60,iv 0,iv 5]]],.agg [iv 5,iv 1,iv 0,iv 0,iv 5,iv 0,iv 0]],.tup [.agg [iv 0,.list 2 [[iv 1,iv 0],[iv 2,iv 100]],.list 6 [[iv 1,iv 0,iv 0,iv 2,iv 100,iv 0],[iv 2,iv 0,iv 2,iv 0,iv 60,iv 5],[iv 3,iv 1,iv 0,iv 2,iv 60,iv 5]],.list 5 [],.list 1 [[iv 5]],.list 3 [[iv 1,iv 0,.list 5 [[iv 5,iv 1,iv 60,iv 0,iv 2]]]],.list 7 [[iv 5,iv 1,iv 60,iv 0,iv 2,iv 4,iv 1]],.nil,.list 5 [[iv 1,iv 0,iv 1,iv 100,iv 0]],.nil,.list 1 [[iv 100]],.nil,.nil,.nil,.list 8 [[iv 1,iv 0,iv 1,iv 110,iv 410,iv 100,iv 0,iv 0],[iv 2,iv 0,iv 1,iv 510,iv 110,iv 60,iv 0,iv 5],[iv 3,iv 1,iv 1,iv 110,iv 410,iv 60,iv 0,iv 5]]],iv 0])::sl13
theorem sk14:KOk Tryz.prog sl14:=kstep sanE_ok sk13 sanH sanM (by kernel_rfl) (by kernel_rfl)
def sl15:KL:=(8,[.agg [iv 0,.list 2 [[iv 1,iv 0],[iv 2,iv 0]],.nil,.nil,.nil,.nil,.nil,.nil,.nil,.nil,.nil,.nil,.nil,.nil,.nil],.list 7 [[iv 1,iv 0,iv 2,iv 1,iv 0,iv 100,iv 0],[iv 2,iv 0,iv 2,iv 1,iv 5,iv 60,iv 0],[iv 3,iv 0,iv 0,iv 0,iv 0,iv 0,iv 0],[iv 5,iv 1,iv 0,iv 0,iv 5,iv 0,iv 0]]],.tup [.agg [iv 0,.list 2 [[iv 1,iv 0],[iv 2,iv 100]],.list 6 [[iv 1,iv 0,iv 0,iv 2,iv 100,iv 0],[iv 2,iv 0,iv 2,iv 0,iv 60,iv 5],[iv 3,iv 1,iv 0,iv 2,iv 60,iv 5]],.list 5 [],.list 1 [[iv 5]],.list 3 [[iv 1,iv 0,.list 5 [[iv 5,iv 1,iv 60,iv 0,iv 2]]]],.list 7 [[iv 5,iv 1,iv 60,iv 0,iv 2,iv 4,iv 1]],.nil,.list 5 [[iv 1,iv 0,iv 1,iv 100,iv 0]],.nil,.list 1 [[iv 100]],.nil,.nil,.nil,.list 8 [[iv 1,iv 0,iv 1,iv 110,iv 410,iv 100,iv 0,iv 0],[iv 2,iv 0,iv 1,iv 510,iv 110,iv 60,iv 0,iv 5],[iv 3,iv 1,iv 1,iv 110,iv 410,iv 60,iv 0,iv 5]]],iv 4,iv 0])::sl14
theorem sk15:KOk Tryz.prog sl15:=kstep sanE_ok sk14 sanH sanM (by kernel_rfl) (by kernel_rfl)
def sl16:KL:=(84,[.agg [iv 0,.list 2 [[iv 1,iv 0],[iv 2,iv 100]],.list 6 [[iv 1,iv 0,iv 0,iv 2,iv 100,iv 0],[iv 2,iv 0,iv 2,iv 0,iv 60,iv 5],[iv 3,iv 1,iv 0,iv 2,iv 60,iv 5]]]],iv 0)::sl15
theorem sk16:KOk Tryz.prog sl16:=kstep sanE_ok sk15 sanH sanM (by kernel_rfl) (by kernel_rfl)
def sl17:KL:=(54,[.agg [iv 0,.list 2 [[iv 1,iv 0],[iv 2,iv 100]],.list 6 [[iv 1,iv 0,iv 0,iv 2,iv 100,iv 0],[iv 2,iv 0,iv 2,iv 0,iv 60,iv 5],[iv 3,iv 1,iv 0,iv 2,iv 60,iv 5]],.list 5 [],.list 1 [[iv 5]],.list 3 [[iv 1,iv 0,.list 5 [[iv 5,iv 1,iv 60,iv 0,iv 2]]]],.list 7 [[iv 5,iv 1,iv 60,iv 0,iv 2,iv 4,iv 1]],.nil,.list 5 [[iv 1,iv 0,iv 1,iv 100,iv 0]],.nil,.list 1 [[iv 100]],.nil,.nil,.nil,.list 8 [[iv 1,iv 0,iv 1,iv 110,iv 410,iv 100,iv 0,iv 0],[iv 2,iv 0,iv 1,iv 510,iv 110,iv 60,iv 0,iv 5],[iv 3,iv 1,iv 1,iv 110,iv 410,iv 60,iv 0,iv 5]]]],.nil)::sl16
theorem sk17:KOk Tryz.prog sl17:=kstep sanE_ok sk16 sanH sanM (by kernel_rfl) (by kernel_rfl)
theorem sane45_pf (row src:Option Nat):PFun Tryz.prog row src 11 [] (·=bv true):=pfun_run (primOr_ok sanE_ok (primK_ok sk17)) sanH sanM 10000 60 (by kernel_rfl) (by kernel_rfl) row src
open Go.PA
open Go.RowKit
abbrev stO (s:TState):AObj:=⟨50,15,[[iv s.Desk.Account.Credit,subsL s.Desk.Account.Subs,entsL s.Desk.Account.Entries,paysL s.Desk.Queue.Waiting,.list 1 (encL encI s.Desk.Queue.Known),batsL s.Desk.Queue.Batches,itemsL s.Desk.Items,claimsL s.Cash.Claims,incomesL s.Cash.Incomes,matchesL s.Cash.Matches,.list 1 (encL encI s.Cash.Loose),secsL s.Register.Securities,holdsL s.Register.Holdings,movesL s.Register.Moves,postsL s.Ledger.Postings]]⟩
set_option maxHeartbeats 4000000 in
theorem order45_pf (xs:List Int) (hx:Small xs) (hl:xs.length≤9223372036854775807):PFun Tryz.prog none none 3 [intsL xs] (·=bv true):=by
 refine pfun_introA Tryz.func3 rfl (by simp[Tryz.f3]) ?_
 intro E hP hr hs hW hN
 refine awp_cut (by rw[hN];kernel_rfl) ?_
 simp[go_sem,hP]
 refine awp_cut (by rw[hN];kernel_rfl) ?_
 simp[go_sem,hP]
 have hnew:POwn Tryz.prog E.row E.src 4 [intsL xs] 67 2 (·=[[intsL (xs.take 900),iv 0]]):=by rw[hr,hs];exact new_pf xs hl
 refine callB_own hnew hP en_4 (args_same (by simp[go_sem,intsL])) (by simp[srefs_imm,go_sem,intsL]) ⟨_,rfl⟩ ?_
 rintro es rfl
 simp[go_sem,hP]
 refine awp_adopt 3 (ty:=67) (xs:=xs.take 900) (at_:=0) hr hs hW (by simp[go_sem]) (by simp[go_sem,intsL]) (by omega) (by simp;omega) (fun x hx'=>hx x (List.mem_of_mem_take hx')) (by rw[hN];kernel_rfl) ?_
 intro E' p hP' hr' hN' hW'
 rw[hP]at hP'
 rw[hN]at hN'
 clear hnew hP hr hs hW hN E
 rename Env=>E
 rename E.P=_=>hP
 rename E.row=_=>hr
 rename E.N=_=>hN
 rename (∀b,¬E.W b)=>hW
 obtain⟨src,hs⟩:∃src,E.src=src:=⟨_,rfl⟩
 have up:∀{f:FuncId} {args:List AV} {Q:AV→Prop},PFun Tryz.prog (some p) src f args Q→PFun Tryz.prog E.row E.src f args Q:=fun h=>hr▸hs▸h
 obtain⟨sl,hsl⟩:∃sl,sl=secs0:=⟨_,rfl⟩
 obtain⟨x0,hx0⟩:∃x0,x0=startS:=⟨_,rfl⟩
 have ss:=ssecs_pf p src
 have st:=cstart_pf E.row E.src
 have f0:=start_fit
 rw[←hsl]at ss st
 rw[←hx0]at st f0
 have isl:=imm_secs sl
 have i0:=imm_st x0
 rw[cStX]at st i0
 simp -dsimp -implicitDefEqProofs [-getElem?_pos,go_sem,hP]
 refine callB_is (up ss) hP en_6 (by simp -dsimp[-getElem?_pos,go_sem]) isl ?_
 simp -dsimp -implicitDefEqProofs [-getElem?_pos,go_sem,hP]
 refine callB_is st hP en_5 (by have:=imm_ints [1,2,3,7];simpa[isl,intsL,imm_sc]using this) (imm_pair i0 .sc) ?_
 simp -dsimp -implicitDefEqProofs [-getElem?_pos,go_sem,hP]
 refine callB_isQ (up (sdeeds_pf p src 10 (by omega))) hP en_7 (by simp -dsimp[-getElem?_pos,go_sem]) (DeedsQ_ex _) ?_
 rintro r ⟨l,rfl,ll⟩ _
 have il:=imm_deeds l
 have rn:=cRun_pf (l:=l) f0 (by omega) (by omega)
 have rl:=run_len l 0 x0
 have rst:=run_stop l 0 x0
 have re:=run_end l 0 x0
 have rp:=run_parts l 0 0 x0
 have fy:=run_fit l 0 0 x0 f0 (by omega)
 obtain⟨y,n,f,hy⟩:∃y n f,runGo 0 x0 l=(y,n,f):=⟨_,_,_,rfl⟩
 rw[hy]at rn rl rst re rp fy
 simp only at rn rl rst re rp fy
 have iy:=imm_st y
 rw[cStX,cStX y]at rn
 rw[cStX]at iy
 simp -dsimp -implicitDefEqProofs [-getElem?_pos,go_sem,hP]
 refine callB_is (rn.lift _ _) hP en_8 (by simp[i0,il]) (imm_trip2 iy) ?_
 have parts:∀k:Nat,k≤n→∃(a:TState) (A B:List TDeed),(encL TDeed.cells l).take k=encL TDeed.cells A∧((encL TDeed.cells l).take n).drop k=encL TDeed.cells B∧A.length=k∧B.length=n-k∧runGo 0 x0 A=(a,k,0)∧runGo 0 a B=(y,n-k,0)∧FitS A.length a:=fun k hk=>by
  obtain⟨a,h1,h2⟩:=rp k (by omega)
  have fa:=run_fit (l.take k) 0 0 x0 f0 (by simp;omega)
  rw[h1]at fa
  rw[Nat.zero_add]at h1 fa
  rw[Nat.zero_add,Nat.sub_zero,←List.drop_take]at h2
  exact⟨a,_,_,encL_takeE _ _ _,by rw[encL_takeE,encL_dropE],by simp;omega,by simp;omega,h1,h2,fa⟩
 have sm:=sameS_pf y fy fy.holds
 rw[cStX]at sm
 have d1:decide ((n:Int)<0)=false:=decide_eq_false (by omega)
 have d2:decide (l.length<n)=false:=decide_eq_false (by omega)
 have w1:=wrap_in ((n:Int)+1) (by omega)
 by_cases hn:n<l.length
 rotate_left
 ·have hf:f=0:=by
   by_cases h:f=0
   ·exact h
   ·exact absurd (re (by omega)) h
  subst hf
  obtain rfl:n=l.length:=by omega
  have d3:=d1
  have d4:=d1
  simp -dsimp -implicitDefEqProofs [-getElem?_pos,go_sem,hP,d1,d2,d3,encL_len,w1,d4]
  refine callB_isQ (up (N_pf p src ((l.length:Int)+1) (by omega))) hP en_9 (by simp -dsimp[-getElem?_pos,go_sem]) ⟨_,⟨0,rfl,by omega,by omega⟩,.sc⟩ ?_
  rintro r ⟨z,rfl,_,hz⟩ _
  have hz:=hz (by omega)
  obtain⟨k,rfl⟩:∃k:Nat,z=k:=⟨z.toNat,by omega⟩
  obtain⟨a,A,B,e1,e2,lA,lB,ha1,ha2,fa⟩:=parts k (by omega)
  rw[encL_takeL]at e2
  have r1:=cRun_pf (l:=A) f0 (by omega) (by omega)
  have r2:=cRun_pf (l:=B) fa (by omega) (by omega)
  rw[ha1]at r1
  rw[ha2]at r2
  have iA:=imm_deeds A
  have iB:=imm_deeds B
  have ia:=imm_st a
  rw[cStX,cStX a]at r1
  rw[cStX,cStX y]at r2
  rw[cStX]at ia
  simp only at r1 r2
  rw[show ((l.length-k:Nat):Int)=(l.length:Int)-k from by omega]at r2
  have b1:(0:Int)≤(k:Int)∧(k:Int)≤(l.length:Int):=by omega
  have b2:(0:Int)≤(k:Int)∧(k:Int)≤(l.length:Int)∧(l.length:Int)≤(l.length:Int):=by omega
  have w2:=wrap_in ((l.length:Int)-k) (by omega)
  simp -dsimp -implicitDefEqProofs [-getElem?_pos,go_sem,hP]
  obtain⟨H1,hH1⟩:∃H1:Heap,H1=[none,some (stO x0),some (stO y)]:=⟨_,rfl⟩
  rw[←hH1]
  have g1:H1[1]?=some (some (stO x0)):=by rw[hH1];rfl
  have g2:H1[2]?=some (some (stO y)):=by rw[hH1];rfl
  have l1:=(gsI g1)
  have l2:=(gsI g2)
  clear hH1
  refine adrawQ (fun i=>decide (i<H1.length)) [10] [4] hP (by kernel_rfl) (by kernel_rfl) ?_
  simp -dsimp -implicitDefEqProofs [-getElem?_pos,go_sem,hP,restr_get,g1,l1,asliceOp,bound,aslice,b1,e1,encL_len]
  refine callQ_isQ (r1.lift _ _) hP en_8 (by simp[i0,iA]) ⟨_,rfl,imm_trip2 ia⟩ ?_
  rintro r rfl _
  simp -dsimp -implicitDefEqProofs [-getElem?_pos,go_sem,hP,restr_get]
  refine⟨agree_push (Nat.le_refl _),?_⟩
  obtain⟨q,hq⟩:∃q,q=H1.length:=⟨_,rfl⟩
  obtain⟨H2,hH2⟩:∃H2:Heap,H2=H1++[some (stO a)]:=⟨_,rfl⟩
  rw[←hH2,←hq]
  have g3:H2[q]?=some (some (stO a)):=by rw[hH2,hq];simp
  have g2:H2[2]?=some (some (stO y)):=by rw[hH2,List.getElem?_append_left l2];exact g2
  have l2:=(gsI g2)
  have l3:=(gsI g3)
  clear hH2 g1 l1 hq
  refine adrawQ (fun i=>decide (i<H2.length)) [11] [5] hP (by kernel_rfl) (by kernel_rfl) ?_
  simp -dsimp -implicitDefEqProofs [-getElem?_pos,go_sem,hP,restr_get,g3,l3,asliceOp,bound,aslice,b2,e2,encL_len]
  refine callQ_isQ (r2.lift _ _) hP en_8 (by simp[ia,iB]) ⟨_,rfl,imm_trip2 iy⟩ ?_
  rintro r rfl _
  simp -dsimp -implicitDefEqProofs [-getElem?_pos,go_sem,hP,restr_get]
  refine⟨agree_push (Nat.le_refl _),?_⟩
  obtain⟨q2,hq2⟩:∃q2,q2=H2.length:=⟨_,rfl⟩
  obtain⟨H3,hH3⟩:∃H3:Heap,H3=H2++[some (stO y)]:=⟨_,rfl⟩
  rw[←hH3,←hq2]
  have g4:H3[q2]?=some (some (stO y)):=by rw[hH3,hq2];simp
  have g2:H3[2]?=some (some (stO y)):=by rw[hH3,List.getElem?_append_left l2];exact g2
  have l2:=(gsI g2)
  have l4:=(gsI g4)
  clear hH3 g3 l3 hq2
  simp -dsimp -implicitDefEqProofs [-getElem?_pos,go_sem,hP,g4,l4,g2,l2,w2]
  refine callB_is (sm.lift _ _) hP en_10 (by simp[iy]) .sc ?_
  simp -dsimp -implicitDefEqProofs [-getElem?_pos,go_sem,hP,d4,encL_len,w2]
  refine callB_is (sane45_pf _ _) hP en_11 (by simp) .sc ?_
  simp -dsimp -implicitDefEqProofs [-getElem?_pos,go_sem,hP]
 obtain⟨dd,hdd,hds,hf⟩:=rst (by omega)
 rw[Nat.sub_zero]at hdd
 have d3:decide (f=0)=false:=decide_eq_false hf
 have d4:decide (n=l.length)=false:=decide_eq_false (by omega)
 have d5:decide ((n:Int)=(l.length:Int))=false:=decide_eq_false (by omega)
 have cd:=cDo_pf (d:=dd) fy (by omega)
 obtain⟨v,hv⟩:∃v,doS y dd=(v,f):=⟨_,Prod.ext rfl hds⟩
 rw[hv]at cd
 have iv':=imm_st v
 have idd:=imm_agg.2 dd.imm
 rw[cStX,cStX v,cDeedX]at cd
 rw[cStX]at iv'
 rw[cDeedX]at idd
 simp only at cd
 simp -dsimp -implicitDefEqProofs [-getElem?_pos,go_sem,hP,d1,d2,d3,encL_len,w1]
 refine callB_isQ (up (N_pf p src ((n:Int)+1) (by omega))) hP en_9 (by simp -dsimp[-getElem?_pos,go_sem]) ⟨_,⟨0,rfl,by omega,by omega⟩,.sc⟩ ?_
 rintro r ⟨z,rfl,_,hz⟩ _
 have hz:=hz (by omega)
 obtain⟨k,rfl⟩:∃k:Nat,z=k:=⟨z.toNat,by omega⟩
 obtain⟨a,A,B,e1,e2,lA,lB,ha1,ha2,fa⟩:=parts k (by omega)
 have r1:=cRun_pf (l:=A) f0 (by omega) (by omega)
 have r2:=cRun_pf (l:=B) fa (by omega) (by omega)
 rw[ha1]at r1
 rw[ha2]at r2
 have iA:=imm_deeds A
 have iB:=imm_deeds B
 have ia:=imm_st a
 rw[cStX,cStX a]at r1
 rw[cStX,cStX y]at r2
 rw[cStX]at ia
 simp only at r1 r2
 rw[show ((n-k:Nat):Int)=(n:Int)-k from by omega]at r2
 have b1:(0:Int)≤(k:Int)∧(k:Int)≤(l.length:Int):=by omega
 have b2:(0:Int)≤(k:Int)∧(k:Int)≤(n:Int)∧(n:Int)≤(l.length:Int):=by omega
 have w2:=wrap_in ((n:Int)-k) (by omega)
 simp -dsimp -implicitDefEqProofs [-getElem?_pos,go_sem,hP]
 obtain⟨H1,hH1⟩:∃H1:Heap,H1=[none,some (stO x0),some (stO y)]:=⟨_,rfl⟩
 rw[←hH1]
 have g1:H1[1]?=some (some (stO x0)):=by rw[hH1];rfl
 have g2:H1[2]?=some (some (stO y)):=by rw[hH1];rfl
 have l1:=(gsI g1)
 have l2:=(gsI g2)
 clear hH1
 refine adrawQ (fun i=>decide (i<H1.length)) [10] [4] hP (by kernel_rfl) (by kernel_rfl) ?_
 simp -dsimp -implicitDefEqProofs [-getElem?_pos,go_sem,hP,restr_get,g1,l1,asliceOp,bound,aslice,b1,e1,encL_len]
 refine callQ_isQ (r1.lift _ _) hP en_8 (by simp[i0,iA]) ⟨_,rfl,imm_trip2 ia⟩ ?_
 rintro r rfl _
 simp -dsimp -implicitDefEqProofs [-getElem?_pos,go_sem,hP,restr_get]
 refine⟨agree_push (Nat.le_refl _),?_⟩
 obtain⟨q,hq⟩:∃q,q=H1.length:=⟨_,rfl⟩
 obtain⟨H2,hH2⟩:∃H2:Heap,H2=H1++[some (stO a)]:=⟨_,rfl⟩
 rw[←hH2,←hq]
 have g3:H2[q]?=some (some (stO a)):=by rw[hH2,hq];simp
 have g2:H2[2]?=some (some (stO y)):=by rw[hH2,List.getElem?_append_left l2];exact g2
 have l2:=(gsI g2)
 have l3:=(gsI g3)
 clear hH2 g1 l1 hq
 refine adrawQ (fun i=>decide (i<H2.length)) [11] [5] hP (by kernel_rfl) (by kernel_rfl) ?_
 simp -dsimp -implicitDefEqProofs [-getElem?_pos,go_sem,hP,restr_get,g3,l3,asliceOp,bound,aslice,b2,e2,encL_len]
 refine callQ_isQ (r2.lift _ _) hP en_8 (by simp[ia,iB]) ⟨_,rfl,imm_trip2 iy⟩ ?_
 rintro r rfl _
 simp -dsimp -implicitDefEqProofs [-getElem?_pos,go_sem,hP,restr_get]
 refine⟨agree_push (Nat.le_refl _),?_⟩
 obtain⟨q2,hq2⟩:∃q2,q2=H2.length:=⟨_,rfl⟩
 obtain⟨H3,hH3⟩:∃H3:Heap,H3=H2++[some (stO y)]:=⟨_,rfl⟩
 rw[←hH3,←hq2]
 have g4:H3[q2]?=some (some (stO y)):=by rw[hH3,hq2];simp
 have g2:H3[2]?=some (some (stO y)):=by rw[hH3,List.getElem?_append_left l2];exact g2
 have l2:=(gsI g2)
 have l4:=(gsI g4)
 clear hH3 g3 l3 hq2
 simp -dsimp -implicitDefEqProofs [-getElem?_pos,go_sem,hP,g4,l4,g2,l2,w2]
 refine callB_is (sm.lift _ _) hP en_10 (by simp[iy]) .sc ?_
 simp -dsimp -implicitDefEqProofs [-getElem?_pos,go_sem,hP,d4,d5,encL_len,w2]
 refine adrawQ (fun i=>decide (i<H3.length)) [10] [5] hP (by kernel_rfl) (by kernel_rfl) ?_
 simp -dsimp -implicitDefEqProofs [-getElem?_pos,go_sem,hP,restr_get,g2,l2,hdd,cDeedX]
 refine callQ_isQ (cd.lift _ _) hP en_12 (by simp[iy,idd]) ⟨_,rfl,imm_pair iv' .sc⟩ ?_
 rintro r rfl _
 simp -dsimp -implicitDefEqProofs [-getElem?_pos,go_sem,hP,restr_get]
 refine⟨agree_push (Nat.le_refl _),?_⟩
 simp -dsimp -implicitDefEqProofs [-getElem?_pos,go_sem,hP,d3]
 refine callB_is (sane45_pf _ _) hP en_11 (by simp) .sc ?_
 simp -dsimp -implicitDefEqProofs [-getElem?_pos,go_sem,hP,d3]
end Go.Proofs.YtmmpcldnpflchaaGreatDoor
