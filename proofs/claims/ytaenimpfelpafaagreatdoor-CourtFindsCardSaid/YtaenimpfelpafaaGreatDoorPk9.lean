/- Several texts of this claim, joined: Crt9 Crt8 CrtJ Led5 Rd1 Rec11 Rec12 Rec13 Rec14 Rec15. -/
import Derived.Test.YtaenimpfelpafaaGreatDoorPk8
set_option linter.unusedSimpArgs false
set_option linter.unusedVariables false
set_option maxRecDepth 4000
namespace Go.Proofs.YtaenimpfelpafaaGreatDoor
open Go.PA
open Go.RowKit
def aG {α β:Type} (p:α→β→Bool):List α→List β→Bool
 |[],[]=>true
 |x::a,y::b=>p x y&&aG p a b
 |[],_::_=>false
 |_::_,[]=>false
set_option maxHeartbeats 1000000 in
theorem oC (a:List TIncome) (b:List TEntry) (g:FuncId) (p:TIncome→TEntry→Bool) (ha:a.length≤100000) (hb:b.length≤100000) (hen:aa Tryz.prog g=true) (hg:∀x y,PFun Tryz.prog none none g [.agg (TIncome.cells x),.agg (TEntry.cells y)] (·=bv (p x y))):
  PFun Tryz.prog none none 28 [.list 5 (aj TIncome.cells a),.list 6 (aj TEntry.cells b),.fn g []] (fun r=>∃i:Nat,i≤100000∧r= .tup [iv i,bv (!aG p a b)]):=by
 refine ab Tryz.func28 rfl (by simp[Tryz.f28]) (by kernel_rfl) ?_
 intro E hP hr hs hW hN
 obtain⟨n,hn⟩:∃n,n=max a.length b.length:=⟨_,rfl⟩
 have mx:rY [iv a.length,iv b.length]=some (iv n):=by
  simp only[rY,fK,if_pos]
  have e:((max a.length b.length:Nat):Int)=max (a.length:Int) (b.length:Int):=by omega
  rw[hn,e]
 obtain⟨R,hR⟩:∃R,R=aG p a b:=⟨_,rfl⟩
 rw[←hR]
 simp -dsimp -implicitDefEqProofs [-getElem?_pos,go_sem,hP,al,mx]
 obtain⟨I,hI⟩:∃I:Nat→St→Prop,I=fun m s=>∃k:Nat,k≤n∧m=n-k∧R=aG p (a.drop k) (b.drop k)∧s.t 0= .list 5 (aj TIncome.cells a)∧s.t 1= .list 6 (aj TEntry.cells b)∧s.t 2= .fn g []∧s.t 13=iv n∧s.t 14=iv k:=⟨_,rfl⟩
 refine ay I (n) (by rw[hN];rfl) ?_ ?_
 ·rw[hI]
  exact⟨0,by omega,by omega,by rw[List.drop_zero,List.drop_zero,hR],by simp -dsimp[-getElem?_pos,go_sem],by simp -dsimp[-getElem?_pos,go_sem],by simp -dsimp[-getElem?_pos,go_sem],by simp -dsimp[-getElem?_pos,go_sem],by simp -dsimp[-getElem?_pos,go_sem]⟩
 intro m s hs'
 rw[hI]at hs'
 obtain⟨k,hk,hm,hag,t0,t1,t2,t13,t14⟩:=hs'
 simp -dsimp -implicitDefEqProofs [-getElem?_pos,go_sem,hP,t13,t14]
 refine aB (fun h=>?_) (fun h=>?_)
 ·have hk:k<n:=by simpa using h
  have wk:=af ((k:Int)+1) (by omega)
  have bad:(a.length≤k∨b.length≤k)→R=false:=fun h=>by
   rw[hag]
   rcases h with h|h
   ·rw[List.drop_of_length_le h]
    obtain⟨y,hy⟩:∃y,b[k]?=some y:=⟨_,List.getElem?_eq_getElem (by omega)⟩
    obtain⟨h2,h3⟩:=List.getElem?_eq_some_iff.1 hy
    rw[List.drop_eq_getElem_cons h2,aG]
   ·rw[List.drop_of_length_le h]
    obtain⟨y,hy⟩:∃y,a[k]?=some y:=⟨_,List.getElem?_eq_getElem (by omega)⟩
    obtain⟨h2,h3⟩:=List.getElem?_eq_some_iff.1 hy
    rw[List.drop_eq_getElem_cons h2,aG]
  simp -dsimp -implicitDefEqProofs [-getElem?_pos,go_sem,hP,t14]
  refine ao (fun _=>true) [] hP (by kernel_rfl) (by kernel_rfl) ?_
  by_cases c1:a.length≤k
  ·have e:=bad (.inl c1)
   have d1:decide (a.length≤k)=true:=decide_eq_true c1
   simp -dsimp -implicitDefEqProofs [-getElem?_pos,go_sem,hP,t0,t1,t2,al,d1]
   exact done (by simp -dsimp[-getElem?_pos,go_sem]) ⟨k,by omega,rfl⟩ (by simp -dsimp[-getElem?_pos,go_sem,e])
  have d1:decide (a.length≤k)=false:=decide_eq_false c1
  by_cases c2:b.length≤k
  ·have e:=bad (.inr c2)
   have d2:decide (b.length≤k)=true:=decide_eq_true c2
   simp -dsimp -implicitDefEqProofs [-getElem?_pos,go_sem,hP,t0,t1,t2,al,d1,d2]
   exact done (by simp -dsimp[-getElem?_pos,go_sem]) ⟨k,by omega,rfl⟩ (by simp -dsimp[-getElem?_pos,go_sem,e])
  have d2:decide (b.length≤k)=false:=decide_eq_false c2
  obtain⟨x,hx⟩:∃x,a[k]?=some x:=⟨_,List.getElem?_eq_getElem (by omega)⟩
  obtain⟨y,hy⟩:∃y,b[k]?=some y:=⟨_,List.getElem?_eq_getElem (by omega)⟩
  have hgo:R=(p x y&&aG p (a.drop (k+1)) (b.drop (k+1))):=by
   rw[hag]
   obtain⟨h2,h3⟩:=List.getElem?_eq_some_iff.1 hx
   obtain⟨h4,h5⟩:=List.getElem?_eq_some_iff.1 hy
   rw[List.drop_eq_getElem_cons h2,List.drop_eq_getElem_cons h4,aG,h3,h5]
  have pf:=hg x y
  have ix:=az.2 x.imm
  have iy:=az.2 y.imm
  simp only[TIncome.cells,TEntry.cells]at pf ix iy
  simp -dsimp -implicitDefEqProofs [-getElem?_pos,go_sem,hP,t0,t1,t2,al,d1,d2,hx,hy,TIncome.cells,TEntry.cells]
  refine ae (pf.lift _ _) hP hen (by simpa using⟨ix,iy⟩) .sc ?_
  cases hp:p x y
  ·rw[hp,Bool.false_and]at hgo
   simp -dsimp -implicitDefEqProofs [-getElem?_pos,go_sem,hP,d1,d2]
   exact done (by simp -dsimp[-getElem?_pos,go_sem]) ⟨k,by omega,rfl⟩ (by simp -dsimp[-getElem?_pos,go_sem,hgo])
  ·rw[hp,Bool.true_and]at hgo
   simp -dsimp -implicitDefEqProofs [-getElem?_pos,go_sem,hP,d1,d2,t14,wk]
   refine⟨n-(k+1),by omega,?_⟩
   rw[hI]
   exact⟨k+1,by omega,rfl,hgo,by simp -dsimp[-getElem?_pos,go_sem,t0],by simp -dsimp[-getElem?_pos,go_sem,t1],by simp -dsimp[-getElem?_pos,go_sem,t2],by simp -dsimp[-getElem?_pos,go_sem,t13],by simp -dsimp[-getElem?_pos,go_sem]⟩
 ·have hk:k=n:=by simp at h;omega
  subst hk
  rw[List.drop_of_length_le (by omega),List.drop_of_length_le (by omega),aG]at hag
  simp -dsimp -implicitDefEqProofs [-getElem?_pos,go_sem,hP]
  exact done (by simp -dsimp[-getElem?_pos,go_sem]) ⟨0,by omega,rfl⟩ (by simp -dsimp[-getElem?_pos,go_sem,hag])
set_option maxHeartbeats 1000000 in
theorem oE (a:List TMove) (b:List TEntry) (g:FuncId) (p:TMove→TEntry→Bool) (ha:a.length≤100000) (hb:b.length≤100000) (hen:aa Tryz.prog g=true) (hg:∀x y,PFun Tryz.prog none none g [.agg (TMove.cells x),.agg (TEntry.cells y)] (·=bv (p x y))):
  PFun Tryz.prog none none 36 [.list 7 (aj TMove.cells a),.list 6 (aj TEntry.cells b),.fn g []] (fun r=>∃i:Nat,i≤100000∧r= .tup [iv i,bv (!aG p a b)]):=by
 refine ab Tryz.func36 rfl (by simp[Tryz.f36]) (by kernel_rfl) ?_
 intro E hP hr hs hW hN
 obtain⟨n,hn⟩:∃n,n=max a.length b.length:=⟨_,rfl⟩
 have mx:rY [iv a.length,iv b.length]=some (iv n):=by
  simp only[rY,fK,if_pos]
  have e:((max a.length b.length:Nat):Int)=max (a.length:Int) (b.length:Int):=by omega
  rw[hn,e]
 obtain⟨R,hR⟩:∃R,R=aG p a b:=⟨_,rfl⟩
 rw[←hR]
 simp -dsimp -implicitDefEqProofs [-getElem?_pos,go_sem,hP,al,mx]
 obtain⟨I,hI⟩:∃I:Nat→St→Prop,I=fun m s=>∃k:Nat,k≤n∧m=n-k∧R=aG p (a.drop k) (b.drop k)∧s.t 0= .list 7 (aj TMove.cells a)∧s.t 1= .list 6 (aj TEntry.cells b)∧s.t 2= .fn g []∧s.t 13=iv n∧s.t 14=iv k:=⟨_,rfl⟩
 refine ay I (n) (by rw[hN];rfl) ?_ ?_
 ·rw[hI]
  exact⟨0,by omega,by omega,by rw[List.drop_zero,List.drop_zero,hR],by simp -dsimp[-getElem?_pos,go_sem],by simp -dsimp[-getElem?_pos,go_sem],by simp -dsimp[-getElem?_pos,go_sem],by simp -dsimp[-getElem?_pos,go_sem],by simp -dsimp[-getElem?_pos,go_sem]⟩
 intro m s hs'
 rw[hI]at hs'
 obtain⟨k,hk,hm,hag,t0,t1,t2,t13,t14⟩:=hs'
 simp -dsimp -implicitDefEqProofs [-getElem?_pos,go_sem,hP,t13,t14]
 refine aB (fun h=>?_) (fun h=>?_)
 ·have hk:k<n:=by simpa using h
  have wk:=af ((k:Int)+1) (by omega)
  have bad:(a.length≤k∨b.length≤k)→R=false:=fun h=>by
   rw[hag]
   rcases h with h|h
   ·rw[List.drop_of_length_le h]
    obtain⟨y,hy⟩:∃y,b[k]?=some y:=⟨_,List.getElem?_eq_getElem (by omega)⟩
    obtain⟨h2,h3⟩:=List.getElem?_eq_some_iff.1 hy
    rw[List.drop_eq_getElem_cons h2,aG]
   ·rw[List.drop_of_length_le h]
    obtain⟨y,hy⟩:∃y,a[k]?=some y:=⟨_,List.getElem?_eq_getElem (by omega)⟩
    obtain⟨h2,h3⟩:=List.getElem?_eq_some_iff.1 hy
    rw[List.drop_eq_getElem_cons h2,aG]
  simp -dsimp -implicitDefEqProofs [-getElem?_pos,go_sem,hP,t14]
  refine ao (fun _=>true) [] hP (by kernel_rfl) (by kernel_rfl) ?_
  by_cases c1:a.length≤k
  ·have e:=bad (.inl c1)
   have d1:decide (a.length≤k)=true:=decide_eq_true c1
   simp -dsimp -implicitDefEqProofs [-getElem?_pos,go_sem,hP,t0,t1,t2,al,d1]
   exact done (by simp -dsimp[-getElem?_pos,go_sem]) ⟨k,by omega,rfl⟩ (by simp -dsimp[-getElem?_pos,go_sem,e])
  have d1:decide (a.length≤k)=false:=decide_eq_false c1
  by_cases c2:b.length≤k
  ·have e:=bad (.inr c2)
   have d2:decide (b.length≤k)=true:=decide_eq_true c2
   simp -dsimp -implicitDefEqProofs [-getElem?_pos,go_sem,hP,t0,t1,t2,al,d1,d2]
   exact done (by simp -dsimp[-getElem?_pos,go_sem]) ⟨k,by omega,rfl⟩ (by simp -dsimp[-getElem?_pos,go_sem,e])
  have d2:decide (b.length≤k)=false:=decide_eq_false c2
  obtain⟨x,hx⟩:∃x,a[k]?=some x:=⟨_,List.getElem?_eq_getElem (by omega)⟩
  obtain⟨y,hy⟩:∃y,b[k]?=some y:=⟨_,List.getElem?_eq_getElem (by omega)⟩
  have hgo:R=(p x y&&aG p (a.drop (k+1)) (b.drop (k+1))):=by
   rw[hag]
   obtain⟨h2,h3⟩:=List.getElem?_eq_some_iff.1 hx
   obtain⟨h4,h5⟩:=List.getElem?_eq_some_iff.1 hy
   rw[List.drop_eq_getElem_cons h2,List.drop_eq_getElem_cons h4,aG,h3,h5]
  have pf:=hg x y
  have ix:=az.2 x.imm
  have iy:=az.2 y.imm
  simp only[TMove.cells,TEntry.cells]at pf ix iy
  simp -dsimp -implicitDefEqProofs [-getElem?_pos,go_sem,hP,t0,t1,t2,al,d1,d2,hx,hy,TMove.cells,TEntry.cells]
  refine ae (pf.lift _ _) hP hen (by simpa using⟨ix,iy⟩) .sc ?_
  cases hp:p x y
  ·rw[hp,Bool.false_and]at hgo
   simp -dsimp -implicitDefEqProofs [-getElem?_pos,go_sem,hP,d1,d2]
   exact done (by simp -dsimp[-getElem?_pos,go_sem]) ⟨k,by omega,rfl⟩ (by simp -dsimp[-getElem?_pos,go_sem,hgo])
  ·rw[hp,Bool.true_and]at hgo
   simp -dsimp -implicitDefEqProofs [-getElem?_pos,go_sem,hP,d1,d2,t14,wk]
   refine⟨n-(k+1),by omega,?_⟩
   rw[hI]
   exact⟨k+1,by omega,rfl,hgo,by simp -dsimp[-getElem?_pos,go_sem,t0],by simp -dsimp[-getElem?_pos,go_sem,t1],by simp -dsimp[-getElem?_pos,go_sem,t2],by simp -dsimp[-getElem?_pos,go_sem,t13],by simp -dsimp[-getElem?_pos,go_sem]⟩
 ·have hk:k=n:=by simp at h;omega
  subst hk
  rw[List.drop_of_length_le (by omega),List.drop_of_length_le (by omega),aG]at hag
  simp -dsimp -implicitDefEqProofs [-getElem?_pos,go_sem,hP]
  exact done (by simp -dsimp[-getElem?_pos,go_sem]) ⟨0,by omega,rfl⟩ (by simp -dsimp[-getElem?_pos,go_sem,hag])
set_option maxHeartbeats 1000000 in
theorem oP (a:List TPosting) (b:List TPosting) (g:FuncId) (p:TPosting→TPosting→Bool) (ha:a.length≤100000) (hb:b.length≤100000) (hen:aa Tryz.prog g=true) (hg:∀x y,PFun Tryz.prog none none g [.agg (TPosting.cells x),.agg (TPosting.cells y)] (·=bv (p x y))):
  PFun Tryz.prog none none 38 [.list 8 (aj TPosting.cells a),.list 8 (aj TPosting.cells b),.fn g []] (fun r=>∃i:Nat,i≤100000∧r= .tup [iv i,bv (!aG p a b)]):=by
 refine ab Tryz.func38 rfl (by simp[Tryz.f38]) (by kernel_rfl) ?_
 intro E hP hr hs hW hN
 obtain⟨n,hn⟩:∃n,n=max a.length b.length:=⟨_,rfl⟩
 have mx:rY [iv a.length,iv b.length]=some (iv n):=by
  simp only[rY,fK,if_pos]
  have e:((max a.length b.length:Nat):Int)=max (a.length:Int) (b.length:Int):=by omega
  rw[hn,e]
 obtain⟨R,hR⟩:∃R,R=aG p a b:=⟨_,rfl⟩
 rw[←hR]
 simp -dsimp -implicitDefEqProofs [-getElem?_pos,go_sem,hP,al,mx]
 obtain⟨I,hI⟩:∃I:Nat→St→Prop,I=fun m s=>∃k:Nat,k≤n∧m=n-k∧R=aG p (a.drop k) (b.drop k)∧s.t 0= .list 8 (aj TPosting.cells a)∧s.t 1= .list 8 (aj TPosting.cells b)∧s.t 2= .fn g []∧s.t 13=iv n∧s.t 14=iv k:=⟨_,rfl⟩
 refine ay I (n) (by rw[hN];rfl) ?_ ?_
 ·rw[hI]
  exact⟨0,by omega,by omega,by rw[List.drop_zero,List.drop_zero,hR],by simp -dsimp[-getElem?_pos,go_sem],by simp -dsimp[-getElem?_pos,go_sem],by simp -dsimp[-getElem?_pos,go_sem],by simp -dsimp[-getElem?_pos,go_sem],by simp -dsimp[-getElem?_pos,go_sem]⟩
 intro m s hs'
 rw[hI]at hs'
 obtain⟨k,hk,hm,hag,t0,t1,t2,t13,t14⟩:=hs'
 simp -dsimp -implicitDefEqProofs [-getElem?_pos,go_sem,hP,t13,t14]
 refine aB (fun h=>?_) (fun h=>?_)
 ·have hk:k<n:=by simpa using h
  have wk:=af ((k:Int)+1) (by omega)
  have bad:(a.length≤k∨b.length≤k)→R=false:=fun h=>by
   rw[hag]
   rcases h with h|h
   ·rw[List.drop_of_length_le h]
    obtain⟨y,hy⟩:∃y,b[k]?=some y:=⟨_,List.getElem?_eq_getElem (by omega)⟩
    obtain⟨h2,h3⟩:=List.getElem?_eq_some_iff.1 hy
    rw[List.drop_eq_getElem_cons h2,aG]
   ·rw[List.drop_of_length_le h]
    obtain⟨y,hy⟩:∃y,a[k]?=some y:=⟨_,List.getElem?_eq_getElem (by omega)⟩
    obtain⟨h2,h3⟩:=List.getElem?_eq_some_iff.1 hy
    rw[List.drop_eq_getElem_cons h2,aG]
  simp -dsimp -implicitDefEqProofs [-getElem?_pos,go_sem,hP,t14]
  refine ao (fun _=>true) [] hP (by kernel_rfl) (by kernel_rfl) ?_
  by_cases c1:a.length≤k
  ·have e:=bad (.inl c1)
   have d1:decide (a.length≤k)=true:=decide_eq_true c1
   simp -dsimp -implicitDefEqProofs [-getElem?_pos,go_sem,hP,t0,t1,t2,al,d1]
   exact done (by simp -dsimp[-getElem?_pos,go_sem]) ⟨k,by omega,rfl⟩ (by simp -dsimp[-getElem?_pos,go_sem,e])
  have d1:decide (a.length≤k)=false:=decide_eq_false c1
  by_cases c2:b.length≤k
  ·have e:=bad (.inr c2)
   have d2:decide (b.length≤k)=true:=decide_eq_true c2
   simp -dsimp -implicitDefEqProofs [-getElem?_pos,go_sem,hP,t0,t1,t2,al,d1,d2]
   exact done (by simp -dsimp[-getElem?_pos,go_sem]) ⟨k,by omega,rfl⟩ (by simp -dsimp[-getElem?_pos,go_sem,e])
  have d2:decide (b.length≤k)=false:=decide_eq_false c2
  obtain⟨x,hx⟩:∃x,a[k]?=some x:=⟨_,List.getElem?_eq_getElem (by omega)⟩
  obtain⟨y,hy⟩:∃y,b[k]?=some y:=⟨_,List.getElem?_eq_getElem (by omega)⟩
  have hgo:R=(p x y&&aG p (a.drop (k+1)) (b.drop (k+1))):=by
   rw[hag]
   obtain⟨h2,h3⟩:=List.getElem?_eq_some_iff.1 hx
   obtain⟨h4,h5⟩:=List.getElem?_eq_some_iff.1 hy
   rw[List.drop_eq_getElem_cons h2,List.drop_eq_getElem_cons h4,aG,h3,h5]
  have pf:=hg x y
  have ix:=az.2 x.imm
  have iy:=az.2 y.imm
  simp only[TPosting.cells,TPosting.cells]at pf ix iy
  simp -dsimp -implicitDefEqProofs [-getElem?_pos,go_sem,hP,t0,t1,t2,al,d1,d2,hx,hy,TPosting.cells,TPosting.cells]
  refine ae (pf.lift _ _) hP hen (by simpa using⟨ix,iy⟩) .sc ?_
  cases hp:p x y
  ·rw[hp,Bool.false_and]at hgo
   simp -dsimp -implicitDefEqProofs [-getElem?_pos,go_sem,hP,d1,d2]
   exact done (by simp -dsimp[-getElem?_pos,go_sem]) ⟨k,by omega,rfl⟩ (by simp -dsimp[-getElem?_pos,go_sem,hgo])
  ·rw[hp,Bool.true_and]at hgo
   simp -dsimp -implicitDefEqProofs [-getElem?_pos,go_sem,hP,d1,d2,t14,wk]
   refine⟨n-(k+1),by omega,?_⟩
   rw[hI]
   exact⟨k+1,by omega,rfl,hgo,by simp -dsimp[-getElem?_pos,go_sem,t0],by simp -dsimp[-getElem?_pos,go_sem,t1],by simp -dsimp[-getElem?_pos,go_sem,t2],by simp -dsimp[-getElem?_pos,go_sem,t13],by simp -dsimp[-getElem?_pos,go_sem]⟩
 ·have hk:k=n:=by simp at h;omega
  subst hk
  rw[List.drop_of_length_le (by omega),List.drop_of_length_le (by omega),aG]at hag
  simp -dsimp -implicitDefEqProofs [-getElem?_pos,go_sem,hP]
  exact done (by simp -dsimp[-getElem?_pos,go_sem]) ⟨0,by omega,rfl⟩ (by simp -dsimp[-getElem?_pos,go_sem,hag])
set_option maxHeartbeats 4000000 in
theorem o0 {row src:Option Nat} (l:List TEntry) (id:Nat) (H:ac) (g:FuncId) (caps caps':List AV) (p:TEntry→Bool) (hl:l.length≤100000) (ho:H[id]?=some (some ⟨75,6,aj TEntry.cells l⟩)) (hen:aa Tryz.prog g=true)
  (hci:∀a,a∈caps'→Imm a) (hca:∀H',Kept [id] H H'→Args H' caps caps'∧caps.map (kJ H')=caps') (hg:∀a,a∈l→PFun Tryz.prog none none g (.agg (TEntry.cells a)::caps') (·=bv (p a))):
  MFun Tryz.prog row src 86 [.sref id 0 l.length,.fn g caps] H (fun r H'=>∃tl,r= .sref id 0 (l.filter fun a=>!p a).length∧H'[id]?=some (some ⟨75,6,aj TEntry.cells (l.filter fun a=>!p a)++tl⟩)∧Kept [id] H H'):=by
 obtain⟨C,hC⟩:∃C:AV→ac→Prop,C=fun r H'=>∃tl,r= .sref id 0 (l.filter fun a=>!p a).length∧H'[id]?=some (some ⟨75,6,aj TEntry.cells (l.filter fun a=>!p a)++tl⟩)∧Kept [id] H H':=⟨_,rfl⟩
 rw[←hC]
 have lid:=(gsI ho)
 have ex:∃r H',C r H':=by
  rw[hC]
  exact⟨_,H.set id (some ⟨75,6,aj TEntry.cells (l.filter fun a=>!p a)++[]⟩),[],rfl,by simp[lid],bK _ (by simp) (au _ _)⟩
 obtain⟨zs,hz⟩:=Option.isSome_iff_exists.1 (show (bP Tryz.prog 75).isSome=true by kernel_rfl)
 have imm:Imm (.list 6 (aj TEntry.cells l)):=aV _ TEntry.imm _
 obtain⟨n,hn⟩:∃n,n=l.length:=⟨_,rfl⟩
 refine aI Tryz.func86 rfl (by simp[Tryz.f86]) (by kernel_rfl) (ex) ?_
 intro E hP hr hs hN
 simp -dsimp -implicitDefEqProofs [-getElem?_pos,go_sem,hP]
 refine bM ((vS l g caps' p (by omega) hen hci hg).lift _ _) hP Od (cY ho (by rw[al]) imm (nM (hca H (au _ _)).2 hci .nil)) ⟨_,rfl⟩ (by rintro r rfl;exact .sc) ?_
 rintro r rfl
 rcases dY p l with⟨h1,h2⟩|⟨i,a,ha,hpa,h3,h4⟩
 ·have hf:(l.filter fun a=>!p a)=l:=List.filter_eq_self.2 fun a ha=>by simp[h2 a ha]
  simp -dsimp -implicitDefEqProofs [-getElem?_pos,go_sem,hP,h1]
  rw[hC,hf]
  exact⟨[],rfl,by rw[List.append_nil];exact ho,au _ _⟩
 have hi1:¬((i:Int)= -1):=by omega
 have hil:=(gsI ha)
 have w1:=af ((i:Int)+1) (by omega)
 have kept0:(l.take (i+1)).filter (fun a=>!p a)=l.take i:=by
  rw[List.take_add_one,ha,List.filter_append,Option.toList_some,List.filter_cons_of_neg (by simp[hpa]),List.filter_nil,List.append_nil]
  refine List.filter_eq_self.2 fun x hx=>?_
  obtain⟨j,hj⟩:=List.getElem?_of_mem hx
  rw[List.getElem?_take]at hj
  split at hj
  ·simp[h4 j x (by assumption) hj]
  ·cases hj
 simp -dsimp -implicitDefEqProofs [-getElem?_pos,go_sem,hP,h3,hi1,w1]
 obtain⟨I,hI⟩:∃I:Nat→St→Prop,I=fun m s=>∃(j q:Nat) (ks:List TEntry) (rows:List (List AV)),ks=((l.take j).filter fun a=>!p a)∧q=ks.length∧j≤n∧m=n-j∧q<j∧rows.length=n∧(∀e,e∈rows→e.length=6)∧rows.take q=aj TEntry.cells ks∧rows.drop j=aj TEntry.cells (l.drop j)∧s.t 0= .sref id 0 n∧s.t 1= .fn g caps∧s.t 5=iv q∧s.t 6=iv j∧s.H[id]?=some (some ⟨75,6,rows⟩)∧Kept [id] H s.H:=⟨_,rfl⟩
 refine ay I (n-(i+1)) (by rw[hN];rfl) ?_ ?_
 ·rw[hI]
  refine⟨i+1,i,l.take i,aj TEntry.cells l,kept0.symm,by simp;omega,by omega,by omega,by omega,by rw[al];omega,fun e he=>?_,eX _ _ _,du _ _ _,by simp -dsimp[-getElem?_pos,go_sem,hn],by simp -dsimp[-getElem?_pos,go_sem],by simp -dsimp[-getElem?_pos,go_sem],by simp -dsimp[-getElem?_pos,go_sem],by simp -dsimp[-getElem?_pos,go_sem,ho],by simp -dsimp[-getElem?_pos,go_sem];exact au _ _⟩
  obtain⟨x,_,rfl⟩:=List.mem_map.1 he
  exact TEntry.len x
 intro m s hs'
 rw[hI]at hs'
 obtain⟨j,q,ks,rows,hks,hq,hjn,hm,hqj,hrl,hre,hrt,hrd,t0,t1,t5,t6,h0,hk⟩:=hs'
 have lt0:=(gsI h0)
 simp -dsimp -implicitDefEqProofs [-getElem?_pos,go_sem,hP,t0,t6,h0]
 refine aB (fun hh=>?_) (fun hh=>?_)
 ·have hj:j<n:=by simpa using hh
  obtain⟨x,hx⟩:∃x,l[j]?=some x:=⟨_,List.getElem?_eq_getElem (by omega)⟩
  have wj:=af ((j:Int)+1) (by omega)
  have wq:=af ((q:Int)+1) (by omega)
  have hrow:rows[j]?=some (TEntry.cells x):=by
   have:=congrArg (·[0]?) hrd
   simp only[List.getElem?_drop,Nat.add_zero,xP,hx]at this
   simpa using this
  have im:=az.2 (TEntry.imm x)
  have hcx:=hca (s.H++[some ⟨75,6,[TEntry.cells x]⟩]) (hk.trans (aK _ _ _))
  have hgx:=(hg x (List.mem_of_getElem? hx)).lift E.row E.src
  have htk:(l.take (j+1)).filter (fun a=>!p a)=if p x=true then ks else ks++[x]:=by
   rw[List.take_add_one,hx,List.filter_append,Option.toList_some,←hks]
   by_cases hpx:p x=true<;>simp[hpx,List.filter_cons]
  have hxl:=TEntry.len x
  simp -dsimp -implicitDefEqProofs [-getElem?_pos,go_sem,hP,t0,t6,h0,hrow,hj,TEntry.cells]
  simp -dsimp -implicitDefEqProofs [-getElem?_pos,go_sem,hP,t1]
  simp only[TEntry.cells]at im hcx hgx
  refine bM hgx hP hen (aH im hcx.1) ⟨_,rfl⟩ (by rintro r rfl;exact .sc) ?_
  rintro r rfl
  simp -dsimp -implicitDefEqProofs [-getElem?_pos,go_sem,hP]
  refine aB (fun hp=>?_) (fun hp=>?_)
  ·rw[if_pos hp]at htk
   simp -dsimp -implicitDefEqProofs [-getElem?_pos,go_sem,hP,t6,wj]
   refine⟨n-(j+1),by omega,?_⟩
   rw[hI]
   refine⟨j+1,q,ks,rows,htk.symm,hq,by omega,rfl,by omega,hrl,hre,hrt,?_,by simp -dsimp[-getElem?_pos,go_sem,t0],by simp -dsimp[-getElem?_pos,go_sem,t1],by simp -dsimp[-getElem?_pos,go_sem,t5],by simp -dsimp[-getElem?_pos,go_sem],by simp -dsimp[-getElem?_pos,go_sem,h0,lt0],by simp -dsimp[-getElem?_pos,go_sem];exact hk.trans (aK _ _ _)⟩
   have:=congrArg (List.drop 1) hrd
   rwa[List.drop_drop,du,List.drop_drop]at this
  ·rw[if_neg (by simp[hp])]at htk
   obtain⟨r0,hr0⟩:∃r0,rows[q]?=some r0:=⟨_,List.getElem?_eq_getElem (by omega)⟩
   have hr0l:=hre r0 (List.mem_of_getElem? hr0)
   have hr0d:r0.drop 6=[]:=List.drop_of_length_le (by omega)
   have hqn:q<n:=by omega
   simp -dsimp -implicitDefEqProofs [-getElem?_pos,go_sem,hP,t0,t5,t6,h0,lt0,hr0,hr0l,hr0d,hqn,wj,wq]
   refine⟨n-(j+1),by omega,?_⟩
   rw[hI]
   refine⟨j+1,q+1,ks++[x],rows.set q (TEntry.cells x),htk.symm,by simp;omega,by omega,rfl,by omega,by simp;omega,fun e he=>?_,?_,?_,by simp -dsimp[-getElem?_pos,go_sem,t0],by simp -dsimp[-getElem?_pos,go_sem,t1],by simp -dsimp[-getElem?_pos,go_sem],by simp -dsimp[-getElem?_pos,go_sem],by simp -dsimp[-getElem?_pos,go_sem,lt0,TEntry.cells],by simp -dsimp[-getElem?_pos,go_sem];exact (bK _ (by simp) hk).trans (aK _ _ _)⟩
   ·rcases List.mem_or_eq_of_mem_set he with he|rfl
    ·exact hre e he
    ·exact hxl
   ·rw[List.take_add_one,List.take_set_of_le (by omega),hrt,List.getElem?_set_self (by omega),←lr]
    rfl
   ·have:=congrArg (List.drop 1) hrd
    rw[List.drop_drop,du,List.drop_drop]at this
    rw[List.drop_set_of_lt (by omega)]
    exact this
 ·have hj:j=n:=by simp at hh;omega
  subst hj
  have hkl:ks=l.filter fun a=>!p a:=by rw[hks,hn,List.take_length]
  have hqn:q≤j:=by omega
  have hqn1:¬q=j:=by omega
  have hqn2:¬(q:Int)=j:=by omega
  have sx:∀(id n:Nat),(if q=0 then some (AV.sref id 0 n)else some (AV.sref id q (n-q)))=some (.sref id q (n-q)):=fun id n=>by
   split
   ·rename_i h0;rw[h0,Nat.sub_zero]
   ·rfl
  simp -dsimp -implicitDefEqProofs [-getElem?_pos,go_sem,hP,t0,t5,h0,bg,cK,cD,hqn,hqn1,hqn2,sx]
  refine ky (e:=75) (es':=aj TEntry.cells ks++List.replicate (j-q) zs) h0 (.inl rfl) (by rw[hP];kernel_rfl) (by rw[hP];kernel_rfl) (by omega) (by rw[hP];exact hz) (by omega) (by omega) ?_ ?_
  ·rw[hrt,List.drop_of_length_le (by omega),List.append_nil]
  simp -dsimp -implicitDefEqProofs [-getElem?_pos,go_sem,hP,t0,t5,lt0,bg,cK,cD,hqn,hqn1,hqn2,sx]
  rw[hC,←hkl]
  exact⟨List.replicate (j-q) zs,by rw[hq],by simp[lt0],bK _ (by simp) hk⟩
theorem zM (l:List TMove) (g:FuncId) (caps:List AV) (p:TMove→Bool) (hl:l.length≤1000000) (hen:aa Tryz.prog g=true) (hcap:∀a,a∈caps→Imm a)
  (hg:∀a,a∈l→PFun Tryz.prog none none g (.agg (TMove.cells a)::caps) (·=bv (p a))):
  PFun Tryz.prog none none 88 [.list 7 (aj TMove.cells l),.fn g caps] (·=iv (fA p l)):=by
 refine ab Tryz.func88 rfl (by simp[Tryz.f88]) (by kernel_rfl) ?_
 intro E hP hr hs hW hN
 simp -dsimp -implicitDefEqProofs [-getElem?_pos,go_sem,hP]
 obtain⟨I,hI⟩:∃I:Nat→St→Prop,I=fun m s=>∃k:Nat,k≤l.length∧m=l.length-k∧fA p l=bE p k (l.drop k)∧s.t 0= .list 7 (aj TMove.cells l)∧s.t 1= .fn g caps∧s.t 7=iv l.length∧s.t 8=iv k:=⟨_,rfl⟩
 refine ay I (l.length) (by rw[hN];rfl) ?_ ?_
 ·rw[hI]
  exact⟨0,by omega,by omega,by simp[fA],by simp -dsimp[-getElem?_pos,go_sem],by simp -dsimp[-getElem?_pos,go_sem],by simp -dsimp[-getElem?_pos,go_sem],by simp -dsimp[-getElem?_pos,go_sem]⟩
 intro m s hs'
 rw[hI]at hs'
 obtain⟨k,hk,hm,hi,t0,t1,t7,t8⟩:=hs'
 simp -dsimp -implicitDefEqProofs [-getElem?_pos,go_sem,hP,t7,t8]
 refine aB (fun h=>?_) (fun h=>?_)
 ·have hk:k<l.length:=by simpa using h
  obtain⟨a,ha⟩:∃a,l[k]?=some a:=⟨_,List.getElem?_eq_getElem hk⟩
  have wk:=af ((k:Int)+1) (by omega)
  have hz:(TMove.cells a).take 7=TMove.cells a:=List.take_of_length_le (by rw[TMove.len];omega)
  have hd:l.drop k=a::l.drop (k+1):=by
   rw[List.getElem?_eq_getElem hk]at ha
   rw[List.drop_eq_getElem_cons hk,Option.some.inj ha]
  simp -dsimp -implicitDefEqProofs [-getElem?_pos,go_sem,hP,t8,t1,t0,ha,TMove.len,hz]
  refine ae ((hg a (List.mem_of_getElem? ha)).lift _ _) hP hen (fun x hx=>?_) .sc ?_
  ·rcases List.mem_cons.1 hx with rfl|hx
   ·exact az.2 (TMove.imm a)
   ·exact hcap x hx
  rw[hd]at hi
  simp only[bE]at hi
  simp -dsimp -implicitDefEqProofs [-getElem?_pos,go_sem,hP]
  refine aB (fun hp=>?_) (fun hp=>?_)
  ·rw[if_pos hp]at hi
   simp -dsimp -implicitDefEqProofs [-getElem?_pos,go_sem,hP]
   exact hi.symm
  ·rw[hp,if_neg (by simp)]at hi
   simp -dsimp -implicitDefEqProofs [-getElem?_pos,go_sem,hP,t8,wk]
   refine⟨l.length-(k+1),by omega,?_⟩
   rw[hI]
   exact⟨k+1,by omega,rfl,hi,by simp -dsimp[-getElem?_pos,go_sem,t0],by simp -dsimp[-getElem?_pos,go_sem,t1],by simp -dsimp[-getElem?_pos,go_sem,t7],by simp -dsimp[-getElem?_pos,go_sem]⟩
 ·have hk:k=l.length:=by simp at h;omega
  subst hk
  rw[List.drop_length]at hi
  simp -dsimp -implicitDefEqProofs [-getElem?_pos,go_sem,hP]
  exact hi.symm
set_option maxHeartbeats 4000000 in
theorem lC {row src:Option Nat} (l:List TMove) (id:Nat) (H:ac) (g:FuncId) (caps caps':List AV) (p:TMove→Bool) (hl:l.length≤100000) (ho:H[id]?=some (some ⟨70,7,aj TMove.cells l⟩)) (hen:aa Tryz.prog g=true)
  (hci:∀a,a∈caps'→Imm a) (hca:∀H',Kept [id] H H'→Args H' caps caps'∧caps.map (kJ H')=caps') (hg:∀a,a∈l→PFun Tryz.prog none none g (.agg (TMove.cells a)::caps') (·=bv (p a))):
  MFun Tryz.prog row src 32 [.sref id 0 l.length,.fn g caps] H (fun r H'=>∃tl,r= .sref id 0 (l.filter fun a=>!p a).length∧H'[id]?=some (some ⟨70,7,aj TMove.cells (l.filter fun a=>!p a)++tl⟩)∧Kept [id] H H'):=by
 obtain⟨C,hC⟩:∃C:AV→ac→Prop,C=fun r H'=>∃tl,r= .sref id 0 (l.filter fun a=>!p a).length∧H'[id]?=some (some ⟨70,7,aj TMove.cells (l.filter fun a=>!p a)++tl⟩)∧Kept [id] H H':=⟨_,rfl⟩
 rw[←hC]
 have lid:=(gsI ho)
 have ex:∃r H',C r H':=by
  rw[hC]
  exact⟨_,H.set id (some ⟨70,7,aj TMove.cells (l.filter fun a=>!p a)++[]⟩),[],rfl,by simp[lid],bK _ (by simp) (au _ _)⟩
 obtain⟨zs,hz⟩:=Option.isSome_iff_exists.1 (show (bP Tryz.prog 70).isSome=true by kernel_rfl)
 have imm:Imm (.list 7 (aj TMove.cells l)):=aV _ TMove.imm _
 obtain⟨n,hn⟩:∃n,n=l.length:=⟨_,rfl⟩
 refine aI Tryz.func32 rfl (by simp[Tryz.f32]) (by kernel_rfl) (ex) ?_
 intro E hP hr hs hN
 simp -dsimp -implicitDefEqProofs [-getElem?_pos,go_sem,hP]
 refine bM ((zM l g caps' p (by omega) hen hci hg).lift _ _) hP PN (cY ho (by rw[al]) imm (nM (hca H (au _ _)).2 hci .nil)) ⟨_,rfl⟩ (by rintro r rfl;exact .sc) ?_
 rintro r rfl
 rcases dY p l with⟨h1,h2⟩|⟨i,a,ha,hpa,h3,h4⟩
 ·have hf:(l.filter fun a=>!p a)=l:=List.filter_eq_self.2 fun a ha=>by simp[h2 a ha]
  simp -dsimp -implicitDefEqProofs [-getElem?_pos,go_sem,hP,h1]
  rw[hC,hf]
  exact⟨[],rfl,by rw[List.append_nil];exact ho,au _ _⟩
 have hi1:¬((i:Int)= -1):=by omega
 have hil:=(gsI ha)
 have w1:=af ((i:Int)+1) (by omega)
 have kept0:(l.take (i+1)).filter (fun a=>!p a)=l.take i:=by
  rw[List.take_add_one,ha,List.filter_append,Option.toList_some,List.filter_cons_of_neg (by simp[hpa]),List.filter_nil,List.append_nil]
  refine List.filter_eq_self.2 fun x hx=>?_
  obtain⟨j,hj⟩:=List.getElem?_of_mem hx
  rw[List.getElem?_take]at hj
  split at hj
  ·simp[h4 j x (by assumption) hj]
  ·cases hj
 simp -dsimp -implicitDefEqProofs [-getElem?_pos,go_sem,hP,h3,hi1,w1]
 obtain⟨I,hI⟩:∃I:Nat→St→Prop,I=fun m s=>∃(j q:Nat) (ks:List TMove) (rows:List (List AV)),ks=((l.take j).filter fun a=>!p a)∧q=ks.length∧j≤n∧m=n-j∧q<j∧rows.length=n∧(∀e,e∈rows→e.length=7)∧rows.take q=aj TMove.cells ks∧rows.drop j=aj TMove.cells (l.drop j)∧s.t 0= .sref id 0 n∧s.t 1= .fn g caps∧s.t 5=iv q∧s.t 6=iv j∧s.H[id]?=some (some ⟨70,7,rows⟩)∧Kept [id] H s.H:=⟨_,rfl⟩
 refine ay I (n-(i+1)) (by rw[hN];rfl) ?_ ?_
 ·rw[hI]
  refine⟨i+1,i,l.take i,aj TMove.cells l,kept0.symm,by simp;omega,by omega,by omega,by omega,by rw[al];omega,fun e he=>?_,eX _ _ _,du _ _ _,by simp -dsimp[-getElem?_pos,go_sem,hn],by simp -dsimp[-getElem?_pos,go_sem],by simp -dsimp[-getElem?_pos,go_sem],by simp -dsimp[-getElem?_pos,go_sem],by simp -dsimp[-getElem?_pos,go_sem,ho],by simp -dsimp[-getElem?_pos,go_sem];exact au _ _⟩
  obtain⟨x,_,rfl⟩:=List.mem_map.1 he
  exact TMove.len x
 intro m s hs'
 rw[hI]at hs'
 obtain⟨j,q,ks,rows,hks,hq,hjn,hm,hqj,hrl,hre,hrt,hrd,t0,t1,t5,t6,h0,hk⟩:=hs'
 have lt0:=(gsI h0)
 simp -dsimp -implicitDefEqProofs [-getElem?_pos,go_sem,hP,t0,t6,h0]
 refine aB (fun hh=>?_) (fun hh=>?_)
 ·have hj:j<n:=by simpa using hh
  obtain⟨x,hx⟩:∃x,l[j]?=some x:=⟨_,List.getElem?_eq_getElem (by omega)⟩
  have wj:=af ((j:Int)+1) (by omega)
  have wq:=af ((q:Int)+1) (by omega)
  have hrow:rows[j]?=some (TMove.cells x):=by
   have:=congrArg (·[0]?) hrd
   simp only[List.getElem?_drop,Nat.add_zero,xP,hx]at this
   simpa using this
  have im:=az.2 (TMove.imm x)
  have hcx:=hca (s.H++[some ⟨70,7,[TMove.cells x]⟩]) (hk.trans (aK _ _ _))
  have hgx:=(hg x (List.mem_of_getElem? hx)).lift E.row E.src
  have htk:(l.take (j+1)).filter (fun a=>!p a)=if p x=true then ks else ks++[x]:=by
   rw[List.take_add_one,hx,List.filter_append,Option.toList_some,←hks]
   by_cases hpx:p x=true<;>simp[hpx,List.filter_cons]
  have hxl:=TMove.len x
  simp -dsimp -implicitDefEqProofs [-getElem?_pos,go_sem,hP,t0,t6,h0,hrow,hj,TMove.cells]
  simp -dsimp -implicitDefEqProofs [-getElem?_pos,go_sem,hP,t1]
  simp only[TMove.cells]at im hcx hgx
  refine bM hgx hP hen (aH im hcx.1) ⟨_,rfl⟩ (by rintro r rfl;exact .sc) ?_
  rintro r rfl
  simp -dsimp -implicitDefEqProofs [-getElem?_pos,go_sem,hP]
  refine aB (fun hp=>?_) (fun hp=>?_)
  ·rw[if_pos hp]at htk
   simp -dsimp -implicitDefEqProofs [-getElem?_pos,go_sem,hP,t6,wj]
   refine⟨n-(j+1),by omega,?_⟩
   rw[hI]
   refine⟨j+1,q,ks,rows,htk.symm,hq,by omega,rfl,by omega,hrl,hre,hrt,?_,by simp -dsimp[-getElem?_pos,go_sem,t0],by simp -dsimp[-getElem?_pos,go_sem,t1],by simp -dsimp[-getElem?_pos,go_sem,t5],by simp -dsimp[-getElem?_pos,go_sem],by simp -dsimp[-getElem?_pos,go_sem,h0,lt0],by simp -dsimp[-getElem?_pos,go_sem];exact hk.trans (aK _ _ _)⟩
   have:=congrArg (List.drop 1) hrd
   rwa[List.drop_drop,du,List.drop_drop]at this
  ·rw[if_neg (by simp[hp])]at htk
   obtain⟨r0,hr0⟩:∃r0,rows[q]?=some r0:=⟨_,List.getElem?_eq_getElem (by omega)⟩
   have hr0l:=hre r0 (List.mem_of_getElem? hr0)
   have hr0d:r0.drop 7=[]:=List.drop_of_length_le (by omega)
   have hqn:q<n:=by omega
   simp -dsimp -implicitDefEqProofs [-getElem?_pos,go_sem,hP,t0,t5,t6,h0,lt0,hr0,hr0l,hr0d,hqn,wj,wq]
   refine⟨n-(j+1),by omega,?_⟩
   rw[hI]
   refine⟨j+1,q+1,ks++[x],rows.set q (TMove.cells x),htk.symm,by simp;omega,by omega,rfl,by omega,by simp;omega,fun e he=>?_,?_,?_,by simp -dsimp[-getElem?_pos,go_sem,t0],by simp -dsimp[-getElem?_pos,go_sem,t1],by simp -dsimp[-getElem?_pos,go_sem],by simp -dsimp[-getElem?_pos,go_sem],by simp -dsimp[-getElem?_pos,go_sem,lt0,TMove.cells],by simp -dsimp[-getElem?_pos,go_sem];exact (bK _ (by simp) hk).trans (aK _ _ _)⟩
   ·rcases List.mem_or_eq_of_mem_set he with he|rfl
    ·exact hre e he
    ·exact hxl
   ·rw[List.take_add_one,List.take_set_of_le (by omega),hrt,List.getElem?_set_self (by omega),←lr]
    rfl
   ·have:=congrArg (List.drop 1) hrd
    rw[List.drop_drop,du,List.drop_drop]at this
    rw[List.drop_set_of_lt (by omega)]
    exact this
 ·have hj:j=n:=by simp at hh;omega
  subst hj
  have hkl:ks=l.filter fun a=>!p a:=by rw[hks,hn,List.take_length]
  have hqn:q≤j:=by omega
  have hqn1:¬q=j:=by omega
  have hqn2:¬(q:Int)=j:=by omega
  have sx:∀(id n:Nat),(if q=0 then some (AV.sref id 0 n)else some (AV.sref id q (n-q)))=some (.sref id q (n-q)):=fun id n=>by
   split
   ·rename_i h0;rw[h0,Nat.sub_zero]
   ·rfl
  simp -dsimp -implicitDefEqProofs [-getElem?_pos,go_sem,hP,t0,t5,h0,bg,cK,cD,hqn,hqn1,hqn2,sx]
  refine ky (e:=70) (es':=aj TMove.cells ks++List.replicate (j-q) zs) h0 (.inl rfl) (by rw[hP];kernel_rfl) (by rw[hP];kernel_rfl) (by omega) (by rw[hP];exact hz) (by omega) (by omega) ?_ ?_
  ·rw[hrt,List.drop_of_length_le (by omega),List.append_nil]
  simp -dsimp -implicitDefEqProofs [-getElem?_pos,go_sem,hP,t0,t5,lt0,bg,cK,cD,hqn,hqn1,hqn2,sx]
  rw[hC,←hkl]
  exact⟨List.replicate (j-q) zs,by rw[hq],by simp[lt0],bK _ (by simp) hk⟩
theorem JL (e:TEntry) (g:FuncId) (p:TEntry→Bool) (hen:aa Tryz.prog g=true) (hg:∀e:TEntry,PFun Tryz.prog none none g [.agg e.cells] (·=bv (p e))):
  PFun Tryz.prog none none 87 [.agg e.cells,.iref [.fn g []]] (·=bv (!p e)):=by
 have ie:=az.2 e.imm
 have pe:=hg e
 rw[cE]at ie pe
 have k1:aA Tryz.prog 102=true:=by kernel_rfl
 have k2:bO Tryz.prog 102=false:=by kernel_rfl
 refine ab Tryz.func87 rfl (by simp[Tryz.f87]) (by kernel_rfl) ?_
 intro E hP hr hs hW hN
 simp -dsimp -implicitDefEqProofs [-getElem?_pos,go_sem,hP,cE,k1,k2]
 refine ae (pe.lift _ _) hP hen (by simpa using ie) .sc ?_
 simp -dsimp -implicitDefEqProofs [-getElem?_pos,go_sem,hP]
set_option maxHeartbeats 1000000 in
theorem uu (a:TAccount) (g:FuncId) (p:TEntry→Bool) (hl:a.Entries.length≤100000) (hen:aa Tryz.prog g=true) (hg:∀e:TEntry,PFun Tryz.prog none none g [.agg e.cells] (·=bv (p e))):
  PFun Tryz.prog none none 29 [.agg a.cells,.fn g []] (·=bu (a.Entries.filter p)):=by
 refine eV Tryz.func29 rfl (by simp[Tryz.f29]) ?_
 intro E hP hr hs hW hN
 refine bG (by rw[hN];kernel_rfl) ?_
 simp -dsimp -implicitDefEqProofs [-getElem?_pos,go_sem,hP,cA]
 refine AWp.weaken (CB 3 (id:=1) (cs:=[.fn g []]) hW (by simp -dsimp[-getElem?_pos,go_sem]) (by simp -dsimp[-getElem?_pos,go_sem]) (by simp[eW])) ?_
 refine bU _ _ _ (by rw[hN];kernel_rfl) ?_
 simp -dsimp -implicitDefEqProofs [-getElem?_pos,go_sem,hP]
 obtain⟨H2,hH2⟩:∃H2:ac,H2=[some ⟨28,3,[[iv a.Credit,aL a.Subs,bu a.Entries]]⟩,none]:=⟨_,rfl⟩
 simp only[←hH2]
 refine aM (by rw[hr,hs];exact xE a.Entries H2 (by omega)) hP Qy ?_
 rintro r H3 ⟨id,rfl,hid,ho,hk⟩
 simp -dsimp -implicitDefEqProofs [-getElem?_pos,go_sem,hP,oY]
 refine aM (by rw[hr,hs];exact o0 a.Entries id H3 87 [.iref [.fn g []]] [.iref [.fn g []]] (fun e=>!p e) (by omega) ho PY (by simp[fN,eW]) (fun H' _=>⟨aH (by simp[fN,eW]) (be.2 trivial),by simp[oY]⟩) (fun e _=>JL e g p hen hg)) hP PD ?_
 rintro r H4 ⟨tl,rfl,ho4,hk4⟩
 have ef:(a.Entries.filter fun e=>!!p e)=a.Entries.filter p:=List.filter_congr fun e _=>by simp
 rw[ef]at ho4
 simp -dsimp -implicitDefEqProofs [-getElem?_pos,go_sem,hP]
 exact gU ho4 (by rw[al]) (fe _) rfl
def iU (e:TEntry):Bool:=decide (e.Ref=0)&&(decide (e.From=0)&&!decide (e.To=1))
theorem Fd (e:TEntry):PFun Tryz.prog none none 30 [.agg e.cells] (·=bv (iU e)):=by
 refine ab Tryz.func30 rfl (by simp[Tryz.f30]) (by kernel_rfl) ?_
 intro E hP hr hs hW hN
 rw[show iU e=(decide (e.Ref=0)&&(decide (e.From=0)&&!decide (e.To=1)))from rfl]
 by_cases h1:e.Ref=0
 ·have d1:decide (e.Ref=0)=true:=decide_eq_true h1
  by_cases h2:e.From=0
  ·have d2:decide (e.From=0)=true:=decide_eq_true h2
   simp -dsimp -implicitDefEqProofs [-getElem?_pos,go_sem,hP,cE,d1,d2]
  ·have d2:decide (e.From=0)=false:=decide_eq_false h2
   simp -dsimp -implicitDefEqProofs [-getElem?_pos,go_sem,hP,cE,d1,d2]
 ·have d1:decide (e.Ref=0)=false:=decide_eq_false h1
  simp -dsimp -implicitDefEqProofs [-getElem?_pos,go_sem,hP,cE,d1]
def pH (x:TIncome) (e:TEntry):Bool:=decide (x.Day=e.Day)&&decide (x.Amount=e.Amount)
theorem Fb (x:TIncome) (e:TEntry):PFun Tryz.prog none none 31 [.agg x.cells,.agg e.cells] (·=bv (pH x e)):=by
 refine ab Tryz.func31 rfl (by simp[Tryz.f31]) (by kernel_rfl) ?_
 intro E hP hr hs hW hN
 rw[show pH x e=(decide (x.Day=e.Day)&&decide (x.Amount=e.Amount))from rfl]
 by_cases h1:x.Day=e.Day
 ·have d1:decide (x.Day=e.Day)=true:=decide_eq_true h1
  simp -dsimp -implicitDefEqProofs [-getElem?_pos,go_sem,hP,cE,Fu,d1]
 ·have d1:decide (x.Day=e.Day)=false:=decide_eq_false h1
  simp -dsimp -implicitDefEqProofs [-getElem?_pos,go_sem,hP,cE,Fu,d1]
def mz (m:TMove):Bool:=decide (m.Kind=2)
theorem FG (m:TMove):m.cells=[iv m.Number,iv m.Day,iv m.Kind,iv m.Security,iv m.From,iv m.To,iv m.Amount]:=rfl
theorem Fh (m:TMove):PFun Tryz.prog none none 34 [.agg m.cells] (·=bv (mz m)):=by
 refine ab Tryz.func34 rfl (by simp[Tryz.f34]) (by kernel_rfl) ?_
 intro E hP hr hs hW hN
 rw[show mz m=decide (m.Kind=2)from rfl]
 simp -dsimp -implicitDefEqProofs [-getElem?_pos,go_sem,hP,FG]
def rM (m:TMove) (e:TEntry):Bool:=decide (m.Day=e.Day)&&(decide (m.Amount=e.Amount)&&decide (decide (m.Kind=1)=decide (e.From=0)))
theorem Fk (m:TMove) (e:TEntry):PFun Tryz.prog none none 35 [.agg m.cells,.agg e.cells] (·=bv (rM m e)):=by
 refine ab Tryz.func35 rfl (by simp[Tryz.f35]) (by kernel_rfl) ?_
 intro E hP hr hs hW hN
 rw[show rM m e=(decide (m.Day=e.Day)&&(decide (m.Amount=e.Amount)&&decide (decide (m.Kind=1)=decide (e.From=0))))from rfl]
 by_cases h1:m.Day=e.Day
 ·have d1:decide (m.Day=e.Day)=true:=decide_eq_true h1
  by_cases h2:m.Amount=e.Amount
  ·have d2:decide (m.Amount=e.Amount)=true:=decide_eq_true h2
   simp -dsimp -implicitDefEqProofs [-getElem?_pos,go_sem,hP,cE,FG,d1,d2]
  ·have d2:decide (m.Amount=e.Amount)=false:=decide_eq_false h2
   simp -dsimp -implicitDefEqProofs [-getElem?_pos,go_sem,hP,cE,FG,d1,d2]
 ·have d1:decide (m.Day=e.Day)=false:=decide_eq_false h1
  simp -dsimp -implicitDefEqProofs [-getElem?_pos,go_sem,hP,cE,FG,d1]
theorem FI (p q:TPosting):PFun Tryz.prog none none 40 [.agg p.cells,.agg q.cells] (·=bv (decide (p=q))):=by
 refine ab Tryz.func40 rfl (by simp[Tryz.f40]) (by kernel_rfl) ?_
 intro E hP hr hs hW hN
 by_cases h:p=q
 ·subst h
  simp -dsimp -implicitDefEqProofs [-getElem?_pos,go_sem,hP,TPosting.cells]
 ·rw[decide_eq_false h]
  simp -dsimp -implicitDefEqProofs [-getElem?_pos,go_sem,hP,TPosting.cells]
  intro h1 h2 h3 h4 h5 h6 h7 h8
  refine h ?_
  cases p;cases q
  simp only at h1 h2 h3 h4 h5 h6 h7 h8
  simp[h1,h2,h3,h4,h5,h6,h7,h8]
theorem vQ {H:ac} {id n:Nat} {ty:TypeId} {k:Nat} {es tl:List (List AV)} {us us':List AV} (hH:H[id]?=some (some ⟨ty,k,es++tl⟩)) (hn:n=es.length) (hi:Imm (.list k es)) (ht:Args H us us'):Args H (.sref id 0 n::us) (.list k es::us'):=by
 have hv:dv H (.sref id 0 n)= .list k es:=by rw[gB,hH,gq];simp[hn]
 exact .cons (by rw[hv];exact .refl _) (by rw[hv];exact hi) ht
structure AudOk (x:TState):Prop where
 d:FitD x.Desk
 c:x.Cash=csh x.Cash.Incomes
 cl:CsOk x.Cash.Incomes
 r:RegOk x.Register (dR x.Register)
 l:x.Ledger.Postings.length≤400
 ca:aD x.Desk.Account=0
 cd:bH x.Desk=0
 cp:bY x.Ledger.Postings=0
 fi:aG pH x.Cash.Incomes (x.Desk.Account.Entries.filter iU)=true
 fm:aG rM (x.Register.Moves.filter fun m=>!mz m) (x.Desk.Account.Entries.filter eZ)=true
 fp:x.Ledger.Postings=cO 0 [] x.Desk.Account.Entries
end Go.Proofs.YtaenimpfelpafaaGreatDoor
set_option maxRecDepth 100000
namespace Go.Proofs.YtaenimpfelpafaaGreatDoor
open Go.PA
open Go.RowKit
theorem yj {P:Program} {row src:Option Nat} {f:FuncId} {args:List AV} {v x:AV} (h:PFun P row src f args (·=v)) (hi:Imm x) (hw:Weak v x):PFun P row src f args (·=x):=fun w ok vs h1 h2 h3 h4=>
 (h w ok vs h1 h2 h3 h4).mono fun _ _ ⟨u,y,e,hy,_,hr,rest⟩=>by
  subst hy
  exact⟨u,x,e,rfl,hi,hr.weak hw,rest⟩
def WkL:List AV→List AV→Prop
 |[],[]=>True
 |a::us,b::zs=>Weak a b∧WkL us zs
 |_,_=>False
theorem wkL:∀{us zs:List AV},WkL us zs→us.length=zs.length∧∀(i:Nat) (a b:AV),us[i]?=some a→zs[i]?=some b→Weak a b
 |[],[],_=>⟨rfl,fun i a b h=>by simp at h⟩
 |a::us,b::zs,⟨h,h'⟩=>by
  obtain⟨h1,h2⟩:=wkL h'
  refine⟨by simp[h1],fun i x y hx hy=>?_⟩
  cases i with
  |zero=>
   cases hx;cases hy
   exact h
  |succ i=>exact h2 i x y hx hy
 |[],_::_,h=>h.elim
 |_::_,[],h=>h.elim
def dB (c:Int):TState:=⟨⟨⟨c,[⟨1,0⟩,⟨2,0⟩,⟨3,0⟩,⟨7,0⟩],[]⟩,⟨[],[],[]⟩,[]⟩,⟨[],[],[],[]⟩,⟨jR,[],[]⟩,⟨[]⟩⟩
theorem vF (c:Int):Weak (.tup [.agg [iv c,.list 2 [[iv 1,iv 0],[iv 2,iv 0],[iv 3,iv 0],[iv 7,iv 0]],.nil,.nil,.nil,.nil,.nil,.nil,.nil,.nil,.nil,.list 7 [[iv 1,iv 100,iv 0,iv 7200,iv 5000,iv 6,bv false],[iv 2,iv 100,iv 90,iv 450,iv 0,iv 0,bv false]],.nil,.nil,.nil],iv 0]) (.tup [.agg (dB c).cells,iv 0]):=by
 refine qW ?_ (.refl _)
 obtain⟨h1,h2⟩:=wkL (us:=[iv c,.list 2 [[iv 1,iv 0],[iv 2,iv 0],[iv 3,iv 0],[iv 7,iv 0]],.nil,.nil,.nil,.nil,.nil,.nil,.nil,.nil,.nil,.list 7 [[iv 1,iv 100,iv 0,iv 7200,iv 5000,iv 6,bv false],[iv 2,iv 100,iv 90,iv 450,iv 0,iv 0,bv false]],.nil,.nil,.nil]) (zs:=(dB c).cells) ⟨.refl _,.refl _,.nil _,.nil _,.nil _,.nil _,.nil _,.nil _,.nil _,.nil _,.nil _,.refl _,.nil _,.nil _,.nil _,trivial⟩
 exact .agg h1 h2
theorem xW (c:Int):FitS 0 (dB c) where
 d:=⟨by simp[dB],by simp[dB],⟨by simp[dB],by simp[dB],by simp[dB],by simp[dB]⟩,by simp[dB]⟩
 c:=rfl
 cl:=⟨rfl,by simp[dB]⟩
 r:=⟨by kernel_rfl,by simp[dB,jR],.nil,by simp[dB]⟩
 rm:=by simp[dB]
 l:=by simp[dB]
open Go.PA
open Go.RowKit
theorem o7 {α β:Type} {p:α→β→Bool} {x:α} {y:β} (hp:p x y=true):∀{a:List α} {b:List β},aG p a b=true→aG p (a++[x]) (b++[y])=true
 |[],[],_=>by simp[aG,hp]
 |x'::a,y'::b,h=>by
  rw[aG,Bool.and_eq_true]at h
  rw[List.cons_append,List.cons_append,aG,h.1,o7 hp h.2]
  rfl
 |[],_::_,h=>by simp[aG]at h
 |_::_,[],h=>by simp[aG]at h
theorem sF (b:Int):∀(l m:List TEntry) (out:List TPosting),cO b out (l++m)=cO b (cO b out l) m
 |[],m,out=>rfl
 |e::l,m,out=>by rw[List.cons_append,cO,cO,sF b l m]
theorem kG:∀(es:List TEntry) (b:Int) (A out:List TPosting),cO b (A++out) es=A++cO (b+(A.length:Int)) out es
 |[],b,A,out=>rfl
 |e::es,b,A,out=>by
  rw[cO,cO]
  split
  ·rw[List.append_assoc,kG es,show b+((A++out).length:Int)+1=b+(A.length:Int)+(out.length:Int)+1 from by simp;omega]
  ·exact kG es b A out
theorem yu:∀(ps L:List TPosting),bY L=0→(jS L ps).2=0→(jS L ps).1=L++ps∧bY (L++ps)=0
 |[],L,hL,_=>by rw[List.append_nil];exact⟨rfl,hL⟩
 |p::ps,L,hL,h=>by
  rw[jS]at h⊢
  split at h
  ·rename_i hp
   rw[if_pos hp]
   obtain⟨_,_,_,_,_,o1,o2⟩:=vM hp
   rw[o1]at h⊢
   have:=yu ps (L++[p]) o2 h
   rwa[List.append_assoc]at this
  ·rename_i hp
   exact absurd h hp
theorem FZ {d:TDesk} {e:TEntry} (h:DOk d) (hp:(bF d.Account e).2=0) (hr:e.Ref=0):DOk ⟨(bF d.Account e).1,d.Queue,d.Items⟩:=by
 have p1:=gr hp
 have p2:=uE hp
 have p3:=gT hp
 refine DOk.mk' p1 h.q h.k fun z hz=>?_
 have io:=h.io hz
 have hw:=io.pay.warrant.1
 refine⟨io.pay,⟨p1,by rw[p2];exact io.sub.2⟩,io.st,io.att,io.a5,io.a0,io.w,io.bat,fun y hy er=>?_,?_,?_⟩
 ·rw[p3]at hy
  rcases List.mem_append.1 hy with hy|hy
  ·exact io.all y hy er
  ·rw[List.mem_singleton]at hy
   subst hy
   omega
 ·have:eT z.Payment e=false:=by
   unfold eT
   rw[decide_eq_false (by omega),Bool.false_and]
  rw[p3,List.countP_append]
  simp only[List.countP_cons,List.countP_nil,this]
  simpa using io.outs
 ·have:inE z.Payment e=false:=by
   unfold inE
   rw[decide_eq_false (by omega),Bool.false_and]
  rw[p3,List.countP_append]
  simp only[List.countP_cons,List.countP_nil,this]
  simpa using io.ins
structure CleanS (s:TState):Prop where
 d:DOk s.Desk
 cp:bY s.Ledger.Postings=0
 fi:aG pH s.Cash.Incomes (s.Desk.Account.Entries.filter iU)=true
 fm:aG rM (s.Register.Moves.filter fun m=>!mz m) (s.Desk.Account.Entries.filter eZ)=true
 fp:s.Ledger.Postings=cO 0 [] s.Desk.Account.Entries
theorem CleanS.aud {j:Nat} {s:TState} (h:CleanS s) (hf:FitS j s):AudOk s:=⟨hf.d,hf.c,hf.cl,hf.r,hf.l,h.d.a,dK.2 h.d,h.cp,h.fi,h.fm,h.fp⟩
structure MidS (s t:TState):Prop where
 d:DOk t.Desk
 l:t.Ledger=s.Ledger
 fi:aG pH t.Cash.Incomes (t.Desk.Account.Entries.filter iU)=true
 fm:aG rM (t.Register.Moves.filter fun m=>!mz m) (t.Desk.Account.Entries.filter eZ)=true
 e:∃es,t.Desk.Account.Entries=s.Desk.Account.Entries++es
theorem mX {s:TState} (h:CleanS s) {d:TDesk} {e:Int} (he:(fC s d e).2=0) (hd:e=0→DOk d∧∃es,d.Account.Entries=s.Desk.Account.Entries++es∧∀x,x∈es→x.Ref≠0):MidS s (fC s d e).1:=by
 unfold fC at he⊢
 split at he
 rotate_left
 ·rename_i hn
  exact absurd he hn
 rename_i e0
 rw[if_pos e0]
 obtain⟨h1,es,h2,h3⟩:=hd e0
 have f1:es.filter iU=[]:=List.filter_eq_nil_iff.2 fun x hx=>by simp[iU,h3 x hx]
 have f2:es.filter eZ=[]:=List.filter_eq_nil_iff.2 fun x hx=>by simp[eZ,h3 x hx]
 refine⟨h1,rfl,?_,?_,es,h2⟩
 ·show aG pH s.Cash.Incomes (d.Account.Entries.filter iU)=true
  rw[h2,List.filter_append,f1,List.append_nil]
  exact h.fi
 ·show aG rM _ (d.Account.Entries.filter eZ)=true
  rw[h2,List.filter_append,f2,List.append_nil]
  exact h.fm
theorem wX {s:TState} {c:TCash} {r:TRegister} {day f t n:Int} (h:CleanS s) (he:(fT ⟨s.Desk,c,r,s.Ledger⟩ day f t n).2=0)
  (fi:aG pH c.Incomes ((s.Desk.Account.Entries++[bT s.Desk.Account day f t n 0]).filter iU)=true) (fm:aG rM (r.Moves.filter fun m=>!mz m) ((s.Desk.Account.Entries++[bT s.Desk.Account day f t n 0]).filter eZ)=true):
  MidS s (fT ⟨s.Desk,c,r,s.Ledger⟩ day f t n).1:=by
 unfold fT at he⊢
 split at he
 rotate_left
 ·rename_i hn
  exact absurd he hn
 rename_i hp
 rw[if_pos hp]
 have p3:=gT hp
 refine⟨FZ h.d hp rfl,rfl,?_,?_,_,p3⟩
 ·show aG pH c.Incomes ((bF s.Desk.Account _).1.Entries.filter iU)=true
  rw[p3]
  exact fi
 ·show aG rM _ ((bF s.Desk.Account _).1.Entries.filter eZ)=true
  rw[p3]
  exact fm
theorem Iv {s:TState} {d:TDeed} (h:CleanS s) (he:(fZ s d).2=0):MidS s (fZ s d).1:=by
 unfold fZ at he⊢
 split at he
 ·simp at he
 rename_i h1
 rw[if_neg h1]
 split at he
 rotate_left
 ·rename_i hn
  exact absurd he hn
 rename_i h2
 rw[if_pos h2]
 refine wX h he ?_ ?_
 ·rw[List.filter_append]
  have:[bT s.Desk.Account d.Day 0 d.Sub d.Amount 0].filter iU=[bT s.Desk.Account d.Day 0 d.Sub d.Amount 0]:=by simp[iU,bT,h1]
  rw[this]
  exact o7 (by simp[pH,At,bT]) h.fi
 ·rw[List.filter_append]
  have:[bT s.Desk.Account d.Day 0 d.Sub d.Amount 0].filter eZ=[]:=by simp[eZ,bT,h1]
  rw[this,List.append_nil]
  exact h.fm
theorem Bd {s:TState} {day kind ref f0 t0 n e f t:Int} (h:CleanS s) (he:(jQ s (fd s.Register day kind ref f0 t0 n) e f t n).2=0) (hk:(kind=1∧f=0∧t=1)∨(kind=3∧f=1∧t=0)):MidS s (jQ s (fd s.Register day kind ref f0 t0 n) e f t n).1:=by
 unfold jQ at he⊢
 split at he
 rotate_left
 ·rename_i hn
  exact absurd he hn
 rename_i h2
 rw[if_pos h2]
 refine wX h he ?_ ?_
 ·rw[List.filter_append]
  have:[bT s.Desk.Account (fd s.Register day kind ref f0 t0 n).Day f t n 0].filter iU=[]:=by
   rcases hk with⟨_,rfl,rfl⟩|⟨_,rfl,rfl⟩<;>simp[iU,bT]
  rw[this,List.append_nil]
  exact h.fi
 ·rw[List.filter_append]
  have e1:[bT s.Desk.Account (fd s.Register day kind ref f0 t0 n).Day f t n 0].filter eZ=[bT s.Desk.Account (fd s.Register day kind ref f0 t0 n).Day f t n 0]:=by
   rcases hk with⟨_,rfl,rfl⟩|⟨_,rfl,rfl⟩<;>simp[eZ,bT]
  have e2:(jq s.Register (fd s.Register day kind ref f0 t0 n)).Moves.filter (fun m=>!mz m)=s.Register.Moves.filter (fun m=>!mz m)++[fd s.Register day kind ref f0 t0 n]:=by
   show (s.Register.Moves++[_]).filter _=_
   rw[List.filter_append]
   rcases hk with⟨rfl,_,_⟩|⟨rfl,_,_⟩<;>simp[mz,fd]
  rw[e1,e2]
  refine o7 ?_ h.fm
  rcases hk with⟨rfl,rfl,rfl⟩|⟨rfl,rfl,rfl⟩<;>simp[rM,fd,bT]
theorem LL {s:TState} {d:TDeed} (h:CleanS s) (he:(doK s d).2=0):MidS s (doK s d).1:=by
 unfold doK at he⊢
 by_cases c1:d.Kind=1
 ·rw[if_pos c1]at he⊢
  exact Iv h he
 rw[if_neg c1]at he⊢
 by_cases c2:d.Kind=2
 ·rw[if_pos c2]at he⊢
  refine mX h he fun e0=>?_
  obtain⟨_,_,_,hx,hd⟩:=xX (show dq s.Desk (tP d)=((dq s.Desk (tP d)).1,0)from Prod.ext rfl e0)
  refine⟨hd,[],?_,by simp⟩
  rw[hx,List.append_nil]
 rw[if_neg c2]at he⊢
 by_cases c3:d.Kind=3
 ·rw[if_pos c3]at he⊢
  refine mX h he fun e0=>?_
  obtain⟨_,_,_,_,ps,a,hsub,_,_,_,_,hs,_,hx,hd⟩:=Cl (show dD s.Desk d.Day=((dD s.Desk d.Day).1,(dD s.Desk d.Day).2.1,0)from Prod.ext rfl (Prod.ext rfl e0))
  obtain⟨es,h2,h3,_⟩:=hs.ents
  refine⟨hd,es,?_,fun x hx=>?_⟩
  ·rw[hx]
   exact h2
  ·have:CF x∈ps.map tQ:=by rw[←h3];exact List.mem_map.2 ⟨x,hx,rfl⟩
   obtain⟨p,hp,hk⟩:=List.mem_map.1 this
   have hr:=hsub.subset hp
   unfold fU at hr
   split at hr
   ·have hw:=(List.mem_filter.1 hr).1
    have:=(h.d.q.asc.pay p hw).warrant.1
    have e1:p.Warrant=x.Ref:=congrArg Prod.fst hk
    omega
   ·cases hr
 rw[if_neg c3]at he⊢
 by_cases c4:d.Kind=4
 ·rw[if_pos c4]at he⊢
  refine mX h he fun e0=>?_
  obtain⟨_,⟨k,y,_,_,_,hx⟩,hd⟩:=uy (show ez s.Desk d.Ref=((ez s.Desk d.Ref).1,0)from Prod.ext rfl e0)
  refine⟨hd,[],?_,by simp⟩
  rw[hx,List.append_nil]
 rw[if_neg c4]at he⊢
 by_cases c5:d.Kind=5
 ·rw[if_pos c5]at he⊢
  refine mX h he fun e0=>?_
  obtain⟨hd0,⟨k,y,hy,hw,_,hp,hx⟩,hd⟩:=uD (show eu s.Desk d.Ref d.Day=((eu s.Desk d.Ref d.Day).1,0)from Prod.ext rfl e0)
  refine⟨hd,[bT s.Desk.Account d.Day 0 y.Payment.Sub y.Payment.Amount d.Ref],?_,fun x hm=>?_⟩
  ·rw[hx]
   exact gT hp
  ·rw[List.mem_singleton]at hm
   rw[hm]
   show d.Ref≠0
   have:=(hd0.io (List.mem_of_getElem? hy)).pay.warrant.1
   omega
 rw[if_neg c5]at he⊢
 by_cases c6:d.Kind=6
 ·rw[if_pos c6]at he⊢
  refine mX h he fun e0=>?_
  obtain⟨_,⟨k,y,_,_,_,hx⟩,hd⟩:=vI (show eD s.Desk d.Ref=((eD s.Desk d.Ref).1,0)from Prod.ext rfl e0)
  refine⟨hd,[],?_,by simp⟩
  rw[hx,List.append_nil]
 rw[if_neg c6]at he⊢
 by_cases c7:d.Kind=7
 ·rw[if_pos c7]at he⊢
  exact Bd h he (.inl ⟨rfl,rfl,rfl⟩)
 rw[if_neg c7]at he⊢
 by_cases c8:d.Kind=8
 ·rw[if_pos c8]at he⊢
  exact Bd h he (.inr ⟨rfl,rfl,rfl⟩)
 rw[if_neg c8]at he⊢
 by_cases c9:d.Kind=9
 ·rw[if_pos c9]at he⊢
  split at he
  ·simp at he
  rename_i c0
  rw[if_neg c0]
  refine wX (c:=s.Cash) (r:=s.Register) h he ?_ ?_
  ·rw[List.filter_append]
   have:[bT s.Desk.Account d.Day d.Sub d.Who d.Amount 0].filter iU=[]:=by
    have:¬d.Sub=0:=fun e=>c0 (.inl e)
    simp[iU,bT,this]
   rw[this,List.append_nil]
   exact h.fi
  ·rw[List.filter_append]
   have:[bT s.Desk.Account d.Day d.Sub d.Who d.Amount 0].filter eZ=[]:=by
    have a1:¬d.Sub=0:=fun e=>c0 (.inl e)
    have a2:¬d.Who=0:=fun e=>c0 (.inr e)
    simp[eZ,bT,a1,a2]
   rw[this,List.append_nil]
   exact h.fm
 ·rw[if_neg c9]at he
  simp at he
theorem Gm {s:TState} {d:TDeed} (h:CleanS s) (he:(doS s d).2=0):CleanS (doS s d).1:=by
 unfold doS at he⊢
 split at he
 rotate_left
 ·rename_i hn
  exact absurd he hn
 rename_i h1
 rw[if_pos h1]
 split at he
 rotate_left
 ·rename_i hn
  exact absurd he hn
 rename_i h2
 rw[if_pos h2]
 have m:=LL h h1
 obtain⟨es,hes⟩:=m.e
 have e1:(doK s d).1.Desk.Account.Entries.drop s.Desk.Account.Entries.length=es:=by rw[hes,List.drop_left]
 unfold oO at h2⊢
 rw[e1,m.l]at h2
 rw[e1,m.l]
 obtain⟨b1,b2⟩:=yu _ _ h.cp h2
 refine⟨m.d,?_,m.fi,m.fm,?_⟩
 ·show bY (jS _ _).1=0
  rw[b1]
  exact b2
 ·show (jS _ _).1=cO 0 [] (doK s d).1.Desk.Account.Entries
  rw[b1,hes,sF,←h.fp]
  have:=kG es 0 s.Ledger.Postings []
  rw[List.append_nil,Int.zero_add]at this
  exact this.symm
open Go.PA
open Go.RowKit
theorem MP (n:Int):PFun Tryz.prog none none 161 [iv n] (·=bv (dF n 0 36000)):=by
 refine ab Tryz.func161 rfl (by simp[Tryz.f161]) (by kernel_rfl) ?_
 intro E hP hr hs hW hN
 by_cases h1:0≤n<;>by_cases h2:n≤36000<;>simp -dsimp -implicitDefEqProofs [-getElem?_pos,go_sem,hP,h1,h2,dF]
theorem yH (n:Int):PFun Tryz.prog none none 48 [iv n] (·=iv (gH n)):=by
 refine ab Tryz.func48 rfl (by simp[Tryz.f48]) (by kernel_rfl) ?_
 intro E hP hr hs hW hN
 by_cases h1:n<100
 ·have h2:gH n=0:=if_neg (by omega)
  simp -dsimp -implicitDefEqProofs [-getElem?_pos,go_sem,hP,h1,h2]
 by_cases h3:599<n
 ·have h2:gH n=0:=if_neg (by omega)
  simp -dsimp -implicitDefEqProofs [-getElem?_pos,go_sem,hP,h1,h3,h2]
 ·have h:100≤n∧n≤599:=by omega
  have h2:gH n=n / 100:=if_pos h
  simp -dsimp -implicitDefEqProofs [-getElem?_pos,go_sem,hP,h1,h3,FM h,h2]
theorem sS (n:Int):decide (gH n=0)=!dF n 100 599:=by
 have h:=oX n
 have h2:=AU n
 cases hb:dF n 100 599<;>simp only[hb,decide_eq_false_iff_not,decide_eq_true_eq,Bool.not_false,Bool.not_true]at h⊢<;>omega
theorem Be (n lo hi:Int):dF n lo hi=(decide (lo≤n)&&decide (n≤hi)):=rfl
set_option maxHeartbeats 4000000 in
theorem sL (p:TPosting):PFun Tryz.prog none none 99 [.agg p.cells] (·=bv (iQ p)):=by
 refine ab Tryz.func99 rfl (by simp[Tryz.f99]) (by kernel_rfl) ?_
 intro E hP hr hs hW hN
 have i2:=MP p.Day
 have i4:=sS p.Debit
 have i5:=sS p.Credit
 have pb:iQ p=(dF p.Number 1 1000000&&dF p.Day 0 36000&&dF p.Entity 1 10&&dF p.Debit 100 599&&dF p.Credit 100 599&&!decide (p.Debit=p.Credit)&&dF p.Amount 1 1000000000000&&dF p.Partner 0 10&&!decide (p.Partner=p.Entity)&&dF p.Ref 0 1000000):=rfl
 generalize dF p.Day 0 36000=b2 at i2 pb
 generalize dF p.Debit 100 599=b4 at i4 pb
 generalize dF p.Credit 100 599=b5 at i5 pb
 rw[Be p.Number,Be p.Entity,Be p.Amount,Be p.Partner,Be p.Ref]at pb
 rw[pb]
 by_cases a1:1≤p.Number
 rotate_left
 ·simp -dsimp -implicitDefEqProofs [-getElem?_pos,go_sem,hP,cP,a1,decide_false,Bool.false_and]
 by_cases a2:p.Number≤1000000
 rotate_left
 ·simp -dsimp -implicitDefEqProofs [-getElem?_pos,go_sem,hP,cP,a1,a2,decide_false,Bool.false_and,Bool.and_false]
 simp -dsimp -implicitDefEqProofs [-getElem?_pos,go_sem,hP,cP,a1,a2]
 refine ah i2 hP NY (ai (by simp -dsimp[-getElem?_pos,go_sem])) .sc ?_
 cases b2
 ·simp -dsimp -implicitDefEqProofs [-getElem?_pos,go_sem,hP,Bool.false_and,Bool.true_and]
 by_cases a3:1≤p.Entity
 rotate_left
 ·simp -dsimp -implicitDefEqProofs [-getElem?_pos,go_sem,hP,a3,Bool.false_and,Bool.and_false]
 by_cases a4:p.Entity≤10
 rotate_left
 ·simp -dsimp -implicitDefEqProofs [-getElem?_pos,go_sem,hP,a3,a4,Bool.false_and,Bool.and_false]
 by_cases h6:p.Debit=p.Credit
 ·simp -dsimp -implicitDefEqProofs [-getElem?_pos,go_sem,hP,a3,a4,h6,Bool.false_and,Bool.and_false]
 have d6:decide (p.Debit=p.Credit)=false:=decide_eq_false h6
 simp -dsimp -implicitDefEqProofs [-getElem?_pos,go_sem,hP,a3,a4,d6]
 refine ah (yH p.Debit) hP Nr (ai (by simp -dsimp[-getElem?_pos,go_sem])) .sc ?_
 cases b4
 ·simp -dsimp -implicitDefEqProofs [-getElem?_pos,go_sem,hP,i4,Bool.false_and,Bool.and_false]
 simp -dsimp -implicitDefEqProofs [-getElem?_pos,go_sem,hP,i4]
 refine ah (yH p.Credit) hP Nr (ai (by simp -dsimp[-getElem?_pos,go_sem])) .sc ?_
 cases b5
 ·simp -dsimp -implicitDefEqProofs [-getElem?_pos,go_sem,hP,i5,Bool.false_and,Bool.and_false]
 by_cases a7:1≤p.Amount
 rotate_left
 ·simp -dsimp -implicitDefEqProofs [-getElem?_pos,go_sem,hP,i5,a7,Bool.false_and,Bool.and_false]
 by_cases a8:p.Amount≤1000000000000
 rotate_left
 ·simp -dsimp -implicitDefEqProofs [-getElem?_pos,go_sem,hP,i5,a7,a8,Bool.false_and,Bool.and_false]
 by_cases a9:0≤p.Partner
 rotate_left
 ·simp -dsimp -implicitDefEqProofs [-getElem?_pos,go_sem,hP,i5,a7,a8,a9,Bool.false_and,Bool.and_false]
 by_cases b9:p.Partner≤10
 rotate_left
 ·simp -dsimp -implicitDefEqProofs [-getElem?_pos,go_sem,hP,i5,a7,a8,a9,b9,Bool.false_and,Bool.and_false]
 by_cases h9:p.Partner=p.Entity
 ·have b9':p.Entity≤10:=a4
  rw[h9]at a9 b9
  simp -dsimp -implicitDefEqProofs [-getElem?_pos,go_sem,hP,i5,a7,a8,a9,b9,h9,Bool.false_and,Bool.and_false]
 have d9:decide (p.Partner=p.Entity)=false:=decide_eq_false h9
 by_cases a10:0≤p.Ref<;>by_cases b10:p.Ref≤1000000<;>simp -dsimp -implicitDefEqProofs [-getElem?_pos,go_sem,hP,i5,a1,a2,a3,a4,a7,a8,a9,b9,d9,a10,b10,d6]
set_option maxHeartbeats 2000000 in
theorem GS (l:TLedger) (hl:l.Postings.length≤100000):PFun Tryz.prog none none 47 [.agg l.cells] (·=iv (bY l.Postings)):=by
 refine ab Tryz.func47 rfl (by simp[Tryz.f47]) (by kernel_rfl) ?_
 intro E hP hr hs hW hN
 obtain⟨l⟩:=l
 simp only at hl
 simp -dsimp -implicitDefEqProofs [-getElem?_pos,go_sem,hP,cL]
 refine aB (fun h=>?_) (fun h=>?_)
 ·have h':400<l.length:=by simp at h;omega
  have:bY l=3:=if_pos h'
  simp -dsimp -implicitDefEqProofs [-getElem?_pos,go_sem,hP,this]
 have h0:¬400<l.length:=by simp at h;omega
 simp -dsimp -implicitDefEqProofs [-getElem?_pos,go_sem,hP]
 obtain⟨J,hJ⟩:∃I:Nat→St→Prop,I=fun m s=>∃k:Nat,k≤l.length∧m=l.length-k∧(∀p,p∈l.take k→iQ p=true)∧s.t 1= .ref 0 0 0∧s.t 12=ce l∧s.t 13=iv l.length∧s.t 14=iv k∧s.H[0]?=some (some ⟨48,1,[[ce l]]⟩):=⟨_,rfl⟩
 refine ay J (l.length) (by rw[hN];rfl) ?_ ?_
 ·rw[hJ]
  exact⟨0,by omega,by omega,by simp,by simp -dsimp[-getElem?_pos,go_sem],by simp -dsimp[-getElem?_pos,go_sem],by simp -dsimp[-getElem?_pos,go_sem],by simp -dsimp[-getElem?_pos,go_sem],by simp -dsimp[-getElem?_pos,go_sem]⟩
 intro m s hs'
 rw[hJ]at hs'
 obtain⟨k,hk,hm,hv,t1,t12,t13,t14,hH⟩:=hs'
 have hlt:=(gsI hH)
 simp -dsimp -implicitDefEqProofs [-getElem?_pos,go_sem,hP,t13,t14]
 refine aB (fun h=>?_) (fun h=>?_)
 ·have hk:k<l.length:=by simpa using h
  obtain⟨p,hp⟩:∃p,l[k]?=some p:=⟨_,List.getElem?_eq_getElem hk⟩
  have wk:=af ((k:Int)+1) (by omega)
  have po:=sL p
  rw[cP]at po
  have g0:∀x:Option AObj,(s.H++[x])[0]?=some (some ⟨48,1,[[ce l]]⟩):=fun x=>by rw[List.getElem?_append_left hlt];exact hH
  simp -dsimp -implicitDefEqProofs [-getElem?_pos,go_sem,hP,t14,t12,hp,cP]
  refine ah po hP Ni (ai (by simp -dsimp[-getElem?_pos,go_sem])) .sc ?_
  cases hb:iQ p
  ·have:bY l=85:=by rw[bY,if_neg h0,if_pos (List.any_eq_true.2 ⟨p,List.mem_of_getElem? hp,by simp[hb]⟩)]
   simp -dsimp -implicitDefEqProofs [-getElem?_pos,go_sem,hP,this]
  ·simp -dsimp -implicitDefEqProofs [-getElem?_pos,go_sem,hP,t14,wk]
   refine⟨l.length-(k+1),by omega,?_⟩
   rw[hJ]
   refine⟨k+1,by omega,rfl,fun q hq=>?_,by simp -dsimp[-getElem?_pos,go_sem,t1],by simp -dsimp[-getElem?_pos,go_sem,t12],by simp -dsimp[-getElem?_pos,go_sem,t13],by simp -dsimp[-getElem?_pos,go_sem],by simp -dsimp[-getElem?_pos,go_sem,g0]⟩
   rw[List.take_add_one,hp]at hq
   rcases List.mem_append.1 hq with hq|hq
   ·exact hv q hq
   ·simp at hq;rw[hq];exact hb
 have hk:k=l.length:=by simp at h;omega
 subst hk
 rw[List.take_length]at hv
 have hvo:∀p,p∈l→PostOk p:=fun p hp=>(g8 p).1 (hv p hp)
 have tc:bY l=if dT 0 0 l=true then 0 else 86:=by
  rw[bY,if_neg h0,if_neg]
  intro h
  obtain⟨p,hp,hb⟩:=List.any_eq_true.1 h
  simp[hv p hp]at hb
 simp -dsimp -implicitDefEqProofs [-getElem?_pos,go_sem,hP,t1,hH]
 obtain⟨I,hI⟩:∃I:Nat→St→Prop,I=fun m s=>∃(k:Nat) (d:Int),k≤l.length∧m=l.length-k∧dT 0 0 l=dT k d (l.drop k)∧(k=0→d=0)∧(∀j x,k=j+1→l[j]?=some x→d=x.Day)∧s.t 1= .ref 0 0 0∧s.t 23=ce l∧s.t 24=iv l.length∧s.t 25=iv k∧s.H[0]?=some (some ⟨48,1,[[ce l]]⟩):=⟨_,rfl⟩
 refine ay I (l.length) (by rw[hN];rfl) ?_ ?_
 ·rw[hI]
  exact⟨0,0,by omega,by omega,by simp,by simp,by omega,by simp -dsimp[-getElem?_pos,go_sem,t1],by simp -dsimp[-getElem?_pos,go_sem],by simp -dsimp[-getElem?_pos,go_sem],by simp -dsimp[-getElem?_pos,go_sem],by simp -dsimp[-getElem?_pos,go_sem,hH]⟩
 clear hH hlt t1 t12 t13 t14
 intro m s hs'
 rw[hI]at hs'
 obtain⟨k,d,hk,hm,hq,hd0,hd1,t1,t23,t24,t25,hH⟩:=hs'
 have hlt:=(gsI hH)
 simp -dsimp -implicitDefEqProofs [-getElem?_pos,go_sem,hP,t24,t25]
 refine aB (fun h=>?_) (fun h=>?_)
 ·have hk:k<l.length:=by simpa using h
  obtain⟨p,hp⟩:∃p,l[k]?=some p:=⟨_,List.getElem?_eq_getElem hk⟩
  have hpo:=hvo p (List.mem_of_getElem? hp)
  have wk:=af ((k:Int)+1) (by omega)
  have hdr:l.drop k=p::l.drop (k+1):=by
   rw[List.getElem?_eq_getElem hk]at hp
   rw[List.drop_eq_getElem_cons hk,Option.some.inj hp]
  rw[hdr,dT]at hq
  have g0:∀x:Option AObj,(s.H++[x])[0]?=some (some ⟨48,1,[[ce l]]⟩):=fun x=>by rw[List.getElem?_append_left hlt];exact hH
  simp -dsimp -implicitDefEqProofs [-getElem?_pos,go_sem,hP,t25,t23,hp,cP]
  refine ao (fun _=>true) [] hP (by kernel_rfl) (by kernel_rfl) ?_
  by_cases c1:p.Number=(k:Int)+1
  ·have d1:decide (p.Number=(k:Int)+1)=true:=decide_eq_true c1
   rcases Nat.eq_zero_or_pos k with k0|k0
   ·have hdd:d≤p.Day:=by rw[hd0 k0];exact hpo.day.1
    rw[d1,decide_eq_true hdd,Bool.true_and,Bool.true_and]at hq
    have k0':¬0<k:=by omega
    have hjk:decide ((0:Int)<(k:Int))=false:=decide_eq_false (by omega)
    simp -dsimp -implicitDefEqProofs [-getElem?_pos,go_sem,hP,wk,d1,t1,t25,k0',hjk]
    refine⟨l.length-(k+1),by omega,?_⟩
    rw[hI]
    exact⟨k+1,p.Day,by omega,rfl,hq,by omega,qM hp,by simp -dsimp[-getElem?_pos,go_sem,t1],by simp -dsimp[-getElem?_pos,go_sem,t23],by simp -dsimp[-getElem?_pos,go_sem,t24],by simp -dsimp[-getElem?_pos,go_sem],by simp -dsimp[-getElem?_pos,go_sem,g0]⟩
   ·obtain⟨j,hj⟩:∃j,k=j+1:=⟨k-1,by omega⟩
    obtain⟨x,hx⟩:∃x,l[j]?=some x:=⟨_,List.getElem?_eq_getElem (by omega)⟩
    have hdx:=hd1 j x hj hx
    have hjk:decide ((0:Int)<(k:Int))=true:=decide_eq_true (by omega)
    have wj:IntKind.i64.wrap ((k:Int)-1)=(j:Int):=by rw[af _ (by omega)];omega
    have s1:=g0 (some ⟨77,8,[[iv p.Number,iv p.Day,iv p.Entity,iv p.Debit,iv p.Credit,iv p.Amount,iv p.Partner,iv p.Ref]]⟩)
    rw[hdx,d1,Bool.true_and]at hq
    by_cases c2:x.Day≤p.Day
    ·have d2:decide (p.Day<x.Day)=false:=decide_eq_false (by omega)
     rw[decide_eq_true c2,Bool.true_and]at hq
     simp -dsimp -implicitDefEqProofs [-getElem?_pos,go_sem,hP,wk,d1,t1,t25,k0,hjk,wj,s1,hx,cP,d2]
     refine⟨l.length-(k+1),by omega,?_⟩
     rw[hI]
     exact⟨k+1,p.Day,by omega,rfl,hq,by omega,qM hp,by simp -dsimp[-getElem?_pos,go_sem,t1],by simp -dsimp[-getElem?_pos,go_sem,t23],by simp -dsimp[-getElem?_pos,go_sem,t24],by simp -dsimp[-getElem?_pos,go_sem],by simp -dsimp[-getElem?_pos,go_sem,g0]⟩
    ·have d2:decide (p.Day<x.Day)=true:=decide_eq_true (by omega)
     rw[decide_eq_false c2,Bool.false_and]at hq
     have:bY l=86:=by rw[tc,hq];rfl
     simp -dsimp -implicitDefEqProofs [-getElem?_pos,go_sem,hP,wk,d1,t1,t25,k0,hjk,wj,s1,hx,cP,d2,this]
  ·have d1:decide (p.Number=(k:Int)+1)=false:=decide_eq_false c1
   rw[d1,Bool.false_and]at hq
   have:bY l=86:=by rw[tc,hq];rfl
   simp -dsimp -implicitDefEqProofs [-getElem?_pos,go_sem,hP,wk,d1,this]
 ·have hk:k=l.length:=by simp at h;omega
  subst hk
  rw[List.drop_length,dT]at hq
  have:bY l=0:=by rw[tc,hq];rfl
  simp -dsimp -implicitDefEqProofs [-getElem?_pos,go_sem,hP,this]
set_option maxHeartbeats 1000000 in
theorem Lr (l:TLedger) (p:TPosting) (hl:l.Postings.length≤100000):PFun Tryz.prog none none 157 [.agg l.cells,.agg p.cells] (·= .tup [.agg (TLedger.mk (dM l.Postings p).1).cells,iv (dM l.Postings p).2]):=by
 refine ab Tryz.func157 rfl (by simp[Tryz.f157]) (by kernel_rfl) ?_
 intro E hP hr hs hW hN
 have ck:=GS l hl
 have po:=sL p
 obtain⟨l⟩:=l
 simp only at hl ck
 rw[cL]at ck
 rw[cP]at po
 have ip:=dG l
 have ipp:Imm (.agg [iv p.Number,iv p.Day,iv p.Entity,iv p.Debit,iv p.Credit,iv p.Amount,iv p.Partner,iv p.Ref]):=az.2 p.imm
 simp -dsimp -implicitDefEqProofs [-getElem?_pos,go_sem,hP,cL,cP]
 refine ae (ck.lift _ _) hP PS (by simp[ip,az]) .sc ?_
 by_cases c1:bY l=0
 rotate_left
 ·have:dM l p=([],bY l):=by rw[dM,if_neg c1]
  simp -dsimp -implicitDefEqProofs [-getElem?_pos,go_sem,hP,c1]
  refine jM ?_
  rw[this]
 obtain⟨k1,k2,k3⟩:=nS c1
 simp -dsimp -implicitDefEqProofs [-getElem?_pos,go_sem,hP,c1]
 refine ae (po.lift _ _) hP Ni (by simp[ipp]) .sc ?_
 cases c2:iQ p
 ·have:dM l p=([],85):=by rw[dM,if_pos c1,if_pos c2]
  simp -dsimp -implicitDefEqProofs [-getElem?_pos,go_sem,hP,c2]
  refine jM ?_
  rw[this]
 have c2':¬iQ p=false:=by simp[c2]
 by_cases c3:l.length=400
 ·have:dM l p=([],3):=by rw[dM,if_pos c1,if_neg c2',if_pos c3]
  simp -dsimp -implicitDefEqProofs [-getElem?_pos,go_sem,hP,c2,c3]
  refine jM ?_
  rw[this]
 have d3:decide ((l.length:Int)=400)=false:=by simp;omega
 have wk:=af ((l.length:Int)+1) (by omega)
 by_cases c4:p.Number=(l.length:Int)+1
 rotate_left
 ·have:dM l p=([],65):=by rw[dM,if_pos c1,if_neg c2',if_neg c3,if_pos c4]
  have d4:decide (p.Number=(l.length:Int)+1)=false:=decide_eq_false c4
  simp -dsimp -implicitDefEqProofs [-getElem?_pos,go_sem,hP,c2,d3,wk,d4]
  refine jM ?_
  rw[this]
 have d4:decide (p.Number=(l.length:Int)+1)=true:=decide_eq_true c4
 simp -dsimp -implicitDefEqProofs [-getElem?_pos,go_sem,hP,c2,d3,wk,d4]
 refine ao (fun _=>true) [] hP (by kernel_rfl) (by kernel_rfl) ?_
 have en:aj TPosting.cells l++[[iv p.Number,iv p.Day,iv p.Entity,iv p.Debit,iv p.Credit,iv p.Amount,iv p.Partner,iv p.Ref]]=aj TPosting.cells (l++[p]):=ba TPosting.cells l p
 by_cases h0:l.length=0
 ·have hln:l=[]:=List.eq_nil_of_length_eq_zero h0
  subst hln
  have pA:dM [] p=([]++[p],0):=by
   have:=(g8 p).1 c2
   rw[dM,if_pos c1,if_neg c2',if_neg c3,if_neg (by simp[c4]),if_neg (by rw[FS];have:=this.day;omega)]
  simp -dsimp -implicitDefEqProofs [-getElem?_pos,go_sem,hP]
  refine ao (fun id=>decide (id<2)) [7] hP (by kernel_rfl) (by kernel_rfl) ?_
  simp -dsimp -implicitDefEqProofs [-getElem?_pos,go_sem,hP,ax]
  refine⟨iA,iA,?_⟩
  refine aP (cs':=[ce ([]++[p])]) (da (ty:=77) rfl rfl (dG [p]) .nil) ?_
  rw[pA]
  rfl
 ·obtain⟨k,hk⟩:∃k,l.length=k+1:=⟨l.length-1,by omega⟩
  obtain⟨x,hx⟩:∃x,l[k]?=some x:=⟨_,List.getElem?_eq_getElem (by omega)⟩
  have hld:=HE hk hx
  have d0:decide ((0:Int)<(l.length:Int))=true:=decide_eq_true (by omega)
  have d0':0<l.length:=by omega
  have wj:IntKind.i64.wrap ((l.length:Int)-1)=(k:Int):=by rw[af _ (by omega)];omega
  by_cases c5:p.Day<x.Day
  ·have:dM l p=([],8):=by rw[dM,if_pos c1,if_neg c2',if_neg c3,if_neg (by simp[c4]),hld,if_pos c5]
   have d5:decide (p.Day<x.Day)=true:=decide_eq_true c5
   simp -dsimp -implicitDefEqProofs [-getElem?_pos,go_sem,hP,d0,d0',wj,hx,cP,d5]
   refine jM ?_
   rw[this]
  have pA:dM l p=(l++[p],0):=by rw[dM,if_pos c1,if_neg c2',if_neg c3,if_neg (by simp[c4]),hld,if_neg c5]
  have d5:decide (p.Day<x.Day)=false:=decide_eq_false c5
  simp -dsimp -implicitDefEqProofs [-getElem?_pos,go_sem,hP,d0,d0',wj,hx,cP,d5]
  refine ao (fun id=>decide (id<2)) [7] hP (by kernel_rfl) (by kernel_rfl) ?_
  simp -dsimp -implicitDefEqProofs [-getElem?_pos,go_sem,hP,ax]
  refine⟨by omega,by omega,iA,by omega,by omega,iA,?_⟩
  refine aP (cs':=[ce (l++[p])]) (da (ty:=77) (by rw[←en];rfl) (by simp[aj]) (dG _) .nil) ?_
  rw[pA]
  rfl
open Go.PA
open Go.RowKit
theorem GD (e:TEntry):PFun Tryz.prog none none 227 [.agg e.cells] (·=bv (eZ e)):=by
 refine ab Tryz.func227 rfl (by simp[Tryz.f227]) (by kernel_rfl) ?_
 intro E hP hr hs hW hN
 unfold eZ
 by_cases h1:e.Ref=0
 ·have d1:decide (e.Ref=0)=true:=decide_eq_true h1
  by_cases h4:e.From=0
  ·have d4:decide (e.From=0)=true:=decide_eq_true h4
   have d2:decide (e.From=1)=false:=decide_eq_false (by omega)
   by_cases h5:e.To=1
   ·have d5:decide (e.To=1)=true:=decide_eq_true h5
    simp -dsimp -implicitDefEqProofs [-getElem?_pos,go_sem,hP,cE,d1,d4,d5,d2]
   ·have d5:decide (e.To=1)=false:=decide_eq_false h5
    simp -dsimp -implicitDefEqProofs [-getElem?_pos,go_sem,hP,cE,d1,d4,d5,d2]
  ·have d4:decide (e.From=0)=false:=decide_eq_false h4
   by_cases h2:e.From=1
   ·have d2:decide (e.From=1)=true:=decide_eq_true h2
    simp -dsimp -implicitDefEqProofs [-getElem?_pos,go_sem,hP,cE,d1,d4,d2]
   ·have d2:decide (e.From=1)=false:=decide_eq_false h2
    simp -dsimp -implicitDefEqProofs [-getElem?_pos,go_sem,hP,cE,d1,d4,d2]
 ·have d1:decide (e.Ref=0)=false:=decide_eq_false h1
  simp -dsimp -implicitDefEqProofs [-getElem?_pos,go_sem,hP,cE,d1]
theorem Iu {e:TEntry} (h:eZ e=true):(e.From=1∧e.To=0)∨(e.From=0∧e.To=1):=by
 unfold eZ at h
 simp only[Bool.and_eq_true,Bool.or_eq_true,decide_eq_true_eq]at h
 exact h.2
theorem Di (e:TEntry) (n:Int):PFun Tryz.prog none none 158 [.agg e.cells,iv n] (·= .agg (kj e n).cells):=by
 refine ab Tryz.func158 rfl (by simp[Tryz.f158]) (by kernel_rfl) ?_
 intro E hP hr hs hW hN
 have cs:=GD e
 have ie:=eC e
 have sec2:=@Iu e
 have hc:(kj e n).cells=[iv n,iv e.Day,iv 1,iv (if eZ e=true∧e.From≠0 then 230 else if e.To=0 then 510 else 110),iv (if eZ e=true∧e.From=0 then 230 else if e.To=0 then 110 else 410),iv e.Amount,iv 0,iv e.Ref]:=rfl
 rw[hc]
 rw[cE]at cs ie
 by_cases h3:e.To=0
 ·have d3:decide (e.To=0)=true:=decide_eq_true h3
  simp -dsimp -implicitDefEqProofs [-getElem?_pos,go_sem,hP,cE,d3]
  refine ae (cs.lift _ _) hP Jv (by simpa using ie) .sc ?_
  cases h1:eZ e
  ·simp -dsimp -implicitDefEqProofs [-getElem?_pos,go_sem,hP]
   exact done (by simp -dsimp[-getElem?_pos,go_sem]) rfl (by simp -dsimp[-getElem?_pos,go_sem,h3])
  ·have h4:¬e.From=0:=by have:=sec2 h1;omega
   simp -dsimp -implicitDefEqProofs [-getElem?_pos,go_sem,hP,d3]
   exact done (by simp -dsimp[-getElem?_pos,go_sem]) rfl (by simp -dsimp[-getElem?_pos,go_sem,h3,h4])
 ·have d3:decide (e.To=0)=false:=decide_eq_false h3
  simp -dsimp -implicitDefEqProofs [-getElem?_pos,go_sem,hP,cE,d3]
  refine ae (cs.lift _ _) hP Jv (by simpa using ie) .sc ?_
  cases h1:eZ e
  ·simp -dsimp -implicitDefEqProofs [-getElem?_pos,go_sem,hP]
   exact done (by simp -dsimp[-getElem?_pos,go_sem]) rfl (by simp -dsimp[-getElem?_pos,go_sem,h3])
  ·have h4:e.From=0:=by have:=sec2 h1;omega
   simp -dsimp -implicitDefEqProofs [-getElem?_pos,go_sem,hP,d3]
   exact done (by simp -dsimp[-getElem?_pos,go_sem]) rfl (by simp -dsimp[-getElem?_pos,go_sem,h3,h4])
def jr:List TPosting→List TEntry→List TPosting×Int
 |L,[]=>(L,0)
 |L,e::l=>if nD e=true then (if (dM L (kj e ((L.length:Int)+1))).2=0 then jr (dM L (kj e ((L.length:Int)+1))).1 l else (L,(dM L (kj e ((L.length:Int)+1))).2))else jr L l
theorem uA:∀(es:List TEntry) (L:List TPosting),jr L es=jS L (cO (L.length:Int) [] es)
 |[],L=>rfl
 |e::es,L=>by
  rw[jr,cO]
  cases ho:nD e
  ·rw[if_neg (by simp),if_neg (by simp),uA es L]
  ·rw[if_pos rfl,if_pos rfl]
   have e1:=kG es (L.length:Int) [kj e ((L.length:Int)+(([]:List TPosting).length:Int)+1)] []
   simp only[List.length_nil,Int.natCast_zero,Int.add_zero,List.length_singleton,List.append_nil]at e1
   simp only[List.length_nil,Int.natCast_zero,Int.add_zero,List.nil_append]
   rw[e1,List.singleton_append,jS]
   by_cases h:(dM L (kj e ((L.length:Int)+1))).2=0
   ·rw[if_pos h,if_pos h,uA es]
    have o:=(vM h).2.2.2.2.2.1
    rw[o]
    simp
   ·rw[if_neg h,if_neg h]
def zS (r:TState×Int):TState×Int:=if r.2=0 then (r.1,0)else (dw,r.2)
theorem Qj {x:TState}:zS (x,0)=(x,0):=rfl
theorem zW {x:TState} {e:Int} (h:e≠0):zS (x,e)=(dw,e):=by rw[zS,if_neg h]
set_option maxHeartbeats 2000000 in
theorem DU (s:TState) (hd:FitD s.Desk) (hl:s.Ledger.Postings.length≤400) {n:Nat} (hn:n≤s.Desk.Account.Entries.length):
  PFun Tryz.prog none none 94 [.agg s.cells,iv n] (·= .tup [.agg (zS (oO s n)).1.cells,iv (zS (oO s n)).2]):=by
 have he:=hd.e
 obtain⟨es,hes⟩:∃es,es=s.Desk.Account.Entries.drop n:=⟨_,rfl⟩
 have le:es.length≤100000:=by rw[hes,List.length_drop];omega
 have eB:oO s n=(⟨s.Desk,s.Cash,s.Register,⟨(jr s.Ledger.Postings es).1⟩⟩,(jr s.Ledger.Postings es).2):=by rw[hes,uA];rfl
 obtain⟨Q,hQ⟩:∃Q:AV→Prop,Q=(·= .tup [.agg (zS (oO s n)).1.cells,iv (zS (oO s n)).2]):=⟨_,rfl⟩
 rw[←hQ]
 have qo:∀L,jr s.Ledger.Postings es=(L,0)→Q (.tup [.agg (⟨s.Desk,s.Cash,s.Register,⟨L⟩⟩:TState).cells,iv 0]):=fun L h=>by rw[hQ,eB,h];rfl
 have qe:∀L e,jr s.Ledger.Postings es=(L,e)→e≠0→Q (.tup [.agg dw.cells,iv e]):=fun L e h h0=>by rw[hQ,eB,h,zW h0]
 clear hQ eB
 obtain⟨S0,hS0⟩:∃S0,S0=s:=⟨_,rfl⟩
 obtain⟨L0,hL0⟩:∃L0,L0=s.Ledger.Postings:=⟨_,rfl⟩
 have ist:=fun L=>cM ⟨s.Desk,s.Cash,s.Register,⟨L⟩⟩
 have cst:∀L,(⟨s.Desk,s.Cash,s.Register,⟨L⟩⟩:TState).cells=[iv s.Desk.Account.Credit,aL s.Desk.Account.Subs,bu s.Desk.Account.Entries,aC s.Desk.Queue.Waiting,.list 1 (aj aS s.Desk.Queue.Known),aX s.Desk.Queue.Batches,bI s.Desk.Items,dt s.Cash.Claims,aR s.Cash.Incomes,cu s.Cash.Matches,.list 1 (aj aS s.Cash.Loose),bb s.Register.Securities,aQ s.Register.Holdings,cB s.Register.Moves,ce L]:=fun L=>rfl
 have cs0:=fV s
 rw[←hL0]at hl qo qe cs0
 refine ab Tryz.func94 rfl (by simp[Tryz.f94]) (by kernel_rfl) ?_
 intro E hP hr hs hW hN
 simp -dsimp -implicitDefEqProofs [-getElem?_pos,go_sem,hP,cs0,bg,cK,cD,al,hn,du,eX]
 rw[←hes]
 obtain⟨I,hI⟩:∃I:Nat→St→Prop,I=fun m s=>∃(k:Nat) (L:List TPosting),k≤es.length∧m=es.length-k∧jr L0 es=jr L (es.drop k)∧L.length≤400∧s.t 2= .ref 0 0 0∧s.t 4= .ref 1 0 0∧s.t 15=bu es∧s.t 16=iv es.length∧s.t 17=iv k∧s.H[0]?=some (some ⟨50,15,[[iv S0.Desk.Account.Credit,aL S0.Desk.Account.Subs,bu S0.Desk.Account.Entries,aC S0.Desk.Queue.Waiting,.list 1 (aj aS S0.Desk.Queue.Known),aX S0.Desk.Queue.Batches,bI S0.Desk.Items,dt S0.Cash.Claims,aR S0.Cash.Incomes,cu S0.Cash.Matches,.list 1 (aj aS S0.Cash.Loose),bb S0.Register.Securities,aQ S0.Register.Holdings,cB S0.Register.Moves,ce L]]⟩)∧s.H[1]?=some (some ⟨50,15,[[iv 0,.nil,.nil,.nil,.nil,.nil,.nil,.nil,.nil,.nil,.nil,.nil,.nil,.nil,.nil]]⟩):=⟨_,rfl⟩
 refine ay I (es.length) (by rw[hN];rfl) ?_ ?_
 ·rw[hI]
  have el:es.length=s.Desk.Account.Entries.length-n:=by rw[hes,List.length_drop]
  exact⟨0,L0,by omega,by omega,by simp,hl,by simp -dsimp[-getElem?_pos,go_sem],by simp -dsimp[-getElem?_pos,go_sem],by simp -dsimp[-getElem?_pos,go_sem],by simp -dsimp[-getElem?_pos,go_sem,el],by simp -dsimp[-getElem?_pos,go_sem],by rw[hS0];simp -dsimp -implicitDefEqProofs [-getElem?_pos,go_sem],by simp -dsimp[-getElem?_pos,go_sem]⟩
 intro m s2 hs'
 rw[hI]at hs'
 obtain⟨k,L,hk,hm,hgo,hL,t2,t4,t15,t16,t17,g0,g1⟩:=hs'
 have l0:=(gsI g0)
 have l1:=(gsI g1)
 simp -dsimp -implicitDefEqProofs [-getElem?_pos,go_sem,hP,t16,t17]
 refine aB (fun hq=>?_) (fun hq=>?_)
 ·have hk:k<es.length:=by simpa using hq
  obtain⟨e,hee⟩:∃e,es[k]?=some e:=⟨_,List.getElem?_eq_getElem hk⟩
  have wk:=af ((k:Int)+1) (by omega)
  have wl:=af ((L.length:Int)+1) (by omega)
  have hdr:es.drop k=e::es.drop (k+1):=by
   obtain⟨h2,h3⟩:=List.getElem?_eq_some_iff.1 hee
   rw[List.drop_eq_getElem_cons h2,h3]
  rw[hdr,jr]at hgo
  have pp:=Lr ⟨L⟩ (kj e ((L.length:Int)+1)) (by show L.length≤_;omega)
  have cp:=Di e ((L.length:Int)+1)
  have fit:=ya (L:=L) (p:=kj e ((L.length:Int)+1))
  obtain⟨q,hq0⟩:∃q,q=kj e ((L.length:Int)+1):=⟨_,rfl⟩
  rw[←hq0]at pp cp fit hgo
  rw[cL]at pp
  have pp:PFun Tryz.prog none none 157 [.agg [ce L],.agg q.cells] (·= .tup [.agg [ce (dM L q).1],iv (dM L q).2]):=pp
  obtain⟨Ln,er,hpe⟩:∃Ln er,dM L q=(Ln,er):=⟨_,_,rfl⟩
  rw[hpe]at pp hgo fit
  have iL:=dG L
  have iLn:=dG Ln
  have iq:=az.2 q.imm
  have ie:=eC e
  rw[cE]at cp ie
  rw[cP]at pp iq cp
  obtain⟨N,hN0⟩:∃N,N=s2.H.length:=⟨_,rfl⟩
  obtain⟨H1,hH1⟩:∃H1:ac,H1=s2.H++[some ⟨75,6,[[iv e.Number,iv e.Day,iv e.From,iv e.To,iv e.Amount,iv e.Ref]]⟩]:=⟨_,rfl⟩
  have kk:Kept [] s2.H H1:=by rw[hH1];exact eQ _ (au _ _)
  have g0':=kk _ _ (by simp) g0
  have g1':=kk _ _ (by simp) g1
  have gN:H1[N]?=some (some ⟨75,6,[[iv e.Number,iv e.Day,iv e.From,iv e.To,iv e.Amount,iv e.Ref]]⟩):=by rw[hH1,hN0];simp
  have n0:¬N=0:=by omega
  have ln0:=(List.getElem?_eq_some_iff.1 g0').1
  have ln1:=(List.getElem?_eq_some_iff.1 g1').1
  have lnN:=(gsI gN)
  have stay:nD e=false→jr L0 es=jr L (es.drop (k+1)):=fun h=>by rw[hgo,h,if_neg (by simp)]
  have go:nD e=true→jr L0 es=if er=0 then jr Ln (es.drop (k+1))else (L,er):=fun h=>by rw[hgo,h,if_pos rfl]
  clear hgo
  have road:(e.From=0∨(¬e.From=0∧e.To=0))∨(¬e.From=0∧¬e.To=0):=by omega
  rcases road with road|⟨a1,a2⟩
  rotate_left
  ·have b1:decide (e.From=0)=false:=decide_eq_false a1
   have b2:decide (e.To=0)=false:=decide_eq_false a2
   simp -dsimp -implicitDefEqProofs [-getElem?_pos,go_sem,hP,t15,t17,hee,cE,b1,b2,wk]
   refine⟨es.length-(k+1),by omega,?_⟩
   rw[hI]
   refine⟨k+1,L,by omega,rfl,stay (by simp[nD,b1,b2]),hL,by simp -dsimp[-getElem?_pos,go_sem,t2],by simp -dsimp[-getElem?_pos,go_sem,t4],by simp -dsimp[-getElem?_pos,go_sem,t15],by simp -dsimp[-getElem?_pos,go_sem,t16],by simp -dsimp[-getElem?_pos,go_sem],?_,?_⟩
   ·simp -dsimp -implicitDefEqProofs [-getElem?_pos,go_sem];rw[←hH1];exact g0'
   ·simp -dsimp -implicitDefEqProofs [-getElem?_pos,go_sem];rw[←hH1];exact g1'
  have ho:nD e=true:=by
   rcases road with h|⟨_,h⟩<;>simp[nD,h]
  have go:=go ho
  rcases road with a1|⟨a1,a2⟩
  ·have b1:decide (e.From=0)=true:=decide_eq_true a1
   simp -dsimp -implicitDefEqProofs [-getElem?_pos,go_sem,hP,t15,t17,hee,cE,b1]
   rw[←hH1,←hN0]
   clear hH1
   refine sa (fun i=>decide (i<H1.length)) [14] [8,9] hP (by kernel_rfl) (by kernel_rfl) ?_
   simp -dsimp -implicitDefEqProofs [-getElem?_pos,go_sem,hP,ax,t2,g0',gN,ln0,lnN,wl,al]
   refine hY (cp.lift _ _) hP KO (by simp[ie,ar]) ⟨_,rfl,iq⟩ ?_
   rintro r rfl _
   simp -dsimp -implicitDefEqProofs [-getElem?_pos,go_sem,hP,ax,t2,g0',gN,ln0,lnN]
   refine hY (pp.lift _ _) hP Jo (by simp[iL,iq,az]) ⟨_,rfl,ak (az.2 (by simpa using iLn)) .sc⟩ ?_
   rintro r rfl _
   simp -dsimp -implicitDefEqProofs [-getElem?_pos,go_sem,hP,ax]
   refine⟨jP (Nat.le_refl _),?_⟩
   by_cases h0:er=0
   ·subst h0
    rw[if_pos rfl]at go
    simp -dsimp -implicitDefEqProofs [-getElem?_pos,go_sem,hP,t2,g0',ln0,List.getElem?_append_left,t17,wk]
    refine⟨es.length-(k+1),by omega,?_⟩
    rw[hI]
    refine⟨k+1,Ln,by omega,rfl,go,fit rfl,by simp -dsimp[-getElem?_pos,go_sem,t2],by simp -dsimp[-getElem?_pos,go_sem,t4],by simp -dsimp[-getElem?_pos,go_sem,t15],by simp -dsimp[-getElem?_pos,go_sem,t16],by simp -dsimp[-getElem?_pos,go_sem],?_,?_⟩
    ·simp -dsimp -implicitDefEqProofs [-getElem?_pos,go_sem,ln0]
    ·simp -dsimp -implicitDefEqProofs [-getElem?_pos,go_sem,ln0,ln1,g1',List.getElem?_append_left]
   ·rw[if_neg h0]at go
    have de:decide (er=0)=false:=decide_eq_false h0
    simp -dsimp -implicitDefEqProofs [-getElem?_pos,go_sem,hP,de,t4,g1',ln1,List.getElem?_append_left]
    exact aP (cs':=dw.cells) dg (qe L er go h0)
  ·have b1:decide (e.From=0)=false:=decide_eq_false a1
   have b2:decide (e.To=0)=true:=decide_eq_true a2
   simp -dsimp -implicitDefEqProofs [-getElem?_pos,go_sem,hP,t15,t17,hee,cE,b1,b2]
   rw[←hH1,←hN0]
   clear hH1
   refine sa (fun i=>decide (i<H1.length)) [14] [8,9] hP (by kernel_rfl) (by kernel_rfl) ?_
   simp -dsimp -implicitDefEqProofs [-getElem?_pos,go_sem,hP,ax,t2,g0',gN,ln0,lnN,wl,al]
   refine hY (cp.lift _ _) hP KO (by simp[ie,ar]) ⟨_,rfl,iq⟩ ?_
   rintro r rfl _
   simp -dsimp -implicitDefEqProofs [-getElem?_pos,go_sem,hP,ax,t2,g0',gN,ln0,lnN]
   refine hY (pp.lift _ _) hP Jo (by simp[iL,iq,az]) ⟨_,rfl,ak (az.2 (by simpa using iLn)) .sc⟩ ?_
   rintro r rfl _
   simp -dsimp -implicitDefEqProofs [-getElem?_pos,go_sem,hP,ax]
   refine⟨jP (Nat.le_refl _),?_⟩
   by_cases h0:er=0
   ·subst h0
    rw[if_pos rfl]at go
    simp -dsimp -implicitDefEqProofs [-getElem?_pos,go_sem,hP,t2,g0',ln0,List.getElem?_append_left,t17,wk]
    refine⟨es.length-(k+1),by omega,?_⟩
    rw[hI]
    refine⟨k+1,Ln,by omega,rfl,go,fit rfl,by simp -dsimp[-getElem?_pos,go_sem,t2],by simp -dsimp[-getElem?_pos,go_sem,t4],by simp -dsimp[-getElem?_pos,go_sem,t15],by simp -dsimp[-getElem?_pos,go_sem,t16],by simp -dsimp[-getElem?_pos,go_sem],?_,?_⟩
    ·simp -dsimp -implicitDefEqProofs [-getElem?_pos,go_sem,ln0]
    ·simp -dsimp -implicitDefEqProofs [-getElem?_pos,go_sem,ln0,ln1,g1',List.getElem?_append_left]
   ·rw[if_neg h0]at go
    have de:decide (er=0)=false:=decide_eq_false h0
    simp -dsimp -implicitDefEqProofs [-getElem?_pos,go_sem,hP,de,t4,g1',ln1,List.getElem?_append_left]
    exact aP (cs':=dw.cells) dg (qe L er go h0)
 ·have hk:k=es.length:=by simp at hq;omega
  subst hk
  rw[List.drop_length,jr]at hgo
  simp -dsimp -implicitDefEqProofs [-getElem?_pos,go_sem,hP,t2,t4,g0,g1,l0,l1]
  rw[hS0]at*
  refine aw (ak ?_ .sc) (by rw[←cst];exact qo L hgo)
  rw[←cst]
  exact ist L
open Go.PA
open Go.RowKit
theorem Ks (d:TDesk) (w:Int) (hl:d.Items.length≤1000000):PFun Tryz.prog none none 222 [.agg d.cells,iv w] (·=iv (qK d.Items w)):=by
 refine ab Tryz.func222 rfl (by simp[Tryz.f222]) (by kernel_rfl) ?_
 intro E hP hr hs hW hN
 obtain⟨R,hR⟩:∃R,R=qK d.Items w:=⟨_,rfl⟩
 rw[←hR]
 rw[qK]at hR
 obtain⟨l,hll⟩:∃l,l=d.Items:=⟨_,rfl⟩
 rw[←hll]at hR hl
 simp -dsimp -implicitDefEqProofs [-getElem?_pos,go_sem,hP,cDn,←hll]
 obtain⟨I,hI⟩:∃I:Nat→St→Prop,I=fun m s=>∃k:Nat,k≤l.length∧m=l.length-k∧R=bE (fun x:TItem=>decide (x.Payment.Warrant=w)) k (l.drop k)∧s.t 1=iv w∧s.t 8=bI l∧s.t 9=iv l.length∧s.t 10=iv k:=⟨_,rfl⟩
 refine ay I (l.length) (by rw[hN];rfl) ?_ ?_
 ·rw[hI]
  exact⟨0,by omega,by omega,by rw[hR];rfl,by simp -dsimp[-getElem?_pos,go_sem],by simp -dsimp[-getElem?_pos,go_sem],by simp -dsimp[-getElem?_pos,go_sem],by simp -dsimp[-getElem?_pos,go_sem]⟩
 intro m s hs'
 rw[hI]at hs'
 obtain⟨k,hk,hm,hq,t1,t8,t9,t10⟩:=hs'
 simp -dsimp -implicitDefEqProofs [-getElem?_pos,go_sem,hP,t9,t10]
 refine aB (fun h=>?_) (fun h=>?_)
 ·have hk:k<l.length:=by simpa using h
  obtain⟨a,ha⟩:∃a,l[k]?=some a:=⟨_,List.getElem?_eq_getElem hk⟩
  have wk:=af ((k:Int)+1) (by omega)
  rw[cU ha,bE]at hq
  by_cases c:a.Payment.Warrant=w
  ·rw[if_pos (by simpa using c)]at hq
   simp -dsimp -implicitDefEqProofs [-getElem?_pos,go_sem,hP,t8,t10,ha,cIt,t1,c,hq]
  ·rw[if_neg (by simpa using c)]at hq
   have d:=decide_eq_false c
   simp -dsimp -implicitDefEqProofs [-getElem?_pos,go_sem,hP,t8,t10,ha,cIt,t1,c,d,wk]
   refine⟨l.length-(k+1),by omega,?_⟩
   rw[hI]
   exact⟨k+1,by omega,rfl,hq,by simp -dsimp[-getElem?_pos,go_sem,t1],by simp -dsimp[-getElem?_pos,go_sem,t8],by simp -dsimp[-getElem?_pos,go_sem,t9],by simp -dsimp[-getElem?_pos,go_sem]⟩
 ·have hk:k=l.length:=by simp at h;omega
  subst hk
  rw[List.drop_length,bE]at hq
  simp -dsimp -implicitDefEqProofs [-getElem?_pos,go_sem,hP,hq]
abbrev Ff:TPayment:=⟨0,0,0,0,0⟩
theorem A7 (q:TQueue) (w:Int) (hl:q.Waiting.length≤1000000):PFun Tryz.prog none none 272 [.agg q.cells,iv w] (·= .tup [.agg ((js q w).getD Ff).cells,bv (js q w).isSome]):=by
 refine ab Tryz.func272 rfl (by simp[Tryz.f272]) (by kernel_rfl) ?_
 intro E hP hr hs hW hN
 obtain⟨o,ho⟩:∃o,o=js q w:=⟨_,rfl⟩
 rw[←ho]
 rw[js]at ho
 obtain⟨l,hll⟩:∃l,l=q.Waiting:=⟨_,rfl⟩
 rw[←hll]at ho hl
 simp -dsimp -implicitDefEqProofs [-getElem?_pos,go_sem,hP,cQn,←hll]
 obtain⟨I,hI⟩:∃I:Nat→St→Prop,I=fun m s=>∃k:Nat,k≤l.length∧m=l.length-k∧o=(l.drop k).find? (df w)∧s.t 1=iv w∧s.t 4= .ref 1 0 0∧s.t 9=aC l∧s.t 10=iv l.length∧s.t 11=iv k∧s.H[1]?=some (some ⟨81,5,[[iv 0,iv 0,iv 0,iv 0,iv 0]]⟩):=⟨_,rfl⟩
 refine ay I (l.length) (by rw[hN];rfl) ?_ ?_
 ·rw[hI]
  exact⟨0,by omega,by omega,by rw[ho];rfl,by simp -dsimp[-getElem?_pos,go_sem],by simp -dsimp[-getElem?_pos,go_sem],by simp -dsimp[-getElem?_pos,go_sem],by simp -dsimp[-getElem?_pos,go_sem],by simp -dsimp[-getElem?_pos,go_sem],by simp -dsimp[-getElem?_pos,go_sem]⟩
 intro m s hs'
 rw[hI]at hs'
 obtain⟨k,hk,hm,hq,t1,t4,t9,t10,t11,h1⟩:=hs'
 have lt1:=(gsI h1)
 simp -dsimp -implicitDefEqProofs [-getElem?_pos,go_sem,hP,t10,t11]
 refine aB (fun h=>?_) (fun h=>?_)
 ·have hk:k<l.length:=by simpa using h
  obtain⟨a,ha⟩:∃a,l[k]?=some a:=⟨_,List.getElem?_eq_getElem hk⟩
  have wk:=af ((k:Int)+1) (by omega)
  have g1:∀x:Option AObj,(s.H++[x])[1]?=some (some ⟨81,5,[[iv 0,iv 0,iv 0,iv 0,iv 0]]⟩):=fun x=>by rw[List.getElem?_append_left lt1];exact h1
  rw[cU ha,List.find?_cons]at hq
  by_cases c:a.Warrant=w
  ·rw[show df w a=true by simp[df,c]]at hq
   simp only at hq
   simp -dsimp -implicitDefEqProofs [-getElem?_pos,go_sem,hP,t9,t11,ha,cPy,t1,c,t4,g1,lt1,h1]
   refine aw (ak (fq ⟨w,a.Payee,a.Amount,a.Due,a.Sub⟩) .sc) ?_
   rw[hq,Option.getD_some,cPy,c]
   rfl
  ·rw[show df w a=false by simp[df,c]]at hq
   simp only at hq
   have d:=decide_eq_false c
   simp -dsimp -implicitDefEqProofs [-getElem?_pos,go_sem,hP,t9,t11,ha,cPy,t1,c,d,wk]
   refine⟨l.length-(k+1),by omega,?_⟩
   rw[hI]
   exact⟨k+1,by omega,rfl,hq,by simp -dsimp[-getElem?_pos,go_sem,t1],by simp -dsimp[-getElem?_pos,go_sem,t4],by simp -dsimp[-getElem?_pos,go_sem,t9],by simp -dsimp[-getElem?_pos,go_sem,t10],by simp -dsimp[-getElem?_pos,go_sem],by simp -dsimp[-getElem?_pos,go_sem,lt1,h1]⟩
 ·have hk:k=l.length:=by simp at h;omega
  subst hk
  rw[List.drop_length,List.find?_nil]at hq
  simp -dsimp -implicitDefEqProofs [-getElem?_pos,go_sem,hP,t4,h1,lt1,hq]
  exact aw (ak (fq Ff) .sc) (by rw[hq];rfl)
theorem BA (q:TQueue) (w:Int) (hf:FitQ q):PFun Tryz.prog none none 273 [.agg q.cells,iv w] (·=iv (mQ q w)):=by
 refine ab Tryz.func273 rfl (by simp[Tryz.f273]) (by kernel_rfl) ?_
 intro E hP hr hs hW hN
 obtain⟨R,hR⟩:∃R,R=mQ q w:=⟨_,rfl⟩
 rw[←hR]
 rw[mQ]at hR
 have lb:=hf.b
 have each:=hf.each
 obtain⟨l,hl⟩:∃l,l=q.Batches:=⟨_,rfl⟩
 rw[←hl]at hR lb each
 simp -dsimp -implicitDefEqProofs [-getElem?_pos,go_sem,hP,cQn,←hl]
 obtain⟨I,hI⟩:∃I:Nat→St→Prop,I=fun m s=>∃(k c:Nat),k≤l.length∧m=l.length-k∧c=((l.take k).map fun b=>b.Payments.countP (df w)).sum∧c≤100000*k∧s.t 1=iv w∧s.t 5=iv c∧s.t 11=aX l∧s.t 12=iv l.length∧s.t 13=iv k:=⟨_,rfl⟩
 refine ay I (l.length) (by rw[hN];rfl) ?_ ?_
 ·rw[hI]
  exact⟨0,0,by omega,by omega,by simp,by omega,by simp -dsimp[-getElem?_pos,go_sem],by simp -dsimp[-getElem?_pos,go_sem],by simp -dsimp[-getElem?_pos,go_sem],by simp -dsimp[-getElem?_pos,go_sem],by simp -dsimp[-getElem?_pos,go_sem]⟩
 intro m s hs'
 rw[hI]at hs'
 obtain⟨k,c,hk,hm,hc,hcl,t1,t5,t11,t12,t13⟩:=hs'
 simp -dsimp -implicitDefEqProofs [-getElem?_pos,go_sem,hP,t12,t13]
 refine aB (fun h=>?_) (fun h=>?_)
 ·have hk:k<l.length:=by simpa using h
  obtain⟨b,hb⟩:∃b,l[k]?=some b:=⟨_,List.getElem?_eq_getElem hk⟩
  have wk:=af ((k:Int)+1) (by omega)
  have hbl:=each b (List.mem_of_getElem? hb)
  have es:((l.take (k+1)).map fun b=>b.Payments.countP (df w)).sum=((l.take k).map fun b=>b.Payments.countP (df w)).sum+b.Payments.countP (df w):=by rw[bV hb,List.map_append,List.sum_append];simp
  have lp:=List.countP_le_length (p:=df w) (l:=b.Payments)
  obtain⟨P,hPP⟩:∃P,P=b.Payments:=⟨_,rfl⟩
  rw[←hPP]at hbl es lp
  simp -dsimp -implicitDefEqProofs [-getElem?_pos,go_sem,hP,t11,t13,hb,cBt,←hPP]
  obtain⟨J,hJ⟩:∃I:Nat→St→Prop,I=fun m s=>∃(j:Nat),j≤P.length∧m=P.length-j∧s.t 1=iv w∧s.t 5=iv (c+(P.take j).countP (df w))∧s.t 11=aX l∧s.t 12=iv l.length∧s.t 13=iv k∧s.t 18=aC P∧s.t 19=iv P.length∧s.t 20=iv j:=⟨_,rfl⟩
  refine ay J (P.length) (by rw[hN];rfl) ?_ ?_
  ·rw[hJ]
   exact⟨0,by omega,by omega,by simp -dsimp[-getElem?_pos,go_sem,t1],by simp -dsimp[-getElem?_pos,go_sem,t5],by simp -dsimp[-getElem?_pos,go_sem,t11],by simp -dsimp[-getElem?_pos,go_sem,t12],by simp -dsimp[-getElem?_pos,go_sem,t13],by simp -dsimp[-getElem?_pos,go_sem],by simp -dsimp[-getElem?_pos,go_sem],by simp -dsimp[-getElem?_pos,go_sem]⟩
  clear t1 t5 t11 t12 t13
  intro m s hs'
  rw[hJ]at hs'
  obtain⟨j,hj,hm2,t1,t5,t11,t12,t13,t18,t19,t20⟩:=hs'
  simp -dsimp -implicitDefEqProofs [-getElem?_pos,go_sem,hP,t19,t20]
  refine aB (fun h=>?_) (fun h=>?_)
  ·have hj:j<P.length:=by simpa using h
   obtain⟨p,hp⟩:∃p,P[j]?=some p:=⟨_,List.getElem?_eq_getElem hj⟩
   have wj:=af ((j:Int)+1) (by omega)
   have ej:(P.take (j+1)).countP (df w)=(P.take j).countP (df w)+if df w p=true then 1 else 0:=by rw[bV hp,List.countP_append,List.countP_cons,List.countP_nil,Nat.zero_add]
   have lj:=List.countP_le_length (p:=df w) (l:=P.take j)
   rw[List.length_take]at lj
   generalize (P.take j).countP (df w)=cj at ej t5 lj
   have wc:=af ((c:Int)+cj+1) (by omega)
   by_cases e:p.Warrant=w
   ·rw[show df w p=true by simp[df,e],if_pos rfl]at ej
    have e1:(c:Int)+((P.take (j+1)).countP (df w):Nat)=c+cj+1:=by rw[ej];omega
    simp -dsimp -implicitDefEqProofs [-getElem?_pos,go_sem,hP,t18,t20,hp,cPy,t1,e,t5,wc,wj]
    refine⟨P.length-(j+1),by omega,?_⟩
    rw[hJ]
    exact⟨j+1,by omega,rfl,by simp -dsimp[-getElem?_pos,go_sem,t1],by simp -dsimp[-getElem?_pos,go_sem,e1],by simp -dsimp[-getElem?_pos,go_sem,t11],by simp -dsimp[-getElem?_pos,go_sem,t12],by simp -dsimp[-getElem?_pos,go_sem,t13],by simp -dsimp[-getElem?_pos,go_sem,t18],by simp -dsimp[-getElem?_pos,go_sem,t19],by simp -dsimp[-getElem?_pos,go_sem]⟩
   ·rw[show df w p=false by simp[df,e],if_neg (by simp)]at ej
    have d:=decide_eq_false e
    simp -dsimp -implicitDefEqProofs [-getElem?_pos,go_sem,hP,t18,t20,hp,cPy,t1,e,d,wj]
    refine⟨P.length-(j+1),by omega,?_⟩
    rw[hJ]
    exact⟨j+1,by omega,rfl,by simp -dsimp[-getElem?_pos,go_sem,t1],by simp -dsimp[-getElem?_pos,go_sem,t5,ej],by simp -dsimp[-getElem?_pos,go_sem,t11],by simp -dsimp[-getElem?_pos,go_sem,t12],by simp -dsimp[-getElem?_pos,go_sem,t13],by simp -dsimp[-getElem?_pos,go_sem,t18],by simp -dsimp[-getElem?_pos,go_sem,t19],by simp -dsimp[-getElem?_pos,go_sem]⟩
  ·have hj:j=P.length:=by simp at h;omega
   subst hj
   rw[List.take_length]at t5
   simp -dsimp -implicitDefEqProofs [-getElem?_pos,go_sem,hP,t13,wk]
   refine⟨l.length-(k+1),by omega,?_⟩
   rw[hI]
   exact⟨k+1,c+P.countP (df w),by omega,rfl,by rw[es,hc],by omega,by simp -dsimp[-getElem?_pos,go_sem,t1],by simp -dsimp[-getElem?_pos,go_sem,t5],by simp -dsimp[-getElem?_pos,go_sem,t11],by simp -dsimp[-getElem?_pos,go_sem,t12],by simp -dsimp[-getElem?_pos,go_sem]⟩
 ·have hk:k=l.length:=by simp at h;omega
  subst hk
  rw[List.take_length]at hc
  simp -dsimp -implicitDefEqProofs [-getElem?_pos,go_sem,hP,t5,hR,hc]
theorem AN (a:TAccount) (p:TPayment) (he:a.Entries.length≤100000) (hs1:1≤p.Sub):PFun Tryz.prog none none 274 [.agg a.cells,.agg p.cells] (·= .tup [iv (a.Entries.countP (eT p)),iv (a.Entries.countP (inE p)),bv (a.Entries.all (okE p))]):=by
 refine ab Tryz.func274 rfl (by simp[Tryz.f274]) (by kernel_rfl) ?_
 intro E hP hr hs hW hN
 obtain⟨l,hl⟩:∃l,l=a.Entries:=⟨_,rfl⟩
 rw[←hl]at he
 simp -dsimp -implicitDefEqProofs [-getElem?_pos,go_sem,hP,cA,cPy,←hl]
 obtain⟨I,hI⟩:∃I:Nat→St→Prop,I=fun m s=>∃(k o i:Nat),k≤l.length∧m=l.length-k∧o≤k∧i≤k∧o=(l.take k).countP (eT p)∧i=(l.take k).countP (inE p)∧s.t 3= .ref 1 0 0∧s.t 7=iv o∧s.t 8=iv i∧s.t 9=bv ((l.take k).all (okE p))∧s.t 13=bu l∧s.t 14=iv l.length∧s.t 15=iv k∧s.H[1]?=some (some ⟨81,5,[[iv p.Warrant,iv p.Payee,iv p.Amount,iv p.Due,iv p.Sub]]⟩):=⟨_,rfl⟩
 refine ay I (l.length) (by rw[hN];rfl) ?_ ?_
 ·rw[hI]
  exact⟨0,0,0,by omega,by omega,by omega,by omega,by simp,by simp,by simp -dsimp[-getElem?_pos,go_sem],by simp -dsimp[-getElem?_pos,go_sem],by simp -dsimp[-getElem?_pos,go_sem],by simp -dsimp[-getElem?_pos,go_sem],by simp -dsimp[-getElem?_pos,go_sem],by simp -dsimp[-getElem?_pos,go_sem],by simp -dsimp[-getElem?_pos,go_sem],by simp -dsimp[-getElem?_pos,go_sem]⟩
 intro m s hs'
 rw[hI]at hs'
 obtain⟨k,o,i,hk,hm,lo,li,ho,hi,t3,t7,t8,t9,t13,t14,t15,h1⟩:=hs'
 have lt1:=(gsI h1)
 simp -dsimp -implicitDefEqProofs [-getElem?_pos,go_sem,hP,t14,t15]
 refine aB (fun h=>?_) (fun h=>?_)
 ·have hk:k<l.length:=by simpa using h
  obtain⟨e,hee⟩:∃e,l[k]?=some e:=⟨_,List.getElem?_eq_getElem hk⟩
  have wk:=af ((k:Int)+1) (by omega)
  have g1:∀y:Option AObj,(s.H++[y])[1]?=some (some ⟨81,5,[[iv p.Warrant,iv p.Payee,iv p.Amount,iv p.Due,iv p.Sub]]⟩):=fun y=>by rw[List.getElem?_append_left lt1];exact h1
  have eo:(l.take (k+1)).countP (eT p)=(l.take k).countP (eT p)+if eT p e=true then 1 else 0:=by rw[bV hee,List.countP_append,List.countP_cons,List.countP_nil,Nat.zero_add]
  have ei:(l.take (k+1)).countP (inE p)=(l.take k).countP (inE p)+if inE p e=true then 1 else 0:=by rw[bV hee,List.countP_append,List.countP_cons,List.countP_nil,Nat.zero_add]
  have ea:(l.take (k+1)).all (okE p)=((l.take k).all (okE p)&&okE p e):=by rw[bV hee,List.all_append];simp
  rw[←ho]at eo
  rw[←hi]at ei
  generalize (l.take k).all (okE p)=bk at ea t9
  have wo:=af ((o:Int)+1) (by omega)
  have wi:=af ((i:Int)+1) (by omega)
  have fin:∀(s':St) (o' i':Nat),o'≤k+1→i'≤k+1→o'=(l.take (k+1)).countP (eT p)→i'=(l.take (k+1)).countP (inE p)→s'.t 3= .ref 1 0 0→s'.t 7=iv o'→s'.t 8=iv i'→s'.t 9=bv (bk&&okE p e)→s'.t 13=bu l→s'.t 14=iv l.length→s'.t 15=iv (k+1)→s'.H[1]?=some (some ⟨81,5,[[iv p.Warrant,iv p.Payee,iv p.Amount,iv p.Due,iv p.Sub]]⟩)→∃m',m'<m∧I m' s':=fun s' o' i' b1 b2 b3 b4 a1 a2 a3 a4 a5 a6 a7 a8=>by
   refine⟨l.length-(k+1),by omega,?_⟩
   rw[hI]
   exact⟨k+1,o',i',by omega,rfl,b1,b2,b3,b4,a1,a2,a3,by rw[ea];exact a4,a5,a6,a7,a8⟩
  by_cases c1:e.Ref=p.Warrant
  rotate_left
  ·have d1:=decide_eq_false c1
   have hok:okE p e=true:=by simp[okE,d1]
   rw[show eT p e=false by simp[eT,d1],if_neg (by simp)]at eo
   rw[show inE p e=false by simp[inE,d1],if_neg (by simp)]at ei
   simp -dsimp -implicitDefEqProofs [-getElem?_pos,go_sem,hP,t13,t15,hee,cE,t3,g1,lt1,h1,c1,d1,wk]
   exact fin _ o i (by omega) (by omega) (by omega) (by omega) (by simp -dsimp[-getElem?_pos,go_sem,t3]) (by simp -dsimp[-getElem?_pos,go_sem,t7]) (by simp -dsimp[-getElem?_pos,go_sem,t8]) (by simp -dsimp[-getElem?_pos,go_sem,t9,hok]) (by simp -dsimp[-getElem?_pos,go_sem,t13]) (by simp -dsimp[-getElem?_pos,go_sem,t14]) (by simp -dsimp[-getElem?_pos,go_sem]) (by simp -dsimp[-getElem?_pos,go_sem,lt1,h1])
  have d1:decide (e.Ref=p.Warrant)=true:=decide_eq_true c1
  by_cases c2:e.From=p.Sub
  ·have c3:¬e.From=0:=by omega
   have d3:=decide_eq_false c3
   by_cases c4:e.To=0
   ·have hok:okE p e=decide (e.Amount=p.Amount):=by simp[okE,c1,c2,c4]
    rw[show eT p e=true by simp[eT,c1,c2,c4],if_pos rfl]at eo
    rw[show inE p e=false by simp[inE,c3],if_neg (by simp)]at ei
    cases bk
    ·simp -dsimp -implicitDefEqProofs [-getElem?_pos,go_sem,hP,t13,t15,hee,cE,t3,g1,lt1,h1,c1,c2,c4,t7,t9,wo,wk]
     exact fin _ (o+1) i (by omega) (by omega) (by omega) (by omega) (by simp -dsimp[-getElem?_pos,go_sem,t3]) (by simp -dsimp[-getElem?_pos,go_sem]) (by simp -dsimp[-getElem?_pos,go_sem,t8]) (by simp -dsimp[-getElem?_pos,go_sem]) (by simp -dsimp[-getElem?_pos,go_sem,t13]) (by simp -dsimp[-getElem?_pos,go_sem,t14]) (by simp -dsimp[-getElem?_pos,go_sem]) (by simp -dsimp[-getElem?_pos,go_sem,lt1,h1])
    ·simp -dsimp -implicitDefEqProofs [-getElem?_pos,go_sem,hP,t13,t15,hee,cE,t3,g1,lt1,h1,c1,c2,c4,t7,t9,wo,wk]
     exact fin _ (o+1) i (by omega) (by omega) (by omega) (by omega) (by simp -dsimp[-getElem?_pos,go_sem,t3]) (by simp -dsimp[-getElem?_pos,go_sem]) (by simp -dsimp[-getElem?_pos,go_sem,t8]) (by simp -dsimp[-getElem?_pos,go_sem,hok]) (by simp -dsimp[-getElem?_pos,go_sem,t13]) (by simp -dsimp[-getElem?_pos,go_sem,t14]) (by simp -dsimp[-getElem?_pos,go_sem]) (by simp -dsimp[-getElem?_pos,go_sem,lt1,h1])
   ·have d4:=decide_eq_false c4
    have hok:okE p e=false:=by simp[okE,d1,d3,d4]
    rw[show eT p e=false by simp[eT,d4],if_neg (by simp)]at eo
    rw[show inE p e=false by simp[inE,d3],if_neg (by simp)]at ei
    have nz:¬p.Sub=0:=by omega
    simp -dsimp -implicitDefEqProofs [-getElem?_pos,go_sem,hP,t13,t15,hee,cE,t3,g1,lt1,h1,c1,c2,c4,d4,nz,d3,wk]
    exact fin _ o i (by omega) (by omega) (by omega) (by omega) (by simp -dsimp[-getElem?_pos,go_sem,t3]) (by simp -dsimp[-getElem?_pos,go_sem,t7]) (by simp -dsimp[-getElem?_pos,go_sem,t8]) (by simp -dsimp[-getElem?_pos,go_sem,hok]) (by simp -dsimp[-getElem?_pos,go_sem,t13]) (by simp -dsimp[-getElem?_pos,go_sem,t14]) (by simp -dsimp[-getElem?_pos,go_sem]) (by simp -dsimp[-getElem?_pos,go_sem,lt1,h1])
  ·have d2:=decide_eq_false c2
   rw[show eT p e=false by simp[eT,d2],if_neg (by simp)]at eo
   by_cases c3:e.From=0
   ·by_cases c4:e.To=p.Sub
    ·have hok:okE p e=decide (e.Amount=p.Amount):=by simp[okE,d1,c3,c4]
     rw[show inE p e=true by simp[inE,c1,c3,c4],if_pos rfl]at ei
     have d2':decide ((0:Int)=p.Sub)=false:=by rw[←c3];exact d2
     cases bk
     ·simp -dsimp -implicitDefEqProofs [-getElem?_pos,go_sem,hP,t13,t15,hee,cE,t3,g1,lt1,h1,c1,c2,d2,d2',c3,c4,t8,t9,wi,wk]
      exact fin _ o (i+1) (by omega) (by omega) (by omega) (by omega) (by simp -dsimp[-getElem?_pos,go_sem,t3]) (by simp -dsimp[-getElem?_pos,go_sem,t7]) (by simp -dsimp[-getElem?_pos,go_sem]) (by simp -dsimp[-getElem?_pos,go_sem]) (by simp -dsimp[-getElem?_pos,go_sem,t13]) (by simp -dsimp[-getElem?_pos,go_sem,t14]) (by simp -dsimp[-getElem?_pos,go_sem]) (by simp -dsimp[-getElem?_pos,go_sem,lt1,h1,c3])
     ·simp -dsimp -implicitDefEqProofs [-getElem?_pos,go_sem,hP,t13,t15,hee,cE,t3,g1,lt1,h1,c1,c2,d2,d2',c3,c4,t8,t9,wi,wk]
      exact fin _ o (i+1) (by omega) (by omega) (by omega) (by omega) (by simp -dsimp[-getElem?_pos,go_sem,t3]) (by simp -dsimp[-getElem?_pos,go_sem,t7]) (by simp -dsimp[-getElem?_pos,go_sem]) (by simp -dsimp[-getElem?_pos,go_sem,hok]) (by simp -dsimp[-getElem?_pos,go_sem,t13]) (by simp -dsimp[-getElem?_pos,go_sem,t14]) (by simp -dsimp[-getElem?_pos,go_sem]) (by simp -dsimp[-getElem?_pos,go_sem,lt1,h1,c3])
    ·have d4:=decide_eq_false c4
     have hok:okE p e=false:=by simp[okE,d1,d2,d4]
     have d2':decide ((0:Int)=p.Sub)=false:=by rw[←c3];exact d2
     rw[show inE p e=false by simp[inE,d4],if_neg (by simp)]at ei
     simp -dsimp -implicitDefEqProofs [-getElem?_pos,go_sem,hP,t13,t15,hee,cE,t3,g1,lt1,h1,c1,c2,d2,d2',c3,c4,d4,wk]
     exact fin _ o i (by omega) (by omega) (by omega) (by omega) (by simp -dsimp[-getElem?_pos,go_sem,t3]) (by simp -dsimp[-getElem?_pos,go_sem,t7]) (by simp -dsimp[-getElem?_pos,go_sem,t8]) (by simp -dsimp[-getElem?_pos,go_sem,hok]) (by simp -dsimp[-getElem?_pos,go_sem,t13]) (by simp -dsimp[-getElem?_pos,go_sem,t14]) (by simp -dsimp[-getElem?_pos,go_sem]) (by simp -dsimp[-getElem?_pos,go_sem,lt1,h1,c3])
   ·have d3:=decide_eq_false c3
    have hok:okE p e=false:=by simp[okE,d1,d2,d3]
    rw[show inE p e=false by simp[inE,d3],if_neg (by simp)]at ei
    simp -dsimp -implicitDefEqProofs [-getElem?_pos,go_sem,hP,t13,t15,hee,cE,t3,g1,lt1,h1,c1,c2,d2,c3,d3,wk]
    exact fin _ o i (by omega) (by omega) (by omega) (by omega) (by simp -dsimp[-getElem?_pos,go_sem,t3]) (by simp -dsimp[-getElem?_pos,go_sem,t7]) (by simp -dsimp[-getElem?_pos,go_sem,t8]) (by simp -dsimp[-getElem?_pos,go_sem,hok]) (by simp -dsimp[-getElem?_pos,go_sem,t13]) (by simp -dsimp[-getElem?_pos,go_sem,t14]) (by simp -dsimp[-getElem?_pos,go_sem]) (by simp -dsimp[-getElem?_pos,go_sem,lt1,h1])
 ·have hk:k=l.length:=by simp at h;omega
  subst hk
  rw[List.take_length]at t9 ho hi
  simp -dsimp -implicitDefEqProofs [-getElem?_pos,go_sem,hP,t7,t8,t9]
  exact aw (eP .sc .sc .sc) (by rw[ho,hi,hl])
open Go.PA
open Go.RowKit
theorem LU {a b:TPayment} (h1:a.Warrant=b.Warrant) (h2:a.Payee=b.Payee) (h3:a.Amount=b.Amount) (h4:a.Due=b.Due) (h5:a.Sub=b.Sub):a=b:=by
 cases a;cases b
 simp only at h1 h2 h3 h4 h5
 simp[h1,h2,h3,h4,h5]
set_option maxHeartbeats 4000000 in
theorem nw (d:TDesk) (hf:FitD d):PFun Tryz.prog none none 216 [.agg d.cells] (·=iv (bH d)):=by
 refine ab Tryz.func216 rfl (by simp[Tryz.f216]) (by kernel_rfl) ?_
 intro E hP hr hs hW hN
 have ia:=cV d.Account
 have iq:=dr d.Queue
 have cka:=pr d.Account hf.s hf.e
 have ckq:=jf d.Queue hf.q
 rw[cA]at ia cka
 rw[cQn]at iq ckq
 have li:=hf.i
 have lk:=hf.q.k
 obtain⟨R,hR⟩:∃R,R=bH d:=⟨_,rfl⟩
 rw[←hR]
 simp -dsimp -implicitDefEqProofs [-getElem?_pos,go_sem,hP,cDn]
 refine ae (cka.lift _ _) hP JH (by simpa using ia) .sc ?_
 by_cases c1:aD d.Account=0
 rotate_left
 ·have:R=aD d.Account:=by rw[hR,bH,if_neg c1]
  simp -dsimp -implicitDefEqProofs [-getElem?_pos,go_sem,hP,c1,this]
 simp -dsimp -implicitDefEqProofs [-getElem?_pos,go_sem,hP,c1]
 refine ae (ckq.lift _ _) hP vU (by simpa using iq) .sc ?_
 by_cases c2:cT d.Queue=0
 rotate_left
 ·have:R=cT d.Queue:=by rw[hR,bH,if_pos c1,if_neg c2]
  simp -dsimp -implicitDefEqProofs [-getElem?_pos,go_sem,hP,c2,this]
 rw[bH,if_pos c1,if_pos c2,yy]at hR
 obtain⟨l,hl⟩:∃l,l=d.Items:=⟨_,rfl⟩
 obtain⟨K,hK⟩:∃K,K=d.Queue.Known:=⟨_,rfl⟩
 obtain⟨itB,hit⟩:∃f,f=qz d:=⟨_,rfl⟩
 rw[←hl,←hK,←hit]at hR
 rw[←hl]at li
 rw[←hK]at lk
 rw[←hK]at iq
 by_cases c3:l.length=K.length
 rotate_left
 ·have d3:decide ((l.length:Int)=(K.length:Int))=false:=decide_eq_false (by omega)
  have hne:¬l.map wrt=K:=fun e=>c3 (by rw[←e,List.length_map])
  rw[decide_eq_false hne,Bool.false_and,if_neg (by simp)]at hR
  simp -dsimp -implicitDefEqProofs [-getElem?_pos,go_sem,hP,c2,←hl,←hK,d3,hR]
 have d3:decide ((l.length:Int)=(K.length:Int))=true:=decide_eq_true (by omega)
 simp -dsimp -implicitDefEqProofs [-getElem?_pos,go_sem,hP,c2,←hl,←hK,d3]
 obtain⟨I,hI⟩:∃I:Nat→St→Prop,I=fun m s=>∃(k:Nat),k≤l.length∧m=l.length-k∧(l.take k).map wrt=K.take k∧(l.take k).all itB=true∧s.t 1= .ref 0 0 0∧s.t 37=bI l∧s.t 38=iv l.length∧s.t 39=iv k∧s.H[0]?=some (some ⟨35,7,[[iv d.Account.Credit,aL d.Account.Subs,bu d.Account.Entries,aC d.Queue.Waiting,eU K,aX d.Queue.Batches,bI l]]⟩):=⟨_,rfl⟩
 refine ay I (l.length) (by rw[hN];rfl) ?_ ?_
 ·rw[hI]
  exact⟨0,by omega,by omega,by simp,by simp,by simp -dsimp[-getElem?_pos,go_sem],by simp -dsimp[-getElem?_pos,go_sem],by simp -dsimp[-getElem?_pos,go_sem],by simp -dsimp[-getElem?_pos,go_sem],by simp -dsimp[-getElem?_pos,go_sem]⟩
 intro m s hs'
 rw[hI]at hs'
 obtain⟨k,hk,hm,hmap,hall,t1,t37,t38,t39,h0⟩:=hs'
 have lt0:=(gsI h0)
 simp -dsimp -implicitDefEqProofs [-getElem?_pos,go_sem,hP,t38,t39]
 refine aB (fun hh=>?_) (fun hh=>?_)
 rotate_left
 ·have hk:k=l.length:=by simp at hh;omega
  subst hk
  rw[List.take_length]at hmap hall
  rw[c3,List.take_length]at hmap
  rw[decide_eq_true hmap,hall]at hR
  simp -dsimp -implicitDefEqProofs [-getElem?_pos,go_sem,hP,hR]
 have hk:k<l.length:=by simpa using hh
 obtain⟨x,hx⟩:∃x,l[k]?=some x:=⟨_,List.getElem?_eq_getElem hk⟩
 obtain⟨w,hw⟩:∃w,K[k]?=some w:=⟨_,List.getElem?_eq_getElem (by omega)⟩
 have wk:=af ((k:Int)+1) (by omega)
 have badI:itB x=false→R=68:=fun e=>by
  rw[hR,if_neg]
  rw[Bool.and_eq_true]
  rintro⟨_,h1⟩
  have:=List.all_eq_true.1 h1 x (List.mem_of_getElem? hx)
  rw[e]at this
  cases this
 have badW:¬x.Payment.Warrant=w→R=68:=fun e=>by
  rw[hR,if_neg]
  rw[Bool.and_eq_true]
  rintro⟨h1,_⟩
  have h1:l.map wrt=K:=of_decide_eq_true h1
  have:(l.map wrt)[k]?=some x.Payment.Warrant:=by rw[List.getElem?_map,hx];rfl
  rw[h1,hw]at this
  exact e (Option.some.inj this).symm
 have hitx:itB x=(gz x.Payment&&((bC d.Account x.Payment.Sub).2&&(amg x.State 1 5&&(Ai x&&(nh d.Queue x&&(decide ((mQ d.Queue x.Payment.Warrant:Int)=x.Attempts)&&kO d.Account x)))))):=by rw[hit,qz]
 have ix:=eS x
 have ip:=fq x.Payment
 have bl:=qR d.Account x.Payment.Sub hf.s hf.e
 have py:=Ab x.Payment
 have wt:=A7 d.Queue x.Payment.Warrant (by have:=hf.q.w;omega)
 have bt:=BA d.Queue x.Payment.Warrant hf.q
 have ct:=fun h=>AN d.Account x.Payment hf.e h
 rw[cIt]at ix
 simp only[cA]at bl ct
 simp only[cPy]at ip py wt ct
 simp only[cQn,←hK]at wt bt
 obtain⟨n,hn⟩:∃n,n=s.H.length:=⟨_,rfl⟩
 obtain⟨H1,hH1⟩:∃H1,H1=s.H++[some (Kz x),some (⟨81,5,[[iv x.Payment.Warrant,iv x.Payment.Payee,iv x.Payment.Amount,iv x.Payment.Due,iv x.Payment.Sub]]⟩:AObj)]:=⟨_,rfl⟩
 have l1:H1.length=n+2:=by rw[hH1,hn];simp
 have k0:H1[0]?=some (some ⟨35,7,[[iv d.Account.Credit,aL d.Account.Subs,bu d.Account.Entries,aC d.Queue.Waiting,eU K,aX d.Queue.Batches,bI l]]⟩):=by rw[hH1,List.getElem?_append_left lt0];exact h0
 have kn:H1[n]?=some (some (Kz x)):=by rw[hH1,hn,List.getElem?_append_right (Nat.le_refl _),Nat.sub_self];rfl
 have kp:H1[n+1]?=some (some ⟨81,5,[[iv x.Payment.Warrant,iv x.Payment.Payee,iv x.Payment.Amount,iv x.Payment.Due,iv x.Payment.Sub]]⟩):=by rw[hH1,hn,List.getElem?_append_right (by omega),Nat.add_sub_cancel_left];rfl
 have q0:0<H1.length:=by omega
 have qn:n<H1.length:=by omega
 have qp:n+1<H1.length:=by omega
 simp -dsimp -implicitDefEqProofs [-getElem?_pos,go_sem,hP,t37,t39,hx,cIt,t1,h0,lt0]
 rw[←hH1,←hn]
 refine ae (bl.lift _ _) hP La (by simpa[ar]using ia) (ak .sc .sc) ?_
 simp -dsimp -implicitDefEqProofs [-getElem?_pos,go_sem,hP]
 refine ao (fun _=>true) [] hP (by kernel_rfl) (by kernel_rfl) ?_
 by_cases e1:x.Payment.Warrant=w
 rotate_left
 ·have f1:=decide_eq_false e1
  simp -dsimp -implicitDefEqProofs [-getElem?_pos,go_sem,hP,kp,qp,t1,k0,q0,hw,aS,f1,badW e1]
 subst e1
 simp -dsimp -implicitDefEqProofs [-getElem?_pos,go_sem,hP,kp,qp,t1,k0,q0,hw,aS]
 refine ae (py.lift _ _) hP C7 (by simpa using ip) .sc ?_
 cases e2:gz x.Payment
 ·rw[e2,Bool.false_and]at hitx
  simp -dsimp -implicitDefEqProofs [-getElem?_pos,go_sem,hP,kn,qn,badI hitx]
 rw[e2,Bool.true_and]at hitx
 have hsub:=((g7 x.Payment).1 e2).sub.1
 cases e3:(bC d.Account x.Payment.Sub).2
 ·rw[e3,Bool.false_and]at hitx
  simp -dsimp -implicitDefEqProofs [-getElem?_pos,go_sem,hP,kn,qn,e3,badI hitx]
 rw[e3,Bool.true_and]at hitx
 by_cases e4:x.State<1
 ·rw[eM (by omega),Bool.false_and]at hitx
  simp -dsimp -implicitDefEqProofs [-getElem?_pos,go_sem,hP,kn,qn,e3,e4,badI hitx]
 have f4:=decide_eq_false e4
 by_cases e5:5<x.State
 ·rw[eM (by omega),Bool.false_and]at hitx
  simp -dsimp -implicitDefEqProofs [-getElem?_pos,go_sem,hP,kn,qn,e3,f4,e5,badI hitx]
 have f5:=decide_eq_false e5
 rw[dS.2 (by omega),Bool.true_and,Ai]at hitx
 by_cases e6:x.Attempts<0
 ·rw[eM (by omega),Bool.false_and,Bool.false_and]at hitx
  simp -dsimp -implicitDefEqProofs [-getElem?_pos,go_sem,hP,kn,qn,e3,f4,f5,e6,badI hitx]
 have f6:=decide_eq_false e6
 by_cases e7:5<x.Attempts
 ·rw[eM (by omega),Bool.false_and,Bool.false_and]at hitx
  simp -dsimp -implicitDefEqProofs [-getElem?_pos,go_sem,hP,kn,qn,e3,f4,f5,f6,e7,badI hitx]
 have f7:=decide_eq_false e7
 rw[dS.2 (by omega),Bool.true_and]at hitx
 simp -dsimp -implicitDefEqProofs [-getElem?_pos,go_sem,hP,kn,qn,kp,qp,t1,k0,q0,e3,f4,f5,f6,f7]
 obtain⟨y,hy⟩:∃y,y=(js d.Queue x.Payment.Warrant).getD Ff:=⟨_,rfl⟩
 obtain⟨is,his⟩:∃b,b=(js d.Queue x.Payment.Warrant).isSome:=⟨_,rfl⟩
 rw[←hy,←his]at wt
 refine ae (wt.lift _ _) hP Of (by simpa[ar]using iq) (ak (fq _) .sc) ?_
 simp -dsimp -implicitDefEqProofs [-getElem?_pos,go_sem,hP,kn,qn,cPy]
 obtain⟨H2,hH2⟩:∃H2,H2=H1++[some (⟨81,5,[[iv y.Warrant,iv y.Payee,iv y.Amount,iv y.Due,iv y.Sub]]⟩:AObj)]:=⟨_,rfl⟩
 have l2:H2.length=n+3:=by rw[hH2];simp;omega
 have j0:=(show H2[0]?=H1[0]? by rw[hH2,List.getElem?_append_left q0]).trans k0
 have jn:=(show H2[n]?=H1[n]? by rw[hH2,List.getElem?_append_left qn]).trans kn
 have jp:=(show H2[n+1]?=H1[n+1]? by rw[hH2,List.getElem?_append_left qp]).trans kp
 have jy:H2[n+2]?=some (some ⟨81,5,[[iv y.Warrant,iv y.Payee,iv y.Amount,iv y.Due,iv y.Sub]]⟩):=by rw[hH2,←l1,List.getElem?_append_right (Nat.le_refl _),Nat.sub_self];rfl
 have z0:0<H2.length:=by omega
 have zn:n<H2.length:=by omega
 have zp:n+1<H2.length:=by omega
 have zy:n+2<H2.length:=by omega
 rw[←hH2,l1]
 obtain⟨Inv,hInv⟩:∃Inv:St→Prop,Inv=fun s'=>(s'.t 122=bv true∧R=68∨s'.t 122=bv false∧itB x=(!(decide (x.Attempts=5)&&decide (x.State=1))&&!(decide (x.Attempts=0)&&!(decide (x.State=1)||decide (x.State=5)))&&kO d.Account x))∧s'.t 1= .ref 0 0 0∧s'.t 6= .ref n 0 0∧s'.t 7= .ref (n+1) 0 0∧s'.t 37=bI l∧s'.t 38=iv l.length∧s'.t 39=iv k∧s'.H=H2:=⟨_,rfl⟩
 refine nY Inv ?_ ?_
 ·have bad':∀s':St,itB x=false→s'.t 122=bv true→s'.t 1= .ref 0 0 0→s'.t 6= .ref n 0 0→s'.t 7= .ref (n+1) 0 0→s'.t 37=bI l→s'.t 38=iv l.length→s'.t 39=iv k→s'.H=H2→Inv s':=fun s' a b1 b2 b3 b4 b5 b6 b7 b8=>by
   rw[hInv]
   exact⟨.inl ⟨b1,badI a⟩,b2,b3,b4,b5,b6,b7,b8⟩
  rw[nh]at hitx
  cases hwo:js d.Queue x.Payment.Warrant with
  |none=>
   rw[hwo]at hitx his hy
   simp only[Option.isSome_none]at hitx his
   subst his
   by_cases e8:x.State=1
   ·rw[decide_eq_true e8,Bool.not_true,Bool.false_and,Bool.and_false]at hitx
    refine ao (fun _=>true) [] hP (by kernel_rfl) (by kernel_rfl) ?_
    simp -dsimp -implicitDefEqProofs [-getElem?_pos,go_sem,hP,jn,zn,e8]
    exact bad' _ hitx (by simp -dsimp[-getElem?_pos,go_sem]) (by simp -dsimp[-getElem?_pos,go_sem,t1]) (by simp -dsimp[-getElem?_pos,go_sem,hn]) (by simp -dsimp[-getElem?_pos,go_sem,hn]) (by simp -dsimp[-getElem?_pos,go_sem,t37]) (by simp -dsimp[-getElem?_pos,go_sem,t38]) (by simp -dsimp[-getElem?_pos,go_sem,t39]) rfl
   have f8:=decide_eq_false e8
   rw[f8,Bool.not_false,Bool.true_and]at hitx
   refine ao (fun _=>true) [] hP (by kernel_rfl) (by kernel_rfl) ?_
   simp -dsimp -implicitDefEqProofs [-getElem?_pos,go_sem,hP,jn,zn,e8,f8,t1,j0,z0,jp,zp]
   refine ae (bt.lift _ _) hP JI (by simpa[ar]using iq) .sc ?_
   by_cases e10:(mQ d.Queue x.Payment.Warrant:Int)=x.Attempts
   ·have f10:=decide_eq_true e10
    rw[f10,Bool.true_and]at hitx
    simp -dsimp -implicitDefEqProofs [-getElem?_pos,go_sem,hP,e8,f8,f10,jn,zn]
    rw[hInv]
    exact⟨.inr ⟨by simp -dsimp[-getElem?_pos,go_sem],by rw[hitx,f8]⟩,by simp -dsimp[-getElem?_pos,go_sem,t1],by simp -dsimp[-getElem?_pos,go_sem,hn],by simp -dsimp[-getElem?_pos,go_sem,hn],by simp -dsimp[-getElem?_pos,go_sem,t37],by simp -dsimp[-getElem?_pos,go_sem,t38],by simp -dsimp[-getElem?_pos,go_sem,t39],rfl⟩
   ·have f10:=decide_eq_false e10
    rw[f10,Bool.false_and,Bool.and_false]at hitx
    simp -dsimp -implicitDefEqProofs [-getElem?_pos,go_sem,hP,e8,f8,f10,jn,zn]
    exact bad' _ hitx (by simp -dsimp[-getElem?_pos,go_sem]) (by simp -dsimp[-getElem?_pos,go_sem,t1]) (by simp -dsimp[-getElem?_pos,go_sem,hn]) (by simp -dsimp[-getElem?_pos,go_sem,hn]) (by simp -dsimp[-getElem?_pos,go_sem,t37]) (by simp -dsimp[-getElem?_pos,go_sem,t38]) (by simp -dsimp[-getElem?_pos,go_sem,t39]) rfl
  |some w=>
   rw[hwo]at hitx his hy
   simp only[Option.isSome_some,Option.getD_some]at hitx his hy
   subst his
   subst hy
   by_cases e8:x.State=1
   rotate_left
   ·have f8:=decide_eq_false e8
    rw[f8,Bool.false_and,Bool.false_and,Bool.and_false]at hitx
    refine ao (fun _=>true) [] hP (by kernel_rfl) (by kernel_rfl) ?_
    simp -dsimp -implicitDefEqProofs [-getElem?_pos,go_sem,hP,jn,zn,e8,f8]
    exact bad' _ hitx (by simp -dsimp[-getElem?_pos,go_sem]) (by simp -dsimp[-getElem?_pos,go_sem,t1]) (by simp -dsimp[-getElem?_pos,go_sem,hn]) (by simp -dsimp[-getElem?_pos,go_sem,hn]) (by simp -dsimp[-getElem?_pos,go_sem,t37]) (by simp -dsimp[-getElem?_pos,go_sem,t38]) (by simp -dsimp[-getElem?_pos,go_sem,t39]) rfl
   have f8:=decide_eq_true e8
   rw[f8,Bool.true_and]at hitx
   refine ao (fun _=>true) [] hP (by kernel_rfl) (by kernel_rfl) ?_
   simp -dsimp -implicitDefEqProofs [-getElem?_pos,go_sem,hP,jn,zn,e8,f8,t1,j0,z0,jp,zp,jy,zy]
   by_cases e9:y=x.Payment
   rotate_left
   ·have g9:(decide (y.Warrant=x.Payment.Warrant)&&(decide (y.Payee=x.Payment.Payee)&&(decide (y.Amount=x.Payment.Amount)&&(decide (y.Due=x.Payment.Due)&&decide (y.Sub=x.Payment.Sub)))))=false:=Bool.eq_false_iff.2 fun h=>e9 (by
     obtain⟨y1,y2,y3,y4,y5⟩:=y
     simp only[Bool.and_eq_true,decide_eq_true_eq]at h
     rw[h.1,h.2.1,h.2.2.1,h.2.2.2.1,h.2.2.2.2])
    rw[decide_eq_false e9,Bool.false_and,Bool.and_false]at hitx
    simp -dsimp -implicitDefEqProofs [-getElem?_pos,go_sem,hP,g9,e8]
    exact bad' _ hitx (by
     simp -dsimp -implicitDefEqProofs [-getElem?_pos,go_sem,g9]
     exact fun h1 h2 h3 h4 h5=>absurd (LU h1 h2 h3 h4 h5) e9) (by simp -dsimp[-getElem?_pos,go_sem,t1]) (by simp -dsimp[-getElem?_pos,go_sem,hn]) (by simp -dsimp[-getElem?_pos,go_sem,hn]) (by simp -dsimp[-getElem?_pos,go_sem,t37]) (by simp -dsimp[-getElem?_pos,go_sem,t38]) (by simp -dsimp[-getElem?_pos,go_sem,t39]) rfl
   have g9:(decide (y.Warrant=x.Payment.Warrant)&&(decide (y.Payee=x.Payment.Payee)&&(decide (y.Amount=x.Payment.Amount)&&(decide (y.Due=x.Payment.Due)&&decide (y.Sub=x.Payment.Sub)))))=true:=by simp[e9]
   rw[decide_eq_true e9,Bool.true_and]at hitx
   simp -dsimp -implicitDefEqProofs [-getElem?_pos,go_sem,hP,g9,e8,t1,j0,z0,jp,zp]
   refine ae (bt.lift _ _) hP JI (by simpa[ar]using iq) .sc ?_
   by_cases e10:(mQ d.Queue x.Payment.Warrant:Int)=x.Attempts
   ·have f10:=decide_eq_true e10
    rw[f10,Bool.true_and]at hitx
    simp -dsimp -implicitDefEqProofs [-getElem?_pos,go_sem,hP,g9,e8,f10,jn,zn]
    rw[hInv]
    exact⟨.inr ⟨(by simp -dsimp[-getElem?_pos,go_sem,g9];simp[e9]),by rw[hitx,f8]⟩,by simp -dsimp[-getElem?_pos,go_sem,t1],by simp -dsimp[-getElem?_pos,go_sem,hn],by simp -dsimp[-getElem?_pos,go_sem,hn],by simp -dsimp[-getElem?_pos,go_sem,t37],by simp -dsimp[-getElem?_pos,go_sem,t38],by simp -dsimp[-getElem?_pos,go_sem,t39],rfl⟩
   ·have f10:=decide_eq_false e10
    rw[f10,Bool.false_and,Bool.and_false]at hitx
    simp -dsimp -implicitDefEqProofs [-getElem?_pos,go_sem,hP,g9,e8,f10,jn,zn]
    exact bad' _ hitx (by simp -dsimp[-getElem?_pos,go_sem,g9]) (by simp -dsimp[-getElem?_pos,go_sem,t1]) (by simp -dsimp[-getElem?_pos,go_sem,hn]) (by simp -dsimp[-getElem?_pos,go_sem,hn]) (by simp -dsimp[-getElem?_pos,go_sem,t37]) (by simp -dsimp[-getElem?_pos,go_sem,t38]) (by simp -dsimp[-getElem?_pos,go_sem,t39]) rfl
 clear t1 t37 t38 t39
 rw[hInv]
 rintro s ⟨hA,t1,t6,t7,t37,t38,t39,hH⟩
 rcases hA with⟨t122,hA⟩|⟨t122,hA⟩
 ·simp -dsimp -implicitDefEqProofs [-getElem?_pos,go_sem,hP,t122,hA]
 clear hitx
 have fin:itB x=true→∀s':St,s'.t 1= .ref 0 0 0→s'.t 37=bI l→s'.t 38=iv l.length→s'.t 39=iv (k+1)→s'.H[0]?=some (some ⟨35,7,[[iv d.Account.Credit,aL d.Account.Subs,bu d.Account.Entries,aC d.Queue.Waiting,eU K,aX d.Queue.Batches,bI l]]⟩)→∃m',m'<m∧I m' s':=fun e s' b1 b2 b3 b4 b5=>by
  refine⟨l.length-(k+1),by omega,?_⟩
  rw[hI]
  refine⟨k+1,by omega,rfl,?_,?_,b1,b2,b3,b4,b5⟩
  ·rw[oF hx,hmap,bV hw];rfl
  ·rw[bV hx,List.all_append,hall];simp[e]
 rw[kO]at hA
 have ct':=ct hsub
 obtain⟨co,hco⟩:∃c,c=d.Account.Entries.countP (eT x.Payment):=⟨_,rfl⟩
 obtain⟨ci,hci⟩:∃c,c=d.Account.Entries.countP (inE x.Payment):=⟨_,rfl⟩
 obtain⟨allE,hal⟩:∃c,c=d.Account.Entries.all (okE x.Payment):=⟨_,rfl⟩
 rw[←hco,←hci,←hal]at hA ct'
 by_cases e11:x.Attempts=5
 ·have f11:=decide_eq_true e11
  have f13:decide (x.Attempts=0)=false:=decide_eq_false (by omega)
  by_cases e12:x.State=1
  ·have f12:=decide_eq_true e12
   rw[f11,f12,Bool.and_self,Bool.not_true,Bool.false_and,Bool.false_and]at hA
   simp -dsimp -implicitDefEqProofs [-getElem?_pos,go_sem,hP,t122,t6,hH,jn,zn,e11,e12,badI hA]
  have f12:=decide_eq_false e12
  rw[f11,f12,f13,Bool.and_false,Bool.not_false,Bool.true_and,Bool.false_and,Bool.not_false,Bool.true_and]at hA
  simp -dsimp -implicitDefEqProofs [-getElem?_pos,go_sem,hP,t122,t6,hH,jn,zn,f11,f12,f13,t1,j0,z0,t7,jp,zp]
  refine ae (ct'.lift _ _) hP zh (by simpa using⟨ia,ip⟩) (eP .sc .sc .sc) ?_
  cases ea:allE
  ·rw[ea,Bool.false_and]at hA
   rcases (show x.State=2∨x.State=3∨(¬x.State=2∧¬x.State=3) by omega)with s2|s3|⟨s2,s3⟩
   ·simp -dsimp -implicitDefEqProofs [-getElem?_pos,go_sem,hP,t6,jn,zn,s2,badI hA]
   ·simp -dsimp -implicitDefEqProofs [-getElem?_pos,go_sem,hP,t6,jn,zn,s3,badI hA]
   ·have s2d:=decide_eq_false s2
    have s3d:=decide_eq_false s3
    simp -dsimp -implicitDefEqProofs [-getElem?_pos,go_sem,hP,t6,jn,zn,s2,s3,s2d,s3d,badI hA]
  rw[ea,Bool.true_and]at hA
  rcases (show x.State=2∨x.State=3∨(¬x.State=2∧¬x.State=3) by omega)with s2|s3|⟨s2,s3⟩
  ·have hg:dW x=1:=by simp[dW,gO,s2]
   have wg:=af (x.Attempts-1) (by omega)
   have wg:IntKind.i64.wrap (x.Attempts-1)=x.Attempts-1:=wg
   rw[hg]at hA
   by_cases g1:(co:Int)=x.Attempts
   rotate_left
   ·have g2:=decide_eq_false g1
    rw[g2,Bool.false_and]at hA
    simp -dsimp -implicitDefEqProofs [-getElem?_pos,go_sem,hP,t6,s2,g2,g1,jn,zn,badI hA]
   have g2:=decide_eq_true g1
   rw[g2,Bool.true_and]at hA
   by_cases g3:(ci:Int)=x.Attempts-1
   ·have g4:decide ((ci:Int)=x.Attempts-1)=true:=decide_eq_true g3
    rw[decide_eq_true (by omega)]at hA
    simp -dsimp -implicitDefEqProofs [-getElem?_pos,go_sem,hP,t6,s2,g2,g4,wg,jn,zn,t39,wk]
    exact fin hA _ (by simp -dsimp[-getElem?_pos,go_sem,t1]) (by simp -dsimp[-getElem?_pos,go_sem,t37]) (by simp -dsimp[-getElem?_pos,go_sem,t38]) (by simp -dsimp[-getElem?_pos,go_sem]) (by simp -dsimp[-getElem?_pos,go_sem,j0])
   ·have g4:decide ((ci:Int)=x.Attempts-1)=false:=decide_eq_false g3
    rw[decide_eq_false (by omega)]at hA
    simp -dsimp -implicitDefEqProofs [-getElem?_pos,go_sem,hP,t6,s2,g2,g4,wg,jn,zn,badI hA]
  ·have hg:dW x=1:=by simp[dW,gO,s3]
   have wg:=af (x.Attempts-1) (by omega)
   have wg:IntKind.i64.wrap (x.Attempts-1)=x.Attempts-1:=wg
   rw[hg]at hA
   by_cases g1:(co:Int)=x.Attempts
   rotate_left
   ·have g2:=decide_eq_false g1
    rw[g2,Bool.false_and]at hA
    simp -dsimp -implicitDefEqProofs [-getElem?_pos,go_sem,hP,t6,s3,g2,g1,jn,zn,badI hA]
   have g2:=decide_eq_true g1
   rw[g2,Bool.true_and]at hA
   by_cases g3:(ci:Int)=x.Attempts-1
   ·have g4:decide ((ci:Int)=x.Attempts-1)=true:=decide_eq_true g3
    rw[decide_eq_true (by omega)]at hA
    simp -dsimp -implicitDefEqProofs [-getElem?_pos,go_sem,hP,t6,s3,g2,g4,wg,jn,zn,t39,wk]
    exact fin hA _ (by simp -dsimp[-getElem?_pos,go_sem,t1]) (by simp -dsimp[-getElem?_pos,go_sem,t37]) (by simp -dsimp[-getElem?_pos,go_sem,t38]) (by simp -dsimp[-getElem?_pos,go_sem]) (by simp -dsimp[-getElem?_pos,go_sem,j0])
   ·have g4:decide ((ci:Int)=x.Attempts-1)=false:=decide_eq_false g3
    rw[decide_eq_false (by omega)]at hA
    simp -dsimp -implicitDefEqProofs [-getElem?_pos,go_sem,hP,t6,s3,g2,g4,wg,jn,zn,badI hA]
  ·have s2d:=decide_eq_false s2
   have s3d:=decide_eq_false s3
   have hg:dW x=0:=by simp[dW,gO,s2,s3]
   have wg:=af x.Attempts (by omega)
   rw[hg]at hA
   by_cases g1:(co:Int)=x.Attempts
   rotate_left
   ·have g2:=decide_eq_false g1
    rw[g2,Bool.false_and]at hA
    simp -dsimp -implicitDefEqProofs [-getElem?_pos,go_sem,hP,t6,s2,s3,s2d,s3d,g2,g1,jn,zn,badI hA]
   have g2:=decide_eq_true g1
   rw[g2,Bool.true_and]at hA
   by_cases g3:(ci:Int)=x.Attempts
   ·have g4:decide ((ci:Int)=x.Attempts)=true:=decide_eq_true g3
    rw[decide_eq_true (by omega)]at hA
    simp -dsimp -implicitDefEqProofs [-getElem?_pos,go_sem,hP,t6,s2,s3,s2d,s3d,g2,g4,wg,jn,zn,t39,wk]
    exact fin hA _ (by simp -dsimp[-getElem?_pos,go_sem,t1]) (by simp -dsimp[-getElem?_pos,go_sem,t37]) (by simp -dsimp[-getElem?_pos,go_sem,t38]) (by simp -dsimp[-getElem?_pos,go_sem]) (by simp -dsimp[-getElem?_pos,go_sem,j0])
   ·have g4:decide ((ci:Int)=x.Attempts)=false:=decide_eq_false g3
    rw[decide_eq_false (by omega)]at hA
    simp -dsimp -implicitDefEqProofs [-getElem?_pos,go_sem,hP,t6,s2,s3,s2d,s3d,g2,g4,wg,jn,zn,badI hA]
 have f11:=decide_eq_false e11
 by_cases e13:x.Attempts=0
 ·have f13:=decide_eq_true e13
  by_cases e12:x.State=1
  ·have f12:=decide_eq_true e12
   rw[f11,f12,f13,Bool.false_and,Bool.not_false,Bool.true_and,Bool.true_or,Bool.not_true,Bool.and_false,Bool.not_false,Bool.true_and]at hA
   simp -dsimp -implicitDefEqProofs [-getElem?_pos,go_sem,hP,t122,t6,hH,jn,zn,f11,f13,e12,t1,j0,z0,t7,jp,zp]
   refine ae (ct'.lift _ _) hP zh (by simpa using⟨ia,ip⟩) (eP .sc .sc .sc) ?_
   cases ea:allE
   ·rw[ea,Bool.false_and]at hA
    simp -dsimp -implicitDefEqProofs [-getElem?_pos,go_sem,hP,t6,jn,zn,e12,badI hA]
   rw[ea,Bool.true_and]at hA
   have hg:dW x=0:=by simp[dW,gO,e12]
   have wg:=af x.Attempts (by omega)
   rw[hg]at hA
   by_cases g1:(co:Int)=x.Attempts
   rotate_left
   ·have g2:=decide_eq_false g1
    rw[g2,Bool.false_and]at hA
    simp -dsimp -implicitDefEqProofs [-getElem?_pos,go_sem,hP,t6,e12,g2,g1,jn,zn,badI hA]
   have g2:=decide_eq_true g1
   rw[g2,Bool.true_and]at hA
   by_cases g3:(ci:Int)=x.Attempts
   ·have g4:decide ((ci:Int)=x.Attempts)=true:=decide_eq_true g3
    rw[decide_eq_true (by omega)]at hA
    simp -dsimp -implicitDefEqProofs [-getElem?_pos,go_sem,hP,t6,e12,g2,g4,wg,jn,zn,t39,wk]
    exact fin hA _ (by simp -dsimp[-getElem?_pos,go_sem,t1]) (by simp -dsimp[-getElem?_pos,go_sem,t37]) (by simp -dsimp[-getElem?_pos,go_sem,t38]) (by simp -dsimp[-getElem?_pos,go_sem]) (by simp -dsimp[-getElem?_pos,go_sem,j0])
   ·have g4:decide ((ci:Int)=x.Attempts)=false:=decide_eq_false g3
    rw[decide_eq_false (by omega)]at hA
    simp -dsimp -implicitDefEqProofs [-getElem?_pos,go_sem,hP,t6,e12,g2,g4,wg,jn,zn,badI hA]
  have f12':=decide_eq_false e12
  have n12:=e12
  clear e12
  by_cases e12:x.State=5
  ·have f12:=decide_eq_true e12
   rw[f11,f12',f12,f13,Bool.false_and,Bool.not_false,Bool.true_and,Bool.or_true,Bool.not_true,Bool.and_false,Bool.not_false,Bool.true_and]at hA
   simp -dsimp -implicitDefEqProofs [-getElem?_pos,go_sem,hP,t122,t6,hH,jn,zn,f11,f13,e12,t1,j0,z0,t7,jp,zp]
   refine ae (ct'.lift _ _) hP zh (by simpa using⟨ia,ip⟩) (eP .sc .sc .sc) ?_
   cases ea:allE
   ·rw[ea,Bool.false_and]at hA
    simp -dsimp -implicitDefEqProofs [-getElem?_pos,go_sem,hP,t6,jn,zn,e12,badI hA]
   rw[ea,Bool.true_and]at hA
   have hg:dW x=0:=by simp[dW,gO,e12]
   have wg:=af x.Attempts (by omega)
   rw[hg]at hA
   by_cases g1:(co:Int)=x.Attempts
   rotate_left
   ·have g2:=decide_eq_false g1
    rw[g2,Bool.false_and]at hA
    simp -dsimp -implicitDefEqProofs [-getElem?_pos,go_sem,hP,t6,e12,g2,g1,jn,zn,badI hA]
   have g2:=decide_eq_true g1
   rw[g2,Bool.true_and]at hA
   by_cases g3:(ci:Int)=x.Attempts
   ·have g4:decide ((ci:Int)=x.Attempts)=true:=decide_eq_true g3
    rw[decide_eq_true (by omega)]at hA
    simp -dsimp -implicitDefEqProofs [-getElem?_pos,go_sem,hP,t6,e12,g2,g4,wg,jn,zn,t39,wk]
    exact fin hA _ (by simp -dsimp[-getElem?_pos,go_sem,t1]) (by simp -dsimp[-getElem?_pos,go_sem,t37]) (by simp -dsimp[-getElem?_pos,go_sem,t38]) (by simp -dsimp[-getElem?_pos,go_sem]) (by simp -dsimp[-getElem?_pos,go_sem,j0])
   ·have g4:decide ((ci:Int)=x.Attempts)=false:=decide_eq_false g3
    rw[decide_eq_false (by omega)]at hA
    simp -dsimp -implicitDefEqProofs [-getElem?_pos,go_sem,hP,t6,e12,g2,g4,wg,jn,zn,badI hA]
  have f12:=decide_eq_false e12
  rw[f11,f12',f12,f13,Bool.false_and,Bool.not_false,Bool.or_self,Bool.not_false,Bool.and_self,Bool.not_true,Bool.and_false,Bool.false_and]at hA
  simp -dsimp -implicitDefEqProofs [-getElem?_pos,go_sem,hP,t122,t6,hH,jn,zn,f11,f13,f12',f12,badI hA]
 have f13:=decide_eq_false e13
 rw[f11,f13,Bool.false_and,Bool.false_and,Bool.not_false,Bool.true_and,Bool.true_and]at hA
 simp -dsimp -implicitDefEqProofs [-getElem?_pos,go_sem,hP,t122,t6,hH,jn,zn,f11,f13,t1,j0,z0,t7,jp,zp]
 refine ae (ct'.lift _ _) hP zh (by simpa using⟨ia,ip⟩) (eP .sc .sc .sc) ?_
 cases ea:allE
 ·rw[ea,Bool.false_and]at hA
  rcases (show x.State=2∨x.State=3∨(¬x.State=2∧¬x.State=3) by omega)with s2|s3|⟨s2,s3⟩
  ·simp -dsimp -implicitDefEqProofs [-getElem?_pos,go_sem,hP,t6,jn,zn,s2,badI hA]
  ·simp -dsimp -implicitDefEqProofs [-getElem?_pos,go_sem,hP,t6,jn,zn,s3,badI hA]
  ·have s2d:=decide_eq_false s2
   have s3d:=decide_eq_false s3
   simp -dsimp -implicitDefEqProofs [-getElem?_pos,go_sem,hP,t6,jn,zn,s2,s3,s2d,s3d,badI hA]
 rw[ea,Bool.true_and]at hA
 rcases (show x.State=2∨x.State=3∨(¬x.State=2∧¬x.State=3) by omega)with s2|s3|⟨s2,s3⟩
 ·have hg:dW x=1:=by simp[dW,gO,s2]
  have wg:=af (x.Attempts-1) (by omega)
  have wg:IntKind.i64.wrap (x.Attempts-1)=x.Attempts-1:=wg
  rw[hg]at hA
  by_cases g1:(co:Int)=x.Attempts
  rotate_left
  ·have g2:=decide_eq_false g1
   rw[g2,Bool.false_and]at hA
   simp -dsimp -implicitDefEqProofs [-getElem?_pos,go_sem,hP,t6,s2,g2,g1,jn,zn,badI hA]
  have g2:=decide_eq_true g1
  rw[g2,Bool.true_and]at hA
  by_cases g3:(ci:Int)=x.Attempts-1
  ·have g4:decide ((ci:Int)=x.Attempts-1)=true:=decide_eq_true g3
   rw[decide_eq_true (by omega)]at hA
   simp -dsimp -implicitDefEqProofs [-getElem?_pos,go_sem,hP,t6,s2,g2,g4,wg,jn,zn,t39,wk]
   exact fin hA _ (by simp -dsimp[-getElem?_pos,go_sem,t1]) (by simp -dsimp[-getElem?_pos,go_sem,t37]) (by simp -dsimp[-getElem?_pos,go_sem,t38]) (by simp -dsimp[-getElem?_pos,go_sem]) (by simp -dsimp[-getElem?_pos,go_sem,j0])
  ·have g4:decide ((ci:Int)=x.Attempts-1)=false:=decide_eq_false g3
   rw[decide_eq_false (by omega)]at hA
   simp -dsimp -implicitDefEqProofs [-getElem?_pos,go_sem,hP,t6,s2,g2,g4,wg,jn,zn,badI hA]
 ·have hg:dW x=1:=by simp[dW,gO,s3]
  have wg:=af (x.Attempts-1) (by omega)
  have wg:IntKind.i64.wrap (x.Attempts-1)=x.Attempts-1:=wg
  rw[hg]at hA
  by_cases g1:(co:Int)=x.Attempts
  rotate_left
  ·have g2:=decide_eq_false g1
   rw[g2,Bool.false_and]at hA
   simp -dsimp -implicitDefEqProofs [-getElem?_pos,go_sem,hP,t6,s3,g2,g1,jn,zn,badI hA]
  have g2:=decide_eq_true g1
  rw[g2,Bool.true_and]at hA
  by_cases g3:(ci:Int)=x.Attempts-1
  ·have g4:decide ((ci:Int)=x.Attempts-1)=true:=decide_eq_true g3
   rw[decide_eq_true (by omega)]at hA
   simp -dsimp -implicitDefEqProofs [-getElem?_pos,go_sem,hP,t6,s3,g2,g4,wg,jn,zn,t39,wk]
   exact fin hA _ (by simp -dsimp[-getElem?_pos,go_sem,t1]) (by simp -dsimp[-getElem?_pos,go_sem,t37]) (by simp -dsimp[-getElem?_pos,go_sem,t38]) (by simp -dsimp[-getElem?_pos,go_sem]) (by simp -dsimp[-getElem?_pos,go_sem,j0])
  ·have g4:decide ((ci:Int)=x.Attempts-1)=false:=decide_eq_false g3
   rw[decide_eq_false (by omega)]at hA
   simp -dsimp -implicitDefEqProofs [-getElem?_pos,go_sem,hP,t6,s3,g2,g4,wg,jn,zn,badI hA]
 ·have s2d:=decide_eq_false s2
  have s3d:=decide_eq_false s3
  have hg:dW x=0:=by simp[dW,gO,s2,s3]
  have wg:=af x.Attempts (by omega)
  rw[hg]at hA
  by_cases g1:(co:Int)=x.Attempts
  rotate_left
  ·have g2:=decide_eq_false g1
   rw[g2,Bool.false_and]at hA
   simp -dsimp -implicitDefEqProofs [-getElem?_pos,go_sem,hP,t6,s2,s3,s2d,s3d,g2,g1,jn,zn,badI hA]
  have g2:=decide_eq_true g1
  rw[g2,Bool.true_and]at hA
  by_cases g3:(ci:Int)=x.Attempts
  ·have g4:decide ((ci:Int)=x.Attempts)=true:=decide_eq_true g3
   rw[decide_eq_true (by omega)]at hA
   simp -dsimp -implicitDefEqProofs [-getElem?_pos,go_sem,hP,t6,s2,s3,s2d,s3d,g2,g4,wg,jn,zn,t39,wk]
   exact fin hA _ (by simp -dsimp[-getElem?_pos,go_sem,t1]) (by simp -dsimp[-getElem?_pos,go_sem,t37]) (by simp -dsimp[-getElem?_pos,go_sem,t38]) (by simp -dsimp[-getElem?_pos,go_sem]) (by simp -dsimp[-getElem?_pos,go_sem,j0])
  ·have g4:decide ((ci:Int)=x.Attempts)=false:=decide_eq_false g3
   rw[decide_eq_false (by omega)]at hA
   simp -dsimp -implicitDefEqProofs [-getElem?_pos,go_sem,hP,t6,s2,s3,s2d,s3d,g2,g4,wg,jn,zn,badI hA]
open Go.PA
open Go.RowKit
abbrev mF:TItem:=⟨Ff,0,0⟩
def gc (d:TDesk) (w st:Int):Int×TItem×Int:=
 if bH d=0 then (match d.Items[(qK d.Items w).toNat]? with
  |none=>(0,mF,6)
  |some x=>if qK d.Items w<0 then (0,mF,6)else if x.State=st then (qK d.Items w,x,0)else (0,mF,67))else (0,mF,bH d)
theorem uz {d:TDesk} {w st:Int} (h:bH d=0) (hw:w∉d.Items.map wrt):gc d w st=(0,mF,6):=by
 rw[gc,if_pos h]
 split
 ·rfl
 ·rw[if_pos (by rw[rK hw];omega)]
theorem qb {d:TDesk} {st:Int} (h:bH d=0) {k:Nat} {x:TItem} (hx:d.Items[k]?=some x):gc d x.Payment.Warrant st=if x.State=st then ((k:Int),x,0)else (0,mF,67):=by
 have hp:=uc (dK.1 h).nd hx
 rw[gc,if_pos h,hp,Int.toNat_natCast,hx]
 simp only
 rw[if_neg (by omega)]
theorem pI (d:TDesk) (w st:Int):((gc d w st).2.2≠0∧∀f,gk d w st f=(cR,(gc d w st).2.2))∨∃(k:Nat) (x:TItem),gc d w st=((k:Int),x,0)∧bH d=0∧d.Items[k]?=some x∧x.Payment.Warrant=w∧x.State=st∧∀f:TDesk→TItem→Done1,gk d w st f=if (f d x).e=0 then (⟨(f d x).a,(f d x).q,d.Items.set k (f d x).x⟩,0)else (cR,(f d x).e):=by
 by_cases c1:bH d=0
 rotate_left
 ·have:gc d w st=(0,mF,bH d):=by rw[gc,if_neg c1]
  rw[this]
  exact .inl ⟨c1,fun f=>sU c1⟩
 by_cases c2:w∈d.Items.map wrt
 rotate_left
 ·rw[uz c1 c2]
  exact .inl ⟨by decide,fun f=>qt c1 c2⟩
 obtain⟨x,hx,e⟩:=List.mem_map.1 c2
 obtain⟨k,hk⟩:=List.getElem?_of_mem hx
 have e:x.Payment.Warrant=w:=e
 subst e
 by_cases c3:x.State=st
 ·refine .inr ⟨k,x,by rw[qb c1 hk,if_pos c3],c1,hk,rfl,c3,fun f=>by rw[pL c1 hk,if_pos c3]⟩
 ·refine .inl ⟨by rw[qb c1 hk,if_neg c3];decide,fun f=>by rw[pL c1 hk,if_neg c3,qb c1 hk,if_neg c3]⟩
theorem ud (d:TDesk) (i:Nat) (x:TItem) (hl:d.Items.length≤100000) (hi:i<d.Items.length):PFun Tryz.prog none none 223 [.agg d.cells,iv i,.agg x.cells] (·= .agg (TDesk.mk d.Account d.Queue (d.Items.set i x)).cells):=by
 refine ab Tryz.func223 rfl (by simp[Tryz.f223]) (by kernel_rfl) ?_
 intro E hP hr hs hW hN
 have i1:=aY d.Account.Subs
 have i2:=fe d.Account.Entries
 have i3:=cg d.Queue.Waiting
 have i4:=fY d.Queue.Known
 have i5:=jc d.Queue.Batches
 have hle:(aj TItem.cells d.Items).length=d.Items.length:=al _ _
 have es:=fD TItem.cells d.Items i x
 rw[cIt]at es
 have hne:¬d.Items.length=0:=by omega
 obtain⟨z,hz⟩:∃z,d.Items[i]?=some z:=⟨_,List.getElem?_eq_getElem hi⟩
 simp -dsimp -implicitDefEqProofs [-getElem?_pos,go_sem,hP,cDn,cIt,hle,hne,hi,hz,es]
 refine⟨by omega,by omega,?_⟩
 refine AQ (cs':=TDesk.cells ⟨d.Account,d.Queue,d.Items.set i x⟩) ?_ rfl
 exact yA (di i1 (di i2 (di i3 (di i4 (di i5 (da (ty:=83) rfl (by rw[al,List.length_set]) (yJ _) .nil))))))
set_option maxHeartbeats 1000000 in
theorem vZ (d:TDesk) (w st:Int) (hf:FitD d):PFun Tryz.prog none none 224 [.agg d.cells,iv w,iv st] (·= .tup [iv (gc d w st).1,.agg (gc d w st).2.1.cells,iv (gc d w st).2.2]):=by
 refine ab Tryz.func224 rfl (by simp[Tryz.f224]) (by kernel_rfl) ?_
 intro E hP hr hs hW hN
 have li:=hf.i
 have id':=dO d
 have ck:=nw d hf
 have rt:=Ks d w (by omega)
 rw[cDn]at id' ck rt
 obtain⟨R,hR⟩:∃R,R=AV.tup [iv (gc d w st).1,.agg (gc d w st).2.1.cells,iv (gc d w st).2.2]:=⟨_,rfl⟩
 rw[←hR]
 have zer:∀n,gc d w st=(0,mF,n)→AV.tup [iv 0,.agg mF.cells,iv n]=R:=fun n h=>by rw[hR,h]
 have iz:∀n,Imm (.tup [iv 0,.agg mF.cells,iv n]):=fun n=>eP .sc (eS mF) .sc
 simp -dsimp -implicitDefEqProofs [-getElem?_pos,go_sem,hP,cDn]
 refine ae (ck.lift _ _) hP En (by simpa using id') .sc ?_
 by_cases c1:bH d=0
 rotate_left
 ·have:gc d w st=(0,mF,bH d):=by rw[gc,if_neg c1]
  simp -dsimp -implicitDefEqProofs [-getElem?_pos,go_sem,hP,c1]
  exact aw (iz _) (zer _ this)
 simp -dsimp -implicitDefEqProofs [-getElem?_pos,go_sem,hP,c1]
 refine ae (rt.lift _ _) hP IW (by simpa[ar]using id') .sc ?_
 by_cases c2:w∈d.Items.map wrt
 rotate_left
 ·have h:=uz (st:=st) c1 c2
  have hp:=rK c2
  simp -dsimp -implicitDefEqProofs [-getElem?_pos,go_sem,hP,hp]
  exact aw (iz _) (zer _ h)
 obtain⟨x,hx,e⟩:=List.mem_map.1 c2
 obtain⟨k,hk⟩:=List.getElem?_of_mem hx
 have e:x.Payment.Warrant=w:=e
 have hp:=uc (dK.1 c1).nd hk
 have hfi:=qb (st:=st) c1 hk
 rw[e]at hp hfi
 have d0:decide ((k:Int)<0)=false:=decide_eq_false (by omega)
 by_cases c3:x.State=st
 rotate_left
 ·have d3:=decide_eq_false c3
  rw[if_neg c3]at hfi
  simp -dsimp -implicitDefEqProofs [-getElem?_pos,go_sem,hP,hp,d0,hk,cIt,d3]
  exact aw (iz _) (zer _ hfi)
 rw[if_pos c3]at hfi
 simp -dsimp -implicitDefEqProofs [-getElem?_pos,go_sem,hP,hp,d0,hk,cIt,c3]
 refine ao (fun i=>decide (i=0)) [7] hP (by kernel_rfl) (by kernel_rfl) ?_
 simp -dsimp -implicitDefEqProofs [-getElem?_pos,go_sem,hP,hp,d0,hk,cIt,c3]
 refine aw (eP .sc (by have:=eS x;rw[cIt,c3]at this;exact this) .sc) ?_
 rw[hR,hfi,←c3]
 rfl
open Go.PA
open Go.RowKit
theorem CI (d:TDesk) (w:Int) (hf:FitD d):PFun Tryz.prog none none 152 [.agg d.cells,iv w] (·= .tup [.agg (ez d w).1.cells,iv (ez d w).2]):=by
 refine ab Tryz.func152 rfl (by simp[Tryz.f152]) (by kernel_rfl) ?_
 intro E hP hr hs hW hN
 have li:=hf.i
 have id':=dO d
 have fi:=vZ d w 2 hf
 have ifi:=eS (gc d w 2).2.1
 rw[cDn]at id' fi
 rw[cIt]at ifi fi
 obtain⟨R,hR⟩:∃R,R=AV.tup [.agg (ez d w).1.cells,iv (ez d w).2]:=⟨_,rfl⟩
 rw[←hR]
 simp -dsimp -implicitDefEqProofs [-getElem?_pos,go_sem,hP,cDn]
 refine ae (fi.lift _ _) hP EM (by simpa[ar]using id') (eP .sc ifi .sc) ?_
 rcases pI d w 2 with⟨h1,h2⟩|⟨k,x,h1,h2,h3,h4,h5,h6⟩
 ·have d1:=decide_eq_false h1
  simp -dsimp -implicitDefEqProofs [-getElem?_pos,go_sem,hP,d1]
  refine eY ?_
  rw[hR,ez,h2]
 have hil:=(gsI h3)
 have wt:=ud d k ⟨x.Payment,3,x.Attempts⟩ li hil
 have io:=dO (TDesk.mk d.Account d.Queue (d.Items.set k ⟨x.Payment,3,x.Attempts⟩))
 have ia:=eS ⟨x.Payment,3,x.Attempts⟩
 simp only[cDn,cIt]at wt io ia
 rw[h1]
 simp -dsimp -implicitDefEqProofs [-getElem?_pos,go_sem,hP]
 refine ae (wt.lift _ _) hP zg (by simpa[ar]using⟨id',ia⟩) io ?_
 simp -dsimp -implicitDefEqProofs [-getElem?_pos,go_sem,hP]
 refine aw (ak io .sc) ?_
 rw[hR,ez,h6]
 rfl
theorem Cg (d:TDesk) (w:Int) (hf:FitD d):PFun Tryz.prog none none 154 [.agg d.cells,iv w] (·= .tup [.agg (eD d w).1.cells,iv (eD d w).2]):=by
 refine ab Tryz.func154 rfl (by simp[Tryz.f154]) (by kernel_rfl) ?_
 intro E hP hr hs hW hN
 have li:=hf.i
 have id':=dO d
 have fi:=vZ d w 1 hf
 have ifi:=eS (gc d w 1).2.1
 have iq:=dr d.Queue
 have dp:=H8 d.Queue w hf.q
 have idp:=dr (fR d.Queue w).1
 rw[cDn]at id' fi
 rw[cIt]at ifi fi
 simp only[cQn]at iq dp idp
 obtain⟨R,hR⟩:∃R,R=AV.tup [.agg (eD d w).1.cells,iv (eD d w).2]:=⟨_,rfl⟩
 rw[←hR]
 simp -dsimp -implicitDefEqProofs [-getElem?_pos,go_sem,hP,cDn]
 refine ae (fi.lift _ _) hP EM (by simpa[ar]using id') (eP .sc ifi .sc) ?_
 rcases pI d w 1 with⟨h1,h2⟩|⟨k,x,h1,h2,h3,h4,h5,h6⟩
 ·have d1:=decide_eq_false h1
  simp -dsimp -implicitDefEqProofs [-getElem?_pos,go_sem,hP,d1]
  refine eY ?_
  rw[hR,eD,h2]
 have hil:=(gsI h3)
 have hr6:=h6 (zR w)
 rw[←eD]at hr6
 have hef:zR w d x=⟨d.Account,(fR d.Queue w).1,⟨x.Payment,5,x.Attempts⟩,(fR d.Queue w).2⟩:=rfl
 rw[hef]at hr6
 simp only at hr6
 rw[h1]
 simp -dsimp -implicitDefEqProofs [-getElem?_pos,go_sem,hP]
 refine ae (dp.lift _ _) hP Pp (by simpa[ar]using iq) (ak idp .sc) ?_
 by_cases c1:(fR d.Queue w).2=0
 rotate_left
 ·have d1:=decide_eq_false c1
  rw[if_neg c1]at hr6
  simp -dsimp -implicitDefEqProofs [-getElem?_pos,go_sem,hP,d1]
  refine eY ?_
  rw[hR,hr6]
 rw[if_pos c1]at hr6
 have wt:=ud ⟨d.Account,(fR d.Queue w).1,d.Items⟩ k ⟨x.Payment,5,x.Attempts⟩ li hil
 have iw:=dO ⟨d.Account,(fR d.Queue w).1,d.Items⟩
 have io:=dO (TDesk.mk d.Account (fR d.Queue w).1 (d.Items.set k ⟨x.Payment,5,x.Attempts⟩))
 have ia:=eS ⟨x.Payment,5,x.Attempts⟩
 simp only[cDn,cIt]at wt io ia iw
 simp -dsimp -implicitDefEqProofs [-getElem?_pos,go_sem,hP,c1]
 refine ae (wt.lift _ _) hP zg (by simpa[ar]using⟨iw,ia⟩) io ?_
 simp -dsimp -implicitDefEqProofs [-getElem?_pos,go_sem,hP]
 refine aw (ak io .sc) ?_
 rw[hR,hr6]
 rfl
theorem AR (d:TDesk) (w day:Int) (hf:FitD d):PFun Tryz.prog none none 153 [.agg d.cells,iv w,iv day] (·= .tup [.agg (eu d w day).1.cells,iv (eu d w day).2]):=by
 refine ab Tryz.func153 rfl (by simp[Tryz.f153]) (by kernel_rfl) ?_
 intro E hP hr hs hW hN
 have li:=hf.i
 have id':=dO d
 have fi:=vZ d w 2 hf
 have ifi:=eS (gc d w 2).2.1
 have iac:=cV d.Account
 rw[cDn]at id' fi
 rw[cIt]at ifi fi
 simp only[cA]at iac
 obtain⟨R,hR⟩:∃R,R=AV.tup [.agg (eu d w day).1.cells,iv (eu d w day).2]:=⟨_,rfl⟩
 rw[←hR]
 simp -dsimp -implicitDefEqProofs [-getElem?_pos,go_sem,hP,cDn]
 refine ae (fi.lift _ _) hP EM (by simpa[ar]using id') (eP .sc ifi .sc) ?_
 rcases pI d w 2 with⟨h1,h2⟩|⟨k,x,h1,h2,h3,h4,h5,h6⟩
 ·have d1:=decide_eq_false h1
  simp -dsimp -implicitDefEqProofs [-getElem?_pos,go_sem,hP,d1]
  refine eY ?_
  rw[hR,eu,h2]
 have hil:=(gsI h3)
 have hr6:=h6 (uh w day)
 rw[←eu]at hr6
 have nx:=rJ d.Account day 0 x.Payment.Sub x.Payment.Amount w hf.e
 obtain⟨e,hee⟩:∃e,e=bT d.Account day 0 x.Payment.Sub x.Payment.Amount w:=⟨_,rfl⟩
 have hef:uh w day d x=⟨(bF d.Account e).1,d.Queue,⟨x.Payment,4,x.Attempts⟩,(bF d.Account e).2⟩:=by rw[uh,hee]
 rw[hef]at hr6
 simp only at hr6
 rw[←hee]at nx
 have ie:=eC e
 have po:=rT d.Account e hf.s hf.e
 have ipo:=cV (bF d.Account e).1
 simp only[cA]at nx po ipo
 rw[h1]
 simp -dsimp -implicitDefEqProofs [-getElem?_pos,go_sem,hP]
 refine sa (fun i=>decide (i<3)) [18] [12,13] hP (by kernel_rfl) (by kernel_rfl) ?_
 simp -dsimp -implicitDefEqProofs [-getElem?_pos,go_sem,hP]
 refine ke (nx.lift _ _) hP Dx (by simpa[ar]using iac) ie ?_
 simp -dsimp -implicitDefEqProofs [-getElem?_pos,go_sem,hP]
 refine ke (po.lift _ _) hP EK (by simpa using⟨iac,ie⟩) (ak ipo .sc) ?_
 simp -dsimp -implicitDefEqProofs [-getElem?_pos,go_sem,hP]
 refine⟨um,?_⟩
 by_cases c1:(bF d.Account e).2=0
 rotate_left
 ·have d1:=decide_eq_false c1
  rw[if_neg c1]at hr6
  simp -dsimp -implicitDefEqProofs [-getElem?_pos,go_sem,hP,d1]
  refine eY ?_
  rw[hR,hr6]
 rw[if_pos c1]at hr6
 have wt:=ud ⟨(bF d.Account e).1,d.Queue,d.Items⟩ k ⟨x.Payment,4,x.Attempts⟩ li hil
 have iw:=dO ⟨(bF d.Account e).1,d.Queue,d.Items⟩
 have io:=dO (TDesk.mk (bF d.Account e).1 d.Queue (d.Items.set k ⟨x.Payment,4,x.Attempts⟩))
 have ia:=eS ⟨x.Payment,4,x.Attempts⟩
 simp only[cDn,cIt]at wt io ia iw
 simp -dsimp -implicitDefEqProofs [-getElem?_pos,go_sem,hP,c1]
 refine ae (wt.lift _ _) hP zg (by simpa[ar]using⟨iw,ia⟩) io ?_
 simp -dsimp -implicitDefEqProofs [-getElem?_pos,go_sem,hP]
 refine aw (ak io .sc) ?_
 rw[hR,hr6]
 rfl
open Go.PA
open Go.RowKit
set_option maxHeartbeats 4000000 in
theorem Ee (d:TDesk) (p:TPayment) (hf:FitD d):PFun Tryz.prog none none 150 [.agg d.cells,.agg p.cells] (·= .tup [.agg (dq d p).1.cells,iv (dq d p).2]):=by
 refine ab Tryz.func150 rfl (by simp[Tryz.f150]) (by kernel_rfl) ?_
 intro E hP hr hs hW hN
 have li:=hf.i
 have le:=hf.e
 have id':=dO d
 have ia:=cV d.Account
 have iq:=dr d.Queue
 have ip:=fq p
 have ck:=nw d hf
 have ad:=JO d.Queue p hf.q
 have io:=dr (jh d.Queue p).1
 have bl:=qR d.Account p.Sub hf.s hf.e
 simp only[cDn]at id' ck
 simp only[cA]at ia bl
 simp only[cQn,cPy]at iq ip ad io
 obtain⟨R,hR⟩:∃R,R=AV.tup [.agg (dq d p).1.cells,iv (dq d p).2]:=⟨_,rfl⟩
 rw[←hR]
 have zer:∀n,dq d p=(cR,n)→AV.tup [.agg cR.cells,iv n]=R:=fun n h=>by rw[hR,h]
 simp -dsimp -implicitDefEqProofs [-getElem?_pos,go_sem,hP,cDn,cPy]
 refine ae (ck.lift _ _) hP En (by simpa using id') .sc ?_
 by_cases c1:bH d=0
 rotate_left
 ·have:dq d p=(cR,bH d):=by rw[dq,if_neg c1]
  simp -dsimp -implicitDefEqProofs [-getElem?_pos,go_sem,hP,c1]
  exact eY (zer _ this)
 have hd:=dK.1 c1
 simp -dsimp -implicitDefEqProofs [-getElem?_pos,go_sem,hP,c1]
 refine ae (ad.lift _ _) hP Pf (by simpa using⟨iq,ip⟩) (ak io .sc) ?_
 by_cases c2:(jh d.Queue p).2=0
 rotate_left
 ·have:dq d p=(cR,(jh d.Queue p).2):=by rw[dq,if_pos c1,if_neg c2]
  have d2:=decide_eq_false c2
  simp -dsimp -implicitDefEqProofs [-getElem?_pos,go_sem,hP,d2]
  exact eY (zer _ this)
 simp -dsimp -implicitDefEqProofs [-getElem?_pos,go_sem,hP,c2]
 refine ae (bl.lift _ _) hP La (by simpa[ar]using ia) (ak .sc .sc) ?_
 cases c3:(bC d.Account p.Sub).2
 ·have:dq d p=(cR,60):=by rw[dq,if_pos c1,if_pos c2,if_neg (by simp[c3])]
  simp -dsimp -implicitDefEqProofs [-getElem?_pos,go_sem,hP,c3]
  exact eY (zer _ this)
 simp -dsimp -implicitDefEqProofs [-getElem?_pos,go_sem,hP,c3]
 obtain⟨es,hes⟩:∃es,es=d.Account.Entries:=⟨_,rfl⟩
 obtain⟨l,hl⟩:∃l,l=d.Items:=⟨_,rfl⟩
 obtain⟨q',hq'⟩:∃q',q'=(jh d.Queue p).1:=⟨_,rfl⟩
 rw[←hes]at le
 rw[←hl]at li
 have hor:es.any (wA p.Warrant)=false→dq d p=(⟨d.Account,q',ins ltI l ⟨p,1,0⟩⟩,0):=fun h=>by rw[dq,if_pos c1,if_pos c2,if_pos c3,if_neg (by rw[←hes,h];simp),hq',hl]
 have hknown:es.any (wA p.Warrant)=true→dq d p=(cR,65):=fun h=>by rw[dq,if_pos c1,if_pos c2,if_pos c3,if_pos (by rw[←hes,h])]
 obtain⟨I,hI⟩:∃I:Nat→St→Prop,I=fun m s=>∃k:Nat,k≤es.length∧m=es.length-k∧es.any (wA p.Warrant)=(es.drop k).any (wA p.Warrant)∧s.t 2= .ref 0 0 0∧s.t 3= .ref 1 0 0∧s.t 4= .ref 2 0 0∧s.t 7= .ref 3 0 0∧s.t 44=bu es∧s.t 45=iv es.length∧s.t 46=iv k∧s.H[0]?=some (some ⟨35,7,[[iv d.Account.Credit,aL d.Account.Subs,bu es,aC d.Queue.Waiting,eU d.Queue.Known,aX d.Queue.Batches,bI l]]⟩)∧s.H[1]?=some (some ⟨81,5,[[iv p.Warrant,iv p.Payee,iv p.Amount,iv p.Due,iv p.Sub]]⟩)∧s.H[2]?=some (some ⟨35,7,[[iv 0,.nil,.nil,.nil,.nil,.nil,.nil]]⟩)∧s.H[3]?=some (some ⟨32,3,[[aC q'.Waiting,eU q'.Known,aX q'.Batches]]⟩):=⟨_,rfl⟩
 refine ay I (es.length) (by rw[hN];rfl) ?_ ?_
 ·rw[hI]
  exact⟨0,by omega,by omega,by rfl,by simp -dsimp[-getElem?_pos,go_sem],by simp -dsimp[-getElem?_pos,go_sem],by simp -dsimp[-getElem?_pos,go_sem],by simp -dsimp[-getElem?_pos,go_sem],by simp -dsimp[-getElem?_pos,go_sem,hes],by simp -dsimp[-getElem?_pos,go_sem,hes],by simp -dsimp[-getElem?_pos,go_sem],by simp -dsimp[-getElem?_pos,go_sem,hes,hl],by simp -dsimp[-getElem?_pos,go_sem],by simp -dsimp[-getElem?_pos,go_sem],by simp -dsimp[-getElem?_pos,go_sem,hq']⟩
 intro m s hs'
 rw[hI]at hs'
 obtain⟨k,hk,hm,hq,t2,t3,t4,t7,t44,t45,t46,h0,h1,h2,h3⟩:=hs'
 have lt0:=(gsI h0)
 have lt1:=(gsI h1)
 have lt2:=(gsI h2)
 have lt3:=(gsI h3)
 simp -dsimp -implicitDefEqProofs [-getElem?_pos,go_sem,hP,t45,t46]
 refine aB (fun h=>?_) (fun h=>?_)
 ·have hk:k<es.length:=by simpa using h
  obtain⟨e,hee⟩:∃e,es[k]?=some e:=⟨_,List.getElem?_eq_getElem hk⟩
  have wk:=af ((k:Int)+1) (by omega)
  have g1:∀x:Option AObj,(s.H++[x])[1]?=s.H[1]?:=fun x=>List.getElem?_append_left lt1
  have g2:∀x:Option AObj,(s.H++[x])[2]?=s.H[2]?:=fun x=>List.getElem?_append_left lt2
  rw[cU hee,List.any_cons]at hq
  by_cases c:e.Ref=p.Warrant
  ·rw[show wA p.Warrant e=true by simp[wA,c],Bool.true_or]at hq
   simp -dsimp -implicitDefEqProofs [-getElem?_pos,go_sem,hP,t44,t46,hee,cE,t3,g1,lt1,h1,c,t4,g2,lt2,h2]
   exact eY (zer _ (hknown hq))
  ·rw[show wA p.Warrant e=false by simp[wA,c],Bool.false_or]at hq
   have dd:=decide_eq_false c
   simp -dsimp -implicitDefEqProofs [-getElem?_pos,go_sem,hP,t44,t46,hee,cE,t3,g1,lt1,h1,c,dd,wk]
   refine⟨es.length-(k+1),by omega,?_⟩
   rw[hI]
   exact⟨k+1,by omega,rfl,hq,by simp -dsimp[-getElem?_pos,go_sem,t2],by simp -dsimp[-getElem?_pos,go_sem,t3],by simp -dsimp[-getElem?_pos,go_sem,t4],by simp -dsimp[-getElem?_pos,go_sem,t7],by simp -dsimp[-getElem?_pos,go_sem,t44],by simp -dsimp[-getElem?_pos,go_sem,t45],by simp -dsimp[-getElem?_pos,go_sem],by simp -dsimp[-getElem?_pos,go_sem,lt0,h0],by simp -dsimp[-getElem?_pos,go_sem,lt1,h1],by simp -dsimp[-getElem?_pos,go_sem,lt2,h2],by simp -dsimp[-getElem?_pos,go_sem,lt3,h3]⟩
 have hk:k=es.length:=by simp at h;omega
 subst hk
 rw[List.drop_length,List.any_nil]at hq
 have hor:=hor hq
 simp -dsimp -implicitDefEqProofs [-getElem?_pos,go_sem,hP]
 clear hI I t44 t45 t46 hm hknown h
 obtain⟨J,hJ⟩:∃I:Nat→St→Prop,I=fun m s=>∃k:Nat,k≤l.length∧m=l.length-k∧ins ltI l ⟨p,1,0⟩=l.take k++ins ltI (l.drop k) ⟨p,1,0⟩∧s.t 2= .ref 0 0 0∧s.t 3= .ref 1 0 0∧s.t 4= .ref 2 0 0∧s.t 7= .ref 3 0 0∧s.t 13=iv k∧s.H[0]?=some (some ⟨35,7,[[iv d.Account.Credit,aL d.Account.Subs,bu es,aC d.Queue.Waiting,eU d.Queue.Known,aX d.Queue.Batches,bI l]]⟩)∧s.H[1]?=some (some ⟨81,5,[[iv p.Warrant,iv p.Payee,iv p.Amount,iv p.Due,iv p.Sub]]⟩)∧s.H[2]?=some (some ⟨35,7,[[iv 0,.nil,.nil,.nil,.nil,.nil,.nil]]⟩)∧s.H[3]?=some (some ⟨32,3,[[aC q'.Waiting,eU q'.Known,aX q'.Batches]]⟩):=⟨_,rfl⟩
 refine ay J (l.length) (by rw[hN];rfl) ?_ ?_
 ·rw[hJ]
  exact⟨0,by omega,by omega,by simp,by simp -dsimp[-getElem?_pos,go_sem,t2],by simp -dsimp[-getElem?_pos,go_sem,t3],by simp -dsimp[-getElem?_pos,go_sem,t4],by simp -dsimp[-getElem?_pos,go_sem,t7],by simp -dsimp[-getElem?_pos,go_sem],by simp -dsimp[-getElem?_pos,go_sem,h0],by simp -dsimp[-getElem?_pos,go_sem,h1],by simp -dsimp[-getElem?_pos,go_sem,h2],by simp -dsimp[-getElem?_pos,go_sem,h3]⟩
 clear t2 t3 t4 t7 h0 h1 h2 h3 lt0 lt1 lt2 lt3 hk
 intro m s hs'
 rw[hJ]at hs'
 obtain⟨k,hk,hm,hi,t2,t3,t4,t7,t13,h0,h1,h2,h3⟩:=hs'
 have lt0:=(gsI h0)
 have lt1:=(gsI h1)
 have lt2:=(gsI h2)
 have lt3:=(gsI h3)
 simp -dsimp -implicitDefEqProofs [-getElem?_pos,go_sem,hP]
 obtain⟨Inv,hInv⟩:∃Inv:St→Prop,Inv=fun s'=>∃b:Bool,s'.t 73=bv b∧(b=true→∃x,l[k]?=some x∧ltI x ⟨p,1,0⟩=true)∧(b=false→ins ltI (l.drop k) ⟨p,1,0⟩=⟨p,1,0⟩::l.drop k)∧s'.t 2= .ref 0 0 0∧s'.t 3= .ref 1 0 0∧s'.t 4= .ref 2 0 0∧s'.t 7= .ref 3 0 0∧s'.t 13=iv k∧s'.H=s.H:=⟨_,rfl⟩
 refine nY Inv ?_ ?_
 ·refine ao (fun _=>true) [] hP (by kernel_rfl) (by kernel_rfl) ?_
  by_cases c:k<l.length
  ·obtain⟨x,hx⟩:∃x,l[k]?=some x:=⟨_,List.getElem?_eq_getElem c⟩
   have dk:decide ((k:Int)<(l.length:Int))=true:=decide_eq_true (by omega)
   by_cases cb:x.Payment.Warrant<p.Warrant
   ·have db:=decide_eq_true cb
    simp -dsimp -implicitDefEqProofs [-getElem?_pos,go_sem,hP,t2,t13,t3,h0,lt0,h1,lt1,dk,c,hx,cIt,db]
    rw[hInv]
    exact⟨true,by simp -dsimp[-getElem?_pos,go_sem],fun _=>⟨x,hx,by simp[ltI,cb]⟩,fun h=>(by cases h),by simp -dsimp[-getElem?_pos,go_sem,t2],by simp -dsimp[-getElem?_pos,go_sem,t3],by simp -dsimp[-getElem?_pos,go_sem,t4],by simp -dsimp[-getElem?_pos,go_sem,t7],by simp -dsimp[-getElem?_pos,go_sem,t13],rfl⟩
   ·have db:=decide_eq_false cb
    simp -dsimp -implicitDefEqProofs [-getElem?_pos,go_sem,hP,t2,t13,t3,h0,lt0,h1,lt1,dk,c,hx,cIt,db]
    rw[hInv]
    exact⟨false,by simp -dsimp[-getElem?_pos,go_sem],fun h=>(by cases h),fun _=>by rw[cU hx,vT (by simp[ltI,cb])],by simp -dsimp[-getElem?_pos,go_sem,t2],by simp -dsimp[-getElem?_pos,go_sem,t3],by simp -dsimp[-getElem?_pos,go_sem,t4],by simp -dsimp[-getElem?_pos,go_sem,t7],by simp -dsimp[-getElem?_pos,go_sem,t13],rfl⟩
  ·have dk:decide ((k:Int)<(l.length:Int))=false:=decide_eq_false (by omega)
   simp -dsimp -implicitDefEqProofs [-getElem?_pos,go_sem,hP,t2,t13,t3,h0,lt0,dk,c]
   rw[hInv]
   exact⟨false,by simp -dsimp[-getElem?_pos,go_sem],fun h=>(by cases h),fun _=>by rw[List.drop_of_length_le (by omega),zr],by simp -dsimp[-getElem?_pos,go_sem,t2],by simp -dsimp[-getElem?_pos,go_sem,t3],by simp -dsimp[-getElem?_pos,go_sem,t4],by simp -dsimp[-getElem?_pos,go_sem,t7],by simp -dsimp[-getElem?_pos,go_sem,t13],rfl⟩
 clear t2 t3 t4 t7 t13
 rw[hInv]
 rintro s' ⟨b,t73,hb1,hb0,t2,t3,t4,t7,t13,hH⟩
 cases b
 rotate_left
 ·obtain⟨x,hx,hlt⟩:=hb1 rfl
  have hk:k<l.length:=(gsI hx)
  have wk:=af ((k:Int)+1) (by omega)
  rw[cU hx,wP hlt]at hi
  simp -dsimp -implicitDefEqProofs [-getElem?_pos,go_sem,hP,t73,t13,wk]
  refine⟨l.length-(k+1),by omega,?_⟩
  rw[hJ]
  refine⟨k+1,by omega,rfl,by rw[hi,bV hx];simp,by simp -dsimp[-getElem?_pos,go_sem,t2],by simp -dsimp[-getElem?_pos,go_sem,t3],by simp -dsimp[-getElem?_pos,go_sem,t4],by simp -dsimp[-getElem?_pos,go_sem,t7],by simp -dsimp[-getElem?_pos,go_sem],?_,?_,?_,?_⟩
  ·dsimp only;rw[hH];exact h0
  ·dsimp only;rw[hH];exact h1
  ·dsimp only;rw[hH];exact h2
  ·dsimp only;rw[hH];exact h3
 rw[hb0 rfl]at hi
 simp -dsimp -implicitDefEqProofs [-getElem?_pos,go_sem,hP,t73,t7,hH,h3,lt3,t2,h0,lt0]
 obtain⟨H1,hH1⟩:∃H1,H1=s.H.set 0 (some (⟨35,7,[[iv d.Account.Credit,aL d.Account.Subs,bu es,aC q'.Waiting,eU q'.Known,aX q'.Batches,bI l]]⟩:AObj)):=⟨_,rfl⟩
 have k0:H1[0]?=some (some ⟨35,7,[[iv d.Account.Credit,aL d.Account.Subs,bu es,aC q'.Waiting,eU q'.Known,aX q'.Batches,bI l]]⟩):=by rw[hH1,List.getElem?_set_self lt0]
 have k1:H1[1]?=_:=(show H1[1]?=s.H[1]? by rw[hH1,List.getElem?_set_ne (by omega)]).trans h1
 have k2:H1[2]?=_:=(show H1[2]?=s.H[2]? by rw[hH1,List.getElem?_set_ne (by omega)]).trans h2
 have l1:H1.length=s.H.length:=by rw[hH1,List.length_set]
 rw[←hH1]
 rw[←l1]at lt0 lt1 lt2
 obtain⟨A,hA⟩:∃A,A=l.take k:=⟨_,rfl⟩
 obtain⟨B,hB⟩:∃B,B=l.drop k:=⟨_,rfl⟩
 have lA:A.length=k:=by rw[hA,List.length_take];omega
 have lB:B.length=l.length-k:=by rw[hB,List.length_drop]
 rw[←hA,←hB]at hi
 refine ao (fun i=>decide (i=0)||decide (i=1)) [15] hP (by kernel_rfl) (by kernel_rfl) ?_
 simp -dsimp -implicitDefEqProofs [-getElem?_pos,go_sem,hP,t2,t3,t13,k0,lt0,k1,lt1,bg,cK,cD,hk,eX,du,←hA,←hB,lA,lB]
 have ag:∀(x y:ac),Agree (fun i=>decide (i=0)||decide (i=1)) (H1++x) (H1++y):=fun x y j hj=>by
  simp only[Bool.or_eq_true,decide_eq_true_eq]at hj
  rw[List.getElem?_append_left (by omega),List.getElem?_append_left (by omega)]
 have ag0:∀(y:ac),Agree (fun i=>decide (i=0)||decide (i=1)) H1 (H1++y):=fun y=>by
  have:=ag [] y
  rwa[List.append_nil]at this
 refine⟨by omega,by omega,ag0 _,by omega,by omega,ag _ _,by omega,by omega,ag _ _,?_⟩
 have eIt:aj TItem.cells A++[iv p.Warrant,iv p.Payee,iv p.Amount,iv p.Due,iv p.Sub,AV.sc (.int .i64 1),AV.sc (.int .i64 0)]::aj TItem.cells B=aj TItem.cells (ins ltI l ⟨p,1,0⟩):=by
  rw[hi]
  simp[aj,cIt]
 have n20:¬2=0:=by omega
 have n02:¬0=2:=by omega
 have lt0':2<(H1.set 0 (some (⟨35,7,[[iv d.Account.Credit,aL d.Account.Subs,bu es,aC q'.Waiting,eU q'.Known,aX q'.Batches,.sref (H1.length+2) 0 (k+1+(l.length-k))]]⟩:AObj))).length:=by rw[List.length_set];exact lt2
 rw[eIt]
 simp -dsimp -implicitDefEqProofs [-getElem?_pos,go_sem,hP,t4,k2,lt2,n20,n02,lt0']
 refine aP (cs':=TDesk.cells ⟨d.Account,q',ins ltI l ⟨p,1,0⟩⟩) ?_ ?_
 ·rw[cDn,←hes]
  refine yA (di (aY _) (di (fe _) (di (cg _) (di (fY _) (di (jc _) (da (ty:=83) ?_ ?_ (yJ _) .nil))))))
  ·rw[List.getElem?_append_right (by simp)]
   simp
  ·rw[al,qP];omega
 ·rw[hR,hor]
end Go.Proofs.YtaenimpfelpafaaGreatDoor
