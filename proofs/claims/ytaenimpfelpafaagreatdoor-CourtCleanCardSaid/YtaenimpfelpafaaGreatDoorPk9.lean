/- Several texts of this claim, joined: Crt9 PlayOdd BatGen CrtGen PaRun Crt8 CrtJ SaneCo LawCc. -/
import Derived.Test.YtaenimpfelpafaaGreatDoorPk8
import Derived.Scope
set_option linter.unusedSimpArgs false
set_option linter.unusedVariables false
namespace Go.Proofs.YtaenimpfelpafaaGreatDoor
open Go.PA
open Go.RowKit
def agreeB {α β:Type} (p:α→β→Bool):List α→List β→Bool
 |[],[]=>true
 |x::a,y::b=>p x y&&agreeB p a b
 |[],_::_=>false
 |_::_,[]=>false
set_option maxHeartbeats 1000000 in
theorem differ_pf_inc (a:List TIncome) (b:List TEntry) (g:FuncId) (p:TIncome→TEntry→Bool) (ha:a.length≤100000) (hb:b.length≤100000) (hen:enterable Tryz.prog g=true) (hg:∀x y,PFun Tryz.prog none none g [.agg (TIncome.cells x),.agg (TEntry.cells y)] (·=bv (p x y))):
  PFun Tryz.prog none none 28 [.list 5 (encL TIncome.cells a),.list 6 (encL TEntry.cells b),.fn g []] (fun r=>∃i:Nat,i≤100000∧r= .tup [iv i,bv (!agreeB p a b)]):=by
 refine pfun_intro Tryz.func28 rfl (by simp[Tryz.f28]) (by kernel_rfl) ?_
 intro E hP hr hs hW hN
 obtain⟨n,hn⟩:∃n,n=max a.length b.length:=⟨_,rfl⟩
 have mx:amax [iv a.length,iv b.length]=some (iv n):=by
  simp only[amax,amaxFrom,if_pos]
  have e:((max a.length b.length:Nat):Int)=max (a.length:Int) (b.length:Int):=by omega
  rw[hn,e]
 obtain⟨R,hR⟩:∃R,R=agreeB p a b:=⟨_,rfl⟩
 rw[←hR]
 simp -dsimp -implicitDefEqProofs [-getElem?_pos,go_sem,hP,encL_len,mx]
 obtain⟨I,hI⟩:∃I:Nat→St→Prop,I=fun m s=>∃k:Nat,k≤n∧m=n-k∧R=agreeB p (a.drop k) (b.drop k)∧s.t 0= .list 5 (encL TIncome.cells a)∧s.t 1= .list 6 (encL TEntry.cells b)∧s.t 2= .fn g []∧s.t 13=iv n∧s.t 14=iv k:=⟨_,rfl⟩
 refine aloop0 I (n) (by rw[hN];rfl) ?_ ?_
 ·rw[hI]
  exact⟨0,by omega,by omega,by rw[List.drop_zero,List.drop_zero,hR],by simp -dsimp[-getElem?_pos,go_sem],by simp -dsimp[-getElem?_pos,go_sem],by simp -dsimp[-getElem?_pos,go_sem],by simp -dsimp[-getElem?_pos,go_sem],by simp -dsimp[-getElem?_pos,go_sem]⟩
 intro m s hs'
 rw[hI]at hs'
 obtain⟨k,hk,hm,hag,t0,t1,t2,t13,t14⟩:=hs'
 simp -dsimp -implicitDefEqProofs [-getElem?_pos,go_sem,hP,t13,t14]
 refine condP (fun h=>?_) (fun h=>?_)
 ·have hk:k<n:=by simpa using h
  have wk:=wrap_in ((k:Int)+1) (by omega)
  have bad:(a.length≤k∨b.length≤k)→R=false:=fun h=>by
   rw[hag]
   rcases h with h|h
   ·rw[List.drop_of_length_le h]
    obtain⟨y,hy⟩:∃y,b[k]?=some y:=⟨_,List.getElem?_eq_getElem (by omega)⟩
    obtain⟨h2,h3⟩:=List.getElem?_eq_some_iff.1 hy
    rw[List.drop_eq_getElem_cons h2,agreeB]
   ·rw[List.drop_of_length_le h]
    obtain⟨y,hy⟩:∃y,a[k]?=some y:=⟨_,List.getElem?_eq_getElem (by omega)⟩
    obtain⟨h2,h3⟩:=List.getElem?_eq_some_iff.1 hy
    rw[List.drop_eq_getElem_cons h2,agreeB]
  simp -dsimp -implicitDefEqProofs [-getElem?_pos,go_sem,hP,t14]
  refine adrawB (fun _=>true) [] hP (by kernel_rfl) (by kernel_rfl) ?_
  by_cases c1:a.length≤k
  ·have e:=bad (.inl c1)
   have d1:decide (a.length≤k)=true:=decide_eq_true c1
   simp -dsimp -implicitDefEqProofs [-getElem?_pos,go_sem,hP,t0,t1,t2,encL_len,d1]
   exact done (by simp -dsimp[-getElem?_pos,go_sem]) ⟨k,by omega,rfl⟩ (by simp -dsimp[-getElem?_pos,go_sem,e])
  have d1:decide (a.length≤k)=false:=decide_eq_false c1
  by_cases c2:b.length≤k
  ·have e:=bad (.inr c2)
   have d2:decide (b.length≤k)=true:=decide_eq_true c2
   simp -dsimp -implicitDefEqProofs [-getElem?_pos,go_sem,hP,t0,t1,t2,encL_len,d1,d2]
   exact done (by simp -dsimp[-getElem?_pos,go_sem]) ⟨k,by omega,rfl⟩ (by simp -dsimp[-getElem?_pos,go_sem,e])
  have d2:decide (b.length≤k)=false:=decide_eq_false c2
  obtain⟨x,hx⟩:∃x,a[k]?=some x:=⟨_,List.getElem?_eq_getElem (by omega)⟩
  obtain⟨y,hy⟩:∃y,b[k]?=some y:=⟨_,List.getElem?_eq_getElem (by omega)⟩
  have hgo:R=(p x y&&agreeB p (a.drop (k+1)) (b.drop (k+1))):=by
   rw[hag]
   obtain⟨h2,h3⟩:=List.getElem?_eq_some_iff.1 hx
   obtain⟨h4,h5⟩:=List.getElem?_eq_some_iff.1 hy
   rw[List.drop_eq_getElem_cons h2,List.drop_eq_getElem_cons h4,agreeB,h3,h5]
  have pf:=hg x y
  have ix:=imm_agg.2 x.imm
  have iy:=imm_agg.2 y.imm
  simp only[TIncome.cells,TEntry.cells]at pf ix iy
  simp -dsimp -implicitDefEqProofs [-getElem?_pos,go_sem,hP,t0,t1,t2,encL_len,d1,d2,hx,hy,TIncome.cells,TEntry.cells]
  refine callB_is (pf.lift _ _) hP hen (by simpa using⟨ix,iy⟩) .sc ?_
  cases hp:p x y
  ·rw[hp,Bool.false_and]at hgo
   simp -dsimp -implicitDefEqProofs [-getElem?_pos,go_sem,hP,d1,d2]
   exact done (by simp -dsimp[-getElem?_pos,go_sem]) ⟨k,by omega,rfl⟩ (by simp -dsimp[-getElem?_pos,go_sem,hgo])
  ·rw[hp,Bool.true_and]at hgo
   simp -dsimp -implicitDefEqProofs [-getElem?_pos,go_sem,hP,d1,d2,t14,wk]
   refine⟨n-(k+1),by omega,?_⟩
   rw[hI]
   exact⟨k+1,by omega,rfl,hgo,by simp -dsimp[-getElem?_pos,go_sem,t0],by simp -dsimp[-getElem?_pos,go_sem,t1],by simp -dsimp[-getElem?_pos,go_sem,t2],by simp -dsimp[-getElem?_pos,go_sem,t13],by simp -dsimp[-getElem?_pos,go_sem]⟩
 ·have hk:k=n:=by simp at h;omega
  subst hk
  rw[List.drop_of_length_le (by omega),List.drop_of_length_le (by omega),agreeB]at hag
  simp -dsimp -implicitDefEqProofs [-getElem?_pos,go_sem,hP]
  exact done (by simp -dsimp[-getElem?_pos,go_sem]) ⟨0,by omega,rfl⟩ (by simp -dsimp[-getElem?_pos,go_sem,hag])
set_option maxHeartbeats 1000000 in
theorem differ_pf_mov (a:List TMove) (b:List TEntry) (g:FuncId) (p:TMove→TEntry→Bool) (ha:a.length≤100000) (hb:b.length≤100000) (hen:enterable Tryz.prog g=true) (hg:∀x y,PFun Tryz.prog none none g [.agg (TMove.cells x),.agg (TEntry.cells y)] (·=bv (p x y))):
  PFun Tryz.prog none none 36 [.list 7 (encL TMove.cells a),.list 6 (encL TEntry.cells b),.fn g []] (fun r=>∃i:Nat,i≤100000∧r= .tup [iv i,bv (!agreeB p a b)]):=by
 refine pfun_intro Tryz.func36 rfl (by simp[Tryz.f36]) (by kernel_rfl) ?_
 intro E hP hr hs hW hN
 obtain⟨n,hn⟩:∃n,n=max a.length b.length:=⟨_,rfl⟩
 have mx:amax [iv a.length,iv b.length]=some (iv n):=by
  simp only[amax,amaxFrom,if_pos]
  have e:((max a.length b.length:Nat):Int)=max (a.length:Int) (b.length:Int):=by omega
  rw[hn,e]
 obtain⟨R,hR⟩:∃R,R=agreeB p a b:=⟨_,rfl⟩
 rw[←hR]
 simp -dsimp -implicitDefEqProofs [-getElem?_pos,go_sem,hP,encL_len,mx]
 obtain⟨I,hI⟩:∃I:Nat→St→Prop,I=fun m s=>∃k:Nat,k≤n∧m=n-k∧R=agreeB p (a.drop k) (b.drop k)∧s.t 0= .list 7 (encL TMove.cells a)∧s.t 1= .list 6 (encL TEntry.cells b)∧s.t 2= .fn g []∧s.t 13=iv n∧s.t 14=iv k:=⟨_,rfl⟩
 refine aloop0 I (n) (by rw[hN];rfl) ?_ ?_
 ·rw[hI]
  exact⟨0,by omega,by omega,by rw[List.drop_zero,List.drop_zero,hR],by simp -dsimp[-getElem?_pos,go_sem],by simp -dsimp[-getElem?_pos,go_sem],by simp -dsimp[-getElem?_pos,go_sem],by simp -dsimp[-getElem?_pos,go_sem],by simp -dsimp[-getElem?_pos,go_sem]⟩
 intro m s hs'
 rw[hI]at hs'
 obtain⟨k,hk,hm,hag,t0,t1,t2,t13,t14⟩:=hs'
 simp -dsimp -implicitDefEqProofs [-getElem?_pos,go_sem,hP,t13,t14]
 refine condP (fun h=>?_) (fun h=>?_)
 ·have hk:k<n:=by simpa using h
  have wk:=wrap_in ((k:Int)+1) (by omega)
  have bad:(a.length≤k∨b.length≤k)→R=false:=fun h=>by
   rw[hag]
   rcases h with h|h
   ·rw[List.drop_of_length_le h]
    obtain⟨y,hy⟩:∃y,b[k]?=some y:=⟨_,List.getElem?_eq_getElem (by omega)⟩
    obtain⟨h2,h3⟩:=List.getElem?_eq_some_iff.1 hy
    rw[List.drop_eq_getElem_cons h2,agreeB]
   ·rw[List.drop_of_length_le h]
    obtain⟨y,hy⟩:∃y,a[k]?=some y:=⟨_,List.getElem?_eq_getElem (by omega)⟩
    obtain⟨h2,h3⟩:=List.getElem?_eq_some_iff.1 hy
    rw[List.drop_eq_getElem_cons h2,agreeB]
  simp -dsimp -implicitDefEqProofs [-getElem?_pos,go_sem,hP,t14]
  refine adrawB (fun _=>true) [] hP (by kernel_rfl) (by kernel_rfl) ?_
  by_cases c1:a.length≤k
  ·have e:=bad (.inl c1)
   have d1:decide (a.length≤k)=true:=decide_eq_true c1
   simp -dsimp -implicitDefEqProofs [-getElem?_pos,go_sem,hP,t0,t1,t2,encL_len,d1]
   exact done (by simp -dsimp[-getElem?_pos,go_sem]) ⟨k,by omega,rfl⟩ (by simp -dsimp[-getElem?_pos,go_sem,e])
  have d1:decide (a.length≤k)=false:=decide_eq_false c1
  by_cases c2:b.length≤k
  ·have e:=bad (.inr c2)
   have d2:decide (b.length≤k)=true:=decide_eq_true c2
   simp -dsimp -implicitDefEqProofs [-getElem?_pos,go_sem,hP,t0,t1,t2,encL_len,d1,d2]
   exact done (by simp -dsimp[-getElem?_pos,go_sem]) ⟨k,by omega,rfl⟩ (by simp -dsimp[-getElem?_pos,go_sem,e])
  have d2:decide (b.length≤k)=false:=decide_eq_false c2
  obtain⟨x,hx⟩:∃x,a[k]?=some x:=⟨_,List.getElem?_eq_getElem (by omega)⟩
  obtain⟨y,hy⟩:∃y,b[k]?=some y:=⟨_,List.getElem?_eq_getElem (by omega)⟩
  have hgo:R=(p x y&&agreeB p (a.drop (k+1)) (b.drop (k+1))):=by
   rw[hag]
   obtain⟨h2,h3⟩:=List.getElem?_eq_some_iff.1 hx
   obtain⟨h4,h5⟩:=List.getElem?_eq_some_iff.1 hy
   rw[List.drop_eq_getElem_cons h2,List.drop_eq_getElem_cons h4,agreeB,h3,h5]
  have pf:=hg x y
  have ix:=imm_agg.2 x.imm
  have iy:=imm_agg.2 y.imm
  simp only[TMove.cells,TEntry.cells]at pf ix iy
  simp -dsimp -implicitDefEqProofs [-getElem?_pos,go_sem,hP,t0,t1,t2,encL_len,d1,d2,hx,hy,TMove.cells,TEntry.cells]
  refine callB_is (pf.lift _ _) hP hen (by simpa using⟨ix,iy⟩) .sc ?_
  cases hp:p x y
  ·rw[hp,Bool.false_and]at hgo
   simp -dsimp -implicitDefEqProofs [-getElem?_pos,go_sem,hP,d1,d2]
   exact done (by simp -dsimp[-getElem?_pos,go_sem]) ⟨k,by omega,rfl⟩ (by simp -dsimp[-getElem?_pos,go_sem,hgo])
  ·rw[hp,Bool.true_and]at hgo
   simp -dsimp -implicitDefEqProofs [-getElem?_pos,go_sem,hP,d1,d2,t14,wk]
   refine⟨n-(k+1),by omega,?_⟩
   rw[hI]
   exact⟨k+1,by omega,rfl,hgo,by simp -dsimp[-getElem?_pos,go_sem,t0],by simp -dsimp[-getElem?_pos,go_sem,t1],by simp -dsimp[-getElem?_pos,go_sem,t2],by simp -dsimp[-getElem?_pos,go_sem,t13],by simp -dsimp[-getElem?_pos,go_sem]⟩
 ·have hk:k=n:=by simp at h;omega
  subst hk
  rw[List.drop_of_length_le (by omega),List.drop_of_length_le (by omega),agreeB]at hag
  simp -dsimp -implicitDefEqProofs [-getElem?_pos,go_sem,hP]
  exact done (by simp -dsimp[-getElem?_pos,go_sem]) ⟨0,by omega,rfl⟩ (by simp -dsimp[-getElem?_pos,go_sem,hag])
set_option maxHeartbeats 1000000 in
theorem differ_pf_pst (a:List TPosting) (b:List TPosting) (g:FuncId) (p:TPosting→TPosting→Bool) (ha:a.length≤100000) (hb:b.length≤100000) (hen:enterable Tryz.prog g=true) (hg:∀x y,PFun Tryz.prog none none g [.agg (TPosting.cells x),.agg (TPosting.cells y)] (·=bv (p x y))):
  PFun Tryz.prog none none 38 [.list 8 (encL TPosting.cells a),.list 8 (encL TPosting.cells b),.fn g []] (fun r=>∃i:Nat,i≤100000∧r= .tup [iv i,bv (!agreeB p a b)]):=by
 refine pfun_intro Tryz.func38 rfl (by simp[Tryz.f38]) (by kernel_rfl) ?_
 intro E hP hr hs hW hN
 obtain⟨n,hn⟩:∃n,n=max a.length b.length:=⟨_,rfl⟩
 have mx:amax [iv a.length,iv b.length]=some (iv n):=by
  simp only[amax,amaxFrom,if_pos]
  have e:((max a.length b.length:Nat):Int)=max (a.length:Int) (b.length:Int):=by omega
  rw[hn,e]
 obtain⟨R,hR⟩:∃R,R=agreeB p a b:=⟨_,rfl⟩
 rw[←hR]
 simp -dsimp -implicitDefEqProofs [-getElem?_pos,go_sem,hP,encL_len,mx]
 obtain⟨I,hI⟩:∃I:Nat→St→Prop,I=fun m s=>∃k:Nat,k≤n∧m=n-k∧R=agreeB p (a.drop k) (b.drop k)∧s.t 0= .list 8 (encL TPosting.cells a)∧s.t 1= .list 8 (encL TPosting.cells b)∧s.t 2= .fn g []∧s.t 13=iv n∧s.t 14=iv k:=⟨_,rfl⟩
 refine aloop0 I (n) (by rw[hN];rfl) ?_ ?_
 ·rw[hI]
  exact⟨0,by omega,by omega,by rw[List.drop_zero,List.drop_zero,hR],by simp -dsimp[-getElem?_pos,go_sem],by simp -dsimp[-getElem?_pos,go_sem],by simp -dsimp[-getElem?_pos,go_sem],by simp -dsimp[-getElem?_pos,go_sem],by simp -dsimp[-getElem?_pos,go_sem]⟩
 intro m s hs'
 rw[hI]at hs'
 obtain⟨k,hk,hm,hag,t0,t1,t2,t13,t14⟩:=hs'
 simp -dsimp -implicitDefEqProofs [-getElem?_pos,go_sem,hP,t13,t14]
 refine condP (fun h=>?_) (fun h=>?_)
 ·have hk:k<n:=by simpa using h
  have wk:=wrap_in ((k:Int)+1) (by omega)
  have bad:(a.length≤k∨b.length≤k)→R=false:=fun h=>by
   rw[hag]
   rcases h with h|h
   ·rw[List.drop_of_length_le h]
    obtain⟨y,hy⟩:∃y,b[k]?=some y:=⟨_,List.getElem?_eq_getElem (by omega)⟩
    obtain⟨h2,h3⟩:=List.getElem?_eq_some_iff.1 hy
    rw[List.drop_eq_getElem_cons h2,agreeB]
   ·rw[List.drop_of_length_le h]
    obtain⟨y,hy⟩:∃y,a[k]?=some y:=⟨_,List.getElem?_eq_getElem (by omega)⟩
    obtain⟨h2,h3⟩:=List.getElem?_eq_some_iff.1 hy
    rw[List.drop_eq_getElem_cons h2,agreeB]
  simp -dsimp -implicitDefEqProofs [-getElem?_pos,go_sem,hP,t14]
  refine adrawB (fun _=>true) [] hP (by kernel_rfl) (by kernel_rfl) ?_
  by_cases c1:a.length≤k
  ·have e:=bad (.inl c1)
   have d1:decide (a.length≤k)=true:=decide_eq_true c1
   simp -dsimp -implicitDefEqProofs [-getElem?_pos,go_sem,hP,t0,t1,t2,encL_len,d1]
   exact done (by simp -dsimp[-getElem?_pos,go_sem]) ⟨k,by omega,rfl⟩ (by simp -dsimp[-getElem?_pos,go_sem,e])
  have d1:decide (a.length≤k)=false:=decide_eq_false c1
  by_cases c2:b.length≤k
  ·have e:=bad (.inr c2)
   have d2:decide (b.length≤k)=true:=decide_eq_true c2
   simp -dsimp -implicitDefEqProofs [-getElem?_pos,go_sem,hP,t0,t1,t2,encL_len,d1,d2]
   exact done (by simp -dsimp[-getElem?_pos,go_sem]) ⟨k,by omega,rfl⟩ (by simp -dsimp[-getElem?_pos,go_sem,e])
  have d2:decide (b.length≤k)=false:=decide_eq_false c2
  obtain⟨x,hx⟩:∃x,a[k]?=some x:=⟨_,List.getElem?_eq_getElem (by omega)⟩
  obtain⟨y,hy⟩:∃y,b[k]?=some y:=⟨_,List.getElem?_eq_getElem (by omega)⟩
  have hgo:R=(p x y&&agreeB p (a.drop (k+1)) (b.drop (k+1))):=by
   rw[hag]
   obtain⟨h2,h3⟩:=List.getElem?_eq_some_iff.1 hx
   obtain⟨h4,h5⟩:=List.getElem?_eq_some_iff.1 hy
   rw[List.drop_eq_getElem_cons h2,List.drop_eq_getElem_cons h4,agreeB,h3,h5]
  have pf:=hg x y
  have ix:=imm_agg.2 x.imm
  have iy:=imm_agg.2 y.imm
  simp only[TPosting.cells,TPosting.cells]at pf ix iy
  simp -dsimp -implicitDefEqProofs [-getElem?_pos,go_sem,hP,t0,t1,t2,encL_len,d1,d2,hx,hy,TPosting.cells,TPosting.cells]
  refine callB_is (pf.lift _ _) hP hen (by simpa using⟨ix,iy⟩) .sc ?_
  cases hp:p x y
  ·rw[hp,Bool.false_and]at hgo
   simp -dsimp -implicitDefEqProofs [-getElem?_pos,go_sem,hP,d1,d2]
   exact done (by simp -dsimp[-getElem?_pos,go_sem]) ⟨k,by omega,rfl⟩ (by simp -dsimp[-getElem?_pos,go_sem,hgo])
  ·rw[hp,Bool.true_and]at hgo
   simp -dsimp -implicitDefEqProofs [-getElem?_pos,go_sem,hP,d1,d2,t14,wk]
   refine⟨n-(k+1),by omega,?_⟩
   rw[hI]
   exact⟨k+1,by omega,rfl,hgo,by simp -dsimp[-getElem?_pos,go_sem,t0],by simp -dsimp[-getElem?_pos,go_sem,t1],by simp -dsimp[-getElem?_pos,go_sem,t2],by simp -dsimp[-getElem?_pos,go_sem,t13],by simp -dsimp[-getElem?_pos,go_sem]⟩
 ·have hk:k=n:=by simp at h;omega
  subst hk
  rw[List.drop_of_length_le (by omega),List.drop_of_length_le (by omega),agreeB]at hag
  simp -dsimp -implicitDefEqProofs [-getElem?_pos,go_sem,hP]
  exact done (by simp -dsimp[-getElem?_pos,go_sem]) ⟨0,by omega,rfl⟩ (by simp -dsimp[-getElem?_pos,go_sem,hag])
set_option maxHeartbeats 4000000 in
theorem deleteFunc_m_entry {row src:Option Nat} (l:List TEntry) (id:Nat) (H:Heap) (g:FuncId) (caps caps':List AV) (p:TEntry→Bool) (hl:l.length≤100000) (ho:H[id]?=some (some ⟨75,6,encL TEntry.cells l⟩)) (hen:enterable Tryz.prog g=true)
  (hci:∀a,a∈caps'→Imm a) (hca:∀H',Kept [id] H H'→Args H' caps caps'∧caps.map (viewR H')=caps') (hg:∀a,a∈l→PFun Tryz.prog none none g (.agg (TEntry.cells a)::caps') (·=bv (p a))):
  MFun Tryz.prog row src 86 [.sref id 0 l.length,.fn g caps] H (fun r H'=>∃tl,r= .sref id 0 (l.filter fun a=>!p a).length∧H'[id]?=some (some ⟨75,6,encL TEntry.cells (l.filter fun a=>!p a)++tl⟩)∧Kept [id] H H'):=by
 obtain⟨C,hC⟩:∃C:AV→Heap→Prop,C=fun r H'=>∃tl,r= .sref id 0 (l.filter fun a=>!p a).length∧H'[id]?=some (some ⟨75,6,encL TEntry.cells (l.filter fun a=>!p a)++tl⟩)∧Kept [id] H H':=⟨_,rfl⟩
 rw[←hC]
 have lid:=(gsI ho)
 have ex:∃r H',C r H':=by
  rw[hC]
  exact⟨_,H.set id (some ⟨75,6,encL TEntry.cells (l.filter fun a=>!p a)++[]⟩),[],rfl,by simp[lid],kept_set _ (by simp) (kept_refl _ _)⟩
 obtain⟨zs,hz⟩:=Option.isSome_iff_exists.1 (show (zeros Tryz.prog 75).isSome=true by kernel_rfl)
 have imm:Imm (.list 6 (encL TEntry.cells l)):=imm_encL _ TEntry.imm _
 obtain⟨n,hn⟩:∃n,n=l.length:=⟨_,rfl⟩
 refine mfun_intro Tryz.func86 rfl (by simp[Tryz.f86]) (by kernel_rfl) (ex) ?_
 intro E hP hr hs hN
 simp -dsimp -implicitDefEqProofs [-getElem?_pos,go_sem,hP]
 refine callB_flat ((index_pf_entry l g caps' p (by omega) hen hci hg).lift _ _) hP en_143 (args_sref ho (by rw[encL_len]) imm (args_fnc (hca H (kept_refl _ _)).2 hci .nil)) ⟨_,rfl⟩ (by rintro r rfl;exact .sc) ?_
 rintro r rfl
 rcases idxI_spec p l with⟨h1,h2⟩|⟨i,a,ha,hpa,h3,h4⟩
 ·have hf:(l.filter fun a=>!p a)=l:=List.filter_eq_self.2 fun a ha=>by simp[h2 a ha]
  simp -dsimp -implicitDefEqProofs [-getElem?_pos,go_sem,hP,h1]
  rw[hC,hf]
  exact⟨[],rfl,by rw[List.append_nil];exact ho,kept_refl _ _⟩
 have hi1:¬((i:Int)= -1):=by omega
 have hil:=(gsI ha)
 have w1:=wrap_in ((i:Int)+1) (by omega)
 have kept0:(l.take (i+1)).filter (fun a=>!p a)=l.take i:=by
  rw[List.take_add_one,ha,List.filter_append,Option.toList_some,List.filter_cons_of_neg (by simp[hpa]),List.filter_nil,List.append_nil]
  refine List.filter_eq_self.2 fun x hx=>?_
  obtain⟨j,hj⟩:=List.getElem?_of_mem hx
  rw[List.getElem?_take]at hj
  split at hj
  ·simp[h4 j x (by assumption) hj]
  ·cases hj
 simp -dsimp -implicitDefEqProofs [-getElem?_pos,go_sem,hP,h3,hi1,w1]
 obtain⟨I,hI⟩:∃I:Nat→St→Prop,I=fun m s=>∃(j q:Nat) (ks:List TEntry) (rows:List (List AV)),ks=((l.take j).filter fun a=>!p a)∧q=ks.length∧j≤n∧m=n-j∧q<j∧rows.length=n∧(∀e,e∈rows→e.length=6)∧rows.take q=encL TEntry.cells ks∧rows.drop j=encL TEntry.cells (l.drop j)∧s.t 0= .sref id 0 n∧s.t 1= .fn g caps∧s.t 5=iv q∧s.t 6=iv j∧s.H[id]?=some (some ⟨75,6,rows⟩)∧Kept [id] H s.H:=⟨_,rfl⟩
 refine aloop0 I (n-(i+1)) (by rw[hN];rfl) ?_ ?_
 ·rw[hI]
  refine⟨i+1,i,l.take i,encL TEntry.cells l,kept0.symm,by simp;omega,by omega,by omega,by omega,by rw[encL_len];omega,fun e he=>?_,encL_takeE _ _ _,encL_dropE _ _ _,by simp -dsimp[-getElem?_pos,go_sem,hn],by simp -dsimp[-getElem?_pos,go_sem],by simp -dsimp[-getElem?_pos,go_sem],by simp -dsimp[-getElem?_pos,go_sem],by simp -dsimp[-getElem?_pos,go_sem,ho],by simp -dsimp[-getElem?_pos,go_sem];exact kept_refl _ _⟩
  obtain⟨x,_,rfl⟩:=List.mem_map.1 he
  exact TEntry.len x
 intro m s hs'
 rw[hI]at hs'
 obtain⟨j,q,ks,rows,hks,hq,hjn,hm,hqj,hrl,hre,hrt,hrd,t0,t1,t5,t6,h0,hk⟩:=hs'
 have lt0:=(gsI h0)
 simp -dsimp -implicitDefEqProofs [-getElem?_pos,go_sem,hP,t0,t6,h0]
 refine condP (fun hh=>?_) (fun hh=>?_)
 ·have hj:j<n:=by simpa using hh
  obtain⟨x,hx⟩:∃x,l[j]?=some x:=⟨_,List.getElem?_eq_getElem (by omega)⟩
  have wj:=wrap_in ((j:Int)+1) (by omega)
  have wq:=wrap_in ((q:Int)+1) (by omega)
  have hrow:rows[j]?=some (TEntry.cells x):=by
   have:=congrArg (·[0]?) hrd
   simp only[List.getElem?_drop,Nat.add_zero,encL_getE,hx]at this
   simpa using this
  have im:=imm_agg.2 (TEntry.imm x)
  have hcx:=hca (s.H++[some ⟨75,6,[TEntry.cells x]⟩]) (hk.trans (kept_app _ _ _))
  have hgx:=(hg x (List.mem_of_getElem? hx)).lift E.row E.src
  have htk:(l.take (j+1)).filter (fun a=>!p a)=if p x=true then ks else ks++[x]:=by
   rw[List.take_add_one,hx,List.filter_append,Option.toList_some,←hks]
   by_cases hpx:p x=true<;>simp[hpx,List.filter_cons]
  have hxl:=TEntry.len x
  simp -dsimp -implicitDefEqProofs [-getElem?_pos,go_sem,hP,t0,t6,h0,hrow,hj,TEntry.cells]
  simp -dsimp -implicitDefEqProofs [-getElem?_pos,go_sem,hP,t1]
  simp only[TEntry.cells]at im hcx hgx
  refine callB_flat hgx hP hen (args_imm im hcx.1) ⟨_,rfl⟩ (by rintro r rfl;exact .sc) ?_
  rintro r rfl
  simp -dsimp -implicitDefEqProofs [-getElem?_pos,go_sem,hP]
  refine condP (fun hp=>?_) (fun hp=>?_)
  ·rw[if_pos hp]at htk
   simp -dsimp -implicitDefEqProofs [-getElem?_pos,go_sem,hP,t6,wj]
   refine⟨n-(j+1),by omega,?_⟩
   rw[hI]
   refine⟨j+1,q,ks,rows,htk.symm,hq,by omega,rfl,by omega,hrl,hre,hrt,?_,by simp -dsimp[-getElem?_pos,go_sem,t0],by simp -dsimp[-getElem?_pos,go_sem,t1],by simp -dsimp[-getElem?_pos,go_sem,t5],by simp -dsimp[-getElem?_pos,go_sem],by simp -dsimp[-getElem?_pos,go_sem,h0,lt0],by simp -dsimp[-getElem?_pos,go_sem];exact hk.trans (kept_app _ _ _)⟩
   have:=congrArg (List.drop 1) hrd
   rwa[List.drop_drop,encL_dropE,List.drop_drop]at this
  ·rw[if_neg (by simp[hp])]at htk
   obtain⟨r0,hr0⟩:∃r0,rows[q]?=some r0:=⟨_,List.getElem?_eq_getElem (by omega)⟩
   have hr0l:=hre r0 (List.mem_of_getElem? hr0)
   have hr0d:r0.drop 6=[]:=List.drop_of_length_le (by omega)
   have hqn:q<n:=by omega
   simp -dsimp -implicitDefEqProofs [-getElem?_pos,go_sem,hP,t0,t5,t6,h0,lt0,hr0,hr0l,hr0d,hqn,wj,wq]
   refine⟨n-(j+1),by omega,?_⟩
   rw[hI]
   refine⟨j+1,q+1,ks++[x],rows.set q (TEntry.cells x),htk.symm,by simp;omega,by omega,rfl,by omega,by simp;omega,fun e he=>?_,?_,?_,by simp -dsimp[-getElem?_pos,go_sem,t0],by simp -dsimp[-getElem?_pos,go_sem,t1],by simp -dsimp[-getElem?_pos,go_sem],by simp -dsimp[-getElem?_pos,go_sem],by simp -dsimp[-getElem?_pos,go_sem,lt0,TEntry.cells],by simp -dsimp[-getElem?_pos,go_sem];exact (kept_set _ (by simp) hk).trans (kept_app _ _ _)⟩
   ·rcases List.mem_or_eq_of_mem_set he with he|rfl
    ·exact hre e he
    ·exact hxl
   ·rw[List.take_add_one,List.take_set_of_le (by omega),hrt,List.getElem?_set_self (by omega),←encL_appE]
    rfl
   ·have:=congrArg (List.drop 1) hrd
    rw[List.drop_drop,encL_dropE,List.drop_drop]at this
    rw[List.drop_set_of_lt (by omega)]
    exact this
 ·have hj:j=n:=by simp at hh;omega
  subst hj
  have hkl:ks=l.filter fun a=>!p a:=by rw[hks,hn,List.take_length]
  have hqn:q≤j:=by omega
  have hqn1:¬q=j:=by omega
  have hqn2:¬(q:Int)=j:=by omega
  have sx:∀(id n:Nat),(if q=0 then some (AV.sref id 0 n)else some (AV.sref id q (n-q)))=some (.sref id q (n-q)):=fun id n=>by
   split
   ·rename_i h0;rw[h0,Nat.sub_zero]
   ·rfl
  simp -dsimp -implicitDefEqProofs [-getElem?_pos,go_sem,hP,t0,t5,h0,asliceOp,bound,aslice,hqn,hqn1,hqn2,sx]
  refine buiB_clearE (e:=75) (es':=encL TEntry.cells ks++List.replicate (j-q) zs) h0 (.inl rfl) (by rw[hP];kernel_rfl) (by rw[hP];kernel_rfl) (by omega) (by rw[hP];exact hz) (by omega) (by omega) ?_ ?_
  ·rw[hrt,List.drop_of_length_le (by omega),List.append_nil]
  simp -dsimp -implicitDefEqProofs [-getElem?_pos,go_sem,hP,t0,t5,lt0,asliceOp,bound,aslice,hqn,hqn1,hqn2,sx]
  rw[hC,←hkl]
  exact⟨List.replicate (j-q) zs,by rw[hq],by simp[lt0],kept_set _ (by simp) hk⟩
theorem index_pf_mov (l:List TMove) (g:FuncId) (caps:List AV) (p:TMove→Bool) (hl:l.length≤1000000) (hen:enterable Tryz.prog g=true) (hcap:∀a,a∈caps→Imm a)
  (hg:∀a,a∈l→PFun Tryz.prog none none g (.agg (TMove.cells a)::caps) (·=bv (p a))):
  PFun Tryz.prog none none 88 [.list 7 (encL TMove.cells l),.fn g caps] (·=iv (idxI p l)):=by
 refine pfun_intro Tryz.func88 rfl (by simp[Tryz.f88]) (by kernel_rfl) ?_
 intro E hP hr hs hW hN
 simp -dsimp -implicitDefEqProofs [-getElem?_pos,go_sem,hP]
 obtain⟨I,hI⟩:∃I:Nat→St→Prop,I=fun m s=>∃k:Nat,k≤l.length∧m=l.length-k∧idxI p l=idxFrom p k (l.drop k)∧s.t 0= .list 7 (encL TMove.cells l)∧s.t 1= .fn g caps∧s.t 7=iv l.length∧s.t 8=iv k:=⟨_,rfl⟩
 refine aloop0 I (l.length) (by rw[hN];rfl) ?_ ?_
 ·rw[hI]
  exact⟨0,by omega,by omega,by simp[idxI],by simp -dsimp[-getElem?_pos,go_sem],by simp -dsimp[-getElem?_pos,go_sem],by simp -dsimp[-getElem?_pos,go_sem],by simp -dsimp[-getElem?_pos,go_sem]⟩
 intro m s hs'
 rw[hI]at hs'
 obtain⟨k,hk,hm,hi,t0,t1,t7,t8⟩:=hs'
 simp -dsimp -implicitDefEqProofs [-getElem?_pos,go_sem,hP,t7,t8]
 refine condP (fun h=>?_) (fun h=>?_)
 ·have hk:k<l.length:=by simpa using h
  obtain⟨a,ha⟩:∃a,l[k]?=some a:=⟨_,List.getElem?_eq_getElem hk⟩
  have wk:=wrap_in ((k:Int)+1) (by omega)
  have hz:(TMove.cells a).take 7=TMove.cells a:=List.take_of_length_le (by rw[TMove.len];omega)
  have hd:l.drop k=a::l.drop (k+1):=by
   rw[List.getElem?_eq_getElem hk]at ha
   rw[List.drop_eq_getElem_cons hk,Option.some.inj ha]
  simp -dsimp -implicitDefEqProofs [-getElem?_pos,go_sem,hP,t8,t1,t0,ha,TMove.len,hz]
  refine callB_is ((hg a (List.mem_of_getElem? ha)).lift _ _) hP hen (fun x hx=>?_) .sc ?_
  ·rcases List.mem_cons.1 hx with rfl|hx
   ·exact imm_agg.2 (TMove.imm a)
   ·exact hcap x hx
  rw[hd]at hi
  simp only[idxFrom]at hi
  simp -dsimp -implicitDefEqProofs [-getElem?_pos,go_sem,hP]
  refine condP (fun hp=>?_) (fun hp=>?_)
  ·rw[if_pos hp]at hi
   simp -dsimp -implicitDefEqProofs [-getElem?_pos,go_sem,hP]
   exact hi.symm
  ·rw[hp,if_neg (by simp)]at hi
   simp -dsimp -implicitDefEqProofs [-getElem?_pos,go_sem,hP,t8,wk]
   refine⟨l.length-(k+1),by omega,?_⟩
   rw[hI]
   exact⟨k+1,by omega,rfl,hi,by simp -dsimp[-getElem?_pos,go_sem,t0],by simp -dsimp[-getElem?_pos,go_sem,t1],by simp -dsimp[-getElem?_pos,go_sem,t7],by simp -dsimp[-getElem?_pos,go_sem]⟩
 ·have hk:k=l.length:=by simp at h;omega
  subst hk
  rw[List.drop_length]at hi
  simp -dsimp -implicitDefEqProofs [-getElem?_pos,go_sem,hP]
  exact hi.symm
set_option maxHeartbeats 4000000 in
theorem deleteFunc_m_mov {row src:Option Nat} (l:List TMove) (id:Nat) (H:Heap) (g:FuncId) (caps caps':List AV) (p:TMove→Bool) (hl:l.length≤100000) (ho:H[id]?=some (some ⟨70,7,encL TMove.cells l⟩)) (hen:enterable Tryz.prog g=true)
  (hci:∀a,a∈caps'→Imm a) (hca:∀H',Kept [id] H H'→Args H' caps caps'∧caps.map (viewR H')=caps') (hg:∀a,a∈l→PFun Tryz.prog none none g (.agg (TMove.cells a)::caps') (·=bv (p a))):
  MFun Tryz.prog row src 32 [.sref id 0 l.length,.fn g caps] H (fun r H'=>∃tl,r= .sref id 0 (l.filter fun a=>!p a).length∧H'[id]?=some (some ⟨70,7,encL TMove.cells (l.filter fun a=>!p a)++tl⟩)∧Kept [id] H H'):=by
 obtain⟨C,hC⟩:∃C:AV→Heap→Prop,C=fun r H'=>∃tl,r= .sref id 0 (l.filter fun a=>!p a).length∧H'[id]?=some (some ⟨70,7,encL TMove.cells (l.filter fun a=>!p a)++tl⟩)∧Kept [id] H H':=⟨_,rfl⟩
 rw[←hC]
 have lid:=(gsI ho)
 have ex:∃r H',C r H':=by
  rw[hC]
  exact⟨_,H.set id (some ⟨70,7,encL TMove.cells (l.filter fun a=>!p a)++[]⟩),[],rfl,by simp[lid],kept_set _ (by simp) (kept_refl _ _)⟩
 obtain⟨zs,hz⟩:=Option.isSome_iff_exists.1 (show (zeros Tryz.prog 70).isSome=true by kernel_rfl)
 have imm:Imm (.list 7 (encL TMove.cells l)):=imm_encL _ TMove.imm _
 obtain⟨n,hn⟩:∃n,n=l.length:=⟨_,rfl⟩
 refine mfun_intro Tryz.func32 rfl (by simp[Tryz.f32]) (by kernel_rfl) (ex) ?_
 intro E hP hr hs hN
 simp -dsimp -implicitDefEqProofs [-getElem?_pos,go_sem,hP]
 refine callB_flat ((index_pf_mov l g caps' p (by omega) hen hci hg).lift _ _) hP en_88 (args_sref ho (by rw[encL_len]) imm (args_fnc (hca H (kept_refl _ _)).2 hci .nil)) ⟨_,rfl⟩ (by rintro r rfl;exact .sc) ?_
 rintro r rfl
 rcases idxI_spec p l with⟨h1,h2⟩|⟨i,a,ha,hpa,h3,h4⟩
 ·have hf:(l.filter fun a=>!p a)=l:=List.filter_eq_self.2 fun a ha=>by simp[h2 a ha]
  simp -dsimp -implicitDefEqProofs [-getElem?_pos,go_sem,hP,h1]
  rw[hC,hf]
  exact⟨[],rfl,by rw[List.append_nil];exact ho,kept_refl _ _⟩
 have hi1:¬((i:Int)= -1):=by omega
 have hil:=(gsI ha)
 have w1:=wrap_in ((i:Int)+1) (by omega)
 have kept0:(l.take (i+1)).filter (fun a=>!p a)=l.take i:=by
  rw[List.take_add_one,ha,List.filter_append,Option.toList_some,List.filter_cons_of_neg (by simp[hpa]),List.filter_nil,List.append_nil]
  refine List.filter_eq_self.2 fun x hx=>?_
  obtain⟨j,hj⟩:=List.getElem?_of_mem hx
  rw[List.getElem?_take]at hj
  split at hj
  ·simp[h4 j x (by assumption) hj]
  ·cases hj
 simp -dsimp -implicitDefEqProofs [-getElem?_pos,go_sem,hP,h3,hi1,w1]
 obtain⟨I,hI⟩:∃I:Nat→St→Prop,I=fun m s=>∃(j q:Nat) (ks:List TMove) (rows:List (List AV)),ks=((l.take j).filter fun a=>!p a)∧q=ks.length∧j≤n∧m=n-j∧q<j∧rows.length=n∧(∀e,e∈rows→e.length=7)∧rows.take q=encL TMove.cells ks∧rows.drop j=encL TMove.cells (l.drop j)∧s.t 0= .sref id 0 n∧s.t 1= .fn g caps∧s.t 5=iv q∧s.t 6=iv j∧s.H[id]?=some (some ⟨70,7,rows⟩)∧Kept [id] H s.H:=⟨_,rfl⟩
 refine aloop0 I (n-(i+1)) (by rw[hN];rfl) ?_ ?_
 ·rw[hI]
  refine⟨i+1,i,l.take i,encL TMove.cells l,kept0.symm,by simp;omega,by omega,by omega,by omega,by rw[encL_len];omega,fun e he=>?_,encL_takeE _ _ _,encL_dropE _ _ _,by simp -dsimp[-getElem?_pos,go_sem,hn],by simp -dsimp[-getElem?_pos,go_sem],by simp -dsimp[-getElem?_pos,go_sem],by simp -dsimp[-getElem?_pos,go_sem],by simp -dsimp[-getElem?_pos,go_sem,ho],by simp -dsimp[-getElem?_pos,go_sem];exact kept_refl _ _⟩
  obtain⟨x,_,rfl⟩:=List.mem_map.1 he
  exact TMove.len x
 intro m s hs'
 rw[hI]at hs'
 obtain⟨j,q,ks,rows,hks,hq,hjn,hm,hqj,hrl,hre,hrt,hrd,t0,t1,t5,t6,h0,hk⟩:=hs'
 have lt0:=(gsI h0)
 simp -dsimp -implicitDefEqProofs [-getElem?_pos,go_sem,hP,t0,t6,h0]
 refine condP (fun hh=>?_) (fun hh=>?_)
 ·have hj:j<n:=by simpa using hh
  obtain⟨x,hx⟩:∃x,l[j]?=some x:=⟨_,List.getElem?_eq_getElem (by omega)⟩
  have wj:=wrap_in ((j:Int)+1) (by omega)
  have wq:=wrap_in ((q:Int)+1) (by omega)
  have hrow:rows[j]?=some (TMove.cells x):=by
   have:=congrArg (·[0]?) hrd
   simp only[List.getElem?_drop,Nat.add_zero,encL_getE,hx]at this
   simpa using this
  have im:=imm_agg.2 (TMove.imm x)
  have hcx:=hca (s.H++[some ⟨70,7,[TMove.cells x]⟩]) (hk.trans (kept_app _ _ _))
  have hgx:=(hg x (List.mem_of_getElem? hx)).lift E.row E.src
  have htk:(l.take (j+1)).filter (fun a=>!p a)=if p x=true then ks else ks++[x]:=by
   rw[List.take_add_one,hx,List.filter_append,Option.toList_some,←hks]
   by_cases hpx:p x=true<;>simp[hpx,List.filter_cons]
  have hxl:=TMove.len x
  simp -dsimp -implicitDefEqProofs [-getElem?_pos,go_sem,hP,t0,t6,h0,hrow,hj,TMove.cells]
  simp -dsimp -implicitDefEqProofs [-getElem?_pos,go_sem,hP,t1]
  simp only[TMove.cells]at im hcx hgx
  refine callB_flat hgx hP hen (args_imm im hcx.1) ⟨_,rfl⟩ (by rintro r rfl;exact .sc) ?_
  rintro r rfl
  simp -dsimp -implicitDefEqProofs [-getElem?_pos,go_sem,hP]
  refine condP (fun hp=>?_) (fun hp=>?_)
  ·rw[if_pos hp]at htk
   simp -dsimp -implicitDefEqProofs [-getElem?_pos,go_sem,hP,t6,wj]
   refine⟨n-(j+1),by omega,?_⟩
   rw[hI]
   refine⟨j+1,q,ks,rows,htk.symm,hq,by omega,rfl,by omega,hrl,hre,hrt,?_,by simp -dsimp[-getElem?_pos,go_sem,t0],by simp -dsimp[-getElem?_pos,go_sem,t1],by simp -dsimp[-getElem?_pos,go_sem,t5],by simp -dsimp[-getElem?_pos,go_sem],by simp -dsimp[-getElem?_pos,go_sem,h0,lt0],by simp -dsimp[-getElem?_pos,go_sem];exact hk.trans (kept_app _ _ _)⟩
   have:=congrArg (List.drop 1) hrd
   rwa[List.drop_drop,encL_dropE,List.drop_drop]at this
  ·rw[if_neg (by simp[hp])]at htk
   obtain⟨r0,hr0⟩:∃r0,rows[q]?=some r0:=⟨_,List.getElem?_eq_getElem (by omega)⟩
   have hr0l:=hre r0 (List.mem_of_getElem? hr0)
   have hr0d:r0.drop 7=[]:=List.drop_of_length_le (by omega)
   have hqn:q<n:=by omega
   simp -dsimp -implicitDefEqProofs [-getElem?_pos,go_sem,hP,t0,t5,t6,h0,lt0,hr0,hr0l,hr0d,hqn,wj,wq]
   refine⟨n-(j+1),by omega,?_⟩
   rw[hI]
   refine⟨j+1,q+1,ks++[x],rows.set q (TMove.cells x),htk.symm,by simp;omega,by omega,rfl,by omega,by simp;omega,fun e he=>?_,?_,?_,by simp -dsimp[-getElem?_pos,go_sem,t0],by simp -dsimp[-getElem?_pos,go_sem,t1],by simp -dsimp[-getElem?_pos,go_sem],by simp -dsimp[-getElem?_pos,go_sem],by simp -dsimp[-getElem?_pos,go_sem,lt0,TMove.cells],by simp -dsimp[-getElem?_pos,go_sem];exact (kept_set _ (by simp) hk).trans (kept_app _ _ _)⟩
   ·rcases List.mem_or_eq_of_mem_set he with he|rfl
    ·exact hre e he
    ·exact hxl
   ·rw[List.take_add_one,List.take_set_of_le (by omega),hrt,List.getElem?_set_self (by omega),←encL_appE]
    rfl
   ·have:=congrArg (List.drop 1) hrd
    rw[List.drop_drop,encL_dropE,List.drop_drop]at this
    rw[List.drop_set_of_lt (by omega)]
    exact this
 ·have hj:j=n:=by simp at hh;omega
  subst hj
  have hkl:ks=l.filter fun a=>!p a:=by rw[hks,hn,List.take_length]
  have hqn:q≤j:=by omega
  have hqn1:¬q=j:=by omega
  have hqn2:¬(q:Int)=j:=by omega
  have sx:∀(id n:Nat),(if q=0 then some (AV.sref id 0 n)else some (AV.sref id q (n-q)))=some (.sref id q (n-q)):=fun id n=>by
   split
   ·rename_i h0;rw[h0,Nat.sub_zero]
   ·rfl
  simp -dsimp -implicitDefEqProofs [-getElem?_pos,go_sem,hP,t0,t5,h0,asliceOp,bound,aslice,hqn,hqn1,hqn2,sx]
  refine buiB_clearE (e:=70) (es':=encL TMove.cells ks++List.replicate (j-q) zs) h0 (.inl rfl) (by rw[hP];kernel_rfl) (by rw[hP];kernel_rfl) (by omega) (by rw[hP];exact hz) (by omega) (by omega) ?_ ?_
  ·rw[hrt,List.drop_of_length_le (by omega),List.append_nil]
  simp -dsimp -implicitDefEqProofs [-getElem?_pos,go_sem,hP,t0,t5,lt0,asliceOp,bound,aslice,hqn,hqn1,hqn2,sx]
  rw[hC,←hkl]
  exact⟨List.replicate (j-q) zs,by rw[hq],by simp[lt0],kept_set _ (by simp) hk⟩
theorem only1_pf (e:TEntry) (g:FuncId) (p:TEntry→Bool) (hen:enterable Tryz.prog g=true) (hg:∀e:TEntry,PFun Tryz.prog none none g [.agg e.cells] (·=bv (p e))):
  PFun Tryz.prog none none 87 [.agg e.cells,.iref [.fn g []]] (·=bv (!p e)):=by
 have ie:=imm_agg.2 e.imm
 have pe:=hg e
 rw[cE]at ie pe
 have k1:knownT Tryz.prog 102=true:=by kernel_rfl
 have k2:aggOf Tryz.prog 102=false:=by kernel_rfl
 refine pfun_intro Tryz.func87 rfl (by simp[Tryz.f87]) (by kernel_rfl) ?_
 intro E hP hr hs hW hN
 simp -dsimp -implicitDefEqProofs [-getElem?_pos,go_sem,hP,cE,k1,k2]
 refine callB_is (pe.lift _ _) hP hen (by simpa using ie) .sc ?_
 simp -dsimp -implicitDefEqProofs [-getElem?_pos,go_sem,hP]
set_option maxHeartbeats 1000000 in
theorem only_pf (a:TAccount) (g:FuncId) (p:TEntry→Bool) (hl:a.Entries.length≤100000) (hen:enterable Tryz.prog g=true) (hg:∀e:TEntry,PFun Tryz.prog none none g [.agg e.cells] (·=bv (p e))):
  PFun Tryz.prog none none 29 [.agg a.cells,.fn g []] (·=entsL (a.Entries.filter p)):=by
 refine pfun_introA Tryz.func29 rfl (by simp[Tryz.f29]) ?_
 intro E hP hr hs hW hN
 refine awp_cut (by rw[hN];kernel_rfl) ?_
 simp -dsimp -implicitDefEqProofs [-getElem?_pos,go_sem,hP,cA]
 refine AWp.weaken (weaker_iref 3 (id:=1) (cs:=[.fn g []]) hW (by simp -dsimp[-getElem?_pos,go_sem]) (by simp -dsimp[-getElem?_pos,go_sem]) (by simp[imm_fn])) ?_
 refine awp_sound _ _ _ (by rw[hN];kernel_rfl) ?_
 simp -dsimp -implicitDefEqProofs [-getElem?_pos,go_sem,hP]
 obtain⟨H2,hH2⟩:∃H2:Heap,H2=[some ⟨28,3,[[iv a.Credit,subsL a.Subs,entsL a.Entries]]⟩,none]:=⟨_,rfl⟩
 simp only[←hH2]
 refine callB_m (by rw[hr,hs];exact clone_m_entry a.Entries H2 (by omega)) hP en_62 ?_
 rintro r H3 ⟨id,rfl,hid,ho,hk⟩
 simp -dsimp -implicitDefEqProofs [-getElem?_pos,go_sem,hP,viewR_iref]
 refine callB_m (by rw[hr,hs];exact deleteFunc_m_entry a.Entries id H3 87 [.iref [.fn g []]] [.iref [.fn g []]] (fun e=>!p e) (by omega) ho en_87 (by simp[imm_iref,imm_fn]) (fun H' _=>⟨args_imm (by simp[imm_iref,imm_fn]) (args_nil.2 trivial),by simp[viewR_iref]⟩) (fun e _=>only1_pf e g p hen hg)) hP en_86 ?_
 rintro r H4 ⟨tl,rfl,ho4,hk4⟩
 have ef:(a.Entries.filter fun e=>!!p e)=a.Entries.filter p:=List.filter_congr fun e _=>by simp
 rw[ef]at ho4
 simp -dsimp -implicitDefEqProofs [-getElem?_pos,go_sem,hP]
 exact done_srefT ho4 (by rw[encL_len]) (imm_ents _) rfl
def incE (e:TEntry):Bool:=decide (e.Ref=0)&&(decide (e.From=0)&&!decide (e.To=1))
theorem cinc_pf (e:TEntry):PFun Tryz.prog none none 30 [.agg e.cells] (·=bv (incE e)):=by
 refine pfun_intro Tryz.func30 rfl (by simp[Tryz.f30]) (by kernel_rfl) ?_
 intro E hP hr hs hW hN
 rw[show incE e=(decide (e.Ref=0)&&(decide (e.From=0)&&!decide (e.To=1)))from rfl]
 by_cases h1:e.Ref=0
 ·have d1:decide (e.Ref=0)=true:=decide_eq_true h1
  by_cases h2:e.From=0
  ·have d2:decide (e.From=0)=true:=decide_eq_true h2
   simp -dsimp -implicitDefEqProofs [-getElem?_pos,go_sem,hP,cE,d1,d2]
  ·have d2:decide (e.From=0)=false:=decide_eq_false h2
   simp -dsimp -implicitDefEqProofs [-getElem?_pos,go_sem,hP,cE,d1,d2]
 ·have d1:decide (e.Ref=0)=false:=decide_eq_false h1
  simp -dsimp -implicitDefEqProofs [-getElem?_pos,go_sem,hP,cE,d1]
def fitI (x:TIncome) (e:TEntry):Bool:=decide (x.Day=e.Day)&&decide (x.Amount=e.Amount)
theorem aud1_pf (x:TIncome) (e:TEntry):PFun Tryz.prog none none 31 [.agg x.cells,.agg e.cells] (·=bv (fitI x e)):=by
 refine pfun_intro Tryz.func31 rfl (by simp[Tryz.f31]) (by kernel_rfl) ?_
 intro E hP hr hs hW hN
 rw[show fitI x e=(decide (x.Day=e.Day)&&decide (x.Amount=e.Amount))from rfl]
 by_cases h1:x.Day=e.Day
 ·have d1:decide (x.Day=e.Day)=true:=decide_eq_true h1
  simp -dsimp -implicitDefEqProofs [-getElem?_pos,go_sem,hP,cE,cIncX,d1]
 ·have d1:decide (x.Day=e.Day)=false:=decide_eq_false h1
  simp -dsimp -implicitDefEqProofs [-getElem?_pos,go_sem,hP,cE,cIncX,d1]
def trfM (m:TMove):Bool:=decide (m.Kind=2)
theorem cMovX (m:TMove):m.cells=[iv m.Number,iv m.Day,iv m.Kind,iv m.Security,iv m.From,iv m.To,iv m.Amount]:=rfl
theorem aud2_pf (m:TMove):PFun Tryz.prog none none 34 [.agg m.cells] (·=bv (trfM m)):=by
 refine pfun_intro Tryz.func34 rfl (by simp[Tryz.f34]) (by kernel_rfl) ?_
 intro E hP hr hs hW hN
 rw[show trfM m=decide (m.Kind=2)from rfl]
 simp -dsimp -implicitDefEqProofs [-getElem?_pos,go_sem,hP,cMovX]
def fitM (m:TMove) (e:TEntry):Bool:=decide (m.Day=e.Day)&&(decide (m.Amount=e.Amount)&&decide (decide (m.Kind=1)=decide (e.From=0)))
theorem aud3_pf (m:TMove) (e:TEntry):PFun Tryz.prog none none 35 [.agg m.cells,.agg e.cells] (·=bv (fitM m e)):=by
 refine pfun_intro Tryz.func35 rfl (by simp[Tryz.f35]) (by kernel_rfl) ?_
 intro E hP hr hs hW hN
 rw[show fitM m e=(decide (m.Day=e.Day)&&(decide (m.Amount=e.Amount)&&decide (decide (m.Kind=1)=decide (e.From=0))))from rfl]
 by_cases h1:m.Day=e.Day
 ·have d1:decide (m.Day=e.Day)=true:=decide_eq_true h1
  by_cases h2:m.Amount=e.Amount
  ·have d2:decide (m.Amount=e.Amount)=true:=decide_eq_true h2
   simp -dsimp -implicitDefEqProofs [-getElem?_pos,go_sem,hP,cE,cMovX,d1,d2]
  ·have d2:decide (m.Amount=e.Amount)=false:=decide_eq_false h2
   simp -dsimp -implicitDefEqProofs [-getElem?_pos,go_sem,hP,cE,cMovX,d1,d2]
 ·have d1:decide (m.Day=e.Day)=false:=decide_eq_false h1
  simp -dsimp -implicitDefEqProofs [-getElem?_pos,go_sem,hP,cE,cMovX,d1]
theorem aud4_pf (p q:TPosting):PFun Tryz.prog none none 40 [.agg p.cells,.agg q.cells] (·=bv (decide (p=q))):=by
 refine pfun_intro Tryz.func40 rfl (by simp[Tryz.f40]) (by kernel_rfl) ?_
 intro E hP hr hs hW hN
 by_cases h:p=q
 ·subst h
  simp -dsimp -implicitDefEqProofs [-getElem?_pos,go_sem,hP,TPosting.cells]
 ·rw[decide_eq_false h]
  simp -dsimp -implicitDefEqProofs [-getElem?_pos,go_sem,hP,TPosting.cells]
  intro h1 h2 h3 h4 h5 h6 h7 h8
  refine h ?_
  cases p;cases q
  simp only at h1 h2 h3 h4 h5 h6 h7 h8
  simp[h1,h2,h3,h4,h5,h6,h7,h8]
theorem args_srefT {H:Heap} {id n:Nat} {ty:TypeId} {k:Nat} {es tl:List (List AV)} {us us':List AV} (hH:H[id]?=some (some ⟨ty,k,es++tl⟩)) (hn:n=es.length) (hi:Imm (.list k es)) (ht:Args H us us'):Args H (.sref id 0 n::us) (.list k es::us'):=by
 have hv:view H (.sref id 0 n)= .list k es:=by rw[view_sref,hH,viewS_some];simp[hn]
 exact .cons (by rw[hv];exact .refl _) (by rw[hv];exact hi) ht
structure AudOk (x:TState):Prop where
 d:FitD x.Desk
 c:x.Cash=csh x.Cash.Incomes
 cl:CsOk x.Cash.Incomes
 r:RegOk x.Register (dR x.Register)
 l:x.Ledger.Postings.length≤400
 ca:checkA x.Desk.Account=0
 cd:checkD x.Desk=0
 cp:checkL x.Ledger.Postings=0
 fi:agreeB fitI x.Cash.Incomes (x.Desk.Account.Entries.filter incE)=true
 fm:agreeB fitM (x.Register.Moves.filter fun m=>!trfM m) (x.Desk.Account.Entries.filter secE)=true
 fp:x.Ledger.Postings=postsGo 0 [] x.Desk.Account.Entries
set_option maxHeartbeats 2000000 in
theorem cchecks_pf (x:TState) (h:AudOk x):PFun Tryz.prog none none 27 [.agg x.cells] (·= .nil):=by
 have k1:=check_pf x.Desk.Account h.d.s h.d.e
 have k2:=dcheck_pf x.Desk h.d
 have k3:=ccheckL_pf x.Cash.Incomes h.cl
 have k4:=gcheck_pf x.Register _ h.r
 have k5:=lcheck_pf x.Ledger (by have:=h.l;omega)
 rw[h.ca]at k1
 rw[h.cd]at k2
 rw[←h.c]at k3
 rw[h.cp]at k5
 have i1:=imm_acc x.Desk.Account
 have i2:=imm_agg.2 x.Desk.imm
 have i3:=imm_csh x.Cash
 have i4:=imm_agg.2 x.Register.imm
 have i5:=imm_agg.2 x.Ledger.imm
 have cL':x.Ledger.cells=[postsL x.Ledger.Postings]:=rfl
 simp only[cA]at k1 i1
 simp only[cDeskX]at k2 i2
 simp only[cCsh]at k3 i3
 simp only[cReg]at k4 i4
 simp only[cL']at k5 i5
 refine pfun_intro Tryz.func27 rfl (by simp[Tryz.f27]) (by kernel_rfl) ?_
 intro E hP hr hs hW hN
 simp -dsimp -implicitDefEqProofs [-getElem?_pos,go_sem,hP,cStX]
 refine adrawB (fun _=>true) [] hP (by kernel_rfl) (by kernel_rfl) ?_
 simp -dsimp -implicitDefEqProofs [-getElem?_pos,go_sem,hP]
 refine callB_is (k1.lift _ _) hP en_82 (by simpa using i1) .sc ?_
 simp -dsimp -implicitDefEqProofs [-getElem?_pos,go_sem,hP]
 refine callB_is (k2.lift _ _) hP en_83 (by simpa using i2) .sc ?_
 simp -dsimp -implicitDefEqProofs [-getElem?_pos,go_sem,hP]
 refine callB_is (k3.lift _ _) hP en_84 (by simpa using i3) .sc ?_
 simp -dsimp -implicitDefEqProofs [-getElem?_pos,go_sem,hP]
 refine callB_is (k4.lift _ _) hP en_52 (by simpa using i4) .sc ?_
 simp -dsimp -implicitDefEqProofs [-getElem?_pos,go_sem,hP]
 refine callB_is (k5.lift _ _) hP en_85 (by simpa using i5) .sc ?_
 simp -dsimp -implicitDefEqProofs [-getElem?_pos,go_sem,hP]
 obtain⟨G,hG⟩:∃G:List (List AV),G=[[iv 23,iv 0],[iv 26,iv 0],[iv 27,iv 0],[iv 33,iv 0],[iv 40,iv 0]]:=⟨_,rfl⟩
 have lG:G.length=5:=by rw[hG];rfl
 have gG:∀k:Nat,k<5→∃z:Int,G[k]?=some [iv z,iv 0]:=fun k hk=>by
  rw[hG]
  match k,hk with
  |0,_|1,_|2,_|3,_|4,_=>exact⟨_,rfl⟩
 rw[←hG]
 clear hG
 obtain⟨I,hI⟩:∃I:Nat→St→Prop,I=fun m s=>∃k:Nat,k≤5∧m=5-k∧s.t 3= .nil∧s.t 27= .list 2 G∧s.t 28=iv 5∧s.t 29=iv k:=⟨_,rfl⟩
 refine aloop0 I (5) (by rw[hN];rfl) ?_ ?_
 ·rw[hI]
  exact⟨0,by omega,by omega,by simp -dsimp[-getElem?_pos,go_sem],by simp -dsimp[-getElem?_pos,go_sem],by simp -dsimp[-getElem?_pos,go_sem],by simp -dsimp[-getElem?_pos,go_sem]⟩
 intro m s hs'
 rw[hI]at hs'
 obtain⟨k,hk,hm,t3,t27,t28,t29⟩:=hs'
 simp -dsimp -implicitDefEqProofs [-getElem?_pos,go_sem,hP,t28,t29]
 refine condP (fun hh=>?_) (fun hh=>?_)
 ·have hk:k<5:=by simp at hh;omega
  obtain⟨z,hz⟩:=gG k hk
  have wk:=wrap_in ((k:Int)+1) (by omega)
  simp -dsimp -implicitDefEqProofs [-getElem?_pos,go_sem,hP,t27,t29,hz,wk]
  refine⟨5-(k+1),by omega,?_⟩
  rw[hI]
  exact⟨k+1,by omega,rfl,by simp -dsimp[-getElem?_pos,go_sem,t3],by simp -dsimp[-getElem?_pos,go_sem,t27],by simp -dsimp[-getElem?_pos,go_sem,t28],by simp -dsimp[-getElem?_pos,go_sem]⟩
 ·simp -dsimp -implicitDefEqProofs [-getElem?_pos,go_sem,hP,t3]
  exact done_imm .nil rfl
set_option maxHeartbeats 2000000 in
theorem caudit_pf (x:TState) (h:AudOk x):PFun Tryz.prog none none 14 [.agg x.cells] (·= .nil):=by
 have k1:=cchecks_pf x h
 have ist:=imm_st x
 have k2:=only_pf x.Desk.Account 30 incE h.d.e en_30 cinc_pf
 have k3:=only_pf x.Desk.Account 37 secE h.d.e en_37 csec_pf
 have fl:∀p:TEntry→Bool,(x.Desk.Account.Entries.filter p).length≤100000:=fun p=>Nat.le_trans (List.length_filter_le _ _) h.d.e
 have k4:=differ_pf_inc x.Cash.Incomes (x.Desk.Account.Entries.filter incE) 31 fitI (by have:=h.cl.2;omega) (fl _) en_31 aud1_pf
 have ml:=h.r.mlen
 have k5:=differ_pf_mov (x.Register.Moves.filter fun m=>!trfM m) (x.Desk.Account.Entries.filter secE) 35 fitM (by have:=List.length_filter_le (fun m=>!trfM m) x.Register.Moves;omega) (fl _) en_35 aud3_pf
 have k6:=cpostings_pf x.Desk.Account.Entries 0 h.d.e (by omega)
 rw[←h.fp]at k6
 have k7:=differ_pf_pst x.Ledger.Postings x.Ledger.Postings 40 (fun p q=>decide (p=q)) (by have:=h.l;omega) (by have:=h.l;omega) en_40 aud4_pf
 have ag:∀l:List TPosting,agreeB (fun p q=>decide (p=q)) l l=true:=fun l=>by
  induction l with
  |nil=>rfl
  |cons p l ih=>simp[agreeB,ih]
 rw[h.fi]at k4
 rw[h.fm]at k5
 rw[ag]at k7
 have i1:=imm_acc x.Desk.Account
 have i2:=imm_incomes x.Cash.Incomes
 have i3:=imm_ents (x.Desk.Account.Entries.filter incE)
 have i4:=imm_ents (x.Desk.Account.Entries.filter secE)
 have i5:=imm_moves (x.Register.Moves.filter fun m=>!trfM m)
 have i6:=imm_posts x.Ledger.Postings
 have i7:=imm_ents x.Desk.Account.Entries
 simp only[cA]at i1 k2 k3
 rw[cStX]at k1 ist
 refine pfun_intro Tryz.func14 rfl (by simp[Tryz.f14]) (by kernel_rfl) ?_
 intro E hP hr hs hW hN
 simp -dsimp -implicitDefEqProofs [-getElem?_pos,go_sem,hP,cStX]
 refine callB_is (k1.lift _ _) hP en_27 (by simpa using ist) .nil ?_
 simp -dsimp -implicitDefEqProofs [-getElem?_pos,go_sem,hP,cA]
 refine adrawB (fun _=>true) [] hP (by kernel_rfl) (by kernel_rfl) ?_
 simp -dsimp -implicitDefEqProofs [-getElem?_pos,go_sem,hP]
 refine callB_is (k2.lift _ _) hP en_29 (by simp[i1,imm_fn]) i3 ?_
 simp -dsimp -implicitDefEqProofs [-getElem?_pos,go_sem,hP]
 refine callB_isQ (k4.lift _ _) hP en_28 (by simp[i2,i3,imm_fn]) ⟨_,⟨0,by omega,rfl⟩,imm_pair .sc .sc⟩ ?_
 rintro r ⟨n1,_,rfl⟩ _
 simp -dsimp -implicitDefEqProofs [-getElem?_pos,go_sem,hP]
 obtain⟨H1,hH1⟩:∃H1:Heap,H1=[some ⟨50,15,[[iv x.Desk.Account.Credit,subsL x.Desk.Account.Subs,entsL x.Desk.Account.Entries,paysL x.Desk.Queue.Waiting,.list 1 (encL encI x.Desk.Queue.Known),batsL x.Desk.Queue.Batches,itemsL x.Desk.Items,claimsL x.Cash.Claims,incomesL x.Cash.Incomes,matchesL x.Cash.Matches,.list 1 (encL encI x.Cash.Loose),secsL x.Register.Securities,holdsL x.Register.Holdings,movesL x.Register.Moves,postsL x.Ledger.Postings]]⟩,some ⟨28,3,[[iv x.Desk.Account.Credit,subsL x.Desk.Account.Subs,entsL x.Desk.Account.Entries]]⟩]:=⟨_,rfl⟩
 have g0:=congrArg (·[0]?) hH1
 have g1:=congrArg (·[1]?) hH1
 simp only[List.getElem?_cons_zero,List.getElem?_cons_succ]at g0 g1
 have l2:H1.length=2:=by rw[hH1];rfl
 rw[←hH1]
 clear hH1
 refine callB_m (clone_m_mov x.Register.Moves H1 (by omega)) hP en_33 ?_
 rintro r H2 ⟨id,rfl,hid,ho,hk⟩
 simp -dsimp -implicitDefEqProofs [-getElem?_pos,go_sem,hP]
 refine callB_m (deleteFunc_m_mov x.Register.Moves id H2 34 [] [] trfM (by omega) ho en_34 (by simp) (fun H' _=>⟨args_nil.2 trivial,rfl⟩) (fun m _=>aud2_pf m)) hP en_32 ?_
 rintro r H3 ⟨tl,rfl,ho3,hk3⟩
 have e0:=hk3 _ _ (by simp;omega) (hk _ _ (by simp) g0)
 have e1:=hk3 _ _ (by simp;omega) (hk _ _ (by simp) g1)
 have l0:=(gsI e0)
 have l1:=(gsI e1)
 clear hk hk3 ho g0 g1 l2
 simp -dsimp -implicitDefEqProofs [-getElem?_pos,go_sem,hP,e0,e1,l0,l1]
 refine callB_is (k3.lift _ _) hP en_29 (by simp[i1,imm_fn]) i4 ?_
 simp -dsimp -implicitDefEqProofs [-getElem?_pos,go_sem,hP]
 refine callB_flat (k5.lift _ _) hP en_36 (args_srefT ho3 (by rw[encL_len]) i5 (args_imm i4 (args_imm (by simp[imm_fn]) (args_nil.2 trivial)))) ⟨_,0,by omega,rfl⟩ (fun r ⟨n,_,e⟩=>by rw[e];exact .tup fun a ha=>by simp at ha;rcases ha with rfl|rfl<;>exact .sc) ?_
 rintro r ⟨n2,_,rfl⟩
 simp -dsimp -implicitDefEqProofs [-getElem?_pos,go_sem,hP]
 refine adrawB (fun _=>true) [] hP (by kernel_rfl) (by kernel_rfl) ?_
 simp -dsimp -implicitDefEqProofs [-getElem?_pos,go_sem,hP,e0,e1,l0,l1]
 refine callB_is (k6.lift _ _) hP en_39 (by simp[i7,imm_sc]) i6 ?_
 simp -dsimp -implicitDefEqProofs [-getElem?_pos,go_sem,hP]
 refine callB_isQ (k7.lift _ _) hP en_38 (by simp[i6,imm_fn]) ⟨_,⟨0,by omega,rfl⟩,imm_pair .sc .sc⟩ ?_
 rintro r ⟨n3,_,rfl⟩ _
 simp -dsimp -implicitDefEqProofs [-getElem?_pos,go_sem,hP]
 exact done_imm .nil rfl
theorem cclean_pf (x:TState) (h:AudOk x):PFun Tryz.prog none none 13 [.agg x.cells] (·=bv true):=by
 have k1:=caudit_pf x h
 have ist:=imm_st x
 rw[cStX]at k1 ist
 refine pfun_intro Tryz.func13 rfl (by simp[Tryz.f13]) (by kernel_rfl) ?_
 intro E hP hr hs hW hN
 simp -dsimp -implicitDefEqProofs [-getElem?_pos,go_sem,hP,cStX]
 refine callB_is (k1.lift _ _) hP en_14 (by simpa using ist) .nil ?_
 simp -dsimp -implicitDefEqProofs [-getElem?_pos,go_sem,hP]
open Go.PA
open Go.RowKit
def RQ (lo hi:Int) (x:AV):Prop:=∃m:Int,x=iv m∧lo≤m∧m≤hi
theorem RQ_ex {lo hi:Int} (h:lo≤hi):∃r,RQ lo hi r∧Imm r:=⟨_,⟨lo,rfl,by omega,h⟩,.sc⟩
theorem rangeQ_pf (p:Nat) (src:Option Nat) (lo hi:Int) (h1: -1000000000000000000≤lo∧lo≤hi) (h2:hi≤1000000000000000000):PFun Tryz.prog (some p) src 59 [sp p,iv lo,iv hi] (RQ lo hi):=
 (range_pf p src lo hi (by omega) (by omega)).mono fun x h=>by
  obtain⟨m,rfl,h3,_⟩:=h
  exact⟨m,rfl,h3 h1.2⟩
def PQ (xs:List Int) (x:AV):Prop:=∃m:Int,x=iv m∧m∈xs
theorem PQ_ex {xs:List Int} (h:xs≠[]):∃r,PQ xs r∧Imm r:=by
 cases xs with
 |nil=>exact absurd rfl h
 |cons a l=>exact⟨_,⟨a,rfl,by simp⟩,.sc⟩
theorem pickQ_pf (p:Nat) (src:Option Nat) (xs:List Int) (h:1≤xs.length∧xs.length≤1000):PFun Tryz.prog (some p) src 9 [sp p,intsL xs] (PQ xs):=pick_pf p src xs h
open Go.PA
open Go.RowKit
structure GenP (p:TPayment):Prop where
 warrant:1≤p.Warrant∧p.Warrant≤12
 payee:1≤p.Payee∧p.Payee≤5
 amount:1≤p.Amount∧p.Amount≤100
 due:0≤p.Due∧p.Due<20
 sub:1≤p.Sub∧p.Sub≤7
theorem GenP.ok {p:TPayment} (h:GenP p):PayOk p:=⟨by have:=h.warrant;omega,by have:=h.payee;omega,by have:=h.amount;omega,by have:=h.due;omega,by have:=h.sub;omega⟩
def busI (d:Int):Int:=if d%7=5 then d+2 else if d%7=6 then d+1 else d
theorem busI_ge (d:Int):d≤busI d∧busI d≤d+2:=by
 unfold busI
 repeat' split
 all_goals omega
theorem business_pf (d:Int) (h:0≤d∧d≤30000):PFun Tryz.prog none none 60 [iv d] (·=iv (busI d)):=by
 refine pfun_intro Tryz.func60 rfl (by simp[Tryz.f60]) (by kernel_rfl) ?_
 intro E hP hr hs hW hN
 simp -dsimp -implicitDefEqProofs [-getElem?_pos,go_sem,hP]
 obtain⟨I,hI⟩:∃I:Nat→St→Prop,I=fun m s=>∃x:Int,d≤x∧busI d=busI x∧((m:Nat):Int)+x=d+3∧s.t 0=iv x:=⟨_,rfl⟩
 refine aloop0 I (3) (by rw[hN];rfl) ?_ ?_
 ·rw[hI]
  exact⟨d,by omega,rfl,by omega,by simp -dsimp[-getElem?_pos,go_sem]⟩
 intro m s hs'
 rw[hI]at hs'
 obtain⟨x,hx,hb,hm,t0⟩:=hs'
 have e:x.tmod 7=x%7:=Int.tmod_eq_emod_of_nonneg (by omega)
 have w:=wrap_in (x%7) (by omega)
 have w1:=wrap_in (x+1) (by omega)
 by_cases c:4<x%7
 ·have d1:decide (4<x%7)=true:=decide_eq_true c
  have:=busI_ge x
  have:=busI_ge d
  have hne:busI x≠x:=by
   unfold busI
   repeat' split
   all_goals omega
  have hb':busI x=busI (x+1):=by
   unfold busI
   repeat' split
   all_goals omega
  simp -dsimp -implicitDefEqProofs [-getElem?_pos,go_sem,hP,t0,e,w,d1,w1]
  refine⟨m-1,by omega,?_⟩
  rw[hI]
  exact⟨x+1,by omega,hb.trans hb',by omega,by simp -dsimp[-getElem?_pos,go_sem]⟩
 ·have d1:decide (4<x%7)=false:=decide_eq_false c
  have hb':busI x=x:=by
   unfold busI
   repeat' split
   all_goals omega
  simp -dsimp -implicitDefEqProofs [-getElem?_pos,go_sem,hP,t0,e,w,d1]
  rw[hb,hb']
structure StepB (q:TQueue) (day:Int) (x:TQueue) (d:Int):Prop where
 ok:QOk x
 kn:∀w,w∈q.Known→w∈x.Known
 len:x.Batches.length≤q.Batches.length+1
 day:day≤d∧d≤day+6
theorem StepB.same {q:TQueue} (h:QOk q) (day:Int):StepB q day q day:=⟨h,fun _ h=>h,by omega,by omega⟩
theorem StepB.add {q x:TQueue} {p:TPayment} (day:Int) (h:addQ q p=(x,0)):StepB q day x day:=by
 obtain⟨_,_,_,_,_,rfl,h7⟩:=addQ_ok h
 exact⟨h7,fun w hw=>mem_ins.2 (.inr hw),by simp,by omega⟩
theorem StepB.again {q x:TQueue} {p:TPayment} (day:Int) (h:againQ q p=(x,0)):StepB q day x day:=by
 obtain⟨_,_,_,_,_,rfl,h7⟩:=againQ_ok h
 exact⟨h7,fun w hw=>hw,by simp,by omega⟩
theorem StepB.drop {q x:TQueue} {w:Int} (day:Int) (h:dropQ q w=(x,0)):StepB q day x day:=by
 obtain⟨_,_,rfl,h7⟩:=dropQ_ok h
 exact⟨h7,fun w hw=>hw,by simp,by omega⟩
theorem StepB.take {q x:TQueue} {b:TBatch} {day d:Int} {ws:List Int} (hd:day≤d∧d≤day+6) (h:takeQ q d ws=(x,b,0)):StepB q day x d:=by
 obtain⟨_,_,_,_,_,_,rfl,_,h7⟩:=takeQ_ok h
 exact⟨h7,fun w hw=>hw,by simp,hd⟩
open Go.PA
open Go.RowKit
def secs0:List TSecurity:=[⟨1,100,0,7200,5000,6,false⟩,⟨2,100,90,450,0,0,false⟩]
theorem ssecs_pf (p:Nat) (src:Option Nat):PFun Tryz.prog (some p) src 10 [sp p] (·=secsL secs0):=by
 refine pfun_intro Tryz.func10 rfl (by simp[Tryz.f10]) (by kernel_rfl) ?_
 intro E hP hr hs hW hN
 simp -dsimp -implicitDefEqProofs [-getElem?_pos,go_sem,hP]
 exact done_imm (imm_secs secs0) rfl
def DeedQ (x:AV):Prop:=∃d:TDeed,x= .agg d.cells
theorem DeedQ_ex:∃r,DeedQ r∧Imm r:=⟨_,⟨⟨0,0,0,0,0,0,0⟩,rfl⟩,imm_agg.2 (TDeed.imm _)⟩
set_option maxHeartbeats 4000000 in
theorem sdeed_pf (p:Nat) (src:Option Nat) (day:Int) (hd:0≤day∧day≤30000):PFun Tryz.prog (some p) src 23 [sp p,iv day] DeedQ:=by
 refine pfun_intro Tryz.func23 rfl (by simp[Tryz.f23]) (by kernel_rfl) ?_
 intro E hP hr hs hW hN
 have up:∀{f:FuncId} {args:List AV} {Q:AV→Prop},PFun Tryz.prog (some p) src f args Q→PFun Tryz.prog E.row E.src f args Q:=fun h=>hr▸hs▸h
 have fin:∀d:TDeed,Imm (.agg d.cells):=fun d=>imm_agg.2 d.imm
 have am:amax [iv day,iv 100]=some (iv (max day 100)):=by simp[amax,amaxFrom]
 have RG:∀lo hi:Int, -1000000000000000000≤lo∧lo≤hi→hi≤1000000000000000000→PFun Tryz.prog E.row E.src 59 [sp p,iv lo,iv hi] (RQ lo hi):=fun lo hi h1 h2=>up (rangeQ_pf p src lo hi h1 h2)
 have PK:∀xs:List Int,1≤xs.length∧xs.length≤1000→PFun Tryz.prog E.row E.src 9 [sp p,intsL xs] (PQ xs):=fun xs h=>up (pickQ_pf p src xs h)
 simp -dsimp -implicitDefEqProofs [-getElem?_pos,go_sem,hP]
 refine callB_isQ (RG 1 8 (by omega) (by omega)) hP en_59 (by simp -dsimp[-getElem?_pos,go_sem]) (RQ_ex (by omega)) ?_
 rintro r ⟨w,rfl,hw⟩ _
 simp -dsimp -implicitDefEqProofs [-getElem?_pos,go_sem,hP]
 refine callB_isQ (RG 1 9 (by omega) (by omega)) hP en_59 (by simp -dsimp[-getElem?_pos,go_sem]) (RQ_ex (by omega)) ?_
 rintro r ⟨k,rfl,hk⟩ _
 by_cases c1:k=1
 ·subst c1
  simp -dsimp -implicitDefEqProofs [-getElem?_pos,go_sem,hP,am]
  refine callB_isQ (PK [2,3,7] (by simp)) hP en_9 (by simp -dsimp[-getElem?_pos,go_sem]) (PQ_ex (by simp)) ?_
  rintro r ⟨_,rfl,_⟩ _
  simp -dsimp -implicitDefEqProofs [-getElem?_pos,go_sem,hP]
  refine callB_isQ (RG 1 3 (by omega) (by omega)) hP en_59 (by simp -dsimp[-getElem?_pos,go_sem]) (RQ_ex (by omega)) ?_
  rintro r ⟨_,rfl,_⟩ _
  simp -dsimp -implicitDefEqProofs [-getElem?_pos,go_sem,hP]
  refine callB_isQ (PK [0,0,4] (by simp)) hP en_9 (by simp -dsimp[-getElem?_pos,go_sem]) (PQ_ex (by simp)) ?_
  rintro r ⟨_,rfl,_⟩ _
  simp -dsimp -implicitDefEqProofs [-getElem?_pos,go_sem,hP]
  refine callB_isQ (PK [10,100,400] (by simp)) hP en_9 (by simp -dsimp[-getElem?_pos,go_sem]) (PQ_ex (by simp)) ?_
  rintro r ⟨_,rfl,_⟩ _
  simp -dsimp -implicitDefEqProofs [-getElem?_pos,go_sem,hP]
  exact done_imm (fin ⟨_,_,_,_,_,_,_⟩) ⟨⟨_,_,_,_,_,_,_⟩,rfl⟩
 have d1:decide (k=1)=false:=decide_eq_false c1
 by_cases c2:k=2
 ·subst c2
  simp -dsimp -implicitDefEqProofs [-getElem?_pos,go_sem,hP,am]
  refine callB_isQ (RG 1 4 (by omega) (by omega)) hP en_59 (by simp -dsimp[-getElem?_pos,go_sem]) (RQ_ex (by omega)) ?_
  rintro r ⟨_,rfl,_⟩ _
  simp -dsimp -implicitDefEqProofs [-getElem?_pos,go_sem,hP]
  refine callB_isQ (PK [1,2,3,7] (by simp)) hP en_9 (by simp -dsimp[-getElem?_pos,go_sem]) (PQ_ex (by simp)) ?_
  rintro r ⟨_,rfl,_⟩ _
  simp -dsimp -implicitDefEqProofs [-getElem?_pos,go_sem,hP]
  refine callB_isQ (PK [5,30,90] (by simp)) hP en_9 (by simp -dsimp[-getElem?_pos,go_sem]) (PQ_ex (by simp)) ?_
  rintro r ⟨_,rfl,_⟩ _
  simp -dsimp -implicitDefEqProofs [-getElem?_pos,go_sem,hP]
  exact done_imm (fin ⟨_,_,_,_,_,_,_⟩) ⟨⟨_,_,_,_,_,_,_⟩,rfl⟩
 have d2:decide (k=2)=false:=decide_eq_false c2
 by_cases c3:k=3
 ·subst c3
  simp -dsimp -implicitDefEqProofs [-getElem?_pos,go_sem,hP,am]
  refine callB_is ((business_pf day hd).lift _ _) hP en_60 (by simp -dsimp[-getElem?_pos,go_sem]) .sc ?_
  simp -dsimp -implicitDefEqProofs [-getElem?_pos,go_sem,hP]
  exact done_imm (fin ⟨_,_,_,_,_,_,_⟩) ⟨⟨_,_,_,_,_,_,_⟩,rfl⟩
 have d3:decide (k=3)=false:=decide_eq_false c3
 by_cases c4:k=4
 ·subst c4
  simp -dsimp -implicitDefEqProofs [-getElem?_pos,go_sem,hP,am]
  exact done_imm (fin ⟨_,_,_,_,_,_,_⟩) ⟨⟨_,_,_,_,_,_,_⟩,rfl⟩
 have d4:decide (k=4)=false:=decide_eq_false c4
 by_cases c5:k=5
 ·subst c5
  simp -dsimp -implicitDefEqProofs [-getElem?_pos,go_sem,hP,am]
  exact done_imm (fin ⟨_,_,_,_,_,_,_⟩) ⟨⟨_,_,_,_,_,_,_⟩,rfl⟩
 have d5:decide (k=5)=false:=decide_eq_false c5
 by_cases c6:k=6
 ·subst c6
  simp -dsimp -implicitDefEqProofs [-getElem?_pos,go_sem,hP,am]
  exact done_imm (fin ⟨_,_,_,_,_,_,_⟩) ⟨⟨_,_,_,_,_,_,_⟩,rfl⟩
 have d6:decide (k=6)=false:=decide_eq_false c6
 by_cases c7:k=7
 ·subst c7
  simp -dsimp -implicitDefEqProofs [-getElem?_pos,go_sem,hP,am]
  refine callB_isQ (RG 1 2 (by omega) (by omega)) hP en_59 (by simp -dsimp[-getElem?_pos,go_sem]) (RQ_ex (by omega)) ?_
  rintro r ⟨_,rfl,_⟩ _
  simp -dsimp -implicitDefEqProofs [-getElem?_pos,go_sem,hP]
  refine callB_isQ (RG 1 3 (by omega) (by omega)) hP en_59 (by simp -dsimp[-getElem?_pos,go_sem]) (RQ_ex (by omega)) ?_
  rintro r ⟨_,rfl,_⟩ _
  simp -dsimp -implicitDefEqProofs [-getElem?_pos,go_sem,hP]
  refine callB_isQ (PK [100,1000] (by simp)) hP en_9 (by simp -dsimp[-getElem?_pos,go_sem]) (PQ_ex (by simp)) ?_
  rintro r ⟨_,rfl,_⟩ _
  simp -dsimp -implicitDefEqProofs [-getElem?_pos,go_sem,hP]
  exact done_imm (fin ⟨_,_,_,_,_,_,_⟩) ⟨⟨_,_,_,_,_,_,_⟩,rfl⟩
 have d7:decide (k=7)=false:=decide_eq_false c7
 by_cases c8:k=8
 ·subst c8
  simp -dsimp -implicitDefEqProofs [-getElem?_pos,go_sem,hP,am]
  refine callB_isQ (RG 1 2 (by omega) (by omega)) hP en_59 (by simp -dsimp[-getElem?_pos,go_sem]) (RQ_ex (by omega)) ?_
  rintro r ⟨_,rfl,_⟩ _
  simp -dsimp -implicitDefEqProofs [-getElem?_pos,go_sem,hP]
  refine callB_isQ (RG 1 3 (by omega) (by omega)) hP en_59 (by simp -dsimp[-getElem?_pos,go_sem]) (RQ_ex (by omega)) ?_
  rintro r ⟨_,rfl,_⟩ _
  simp -dsimp -implicitDefEqProofs [-getElem?_pos,go_sem,hP]
  refine callB_isQ (PK [100,1000] (by simp)) hP en_9 (by simp -dsimp[-getElem?_pos,go_sem]) (PQ_ex (by simp)) ?_
  rintro r ⟨_,rfl,_⟩ _
  simp -dsimp -implicitDefEqProofs [-getElem?_pos,go_sem,hP]
  exact done_imm (fin ⟨_,_,_,_,_,_,_⟩) ⟨⟨_,_,_,_,_,_,_⟩,rfl⟩
 have d8:decide (k=8)=false:=decide_eq_false c8
 simp -dsimp -implicitDefEqProofs [-getElem?_pos,go_sem,hP,d1,d2,d3,d4,d5,d6,d7,d8]
 refine callB_isQ (PK [1,2,3] (by simp)) hP en_9 (by simp -dsimp[-getElem?_pos,go_sem]) (PQ_ex (by simp)) ?_
 rintro r ⟨_,rfl,_⟩ _
 simp -dsimp -implicitDefEqProofs [-getElem?_pos,go_sem,hP]
 refine callB_isQ (PK [1,2,7] (by simp)) hP en_9 (by simp -dsimp[-getElem?_pos,go_sem]) (PQ_ex (by simp)) ?_
 rintro r ⟨_,rfl,_⟩ _
 simp -dsimp -implicitDefEqProofs [-getElem?_pos,go_sem,hP]
 refine callB_isQ (PK [5,50] (by simp)) hP en_9 (by simp -dsimp[-getElem?_pos,go_sem]) (PQ_ex (by simp)) ?_
 rintro r ⟨_,rfl,_⟩ _
 simp -dsimp -implicitDefEqProofs [-getElem?_pos,go_sem,hP]
 exact done_imm (fin ⟨_,_,_,_,_,_,_⟩) ⟨⟨_,_,_,_,_,_,_⟩,rfl⟩
def DeedsQ (n:Nat) (x:AV):Prop:=∃l:List TDeed,x=deedsL l∧l.length≤n
theorem DeedsQ_ex (n:Nat):∃r,DeedsQ n r∧Imm r:=⟨_,⟨[],rfl,by simp⟩,imm_deeds []⟩
set_option maxHeartbeats 2000000 in
theorem sdeeds_pf (p:Nat) (src:Option Nat) (n:Nat) (hn:n≤100):PFun Tryz.prog (some p) src 11 [sp p,iv n] (DeedsQ n):=by
 refine pfun_intro Tryz.func11 rfl (by simp[Tryz.f11]) (by kernel_rfl) ?_
 intro E hP hr hs hW hN
 have up:∀{f:FuncId} {args:List AV} {Q:AV→Prop},PFun Tryz.prog (some p) src f args Q→PFun Tryz.prog E.row E.src f args Q:=fun h=>hr▸hs▸h
 have w1:=wrap_in ((n:Int)+1) (by omega)
 simp -dsimp -implicitDefEqProofs [-getElem?_pos,go_sem,hP,w1]
 refine callB_flat (up (N_pf p src ((n:Int)+1) (by omega))) hP en_20 (args_same (by simp -dsimp[-getElem?_pos,go_sem])) (NQ_ex _) (NQ_flat _) ?_
 rintro r ⟨z,rfl,_,hz⟩
 have hz:=hz (by omega)
 obtain⟨c,rfl⟩:∃c:Nat,z=c:=⟨z.toNat,by omega⟩
 simp -dsimp -implicitDefEqProofs [-getElem?_pos,go_sem,hP]
 refine aloop_own 5 59 7 (by simp -dsimp[-getElem?_pos,go_sem]) ?_
 obtain⟨I,hI⟩:∃I:Nat→St→Prop,I=fun m s=>∃(id:Nat) (l:List TDeed) (day:Int),m≤c∧l.length+m=c∧0≤day∧day≤100+3*l.length∧s.t 0=sp p∧s.t 5= .sref id 0 l.length∧s.t 6=iv day∧s.t 7=iv m∧s.H[id]?=some (some ⟨59,7,encL TDeed.cells l⟩):=⟨_,rfl⟩
 refine aloop0 I (c) (by rw[hN];rfl) ?_ ?_
 ·rw[hI]
  exact⟨0,[],100,by omega,by simp,by omega,by simp,by simp -dsimp[-getElem?_pos,go_sem],by simp -dsimp[-getElem?_pos,go_sem],by simp -dsimp[-getElem?_pos,go_sem],by simp -dsimp[-getElem?_pos,go_sem],by simp -dsimp[-getElem?_pos,go_sem,encL]⟩
 intro m s hs'
 rw[hI]at hs'
 obtain⟨id,l,day,hk,hl,hd0,hd1,t0,t5,t6,t7,hH⟩:=hs'
 have ltH:=(gsI hH)
 simp -dsimp -implicitDefEqProofs [-getElem?_pos,go_sem,hP,t7]
 refine condP (fun h=>?_) (fun h=>?_)
 ·have hm:0<m:=by simpa using h
  have wm:=wrap_in ((m:Int)-1) (by omega)
  simp -dsimp -implicitDefEqProofs [-getElem?_pos,go_sem,hP,t0,t6]
  refine callB_isQ (up (N_pf p src 3 (by omega))) hP en_20 (by simp -dsimp[-getElem?_pos,go_sem]) ⟨_,⟨0,rfl,by omega,by omega⟩,.sc⟩ ?_
  rintro r ⟨z,rfl,_,a3⟩ _
  have a3:=a3 (by omega)
  have wd:=wrap_in (day+z) (by omega)
  simp -dsimp -implicitDefEqProofs [-getElem?_pos,go_sem,hP,t5,t0,hH,wd]
  refine callB_isQ (up (sdeed_pf p src (day+z) (by omega))) hP en_23 (by simp -dsimp[-getElem?_pos,go_sem]) DeedQ_ex ?_
  rintro r ⟨d,rfl⟩ _
  have im:=imm_agg.2 d.imm
  rw[cDeedX]at im
  simp -dsimp -implicitDefEqProofs [-getElem?_pos,go_sem,hP,t5,t0,hH,ltH,encL_len,t7,wm,cDeedX]
  refine⟨by omega,by omega,m-1,by omega,?_⟩
  rw[hI]
  refine⟨s.H.length,l++[d],day+z,by omega,by simp;omega,by omega,by simp;omega,by simp -dsimp[-getElem?_pos,go_sem,t0],by simp -dsimp[-getElem?_pos,go_sem],by simp -dsimp[-getElem?_pos,go_sem],?_,by simp -dsimp[-getElem?_pos,go_sem,encL,cDeedX]⟩
  simp -dsimp -implicitDefEqProofs [-getElem?_pos,go_sem,hP]
  omega
 ·have hm:m=0:=by
   have:¬0<m:=by simpa using h
   omega
  simp -dsimp -implicitDefEqProofs [-getElem?_pos,go_sem,hP,t5]
  refine done (x:=deedsL l) ?_ ⟨l,rfl,by omega⟩ ?_<;>rw[view_sref,hH,viewS_some]
  ·rw[List.drop_zero,List.take_of_length_le (by simp[encL])]
   exact imm_deeds l
  ·rw[List.drop_zero,List.take_of_length_le (by simp[encL])]
end Go.Proofs.YtaenimpfelpafaaGreatDoor
namespace Go.PA
open Go.RowKit
abbrev CS:=List AV×Heap
def setP:List AV→Nat→AV→List AV
 |[],0,v=>[v]
 |[],n+1,v=> .sc undef::setP [] n v
 |_::l,0,v=>v::l
 |a::l,n+1,v=>a::setP l n v
theorem initT_setP:∀(l:List AV) (i:Nat) (v:AV),initT (setP l i v)=upd (initT l) i v:=by
 have key:∀(l:List AV) (i:Nat) (v:AV) (j:Nat),(setP l i v).getD j (.sc undef)=if j=i then v else l.getD j (.sc undef):=by
  intro l
  induction l with
  |nil=>
   intro i
   induction i with
   |zero=>intro v j;cases j<;>simp[setP]
   |succ i ih=>intro v j;cases j with
    |zero=>simp[setP]
    |succ j=>simpa[setP]using ih v j
  |cons a l ih=>
   intro i v j
   cases i with
   |zero=>cases j<;>simp[setP]
   |succ i=>cases j with
    |zero=>simp[setP]
    |succ j=>simpa[setP]using ih i v j
 intro l i v
 funext j
 exact key l i v j
def CS.st (s:CS):St:=⟨initT s.1,s.2⟩
def putL (l:List AV) (d:Option Tmp) (x:AV):List AV:=match d with
 |some d=>setP l d x
 |none=>l
theorem putL_t (l:List AV) (d:Option Tmp) (x:AV):initT (putL l d x)=putT (initT l) d x:=by
 cases d
 ·rfl
 ·exact initT_setP _ _ _
def immB:Nat→AV→Bool
 |0,_=>false
 |_,.sc _=>true
 |_,.nil=>true
 |_,.imap _=>true
 |n+1,.agg cs=>cs.all (immB n)
 |n+1,.tup cs=>cs.all (immB n)
 |n+1,.iref cs=>cs.all (immB n)
 |n+1,.fn _ cs=>cs.all (immB n)
 |n+1,.list _ es=>es.all fun e=>e.all (immB n)
 |_,_=>false
theorem immB_imm:∀(n:Nat) (a:AV),immB n a=true→Imm a
 |0,_,h=>by simp[immB]at h
 |n+1,a,h=>by
  cases a<;>simp only[immB,List.all_eq_true,reduceCtorEq]at h
  case sc=>exact .sc
  case nil=>exact .nil
  case imap=>exact .imap
  case agg cs=>exact .agg fun a ha=>immB_imm n a (h a ha)
  case tup cs=>exact .tup fun a ha=>immB_imm n a (h a ha)
  case iref cs=>exact .iref fun a ha=>immB_imm n a (h a ha)
  case fn f cs=>exact .fn fun a ha=>immB_imm n a (h a ha)
  case list k es=>exact .list fun e he a ha=>immB_imm n a (h e he a ha)
def flatB:Nat→AV→Bool
 |0,_=>false
 |_,.sc _=>true
 |_,.nil=>true
 |n+1,.agg cs=>cs.all (flatB n)
 |n+1,.tup cs=>cs.all (flatB n)
 |_,_=>false
theorem flatB_flat:∀(n:Nat) (a:AV),flatB n a=true→Flat a
 |0,_,h=>by simp[flatB]at h
 |n+1,a,h=>by
  cases a<;>simp only[flatB,List.all_eq_true,reduceCtorEq]at h
  case sc=>exact .sc
  case nil=>exact .nil
  case agg cs=>exact .agg fun a ha=>flatB_flat n a (h a ha)
  case tup cs=>exact .tup fun a ha=>flatB_flat n a (h a ha)
def valEq:Value→Value→Bool
 | .int k a,.int k' b=>decide (k=k')&&decide (a=b)
 | .bool a,.bool b=>decide (a=b)
 | .string a,.string b=>decide (a=b)
 |_,_=>false
theorem valEq_eq {v u:Value} (h:valEq v u=true):v=u:=by
 cases v<;>cases u<;>simp_all [valEq]
def listEq {α:Type} (f:α→α→Bool):List α→List α→Bool
 |[],[]=>true
 |a::l,b::r=>f a b&&listEq f l r
 |_,_=>false
theorem listEq_eq {α:Type} {f:α→α→Bool} (hf:∀a b,f a b=true→a=b):∀{l r:List α},listEq f l r=true→l=r
 |[],[],_=>rfl
 |a::l,b::r,h=>by
  simp only[listEq,Bool.and_eq_true]at h
  rw[hf _ _ h.1,listEq_eq hf h.2]
 |[],_::_,h=>by simp[listEq]at h
 |_::_,[],h=>by simp[listEq]at h
def avEq:Nat→AV→AV→Bool
 |0,_,_=>false
 |_+1,.sc v,.sc u=>valEq v u
 |_+1,.nil,.nil=>true
 |n+1,.agg xs,.agg ys=>listEq (avEq n) xs ys
 |n+1,.tup xs,.tup ys=>listEq (avEq n) xs ys
 |n+1,.list k xs,.list k' ys=>decide (k=k')&&listEq (listEq (avEq n)) xs ys
 |n+1,.iref xs,.iref ys=>listEq (avEq n) xs ys
 |n+1,.fn f xs,.fn g ys=>decide (f=g)&&listEq (avEq n) xs ys
 |_+1,.ref i j k,.ref i' j' k'=>decide (i=i')&&decide (j=j')&&decide (k=k')
 |_+1,.sref i j k,.sref i' j' k'=>decide (i=i')&&decide (j=j')&&decide (k=k')
 |_+1,_,_=>false
theorem avEq_eq:∀(n:Nat) {a b:AV},avEq n a b=true→a=b
 |0,_,_,h=>by simp[avEq]at h
 |n+1,a,b,h=>by
  have ih:∀x y,avEq n x y=true→x=y:=fun x y=>avEq_eq n
  cases a<;>cases b<;>simp only[avEq,reduceCtorEq,Bool.and_eq_true,decide_eq_true_eq]at h
  case sc v u=>rw[valEq_eq h]
  case nil=>rfl
  case agg xs ys=>rw[listEq_eq ih h]
  case tup xs ys=>rw[listEq_eq ih h]
  case list k xs k' ys=>
   obtain⟨rfl,h⟩:=h
   rw[listEq_eq (fun _ _=>listEq_eq ih) h]
  case iref xs ys=>rw[listEq_eq ih h]
  case fn f xs g ys=>
   obtain⟨rfl,h⟩:=h
   rw[listEq_eq ih h]
  case ref i j k i' j' k'=>
   obtain⟨⟨rfl,rfl⟩,rfl⟩:=h
   rfl
  case sref i j k i' j' k'=>
   obtain⟨⟨rfl,rfl⟩,rfl⟩:=h
   rfl
def objEq:Option AObj→Option AObj→Bool
 |none,none=>true
 |some o,some o'=>decide (o.ty=o'.ty)&&decide (o.k=o'.k)&&listEq (listEq (avEq 6)) o.es o'.es
 |_,_=>false
theorem objEq_eq {a b:Option AObj} (h:objEq a b=true):a=b:=by
 cases a with
 |none=>cases b with
  |none=>rfl
  |some o=>simp[objEq]at h
 |some o=>cases b with
  |none=>simp[objEq]at h
  |some o'=>
   obtain⟨ty,k,es⟩:=o
   obtain⟨ty',k',es'⟩:=o'
   simp only[objEq,Bool.and_eq_true,decide_eq_true_eq]at h
   obtain⟨⟨rfl,rfl⟩,h⟩:=h
   rw[listEq_eq (fun _ _=>listEq_eq fun _ _=>avEq_eq 6) h]
def agreeB (D:Nat→Bool):Nat→Heap→Heap→Bool
 |_,[],_=>true
 |i,x::l,r=>match r with
  |y::r=>(!D i||objEq x y)&&agreeB D (i+1) l r
  |[]=>false
theorem agreeB_get {D:Nat→Bool}:∀{H H':Heap} {i:Nat},agreeB D i H H'=true→∀j,j<H.length→D (i+j)=true→H'[j]?=H[j]?
 |[],_,_,_,j,hj,_=>by simp at hj
 |x::l,[],i,h,_,_,_=>by simp[agreeB]at h
 |x::l,y::r,i,h,j,hj,hd=>by
  simp only[agreeB,Bool.and_eq_true,Bool.or_eq_true,Bool.not_eq_true']at h
  match j,hj,hd with
  |0,_,hd=>
   have:=h.1.resolve_left (by rw[Nat.add_zero]at hd;rw[hd];simp)
   simp[objEq_eq this]
  |j+1,hj,hd=>
   rw[List.getElem?_cons_succ,List.getElem?_cons_succ]
   exact agreeB_get h.2 j (by simpa using hj) (by rw[show i+1+j=i+(j+1) by omega];exact hd)
def bindL {α β:Type} (f:α→Option (List β)):List α→Option (List β)
 |[]=>some []
 |a::l=>match f a with
  |some xs=>match bindL f l with
   |some ys=>some (xs++ys)
   |none=>none
  |none=>none
theorem bindL_mem {α β:Type} {f:α→Option (List β)}:∀{l:List α} {ys:List β},bindL f l=some ys→∀a,a∈l→∃xs,f a=some xs∧∀x,x∈xs→x∈ys
 |[],ys,h,a,ha=>by cases ha
 |b::l,ys,h,a,ha=>by
  simp only[bindL]at h
  split at h
  ·rename_i xs hx
   split at h
   ·rename_i zs hz
    simp only[Option.some.injEq]at h
    subst h
    rcases List.mem_cons.1 ha with rfl|ha
    ·exact⟨xs,hx,fun x hx=>by simp[hx]⟩
    ·obtain⟨us,h1,h2⟩:=bindL_mem hz a ha
     exact⟨us,h1,fun x hx=>by simp[h2 x hx]⟩
   ·cases h
  ·cases h
def xclear (P:Program) (t:TypeId) (H:Heap) (x:AV):Option Heap:=match x,elemOf P t with
 | .sref id lo dn,some e=>match H[id]?,zeros P e with
  |some (some o),some zs=>if o.k=szOf P e∧0<o.k∧0<dn∧lo≤o.es.length then some (H.set id (some {o with es:=o.es.take lo++List.replicate dn zs++o.es.drop (lo+dn)}))else none
  |_,_=>none
 | .list _ [],some _=>some H
 |_,_=>none
abbrev Run:=FuncId→List AV→Heap→Option (List (AV×Heap))
def xeff (P:Program) (call:Run) (op:Op) (ev:Operand→AV) (H:Heap):Option (List (AV×Heap)):=
 match op with
 | .store t a x=>(astore P t H (ev a) (ev x)).map fun H'=>[(.sc undef,H')]
 | .alloc t=>(zeros P t).map fun zs=>[(.ref H.length 0 0,H++[some ⟨t,szOf P t,[zs]⟩])]
 | .box t x=>((ev x).cells?).map fun xs=>[(.ref H.length 0 0,H++[some ⟨t,xs.length,[xs]⟩])]
 | .makeSlice t l c=>match amake P t H (ev l) (ev c)with
  |some (r,H',m,B)=>if (B:Int)*m≤281474976710656∧m≤9223372036854775807 then some [(r,H')]else none
  |none=>none
 | .buildSlice t 0 parts=>match elemOf P t with
  |some e=>if knownT P e=true∧parts.size=0 then some [(.sref H.length 0 0,H++[some ⟨e,szOf P e,[]⟩])]else none
  |none=>none
 | .makeMap _ none=>some [(.mref H.length,H++[some ⟨0,2,[]⟩])]
 | .mapUpdate t x k v=>(aupdate P t H (ev x) (ev k) (ev v)).map fun H'=>[(.sc undef,H')]
 | .mapEntry ..=>none
 | .entryStore ..=>none
 | .range _ _=>none
 | .next _ _=>none
 | .call c=>match c.callee with
  | .builtin .append=>if fullBase (c.args.toList.map ev)=true then none else match c.args.toList,c.argTypes.toList with
   |[s,x],[t,t']=>if t=t' then match aappend P t H (ev s) (ev x)with
    |some (r,H',N,B)=>if N≤9223372036854775807∧N*B≤140737488355328 then some [(r,H')]else none
    |none=>none else none
   |_,_=>none
  | .builtin .copy=>none
  | .builtin .clear=>match c.args.toList,c.argTypes.toList with
   |[x],[t]=>(xclear P t H (ev x)).map fun H'=>[(.tup [],H')]
   |_,_=>none
  | .value f=>match ev f with
   | .fn g caps=>if enterable P g=true then call g (c.args.toList.map ev++caps) H else none
   |_=>none
  |_=>(aread P (.call c) ev H).map fun v=>[(v,H)]
 |op=>(aread P op ev H).map fun v=>[(v,H)]
section
variable {E:Env}
abbrev IsL (L:List (AV×Heap)):AV→Heap→Prop:=fun x K=>(x,K)∈L
abbrev CallOk (E:Env) (call:Run):Prop:=∀g args H L,call g args H=some L→ACall E g args H (IsL L)
abbrev RunOk (P:Program) (run:Run):Prop:=∀g args H L,run g args H=some L→∀row src,MFun P row src g args H (IsL L)
theorem xeff_sound {call:Run} (hc:CallOk E call) {op:Op} {ev:Operand→AV} {H:Heap} {L:List (AV×Heap)}
  (h:xeff E.P call op ev H=some L):AEff E op ev H (IsL L):=by
 have rd:∀{o:Option AV},o.map (fun v=>[(v,H)])=some L→(match o with|some v=>IsL L v H|none=>False):=fun {o} h=>by
  cases o with
  |none=>simp at h
  |some v=>simp only[Option.map_some,Option.some.injEq]at h;subst h;exact List.mem_singleton.2 rfl
 have one:∀{x:AV} {K:Heap},some [(x,K)]=some L→IsL L x K:=fun h=>by
  simp only[Option.some.injEq]at h
  subst h
  exact List.mem_singleton.2 rfl
 unfold xeff at h
 unfold AEff
 split at h
 ·simp only[Option.map_eq_some_iff]at h
  obtain⟨K,hK,rfl⟩:=h
  simp only[hK]
  exact List.mem_singleton.2 rfl
 ·simp only[Option.map_eq_some_iff]at h
  obtain⟨K,hK,rfl⟩:=h
  simp only[hK]
  exact List.mem_singleton.2 rfl
 ·simp only[Option.map_eq_some_iff]at h
  obtain⟨K,hK,rfl⟩:=h
  simp only[hK]
  exact List.mem_singleton.2 rfl
 ·split at h
  ·rename_i hm
   split at h
   ·rename_i hb
    simp only[hm]
    exact⟨hb.1,hb.2,one h⟩
   ·cases h
  ·cases h
 ·split at h
  ·rename_i e he
   split at h
   ·rename_i hb
    simp only[he,if_pos hb]
    exact one h
   ·cases h
  ·cases h
 ·exact one h
 ·simp only[Option.map_eq_some_iff]at h
  obtain⟨K,hK,rfl⟩:=h
  simp only[hK]
  exact List.mem_singleton.2 rfl
 ·cases h
 ·cases h
 ·cases h
 ·cases h
 ·rename_i c
  split at h
  ·rename_i hcal
   simp only[hcal]
   split at h
   ·cases h
   ·rename_i hf
    rw[if_neg hf]
    split at h
    ·rename_i s x t t' h1 h2
     split at h
     ·rename_i htt
      split at h
      ·rename_i ha
       split at h
       ·rename_i hb
        simp only[h1,h2,ha]
        exact⟨htt,hb.1,hb.2,one h⟩
       ·cases h
      ·cases h
     ·cases h
    ·cases h
  ·cases h
  ·rename_i hcal
   simp only[hcal]
   split at h
   ·rename_i x t h1 h2
    simp only[Option.map_eq_some_iff]at h
    obtain⟨K,hK,rfl⟩:=h
    have e2:c.argTypes=#[t]:=Array.toList_inj.1 h2
    rw[h1,e2]
    unfold xclear at hK
    split at hK
    ·rename_i id lo dn e hx he
     split at hK
     ·rename_i o zs ho hz
      split at hK
      ·rename_i hc'
       simp only[Option.some.injEq]at hK
       subst hK
       rw[List.map_cons,List.map_nil,hx]
       exact buiB_clear (b:= .mk) (.inl rfl) ho he hc'.1 hc'.2.1 hz hc'.2.2.1 hc'.2.2.2 (List.mem_singleton.2 rfl)
      ·cases hK
     ·cases hK
    ·rename_i k e hx he
     simp only[Option.some.injEq]at hK
     subst hK
     rw[List.map_cons,List.map_nil,hx]
     exact buiB_clear_nil (b:= .mk) he (List.mem_singleton.2 rfl)
    ·cases hK
   ·cases h
  ·rename_i f hcal
   simp only[hcal]
   split at h
   ·rename_i g caps hg
    split at h
    ·rename_i hen
     simp only[hg]
     exact .inl ⟨hen,hc _ _ _ _ h⟩
    ·cases h
   ·cases h
  ·rename_i h1 h2 h3 h4
   dsimp only
   split
   ·rename_i hcal;exact (h1 hcal).elim
   ·rename_i hcal;exact (h2 hcal).elim
   ·rename_i hcal;exact (h3 hcal).elim
   ·rename_i f hcal;exact (h4 f hcal).elim
   ·exact rd h
 ·rename_i h1 h2 h3 h4 h5 h6 h7 ha hb h8 h9 h10
  split
  ·exact (h1 _ _ _ rfl).elim
  ·exact (h2 _ rfl).elim
  ·exact (h3 _ _ rfl).elim
  ·exact (h4 _ _ _ rfl).elim
  ·exact (h5 _ _ rfl).elim
  ·exact (h6 _ rfl).elim
  ·exact (h7 _ _ _ _ rfl).elim
  ·exact (ha _ _ _ rfl).elim
  ·exact (hb _ _ _ _ rfl).elim
  ·exact (h8 _ _ rfl).elim
  ·exact (h9 _ _ rfl).elim
  ·exact (h10 _ rfl).elim
  ·exact rd h
def xstep (P:Program) (call:Run) (ops:Array Oper) (o:Oper) (s:CS):Option (List CS):=
 match aguard ops o (initT s.1)with
 |some true=>(xeff P call o.op (St.eval ⟨initT s.1,s.2⟩) s.2).map fun L=>L.map fun y=>(putL s.1 o.dst y.1,y.2)
 |some false=>some [(putL s.1 o.dst (.sc undef),s.2)]
 |none=>none
def xops (P:Program) (call:Run) (ops:Array Oper):List Oper→CS→Option (List CS)
 |[],s=>some [s]
 |o::l,s=>match xstep P call ops o s with
  |some ss=>bindL (xops P call ops l) ss
  |none=>none
def xr (D:Nat→Bool):Nat→Heap→Heap
 |_,[]=>[]
 |i,x::l=>(if D i then x else none)::xr D (i+1) l
theorem xr_get (D:Nat→Bool):∀(H:Heap) (i j:Nat),(xr D i H)[j]?=H[j]?.map fun x=>if D (i+j)then x else none
 |[],i,j=>by simp[xr]
 |x::l,i,0=>by simp[xr]
 |x::l,i,j+1=>by rw[xr,List.getElem?_cons_succ,xr_get D l,List.getElem?_cons_succ,show i+1+j=i+(j+1) by omega]
theorem xr_eq (D:Nat→Bool) (H:Heap):xr D 0 H=restr D H:=by
 apply List.ext_getElem?
 intro j
 rw[xr_get,restr,List.getElem?_mapIdx,Nat.zero_add]
def xtouch (op:Op) (ev:Operand→AV):Option (List Nat):=match op with
 | .store _ a _=>match ev a with
  | .ref id _ _=>some [id]
  |_=>none
 | .alloc _=>some []
 | .box _ _=>some []
 | .makeSlice _ _ _=>some []
 | .call c=>match c.callee with
  | .builtin .append=>match c.args.toList.map ev with
   | .sref id _ _::_=>some [id]
   | .nil::_=>some []
   |_=>none
  |_=>none
 |_=>none
theorem get_app {H:Heap} {x:Option AObj} {id:Nat} (h:id<H.length):(H++[x])[id]?=H[id]?:=List.getElem?_append_left h
theorem xtouch_sound {P:Program} {call:Run} {op:Op} {ev:Operand→AV} {H:Heap} {L:List (AV×Heap)} {X:List Nat}
  (h:xeff P call op ev H=some L) (ht:xtouch op ev=some X) (id:Nat) (hid:id<H.length) (hX:id∉X) {r:AV} {H':Heap} (hL:(r,H')∈L):H'[id]?=H[id]?:=by
 unfold xtouch at ht
 split at ht
 ·rename_i t a x
  simp only[xeff,Option.map_eq_some_iff]at h
  obtain⟨K,hK,rfl⟩:=h
  simp only[List.mem_singleton,Prod.mk.injEq]at hL
  obtain⟨_,rfl⟩:=hL
  split at ht
  ·rename_i i j k ha
   simp only[Option.some.injEq]at ht
   subst ht
   rw[ha]at hK
   unfold astore at hK
   split at hK
   ·rename_i i' _ _ _ _ heq _
    cases heq
    split at hK
    ·split at hK
     ·split at hK
      ·simp only[Option.some.injEq]at hK
       subst hK
       rw[List.getElem?_set_ne (by simpa using Ne.symm (by simpa using hX))]
      ·cases hK
     ·cases hK
    ·cases hK
   ·cases hK
  ·cases ht
 ·simp only[xeff,Option.map_eq_some_iff]at h
  obtain⟨K,hK,rfl⟩:=h
  simp only[List.mem_singleton,Prod.mk.injEq]at hL
  obtain⟨_,rfl⟩:=hL
  exact get_app hid
 ·simp only[xeff,Option.map_eq_some_iff]at h
  obtain⟨K,hK,rfl⟩:=h
  simp only[List.mem_singleton,Prod.mk.injEq]at hL
  obtain⟨_,rfl⟩:=hL
  exact get_app hid
 ·simp only[xeff]at h
  split at h
  ·rename_i hm
   split at h
   ·simp only[Option.some.injEq]at h
    subst h
    simp only[List.mem_singleton,Prod.mk.injEq]at hL
    obtain⟨_,rfl⟩:=hL
    unfold amake at hm
    split at hm
    ·split at hm
     ·split at hm
      ·simp only[Option.some.injEq,Prod.mk.injEq]at hm
       obtain⟨_,rfl,_⟩:=hm
       exact get_app hid
      ·cases hm
     ·cases hm
    ·cases hm
   ·cases h
  ·cases h
 ·rename_i c
  split at ht
  ·rename_i hcal
   simp only[xeff,hcal]at h
   split at h
   ·cases h
   ·split at h
    ·rename_i s x t t' h1 h2
     split at h
     ·split at h
      ·rename_i ha
       split at h
       ·simp only[Option.some.injEq]at h
        subst h
        simp only[List.mem_singleton,Prod.mk.injEq]at hL
        obtain⟨_,rfl⟩:=hL
        rw[h1]at ht
        unfold aappend at ha
        split at ha
        ·cases ha
        ·split at ha
         ·split at ha
          ·cases ha
          ·split at ha
           ·simp only[Option.some.injEq,Prod.mk.injEq]at ha
            obtain⟨_,rfl,_⟩:=ha
            exact get_app hid
           ·rename_i hs
            simp only[List.map_cons,hs,Option.some.injEq]at ht
            subst ht
            split at ha
            ·split at ha
             ·simp only[Option.some.injEq,Prod.mk.injEq]at ha
              obtain⟨_,rfl,_⟩:=ha
              rw[get_app (by simpa using hid),List.getElem?_set_ne (by simpa using Ne.symm (by simpa using hX))]
             ·cases ha
            ·cases ha
           ·cases ha
         ·cases ha
       ·cases h
      ·cases h
     ·cases h
    ·cases h
  ·cases ht
 ·cases ht
def xsame:List (AV×Heap)→Option AV
 |[]=>none
 |(r,H)::L=>if immB 6 (view H r)&&L.all (fun y=>avEq 6 (view H r) (view y.2 y.1))then some (view H r)else none
theorem xsame_sound {L:List (AV×Heap)} {v:AV} (h:xsame L=some v):Imm v∧∀y,y∈L→view y.2 y.1=v:=by
 unfold xsame at h
 split at h
 ·cases h
 ·rename_i r H L
  split at h
  ·rename_i hc
   simp only[Bool.and_eq_true,List.all_eq_true]at hc
   simp only[Option.some.injEq]at h
   subst h
   refine⟨immB_imm 6 _ hc.1,fun y hy=>?_⟩
   rcases List.mem_cons.1 hy with rfl|hy
   ·rfl
   ·exact (avEq_eq 6 (hc.2 y hy)).symm
  ·cases h
def xpure (run:Run) (g:FuncId) (args:List AV):Option AV:=
 if args.all (immB 6)then match run g args []with
  |some L=>xsame L
  |none=>none
 else none
def xdstep (P:Program) (run call:Run) (D:Nat→Bool) (n:Nat) (S T:List Nat) (ops:Array Oper) (k:Nat) (o:Oper) (s:CS):Option (List CS):=
 match aguard ops o (initT s.1)with
 |some true=>
  if T.contains k then (match o.op with
   | .call c=>match c.callee with
    | .value f=>match St.eval ⟨initT s.1,s.2⟩ f with
     | .fn g caps=>if enterable P g=true then (xpure run g (c.args.toList.map (St.eval ⟨initT s.1,s.2⟩)++caps)).map fun x=>[(putL s.1 o.dst x,s.2)]else none
     |_=>none
    |_=>none
   |_=>none)
  else if isRead o.op then (aread P o.op (St.eval ⟨initT s.1,s.2⟩) (if S.contains k then s.2 else xr D 0 s.2)).map fun x=>[(putL s.1 o.dst x,s.2)]
  else if S.contains k then (xeff P call o.op (St.eval ⟨initT s.1,s.2⟩) s.2).map fun L=>L.map fun y=>(putL s.1 o.dst y.1,y.2)
  else match xtouch o.op (St.eval ⟨initT s.1,s.2⟩)with
   |some X=>if n≤s.2.length&&X.all (fun i=>!D i)then (xeff P call o.op (St.eval ⟨initT s.1,s.2⟩) s.2).map fun L=>L.map fun y=>(putL s.1 o.dst y.1,y.2)else none
   |none=>match xeff P call o.op (St.eval ⟨initT s.1,s.2⟩) s.2 with
    |some L=>if n≤s.2.length&&L.all (fun y=>agreeB D 0 s.2 y.2)then some (L.map fun y=>(putL s.1 o.dst y.1,y.2))else none
    |none=>none
 |some false=>some [(putL s.1 o.dst (.sc undef),s.2)]
 |none=>none
def xdops (P:Program) (run call:Run) (D:Nat→Bool) (n:Nat) (S T:List Nat) (ops:Array Oper):List Oper→Nat→CS→Option (List CS)
 |[],_,s=>some [s]
 |o::l,k,s=>match xdstep P run call D n S T ops k o s with
  |some ss=>bindL (xdops P run call D n S T ops l (k+1)) ss
  |none=>none
def xorders (P:Program) (run call:Run) (D:Nat→Bool) (n:Nat) (S T:List Nat) (ops:Array Oper):Nat→Array Bool→CS→Option (List CS)
 |0,listed,s=>if Region.ready .any ops listed=[]then some [s]else none
 |k+1,listed,s=>match Region.ready .any ops listed with
  |[]=>none
  |R=>let one:=fun i=>match ops[i]? with
    |some o=>match xdstep P run call D n S T ops i o s with
     |some ss=>bindL (xorders P run call D n S T ops k (listed.setIfInBounds i true)) ss
     |none=>none
    |none=>none
   match R.find? fun i=>pickOk ops S T listed i with
   |some i=>one i
   |none=>bindL one R
structure DH where
 S:List Nat
 T:List Nat
 X:List Nat
def idOf:AV→Option Nat
 | .ref id _ _=>some id
 | .sref id _ _=>some id
 | .mref id=>some id
 |_=>none
def DH.D (d:DH) (s:CS):Nat→Bool:=fun i=>decide (i<s.2.length)&&d.X.all fun j=>!(idOf (initT s.1 j)==some i)
def xregion (P:Program) (run call:Run) (d:DH) (ops:Array Oper) (s:CS):Option (List CS):=
 if regionX ops d.S d.T then xdops P run call (d.D s) s.2.length d.S d.T ops ops.toList 0 s
 else xorders P run call (d.D s) s.2.length d.S d.T ops ops.size (Array.replicate ops.size false) s
abbrev Outs:=Option (List (Exit×CS))
def xcode (P:Program) (N:Nat) (hint:Nat→DH) (run:Run) (call:Nat→Run):Nat→Code→CS→Outs
 |0,_,_=>none
 |n+1,c,s=>match c with
  | .skip=>some [(.normal,s)]
  | .region id ops d=>if dstsOk N ops then (match (if d then xregion P run (call id) (hint id) ops s else xops P (call id) ops ops.toList s)with
   |some ss=>some (ss.map fun s'=>(.normal,s'))
   |none=>none)else none
  | .seq a b=>match xcode P N hint run call n a s with
   |some rs=>bindL (fun r=>match r.1 with
    | .normal=>xcode P N hint run call n b r.2
    |e=>some [(e,r.2)]) rs
   |none=>none
  | .cond x a b=>match St.eval ⟨initT s.1,s.2⟩ x with
   | .sc (.bool true)=>xcode P N hint run call n a s
   | .sc (.bool false)=>xcode P N hint run call n b s
   |_=>none
  | .block id c=>match xcode P N hint run call n c s with
   |some rs=>some (rs.map fun r=>match r.1 with
    | .exit i=>if i=id then (.normal,r.2)else (.exit i,r.2)
    |e=>(e,r.2))
   |none=>none
  | .exit id=>some [(.exit id,s)]
  | .label _=>some [(.normal,s)]
  | .ret=>some [(.ret,s)]
  | .loop c=>match xcode P N hint run call n c s with
   |some rs=>bindL (fun r=>match r.1 with
    | .normal=>xcode P N hint run call n (.loop c) r.2
    |e=>some [(e,r.2)]) rs
   |none=>none
  |_=>none
abbrev SL (L:List CS):St→Prop:=fun st=>∃s,s∈L∧st=⟨initT s.1,s.2⟩
theorem AStep.mono {ops:Array Oper} {o:Oper} {s:St} {K K':St→Prop} (h:AStep E ops o s K) (hk:∀s',K s'→K' s'):AStep E ops o s K':=by
 unfold AStep at h⊢
 split
 ·rename_i hg;rw[hg]at h;exact AEff.mono h fun x H' hx=>hk _ hx
 ·rename_i hg;rw[hg]at h;exact hk _ h
 ·rename_i hg;rw[hg]at h;exact h
variable {run call:Run}
theorem sl_of {L:List (AV×Heap)} {s:CS} {d:Option Tmp} {x:AV} {K:Heap} (h:(x,K)∈L):SL (L.map fun y=>(putL s.1 d y.1,y.2)) ⟨putT (initT s.1) d x,K⟩:=
 ⟨_,List.mem_map_of_mem h,by rw[←putL_t]⟩
theorem sl_one {l:List AV} {d:Option Tmp} {x:AV} {H:Heap}:SL [(putL l d x,H)] ⟨putT (initT l) d x,H⟩:=⟨_,List.mem_singleton.2 rfl,by rw[←putL_t]⟩
theorem xstep_sound (hc:CallOk E call) {ops:Array Oper} {o:Oper} {s:CS} {L:List CS} (h:xstep E.P call ops o s=some L):AStep E ops o ⟨initT s.1,s.2⟩ (SL L):=by
 unfold xstep at h
 unfold AStep
 split at h
 ·rename_i hg
  simp only[hg]
  simp only[Option.map_eq_some_iff]at h
  obtain⟨M,hM,rfl⟩:=h
  exact (xeff_sound hc hM).mono fun x K hx=>sl_of hx
 ·rename_i hg
  simp only[hg]
  simp only[Option.some.injEq]at h
  subst h
  exact sl_one
 ·cases h
theorem AOps.mono {ops:Array Oper}:∀(l:List Oper) {s:St} {K K':St→Prop},(∀s,K s→K' s)→AOps E ops l s K→AOps E ops l s K'
 |[],_,_,_,hk,h=>hk _ h
 |_::l,_,_,_,hk,h=>AStep.mono h fun _ h1=>AOps.mono l hk h1
theorem AXOps.mono {D:Nat→Bool} {S T:List Nat} {ops:Array Oper}:∀(l:List Oper) (k:Nat) {s:St} {K K':St→Prop},(∀s,K s→K' s)→AXOps D E ops S T l k s K→AXOps D E ops S T l k s K'
 |[],_,_,_,_,hk,h=>hk _ h
 |_::l,k,_,_,_,hk,h=>XStep.mono h fun _ h1=>AXOps.mono l (k+1) hk h1
theorem xops_sound (hc:CallOk E call) {ops:Array Oper}:∀(l:List Oper) {s:CS} {L:List CS},xops E.P call ops l s=some L→AOps E ops l ⟨initT s.1,s.2⟩ (SL L)
 |[],s,L,h=>by simp only[xops,Option.some.injEq]at h;subst h;exact⟨s,List.mem_singleton.2 rfl,rfl⟩
 |o::l,s,L,h=>by
  simp only[xops]at h
  split at h
  ·rename_i ss h1
   refine (xstep_sound hc h1).mono ?_
   rintro _ ⟨s1,hm,rfl⟩
   obtain⟨M,h2,h3⟩:=bindL_mem h s1 hm
   exact AOps.mono l (fun _ ⟨s2,h4,h5⟩=>⟨s2,h3 s2 h4,h5⟩) (xops_sound hc l h2)
  ·cases h
theorem xpure_sound {P:Program} (hr:RunOk P run) {g:FuncId} {args:List AV} {v:AV} (h:xpure run g args=some v) (row src:Option Nat):
  PFun P row src g args (·=v)∧(∀a,a∈args→Imm a)∧Imm v:=by
 unfold xpure at h
 split at h
 ·rename_i ha
  split at h
  ·rename_i L h1
   obtain⟨hi,hv⟩:=xsame_sound h
   refine⟨pfun_of_mfun (hr _ _ _ _ h1 row src) ?_,fun a hx=>immB_imm 6 a (List.all_eq_true.1 ha a hx),hi⟩
   intro r' K hm
   have:=hv _ hm
   dsimp only at this
   exact⟨v,by rw[this];exact .refl _,by rw[this];exact hi,hi,rfl⟩
  ·cases h
 ·cases h
theorem xdstep_sound (hr:RunOk E.P run) (hc:CallOk E call)
  {D:Nat→Bool} {n:Nat} (hD:∀i,D i=true→i<n) {S T:List Nat} {ops:Array Oper} {k:Nat} {o:Oper} {s:CS} {L:List CS} (h:xdstep E.P run call D n S T ops k o s=some L):XStep D E ops S T k o ⟨initT s.1,s.2⟩ (SL L):=by
 unfold xdstep at h
 unfold XStep
 split at h
 ·rename_i hg
  split at h
  ·rename_i hT
   rw[if_pos hT]
   unfold QStep QOut
   simp only[hg]
   unfold QEff
   split at h
   ·rename_i c hop
    split at h
    ·rename_i f hcal
     split at h
     ·rename_i g caps hf
      split at h
      ·rename_i hen
       simp only[Option.map_eq_some_iff]at h
       obtain⟨v,hv,rfl⟩:=h
       obtain⟨h1,h2,h3⟩:=xpure_sound hr hv E.row E.src
       rw[eval_heap _ _ []]at hf
       simp only[hop,hcal,hf]
       have:=callQ_is (E:=E) (b:= .mk) (k:=fun x=>SL [(putL s.1 o.dst v,s.2)] ⟨putT (initT s.1) o.dst x,s.2⟩) h1 rfl hen h2 h3 sl_one
       rw[eval_heap _ _ []]at this
       exact this
      ·cases h
     ·cases h
    ·cases h
   ·cases h
  ·rename_i hT
   rw[if_neg hT]
   unfold DStep
   simp only[hg]
   unfold DEff
   split at h
   ·rename_i hrd
    rw[if_pos hrd]
    simp only[Option.map_eq_some_iff]at h
    obtain⟨v,hv,rfl⟩:=h
    have e:rdH (!S.contains k) D s.2=(if S.contains k=true then s.2 else xr D 0 s.2):=by
     rw[xr_eq]
     cases S.contains k<;>rfl
    dsimp only
    rw[e]
    simp only[hv]
    exact sl_one
   ·rename_i hrd
    rw[if_neg hrd]
    split at h
    ·rename_i hS
     simp only[Option.map_eq_some_iff]at h
     obtain⟨M,hv,rfl⟩:=h
     refine (xeff_sound hc hv).mono fun x K hx=>⟨fun hs=>?_,sl_of hx⟩
     rw[hS]at hs
     cases hs
    ·split at h
     ·rename_i X hX
      split at h
      ·rename_i hb
       simp only[Bool.and_eq_true,decide_eq_true_eq,List.all_eq_true,Bool.not_eq_true']at hb
       simp only[Option.map_eq_some_iff]at h
       obtain⟨M,hv,rfl⟩:=h
       refine (xeff_sound hc hv).mono fun x K hx=>⟨fun _ id hid=>xtouch_sound hv hX id (Nat.lt_of_lt_of_le (hD id hid) hb.1) (fun hm=>?_) hx,sl_of hx⟩
       rw[hb.2 id hm]at hid
       cases hid
      ·cases h
     ·split at h
      ·rename_i M hv
       split at h
       ·rename_i hb
        simp only[Bool.and_eq_true,decide_eq_true_eq,List.all_eq_true]at hb
        simp only[Option.some.injEq]at h
        subst h
        exact (xeff_sound hc hv).mono fun x K hx=>⟨fun _ id hid=>agreeB_get (hb.2 _ hx) id (Nat.lt_of_lt_of_le (hD id hid) hb.1) (by rw[Nat.zero_add];exact hid),sl_of hx⟩
       ·cases h
      ·cases h
 ·rename_i hg
  simp only[Option.some.injEq]at h
  subst h
  split
  ·unfold QStep QOut
   simp only[hg]
   exact sl_one
  ·unfold DStep
   simp only[hg]
   exact sl_one
 ·cases h
theorem xdops_sound (hr:RunOk E.P run) (hc:CallOk E call)
  {D:Nat→Bool} {n:Nat} (hD:∀i,D i=true→i<n) {S T:List Nat} {ops:Array Oper}:∀(l:List Oper) (k:Nat) {s:CS} {L:List CS},xdops E.P run call D n S T ops l k s=some L→AXOps D E ops S T l k ⟨initT s.1,s.2⟩ (SL L)
 |[],k,s,L,h=>by simp only[xdops,Option.some.injEq]at h;subst h;exact⟨s,List.mem_singleton.2 rfl,rfl⟩
 |o::l,k,s,L,h=>by
  simp only[xdops]at h
  split at h
  ·rename_i ss h1
   refine (xdstep_sound hr hc hD h1).mono ?_
   rintro _ ⟨s1,hm,rfl⟩
   obtain⟨M,h2,h3⟩:=bindL_mem h s1 hm
   exact AXOps.mono l (k+1) (fun _ ⟨s2,h4,h5⟩=>⟨s2,h3 s2 h4,h5⟩) (xdops_sound hr hc hD l (k+1) h2)
  ·cases h
theorem xorders_sound (hr:RunOk E.P run) (hc:CallOk E call)
  {D:Nat→Bool} {n:Nat} (hD:∀i,D i=true→i<n) {S T:List Nat} {ops:Array Oper}:∀(k:Nat) (listed:Array Bool) {s:CS} {L:List CS},xorders E.P run call D n S T ops k listed s=some L→XAny D E ops S T (SL L) k listed ⟨initT s.1,s.2⟩
 |0,listed,s,L,h=>by
  simp only[xorders]at h
  split at h
  ·rename_i h0
   simp only[Option.some.injEq]at h
   subst h
   exact⟨h0,s,List.mem_singleton.2 rfl,rfl⟩
  ·cases h
 |k+1,listed,s,L,h=>by
  simp only[xorders]at h
  split at h
  ·cases h
  ·rename_i R hne
   have one:∀(i:Nat) (M:List CS),(match ops[i]? with
     |some o=>match xdstep E.P run call D n S T ops i o s with
      |some ss=>bindL (xorders E.P run call D n S T ops k (listed.setIfInBounds i true)) ss
      |none=>none
     |none=>none)=some M→(∀x,x∈M→x∈L)→∃o,ops[i]?=some o∧XStep D E ops S T i o ⟨initT s.1,s.2⟩ (XAny D E ops S T (SL L) k (listed.setIfInBounds i true)):=fun i M hM hsub=>by
    split at hM
    ·rename_i o ho
     split at hM
     ·rename_i ss h1
      refine⟨o,ho,(xdstep_sound hr hc hD h1).mono ?_⟩
      rintro _ ⟨s1,hm,rfl⟩
      obtain⟨M',h2,h3⟩:=bindL_mem hM s1 hm
      exact XAny.mono (fun _ ⟨s2,h4,h5⟩=>⟨s2,hsub _ (h3 s2 h4),h5⟩) _ _ _ (xorders_sound hr hc hD k _ h2)
     ·cases hM
    ·cases hM
   split at h
   ·rename_i i hi
    obtain⟨o,ho,hx⟩:=one i L h fun _ h=>h
    have hp:=List.find?_some hi
    exact xany_pick i ho hp hx
   ·refine⟨fun h0=>(hne h0).elim,fun i hi o ho=>?_⟩
    obtain⟨M,h1,h2⟩:=bindL_mem h i hi
    obtain⟨o',ho',hx⟩:=one i M h1 h2
    rw[ho]at ho'
    cases ho'
    exact hx
theorem DH.D_lt (d:DH) (s:CS):∀i,d.D s i=true→i<s.2.length:=fun i h=>by
 simp only[DH.D,Bool.and_eq_true,decide_eq_true_eq]at h
 exact h.1
theorem xregion_sound (hm:E.P.follows .mixedOrders=true) (hr:RunOk E.P run) (hc:CallOk E call) {d:DH} {ops:Array Oper} {s:CS} {L:List CS} {id:Nat} (hb:dstsOk E.N ops=true) (h:xregion E.P run call d ops s=some L):
  AWp E (.region id ops true) ⟨initT s.1,s.2⟩ (fun x st=>x= .normal∧SL L st):=by
 unfold xregion at h
 split at h
 ·rename_i hx
  exact awp_drawA (d.D s) d.S d.T hm hb (XAny.mono (K:=SL L) (fun st hs=>⟨rfl,hs⟩) _ _ _ (xany_all hx (xdops_sound hr hc (DH.D_lt d s) ops.toList 0 h)))
 ·exact awp_drawA (d.D s) d.S d.T hm hb (XAny.mono (K:=SL L) (fun st hs=>⟨rfl,hs⟩) _ _ _ (xorders_sound hr hc (DH.D_lt d s) ops.size _ h))
abbrev OL (L:List (Exit×CS)):Exit→St→Prop:=fun x st=>∃s,(x,s)∈L∧st=⟨initT s.1,s.2⟩
theorem xcode_sound (hm:E.P.follows .mixedOrders=true) (hint:Nat→DH) (hr:RunOk E.P run) {call:Nat→Run} (hc:∀id,CallOk E (call id)):
  ∀(n:Nat) (c:Code) (s:CS) (L:List (Exit×CS)),xcode E.P E.N hint run call n c s=some L→AWp E c ⟨initT s.1,s.2⟩ (OL L):=by
 intro n
 induction n using Nat.strongRecOn with
 |_ n ih=>
  intro c s L h
  cases n with
  |zero=>simp[xcode]at h
  |succ n=>
   have ih1:=ih n (Nat.lt_succ_self n)
   have one:∀{e:Exit} {s:CS},some [(e,s)]=some L→OL L e ⟨initT s.1,s.2⟩:=fun h=>by
    simp only[Option.some.injEq]at h
    subst h
    exact⟨_,List.mem_singleton.2 rfl,rfl⟩
   cases c
   case skip=>simp only[xcode]at h;exact fun a w r=>wp_skip ⟨_,one h,r⟩
   case region id ops d=>
    simp only[xcode]at h
    split at h
    ·rename_i hb
     split at h
     ·rename_i ss h1
      simp only[Option.some.injEq]at h
      subst h
      cases d
      ·simp only[Bool.false_eq_true,if_false]at h1
       refine AWp.mono (awp_region (Q:=fun x st=>x= .normal∧SL ss st) hb (AOps.mono _ (fun s hs=>⟨rfl,hs⟩) (xops_sound (hc id) ops.toList h1))) ?_
       rintro x st ⟨rfl,s1,h2,rfl⟩
       exact⟨s1,List.mem_map.2 ⟨s1,h2,rfl⟩,rfl⟩
      ·simp only[if_true]at h1
       refine AWp.mono (xregion_sound (id:=id) hm hr (hc id) hb h1) ?_
       rintro x st ⟨rfl,s1,h2,rfl⟩
       exact⟨s1,List.mem_map.2 ⟨s1,h2,rfl⟩,rfl⟩
     ·cases h
    ·cases h
   case seq x y=>
    simp only[xcode]at h
    split at h
    ·rename_i rs h1
     intro a w r
     refine wp_seq (wp_mono (ih1 x s _ h1 a w r) ?_)
     rintro e' a' w' ⟨st,⟨s1,hs,rfl⟩,r'⟩
     obtain⟨M,h2,h3⟩:=bindL_mem h _ hs
     dsimp only at h2
     cases e' with
     |normal=>exact wp_mono (ih1 y s1 _ h2 a' w' r') fun e a w ⟨st,⟨s2,h4,h5⟩,r2⟩=>⟨st,⟨s2,h3 _ h4,h5⟩,r2⟩
     |_=>
      simp only[Option.some.injEq]at h2
      subst h2
      exact⟨_,⟨s1,h3 _ (List.mem_singleton.2 rfl),rfl⟩,r'⟩
    ·cases h
   case cond x y z=>
    simp only[xcode]at h
    have he:∀{a:Act} {w:World} {v:Value},Rel E ⟨initT s.1,s.2⟩ a w→St.eval ⟨initT s.1,s.2⟩ x= .sc v→a.eval x=v:=fun {a w v} r hx=>by
     obtain⟨ρ,ok,g,_,_,_,hrr⟩:=r
     have:=rep_eval hrr x
     rw[hx]at this
     exact rep_sc this
    intro a w r
    split at h
    ·rename_i hx
     exact wp_cond_split (he r hx) (fun _=>ih1 y s _ h a w r) (fun e=>by cases e)
    ·rename_i hx
     exact wp_cond_split (he r hx) (fun e=>by cases e) (fun _=>ih1 z s _ h a w r)
    ·cases h
   case block id c=>
    simp only[xcode]at h
    split at h
    ·rename_i rs h1
     simp only[Option.some.injEq]at h
     subst h
     intro a w r
     refine wp_block (wp_mono (ih1 c s _ h1 a w r) ?_)
     rintro e' a' w' ⟨st,⟨s1,hs,rfl⟩,r'⟩
     cases e' with
     |exit i=>
      simp only[Exit.inBlock]
      split
      ·rename_i hi
       exact⟨_,⟨s1,List.mem_map.2 ⟨_,hs,by dsimp only;rw[if_pos hi]⟩,rfl⟩,r'⟩
      ·rename_i hi
       exact⟨_,⟨s1,List.mem_map.2 ⟨_,hs,by dsimp only;rw[if_neg hi]⟩,rfl⟩,r'⟩
     |_=>exact⟨_,⟨s1,List.mem_map.2 ⟨_,hs,rfl⟩,rfl⟩,r'⟩
    ·cases h
   case exit id=>simp only[xcode]at h;exact fun a w r=>wp_exit ⟨_,one h,r⟩
   case label l=>simp only[xcode]at h;exact fun a w r=>wp_label ⟨_,one h,r⟩
   case ret=>simp only[xcode]at h;exact fun a w r=>wp_ret ⟨_,one h,r⟩
   case loop c=>
    intro a w r
    refine wp_loop_ghost (fun k a w=>k≤n+1∧∃s1 M,xcode E.P E.N hint run call k (.loop c) s1=some M∧(∀x,x∈M→x∈L)∧Rel E ⟨initT s1.1,s1.2⟩ a w) (n+1) ⟨Nat.le_refl _,s,L,h,fun _ h=>h,r⟩ ?_
    rintro k a w ⟨hk,s1,M,h1,hsub,r1⟩
    match k,hk,h1 with
    |0,_,h1=>simp[xcode]at h1
    |k+1,hk,h1=>
     simp only[xcode]at h1
     split at h1
     ·rename_i rs h2
      refine wp_mono (ih k (by omega) c s1 _ h2 a w r1) ?_
      rintro e' a' w' ⟨st,⟨s2,hs,rfl⟩,r'⟩
      obtain⟨M',h3,h4⟩:=bindL_mem h1 _ hs
      dsimp only at h3
      cases e' with
      |normal=>exact⟨k,Nat.lt_succ_self k,by omega,s2,M',h3,fun x hx=>hsub x (h4 x hx),r'⟩
      |_=>
       simp only[Option.some.injEq]at h3
       subst h3
       exact⟨_,⟨s2,hsub _ (h4 _ (List.mem_singleton.2 rfl)),rfl⟩,r'⟩
     ·cases h1
   all_goals simp[xcode]at h
end
def xcall (mode:FuncId→Bool) (run:Run) (g:FuncId) (args:List AV) (H:Heap):Option (List (AV×Heap)):=
 if mode g then run g args H
 else if (args.map (view H)).all (immB 6)then match run g (args.map (view H)) []with
  |some L=>match xsame L with
   |some v=>if flatB 6 v||args.all fun a=>(srefs a).isEmpty then some [(v,H)]else run g args H
   |none=>none
  |none=>none
 else run g args H
def xres (P:Program) (rs:List ResultVar):List (Exit×CS)→Option (List (AV×Heap)):=bindL fun r=>match r.1 with
 | .normal=>(ares P ⟨initT r.2.1,r.2.2⟩ rs).map fun v=>[(v,r.2.2)]
 | .ret=>(ares P ⟨initT r.2.1,r.2.2⟩ rs).map fun v=>[(v,r.2.2)]
 |_=>none
def xrun (P:Program) (prim:Run) (hints:FuncId→Nat→DH) (mode:FuncId→Nat→FuncId→Bool) (F:Nat):Nat→Run
 |0,_,_,_=>none
 |n+1,f,args,H=>match prim f args H with
  |some L=>some L
  |none=>match P.funcs[f]? with
   |some fn=>match fn.body with
    |some body=>if args.length≤fn.ntmps then match xcode P fn.ntmps (hints f) (xrun P prim hints mode F n) (fun id=>xcall (mode f id) (xrun P prim hints mode F n)) F body (args,H)with
     |some rs=>match xres P fn.results.toList rs with
      |some (y::L)=>some (y::L)
      |_=>none
     |none=>none
     else none
    |none=>none
   |none=>none
theorem args_view {H:Heap}:∀(args:List AV),(∀a,a∈args→Imm (view H a))→Args H args (args.map (view H))
 |[],_=> .nil
 |a::l,h=> .cons (.refl _) (h a (by simp)) (args_view l fun x hx=>h x (by simp[hx]))
theorem xcall_sound {E:Env} {mode:FuncId→Bool} {run:Run} (hr:RunOk E.P run):CallOk E (xcall mode run):=by
 intro g args H L h
 unfold xcall at h
 split at h
 ·exact hr _ _ _ _ h E.row E.src E rfl rfl rfl
 ·split at h
  ·rename_i ha
   split at h
   ·rename_i L1 h1
    split at h
    ·rename_i v hv
     obtain⟨hi,hall⟩:=xsame_sound hv
     have hav:∀a,a∈args→Imm (view H a):=fun a hx=>immB_imm 6 _ (List.all_eq_true.1 ha _ (List.mem_map_of_mem hx))
     have pf:PFun E.P E.row E.src g (args.map (view H)) (·=v):=pfun_of_mfun (hr _ _ _ _ h1 E.row E.src) (by
      intro r' K hm
      have:=hall _ hm
      dsimp only at this
      exact⟨v,by rw[this];exact .refl _,by rw[this];exact hi,hi,rfl⟩)
     split at h
     ·rename_i hf
      simp only[Option.some.injEq]at h
      subst h
      simp only[Bool.or_eq_true]at hf
      rcases hf with hf|hf
      ·exact acall_flat _ rfl pf (args_view args hav) ⟨_,rfl⟩ (by rintro x rfl;exact flatB_flat 6 _ hf) (by rintro x rfl;exact List.mem_singleton.2 rfl)
      ·exact acall_imm _ rfl pf (args_view args hav) (fun a hx=>by simpa using List.all_eq_true.1 hf a hx) (by rintro x rfl _;exact List.mem_singleton.2 rfl) ⟨_,rfl,hi⟩
     ·exact hr _ _ _ _ h E.row E.src E rfl rfl rfl
    ·cases h
   ·cases h
  ·exact hr _ _ _ _ h E.row E.src E rfl rfl rfl
theorem xrun_sound {P:Program} (hm:P.follows .mixedOrders=true) {prim:Run} (hp:RunOk P prim) (hints:FuncId→Nat→DH) (mode:FuncId→Nat→FuncId→Bool) (F:Nat):∀(n:Nat),RunOk P (xrun P prim hints mode F n)
 |0=>fun _ _ _ _ h=>by simp[xrun]at h
 |n+1=>by
  intro f args H L h row src
  have ih:=xrun_sound hm hp hints mode F n
  simp only[xrun]at h
  split at h
  ·rename_i L1 h1
   simp only[Option.some.injEq]at h
   subst h
   exact hp _ _ _ _ h1 row src
  split at h
  ·rename_i fn hfn
   split at h
   ·rename_i body hb
    split at h
    ·rename_i hn
     split at h
     ·rename_i rs hrs
      split at h
      ·rename_i y L' hres
       simp only[Option.some.injEq]at h
       rw[h]at hres
       refine mfun_of_AWp hfn hb hn ⟨y.1,y.2,by rw[←h];simp⟩ fun E hP _ _ hN=>?_
       subst hP
       rw[←hN]at hrs
       refine (xcode_sound (E:=E) hm (hints f) ih (fun id=>xcall_sound (mode:=mode f id) ih) F body (args,H) _ hrs).mono ?_
       rintro x st ⟨s1,hs,rfl⟩
       obtain⟨M,h2,h3⟩:=bindL_mem hres _ hs
       dsimp only at h2
       cases x<;>simp only[reduceCtorEq,Option.map_eq_some_iff]at h2⊢
       ·obtain⟨v,hv,rfl⟩:=h2
        simp only[AM,hv]
        exact h3 _ (List.mem_singleton.2 rfl)
       ·obtain⟨v,hv,rfl⟩:=h2
        simp only[AM,hv]
        exact h3 _ (List.mem_singleton.2 rfl)
      ·cases h
     ·cases h
    ·cases h
   ·cases h
  ·cases h
theorem pfun_run {P:Program} {prim:Run} (hp:RunOk P prim) (hints:FuncId→Nat→DH) (mode:FuncId→Nat→FuncId→Bool) (F n:Nat) {f:FuncId} {args:List AV} {v:AV} (hm:P.follows .mixedOrders=true)
  (h:xpure (xrun P prim hints mode F n) f args=some v) (row src:Option Nat):PFun P row src f args (·=v):=(xpure_sound (xrun_sound hm hp hints mode F n) h row src).1
def twoE (ty:TypeId) (k:Nat) (H:Heap):List (AV×Heap):=[(.sref H.length 0 0,H++[some ⟨ty,k,[]⟩]),(.sref (H.length+1) 0 0,H++[none]++[some ⟨ty,k,[]⟩])]
def primE (l:List (FuncId×TypeId×Nat)):Run:=fun f args H=>match l.find? (fun x=>x.1==f),args with
 |some (_,ty,k),[.list k' []]=>if k'=k then some (twoE ty k H)else none
 |_,_=>none
theorem primE_ok {P:Program} {l:List (FuncId×TypeId×Nat)} (h:∀x,x∈l→∀(H:Heap) row src,MFun P row src x.1 [.list x.2.2 []] H (IsL (twoE x.2.1 x.2.2 H))):RunOk P (primE l):=by
 intro g args H L hL row src
 unfold primE at hL
 split at hL
 ·rename_i f ty k k' hf
  split at hL
  ·rename_i hk
   subst hk
   simp only[Option.some.injEq]at hL
   subst hL
   have hm:=List.mem_of_find?_eq_some hf
   have hg:=List.find?_some hf
   simp only[beq_iff_eq]at hg
   subst hg
   exact h _ hm H row src
  ·cases hL
 ·cases hL
def modeOf (l:List (FuncId×Nat×FuncId)) (f:FuncId) (r:Nat) (g:FuncId):Bool:=l.any fun x=>x.1==f&&x.2.1==r&&x.2.2==g
def hintOf:List (Nat×Nat×DH)→FuncId→Nat→DH
 |[],_,_=>⟨[],[],[]⟩
 |(f,r,d)::l,g,q=>if f=g then (if r=q then d else hintOf l g q)else hintOf l g q
abbrev KL:=List (FuncId×List AV×AV)
def primK (l:KL):Run:=fun f args H=>match l.find? (fun x=>x.1==f&&listEq (avEq 6) x.2.1 args)with
 |some x=>if args.all (immB 6)&&immB 6 x.2.2 then some [(x.2.2,H)]else none
 |none=>none
def primOr (p q:Run):Run:=fun f args H=>match p f args H with
 |some L=>some L
 |none=>q f args H
theorem primOr_ok {P:Program} {p q:Run} (hp:RunOk P p) (hq:RunOk P q):RunOk P (primOr p q):=by
 intro g args H L h row src
 unfold primOr at h
 split at h
 ·rename_i L1 h1
  simp only[Option.some.injEq]at h
  subst h
  exact hp _ _ _ _ h1 row src
 ·exact hq _ _ _ _ h row src
abbrev KOk (P:Program) (l:KL):Prop:=∀x,x∈l→PFun P none none x.1 x.2.1 (·=x.2.2)
theorem primK_ok {P:Program} {l:KL} (h:KOk P l):RunOk P (primK l):=by
 intro g args H L hL row src
 unfold primK at hL
 split at hL
 ·rename_i x hx
  split at hL
  ·rename_i hi
   simp only[Option.some.injEq]at hL
   subst hL
   simp only[Bool.and_eq_true]at hi
   have hf:=List.find?_some hx
   simp only[Bool.and_eq_true,beq_iff_eq]at hf
   have ha:=listEq_eq (fun _ _=>avEq_eq 6) hf.2
   have hg:=hf.1
   have him:∀a,a∈args→Imm a:=fun a ha=>immB_imm 6 a (List.all_eq_true.1 hi.1 a ha)
   intro E hP hrow hsrc
   subst hrow;subst hsrc
   have pf:=(h x (List.mem_of_find?_eq_some hx)).lift E.row E.src
   rw[ha,hg]at pf
   exact acall_imm args hP pf (args_same him) (fun a ha=>srefs_imm (him a ha)) (fun r hr _=>by rw[hr];exact List.mem_singleton.2 rfl) ⟨_,rfl,immB_imm 6 _ hi.2⟩
  ·cases hL
 ·cases hL
theorem kstep {P:Program} {pE:Run} (hE:RunOk P pE) {l:KL} (h:KOk P l) (hints:FuncId→Nat→DH) (mode:FuncId→Nat→FuncId→Bool) (hm:P.follows .mixedOrders=true) {f:FuncId} {args:List AV} {v:AV}
  (hr:xpure (xrun P (primOr pE (primK l)) hints mode 10000 60) f args=some v):KOk P ((f,args,v)::l):=by
 intro x hx
 rcases List.mem_cons.1 hx with rfl|hx
 ·exact pfun_run (primOr_ok hE (primK_ok h)) hints mode 10000 60 hm hr none none
 ·exact h x hx
theorem kOk_nil {P:Program}:KOk P []:=fun _ h=>by cases h
end Go.PA
set_option maxRecDepth 100000
namespace Go.Proofs.YtaenimpfelpafaaGreatDoor
open Go.PA
open Go.RowKit
theorem pfun_weak {P:Program} {row src:Option Nat} {f:FuncId} {args:List AV} {v x:AV} (h:PFun P row src f args (·=v)) (hi:Imm x) (hw:Weak v x):PFun P row src f args (·=x):=fun w ok vs h1 h2 h3 h4=>
 (h w ok vs h1 h2 h3 h4).mono fun _ _ ⟨u,y,e,hy,_,hr,rest⟩=>by
  subst hy
  exact⟨u,x,e,rfl,hi,hr.weak hw,rest⟩
def WkL:List AV→List AV→Prop
 |[],[]=>True
 |a::us,b::zs=>Weak a b∧WkL us zs
 |_,_=>False
theorem wkL:∀{us zs:List AV},WkL us zs→us.length=zs.length∧∀(i:Nat) (a b:AV),us[i]?=some a→zs[i]?=some b→Weak a b
 |[],[],_=>⟨rfl,fun i a b h=>by simp at h⟩
 |a::us,b::zs,⟨h,h'⟩=>by
  obtain⟨h1,h2⟩:=wkL h'
  refine⟨by simp[h1],fun i x y hx hy=>?_⟩
  cases i with
  |zero=>
   cases hx;cases hy
   exact h
  |succ i=>exact h2 i x y hx hy
 |[],_::_,h=>h.elim
 |_::_,[],h=>h.elim
def startS (c:Int):TState:=⟨⟨⟨c,[⟨1,0⟩,⟨2,0⟩,⟨3,0⟩,⟨7,0⟩],[]⟩,⟨[],[],[]⟩,[]⟩,⟨[],[],[],[]⟩,⟨secs0,[],[]⟩,⟨[]⟩⟩
def strM:=modeOf [(52,9,100),(22,9,57),(22,10,58),(57,1,105),(57,1,106),(57,1,33)]
def strH:FuncId→Nat→DH:=hintOf [(57,1,⟨[10],[],[]⟩)]
theorem start_weak (c:Int):Weak (.tup [.agg [iv c,.list 2 [[iv 1,iv 0],[iv 2,iv 0],[iv 3,iv 0],[iv 7,iv 0]],.nil,.nil,.nil,.nil,.nil,.nil,.nil,.nil,.nil,.list 7 [[iv 1,iv 100,iv 0,iv 7200,iv 5000,iv 6,bv false],[iv 2,iv 100,iv 90,iv 450,iv 0,iv 0,bv false]],.nil,.nil,.nil],iv 0]) (.tup [.agg (startS c).cells,iv 0]):=by
 refine weak_tup2 ?_ (.refl _)
 obtain⟨h1,h2⟩:=wkL (us:=[iv c,.list 2 [[iv 1,iv 0],[iv 2,iv 0],[iv 3,iv 0],[iv 7,iv 0]],.nil,.nil,.nil,.nil,.nil,.nil,.nil,.nil,.nil,.list 7 [[iv 1,iv 100,iv 0,iv 7200,iv 5000,iv 6,bv false],[iv 2,iv 100,iv 90,iv 450,iv 0,iv 0,bv false]],.nil,.nil,.nil]) (zs:=(startS c).cells) ⟨.refl _,.refl _,.nil _,.nil _,.nil _,.nil _,.nil _,.nil _,.nil _,.nil _,.nil _,.refl _,.nil _,.nil _,.nil _,trivial⟩
 exact .agg h1 h2
theorem cstart0_pf (row src:Option Nat):PFun Tryz.prog row src 8 [intsL [1,2,3,7],iv 0,secsL secs0] (·= .tup [.agg (startS 0).cells,iv 0]):=
 pfun_weak (pfun_run (primE_ok (l:=[]) fun x hx=>by cases hx) strH strM 10000 60 (by kernel_rfl) (by kernel_rfl) row src) (imm_pair (imm_st _) .sc) (start_weak 0)
theorem cstart50_pf (row src:Option Nat):PFun Tryz.prog row src 8 [intsL [1,2,3,7],iv 50,secsL secs0] (·= .tup [.agg (startS 50).cells,iv 0]):=
 pfun_weak (pfun_run (primE_ok (l:=[]) fun x hx=>by cases hx) strH strM 10000 60 (by kernel_rfl) (by kernel_rfl) row src) (imm_pair (imm_st _) .sc) (start_weak 50)
theorem cstart_pf (row src:Option Nat) {c:Int} (h:c=0∨c=50):PFun Tryz.prog row src 8 [intsL [1,2,3,7],iv c,secsL secs0] (·= .tup [.agg (startS c).cells,iv 0]):=by
 rcases h with rfl|rfl
 ·exact cstart0_pf row src
 ·exact cstart50_pf row src
theorem start_fit (c:Int):FitS 0 (startS c) where
 d:=⟨by simp[startS],by simp[startS],⟨by simp[startS],by simp[startS],by simp[startS],by simp[startS]⟩,by simp[startS]⟩
 c:=rfl
 cl:=⟨rfl,by simp[startS]⟩
 r:=⟨by kernel_rfl,by simp[startS,secs0],.nil,by simp[startS]⟩
 rm:=by simp[startS]
 l:=by simp[startS]
open Go.PA
open Go.RowKit
theorem agree_snoc {α β:Type} {p:α→β→Bool} {x:α} {y:β} (hp:p x y=true):∀{a:List α} {b:List β},agreeB p a b=true→agreeB p (a++[x]) (b++[y])=true
 |[],[],_=>by simp[agreeB,hp]
 |x'::a,y'::b,h=>by
  rw[agreeB,Bool.and_eq_true]at h
  rw[List.cons_append,List.cons_append,agreeB,h.1,agree_snoc hp h.2]
  rfl
 |[],_::_,h=>by simp[agreeB]at h
 |_::_,[],h=>by simp[agreeB]at h
theorem postsGo_two (b:Int):∀(l m:List TEntry) (out:List TPosting),postsGo b out (l++m)=postsGo b (postsGo b out l) m
 |[],m,out=>rfl
 |e::l,m,out=>by rw[List.cons_append,postsGo,postsGo,postsGo_two b l m]
theorem postsGo_off:∀(es:List TEntry) (b:Int) (A out:List TPosting),postsGo b (A++out) es=A++postsGo (b+(A.length:Int)) out es
 |[],b,A,out=>rfl
 |e::es,b,A,out=>by
  rw[postsGo,postsGo]
  split
  ·rw[List.append_assoc,postsGo_off es,show b+((A++out).length:Int)+1=b+(A.length:Int)+(out.length:Int)+1 from by simp;omega]
  ·exact postsGo_off es b A out
theorem bookGo_ok:∀(ps L:List TPosting),checkL L=0→(bookGo L ps).2=0→(bookGo L ps).1=L++ps∧checkL (L++ps)=0
 |[],L,hL,_=>by rw[List.append_nil];exact⟨rfl,hL⟩
 |p::ps,L,hL,h=>by
  rw[bookGo]at h⊢
  split at h
  ·rename_i hp
   rw[if_pos hp]
   obtain⟨_,_,_,_,_,o1,o2⟩:=postL_ok hp
   rw[o1]at h⊢
   have:=bookGo_ok ps (L++[p]) o2 h
   rwa[List.append_assoc]at this
  ·rename_i hp
   exact absurd h hp
theorem dok_post0 {d:TDesk} {e:TEntry} (h:DOk d) (hp:(postA d.Account e).2=0) (hr:e.Ref=0):DOk ⟨(postA d.Account e).1,d.Queue,d.Items⟩:=by
 have p1:=post_check hp
 have p2:=post_ids hp
 have p3:=post_ents hp
 refine DOk.mk' p1 h.q h.k fun z hz=>?_
 have io:=h.io hz
 have hw:=io.pay.warrant.1
 refine⟨io.pay,⟨p1,by rw[p2];exact io.sub.2⟩,io.st,io.att,io.a5,io.a0,io.w,io.bat,fun y hy er=>?_,?_,?_⟩
 ·rw[p3]at hy
  rcases List.mem_append.1 hy with hy|hy
  ·exact io.all y hy er
  ·rw[List.mem_singleton]at hy
   subst hy
   omega
 ·have:outE z.Payment e=false:=by
   unfold outE
   rw[decide_eq_false (by omega),Bool.false_and]
  rw[p3,List.countP_append]
  simp only[List.countP_cons,List.countP_nil,this]
  simpa using io.outs
 ·have:inE z.Payment e=false:=by
   unfold inE
   rw[decide_eq_false (by omega),Bool.false_and]
  rw[p3,List.countP_append]
  simp only[List.countP_cons,List.countP_nil,this]
  simpa using io.ins
structure CleanS (s:TState):Prop where
 d:DOk s.Desk
 cp:checkL s.Ledger.Postings=0
 fi:agreeB fitI s.Cash.Incomes (s.Desk.Account.Entries.filter incE)=true
 fm:agreeB fitM (s.Register.Moves.filter fun m=>!trfM m) (s.Desk.Account.Entries.filter secE)=true
 fp:s.Ledger.Postings=postsGo 0 [] s.Desk.Account.Entries
theorem CleanS.aud {j:Nat} {s:TState} (h:CleanS s) (hf:FitS j s):AudOk s:=⟨hf.d,hf.c,hf.cl,hf.r,hf.l,h.d.a,checkD_iff.2 h.d,h.cp,h.fi,h.fm,h.fp⟩
structure MidS (s t:TState):Prop where
 d:DOk t.Desk
 l:t.Ledger=s.Ledger
 fi:agreeB fitI t.Cash.Incomes (t.Desk.Account.Entries.filter incE)=true
 fm:agreeB fitM (t.Register.Moves.filter fun m=>!trfM m) (t.Desk.Account.Entries.filter secE)=true
 e:∃es,t.Desk.Account.Entries=s.Desk.Account.Entries++es
theorem desk_mid {s:TState} (h:CleanS s) {d:TDesk} {e:Int} (he:(deskS s d e).2=0) (hd:e=0→DOk d∧∃es,d.Account.Entries=s.Desk.Account.Entries++es∧∀x,x∈es→x.Ref≠0):MidS s (deskS s d e).1:=by
 unfold deskS at he⊢
 split at he
 rotate_left
 ·rename_i hn
  exact absurd he hn
 rename_i e0
 rw[if_pos e0]
 obtain⟨h1,es,h2,h3⟩:=hd e0
 have f1:es.filter incE=[]:=List.filter_eq_nil_iff.2 fun x hx=>by simp[incE,h3 x hx]
 have f2:es.filter secE=[]:=List.filter_eq_nil_iff.2 fun x hx=>by simp[secE,h3 x hx]
 refine⟨h1,rfl,?_,?_,es,h2⟩
 ·show agreeB fitI s.Cash.Incomes (d.Account.Entries.filter incE)=true
  rw[h2,List.filter_append,f1,List.append_nil]
  exact h.fi
 ·show agreeB fitM _ (d.Account.Entries.filter secE)=true
  rw[h2,List.filter_append,f2,List.append_nil]
  exact h.fm
theorem move_mid {s:TState} {c:TCash} {r:TRegister} {day f t n:Int} (h:CleanS s) (he:(moveS ⟨s.Desk,c,r,s.Ledger⟩ day f t n).2=0)
  (fi:agreeB fitI c.Incomes ((s.Desk.Account.Entries++[nextE s.Desk.Account day f t n 0]).filter incE)=true) (fm:agreeB fitM (r.Moves.filter fun m=>!trfM m) ((s.Desk.Account.Entries++[nextE s.Desk.Account day f t n 0]).filter secE)=true):
  MidS s (moveS ⟨s.Desk,c,r,s.Ledger⟩ day f t n).1:=by
 unfold moveS at he⊢
 split at he
 rotate_left
 ·rename_i hn
  exact absurd he hn
 rename_i hp
 rw[if_pos hp]
 have p3:=post_ents hp
 refine⟨dok_post0 h.d hp rfl,rfl,?_,?_,_,p3⟩
 ·show agreeB fitI c.Incomes ((postA s.Desk.Account _).1.Entries.filter incE)=true
  rw[p3]
  exact fi
 ·show agreeB fitM _ ((postA s.Desk.Account _).1.Entries.filter secE)=true
  rw[p3]
  exact fm
theorem recv_mid {s:TState} {d:TDeed} (h:CleanS s) (he:(receiveS s d).2=0):MidS s (receiveS s d).1:=by
 unfold receiveS at he⊢
 split at he
 ·simp at he
 rename_i h1
 rw[if_neg h1]
 split at he
 rotate_left
 ·rename_i hn
  exact absurd he hn
 rename_i h2
 rw[if_pos h2]
 refine move_mid h he ?_ ?_
 ·rw[List.filter_append]
  have:[nextE s.Desk.Account d.Day 0 d.Sub d.Amount 0].filter incE=[nextE s.Desk.Account d.Day 0 d.Sub d.Amount 0]:=by simp[incE,nextE,h1]
  rw[this]
  exact agree_snoc (by simp[fitI,incS,nextE]) h.fi
 ·rw[List.filter_append]
  have:[nextE s.Desk.Account d.Day 0 d.Sub d.Amount 0].filter secE=[]:=by simp[secE,nextE,h1]
  rw[this,List.append_nil]
  exact h.fm
theorem debt_mid {s:TState} {day kind ref f0 t0 n e f t:Int} (h:CleanS s) (he:(debtS s (movR s.Register day kind ref f0 t0 n) e f t n).2=0) (hk:(kind=1∧f=0∧t=1)∨(kind=3∧f=1∧t=0)):MidS s (debtS s (movR s.Register day kind ref f0 t0 n) e f t n).1:=by
 unfold debtS at he⊢
 split at he
 rotate_left
 ·rename_i hn
  exact absurd he hn
 rename_i h2
 rw[if_pos h2]
 refine move_mid h he ?_ ?_
 ·rw[List.filter_append]
  have:[nextE s.Desk.Account (movR s.Register day kind ref f0 t0 n).Day f t n 0].filter incE=[]:=by
   rcases hk with⟨_,rfl,rfl⟩|⟨_,rfl,rfl⟩<;>simp[incE,nextE]
  rw[this,List.append_nil]
  exact h.fi
 ·rw[List.filter_append]
  have e1:[nextE s.Desk.Account (movR s.Register day kind ref f0 t0 n).Day f t n 0].filter secE=[nextE s.Desk.Account (movR s.Register day kind ref f0 t0 n).Day f t n 0]:=by
   rcases hk with⟨_,rfl,rfl⟩|⟨_,rfl,rfl⟩<;>simp[secE,nextE]
  have e2:(moved s.Register (movR s.Register day kind ref f0 t0 n)).Moves.filter (fun m=>!trfM m)=s.Register.Moves.filter (fun m=>!trfM m)++[movR s.Register day kind ref f0 t0 n]:=by
   show (s.Register.Moves++[_]).filter _=_
   rw[List.filter_append]
   rcases hk with⟨rfl,_,_⟩|⟨rfl,_,_⟩<;>simp[trfM,movR]
  rw[e1,e2]
  refine agree_snoc ?_ h.fm
  rcases hk with⟨rfl,rfl,rfl⟩|⟨rfl,rfl,rfl⟩<;>simp[fitM,movR,nextE]
theorem doK_mid {s:TState} {d:TDeed} (h:CleanS s) (he:(doK s d).2=0):MidS s (doK s d).1:=by
 unfold doK at he⊢
 by_cases c1:d.Kind=1
 ·rw[if_pos c1]at he⊢
  exact recv_mid h he
 rw[if_neg c1]at he⊢
 by_cases c2:d.Kind=2
 ·rw[if_pos c2]at he⊢
  refine desk_mid h he fun e0=>?_
  obtain⟨_,_,_,hx,hd⟩:=orderD_ok (show orderD s.Desk (payS d)=((orderD s.Desk (payS d)).1,0)from Prod.ext rfl e0)
  refine⟨hd,[],?_,by simp⟩
  rw[hx,List.append_nil]
 rw[if_neg c2]at he⊢
 by_cases c3:d.Kind=3
 ·rw[if_pos c3]at he⊢
  refine desk_mid h he fun e0=>?_
  obtain⟨_,_,_,_,ps,a,hsub,_,_,_,_,hs,_,hx,hd⟩:=sendD_ok (show sendD s.Desk d.Day=((sendD s.Desk d.Day).1,(sendD s.Desk d.Day).2.1,0)from Prod.ext rfl (Prod.ext rfl e0))
  obtain⟨es,h2,h3,_⟩:=hs.ents
  refine⟨hd,es,?_,fun x hx=>?_⟩
  ·rw[hx]
   exact h2
  ·have:keyE x∈ps.map keyP:=by rw[←h3];exact List.mem_map.2 ⟨x,hx,rfl⟩
   obtain⟨p,hp,hk⟩:=List.mem_map.1 this
   have hr:=hsub.subset hp
   unfold readyQ at hr
   split at hr
   ·have hw:=(List.mem_filter.1 hr).1
    have:=(h.d.q.asc.pay p hw).warrant.1
    have e1:p.Warrant=x.Ref:=congrArg Prod.fst hk
    omega
   ·cases hr
 rw[if_neg c3]at he⊢
 by_cases c4:d.Kind=4
 ·rw[if_pos c4]at he⊢
  refine desk_mid h he fun e0=>?_
  obtain⟨_,⟨k,y,_,_,_,hx⟩,hd⟩:=settleD_ok (show settleD s.Desk d.Ref=((settleD s.Desk d.Ref).1,0)from Prod.ext rfl e0)
  refine⟨hd,[],?_,by simp⟩
  rw[hx,List.append_nil]
 rw[if_neg c4]at he⊢
 by_cases c5:d.Kind=5
 ·rw[if_pos c5]at he⊢
  refine desk_mid h he fun e0=>?_
  obtain⟨hd0,⟨k,y,hy,hw,_,hp,hx⟩,hd⟩:=returnD_ok (show returnD s.Desk d.Ref d.Day=((returnD s.Desk d.Ref d.Day).1,0)from Prod.ext rfl e0)
  refine⟨hd,[nextE s.Desk.Account d.Day 0 y.Payment.Sub y.Payment.Amount d.Ref],?_,fun x hm=>?_⟩
  ·rw[hx]
   exact post_ents hp
  ·rw[List.mem_singleton]at hm
   rw[hm]
   show d.Ref≠0
   have:=(hd0.io (List.mem_of_getElem? hy)).pay.warrant.1
   omega
 rw[if_neg c5]at he⊢
 by_cases c6:d.Kind=6
 ·rw[if_pos c6]at he⊢
  refine desk_mid h he fun e0=>?_
  obtain⟨_,⟨k,y,_,_,_,hx⟩,hd⟩:=recallD_ok (show recallD s.Desk d.Ref=((recallD s.Desk d.Ref).1,0)from Prod.ext rfl e0)
  refine⟨hd,[],?_,by simp⟩
  rw[hx,List.append_nil]
 rw[if_neg c6]at he⊢
 by_cases c7:d.Kind=7
 ·rw[if_pos c7]at he⊢
  exact debt_mid h he (.inl ⟨rfl,rfl,rfl⟩)
 rw[if_neg c7]at he⊢
 by_cases c8:d.Kind=8
 ·rw[if_pos c8]at he⊢
  exact debt_mid h he (.inr ⟨rfl,rfl,rfl⟩)
 rw[if_neg c8]at he⊢
 by_cases c9:d.Kind=9
 ·rw[if_pos c9]at he⊢
  split at he
  ·simp at he
  rename_i c0
  rw[if_neg c0]
  refine move_mid (c:=s.Cash) (r:=s.Register) h he ?_ ?_
  ·rw[List.filter_append]
   have:[nextE s.Desk.Account d.Day d.Sub d.Who d.Amount 0].filter incE=[]:=by
    have:¬d.Sub=0:=fun e=>c0 (.inl e)
    simp[incE,nextE,this]
   rw[this,List.append_nil]
   exact h.fi
  ·rw[List.filter_append]
   have:[nextE s.Desk.Account d.Day d.Sub d.Who d.Amount 0].filter secE=[]:=by
    have a1:¬d.Sub=0:=fun e=>c0 (.inl e)
    have a2:¬d.Who=0:=fun e=>c0 (.inr e)
    simp[secE,nextE,a1,a2]
   rw[this,List.append_nil]
   exact h.fm
 ·rw[if_neg c9]at he
  simp at he
theorem doS_clean {s:TState} {d:TDeed} (h:CleanS s) (he:(doS s d).2=0):CleanS (doS s d).1:=by
 unfold doS at he⊢
 split at he
 rotate_left
 ·rename_i hn
  exact absurd he hn
 rename_i h1
 rw[if_pos h1]
 split at he
 rotate_left
 ·rename_i hn
  exact absurd he hn
 rename_i h2
 rw[if_pos h2]
 have m:=doK_mid h h1
 obtain⟨es,hes⟩:=m.e
 have e1:(doK s d).1.Desk.Account.Entries.drop s.Desk.Account.Entries.length=es:=by rw[hes,List.drop_left]
 unfold bookS at h2⊢
 rw[e1,m.l]at h2
 rw[e1,m.l]
 obtain⟨b1,b2⟩:=bookGo_ok _ _ h.cp h2
 refine⟨m.d,?_,m.fi,m.fm,?_⟩
 ·show checkL (bookGo _ _).1=0
  rw[b1]
  exact b2
 ·show (bookGo _ _).1=postsGo 0 [] (doK s d).1.Desk.Account.Entries
  rw[b1,hes,postsGo_two,←h.fp]
  have:=postsGo_off es 0 s.Ledger.Postings []
  rw[List.append_nil,Int.zero_add]at this
  exact this.symm
end Go.Proofs.YtaenimpfelpafaaGreatDoor
set_option maxRecDepth 100000
namespace Go.Proofs.YtaenimpfelpafaaGreatDoor
open Go.PA
open Go.RowKit
theorem cloneS_0 {row src:Option Nat} (H:Heap):MFun Tryz.prog row src 63 [.list 5 []] H (IsL (twoE 81 5 H)):=by
 have own:MFun Tryz.prog row src 63 [.list 5 []] H (fun r H'=>(r= .nil∧H'=H)∨(r= .sref (H.length+1) 0 0∧H'=H++[none]++[some ⟨81,5,[]⟩])):=by
  refine mfun_list_nil fun A c=>?_
  refine mfun_intro Tryz.func63 rfl (by simp[Tryz.f63]) (by kernel_rfl) ⟨.nil,H,.inl ⟨rfl,rfl⟩⟩ ?_
  intro E hP hr hs hN
  cases A with
  |none=>simp -dsimp -implicitDefEqProofs [-getElem?_pos,go_sem,hP]
  |some a=>simp -dsimp -implicitDefEqProofs [-getElem?_pos,go_sem,hP,hset_new]
 refine (own.ownNil 81 5).mono ?_
 rintro r H' (⟨H0,h0,rfl,rfl⟩|⟨hne,h⟩)
 ·rcases h0 with⟨_,rfl⟩|⟨h,_⟩
  ·exact .head _
  ·cases h
 ·rcases h with⟨h,_⟩|⟨rfl,rfl⟩
  ·exact absurd h hne
  ·exact .tail _ (.head _)
def sanE:List (FuncId×TypeId×Nat):=[(63,81,5)]
theorem sanE_ok:RunOk Tryz.prog (primE sanE):=primE_ok fun x hx H row src=>by
 simp only[sanE,List.mem_cons,List.not_mem_nil,or_false]at hx
 subst hx
 exact cloneS_0 H
def sanM:=modeOf [(52,9,100),(120,6,132),(82,5,132),(132,1,194),(109,16,165),(165,1,66),(165,1,67),(165,1,68),(165,1,64),(120,10,62),(73,12,114),(114,1,65),(122,20,173),(173,1,63),(173,1,64),(122,17,183),(122,21,183),(81,12,69),(123,9,114),(29,1,62),(29,1,86)]
def sanH:FuncId→Nat→DH:=hintOf [(25,7,⟨[],[7],[]⟩),(26,4,⟨[],[6],[]⟩),(70,7,⟨[],[15],[]⟩),(73,19,⟨[],[11,12],[]⟩),(80,1,⟨[],[19,20],[]⟩),(25,12,⟨[13],[],[]⟩),(125,2,⟨[28],[],[]⟩),(24,10,⟨[10],[],[]⟩),(73,34,⟨[3],[],[4]⟩),(122,23,⟨[8,9],[],[]⟩),(73,24,⟨[7],[],[]⟩),(25,5,⟨[20],[],[]⟩),(72,14,⟨[9,11],[],[]⟩),(114,1,⟨[10],[],[]⟩),(177,1,⟨[9],[],[]⟩),(110,11,⟨[4],[],[]⟩),(81,12,⟨[7],[],[]⟩),(120,10,⟨[13],[],[]⟩),(185,11,⟨[6,7,9,10],[],[0]⟩),(194,5,⟨[12,9],[],[]⟩),(109,35,⟨[12],[],[]⟩),(109,18,⟨[19,22],[],[]⟩),(24,15,⟨[8,11],[],[]⟩),(57,1,⟨[10],[],[]⟩),(24,14,⟨[26,29,32,35],[],[]⟩),(24,3,⟨[14,17],[],[]⟩),(24,2,⟨[14,17],[],[]⟩)]
theorem sk0:KOk Tryz.prog []:=kOk_nil
def sl1:KL:=(51,[.list 1 [[iv 1],[iv 2]]],bv true)::[]
theorem sk1:KOk Tryz.prog sl1:=kstep sanE_ok sk0 sanH sanM (by kernel_rfl) (by kernel_rfl)
def sl2:KL:=(129,[.agg [iv 1,iv 0,iv 1,iv 110,iv 410,iv 100,iv 0,iv 0]],bv true)::sl1
theorem sk2:KOk Tryz.prog sl2:=kstep sanE_ok sk1 sanH sanM (by kernel_rfl) (by kernel_rfl)
def sl3:KL:=(12,[.agg [iv 0,.list 2 [[iv 1,iv 0],[iv 2,iv 0]],.nil,.nil,.nil,.nil,.nil,.nil,.nil,.nil,.nil,.nil,.nil,.nil,.nil],.agg [iv 1,iv 0,iv 2,iv 1,iv 0,iv 100,iv 0]],.tup [.agg [iv 0,.list 2 [[iv 1,iv 0],[iv 2,iv 100]],.list 6 [[iv 1,iv 0,iv 0,iv 2,iv 100,iv 0]],.nil,.nil,.nil,.nil,.nil,.list 5 [[iv 1,iv 0,iv 1,iv 100,iv 0]],.nil,.list 1 [[iv 100]],.nil,.nil,.nil,.list 8 [[iv 1,iv 0,iv 1,iv 110,iv 410,iv 100,iv 0,iv 0]]],iv 0])::sl2
theorem sk3:KOk Tryz.prog sl3:=kstep sanE_ok sk2 sanH sanM (by kernel_rfl) (by kernel_rfl)
def sl4:KL:=(82,[.agg [iv 0,.list 2 [[iv 1,iv 0],[iv 2,iv 100]],.list 6 [[iv 1,iv 0,iv 0,iv 2,iv 100,iv 0]]]],iv 0)::sl3
theorem sk4:KOk Tryz.prog sl4:=kstep sanE_ok sk3 sanH sanM (by kernel_rfl) (by kernel_rfl)
def sl5:KL:=(171,[.agg [iv 5,iv 1,iv 60,iv 0,iv 2]],bv true)::sl4
theorem sk5:KOk Tryz.prog sl5:=kstep sanE_ok sk4 sanH sanM (by kernel_rfl) (by kernel_rfl)
def sl6:KL:=(135,[.agg [.list 5 [[iv 5,iv 1,iv 60,iv 0,iv 2]],.list 1 [[iv 5]],.nil]],iv 0)::sl5
theorem sk6:KOk Tryz.prog sl6:=kstep sanE_ok sk5 sanH sanM (by kernel_rfl) (by kernel_rfl)
def sl7:KL:=(73,[.agg [iv 0,.list 2 [[iv 1,iv 0],[iv 2,iv 100]],.list 6 [[iv 1,iv 0,iv 0,iv 2,iv 100,iv 0]],.list 5 [[iv 5,iv 1,iv 60,iv 0,iv 2]],.list 1 [[iv 5]],.nil,.list 7 [[iv 5,iv 1,iv 60,iv 0,iv 2,iv 1,iv 0]]],iv 0],.tup [.agg [iv 0,.list 2 [[iv 1,iv 0],[iv 2,iv 40]],.list 6 [[iv 1,iv 0,iv 0,iv 2,iv 100,iv 0],[iv 2,iv 0,iv 2,iv 0,iv 60,iv 5]],.list 5 [],.list 1 [[iv 5]],.list 3 [[iv 1,iv 0,.list 5 [[iv 5,iv 1,iv 60,iv 0,iv 2]]]],.list 7 [[iv 5,iv 1,iv 60,iv 0,iv 2,iv 2,iv 1]]],.agg [iv 1,iv 0,.list 5 [[iv 5,iv 1,iv 60,iv 0,iv 2]]],iv 0])::sl6
theorem sk7:KOk Tryz.prog sl7:=kstep sanE_ok sk6 sanH sanM (by kernel_rfl) (by kernel_rfl)
def sl8:KL:=(129,[.agg [iv 2,iv 0,iv 1,iv 510,iv 110,iv 60,iv 0,iv 5]],bv true)::sl7
theorem sk8:KOk Tryz.prog sl8:=kstep sanE_ok sk7 sanH sanM (by kernel_rfl) (by kernel_rfl)
def sl9:KL:=(82,[.agg [iv 0,.list 2 [[iv 1,iv 0],[iv 2,iv 40]],.list 6 [[iv 1,iv 0,iv 0,iv 2,iv 100,iv 0],[iv 2,iv 0,iv 2,iv 0,iv 60,iv 5]]]],iv 0)::sl8
theorem sk9:KOk Tryz.prog sl9:=kstep sanE_ok sk8 sanH sanM (by kernel_rfl) (by kernel_rfl)
def sl10:KL:=(199,[.agg [.list 5 [],.list 1 [[iv 5]],.list 3 [[iv 1,iv 0,.list 5 [[iv 5,iv 1,iv 60,iv 0,iv 2]]]]]],bv true)::sl9
theorem sk10:KOk Tryz.prog sl10:=kstep sanE_ok sk9 sanH sanM (by kernel_rfl) (by kernel_rfl)
def sl11:KL:=(136,[.agg [iv 0,.list 2 [[iv 1,iv 0],[iv 2,iv 40]],.list 6 [[iv 1,iv 0,iv 0,iv 2,iv 100,iv 0],[iv 2,iv 0,iv 2,iv 0,iv 60,iv 5]],.list 5 [],.list 1 [[iv 5]],.list 3 [[iv 1,iv 0,.list 5 [[iv 5,iv 1,iv 60,iv 0,iv 2]]]],.list 7 [[iv 5,iv 1,iv 60,iv 0,iv 2,iv 2,iv 1]]],.agg [iv 5,iv 1,iv 60,iv 0,iv 2,iv 2,iv 1]],bv true)::sl10
theorem sk11:KOk Tryz.prog sl11:=kstep sanE_ok sk10 sanH sanM (by kernel_rfl) (by kernel_rfl)
def sl12:KL:=(173,[.agg [.list 5 [],.list 1 [[iv 5]],.list 3 [[iv 1,iv 0,.list 5 [[iv 5,iv 1,iv 60,iv 0,iv 2]]]]]],.agg [.list 5 [],.list 1 [[iv 5]],.list 3 [[iv 1,iv 0,.list 5 [[iv 5,iv 1,iv 60,iv 0,iv 2]]]]])::sl11
theorem sk12:KOk Tryz.prog sl12:=kstep sanE_ok sk11 sanH sanM (by kernel_rfl) (by kernel_rfl)
def sl13:KL:=(120,[.agg [iv 0,.list 2 [[iv 1,iv 0],[iv 2,iv 40]],.list 6 [[iv 1,iv 0,iv 0,iv 2,iv 100,iv 0],[iv 2,iv 0,iv 2,iv 0,iv 60,iv 5]]],.agg [iv 3,iv 1,iv 0,iv 2,iv 60,iv 5]],.tup [.agg [iv 0,.list 2 [[iv 1,iv 0],[iv 2,iv 100]],.list 6 [[iv 1,iv 0,iv 0,iv 2,iv 100,iv 0],[iv 2,iv 0,iv 2,iv 0,iv 60,iv 5],[iv 3,iv 1,iv 0,iv 2,iv 60,iv 5]]],iv 0])::sl12
theorem sk13:KOk Tryz.prog sl13:=kstep sanE_ok sk12 sanH sanM (by kernel_rfl) (by kernel_rfl)
def sl14:KL:=(12,[.agg [iv 0,.list 2 [[iv 1,iv 0],[iv 2,iv 40]],.list 6 [[iv 1,iv 0,iv 0,iv 2,iv 100,iv 0],[iv 2,iv 0,iv 2,iv 0,iv 60,iv 5]],.list 5 [],.list 1 [[iv 5]],.list 3 [[iv 1,iv 0,.list 5 [[iv 5,iv 1,iv 60,iv 0,iv 2]]]],.list 7 [[iv 5,iv 1,iv 60,iv 0,iv 2,iv 2,iv 1]],.nil,.list 5 [[iv 1,iv 0,iv 1,iv 100,iv 0]],.nil,.list 1 [[iv 100]],.nil,.nil,.nil,.list 8 [[iv 1,iv 0,iv 1,iv 110,iv 410,iv 100,iv 0,iv 0],[iv 2,iv 0,iv 1,iv 510,iv 110,iv 60,iv 0,iv 5]]],.agg [iv 5,iv 1,iv 0,iv 0,iv 5,iv 0,iv 0]],.tup [.agg [iv 0,.list 2 [[iv 1,iv 0],[iv 2,iv 100]],.list 6 [[iv 1,iv 0,iv 0,iv 2,iv 100,iv 0],[iv 2,iv 0,iv 2,iv 0,iv 60,iv 5],[iv 3,iv 1,iv 0,iv 2,iv 60,iv 5]],.list 5 [],.list 1 [[iv 5]],.list 3 [[iv 1,iv 0,.list 5 [[iv 5,iv 1,iv 60,iv 0,iv 2]]]],.list 7 [[iv 5,iv 1,iv 60,iv 0,iv 2,iv 4,iv 1]],.nil,.list 5 [[iv 1,iv 0,iv 1,iv 100,iv 0]],.nil,.list 1 [[iv 100]],.nil,.nil,.nil,.list 8 [[iv 1,iv 0,iv 1,iv 110,iv 410,iv 100,iv 0,iv 0],[iv 2,iv 0,iv 1,iv 510,iv 110,iv 60,iv 0,iv 5],[iv 3,iv 1,iv 1,iv 110,iv 410,iv 60,iv 0,iv 5]]],iv 0])::sl13
theorem sk14:KOk Tryz.prog sl14:=kstep sanE_ok sk13 sanH sanM (by kernel_rfl) (by kernel_rfl)
def sl15:KL:=(41,[.agg [iv 0,.list 2 [[iv 1,iv 0],[iv 2,iv 0]],.nil,.nil,.nil,.nil,.nil,.nil,.nil,.nil,.nil,.nil,.nil,.nil,.nil],.list 7 [[iv 1,iv 0,iv 2,iv 1,iv 0,iv 100,iv 0],[iv 2,iv 0,iv 2,iv 1,iv 5,iv 60,iv 0],[iv 3,iv 0,iv 0,iv 0,iv 0,iv 0,iv 0],[iv 5,iv 1,iv 0,iv 0,iv 5,iv 0,iv 0]]],.tup [.agg [iv 0,.list 2 [[iv 1,iv 0],[iv 2,iv 100]],.list 6 [[iv 1,iv 0,iv 0,iv 2,iv 100,iv 0],[iv 2,iv 0,iv 2,iv 0,iv 60,iv 5],[iv 3,iv 1,iv 0,iv 2,iv 60,iv 5]],.list 5 [],.list 1 [[iv 5]],.list 3 [[iv 1,iv 0,.list 5 [[iv 5,iv 1,iv 60,iv 0,iv 2]]]],.list 7 [[iv 5,iv 1,iv 60,iv 0,iv 2,iv 4,iv 1]],.nil,.list 5 [[iv 1,iv 0,iv 1,iv 100,iv 0]],.nil,.list 1 [[iv 100]],.nil,.nil,.nil,.list 8 [[iv 1,iv 0,iv 1,iv 110,iv 410,iv 100,iv 0,iv 0],[iv 2,iv 0,iv 1,iv 510,iv 110,iv 60,iv 0,iv 5],[iv 3,iv 1,iv 1,iv 110,iv 410,iv 60,iv 0,iv 5]]],iv 4,iv 0])::sl14
theorem sk15:KOk Tryz.prog sl15:=kstep sanE_ok sk14 sanH sanM (by kernel_rfl) (by kernel_rfl)
def sl16:KL:=(82,[.agg [iv 0,.list 2 [[iv 1,iv 0],[iv 2,iv 100]],.list 6 [[iv 1,iv 0,iv 0,iv 2,iv 100,iv 0],[iv 2,iv 0,iv 2,iv 0,iv 60,iv 5],[iv 3,iv 1,iv 0,iv 2,iv 60,iv 5]]]],iv 0)::sl15
theorem sk16:KOk Tryz.prog sl16:=kstep sanE_ok sk15 sanH sanM (by kernel_rfl) (by kernel_rfl)
def sl17:KL:=(14,[.agg [iv 0,.list 2 [[iv 1,iv 0],[iv 2,iv 100]],.list 6 [[iv 1,iv 0,iv 0,iv 2,iv 100,iv 0],[iv 2,iv 0,iv 2,iv 0,iv 60,iv 5],[iv 3,iv 1,iv 0,iv 2,iv 60,iv 5]],.list 5 [],.list 1 [[iv 5]],.list 3 [[iv 1,iv 0,.list 5 [[iv 5,iv 1,iv 60,iv 0,iv 2]]]],.list 7 [[iv 5,iv 1,iv 60,iv 0,iv 2,iv 4,iv 1]],.nil,.list 5 [[iv 1,iv 0,iv 1,iv 100,iv 0]],.nil,.list 1 [[iv 100]],.nil,.nil,.nil,.list 8 [[iv 1,iv 0,iv 1,iv 110,iv 410,iv 100,iv 0,iv 0],[iv 2,iv 0,iv 1,iv 510,iv 110,iv 60,iv 0,iv 5],[iv 3,iv 1,iv 1,iv 110,iv 410,iv 60,iv 0,iv 5]]]],.nil)::sl16
theorem sk17:KOk Tryz.prog sl17:=kstep sanE_ok sk16 sanH sanM (by kernel_rfl) (by kernel_rfl)
theorem sane45_pf (row src:Option Nat):PFun Tryz.prog row src 15 [] (·=bv true):=pfun_run (primOr_ok sanE_ok (primK_ok sk17)) sanH sanM 10000 60 (by kernel_rfl) (by kernel_rfl) row src
open Go.PA
open Go.RowKit
abbrev stO (s:TState):AObj:=⟨50,15,[[iv s.Desk.Account.Credit,subsL s.Desk.Account.Subs,entsL s.Desk.Account.Entries,paysL s.Desk.Queue.Waiting,.list 1 (encL encI s.Desk.Queue.Known),batsL s.Desk.Queue.Batches,itemsL s.Desk.Items,claimsL s.Cash.Claims,incomesL s.Cash.Incomes,matchesL s.Cash.Matches,.list 1 (encL encI s.Cash.Loose),secsL s.Register.Securities,holdsL s.Register.Holdings,movesL s.Register.Moves,postsL s.Ledger.Postings]]⟩
theorem start_clean {c:Int} (h:c=0∨c=50):CleanS (startS c):=by
 rcases h with rfl|rfl
 ·exact⟨checkD_iff.1 (by kernel_rfl),by kernel_rfl,rfl,rfl,rfl⟩
 ·exact⟨checkD_iff.1 (by kernel_rfl),by kernel_rfl,rfl,rfl,rfl⟩
set_option maxHeartbeats 4000000 in
theorem clean45_pf (xs:List Int) (hx:Small xs) (hl:xs.length≤9223372036854775807):PFun Tryz.prog none none 3 [intsL xs] (·=bv true):=by
 refine pfun_introA Tryz.func3 rfl (by simp[Tryz.f3]) ?_
 intro E hP hr hs hW hN
 refine awp_cut (by rw[hN];kernel_rfl) ?_
 simp[go_sem,hP]
 refine awp_cut (by rw[hN];kernel_rfl) ?_
 simp[go_sem,hP]
 have hnew:POwn Tryz.prog E.row E.src 7 [intsL xs] 85 2 (·=[[intsL (xs.take 900),iv 0]]):=by rw[hr,hs];exact new_pf xs hl
 refine callB_own hnew hP en_7 (args_same (by simp[go_sem,intsL])) (by simp[srefs_imm,go_sem,intsL]) ⟨_,rfl⟩ ?_
 rintro es rfl
 simp[go_sem,hP]
 refine awp_adopt 3 (ty:=85) (xs:=xs.take 900) (at_:=0) hr hs hW (by simp[go_sem]) (by simp[go_sem,intsL]) (by omega) (by simp;omega) (fun x hx'=>hx x (List.mem_of_mem_take hx')) (by rw[hN];kernel_rfl) ?_
 intro E' p hP' hr' hN' hW'
 rw[hP]at hP'
 rw[hN]at hN'
 clear hnew hP hr hs hW hN E
 rename Env=>E
 rename E.P=_=>hP
 rename E.row=_=>hr
 rename E.N=_=>hN
 rename (∀b,¬E.W b)=>hW
 obtain⟨src,hs⟩:∃src,E.src=src:=⟨_,rfl⟩
 have up:∀{f:FuncId} {args:List AV} {Q:AV→Prop},PFun Tryz.prog (some p) src f args Q→PFun Tryz.prog E.row E.src f args Q:=fun h=>hr▸hs▸h
 obtain⟨sl,hsl⟩:∃sl,sl=secs0:=⟨_,rfl⟩
 have ss:=ssecs_pf p src
 rw[←hsl]at ss
 have isl:=imm_secs sl
 simp -dsimp -implicitDefEqProofs [-getElem?_pos,go_sem,hP]
 refine callB_isQ (up (pickQ_pf p src [0,50] (by simp))) hP en_9 (by simp -dsimp[-getElem?_pos,go_sem]) (PQ_ex (by simp)) ?_
 rintro r ⟨c,rfl,hc⟩ _
 have hc:c=0∨c=50:=by simpa using hc
 have st:=cstart_pf E.row E.src hc
 have f0:=start_fit c
 have c0:=start_clean hc
 obtain⟨x0,hx0⟩:∃x0,x0=startS c:=⟨_,rfl⟩
 rw[←hsl,←hx0]at st
 rw[←hx0]at f0 c0
 have i0:=imm_st x0
 rw[cStX]at st i0
 simp -dsimp -implicitDefEqProofs [-getElem?_pos,go_sem,hP]
 refine callB_is (up ss) hP en_10 (by simp -dsimp[-getElem?_pos,go_sem]) isl ?_
 simp -dsimp -implicitDefEqProofs [-getElem?_pos,go_sem,hP]
 refine callB_is st hP en_8 (by have:=imm_ints [1,2,3,7];simpa[isl,intsL,imm_sc]using this) (imm_pair i0 .sc) ?_
 simp -dsimp -implicitDefEqProofs [-getElem?_pos,go_sem,hP]
 refine callB_isQ (up (sdeeds_pf p src 16 (by omega))) hP en_11 (by simp -dsimp[-getElem?_pos,go_sem]) (DeedsQ_ex _) ?_
 rintro r ⟨l,rfl,ll⟩ _
 have il:=imm_deeds l
 simp -dsimp -implicitDefEqProofs [-getElem?_pos,go_sem,hP,encL_len]
 obtain⟨I,hI⟩:∃I:Nat→St→Prop,I=fun m s=>∃(k:Nat) (x:TState),k≤l.length∧m=l.length-k∧FitS k x∧CleanS x∧s.t 4= .ref 1 0 0∧s.t 25=deedsL l∧s.t 26=iv l.length∧s.t 27=iv k∧s.H[1]?=some (some (stO x)):=⟨_,rfl⟩
 refine aloop0 I (l.length) (by rw[hN];rfl) ?_ ?_
 ·rw[hI]
  exact⟨0,x0,by omega,by omega,f0,c0,by simp -dsimp[-getElem?_pos,go_sem],by simp -dsimp[-getElem?_pos,go_sem],by simp -dsimp[-getElem?_pos,go_sem],by simp -dsimp[-getElem?_pos,go_sem],by simp -dsimp[-getElem?_pos,go_sem]⟩
 intro m s hs'
 rw[hI]at hs'
 obtain⟨k,x,hk,hm,hf,hcl,t4,t25,t26,t27,g1⟩:=hs'
 have l1:=(gsI g1)
 have ix:=imm_st x
 rw[cStX]at ix
 simp -dsimp -implicitDefEqProofs [-getElem?_pos,go_sem,hP,t26,t27]
 refine condP (fun hq=>?_) (fun hq=>?_)
 ·have hk:k<l.length:=by simpa using hq
  obtain⟨d,hd⟩:∃d,l[k]?=some d:=⟨_,List.getElem?_eq_getElem hk⟩
  have wk:=wrap_in ((k:Int)+1) (by omega)
  have cd:=cDo_pf (d:=d) hf (by omega)
  have fx:=fun h=>doS_fit (d:=d) hf (by omega) h
  have cx:=fun h=>doS_clean (d:=d) hcl h
  obtain⟨y,e,hy⟩:∃y e,doS x d=(y,e):=⟨_,_,rfl⟩
  rw[hy]at cd fx cx
  simp only at cd fx cx
  have iy:=imm_st y
  have idd:=imm_agg.2 d.imm
  rw[cStX,cStX y,cDeedX]at cd
  rw[cStX]at iy
  rw[cDeedX]at idd
  have g1':∀Y:List (Option AObj),(s.H++Y)[1]?=some (some (stO x)):=fun Y=>by rw[List.getElem?_append_left l1];exact g1
  have l11:1<s.H.length+1:=by omega
  simp -dsimp -implicitDefEqProofs [-getElem?_pos,go_sem,hP,t25,t27,hd,cDeedX]
  simp -dsimp -implicitDefEqProofs [-getElem?_pos,go_sem,hP,t4,g1',l1,l11,t25]
  refine callB_is (cd.lift _ _) hP en_12 (by simp[ix,idd]) (imm_pair iy .sc) ?_
  by_cases he:e=0
  ·subst he
   have k1:=cclean_pf y ((cx rfl).aud (fx rfl))
   have k2:=caudit_pf y ((cx rfl).aud (fx rfl))
   rw[cStX]at k1 k2
   simp -dsimp -implicitDefEqProofs [-getElem?_pos,go_sem,hP,t4,g1',l1,l11,t27,wk]
   refine callB_is (k1.lift _ _) hP en_13 (by simpa using iy) .sc ?_
   simp -dsimp -implicitDefEqProofs [-getElem?_pos,go_sem,hP,t4,g1',l1,l11,t27,wk]
   refine callB_is (k2.lift _ _) hP en_14 (by simpa using iy) .nil ?_
   simp -dsimp -implicitDefEqProofs [-getElem?_pos,go_sem,hP,t4,g1',l1,l11,t27,wk]
   refine⟨l.length-(k+1),by omega,?_⟩
   rw[hI]
   refine⟨k+1,y,by omega,rfl,fx rfl,cx rfl,by simp -dsimp[-getElem?_pos,go_sem,t4],by simp -dsimp[-getElem?_pos,go_sem,t25],by simp -dsimp[-getElem?_pos,go_sem,t26],by simp -dsimp[-getElem?_pos,go_sem],?_⟩
   simp -dsimp -implicitDefEqProofs [-getElem?_pos,go_sem,l1,l11]
  ·have de:decide (e=0)=false:=decide_eq_false he
   simp -dsimp -implicitDefEqProofs [-getElem?_pos,go_sem,hP,de,t4,g1',l1,l11,t27,wk]
   refine⟨l.length-(k+1),by omega,?_⟩
   rw[hI]
   refine⟨k+1,x,by omega,rfl,hf.mono (by omega),hcl,by simp -dsimp[-getElem?_pos,go_sem,t4],by simp -dsimp[-getElem?_pos,go_sem,t25],by simp -dsimp[-getElem?_pos,go_sem,t26],by simp -dsimp[-getElem?_pos,go_sem],?_⟩
   simp -dsimp -implicitDefEqProofs [-getElem?_pos,go_sem,g1',l1,l11]
 ·simp -dsimp -implicitDefEqProofs [-getElem?_pos,go_sem,hP]
  refine callB_is (sane45_pf _ _) hP en_15 (by simp) .sc ?_
  simp -dsimp -implicitDefEqProofs [-getElem?_pos,go_sem,hP]
end Go.Proofs.YtaenimpfelpafaaGreatDoor
