/- Several texts of this claim, joined: Cash3 Cash4 Cash5 CashT CashA Cash6 Cash7 SortInt DelInt Cash8 Cash9 CashN CashS Cash10. -/
import Derived.Test.YtmmpcldnpflchaaGreatDoorPk6
set_option linter.unusedSimpArgs false
set_option linter.unusedVariables false
namespace Go.Proofs.YtmmpcldnpflchaaGreatDoor
open Go.PA
open Go.RowKit
def ve:Option Nat→Int
 |none=> -1
 |some k=>k
theorem zq {α:Type} (p:α→Bool) (l:List α):dC p l=ve (l.findIdx? p):=by
 rcases cN p l with⟨h1,h2⟩|⟨i,a,h1,h2,h3,h4⟩
 ·rw[h1,List.findIdx?_eq_none_iff.2 h2]
  rfl
 ·obtain⟨h5,h6⟩:=List.getElem?_eq_some_iff.1 h1
  rw[h3,List.findIdx?_eq_some_iff_getElem.2 ⟨h5,by rw[h6];exact h2,fun j hj=>by
   have:=h4 j _ hj (List.getElem?_eq_getElem (by omega))
   simp[this]⟩]
  rfl
theorem Az (l:List TClaim) (g:FuncId) (caps:List AV) (p:TClaim→Bool) (hl:l.length≤1000000) (hen:aa Tryz.prog g=true) (hcap:∀a,a∈caps→Imm a)
  (hg:∀a,a∈l→PFun Tryz.prog none none g (.agg (TClaim.cells a)::caps) (·=bv (p a))):
  PFun Tryz.prog none none 181 [.list 6 (ac TClaim.cells l),.fn g caps] (·=iv (dC p l)):=by
 refine ae Tryz.func181 rfl (by simp[Tryz.f181]) (by kernel_rfl) ?_
 intro E hP hr hs hW hN
 simp -dsimp -implicitDefEqProofs [-getElem?_pos,go_sem,hP]
 obtain⟨I,hI⟩:∃I:Nat→St→Prop,I=fun m s=>∃k:Nat,k≤l.length∧m=l.length-k∧dC p l=br p k (l.drop k)∧s.t 0= .list 6 (ac TClaim.cells l)∧s.t 1= .fn g caps∧s.t 7=iv l.length∧s.t 8=iv k:=⟨_,rfl⟩
 refine aF I (l.length) (by rw[hN];rfl) ?_ ?_
 ·rw[hI]
  exact⟨0,by omega,by omega,by simp[dC],by simp -dsimp[-getElem?_pos,go_sem],by simp -dsimp[-getElem?_pos,go_sem],by simp -dsimp[-getElem?_pos,go_sem],by simp -dsimp[-getElem?_pos,go_sem]⟩
 intro m s hs'
 rw[hI]at hs'
 obtain⟨k,hk,hm,hi,t0,t1,t7,t8⟩:=hs'
 simp -dsimp -implicitDefEqProofs [-getElem?_pos,go_sem,hP,t7,t8]
 refine aH (fun h=>?_) (fun h=>?_)
 ·have hk:k<l.length:=by simpa using h
  obtain⟨a,ha⟩:∃a,l[k]?=some a:=⟨_,List.getElem?_eq_getElem hk⟩
  have wk:=ah ((k:Int)+1) (by omega)
  have hz:(TClaim.cells a).take 6=TClaim.cells a:=List.take_of_length_le (by rw[TClaim.len];omega)
  have hd:l.drop k=a::l.drop (k+1):=by
   rw[List.getElem?_eq_getElem hk]at ha
   rw[List.drop_eq_getElem_cons hk,Option.some.inj ha]
  simp -dsimp -implicitDefEqProofs [-getElem?_pos,go_sem,hP,t8,t1,t0,ha,TClaim.len,hz]
  refine ak ((hg a (List.mem_of_getElem? ha)).lift _ _) hP hen (fun x hx=>?_) .sc ?_
  ·rcases List.mem_cons.1 hx with rfl|hx
   ·exact aO.2 (TClaim.imm a)
   ·exact hcap x hx
  rw[hd]at hi
  simp only[br]at hi
  simp -dsimp -implicitDefEqProofs [-getElem?_pos,go_sem,hP]
  refine aH (fun hp=>?_) (fun hp=>?_)
  ·rw[if_pos hp]at hi
   simp -dsimp -implicitDefEqProofs [-getElem?_pos,go_sem,hP]
   exact hi.symm
  ·rw[hp,if_neg (by simp)]at hi
   simp -dsimp -implicitDefEqProofs [-getElem?_pos,go_sem,hP,t8,wk]
   refine⟨l.length-(k+1),by omega,?_⟩
   rw[hI]
   exact⟨k+1,by omega,rfl,hi,by simp -dsimp[-getElem?_pos,go_sem,t0],by simp -dsimp[-getElem?_pos,go_sem,t1],by simp -dsimp[-getElem?_pos,go_sem,t7],by simp -dsimp[-getElem?_pos,go_sem]⟩
 ·have hk:k=l.length:=by simp at h;omega
  subst hk
  rw[List.drop_length]at hi
  simp -dsimp -implicitDefEqProofs [-getElem?_pos,go_sem,hP]
  exact hi.symm
theorem Av (l:List TIncome) (g:FuncId) (caps:List AV) (p:TIncome→Bool) (hl:l.length≤1000000) (hen:aa Tryz.prog g=true) (hcap:∀a,a∈caps→Imm a)
  (hg:∀a,a∈l→PFun Tryz.prog none none g (.agg (TIncome.cells a)::caps) (·=bv (p a))):
  PFun Tryz.prog none none 239 [.list 5 (ac TIncome.cells l),.fn g caps] (·=iv (dC p l)):=by
 refine ae Tryz.func239 rfl (by simp[Tryz.f239]) (by kernel_rfl) ?_
 intro E hP hr hs hW hN
 simp -dsimp -implicitDefEqProofs [-getElem?_pos,go_sem,hP]
 obtain⟨I,hI⟩:∃I:Nat→St→Prop,I=fun m s=>∃k:Nat,k≤l.length∧m=l.length-k∧dC p l=br p k (l.drop k)∧s.t 0= .list 5 (ac TIncome.cells l)∧s.t 1= .fn g caps∧s.t 7=iv l.length∧s.t 8=iv k:=⟨_,rfl⟩
 refine aF I (l.length) (by rw[hN];rfl) ?_ ?_
 ·rw[hI]
  exact⟨0,by omega,by omega,by simp[dC],by simp -dsimp[-getElem?_pos,go_sem],by simp -dsimp[-getElem?_pos,go_sem],by simp -dsimp[-getElem?_pos,go_sem],by simp -dsimp[-getElem?_pos,go_sem]⟩
 intro m s hs'
 rw[hI]at hs'
 obtain⟨k,hk,hm,hi,t0,t1,t7,t8⟩:=hs'
 simp -dsimp -implicitDefEqProofs [-getElem?_pos,go_sem,hP,t7,t8]
 refine aH (fun h=>?_) (fun h=>?_)
 ·have hk:k<l.length:=by simpa using h
  obtain⟨a,ha⟩:∃a,l[k]?=some a:=⟨_,List.getElem?_eq_getElem hk⟩
  have wk:=ah ((k:Int)+1) (by omega)
  have hz:(TIncome.cells a).take 5=TIncome.cells a:=List.take_of_length_le (by rw[TIncome.len];omega)
  have hd:l.drop k=a::l.drop (k+1):=by
   rw[List.getElem?_eq_getElem hk]at ha
   rw[List.drop_eq_getElem_cons hk,Option.some.inj ha]
  simp -dsimp -implicitDefEqProofs [-getElem?_pos,go_sem,hP,t8,t1,t0,ha,TIncome.len,hz]
  refine ak ((hg a (List.mem_of_getElem? ha)).lift _ _) hP hen (fun x hx=>?_) .sc ?_
  ·rcases List.mem_cons.1 hx with rfl|hx
   ·exact aO.2 (TIncome.imm a)
   ·exact hcap x hx
  rw[hd]at hi
  simp only[br]at hi
  simp -dsimp -implicitDefEqProofs [-getElem?_pos,go_sem,hP]
  refine aH (fun hp=>?_) (fun hp=>?_)
  ·rw[if_pos hp]at hi
   simp -dsimp -implicitDefEqProofs [-getElem?_pos,go_sem,hP]
   exact hi.symm
  ·rw[hp,if_neg (by simp)]at hi
   simp -dsimp -implicitDefEqProofs [-getElem?_pos,go_sem,hP,t8,wk]
   refine⟨l.length-(k+1),by omega,?_⟩
   rw[hI]
   exact⟨k+1,by omega,rfl,hi,by simp -dsimp[-getElem?_pos,go_sem,t0],by simp -dsimp[-getElem?_pos,go_sem,t1],by simp -dsimp[-getElem?_pos,go_sem,t7],by simp -dsimp[-getElem?_pos,go_sem]⟩
 ·have hk:k=l.length:=by simp at h;omega
  subst hk
  rw[List.drop_length]at hi
  simp -dsimp -implicitDefEqProofs [-getElem?_pos,go_sem,hP]
  exact hi.symm
theorem CX (x:TClaim) (id:Int):PFun Tryz.prog none none 182 [.agg x.cells,.iref [iv id]] (·=bv (decide (x.ID=id))):=by
 refine ae Tryz.func182 rfl (by simp[Tryz.f182]) (by kernel_rfl) ?_
 intro E hP hr hs hW hN
 simp -dsimp -implicitDefEqProofs [-getElem?_pos,go_sem,hP,og]
theorem Al (x:TIncome) (n:Int):PFun Tryz.prog none none 240 [.agg x.cells,.iref [iv n]] (·=bv (decide (x.Number=n))):=by
 refine ae Tryz.func240 rfl (by simp[Tryz.f240]) (by kernel_rfl) ?_
 intro E hP hr hs hW hN
 simp -dsimp -implicitDefEqProofs [-getElem?_pos,go_sem,hP,iC]
structure FitC (c:TCash):Prop where
 fc:c.Claims.length≤100000
 fi:c.Incomes.length≤100000
 fm:c.Matches.length≤100000
 fl:c.Loose.length≤100000
 code:∀x,x∈c.Claims→x.Code.size≤1000000
theorem uY (c:TCash) (id:Int) (hf:FitC c):PFun Tryz.prog none none 135 [.agg c.cells,iv id] (·=iv (ve (mw c.Claims id))):=by
 refine ae Tryz.func135 rfl (by simp[Tryz.f135]) (by kernel_rfl) ?_
 intro E hP hr hs hW hN
 have ip:=gA c.Claims
 have hl:=hf.fc
 have e:ve (mw c.Claims id)=dC (fun x=>decide (x.ID=id)) c.Claims:=(zq _ _).symm
 rw[e]
 simp -dsimp -implicitDefEqProofs [-getElem?_pos,go_sem,hP,jJ]
 refine aj (Az c.Claims 182 [.iref [iv id]] (fun x=>decide (x.ID=id)) (by omega) Qw (by simp[bH,aP]) fun x _=>CX x id) hP Q1 (bI ip (eK (cs:=[.ref 1 0 0]) (by simp -dsimp[-getElem?_pos,go_sem,eC]) (by simp[bH,aP]) (cH.2 trivial))) .sc ?_
 simp -dsimp -implicitDefEqProofs [-getElem?_pos,go_sem,hP]
theorem Ci (c:TCash) (n:Int) (hf:FitC c):PFun Tryz.prog none none 218 [.agg c.cells,iv n] (·=iv (ve (tu c.Incomes n))):=by
 refine ae Tryz.func218 rfl (by simp[Tryz.f218]) (by kernel_rfl) ?_
 intro E hP hr hs hW hN
 have ip:=ij c.Incomes
 have hl:=hf.fi
 have e:ve (tu c.Incomes n)=dC (fun x=>decide (x.Number=n)) c.Incomes:=(zq _ _).symm
 rw[e]
 simp -dsimp -implicitDefEqProofs [-getElem?_pos,go_sem,hP,jJ]
 refine aj (Av c.Incomes 240 [.iref [iv n]] (fun x=>decide (x.Number=n)) (by omega) Po (by simp[bH,aP]) fun x _=>Al x n) hP QZ (bI ip (eK (cs:=[.ref 1 0 0]) (by simp -dsimp[-getElem?_pos,go_sem,eC]) (by simp[bH,aP]) (cH.2 trivial))) .sc ?_
 simp -dsimp -implicitDefEqProofs [-getElem?_pos,go_sem,hP]
theorem vN {D:Nat→Bool} {H l:ab} {i:Nat} {o:Option AObj} (h:D i=false):Agree D (H++l) (H.set i o++l):=fun j hj=>by
 have e:¬i=j:=fun e=>by subst e;rw[h]at hj;cases hj
 rw[List.getElem?_append,List.getElem?_append,List.length_set,List.getElem?_set_ne e]
abbrev cW (xs:List Int):List (List AV):=ac aJ xs
theorem kO (xs:List Int) (k:Nat) (v:Int):(cW xs).set k [iv v]=cW (xs.set k v):=by simp[cW,ac,aJ]
theorem fO {xs:List Int} {k:Nat} {v:Int} (h:xs[k]?=some v):(cW xs)[k]?=some [iv v]:=by simp[cW,ac,aJ,h]
theorem bZ (xs:List Int):(cW xs).length=xs.length:=by simp[cW,ac]
theorem ma (n:Nat):List.replicate n [iv 0]=cW (List.replicate n 0):=by simp[cW,ac,aJ]
theorem Cx {α:Type} {l:List α} {f:α→Int} {xs:List Int} (hl:xs.length=l.length) (h:∀(j:Nat) (x:α),j<l.length→l[j]?=some x→xs[j]?=some (f x)):xs=l.map f:=by
 apply List.ext_getElem?
 intro j
 rw[List.getElem?_map]
 by_cases e:j<l.length
 ·rw[h j _ e (List.getElem?_eq_getElem e),List.getElem?_eq_getElem e]
  rfl
 ·rw[List.getElem?_eq_none (by omega),List.getElem?_eq_none (by omega)]
  rfl
open Go.PA
open Go.RowKit
set_option maxHeartbeats 8000000 in
set_option maxRecDepth 8000 in
theorem E0 (c:TCash) (hf:FitC c) (hp:iP 0 c.Claims=true) (hx:iR 0 0 c.Incomes=true) (hl:c.Loose.length=c.Incomes.length):PFun Tryz.prog none none 178 [.agg c.cells] (·=bv (jC c)):=by
 refine ae Tryz.func178 rfl (by simp[Tryz.f178]) (by kernel_rfl) ?_
 intro E hP hr hs hW hN
 have hfc:=hf.fc
 have hfi:=hf.fi
 have hfm:=hf.fm
 have hfl:=hf.fl
 obtain⟨nC,hnC⟩:∃n,n=c.Claims.length:=⟨_,rfl⟩
 obtain⟨nI,hnI⟩:∃n,n=c.Incomes.length:=⟨_,rfl⟩
 rw[←hnC]at hfc
 rw[←hnI]at hfi hl
 obtain⟨R,hR⟩:∃R,R=jC c:=⟨_,rfl⟩
 rw[←hR]
 have bad:¬Books c→R=false:=fun h=>by
  rw[hR]
  cases hb:jC c
  ·rfl
  ·exact absurd ((jB c).1 hb) h
 have pw:=(kS _ _).1 hp
 have iw:=(kI _ _ _).1 hx
 have ca:=fun id=>uY c id hf
 have ia:=fun n=>Ci c n hf
 have ic:=aO.2 c.imm
 rw[jJ]at ic
 simp only[jJ]at ca ia
 obtain⟨O,hO⟩:∃O:AObj,O=⟨40,4,[[bM c.Claims,bk c.Incomes,aU c.Matches,.list 1 (ac aJ c.Loose)]]⟩:=⟨_,rfl⟩
 obtain⟨Inv,hInv⟩:∃Inv:List Int→List Int→St→Prop,Inv=fun xs ys s=>∃a b,a≠b∧0<a∧0<b∧s.t 1= .ref 0 0 0∧s.t 3= .sref a 0 nC∧s.t 4= .sref b 0 nI∧s.H[0]?=some (some O)∧s.H[a]?=some (some ⟨3,1,cW xs⟩)∧s.H[b]?=some (some ⟨3,1,cW ys⟩):=⟨_,rfl⟩
 simp -dsimp -implicitDefEqProofs [-getElem?_pos,go_sem,hP,jJ,←hO]
 refine ym (Inv (List.replicate nC 0) (List.replicate nI 0)) ?_ ?_
 ·refine EM (fun id=>decide (id=0)) [] [] 3 hP (by kernel_rfl) (by kernel_rfl) (by simp) ?_
  simp -dsimp -implicitDefEqProofs [-getElem?_pos,go_sem,hP,List.take_succ_cons,List.take_zero,hO,←hnC,ao]
  refine gD 4 rfl (by kernel_rfl) ?_
  simp -dsimp -implicitDefEqProofs [-getElem?_pos,go_sem,hP,hO,ao]
  refine gD 5 rfl (by kernel_rfl) ?_
  simp -dsimp -implicitDefEqProofs [-getElem?_pos,go_sem,hP,hO,ao]
  refine gD 6 rfl (by kernel_rfl) ?_
  simp -dsimp -implicitDefEqProofs [-getElem?_pos,go_sem,hP,hO,←hnI,ao]
  refine nL (i:=3) (j:=7) (by kernel_rfl) rfl rfl ?_ ?_
  ·simp -dsimp -implicitDefEqProofs [-getElem?_pos,go_sem,hP,ma,ao]
   refine⟨by omega,by omega,pK,?_⟩
   refine gD 8 rfl (by kernel_rfl) ?_
   simp -dsimp -implicitDefEqProofs [-getElem?_pos,go_sem,hP,ao]
   refine bC (i:=7) (by kernel_rfl) rfl ?_
   simp -dsimp -implicitDefEqProofs [-getElem?_pos,go_sem,hP,ma,ao]
   refine⟨by omega,by omega,pK,?_⟩
   refine bC (i:=9) (by kernel_rfl) rfl ?_
   simp -dsimp -implicitDefEqProofs [-getElem?_pos,go_sem,hP,ao]
   refine iG (by kernel_rfl) ?_
   rw[hInv]
   exact⟨1,2,by omega,by omega,by omega,by simp -dsimp[-getElem?_pos,go_sem],by simp -dsimp[-getElem?_pos,go_sem],by simp -dsimp[-getElem?_pos,go_sem],by simp -dsimp[-getElem?_pos,go_sem,hO],by simp -dsimp[-getElem?_pos,go_sem],by simp -dsimp[-getElem?_pos,go_sem]⟩
  ·simp -dsimp -implicitDefEqProofs [-getElem?_pos,go_sem,hP,ma,ao]
   refine⟨by omega,by omega,pK,?_⟩
   refine bC (i:=3) (by kernel_rfl) rfl ?_
   simp -dsimp -implicitDefEqProofs [-getElem?_pos,go_sem,hP,ma,ao]
   refine⟨by omega,by omega,pK,?_⟩
   refine bC (i:=8) (by kernel_rfl) rfl ?_
   simp -dsimp -implicitDefEqProofs [-getElem?_pos,go_sem,hP,ao]
   refine bC (i:=9) (by kernel_rfl) rfl ?_
   simp -dsimp -implicitDefEqProofs [-getElem?_pos,go_sem,hP,ao]
   refine iG (by kernel_rfl) ?_
   rw[hInv]
   exact⟨2,1,by omega,by omega,by omega,by simp -dsimp[-getElem?_pos,go_sem],by simp -dsimp[-getElem?_pos,go_sem],by simp -dsimp[-getElem?_pos,go_sem],by simp -dsimp[-getElem?_pos,go_sem,hO],by simp -dsimp[-getElem?_pos,go_sem],by simp -dsimp[-getElem?_pos,go_sem]⟩
 rw[hInv]
 rintro s ⟨a,b,nab,pa,pb,t1,t3,t4,h0,ha,hb⟩
 have lt0:=(gsI h0)
 simp -dsimp -implicitDefEqProofs [-getElem?_pos,go_sem,hP,t1,h0,lt0,hO,←hnC]
 obtain⟨I,hI⟩:∃I:Nat→St→Prop,I=fun m s=>∃(k:Nat) (xs:List Int),k≤nC∧m=nC-k∧xs.length=nC∧(∀(j:Nat) (x:TClaim),j<k→c.Claims[j]?=some x→xs[j]?=some x.Amount)∧s.t 1= .ref 0 0 0∧s.t 3= .sref a 0 nC∧s.t 4= .sref b 0 nI∧s.t 26=bM c.Claims∧s.t 27=iv nC∧s.t 28=iv k∧s.H[0]?=some (some O)∧s.H[a]?=some (some ⟨3,1,cW xs⟩)∧s.H[b]?=some (some ⟨3,1,cW (List.replicate nI 0)⟩):=⟨_,rfl⟩
 refine aF I (nC) (by rw[hN];rfl) ?_ ?_
 ·rw[hI]
  exact⟨0,List.replicate nC 0,by omega,by omega,List.length_replicate,fun j x hj=>by omega,by simp -dsimp[-getElem?_pos,go_sem,t1],by simp -dsimp[-getElem?_pos,go_sem,t3],by simp -dsimp[-getElem?_pos,go_sem,t4],by simp -dsimp[-getElem?_pos,go_sem],by simp -dsimp[-getElem?_pos,go_sem],by simp -dsimp[-getElem?_pos,go_sem],by simp -dsimp[-getElem?_pos,go_sem,h0],by simp -dsimp[-getElem?_pos,go_sem,ha],by simp -dsimp[-getElem?_pos,go_sem,hb]⟩
 clear t1 t3 t4 h0 ha hb lt0
 intro m s hs'
 rw[hI]at hs'
 obtain⟨k,xs,hk,hm,hxl,hxs,t1,t3,t4,t26,t27,t28,h0,ha,hb⟩:=hs'
 have lt0:=(gsI h0)
 have lta:=(gsI ha)
 have ltb:=(gsI hb)
 simp -dsimp -implicitDefEqProofs [-getElem?_pos,go_sem,hP,t27,t28]
 refine aH (fun h=>?_) (fun h=>?_)
 ·have hk:k<nC:=by simpa using h
  obtain⟨x,hx⟩:∃x,c.Claims[k]?=some x:=⟨_,List.getElem?_eq_getElem (by omega)⟩
  obtain⟨v,hv⟩:∃v,xs[k]?=some v:=⟨_,List.getElem?_eq_getElem (by omega)⟩
  have wk:=ah ((k:Int)+1) (by omega)
  have rv:=fO hv
  have rs:=kO xs k x.Amount
  have rl:=bZ xs
  obtain⟨rw',hrw⟩:∃r,r=cW xs:=⟨_,rfl⟩
  rw[←hrw]at ha rv rs rl
  have na0:¬a=0:=by omega
  have nb0:¬b=0:=by omega
  have nba:¬b=a:=fun e=>nab e.symm
  simp -dsimp -implicitDefEqProofs [-getElem?_pos,go_sem,hP,t26,t28,hx,og,t3,ha,lta,rv,rl,hxl,hk,wk]
  refine⟨nC-(k+1),by omega,?_⟩
  rw[hI]
  refine⟨k+1,xs.set k x.Amount,by omega,rfl,by simp[hxl],fun j y hj hy=>?_,by simp -dsimp[-getElem?_pos,go_sem,t1],by simp -dsimp[-getElem?_pos,go_sem,t3],by simp -dsimp[-getElem?_pos,go_sem,t4],by simp -dsimp[-getElem?_pos,go_sem,t26],by simp -dsimp[-getElem?_pos,go_sem,t27],by simp -dsimp[-getElem?_pos,go_sem],by simp -dsimp[-getElem?_pos,go_sem,lt0,h0,na0],by simp -dsimp[-getElem?_pos,go_sem,lta,rs],by simp -dsimp[-getElem?_pos,go_sem,ltb,hb,nab]⟩
  by_cases e:j=k
  ·subst e
   rw[hx]at hy
   cases hy
   exact List.getElem?_set_self (by omega)
  ·rw[List.getElem?_set_ne (fun h=>e h.symm)]
   exact hxs j y (by omega) hy
 have hk:nC=k:=by
  have:¬k<nC:=by simpa using h
  omega
 subst hk
 have exs:xs=jy c []:=Cx (by omega) fun j x hj hx=>by
  rw[hxs j x (by omega) hx]
  simp[g9]
 subst exs
 clear hxs hxl hI h t26 t27 t28
 simp -dsimp -implicitDefEqProofs [-getElem?_pos,go_sem,hP,t1,h0,lt0,hO,←hnI]
 obtain⟨I,hI⟩:∃I:Nat→St→Prop,I=fun m s=>∃(k:Nat) (xs:List Int),k≤nI∧m=nI-k∧xs.length=nI∧(∀(j:Nat) (x:TIncome),j<k→c.Incomes[j]?=some x→xs[j]?=some x.Amount)∧s.t 1= .ref 0 0 0∧s.t 3= .sref a 0 nC∧s.t 4= .sref b 0 nI∧s.t 40=bk c.Incomes∧s.t 41=iv nI∧s.t 42=iv k∧s.H[0]?=some (some O)∧s.H[a]?=some (some ⟨3,1,cW (jy c [])⟩)∧s.H[b]?=some (some ⟨3,1,cW xs⟩):=⟨_,rfl⟩
 refine aF I (nI) (by rw[hN];rfl) ?_ ?_
 ·rw[hI]
  exact⟨0,List.replicate nI 0,by omega,by omega,List.length_replicate,fun j x hj=>by omega,by simp -dsimp[-getElem?_pos,go_sem,t1],by simp -dsimp[-getElem?_pos,go_sem,t3],by simp -dsimp[-getElem?_pos,go_sem,t4],by simp -dsimp[-getElem?_pos,go_sem],by simp -dsimp[-getElem?_pos,go_sem],by simp -dsimp[-getElem?_pos,go_sem],by simp -dsimp[-getElem?_pos,go_sem,h0],by simp -dsimp[-getElem?_pos,go_sem,ha],by simp -dsimp[-getElem?_pos,go_sem,hb]⟩
 clear t1 t3 t4 h0 ha hb lt0 lta ltb
 intro m s hs'
 rw[hI]at hs'
 obtain⟨k,xs,hk,hm,hxl,hxs,t1,t3,t4,t40,t41,t42,h0,ha,hb⟩:=hs'
 have lt0:=(gsI h0)
 have lta:=(gsI ha)
 have ltb:=(gsI hb)
 simp -dsimp -implicitDefEqProofs [-getElem?_pos,go_sem,hP,t41,t42]
 refine aH (fun h=>?_) (fun h=>?_)
 ·have hk:k<nI:=by simpa using h
  obtain⟨x,hx⟩:∃x,c.Incomes[k]?=some x:=⟨_,List.getElem?_eq_getElem (by omega)⟩
  obtain⟨v,hv⟩:∃v,xs[k]?=some v:=⟨_,List.getElem?_eq_getElem (by omega)⟩
  have wk:=ah ((k:Int)+1) (by omega)
  have rv:=fO hv
  have rs:=kO xs k x.Amount
  have rl:=bZ xs
  obtain⟨rw',hrw⟩:∃r,r=cW xs:=⟨_,rfl⟩
  rw[←hrw]at hb rv rs rl
  have nb0:¬b=0:=by omega
  have nba:¬b=a:=fun e=>nab e.symm
  simp -dsimp -implicitDefEqProofs [-getElem?_pos,go_sem,hP,t40,t42,hx,iC,t4,hb,ltb,rv,rl,hxl,hk,wk]
  refine⟨nI-(k+1),by omega,?_⟩
  rw[hI]
  refine⟨k+1,xs.set k x.Amount,by omega,rfl,by simp[hxl],fun j y hj hy=>?_,by simp -dsimp[-getElem?_pos,go_sem,t1],by simp -dsimp[-getElem?_pos,go_sem,t3],by simp -dsimp[-getElem?_pos,go_sem,t4],by simp -dsimp[-getElem?_pos,go_sem,t40],by simp -dsimp[-getElem?_pos,go_sem,t41],by simp -dsimp[-getElem?_pos,go_sem],by simp -dsimp[-getElem?_pos,go_sem,lt0,h0,nb0],by simp -dsimp[-getElem?_pos,go_sem,lta,ha,nba],by simp -dsimp[-getElem?_pos,go_sem,ltb,rs]⟩
  by_cases e:j=k
  ·subst e
   rw[hx]at hy
   cases hy
   exact List.getElem?_set_self (by omega)
  ·rw[List.getElem?_set_ne (fun h=>e h.symm)]
   exact hxs j y (by omega) hy
 have hk:nI=k:=by
  have:¬k<nI:=by simpa using h
  omega
 subst hk
 have exs:xs=jV c []:=Cx (by omega) fun j x hj hx=>by
  rw[hxs j x (by omega) hx]
  simp[dY]
 subst exs
 clear hxs hxl hI h t40 t41 t42
 obtain⟨nM,hnM⟩:∃n,n=c.Matches.length:=⟨_,rfl⟩
 rw[←hnM]at hfm
 simp -dsimp -implicitDefEqProofs [-getElem?_pos,go_sem,hP,t1,h0,lt0,hO,←hnM]
 obtain⟨I,hI⟩:∃I:Nat→St→Prop,I=fun m s=>∃(j:Nat),j≤nM∧m=nM-j∧(∀(i:Nat) (q:TMatch),i<j→c.Matches[i]?=some q→vQ c (c.Matches.take i) q)∧s.t 1= .ref 0 0 0∧s.t 3= .sref a 0 nC∧s.t 4= .sref b 0 nI∧s.t 54=aU c.Matches∧s.t 55=iv nM∧s.t 56=iv j∧s.H[0]?=some (some O)∧s.H[a]?=some (some ⟨3,1,cW (jy c (c.Matches.take j))⟩)∧s.H[b]?=some (some ⟨3,1,cW (jV c (c.Matches.take j))⟩):=⟨_,rfl⟩
 refine aF I (nM) (by rw[hN];rfl) ?_ ?_
 ·rw[hI]
  exact⟨0,by omega,by omega,fun i q hj=>by omega,by simp -dsimp[-getElem?_pos,go_sem,t1],by simp -dsimp[-getElem?_pos,go_sem,t3],by simp -dsimp[-getElem?_pos,go_sem,t4],by simp -dsimp[-getElem?_pos,go_sem],by simp -dsimp[-getElem?_pos,go_sem],by simp -dsimp[-getElem?_pos,go_sem],by simp -dsimp[-getElem?_pos,go_sem,h0],by simp -dsimp[-getElem?_pos,go_sem,ha],by simp -dsimp[-getElem?_pos,go_sem,hb]⟩
 clear t1 t3 t4 h0 ha hb lt0 lta ltb
 intro m s hs'
 rw[hI]at hs'
 obtain⟨j,hj,hm,hfits,t1,t3,t4,t54,t55,t56,h0,ha,hb⟩:=hs'
 have lt0:=(gsI h0)
 have lta:=(gsI ha)
 have ltb:=(gsI hb)
 simp -dsimp -implicitDefEqProofs [-getElem?_pos,go_sem,hP,t55,t56]
 refine aH (fun h=>?_) (fun h=>?_)
 ·have hj:j<nM:=by simpa using h
  obtain⟨q,hq⟩:∃q,c.Matches[j]?=some q:=⟨_,List.getElem?_eq_getElem (by omega)⟩
  have wk:=ah ((j:Int)+1) (by omega)
  obtain⟨ms,hms⟩:∃ms,ms=c.Matches.take j:=⟨_,rfl⟩
  rw[←hms]at ha hb
  have unfit:¬vQ c ms q→R=false:=fun h=>bad fun hb=>h (by rw[hms];exact hb.fits hp hx hq)
  simp -dsimp -implicitDefEqProofs [-getElem?_pos,go_sem,hP,t54,t56,hq,UA]
  refine au (fun _=>true) [] hP (by kernel_rfl) (by kernel_rfl) ?_
  simp -dsimp -implicitDefEqProofs [-getElem?_pos,go_sem,hP,t1,h0,lt0,hO]
  refine aj (ia q.Income) hP PT (an (by simpa[aP]using ic)) .sc ?_
  simp -dsimp -implicitDefEqProofs [-getElem?_pos,go_sem,hP,t1,h0,lt0,hO]
  refine aj (ca q.Claim) hP J4 (an (by simpa[aP]using ic)) .sc ?_
  simp -dsimp -implicitDefEqProofs [-getElem?_pos,go_sem,hP]
  cases hi:tu c.Incomes q.Income with
  |none=>
   have e:=unfit (by rintro⟨i,k,x,y,h1,_⟩;rw[hi]at h1;cases h1)
   simp -dsimp -implicitDefEqProofs [-getElem?_pos,go_sem,hP,hi,ve,e]
   refine au (fun _=>true) [] hP (by kernel_rfl) (by kernel_rfl) ?_
   simp -dsimp -implicitDefEqProofs [-getElem?_pos,go_sem,hP,e]
  |some i=>
  cases hk:mw c.Claims q.Claim with
  |none=>
   have e:=unfit (by rintro⟨i,k,x,y,_,h1,_⟩;rw[hk]at h1;cases h1)
   have d1:decide ((i:Int)<0)=false:=decide_eq_false (by omega)
   simp -dsimp -implicitDefEqProofs [-getElem?_pos,go_sem,hP,hi,hk,ve,e,d1]
   refine au (fun _=>true) [] hP (by kernel_rfl) (by kernel_rfl) ?_
   simp -dsimp -implicitDefEqProofs [-getElem?_pos,go_sem,hP,e,d1]
  |some k=>
  obtain⟨x,hx1,hx2⟩:=oV hk
  obtain⟨y,hy1,hy2⟩:=wy hi
  have ltk:k<nC:=by have:=(gsI hx1);omega
  have lti:i<nI:=by have:=(gsI hy1);omega
  have d1:decide ((i:Int)<0)=false:=decide_eq_false (by omega)
  have d2:decide ((k:Int)<0)=false:=decide_eq_false (by omega)
  have gx:(jy c ms)[k]?=some (x.Amount-g9 ms x.ID):=by simp[jy,hx1]
  have gy:(jV c ms)[i]?=some (y.Amount-dY ms y.Number):=by simp[jV,hy1]
  have lx:(jy c ms).length=nC:=by simp[jy,hnC]
  have ly:(jV c ms).length=nI:=by simp[jV,hnI]
  have fit:vQ c ms q↔y.Payer=x.Payer∧0<q.Amount∧q.Amount≤x.Amount-g9 ms x.ID∧q.Amount≤y.Amount-dY ms y.Number:=by
   constructor
   ·rintro⟨i',k',x',y',h1,h2,h3,h4,h5,h6,h7⟩
    rw[hi]at h1;cases h1
    rw[hk]at h2;cases h2
    rw[hx1]at h3;cases h3
    rw[hy1]at h4;cases h4
    exact h7
   ·intro h
    exact⟨i,k,x,y,hi,hk,hx1,hy1,hx2,hy2,h⟩
  have sx:=Ei (ms:=ms) pw.2 hx1 hx2
  have sy:=FK (ms:=ms) iw.2 hy1 hy2
  obtain⟨L,hL⟩:∃L,L=jy c ms:=⟨_,rfl⟩
  obtain⟨M,hM⟩:∃M,M=jV c ms:=⟨_,rfl⟩
  obtain⟨u,hu⟩:∃u,u=x.Amount-g9 ms x.ID:=⟨_,rfl⟩
  obtain⟨w,hw⟩:∃w,w=y.Amount-dY ms y.Number:=⟨_,rfl⟩
  rw[←hL,←hu]at gx sx
  rw[←hM,←hw]at gy sy
  rw[←hL]at ha lx
  rw[←hM]at hb ly
  rw[←hu,←hw]at fit
  have rx:=fO gx
  have ry:=fO gy
  have rsx:=kO L k (u-q.Amount)
  have rsy:=kO M i (w-q.Amount)
  have rlx:=bZ L
  have rly:=bZ M
  obtain⟨P,hP'⟩:∃P,P=cW L:=⟨_,rfl⟩
  obtain⟨Q,hQ'⟩:∃Q,Q=cW M:=⟨_,rfl⟩
  rw[←hP']at ha rx rsx rlx
  rw[←hQ']at hb ry rsy rly
  simp -dsimp -implicitDefEqProofs [-getElem?_pos,go_sem,hP,hi,hk,ve]
  refine au (fun _=>true) [] hP (by kernel_rfl) (by kernel_rfl) ?_
  by_cases c1:y.Payer=x.Payer
  rotate_left
  ·have e:=unfit fun h=>c1 (fit.1 h).1
   simp -dsimp -implicitDefEqProofs [-getElem?_pos,go_sem,hP,t1,t3,t4,h0,hO,d1,d2,hx1,hy1,og,iC,c1,e,lt0]
  by_cases c2:q.Amount≤0
  ·have e:=unfit fun h=>by have:=(fit.1 h).2.1;omega
   simp -dsimp -implicitDefEqProofs [-getElem?_pos,go_sem,hP,t1,t3,t4,h0,hO,d1,d2,hx1,hy1,og,iC,c1,c2,e,lt0]
  by_cases c3:u<q.Amount
  ·have e:=unfit fun h=>by have:=(fit.1 h).2.2.1;omega
   simp -dsimp -implicitDefEqProofs [-getElem?_pos,go_sem,hP,t1,t3,t4,h0,hO,d1,d2,hx1,hy1,og,iC,c1,c2,c3,e,lt0,ha,hb,lta,ltb,rx,ry,rlx,rly,lx,ly,ltk,lti]
  by_cases c4:w<q.Amount
  ·have e:=unfit fun h=>by have:=(fit.1 h).2.2.2;omega
   simp -dsimp -implicitDefEqProofs [-getElem?_pos,go_sem,hP,t1,t3,t4,h0,hO,d1,d2,hx1,hy1,og,iC,c1,c2,c3,c4,e,lt0,ha,hb,lta,ltb,rx,ry,rlx,rly,lx,ly,ltk,lti]
  have fq:vQ c ms q:=fit.2 ⟨c1,by omega,by omega,by omega⟩
  simp -dsimp -implicitDefEqProofs [-getElem?_pos,go_sem,hP,t1,t3,t4,h0,hO,d1,d2,hx1,hy1,og,iC,c1,c2,c3,c4,lt0,ha,hb,lta,ltb,rx,ry,rlx,rly,lx,ly,ltk,lti]
  refine au (fun id=>decide (id=s.H.length)) [6,7,13,14,18,20] hP (by kernel_rfl) (by kernel_rfl) ?_
  have posM:∀z,z∈ms→0<z.Amount:=fun z hz=>by
   rw[hms]at hz
   obtain⟨i',hi'⟩:=List.getElem?_of_mem hz
   rw[List.getElem?_take]at hi'
   split at hi'
   ·obtain⟨_,_,_,_,_,_,_,_,_,_,_,h8,_⟩:=hfits i' z (by assumption) hi'
    exact h8
   ·cases hi'
  have gpos:=mV ms x.ID posM
  have upos:=mf ms y.Number posM
  have xb:=(kz.1 (pw.1 x (List.mem_of_getElem? hx1)).1).2.2.1.2
  have yb:=(tf (iw.1 y (List.mem_of_getElem? hy1)).1).2
  have wa:=ah (u-q.Amount) (by omega)
  have wb:=ah (w-q.Amount) (by omega)
  have na0:¬a=0:=by omega
  have nb0:¬b=0:=by omega
  have nba:¬b=a:=fun e=>nab e.symm
  simp -dsimp -implicitDefEqProofs [-getElem?_pos,go_sem,hP,t1,t3,t4,h0,hO,hx1,hy1,lt0,ha,hb,lta,ltb,rx,ry,rlx,rly,lx,ly,ltk,lti,nab,nba,na0,nb0,wa,wb,t56,wk,ao]
  refine⟨vN (decide_eq_false (by omega)),vN (decide_eq_false (by omega)),?_⟩
  refine⟨nM-(j+1),by omega,?_⟩
  rw[hI]
  refine⟨j+1,by omega,rfl,fun i' q' hi' hq'=>?_,by simp -dsimp[-getElem?_pos,go_sem,t1],by simp -dsimp[-getElem?_pos,go_sem,t3],by simp -dsimp[-getElem?_pos,go_sem,t4],by simp -dsimp[-getElem?_pos,go_sem,t54],by simp -dsimp[-getElem?_pos,go_sem,t55],by simp -dsimp[-getElem?_pos,go_sem],by simp -dsimp[-getElem?_pos,go_sem,lt0,h0,na0,nb0],?_,?_⟩
  ·by_cases e:i'=j
   ·subst e
    rw[hq]at hq'
    cases hq'
    rw[←hms]
    exact fq
   ·exact hfits i' q' (by omega) hq'
  ·rw[rR hq,←hms,sx]
   simp -dsimp -implicitDefEqProofs [-getElem?_pos,go_sem,lta,nba,rsx]
  ·rw[rR hq,←hms,sy]
   simp -dsimp -implicitDefEqProofs [-getElem?_pos,go_sem,ltb,nab,rsy]
 have hj:nM=j:=by
  have:¬j<nM:=by simpa using h
  omega
 subst hj
 rw[hnM,List.take_length]at ha hb
 have hfits:∀(i:Nat) (q:TMatch),c.Matches[i]?=some q→vQ c (c.Matches.take i) q:=fun i q hq=>hfits i q (by rw[hnM];exact (gsI hq)) hq
 clear hI h t54 t55 t56
 have lx:(jy c c.Matches).length=nC:=by simp[jy,hnC]
 have ly:(jV c c.Matches).length=nI:=by simp[jV,hnI]
 have gx:∀(k:Nat) x,c.Claims[k]?=some x→(jy c c.Matches)[k]?=some (x.Amount-g9 c.Matches x.ID):=fun k x h=>by simp[jy,h]
 have gy:∀(k:Nat) y,c.Incomes[k]?=some y→(jV c c.Matches)[k]?=some (y.Amount-dY c.Matches y.Number):=fun k x h=>by simp[jV,h]
 obtain⟨L,hL⟩:∃L,L=jy c c.Matches:=⟨_,rfl⟩
 obtain⟨M,hM⟩:∃M,M=jV c c.Matches:=⟨_,rfl⟩
 rw[←hL]at ha lx gx
 rw[←hM]at hb ly gy
 have rlx:=bZ L
 have rly:=bZ M
 simp -dsimp -implicitDefEqProofs [-getElem?_pos,go_sem,hP,t1,h0,lt0,hO,←hnC]
 obtain⟨I,hI⟩:∃I:Nat→St→Prop,I=fun m s=>∃(k:Nat),k≤nC∧m=nC-k∧(∀(i:Nat) (x:TClaim),i<k→c.Claims[i]?=some x→x.Amount-g9 c.Matches x.ID=x.Open)∧s.t 1= .ref 0 0 0∧s.t 3= .sref a 0 nC∧s.t 4= .sref b 0 nI∧s.t 134=bM c.Claims∧s.t 135=iv nC∧s.t 136=iv k∧s.H[0]?=some (some O)∧s.H[a]?=some (some ⟨3,1,cW L⟩)∧s.H[b]?=some (some ⟨3,1,cW M⟩):=⟨_,rfl⟩
 refine aF I (nC) (by rw[hN];rfl) ?_ ?_
 ·rw[hI]
  exact⟨0,by omega,by omega,fun i x hj=>by omega,by simp -dsimp[-getElem?_pos,go_sem,t1],by simp -dsimp[-getElem?_pos,go_sem,t3],by simp -dsimp[-getElem?_pos,go_sem,t4],by simp -dsimp[-getElem?_pos,go_sem],by simp -dsimp[-getElem?_pos,go_sem],by simp -dsimp[-getElem?_pos,go_sem],by simp -dsimp[-getElem?_pos,go_sem,h0],by simp -dsimp[-getElem?_pos,go_sem,ha],by simp -dsimp[-getElem?_pos,go_sem,hb]⟩
 clear t1 t3 t4 h0 ha hb lt0 lta ltb
 intro m s hs'
 rw[hI]at hs'
 obtain⟨k,hk,hm,hopen,t1,t3,t4,t134,t135,t136,h0,ha,hb⟩:=hs'
 have lt0:=(gsI h0)
 have lta:=(gsI ha)
 have ltb:=(gsI hb)
 simp -dsimp -implicitDefEqProofs [-getElem?_pos,go_sem,hP,t135,t136]
 refine aH (fun h=>?_) (fun h=>?_)
 ·have hk:k<nC:=by simpa using h
  obtain⟨x,hx1⟩:∃x,c.Claims[k]?=some x:=⟨_,List.getElem?_eq_getElem (by omega)⟩
  have rv:=fO (gx k x hx1)
  have wk:=ah ((k:Int)+1) (by omega)
  simp -dsimp -implicitDefEqProofs [-getElem?_pos,go_sem,hP,t134,t136,hx1,og]
  refine au (fun _=>true) [] hP (by kernel_rfl) (by kernel_rfl) ?_
  by_cases c1:x.Amount-g9 c.Matches x.ID=x.Open
  ·simp -dsimp -implicitDefEqProofs [-getElem?_pos,go_sem,hP,t3,ha,lta,rv,rlx,lx,hk,c1,t136,wk]
   refine⟨nC-(k+1),by omega,?_⟩
   rw[hI]
   refine⟨k+1,by omega,rfl,fun i x' hi hx'=>?_,by simp -dsimp[-getElem?_pos,go_sem,t1],by simp -dsimp[-getElem?_pos,go_sem,t3],by simp -dsimp[-getElem?_pos,go_sem,t4],by simp -dsimp[-getElem?_pos,go_sem,t134],by simp -dsimp[-getElem?_pos,go_sem,t135],by simp -dsimp[-getElem?_pos,go_sem],by simp -dsimp[-getElem?_pos,go_sem,lt0,h0],by simp -dsimp[-getElem?_pos,go_sem,lta,ha],by simp -dsimp[-getElem?_pos,go_sem,ltb,hb]⟩
   by_cases e:i=k
   ·subst e
    rw[hx1]at hx'
    cases hx'
    exact c1
   ·exact hopen i x' (by omega) hx'
  ·have e:R=false:=bad fun hb=>by
    have:=hb.got x (List.mem_of_getElem? hx1)
    omega
   simp -dsimp -implicitDefEqProofs [-getElem?_pos,go_sem,hP,t3,ha,lta,rv,rlx,lx,hk,c1,e]
 have hk:nC=k:=by
  have:¬k<nC:=by simpa using h
  omega
 subst hk
 clear hI h t134 t135 t136
 obtain⟨ls,hls⟩:∃ls,ls=c.Loose:=⟨_,rfl⟩
 rw[←hls]at hO hl hfl
 simp -dsimp -implicitDefEqProofs [-getElem?_pos,go_sem,hP,t1,h0,lt0,hO,hl]
 obtain⟨I,hI⟩:∃I:Nat→St→Prop,I=fun m s=>∃(k:Nat),k≤nI∧m=nI-k∧(∀(i:Nat) (y:TIncome) (lo:Int),i<k→c.Incomes[i]?=some y→ls[i]?=some lo→0≤lo∧lo≤y.Amount-dY c.Matches y.Number)∧s.t 4= .sref b 0 nI∧s.t 150= .list 1 (ac aJ ls)∧s.t 151=iv nI∧s.t 152=iv k∧s.H[b]?=some (some ⟨3,1,cW M⟩):=⟨_,rfl⟩
 refine aF I (nI) (by rw[hN];rfl) ?_ ?_
 ·rw[hI]
  exact⟨0,by omega,by omega,fun i x lo hj=>by omega,by simp -dsimp[-getElem?_pos,go_sem,t4],by simp -dsimp[-getElem?_pos,go_sem],by simp -dsimp[-getElem?_pos,go_sem],by simp -dsimp[-getElem?_pos,go_sem],by simp -dsimp[-getElem?_pos,go_sem,hb]⟩
 clear t1 t3 t4 h0 ha hb lt0 lta ltb
 intro m s hs'
 rw[hI]at hs'
 obtain⟨k,hk,hm,hloose,t4,t150,t151,t152,hb⟩:=hs'
 have ltb:=(gsI hb)
 simp -dsimp -implicitDefEqProofs [-getElem?_pos,go_sem,hP,t151,t152]
 refine aH (fun h=>?_) (fun h=>?_)
 ·have hk:k<nI:=by simpa using h
  obtain⟨y,hy1⟩:∃y,c.Incomes[k]?=some y:=⟨_,List.getElem?_eq_getElem (by omega)⟩
  obtain⟨lo,hlo⟩:∃lo,ls[k]?=some lo:=⟨_,List.getElem?_eq_getElem (by omega)⟩
  have rv:=fO (gy k y hy1)
  have wk:=ah ((k:Int)+1) (by omega)
  by_cases c1:lo<0
  ·have e:R=false:=bad fun hb=>by
    have:=(hb.used k y lo hy1 (by rw[←hls];exact hlo)).1
    omega
   simp -dsimp -implicitDefEqProofs [-getElem?_pos,go_sem,hP,t150,t152,hlo,aJ,c1,e]
  by_cases c2:y.Amount-dY c.Matches y.Number<lo
  ·have e:R=false:=bad fun hb=>by
    have:=(hb.used k y lo hy1 (by rw[←hls];exact hlo)).2
    omega
   simp -dsimp -implicitDefEqProofs [-getElem?_pos,go_sem,hP,t150,t152,hlo,aJ,c1,c2,t4,hb,ltb,rv,rly,ly,hk,e]
  simp -dsimp -implicitDefEqProofs [-getElem?_pos,go_sem,hP,t150,t152,hlo,aJ,c1,c2,t4,hb,ltb,rv,rly,ly,hk,wk]
  refine⟨nI-(k+1),by omega,?_⟩
  rw[hI]
  refine⟨k+1,by omega,rfl,fun i y' lo' hi hy' hlo'=>?_,by simp -dsimp[-getElem?_pos,go_sem,t4],by simp -dsimp[-getElem?_pos,go_sem,t150],by simp -dsimp[-getElem?_pos,go_sem,t151],by simp -dsimp[-getElem?_pos,go_sem],by simp -dsimp[-getElem?_pos,go_sem,hb]⟩
  by_cases e:i=k
  ·subst e
   rw[hy1]at hy'
   cases hy'
   rw[hlo]at hlo'
   cases hlo'
   omega
  ·exact hloose i y' lo' (by omega) hy' hlo'
 have hk:nI=k:=by
  have:¬k<nI:=by simpa using h
  omega
 subst hk
 have e:R=true:=by
  rw[hR,jB]
  refine Books.ofFits (by rw[←hls];omega) (fun j q hq=>hfits j q hq) (fun x hx=>?_) fun i y lo hy hlo=>hloose i y lo ?_ hy (by rw[hls];exact hlo)
  ·obtain⟨k,hk⟩:=List.getElem?_of_mem hx
   exact hopen k x (by have:=(gsI hk);omega) hk
  ·have:=(gsI hy)
   omega
 simp -dsimp -implicitDefEqProofs [-getElem?_pos,go_sem,hP,e]
open Go.PA
open Go.RowKit
theorem Hg (c:TCash) (hf:FitC c):PFun Tryz.prog none none 129 [.agg c.cells] (·=iv (j6 c)):=by
 refine ae Tryz.func129 rfl (by simp[Tryz.f129]) (by kernel_rfl) ?_
 intro E hP hr hs hW hN
 have hfc:=hf.fc
 have hfi:=hf.fi
 have hfm:=hf.fm
 have hfl:=hf.fl
 have ip:=gA c.Claims
 have ii:=ij c.Incomes
 have ic:=aO.2 c.imm
 have mp:=E0 c hf
 rw[jJ]at ic mp
 obtain⟨R,hR⟩:∃R,R=j6 c:=⟨_,rfl⟩
 rw[←hR]
 rw[j6]at hR
 by_cases c1:60<c.Claims.length
 ·have d1:decide ((60:Int)<(c.Claims.length:Int))=true:=decide_eq_true (by omega)
  rw[if_neg (by omega)]at hR
  simp -dsimp -implicitDefEqProofs [-getElem?_pos,go_sem,hP,jJ,c1,d1,hR]
 have d1:decide ((60:Int)<(c.Claims.length:Int))=false:=decide_eq_false (by omega)
 by_cases c2:100<c.Incomes.length
 ·have d2:decide ((100:Int)<(c.Incomes.length:Int))=true:=decide_eq_true (by omega)
  rw[if_neg (by omega)]at hR
  simp -dsimp -implicitDefEqProofs [-getElem?_pos,go_sem,hP,jJ,c1,d1,c2,d2,hR]
 have d2:decide ((100:Int)<(c.Incomes.length:Int))=false:=decide_eq_false (by omega)
 by_cases c3:160<c.Matches.length
 ·have d3:decide ((160:Int)<(c.Matches.length:Int))=true:=decide_eq_true (by omega)
  rw[if_neg (by omega)]at hR
  simp -dsimp -implicitDefEqProofs [-getElem?_pos,go_sem,hP,jJ,c1,d1,c2,d2,c3,d3,hR]
 have d3:decide ((160:Int)<(c.Matches.length:Int))=false:=decide_eq_false (by omega)
 rw[if_pos (by omega)]at hR
 simp -dsimp -implicitDefEqProofs [-getElem?_pos,go_sem,hP,jJ,c1,d1,c2,d2,c3,d3]
 refine aj (D1 c.Claims (by omega) hf.code) hP PY (an (by simpa using ip)) .sc ?_
 cases c4:iP 0 c.Claims
 ·rw[c4,if_neg (by simp)]at hR
  simp -dsimp -implicitDefEqProofs [-getElem?_pos,go_sem,hP,hR]
 rw[c4,if_pos rfl]at hR
 simp -dsimp -implicitDefEqProofs [-getElem?_pos,go_sem,hP]
 refine aj (BH c.Incomes (by omega)) hP Qo (an (by simpa using ii)) .sc ?_
 cases c5:iR 0 0 c.Incomes
 ·rw[c5,Bool.false_and,if_neg (by simp)]at hR
  simp -dsimp -implicitDefEqProofs [-getElem?_pos,go_sem,hP,hR]
 rw[c5,Bool.true_and]at hR
 by_cases c6:c.Loose.length=c.Incomes.length
 ·have d6:decide ((c.Loose.length:Int)=(c.Incomes.length:Int))=true:=decide_eq_true (by omega)
  simp -dsimp -implicitDefEqProofs [-getElem?_pos,go_sem,hP,c6,d6]
  refine aj (mp c4 c5 c6) hP P1 (an (by simpa using ic)) .sc ?_
  cases c7:jC c
  ·rw[c7,if_neg (by simp)]at hR
   simp -dsimp -implicitDefEqProofs [-getElem?_pos,go_sem,hP,hR]
  ·rw[c7,if_pos rfl]at hR
   simp -dsimp -implicitDefEqProofs [-getElem?_pos,go_sem,hP,hR]
 ·have d6:decide ((c.Loose.length:Int)=(c.Incomes.length:Int))=false:=decide_eq_false (by omega)
  have e:jC c=false:=by
   cases hb:jC c
   ·rfl
   ·exact absurd ((jB c).1 hb).len c6
  rw[e,if_neg (by simp)]at hR
  simp -dsimp -implicitDefEqProofs [-getElem?_pos,go_sem,hP,c6,d6,hR]
structure Fall (c d:TCash):Prop where
 inc:d.Incomes=c.Incomes
 cl:∀(k:Nat) (x:TClaim),c.Claims[k]?=some x→∃n:Int,n≤x.Open∧(0≤x.Open→0≤n)∧d.Claims[k]?=some {x with Open:=n}
 cn:d.Claims.length=c.Claims.length
 lo:∀(i:Nat) (l:Int),c.Loose[i]?=some l→∃n:Int,n≤l∧(0≤l→0≤n)∧d.Loose[i]?=some n
 ln:d.Loose.length=c.Loose.length
theorem Fall.refl (c:TCash):Fall c c:=⟨rfl,fun k x h=>⟨x.Open,Int.le_refl _,fun h=>h,h⟩,rfl,fun i l h=>⟨l,Int.le_refl _,fun h=>h,h⟩,rfl⟩
theorem Fall.trans {a b c:TCash} (h:Fall a b) (g:Fall b c):Fall a c:=by
 refine⟨g.inc.trans h.inc,fun k x hx=>?_,g.cn.trans h.cn,fun i l hl=>?_,g.ln.trans h.ln⟩
 ·obtain⟨n,h1,h2,h3⟩:=h.cl k x hx
  obtain⟨n',h4,h5,h6⟩:=g.cl k _ h3
  exact⟨n',by simp only at h4;omega,by simp only at h5;omega,h6⟩
 ·obtain⟨n,h1,h2,h3⟩:=h.lo i l hl
  obtain⟨n',h4,h5,h6⟩:=g.lo i _ h3
  exact⟨n',by omega,by omega,h6⟩
theorem yh (c:TCash) (i k:Nat) (hp:∀x,x∈c.Claims→0≤x.Open) (hq:∀l,l∈c.Loose→0≤l):Fall c (meet c i k):=by
 cases hl:c.Loose[i]? with
 |none=>unfold meet;rw[hl];exact .refl c
 |some lo=>
 cases hx:c.Claims[k]? with
 |none=>unfold meet;rw[hl,hx];exact .refl c
 |some x=>
 cases hy:c.Incomes[i]? with
 |none=>unfold meet;rw[hl,hx,hy];exact .refl c
 |some y=>
 by_cases hn:min lo x.Open=0
 ·unfold meet
  rw[hl,hx,hy]
  simp only
  rw[if_pos hn]
  exact .refl c
 rw[ul hl hx hy hn]
 have px:=hp x (List.mem_of_getElem? hx)
 have pl:=hq lo (List.mem_of_getElem? hl)
 refine⟨rfl,fun j z hz=>?_,by simp,fun j l hj=>?_,by simp⟩
 ·by_cases e:k=j
  ·subst e
   rw[hx]at hz
   cases hz
   exact⟨x.Open-min lo x.Open,by omega,by omega,List.getElem?_set_self (gsI hx)⟩
  ·exact⟨z.Open,Int.le_refl _,fun h=>h,(List.getElem?_set_ne e).trans hz⟩
 ·by_cases e:i=j
  ·subst e
   rw[hl]at hj
   cases hj
   exact⟨lo-min lo x.Open,by omega,by omega,List.getElem?_set_self (gsI hl)⟩
  ·exact⟨l,Int.le_refl _,fun h=>h,(List.getElem?_set_ne e).trans hj⟩
def Pos (c:TCash):Prop:=(∀x,x∈c.Claims→0≤x.Open)∧∀l,l∈c.Loose→0≤l
theorem Fall.pos {c d:TCash} (h:Fall c d) (hp:Pos c):Pos d:=by
 refine⟨fun x hx=>?_,fun l hl=>?_⟩
 ·obtain⟨k,hk⟩:=List.getElem?_of_mem hx
  have lt:=(gsI hk)
  rw[h.cn]at lt
  obtain⟨n,_,h2,h3⟩:=h.cl k _ (List.getElem?_eq_getElem lt)
  rw[hk]at h3
  cases h3
  exact h2 (hp.1 _ (List.getElem_mem lt))
 ·obtain⟨k,hk⟩:=List.getElem?_of_mem hl
  have lt:=(gsI hk)
  rw[h.ln]at lt
  obtain⟨n,_,h2,h3⟩:=h.lo k _ (List.getElem?_eq_getElem lt)
  rw[hk]at h3
  cases h3
  exact h2 (hp.2 _ (List.getElem_mem lt))
theorem CashOk.pos {c:TCash} (h:CashOk c):Pos c:=by
 refine⟨fun x hx=>(kz.1 (h.pays.1 x hx)).2.2.2.1.1,fun l hl=>?_⟩
 obtain⟨i,hi⟩:=List.getElem?_of_mem hl
 have lt:=(gsI hi)
 rw[h.len]at lt
 exact (h.used i _ l (List.getElem?_eq_getElem lt) hi).1
theorem Fall.payer {c d:TCash} (h:Fall c d) (k:Nat):(d.Claims[k]?).map (·.Payer)=(c.Claims[k]?).map (·.Payer):=by
 cases hk:c.Claims[k]? with
 |none=>
  rw[List.getElem?_eq_none (by rw[h.cn];exact List.getElem?_eq_none_iff.1 hk)]
 |some x=>
  obtain⟨n,_,_,h3⟩:=h.cl k x hk
  rw[h3]
  rfl
def pot (c:TCash):Nat:=c.Matches.length+c.Claims.countP (fun x=>decide (0<x.Open))+c.Loose.countP (fun l=>decide (0<l))
theorem nh {α:Type} (p:α→Bool):∀(l:List α) (k:Nat) (x y:α),l[k]?=some x→(l.set k y).countP p+(if p x then 1 else 0)=l.countP p+(if p y then 1 else 0)
 |[],k,x,y,h=>by simp at h
 |a::l,0,x,y,h=>by
  simp only[List.getElem?_cons_zero,Option.some.injEq]at h
  subst h
  rw[List.set_cons_zero,List.countP_cons,List.countP_cons]
  omega
 |a::l,k+1,x,y,h=>by
  rw[List.getElem?_cons_succ]at h
  have:=nh p l k x y h
  rw[List.set_cons_succ,List.countP_cons,List.countP_cons]
  omega
theorem Lq (c:TCash) (i k:Nat) (hp:Pos c):pot (meet c i k)≤pot c:=by
 cases hl:c.Loose[i]? with
 |none=>unfold meet;rw[hl];exact Nat.le_refl _
 |some lo=>
 cases hx:c.Claims[k]? with
 |none=>unfold meet;rw[hl,hx];exact Nat.le_refl _
 |some x=>
 cases hy:c.Incomes[i]? with
 |none=>unfold meet;rw[hl,hx,hy];exact Nat.le_refl _
 |some y=>
 by_cases hn:min lo x.Open=0
 ·unfold meet
  rw[hl,hx,hy]
  simp only
  rw[if_pos hn]
  exact Nat.le_refl _
 rw[ul hl hx hy hn]
 have px:=hp.1 x (List.mem_of_getElem? hx)
 have pl:=hp.2 lo (List.mem_of_getElem? hl)
 have c1:=nh (fun z:TClaim=>decide (0<z.Open)) c.Claims k x {x with Open:=x.Open-min lo x.Open} hx
 have c2:=nh (fun z:Int=>decide (0<z)) c.Loose i lo (lo-min lo x.Open) hl
 unfold pot
 simp only[List.length_append,List.length_singleton]
 have d1:decide (0<x.Open)=true:=decide_eq_true (by omega)
 have d2:decide (0<lo)=true:=decide_eq_true (by omega)
 simp only[d1,d2,if_true]at c1 c2
 by_cases hle:lo≤x.Open
 ·have d3:decide (0<lo-min lo x.Open)=false:=decide_eq_false (by omega)
  simp only[d3,Bool.false_eq_true,if_false]at c2
  have:(if decide (0<x.Open-min lo x.Open)=true then 1 else 0)≤1:=by split<;>omega
  omega
 ·have d3:decide (0<x.Open-min lo x.Open)=false:=decide_eq_false (by omega)
  simp only[d3,Bool.false_eq_true,if_false]at c1
  have:(if decide (0<lo-min lo x.Open)=true then 1 else 0)≤1:=by split<;>omega
  omega
def start (c:TCash) (x:TIncome):TCash:={c with Incomes:=c.Incomes++[x],Loose:=c.Loose++[x.Amount]}
theorem rW (P:TCash→Prop) (i:Nat):∀(ks:List Nat) (c:TCash),P c→(∀d k,P d→k∈ks→P (meet d i k))→P (meets c i ks)
 |[],c,h,_=>h
 |k::ks,c,h,hs=>by
  have:=rW P i ks (meet c i k) (hs c k h (List.mem_cons_self ..)) fun d j hd hj=>hs d j hd (List.mem_cons_of_mem _ hj)
  exact this
theorem wD {l:List TClaim} {p n:Int} {k:Nat} (h:k∈eZ l p n):k∈eO l p:=by
 unfold eZ at h
 have:∀ks:List Nat,k∈only ks→k∈ks:=fun ks hk=>by
  match ks,hk with
  |[],hk=>cases hk
  |[a],hk=>exact hk
  |a::b::r,hk=>cases hk
 exact (List.mem_filter.1 (this _ h)).1
theorem sD {l:List TClaim} {p:Int} {k:Nat} (h:k∈eO l p):(l[k]?).map (·.Payer)=some p:=by
 obtain⟨x,h1,h2,_⟩:=nX.1 h
 rw[h1,←h2]
 rfl
def oq (c:TCash) (x:TIncome):TCash:=match mw c.Claims x.Claim with
 |some k=>if ((c.Claims[k]?).map (·.Payer))=some x.Payer then meet (start c x) c.Incomes.length k else start c x
 |none=>start c x
def IY (c:TCash) (x:TIncome):TCash:=if ((oq c x).Loose[c.Incomes.length]?).getD 0=x.Amount then meets (oq c x) c.Incomes.length (eZ (oq c x).Claims x.Payer x.Amount)else oq c x
theorem C6 (c:TCash) (x:TIncome):iz c x=meets (IY c x) c.Incomes.length (eO (IY c x).Claims x.Payer):=rfl
theorem Iw (P:TCash→Prop) (c:TCash) (x:TIncome) (hp:Pos (start c x)) (h0:P (start c x)) (hs:∀(d:TCash) (k:Nat),Fall (start c x) d→P d→((d.Claims[k]?).map (·.Payer))=some x.Payer→P (meet d c.Incomes.length k)):P (iz c x):=by
 obtain⟨P',hP'⟩:∃P':TCash→Prop,P'=fun d=>Fall (start c x) d∧P d:=⟨_,rfl⟩
 have st:∀(d:TCash) (k:Nat),P' d→((d.Claims[k]?).map (·.Payer))=some x.Payer→P' (meet d c.Incomes.length k):=fun d k hd hk=>by
  rw[hP']at hd⊢
  have:=hd.1.pos hp
  exact⟨hd.1.trans (yh d _ k this.1 this.2),hs d k hd.1 hd.2 hk⟩
 have pay:∀(d:TCash) (k:Nat),P' d→∀e:TCash,P' e→((d.Claims[k]?).map (·.Payer))=some x.Payer→((e.Claims[k]?).map (·.Payer))=some x.Payer:=fun d k hd e he h=>by
  rw[hP']at hd he
  rw[he.1.payer,←hd.1.payer]
  exact h
 have ms:∀(d:TCash) (ks:List Nat),P' d→(∀k,k∈ks→((d.Claims[k]?).map (·.Payer))=some x.Payer)→P' (meets d c.Incomes.length ks):=fun d ks hd hk=>
  rW P' _ ks d hd fun e k he hke=>st e k he (pay d k hd e he (hk k hke))
 have s0:P' (start c x):=by rw[hP'];exact⟨.refl _,h0⟩
 have fin:P' (iz c x):=by
  have s1:P' (oq c x):=by
   unfold oq
   split
   ·split
    ·rename_i k _ h
     exact st _ k s0 h
    ·exact s0
   ·exact s0
  have s2:P' (IY c x):=by
   unfold IY
   split
   ·exact ms _ _ s1 fun k hk=>sD (wD hk)
   ·exact s1
  rw[C6]
  exact ms _ _ s2 fun k hk=>sD hk
 rw[hP']at fin
 exact fin.2
theorem qU {c:TCash} {x:TIncome} (h:Pos c) (hx:0≤x.Amount):Pos (start c x):=by
 refine⟨h.1,fun l hl=>?_⟩
 rcases List.mem_append.1 hl with hl|hl
 ·exact h.2 l hl
 ·rw[List.mem_singleton.1 hl];exact hx
theorem gW {c:TCash}:j6 c=0↔(c.Claims.length≤60∧c.Incomes.length≤100∧c.Matches.length≤160)∧CashOk c:=by
 unfold j6
 by_cases h1:c.Claims.length≤60∧c.Incomes.length≤100∧c.Matches.length≤160
 ·rw[if_pos h1]
  cases h2:iP 0 c.Claims
  ·simp only[Bool.false_eq_true,if_false]
   constructor
   ·intro h;omega
   ·rintro⟨_,h⟩
    have:iP 0 c.Claims=true:=(kS _ _).2 ⟨fun x hx=>⟨h.pays.1 x hx,by have:=kz.1 (h.pays.1 x hx);omega⟩,h.pays.2⟩
    rw[this]at h2
    cases h2
  ·simp only[if_true]
   cases h3:iR 0 0 c.Incomes&&jC c
   ·simp only[Bool.false_eq_true,if_false]
    constructor
    ·intro h;omega
    ·rintro⟨_,h⟩
     have e1:iR 0 0 c.Incomes=true:=(kI _ _ _).2 ⟨fun x hx=>by
      have hb:=h.incs.1 x hx
      refine⟨hb,?_⟩
      simp only[iJ,Bool.and_eq_true]at hb
      have a1:=lu.1 hb.1.1.1.1
      have a2:=lu.1 hb.1.1.2
      omega,h.incs.2⟩
     have e2:jC c=true:=(jB c).2 ⟨h.len,h.mates,h.got,h.used⟩
     rw[e1,e2]at h3
     cases h3
   ·simp only[if_true,true_iff]
    rw[Bool.and_eq_true]at h3
    have p:=(kS _ _).1 h2
    have q:=(kI _ _ _).1 h3.1
    have b:=(jB c).1 h3.2
    exact⟨h1,⟨fun x hx=>(p.1 x hx).1,p.2⟩,⟨fun x hx=>(q.1 x hx).1,q.2⟩,b.len,b.mates,b.got,b.used⟩
 ·rw[if_neg h1]
  constructor
  ·intro h;omega
  ·rintro⟨h,_⟩;exact absurd h h1
open Go.PA
open Go.RowKit
def Own (n0:Nat) (H:ab) (x:AV) (ty:TypeId) (k:Nat) (es:List (List AV)):Prop:=∃id,n0≤id∧x= .sref id 0 es.length∧H[id]?=some (some ⟨ty,k,es⟩)
theorem Own.app {n0:Nat} {H l:ab} {x:AV} {ty:TypeId} {k:Nat} {es:List (List AV)} (h:Own n0 H x ty k es):Own n0 (H++l) x ty k es:=by
 obtain⟨id,h1,h2,h3⟩:=h
 refine⟨id,h1,h2,?_⟩
 rw[List.getElem?_append_left (gsI h3)]
 exact h3
structure HC (n0:Nat) (H:ab) (p:Nat) (c:TCash) (A B D F:AV):Prop where
 len:n0≤H.length
 obj:H[p]?=some (some ⟨40,4,[[A,B,D,F]]⟩)
 a:Own n0 H A 118 6 (ac TClaim.cells c.Claims)
 b:Own n0 H B 121 5 (ac TIncome.cells c.Incomes)
 d:Own n0 H D 124 3 (ac TMatch.cells c.Matches)
 f:Own n0 H F 3 1 (cW c.Loose)
def KeptC (n0 p:Nat) (H H':ab):Prop:=∀j o,j<n0→¬j=p→H[j]?=some (some o)→H'[j]?=some (some o)
theorem KeptC.trans {n0 p:Nat} {H H' H'':ab} (h:KeptC n0 p H H') (k:KeptC n0 p H' H''):KeptC n0 p H H'':=fun j o hj hp ho=>k j o hj hp (h j o hj hp ho)
theorem KeptC.refl (n0 p:Nat) (H:ab):KeptC n0 p H H:=fun _ _ _ _ h=>h
theorem KeptC.set {n0 p:Nat} {H H':ab} {i:Nat} {x:Option AObj} (h:KeptC n0 p H H') (hi:n0≤i∨i=p):KeptC n0 p H (H'.set i x):=fun j o hj hp ho=>by
 have e:¬i=j:=by rcases hi with hi|hi<;>omega
 rw[List.getElem?_set_ne e]
 exact h j o hj hp ho
theorem KeptC.app {n0 p:Nat} {H H' l:ab} (h:KeptC n0 p H H'):KeptC n0 p H (H'++l):=fun j o hj hp ho=>by
 have:=h j o hj hp ho
 rw[List.getElem?_append_left (gsI this)]
 exact this
theorem Grown.own {n:Nat} {H:ab} {x:AV} {ty:TypeId} {k:Nat} {es:List (List AV)} (h:Grown n H x ty k es) (hne:0<es.length):∃id,n≤id∧x= .sref id 0 es.length∧H[id]?=some (some ⟨ty,k,es⟩):=by
 rcases h with⟨_,rfl⟩|h
 ·simp at hne
 ·exact h
theorem cU {H:ab} {i j:Nat} {o o':AObj} (hi:H[i]?=some (some o)) (hj:H[j]?=some (some o')) (h:¬o.ty=o'.ty):¬i=j:=fun e=>by
 subst e
 rw[hi]at hj
 cases hj
 exact h rfl
theorem H9 (l:List TClaim) (k:Nat) (x:TClaim):(ac TClaim.cells l).set k x.cells=ac TClaim.cells (l.set k x):=by simp[ac]
theorem kP {l:List TClaim} {k:Nat} {x:TClaim} (h:l[k]?=some x):(ac TClaim.cells l)[k]?=some [iv x.ID,iv x.Payer,iv x.Amount,iv x.Open,iv x.Day,.sc (.string x.Code)]:=by simp[ac,h,og]
theorem IB {l:List TIncome} {k:Nat} {x:TIncome} (h:l[k]?=some x):(ac TIncome.cells l)[k]?=some [iv x.Number,iv x.Day,iv x.Payer,iv x.Amount,iv x.Claim]:=by simp[ac,h,iC]
theorem Grown.set {n0:Nat} {H:ab} {x:AV} {ty:TypeId} {k:Nat} {es:List (List AV)} {i:Nat} {o:AObj} {o':Option AObj} (h:Grown n0 H x ty k es) (hi:H[i]?=some (some o)) (ht:¬o.ty=ty):Grown n0 (H.set i o') x ty k es:=by
 rcases h with h|⟨id,h1,h2,h3⟩
 ·exact .inl h
 ·refine .inr ⟨id,h1,h2,?_⟩
  rw[List.getElem?_set_ne (cU hi h3 ht)]
  exact h3
theorem Grown.app {n0:Nat} {H l:ab} {x:AV} {ty:TypeId} {k:Nat} {es:List (List AV)} (h:Grown n0 H x ty k es):Grown n0 (H++l) x ty k es:=by
 rcases h with h|⟨id,h1,h2,h3⟩
 ·exact .inl h
 ·refine .inr ⟨id,h1,h2,?_⟩
  rw[List.getElem?_append_left (gsI h3)]
  exact h3
theorem HC.app {n0:Nat} {H l:ab} {p:Nat} {c:TCash} {A B D F:AV} (h:HC n0 H p c A B D F):HC n0 (H++l) p c A B D F:=
 ⟨by rw[List.length_append];have:=h.len;omega,by rw[List.getElem?_append_left (List.getElem?_eq_some_iff.1 h.obj).1];exact h.obj,h.a.app,h.b.app,h.d.app,h.f.app⟩
theorem met {c:TCash} {H':ab} {n0 p i k a b f id la lb lf:Nat} {lo:Int} {x:TClaim} {y:TIncome} (h1:c.Loose[i]?=some lo) (h2:c.Claims[k]?=some x) (h3:c.Incomes[i]?=some y) (hz:¬min lo x.Open=0)
  (na:n0≤a) (nb:n0≤b) (nf:n0≤f) (nd:n0≤id) (hl:n0≤H'.length) (ela:la=c.Claims.length) (elb:lb=c.Incomes.length) (elf:lf=c.Loose.length)
  (hp:H'[p]?=some (some ⟨40,4,[[.sref a 0 la,.sref b 0 lb,.sref id 0 (c.Matches.length+1),.sref f 0 lf]]⟩))
  (ha:H'[a]?=some (some ⟨118,6,(ac TClaim.cells c.Claims).set k [iv x.ID,iv x.Payer,iv x.Amount,iv (x.Open-min lo x.Open),iv x.Day,.sc (.string x.Code)]⟩))
  (hb:H'[b]?=some (some ⟨121,5,ac TIncome.cells c.Incomes⟩))
  (hf:H'[f]?=some (some ⟨3,1,(cW c.Loose).set i [iv (lo-min lo x.Open)]⟩))
  (hd:H'[id]?=some (some ⟨124,3,ac TMatch.cells c.Matches++[[iv y.Number,iv x.ID,iv (min lo x.Open)]]⟩)):
  HC n0 H' p (meet c i k) (.sref a 0 la) (.sref b 0 lb) (.sref id 0 (c.Matches.length+1)) (.sref f 0 lf):=by
 subst ela;subst elb;subst elf
 rw[ul h1 h2 h3 hz]
 refine⟨hl,hp,⟨a,na,?_,?_⟩,⟨b,nb,?_,hb⟩,⟨id,nd,?_,?_⟩,⟨f,nf,?_,?_⟩⟩
 ·rw[af,List.length_set]
 ·rw[ha]
  exact congrArg (fun z=>some (some (⟨118,6,z⟩:AObj))) (H9 c.Claims k {x with Open:=x.Open-min lo x.Open})
 ·rw[af]
 ·rw[af,List.length_append,List.length_singleton]
 ·rw[hd]
  exact congrArg (fun z=>some (some (⟨124,3,z⟩:AObj))) (cJ TMatch.cells c.Matches ⟨y.Number,x.ID,min lo x.Open⟩)
 ·rw[bZ,List.length_set]
 ·rw[hf,kO]
theorem pU {c:TCash} {i k:Nat} {lo:Int} {x:TClaim} {y:TIncome} (h1:c.Loose[i]?=some lo) (h2:c.Claims[k]?=some x) (h3:c.Incomes[i]?=some y) (hz:min lo x.Open=0):meet c i k=c:=by
 unfold meet
 rw[h1,h2,h3]
 simp only
 rw[if_pos hz]
set_option maxHeartbeats 4000000 in
set_option maxRecDepth 8000 in
theorem wx {row src:Option Nat} {c:TCash} {H:ab} {n0 p i k:Nat} {lo:Int} {x:TClaim} {y:TIncome} {A B D F:AV} (hc:HC n0 H p c A B D F) (h1:c.Loose[i]?=some lo) (h2:c.Claims[k]?=some x) (h3:c.Incomes[i]?=some y) (hlo:0≤lo∧lo≤1000000000000) (hxo:0≤x.Open∧x.Open≤1000000000000) (hn:c.Matches.length≤100000):
  MFun Tryz.prog row src 136 [.ref p 0 0,iv i,iv k] H (fun _ H'=>(∃D',HC n0 H' p (meet c i k) A B D' F)∧KeptC n0 p H H'):=by
 obtain⟨C,hC⟩:∃C:AV→ab→Prop,C=fun _ H'=>(∃D',HC n0 H' p (meet c i k) A B D' F)∧KeptC n0 p H H':=⟨_,rfl⟩
 have lti:=(gsI h1)
 have ltk:=(gsI h2)
 have ltj:=(gsI h3)
 obtain⟨a,na,rfl,ha⟩:=hc.a
 obtain⟨b,nb,rfl,hb⟩:=hc.b
 obtain⟨f,nf,rfl,hf⟩:=hc.f
 have ho:=hc.obj
 have hd:Grown n0 H D 124 3 (ac TMatch.cells c.Matches):= .inr hc.d
 have hnl:=hc.len
 have lto:=(gsI ho)
 have lta:=(gsI ha)
 have ltb:=(gsI hb)
 have ltf:=(gsI hf)
 have n1:=cU ho ha (by simp)
 have n2:=cU ho hb (by simp)
 have n3:=cU ho hf (by simp)
 have n4:=cU ha hb (by simp)
 have n5:=cU ha hf (by simp)
 have n6:=cU hb hf (by simp)
 have n1':¬a=p:=fun e=>n1 e.symm
 have n2':¬b=p:=fun e=>n2 e.symm
 have n3':¬f=p:=fun e=>n3 e.symm
 have n4':¬b=a:=fun e=>n4 e.symm
 have n5':¬f=a:=fun e=>n5 e.symm
 have n6':¬f=b:=fun e=>n6 e.symm
 rw[←hC]
 simp only[af,bZ]at ho hC
 have ra:=kP h2
 have rb:=IB h3
 have rf:=fO h1
 have lna:=af TClaim.cells c.Claims
 have lnb:=af TIncome.cells c.Incomes
 have lnf:=bZ c.Loose
 by_cases hz:min lo x.Open=0
 ·have ex:∃r H',C r H':=⟨.tup [],H,by
   rw[hC,pU h1 h2 h3 hz]
   have:=hc
   simp only[af,bZ]at this
   exact⟨⟨D,this⟩,.refl _ _ _⟩⟩
  obtain⟨PA,hPA⟩:∃r,r=ac TClaim.cells c.Claims:=⟨_,rfl⟩
  obtain⟨PB,hPB⟩:∃r,r=ac TIncome.cells c.Incomes:=⟨_,rfl⟩
  obtain⟨PF,hPF⟩:∃r,r=cW c.Loose:=⟨_,rfl⟩
  rw[←hPA]at ha ra lna
  rw[←hPB]at hb rb lnb
  rw[←hPF]at hf rf lnf
  refine al Tryz.func136 rfl (by simp[Tryz.f136]) (by kernel_rfl) (ex) ?_
  intro E hP hr hs hN
  have am:x6 [iv lo,iv x.Open]=some (iv 0):=by simp[x6,fd,hz]
  simp -dsimp -implicitDefEqProofs [-getElem?_pos,go_sem,hP]
  refine au (fun _=>true) [] hP (by kernel_rfl) (by kernel_rfl) ?_
  simp -dsimp -implicitDefEqProofs [-getElem?_pos,go_sem,hP,ho,lto,ha,lta,hb,ltb,hf,ltf,ra,rb,rf,lna,lnb,lnf,lti,ltk,ltj,am]
  rw[hC,pU h1 h2 h3 hz]
  have:=hc
  simp only[af,bZ]at this
  exact⟨⟨D,this⟩,.refl _ _ _⟩
 obtain⟨n,hnd⟩:∃n,n=min lo x.Open:=⟨_,rfl⟩
 have fin:∀(H':ab) (id:Nat),n0≤id→n0≤H'.length→H'[p]?=some (some ⟨40,4,[[.sref a 0 c.Claims.length,.sref b 0 c.Incomes.length,.sref id 0 (c.Matches.length+1),.sref f 0 c.Loose.length]]⟩)→H'[a]?=some (some ⟨118,6,(ac TClaim.cells c.Claims).set k [iv x.ID,iv x.Payer,iv x.Amount,iv (x.Open-n),iv x.Day,.sc (.string x.Code)]⟩)→H'[b]?=some (some ⟨121,5,ac TIncome.cells c.Incomes⟩)→H'[f]?=some (some ⟨3,1,(cW c.Loose).set i [iv (lo-n)]⟩)→H'[id]?=some (some ⟨124,3,ac TMatch.cells c.Matches++[[iv y.Number,iv x.ID,iv n]]⟩)→KeptC n0 p H H'→∀r,C r H':=fun H' id q1 q2 q3 q4 q5 q6 q7 q8 r=>by
  rw[hC]
  subst hnd
  exact⟨⟨_,met h1 h2 h3 hz na nb nf q1 q2 rfl rfl rfl q3 q4 q5 q6 q7⟩,q8⟩
 have bn:0<n∧n≤lo∧n≤x.Open:=by omega
 have ex:∃r H',C r H':=by
  obtain⟨H1,hH1⟩:∃H1:ab,H1=(((H.set f (some ⟨3,1,(cW c.Loose).set i [iv (lo-n)]⟩)).set a (some ⟨118,6,(ac TClaim.cells c.Claims).set k [iv x.ID,iv x.Payer,iv x.Amount,iv (x.Open-n),iv x.Day,.sc (.string x.Code)]⟩)).set p (some ⟨40,4,[[.sref a 0 c.Claims.length,.sref b 0 c.Incomes.length,.sref H.length 0 (c.Matches.length+1),.sref f 0 c.Loose.length]]⟩))++[some ⟨124,3,ac TMatch.cells c.Matches++[[iv y.Number,iv x.ID,iv n]]⟩]:=⟨_,rfl⟩
  refine⟨.tup [],H1,fin H1 H.length (by omega) (by rw[hH1];simp;omega) ?_ ?_ ?_ ?_ ?_ ?_ _⟩
  ·rw[hH1,List.getElem?_append_left (by simp;omega),List.getElem?_set_self (by simp;omega)]
  ·rw[hH1,List.getElem?_append_left (by simp;omega),List.getElem?_set_ne n1,List.getElem?_set_self (by simp;omega)]
  ·rw[hH1,List.getElem?_append_left (by simp;omega),List.getElem?_set_ne n2,List.getElem?_set_ne n4,List.getElem?_set_ne n6',hb]
  ·rw[hH1,List.getElem?_append_left (by simp;omega),List.getElem?_set_ne n3,List.getElem?_set_ne n5,List.getElem?_set_self (by omega)]
  ·rw[hH1,List.getElem?_append_right (by simp)]
   simp
  ·rw[hH1]
   exact KeptC.app (((KeptC.refl n0 p H).set (.inl nf)).set (.inl na) |>.set (.inr rfl))
 have lnd:=af TMatch.cells c.Matches
 obtain⟨PA,hPA⟩:∃r,r=ac TClaim.cells c.Claims:=⟨_,rfl⟩
 obtain⟨PB,hPB⟩:∃r,r=ac TIncome.cells c.Incomes:=⟨_,rfl⟩
 obtain⟨PF,hPF⟩:∃r,r=cW c.Loose:=⟨_,rfl⟩
 obtain⟨PD,hPD⟩:∃r,r=ac TMatch.cells c.Matches:=⟨_,rfl⟩
 obtain⟨nA,hnA⟩:∃r,r=c.Claims.length:=⟨_,rfl⟩
 obtain⟨nB,hnB⟩:∃r,r=c.Incomes.length:=⟨_,rfl⟩
 obtain⟨nF,hnF⟩:∃r,r=c.Loose.length:=⟨_,rfl⟩
 obtain⟨nD,hnD⟩:∃r,r=c.Matches.length:=⟨_,rfl⟩
 rw[←hPA]at ha ra lna fin
 rw[←hPB]at hb rb lnb fin
 rw[←hPF]at hf rf lnf fin
 rw[←hPD]at hd lnd fin
 rw[←hnA]at ho lna ltk fin
 rw[←hnB]at ho lnb ltj fin
 rw[←hnF]at ho lnf lti fin
 rw[←hnD]at lnd hn fin
 refine al Tryz.func136 rfl (by simp[Tryz.f136]) (by kernel_rfl) (ex) ?_
 intro E hP hr hs hN
 have am:x6 [iv lo,iv x.Open]=some (iv n):=by simp[x6,fd,hnd]
 have dn:¬n=0:=by omega
 have w1:=ah (lo-n) (by omega)
 have w2:=ah (x.Open-n) (by omega)
 simp -dsimp -implicitDefEqProofs [-getElem?_pos,go_sem,hP]
 refine au (fun _=>true) [] hP (by kernel_rfl) (by kernel_rfl) ?_
 simp -dsimp -implicitDefEqProofs [-getElem?_pos,go_sem,hP,ho,lto,ha,lta,hb,ltb,hf,ltf,ra,rb,rf,lna,lnb,lnf,lti,ltk,ltj,am,dn,w1,w2,n1,n2,n3,n4,n5,n6,n1',n2',n3',n4',n5',n6']
 rcases hd with⟨rfl,e0⟩|⟨id,nd,rfl,hd⟩
 ·refine au (fun i=>decide (i<H.length)) [24,27] hP (by kernel_rfl) (by kernel_rfl) ?_
  simp -dsimp -implicitDefEqProofs [-getElem?_pos,go_sem,hP,ao,ho,lto,ha,lta,hb,ltb,hf,ltf,ra,rb,rf,lna,lnb,lnf,lti,ltk,ltj,am,dn,w1,w2,n1,n2,n3,n4,n5,n6,n1',n2',n3',n4',n5',n6']
  have e1:nD=0:=by rw[←lnd,e0];rfl
  refine fin _ H.length (by omega) (by simp;omega) ?_ ?_ ?_ ?_ ?_ ?_ _
  ·simp -dsimp -implicitDefEqProofs [-getElem?_pos,go_sem,lto,e1]
  ·simp -dsimp -implicitDefEqProofs [-getElem?_pos,go_sem,lta,n1,n1']
  ·simp -dsimp -implicitDefEqProofs [-getElem?_pos,go_sem,ltb,n2,n4,n6',hb]
  ·simp -dsimp -implicitDefEqProofs [-getElem?_pos,go_sem,ltf,n3,n5]
  ·simp -dsimp -implicitDefEqProofs [-getElem?_pos,go_sem,e0]
  ·exact KeptC.app (((KeptC.refl n0 p H).set (.inl nf)).set (.inl na) |>.set (.inr rfl))
 ·have n7:=cU ho hd (by simp)
  have n8:=cU ha hd (by simp)
  have n9:=cU hb hd (by simp)
  have n10:=cU hf hd (by simp)
  have n7':¬id=p:=fun e=>n7 e.symm
  have n8':¬id=a:=fun e=>n8 e.symm
  have n9':¬id=b:=fun e=>n9 e.symm
  have n10':¬id=f:=fun e=>n10 e.symm
  have ltd:=(gsI hd)
  have wn:=ah ((nD:Int)+1) (by omega)
  refine au (fun i=>decide (i<H.length)) [24,27] hP (by kernel_rfl) (by kernel_rfl) ?_
  simp -dsimp -implicitDefEqProofs [-getElem?_pos,go_sem,hP,ao,ho,lto,ha,lta,hb,ltb,hf,ltf,hd,ltd,lnd,ra,rb,rf,lna,lnb,lnf,lti,ltk,ltj,am,dn,w1,w2,n1,n2,n3,n4,n5,n6,n1',n2',n3',n4',n5',n6',n7,n8,n9,n10,n7',n8',n9',n10']
  refine⟨by omega,by omega,fin _ H.length (by omega) (by simp;omega) ?_ ?_ ?_ ?_ ?_ ?_ _⟩
  ·simp -dsimp -implicitDefEqProofs [-getElem?_pos,go_sem,lto]
  ·simp -dsimp -implicitDefEqProofs [-getElem?_pos,go_sem,lta,n1,n1',n8']
  ·simp -dsimp -implicitDefEqProofs [-getElem?_pos,go_sem,ltb,n2,n4,n6',n9',hb]
  ·simp -dsimp -implicitDefEqProofs [-getElem?_pos,go_sem,ltf,n3,n5,n10']
  ·simp -dsimp -implicitDefEqProofs [-getElem?_pos,go_sem]
  ·exact KeptC.app (((((KeptC.refl n0 p H).set (.inl nf)).set (.inl na)).set (.inl nd)).set (.inr rfl))
open Go.PA
open Go.RowKit
def isS (x:AV) (j:Nat):Prop:=∃n,x= .sref j 0 n
def KeptS (p:Nat) (A D F:AV) (H H':ab):Prop:=∀j o,¬j=p→¬isS A j→¬isS D j→¬isS F j→H[j]?=some (some o)→H'[j]?=some (some o)
theorem KeptS.refl (p:Nat) (A D F:AV) (H:ab):KeptS p A D F H H:=fun _ _ _ _ _ _ h=>h
theorem KeptS.app {p:Nat} {A D F:AV} {H H' l:ab} (h:KeptS p A D F H H'):KeptS p A D F H (H'++l):=fun j o h1 h2 h3 h4 ho=>by
 have:=h j o h1 h2 h3 h4 ho
 rw[List.getElem?_append_left (gsI this)]
 exact this
theorem KeptS.set {p:Nat} {A D F:AV} {H H':ab} {i:Nat} {x:Option AObj} (h:KeptS p A D F H H') (hi:i=p∨isS A i∨isS D i∨isS F i):KeptS p A D F H (H'.set i x):=fun j o h1 h2 h3 h4 ho=>by
 have e:¬i=j:=fun e=>by
  subst e
  rcases hi with hi|hi|hi|hi
  ·exact h1 hi
  ·exact h2 hi
  ·exact h3 hi
  ·exact h4 hi
 rw[List.getElem?_set_ne e]
 exact h j o h1 h2 h3 h4 ho
open Go.PA
open Go.RowKit
section
variable {α:Type} (val:α→Int) (lt:α→α→Bool) (g:FuncId) (cap:AV)
def eB (a:α):List AV:=[iv (val a)]
def KC (row src:Option Nat) (H:ab) (id:Nat):Prop:=aa Tryz.prog g=true∧∀a b,∀o,MFun Tryz.prog row src g [iv (val a),iv (val b),cap] (H.set id o) (fun r H''=>(∃i:Int,r=iv i∧decide (i<0)=lt a b)∧H''=H.set id o)
set_option maxRecDepth 4000 in
theorem B9 {row src:Option Nat} {H:ab} {id:Nat} (hc:KC val lt g cap row src H id) (pre l post:List α) (a b n:Nat) (ha:a=pre.length) (hb:b=pre.length+l.length) (hn:n=pre.length+l.length+post.length) (hb9:n≤1000000000)
  (hH:H[id]?=some (some ⟨3,1,ac (eB val) (pre++l++post)⟩)):
  MFun Tryz.prog row src 241 [.sref id 0 n,iv a,iv b,.fn g [cap]] H (fun _ H'=>H'=H.set id (some ⟨3,1,ac (eB val) (pre++mq lt l++post)⟩)):=by
 obtain⟨hen,hcmp⟩:=hc
 have hk:∀a:α,(eB val a).length=1:=fun _=>rfl
 have hhd:∀a:α,(eB val a).head?=some (iv (val a)):=fun _=>rfl
 have hcv:∀a:α,eB val a=[iv (val a)]:=fun _=>rfl
 have him:∀(a:α) (c:AV),c∈eB val a→Imm c∧c.cellish=true:=fun a c h=>by
  simp only[eB,List.mem_singleton]at h
  subst h
  exact⟨.sc,rfl⟩
 refine al Tryz.func241 rfl (by simp[Tryz.f241]) (by kernel_rfl) ⟨.tup [],_,rfl⟩ ?_
 intro E hP hr hs hN
 have w1:=ah ((a:Int)+1) (by omega)
 have hlt:id<H.length:=(gsI hH)
 have hself:H.set id (some ⟨3,1,ac (eB val) (pre++l++post)⟩)=H:=by
  apply List.ext_getElem?
  intro j
  rw[List.getElem?_set]
  split
  ·rename_i h;subst h;rw[hH]
  ·rfl
 simp[go_sem,hP,w1]
 obtain⟨I,hI⟩:∃I:Nat→St→Prop,I=fun m s=>∃i:Nat,a+1≤i∧(i≤b∨l=[]∧i=a+1)∧m=b-i∧s.t 0= .sref id 0 n∧s.t 1=iv a∧s.t 2=iv b∧s.t 3= .fn g [cap]∧s.t 8=iv i∧
  s.H=H.set id (some ⟨3,1,ac (eB val) (pre++((kR lt (l.take (i-a))).reverse++l.drop (i-a))++post)⟩):=⟨_,rfl⟩
 refine aF I (b-(a+1)) (by rw[hN];rfl) ?_ ?_
 ·rw[hI]
  refine⟨a+1,by omega,?_,rfl,?_⟩
  ·cases l with
   |nil=>exact .inr ⟨rfl,rfl⟩
   |cons x l=>exact .inl (by simp at hb;omega)
  ·refine⟨by simp[go_sem],by simp[go_sem],by simp[go_sem],by simp[go_sem],by simp[go_sem],?_⟩
   have e:(kR lt (l.take 1)).reverse++l.drop 1=l:=by
    cases l with
    |nil=>rfl
    |cons x l=>simp[kR,o0]
   rw[show a+1-a=1 from by omega,e]
   exact hself.symm
 intro m s hs'
 rw[hI]at hs'
 obtain⟨i,h1,h2,hm,t0,t1,t2,t3,t8,sH⟩:=hs'
 simp[go_sem,hP,t8,t2]
 refine aH (fun h=>?_) (fun h=>?_)
 ·have hib:i<b:=by simpa using h
  have hil:i-a<l.length:=by omega
  simp[go_sem,hP,t8,t2]
  obtain⟨x,hx⟩:∃x,x=l[i-a]:=⟨_,rfl⟩
  obtain⟨P,hPd⟩:∃P,P=kR lt (l.take (i-a)):=⟨_,rfl⟩
  obtain⟨R,hR⟩:∃R,R=l.drop (i-a+1):=⟨_,rfl⟩
  have hPl:P.length=i-a:=by rw[hPd,yk];simp;omega
  have hRl:R.length+(i-a)+1=l.length:=by rw[hR];simp;omega
  have w9:=ah ((i:Int)+1) (by omega)
  obtain⟨J,hJ⟩:∃J:Nat→St→Prop,J=fun m s=>∃(A B:List α),m=A.length∧A.length+B.length=i-a∧o0 lt x P=B.reverse++o0 lt x A.reverse∧s.t 0= .sref id 0 n∧s.t 1=iv a∧s.t 2=iv b∧s.t 3= .fn g [cap]∧s.t 8=iv i∧s.t 9=iv (a+A.length:Nat)∧
   s.H=H.set id (some ⟨3,1,ac (eB val) (pre++(A++x::B++R)++post)⟩):=⟨_,rfl⟩
  refine aF J (i-a) (by rw[hN];rfl) ?_ ?_
  ·rw[hJ]
   refine⟨P.reverse,[],by simp[hPl],by simp[hPl],by simp,by simp[go_sem,t0],by simp[go_sem,t1],by simp[go_sem,t2],by simp[go_sem,t3],by simp[go_sem,t8],?_,?_⟩
   ·simp[go_sem,hPl];omega
   simp only[sH,←hPd]
   rw[List.drop_eq_getElem_cons hil,←hx,←hR]
   simp
  intro m s hs'
  rw[hJ]at hs'
  obtain⟨A,B,hm',hAB,hins,t0,t1,t2,t3,t8,t9,sH⟩:=hs'
  simp[go_sem,hP]
  refine au (fun _=>true) [] hP (by kernel_rfl) (by kernel_rfl) ?_
  have stop:o0 lt x P=B.reverse++x::A.reverse→s.H=H.set id (some ⟨3,1,ac (eB val) (pre++((kR lt (l.take (i+1-a))).reverse++l.drop (i+1-a))++post)⟩):=fun h=>by
   have e1:l.take (i+1-a)=l.take (i-a)++[x]:=by rw[show i+1-a=i-a+1 from by omega,List.take_succ_eq_append_getElem hil,←hx]
   have e2:l.drop (i+1-a)=R:=by rw[hR];congr 1;omega
   rw[e1,e2,wG,←hPd,h,sH]
   simp
  rcases List.eq_nil_or_concat A with rfl|⟨A',y,rfl⟩
  ·have st:=stop (by simpa[o0]using hins)
   simp only[List.length_nil,Nat.add_zero]at t9
   simp[go_sem,hP,t9,t1,t8,w9]
   rw[hI]
   exact⟨b-(i+1),by omega,i+1,by omega,.inl (by omega),rfl,by simp[go_sem,t0],by simp[go_sem,t1],by simp[go_sem,t2],by simp[go_sem,t3],by simp[go_sem],st⟩
  ·rw[List.concat_eq_append]at*
   obtain⟨M,hM⟩:∃M,M=ac (eB val) (B++R++post):=⟨_,rfl⟩
   obtain⟨L,hL⟩:∃L,L=ac (eB val) (pre++A'):=⟨_,rfl⟩
   have ecs:ac (eB val) (pre++((A'++[y])++x::B++R)++post)=L++eB val y::eB val x::M:=by rw[hM,hL];simp[ac]
   have ecs2:ac (eB val) (pre++(A'++x::y::B++R)++post)=L++eB val x::eB val y::M:=by rw[hM,hL];simp[ac]
   rw[ecs]at sH
   obtain⟨j,hj⟩:∃j,j=L.length:=⟨_,rfl⟩
   have hj2:j=pre.length+A'.length:=by rw[hj,hL];simp[ac]
   have t9:s.t 9=iv ((j:Int)+1):=by rw[t9,hj2,ha];simp;omega
   simp at hAB
   have hjN:j+1<n:=by omega
   obtain⟨cs,hcs⟩:∃cs,cs=L++eB val y::eB val x::M:=⟨_,rfl⟩
   have hcl:cs.length=n:=by rw[hcs,←ecs];simp[ac];omega
   have hcy:∀h:j<cs.length,cs[j]'h=eB val y:=fun h=>by subst hcs;subst hj;simp
   have hcx:∀h:j+1<cs.length,cs[j+1]'h=eB val x:=fun h=>by subst hcs;subst hj;simp
   have hk1:∀z,(eB val z).take 1=eB val z:=fun z=>List.take_of_length_le (by rw[hk];omega)
   have ht:((j:Int)+1).toNat=j+1:=by omega
   have hd:decide ((a:Int)<(j:Int)+1)=true:=by simp;omega
   have hjN':(j:Int)+1<n:=by omega
   have hj0:(0:Int)≤(j:Int)+1:=by omega
   have hjn:j<n:=by omega
   have w2:=ah ((j:Int)+1-1) (by omega)
   rw[Int.add_sub_cancel]at w2
   rw[←hcs]at sH
   have hHid:s.H[id]?=some (some ⟨3,1,cs⟩):=by rw[sH];simp[hlt]
   simp[go_sem,hP,t9,t1,t0,t3,hd,hHid,hcy,hcx,ht,w2,hk,hk1,hhd,hjN',hj0,hcl,hjn,hjN,Int.add_sub_cancel]
   have hcm:MFun Tryz.prog E.row E.src g [iv (val x),iv (val y),cap] s.H (fun r H''=>(∃i:Int,r=iv i∧decide (i<0)=lt x y)∧H''=s.H):=by
    rw[hr,hs,sH]
    exact hcmp x y _
   refine ar hcm hP hen ?_
   rintro r H'' ⟨⟨c,rfl,hlt⟩,rfl⟩
   simp[go_sem,hP,hlt]
   refine aH (fun h=>?_) (fun h=>?_)
   ·refine au (fun _=>true) [15,17] hP (by kernel_rfl) (by kernel_rfl) ?_
    have hcel:∀z c,c∈eB val z→c.cellish=true:=fun z c h=>(him z c h).2
    have hltS:id<s.H.length:=(gsI hHid)
    have hset:∀o:Option AObj,(s.H.set id o)[id]?=some o:=fun o=>by simp[hltS]
    have hd4:∀z,(eB val z).drop 1=[]:=fun z=>List.drop_eq_nil_of_le (by rw[hk];omega)
    have hcely:(eB val y).all AV.cellish=true:=List.all_eq_true.2 (hcel y)
    have hcelx:(eB val x).all AV.cellish=true:=List.all_eq_true.2 (hcel x)
    simp[go_sem,hP,t9,t1,t0,t3,hd,hHid,hcy,hcx,ht,w2,hk,hk1,hhd,hjN',hj0,hcl,hjn,hjN,Int.add_sub_cancel,hcelx,hcely,hset,hd4]
    have w3:=ah ((j:Int)+1-1) (by omega)
    rw[Int.add_sub_cancel]at w3
    rw[hJ]
    refine⟨A'.length,by simp at hm';omega,A',y::B,rfl,by simp;omega,?_,by simp[go_sem,t0],by simp[go_sem,t1],by simp[go_sem,t2],by simp[go_sem,t3],by simp[go_sem,t8],?_,?_⟩
    ·rw[hins];simp[o0,h]
    ·simp[go_sem];omega
    ·rw[ecs2,sH,List.set_set,hcs]
     have:=Jy L M (eB val x) (eB val y) (j+1) (by omega)
     simp only[Nat.add_sub_cancel,hcv]at this
     simp[hcv,this]
   ·have st:=stop (by rw[hins];simp[o0,h])
    simp[go_sem,hP,t9,t1,t8,w9]
    rw[hI]
    exact⟨b-(i+1),by omega,i+1,by omega,.inl (by omega),rfl,by simp[go_sem,t0],by simp[go_sem,t1],by simp[go_sem,t2],by simp[go_sem,t3],by simp[go_sem],st⟩
 ·have e:mq lt l=(kR lt (l.take (i-a))).reverse++l.drop (i-a):=by
   have hge:l.length≤i-a:=by simp at h;omega
   rw[List.take_of_length_le hge,List.drop_eq_nil_of_le hge]
   simp[mq]
  simp[go_sem,hP]
  rw[sH,e]
  simp
theorem Mk {row src:Option Nat} {H:ab} {id:Nat} (hc:KC val lt g cap row src H id) (l:List α) (n:Nat) (hn:n=l.length) (hb9:n<20)
  (hH:H[id]?=some (some ⟨3,1,ac (eB val) l⟩)):
  MFun Tryz.prog row src 220 [.sref id 0 n,iv n,.fn g [cap]] H (fun _ H'=>H'=H.set id (some ⟨3,1,ac (eB val) (mq lt l)⟩)):=by
 refine al Tryz.func220 rfl (by simp[Tryz.f220]) (by kernel_rfl) ⟨.tup [],_,rfl⟩ ?_
 intro E hP hr hs hN
 have hd:decide (20≤(n:Int))=false:=by simp;omega
 have hd2:decide (20<(n:Int))=false:=by simp;omega
 simp[go_sem,hP]
 refine aF (fun m s=>s.t 0= .sref id 0 n∧s.t 1=iv n∧s.t 2= .fn g [cap]∧s.t 6=iv 20∧s.t 7=iv 0∧s.t 8=iv 20∧s.H=H) 0 (by rw[hN];rfl) ?_ ?_
 ·simp[go_sem]
 rintro m s ⟨t0,t1,t2,t6,t7,t8,sH⟩
 simp[go_sem,hP,t8,t1,hd,t7,t0,t2]
 have hcS:KC val lt g cap E.row E.src s.H id:=by rw[hr,hs,sH];exact hc
 have hm:=B9 val lt g cap hcS [] l [] 0 n n rfl (by simp[hn]) (by simp[hn]) (by omega) (by rw[sH];simpa using hH)
 simp only[List.nil_append,List.append_nil]at hm
 refine ar hm hP (by kernel_rfl) ?_
 rintro r H' rfl
 refine aF (fun m s'=>s'.t 1=iv n∧s'.t 6=iv 20∧s'.H=H.set id (some ⟨3,1,ac (eB val) (mq lt l)⟩)) 0 (by rw[hN];rfl) ?_ ?_
 ·simp[go_sem,t1,t6,sH]
 rintro m s' ⟨t1,t6,sH⟩
 simp[go_sem,hP,t6,t1,hd2,sH]
theorem zY {row src:Option Nat} {H:ab} {id:Nat} (hc:KC val lt g cap row src H id) (l:List α) (n:Nat) (hn:n=l.length) (hb9:n<20)
  (hH:H[id]?=some (some ⟨3,1,ac (eB val) l⟩)):
  MFun Tryz.prog row src 185 [.sref id 0 n,.fn g [cap]] H (fun _ H'=>H'=H.set id (some ⟨3,1,ac (eB val) (mq lt l)⟩)):=by
 refine al Tryz.func185 rfl (by simp[Tryz.f185]) (by kernel_rfl) ⟨.tup [],_,rfl⟩ ?_
 intro E hP hr hs hN
 simp[go_sem,hP,hH]
 refine ar (Mk val lt g cap (by rw[hr,hs];exact hc) l n hn hb9 hH) hP (by kernel_rfl) ?_
 rintro r H' rfl
 simp[go_sem,hP]
end
open Go.PA
open Go.RowKit
def gq (k:Nat):List AV:=[iv k]
theorem vL {H:ab} {id:Nat} {o:Option AObj} (h:H[id]?=some o):H.set id o=H:=by
 apply List.ext_getElem?
 intro j
 rw[List.getElem?_set]
 split
 ·rename_i e
  subst e
  rw[h,if_pos (gsI h)]
 ·rfl
theorem Nl {row src:Option Nat} (l:List Nat) (id:Nat) (H:ab) (g:FuncId) (caps:List AV) (p:Nat→Bool) (hl:l.length≤100000) (ho:H[id]?=some (some ⟨3,1,ac gq l⟩)) (hen:aa Tryz.prog g=true)
  (hg:∀a,a∈l→MFun Tryz.prog row src g (iv a::caps) H (fun r H''=>r=bv (p a)∧H''=H)):
  MFun Tryz.prog row src 219 [.sref id 0 l.length,.fn g caps] H (fun r H'=>r=iv (dC p l)∧H'=H):=by
 refine al Tryz.func219 rfl (by simp[Tryz.f219]) (by kernel_rfl) ⟨_,H,rfl,rfl⟩ ?_
 intro E hP hr hs hN
 have lt0:=(gsI ho)
 simp -dsimp -implicitDefEqProofs [-getElem?_pos,go_sem,hP,ho]
 obtain⟨I,hI⟩:∃I:Nat→St→Prop,I=fun m s=>∃k:Nat,k≤l.length∧m=l.length-k∧dC p l=br p k (l.drop k)∧s.t 0= .sref id 0 l.length∧s.t 1= .fn g caps∧s.t 7=iv l.length∧s.t 8=iv k∧s.H=H:=⟨_,rfl⟩
 refine aF I l.length (by rw[hN];rfl) ?_ ?_
 ·rw[hI]
  exact⟨0,by omega,by omega,by simp[dC],by simp -dsimp[-getElem?_pos,go_sem],by simp -dsimp[-getElem?_pos,go_sem],by simp -dsimp[-getElem?_pos,go_sem],by simp -dsimp[-getElem?_pos,go_sem],by simp -dsimp[-getElem?_pos,go_sem]⟩
 intro m s hs'
 rw[hI]at hs'
 obtain⟨k,hk,hm,hi,t0,t1,t7,t8,sH⟩:=hs'
 obtain⟨t,HH⟩:=s
 simp only at t0 t1 t7 t8 sH
 subst sH
 simp -dsimp -implicitDefEqProofs [-getElem?_pos,go_sem,hP,t7,t8]
 refine aH (fun h=>?_) (fun h=>?_)
 ·have hk:k<l.length:=by simpa using h
  obtain⟨a,ha⟩:∃a,l[k]?=some a:=⟨_,List.getElem?_eq_getElem hk⟩
  have wk:=ah ((k:Int)+1) (by omega)
  rw[ww ha]at hi
  simp only[br]at hi
  simp -dsimp -implicitDefEqProofs [-getElem?_pos,go_sem,hP,t8,t1,t0,ho,ha,gq,hk]
  refine ar (by rw[hr,hs];exact hg a (List.mem_of_getElem? ha)) hP hen ?_
  rintro r H' ⟨rfl,rfl⟩
  simp -dsimp -implicitDefEqProofs [-getElem?_pos,go_sem,hP]
  refine aH (fun hp=>?_) (fun hp=>?_)
  ·rw[if_pos hp]at hi
   simp -dsimp -implicitDefEqProofs [-getElem?_pos,go_sem,hP]
   exact hi.symm
  ·rw[hp,if_neg (by simp)]at hi
   simp -dsimp -implicitDefEqProofs [-getElem?_pos,go_sem,hP,t8,wk]
   refine⟨l.length-(k+1),by omega,?_⟩
   rw[hI]
   exact⟨k+1,by omega,rfl,hi,by simp -dsimp[-getElem?_pos,go_sem,t0],by simp -dsimp[-getElem?_pos,go_sem,t1],by simp -dsimp[-getElem?_pos,go_sem,t7],by simp -dsimp[-getElem?_pos,go_sem],by simp -dsimp[-getElem?_pos,go_sem]⟩
 ·have hk:k=l.length:=by simp at h;omega
  subst hk
  rw[List.drop_length]at hi
  simp -dsimp -implicitDefEqProofs [-getElem?_pos,go_sem,hP]
  exact hi.symm
set_option maxHeartbeats 4000000 in
theorem z8 {row src:Option Nat} (l:List Nat) (id:Nat) (H:ab) (g:FuncId) (caps:List AV) (p:Nat→Bool) (hl:l.length≤100000) (ho:H[id]?=some (some ⟨3,1,ac gq l⟩)) (hen:aa Tryz.prog g=true)
  (hg:∀a,a∈l→∀o,MFun Tryz.prog row src g (iv a::caps) (H.set id o) (fun r H''=>r=bv (p a)∧H''=H.set id o)):
  MFun Tryz.prog row src 183 [.sref id 0 l.length,.fn g caps] H (fun r H'=>∃tl,r= .sref id 0 (l.filter fun a=>!p a).length∧H'=H.set id (some ⟨3,1,ac gq (l.filter fun a=>!p a)++tl⟩)):=by
 obtain⟨C,hC⟩:∃C:AV→ab→Prop,C=fun r H'=>∃tl,r= .sref id 0 (l.filter fun a=>!p a).length∧H'=H.set id (some ⟨3,1,ac gq (l.filter fun a=>!p a)++tl⟩):=⟨_,rfl⟩
 rw[←hC]
 have lid:=(gsI ho)
 have ex:∃r H',C r H':=by
  rw[hC]
  exact⟨_,_,[],rfl,rfl⟩
 obtain⟨zs,hz⟩:=Option.isSome_iff_exists.1 (show (bg Tryz.prog 3).isSome=true by kernel_rfl)
 obtain⟨n,hn⟩:∃n,n=l.length:=⟨_,rfl⟩
 have hg0:∀a,a∈l→MFun Tryz.prog row src g (iv a::caps) H (fun r H''=>r=bv (p a)∧H''=H):=fun a ha=>by
  have:=hg a ha (some ⟨3,1,ac gq l⟩)
  rwa[vL ho]at this
 refine al Tryz.func183 rfl (by simp[Tryz.f183]) (by kernel_rfl) (ex) ?_
 intro E hP hr hs hN
 simp -dsimp -implicitDefEqProofs [-getElem?_pos,go_sem,hP]
 refine ar (by rw[hr,hs];exact Nl l id H g caps p (by omega) ho hen hg0) hP Pq ?_
 rintro r H1 ⟨rfl,rfl⟩
 rcases cN p l with⟨h1,h2⟩|⟨i,a,ha,hpa,h3,h4⟩
 ·have hf:(l.filter fun a=>!p a)=l:=List.filter_eq_self.2 fun a ha=>by simp[h2 a ha]
  simp -dsimp -implicitDefEqProofs [-getElem?_pos,go_sem,hP,h1]
  rw[hC,hf]
  refine⟨[],rfl,?_⟩
  rw[List.append_nil,vL ho]
 have hi1:¬((i:Int)= -1):=by omega
 have hil:=(gsI ha)
 have w1:=ah ((i:Int)+1) (by omega)
 have kept0:(l.take (i+1)).filter (fun a=>!p a)=l.take i:=by
  rw[List.take_add_one,ha,List.filter_append,Option.toList_some,List.filter_cons_of_neg (by simp[hpa]),List.filter_nil,List.append_nil]
  refine List.filter_eq_self.2 fun x hx=>?_
  obtain⟨j,hj⟩:=List.getElem?_of_mem hx
  rw[List.getElem?_take]at hj
  split at hj
  ·simp[h4 j x (by assumption) hj]
  ·cases hj
 simp -dsimp -implicitDefEqProofs [-getElem?_pos,go_sem,hP,h3,hi1,w1]
 obtain⟨I,hI⟩:∃I:Nat→St→Prop,I=fun m s=>∃(j q:Nat) (ks:List Nat) (rows:List (List AV)),ks=((l.take j).filter fun a=>!p a)∧q=ks.length∧j≤n∧m=n-j∧q<j∧n=rows.length∧(∀i e,i<n→rows[i]?=some e→e.length=1)∧rows.take q=ac gq ks∧rows.drop j=ac gq (l.drop j)∧s.t 0= .sref id 0 n∧s.t 1= .fn g caps∧s.t 5=iv q∧s.t 6=iv j∧s.H=H1.set id (some ⟨3,1,rows⟩):=⟨_,rfl⟩
 refine aF I (n-(i+1)) (by rw[hN];rfl) ?_ ?_
 ·rw[hI]
  refine⟨i+1,i,l.take i,ac gq l,kept0.symm,by simp;omega,by omega,by omega,by omega,by rw[af];omega,fun i' e hi' he=>?_,?_,?_,by simp -dsimp[-getElem?_pos,go_sem,hn],by simp -dsimp[-getElem?_pos,go_sem],by simp -dsimp[-getElem?_pos,go_sem],by simp -dsimp[-getElem?_pos,go_sem],by simp -dsimp[-getElem?_pos,go_sem,vL ho]⟩
  ·obtain⟨x,_,rfl⟩:=List.mem_map.1 (List.mem_of_getElem? he)
   rfl
  ·rw[dw]
  ·rw[bV]
 intro m s hs'
 rw[hI]at hs'
 obtain⟨j,q,ks,rows,hks,hq,hjn,hm,hqj,hrl,hre,hrt,hrd,t0,t1,t5,t6,sH⟩:=hs'
 obtain⟨t,HH⟩:=s
 simp only at t0 t1 t5 t6 sH
 have h0:HH[id]?=some (some ⟨3,1,rows⟩):=by rw[sH];simp[lid]
 have lt0:=(gsI h0)
 simp -dsimp -implicitDefEqProofs [-getElem?_pos,go_sem,hP,t0,t6,h0]
 refine aH (fun hh=>?_) (fun hh=>?_)
 ·have hj:j<n:=by simpa using hh
  obtain⟨x,hx⟩:∃x,l[j]?=some x:=⟨_,List.getElem?_eq_getElem (by omega)⟩
  have wj:=ah ((j:Int)+1) (by omega)
  have wq:=ah ((q:Int)+1) (by omega)
  have hjr:j<rows.length:=by omega
  have hrow:rows[j]?=some [iv x]:=by
   have:=congrArg (·[0]?) hrd
   simp only[List.getElem?_drop,Nat.add_zero]at this
   rw[sv,List.getElem?_drop,Nat.add_zero,hx]at this
   simpa[gq]using this
  have htk:(l.take (j+1)).filter (fun a=>!p a)=if p x=true then ks else ks++[x]:=by
   rw[List.take_add_one,hx,List.filter_append,Option.toList_some,←hks]
   by_cases hpx:p x=true<;>simp[hpx,List.filter_cons]
  have hgx:MFun Tryz.prog E.row E.src g (iv x::caps) HH (fun r H''=>r=bv (p x)∧H''=HH):=by
   rw[hr,hs,sH]
   exact hg x (List.mem_of_getElem? hx) _
  have hd1:rows.drop (j+1)=ac gq (l.drop (j+1)):=by
   have:=congrArg (List.drop 1) hrd
   rw[List.drop_drop,bV,List.drop_drop]at this
   exact this
  simp -dsimp -implicitDefEqProofs [-getElem?_pos,go_sem,hP,t0,t6,h0,hrow,hj,hjr,t1]
  refine ar hgx hP hen ?_
  rintro r H2 ⟨rfl,rfl⟩
  simp -dsimp -implicitDefEqProofs [-getElem?_pos,go_sem,hP]
  refine aH (fun hp=>?_) (fun hp=>?_)
  ·rw[if_pos hp]at htk
   simp -dsimp -implicitDefEqProofs [-getElem?_pos,go_sem,hP,t6,wj]
   refine⟨n-(j+1),by omega,?_⟩
   rw[hI]
   exact⟨j+1,q,ks,rows,htk.symm,hq,by omega,rfl,by omega,hrl,hre,hrt,hd1,by simp -dsimp[-getElem?_pos,go_sem,t0],by simp -dsimp[-getElem?_pos,go_sem,t1],by simp -dsimp[-getElem?_pos,go_sem,t5],by simp -dsimp[-getElem?_pos,go_sem],by simp -dsimp[-getElem?_pos,go_sem,sH]⟩
  ·rw[if_neg (by simp[hp])]at htk
   obtain⟨r0,hr0⟩:∃r0,rows[q]?=some r0:=⟨_,List.getElem?_eq_getElem (by omega)⟩
   have hr0l:=hre q r0 (by omega) hr0
   have hr0d:r0.drop 1=[]:=List.drop_of_length_le (by omega)
   have hqn:q<n:=by omega
   have hqr:q<rows.length:=by omega
   simp -dsimp -implicitDefEqProofs [-getElem?_pos,go_sem,hP,t0,t5,t6,h0,lt0,hr0,hr0l,hr0d,hqn,hqr,wj,wq]
   refine⟨n-(j+1),by omega,?_⟩
   rw[hI]
   refine⟨j+1,q+1,ks++[x],rows.set q [iv x],htk.symm,by simp;omega,by omega,rfl,by omega,by simp;omega,fun i' e hi' he=>?_,?_,?_,by simp -dsimp[-getElem?_pos,go_sem,t0],by simp -dsimp[-getElem?_pos,go_sem,t1],by simp -dsimp[-getElem?_pos,go_sem],by simp -dsimp[-getElem?_pos,go_sem],by simp -dsimp[-getElem?_pos,go_sem,sH]⟩
   ·rw[List.getElem?_set]at he
    simp only[hqr,if_true]at he
    split at he
    ·cases he
     rfl
    ·exact hre i' e hi' he
   ·rw[List.take_add_one,List.take_set_of_le (by omega),hrt,List.getElem?_set_self (by omega),←iV]
    rfl
   ·rw[List.drop_set_of_lt (by omega)]
    exact hd1
 ·have hj:j=n:=by simp at hh;omega
  subst hj
  have hkl:ks=l.filter fun a=>!p a:=by rw[hks,hn,List.take_length]
  have hqn:q≤j:=by omega
  have hqn1:¬q=j:=by omega
  have hqn2:¬(q:Int)=j:=by omega
  have sx:∀(id n:Nat),(if q=0 then some (AV.sref id 0 n)else some (AV.sref id q (n-q)))=some (.sref id q (n-q)):=fun id n=>by
   split
   ·rename_i h0;rw[h0,Nat.sub_zero]
   ·rfl
  simp -dsimp -implicitDefEqProofs [-getElem?_pos,go_sem,hP,t0,t5,h0,ax,aS,aL,hqn,hqn1,hqn2,sx]
  refine eP (e:=3) (es':=ac gq ks++List.replicate (j-q) zs) h0 (.inl rfl) (by rw[hP];kernel_rfl) (by rw[hP];kernel_rfl) (by omega) (by rw[hP];exact hz) (by omega) (by omega) ?_ ?_
  ·rw[hrt,List.drop_of_length_le (by omega),List.append_nil]
  simp -dsimp -implicitDefEqProofs [-getElem?_pos,go_sem,hP,t0,t5,lt0,ax,aS,aL,hqn,hqn1,hqn2,sx]
  rw[hC,←hkl]
  exact⟨List.replicate (j-q) zs,by rw[hq],by rw[sH,List.set_set]⟩
open Go.PA
open Go.RowKit
theorem CO {α β:Type} {lt:α→α→Bool} {lt':β→β→Bool} (f:α→β) (h:∀a b,lt a b=lt' (f a) (f b)) (x:α):∀l:List α,(jm lt x l).map f=jm lt' (f x) (l.map f)
 |[]=>rfl
 |y::l=>by
  rw[jm,List.map_cons,jm,h]
  split
  ·rfl
  ·rw[List.map_cons,CO f h x l]
theorem HK {α β:Type} {lt:α→α→Bool} {lt':β→β→Bool} (f:α→β) (h:∀a b,lt a b=lt' (f a) (f b)) (l:List α):(kF lt l).map f=kF lt' (l.map f):=by
 induction l using nO with
 |h0=>rfl
 |h1 l x ih=>rw[gC,CO f h,ih,List.map_append,List.map_cons,List.map_nil,gC]
theorem JB (n:Nat):∀ks:List Nat,(∀k,k∈ks→k<n)→∃fs:List (Fin n),fs.map (·.val)=ks
 |[],_=>⟨[],rfl⟩
 |k::ks,h=>by
  obtain⟨fs,hf⟩:=JB n ks fun j hj=>h j (List.mem_cons_of_mem _ hj)
  exact⟨⟨k,h k (List.mem_cons_self ..)⟩::fs,by rw[List.map_cons,hf]⟩
theorem Dj {n:Nat} (fs:List (Fin n)):ac (eB fun i:Fin n=>((i.val:Nat):Int)) fs=ac gq (fs.map (·.val)):=by
 unfold ac
 rw[List.map_map]
 rfl
theorem KD (a b:Int):decide (iF a b<0)=decide (a<b):=by
 rw[decide_eq_decide]
 simp only[iF]
 repeat' split
 all_goals omega
structure Clm (H:ab) (q p a:Nat) (l:List TClaim):Prop where
 q:H[q]?=some (some ⟨115,1,[[.ref p 0 0]]⟩)
 p:∃B D F,H[p]?=some (some ⟨40,4,[[.sref a 0 l.length,B,D,F]]⟩)
 a:H[a]?=some (some ⟨118,6,ac TClaim.cells l⟩)
theorem Clm.set {H:ab} {q p a:Nat} {l:List TClaim} (h:Clm H q p a l) {id:Nat} {es:List (List AV)} (hid:H[id]?=some (some ⟨3,1,es⟩)) (o:Option AObj):Clm (H.set id o) q p a l:=by
 obtain⟨B,D,F,hp⟩:=h.p
 exact⟨by rw[List.getElem?_set_ne (cU hid h.q (by simp))];exact h.q,⟨B,D,F,by rw[List.getElem?_set_ne (cU hid hp (by simp))];exact hp⟩,by rw[List.getElem?_set_ne (cU hid h.a (by simp))];exact h.a⟩
theorem NS {row src:Option Nat} {H:ab} {q p a:Nat} {l:List TClaim} (hc:Clm H q p a l) (i j:Nat) (hi:i<l.length) (hj:j<l.length):
  MFun Tryz.prog row src 186 [iv i,iv j,.ref q 0 0] H (fun r H''=>(∃x:Int,r=iv x∧decide (x<0)=decide (gV l i<gV l j))∧H''=H):=by
 obtain⟨C,hC⟩:∃C:AV→ab→Prop,C=fun r H''=>(∃x:Int,r=iv x∧decide (x<0)=decide (gV l i<gV l j))∧H''=H:=⟨_,rfl⟩
 rw[←hC]
 have h0:=hc.q
 obtain⟨B,D,F,h1⟩:=hc.p
 have h2:=hc.a
 have lt0:=(gsI h0)
 have lt1:=(gsI h1)
 have lt2:=(gsI h2)
 obtain⟨x,hx⟩:∃x,l[i]?=some x:=⟨_,List.getElem?_eq_getElem hi⟩
 obtain⟨y,hy⟩:∃y,l[j]?=some y:=⟨_,List.getElem?_eq_getElem hj⟩
 have ex:C (iv (iF x.Day y.Day)) H:=by
  rw[hC]
  refine⟨⟨_,rfl,?_⟩,rfl⟩
  rw[KD]
  simp[gV,hx,hy]
 have rx:=kP hx
 have ry:=kP hy
 have ln:=af TClaim.cells l
 obtain⟨P,hPd⟩:∃P,P=ac TClaim.cells l:=⟨_,rfl⟩
 rw[←hPd]at h2 rx ry ln
 obtain⟨n,hn⟩:∃n,n=l.length:=⟨_,rfl⟩
 rw[←hn]at h1 ln hi hj
 refine al Tryz.func186 rfl (by simp[Tryz.f186]) (by kernel_rfl) (⟨_,_,ex⟩) ?_
 intro E hP hr hs hN
 simp -dsimp -implicitDefEqProofs [-getElem?_pos,go_sem,hP]
 refine au (fun _=>true) [] hP (by kernel_rfl) (by kernel_rfl) ?_
 simp -dsimp -implicitDefEqProofs [-getElem?_pos,go_sem,hP,h0,lt0,h1,lt1,h2,lt2,rx,ry,ln,hi,hj]
 refine aj (gB x.Day y.Day) hP yI (an (by simp -dsimp[-getElem?_pos,go_sem])) .sc ?_
 simp -dsimp -implicitDefEqProofs [-getElem?_pos,go_sem,hP]
 exact ex
theorem LI {row src:Option Nat} {H:ab} {q p a z:Nat} {l:List TClaim} (hc:Clm H q p a l) (n:Int) (hz:H[z]?=some (some ⟨3,1,[[iv n]]⟩)) (i:Nat) (hi:i<l.length):
  MFun Tryz.prog row src 184 [iv i,.ref q 0 0,.ref z 0 0] H (fun r H''=>r=bv (!(match l[i]? with|some x=>decide (x.Open=n)|none=>false))∧H''=H):=by
 obtain⟨C,hC⟩:∃C:AV→ab→Prop,C=fun r H''=>r=bv (!(match l[i]? with|some x=>decide (x.Open=n)|none=>false))∧H''=H:=⟨_,rfl⟩
 rw[←hC]
 have h0:=hc.q
 obtain⟨B,D,F,h1⟩:=hc.p
 have h2:=hc.a
 have lt0:=(gsI h0)
 have lt1:=(gsI h1)
 have lt2:=(gsI h2)
 have ltz:=(gsI hz)
 obtain⟨x,hx⟩:∃x,l[i]?=some x:=⟨_,List.getElem?_eq_getElem hi⟩
 have ex:C (bv (!decide (x.Open=n))) H:=by
  rw[hC,hx]
  exact⟨rfl,rfl⟩
 have rx:=kP hx
 have ln:=af TClaim.cells l
 obtain⟨P,hPd⟩:∃P,P=ac TClaim.cells l:=⟨_,rfl⟩
 rw[←hPd]at h2 rx ln
 obtain⟨nl,hn⟩:∃n,n=l.length:=⟨_,rfl⟩
 rw[←hn]at h1 ln hi
 refine al Tryz.func184 rfl (by simp[Tryz.f184]) (by kernel_rfl) (⟨_,_,ex⟩) ?_
 intro E hP hr hs hN
 simp -dsimp -implicitDefEqProofs [-getElem?_pos,go_sem,hP]
 refine au (fun _=>true) [] hP (by kernel_rfl) (by kernel_rfl) ?_
 simp -dsimp -implicitDefEqProofs [-getElem?_pos,go_sem,hP,h0,lt0,h1,lt1,h2,lt2,hz,ltz,rx,ln,hi]
 exact ex
def qo (l:List TClaim) (payer:Int) (k:Nat):Bool:=match l[k]? with|some x=>decide (x.Payer=payer)&&decide (0<x.Open)|none=>false
theorem vq (l:List TClaim) (payer:Int):eO l payer=kF (fun a b=>decide (gV l a<gV l b)) ((List.range l.length).filter (qo l payer)):=rfl
set_option maxHeartbeats 4000000 in
set_option maxRecDepth 8000 in
theorem JD {row src:Option Nat} {H:ab} {p a:Nat} {l:List TClaim} {B D F:AV} (hp:H[p]?=some (some ⟨40,4,[[.sref a 0 l.length,B,D,F]]⟩)) (ha:H[a]?=some (some ⟨118,6,ac TClaim.cells l⟩)) (hl:l.length<20) (payer:Int):
  MFun Tryz.prog row src 138 [.ref p 0 0,iv payer] H (fun r H'=>∃id,r= .sref id 0 (eO l payer).length∧H.length≤id∧H'[id]?=some (some ⟨3,1,ac gq (eO l payer)⟩)∧Kept [] H H'):=by
 obtain⟨C,hC⟩:∃C:AV→ab→Prop,C=fun r H'=>∃id,r= .sref id 0 (eO l payer).length∧H.length≤id∧H'[id]?=some (some ⟨3,1,ac gq (eO l payer)⟩)∧Kept [] H H':=⟨_,rfl⟩
 rw[←hC]
 have ltp:=(gsI hp)
 have lta:=(gsI ha)
 have ex:∃r H',C r H':=⟨.sref H.length 0 (eO l payer).length,H++[some ⟨3,1,ac gq (eO l payer)⟩],by
  rw[hC]
  exact⟨H.length,rfl,Nat.le_refl _,by simp,ap _ _ _⟩⟩
 refine al Tryz.func138 rfl (by simp[Tryz.f138]) (by kernel_rfl) (ex) ?_
 intro E hP hr hs hN
 obtain⟨n,hn⟩:∃n,n=l.length:=⟨_,rfl⟩
 have ln:=af TClaim.cells l
 have rows:∀(k:Nat) x,l[k]?=some x→(ac TClaim.cells l)[k]?=some [iv x.ID,iv x.Payer,iv x.Amount,iv x.Open,iv x.Day,.sc (.string x.Code)]:=fun k x h=>kP h
 obtain⟨P,hPd⟩:∃P,P=ac TClaim.cells l:=⟨_,rfl⟩
 rw[←hPd]at ha ln
 simp only[←hPd]at rows
 rw[←hn]at hp ln hl
 simp -dsimp -implicitDefEqProofs [-getElem?_pos,go_sem,hP,hp,ltp,ha,lta,ln]
 refine jh 5 3 1 (by simp -dsimp[-getElem?_pos,go_sem]) ?_
 obtain⟨I,hI⟩:∃I:Nat→St→Prop,I=fun m s=>∃(k id:Nat) (out:List Nat),k≤n∧m=n-k∧out=(List.range k).filter (qo l payer)∧H.length<id∧s.t 1=iv payer∧s.t 2= .ref H.length 0 0∧s.t 5= .sref id 0 out.length∧s.t 11= .sref a 0 n∧s.t 12=iv n∧s.t 13=iv k∧s.H[H.length]?=some (some ⟨115,1,[[.ref p 0 0]]⟩)∧s.H[id]?=some (some ⟨3,1,ac gq out⟩)∧Kept [] H s.H:=⟨_,rfl⟩
 refine aF I (n) (by rw[hN];rfl) ?_ ?_
 ·rw[hI]
  exact⟨0,H.length+1,[],by omega,by omega,rfl,by omega,by simp -dsimp[-getElem?_pos,go_sem],by simp -dsimp[-getElem?_pos,go_sem],by simp -dsimp[-getElem?_pos,go_sem],by simp -dsimp[-getElem?_pos,go_sem],by simp -dsimp[-getElem?_pos,go_sem],by simp -dsimp[-getElem?_pos,go_sem],by simp -dsimp[-getElem?_pos,go_sem],by simp -dsimp[-getElem?_pos,go_sem,ac],by simp -dsimp[-getElem?_pos,go_sem];exact ap _ _ _⟩
 intro m s hs'
 rw[hI]at hs'
 obtain⟨k,id,out,hk,hm,hout,hid,t1,t2,t5,t11,t12,t13,hq,ho,hK⟩:=hs'
 have ltq:=(gsI hq)
 have lto:=(gsI ho)
 have ha':=hK _ _ (by simp) ha
 have hp':=hK _ _ (by simp) hp
 have lta':=(List.getElem?_eq_some_iff.1 ha').1
 have ltp':=(List.getElem?_eq_some_iff.1 hp').1
 simp -dsimp -implicitDefEqProofs [-getElem?_pos,go_sem,hP,t12,t13]
 refine aH (fun h=>?_) (fun h=>?_)
 ·have hk:k<n:=by simpa using h
  obtain⟨x,hx⟩:∃x,l[k]?=some x:=⟨_,List.getElem?_eq_getElem (by omega)⟩
  have rx:=rows k x hx
  have wk:=ah ((k:Int)+1) (by omega)
  have lo:out.length≤k:=by rw[hout];exact Nat.le_trans (List.length_filter_le _ _) (by simp)
  have eo:(List.range (k+1)).filter (qo l payer)=if qo l payer k=true then out++[k]else out:=by
   rw[List.range_succ,List.filter_append,←hout,List.filter_cons,List.filter_nil]
   split<;>simp
  have ob:qo l payer k=(decide (x.Payer=payer)&&decide (0<x.Open)):=by simp[qo,hx]
  have neq:¬id=H.length:=by omega
  have neq':¬H.length=id:=by omega
  by_cases c1:x.Payer=payer
  ·by_cases c2:0<x.Open
   ·have d1:qo l payer k=true:=by rw[ob];simp[c1,c2]
    rw[if_pos d1]at eo
    simp -dsimp -implicitDefEqProofs [-getElem?_pos,go_sem,hP,t1,t5,t11,t13,ha',lta',ln,hk,rx,c1,c2,ho,lto,wk]
    refine⟨by omega,by omega,n-(k+1),by omega,?_⟩
    rw[hI]
    refine⟨k+1,s.H.length+1,out++[k],by omega,rfl,eo.symm,by omega,by simp -dsimp[-getElem?_pos,go_sem,t1,c1],by simp -dsimp[-getElem?_pos,go_sem,t2],by simp -dsimp[-getElem?_pos,go_sem],by simp -dsimp[-getElem?_pos,go_sem,t11],by simp -dsimp[-getElem?_pos,go_sem,t12],by simp -dsimp[-getElem?_pos,go_sem],by simp -dsimp[-getElem?_pos,go_sem,ltq,hq,neq],?_,?_⟩
    ·simp -dsimp -implicitDefEqProofs [-getElem?_pos,go_sem,ac,gq]
    ·simp -dsimp -implicitDefEqProofs [-getElem?_pos,go_sem]
     exact (cG _ (by omega) hK).trans (ap _ _ _)
   ·have d1:qo l payer k=false:=by rw[ob];simp[c2]
    rw[if_neg (by rw[d1];simp)]at eo
    simp -dsimp -implicitDefEqProofs [-getElem?_pos,go_sem,hP,t1,t5,t11,t13,ha',lta',ln,hk,rx,c1,c2,ho,lto,wk]
    refine⟨n-(k+1),by omega,?_⟩
    rw[hI]
    exact⟨k+1,id,out,by omega,rfl,eo.symm,hid,by simp -dsimp[-getElem?_pos,go_sem,t1,c1],by simp -dsimp[-getElem?_pos,go_sem,t2],by simp -dsimp[-getElem?_pos,go_sem,t5],by simp -dsimp[-getElem?_pos,go_sem,t11],by simp -dsimp[-getElem?_pos,go_sem,t12],by simp -dsimp[-getElem?_pos,go_sem],by simp -dsimp[-getElem?_pos,go_sem,ltq,hq],by simp -dsimp[-getElem?_pos,go_sem,lto,ho],by simp -dsimp[-getElem?_pos,go_sem];exact hK.trans (ap _ _ _)⟩
  ·have d1:qo l payer k=false:=by rw[ob];simp[c1]
   rw[if_neg (by rw[d1];simp)]at eo
   simp -dsimp -implicitDefEqProofs [-getElem?_pos,go_sem,hP,t1,t5,t11,t13,ha',lta',ln,hk,rx,c1,ho,lto,wk]
   refine⟨n-(k+1),by omega,?_⟩
   rw[hI]
   exact⟨k+1,id,out,by omega,rfl,eo.symm,hid,by simp -dsimp[-getElem?_pos,go_sem,t1],by simp -dsimp[-getElem?_pos,go_sem,t2],by simp -dsimp[-getElem?_pos,go_sem,t5],by simp -dsimp[-getElem?_pos,go_sem,t11],by simp -dsimp[-getElem?_pos,go_sem,t12],by simp -dsimp[-getElem?_pos,go_sem],by simp -dsimp[-getElem?_pos,go_sem,ltq,hq],by simp -dsimp[-getElem?_pos,go_sem,lto,ho],by simp -dsimp[-getElem?_pos,go_sem];exact hK.trans (ap _ _ _)⟩
 ·have hk:n=k:=by
   have:¬k<n:=by simpa using h
   omega
  subst hk
  have hmem:∀i,i∈out→i<l.length:=fun i hi=>by
   rw[hout]at hi
   have:=List.mem_range.1 (List.mem_filter.1 hi).1
   omega
  obtain⟨fs,hfs⟩:=JB l.length out hmem
  have lo:out.length≤l.length:=by rw[hout,hn];exact Nat.le_trans (List.length_filter_le _ _) (by simp)
  have hc:Clm s.H H.length p a l:=⟨hq,⟨B,D,F,by rw[←hn];exact hp'⟩,by rw[←hPd];exact ha'⟩
  have ho':s.H[id]?=some (some ⟨3,1,ac (eB fun i:Fin l.length=>((i.val:Nat):Int)) fs⟩):=by rw[Dj,hfs];exact ho
  have cm:KC (fun i:Fin l.length=>((i.val:Nat):Int)) (fun i j=>decide (gV l i.val<gV l j.val)) 186 (.ref H.length 0 0) E.row E.src s.H id:=⟨Q2,fun i j o=>NS (hc.set ho o) i.val j.val i.isLt j.isLt⟩
  have lf:out.length=fs.length:=by rw[←hfs,List.length_map]
  have fin:eO l payer=(mq (fun i j:Fin l.length=>decide (gV l i.val<gV l j.val)) fs).map (·.val):=by
   rw[CE ⟨fun a b h=>by simp at h⊢;omega,fun a b c h1 h2=>by simp at h1 h2⊢;omega⟩,HK (lt:=fun i j:Fin l.length=>decide (gV l i.val<gV l j.val)) (lt':=fun a b=>decide (gV l a<gV l b)) (fun i:Fin l.length=>i.val) (fun _ _=>rfl),hfs,hout,vq,hn]
  have lk:(eO l payer).length=out.length:=by rw[fin,List.length_map,HB,lf]
  simp -dsimp -implicitDefEqProofs [-getElem?_pos,go_sem,hP,t5,t2]
  refine ar (zY _ _ _ _ cm fs out.length lf (by omega) ho') hP Q0 ?_
  rintro r H' rfl
  simp -dsimp -implicitDefEqProofs [-getElem?_pos,go_sem,hP,t5]
  rw[hC]
  refine⟨id,by rw[lk],by omega,?_,cG _ (by omega) hK⟩
  rw[List.getElem?_set_self lto,Dj,←fin]
theorem DA {l:List TClaim} {payer:Int} {k:Nat} (h:k∈eO l payer):k<l.length:=by
 obtain⟨x,hx,_⟩:=nX.1 h
 exact (gsI hx)
def wQ (l:List TClaim) (n:Int) (k:Nat):Bool:=match l[k]? with|some x=>decide (x.Open=n)|none=>false
theorem zl (l:List TClaim) (payer n:Int):eZ l payer n=only ((eO l payer).filter (wQ l n)):=rfl
set_option maxHeartbeats 4000000 in
set_option maxRecDepth 8000 in
theorem NC {row src:Option Nat} {H:ab} {p a:Nat} {l:List TClaim} {B D F:AV} (hp:H[p]?=some (some ⟨40,4,[[.sref a 0 l.length,B,D,F]]⟩)) (ha:H[a]?=some (some ⟨118,6,ac TClaim.cells l⟩)) (hl:l.length<20) (payer n:Int):
  MFun Tryz.prog row src 137 [.ref p 0 0,iv payer,iv n] H (fun r H'=>((eZ l payer n=[]∧r= .nil)∨∃k id tl,eZ l payer n=[k]∧r= .sref id 0 1∧H.length≤id∧H'[id]?=some (some ⟨3,1,[iv k]::tl⟩))∧Kept [] H H'):=by
 obtain⟨C,hC⟩:∃C:AV→ab→Prop,C=fun r H'=>((eZ l payer n=[]∧r= .nil)∨∃k id tl,eZ l payer n=[k]∧r= .sref id 0 1∧H.length≤id∧H'[id]?=some (some ⟨3,1,[iv (k:Nat)]::tl⟩))∧Kept [] H H':=⟨_,rfl⟩
 rw[←hC]
 have ltp:=(gsI hp)
 have lta:=(gsI ha)
 have two:eZ l payer n=[]∨∃k,eZ l payer n=[k]:=by
  rw[zl]
  match (eO l payer).filter (wQ l n)with
  |[]=>exact .inl rfl
  |[k]=>exact .inr ⟨k,rfl⟩
  |_::_::_=>exact .inl rfl
 have ex:∃r H',C r H':=by
  rw[hC]
  rcases two with h|⟨k,h⟩
  ·exact⟨.nil,H,.inl ⟨h,rfl⟩,ai _ _⟩
  ·exact⟨_,H++[some ⟨3,1,[[iv (k:Nat)]]⟩],.inr ⟨k,H.length,[],h,rfl,Nat.le_refl _,by simp⟩,ap _ _ _⟩
 refine al Tryz.func137 rfl (by simp[Tryz.f137]) (by kernel_rfl) (ex) ?_
 intro E hP hr hs hN
 simp -dsimp -implicitDefEqProofs [-getElem?_pos,go_sem,hP,hp,ltp]
 obtain⟨H1,hH1⟩:∃H1:ab,H1=H++[some ⟨115,1,[[.ref p 0 0]]⟩,some ⟨3,1,[[iv n]]⟩]:=⟨_,rfl⟩
 have l1:H1.length=H.length+2:=by rw[hH1];simp
 have k1:Kept [] H H1:=by rw[hH1];exact ap _ _ _
 have hq:H1[H.length]?=some (some ⟨115,1,[[.ref p 0 0]]⟩):=by rw[hH1];simp
 have hz:H1[H.length+1]?=some (some ⟨3,1,[[iv n]]⟩):=by rw[hH1,List.getElem?_append_right (by omega)];simp
 simp only[←hH1]
 refine ar (by rw[hr,hs];exact JD (k1 _ _ (by simp) hp) (k1 _ _ (by simp) ha) hl payer) hP Ld ?_
 rintro r H2 ⟨id,rfl,hid,ho,hk⟩
 have hq2:=hk _ _ (by simp) hq
 have hz2:=hk _ _ (by simp) hz
 have hp2:=hk _ _ (by simp) (k1 _ _ (by simp) hp)
 have ha2:=hk _ _ (by simp) (k1 _ _ (by simp) ha)
 have lto:=(gsI ho)
 have hc:Clm H2 H.length p a l:=⟨hq2,⟨B,D,F,hp2⟩,ha2⟩
 obtain⟨ks,hks⟩:∃ks,ks=eO l payer:=⟨_,rfl⟩
 have klt:∀k,k∈ks→k<l.length:=fun k hk=>DA (by rw[←hks];exact hk)
 have klen:ks.length≤100000:=by
  rw[hks,vq,yN]
  refine Nat.le_trans (List.length_filter_le _ _) ?_
  simp
  omega
 rw[zl,←hks]at hC two
 rw[←hks]at ho
 simp only[←hks]
 have hg:∀i,i∈ks→∀o,MFun Tryz.prog E.row E.src 184 (iv (i:Nat)::[.ref H.length 0 0,.ref (H.length+1) 0 0]) (H2.set id o) (fun r H''=>r=bv (!wQ l n i)∧H''=H2.set id o):=fun i hi o=>
  LI (hc.set ho o) n (by rw[List.getElem?_set_ne (by omega)];exact hz2) i (klt i hi)
 have df:=z8 ks id H2 184 [.ref H.length 0 0,.ref (H.length+1) 0 0] (fun i=>!wQ l n i) klen ho P8 hg
 have ef:(ks.filter fun a=>!(fun i=>!wQ l n i) a)=ks.filter (wQ l n):=List.filter_congr fun x _=>by simp
 rw[ef]at df
 obtain⟨fs,hfs⟩:∃fs,fs=ks.filter (wQ l n):=⟨_,rfl⟩
 rw[←hfs]at hC df two
 simp -dsimp -implicitDefEqProofs [-getElem?_pos,go_sem,hP]
 refine ar df hP QL ?_
 rintro r H3 ⟨tl,rfl,rfl⟩
 have kk:Kept [] H (H2.set id (some ⟨3,1,ac gq fs++tl⟩)):=cG _ (by omega) (k1.trans hk)
 have h3:(H2.set id (some (⟨3,1,ac gq fs++tl⟩:AObj)))[id]?=some (some ⟨3,1,ac gq fs++tl⟩):=by simp[lto]
 by_cases h1:fs.length=1
 ·obtain⟨k,hk1⟩:∃k,fs=[k]:=List.length_eq_one_iff.1 h1
  have d:decide ((fs.length:Int)=1)=true:=decide_eq_true (by omega)
  simp -dsimp -implicitDefEqProofs [-getElem?_pos,go_sem,hP,h1,d,h3]
  rw[hC]
  refine⟨.inr ⟨k,id,tl,by rw[hk1];rfl,rfl,by omega,?_⟩,kk⟩
  rw[h3,hk1]
  rfl
 ·have d:decide ((fs.length:Int)=1)=false:=decide_eq_false (by omega)
  have e0:only fs=[]:=by
   match fs,h1 with
   |[],_=>rfl
   |_::_::_,_=>rfl
  simp -dsimp -implicitDefEqProofs [-getElem?_pos,go_sem,hP,h1,d,h3]
  rw[hC]
  exact⟨.inl ⟨e0,rfl⟩,kk⟩
open Go.PA
open Go.RowKit
theorem BL {row src:Option Nat} (l:List TClaim) (H:ab) (hl:l.length≤1000000):MFun Tryz.prog row src 42 [.list 6 (ac TClaim.cells l)] H (fun r H'=>∃id,r= .sref id 0 l.length∧H.length≤id∧H'[id]?=some (some ⟨118,6,ac TClaim.cells l⟩)∧Kept [] H H'):=by
 have own:MFun Tryz.prog row src 42 [.list 6 (ac TClaim.cells l)] H (fun r H'=>(r= .nil∧l=[]∧H'=H)∨∃id,r= .sref id 0 l.length∧H.length≤id∧H'[id]?=some (some ⟨118,6,ac TClaim.cells l⟩)∧Kept [] H H'):=by
  cases l with
  |nil=>
   refine bu fun A c=>?_
   refine al Tryz.func42 rfl (by simp[Tryz.f42]) (by kernel_rfl) ⟨.nil,H,.inl ⟨rfl,rfl,rfl⟩⟩ ?_
   intro E hP hr hs hN
   cases A with
   |none=>simp -dsimp -implicitDefEqProofs [-getElem?_pos,go_sem,hP]
   |some a=>
    simp -dsimp -implicitDefEqProofs [-getElem?_pos,go_sem,hP]
    exact ap _ _ _
  |cons a l=>
   refine al Tryz.func42 rfl (by simp[Tryz.f42]) (by kernel_rfl) ⟨_,H++[some ⟨118,6,ac TClaim.cells (a::l)⟩],.inr ⟨H.length,rfl,Nat.le_refl _,by simp,az _ (ai _ _)⟩⟩ ?_
   intro E hP hr hs hN
   simp only[List.length_cons]at hl
   have e:ac TClaim.cells (a::l)=TClaim.cells a::ac TClaim.cells l:=rfl
   simp -dsimp -implicitDefEqProofs [-getElem?_pos,go_sem,hP,e]
   refine⟨by omega,by omega,?_⟩
   exact ap _ _ _
 refine (own.ownNil 118 6).mono ?_
 rintro r H' (⟨H0,h0,rfl,rfl⟩|⟨hne,h⟩)
 ·rcases h0 with⟨_,rfl,rfl⟩|⟨id,h,_⟩
  ·exact⟨_,rfl,Nat.le_refl _,by simp[ac],az _ (ai _ _)⟩
  ·cases h
 ·rcases h with⟨h,_⟩|h
  ·exact absurd h hne
  ·exact h
theorem CK {row src:Option Nat} (l:List TIncome) (H:ab) (hl:l.length≤1000000):MFun Tryz.prog row src 43 [.list 5 (ac TIncome.cells l)] H (fun r H'=>∃id,r= .sref id 0 l.length∧H.length≤id∧H'[id]?=some (some ⟨121,5,ac TIncome.cells l⟩)∧Kept [] H H'):=by
 have own:MFun Tryz.prog row src 43 [.list 5 (ac TIncome.cells l)] H (fun r H'=>(r= .nil∧l=[]∧H'=H)∨∃id,r= .sref id 0 l.length∧H.length≤id∧H'[id]?=some (some ⟨121,5,ac TIncome.cells l⟩)∧Kept [] H H'):=by
  cases l with
  |nil=>
   refine bu fun A c=>?_
   refine al Tryz.func43 rfl (by simp[Tryz.f43]) (by kernel_rfl) ⟨.nil,H,.inl ⟨rfl,rfl,rfl⟩⟩ ?_
   intro E hP hr hs hN
   cases A with
   |none=>simp -dsimp -implicitDefEqProofs [-getElem?_pos,go_sem,hP]
   |some a=>
    simp -dsimp -implicitDefEqProofs [-getElem?_pos,go_sem,hP]
    exact ap _ _ _
  |cons a l=>
   refine al Tryz.func43 rfl (by simp[Tryz.f43]) (by kernel_rfl) ⟨_,H++[some ⟨121,5,ac TIncome.cells (a::l)⟩],.inr ⟨H.length,rfl,Nat.le_refl _,by simp,az _ (ai _ _)⟩⟩ ?_
   intro E hP hr hs hN
   simp only[List.length_cons]at hl
   have e:ac TIncome.cells (a::l)=TIncome.cells a::ac TIncome.cells l:=rfl
   simp -dsimp -implicitDefEqProofs [-getElem?_pos,go_sem,hP,e]
   refine⟨by omega,by omega,?_⟩
   exact ap _ _ _
 refine (own.ownNil 121 5).mono ?_
 rintro r H' (⟨H0,h0,rfl,rfl⟩|⟨hne,h⟩)
 ·rcases h0 with⟨_,rfl,rfl⟩|⟨id,h,_⟩
  ·exact⟨_,rfl,Nat.le_refl _,by simp[ac],az _ (ai _ _)⟩
  ·cases h
 ·rcases h with⟨h,_⟩|h
  ·exact absurd h hne
  ·exact h
theorem DN {row src:Option Nat} (l:List TMatch) (H:ab) (hl:l.length≤1000000):MFun Tryz.prog row src 44 [.list 3 (ac TMatch.cells l)] H (fun r H'=>∃id,r= .sref id 0 l.length∧H.length≤id∧H'[id]?=some (some ⟨124,3,ac TMatch.cells l⟩)∧Kept [] H H'):=by
 have own:MFun Tryz.prog row src 44 [.list 3 (ac TMatch.cells l)] H (fun r H'=>(r= .nil∧l=[]∧H'=H)∨∃id,r= .sref id 0 l.length∧H.length≤id∧H'[id]?=some (some ⟨124,3,ac TMatch.cells l⟩)∧Kept [] H H'):=by
  cases l with
  |nil=>
   refine bu fun A c=>?_
   refine al Tryz.func44 rfl (by simp[Tryz.f44]) (by kernel_rfl) ⟨.nil,H,.inl ⟨rfl,rfl,rfl⟩⟩ ?_
   intro E hP hr hs hN
   cases A with
   |none=>simp -dsimp -implicitDefEqProofs [-getElem?_pos,go_sem,hP]
   |some a=>
    simp -dsimp -implicitDefEqProofs [-getElem?_pos,go_sem,hP]
    exact ap _ _ _
  |cons a l=>
   refine al Tryz.func44 rfl (by simp[Tryz.f44]) (by kernel_rfl) ⟨_,H++[some ⟨124,3,ac TMatch.cells (a::l)⟩],.inr ⟨H.length,rfl,Nat.le_refl _,by simp,az _ (ai _ _)⟩⟩ ?_
   intro E hP hr hs hN
   simp only[List.length_cons]at hl
   have e:ac TMatch.cells (a::l)=TMatch.cells a::ac TMatch.cells l:=rfl
   simp -dsimp -implicitDefEqProofs [-getElem?_pos,go_sem,hP,e]
   refine⟨by omega,by omega,?_⟩
   exact ap _ _ _
 refine (own.ownNil 124 3).mono ?_
 rintro r H' (⟨H0,h0,rfl,rfl⟩|⟨hne,h⟩)
 ·rcases h0 with⟨_,rfl,rfl⟩|⟨id,h,_⟩
  ·exact⟨_,rfl,Nat.le_refl _,by simp[ac],az _ (ai _ _)⟩
  ·cases h
 ·rcases h with⟨h,_⟩|h
  ·exact absurd h hne
  ·exact h
theorem CY {row src:Option Nat} (l:List Int) (H:ab) (hl:l.length≤1000000):MFun Tryz.prog row src 40 [.list 1 (ac aJ l)] H (fun r H'=>∃id,r= .sref id 0 l.length∧H.length≤id∧H'[id]?=some (some ⟨3,1,ac aJ l⟩)∧Kept [] H H'):=by
 have own:MFun Tryz.prog row src 40 [.list 1 (ac aJ l)] H (fun r H'=>(r= .nil∧l=[]∧H'=H)∨∃id,r= .sref id 0 l.length∧H.length≤id∧H'[id]?=some (some ⟨3,1,ac aJ l⟩)∧Kept [] H H'):=by
  cases l with
  |nil=>
   refine bu fun A c=>?_
   refine al Tryz.func40 rfl (by simp[Tryz.f40]) (by kernel_rfl) ⟨.nil,H,.inl ⟨rfl,rfl,rfl⟩⟩ ?_
   intro E hP hr hs hN
   cases A with
   |none=>simp -dsimp -implicitDefEqProofs [-getElem?_pos,go_sem,hP]
   |some a=>
    simp -dsimp -implicitDefEqProofs [-getElem?_pos,go_sem,hP]
    exact ap _ _ _
  |cons a l=>
   refine al Tryz.func40 rfl (by simp[Tryz.f40]) (by kernel_rfl) ⟨_,H++[some ⟨3,1,ac aJ (a::l)⟩],.inr ⟨H.length,rfl,Nat.le_refl _,by simp,az _ (ai _ _)⟩⟩ ?_
   intro E hP hr hs hN
   simp only[List.length_cons]at hl
   have e:ac aJ (a::l)=aJ a::ac aJ l:=rfl
   simp -dsimp -implicitDefEqProofs [-getElem?_pos,go_sem,hP,e]
   refine⟨by omega,by omega,?_⟩
   exact ap _ _ _
 refine (own.ownNil 3 1).mono ?_
 rintro r H' (⟨H0,h0,rfl,rfl⟩|⟨hne,h⟩)
 ·rcases h0 with⟨_,rfl,rfl⟩|⟨id,h,_⟩
  ·exact⟨_,rfl,Nat.le_refl _,by simp[ac],az _ (ai _ _)⟩
  ·cases h
 ·rcases h with⟨h,_⟩|h
  ·exact absurd h hne
  ·exact h
set_option maxHeartbeats 4000000 in
theorem J5 {row src:Option Nat} (c:TCash) (H:ab) (hf:FitC c):
  MFun Tryz.prog row src 134 [.agg c.cells] H (fun r H'=>∃p A B D F,r= .ref p 0 0∧H.length≤p∧HC H.length H' p c A B D F∧Kept [] H H'):=by
 obtain⟨C,hC⟩:∃C:AV→ab→Prop,C=fun r H'=>∃p A B D F,r= .ref p 0 0∧H.length≤p∧HC H.length H' p c A B D F∧Kept [] H H':=⟨_,rfl⟩
 rw[←hC]
 have ex:∃r H',C r H':=by
  obtain⟨H1,hH1⟩:∃H1:ab,H1=H++[some ⟨40,4,[[.sref (H.length+1) 0 c.Claims.length,.sref (H.length+2) 0 c.Incomes.length,.sref (H.length+3) 0 c.Matches.length,.sref (H.length+4) 0 c.Loose.length]]⟩,some ⟨118,6,ac TClaim.cells c.Claims⟩,some ⟨121,5,ac TIncome.cells c.Incomes⟩,some ⟨124,3,ac TMatch.cells c.Matches⟩,some ⟨3,1,cW c.Loose⟩]:=⟨_,rfl⟩
  rw[hC]
  refine⟨_,H1,H.length,_,_,_,_,rfl,Nat.le_refl _,⟨by rw[hH1];simp,by rw[hH1];simp;exact⟨rfl,rfl,rfl,rfl⟩,⟨H.length+1,by omega,by rw[af],?_⟩,⟨H.length+2,by omega,by rw[af],?_⟩,⟨H.length+3,by omega,by rw[af],?_⟩,⟨H.length+4,by omega,by rw[bZ],?_⟩⟩,by rw[hH1];exact ap _ _ _⟩
  all_goals
   rw[hH1,List.getElem?_append_right (by omega)]
   simp
 have i1:=gA c.Claims
 have i2:=ij c.Incomes
 have i3:=dF c.Matches
 have i4:Imm (.list 1 (ac aJ c.Loose)):=c.imm _ (by simp[jJ])
 have f1:=hf.fc
 have f2:=hf.fi
 have f3:=hf.fm
 have f4:=hf.fl
 refine al Tryz.func134 rfl (by simp[Tryz.f134]) (by kernel_rfl) (ex) ?_
 intro E hP hr hs hN
 simp -dsimp -implicitDefEqProofs [-getElem?_pos,go_sem,hP,jJ]
 obtain⟨O,hO⟩:∃O:AObj,O=⟨40,4,[[bM c.Claims,bk c.Incomes,aU c.Matches,.list 1 (ac aJ c.Loose)]]⟩:=⟨_,rfl⟩
 obtain⟨H0,hH0⟩:∃H0:ab,H0=H++[some O]:=⟨_,rfl⟩
 have l0:H0.length=H.length+1:=by rw[hH0];simp
 have a0:H0[H.length]?=some (some O):=by rw[hH0];simp
 have k0:Kept [] H H0:=by rw[hH0];exact ap _ _ _
 simp only[←hO,←hH0]
 have ag:∀{X X':ab},Kept [] X X'→X[H.length]?=some (some O)→Agree (fun i=>decide (i=H.length)) X X':=fun hk e0=>dZ hk fun i hi=>by
  simp only[decide_eq_true_eq]at hi
  subst hi
  exact⟨by simp,_,e0⟩
 refine au (fun i=>decide (i=H.length)) [] hP (by kernel_rfl) (by kernel_rfl) ?_
 simp -dsimp -implicitDefEqProofs [-getElem?_pos,go_sem,hP,ao,a0,hO]
 refine ar (by rw[hr,hs];exact BL c.Claims H0 (by omega)) hP OX ?_
 rintro r H1 ⟨id1,rfl,hid1,ho1,hk1⟩
 have a1:=hk1 _ _ (by simp) a0
 have lt1:=(gsI ho1)
 simp -dsimp -implicitDefEqProofs [-getElem?_pos,go_sem,hP]
 refine⟨ag hk1 a0,?_⟩
 simp -dsimp -implicitDefEqProofs [-getElem?_pos,go_sem,hP,ao,a1,hO]
 refine ar (by rw[hr,hs];exact CK c.Incomes H1 (by omega)) hP OQ ?_
 rintro r H2 ⟨id2,rfl,hid2,ho2,hk2⟩
 have a2:=hk2 _ _ (by simp) a1
 have b1:=hk2 _ _ (by simp) ho1
 have lt2:=(gsI ho2)
 simp -dsimp -implicitDefEqProofs [-getElem?_pos,go_sem,hP]
 refine⟨ag hk2 a1,?_⟩
 simp -dsimp -implicitDefEqProofs [-getElem?_pos,go_sem,hP,ao,a2,hO]
 refine ar (by rw[hr,hs];exact DN c.Matches H2 (by omega)) hP Kr ?_
 rintro r H3 ⟨id3,rfl,hid3,ho3,hk3⟩
 have a3:=hk3 _ _ (by simp) a2
 have b2:=hk3 _ _ (by simp) b1
 have c2:=hk3 _ _ (by simp) ho2
 have lt3:=(gsI ho3)
 simp -dsimp -implicitDefEqProofs [-getElem?_pos,go_sem,hP]
 refine⟨ag hk3 a2,?_⟩
 simp -dsimp -implicitDefEqProofs [-getElem?_pos,go_sem,hP,ao,a3,hO]
 refine ar (by rw[hr,hs];exact CY c.Loose H3 (by omega)) hP zm ?_
 rintro r H4 ⟨id4,rfl,hid4,ho4,hk4⟩
 have a4:=hk4 _ _ (by simp) a3
 have b3:=hk4 _ _ (by simp) b2
 have c3:=hk4 _ _ (by simp) c2
 have d3:=hk4 _ _ (by simp) ho3
 have lt4:=(gsI ho4)
 have la:=(gsI a4)
 simp -dsimp -implicitDefEqProofs [-getElem?_pos,go_sem,hP]
 refine⟨ag hk4 a3,ag (ap _ _ _) a4,?_⟩
 rw[hC]
 refine⟨H4.length,_,_,_,_,rfl,by omega,⟨by simp;omega,by simp;exact⟨rfl,rfl,rfl,rfl⟩,⟨id1,by omega,by rw[af],?_⟩,⟨id2,?_,by rw[af],?_⟩,⟨id3,?_,by rw[af],?_⟩,⟨id4,?_,by rw[bZ],?_⟩⟩,?_⟩
 ·rw[List.getElem?_append_left (gsI b3)];exact b3
 ·have:=(gsI a1);omega
 ·rw[List.getElem?_append_left (gsI c3)];exact c3
 ·have:=(gsI a2);omega
 ·rw[List.getElem?_append_left (gsI d3)];exact d3
 ·have:=(gsI a3);omega
 ·rw[List.getElem?_append_left lt4];exact ho4
 ·exact (((k0.trans hk1).trans hk2).trans hk3).trans hk4 |>.trans (ap _ _ _)
def KG (d:TCash) (i:Nat):Prop:=d.Loose[i]?=some 0
theorem Fall.zeroL {c d:TCash} (h:Fall c d) {i:Nat} (hz:KG c i):KG d i:=by
 obtain⟨n,h1,h2,h3⟩:=h.lo i 0 hz
 have:=h2 (Int.le_refl _)
 rw[Go.Proofs.YtmmpcldnpflchaaGreatDoor.KG,h3]
 congr 1
 omega
theorem Fall.back {c d:TCash} (h:Fall c d) {k:Nat} {z:TClaim} (hz:d.Claims[k]?=some z):∃x,c.Claims[k]?=some x∧z.Open≤x.Open∧(0≤x.Open→0≤z.Open)∧z={x with Open:=z.Open}:=by
 have lt:=(gsI hz)
 rw[h.cn]at lt
 obtain⟨n,h1,h2,h3⟩:=h.cl k _ (List.getElem?_eq_getElem lt)
 rw[hz]at h3
 cases h3
 exact⟨_,List.getElem?_eq_getElem lt,h1,h2,rfl⟩
def pZ (l:List TClaim) (p:Int):Int:=((l.filter fun x=>decide (x.Payer=p)).map (·.Open)).sum
def gJ (xs:List TIncome) (ls:List Int) (p:Int):Int:=(((xs.zip ls).filter fun q=>decide (q.1.Payer=p)).map (·.2)).sum
theorem lC (c:TClaim) (l:List TClaim) (p:Int):pZ (c::l) p=(if c.Payer=p then c.Open else 0)+pZ l p:=by
 unfold pZ
 rw[List.filter_cons]
 by_cases h:c.Payer=p<;>simp[h]
theorem eS (y:TIncome) (xs:List TIncome) (a:Int) (ls:List Int) (p:Int):gJ (y::xs) (a::ls) p=(if y.Payer=p then a else 0)+gJ xs ls p:=by
 unfold gJ
 rw[List.zip_cons_cons,List.filter_cons]
 by_cases h:y.Payer=p<;>simp[h]
theorem zg (p:Int):∀(l:List TClaim) (k:Nat) (x y:TClaim),l[k]?=some x→y.Payer=x.Payer→pZ (l.set k y) p=pZ l p+if x.Payer=p then y.Open-x.Open else 0
 |[],k,x,y,h,_=>by simp at h
 |a::l,0,x,y,h,e=>by
  simp only[List.getElem?_cons_zero,Option.some.injEq]at h
  subst h
  rw[List.set_cons_zero,lC,lC,e]
  split<;>omega
 |a::l,k+1,x,y,h,e=>by
  rw[List.getElem?_cons_succ]at h
  rw[List.set_cons_succ,lC,lC,zg p l k x y h e]
  omega
theorem u7 (p:Int):∀(xs:List TIncome) (ls:List Int) (i:Nat) (y:TIncome) (lo n:Int),xs[i]?=some y→ls[i]?=some lo→gJ xs (ls.set i n) p=gJ xs ls p+if y.Payer=p then n-lo else 0
 |[],ls,i,y,lo,n,h,_=>by simp at h
 |x::xs,[],i,y,lo,n,_,h=>by simp at h
 |x::xs,a::ls,0,y,lo,n,h,g=>by
  simp only[List.getElem?_cons_zero,Option.some.injEq]at h g
  subst h;subst g
  rw[List.set_cons_zero,eS,eS]
  split<;>omega
 |x::xs,a::ls,i+1,y,lo,n,h,g=>by
  rw[List.getElem?_cons_succ]at h g
  rw[List.set_cons_succ,eS,eS,u7 p xs ls i y lo n h g]
  omega
theorem tD (p:Int):∀(xs:List TIncome) (ls:List Int) (y:TIncome) (n:Int),ls.length=xs.length→gJ (xs++[y]) (ls++[n]) p=gJ xs ls p+if y.Payer=p then n else 0
 |[],[],y,n,_=>by
  rw[List.nil_append,List.nil_append,eS]
  simp[gJ]
 |[],a::ls,y,n,h=>by simp at h
 |x::xs,[],y,n,h=>by simp at h
 |x::xs,a::ls,y,n,h=>by
  rw[List.cons_append,List.cons_append,eS,eS,tD p xs ls y n (by simpa using h)]
  omega
def iU (ms:List TMatch):Int:=(ms.map (·.Amount)).sum
theorem AN (ms:List TMatch) (m:TMatch):iU (ms++[m])=iU ms+m.Amount:=by simp[iU]
theorem E7 {c:TCash} {x:TIncome} (hp:Pos c) (hl:c.Loose.length=c.Incomes.length) (hx:0≤x.Amount):
  ∃new,(iz c x).Matches=c.Matches++new∧(∀m,m∈new→∃(k:Nat) (z:TClaim),c.Claims[k]?=some z∧m.Claim=z.ID∧z.Payer=x.Payer∧m.Amount≤z.Open)∧∀p,pZ (iz c x).Claims p=pZ c.Claims p-(if x.Payer=p then iU new else 0)∧gJ (iz c x).Incomes (iz c x).Loose p=gJ c.Incomes c.Loose p+(if x.Payer=p then x.Amount-iU new else 0):=by
 refine Iw (fun d=>∃new,d.Matches=c.Matches++new∧(∀m,m∈new→∃(k:Nat) (z:TClaim),c.Claims[k]?=some z∧m.Claim=z.ID∧z.Payer=x.Payer∧m.Amount≤z.Open)∧∀p,pZ d.Claims p=pZ c.Claims p-(if x.Payer=p then iU new else 0)∧gJ d.Incomes d.Loose p=gJ c.Incomes c.Loose p+(if x.Payer=p then x.Amount-iU new else 0)) c x (qU hp hx) ⟨[],by simp[start],by simp,fun p=>?_⟩ fun d k hd h hpay=>?_
 ·refine⟨by simp[start,iU],?_⟩
  show gJ (c.Incomes++[x]) (c.Loose++[x.Amount]) p=_
  rw[tD p _ _ _ _ hl]
  simp[iU]
 ·cases hz:d.Claims[k]? with
  |none=>rw[hz]at hpay;cases hpay
  |some z=>
  rw[hz]at hpay
  have ez:z.Payer=x.Payer:=Option.some.inj hpay
  have hy:d.Incomes[c.Incomes.length]?=some x:=by rw[hd.inc];simp[start]
  have lt:c.Incomes.length<d.Loose.length:=by rw[hd.ln];simp[start,hl]
  obtain⟨lo,hlo⟩:∃lo,d.Loose[c.Incomes.length]?=some lo:=⟨_,List.getElem?_eq_getElem lt⟩
  obtain⟨new,h1,h2,h3⟩:=h
  by_cases hn:min lo z.Open=0
  ·have e:meet d c.Incomes.length k=d:=by
    unfold meet
    rw[hlo,hz,hy]
    simp only
    rw[if_pos hn]
   rw[e]
   exact⟨new,h1,h2,h3⟩
  rw[ul hlo hz hy hn]
  obtain⟨n,hnd⟩:∃n,n=min lo z.Open:=⟨_,rfl⟩
  rw[←hnd]
  obtain⟨z0,hz0,hzo,_,hze⟩:=hd.back hz
  refine⟨new++[⟨x.Number,z.ID,n⟩],by simp[h1],fun m hm=>?_,fun p=>?_⟩
  ·rcases List.mem_append.1 hm with hm|hm
   ·exact h2 m hm
   ·rw[List.mem_singleton.1 hm]
    refine⟨k,z0,hz0,by simp only;rw[hze],?_,?_⟩
    ·rw[hze]at ez;exact ez
    ·simp only;omega
  ·obtain⟨g1,g2⟩:=h3 p
   simp only
   rw[zg p _ k z {z with Open:=z.Open-n} hz rfl,u7 p _ _ _ x lo _ hy hlo,AN,g1,g2]
   simp only[ez]
   by_cases c1:x.Payer=p
   ·simp only[if_pos c1]
    omega
   ·simp only[if_neg c1]
    omega
open Go.PA
open Go.RowKit
theorem jg {a b c:AV} (ha:Imm a) (hb:Imm b) (hc:Imm c):Imm (.tup [a,b,c]):=by
 refine .tup fun x hx=>?_
 simp only[List.mem_cons,List.not_mem_nil,or_false]at hx
 rcases hx with rfl|rfl|rfl<;>assumption
theorem wA {a b c a' b' c':AV} (ha:Weak a a') (hb:Weak b b') (hc:Weak c c'):Weak (.tup [a,b,c]) (.tup [a',b',c']):=by
 refine .tup rfl fun i x y hx hy=>?_
 match i,hx,hy with
 |0,hx,hy=>simp at hx hy;subst hx;subst hy;exact ha
 |1,hx,hy=>simp at hx hy;subst hx;subst hy;exact hb
 |2,hx,hy=>simp at hx hy;subst hx;subst hy;exact hc
 |i+3,hx,hy=>simp at hx
theorem se {H:ab}:CW H [.nil,.nil,.nil,.nil] m8.cells:=bK (bK (bK (bK .nil)))
theorem eW {H:ab} {n:Int} {Q:AV→Prop} {b:Bx Q} (h:Q (.tup [.agg m8.cells,aU [],iv n])):mD H (.tup [.agg [.nil,.nil,.nil,.nil],.nil,iv n]) Q b:=
 aB (jg (se (H:=H)).imm .nil .sc) (jg (se (H:=H)).imm' (dF []) .sc) (wA se.weak (.nil 3) (.refl _)) h
theorem GJ {D:Nat→Bool} {X X' l l':ab} (hl:X.length=X'.length) (h:∀i,D i=true→i<X.length∧X'[i]?=X[i]?):Agree D (X++l) (X'++l'):=fun i hi=>by
 obtain⟨h1,h2⟩:=h i hi
 rw[List.getElem?_append_left h1,List.getElem?_append_left (by omega),h2]
theorem FO {D:Nat→Bool} {X X' l':ab} (hl:X.length=X'.length) (h:∀i,D i=true→i<X.length∧X'[i]?=X[i]?):Agree D X (X'++l'):=fun i hi=>by
 obtain⟨h1,h2⟩:=h i hi
 rw[List.getElem?_append_left (by omega),h2]
theorem A5 (l:List TMatch) (hl:l.length≤1000000):PFun Tryz.prog none none 44 [.list 3 (ac TMatch.cells l)] (·= .list 3 (ac TMatch.cells l)):=by
 cases l with
 |nil=>
  refine bw fun A c=>?_
  refine ae Tryz.func44 rfl (by simp[Tryz.f44]) (by kernel_rfl) ?_
  intro E hP hr hs hW hN
  cases A with
  |none=>
   simp -dsimp -implicitDefEqProofs [-getElem?_pos,go_sem,hP]
   exact aB .nil (aG.2 (by simp)) (.nil _) rfl
  |some a=>
   simp -dsimp -implicitDefEqProofs [-getElem?_pos,go_sem,hP]
   refine aB (x:= .list 3 []) ?_ (aG.2 (by simp)) ?_ rfl
   ·simp -dsimp -implicitDefEqProofs [-getElem?_pos,go_sem]
   ·simp -dsimp -implicitDefEqProofs [-getElem?_pos,go_sem]
    first|exact .refl _|skip
 |cons a l=>
  refine ae Tryz.func44 rfl (by simp[Tryz.f44]) (by kernel_rfl) ?_
  intro E hP hr hs hW hN
  simp only[List.length_cons]at hl
  have e:ac TMatch.cells (a::l)=TMatch.cells a::ac TMatch.cells l:=rfl
  have im:Imm (.list 3 (TMatch.cells a::ac TMatch.cells l)):=by rw[←e];exact aC _ TMatch.imm _
  have et:(TMatch.cells a::ac TMatch.cells l).take (l.length+1)=TMatch.cells a::ac TMatch.cells l:=by
   rw[←e]
   exact cX TMatch.cells (a::l) _ (by simp)
  simp -dsimp -implicitDefEqProofs [-getElem?_pos,go_sem,hP,e]
  refine⟨by omega,by omega,?_⟩
  refine aB (x:= .list 3 (TMatch.cells a::ac TMatch.cells l)) ?_ im ?_ rfl
  ·simp -dsimp -implicitDefEqProofs [-getElem?_pos,go_sem]
   first|exact im|(have h:=aG.1 im;simp only[List.mem_cons,forall_eq_or_imp]at h;exact h)
  ·simp -dsimp -implicitDefEqProofs [-getElem?_pos,go_sem]
   first|exact .refl _|skip
theorem EP {H:ab} {cs cs':List AV} {l:AV} {v:Value} {Q:AV→Prop} {b:Bx Q} (h:CW H cs cs') (hi:Imm l) (hq:Q (.tup [.agg cs',l,.sc v])):mD H (.tup [.agg cs,l,.sc v]) Q b:=
 aB (jg h.imm (by rw[jj hi];exact hi) .sc) (jg h.imm' hi .sc) (wA h.weak (by rw[jj hi];exact .refl _) (.refl _)) hq
theorem Own.cw {n:Nat} {H:ab} {x:AV} {ty:TypeId} {k:Nat} {es:List (List AV)} {xs ys:List AV} (h:Own n H x ty k es) (hi:Imm (.list k es)) (t:CW H xs ys):CW H (x::xs) (.list k es::ys):=by
 obtain⟨id,_,rfl,h⟩:=h
 exact cv h rfl hi t
theorem Own.set {n0:Nat} {H:ab} {x:AV} {ty:TypeId} {k:Nat} {es:List (List AV)} {i:Nat} {o:AObj} {o':Option AObj} (h:Own n0 H x ty k es) (hi:H[i]?=some (some o)) (ht:¬o.ty=ty):Own n0 (H.set i o') x ty k es:=by
 obtain⟨id,h1,h2,h3⟩:=h
 refine⟨id,h1,h2,?_⟩
 rw[List.getElem?_set_ne (cU hi h3 ht)]
 exact h3
theorem p8 {c:TCash} {x:TIncome} {H':ab} {n0 p a b d f:Nat} {la lb ld lf:Nat} (na:n0≤a) (nb:n0≤b) (nd:n0≤d) (nf:n0≤f) (hl:n0≤H'.length) (ea:la=c.Claims.length) (eb:lb=c.Incomes.length+1) (ed:ld=c.Matches.length) (ef:lf=c.Loose.length+1)
  (hp:H'[p]?=some (some ⟨40,4,[[.sref a 0 la,.sref b 0 lb,.sref d 0 ld,.sref f 0 lf]]⟩))
  (ha:H'[a]?=some (some ⟨118,6,ac TClaim.cells c.Claims⟩)) (hb:H'[b]?=some (some ⟨121,5,ac TIncome.cells c.Incomes++[[iv x.Number,iv x.Day,iv x.Payer,iv x.Amount,iv x.Claim]]⟩))
  (hd:H'[d]?=some (some ⟨124,3,ac TMatch.cells c.Matches⟩)) (hf:H'[f]?=some (some ⟨3,1,cW c.Loose++[[iv x.Amount]]⟩)):
  HC n0 H' p (start c x) (.sref a 0 la) (.sref b 0 lb) (.sref d 0 ld) (.sref f 0 lf):=by
 subst ea;subst eb;subst ed;subst ef
 refine⟨hl,hp,⟨a,na,by rw[af];rfl,ha⟩,⟨b,nb,by rw[af];simp[start],?_⟩,⟨d,nd,by rw[af];rfl,hd⟩,⟨f,nf,by rw[bZ];simp[start],?_⟩⟩
 ·rw[hb]
  exact congrArg (fun z=>some (some (⟨121,5,z⟩:AObj))) (cJ TIncome.cells c.Incomes x)
 ·rw[hf]
  exact congrArg (fun z=>some (some (⟨3,1,z⟩:AObj))) (cJ aJ c.Loose x.Amount)
def TS (O0 O1 O2:AObj) (n p:Nat) (d:TCash) (s:St):Prop:=s.t 2= .ref 0 0 0∧s.t 3= .ref 1 0 0∧s.t 4= .ref 2 0 0∧s.t 10= .ref p 0 0∧s.t 11=iv n∧s.H[0]?=some (some O0)∧s.H[1]?=some (some O1)∧s.H[2]?=some (some O2)∧4≤p∧∃A B D F,HC 4 s.H p d A B D F
theorem Own.kept {n0:Nat} {H H':ab} {x:AV} {ty:TypeId} {k:Nat} {es:List (List AV)} (h:Own n0 H x ty k es) (hk:Kept [] H H'):Own n0 H' x ty k es:=by
 obtain⟨id,h1,h2,h3⟩:=h
 exact⟨id,h1,h2,hk _ _ (by simp) h3⟩
theorem HC.kept {n0:Nat} {H H':ab} {p:Nat} {c:TCash} {A B D F:AV} (h:HC n0 H p c A B D F) (hk:Kept [] H H') (hl:n0≤H'.length):HC n0 H' p c A B D F:=
 ⟨hl,hk _ _ (by simp) h.obj,h.a.kept hk,h.b.kept hk,h.d.kept hk,h.f.kept hk⟩
structure GoodD (c:TCash) (x:TIncome) (d:TCash):Prop where
 fall:Fall (start c x) d
 pot:pot d≤400
theorem GoodD.start {c:TCash} {x:TIncome} (h:j6 c=0):GoodD c x (start c x):=by
 have ok:=gW.1 h
 refine⟨.refl _,?_⟩
 have h1:=List.countP_le_length (p:=fun z:TClaim=>decide (0<z.Open)) (l:=c.Claims)
 have h2:=List.countP_le_length (p:=fun z:Int=>decide (0<z)) (l:=c.Loose++[x.Amount])
 have h3:=ok.2.len
 rw[List.length_append,List.length_singleton]at h2
 unfold Go.Proofs.YtmmpcldnpflchaaGreatDoor.pot Go.Proofs.YtmmpcldnpflchaaGreatDoor.start
 simp only
 omega
theorem GoodD.meet {c:TCash} {x:TIncome} {d:TCash} (g:GoodD c x d) (h:j6 c=0) (hx:0≤x.Amount) (k:Nat):GoodD c x (meet d c.Incomes.length k):=by
 have ps:=qU (gW.1 h).2.pos hx
 have pd:=g.fall.pos ps
 have:=Lq d c.Incomes.length k pd
 exact⟨g.fall.trans (yh d _ k pd.1 pd.2),by have:=g.pot;omega⟩
theorem GoodD.lo {c:TCash} {x:TIncome} {d:TCash} (g:GoodD c x d) (h:j6 c=0) (hx:0≤x.Amount):∃lo,d.Loose[c.Incomes.length]?=some lo∧0≤lo∧lo≤x.Amount:=by
 have hl:=(gW.1 h).2.len
 obtain⟨n,h1,h2,h3⟩:=g.fall.lo c.Incomes.length x.Amount (by simp[Go.Proofs.YtmmpcldnpflchaaGreatDoor.start,hl])
 exact⟨n,h3,h2 hx,h1⟩
theorem GoodD.inc {c:TCash} {x:TIncome} {d:TCash} (g:GoodD c x d):d.Incomes[c.Incomes.length]?=some x:=by rw[g.fall.inc];simp[Go.Proofs.YtmmpcldnpflchaaGreatDoor.start]
theorem GoodD.cl {c:TCash} {x:TIncome} {d:TCash} (g:GoodD c x d) (h:j6 c=0) {k:Nat} {z:TClaim} (hz:d.Claims[k]?=some z):0≤z.Open∧z.Open≤1000000000000:=by
 obtain⟨y,hy,h1,h2,_⟩:=g.fall.back hz
 have:=kz.1 ((gW.1 h).2.pays.1 y (List.mem_of_getElem? hy))
 omega
theorem GoodD.len {c:TCash} {x:TIncome} {d:TCash} (g:GoodD c x d):d.Matches.length≤400:=by
 have:=g.pot
 unfold Go.Proofs.YtmmpcldnpflchaaGreatDoor.pot at this
 omega
theorem GoodD.meets {c:TCash} {x:TIncome} {d:TCash} (g:GoodD c x d) (h:j6 c=0) (hx:0≤x.Amount) (ks:List Nat):GoodD c x (meets d c.Incomes.length ks):=
 rW (GoodD c x) _ ks d g fun e k he _=>he.meet h hx k
theorem Fy (d:TCash) (i:Nat) (ks:List Nat) (k:Nat):meets d i (ks++[k])=meet (meets d i ks) i k:=by simp[meets]
theorem yg {E:Env} {c:Code} {s:St} {Q:Exit→St→Prop} {b:Bx (c,Q)} (hW:∀b,¬E.W b) (j:Nat) {id n:Nat} {ty k:Nat} {es fs:List (List AV)} (hj:s.t j= .sref id 0 n) (ho:s.H[id]?=some (some ⟨ty,k,es⟩)) (he:es.take n=fs) (hi:Imm (.list k fs))
  (hl:pT E c ⟨upd s.t j (.list k fs),s.H.set id none⟩ Q .mk):pT E c s Q b:=by
 subst he
 refine AWp.weaken (lY hW j hj ho (by simpa using hi)) ?_
 simp only[List.drop_zero]
 exact hl
set_option maxHeartbeats 8000000 in
set_option maxRecDepth 8000 in
theorem L3 (c:TCash) (x:TIncome) (hf:FitC c) (hl:c.Claims.length<20):PFun Tryz.prog none none 97 [.agg c.cells,.agg x.cells] (·= .tup [.agg (iD c x).1.cells,aU (iD c x).2.1,iv (iD c x).2.2]):=by
 refine dX Tryz.func97 rfl (by simp[Tryz.f97]) ?_
 intro E hP hr hs hW hN
 have ck:=Hg c hf
 have ic:=aO.2 c.imm
 have ix:=aO.2 x.imm
 have px:=vG x
 rw[jJ]at ck ic
 rw[iC]at px ix
 obtain⟨Q,hQ⟩:∃Q:AV→Prop,Q=(·= .tup [.agg (iD c x).1.cells,aU (iD c x).2.1,iv (iD c x).2.2]):=⟨_,rfl⟩
 rw[←hQ]
 obtain⟨R,hR⟩:∃R,R=iD c x:=⟨_,rfl⟩
 rw[←hR]at hQ
 rw[iD]at hR
 have hfc:=hf.fc
 have hfi:=hf.fi
 have hfm:=hf.fm
 have hfl:=hf.fl
 obtain⟨O0,hO0⟩:∃O:AObj,O=⟨40,4,[[bM c.Claims,bk c.Incomes,aU c.Matches,.list 1 (ac aJ c.Loose)]]⟩:=⟨_,rfl⟩
 obtain⟨O1,hO1⟩:∃O:AObj,O=⟨121,5,[[iv x.Number,iv x.Day,iv x.Payer,iv x.Amount,iv x.Claim]]⟩:=⟨_,rfl⟩
 obtain⟨O2,hO2⟩:∃O:AObj,O=⟨40,4,[[.nil,.nil,.nil,.nil]]⟩:=⟨_,rfl⟩
 refine bG (by rw[hN];kernel_rfl) ?_
 simp -dsimp -implicitDefEqProofs [-getElem?_pos,go_sem,hP,jJ,iC]
 simp only[←hO0,←hO1,←hO2]
 refine bG (by rw[hN];kernel_rfl) ?_
 simp -dsimp -implicitDefEqProofs [-getElem?_pos,go_sem,hP,hO0]
 refine aj ck hP QX (an (by simpa using ic)) .sc ?_
 by_cases c1:j6 c=0
 rotate_left
 ·rw[if_neg c1]at hR
  simp -dsimp -implicitDefEqProofs [-getElem?_pos,go_sem,hP,c1,hO2]
  refine eW ?_
  rw[hQ,hR]
 rw[if_pos c1]at hR
 simp -dsimp -implicitDefEqProofs [-getElem?_pos,go_sem,hP,c1]
 refine bG (by rw[hN];kernel_rfl) ?_
 simp -dsimp -implicitDefEqProofs [-getElem?_pos,go_sem,hP]
 obtain⟨Inv,hInv⟩:∃Inv:St→Prop,Inv=fun s=>∃z:TIncome,z.Number=oJ c∧z.Day=oS c∧s.t 2= .ref 0 0 0∧s.t 3= .ref 1 0 0∧s.t 4= .ref 2 0 0∧s.t 8= .ref 3 0 0∧s.H=[some O0,some O1,some O2,some ⟨121,5,[[iv z.Number,iv z.Day,iv z.Payer,iv z.Amount,iv z.Claim]]⟩]:=⟨_,rfl⟩
 refine fe Inv (by rw[hN];kernel_rfl) ?_ ?_
 ·rcases List.eq_nil_or_concat c.Incomes with hn|⟨l,z,hn⟩
  ·have e1:oJ c=0:=by simp[oJ,hn]
   have e2:oS c=0:=by simp[oS,hn]
   simp -dsimp -implicitDefEqProofs [-getElem?_pos,go_sem,hP,hO0,hn,ac]
   refine⟨_,Weaker.refl _,?_⟩
   rw[hInv]
   exact⟨⟨0,0,0,0,0⟩,e1.symm,e2.symm,by simp -dsimp[-getElem?_pos,go_sem],by simp -dsimp[-getElem?_pos,go_sem],by simp -dsimp[-getElem?_pos,go_sem],by simp -dsimp[-getElem?_pos,go_sem],by simp -dsimp[-getElem?_pos,go_sem,hO0,hn,ac]⟩
  ·rw[List.concat_eq_append]at hn
   have e1:oJ c=z.Number:=by simp[oJ,hn]
   have e2:oS c=z.Day:=by simp[oS,hn]
   have ln:c.Incomes.length=l.length+1:=by rw[hn];simp
   have hz:c.Incomes[l.length]?=some z:=by rw[hn];simp
   have d0:decide ((0:Int)<(l.length:Int)+1)=true:=decide_eq_true (by omega)
   have wn:=ah ((l.length:Int)+1-1) (by omega)
   rw[Int.add_sub_cancel]at wn
   simp -dsimp -implicitDefEqProofs [-getElem?_pos,go_sem,hP,hO0,ln,d0,Int.add_sub_cancel,wn,hz,iC]
   refine⟨_,Weaker.refl _,?_⟩
   rw[hInv]
   exact⟨z,e1.symm,e2.symm,by simp -dsimp[-getElem?_pos,go_sem],by simp -dsimp[-getElem?_pos,go_sem],by simp -dsimp[-getElem?_pos,go_sem],by simp -dsimp[-getElem?_pos,go_sem],by simp -dsimp[-getElem?_pos,go_sem,hO0]⟩
 ·intro s hs'
  rw[hInv]at hs'
  obtain⟨z,zn,zd,t2,t3,t4,t8,sH⟩:=hs'
  have h0:s.H[0]?=some (some O0):=by rw[sH];rfl
  have h1:s.H[1]?=some (some O1):=by rw[sH];rfl
  have h2:s.H[2]?=some (some O2):=by rw[sH];rfl
  have h4:s.H.length=4:=by rw[sH];rfl
  have h3:s.H[3]?=some (some ⟨121,5,[[iv z.Number,iv z.Day,iv z.Payer,iv z.Amount,iv z.Claim]]⟩):=by rw[sH];rfl
  have lt1:=(gsI h1)
  have lt2:=(gsI h2)
  have lt3:=(gsI h3)
  have lt0:=(gsI h0)
  have cp:=J5 (row:=E.row) (src:=E.src) c s.H hf
  rw[jJ,h4]at cp
  clear sH h4
  refine bG (by rw[hN];kernel_rfl) ?_
  simp -dsimp -implicitDefEqProofs [-getElem?_pos,go_sem,hP,t3,h0,h1,h2,h3,lt0,lt1,lt2,lt3,hO1]
  refine aj px hP My (an (by simpa using ix)) .sc ?_
  cases c2:iJ x
  ·rw[if_neg (by simp[c2])]at hR
   simp -dsimp -implicitDefEqProofs [-getElem?_pos,go_sem,hP,t4,h0,h1,h2,h3,lt0,lt1,lt2,lt3,hO2]
   refine eW ?_
   rw[hQ,hR]
  rw[if_pos c2]at hR
  by_cases c3:oJ c<x.Number
  rotate_left
  ·have d:decide (x.Number≤oJ c)=true:=decide_eq_true (by omega)
   rw[if_neg c3]at hR
   simp -dsimp -implicitDefEqProofs [-getElem?_pos,go_sem,hP,t3,t4,t8,h0,h1,h2,h3,lt0,lt1,lt2,lt3,hO1,zn,d,hO2]
   refine eW ?_
   rw[hQ,hR]
  have d3:decide (x.Number≤oJ c)=false:=decide_eq_false (by omega)
  rw[if_pos c3]at hR
  by_cases c4:oS c≤x.Day
  rotate_left
  ·have d:decide (x.Day<oS c)=true:=decide_eq_true (by omega)
   rw[if_neg c4]at hR
   simp -dsimp -implicitDefEqProofs [-getElem?_pos,go_sem,hP,t3,t4,t8,h0,h1,h2,h3,lt0,lt1,lt2,lt3,hO1,zn,zd,d3,d,hO2]
   refine eW ?_
   rw[hQ,hR]
  have d4:decide (x.Day<oS c)=false:=decide_eq_false (by omega)
  rw[if_pos c4]at hR
  by_cases c5:c.Incomes.length<100
  rotate_left
  ·have le:c.Incomes.length=100:=by have:=(gW.1 c1).1.2.1;omega
   rw[if_neg c5]at hR
   simp -dsimp -implicitDefEqProofs [-getElem?_pos,go_sem,hP,t2,t3,t4,t8,h0,h1,h2,h3,lt0,lt1,lt2,lt3,hO0,hO1,zn,zd,d3,d4,le,hO2]
   refine eW ?_
   rw[hQ,hR]
  have d5:decide ((c.Incomes.length:Int)=100)=false:=decide_eq_false (by omega)
  rw[if_pos c5]at hR
  have nle:¬c.Incomes.length=100:=by omega
  simp -dsimp -implicitDefEqProofs [-getElem?_pos,go_sem,hP,t2,t3,t4,t8,h0,h1,h2,h3,lt0,lt1,lt2,lt3,hO0,hO1,zn,zd,d3,d4,d5,nle]
  refine bG (by rw[hN];kernel_rfl) ?_
  simp -dsimp -implicitDefEqProofs [-getElem?_pos,go_sem,hP,t2,h0,hO0,lt0]
  refine ar cp hP QA ?_
  rintro r H1 ⟨p,A,B,D,F,rfl,hp4,hc,hk⟩
  have g0:=hk _ _ (by simp) h0
  have g1:=hk _ _ (by simp) h1
  have g2:=hk _ _ (by simp) h2
  have hlen:=hc.len
  have ho:=hc.obj
  obtain⟨a,na,rfl,ha⟩:=hc.a
  obtain⟨b,nb,rfl,hb⟩:=hc.b
  obtain⟨d,nd,rfl,hd⟩:=hc.d
  obtain⟨f,nf,rfl,hf'⟩:=hc.f
  simp only[af,bZ]at ho
  have lto:=(gsI ho)
  have lta:=(gsI ha)
  have ltb:=(gsI hb)
  have ltd:=(gsI hd)
  have ltf:=(List.getElem?_eq_some_iff.1 hf').1
  have n1:=cU ho ha (by simp)
  have n2:=cU ho hb (by simp)
  have n3:=cU ho hd (by simp)
  have n4:=cU ho hf' (by simp)
  have n5:=cU hb ha (by simp)
  have n6:=cU hb hd (by simp)
  have n7:=cU hb hf' (by simp)
  have n8:=cU hf' ha (by simp)
  have n9:=cU hf' hd (by simp)
  have n10:=cU hd ha (by simp)
  have n1':¬a=p:=fun e=>n1 e.symm
  have n2':¬b=p:=fun e=>n2 e.symm
  have n3':¬d=p:=fun e=>n3 e.symm
  have n4':¬f=p:=fun e=>n4 e.symm
  have n7':¬f=b:=fun e=>n7 e.symm
  obtain⟨nI,hnI⟩:∃n,n=c.Incomes.length:=⟨_,rfl⟩
  have lb:=af TIncome.cells c.Incomes
  have lf:=bZ c.Loose
  have ll:=(gW.1 c1).2.len
  rw[←hnI]at ho lb hfi ll
  rw[ll]at ho lf hfl
  obtain⟨PB,hPB⟩:∃P,P=ac TIncome.cells c.Incomes:=⟨_,rfl⟩
  obtain⟨PF,hPF⟩:∃P,P=cW c.Loose:=⟨_,rfl⟩
  rw[←hPB]at hb lb
  rw[←hPF]at hf' lf
  simp -dsimp -implicitDefEqProofs [-getElem?_pos,go_sem,hP]
  refine bG (by rw[hN];kernel_rfl) ?_
  simp -dsimp -implicitDefEqProofs [-getElem?_pos,go_sem,hP,ho,lto,hb,ltb,lb]
  obtain⟨n,hn⟩:∃n,n=nI:=⟨_,rfl⟩
  obtain⟨Inv2,hInv2⟩:∃Inv2:St→Prop,Inv2=TS O0 O1 O2 nI p (start c x):=⟨_,rfl⟩
  refine fe Inv2 (by rw[hN];kernel_rfl) ?_ ?_
  ·simp -dsimp -implicitDefEqProofs [-getElem?_pos,go_sem,hP]
   have mem:∀i,(decide (i=p)||decide (i<4))=true→i=p∨i<4:=fun i hi=>by simpa using hi
   have lt1':=(gsI g1)
   have hD:∀i,(decide (i=p)||decide (i<4))=true→i<H1.length∧¬b=i∧¬f=i:=fun i hi=>by
    rcases mem i hi with rfl|hi
    ·exact⟨lto,n2',n4'⟩
    ·exact⟨by omega,by omega,by omega⟩
   refine au (fun i=>decide (i=p)||decide (i<4)) [19,22] hP (by kernel_rfl) (by kernel_rfl) ?_
   have nb1:¬b=1:=by omega
   have nf1:¬f=1:=by omega
   have np1:¬p=1:=by omega
   have nb0:¬b=0:=by omega
   have nf0:¬f=0:=by omega
   have np0:¬p=0:=by omega
   have nb2:¬b=2:=by omega
   have nf2:¬f=2:=by omega
   have np2:¬p=2:=by omega
   have lt0':=(gsI g0)
   have lt2':=(gsI g2)
   simp -dsimp -implicitDefEqProofs [-getElem?_pos,go_sem,hP,ao,ho,lto,t3,g1,lt1',hO1,hb,ltb,lb,hf',ltf,lf,n2,n2',n4,n4',n7,n7',nb1,nf1]
   refine⟨by omega,by omega,FO (by simp) fun i hi=>⟨(hD i hi).1,by simp[List.getElem?_set,(hD i hi).2.1]⟩,by omega,by omega,GJ (by simp) fun i hi=>⟨by simp;exact (hD i hi).1,by simp[List.getElem?_set,(hD i hi).2.1,(hD i hi).2.2]⟩,?_⟩
   refine⟨_,Weaker.refl _,?_⟩
   rw[hInv2]
   refine⟨by simp -dsimp[-getElem?_pos,go_sem,t2],by simp -dsimp[-getElem?_pos,go_sem,t3],by simp -dsimp[-getElem?_pos,go_sem,t4],by simp -dsimp[-getElem?_pos,go_sem],by simp -dsimp[-getElem?_pos,go_sem],?_,?_,?_,hp4,_,_,_,_,p8 (a:=a) (b:=H1.length) (d:=d) (f:=H1.length+1) na (by omega) nd (by omega) (by simp;omega) rfl rfl rfl rfl ?_ ?_ ?_ ?_ ?_⟩
   ·simp -dsimp -implicitDefEqProofs [-getElem?_pos,go_sem,lt0',nb0,nf0,np0,g0]
   ·simp -dsimp -implicitDefEqProofs [-getElem?_pos,go_sem,lt1',nb1,nf1,np1,g1]
   ·simp -dsimp -implicitDefEqProofs [-getElem?_pos,go_sem,lt2',nb2,nf2,np2,g2]
   ·simp -dsimp -implicitDefEqProofs [-getElem?_pos,go_sem,lto,n2',n4',←hnI,ll]
   ·simp -dsimp -implicitDefEqProofs [-getElem?_pos,go_sem,lta,n1,n5,n8,ha]
   ·simp -dsimp -implicitDefEqProofs [-getElem?_pos,go_sem,←hPB,n2,lto]
   ·simp -dsimp -implicitDefEqProofs [-getElem?_pos,go_sem,ltd,n3,n6,n9,hd]
   ·simp -dsimp -implicitDefEqProofs [-getElem?_pos,go_sem,←hPF,n4,lto]
  ·intro s hs'
   rw[hInv2]at hs'
   clear hInv hInv2 Inv Inv2 ho lto ha hb hd hf' lta ltb ltd ltf n1 n2 n3 n4 n5 n6 n7 n8 n9 n10 n1' n2' n3' n4' n7' hc hlen g0 g1 g2 hk lb lf hPB hPF cp t2 t3 t4 t8 h0 h1 h2 h3 lt0 lt1 lt2 lt3
   have amt:=tf c2
   have ok:=(gW.1 c1).2
   have ps:=qU ok.pos (x:=x) (by omega)
   have ca:=uY c x.Claim hf
   rw[jJ]at ca
   have keep:∀{H H':ab} {i:Nat} {o:AObj},i<4→KeptC 4 p H H'→H[i]?=some (some o)→H'[i]?=some (some o):=fun hi hk ho=>hk _ _ hi (by omega) ho
   obtain⟨Inv3,hInv3⟩:∃Inv3:St→Prop,Inv3=TS O0 O1 O2 nI p (oq c x):=⟨_,rfl⟩
   have gs:GoodD c x (start c x):= .start c1
   have g1:GoodD c x (oq c x):=by
    unfold oq
    split
    ·split
     ·exact gs.meet c1 (by omega) _
     ·exact gs
    ·exact gs
   refine fe Inv3 (by rw[hN];kernel_rfl) ?_ ?_
   ·obtain⟨t2,t3,t4,t10,t11,h0,h1,h2,_,A,B,D,F,hc⟩:=hs'
    have lt0:=(gsI h0)
    have lt1:=(gsI h1)
    simp -dsimp -implicitDefEqProofs [-getElem?_pos,go_sem,hP,t2,t3,h0,lt0,h1,lt1,hO0,hO1]
    refine aj ca hP J4 (an (by simpa[aP]using ic)) .sc ?_
    cases hk:mw c.Claims x.Claim with
    |none=>
     have e:oq c x=start c x:=by unfold oq;rw[hk]
     simp -dsimp -implicitDefEqProofs [-getElem?_pos,go_sem,hP,ve]
     refine au (fun _=>true) [] hP (by kernel_rfl) (by kernel_rfl) ?_
     simp -dsimp -implicitDefEqProofs [-getElem?_pos,go_sem,hP]
     refine⟨_,Weaker.refl _,?_⟩
     rw[hInv3,e]
     exact⟨by simp -dsimp[-getElem?_pos,go_sem,t2],by simp -dsimp[-getElem?_pos,go_sem,t3],by simp -dsimp[-getElem?_pos,go_sem,t4],by simp -dsimp[-getElem?_pos,go_sem,t10],by simp -dsimp[-getElem?_pos,go_sem,t11],h0,h1,h2,hp4,_,_,_,_,hc⟩
    |some k=>
     obtain⟨y,hy,hyid⟩:=oV hk
     have d0:decide ((0:Int)≤(k:Int))=true:=decide_eq_true (by omega)
     by_cases e1:y.Payer=x.Payer
     ·have e:oq c x=meet (start c x) nI k:=by
       unfold oq
       rw[hk]
       simp only
       rw[if_pos (by rw[hy,←e1];rfl),hnI]
      obtain⟨lo,hlo,lo1,lo2⟩:=gs.lo c1 (by omega)
      have hy':(start c x).Claims[k]?=some y:=hy
      have yo:=gs.cl c1 hy'
      have mm:=wx (row:=E.row) (src:=E.src) hc (i:=nI) (by rw[hnI];exact hlo) hy' (by rw[hnI];exact gs.inc) ⟨lo1,by omega⟩ yo (by have:=gs.len;omega)
      simp -dsimp -implicitDefEqProofs [-getElem?_pos,go_sem,hP,ve]
      refine au (fun _=>true) [] hP (by kernel_rfl) (by kernel_rfl) ?_
      simp -dsimp -implicitDefEqProofs [-getElem?_pos,go_sem,hP,t2,t3,t10,t11,h0,lt0,h1,lt1,hO0,hO1,d0,hy,og,e1]
      refine ar mm hP Eq ?_
      rintro r H' ⟨⟨D',hc'⟩,hkk⟩
      simp -dsimp -implicitDefEqProofs [-getElem?_pos,go_sem,hP]
      refine⟨_,Weaker.refl _,?_⟩
      rw[hInv3,e]
      exact⟨by simp -dsimp[-getElem?_pos,go_sem,t2],by simp -dsimp[-getElem?_pos,go_sem,t3],by simp -dsimp[-getElem?_pos,go_sem,t4],by simp -dsimp[-getElem?_pos,go_sem,t10],by simp -dsimp[-getElem?_pos,go_sem,t11],keep (by omega) hkk h0,keep (by omega) hkk h1,keep (by omega) hkk h2,hp4,_,_,_,_,hc'⟩
     ·have e:oq c x=start c x:=by
       unfold oq
       rw[hk]
       simp only
       rw[if_neg (by rw[hy];exact fun h=>e1 (Option.some.inj h))]
      simp -dsimp -implicitDefEqProofs [-getElem?_pos,go_sem,hP,ve]
      refine au (fun _=>true) [] hP (by kernel_rfl) (by kernel_rfl) ?_
      simp -dsimp -implicitDefEqProofs [-getElem?_pos,go_sem,hP,t2,t3,t10,t11,h0,lt0,h1,lt1,hO0,hO1,d0,hy,og,e1]
      refine⟨_,Weaker.refl _,?_⟩
      rw[hInv3,e]
      exact⟨by simp -dsimp[-getElem?_pos,go_sem,t2],by simp -dsimp[-getElem?_pos,go_sem,t3],by simp -dsimp[-getElem?_pos,go_sem,t4],by simp -dsimp[-getElem?_pos,go_sem,t10],by simp -dsimp[-getElem?_pos,go_sem,t11],h0,h1,h2,hp4,_,_,_,_,hc⟩
   clear hs' s
   intro s hs'
   rw[hInv3]at hs'
   obtain⟨t2,t3,t4,t10,t11,h0,h1,h2,_,A,B,D,F,hc⟩:=hs'
   have lt0:=(gsI h0)
   have lt1:=(gsI h1)
   obtain⟨d1,hd1⟩:∃d,d=oq c x:=⟨_,rfl⟩
   rw[←hd1]at hc g1
   have em2:IY c x=if (d1.Loose[nI]?).getD 0=x.Amount then meets d1 nI (eZ d1.Claims x.Payer x.Amount)else d1:=by
    rw[hd1,hnI]
    rfl
   obtain⟨d2,hd2⟩:∃d,d=IY c x:=⟨_,rfl⟩
   rw[←hd2]at em2
   have g2:GoodD c x d2:=by
    rw[em2]
    split
    ·rw[hnI];exact g1.meets c1 (by omega) _
    ·exact g1
   obtain⟨Inv4,hInv4⟩:∃Inv4:St→Prop,Inv4=TS O0 O1 O2 nI p d2:=⟨_,rfl⟩
   obtain⟨lo,hlo,lo1,lo2⟩:=g1.lo c1 (by omega)
   rw[←hnI]at hlo
   have lcl:d1.Claims.length<20:=by rw[g1.fall.cn];exact hl
   refine fe Inv4 (by rw[hN];kernel_rfl) ?_ ?_
   ·have ho:=hc.obj
    have lto:=(gsI ho)
    obtain⟨a,na,hA,ha⟩:=hc.a
    obtain⟨f,nf,hF,hf'⟩:=hc.f
    have ltf:=(List.getElem?_eq_some_iff.1 hf').1
    have rf:=fO hlo
    have lf:=bZ d1.Loose
    have ltl:nI<d1.Loose.length:=(gsI hlo)
    have ho2:=ho
    rw[hF]at ho2
    rw[af]at hA
    rw[hA]at ho
    obtain⟨PF,hPF⟩:∃P,P=cW d1.Loose:=⟨_,rfl⟩
    rw[←hPF]at hf' rf lf ho2
    simp -dsimp -implicitDefEqProofs [-getElem?_pos,go_sem,hP]
    refine au (fun _=>true) [] hP (by kernel_rfl) (by kernel_rfl) ?_
    by_cases e1:lo=x.Amount
    rotate_left
    ·have e:d2=d1:=by rw[em2,hlo,Option.getD_some,if_neg e1]
     simp -dsimp -implicitDefEqProofs [-getElem?_pos,go_sem,hP,t10,ho2,lto,t11,hf',ltf,rf,lf,ltl,t3,h1,lt1,hO1,e1]
     refine⟨_,Weaker.refl _,?_⟩
     rw[hInv4,e]
     exact⟨by simp -dsimp[-getElem?_pos,go_sem,t2],by simp -dsimp[-getElem?_pos,go_sem,t3],by simp -dsimp[-getElem?_pos,go_sem,t4],by simp -dsimp[-getElem?_pos,go_sem,t10],by simp -dsimp[-getElem?_pos,go_sem,t11],h0,h1,h2,hp4,_,_,_,_,hc⟩
    have e:d2=meets d1 nI (eZ d1.Claims x.Payer x.Amount):=by rw[em2,hlo,Option.getD_some,if_pos e1]
    have xm:=NC (row:=E.row) (src:=E.src) ho ha lcl x.Payer x.Amount
    simp -dsimp -implicitDefEqProofs [-getElem?_pos,go_sem,hP,t10,ho2,lto,t11,hf',ltf,rf,lf,ltl,t3,h1,lt1,hO1,e1]
    refine ar xm hP PZ ?_
    rintro r H' ⟨hr',hk⟩
    have h0':=hk _ _ (by simp) h0
    have h1':=hk _ _ (by simp) h1
    have h2':=hk _ _ (by simp) h2
    have hlen:=hc.len
    have hc':=hc.kept hk (by have:=(List.getElem?_eq_some_iff.1 (hk _ _ (by simp) hc.obj)).1;omega)
    rcases hr' with⟨e2,rfl⟩|⟨k,id,tl,e2,rfl,hid,hio⟩
    ·rw[e2]at e
     have e:d2=d1:=e
     simp -dsimp -implicitDefEqProofs [-getElem?_pos,go_sem,hP]
     refine aF (fun m s=>s.t 124=iv 0∧s.t 125=iv 0∧TS O0 O1 O2 nI p d2 s) 0 (by rw[hN];rfl) ?_ ?_
     ·refine⟨by simp -dsimp[-getElem?_pos,go_sem],by simp -dsimp[-getElem?_pos,go_sem],?_⟩
      rw[e]
      exact⟨by simp -dsimp[-getElem?_pos,go_sem,t2],by simp -dsimp[-getElem?_pos,go_sem,t3],by simp -dsimp[-getElem?_pos,go_sem,t4],by simp -dsimp[-getElem?_pos,go_sem,t10],by simp -dsimp[-getElem?_pos,go_sem,t11],h0',h1',h2',hp4,_,_,_,_,hc'⟩
     rintro m s' ⟨t124,t125,ts⟩
     simp -dsimp -implicitDefEqProofs [-getElem?_pos,go_sem,hP,t124,t125]
     refine⟨_,Weaker.refl _,?_⟩
     rw[hInv4]
     exact ts
    ·rw[e2]at e
     have ltio:=(gsI hio)
     simp -dsimp -implicitDefEqProofs [-getElem?_pos,go_sem,hP,hio]
     refine yg hW 123 (id:=id) (n:=1) (ty:=3) (k:=1) (es:=[iv (k:Nat)]::tl) (fs:=[[iv (k:Nat)]]) (by simp -dsimp[-getElem?_pos,go_sem]) (by simp -dsimp[-getElem?_pos,go_sem];exact hio) rfl (aG.2 (by simp[aP])) ?_
     have hkn:Kept [] s.H (H'.set id none):=cG _ hid hk
     have hc2:=hc.kept hkn (by have:=(List.getElem?_eq_some_iff.1 (hkn _ _ (by simp) hc.obj)).1;rw[List.length_set]at*;omega)
     obtain⟨I,hI⟩:∃I:Nat→St→Prop,I=fun m s=>∃(j:Nat),j≤1∧m=1-j∧s.t 123= .list 1 [[iv (k:Nat)]]∧s.t 124=iv 1∧s.t 125=iv j∧TS O0 O1 O2 nI p (meets d1 nI ([k].take j)) s:=⟨_,rfl⟩
     refine aF I (1) (by rw[hN];rfl) ?_ ?_
     ·rw[hI]
      exact⟨0,by omega,by omega,by simp -dsimp[-getElem?_pos,go_sem],by simp -dsimp[-getElem?_pos,go_sem],by simp -dsimp[-getElem?_pos,go_sem],by simp -dsimp[-getElem?_pos,go_sem,t2],by simp -dsimp[-getElem?_pos,go_sem,t3],by simp -dsimp[-getElem?_pos,go_sem,t4],by simp -dsimp[-getElem?_pos,go_sem,t10],by simp -dsimp[-getElem?_pos,go_sem,t11],hkn _ _ (by simp) h0,hkn _ _ (by simp) h1,hkn _ _ (by simp) h2,hp4,_,_,_,_,hc2⟩
     clear hc hc' hc2
     intro m s hs'
     rw[hI]at hs'
     obtain⟨j,hj,hm,t123,t124,t125,ts⟩:=hs'
     simp -dsimp -implicitDefEqProofs [-getElem?_pos,go_sem,hP,t124,t125]
     refine aH (fun h=>?_) (fun h=>?_)
     ·have hj0:j=0:=by
       have:(j:Int)<1:=by simpa using h
       omega
      subst hj0
      obtain⟨t2,t3,t4,t10,t11,h0,h1,h2,_,A,B,D,F,hc⟩:=ts
      obtain⟨z,hz,_⟩:=nX.1 (wD (by rw[e2];simp:k∈eZ d1.Claims x.Payer x.Amount))
      have zo:=g1.cl c1 hz
      have mm:=wx (row:=E.row) (src:=E.src) hc (i:=nI) (lo:=lo) hlo hz (by rw[hnI];exact g1.inc) ⟨lo1,by omega⟩ zo (by show d1.Matches.length≤100000;have:=g1.len;omega)
      have w1:IntKind.i64.wrap 1=1:=ah 1 (by omega)
      simp -dsimp -implicitDefEqProofs [-getElem?_pos,go_sem,hP,t123,t125,t10,t11]
      refine ar mm hP Eq ?_
      rintro r H' ⟨⟨D',hc'⟩,hkk⟩
      simp -dsimp -implicitDefEqProofs [-getElem?_pos,go_sem,hP,t125,w1]
      refine⟨0,by omega,?_⟩
      rw[hI]
      exact⟨1,by omega,by omega,by simp -dsimp[-getElem?_pos,go_sem,t123],by simp -dsimp[-getElem?_pos,go_sem,t124],by simp -dsimp[-getElem?_pos,go_sem],by simp -dsimp[-getElem?_pos,go_sem,t2],by simp -dsimp[-getElem?_pos,go_sem,t3],by simp -dsimp[-getElem?_pos,go_sem,t4],by simp -dsimp[-getElem?_pos,go_sem,t10],by simp -dsimp[-getElem?_pos,go_sem,t11],keep (by omega) hkk h0,keep (by omega) hkk h1,keep (by omega) hkk h2,hp4,_,_,_,_,hc'⟩
     ·have hj1:j=1:=by
       have:(1:Int)≤j:=by simpa using h
       omega
      subst hj1
      simp -dsimp -implicitDefEqProofs [-getElem?_pos,go_sem,hP]
      refine⟨_,Weaker.refl _,?_⟩
      rw[hInv4,e]
      exact ts
   clear t2 t3 t4 t10 t11 h0 h1 h2 hc lt0 lt1 s
   intro s hs'
   rw[hInv4]at hs'
   obtain⟨t2,t3,t4,t10,t11,h0,h1,h2,_,A,B,D,F,hc⟩:=hs'
   have lt0:=(gsI h0)
   have lt1:=(gsI h1)
   have lcl2:d2.Claims.length<20:=by rw[g2.fall.cn];exact hl
   obtain⟨ks,hks⟩:∃ks,ks=eO d2.Claims x.Payer:=⟨_,rfl⟩
   have et:iz c x=meets d2 nI ks:=by rw[C6,←hd2,hks,hnI]
   have klen:ks.length≤100:=by
    rw[hks,vq,yN]
    refine Nat.le_trans (List.length_filter_le _ _) ?_
    simp
    omega
   obtain⟨Inv5,hInv5⟩:∃Inv5:St→Prop,Inv5=TS O0 O1 O2 nI p (iz c x):=⟨_,rfl⟩
   refine fe Inv5 (by rw[hN];kernel_rfl) ?_ ?_
   ·have ho:=hc.obj
    have lto:=(gsI ho)
    obtain⟨a,na,hA,ha⟩:=hc.a
    rw[af]at hA
    rw[hA]at ho
    have om:=JD (row:=E.row) (src:=E.src) ho ha lcl2 x.Payer
    rw[←hks]at om
    simp -dsimp -implicitDefEqProofs [-getElem?_pos,go_sem,hP,t10,t3,h1,lt1,hO1]
    refine ar om hP Ld ?_
    rintro r H' ⟨id,rfl,hid,hio,hk⟩
    have hlen:=hc.len
    have ltio:=(gsI hio)
    have hkn:Kept [] s.H (H'.set id none):=cG _ hid hk
    have hc2:=hc.kept hkn (by have:=(List.getElem?_eq_some_iff.1 (hkn _ _ (by simp) hc.obj)).1;rw[List.length_set]at*;omega)
    simp -dsimp -implicitDefEqProofs [-getElem?_pos,go_sem,hP,hio,af]
    refine yg hW 137 (id:=id) (n:=ks.length) (ty:=3) (k:=1) (es:=ac gq ks) (fs:=ac gq ks) (by simp -dsimp[-getElem?_pos,go_sem]) (by simp -dsimp[-getElem?_pos,go_sem];exact hio) (List.take_of_length_le (by rw[af];omega)) (aC gq (fun k c hc=>by simp only[gq,List.mem_singleton]at hc;subst hc;exact .sc) ks) ?_
    obtain⟨I,hI⟩:∃I:Nat→St→Prop,I=fun m s=>∃(j:Nat),j≤ks.length∧m=ks.length-j∧s.t 137= .list 1 (ac gq ks)∧s.t 138=iv ks.length∧s.t 139=iv j∧TS O0 O1 O2 nI p (meets d2 nI (ks.take j)) s:=⟨_,rfl⟩
    refine aF I (ks.length) (by rw[hN];rfl) ?_ ?_
    ·rw[hI]
     exact⟨0,by omega,by omega,by simp -dsimp[-getElem?_pos,go_sem],by simp -dsimp[-getElem?_pos,go_sem],by simp -dsimp[-getElem?_pos,go_sem],by simp -dsimp[-getElem?_pos,go_sem,t2],by simp -dsimp[-getElem?_pos,go_sem,t3],by simp -dsimp[-getElem?_pos,go_sem,t4],by simp -dsimp[-getElem?_pos,go_sem,t10],by simp -dsimp[-getElem?_pos,go_sem,t11],hkn _ _ (by simp) h0,hkn _ _ (by simp) h1,hkn _ _ (by simp) h2,hp4,_,_,_,_,hc2⟩
    clear hc hc2
    intro m s hs'
    rw[hI]at hs'
    obtain⟨j,hj,hm,t137,t138,t139,ts⟩:=hs'
    simp -dsimp -implicitDefEqProofs [-getElem?_pos,go_sem,hP,t138,t139]
    refine aH (fun h=>?_) (fun h=>?_)
    ·have hj:j<ks.length:=by simpa using h
     obtain⟨k,hkj⟩:∃k,ks[j]?=some k:=⟨_,List.getElem?_eq_getElem hj⟩
     obtain⟨d,hdd⟩:∃d,d=meets d2 nI (ks.take j):=⟨_,rfl⟩
     have gd:GoodD c x d:=by rw[hdd,hnI];exact g2.meets c1 (by omega) _
     rw[←hdd]at ts
     obtain⟨t2,t3,t4,t10,t11,h0,h1,h2,_,A,B,D,F,hc⟩:=ts
     have kl:k<d.Claims.length:=by
      have:=DA (show k∈eO d2.Claims x.Payer by rw[←hks];exact List.mem_of_getElem? hkj)
      rw[gd.fall.cn,←g2.fall.cn]
      exact this
     obtain⟨z,hz⟩:∃z,d.Claims[k]?=some z:=⟨_,List.getElem?_eq_getElem kl⟩
     obtain⟨lo,hlo,lo1,lo2⟩:=gd.lo c1 (by omega)
     have mm:=wx (row:=E.row) (src:=E.src) hc (i:=nI) (lo:=lo) (by rw[hnI];exact hlo) hz (by rw[hnI];exact gd.inc) ⟨lo1,by omega⟩ (gd.cl c1 hz) (by have:=gd.len;omega)
     have wj:=ah ((j:Int)+1) (by omega)
     simp -dsimp -implicitDefEqProofs [-getElem?_pos,go_sem,hP,t137,t139,t10,t11,hkj,gq]
     refine ar mm hP Eq ?_
     rintro r H' ⟨⟨D',hc'⟩,hkk⟩
     simp -dsimp -implicitDefEqProofs [-getElem?_pos,go_sem,hP,t139,wj]
     refine⟨ks.length-(j+1),by omega,?_⟩
     rw[hI]
     refine⟨j+1,by omega,rfl,by simp -dsimp[-getElem?_pos,go_sem,t137],by simp -dsimp[-getElem?_pos,go_sem,t138],by simp -dsimp[-getElem?_pos,go_sem],?_⟩
     rw[rR hkj,Fy,←hdd]
     exact⟨by simp -dsimp[-getElem?_pos,go_sem,t2],by simp -dsimp[-getElem?_pos,go_sem,t3],by simp -dsimp[-getElem?_pos,go_sem,t4],by simp -dsimp[-getElem?_pos,go_sem,t10],by simp -dsimp[-getElem?_pos,go_sem,t11],keep (by omega) hkk h0,keep (by omega) hkk h1,keep (by omega) hkk h2,hp4,_,_,_,_,hc'⟩
    ·have hj:j=ks.length:=by
      have:¬j<ks.length:=by simpa using h
      omega
     subst hj
     simp -dsimp -implicitDefEqProofs [-getElem?_pos,go_sem,hP]
     refine⟨_,Weaker.refl _,?_⟩
     rw[hInv5,et]
     rw[List.take_length]at ts
     exact ts
   clear t2 t3 t4 t10 t11 h0 h1 h2 hc lt0 lt1 s
   intro s hs'
   rw[hInv5]at hs'
   obtain⟨t2,t3,t4,t10,t11,h0,h1,h2,_,A,B,D,F,hc⟩:=hs'
   have gt:GoodD c x (iz c x):=by rw[et,hnI];exact g2.meets c1 (by omega) _
   obtain⟨d,hdd⟩:∃d,d=iz c x:=⟨_,rfl⟩
   rw[←hdd]at hc gt hR
   have lt0:=(gsI h0)
   have lt2:=(gsI h2)
   have ho:=hc.obj
   obtain⟨dd,nd,rfl,hd⟩:=hc.d
   have lto:=(gsI ho)
   have ltd:=(gsI hd)
   rw[af]at ho
   have ld:=af TMatch.cells d.Matches
   obtain⟨nD,hnD⟩:∃n,n=d.Matches.length:=⟨_,rfl⟩
   rw[←hnD]at ho ld hR
   refine bG (by rw[hN];kernel_rfl) ?_
   by_cases c6:nD≤160
   rotate_left
   ·have d6:decide ((160:Int)<(nD:Int))=true:=decide_eq_true (by omega)
    have n6:160<nD:=by omega
    rw[if_neg c6]at hR
    simp -dsimp -implicitDefEqProofs [-getElem?_pos,go_sem,hP,t10,ho,lto,hd,ltd,ld,d6,n6,t4,h2,lt2,hO2]
    refine eW ?_
    rw[hQ,hR]
   have d6:decide ((160:Int)<(nD:Int))=false:=decide_eq_false (by omega)
   have n6:¬160<nD:=by omega
   rw[if_pos c6]at hR
   simp -dsimp -implicitDefEqProofs [-getElem?_pos,go_sem,hP,t10,ho,lto,hd,ltd,ld,d6,n6]
   have npd:=cU ho hd (by simp)
   obtain⟨new,hnew,_⟩:=E7 (c:=c) (x:=x) ok.pos ok.len (by omega)
   rw[←hdd]at hnew
   have lnew:nD=c.Matches.length+new.length:=by rw[hnD,hnew,List.length_append]
   have im:=dF d.Matches
   have hce:=hc.b
   have e1:=(hc.a.set (o':=none) hd (by simp)).set (i:=p) (o':=some ⟨40,4,[[A,B,aU d.Matches,F]]⟩) (by rw[List.getElem?_set_ne (fun e=>npd e.symm)];exact ho) (by simp)
   have e2:=(hc.b.set (o':=none) hd (by simp)).set (i:=p) (o':=some ⟨40,4,[[A,B,aU d.Matches,F]]⟩) (by rw[List.getElem?_set_ne (fun e=>npd e.symm)];exact ho) (by simp)
   have e4:=(hc.f.set (o':=none) hd (by simp)).set (i:=p) (o':=some ⟨40,4,[[A,B,aU d.Matches,F]]⟩) (by rw[List.getElem?_set_ne (fun e=>npd e.symm)];exact ho) (by simp)
   refine AWp.weaken (uZ (o:=p) (id:=dd) (r:=0) (c:=2) (ty:=40) (k:=4) (es:=[[A,B,.sref dd 0 nD,F]]) (e:=[A,B,.sref dd 0 nD,F]) (ty':=124) (kk:=3) (fs:=ac TMatch.cells d.Matches) (n:=nD) hW ho (by omega) rfl rfl hd ld.symm im npd) ?_
   have h0':((s.H.set dd none).set p (some (⟨40,4,[[A,B,aU d.Matches,F]]⟩:AObj)))[0]?=some (some O0):=by rw[List.getElem?_set_ne (by omega),List.getElem?_set_ne (by omega)];exact h0
   have h2':((s.H.set dd none).set p (some (⟨40,4,[[A,B,aU d.Matches,F]]⟩:AObj)))[2]?=some (some O2):=by rw[List.getElem?_set_ne (by omega),List.getElem?_set_ne (by omega)];exact h2
   have hp':((s.H.set dd none).set p (some (⟨40,4,[[A,B,aU d.Matches,F]]⟩:AObj)))[p]?=some (some ⟨40,4,[[A,B,aU d.Matches,F]]⟩):=by rw[List.getElem?_set_self (by rw[List.length_set];exact lto)]
   simp only[List.set_cons_zero,List.set_cons_succ]
   obtain⟨H3,hH3⟩:∃H3,H3=(s.H.set dd none).set p (some (⟨40,4,[[A,B,aU d.Matches,F]]⟩:AObj)):=⟨_,rfl⟩
   simp only[←hH3]at h0' h2' hp' e1 e2 e4⊢
   have lt0':=(List.getElem?_eq_some_iff.1 h0').1
   have lt2':=(List.getElem?_eq_some_iff.1 h2').1
   have ltp':=(List.getElem?_eq_some_iff.1 hp').1
   refine bE _ _ _ (by rw[hN];kernel_rfl) ?_
   have ml:c.Matches.length≤nD:=by omega
   have mlI:(c.Matches.length:Int)≤nD:=by omega
   have edr:(ac TMatch.cells d.Matches).drop c.Matches.length=ac TMatch.cells new:=by
    rw[bV,hnew,List.drop_left]
   have enew:d.Matches.drop c.Matches.length=new:=by rw[hnew,List.drop_left]
   have ll2:d.Matches.length=nD:=hnD.symm
   simp -dsimp -implicitDefEqProofs [-getElem?_pos,go_sem,hP]
   refine au (fun _=>true) [12] hP (by kernel_rfl) (by kernel_rfl) ?_
   have etk:(ac TMatch.cells d.Matches).take nD=ac TMatch.cells d.Matches:=List.take_of_length_le (by omega)
   simp -dsimp -implicitDefEqProofs [-getElem?_pos,go_sem,hP,t2,t4,t10,h0',h2',hp',lt0',lt2',ltp',hO0,ax,aS,aL,ll2,ml,mlI,etk,edr,ld]
   refine ak ((A5 new (by omega)).lift _ _) hP Kr (by simpa using dF new) (dF new) ?_
   have c1':A.cellish=true:=by obtain⟨_,_,rfl,_⟩:=e1;rfl
   have c2':B.cellish=true:=by obtain⟨_,_,rfl,_⟩:=e2;rfl
   have c4':F.cellish=true:=by obtain⟨_,_,rfl,_⟩:=e4;rfl
   refine⟨fun _=>lO _ _,?_⟩
   simp -dsimp -implicitDefEqProofs [-getElem?_pos,go_sem,hP,t2,t4,t10,h2',hO2,lt2',c1',c2',c4']
   refine EP (cs':=d.cells) ?_ (dF new) ?_
   ·rw[jJ]
    exact (e1.set h2' (by rw[hO2];simp)).cw (gA _) ((e2.set h2' (by rw[hO2];simp)).cw (ij _) (cg im ((e4.set h2' (by rw[hO2];simp)).cw (d.imm _ (by simp[jJ])) .nil)))
   ·rw[hQ,hR]
    simp only[hnew,List.drop_left]
end Go.Proofs.YtmmpcldnpflchaaGreatDoor
