/- Several texts of this claim, joined: Rg2 Rg3 Rg4 Rg5 CpnU CpnV RgGen RgGen2 RgGen3 Lq1 Dsum Lq2 Lq3 Lq4 Lq5 PaBody Lq6 ClmL. -/
import Derived.Test.YtfbogibogkbhmaaGreatDoorPk8
set_option linter.unusedSimpArgs false
set_option linter.unusedVariables false
set_option maxRecDepth 4000
namespace Go.Proofs.YtfbogibogkbhmaaGreatDoor
open Go.PA
open Go.RowKit
set_option maxHeartbeats 2000000 in
theorem Mh (r:TRegister) (l:List THolding) {N:Nat} (day:Int) (m:TMove) (ok:HoldOk l N) (hl:l.length≤10000) (hsec:∀s,s∈r.Securities→fP s=true) (hsl:r.Securities.length≤100000) (hk:m.Kind=2):
  PFun Tryz.prog none none 228 [.agg r.cells,bn l,iv day,.agg m.cells] (·= .tup [bn (if bC r.Securities l day m=0 then goH l m else []),iv (bC r.Securities l day m)]):=by
 refine ab Tryz.func228 rfl (by simp[Tryz.f228]) (by kernel_rfl) ?_
 intro E hP hr hs hW hN
 have ir:=bH.2 r.imm
 have im:=qc m
 have il:=bg l
 have fi:=ni r m.Security hsl
 obtain⟨R,hR0⟩:∃R,R=bC r.Securities l day m:=⟨_,rfl⟩
 obtain⟨G,hG⟩:∃G,G=goH l m:=⟨_,rfl⟩
 obtain⟨Q,hQ⟩:∃Q:AV→Prop,Q=(·= .tup [bn (if R=0 then G else []),iv R]):=⟨_,rfl⟩
 rw[←hR0,←hG,←hQ]
 have qe:∀n:Int,R=n→n≠0→Q (.tup [.list 3 [],iv n]):=fun n e h=>by rw[hQ,e,if_neg h];rfl
 have qo:R=0→Q (.tup [bn G,iv 0]):=fun e=>by rw[hQ,e,if_pos rfl]
 clear hQ
 rw[bP]at fi ir
 have hf:i6 r.Securities m.Security=none∨∃s,i6 r.Securities m.Security=some s∧s∈r.Securities:=by
  cases h:i6 r.Securities m.Security with
  |none=>exact .inl rfl
  |some s=>exact .inr ⟨s,rfl,vU h⟩
 rcases hf with hf|⟨s,hf,hm⟩
 ·have e1:dT r.Securities m.Security=(qE,false):=by rw[dT,hf]
  have e2:R=76:=by rw[hR0,bC,hf]
  have iz:=bH.2 qE.imm
  rw[e1]at fi
  rw[cc]at fi iz
  simp -dsimp -implicitDefEqProofs [go_sem,hP,bP,eK]
  refine af fi hP dS (by simp[ir,an]) (aj iz .sc) ?_
  simp -dsimp -implicitDefEqProofs [go_sem,hP]
  exact aK 3 (qe 76 e2 (by omega))
 have e1:dT r.Securities m.Security=(s,true):=by rw[dT,hf]
 have so:=nh (hsec s hm)
 have is:=bH.2 s.imm
 rw[e1]at fi
 rw[cc]at fi is
 unfold bC at hR0
 rw[hf]at hR0
 dsimp only at hR0
 rw[hk]at hR0
 have un:¬s.Unit=0:=by have:=so.unit;omega
 have k3:decide (m.Kind=3)=false:=by rw[hk];rfl
 have k1:decide (m.Kind=1)=false:=by rw[hk];rfl
 by_cases a1:m.Day<day
 ·have d1:decide (m.Day<day)=true:=zC a1
  have e2:R=8:=by rw[hR0,if_pos (by simp only[Int.max_def];split<;>omega)]
  simp -dsimp -implicitDefEqProofs [go_sem,hP,bP,eK]
  refine af fi hP dS (by simp[ir,an]) (aj is .sc) ?_
  simp -dsimp -implicitDefEqProofs [go_sem,hP,k3,d1]
  exact aK 3 (qe 8 e2 (by omega))
 have d1:decide (m.Day<day)=false:=zA a1
 by_cases a2:m.Day<s.Issued
 ·have d2:decide (m.Day<s.Issued)=true:=zC a2
  have e2:R=8:=by rw[hR0,if_pos (by simp only[Int.max_def];split<;>omega)]
  simp -dsimp -implicitDefEqProofs [go_sem,hP,bP,eK]
  refine af fi hP dS (by simp[ir,an]) (aj is .sc) ?_
  simp -dsimp -implicitDefEqProofs [go_sem,hP,k3,d1,d2]
  exact aK 3 (qe 8 e2 (by omega))
 have d2:decide (m.Day<s.Issued)=false:=zA a2
 by_cases a3:s.Maturity<m.Day
 ·have d3:decide (s.Maturity<m.Day)=true:=zC a3
  have e2:R=8:=by rw[hR0,if_pos (by rw[show (if (2:Int)=3 then (36000:Int)else s.Maturity)=s.Maturity from rfl];omega)]
  simp -dsimp -implicitDefEqProofs [go_sem,hP,bP,eK]
  refine af fi hP dS (by simp[ir,an]) (aj is .sc) ?_
  simp -dsimp -implicitDefEqProofs [go_sem,hP,k3,d1,d2,d3]
  exact aK 3 (qe 8 e2 (by omega))
 have d3:decide (s.Maturity<m.Day)=false:=zA a3
 rw[if_neg (by rw[show (if (2:Int)=3 then (36000:Int)else s.Maturity)=s.Maturity from rfl];simp only[Int.max_def];split<;>omega)]at hR0
 by_cases a4:m.Amount<1
 ·have d4:decide (m.Amount<1)=true:=zC a4
  have e2:R=79:=by rw[hR0,if_pos (.inl (by omega))]
  simp -dsimp -implicitDefEqProofs [go_sem,hP,bP,eK]
  refine af fi hP dS (by simp[ir,an]) (aj is .sc) ?_
  simp -dsimp -implicitDefEqProofs [go_sem,hP,k3,d1,d2,d3,d4]
  exact aK 3 (qe 79 e2 (by omega))
 have d4:decide (m.Amount<1)=false:=zA a4
 by_cases a5:1000000000000<m.Amount
 ·have d5:decide (1000000000000<m.Amount)=true:=zC a5
  have e2:R=79:=by rw[hR0,if_pos (.inr (.inl a5))]
  simp -dsimp -implicitDefEqProofs [go_sem,hP,bP,eK]
  refine af fi hP dS (by simp[ir,an]) (aj is .sc) ?_
  simp -dsimp -implicitDefEqProofs [go_sem,hP,k3,d1,d2,d3,d4,d5]
  exact aK 3 (qe 79 e2 (by omega))
 have d5:decide (1000000000000<m.Amount)=false:=zA a5
 have tm:m.Amount.tmod s.Unit=m.Amount%s.Unit:=wB (by omega)
 by_cases a6:m.Amount%s.Unit=0
 rotate_left
 ·have d6:decide (m.Amount%s.Unit=0)=false:=zA a6
  have e2:R=79:=by rw[hR0,if_pos (.inr (.inr a6))]
  simp -dsimp -implicitDefEqProofs [go_sem,hP,bP,eK]
  refine af fi hP dS (by simp[ir,an]) (aj is .sc) ?_
  simp -dsimp -implicitDefEqProofs [go_sem,hP,k3,d1,d2,d3,d4,d5,ax un,un,tm,d6]
  exact aK 3 (qe 79 e2 (by omega))
 have d6:decide (m.Amount%s.Unit=0)=true:=zC a6
 rw[if_neg (by omega)]at hR0
 have hh:=nK m.From
 have ht:=nK m.To
 by_cases a7:cP m.From=true
 rotate_left
 ·have d7:cP m.From=false:=by simpa using a7
  have e2:R=6:=by
   rw[hR0,if_pos]
   simp[cD,hk,d7]
  rw[d7]at hh
  simp -dsimp -implicitDefEqProofs [go_sem,hP,bP,eK]
  refine af fi hP dS (by simp[ir,an]) (aj is .sc) ?_
  simp -dsimp -implicitDefEqProofs [go_sem,hP,k3,k1,d1,d2,d3,d4,d5,ax un,un,tm,d6]
  refine aq (fun _=>true) [] hP (by kernel_rfl) (by kernel_rfl) ?_
  simp -dsimp -implicitDefEqProofs [go_sem,hP,k3,k1,d1,d2,d3,d4,d5,ax un,un,tm,d6]
  refine af hh hP gZ (by simp[an]) .sc ?_
  simp -dsimp -implicitDefEqProofs [go_sem,hP,k3,k1,d1,d2,d3,d4,d5,ax un,un,tm,d6]
  exact aK 3 (qe 6 e2 (by omega))
 have hb:1≤m.From∧m.From≤1000:=by simpa[cP]using a7
 rw[a7]at hh
 by_cases b7:cP m.To=true
 rotate_left
 ·have d7:cP m.To=false:=by simpa using b7
  have e2:R=6:=by
   rw[hR0,if_pos]
   simp[cD,hk,d7]
  rw[d7]at ht
  simp -dsimp -implicitDefEqProofs [go_sem,hP,bP,eK]
  refine af fi hP dS (by simp[ir,an]) (aj is .sc) ?_
  simp -dsimp -implicitDefEqProofs [go_sem,hP,k3,k1,d1,d2,d3,d4,d5,ax un,un,tm,d6]
  refine aq (fun _=>true) [] hP (by kernel_rfl) (by kernel_rfl) ?_
  simp -dsimp -implicitDefEqProofs [go_sem,hP,k3,k1,d1,d2,d3,d4,d5,ax un,un,tm,d6]
  refine af hh hP gZ (by simp[an]) .sc ?_
  simp -dsimp -implicitDefEqProofs [go_sem,hP,k3,k1,d1,d2,d3,d4,d5,ax un,un,tm,d6]
  refine af ht hP gZ (by simp[an]) .sc ?_
  simp -dsimp -implicitDefEqProofs [go_sem,hP,k3,k1,d1,d2,d3,d4,d5,ax un,un,tm,d6]
  exact aK 3 (qe 6 e2 (by omega))
 have hbt:1≤m.To∧m.To≤1000:=by simpa[cP]using b7
 rw[b7]at ht
 by_cases q7:m.From=m.To
 ·have dq:decide (m.From=m.To)=true:=zC q7
  have e2:R=6:=by
   rw[hR0,if_pos]
   simp[cD,hk,q7]
  simp -dsimp -implicitDefEqProofs [go_sem,hP,bP,eK]
  refine af fi hP dS (by simp[ir,an]) (aj is .sc) ?_
  simp -dsimp -implicitDefEqProofs [go_sem,hP,k3,k1,d1,d2,d3,d4,d5,ax un,un,tm,d6]
  refine aq (fun _=>true) [] hP (by kernel_rfl) (by kernel_rfl) ?_
  simp -dsimp -implicitDefEqProofs [go_sem,hP,k3,k1,d1,d2,d3,d4,d5,ax un,un,tm,d6]
  refine af hh hP gZ (by simp[an]) .sc ?_
  simp -dsimp -implicitDefEqProofs [go_sem,hP,k3,k1,d1,d2,d3,d4,d5,ax un,un,tm,d6]
  refine af ht hP gZ (by simp[an]) .sc ?_
  simp -dsimp -implicitDefEqProofs [go_sem,hP,k3,k1,d1,d2,d3,d4,d5,ax un,un,tm,d6,dq]
  exact aK 3 (qe 6 e2 (by omega))
 have dq:decide (m.From=m.To)=false:=zA q7
 rw[if_neg (by simp[cD,hk,a7,b7,q7])]at hR0
 have he:=A0 l m.Security m.From (by omega)
 have hq:=mI (id:=m.Security) (h:=m.From) ok.srt
 rw[hq]at he
 have hp:=(gr (hIs m.Security m.From) hAm l ok.pos).1
 by_cases a8:dY l m.Security m.From<m.Amount
 ·have d8:decide (dY l m.Security m.From<m.Amount)=true:=zC a8
  have e2:R=77:=by rw[hR0,if_pos ⟨by omega,a8⟩]
  simp -dsimp -implicitDefEqProofs [go_sem,hP,bP,eK]
  refine af fi hP dS (by simp[ir,an]) (aj is .sc) ?_
  simp -dsimp -implicitDefEqProofs [go_sem,hP,k3,k1,d1,d2,d3,d4,d5,ax un,un,tm,d6]
  refine aq (fun _=>true) [] hP (by kernel_rfl) (by kernel_rfl) ?_
  simp -dsimp -implicitDefEqProofs [go_sem,hP,k3,k1,d1,d2,d3,d4,d5,ax un,un,tm,d6]
  refine af hh hP gZ (by simp[an]) .sc ?_
  simp -dsimp -implicitDefEqProofs [go_sem,hP,k3,k1,d1,d2,d3,d4,d5,ax un,un,tm,d6]
  refine af ht hP gZ (by simp[an]) .sc ?_
  simp -dsimp -implicitDefEqProofs [go_sem,hP,k3,k1,d1,d2,d3,d4,d5,ax un,un,tm,d6,dq]
  refine aq (fun _=>true) [] hP (by kernel_rfl) (by kernel_rfl) ?_
  simp -dsimp -implicitDefEqProofs [go_sem,hP,k3,k1,d1,d2,d3,d4,d5,ax un,un,tm,d6]
  refine af he hP Bl (by simp[il,an]) .sc ?_
  simp -dsimp -implicitDefEqProofs [go_sem,hP,k3,k1,d1,d2,d3,d4,d5,ax un,un,tm,d6,d8]
  exact aK 3 (qe 77 e2 (by omega))
 have d8:decide (dY l m.Security m.From<m.Amount)=false:=zA a8
 have mok:MoveOk r.Securities l day m s:=⟨hf,by rw[hk,if_neg (by omega)];simp only[Int.max_def];split<;>omega,⟨by omega,by omega,a6⟩,by simp[cD,hk,a7,b7,q7],fun _=>by omega,fun h=>by omega⟩
 rw[if_neg (fun c=>a8 c.2),if_neg (by omega)]at hR0
 obtain⟨ok1,len1⟩:=qu ok mok
 obtain⟨l1,hl1⟩:∃l1,l1=kD l m.Security m.From (-m.Amount):=⟨_,rfl⟩
 have ea:n6 l m.Security m.From (-m.Amount)=l1:=by rw[n6,if_neg (by omega),hl1]
 rw[ea]at ok1 len1
 have eG:G=kD l1 m.Security m.To m.Amount:=by rw[hG,goH,if_neg (by omega),if_neg (by omega),hl1]
 have hp2:dY l m.Security m.From≤1000000000000:=yT ok _ _
 have st:=yJ l m.Security m.From (-m.Amount) ok.srt (by omega) (by rw[hq];unfold dY at*;omega)
 rw[←hl1]at st
 have hq1:=mI (id:=m.Security) (h:=m.To) ok1.srt
 have hp1:=(gr (hIs m.Security m.To) hAm l1 ok1.pos).1
 have hp3:dY l1 m.Security m.To≤1000000000000:=yT ok1 _ _
 have st1:=yJ l1 m.Security m.To m.Amount ok1.srt (by omega) (by rw[hq1];unfold dY at*;omega)
 rw[←eG]at st1
 have w1:=ae (-m.Amount) (by omega)
 have il1:=bg l1
 simp -dsimp -implicitDefEqProofs [go_sem,hP,bP,eK]
 refine af fi hP dS (by simp[ir,an]) (aj is .sc) ?_
 simp -dsimp -implicitDefEqProofs [go_sem,hP,k3,k1,d1,d2,d3,d4,d5,ax un,un,tm,d6]
 refine aq (fun _=>true) [] hP (by kernel_rfl) (by kernel_rfl) ?_
 simp -dsimp -implicitDefEqProofs [go_sem,hP,k3,k1,d1,d2,d3,d4,d5,ax un,un,tm,d6]
 refine af hh hP gZ (by simp[an]) .sc ?_
 simp -dsimp -implicitDefEqProofs [go_sem,hP,k3,k1,d1,d2,d3,d4,d5,ax un,un,tm,d6]
 refine af ht hP gZ (by simp[an]) .sc ?_
 simp -dsimp -implicitDefEqProofs [go_sem,hP,k3,k1,d1,d2,d3,d4,d5,ax un,un,tm,d6,dq]
 refine aq (fun _=>true) [] hP (by kernel_rfl) (by kernel_rfl) ?_
 simp -dsimp -implicitDefEqProofs [go_sem,hP,k3,k1,d1,d2,d3,d4,d5,ax un,un,tm,d6]
 refine af he hP Bl (by simp[il,an]) .sc ?_
 simp -dsimp -implicitDefEqProofs [go_sem,hP,k3,k1,d1,d2,d3,d4,d5,ax un,un,tm,d6,d8]
 refine aq (fun _=>true) [] hP (by kernel_rfl) (by kernel_rfl) ?_
 simp -dsimp -implicitDefEqProofs [go_sem,hP,k3,k1,d1,d2,d3,d4,d5,ax un,un,tm,d6,w1]
 refine af st hP Em (by simp[il,an]) il1 ?_
 simp -dsimp -implicitDefEqProofs [go_sem,hP,k3,k1,d1,d2,d3,d4,d5,ax un,un,tm,d6]
 refine af st1 hP Em (by simp[il1,an]) (bg _) ?_
 simp -dsimp -implicitDefEqProofs [go_sem,hP,k3,k1,d1,d2,d3,d4,d5,ax un,un,tm,d6]
 exact aw (aj (bg _) .sc) (qo hR0)
def MvG (m:TMove):Prop:=(m.Kind=1∧m.From=0)∨m.Kind=2∨(m.Kind=3∧m.To=0)
theorem CY (r:TRegister) (l:List THolding) {N:Nat} (day:Int) (m:TMove) (ok:HoldOk l N) (hl:l.length≤10000) (hs:∀s,s∈r.Securities→fP s=true) (hsl:r.Securities.length≤100000) (hk:MvG m):
  PFun Tryz.prog none none 228 [.agg r.cells,bn l,iv day,.agg m.cells] (·= .tup [bn (if bC r.Securities l day m=0 then goH l m else []),iv (bC r.Securities l day m)]):=by
 rcases hk with⟨h1,h2⟩|h1|⟨h1,h2⟩
 ·exact MX r l day m ok hl hs hsl h1 h2
 ·exact Mh r l day m ok hl hs hsl h1
 ·exact Nr r l day m ok hl hs hsl h1 h2
theorem UL {secs:List TSecurity} {t:RepSt} {m:TMove} (h:Jj secs t m):MvG m:=by
 obtain⟨s,hm⟩:=mY h.2.2
 have st:=hm.str
 have hk:=h.2.1
 unfold MvG
 by_cases k1:m.Kind=1
 ·refine .inl ⟨k1,?_⟩
  simp[cD,k1]at st
  exact st.1
 ·by_cases k2:m.Kind=2
  ·exact .inr (.inl k2)
  ·have k3:m.Kind=3:=by omega
   refine .inr (.inr ⟨k3,?_⟩)
   simp[cD,k3]at st
   exact st.2
open Go.PA
open Go.RowKit
theorem yB (a:List THolding) (ha:a.length≤100000):
  PFun Tryz.prog none none 155 [.list 3 (ao THolding.cells a),.list 3 (ao THolding.cells a)] (·=bv true):=by
 refine ab Tryz.func155 rfl (by simp[Tryz.f155]) (by kernel_rfl) ?_
 intro E hP hr hs hW hN
 simp[go_sem,hP]
 obtain⟨I,hI⟩:∃I:Nat→St→Prop,I=fun m s=>∃k:Nat,k≤a.length∧m=a.length-k∧s.t 0= .list 3 (ao THolding.cells a)∧s.t 1= .list 3 (ao THolding.cells a)∧s.t 12=iv a.length∧s.t 13=iv k:=⟨_,rfl⟩
 refine az I (a.length) (by rw[hN];rfl) ?_ ?_
 ·rw[hI]
  exact⟨0,by omega,by omega,rfl,rfl,rfl,rfl⟩
 intro m s hs'
 rw[hI]at hs'
 obtain⟨k,hk,hm,t0,t1,t12,t13⟩:=hs'
 simp[go_sem,hP,t12,t13]
 refine aB ?_ ?_<;>intro h
 ·have hk:k<a.length:=by simpa using h
  obtain⟨x,hx⟩:=gkE hk
  have wk:=ae ((k:Int)+1) (by omega)
  simp[go_sem,hP,t13]
  refine aq (fun _=>true) [] hP (by kernel_rfl) (by kernel_rfl) ?_
  simp[go_sem,hP,t0,t1,hx,THolding.cells,t13,wk]
  refine⟨a.length-(k+1),by omega,?_⟩
  rw[hI]
  exact⟨k+1,by omega,rfl,t0,t1,t12,rfl⟩
 ·simp[go_sem,hP]
theorem BM {secs:List TSecurity} (hs:∀s,s∈secs→fP s=true) {u:RepSt} {ms:List TMove} (h:Runs secs mi ms u):∀m,m∈ms→0≤m.Day∧m.Day≤36000:=by
 induction h with
 |nil=>intro m hm;cases hm
 |@snoc u ms m _ hst ih=>
  intro x hx
  rcases wA.1 hx with hx|hx
  ·exact ih x hx
  ·simp at hx
   subst hx
   obtain⟨s,hm⟩:=mY hst.2.2
   have so:=nh (hs s (vU hm.sec))
   have d:=hm.day
   have i:=so.iss
   have t:=so.mat
   split at d<;>simp only[Int.max_def,Int.min_def]at d t<;>(repeat' split at d)<;>(repeat' split at t)<;>omega
theorem rq {X:AV} {l:List THolding} {H:ah} {bs bs':List AV} (h:X=bn l∨(X= .nil∧l=[])) (ht:Args H bs bs'):Args H (X::bs) (bn l::bs'):=by
 rcases h with rfl|⟨rfl,rfl⟩
 ·exact aL (bg _) ht
 ·exact CH ht
theorem pM {X:AV} {l:List THolding} (h:X=bn l∨(X= .nil∧l=[])):lg X=[]:=by
 rcases h with rfl|⟨rfl,rfl⟩
 ·exact eT (bg l)
 ·rfl
set_option maxHeartbeats 4000000 in
theorem JR (r:TRegister) (d:Int) (h:RegOk r d):PFun Tryz.prog none none 154 [.agg r.cells,iv 36000] (·= .tup [bn r.Holdings,bv true]):=by
 have hin:=h.regIn
 have hml:=hin.ml
 have hsl:=hin.sl
 have hd:=BM hin.so h.run
 refine ab Tryz.func154 rfl (by simp[Tryz.f154]) (by kernel_rfl) ?_
 intro E hP hr hs hW hN
 have ir:=dI r
 simp -dsimp -implicitDefEqProofs [-getElem?_pos,go_sem,hP,bP]
 obtain⟨I,hI⟩:∃I:Nat→St→Prop,I=fun m s=>∃(k:Nat) (v:RepSt) (X:AV),k≤r.Moves.length∧m=r.Moves.length-k∧Runs r.Securities mi (r.Moves.take k) v∧(X=bn v.l∨(X= .nil∧v.l=[]))∧s.t 1=iv 36000∧s.t 2= .ref 0 0 0∧s.t 6=X∧s.t 7=iv v.d∧s.t 13=fQ r.Moves∧s.t 14=iv r.Moves.length∧s.t 15=iv k∧s.H[0]?=some (some ⟨42,3,[[bZ r.Securities,bn r.Holdings,fQ r.Moves]]⟩):=⟨_,rfl⟩
 refine az I (r.Moves.length) (by rw[hN];rfl) ?_ ?_
 ·rw[hI]
  exact⟨0,mi,.nil,by omega,by omega,by simpa using Runs.nil,.inr ⟨rfl,rfl⟩,rfl,rfl,rfl,by simp -dsimp[-getElem?_pos,go_sem,mi],rfl,rfl,rfl,rfl⟩
 intro m s hs'
 rw[hI]at hs'
 obtain⟨k,v,X,hkl,hm,hv,hX,t1,t2,t6,t7,t13,t14,t15,g0⟩:=hs'
 have l0:=(gsI g0)
 simp -dsimp -implicitDefEqProofs [-getElem?_pos,go_sem,hP,t14,t15]
 refine aB ?_ ?_<;>intro hq
 ·have hkl:k<r.Moves.length:=by simpa using hq
  obtain⟨m,hm0⟩:=gkE hkl
  have wk:=ae ((k:Int)+1) (by omega)
  have hmm:=zE hm0
  have md:=hd m hmm
  have hvn:v.n=k:=by have:=hv.n;simp[mi]at this;omega
  obtain⟨v',hv',hst⟩:=h.run.take k
  have ev:v'=v:=by rw[hv'.det,hv.det]
  subst ev
  have mk:=UL (hst m hm0).1
  obtain⟨⟨s1,s2,s3⟩,hv2⟩:=hst m hm0
  have hok:=hv.ok
  have hvl:=hok.len
  rw[zY]at hvl
  have mv:=CY r v'.l v'.d m hok (by omega) hin.so (by omega) mk
  rw[s3,if_pos rfl]at mv
  have im:=qc m
  rw[bP]at ir mv
  rw[eK]at im mv
  rw[hvn]at s1
  have d0:decide (36000<m.Day)=false:=zA (by omega)
  have d1:decide (m.Number=(k:Int)+1)=true:=zC s1
  have d2:decide (m.Kind<1)=false:=zA (by omega)
  have d3:decide (3<m.Kind)=false:=zA (by omega)
  have g0':∀Y:List (Option AObj),(s.H++Y)[0]?=_:=fun Y=>(zD l0).trans g0
  have l00:0<s.H.length+1:=by omega
  have fin:∀s3:St,(s3.t 1=iv 36000∧s3.t 2= .ref 0 0 0∧s3.t 6=bn (goH v'.l m)∧s3.t 7=iv m.Day∧s3.t 13=fQ r.Moves∧s3.t 14=iv r.Moves.length∧s3.t 15=iv ((k:Int)+1))→s3.H[0]?=some (some ⟨42,3,[[bZ r.Securities,bn r.Holdings,fQ r.Moves]]⟩)→I (r.Moves.length-(k+1)) s3:=by
   rintro s3 ⟨a1,a2,a3,a4,a5,a6,a7⟩ a8
   rw[hI]
   exact⟨k+1,tf v' m,bn (goH v'.l m),by omega,rfl,hv2,.inl rfl,a1,a2,a3,a4,a5,a6,a7,a8⟩
  rcases mk with⟨k1,f0⟩|k1|⟨k1,f0⟩
  ·have e1:decide (m.Kind=1)=true:=zC k1
   have e3:decide (m.Kind=3)=false:=zA (by omega)
   have ef:decide (m.From=0)=true:=zC f0
   simp -dsimp -implicitDefEqProofs [-getElem?_pos,go_sem,hP,t13,t15,hm0,eK,t1,d0,wk,d1,d2,d3,e1,e3,ef,t2,g0',l00,t6,t7]
   refine qx (mv.lift _ _) hP Ax (aL ir (rq hX (ak (by simp[im,an])))) ?_ (aj (bg _) .sc) ?_
   ·simp only[zO,wC,or_false,forall_eq_or_imp,forall_eq]
    exact⟨eT ir,pM hX,rfl,eT im⟩
   simp -dsimp -implicitDefEqProofs [-getElem?_pos,go_sem,hP]
   refine aq (fun _=>true) [] hP (by kernel_rfl) (by kernel_rfl) ?_
   simp -dsimp -implicitDefEqProofs [-getElem?_pos,go_sem,hP,t15,wk]
   refine⟨r.Moves.length-(k+1),by omega,?_⟩
   exact fin _ ⟨t1,t2,rfl,rfl,t13,t14,rfl⟩ (by simp -dsimp[-getElem?_pos,go_sem,g0'])
  ·have e1:decide (m.Kind=1)=false:=zA (by omega)
   have e3:decide (m.Kind=3)=false:=zA (by omega)
   simp -dsimp -implicitDefEqProofs [-getElem?_pos,go_sem,hP,t13,t15,hm0,eK,t1,d0,wk,d1,d2,d3,e1,e3,t2,g0',l00,t6,t7]
   refine qx (mv.lift _ _) hP Ax (aL ir (rq hX (ak (by simp[im,an])))) ?_ (aj (bg _) .sc) ?_
   ·simp only[zO,wC,or_false,forall_eq_or_imp,forall_eq]
    exact⟨eT ir,pM hX,rfl,eT im⟩
   simp -dsimp -implicitDefEqProofs [-getElem?_pos,go_sem,hP]
   refine aq (fun _=>true) [] hP (by kernel_rfl) (by kernel_rfl) ?_
   simp -dsimp -implicitDefEqProofs [-getElem?_pos,go_sem,hP,t15,wk]
   refine⟨r.Moves.length-(k+1),by omega,?_⟩
   exact fin _ ⟨t1,t2,rfl,rfl,t13,t14,rfl⟩ (by simp -dsimp[-getElem?_pos,go_sem,g0'])
  ·have e1:decide (m.Kind=1)=false:=zA (by omega)
   have e3:decide (m.Kind=3)=true:=zC k1
   have ef:decide (m.To=0)=true:=zC f0
   simp -dsimp -implicitDefEqProofs [-getElem?_pos,go_sem,hP,t13,t15,hm0,eK,t1,d0,wk,d1,d2,d3,e1,e3,ef,t2,g0',l00,t6,t7]
   refine qx (mv.lift _ _) hP Ax (aL ir (rq hX (ak (by simp[im,an])))) ?_ (aj (bg _) .sc) ?_
   ·simp only[zO,wC,or_false,forall_eq_or_imp,forall_eq]
    exact⟨eT ir,pM hX,rfl,eT im⟩
   simp -dsimp -implicitDefEqProofs [-getElem?_pos,go_sem,hP]
   refine aq (fun _=>true) [] hP (by kernel_rfl) (by kernel_rfl) ?_
   simp -dsimp -implicitDefEqProofs [-getElem?_pos,go_sem,hP,t15,wk]
   refine⟨r.Moves.length-(k+1),by omega,?_⟩
   exact fin _ ⟨t1,t2,rfl,rfl,t13,t14,rfl⟩ (by simp -dsimp[-getElem?_pos,go_sem,g0'])
 ·have hkl:k=r.Moves.length:=by simp at hq;omega
  subst hkl
  rw[zT]at hv
  have ev:v=⟨r.Holdings,r.Moves.length,d⟩:=by rw[hv.det,h.run.det]
  rw[ev]at hX
  simp -dsimp -implicitDefEqProofs [-getElem?_pos,go_sem,hP,t6]
  rcases hX with rfl|⟨rfl,e⟩
  ·exact aw (aj (bg _) .sc) rfl
  ·simp only at e
   rw[e]
   exact aK 3 rfl
set_option maxHeartbeats 4000000 in
theorem BN (r:TRegister) (d:Int) (h:RegOk r d):PFun Tryz.prog none none 86 [.agg r.cells] (·=iv 0):=by
 have hin:=h.regIn
 have h1:=hin.ml
 have h2:=hin.sl
 have h4:=h.hl
 have hdays:=BM hin.so h.run
 refine ab Tryz.func86 rfl (by simp[Tryz.f86]) (by kernel_rfl) ?_
 intro E hP hr hs hW hN
 have d1:decide (20<(r.Securities.length:Int))=false:=zA (by omega)
 have d2:decide (400<(r.Moves.length:Int))=false:=zA (by omega)
 have ir:=dI r
 simp -dsimp -implicitDefEqProofs [-getElem?_pos,go_sem,hP,bP,ar,d1,d2]
 obtain⟨I,hI⟩:∃I:Nat→St→Prop,I=fun m s=>∃k:Nat,k≤r.Securities.length∧m=r.Securities.length-k∧s.t 1= .ref 0 0 0∧s.t 20=bZ r.Securities∧s.t 21=iv r.Securities.length∧s.t 22=iv k∧s.H[0]?=some (some ⟨42,3,[[bZ r.Securities,bn r.Holdings,fQ r.Moves]]⟩):=⟨_,rfl⟩
 refine az I (r.Securities.length) (by rw[hN];rfl) ?_ ?_
 ·rw[hI]
  exact⟨0,by omega,by omega,rfl,rfl,by simp -dsimp[-getElem?_pos,go_sem,ar],rfl,rfl⟩
 intro m s hs'
 rw[hI]at hs'
 obtain⟨k,hk0,hm,t1,t20,t21,t22,g0⟩:=hs'
 have l0:=(gsI g0)
 simp -dsimp -implicitDefEqProofs [-getElem?_pos,go_sem,hP,t21,t22]
 refine aB ?_ ?_<;>intro hq
 ·have hk0:k<r.Securities.length:=by simpa using hq
  obtain⟨a,ha⟩:=gkE hk0
  have wk:=ae ((k:Int)+1) (by omega)
  have sp:=Fz a
  rw[hin.so a (zE ha)]at sp
  rw[cc]at sp
  have g0':∀x:ah,(s.H++x)[0]?=some (some ⟨42,3,[[bZ r.Securities,bn r.Holdings,fQ r.Moves]]⟩):=fun x=>by rw[zD l0];exact g0
  simp -dsimp -implicitDefEqProofs [-getElem?_pos,go_sem,hP,t20,t22,ha,cc]
  refine aq (fun _=>true) [] hP (by kernel_rfl) (by kernel_rfl) ?_
  simp -dsimp -implicitDefEqProofs [-getElem?_pos,go_sem,hP]
  refine ai sp hP TO (ak (by simp -dsimp[-getElem?_pos,go_sem])) .sc ?_
  by_cases k0:k=0
  ·subst k0
   have w1:=ae 1 (by omega)
   simp -dsimp -implicitDefEqProofs [-getElem?_pos,go_sem,hP,t1,g0',t22,wk,w1]
   refine⟨r.Securities.length-1,by omega,?_⟩
   rw[hI]
   exact⟨1,by omega,rfl,t1,t20,t21,by simp -dsimp[-getElem?_pos,go_sem,w1],by simp -dsimp[-getElem?_pos,go_sem,g0']⟩
  ·obtain⟨j,rfl⟩:∃j,k=j+1:=⟨k-1,by omega⟩
   obtain⟨z,hz⟩:∃z,r.Securities[j]?=some z:=⟨_,zF (by omega)⟩
   have lt:=hin.asc j z a hz ha
   have dj:decide ((0:Int)<((j+1:Nat):Int))=true:=zC (by omega)
   have wj:=ae (((j+1:Nat):Int)-1) (by omega)
   have ej:((j+1:Nat):Int)-1=(j:Int):=by omega
   have dl:decide (a.ID≤z.ID)=false:=zA (by omega)
   have lj:j<r.Securities.length:=by omega
   rw[ej]at wj
   have wk2:=ae ((j:Int)+1+1) (by omega)
   simp -dsimp -implicitDefEqProofs [-getElem?_pos,go_sem,hP,t1,g0',t22,wk,wk2,dj,wj,ej,hz,cc,dl,lj]
   refine⟨r.Securities.length-(j+1+1),by omega,?_⟩
   rw[hI]
   exact⟨j+1+1,by omega,rfl,t1,t20,t21,by simp -dsimp[-getElem?_pos,go_sem,wk2],by simp -dsimp[-getElem?_pos,go_sem,g0']⟩
 simp -dsimp -implicitDefEqProofs [-getElem?_pos,go_sem,hP,t1,g0,l0,ar]
 obtain⟨J,hJ⟩:∃I:Nat→St→Prop,I=fun m s=>∃k:Nat,k≤r.Moves.length∧m=r.Moves.length-k∧s.t 1= .ref 0 0 0∧s.t 48=fQ r.Moves∧s.t 49=iv r.Moves.length∧s.t 50=iv k∧s.H[0]?=some (some ⟨42,3,[[bZ r.Securities,bn r.Holdings,fQ r.Moves]]⟩):=⟨_,rfl⟩
 refine az J (r.Moves.length) (by rw[hN];rfl) ?_ ?_
 ·rw[hJ]
  exact⟨0,by omega,by omega,t1,rfl,by simp -dsimp[-getElem?_pos,go_sem,ar],rfl,g0⟩
 clear t1 t20 t21 t22 g0 l0 hk0 hm hq s
 intro m s hs'
 rw[hJ]at hs'
 obtain⟨k,hk0,hm,t1,t48,t49,t50,g0⟩:=hs'
 have l0:=(gsI g0)
 simp -dsimp -implicitDefEqProofs [-getElem?_pos,go_sem,hP,t49,t50]
 refine aB ?_ ?_<;>intro hq
 ·have hk0:k<r.Moves.length:=by simpa using hq
  obtain⟨a,ha⟩:=gkE hk0
  have wk:=ae ((k:Int)+1) (by omega)
  have hd:=hdays a (zE ha)
  have d3:decide (a.Day<0)=false:=zA (by omega)
  have d4:decide (36000<a.Day)=false:=zA (by omega)
  simp -dsimp -implicitDefEqProofs [-getElem?_pos,go_sem,hP,t48,t50,ha,eK,d3,d4,wk]
  refine⟨r.Moves.length-(k+1),by omega,?_⟩
  rw[hJ]
  refine⟨k+1,by omega,rfl,t1,t48,t49,rfl,?_⟩
  simp -dsimp -implicitDefEqProofs [-getElem?_pos,go_sem]
  rw[zD l0]
  exact g0
 have un:=JR r d h
 have ihl:=bg r.Holdings
 have lq:=yB r.Holdings (by have:=h4.len;omega)
 rw[bP]at un ir
 simp -dsimp -implicitDefEqProofs [-getElem?_pos,go_sem,hP,t1,g0,l0]
 refine af un hP UO (by simp[ir,an]) (aj ihl .sc) ?_
 simp -dsimp -implicitDefEqProofs [-getElem?_pos,go_sem,hP,t1,g0,l0]
 refine af lq hP U1 (by simp[ihl]) .sc ?_
 simp -dsimp -implicitDefEqProofs [-getElem?_pos,go_sem,hP]
open Go.PA
open Go.RowKit
def my (r:TRegister):Int:=((r.Moves.getLast?).map (·.Day)).getD 0
def R4 (r:TRegister) (m:TMove):Int:=bC r.Securities r.Holdings (my r) m
def fW (r:TRegister) (day kind ref f t n:Int):TMove:=⟨(r.Moves.length:Int)+1,day,kind,ref,f,t,n⟩
def EH:TRegister:=⟨[],[],[]⟩
def yr (r:TRegister) (m:TMove):AV:= .tup [.agg (if R4 r m=0 then oT r m else EH).cells,iv (R4 r m)]
theorem yY (r:TRegister) (m:TMove):Imm (yr r m):=aj (dI _) .sc
set_option maxHeartbeats 4000000 in
theorem oZ (r:TRegister) (m:TMove) (k0:Int) (h:RegOk r (my r)) (hl:r.Moves.length<400) (hn:m.Number=(r.Moves.length:Int)+1) (hm:MvG m):
  PFun Tryz.prog none none 156 [.agg r.cells,.agg [iv k0,iv m.Day,iv m.Kind,iv m.Security,iv m.From,iv m.To,iv m.Amount]] (·=yr r m):=by
 have hin:=h.regIn
 have ck:=BN r (my r) h
 have hok:=h.hl
 have mv:=CY r r.Holdings (my r) m hok (by have:=hok.len;omega) hin.so (by have:=hin.sl;omega) hm
 obtain⟨R,hR0⟩:∃R,R=R4 r m:=⟨_,rfl⟩
 have hR1:bC r.Securities r.Holdings (my r) m=R:=hR0.symm
 rw[hR1]at mv
 obtain⟨Q,hQ⟩:∃Q:AV→Prop,Q=(·=yr r m):=⟨_,rfl⟩
 rw[←hQ]
 have qe:R≠0→Q (.tup [.agg EH.cells,iv R]):=fun e=>by rw[hQ,yr,←hR0,if_neg e]
 have qo:R=0→Q (.tup [.agg (oT r m).cells,iv 0]):=fun e=>by rw[hQ,yr,←hR0,if_pos e,e]
 clear hQ
 have ir:=dI r
 have im:=qc m
 have ih:=bg (if R=0 then goH r.Holdings m else [])
 rw[eK]at im mv
 rw[bP]at ck ir mv
 refine ab Tryz.func156 rfl (by simp[Tryz.f156]) (by kernel_rfl) ?_
 intro E hP hr hs hW hN
 have wn:=ae ((r.Moves.length:Int)+1) (by omega)
 have dl:decide ((r.Moves.length:Int)=400)=false:=zA (by omega)
 have en:ao TMove.cells r.Moves++[[iv m.Number,iv m.Day,iv m.Kind,iv m.Security,iv m.From,iv m.To,iv m.Amount]]=ao TMove.cells (r.Moves++[m]):=aX TMove.cells r.Moves m
 simp -dsimp -implicitDefEqProofs [go_sem,hP,bP,eK]
 refine af ck hP Tt (by simp[ir]) .sc ?_
 have hlast:(r.Moves.length=0∧my r=0)∨∃k x,r.Moves.length=k+1∧r.Moves[k]?=some x∧my r=x.Day:=by
  rcases List.eq_nil_or_concat r.Moves with e|⟨l,x,e⟩
  ·exact .inl ⟨by rw[e];rfl,by rw[my,e];rfl⟩
  ·rw[List.concat_eq_append]at e
   exact .inr ⟨l.length,x,by rw[e];simp,by rw[e];simp,by rw[my,e];simp⟩
 rcases hlast with⟨e0,ed⟩|⟨k,x,e0,ex,ed⟩
 ·rw[ed]at mv
  have d0:decide ((0:Int)<(r.Moves.length:Int))=false:=zA (by omega)
  have d0':¬0<r.Moves.length:=by omega
  simp -dsimp -implicitDefEqProofs [go_sem,hP,ar,dl,d0,d0',wn]
  rw[←hn]
  refine af mv hP Ax (by simp[ir,im,an,bg]) (aj ih .sc) ?_
  by_cases he:R=0
  rotate_left
  ·have de:decide (R=0)=false:=zA he
   simp -dsimp -implicitDefEqProofs [go_sem,hP,de]
   exact dO Aj (qe he)
  have fin:=qo he
  subst he
  rw[if_pos rfl]at ih
  have hm0:r.Moves=[]:=wF e0
  simp -dsimp -implicitDefEqProofs [go_sem,hP]
  refine aq (fun id=>decide (id<2)) [7] hP (by kernel_rfl) (by kernel_rfl) ?_
  simp -dsimp -implicitDefEqProofs [go_sem,hP,aS,hm0,ao]
  refine⟨lH,lH,?_⟩
  refine dO (cs':=(oT r m).cells) ?_ fin
  exact dg (nc _) (dg ih (gP (ty:=235) (id:=4) (es:=ao TMove.cells (r.Moves++[m])) (by rw[hm0];rfl) (by rw[hm0];rfl) (tT _) .nil))
 ·rw[ed]at mv
  have d0:decide ((0:Int)<(r.Moves.length:Int))=true:=zC (by omega)
  have d0':0<r.Moves.length:=by omega
  have wj:IntKind.i64.wrap ((r.Moves.length:Int)-1)=(k:Int):=by rw[ae _ (by omega)];omega
  simp -dsimp -implicitDefEqProofs [go_sem,hP,ar,dl,d0,d0',wn,wj,ex,eK]
  rw[←hn]
  refine af mv hP Ax (by simp[ir,im,an,bg]) (aj ih .sc) ?_
  by_cases he:R=0
  rotate_left
  ·have de:decide (R=0)=false:=zA he
   simp -dsimp -implicitDefEqProofs [go_sem,hP,de]
   exact dO Aj (qe he)
  have fin:=qo he
  subst he
  rw[if_pos rfl]at ih
  simp -dsimp -implicitDefEqProofs [go_sem,hP]
  refine aq (fun id=>decide (id<2)) [7] hP (by kernel_rfl) (by kernel_rfl) ?_
  simp -dsimp -implicitDefEqProofs [go_sem,hP,aS,d0,d0',ar]
  refine⟨by omega,by omega,lH,by omega,by omega,lH,?_⟩
  refine dO (cs':=(oT r m).cells) ?_ fin
  exact dg (nc _) (dg ih (gP (ty:=235) (id:=4) (es:=ao TMove.cells (r.Moves++[m])) (by rw[←en];rfl) (by simp[ao]) (tT _) .nil))
theorem J8 (r:TRegister) (day id h n:Int) (ok:RegOk r (my r)) (hl:r.Moves.length<400):
  PFun Tryz.prog none none 89 [.agg r.cells,iv day,iv id,iv h,iv n] (·=yr r (fW r day 1 id 0 h n)):=by
 have ch:=oZ r (fW r day 1 id 0 h n) 0 ok hl rfl (.inl ⟨rfl,rfl⟩)
 have ir:=dI r
 have ic:=yY r (fW r day 1 id 0 h n)
 have e:[iv 0,iv (fW r day 1 id 0 h n).Day,iv (fW r day 1 id 0 h n).Kind,iv (fW r day 1 id 0 h n).Security,iv (fW r day 1 id 0 h n).From,iv (fW r day 1 id 0 h n).To,iv (fW r day 1 id 0 h n).Amount]=[iv 0,iv day,iv 1,iv id,iv 0,iv h,iv n]:=rfl
 rw[e]at ch
 obtain⟨R,hR⟩:∃R,R=yr r (fW r day 1 id 0 h n):=⟨_,rfl⟩
 obtain⟨y,v,hy⟩:∃(y:TRegister) (v:Int),R= .tup [.agg y.cells,iv v]:=⟨_,_,by rw[hR];rfl⟩
 rw[←hR]at ch ic⊢
 rw[hy,bP y]at ic ch⊢
 rw[bP r]at ir ch⊢
 refine ab Tryz.func89 rfl (by simp[Tryz.f89]) (by kernel_rfl) ?_
 intro E hP hr hs hW hN
 simp -dsimp -implicitDefEqProofs [go_sem,hP]
 refine af ch hP Il (by simp[ir,bH,an]) ic ?_
 simp -dsimp -implicitDefEqProofs [go_sem,hP]
 exact aw ic rfl
theorem Ga (r:TRegister) (day id h n:Int) (ok:RegOk r (my r)) (hl:r.Moves.length<400):
  PFun Tryz.prog none none 91 [.agg r.cells,iv day,iv id,iv h,iv n] (·=yr r (fW r day 3 id h 0 n)):=by
 have ch:=oZ r (fW r day 3 id h 0 n) 0 ok hl rfl (.inr (.inr ⟨rfl,rfl⟩))
 have ir:=dI r
 have ic:=yY r (fW r day 3 id h 0 n)
 have e:[iv 0,iv (fW r day 3 id h 0 n).Day,iv (fW r day 3 id h 0 n).Kind,iv (fW r day 3 id h 0 n).Security,iv (fW r day 3 id h 0 n).From,iv (fW r day 3 id h 0 n).To,iv (fW r day 3 id h 0 n).Amount]=[iv 0,iv day,iv 3,iv id,iv h,iv 0,iv n]:=rfl
 rw[e]at ch
 obtain⟨R,hR⟩:∃R,R=yr r (fW r day 3 id h 0 n):=⟨_,rfl⟩
 obtain⟨y,v,hy⟩:∃(y:TRegister) (v:Int),R= .tup [.agg y.cells,iv v]:=⟨_,_,by rw[hR];rfl⟩
 rw[←hR]at ch ic⊢
 rw[hy,bP y]at ic ch⊢
 rw[bP r]at ir ch⊢
 refine ab Tryz.func91 rfl (by simp[Tryz.f91]) (by kernel_rfl) ?_
 intro E hP hr hs hW hN
 simp -dsimp -implicitDefEqProofs [go_sem,hP]
 refine af ch hP Il (by simp[ir,bH,an]) ic ?_
 simp -dsimp -implicitDefEqProofs [go_sem,hP]
 exact aw ic rfl
theorem Cs (r:TRegister) (day id f h n:Int) (ok:RegOk r (my r)) (hl:r.Moves.length<400):
  PFun Tryz.prog none none 90 [.agg r.cells,iv day,iv id,iv f,iv h,iv n] (·=yr r (fW r day 2 id f h n)):=by
 have ch:=oZ r (fW r day 2 id f h n) 0 ok hl rfl (.inr (.inl rfl))
 have ir:=dI r
 have ic:=yY r (fW r day 2 id f h n)
 have e:[iv 0,iv (fW r day 2 id f h n).Day,iv (fW r day 2 id f h n).Kind,iv (fW r day 2 id f h n).Security,iv (fW r day 2 id f h n).From,iv (fW r day 2 id f h n).To,iv (fW r day 2 id f h n).Amount]=[iv 0,iv day,iv 2,iv id,iv f,iv h,iv n]:=rfl
 rw[e]at ch
 obtain⟨R,hR⟩:∃R,R=yr r (fW r day 2 id f h n):=⟨_,rfl⟩
 obtain⟨y,v,hy⟩:∃(y:TRegister) (v:Int),R= .tup [.agg y.cells,iv v]:=⟨_,_,by rw[hR];rfl⟩
 rw[←hR]at ch ic⊢
 rw[hy,bP y]at ic ch⊢
 rw[bP r]at ir ch⊢
 refine ab Tryz.func90 rfl (by simp[Tryz.f90]) (by kernel_rfl) ?_
 intro E hP hr hs hW hN
 simp -dsimp -implicitDefEqProofs [go_sem,hP]
 refine af ch hP Il (by simp[ir,bH,an]) ic ?_
 simp -dsimp -implicitDefEqProofs [go_sem,hP]
 exact aw ic rfl
theorem DK:∀(l:List TSecurity) (p:Int) (s:TSecurity),qY p l=true→fP s=true→p<s.ID→(∀x,x∈l→x.ID<s.ID)→qY p (l++[s])=true
 |[],p,s,_,h1,h2,_=>by simp[qY,h1,h2]
 |x::l,p,s,h,h1,h2,h3=>by
  unfold qY at h
  rw[zG,zG]at h
  rw[vX,qY,h.1.1,h.1.2,DK l x.ID s h.2 h1 (h3 x (by simp)) fun y hy=>h3 y (by simp[hy])]
  rfl
theorem Tl {l:List TSecurity} {id:Int} (h:∀x,x∈l→x.ID<id):dT l id=(qE,false):=by
 have:i6 l id=none:=by
  unfold i6
  rw[List.find?_eq_none]
  intro x hx
  have:=h x hx
  simp
  omega
 rw[dT,this]
def oF (r:TRegister) (s:TSecurity):TRegister:=⟨r.Securities++[s],r.Holdings,r.Moves⟩
theorem Q5 {r:TRegister} {s:TSecurity} (h:RegOk r 0) (hm:r.Moves=[]) (hs:fP s=true) (hi:∀x,x∈r.Securities→x.ID<s.ID) (hl:r.Securities.length<20):RegOk (oF r s) 0:=by
 have so:=nh hs
 have e:=h.run
 rw[hm]at e
 have e2:=e.det
 simp only[List.foldl_nil]at e2
 refine⟨DK _ _ _ h.secs hs so.id.1 hi,by simp[oF];omega,?_,by show r.Moves.length≤400;exact h.mlen⟩
 show Runs (r.Securities++[s]) mi r.Moves ⟨r.Holdings,r.Moves.length,0⟩
 rw[hm,show (⟨r.Holdings,([]:List TMove).length,0⟩:RepSt)=mi from e2]
 exact .nil
set_option maxHeartbeats 4000000 in
theorem QC (r:TRegister) (b:TSecurity) (h:RegOk r 0) (hl:r.Securities.length<20) (hi:∀x,x∈r.Securities→x.ID<b.ID):
  PFun Tryz.prog none none 25 [.agg r.cells,.agg b.cells] (·=if fP b=true then .tup [.agg (oF r b).cells,iv 0]else .tup [.agg EH.cells,iv 76]):=by
 have ck:=BN r 0 h
 have fi:=ni r b.ID (by omega)
 rw[Tl hi]at fi
 have sp:=Fz b
 have ir:=dI r
 have ib:=fh b
 have iz:=fh qE
 obtain⟨Q,hQ⟩:∃Q:AV→Prop,Q=(·=if fP b=true then .tup [.agg (oF r b).cells,iv 0]else .tup [.agg EH.cells,iv 76]):=⟨_,rfl⟩
 rw[←hQ]
 rw[bP]at ck fi ir
 rw[cc]at sp ib
 simp only[cc]at fi iz
 obtain⟨nS,hnS⟩:∃n,n=r.Securities.length:=⟨_,rfl⟩
 have en:ao TSecurity.cells r.Securities++[[iv b.ID,iv b.Unit,iv b.Issued,iv b.Maturity,iv b.Rate,iv b.Every,bv b.Indexed]]=ao TSecurity.cells (r.Securities++[b]):=aX TSecurity.cells r.Securities b
 refine ab Tryz.func25 rfl (by simp[Tryz.f25]) (by kernel_rfl) ?_
 intro E hP hr hs hW hN
 simp -dsimp -implicitDefEqProofs [go_sem,hP,bP,cc]
 refine af ck hP Tt (by simp[ir]) .sc ?_
 simp -dsimp -implicitDefEqProofs [go_sem,hP]
 refine af fi hP dS (by simp[ir,an]) (aj iz .sc) ?_
 simp -dsimp -implicitDefEqProofs [go_sem,hP]
 refine af sp hP TO (by simp[ib]) .sc ?_
 cases hb:fP b
 ·simp -dsimp -implicitDefEqProofs [go_sem,hP]
  refine dO Aj ?_
  rw[hQ,hb]
  rfl
 have dl:decide ((r.Securities.length:Int)=20)=false:=zA (by omega)
 have nl:¬r.Securities.length=20:=by omega
 simp -dsimp -implicitDefEqProofs [go_sem,hP,ar,dl,nl]
 obtain⟨I,hI⟩:∃I:Nat→St→Prop,I=fun m s=>∃k:Nat,k≤nS∧m=nS-k∧s.t 2= .ref 0 0 0∧s.t 3= .ref 1 0 0∧s.t 4= .ref 2 0 0∧s.t 9=iv k∧s.H=[some ⟨42,3,[[bZ r.Securities,bn r.Holdings,fQ r.Moves]]⟩,some ⟨86,7,[[iv b.ID,iv b.Unit,iv b.Issued,iv b.Maturity,iv b.Rate,iv b.Every,bv b.Indexed]]⟩,some ⟨42,3,[[.nil,.nil,.nil]]⟩,some ⟨86,7,[[iv 0,iv 0,iv 0,iv 0,iv 0,iv 0,bv false]]⟩]:=⟨_,rfl⟩
 refine az I (nS) (by rw[hN];rfl) ?_ ?_
 ·rw[hI]
  exact⟨0,by omega,by omega,rfl,rfl,rfl,rfl,by simp -dsimp[-getElem?_pos,go_sem,qE]⟩
 intro m s hs'
 rw[hI]at hs'
 obtain⟨k,hk,hm,t2,t3,t4,t9,hH⟩:=hs'
 have g0:s.H[0]?=some (some ⟨42,3,[[bZ r.Securities,bn r.Holdings,fQ r.Moves]]⟩):=by rw[hH];rfl
 have g1:s.H[1]?=some (some ⟨86,7,[[iv b.ID,iv b.Unit,iv b.Issued,iv b.Maturity,iv b.Rate,iv b.Every,bv b.Indexed]]⟩):=by rw[hH];rfl
 have l0:=(gsI g0)
 have l1:=(gsI g1)
 by_cases c:k<nS
 ·obtain⟨x,hx⟩:∃x,r.Securities[k]?=some x:=⟨_,zF (by omega)⟩
  have d1:decide ((k:Int)<(r.Securities.length:Int))=true:=zC (by omega)
  have d1':k<r.Securities.length:=by omega
  have d2:decide (x.ID<b.ID)=true:=zC (hi x (zE hx))
  have wk:=ae ((k:Int)+1) (by omega)
  simp -dsimp -implicitDefEqProofs [go_sem,hP]
  refine aq (fun _=>true) [] hP (by kernel_rfl) (by kernel_rfl) ?_
  simp -dsimp -implicitDefEqProofs [-getElem?_pos,go_sem,hP,t2,t3,t9,g0,g1,l0,l1,ar,d1,d1',hx,cc,d2,wk]
  refine⟨nS-(k+1),by omega,?_⟩
  rw[hI]
  exact⟨k+1,by omega,rfl,t2,t3,t4,rfl,hH⟩
 ·have ek:k=nS:=by omega
  subst ek
  have d1:decide ((k:Int)<(r.Securities.length:Int))=false:=zA (by omega)
  have d1':¬k<r.Securities.length:=by omega
  have hkl:k≤r.Securities.length:=by omega
  have tk:r.Securities.take k=r.Securities:=by rw[hnS,zT]
  have dk:r.Securities.drop k=[]:=by rw[hnS,wG]
  simp -dsimp -implicitDefEqProofs [go_sem,hP]
  refine aq (fun _=>true) [] hP (by kernel_rfl) (by kernel_rfl) ?_
  simp -dsimp -implicitDefEqProofs [-getElem?_pos,go_sem,hP,t2,t3,t9,g0,g1,l0,l1,ar,d1,d1']
  refine aq (fun id=>decide (id<2)) [14] hP (by kernel_rfl) (by kernel_rfl) ?_
  simp -dsimp -implicitDefEqProofs [go_sem,hP,t2,t3,t4,t9,hH,aS,bL,dL,dD,ar,hkl,jo,gS,tk,dk]
  refine⟨by omega,by omega,lH,by omega,by omega,lH,by omega,by omega,lH,?_⟩
  refine dO (cs':=(oF r b).cells) ?_ ?_
  ·exact gP (ty:=86) (id:=6) (es:=ao TSecurity.cells (r.Securities++[b])) (by rw[←en];rfl) (by simp[ao]) (nc _) (dg (bg _) (dg (tT _) .nil))
  ·rw[hQ,hb]
   rfl
open Go.PA
open Go.RowKit
structure GenR (n:Nat) (r:TRegister):Prop where
 ok:RegOk r (my r)
 ml:r.Moves.length≤n
 am:∀m,m∈r.Moves→m.Amount≤5000
 sl:r.Securities.length≤3
theorem GenR.mono {n k:Nat} {r:TRegister} (h:GenR n r) (hk:n≤k):GenR k r:=⟨h.ok,Nat.le_trans h.ml hk,h.am,h.sl⟩
theorem LW {n:Nat} {r:TRegister} {m:TMove} (h:GenR n r) (he:R4 r m=0) (hn:m.Number=(r.Moves.length:Int)+1) (hk:1≤m.Kind∧m.Kind≤3) (ha:m.Amount≤5000) (hl:n<400):GenR (n+1) (oT r m):=by
 obtain⟨s,hm⟩:=mY he
 have ml:=h.ml
 have ok:=IZ h.ok hm hn hk (by omega)
 have e:my (oT r m)=m.Day:=by simp[my,oT]
 refine⟨by rw[e];exact ok,by simp[oT];omega,fun x hx=>?_,h.sl⟩
 rcases wA.1 hx with hx|hx
 ·exact h.am x hx
 ·simp at hx
  subst hx
  exact ha
theorem Dt:∀{l:List TMove},(∀m,m∈l→0<m.Amount∧m.Amount≤5000)→sP l≤5000*(l.length:Int)
 |[],_=>by simp[sP]
 |x::l,h=>by
  have h1:=h x (by simp)
  have h2:=Dt (l:=l) fun y hy=>h y (by simp[hy])
  have e:sP (x::l)=Ia x+sP l:=by simp[sP]
  have b:Ia x≤5000:=by
   unfold Ia
   split
   ·omega
   ·split<;>omega
  rw[e]
  simp only[wI,Int.natCast_add,Int.natCast_one]
  omega
theorem Qp {secs:List TSecurity} {u:RepSt} {ms:List TMove} (h:Runs secs mi ms u):∀m,m∈ms→0<m.Amount:=by
 induction h with
 |nil=>intro m hm;cases hm
 |@snoc u ms m _ hst ih=>
  intro x hx
  rcases wA.1 hx with hx|hx
  ·exact ih x hx
  ·simp at hx
   subst hx
   obtain⟨s,hm⟩:=mY hst.2.2
   exact hm.am.1
theorem SD {l:List THolding} (hp:∀x,x∈l→0<x.Amount):∀x,x∈l→x.Amount≤Kc l:=fun x hx=>(gr (fun _=>true) hAm l hp).2 x hx rfl
theorem GenR.hold {n:Nat} {r:TRegister} (h:GenR n r):∀x,x∈r.Holdings→0<x.Amount∧x.Amount≤5000*(n:Int):=fun x hx=>by
 have hl:=h.ok.run.ok
 have p:=hl.pos x hx
 have rt:=(Oa h.ok.run).1
 have rp:=Qp h.ok.run
 have s5:=Dt (l:=r.Moves) fun m hm=>⟨rp m hm,h.am m hm⟩
 have t:=SD hl.pos x hx
 have ml:=h.ml
 simp only at rt t
 omega
theorem Ot {r:TRegister} {b:TSecurity} (h:GenR 0 r) (hb:fP b=true) (hi:∀x,x∈r.Securities→x.ID<b.ID) (hl:r.Securities.length<3):GenR 0 (oF r b):=by
 have hm:r.Moves=[]:=wF (by have:=h.ml;omega)
 have d0:my r=0:=by rw[my,hm];rfl
 have ok:=h.ok
 rw[d0]at ok
 have e:my (oF r b)=0:=by show ((r.Moves.getLast?).map (·.Day)).getD 0=0;rw[hm];rfl
 exact⟨by rw[e];exact Q5 ok hm hb hi (by omega),h.ml,h.am,by simp[oF];omega⟩
def ve:TRegister:=⟨[],[],[]⟩
theorem CP:GenR 0 ve:=⟨⟨rfl,by simp[ve],.nil,by simp[ve]⟩,by simp[ve],by simp[ve],by simp[ve]⟩
open Go.PA
open Go.RowKit
theorem VA {s:TSecurity} (hs0:fP s=true) {h:THolding} (ha:0<h.Amount∧h.Amount≤100000) {day:Int} {x:TDue} (hx:x∈yy s day h):0<x.Amount∧x.Amount≤200000:=by
 have so:=nh hs0
 have b1:0≤h.Amount*s.Rate∧h.Amount*s.Rate≤100000*20000:=⟨Int.mul_nonneg (by omega) so.rate.1,Int.mul_le_mul ha.2 so.rate.2 so.rate.1 (by omega)⟩
 have e1:0≤s.Every∧s.Every≤12:=by rcases so.every with⟨e,_⟩|⟨e|e|e|e,_⟩<;>omega
 have b2:0≤h.Amount*s.Rate*s.Every∧h.Amount*s.Rate*s.Every≤100000*20000*12:=⟨Int.mul_nonneg b1.1 e1.1,Int.mul_le_mul b1.2 e1.2 e1.1 (by omega)⟩
 unfold yy at hx
 rcases wA.1 hx with hx|hx
 ·split at hx
  ·rename_i c
   rw[zU]at hx
   subst hx
   have:=c.2
   unfold ox at this⊢
   dsimp only
   omega
  ·cases hx
 ·split at hx
  ·rw[zU]at hx
   subst hx
   dsimp only
   omega
  ·cases hx
def Wl (x:AV):Prop:=∃c p:Int,x= .tup [iv c,iv p]∧(0≤c∧c≤320000000)∧(0≤p∧p≤320000000)
theorem SC:∃r,Wl r∧Imm r:=⟨_,⟨0,0,rfl,by omega,by omega⟩,aj .sc .sc⟩
set_option maxHeartbeats 4000000 in
theorem Qk (r:TRegister) (b:TSecurity) (day:Int) (hs0:fP b=true) (hh:∀x,x∈r.Holdings→0<x.Amount∧x.Amount≤100000) (hl:r.Holdings.length≤800):
  PFun Tryz.prog none none 32 [.agg r.cells,.agg b.cells,iv day] Wl:=by
 obtain⟨L,hL⟩:∃L,L=r.Holdings:=⟨_,rfl⟩
 have ib:=fh b
 rw[cc]at ib
 rw[←hL]at hh hl
 refine ab Tryz.func32 rfl (by simp[Tryz.f32]) (by kernel_rfl) ?_
 intro E hP hr hs hW hN
 simp -dsimp -implicitDefEqProofs [go_sem,hP,bP,cc,ar]
 rw[←hL]
 obtain⟨I,hI⟩:∃I:Nat→St→Prop,I=fun m s=>∃(k:Nat) (c p:Int),k≤L.length∧m=L.length-k∧(0≤c∧c≤400000*(k:Int))∧(0≤p∧p≤400000*(k:Int))∧s.t 2=iv day∧s.t 4= .ref 1 0 0∧s.t 6=iv c∧s.t 7=iv p∧s.t 13=bn L∧s.t 14=iv L.length∧s.t 15=iv k∧s.H[1]?=some (some ⟨86,7,[[iv b.ID,iv b.Unit,iv b.Issued,iv b.Maturity,iv b.Rate,iv b.Every,bv b.Indexed]]⟩):=⟨_,rfl⟩
 refine az I (L.length) (by rw[hN];rfl) ?_ ?_
 ·rw[hI]
  exact⟨0,0,0,by omega,by omega,by omega,by omega,rfl,rfl,rfl,rfl,rfl,by simp -dsimp[-getElem?_pos,go_sem,ar],rfl,rfl⟩
 intro m s hs'
 rw[hI]at hs'
 obtain⟨k,c,p,hk,hm,hc,hp,t2,t4,t6,t7,t13,t14,t15,g1⟩:=hs'
 have l1:=(gsI g1)
 simp -dsimp -implicitDefEqProofs [go_sem,hP,t14,t15]
 refine aB ?_ ?_<;>intro h
 ·have hk:k<L.length:=by simpa using h
  obtain⟨a,ha⟩:=gkE hk
  have wk:=ae ((k:Int)+1) (by omega)
  have hha:=hh a (zE ha)
  obtain⟨nb,hnb⟩:∃nb,nb=s.H.length:=⟨_,rfl⟩
  have gnb:∀x:Option AObj,(s.H++[x])[nb]?=some x:=fun x=>by rw[hnb];simp
  have g1':∀x:Option AObj,(s.H++[x])[1]?=s.H[1]?:=fun x=>zD l1
  have nxt:∀(s':St) (c' p':Int),(0≤c'∧c'≤400000*((k:Int)+1))→(0≤p'∧p'≤400000*((k:Int)+1))→s'.t 2=iv day→s'.t 4= .ref 1 0 0→s'.t 6=iv c'→s'.t 7=iv p'→s'.t 13=bn L→s'.t 14=iv L.length→s'.t 15=iv ((k:Int)+1)→s'.H[1]?=s.H[1]?→∃n',n'<m∧I n' s':=fun s' c' p' b1 b2 b3 b4 b5 b6 b7 b8 b9 b10=>by
   refine⟨L.length-(k+1),by omega,?_⟩
   rw[hI]
   exact⟨k+1,c',p',by omega,rfl,by omega,by omega,b3,b4,b5,b6,b7,b8,b9.trans rfl,b10.trans g1⟩
  have pp:=Nq b a day hs0 ⟨hha.1,by omega⟩
  have ia:=Ez a
  have iD:=yZ (yy b day a)
  have ld:=QW b day a
  have hbd:∀x,x∈yy b day a→0<x.Amount∧x.Amount≤200000:=fun x hx=>VA hs0 hha hx
  obtain⟨D,hD⟩:∃D,D=yy b day a:=⟨_,rfl⟩
  rw[←hD]at pp iD ld hbd
  rw[cc,eX]at pp
  rw[eX]at ia
  by_cases e:a.Security=b.ID
  rotate_left
  ·have d:=zA e
   simp -dsimp -implicitDefEqProofs [go_sem,hP,t13,t15,ha,eX]
   rw[←hnb]
   simp -dsimp -implicitDefEqProofs [go_sem,hP,gnb,t4,g1',g1,d,e,t15,wk]
   exact nxt _ c p (by omega) (by omega) t2 t4 t6 t7 t13 t14 rfl (by simp -dsimp[go_sem,g1'])
  have d:=zC e
  simp -dsimp -implicitDefEqProofs [go_sem,hP,t13,t15,ha,eX]
  rw[←hnb]
  simp -dsimp -implicitDefEqProofs [go_sem,hP,gnb,t4,g1',g1,d,e,t2]
  rw[e]at pp ia
  refine af pp hP We (by simpa[an]using⟨ib,ia⟩) iD ?_
  simp -dsimp -implicitDefEqProofs [go_sem,hP,ar]
  obtain⟨H1,hH1⟩:∃H1:ah,H1[1]?=s.H[1]?∧H1=s.H++[some ⟨177,3,[[iv b.ID,iv a.Holder,iv a.Amount]]⟩]:=⟨_,g1' _,rfl⟩
  rw[←hH1.2]
  have g2:=hH1.1
  clear hH1
  obtain⟨J,hJ⟩:∃I:Nat→St→Prop,I=fun m s=>∃(j:Nat) (c' p':Int),j≤D.length∧m=D.length-j∧(0≤c'∧c'≤c+200000*(j:Int))∧(0≤p'∧p'≤p+200000*(j:Int))∧s.t 2=iv day∧s.t 4= .ref 1 0 0∧s.t 6=iv c'∧s.t 7=iv p'∧s.t 13=bn L∧s.t 14=iv L.length∧s.t 15=iv k∧s.t 27=GI D∧s.t 28=iv D.length∧s.t 29=iv j∧s.H[1]?=some (some ⟨86,7,[[iv b.ID,iv b.Unit,iv b.Issued,iv b.Maturity,iv b.Rate,iv b.Every,bv b.Indexed]]⟩):=⟨_,rfl⟩
  refine az J (D.length) (by rw[hN];rfl) ?_ ?_
  ·rw[hJ]
   exact⟨0,c,p,by omega,by omega,by omega,by omega,t2,t4,t6,t7,t13,t14,t15,rfl,by simp -dsimp[-getElem?_pos,go_sem,ar],rfl,by simp -dsimp[go_sem,g2,g1]⟩
  rw[g1]at nxt
  clear t2 t4 t6 t7 t13 t14 t15 g1 g1' g2 gnb hnb h l1
  intro m s hs'
  rw[hJ]at hs'
  obtain⟨j,c',p',hj,hmj,hc',hp',t2,t4,t6,t7,t13,t14,t15,t27,t28,t29,g1⟩:=hs'
  have l1:=(gsI g1)
  simp -dsimp -implicitDefEqProofs [go_sem,hP,t28,t29]
  refine aB ?_ ?_<;>intro h
  ·have hj:j<D.length:=by simpa using h
   obtain⟨x,hx⟩:=gkE hj
   have wj:=ae ((j:Int)+1) (by omega)
   have hxb:=hbd x (zE hx)
   obtain⟨n2,hn2⟩:∃n2,n2=s.H.length:=⟨_,rfl⟩
   have gn2:∀x:Option AObj,(s.H++[x])[n2]?=some x:=fun x=>by rw[hn2];simp
   have g1':∀x:Option AObj,(s.H++[x])[1]?=s.H[1]?:=fun x=>zD l1
   have w6:=ae (c'+x.Amount) (by omega)
   have w7:=ae (p'+x.Amount) (by omega)
   by_cases ck:x.Kind=1
   ·have d:=zC ck
    simp -dsimp -implicitDefEqProofs [go_sem,hP,t27,t29,hx,R5]
    rw[←hn2]
    simp -dsimp -implicitDefEqProofs [go_sem,hP,gn2,d,ck,t6,w6,t29,wj]
    refine⟨D.length-(j+1),by omega,?_⟩
    rw[hJ]
    exact⟨j+1,c'+x.Amount,p',by omega,rfl,by omega,by omega,t2,t4,rfl,t7,t13,t14,t15,t27,t28,rfl,by simp -dsimp[go_sem,g1',g1]⟩
   ·have d:=zA ck
    simp -dsimp -implicitDefEqProofs [go_sem,hP,t27,t29,hx,R5]
    rw[←hn2]
    simp -dsimp -implicitDefEqProofs [go_sem,hP,gn2,d,ck,t7,w7,t29,wj]
    refine⟨D.length-(j+1),by omega,?_⟩
    rw[hJ]
    exact⟨j+1,c',p'+x.Amount,by omega,rfl,by omega,by omega,t2,t4,t6,rfl,t13,t14,t15,t27,t28,rfl,by simp -dsimp[go_sem,g1',g1]⟩
  ·have hj:j=D.length:=by
    have:¬j<D.length:=by simpa using h
    omega
   simp -dsimp -implicitDefEqProofs [go_sem,hP,t15,wk]
   exact nxt _ c' p' (by omega) (by omega) t2 t4 t6 t7 t13 t14 rfl g1
 ·have hk:k=L.length:=by
   have:¬k<L.length:=by simpa using h
   omega
  simp -dsimp -implicitDefEqProofs [go_sem,hP,t6,t7]
  exact aw (aj .sc .sc) ⟨c,p,rfl,by omega,by omega⟩
def kI (s:TSecurity):List Int:=if s.Every=0 then [s.Maturity]else iY s
theorem NR {s:TSecurity} (hs0:fP s=true) {d:Int} (h:d∈kI s):0≤d∧d≤35990:=by
 have so:=nh hs0
 have h1:=so.iss
 have h2:=so.mat
 unfold kI at h
 by_cases he:s.Every=0
 ·rw[if_pos he,zU]at h
  omega
 ·rw[if_neg he]at h
  obtain⟨q,n,hq,hqb,hm,hn,hd⟩:=rT so he
  rw[hd]at h
  obtain⟨i,hi,rfl⟩:=zV.1 h
  have hi:=List.mem_range.1 hi
  have le:=Int.mul_le_mul_of_nonneg_left (show ((i:Int)+1)≤(n:Int) by omega) (show 0≤q by omega)
  have nn:0≤q*((i:Int)+1):=Int.mul_nonneg (by omega) (by omega)
  omega
theorem QI (b:TSecurity) (hs0:fP b=true):PFun Tryz.prog none none 30 [.agg b.cells] (·=aA (kI b)):=by
 have dp:=Dp b hs0
 have ib:=fh b
 rw[cc]at dp ib
 refine ab Tryz.func30 rfl (by simp[Tryz.f30]) (by kernel_rfl) ?_
 intro E hP hr hs hW hN
 by_cases he:b.Every=0
 ·have d:=zC he
  have e:kI b=[b.Maturity]:=by rw[kI,if_pos he]
  rw[e]
  simp[go_sem,hP,cc,d,he]
  refine done (x:=aA [b.Maturity]) ?_ rfl ?_
  ·simp[go_sem]
  ·simp[go_sem,aA]
 ·have d:=zA he
  have e:kI b=iY b:=by rw[kI,if_neg he]
  rw[e]
  simp[go_sem,hP,cc,d,he]
  refine af dp hP TT (by simpa using ib) (eV _) ?_
  simp[go_sem,hP]
  exact aw (eV _) rfl
def BW (a b:Flow):Bool:=decide (a.d<b.d)||(decide (a.d=b.d)&&decide (a.n<b.n))
theorem U8 (a b:Flow):decide (orI [jg a.d b.d,jg a.n b.n]<0)=BW a b:=by
 grind [jg,orI,BW]
theorem LX (a b:Flow):PFun Tryz.prog none none 34 [.agg a.cells,.agg b.cells] (fun r=>∃i:Int,r=iv i∧decide (i<0)=BW a b):=by
 refine ab Tryz.func34 rfl (by simp[Tryz.f34]) (by kernel_rfl) ?_
 intro E hP hr hs hW hN
 simp[go_sem,hP,Flow.cells]
 refine aq (fun _=>true) [] hP (by kernel_rfl) (by kernel_rfl) ?_
 simp[go_sem,hP]
 refine ai (fe a.d b.d) hP rj (ak (by simp[go_sem])) .sc ?_
 simp[go_sem,hP]
 refine ai (fe a.n b.n) hP rj (ak (by simp[go_sem])) .sc ?_
 simp[go_sem,hP]
 refine ai (K0 [jg a.d b.d,jg a.n b.n] (by simp)) hP Kw (ak (by simp[go_sem])) .sc ?_
 simp[go_sem,hP]
 exact U8 a b
theorem UZ:oB Flow.cells BW 34:=by
 refine⟨fun a=>rfl,fun a c h=>?_,Xa,LX⟩
 simp[Flow.cells]at h
 rcases h with rfl|rfl|rfl|rfl<;>exact⟨.sc,rfl⟩
theorem SQ:SOrd BW where
 asym a b h:=by
  simp only[BW,wZ,zG,zI,Bool.or_eq_false_iff,Bool.and_eq_false_iff,wH]at h⊢
  omega
 tr a b c h1 h2:=by
  simp only[BW,Bool.or_eq_false_iff,Bool.and_eq_false_iff,wH]at h1 h2⊢
  omega
def Pf (x:AV):Prop:=∃fs:List Flow,x= .tup [bJ fs,iv 0]∧fs.length≤30∧∀f,f∈fs→bK f=true
theorem LL:∃r,Pf r∧Imm r:=⟨_,⟨[],rfl,by simp,by simp⟩,aj (jq []) .sc⟩
open Go.PA
open Go.RowKit
theorem D1 {H:ah} {id z:Nat} {v x O:Option AObj} (h:H[z]?=some O) (hne:¬id=z):(H.set id v++[x])[z]?=some O:=by
 rw[zD (by rw[wX];exact (gsI h)),zH hne]
 exact h
theorem Qb {H:ah} {z:Nat} {x O:Option AObj} (h:H[z]?=some O):(H++[x])[z]?=some O:=by
 rw[zD (gsI h)]
 exact h
theorem Bt {l:List Flow} {f:Flow} (h:∀x,x∈l→bK x=true) (hf:bK f=true):∀x,x∈l++[f]→bK x=true:=fun x hx=>by
 rcases wA.1 hx with hx|hx
 ·exact h x hx
 ·rw[zU.1 hx];exact hf
theorem KW {p n i:Int} (hp:0≤p∧p≤36000) (hn:0<n∧n≤320000000) (hi:1≤i∧i≤1000):bK ⟨p, -n,4,i⟩=true:=by
 simp only[bK,oL,bV,zG,zI,vQ,wH]
 omega
set_option maxHeartbeats 16000000 in
theorem M6 (r:TRegister) (d0:Int) (ok:RegOk r d0) (hsl:r.Securities.length≤3) (hh:∀x,x∈r.Holdings→0<x.Amount∧x.Amount≤100000) (hdl:∀s,s∈r.Securities→(kI s).length≤5) (lo hi:Int) (h1:0≤lo∧lo≤35990) (h2:0≤hi∧hi≤35990):
  PFun Tryz.prog none none 7 [.agg r.cells,iv lo,iv hi] Pf:=by
 have ck:=LH r d0 ok
 have h4:=ok.hl.len
 have hml:=ok.mlen
 have so:=ok.regIn.so
 have su:=fun (b:TSecurity) (hb:b∈r.Securities) (day:Int)=>Qk r b day (so b hb) hh (by omega)
 have b1:=eZ h1
 have b2:=eZ h2
 have ir:=dI r
 rw[bP]at ck ir
 simp only[bP]at su
 refine ab Tryz.func7 rfl (by simp[Tryz.f7]) (by kernel_rfl) ?_
 intro E hP hr hs hW hN
 simp -dsimp -implicitDefEqProofs [-getElem?_pos,go_sem,hP,bP]
 refine af ck hP Wy (by simpa using ir) .sc ?_
 simp -dsimp -implicitDefEqProofs [-getElem?_pos,go_sem,hP]
 refine ai (rL lo 0 35990) hP N0 (ak (by simp -dsimp[-getElem?_pos,go_sem])) .sc ?_
 simp -dsimp -implicitDefEqProofs [-getElem?_pos,go_sem,hP,b1]
 refine ai (rL hi 0 35990) hP N0 (ak (by simp -dsimp[-getElem?_pos,go_sem])) .sc ?_
 obtain⟨S,hS⟩:∃S,S=r.Securities:=⟨_,rfl⟩
 obtain⟨Lh,hLh⟩:∃Lh,Lh=bn r.Holdings:=⟨_,rfl⟩
 obtain⟨Lm,hLm⟩:∃Lm,Lm=fQ r.Moves:=⟨_,rfl⟩
 rw[←hS,←hLh,←hLm]at ir⊢
 rw[←hS]at hsl hdl so
 simp only[←hS,←hLh,←hLm]at su
 simp -dsimp -implicitDefEqProofs [-getElem?_pos,go_sem,hP,b2,ar]
 refine cV 9 97 4 rfl ?_
 obtain⟨I,hI⟩:∃I:Nat→St→Prop,I=fun m s=>∃(k id:Nat) (l:List Flow),k≤S.length∧m=S.length-k∧¬id=0∧l.length≤10*k∧(∀f,f∈l→bK f=true)∧s.t 1=iv lo∧s.t 2=iv hi∧s.t 3= .ref 0 0 0∧s.t 9= .sref id 0 l.length∧s.t 34=bZ S∧s.t 35=iv S.length∧s.t 36=iv k∧s.H[0]?=some (some ⟨42,3,[[bZ S,Lh,Lm]]⟩)∧s.H[id]?=some (ke l):=⟨_,rfl⟩
 refine az I (S.length) (by rw[hN];rfl) ?_ ?_
 ·rw[hI]
  exact⟨0,1,[],by omega,by omega,by omega,by simp,by simp,rfl,rfl,rfl,rfl,rfl,by simp -dsimp[-getElem?_pos,go_sem,ar],rfl,rfl,by simp -dsimp[-getElem?_pos,go_sem,ao]⟩
 intro m s hs'
 rw[hI]at hs'
 obtain⟨k,id,l,hk,hm,hid,hll,hv,t1,t2,t3,t9,t34,t35,t36,g0,gi⟩:=hs'
 have l0:=(gsI g0)
 have li:=(gsI gi)
 simp -dsimp -implicitDefEqProofs [-getElem?_pos,go_sem,hP,t35,t36]
 refine aB ?_ ?_<;>intro h
 rotate_left
 ·have hk:k=S.length:=by
   have:¬k<S.length:=by simpa using h
   omega
  have d:decide ((400:Int)<(l.length:Int))=false:=zA (by omega)
  have d':¬400<l.length:=by omega
  simp -dsimp -implicitDefEqProofs [-getElem?_pos,go_sem,hP,t9,gi,ar,d,d']
  refine aI (mw Flow.cells BW _ UZ SQ l s.H id l.length rfl (by omega) gi) hP (by kernel_rfl) ?_
  rintro x H' rfl
  simp -dsimp -implicitDefEqProofs [-getElem?_pos,go_sem,hP,t9]
  have e5:=fL Flow.cells (dx BW l) l.length (by rw[eu])
  refine done (x:= .tup [bJ (dx BW l),iv 0]) ?_ ⟨_,rfl,by rw[eu];omega,fun f hf=>hv f (C5.1 hf)⟩ ?_
  ·simp -dsimp -implicitDefEqProofs [-getElem?_pos,go_sem,li,e5]
   exact dv.1 (aY Flow.cells (k:=4) sN _)
  ·simp -dsimp -implicitDefEqProofs [-getElem?_pos,go_sem,li,e5]
   rfl
 have hk:k<S.length:=by simpa using h
 obtain⟨b,hb⟩:=gkE hk
 have hbm:=zE hb
 have wk:=ae ((k:Int)+1) (by omega)
 have hs0:=so b hbm
 have hid':=(nh hs0).id
 have lds:=hdl b hbm
 have hds:=fun d (h:d∈kI b)=>NR hs0 h
 have dp:=QI b hs0
 have iD:=eV (kI b)
 have ib:=fh b
 have sb:=su b hbm
 simp only[cc]at sb
 rw[cc]at dp ib
 obtain⟨ds,hdse⟩:∃ds,ds=kI b:=⟨_,rfl⟩
 rw[←hdse]at lds hds dp iD
 obtain⟨nb,hnb⟩:∃nb,nb=s.H.length:=⟨_,rfl⟩
 have gnb:∀x:Option AObj,(s.H++[x])[nb]?=some x:=fun x=>by rw[hnb];simp
 have nxt:∀(s':St) (id':Nat) (l':List Flow),¬id'=0→l'.length≤10*(k+1)→(∀f,f∈l'→bK f=true)→s'.t 1=iv lo→s'.t 2=iv hi→s'.t 3= .ref 0 0 0→s'.t 9= .sref id' 0 l'.length→s'.t 34=bZ S→s'.t 35=iv S.length→s'.t 36=iv ((k:Int)+1)→s'.H[0]?=some (some ⟨42,3,[[bZ S,Lh,Lm]]⟩)→s'.H[id']?=some (ke l')→∃n',n'<m∧I n' s':=fun s' id' l' a1 a2 a3 a4 a5 a6 a7 a8 a9 a10 a11 a12=>by
  refine⟨S.length-(k+1),by omega,?_⟩
  rw[hI]
  exact⟨k+1,id',l',by omega,rfl,a1,a2,a3,a4,a5,a6,a7,a8,a9,a10.trans rfl,a11,a12⟩
 simp -dsimp -implicitDefEqProofs [-getElem?_pos,go_sem,hP,t34,t36,hb,cc]
 rw[←hnb]
 refine af dp hP WM (by simpa using ib) iD ?_
 simp -dsimp -implicitDefEqProofs [-getElem?_pos,go_sem,hP,aA]
 obtain⟨J,hJ⟩:∃I:Nat→St→Prop,I=fun m s=>∃(j id:Nat) (l:List Flow),j≤ds.length∧m=ds.length-j∧¬id=0∧¬id=nb∧l.length≤10*k+2*j∧(∀f,f∈l→bK f=true)∧s.t 1=iv lo∧s.t 2=iv hi∧s.t 3= .ref 0 0 0∧s.t 9= .sref id 0 l.length∧s.t 11= .ref nb 0 0∧s.t 34=bZ S∧s.t 35=iv S.length∧s.t 36=iv k∧s.t 41=aA ds∧s.t 42=iv ds.length∧s.t 43=iv j∧s.H[0]?=some (some ⟨42,3,[[bZ S,Lh,Lm]]⟩)∧s.H[nb]?=some (some ⟨86,7,[[iv b.ID,iv b.Unit,iv b.Issued,iv b.Maturity,iv b.Rate,iv b.Every,bv b.Indexed]]⟩)∧s.H[id]?=some (ke l):=⟨_,rfl⟩
 refine az J (ds.length) (by rw[hN];rfl) ?_ ?_
 ·rw[hJ]
  exact⟨0,id,l,by omega,by omega,hid,by omega,by omega,hv,t1,t2,t3,t9,rfl,t34,t35,t36,by simp -dsimp[-getElem?_pos,go_sem,aA],rfl,rfl,by simp -dsimp[-getElem?_pos,go_sem];exact Qb g0,by simp -dsimp[-getElem?_pos,go_sem,gnb],by simp -dsimp[-getElem?_pos,go_sem];exact Qb gi⟩
 have nb0:¬nb=0:=by omega
 clear t1 t2 t3 t9 t34 t35 t36 g0 gi li l0 hnb gnb h hv hll hid
 intro m s hs'
 rw[hJ]at hs'
 obtain⟨j,id,l,hj,hmj,hid,hidb,hll,hv,t1,t2,t3,t9,t11,t34,t35,t36,t41,t42,t43,g0,gb,gi⟩:=hs'
 have l0:=(gsI g0)
 have lb:=(gsI gb)
 have li:=(gsI gi)
 simp -dsimp -implicitDefEqProofs [-getElem?_pos,go_sem,hP,t42,t43]
 refine aB ?_ ?_<;>intro h
 rotate_left
 ·have hj:j=ds.length:=by
   have:¬j<ds.length:=by simpa using h
   omega
  simp -dsimp -implicitDefEqProofs [-getElem?_pos,go_sem,hP,t36,wk]
  exact nxt _ id l hid (by omega) hv t1 t2 t3 t9 t34 t35 rfl g0 gi
 have hj:j<ds.length:=by simpa using h
 obtain⟨d,hd⟩:=gkE hj
 have hdm:=hds d (zE hd)
 have wj:=ae ((j:Int)+1) (by omega)
 have nxj:∀(s':St) (id':Nat) (l':List Flow),¬id'=0→¬id'=nb→l'.length≤10*k+2*(j+1)→(∀f,f∈l'→bK f=true)→s'.t 1=iv lo→s'.t 2=iv hi→s'.t 3= .ref 0 0 0→s'.t 9= .sref id' 0 l'.length→s'.t 11= .ref nb 0 0→s'.t 34=bZ S→s'.t 35=iv S.length→s'.t 36=iv k→s'.t 41=aA ds→s'.t 42=iv ds.length→s'.t 43=iv ((j:Int)+1)→s'.H[0]?=some (some ⟨42,3,[[bZ S,Lh,Lm]]⟩)→s'.H[nb]?=some (some ⟨86,7,[[iv b.ID,iv b.Unit,iv b.Issued,iv b.Maturity,iv b.Rate,iv b.Every,bv b.Indexed]]⟩)→s'.H[id']?=some (ke l')→∃n',n'<m∧J n' s':=fun s' id' l' a1 a2 a3 a4 a5 a6 a7 a8 a9 a10 a11 a12 a13 a14 a15 a16 a17 a18=>by
  refine⟨ds.length-(j+1),by omega,?_⟩
  rw[hJ]
  exact⟨j+1,id',l',by omega,rfl,a1,a2,a3,a4,a5,a6,a7,a8,a9,a10,a11,a12,a13,a14,a15.trans rfl,a16,a17,a18⟩
 simp -dsimp -implicitDefEqProofs [-getElem?_pos,go_sem,hP,t41,t43,hd,aA,t1,t2]
 refine ai (rL d lo hi) hP N0 (ak (by simp -dsimp[-getElem?_pos,go_sem])) .sc ?_
 cases hbt:bet d lo hi
 ·simp -dsimp -implicitDefEqProofs [-getElem?_pos,go_sem,hP,t43,wj]
  exact nxj _ id l hid hidb (by omega) hv t1 t2 t3 t9 t11 t34 t35 t36 t41 t42 rfl g0 gb gi
 simp -dsimp -implicitDefEqProofs [-getElem?_pos,go_sem,hP]
 refine aJ ((Hd d hdm).lift _ _) hP OZ (by simp[an]) (aj .sc .sc) ?_
 have hpd:=nZ d
 obtain⟨paid,hpaid⟩:∃paid,paid=iW d:=⟨_,rfl⟩
 rw[←hpaid]at hpd⊢
 have hpd:0≤paid∧paid≤36000:=by omega
 simp -dsimp -implicitDefEqProofs [-getElem?_pos,go_sem,hP,t3,g0,l0,t11,gb,lb]
 refine aC ((sb d).lift _ _) hP Wk (by simpa[an]using⟨ir,ib⟩) SC ?_
 rintro x ⟨c,p,rfl,hc,hp⟩ _
 simp -dsimp -implicitDefEqProofs [-getElem?_pos,go_sem,hP]
 obtain⟨K,hK⟩:∃I:Nat→St→Prop,I=fun m s=>∃(i id:Nat) (l:List Flow),i≤2∧m=2-i∧¬id=0∧¬id=nb∧l.length≤10*k+2*j+i∧(∀f,f∈l→bK f=true)∧s.t 1=iv lo∧s.t 2=iv hi∧s.t 3= .ref 0 0 0∧s.t 9= .sref id 0 l.length∧s.t 11= .ref nb 0 0∧s.t 14=iv paid∧s.t 34=bZ S∧s.t 35=iv S.length∧s.t 36=iv k∧s.t 41=aA ds∧s.t 42=iv ds.length∧s.t 43=iv j∧s.t 66= .list 1 [[iv c],[iv p]]∧s.t 67=iv 2∧s.t 68=iv i∧s.H[0]?=some (some ⟨42,3,[[bZ S,Lh,Lm]]⟩)∧s.H[nb]?=some (some ⟨86,7,[[iv b.ID,iv b.Unit,iv b.Issued,iv b.Maturity,iv b.Rate,iv b.Every,bv b.Indexed]]⟩)∧s.H[id]?=some (ke l):=⟨_,rfl⟩
 refine az K (2) (by rw[hN];rfl) ?_ ?_
 ·rw[hK]
  exact⟨0,id,l,by omega,by omega,hid,hidb,by omega,hv,t1,t2,t3,t9,t11,rfl,t34,t35,t36,t41,t42,t43,rfl,rfl,rfl,g0,gb,gi⟩
 clear t1 t2 t3 t9 t11 t34 t35 t36 t41 t42 t43 g0 gb gi li l0 lb h hv hll hid hidb
 intro m s hs'
 rw[hK]at hs'
 obtain⟨i,id,l,hi3,hmi,hid,hidb,hll,hv,t1,t2,t3,t9,t11,t14,t34,t35,t36,t41,t42,t43,t66,t67,t68,g0,gb,gi⟩:=hs'
 have l0:=(gsI g0)
 have lb:=(gsI gb)
 have li:=(gsI gi)
 by_cases i2:i=2
 ·subst i2
  simp -dsimp -implicitDefEqProofs [-getElem?_pos,go_sem,hP,t67,t68,t43,wj]
  exact nxj _ id l hid hidb (by omega) hv t1 t2 t3 t9 t11 t34 t35 t36 t41 t42 rfl g0 gb gi
 ·have i01:i=0∨i=1:=by omega
  rcases i01 with rfl|rfl
  ·have w:=ae (-c) (by omega)
   have w1:IntKind.i64.wrap 1=1:=by decide
   have app:ao Flow.cells l++[[iv paid,iv (-c),iv 4,iv b.ID]]=ao Flow.cells (l++[⟨paid, -c,4,b.ID⟩]):=aX Flow.cells l ⟨paid, -c,4,b.ID⟩
   by_cases c0:0<c
   ·have d:=zC c0
    simp -dsimp -implicitDefEqProofs [-getElem?_pos,go_sem,hP,t66,t67,t68,d,c0,t9,t14,t11,gb,lb,gi,li,ar,app,w,w1]
    refine⟨by omega,by omega,1,by omega,?_⟩
    rw[hK]
    refine⟨1,s.H.length,l++[⟨paid, -c,4,b.ID⟩],by omega,by omega,by omega,by omega,by simp;omega,Bt hv (KW hpd (by omega) hid'),t1,t2,t3,by simp -dsimp[-getElem?_pos,go_sem],t11,t14,t34,t35,t36,t41,t42,t43,t66,t67,rfl,?_,?_,by simp -dsimp[-getElem?_pos,go_sem]⟩
    ·simp -dsimp -implicitDefEqProofs [-getElem?_pos,go_sem]
     exact D1 g0 hid
    ·simp -dsimp -implicitDefEqProofs [-getElem?_pos,go_sem]
     exact D1 gb hidb
   ·have d:=zA c0
    simp -dsimp -implicitDefEqProofs [-getElem?_pos,go_sem,hP,t66,t67,t68,d,c0,w1]
    refine⟨1,by omega,?_⟩
    rw[hK]
    exact⟨1,id,l,by omega,by omega,hid,hidb,by omega,hv,t1,t2,t3,t9,t11,t14,t34,t35,t36,t41,t42,t43,t66,t67,rfl,g0,gb,gi⟩
  ·have w:=ae (-p) (by omega)
   have w1:IntKind.i64.wrap 2=2:=by decide
   have app:ao Flow.cells l++[[iv paid,iv (-p),iv 4,iv b.ID]]=ao Flow.cells (l++[⟨paid, -p,4,b.ID⟩]):=aX Flow.cells l ⟨paid, -p,4,b.ID⟩
   by_cases c0:0<p
   ·have d:=zC c0
    simp -dsimp -implicitDefEqProofs [-getElem?_pos,go_sem,hP,t66,t67,t68,d,c0,t9,t14,t11,gb,lb,gi,li,ar,app,w,w1]
    refine⟨by omega,by omega,0,by omega,?_⟩
    rw[hK]
    refine⟨2,s.H.length,l++[⟨paid, -p,4,b.ID⟩],by omega,by omega,by omega,by omega,by simp;omega,Bt hv (KW hpd (by omega) hid'),t1,t2,t3,by simp -dsimp[-getElem?_pos,go_sem],t11,t14,t34,t35,t36,t41,t42,t43,t66,t67,rfl,?_,?_,by simp -dsimp[-getElem?_pos,go_sem]⟩
    ·simp -dsimp -implicitDefEqProofs [-getElem?_pos,go_sem]
     exact D1 g0 hid
    ·simp -dsimp -implicitDefEqProofs [-getElem?_pos,go_sem]
     exact D1 gb hidb
   ·have d:=zA c0
    simp -dsimp -implicitDefEqProofs [-getElem?_pos,go_sem,hP,t66,t67,t68,d,c0,w1]
    refine⟨0,by omega,?_⟩
    rw[hK]
    exact⟨2,id,l,by omega,by omega,hid,hidb,by omega,hv,t1,t2,t3,t9,t11,t14,t34,t35,t36,t41,t42,t43,t66,t67,rfl,g0,gb,gi⟩
open Go.PA
open Go.RowKit
structure SecG (id:Int) (b:TSecurity):Prop where
 ok:fP b=true
 id:b.ID=id
 dl:(kI b).length≤5
theorem qv {id u i M rt e q k:Int} {x:Bool} (h:1≤id∧id≤3) (hu:u=1∨u=10∨u=100) (hi:0≤i∧i≤100) (hr:0≤rt∧rt≤5000) (hk:1≤k∧k≤5) (hM:M=i+30*q*k)
  (he:(e=0∧q=1∧rt=0)∨(e=1∧q=1)∨(e=3∧q=3)∨(e=6∧q=6)∨(e=12∧q=12)):SecG id ⟨id,u,i,M,rt,e,x⟩:=by
 have bd:30≤30*q*k∧30*q*k≤1800:=by rcases he with⟨_,rfl,_⟩|⟨_,rfl⟩|⟨_,rfl⟩|⟨_,rfl⟩|⟨_,rfl⟩<;>omega
 have hd:M-i=30*q*k:=by omega
 refine⟨?_,rfl,?_⟩
 ·unfold fP
  rw[zG,zI]
  refine⟨⟨by dsimp only;omega,by dsimp only;omega,by dsimp only;omega,by dsimp only;omega,by dsimp only;omega⟩,?_⟩
  dsimp only
  rw[hd]
  rcases he with⟨rfl,rfl,rfl⟩|⟨rfl,rfl⟩|⟨rfl,rfl⟩|⟨rfl,rfl⟩|⟨rfl,rfl⟩<;>simp<;>omega
 ·unfold kI iY
  dsimp only
  rw[hd]
  rcases he with⟨rfl,rfl,rfl⟩|⟨rfl,rfl⟩|⟨rfl,rfl⟩|⟨rfl,rfl⟩|⟨rfl,rfl⟩<;>simp<;>omega
def Xh (id:Int) (x:AV):Prop:=∃b:TSecurity,x= .agg b.cells∧SecG id b
theorem Sk {id:Int} (h:1≤id∧id≤3):∃r,Xh id r∧Imm r:=⟨_,⟨⟨id,1,0,30,0,0,false⟩,rfl,qv (q:=1) (k:=1) h (.inl rfl) (by omega) (by omega) (by omega) rfl (.inl ⟨rfl,rfl,rfl⟩)⟩,fh _⟩
set_option maxHeartbeats 8000000 in
theorem EI (p:Nat) (src:Option Nat) (id:Int) (hi:1≤id∧id≤3):PFun Tryz.prog (some p) src 26 [sp p,iv id] (Xh id):=by
 refine ab Tryz.func26 rfl (by simp[Tryz.f26]) (by kernel_rfl) ?_
 intro E hP hr hs hW hN
 have up:∀{f:FuncId} {args:List AV} {Q:AV→Prop},PFun Tryz.prog (some p) src f args Q→PFun Tryz.prog E.row E.src f args Q:=fun h=>hr▸hs▸h
 have PK:∀xs:List Int,1≤xs.length∧xs.length≤1000→PFun Tryz.prog E.row E.src 14 [sp p,aA xs] (PQ xs):=fun xs h=>up (pP p src xs h)
 simp -dsimp -implicitDefEqProofs [go_sem,hP]
 refine aC (PK [1,10,100] (by simp)) hP i7 (by simp -dsimp[-getElem?_pos,go_sem]) (oq (by simp)) ?_
 rintro r ⟨u,rfl,hu⟩ _
 simp -dsimp -implicitDefEqProofs [go_sem,hP]
 refine aC (PK [0,30,90,100] (by simp)) hP i7 (by simp -dsimp[-getElem?_pos,go_sem]) (oq (by simp)) ?_
 rintro r ⟨i,rfl,hi0⟩ _
 simp -dsimp -implicitDefEqProofs [go_sem,hP]
 refine aC (PK [0,1000,2500,5000] (by simp)) hP i7 (by simp -dsimp[-getElem?_pos,go_sem]) (oq (by simp)) ?_
 rintro r ⟨rt,rfl,hr0⟩ _
 simp -dsimp -implicitDefEqProofs [go_sem,hP]
 refine aC (PK [0,1,3,6,12] (by simp)) hP i7 (by simp -dsimp[-getElem?_pos,go_sem]) (oq (by simp)) ?_
 rintro r ⟨e,rfl,he⟩ _
 simp -dsimp -implicitDefEqProofs [go_sem,hP]
 refine aC (up (sT p src 2 (by omega))) hP kH (by simp -dsimp[-getElem?_pos,go_sem]) (Da _) ?_
 rintro r ⟨z,rfl,_,_⟩ _
 simp only[zO,wC,or_false]at hu hi0 hr0 he
 have fin:∀d:TSecurity,Imm (.agg d.cells):=fun d=>fh d
 have RG:PFun Tryz.prog E.row E.src 24 [sp p,iv 1,iv 5] (RQ 1 5):=up (kj p src 1 5 (by omega) (by omega))
 rcases he with rfl|rfl|rfl|rfl|rfl
 ·simp -dsimp -implicitDefEqProofs [go_sem,hP,mO,cX]
  refine aq (fun _=>true) [11] hP (by kernel_rfl) (by kernel_rfl) ?_
  simp -dsimp -implicitDefEqProofs [go_sem,hP,mO,cX]
  refine aC RG hP lK (by simp -dsimp[-getElem?_pos,go_sem]) (oy (by omega)) ?_
  rintro r ⟨k,rfl,hk⟩ _
  have w1:=ae (30*k) (by omega)
  have w2:=ae (i+30*k) (by omega)
  have w3:IntKind.i64.wrap (30*max 0 1)=30:=by decide
  have w4:=ae 30 (by omega)
  simp -dsimp -implicitDefEqProofs [go_sem,hP,w1,w2,w3,w4]
  exact aw (fin ⟨id,u,i,i+30*k,0,0,decide (z=1)⟩) ⟨_,rfl,qv (q:=1) (k:=k) hi (by omega) (by omega) (by omega) hk (by omega) (by omega)⟩
 ·simp -dsimp -implicitDefEqProofs [go_sem,hP,mO,cX]
  refine aq (fun _=>true) [11] hP (by kernel_rfl) (by kernel_rfl) ?_
  simp -dsimp -implicitDefEqProofs [go_sem,hP,mO,cX]
  refine aC RG hP lK (by simp -dsimp[-getElem?_pos,go_sem]) (oy (by omega)) ?_
  rintro r ⟨k,rfl,hk⟩ _
  have w1:=ae (30*k) (by omega)
  have w2:=ae (i+30*k) (by omega)
  have w3:IntKind.i64.wrap (30*max 1 1)=30:=by decide
  have w4:=ae 30 (by omega)
  simp -dsimp -implicitDefEqProofs [go_sem,hP,w1,w2,w3,w4]
  exact aw (fin ⟨id,u,i,i+30*k,rt,1,decide (z=1)⟩) ⟨_,rfl,qv (q:=1) (k:=k) hi (by omega) (by omega) (by omega) hk (by omega) (by omega)⟩
 ·simp -dsimp -implicitDefEqProofs [go_sem,hP,mO,cX]
  refine aq (fun _=>true) [11] hP (by kernel_rfl) (by kernel_rfl) ?_
  simp -dsimp -implicitDefEqProofs [go_sem,hP,mO,cX]
  refine aC RG hP lK (by simp -dsimp[-getElem?_pos,go_sem]) (oy (by omega)) ?_
  rintro r ⟨k,rfl,hk⟩ _
  have w1:=ae (90*k) (by omega)
  have w2:=ae (i+90*k) (by omega)
  have w3:IntKind.i64.wrap (30*max 3 1)=90:=by decide
  have w4:=ae 90 (by omega)
  simp -dsimp -implicitDefEqProofs [go_sem,hP,w1,w2,w3,w4]
  exact aw (fin ⟨id,u,i,i+90*k,rt,3,decide (z=1)⟩) ⟨_,rfl,qv (q:=3) (k:=k) hi (by omega) (by omega) (by omega) hk (by omega) (by omega)⟩
 ·simp -dsimp -implicitDefEqProofs [go_sem,hP,mO,cX]
  refine aq (fun _=>true) [11] hP (by kernel_rfl) (by kernel_rfl) ?_
  simp -dsimp -implicitDefEqProofs [go_sem,hP,mO,cX]
  refine aC RG hP lK (by simp -dsimp[-getElem?_pos,go_sem]) (oy (by omega)) ?_
  rintro r ⟨k,rfl,hk⟩ _
  have w1:=ae (180*k) (by omega)
  have w2:=ae (i+180*k) (by omega)
  have w3:IntKind.i64.wrap (30*max 6 1)=180:=by decide
  have w4:=ae 180 (by omega)
  simp -dsimp -implicitDefEqProofs [go_sem,hP,w1,w2,w3,w4]
  exact aw (fin ⟨id,u,i,i+180*k,rt,6,decide (z=1)⟩) ⟨_,rfl,qv (q:=6) (k:=k) hi (by omega) (by omega) (by omega) hk (by omega) (by omega)⟩
 ·simp -dsimp -implicitDefEqProofs [go_sem,hP,mO,cX]
  refine aq (fun _=>true) [11] hP (by kernel_rfl) (by kernel_rfl) ?_
  simp -dsimp -implicitDefEqProofs [go_sem,hP,mO,cX]
  refine aC RG hP lK (by simp -dsimp[-getElem?_pos,go_sem]) (oy (by omega)) ?_
  rintro r ⟨k,rfl,hk⟩ _
  have w1:=ae (360*k) (by omega)
  have w2:=ae (i+360*k) (by omega)
  have w3:IntKind.i64.wrap (30*max 12 1)=360:=by decide
  have w4:=ae 360 (by omega)
  simp -dsimp -implicitDefEqProofs [go_sem,hP,w1,w2,w3,w4]
  exact aw (fin ⟨id,u,i,i+360*k,rt,12,decide (z=1)⟩) ⟨_,rfl,qv (q:=12) (k:=k) hi (by omega) (by omega) (by omega) hk (by omega) (by omega)⟩
open Go.PA
open Go.RowKit
abbrev SA (r:TRegister):AObj:=⟨42,3,[[bZ r.Securities,bn r.Holdings,fQ r.Moves]]⟩
abbrev PN:AObj:=⟨42,3,[[.nil,.nil,.nil]]⟩
def TJ (n:Nat) (r:TRegister) (day:Int) (x:AV):Prop:=∃(y:TRegister) (dd:Int),x= .tup [.agg y.cells,iv dd]∧GenR (n+1) y∧y.Securities=r.Securities∧0≤dd∧dd≤day+130
theorem Qx {n:Nat} {r:TRegister} {day:Int} (h:GenR n r) (hd:0≤day):∃x,TJ n r day x∧Imm x:=⟨_,⟨r,day,rfl,h.mono (by omega),rfl,hd,by omega⟩,aj (dI r) .sc⟩
set_option maxHeartbeats 16000000 in
theorem Ru (p:Nat) (src:Option Nat) (n:Nat) (hn:n≤50) (r:TRegister) (day:Int) (hg:GenR n r) (hd:0≤day∧day≤1000000):PFun Tryz.prog (some p) src 27 [sp p,.agg r.cells,iv day] (TJ n r day):=by
 refine ee Tryz.func27 rfl (by simp[Tryz.f27]) ?_
 intro E hP hr hs hW hN
 have up:∀{f:FuncId} {args:List AV} {Q:AV→Prop},PFun Tryz.prog (some p) src f args Q→PFun Tryz.prog E.row E.src f args Q:=fun h=>hr▸hs▸h
 have PK:∀xs:List Int,1≤xs.length∧xs.length≤1000→PFun Tryz.prog E.row E.src 14 [sp p,aA xs] (PQ xs):=fun xs h=>up (pP p src xs h)
 have RG:∀lo hi:Int, -1000000000000000000≤lo∧lo≤hi→hi≤1000000000000000000→PFun Tryz.prog E.row E.src 24 [sp p,iv lo,iv hi] (RQ lo hi):=fun lo hi h1 h2=>up (kj p src lo hi h1 h2)
 have ir:=dI r
 have ok:=hg.ok
 have ml:=hg.ml
 rw[bP]at ir
 refine aM (by rw[hN];kernel_rfl) ?_
 simp -dsimp -implicitDefEqProofs [go_sem,hP,bP]
 refine aM (by rw[hN];kernel_rfl) ?_
 simp -dsimp -implicitDefEqProofs [go_sem,hP]
 refine aC (PK [0,0,1,30] (by simp)) hP i7 (by simp -dsimp[-getElem?_pos,go_sem]) (oq (by simp)) ?_
 rintro x ⟨z0,rfl,hz0⟩ _
 simp only[zO,wC,or_false]at hz0
 have w0:=ae (day+z0) (by omega)
 simp -dsimp -implicitDefEqProofs [go_sem,hP,w0]
 obtain⟨nx,hnx⟩:∃nx,nx=day+z0:=⟨_,rfl⟩
 rw[←hnx]
 refine aM (by rw[hN];kernel_rfl) ?_
 simp -dsimp -implicitDefEqProofs [go_sem,hP]
 refine aC (RG 1 3 (by omega) (by omega)) hP lK (by simp -dsimp[-getElem?_pos,go_sem]) (oy (by omega)) ?_
 rintro x ⟨id,rfl,hid⟩ _
 simp -dsimp -implicitDefEqProofs [go_sem,hP]
 refine aC (RG 1 4 (by omega) (by omega)) hP lK (by simp -dsimp[-getElem?_pos,go_sem]) (oy (by omega)) ?_
 rintro x ⟨a,rfl,ha⟩ _
 simp -dsimp -implicitDefEqProofs [go_sem,hP]
 refine aC (RG 1 4 (by omega) (by omega)) hP lK (by simp -dsimp[-getElem?_pos,go_sem]) (oy (by omega)) ?_
 rintro x ⟨b,rfl,hb⟩ _
 simp -dsimp -implicitDefEqProofs [go_sem,hP]
 refine aC (PK [100,300,1000,5000] (by simp)) hP i7 (by simp -dsimp[-getElem?_pos,go_sem]) (oq (by simp)) ?_
 rintro x ⟨v,rfl,hv⟩ _
 simp only[zO,wC,or_false]at hv
 simp -dsimp -implicitDefEqProofs [go_sem,hP]
 refine aM (by rw[hN];kernel_rfl) ?_
 simp -dsimp -implicitDefEqProofs [go_sem,hP]
 refine aM (by rw[hN];kernel_rfl) ?_
 simp -dsimp -implicitDefEqProofs [go_sem,hP]
 obtain⟨Inv,hInv⟩:∃Inv:St→Prop,Inv=fun s=>∃(y:TRegister) (e dd:Int),(e=0→GenR (n+1) y∧y.Securities=r.Securities)∧(0≤dd∧dd≤day+130)∧s.t 2=iv day∧s.t 4= .ref 0 0 0∧s.t 6= .ref 1 0 0∧s.t 8=iv dd∧s.t 13= .ref 2 0 0∧s.t 14=iv e∧s.H[0]?=some (some (SA r))∧s.H[1]?=some (some PN)∧s.H[2]?=some (some (SA y)):=⟨_,rfl⟩
 refine eN Inv (by rw[hN];kernel_rfl) ?_ ?_
 rotate_left
 ·intro s hs'
  rw[hInv]at hs'
  obtain⟨y,e,dd,he,hdd,t2,t4,t6,t8,t13,t14,g0,g1,g4⟩:=hs'
  have l0:=(gsI g0)
  have l1:=(gsI g1)
  have l4:=(gsI g4)
  have iy:=dI y
  rw[bP]at iy
  refine be _ _ _ (by rw[hN];kernel_rfl) ?_
  by_cases c:e=0
  ·have dc:decide (e=0)=true:=zC c
   simp -dsimp -implicitDefEqProofs [-getElem?_pos,go_sem,hP,t14,c,t13,g4,l4,t8,t6,g1,l1]
   exact aw (aj iy .sc) ⟨y,dd,rfl,(he c).1,(he c).2,hdd.1,hdd.2⟩
  ·have dc:decide (e=0)=false:=zA c
   simp -dsimp -implicitDefEqProofs [-getElem?_pos,go_sem,hP,t14,c,dc,t4,g0,l0,t2,t6,g1,l1]
   exact aw (aj ir .sc) ⟨r,day,rfl,hg.mono (by omega),rfl,by omega,by omega⟩
 have step:∀m:TMove,m.Number=(r.Moves.length:Int)+1→(1≤m.Kind∧m.Kind≤3)→m.Amount=v→∃(y:TRegister) (e:Int),yr r m= .tup [.agg y.cells,iv e]∧(e=0→GenR (n+1) y∧y.Securities=r.Securities):=fun m h1 h2 h3=>by
  refine⟨_,_,rfl,fun e=>?_⟩
  rw[if_pos e]
  exact⟨LW hg e h1 h2 (by omega) (by omega),rfl⟩
 have am:mO [iv nx,iv 100]=some (iv (max nx 100)):=by simp[mO,cX]
 simp -dsimp -implicitDefEqProofs [go_sem,hP]
 refine aC (up (sT p src 6 (by omega))) hP kH (by simp[go_sem]) (Da _) ?_
 rintro x ⟨z,rfl,_,hz⟩ _
 by_cases c1:z=0∨z=1∨z=2
 ·have ch:=J8 r (max nx 100) id a v ok (by omega)
  obtain⟨y,e,hy,he⟩:=step (fW r (max nx 100) 1 id 0 a v) rfl (by simp[fW]) rfl
  have iy:=dI y
  rw[hy,bP,bP]at ch
  rw[bP]at iy
  rcases c1 with rfl|rfl|rfl
  all_goals
   simp -dsimp -implicitDefEqProofs [go_sem,hP,am]
   refine af ch hP WL (by simpa[an]using ir) (aj iy .sc) ?_
   simp -dsimp -implicitDefEqProofs [go_sem,hP,am]
   refine⟨_,Weaker.refl _,?_⟩
   rw[hInv]
   exact⟨y,e,max nx 100,he,by omega,rfl,rfl,rfl,rfl,rfl,rfl,rfl,rfl,rfl⟩
 have n0:¬z=0:=fun h=>c1 (.inl h)
 have n1:¬z=1:=fun h=>c1 (.inr (.inl h))
 have n2:¬z=2:=fun h=>c1 (.inr (.inr h))
 by_cases c2:z=3∨z=4
 ·have ch:=Cs r nx id a b v ok (by omega)
  obtain⟨y,e,hy,he⟩:=step (fW r nx 2 id a b v) rfl (by simp[fW]) rfl
  have iy:=dI y
  rw[hy,bP,bP]at ch
  rw[bP]at iy
  rcases c2 with rfl|rfl
  all_goals
   simp -dsimp -implicitDefEqProofs [go_sem,hP]
   refine af ch hP Wv (by simpa[an]using ir) (aj iy .sc) ?_
   simp -dsimp -implicitDefEqProofs [go_sem,hP]
   refine⟨_,Weaker.refl _,?_⟩
   rw[hInv]
   exact⟨y,e,nx,he,by omega,rfl,rfl,rfl,rfl,rfl,rfl,rfl,rfl,rfl⟩
 have n3:¬z=3:=fun h=>c2 (.inl h)
 have n4:¬z=4:=fun h=>c2 (.inr h)
 have d0:=zA n0
 have d1:=zA n1
 have d2:=zA n2
 have d3:=zA n3
 have d4:=zA n4
 have ch:=Ga r nx id a v ok (by omega)
 obtain⟨y,e,hy,he⟩:=step (fW r nx 3 id a 0 v) rfl (by simp[fW]) rfl
 have iy:=dI y
 rw[hy,bP,bP]at ch
 rw[bP]at iy
 simp -dsimp -implicitDefEqProofs [go_sem,hP,d0,d1,d2,d3,d4,n0,n1,n2,n3,n4]
 refine af ch hP WQ (by simpa[an]using ir) (aj iy .sc) ?_
 simp -dsimp -implicitDefEqProofs [go_sem,hP]
 refine⟨_,Weaker.refl _,?_⟩
 rw[hInv]
 exact⟨y,e,nx,he,by omega,rfl,rfl,rfl,rfl,rfl,rfl,rfl,rfl,rfl⟩
open Go.PA
open Go.RowKit
def Wm (n:Nat) (x:AV):Prop:=∃(y:TRegister) (dd:Int),x= .tup [.agg y.cells,iv dd]∧GenR n y∧∀b,b∈y.Securities→(kI b).length≤5
theorem Tp (n:Nat):∃r,Wm n r∧Imm r:=⟨_,⟨ve,0,rfl,CP.mono (by omega),by simp[ve]⟩,aj (dI _) .sc⟩
structure RegB (id:Int) (x:TRegister):Prop where
 g:GenR 0 x
 lt:∀b,b∈x.Securities→b.ID<id
 dl:∀b,b∈x.Securities→(kI b).length≤5
 len:(x.Securities.length:Int)<id
theorem QK {id:Int} {x:TRegister} {b:TSecurity} (h:RegB id x) (hid:id≤3) (hb:SecG id b):RegB (id+1) (oF x b):=by
 have hl:=h.len
 refine⟨Ot h.g hb.ok (fun y hy=>by rw[hb.id];exact h.lt y hy) (by omega),fun y hy=>?_,fun y hy=>?_,by simp[oF];omega⟩
 ·rcases wA.1 hy with hy|hy
  ·have:=h.lt y hy
   omega
  ·rw[zU.1 hy,hb.id]
   omega
 ·rcases wA.1 hy with hy|hy
  ·exact h.dl y hy
  ·rw[zU.1 hy]
   exact hb.dl
set_option maxHeartbeats 16000000 in
theorem D5 (p:Nat) (src:Option Nat) (most:Nat) (hm:most≤20):PFun Tryz.prog (some p) src 6 [sp p,iv most] (Wm most):=by
 refine ab Tryz.func6 rfl (by simp[Tryz.f6]) (by kernel_rfl) ?_
 intro E hP hr hs hW hN
 have up:∀{f:FuncId} {args:List AV} {Q:AV→Prop},PFun Tryz.prog (some p) src f args Q→PFun Tryz.prog E.row E.src f args Q:=fun h=>hr▸hs▸h
 have RG:PFun Tryz.prog E.row E.src 24 [sp p,iv 1,iv 3] (RQ 1 3):=up (kj p src 1 3 (by omega) (by omega))
 simp -dsimp -implicitDefEqProofs [-getElem?_pos,go_sem,hP]
 refine He (ty:=42) (k:=3) 1 [.nil,.nil,.nil] [bZ [],bn [],fQ []] rfl (by omega) (by simp) rfl (fun j a b ha hb=>?_) ?_
 ·match j,ha,hb with
  |0,ha,hb=>simp at ha hb;subst ha;subst hb;exact .nil _
  |1,ha,hb=>simp at ha hb;subst ha;subst hb;exact .nil _
  |2,ha,hb=>simp at ha hb;subst ha;subst hb;exact .nil _
  |j+3,ha,hb=>simp at ha
 obtain⟨I,hI⟩:∃I:Nat→St→Prop,I=fun m s=>∃(id:Int) (x:TRegister),(1≤id∧id≤4)∧m=(4-id).toNat∧RegB id x∧s.t 0=sp p∧s.t 1=iv most∧s.t 4= .ref 0 0 0∧s.t 6= .ref 1 0 0∧s.t 7=iv id∧s.H[0]?=some (some PN)∧s.H[1]?=some (some (SA x)):=⟨_,rfl⟩
 refine az I (3) (by rw[hN];rfl) ?_ ?_
 ·rw[hI]
  exact⟨1,ve,by omega,by omega,⟨CP,by simp[ve],by simp[ve],by simp[ve]⟩,rfl,rfl,rfl,rfl,rfl,rfl,by simp -dsimp[-getElem?_pos,go_sem,ve,ao]⟩
 intro m s hs'
 rw[hI]at hs'
 obtain⟨id,x,hid,hmi,hx,t0,t1,t4,t6,t7,g0,g1⟩:=hs'
 have l0:=(gsI g0)
 have l1:=(gsI g1)
 simp -dsimp -implicitDefEqProofs [-getElem?_pos,go_sem,hP,t0,t7]
 refine aC RG hP lK (by simp -dsimp[-getElem?_pos,go_sem]) (oy (by omega)) ?_
 rintro r ⟨w,rfl,hw⟩ _
 by_cases hc:id≤w
 ·have d:=zC hc
  have wi:=ae (id+1) (by omega)
  have iX:=dI x
  rw[bP]at iX
  simp -dsimp -implicitDefEqProofs [-getElem?_pos,go_sem,hP,d,hc]
  refine v7 (fun i=>decide (i<2)) [9] [3,4] hP (by kernel_rfl) (by kernel_rfl) ?_
  simp -dsimp -implicitDefEqProofs [-getElem?_pos,go_sem,hP,aS,t6,g1,l1,t0,t7]
  refine qA (up (EI p src id (by omega))) hP WH (by simp[go_sem]) (Sk (by omega)) ?_
  rintro r ⟨b,rfl,hb⟩ _
  have hl:=hx.len
  have okx:=hx.g.ok
  have mz:x.Moves=[]:=wF (by have:=hx.g.ml;omega)
  have dz:my x=0:=by rw[my,mz];rfl
  rw[dz]at okx
  have ad:=QC x b okx (by omega) fun y hy=>by rw[hb.id];exact hx.lt y hy
  rw[if_pos hb.ok]at ad
  have iy:=dI (oF x b)
  have ib:=fh b
  have rb:=QK hx (by omega) hb
  obtain⟨y,hy⟩:∃y,y=oF x b:=⟨_,rfl⟩
  rw[←hy]at ad iy rb
  rw[bP,cc,bP]at ad
  rw[bP]at iy
  rw[cc]at ib
  simp -dsimp -implicitDefEqProofs [-getElem?_pos,go_sem,hP,aS,cc]
  refine gl (ad.lift _ _) hP Wn (by simpa using⟨iX,ib⟩) (aj iy .sc) ?_
  have g1':∀x:Option AObj,(s.H++[x])[1]?=s.H[1]?:=fun x=>zD l1
  have g0':∀x:Option AObj,(s.H++[x])[0]?=s.H[0]?:=fun x=>zD l0
  simp -dsimp -implicitDefEqProofs [-getElem?_pos,go_sem,hP]
  refine⟨jv (by omega),?_⟩
  simp -dsimp -implicitDefEqProofs [-getElem?_pos,go_sem,hP,t6,g1',g1,l1,t7,wi]
  refine⟨(4-(id+1)).toNat,by omega,?_⟩
  rw[hI]
  exact⟨id+1,y,by omega,by omega,rb,t0,t1,t4,t6,rfl,(by simp -dsimp[-getElem?_pos,go_sem];rw[zD (by simpa using l0),zH (by omega)];exact g0),by simp -dsimp[-getElem?_pos,go_sem,l1]⟩
 ·have d:=zA hc
  have w1:=ae ((most:Int)+1) (by omega)
  simp -dsimp -implicitDefEqProofs [-getElem?_pos,go_sem,hP,d,hc,t0,t1,w1]
  refine aC (up (sT p src ((most:Int)+1) (by omega))) hP kH (by simp[go_sem]) (Da _) ?_
  rintro r ⟨m2,rfl,_,hm1⟩ _
  have hm1:=hm1 (by omega)
  obtain⟨m2,rfl⟩:=Int.eq_ofNat_of_zero_le hm1.1
  simp -dsimp -implicitDefEqProofs [-getElem?_pos,go_sem,hP]
  obtain⟨J,hJ⟩:∃I:Nat→St→Prop,I=fun m s=>∃(k:Nat) (y:TRegister) (day:Int),k+m≤most∧GenR k y∧y.Securities=x.Securities∧(0≤day∧day≤130*(k:Int))∧s.t 0=sp p∧s.t 4= .ref 0 0 0∧s.t 6= .ref 1 0 0∧s.t 10=iv day∧s.t 11=iv m∧s.H[0]?=some (some PN)∧s.H[1]?=some (some (SA y)):=⟨_,rfl⟩
  refine az J (m2) (by rw[hN];rfl) ?_ ?_
  ·rw[hJ]
   exact⟨0,x,0,by omega,hx.g,rfl,by omega,t0,t4,t6,rfl,rfl,g0,g1⟩
  clear t0 t1 t4 t6 t7 g0 g1 l0 l1
  intro m s hs'
  rw[hJ]at hs'
  obtain⟨k,y,day,hk,hg,hys,hdy,t0,t4,t6,t10,t11,g0,g1⟩:=hs'
  have l0:=(gsI g0)
  have l1:=(gsI g1)
  have iy:=dI y
  rw[bP]at iy
  simp -dsimp -implicitDefEqProofs [-getElem?_pos,go_sem,hP,t11]
  refine aB ?_ ?_<;>intro h
  ·have hm0:0<m:=by simpa using h
   have wm:=ae ((m:Int)-1) (by omega)
   have dl:=Ru p src k (by omega) y day hg (by omega)
   rw[bP]at dl
   simp -dsimp -implicitDefEqProofs [-getElem?_pos,go_sem,hP,t0,t6,g1,l1,t10]
   refine aC (up dl) hP Xv (by simp[an];exact iy) (Qx hg (by omega)) ?_
   rintro r ⟨z,dd,rfl,hgz,hzs,h1,h2⟩ _
   simp -dsimp -implicitDefEqProofs [-getElem?_pos,go_sem,hP,bP,t6,g1,l1,t11,wm]
   refine⟨m-1,by omega,?_⟩
   rw[hJ]
   refine⟨k+1,z,dd,by omega,hgz,hzs.trans hys,by omega,t0,t4,t6,rfl,?_,by simp -dsimp[-getElem?_pos,go_sem,g0],by simp -dsimp[-getElem?_pos,go_sem,l1]⟩
   simp -dsimp -implicitDefEqProofs [-getElem?_pos,go_sem]
   omega
  ·have hm0:m=0:=by
    have:¬0<m:=by simpa using h
    omega
   simp -dsimp -implicitDefEqProofs [-getElem?_pos,go_sem,hP,t6,g1,l1,t10,t4,g0,l0]
   exact aw (aj iy .sc) ⟨y,day,rfl,hg.mono (by omega),fun b hb=>hx.dl b (by rw[←hys];exact hb)⟩
open Go.PA
open Go.RowKit
structure Bnd where
 low:Int
 high:Int
 lot:Int
 mr:Int
 mp:Int
structure Pln where
 d:Int
 r:Int
 p:Int
def jS (n:Int):Bool:=decide (-1000000000000000≤n)&&decide (n≤1000000000000000)
def VF (n:Int):Bool:=decide (0≤n)&&decide (n≤1000000000000)
def oV (b:Bnd):Bool:=(decide (-1000000000000≤b.low)&&decide (b.low≤b.high))&&(decide (b.high≤1000000000000)&&((decide (1≤b.lot)&&decide (b.lot≤1000000000000))&&(VF b.mr&&VF b.mp)))
theorem ju {b:Bnd}:oV b=true↔(-1000000000000≤b.low∧b.low≤b.high)∧b.high≤1000000000000∧(1≤b.lot∧b.lot≤1000000000000)∧(0≤b.mr∧b.mr≤1000000000000)∧(0≤b.mp∧b.mp≤1000000000000):=by
 simp[oV,VF]
def inB (b:Bnd) (n:Int):Bool:=decide (b.low≤n)&&decide (n≤b.high)
def qZ (n lot:Int):Int:=(n+lot-1) / lot*lot
theorem sj {n lot:Int} (hl:1≤lot) (hn:0≤n):n≤qZ n lot∧qZ n lot≤n+lot-1∧qZ n lot%lot=0:=by
 unfold qZ
 have h1:=Int.emod_add_mul_ediv (n+lot-1) lot
 have h2:=Int.emod_nonneg (n+lot-1) (by omega:lot≠0)
 have h3:=Int.emod_lt_of_pos (n+lot-1) (by omega:0<lot)
 have e:(n+lot-1) / lot*lot=lot*((n+lot-1) / lot):=Int.mul_comm _ _
 refine⟨by omega,by omega,Int.mul_emod_left _ _⟩
def bI (b:Bnd) (n:Int):Int:=if n<b.low then qZ (b.low-n) b.lot else 0
def bG (b:Bnd) (n:Int):Int:=if n<b.low then 0 else if b.high<n then qZ (n-b.high) b.lot else 0
def qF (b:Bnd) (n:Int):Bool:=oV b&&(jS n&&(!(decide (b.mr<bI b n)||decide (b.mp<bG b n))&&inB b (n+bI b n-bG b n)))
def ym (b:Bnd) (n:Int):Int×Int×Bool:=if qF b n=true then (bI b n,bG b n,true)else (0,0,false)
structure DecOk (b:Bnd) (n:Int):Prop where
 r:0≤bI b n∧bI b n≤b.mr∧bI b n%b.lot=0
 p:0≤bG b n∧bG b n≤b.mp∧bG b n%b.lot=0
 w:inB b (n+bI b n-bG b n)=true
 none:bI b n+bG b n=0→inB b n=true
 one:0<bI b n+bG b n→(decide (bI b n=0)!=decide (bG b n=0))=true
theorem DV {b:Bnd} {n:Int} (h:qF b n=true):DecOk b n:=by
 unfold qF at h
 simp only[zG,vQ,Bool.or_eq_false_iff,wH]at h
 obtain⟨h1,h2,⟨h3,h4⟩,h5⟩:=h
 obtain⟨b1,b2,b3,b4,b5⟩:=ju.1 h1
 have hr:0≤bI b n∧bI b n%b.lot=0∧(n<b.low→0<bI b n)∧(¬n<b.low→bI b n=0):=by
  unfold bI
  split
  ·rename_i c
   obtain⟨l1,_,l3⟩:=sj (n:=b.low-n) b3.1 (by omega)
   exact⟨by omega,l3,fun _=>by omega,fun h=>absurd c h⟩
  ·rename_i c
   exact⟨by omega,by simp,fun h=>absurd h c,fun _=>rfl⟩
 have hp:0≤bG b n∧bG b n%b.lot=0∧(n<b.low→bG b n=0)∧(b.high<n→0<bG b n)∧(¬b.high<n→bG b n=0):=by
  unfold bG
  split
  ·rename_i c
   exact⟨by omega,by simp,fun _=>rfl,fun h=>by omega,fun _=>rfl⟩
  ·rename_i c
   split
   ·rename_i c2
    obtain⟨l1,_,l3⟩:=sj (n:=n-b.high) b3.1 (by omega)
    exact⟨by omega,l3,fun h=>absurd h c,fun _=>by omega,fun h=>absurd c2 h⟩
   ·rename_i c2
    exact⟨by omega,by simp,fun _=>rfl,fun h=>absurd h c2,fun _=>rfl⟩
 obtain⟨r1,r2,r3,r4⟩:=hr
 obtain⟨p1,p2,p3,p4,p5⟩:=hp
 refine⟨⟨r1,by omega,r2⟩,⟨p1,by omega,p2⟩,h5,fun h=>?_,fun h=>?_⟩
 ·have a1:¬n<b.low:=fun c=>by have:=r3 c;omega
  have a2:¬b.high<n:=fun c=>by have:=p4 c;omega
  simp only[inB,zG,zI]
  omega
 ·by_cases c:n<b.low
  ·have e1:=r3 c
   have e2:=p3 c
   rw[zA (by omega),zC e2]
   rfl
  ·have e1:=r4 c
   rw[zC e1,zA (by omega)]
   rfl
def oI:List Int→Bool
 |[]=>true
 |[d]=>decide (0≤d)&&decide (d≤36000)
 |d::e::l=>(decide (0≤d)&&decide (d≤36000))&&(decide (d<e)&&oI (e::l))
theorem gI:∀{l:List Int},oI l=true↔(∀d,d∈l→0≤d∧d≤36000)∧l.Pairwise (·<·)
 |[]=>by simp[oI]
 |[d]=>by simp[oI]
 |d::e::l=>by
  have ih:=gI (l:=e::l)
  rw[oI,zG,zG,zG,ih,vD (a:=d)]
  simp only[zI]
  constructor
  ·rintro⟨h1,h2,h3,h4⟩
   refine⟨fun x hx=>?_,fun x hx=>?_,h4⟩
   ·rcases zO.1 hx with rfl|hx
    ·exact h1
    ·exact h3 x hx
   ·rcases zO.1 hx with rfl|hx
    ·exact h2
    ·have:=(vD.1 h4).1 x hx
     omega
  ·rintro⟨h1,h2,h3⟩
   exact⟨h1 d (by simp),h2 e (by simp),fun x hx=>h1 x (uC _ hx),h3⟩
def tW (b:Bnd) (l:List Pos):Int:=if oV b=true then (if (l.all fun x=>jS x.a)=true then (if oI (l.map (·.d))=true then (if l.length≤1000 then 0 else 3)else 8)else 2)else 73
def gX (b:Bnd) (x:Pos):List Pln:=if 0<bI b x.a+bG b x.a then [⟨x.d,bI b x.a,bG b x.a⟩]else []
def cr (b:Bnd) (l:List Pos):List Pln:=l.flatMap (gX b)
def dy (b:Bnd):List Pos→Option Int
 |[]=>none
 |x::l=>if qF b x.a=true then dy b l else some x.d
def og (b:Bnd) (l:List Pos):List Pln×Int×Int:=if tW b l=0 then (match dy b l with|none=>(cr b l, -1,0)|some d=>([],d,10))else ([], -1,tW b l)
theorem mK {b:Bnd} {l:List Pos} {q:Pln} (h:q∈cr b l):∃x,x∈l∧0<bI b x.a+bG b x.a∧q=⟨x.d,bI b x.a,bG b x.a⟩:=by
 obtain⟨x,hx,hq⟩:=List.mem_flatMap.1 h
 unfold gX at hq
 split at hq
 ·simp at hq
  exact⟨x,hx,by assumption,hq⟩
 ·cases hq
theorem LA {b:Bnd}:∀{l:List Pos},oI (l.map (·.d))=true→oI ((cr b l).map (·.d))=true
 |l,h=>by
  obtain⟨h1,h2⟩:=gI.1 h
  refine gI.2 ⟨fun d hd=>?_,?_⟩
  ·obtain⟨q,hq,rfl⟩:=zV.1 hd
   obtain⟨x,hx,_,rfl⟩:=mK hq
   exact h1 _ (uA hx)
  ·clear h h1
   induction l with
   |nil=>simp[cr]
   |cons x l ih=>
    rw[wD,vD]at h2
    obtain⟨h3,h4⟩:=h2
    have e:cr b (x::l)=gX b x++cr b l:=by simp[cr]
    rw[e,List.map_append]
    refine List.pairwise_append.2 ⟨?_,ih h4,fun d hd e he=>?_⟩
    ·unfold gX
     split<;>simp
    ·obtain⟨q,hq,rfl⟩:=zV.1 he
     obtain⟨y,hy,_,rfl⟩:=mK hq
     have hdx:d=x.d:=by
      unfold gX at hd
      split at hd
      ·simpa using hd
      ·cases hd
     subst hdx
     exact h3 _ (uA hy)
def kZ (l:List Pos) (ps:List Pln):Bool:=oI (ps.map (·.d))&&ps.all fun q=>l.any fun x=>decide (x.d=q.d)
theorem BR {b:Bnd} {l:List Pos} (h:oI (l.map (·.d))=true):kZ l (cr b l)=true:=by
 rw[kZ,LA h,zP,zS]
 intro q hq
 obtain⟨x,hx,_,rfl⟩:=mK hq
 exact vL.2 ⟨x,hx,by simp⟩
def gY (ps:List Pln) (d:Int):Option Pln:=ps.find? fun q=>decide (q.d=d)
def tc (b:Bnd) (n:Int) (q:Pln):Bool:=decide (q.r%b.lot=0)&&(decide (q.p%b.lot=0)&&((decide (0≤q.r)&&decide (q.r≤b.mr))&&((decide (0≤q.p)&&decide (q.p≤b.mp))&&((decide (q.r=0)!=decide (q.p=0))&&inB b (n+q.r-q.p)))))
def EJ (b:Bnd) (l:List Pos) (ps:List Pln):Bool:=decide (tW b l=0)&&(kZ l ps&&l.all fun x=>match gY ps x.d with|none=>inB b x.a|some q=>tc b x.a q)
theorem u4 {b:Bnd}:∀{l:List Pos},(l.map (·.d)).Pairwise (·<·)→∀x,x∈l→gY (cr b l) x.d=if 0<bI b x.a+bG b x.a then some ⟨x.d,bI b x.a,bG b x.a⟩else none
 |[],_,x,hx=>by cases hx
 |y::l,h,x,hx=>by
  rw[wD,vD]at h
  obtain⟨h1,h2⟩:=h
  have e:cr b (y::l)=gX b y++cr b l:=by simp[cr]
  have noT:∀d,(∀z,z∈l→z.d≠d)→gY (cr b l) d=none:=fun d hd=>by
   unfold gY
   rw[List.find?_eq_none]
   intro q hq
   obtain⟨z,hz,_,rfl⟩:=mK hq
   simp[hd z hz]
  unfold gY
  rw[e,List.find?_append]
  rcases zO.1 hx with rfl|hx
  ·have nt:=noT x.d fun z hz=>by have:=h1 _ (uA hz);omega
   unfold gY at nt
   rw[nt]
   unfold gX
   split<;>simp
  ·have hlt:=h1 _ (uA hx)
   have:(gX b y).find? (fun q=>decide (q.d=x.d))=none:=by
    rw[List.find?_eq_none]
    intro q hq
    unfold gX at hq
    split at hq
    ·simp at hq
     subst hq
     simp
     omega
    ·cases hq
   rw[this,Option.none_or]
   exact u4 h2 x hx
theorem gH {b:Bnd}:∀{l:List Pos},dy b l=none→∀x,x∈l→qF b x.a=true
 |[],_,x,hx=>by cases hx
 |y::l,h,x,hx=>by
  rw[dy]at h
  split at h
  ·rename_i c
   rcases zO.1 hx with rfl|hx
   ·exact c
   ·exact gH h x hx
  ·cases h
theorem OR {b:Bnd} {l:List Pos} (hc:tW b l=0) (hf:dy b l=none):EJ b l (cr b l)=true:=by
 have ha:oI (l.map (·.d))=true:=by
  unfold tW at hc
  split at hc
  ·split at hc
   ·split at hc
    ·assumption
    ·cases hc
   ·cases hc
  ·cases hc
 rw[EJ,BR ha,zC hc,zP,zP,zS]
 intro x hx
 have ok:=DV (gH hf x hx)
 rw[u4 (gI.1 ha).2 x hx]
 split
 ·rename_i heq
  split at heq
  ·cases heq
  ·rename_i c
   exact ok.none (by have:=ok.r.1;have:=ok.p.1;omega)
 ·rename_i q heq
  split at heq
  ·rename_i c
   cases heq
   have o:=ok.one c
   simp only[tc,ok.r,ok.p,ok.w,decide_true,zP,Bool.and_true,o]
  ·cases heq
def rN (x:Pos) (ps:List Pln):Pos:=match gY ps x.d with|none=>x|some q=>⟨x.d,x.a+(q.r-q.p)⟩
theorem Uo {b:Bnd} {l:List Pos} (hc:oI (l.map (·.d))=true) (hf:dy b l=none):∀x,x∈l→inB b (rN x (cr b l)).a=true:=fun x hx=>by
 have ok:=DV (gH hf x hx)
 have e:=u4 (b:=b) (gI.1 hc).2 x hx
 unfold rN
 rw[e]
 split
 ·rename_i heq
  split at heq
  ·cases heq
  ·exact ok.none (by have:=ok.r.1;have:=ok.p.1;omega)
 ·rename_i q heq
  split at heq
  ·cases heq
   have w:=ok.w
   rw[show x.a+bI b x.a-bG b x.a=x.a+(bI b x.a-bG b x.a)from by omega]at w
   exact w
  ·cases heq
open Go.PA
open Go.RowKit
def oX (fs:List Flow) (lo:Int) (i:Nat):Int:=((fs.filter fun f=>decide (lo≤f.d)&&decide (f.d<lo+(i:Int))).map (·.a)).sum
theorem u7 (lo:Int) (i:Nat):∀fs:List Flow,oX fs lo (i+1)=oX fs lo i+delta fs (lo+(i:Int))
 |[]=>by simp[oX,delta]
 |f::fs=>by
  have ih:=u7 lo i fs
  unfold oX delta at ih⊢
  simp only[List.filter_cons]
  by_cases c1:lo≤f.d
  ·by_cases c2:f.d<lo+(i:Int)
   ·have c3:f.d<lo+((i+1:Nat):Int):=by omega
    have c4:¬f.d=lo+(i:Int):=by omega
    simp only[c1,c2,c3,c4,decide_true,decide_false,Bool.and_self,if_true,wS,if_false,wD,List.sum_cons]
    omega
   ·by_cases c4:f.d=lo+(i:Int)
    ·have c3:f.d<lo+((i+1:Nat):Int):=by omega
     simp only[c1,c2,c3,decide_true,decide_false,Bool.and_self,vM,if_true,wS,if_false,wD,List.sum_cons,zC c4]
     omega
    ·have c3:¬f.d<lo+((i+1:Nat):Int):=by omega
     simp only[c1,c2,c3,c4,decide_true,decide_false,vM,wS,if_false]
     exact ih
  ·have c4:¬f.d=lo+(i:Int):=by omega
   simp only[c1,c4,decide_false,zJ,wS,if_false]
   exact ih
theorem Du (lo:Int):∀fs:List Flow,oX fs lo 0=0
 |[]=>rfl
 |f::fs=>by
  have ih:=Du lo fs
  unfold oX at ih⊢
  simp only[List.filter_cons]
  have:(decide (lo≤f.d)&&decide (f.d<lo+((0:Nat):Int)))=false:=by
   rw[Bool.and_eq_false_iff,wH,wH]
   omega
  rw[this]
  simpa using ih
theorem Ap (lo:Int) (i:Nat) (M:Int) (hM:0≤M):∀fs:List Flow,(∀f,f∈fs→ -M≤f.a∧f.a≤M)→ -(M*(fs.length:Int))≤oX fs lo i∧oX fs lo i≤M*(fs.length:Int)
 |[],_=>by simp[oX]
 |f::fs,h=>by
  have h1:=Ap lo i M hM fs fun g hg=>h g (uC _ hg)
  have h2:=h f (List.mem_cons_self ..)
  have e:M*((f::fs).length:Int)=M*(fs.length:Int)+M:=by
   rw[wI,Int.natCast_add,Int.natCast_one,Int.mul_add,Int.mul_one]
  rw[e]
  unfold oX at h1⊢
  simp only[List.filter_cons]
  split
  ·simp only[wD,List.sum_cons]
   omega
  ·omega
theorem DD (fs:List Flow) (lo o0:Int):∀(n i:Nat) (o:Int),o=o0+oX fs lo i→(∀k,ge (o0+oX fs lo k)=true)→
  ∃l,run fs lo i n o=some l∧l.length=n∧∀(j:Nat) (x:Pos),l[j]?=some x→x.d=lo+((i+j:Nat):Int)∧ge x.a=true
 |0,i,o,_,_=>⟨[],rfl,rfl,fun j x hx=>by simp at hx⟩
 |n+1,i,o,ho,ht=>by
  have e:o+delta fs (lo+i)=o0+oX fs lo (i+1):=by rw[u7,ho];omega
  obtain⟨l,h1,h2,h3⟩:=DD fs lo o0 n (i+1) (o+delta fs (lo+i)) e ht
  refine⟨_,by rw[run,if_pos (by rw[e];exact ht _),h1];rfl,by simp[h2],fun j x hx=>?_⟩
  cases j with
  |zero=>
   simp at hx
   subst hx
   exact⟨by simp,by show ge (o+delta fs (lo+i))=true;rw[e];exact ht _⟩
  |succ j=>
   obtain⟨k1,k2⟩:=h3 j x (by simpa using hx)
   exact⟨by rw[k1,show i+1+j=i+(j+1)from by omega],k2⟩
def Re (fs:List Flow) (lo o:Int) (k:Nat):Pos:=⟨lo+(k:Int),o+oX fs lo (k+1)⟩
theorem yH (fs:List Flow) (lo o0:Int):∀(n i:Nat) (o:Int),o=o0+oX fs lo i→(∀k,i≤k→k<i+n→ge (Re fs lo o0 k).a=true)→run fs lo i n o=some ((List.range' i n).map (Re fs lo o0))
 |0,i,o,_,_=>rfl
 |n+1,i,o,ho,h=>by
  have e:o+delta fs (lo+i)=o0+oX fs lo (i+1):=by rw[u7,ho];omega
  have ht:=h i (by omega) (by omega)
  rw[run,if_pos (by rw[e];exact ht),yH fs lo o0 n (i+1) _ e fun k h1 h2=>h k (by omega) (by omega),List.range'_succ]
  simp only[vI,wD,Re,e]
open Go.PA
open Go.RowKit
theorem EU (n:Int):jS n=ge n:=rfl
theorem Rp {l:List Pos} {now:Int} (h:∀(j:Nat) (x:Pos),l[j]?=some x→x.d=now+(j:Int)) (h0:0≤now) (h1:now+(l.length:Int)≤36001):oI (l.map (·.d))=true:=by
 refine gI.2 ⟨fun d hd=>?_,?_⟩
 ·obtain⟨x,hx,rfl⟩:=zV.1 hd
  obtain⟨j,hj⟩:=wN hx
  have:=h j x hj
  have:=(gsI hj)
  omega
 ·rw[vT]
  intro i j hi hj hij
  simp only[wL]at hi hj
  simp only[List.getElem_map]
  have a:=h i _ (zF hi)
  have b:=h j _ (zF hj)
  omega
theorem RX {b:Bnd} {l:List Pos} {now:Int} (hb:oV b=true) (hl:l.length≤1000) (h:∀(j:Nat) (x:Pos),l[j]?=some x→x.d=now+(j:Int)∧jS x.a=true) (h0:0≤now) (h1:now+(l.length:Int)≤36001):tW b l=0:=by
 have ha:=Rp (fun j x hx=>(h j x hx).1) h0 h1
 have ht:(l.all fun x=>jS x.a)=true:=zS.2 fun x hx=>by
  obtain⟨j,hj⟩:=wN hx
  exact (h j x hj).2
 rw[tW,if_pos hb,if_pos ht,if_pos ha,if_pos hl]
theorem qJ {b:Bnd}:∀{l:List Pos} {d:Int},dy b l=some d→∃(k:Nat) (x:Pos),l[k]?=some x∧qF b x.a=false∧x.d=d∧∀(j:Nat) (y:Pos),j<k→l[j]?=some y→qF b y.a=true
 |[],d,h=>by cases h
 |x::l,d,h=>by
  rw[dy]at h
  split at h
  ·rename_i c
   obtain⟨k,z,h1,h2,h3,h4⟩:=qJ h
   refine⟨k+1,z,h1,h2,h3,fun j y hj hy=>?_⟩
   cases j with
   |zero=>
    simp at hy
    subst hy
    exact c
   |succ j=>exact h4 j y (by omega) (by simpa using hy)
  ·rename_i c
   exact⟨0,x,rfl,by simpa using c,by simpa using h,fun j y hj=>by omega⟩
theorem xh {ps:List Pln} (hp:(ps.map (·.d)).Pairwise (·<·)) {k:Nat} {q:Pln} (hq:ps[k]?=some q) (d:Int):gY (ps.take (k+1)) d=if d=q.d then some q else gY (ps.take k) d:=by
 rw[wJ,hq]
 unfold gY
 rw[Option.toList_some,List.find?_append]
 by_cases c:d=q.d
 ·rw[if_pos c]
  have:(ps.take k).find? (fun z=>decide (z.d=d))=none:=by
   rw[List.find?_eq_none]
   intro z hz
   obtain⟨j,hj⟩:=wN hz
   rw[vE]at hj
   split at hj
   ·rename_i hjk
    have lk:=zM.1 hq
    have lj:=zM.1 hj
    have:=vT.1 hp j k (by simpa using lj.1) (by simpa using lk.1) hjk
    simp only[List.getElem_map,lj.2,lk.2]at this
    simp
    omega
   ·cases hj
  rw[this]
  simp[c]
 ·rw[if_neg c]
  have:[q].find? (fun z=>decide (z.d=d))=none:=by simp;omega
  rw[this,Option.or_none]
theorem Sq {l:List Pos} {ps:List Pln} (hl:(l.map (·.d)).Pairwise (·<·)) (hp:(ps.map (·.d)).Pairwise (·<·)) {k j:Nat} {q:Pln} {x:Pos} (hq:ps[k]?=some q) (hx:l[j]?=some x) (hd:x.d=q.d):
  (l.map fun y=>rN y (ps.take k))[j]?=some x∧(l.map fun y=>rN y (ps.take k)).set j ⟨x.d,x.a+(q.r-q.p)⟩=l.map fun y=>rN y (ps.take (k+1)):=by
 have none:gY (ps.take k) x.d=none:=by
  unfold gY
  rw[List.find?_eq_none]
  intro z hz
  obtain⟨i,hi⟩:=wN hz
  rw[vE]at hi
  split at hi
  ·rename_i hik
   have lk:=zM.1 hq
   have lj:=zM.1 hi
   have:=vT.1 hp i k (by simpa using lj.1) (by simpa using lk.1) hik
   simp only[List.getElem_map,lj.2,lk.2]at this
   simp
   omega
  ·cases hi
 have lj:=zM.1 hx
 constructor
 ·rw[zR,hx]
  simp[rN,none]
 ·apply List.ext_getElem?
  intro i
  by_cases hi:j=i
  ·subst hi
   rw[wK (by simpa using lj.1),zR,hx]
   simp[rN,xh hp hq,hd]
  ·rw[zH hi,zR,zR]
   cases hy:l[i]? with
   |none=>rfl
   |some y=>
    have ly:=zM.1 hy
    have hne:¬y.d=q.d:=fun c=>by
     rcases Nat.lt_or_gt_of_ne hi with h|h
     ·have:=vT.1 hl j i (by simpa using lj.1) (by simpa using ly.1) h
      simp only[List.getElem_map,lj.2,ly.2]at this
      omega
     ·have:=vT.1 hl i j (by simpa using ly.1) (by simpa using lj.1) h
      simp only[List.getElem_map,lj.2,ly.2]at this
      omega
    simp only[vI,rN,xh hp hq,if_neg hne]
open Go.PA
open Go.RowKit
def Bnd.cells (b:Bnd):List AV:=[iv b.low,iv b.high,iv b.lot,iv b.mr,iv b.mp]
def Pln.cells (q:Pln):List AV:=[iv q.d,iv q.r,iv q.p]
theorem sQ (b:Bnd):b.cells=[iv b.low,iv b.high,iv b.lot,iv b.mr,iv b.mp]:=rfl
theorem sk (q:Pln):q.cells=[iv q.d,iv q.r,iv q.p]:=rfl
theorem cPs (x:Pos):x.cells=[iv x.d,iv x.a]:=rfl
theorem Bnd.imm (b:Bnd) (c:AV) (h:c∈b.cells):Imm c:=by
 simp[Bnd.cells]at h
 rcases h with rfl|rfl|rfl|rfl|rfl<;>exact .sc
theorem Pln.imm (q:Pln) (c:AV) (h:c∈q.cells):Imm c:=by
 simp[Pln.cells]at h
 rcases h with rfl|rfl|rfl<;>exact .sc
theorem Pos.imm (x:Pos) (c:AV) (h:c∈x.cells):Imm c:=by
 simp[Pos.cells]at h
 rcases h with rfl|rfl<;>exact .sc
abbrev AZ (l:List Pln):AV:= .list 3 (ao Pln.cells l)
abbrev n7 (l:List Pos):AV:= .list 2 (ao Pos.cells l)
theorem mT (l:List Pln):Imm (AZ l):=aY _ Pln.imm l
theorem gg (l:List Pos):Imm (n7 l):=aY _ Pos.imm l
theorem qh (b:Bnd):Imm (.agg b.cells):= .agg fun c hc=>b.imm c hc
theorem KK (q:Pln):Imm (.agg q.cells):= .agg fun c hc=>q.imm c hc
theorem Ed (x:Pos):Imm (.agg x.cells):= .agg fun c hc=>x.imm c hc
theorem mX (n lo hi:Int):PFun Tryz.prog none none 123 [iv n,iv lo,iv hi] (·=bv (decide (lo≤n)&&decide (n≤hi))):=by
 refine ab Tryz.func123 rfl (by simp[Tryz.f123]) (by kernel_rfl) ?_
 intro E hP hr hs hW hN
 by_cases h:lo≤n
 ·have d:decide (lo≤n)=true:=zC h
  simp[go_sem,hP,d]
 ·have d:decide (lo≤n)=false:=zA h
  simp[go_sem,hP,d]
theorem Al (b:Bnd) (hb:oV b=true):PFun Tryz.prog none none 52 [.agg b.cells] (·=iv 0):=by
 obtain⟨b1,b2,b3,b4,b5⟩:=ju.1 hb
 have a1:=mX b.low (-1000000000000) b.high
 have a2:=mX b.lot 1 1000000000000
 rw[zC b1.1,zC b1.2,Bool.and_self]at a1
 rw[zC b3.1,zC b3.2,Bool.and_self]at a2
 have v1:=jz b.mr
 have v2:=jz b.mp
 rw[eZ b4]at v1
 rw[eZ b5]at v2
 have d2:decide (1000000000000<b.high)=false:=zA (by omega)
 refine ab Tryz.func52 rfl (by simp[Tryz.f52]) (by kernel_rfl) ?_
 intro E hP hr hs hW hN
 simp[go_sem,hP,sQ]
 refine af a1 hP AA (by simp[an]) .sc ?_
 simp[go_sem,hP,d2]
 refine af a2 hP AA (by simp[an]) .sc ?_
 simp[go_sem,hP]
 refine af v1 hP jZ (by simp[an]) .sc ?_
 simp[go_sem,hP]
 refine af v2 hP jZ (by simp[an]) .sc ?_
 simp[go_sem,hP]
theorem rr (b:Bnd) (n:Int):PFun Tryz.prog none none 54 [.agg b.cells,iv n] (·=bv (inB b n)):=by
 refine ab Tryz.func54 rfl (by simp[Tryz.f54]) (by kernel_rfl) ?_
 intro E hP hr hs hW hN
 have a1:=mX n b.low b.high
 simp[go_sem,hP,sQ]
 refine af a1 hP AA (by simp[an]) .sc ?_
 simp[go_sem,hP,inB]
theorem F5 (n lot:Int) (hn:0≤n∧n≤2000000000000000) (hl:1≤lot∧lot≤1000000000000):PFun Tryz.prog none none 53 [iv n,iv lot] (·=iv (qZ n lot)):=by
 refine ab Tryz.func53 rfl (by simp[Tryz.f53]) (by kernel_rfl) ?_
 intro E hP hr hs hW hN
 have w1:=ae (n+lot) (by omega)
 have w2:=ae (n+lot-1) (by omega)
 have z:¬lot=0:=by omega
 have t:(n+lot-1).tdiv lot=(n+lot-1) / lot:=Int.tdiv_eq_ediv_of_nonneg (by omega)
 have bd:=sj hl.1 hn.1
 unfold qZ at bd⊢
 have q1:0≤(n+lot-1) / lot:=Int.ediv_nonneg (by omega) (by omega)
 have q2:(n+lot-1) / lot≤n+lot-1:=Int.ediv_le_self _ (by omega)
 have w3:=ae ((n+lot-1) / lot) (by omega)
 have w4:=ae ((n+lot-1) / lot*lot) (by omega)
 simp[go_sem,hP,w1,w2,z,Bb z,t,w3,w4]
theorem GZ {b:Bnd} (hb:oV b=true) {n:Int} (hn:jS n=true):(0≤bI b n∧bI b n≤1002000000000000)∧(0≤bG b n∧bG b n≤1002000000000000):=by
 obtain⟨b1,b2,b3,b4,b5⟩:=ju.1 hb
 simp only[jS,zG,zI]at hn
 unfold bI bG
 constructor
 ·split
  ·have:=sj (n:=b.low-n) b3.1 (by omega)
   omega
  ·omega
 ·split
  ·omega
  ·split
   ·have:=sj (n:=n-b.high) b3.1 (by omega)
    omega
   ·omega
theorem jb {a b c:AV} (ha:Imm a) (hb:Imm b) (hc:Imm c):Imm (.tup [a,b,c]):=E3.2 fun x hx=>by
 simp only[zO,wC,or_false]at hx
 rcases hx with rfl|rfl|rfl<;>assumption
theorem z8 (b:Bnd) (n:Int) (h1:oV b=true) (h2:jS n=true):PFun Tryz.prog none none 16 [.agg b.cells,iv n] (·= .tup [iv (ym b n).1,iv (ym b n).2.1,bv (ym b n).2.2]):=by
 refine ee Tryz.func16 rfl (by simp[Tryz.f16]) ?_
 intro E hP hr hs hW hN
 obtain⟨Q,hQ⟩:∃Q:AV→Prop,Q=(·= .tup [iv (ym b n).1,iv (ym b n).2.1,bv (ym b n).2.2]):=⟨_,rfl⟩
 rw[←hQ]
 have n2: -1000000000000000≤n∧n≤1000000000000000:=by simpa[jS]using h2
 obtain⟨b1,b2,b3,b4,b5⟩:=ju.1 h1
 obtain⟨rb,pb⟩:=GZ h1 h2
 have ck:=Al b h1
 have to:=nU n
 rw[←EU,h2]at to
 have wi:=rr b (n+bI b n-bG b n)
 have l1:=F5 (b.low-n) b.lot
 have l2:=F5 (n-b.high) b.lot
 have qn:(b.mr<bI b n∨b.mp<bG b n∨inB b (n+bI b n-bG b n)=false)→Q (.tup [iv 0,iv 0,bv false]):=fun h=>by
  have:¬qF b n=true:=by
   simp only[qF,h1,h2,zP,zG,vQ,Bool.or_eq_false_iff,wH]
   rintro⟨⟨x,y⟩,z⟩
   rcases h with h|h|h
   ·exact x h
   ·exact y h
   ·rw[z]at h
    cases h
  rw[hQ,ym,if_neg this]
 have qy:¬b.mr<bI b n→¬b.mp<bG b n→inB b (n+bI b n-bG b n)=true→Q (.tup [iv (bI b n),iv (bG b n),bv true]):=fun x y z=>by
  have:qF b n=true:=by
   simp only[qF,h1,h2,z,zP,Bool.and_true,vQ,Bool.or_eq_false_iff,wH]
   exact⟨x,y⟩
  rw[hQ,ym,if_pos this]
 clear hQ
 have r1:n<b.low→bI b n=qZ (b.low-n) b.lot∧bG b n=0:=fun h=>by rw[bI,bG,if_pos h,if_pos h];exact⟨rfl,rfl⟩
 have r2:¬n<b.low→b.high<n→bI b n=0∧bG b n=qZ (n-b.high) b.lot:=fun h h'=>by rw[bI,bG,if_neg h,if_neg h,if_pos h'];exact⟨rfl,rfl⟩
 have r3:¬n<b.low→¬b.high<n→bI b n=0∧bG b n=0:=fun h h'=>by rw[bI,bG,if_neg h,if_neg h,if_neg h'];exact⟨rfl,rfl⟩
 have ib:=qh b
 rw[sQ]at ck ib wi
 obtain⟨R,hR⟩:∃R,R=bI b n:=⟨_,rfl⟩
 obtain⟨P,hPl⟩:∃P,P=bG b n:=⟨_,rfl⟩
 rw[←hR]at rb r1 r2 r3 qn qy wi
 rw[←hPl]at pb r1 r2 r3 qn qy wi
 clear hR hPl
 refine aM (by rw[hN];kernel_rfl) ?_
 simp -dsimp[go_sem,hP,sQ]
 obtain⟨Inv,hInv⟩:∃Inv:St→Prop,Inv=fun s=>s.t 1=iv n∧s.t 2= .ref 0 0 0∧s.t 4=iv R∧s.t 5=iv P∧s.H[0]?=some (some ⟨61,5,[[iv b.low,iv b.high,iv b.lot,iv b.mr,iv b.mp]]⟩):=⟨_,rfl⟩
 refine eN Inv (by rw[hN];kernel_rfl) ?_ ?_
 ·simp -dsimp[go_sem,hP]
  refine af ck hP Tz (by simpa using ib) .sc ?_
  simp -dsimp[go_sem,hP]
  refine af to hP KC (by simp[an]) .sc ?_
  by_cases c1:n<b.low
  ·have d1:decide (n<b.low)=true:=zC c1
   have w:=ae (b.low-n) (by omega)
   obtain⟨e1,e2⟩:=r1 c1
   rw[←e1]at l1
   simp -dsimp[go_sem,hP,d1,w]
   refine aJ ((l1 (by omega) b3).lift _ _) hP TQ (by simp[an]) .sc ?_
   simp -dsimp[go_sem,hP]
   refine⟨_,Weaker.refl _,?_⟩
   rw[hInv]
   exact⟨rfl,rfl,rfl,by simp -dsimp[-getElem?_pos,go_sem,e2],rfl⟩
  have d1:decide (n<b.low)=false:=zA c1
  by_cases c2:b.high<n
  ·have d2:decide (b.high<n)=true:=zC c2
   have w:=ae (n-b.high) (by omega)
   obtain⟨e1,e2⟩:=r2 c1 c2
   rw[←e2]at l2
   simp -dsimp[go_sem,hP,d1,d2,w]
   refine aJ ((l2 (by omega) b3).lift _ _) hP TQ (by simp[an]) .sc ?_
   simp -dsimp[go_sem,hP]
   refine⟨_,Weaker.refl _,?_⟩
   rw[hInv]
   exact⟨rfl,rfl,by simp -dsimp[-getElem?_pos,go_sem,e1],rfl,rfl⟩
  ·have d2:decide (b.high<n)=false:=zA c2
   obtain⟨e1,e2⟩:=r3 c1 c2
   simp -dsimp[go_sem,hP,d1,d2]
   refine⟨_,Weaker.refl _,?_⟩
   rw[hInv]
   exact⟨rfl,rfl,by simp -dsimp[-getElem?_pos,go_sem,e1],by simp -dsimp[-getElem?_pos,go_sem,e2],rfl⟩
 intro s hs'
 rw[hInv]at hs'
 obtain⟨t1,t2,t4,t5,g0⟩:=hs'
 clear hInv Inv r1 r2 r3 l1 l2
 have l0:=(gsI g0)
 refine be _ _ _ (by rw[hN];kernel_rfl) ?_
 have w1:=ae (n+R) (by omega)
 have w2:=ae (n+R-P) (by omega)
 by_cases c1:b.mr<R
 ·have d1:decide (b.mr<R)=true:=zC c1
  simp -dsimp[-getElem?_pos,go_sem,hP,t1,t2,t4,t5,g0,l0,d1]
  exact aw (jb .sc .sc .sc) (qn (.inl c1))
 have d1:decide (b.mr<R)=false:=zA c1
 by_cases c2:b.mp<P
 ·have d2:decide (b.mp<P)=true:=zC c2
  simp -dsimp[-getElem?_pos,go_sem,hP,t1,t2,t4,t5,g0,l0,d1,d2]
  exact aw (jb .sc .sc .sc) (qn (.inr (.inl c2)))
 have d2:decide (b.mp<P)=false:=zA c2
 simp -dsimp[-getElem?_pos,go_sem,hP,t1,t2,t4,t5,g0,l0,d1,d2,w1,w2]
 refine af wi hP QT (by simpa[an]using ib) .sc ?_
 cases h3:inB b (n+R-P)with
 |false=>
  simp -dsimp[go_sem,hP,h3]
  exact aw (jb .sc .sc .sc) (qn (.inr (.inr h3)))
 |true=>
  simp -dsimp[go_sem,hP,h3,t4,t5]
  exact aw (jb .sc .sc .sc) (qy c1 c2 h3)
open Go.PA
open Go.RowKit
theorem Pos.len (x:Pos):x.cells.length=2:=rfl
theorem Pln.len (x:Pln):x.cells.length=3:=rfl
theorem yn (x:Pos):PFun Tryz.prog none none 67 [.agg x.cells] (·=iv x.d):=by
 refine ab Tryz.func67 rfl (by simp[Tryz.f67]) (by kernel_rfl) ?_
 intro E hP hr hs hW hN
 simp[go_sem,hP,cPs]
theorem FI (x:Pln):PFun Tryz.prog none none 134 [.agg x.cells] (·=iv x.d):=by
 refine ab Tryz.func134 rfl (by simp[Tryz.f134]) (by kernel_rfl) ?_
 intro E hP hr hs hW hN
 simp[go_sem,hP,sk]
theorem xj (l:List Pos) (hl:l.length≤1000000):PFun Tryz.prog none none 66 [.list 2 (ao Pos.cells l),.fn 67 []] (·=aA (l.map (·.d))):=by
 refine ab Tryz.func66 rfl (by simp[Tryz.f66]) (by kernel_rfl) ?_
 intro E hP hr hs hW hN
 obtain⟨L,hL⟩:∃L,L=l.map (·.d):=⟨_,rfl⟩
 have lL:L.length=l.length:=by rw[hL,wL]
 rw[←hL]
 simp[go_sem,hP]
 refine cV 5 3 1 rfl ?_
 obtain⟨I,hI⟩:∃I:Nat→St→Prop,I=fun m s=>∃k id:Nat,k≤l.length∧m=l.length-k∧s.t 1= .fn 67 []∧s.t 8= .list 2 (ao Pos.cells l)∧s.t 9=iv l.length∧s.t 10=iv k∧s.t 5= .sref id 0 k∧s.H[id]?=some (some ⟨3,1,(L.take k).map fun x=>[iv x]⟩):=⟨_,rfl⟩
 refine az I (l.length) (by rw[hN];rfl) ?_ ?_
 ·rw[hI]
  exact⟨0,0,by omega,by omega,rfl,rfl,rfl,rfl,rfl,rfl⟩
 intro m s hs'
 rw[hI]at hs'
 obtain⟨k,id,hk,hm,t1,t8,t9,t10,t5,hH⟩:=hs'
 have lt:=(gsI hH)
 simp[go_sem,hP,t9,t10]
 refine aB ?_ ?_<;>intro h
 ·have hk:k<l.length:=by simpa using h
  obtain⟨a,ha⟩:=gkE hk
  have wk:=ae ((k:Int)+1) (by omega)
  have gL:L.take (k+1)=L.take k++[a.d]:=by rw[wJ,hL,zR,ha];rfl
  have ln:(L.take k).length=k:=by rw[zY];omega
  have hmin:min k L.length=k:=by omega
  have hm2:min k l.length=k:=by omega
  simp[go_sem,hP,t1,t8,t10,ha,cPs]
  have ia:Imm (.agg (Pos.cells a)):=bH.2 (Pos.imm a)
  rw[cPs]at ia
  refine aJ ((yn a).lift _ _) hP Ww (by simp[cPs];exact ia) .sc ?_
  simp[-getElem?_pos,go_sem,hP,t5,t10,hH,lt,lL,ln,hmin,hm2,wk]
  refine⟨by omega,by omega,l.length-(k+1),by omega,?_⟩
  rw[hI]
  exact⟨k+1,s.H.length+1,by omega,rfl,t1,t8,t9,rfl,rfl,by simp -dsimp[-getElem?_pos,go_sem,gL]⟩
 ·have hk:k=l.length:=by
   have:¬k<l.length:=by simpa using h
   omega
  subst hk
  simp[go_sem,hP,t5]
  rw[zQ (by omega)]at hH
  refine done (x:=aA L) ?_ rfl ?_<;>rw[fo,hH,dQ]
  ·rw[vW,zQ (by simp[lL])]
   exact eV L
  ·rw[vW,zQ (by simp[lL])]
   rfl
theorem Hq (l:List Pln) (hl:l.length≤1000000):PFun Tryz.prog none none 133 [.list 3 (ao Pln.cells l),.fn 134 []] (·=aA (l.map (·.d))):=by
 refine ab Tryz.func133 rfl (by simp[Tryz.f133]) (by kernel_rfl) ?_
 intro E hP hr hs hW hN
 obtain⟨L,hL⟩:∃L,L=l.map (·.d):=⟨_,rfl⟩
 have lL:L.length=l.length:=by rw[hL,wL]
 rw[←hL]
 simp[go_sem,hP]
 refine cV 5 3 1 rfl ?_
 obtain⟨I,hI⟩:∃I:Nat→St→Prop,I=fun m s=>∃k id:Nat,k≤l.length∧m=l.length-k∧s.t 1= .fn 134 []∧s.t 8= .list 3 (ao Pln.cells l)∧s.t 9=iv l.length∧s.t 10=iv k∧s.t 5= .sref id 0 k∧s.H[id]?=some (some ⟨3,1,(L.take k).map fun x=>[iv x]⟩):=⟨_,rfl⟩
 refine az I (l.length) (by rw[hN];rfl) ?_ ?_
 ·rw[hI]
  exact⟨0,0,by omega,by omega,rfl,rfl,rfl,rfl,rfl,rfl⟩
 intro m s hs'
 rw[hI]at hs'
 obtain⟨k,id,hk,hm,t1,t8,t9,t10,t5,hH⟩:=hs'
 have lt:=(gsI hH)
 simp[go_sem,hP,t9,t10]
 refine aB ?_ ?_<;>intro h
 ·have hk:k<l.length:=by simpa using h
  obtain⟨a,ha⟩:=gkE hk
  have wk:=ae ((k:Int)+1) (by omega)
  have gL:L.take (k+1)=L.take k++[a.d]:=by rw[wJ,hL,zR,ha];rfl
  have ln:(L.take k).length=k:=by rw[zY];omega
  have hmin:min k L.length=k:=by omega
  have hm2:min k l.length=k:=by omega
  simp[go_sem,hP,t1,t8,t10,ha,sk]
  have ia:Imm (.agg (Pln.cells a)):=bH.2 (Pln.imm a)
  rw[sk]at ia
  refine aJ ((FI a).lift _ _) hP Vf (by simp[sk];exact ia) .sc ?_
  simp[-getElem?_pos,go_sem,hP,t5,t10,hH,lt,lL,ln,hmin,hm2,wk]
  refine⟨by omega,by omega,l.length-(k+1),by omega,?_⟩
  rw[hI]
  exact⟨k+1,s.H.length+1,by omega,rfl,t1,t8,t9,rfl,rfl,by simp -dsimp[-getElem?_pos,go_sem,gL]⟩
 ·have hk:k=l.length:=by
   have:¬k<l.length:=by simpa using h
   omega
  subst hk
  simp[go_sem,hP,t5]
  rw[zQ (by omega)]at hH
  refine done (x:=aA L) ?_ rfl ?_<;>rw[fo,hH,dQ]
  ·rw[vW,zQ (by simp[lL])]
   exact eV L
  ·rw[vW,zQ (by simp[lL])]
   rfl
theorem xk (l:List Pos) (g:FuncId) (caps:List AV) (p:Pos→Bool) (hl:l.length≤1000000) (hen:aa Tryz.prog g=true) (hcap:∀a,a∈caps→Imm a)
  (hg:∀a,a∈l→PFun Tryz.prog none none g (.agg (Pos.cells a)::caps) (·=bv (p a))):
  PFun Tryz.prog none none 132 [.list 2 (ao Pos.cells l),.fn g caps] (·=iv (fD p l)):=by
 refine ab Tryz.func132 rfl (by simp[Tryz.f132]) (by kernel_rfl) ?_
 intro E hP hr hs hW hN
 simp[go_sem,hP]
 obtain⟨I,hI⟩:∃I:Nat→St→Prop,I=fun m s=>∃k:Nat,k≤l.length∧m=l.length-k∧fD p l=bE p k (l.drop k)∧s.t 0= .list 2 (ao Pos.cells l)∧s.t 1= .fn g caps∧s.t 7=iv l.length∧s.t 8=iv k:=⟨_,rfl⟩
 refine az I (l.length) (by rw[hN];rfl) ?_ ?_
 ·rw[hI]
  exact⟨0,by omega,by omega,by simp[fD],rfl,rfl,rfl,rfl⟩
 intro m s hs'
 rw[hI]at hs'
 obtain⟨k,hk,hm,hi,t0,t1,t7,t8⟩:=hs'
 simp[go_sem,hP,t7,t8]
 refine aB ?_ ?_<;>intro h
 ·have hk:k<l.length:=by simpa using h
  obtain⟨a,ha⟩:=gkE hk
  have wk:=ae ((k:Int)+1) (by omega)
  have hz:(Pos.cells a).take 2=Pos.cells a:=zQ (by rw[Pos.len];omega)
  have hd:l.drop k=a::l.drop (k+1):=by
   rw[zF hk]at ha
   rw[wE hk,wT ha]
  simp[go_sem,hP,t8,t1,t0,ha,Pos.len,hz]
  refine aJ ((hg a (zE ha)).lift _ _) hP hen (fun x hx=>?_) .sc ?_
  ·rcases zO.1 hx with rfl|hx
   ·exact bH.2 (Pos.imm a)
   ·exact hcap x hx
  rw[hd]at hi
  simp only[bE]at hi
  simp[go_sem,hP]
  refine aB ?_ ?_<;>intro hp
  ·rw[if_pos hp]at hi
   simp[go_sem,hP]
   exact hi.symm
  ·rw[hp,if_neg (by simp)]at hi
   simp[go_sem,hP,t8,wk]
   refine⟨l.length-(k+1),by omega,?_⟩
   rw[hI]
   exact⟨k+1,by omega,rfl,hi,t0,t1,t7,rfl⟩
 ·have hk:k=l.length:=by simp at h;omega
  subst hk
  rw[wG]at hi
  simp[go_sem,hP]
  exact hi.symm
theorem pG (l:List Pos) (g:FuncId) (caps:List AV) (p:Pos→Bool) (hl:l.length≤1000000) (hen:aa Tryz.prog g=true) (hcap:∀a,a∈caps→Imm a)
  (hg:∀a,a∈l→PFun Tryz.prog none none g (.agg (Pos.cells a)::caps) (·=bv (p a))):
  PFun Tryz.prog none none 59 [.list 2 (ao Pos.cells l),.fn g caps] (·=bv (l.any p)):=by
 refine ab Tryz.func59 rfl (by simp[Tryz.f59]) (by kernel_rfl) ?_
 intro E hP hr hs hW hN
 obtain⟨w,hw⟩:∃w,w=l.any p:=⟨_,rfl⟩
 rw[←hw]
 have hi:∀a,a∈[AV.list 2 (ao Pos.cells l),.fn g caps]→Imm a:=fun a ha=>by
  simp only[zO,wC,or_false]at ha
  rcases ha with rfl|rfl
  ·exact aY _ Pos.imm _
  ·exact gz.2 hcap
 simp[go_sem,hP]
 refine aJ ((xk l g caps p hl hen hcap hg).lift _ _) hP Qd hi .sc ?_
 rcases dF p l with⟨h1,h2⟩|⟨i,a,h1,h2,h3,_⟩
 ·have:w=false:=by rw[hw];exact List.any_eq_false.2 fun a ha=>by simp[h2 a ha]
  simp[go_sem,hP,h1,this]
 ·have d:decide ((0:Int)≤(i:Int))=true:=zC (by omega)
  have:w=true:=by rw[hw];exact vL.2 ⟨a,zE h1,h2⟩
  simp[go_sem,hP,h3,d,this]
theorem xp (l:List Pln) (g:FuncId) (caps:List AV) (p:Pln→Bool) (hl:l.length≤1000000) (hen:aa Tryz.prog g=true) (hcap:∀a,a∈caps→Imm a)
  (hg:∀a,a∈l→PFun Tryz.prog none none g (.agg (Pln.cells a)::caps) (·=bv (p a))):
  PFun Tryz.prog none none 71 [.list 3 (ao Pln.cells l),.fn g caps] (·=iv (fD p l)):=by
 refine ab Tryz.func71 rfl (by simp[Tryz.f71]) (by kernel_rfl) ?_
 intro E hP hr hs hW hN
 simp[go_sem,hP]
 obtain⟨I,hI⟩:∃I:Nat→St→Prop,I=fun m s=>∃k:Nat,k≤l.length∧m=l.length-k∧fD p l=bE p k (l.drop k)∧s.t 0= .list 3 (ao Pln.cells l)∧s.t 1= .fn g caps∧s.t 7=iv l.length∧s.t 8=iv k:=⟨_,rfl⟩
 refine az I (l.length) (by rw[hN];rfl) ?_ ?_
 ·rw[hI]
  exact⟨0,by omega,by omega,by simp[fD],rfl,rfl,rfl,rfl⟩
 intro m s hs'
 rw[hI]at hs'
 obtain⟨k,hk,hm,hi,t0,t1,t7,t8⟩:=hs'
 simp[go_sem,hP,t7,t8]
 refine aB ?_ ?_<;>intro h
 ·have hk:k<l.length:=by simpa using h
  obtain⟨a,ha⟩:=gkE hk
  have wk:=ae ((k:Int)+1) (by omega)
  have hz:(Pln.cells a).take 3=Pln.cells a:=zQ (by rw[Pln.len];omega)
  have hd:l.drop k=a::l.drop (k+1):=by
   rw[zF hk]at ha
   rw[wE hk,wT ha]
  simp[go_sem,hP,t8,t1,t0,ha,Pln.len,hz]
  refine aJ ((hg a (zE ha)).lift _ _) hP hen (fun x hx=>?_) .sc ?_
  ·rcases zO.1 hx with rfl|hx
   ·exact bH.2 (Pln.imm a)
   ·exact hcap x hx
  rw[hd]at hi
  simp only[bE]at hi
  simp[go_sem,hP]
  refine aB ?_ ?_<;>intro hp
  ·rw[if_pos hp]at hi
   simp[go_sem,hP]
   exact hi.symm
  ·rw[hp,if_neg (by simp)]at hi
   simp[go_sem,hP,t8,wk]
   refine⟨l.length-(k+1),by omega,?_⟩
   rw[hI]
   exact⟨k+1,by omega,rfl,hi,t0,t1,t7,rfl⟩
 ·have hk:k=l.length:=by simp at h;omega
  subst hk
  rw[wG]at hi
  simp[go_sem,hP]
  exact hi.symm
theorem pd (l:List Pln) (g:FuncId) (caps:List AV) (p:Pln→Bool) (hl:l.length≤1000000) (hen:aa Tryz.prog g=true) (hcap:∀a,a∈caps→Imm a)
  (hg:∀a,a∈l→PFun Tryz.prog none none g (.agg (Pln.cells a)::caps) (·=bv (p a))):
  PFun Tryz.prog none none 62 [.list 3 (ao Pln.cells l),.fn g caps] (·=bv (l.any p)):=by
 refine ab Tryz.func62 rfl (by simp[Tryz.f62]) (by kernel_rfl) ?_
 intro E hP hr hs hW hN
 obtain⟨w,hw⟩:∃w,w=l.any p:=⟨_,rfl⟩
 rw[←hw]
 have hi:∀a,a∈[AV.list 3 (ao Pln.cells l),.fn g caps]→Imm a:=fun a ha=>by
  simp only[zO,wC,or_false]at ha
  rcases ha with rfl|rfl
  ·exact aY _ Pln.imm _
  ·exact gz.2 hcap
 simp[go_sem,hP]
 refine aJ ((xp l g caps p hl hen hcap hg).lift _ _) hP Px hi .sc ?_
 rcases dF p l with⟨h1,h2⟩|⟨i,a,h1,h2,h3,_⟩
 ·have:w=false:=by rw[hw];exact List.any_eq_false.2 fun a ha=>by simp[h2 a ha]
  simp[go_sem,hP,h1,this]
 ·have d:decide ((0:Int)≤(i:Int))=true:=zC (by omega)
  have:w=true:=by rw[hw];exact vL.2 ⟨a,zE h1,h2⟩
  simp[go_sem,hP,h3,d,this]
theorem SE {l:List Int} (h:oI l=true) {k:Nat} {d:Int} (hk:l[k]?=some d):(0≤d∧d≤36000)∧∀e,0<k→l[k-1]?=some e→e<d:=by
 obtain⟨h1,h2⟩:=gI.1 h
 refine⟨h1 d (zE hk),fun e h0 he=>?_⟩
 obtain⟨a,b⟩:=zM.1 hk
 obtain⟨c,f⟩:=zM.1 he
 have:=vT.1 h2 (k-1) k c a (by omega)
 rwa[b,f]at this
theorem Ea (l:List Int) (hl:l.length≤1000000) (ha:oI l=true):PFun Tryz.prog none none 65 [aA l] (·=bv true):=by
 refine ab Tryz.func65 rfl (by simp[Tryz.f65]) (by kernel_rfl) ?_
 intro E hP hr hs hW hN
 simp[go_sem,hP,aA]
 obtain⟨I,hI⟩:∃I:Nat→St→Prop,I=fun m s=>∃k:Nat,k≤l.length∧m=l.length-k∧s.t 0=aA l∧s.t 5=aA l∧s.t 6=iv l.length∧s.t 7=iv k:=⟨_,rfl⟩
 refine az I (l.length) (by rw[hN];rfl) ?_ ?_
 ·rw[hI]
  exact⟨0,by omega,by omega,by simp -dsimp[-getElem?_pos,go_sem,aA],by simp -dsimp[-getElem?_pos,go_sem,aA],rfl,rfl⟩
 intro m s hs'
 rw[hI]at hs'
 obtain⟨k,hk,hm,t0,t5,t6,t7⟩:=hs'
 simp[go_sem,hP,t6,t7]
 refine aB ?_ ?_<;>intro h
 ·have hk:k<l.length:=by simpa using h
  obtain⟨d,hd⟩:=gkE hk
  obtain⟨vd,v2⟩:=SE ha hd
  have wk:=ae ((k:Int)+1) (by omega)
  have dp:=Ew d
  rw[show oL d=true from by simp[oL,bV];omega]at dp
  simp[go_sem,hP,t5,t7,hd,aA]
  refine af dp hP s8 (by simp[an]) .sc ?_
  have fin:∀s':St,s'.t 0=aA l→s'.t 5=aA l→s'.t 6=iv l.length→s'.t 7=iv ((k:Int)+1)→∃n',n'<m∧I n' s':=fun s' a b c e=>by
   refine⟨l.length-(k+1),by omega,?_⟩
   rw[hI]
   exact⟨k+1,by omega,rfl,a,b,c,e.trans rfl⟩
  rcases wR k with h0|h0
  ·have d0:decide ((0:Int)<(k:Int))=false:=zA (by omega)
   have n0:¬0<k:=by omega
   simp[go_sem,hP,d0,n0,t7,wk]
   exact fin _ t0 t5 t6 rfl
  ·have d0:decide ((0:Int)<(k:Int))=true:=zC (by omega)
   obtain⟨e,he⟩:∃e,l[k-1]?=some e:=⟨_,zF (by omega)⟩
   have w1:IntKind.i64.wrap ((k:Int)-1)=((k-1:Nat):Int):=by rw[ae _ (by omega)];omega
   have lt:=v2 e h0 he
   have d2:decide (d≤e)=false:=zA (by omega)
   simp[go_sem,hP,d0,h0]
   simp[go_sem,hP,t0,w1,he,aA,d2,t7,wk]
   exact fin _ t0 t5 t6 rfl
 ·simp[go_sem,hP]
theorem D8 (x:Pos):PFun Tryz.prog none none 61 [.agg x.cells] (·=bv (jS x.a)):=by
 refine ab Tryz.func61 rfl (by simp[Tryz.f61]) (by kernel_rfl) ?_
 intro E hP hr hs hW hN
 have to:=nU x.a
 rw[←EU]at to
 simp[go_sem,hP,cPs]
 refine af to hP KC (by simp[an]) .sc ?_
 simp[go_sem,hP]
theorem JL (x:Pos):PFun Tryz.prog none none 122 [.agg x.cells] (·=bv (!jS x.a)):=by
 refine ab Tryz.func122 rfl (by simp[Tryz.f122]) (by kernel_rfl) ?_
 intro E hP hr hs hW hN
 have to:=D8 x
 have ix:=Ed x
 rw[cPs]at to ix
 simp[go_sem,hP,cPs]
 refine af to hP NV (by simpa using ix) .sc ?_
 simp[go_sem,hP]
theorem qg {b:Bnd} {l:List Pos} (h:tW b l=0):oV b=true∧(∀x,x∈l→jS x.a=true)∧oI (l.map (·.d))=true∧l.length≤1000:=by
 unfold tW at h
 split at h
 ·split at h
  ·split at h
   ·split at h
    ·rename_i h1 h2 h3 h4
     exact⟨h1,fun x hx=>zS.1 h2 x hx,h3,h4⟩
    ·cases h
   ·cases h
  ·cases h
 ·cases h
theorem KM {l:List Pos} (h:∀x,x∈l→jS x.a=true):(l.any fun x=>!jS x.a)=false:=List.any_eq_false.2 fun x hx=>by simp[h x hx]
theorem AR (b:Bnd) (l:List Pos) (h:tW b l=0):PFun Tryz.prog none none 51 [.agg b.cells,n7 l] (·=iv 0):=by
 obtain⟨hb,ht,ha,hl⟩:=qg h
 have c0:=Al b hb
 have c1:=pG l 122 [] (fun x=>!jS x.a) (by omega) Va (by simp) fun x _=>JL x
 rw[KM ht]at c1
 have dp:=xj l (by omega)
 have ac:=Ea (l.map (·.d)) (by simp;omega) ha
 have iD:=eV (l.map (·.d))
 obtain⟨D,hD⟩:∃D,D=l.map (·.d):=⟨_,rfl⟩
 rw[←hD]at dp ac iD
 have iL:=gg l
 have ib:=qh b
 rw[sQ]at c0 ib
 refine ab Tryz.func51 rfl (by simp[Tryz.f51]) (by kernel_rfl) ?_
 intro E hP hr hs hW hN
 simp[go_sem,hP,sQ]
 refine af c0 hP Tz (by simpa using ib) .sc ?_
 simp[go_sem,hP]
 refine af c1 hP Ty (by simpa[gz]using iL) .sc ?_
 simp[go_sem,hP]
 refine af dp hP TU (by simpa[gz]using iL) iD ?_
 simp[go_sem,hP]
 refine af ac hP OS (by simpa using iD) .sc ?_
 have d:decide (1000<l.length)=false:=zA (by omega)
 have d2:decide ((1000:Int)<(l.length:Int))=false:=zA (by omega)
 have nl:¬1000<l.length:=by omega
 simp[go_sem,hP,ar,d,d2,nl]
theorem Ak {a a' b c:AV} (ha:Weak a a'):Weak (.tup [a,b,c]) (.tup [a',b,c]):=by
 refine .tup rfl fun i x y hx hy=>?_
 match i,hx,hy with
 |0,hx,hy=>simp at hx hy;subst hx;subst hy;exact ha
 |1,hx,hy=>simp at hx hy;subst hx;subst hy;exact .refl _
 |2,hx,hy=>simp at hx hy;subst hx;subst hy;exact .refl _
 |i+3,hx,hy=>simp at hx
theorem QP {H:ah} {id n ty k:Nat} {es:List (List AV)} {v w:Value} {Q:AV→Prop} {b:Bx Q} (h:H[id]?=some (some ⟨ty,k,es⟩)) (hn:n=es.length) (hi:Imm (.list k es)) (hq:Q (.tup [.list k es,.sc v,.sc w])):jh H (.tup [.sref id 0 n,.sc v,.sc w]) Q b:=by
 have hv:iC H (.sref id 0 n)= .list k es:=by
  rw[rY,h,dQ]
  simp only[vW]
  rw[zQ (by omega)]
 exact eU (jb (by rw[hv];exact hi) .sc .sc) (jb hi .sc .sc) (Ak (by rw[hv];exact .refl _)) hq
theorem MM {H:ah} {k:Nat} {v w:Value} {Q:AV→Prop} {b:Bx Q} (hq:Q (.tup [.list k [],.sc v,.sc w])):jh H (.tup [.nil,.sc v,.sc w]) Q b:=
 eU (jb .nil .sc .sc) (jb (dv.2 (by simp)) .sc .sc) (Ak (.nil k)) hq
theorem Gq (b:Bnd) {l:List Pos} {k:Nat} {x:Pos} (h:l[k]?=some x):cr b (l.take (k+1))=cr b (l.take k)++gX b x:=by
 rw[wJ,h]
 simp[cr]
theorem rU (b:Bnd):∀l:List Pos,(cr b l).length≤l.length
 |[]=>by simp[cr]
 |x::l=>by
  have ih:=rU b l
  have e:cr b (x::l)=gX b x++cr b l:=by simp[cr]
  have:(gX b x).length≤1:=by unfold gX;split<;>simp
  rw[e,zK,wI]
  omega
theorem qQ {b:Bnd}:∀{l:List Pos} {k:Nat} {x:Pos},l[k]?=some x→(∀(j:Nat) (y:Pos),j<k→l[j]?=some y→qF b y.a=true)→(qF b x.a=false→dy b l=some x.d)
 |[],k,x,h,_,_=>by simp at h
 |y::l,0,x,h,_,hx=>by
  simp at h
  subst h
  rw[dy,if_neg (by simp[hx])]
 |y::l,k+1,x,h,hy,hx=>by
  rw[dy,if_pos (hy 0 y (by omega) rfl)]
  exact qQ (k:=k) (by simpa using h) (fun j z hj hz=>hy (j+1) z (by omega) (by simpa using hz)) hx
theorem sC {b:Bnd}:∀{l:List Pos},(∀(j:Nat) (y:Pos),l[j]?=some y→qF b y.a=true)→dy b l=none
 |[],_=>rfl
 |y::l,h=>by
  rw[dy,if_pos (h 0 y rfl)]
  exact sC fun j z hz=>h (j+1) z (by simpa using hz)
theorem Pp (b:Bnd) (l:List Pos) (h:tW b l=0):PFun Tryz.prog none none 15 [.agg b.cells,n7 l] (·= .tup [AZ (og b l).1,iv (og b l).2.1,iv (og b l).2.2]):=by
 obtain⟨hb,ht,ha,hl⟩:=qg h
 have ck:=AR b l h
 have iL:=gg l
 have ib:=qh b
 have dc:=fun (n:Int) (hn:jS n=true)=>z8 b n hb hn
 obtain⟨Q,hQ⟩:∃Q:AV→Prop,Q=(·= .tup [AZ (og b l).1,iv (og b l).2.1,iv (og b l).2.2]):=⟨_,rfl⟩
 rw[←hQ]
 have qn:∀d,dy b l=some d→Q (.tup [.list 3 [],iv d,iv 10]):=fun d e=>by rw[hQ,og,if_pos h,e];rfl
 have qy:dy b l=none→Q (.tup [AZ (cr b l),iv (-1),iv 0]):=fun e=>by rw[hQ,og,if_pos h,e]
 clear hQ
 rw[sQ]at ck ib
 refine ab Tryz.func15 rfl (by simp[Tryz.f15]) (by kernel_rfl) ?_
 intro E hP hr hs hW hN
 simp -dsimp -implicitDefEqProofs [-getElem?_pos,go_sem,hP,sQ]
 refine af ck hP TG (by simpa using⟨ib,iL⟩) .sc ?_
 simp -dsimp -implicitDefEqProofs [-getElem?_pos,go_sem,hP]
 refine cV 8 120 3 rfl ?_
 obtain⟨I,hI⟩:∃I:Nat→St→Prop,I=fun m s=>∃k id:Nat,k≤l.length∧m=l.length-k∧¬id=0∧(∀(j:Nat) (y:Pos),j<k→l[j]?=some y→qF b y.a=true)∧s.t 2= .ref 0 0 0∧s.t 8= .sref id 0 (cr b (l.take k)).length∧s.t 20=n7 l∧s.t 21=iv l.length∧s.t 22=iv k∧s.H[0]?=some (some ⟨61,5,[[iv b.low,iv b.high,iv b.lot,iv b.mr,iv b.mp]]⟩)∧s.H[id]?=some (some ⟨120,3,ao Pln.cells (cr b (l.take k))⟩):=⟨_,rfl⟩
 refine az I (l.length) (by rw[hN];rfl) ?_ ?_
 ·rw[hI]
  exact⟨0,1,by omega,by omega,by omega,fun j y h=>by omega,rfl,by simp -dsimp[-getElem?_pos,go_sem,cr],rfl,rfl,rfl,rfl,by simp -dsimp[-getElem?_pos,go_sem,cr,ao]⟩
 intro m s hs'
 rw[hI]at hs'
 obtain⟨k,id,hk,hm,hid,hall,t2,t8,t20,t21,t22,g0,hH⟩:=hs'
 have lt:=(gsI hH)
 have l0:=(gsI g0)
 simp -dsimp -implicitDefEqProofs [-getElem?_pos,go_sem,hP,t21,t22]
 refine aB ?_ ?_<;>intro h
 ·have hk:k<l.length:=by simpa using h
  obtain⟨x,hx⟩:=gkE hk
  have wk:=ae ((k:Int)+1) (by omega)
  have tx:=ht x (zE hx)
  obtain⟨rb,pb⟩:=GZ hb tx
  have dq:=dc x.a tx
  rw[sQ]at dq
  obtain⟨nb,hnb⟩:∃nb,nb=s.H.length:=⟨_,rfl⟩
  have gnb:∀x:Option AObj,(s.H++[x])[nb]?=some x:=fun x=>by rw[hnb];simp
  have gid:∀x:Option AObj,(s.H++[x])[id]?=s.H[id]?:=fun x=>zD lt
  have g00:∀x:Option AObj,(s.H++[x])[0]?=s.H[0]?:=fun x=>zD l0
  have lnb:nb<s.H.length+1:=by omega
  have lid:id<s.H.length+1:=by omega
  obtain⟨cur,hcur⟩:∃cur,cur=cr b (l.take k):=⟨_,rfl⟩
  have sn:=Gq b hx
  have lcur:=rU b (l.take k)
  rw[←hcur]at t8 hH sn lcur
  rw[zY]at lcur
  by_cases hd:qF b x.a=true
  rotate_left
  ·rw[ym,if_neg hd]at dq
   have q:=qn x.d (qQ hx hall (by simpa using hd))
   simp -dsimp -implicitDefEqProofs [-getElem?_pos,go_sem,hP,t2,t20,t22,hx,cPs]
   rw[←hnb]
   simp -dsimp -implicitDefEqProofs [-getElem?_pos,go_sem,hP,g00,g0,gnb]
   refine af dq hP KD (by simpa[an]using ib) (jb .sc .sc .sc) ?_
   simp -dsimp -implicitDefEqProofs [-getElem?_pos,go_sem,hP]
   refine aq (fun _=>true) [] hP (by kernel_rfl) (by kernel_rfl) ?_
   simp -dsimp -implicitDefEqProofs [-getElem?_pos,go_sem,hP,gnb]
   exact MM q
  rw[ym,if_pos hd]at dq
  obtain⟨R,hR⟩:∃R,R=bI b x.a:=⟨_,rfl⟩
  obtain⟨P,hPl⟩:∃P,P=bG b x.a:=⟨_,rfl⟩
  have pO:gX b x=if 0<R+P then [⟨x.d,R,P⟩]else []:=by rw[gX,←hR,←hPl]
  rw[pO]at sn
  rw[←hR]at dq rb
  rw[←hPl]at dq pb
  have w:=ae (R+P) (by omega)
  have nxt:∀(s':St) (id':Nat) (c':List Pln),c'=cr b (l.take (k+1))→¬id'=0→s'.t 2= .ref 0 0 0→s'.t 8= .sref id' 0 c'.length→s'.t 20=n7 l→s'.t 21=iv l.length→s'.t 22=iv ((k:Int)+1)→s'.H[0]?=s.H[0]?→s'.H[id']?=some (some ⟨120,3,ao Pln.cells c'⟩)→∃n',n'<m∧I n' s':=fun s' id' c' hc' b1 b2 b3 b4 b5 b6 b7 b8=>by
   refine⟨l.length-(k+1),by omega,?_⟩
   rw[hI]
   refine⟨k+1,id',by omega,rfl,b1,fun j y hj hy=>?_,b2,by rw[←hc'];exact b3,b4,b5,b6.trans rfl,b7.trans g0,by rw[←hc'];exact b8⟩
   rcases Nat.lt_or_ge j k with h|h
   ·exact hall j y h hy
   ·have:j=k:=by omega
    subst this
    rw[hx]at hy
    cases hy
    exact hd
  simp -dsimp -implicitDefEqProofs [-getElem?_pos,go_sem,hP,t2,t20,t22,hx,cPs]
  rw[←hnb]
  simp -dsimp -implicitDefEqProofs [-getElem?_pos,go_sem,hP,g00,g0,gnb]
  refine af dq hP KD (by simpa[an]using ib) (jb .sc .sc .sc) ?_
  by_cases hp:0<R+P
  ·have d:decide (0<R+P)=true:=zC hp
   rw[if_pos hp]at sn
   have app:ao Pln.cells cur++[[iv x.d,iv R,iv P]]=ao Pln.cells (cur++[⟨x.d,R,P⟩]):=aX Pln.cells cur ⟨x.d,R,P⟩
   have ln:=ar Pln.cells cur
   simp -dsimp -implicitDefEqProofs [-getElem?_pos,go_sem,hP,w,d,t8,t22,gnb,gid,hH,lid,ln,app,wk]
   refine⟨by omega,by omega,?_⟩
   refine nxt _ (s.H.length+1) _ sn.symm (by omega) t2 (by simp -dsimp[-getElem?_pos,go_sem]) t20 t21 rfl ?_ (by simp -dsimp[-getElem?_pos,go_sem])
   simp -dsimp -implicitDefEqProofs [-getElem?_pos,go_sem]
   rw[zH hid,zD l0]
  ·have d:decide (0<R+P)=false:=zA hp
   rw[if_neg hp,wY]at sn
   simp -dsimp -implicitDefEqProofs [-getElem?_pos,go_sem,hP,w,d,t22,wk]
   exact nxt _ id _ sn.symm hid t2 t8 t20 t21 rfl (by simp -dsimp[-getElem?_pos,go_sem,g00]) (by simp -dsimp[-getElem?_pos,go_sem,gid,hH])
 ·have hk:k=l.length:=by
   have:¬k<l.length:=by simpa using h
   omega
  subst hk
  rw[zT]at t8 hH
  have fb:dy b l=none:=sC fun j y hy=>hall j y (gsI hy) hy
  simp -dsimp -implicitDefEqProofs [-getElem?_pos,go_sem,hP,t8]
  exact QP hH (by rw[ar]) (mT _) (qy fb)
open Go.PA
open Go.RowKit
theorem HY {row src:Option Nat} (l:List Pos) (H:ah) (hl:l.length≤1000000):MFun Tryz.prog row src 69 [.list 2 (ao Pos.cells l)] H (fun r H'=>∃id,r= .sref id 0 l.length∧H.length≤id∧H'[id]?=some (some ⟨66,2,ao Pos.cells l⟩)∧Kept [] H H'):=by
 have own:MFun Tryz.prog row src 69 [.list 2 (ao Pos.cells l)] H (fun r H'=>(r= .nil∧l=[]∧H'=H)∨∃id,r= .sref id 0 l.length∧H.length≤id∧H'[id]?=some (some ⟨66,2,ao Pos.cells l⟩)∧Kept [] H H'):=by
  cases l with
  |nil=>
   refine qU fun A c=>?_
   refine aG Tryz.func69 rfl (by simp[Tryz.f69]) (by kernel_rfl) ⟨.nil,H,.inl ⟨rfl,rfl,rfl⟩⟩ ?_
   intro E hP hr hs hN
   cases A with
   |none=>simp[go_sem,hP]
   |some a=>
    simp[go_sem,hP]
    exact bN _ _ _
  |cons a l=>
   refine aG Tryz.func69 rfl (by simp[Tryz.f69]) (by kernel_rfl) ⟨_,H++[some ⟨66,2,ao Pos.cells (a::l)⟩],.inr ⟨H.length,rfl,zZ _,by simp,fB _ (aD _ _)⟩⟩ ?_
   intro E hP hr hs hN
   simp only[wI]at hl
   have e:ao Pos.cells (a::l)=Pos.cells a::ao Pos.cells l:=rfl
   simp[go_sem,hP,e]
   refine⟨by omega,by omega,?_⟩
   exact bN _ _ _
 refine (own.ownNil 66 2).mono ?_
 rintro r H' (⟨H0,h0,rfl,rfl⟩|⟨hne,h⟩)
 ·rcases h0 with⟨_,rfl,rfl⟩|⟨id,h,_⟩
  ·exact⟨_,rfl,zZ _,by simp[ao],fB _ (aD _ _)⟩
  ·cases h
 ·rcases h with⟨h,_⟩|h
  ·exact absurd h hne
  ·exact h
theorem Sl (x:Pos) (day:Int):PFun Tryz.prog none none 136 [.agg x.cells,.iref [iv day]] (·=bv (decide (x.d=day))):=by
 refine ab Tryz.func136 rfl (by simp[Tryz.f136]) (by kernel_rfl) ?_
 intro E hP hr hs hW hN
 simp[go_sem,hP,cPs]
theorem RD (l:List Pos) (day:Int) (hl:l.length≤1000000):PFun Tryz.prog none none 70 [n7 l,iv day] (·=iv (fD (fun x:Pos=>decide (x.d=day)) l)):=by
 have ip:=xk l 136 [.iref [iv day]] (fun x=>decide (x.d=day)) hl VD (by simp[cY,an]) fun x _=>Sl x day
 have iL:=gg l
 refine ab Tryz.func70 rfl (by simp[Tryz.f70]) (by kernel_rfl) ?_
 intro E hP hr hs hW hN
 simp[go_sem,hP]
 refine mL (ip.lift _ _) hP hW Qd (aL iL (jO (cs:=[.ref 0 0 0]) (by simp -dsimp[-getElem?_pos,go_sem,ij]) (by simp[cY,an]) (aZ.2 trivial))) .sc ?_
 simp[go_sem,hP]
theorem E0 (q:Pln) (l:List Pos) (hl:l.length≤1000000):PFun Tryz.prog none none 135 [.agg q.cells,.iref [n7 l]] (·=bv (!(l.any fun x=>decide (x.d=q.d)))):=by
 have ap:=RD l q.d hl
 have iL:=gg l
 obtain⟨w,hw⟩:∃w,w=l.any fun x=>decide (x.d=q.d):=⟨_,rfl⟩
 rw[←hw]
 refine ab Tryz.func135 rfl (by simp[Tryz.f135]) (by kernel_rfl) ?_
 intro E hP hr hs hW hN
 simp[go_sem,hP,sk]
 refine af ap hP TN (by simpa[an]using iL) .sc ?_
 rcases dF (fun x:Pos=>decide (x.d=q.d)) l with⟨h1,h2⟩|⟨i,a,h1,h2,h3,_⟩
 ·have:w=false:=by rw[hw];exact List.any_eq_false.2 fun a ha=>by simpa using h2 a ha
  simp[go_sem,hP,h1,this]
 ·have d:decide ((i:Int)<0)=false:=zA (by omega)
  have:w=true:=by rw[hw];exact vL.2 ⟨a,zE h1,h2⟩
  simp[go_sem,hP,h3,d,this]
theorem xR {l:List Pos} {ps:List Pln} (h:kZ l ps=true):oI (ps.map (·.d))=true∧∀q,q∈ps→∃(j:Nat) (x:Pos),l[j]?=some x∧x.d=q.d:=by
 unfold kZ at h
 rw[zG]at h
 refine⟨h.1,fun q hq=>?_⟩
 obtain⟨x,hx,e⟩:=vL.1 (zS.1 h.2 q hq)
 obtain⟨j,hj⟩:=wN hx
 exact⟨j,x,hj,by simpa using e⟩
theorem xC (l:List Pos) (ps:List Pln) (hl:l.length≤1000000) (hp:ps.length≤1000000) (h:kZ l ps=true):PFun Tryz.prog none none 68 [n7 l,AZ ps] (·=bv true):=by
 have dp:=Hq ps hp
 obtain⟨ha,hx⟩:=xR h
 have ac:=Ea (ps.map (·.d)) (by simpa using hp) ha
 have iD:=eV (ps.map (·.d))
 obtain⟨D,hD⟩:∃D,D=ps.map (·.d):=⟨_,rfl⟩
 rw[←hD]at dp ac iD
 have cp:=pd ps 135 [.iref [n7 l]] (fun q=>!(l.any fun x=>decide (x.d=q.d))) hp Ud (by simp[cY];exact gg l) fun q _=>E0 q l hl
 have e:(ps.any fun q=>!(l.any fun x=>decide (x.d=q.d)))=false:=List.any_eq_false.2 fun q hq=>by
  obtain⟨j,x,hj,e⟩:=hx q hq
  have:(l.any fun x=>decide (x.d=q.d))=true:=vL.2 ⟨x,zE hj,by simp[e]⟩
  simp[this]
 rw[e]at cp
 have iL:=gg l
 have iP:=mT ps
 refine ab Tryz.func68 rfl (by simp[Tryz.f68]) (by kernel_rfl) ?_
 intro E hP hr hs hW hN
 simp[go_sem,hP]
 refine af dp hP Vk (by simpa[gz]using iP) iD ?_
 simp[go_sem,hP]
 refine af ac hP OS (by simpa using iD) .sc ?_
 simp[go_sem,hP]
 refine mL (cp.lift _ _) hP hW TD (aL iP (jO (cs:=[.ref 0 0 0]) (by simp -dsimp[-getElem?_pos,go_sem,ij]) (by simp[cY];exact iL) (aZ.2 trivial))) .sc ?_
 simp[go_sem,hP]
theorem GQ (q:Pln) (h1:0≤q.r∧q.r≤1000000000000) (h2:0≤q.p∧q.p≤1000000000000):PFun Tryz.prog none none 64 [.agg q.cells] (·=bv true):=by
 have v1:=jz q.r
 have v2:=jz q.p
 rw[eZ h1]at v1
 rw[eZ h2]at v2
 refine ab Tryz.func64 rfl (by simp[Tryz.f64]) (by kernel_rfl) ?_
 intro E hP hr hs hW hN
 simp[go_sem,hP,sk]
 refine af v1 hP jZ (by simp[an]) .sc ?_
 simp[go_sem,hP]
 refine af v2 hP jZ (by simp[an]) .sc ?_
 simp[go_sem,hP]
theorem Ji (x:Pos):PFun Tryz.prog none none 60 [.agg x.cells] (·=bv (!jS x.a)):=by
 refine ab Tryz.func60 rfl (by simp[Tryz.f60]) (by kernel_rfl) ?_
 intro E hP hr hs hW hN
 have to:=D8 x
 have ix:=Ed x
 rw[cPs]at to ix
 simp[go_sem,hP,cPs]
 refine af to hP NV (by simpa using ix) .sc ?_
 simp[go_sem,hP]
theorem IA (q:Pln) (h1:0≤q.r∧q.r≤1000000000000) (h2:0≤q.p∧q.p≤1000000000000):PFun Tryz.prog none none 63 [.agg q.cells] (·=bv false):=by
 have am:=GQ q h1 h2
 have iq:=KK q
 rw[sk]at am iq
 refine ab Tryz.func63 rfl (by simp[Tryz.f63]) (by kernel_rfl) ?_
 intro E hP hr hs hW hN
 simp[go_sem,hP,sk]
 refine af am hP WG (by simpa using iq) .sc ?_
 simp[go_sem,hP]
structure PlOk (l:List Pos) (ps:List Pln):Prop where
 tot:∀x,x∈l→jS x.a=true
 asc:oI (l.map (·.d))=true
 pl:kZ l ps=true
 am:∀q,q∈ps→(0≤q.r∧q.r≤1000000000000)∧(0≤q.p∧q.p≤1000000000000)
 out:∀(x:Pos) (q:Pln),x∈l→q∈ps→x.d=q.d→jS (x.a+(q.r-q.p))=true
set_option maxHeartbeats 8000000 in
theorem MB (l:List Pos) (ps:List Pln) (hl:l.length≤1000) (hp:ps.length≤1000) (h:PlOk l ps):PFun Tryz.prog none none 18 [n7 l,AZ ps] (·= .tup [n7 (l.map fun y=>rN y ps),iv 0]):=by
 have c1:=pG l 60 [] (fun x=>!jS x.a) (by omega) Xm (by simp) fun x _=>Ji x
 rw[KM h.tot]at c1
 have c2:=pd ps 63 [] (fun _=>false) (by omega) Xk (by simp) fun q hq=>IA q (h.am q hq).1 (h.am q hq).2
 rw[show (ps.any fun _=>false)=false from by simp]at c2
 have dp:=xj l (by omega)
 have ac:=Ea (l.map (·.d)) (by simp;omega) h.asc
 have iD:=eV (l.map (·.d))
 obtain⟨D,hD⟩:∃D,D=l.map (·.d):=⟨_,rfl⟩
 rw[←hD]at dp ac iD
 have pn:=xC l ps (by omega) (by omega) h.pl
 have iL:=gg l
 have iP:=mT ps
 obtain⟨hpa,hpx⟩:=xR h.pl
 have hla:=(gI.1 h.asc).2
 have hpp:=(gI.1 hpa).2
 refine ab Tryz.func18 rfl (by simp[Tryz.f18]) (by kernel_rfl) ?_
 intro E hP hr hs hW hN
 simp -dsimp -implicitDefEqProofs [go_sem,hP]
 refine af c1 hP Ty (by simpa[gz]using iL) .sc ?_
 simp -dsimp -implicitDefEqProofs [go_sem,hP]
 refine af c2 hP TD (by simpa[gz]using iP) .sc ?_
 simp -dsimp -implicitDefEqProofs [go_sem,hP]
 refine af dp hP TU (by simpa[gz]using iL) iD ?_
 simp -dsimp -implicitDefEqProofs [go_sem,hP]
 refine af ac hP OS (by simpa using iD) .sc ?_
 simp -dsimp -implicitDefEqProofs [go_sem,hP]
 refine af pn hP TP (by simpa using⟨iL,iP⟩) .sc ?_
 simp -dsimp -implicitDefEqProofs [go_sem,hP]
 refine aI (HY (row:=E.row) (src:=E.src) l [] (by omega)) hP (by kernel_rfl) ?_
 rintro r H' ⟨id,rfl,hid,hH, -⟩
 simp -dsimp -implicitDefEqProofs [go_sem,hP,ar]
 obtain⟨I,hI⟩:∃I:Nat→St→Prop,I=fun m s=>∃(k:Nat),k≤ps.length∧m=ps.length-k∧s.t 0=n7 l∧s.t 6= .sref id 0 l.length∧s.t 28=AZ ps∧s.t 29=iv ps.length∧s.t 30=iv k∧s.H[id]?=some (some ⟨66,2,ao Pos.cells (l.map fun y=>rN y (ps.take k))⟩):=⟨_,rfl⟩
 refine az I (ps.length) (by rw[hN];rfl) ?_ ?_
 ·rw[hI]
  refine⟨0,by omega,by omega,rfl,rfl,rfl,by simp -dsimp[-getElem?_pos,go_sem,ar],rfl,?_⟩
  simp -dsimp -implicitDefEqProofs [go_sem]
  rw[hH]
  simp[rN,gY]
 intro m s hs'
 rw[hI]at hs'
 obtain⟨k,hk,hm,t0,t6,t28,t29,t30,hH⟩:=hs'
 have lt:=(gsI hH)
 simp -dsimp -implicitDefEqProofs [go_sem,hP,t29,t30]
 refine aB ?_ ?_<;>intro h'
 ·have hk:k<ps.length:=by simpa using h'
  obtain⟨q,hq⟩:=gkE hk
  have hqm:=zE hq
  have wk:=ae ((k:Int)+1) (by omega)
  obtain⟨a1,a2⟩:=h.am q hqm
  have ap:=RD l q.d (by omega)
  rcases dF (fun x:Pos=>decide (x.d=q.d)) l with⟨_,h2⟩|⟨j,x,hj,h2,h3,_⟩
  ·obtain⟨j,x,hj,e⟩:=hpx q hqm
   have:=h2 x (zE hj)
   simp[e]at this
  have hd:x.d=q.d:=by simpa using h2
  have hxm:=zE hj
  have hjl:=(gsI hj)
  obtain⟨m1,m2⟩:=Sq hla hpp hq hj hd
  have ho:=h.out x q hxm hqm hd
  have hto:=h.tot x hxm
  have to:=D8 ⟨x.d,x.a+(q.r-q.p)⟩
  rw[cPs]at to
  dsimp only at to
  rw[ho]at to
  have tb: -1000000000000000≤x.a∧x.a≤1000000000000000:=by simpa[jS]using hto
  have w1:=ae (q.r-q.p) (by omega)
  have w2:=ae (x.a+(q.r-q.p)) (by omega)
  rw[h3]at ap
  obtain⟨cur,hcur⟩:∃cur,cur=l.map fun y=>rN y (ps.take k):=⟨_,rfl⟩
  have lc:cur.length=l.length:=by rw[hcur,wL]
  rw[←hcur]at hH m1 m2
  have ec:(ao Pos.cells cur)[j]?=some [iv x.d,iv x.a]:=by rw[ao,zR,m1];rfl
  have es:(ao Pos.cells cur).set j [iv x.d,iv (x.a+(q.r-q.p))]=ao Pos.cells (l.map fun y=>rN y (ps.take (k+1))):=by
   rw[←m2,ao,ao,List.map_set]
   rfl
  obtain⟨nb,hnb⟩:∃nb,nb=s.H.length:=⟨_,rfl⟩
  have gnb:∀x:Option AObj,(s.H++[x])[nb]?=some x:=fun x=>by rw[hnb];simp
  have gid:∀x:Option AObj,(s.H++[x])[id]?=s.H[id]?:=fun x=>zD lt
  have lid:id<s.H.length+1:=by omega
  simp -dsimp -implicitDefEqProofs [go_sem,hP,t28,t30,hq,sk]
  rw[←hnb]
  simp -dsimp -implicitDefEqProofs [go_sem,hP,t6,t0,gnb]
  refine af ap hP TN (by simpa[an]using iL) .sc ?_
  simp -dsimp -implicitDefEqProofs [go_sem,hP,hjl,t6,gid,hH]
  refine aq (fun _=>true) [12] hP (by kernel_rfl) (by kernel_rfl) ?_
  have lcj:j<cur.length:=by omega
  obtain⟨nx,hnx⟩:∃nx,nx=l.map fun y=>rN y (ps.take (k+1)):=⟨_,rfl⟩
  have ln:nx.length=l.length:=by rw[hnx,wL]
  have ljn:j<nx.length:=by omega
  rw[←hnx]at es
  have en:(ao Pos.cells nx)[j]?=some [iv x.d,iv (x.a+(q.r-q.p))]:=by
   rw[←es,wK (by rw[ar];omega)]
  simp -dsimp -implicitDefEqProofs [-getElem?_pos,go_sem,hP,gid,hH,ec,gnb,w1,w2,lid,hjl,lcj,es,en,ljn,ar]
  have ito:=Ed ⟨x.d,x.a+(q.r-q.p)⟩
  rw[cPs]at ito
  refine af to hP NV (by simpa using ito) .sc ?_
  simp -dsimp -implicitDefEqProofs [go_sem,hP,t30,wk]
  refine⟨ps.length-(k+1),by omega,?_⟩
  rw[hI]
  exact⟨k+1,by omega,rfl,t0,t6,t28,t29,rfl,by simp -dsimp[-getElem?_pos,go_sem,lid,hnx]⟩
 ·have hk:k=ps.length:=by
   have:¬k<ps.length:=by simpa using h'
   omega
  subst hk
  rw[zT]at hH
  simp -dsimp -implicitDefEqProofs [go_sem,hP,t6]
  exact FQ hH (by rw[ar,wL]) (gg _) rfl
end Go.Proofs.YtfbogibogkbhmaaGreatDoor
namespace Go.PA
open Go.RowKit
variable {E:Env}
theorem Ue {c:Code} {s0:St} {Q:Exit→St→Prop} {b:Bx (c,Q)} (I:Nat→St→Prop) (n0:Nat) (h0:I n0 s0)
  (round:∀n s,I n s→AWp E c s (y7 n I Q .mk)):qK E c s0 Q b:=by
 intro a w r
 refine wp_loop_ghost (fun n a w=>∃s,I n s∧Rel E s a w) n0 ⟨_,h0,r⟩ fun n a w hI=>?_
 obtain⟨s,hs,r⟩:=hI
 refine wp_mono (round n s hs a w r) fun e a' w' h'=>?_
 obtain⟨s',h1,h2⟩:=h'
 cases e with
 |normal=>
  obtain⟨n',hlt,hI'⟩:=h1
  exact⟨n',hlt,_,hI',h2⟩
 |_=>exact⟨s',h1,h2⟩
theorem Q6 {a b:Code} {s:St} {Q:Exit→St→Prop} (h:AWp E a s (xI (fun s'=>AWp E b s' Q) Q)):AWp E (.seq a b) s Q:=by
 intro x w r
 refine wp_seq (wp_mono (h x w r) fun e a' w' h'=>?_)
 obtain⟨s',h1,h2⟩:=h'
 cases e with
 |normal=>exact h1 a' w' h2
 |_=>exact⟨s',h1,h2⟩
theorem IQ {id:Nat} {c:Code} {s:St} {Q:Exit→St→Prop} (h:AWp E c s (ll id Q)):AWp E (.block id c) s Q:=by
 intro a w r
 refine wp_block (wp_mono (h a w r) fun e a' w' h'=>?_)
 obtain⟨s',h1,h2⟩:=h'
 cases e with
 |exit i=>
  simp only[Exit.inBlock]
  simp only[ll]at h1
  split
  ·rename_i hi;rw[if_pos hi]at h1;exact⟨s',h1,h2⟩
  ·rename_i hi;rw[if_neg hi]at h1;exact⟨s',h1,h2⟩
 |_=>exact⟨s',h1,h2⟩
end Go.PA
namespace Go.Proofs.YtfbogibogkbhmaaGreatDoor
open Go.PA
open Go.RowKit
theorem HR (q:Pln) (x:Pos):PFun Tryz.prog none none 72 [.agg q.cells,.iref x.cells] (·=bv (decide (q.d=x.d))):=by
 refine ab Tryz.func72 rfl (by simp[Tryz.f72]) (by kernel_rfl) ?_
 intro E hP hr hs hW hN
 simp[go_sem,hP,sk,cPs]
set_option maxHeartbeats 2000000 in
theorem IY (b:Bnd) (n:Int) (q:Pln) (hb:oV b=true) (hn:jS n=true) (h:tc b n q=true):PFun Tryz.prog none none 73 [.agg b.cells,iv n,.agg q.cells] (·=bv true):=by
 unfold tc at h
 simp only[zG,zI]at h
 obtain⟨h1,h2,⟨h3,h4⟩,⟨h5,h6⟩,h7,h8⟩:=h
 obtain⟨_,_,b3,b4,b5⟩:=ju.1 hb
 have tn: -1000000000000000≤n∧n≤1000000000000000:=by simpa[jS]using hn
 have e1:q.r.tmod b.lot=0:=(wB h3).trans h1
 have e2:q.p.tmod b.lot=0:=(wB h5).trans h2
 have l0:¬b.lot=0:=by omega
 have a1:=mX q.r 0 b.mr
 have a2:=mX q.p 0 b.mp
 rw[zC h3,zC h4,Bool.and_self]at a1
 rw[zC h5,zC h6,Bool.and_self]at a2
 have w1:=ae (n+q.r) (by omega)
 have w2:=ae (n+q.r-q.p) (by omega)
 have wi:=rr b (n+q.r-q.p)
 rw[h8]at wi
 have ib:=qh b
 rw[sQ]at wi ib
 have h9:(!decide (q.r=0)==decide (q.p=0))=true:=by
  revert h7
  cases decide (q.r=0)<;>cases decide (q.p=0)<;>simp
 refine ab Tryz.func73 rfl (by simp[Tryz.f73]) (by kernel_rfl) ?_
 intro E hP hr hs hW hN
 simp[-getElem?_pos,go_sem,hP,sQ,sk,e1,e2,l0]
 refine af a1 hP AA (by simp[an]) .sc ?_
 simp[go_sem,hP]
 refine af a2 hP AA (by simp[an]) .sc ?_
 simp[go_sem,hP,h9,w1,w2]
 refine af wi hP QT (by simpa[an]using ib) .sc ?_
 simp[go_sem,hP]
set_option maxHeartbeats 8000000 in
theorem Mc (b:Bnd) (l:List Pos) (ps:List Pln) (hp:ps.length≤1000) (h:EJ b l ps=true):PFun Tryz.prog none none 19 [.agg b.cells,n7 l,AZ ps] (·=bv true):=by
 unfold EJ at h
 rw[zG,zG,zI]at h
 obtain⟨h1,h2,h3⟩:=h
 obtain⟨hb,ht,ha,hl⟩:=qg h1
 have ck:=AR b l h1
 have pn:=xC l ps (by omega) (by omega) h2
 have iL:=gg l
 have iP:=mT ps
 have ib:=qh b
 have hen:∀(n:Int) (q:Pln),jS n=true→tc b n q=true→PFun Tryz.prog none none 73 [.agg b.cells,iv n,.agg q.cells] (·=bv true):=fun n q a c=>IY b n q hb a c
 have hwi:=fun n=>rr b n
 rw[sQ]at ck ib
 simp only[sQ,sk]at hen hwi
 refine ab Tryz.func19 rfl (by simp[Tryz.f19]) (by kernel_rfl) ?_
 intro E hP hr hs hW hN
 simp -dsimp -implicitDefEqProofs [go_sem,hP,sQ]
 refine af ck hP TG (by simpa using⟨ib,iL⟩) .sc ?_
 simp -dsimp -implicitDefEqProofs [go_sem,hP]
 refine af pn hP TP (by simpa using⟨iL,iP⟩) .sc ?_
 simp -dsimp -implicitDefEqProofs [go_sem,hP,ar]
 obtain⟨I,hI⟩:∃I:Nat→St→Prop,I=fun m s=>∃(k:Nat),k≤l.length∧m=l.length-k∧s.t 2=AZ ps∧s.t 3= .ref 0 0 0∧s.t 20=n7 l∧s.t 21=iv l.length∧s.t 22=iv k∧s.H[0]?=some (some ⟨61,5,[[iv b.low,iv b.high,iv b.lot,iv b.mr,iv b.mp]]⟩):=⟨_,rfl⟩
 refine Ue I (l.length) ?_ ?_
 ·rw[hI]
  exact⟨0,by omega,by omega,rfl,rfl,rfl,by simp -dsimp[-getElem?_pos,go_sem,ar],rfl,rfl⟩
 intro m s hs'
 rw[hI]at hs'
 obtain⟨k,hk,hm,t2,t3,t20,t21,t22,g0⟩:=hs'
 have l0:=(gsI g0)
 refine aM (by rw[hN];kernel_rfl) ?_
 simp -dsimp -implicitDefEqProofs [go_sem,hP,t21,t22]
 refine aM (by rw[hN];kernel_rfl) ?_
 simp -dsimp -implicitDefEqProofs [go_sem,hP]
 refine aB ?_ ?_<;>intro h'
 rotate_left
 ·simp -dsimp -implicitDefEqProofs [go_sem,hP]
 have hk:k<l.length:=by simpa using h'
 obtain⟨x,hx⟩:=gkE hk
 have hxm:=zE hx
 have tx:=ht x hxm
 have wk:=ae ((k:Int)+1) (by omega)
 have ip:=xp ps 72 [.iref x.cells] (fun q=>decide (q.d=x.d)) (by omega) WV (by simp[cY];exact x.imm) fun q _=>HR q x
 have hgo:=zS.1 h3 x hxm
 have wi:=hwi x.a
 obtain⟨nb,hnb⟩:∃nb,nb=s.H.length:=⟨_,rfl⟩
 have gnb:∀x:Option AObj,(s.H++[x])[nb]?=some x:=fun x=>by rw[hnb];simp
 have g00:∀x:Option AObj,(s.H++[x])[0]?=s.H[0]?:=fun x=>zD l0
 have ix:=Ed x
 rw[cPs]at ip ix
 simp -dsimp -implicitDefEqProofs [go_sem,hP]
 refine Q6 ?_
 refine IQ ?_
 refine aM (by rw[hN];kernel_rfl) ?_
 simp -dsimp -implicitDefEqProofs [go_sem,hP,t20,t22,hx,cPs]
 rw[←hnb]
 refine AWp.weaken (E7 8 (id:=nb) (cs:=[iv x.d,iv x.a]) hW rfl (by simp -dsimp[-getElem?_pos,go_sem,gnb]) (by simp[an])) ?_
 refine be _ _ _ (by rw[hN];kernel_rfl) ?_
 have nb0:¬nb=0:=by omega
 obtain⟨H1,hH1⟩:∃H1:ah,H1=(s.H++[some (⟨66,2,[[iv x.d,iv x.a]]⟩:AObj)]).set nb none:=⟨_,rfl⟩
 have g1:H1[0]?=some (some ⟨61,5,[[iv b.low,iv b.high,iv b.lot,iv b.mr,iv b.mp]]⟩):=by
  rw[hH1,zH nb0,g00]
  exact g0
 have l1:=(gsI g1)
 rcases Fr (fun q:Pln=>decide (q.d=x.d)) ps with⟨i1,i2⟩|⟨j,q,i1,i2,i3⟩
 ·have e:gY ps x.d=none:=i2
  rw[e]at hgo
  dsimp only at hgo
  rw[hgo]at wi
  rw[i1]at ip
  simp -dsimp -implicitDefEqProofs [go_sem,hP,t2]
  rw[←hH1]
  refine af ip hP Px (by simpa[gz,cY,an]using iP) .sc ?_
  simp -dsimp -implicitDefEqProofs [go_sem,hP]
  refine aq (fun _=>true) [] hP (by kernel_rfl) (by kernel_rfl) ?_
  simp -dsimp -implicitDefEqProofs [-getElem?_pos,go_sem,hP,t3,g1,l1]
  refine af wi hP QT (by simpa[an]using ib) .sc ?_
  simp -dsimp -implicitDefEqProofs [go_sem,hP]
  refine be _ _ _ (by rw[hN];kernel_rfl) ?_
  simp -dsimp -implicitDefEqProofs [go_sem,hP,t22,wk]
  refine⟨l.length-(k+1),by omega,?_⟩
  rw[hI]
  exact⟨k+1,by omega,rfl,t2,t3,t20,t21,rfl,g1⟩
 ·have e:gY ps x.d=some q:=i3
  rw[e]at hgo
  dsimp only at hgo
  have en:=hen x.a q tx hgo
  have iq:=KK q
  rw[sk]at iq
  rw[i2]at ip
  have jl:=(gsI i1)
  have dj:decide ((j:Int)<0)=false:=zA (by omega)
  have dj2:decide ((0:Int)≤(j:Int))=true:=zC (by omega)
  simp -dsimp -implicitDefEqProofs [go_sem,hP,t2]
  rw[←hH1]
  refine af ip hP Px (by simpa[gz,cY,an]using iP) .sc ?_
  simp -dsimp -implicitDefEqProofs [go_sem,hP,dj,dj2]
  refine aq (fun _=>true) [] hP (by kernel_rfl) (by kernel_rfl) ?_
  simp -dsimp -implicitDefEqProofs [-getElem?_pos,go_sem,hP,t3,g1,l1,dj,dj2,t2,i1,jl,sk]
  refine af en hP XI (by simpa[an]using⟨ib,iq⟩) .sc ?_
  simp -dsimp -implicitDefEqProofs [go_sem,hP]
  refine be _ _ _ (by rw[hN];kernel_rfl) ?_
  simp -dsimp -implicitDefEqProofs [go_sem,hP,t22,wk]
  refine⟨l.length-(k+1),by omega,?_⟩
  rw[hI]
  exact⟨k+1,by omega,rfl,t2,t3,t20,t21,rfl,g1⟩
open Go.PA
open Go.RowKit
end Go.Proofs.YtfbogibogkbhmaaGreatDoor
