/- Several texts of this claim, joined: Reg3 PaIns PaCut Reg4 Reg5 Reg6 Reg7 PaCell Reg8 Reg9 Reg10 Cpn0 Ints Cpn1 Cpn2 Cpn3 SortFlow. -/
import Derived.Test.YtfbogibogkbhmaaGreatDoorPk3
import Derived.Lib.AppendZerosOnto
import Derived.Lib.Overlaps
import Derived.Laws.Externs
set_option linter.unusedSimpArgs false
set_option linter.unusedVariables false
set_option maxRecDepth 4000
namespace Go.Proofs.YtfbogibogkbhmaaGreatDoor
open Go.PA
open Go.RowKit
theorem Tj {H:ah} {x:AV} {k:Nat} {es:List (List AV)} {xs ys:List AV} (h:SlIs H x k es) (hi:Imm (.list k es)) (ht:Args H xs ys):Args H (x::xs) (.list k es::ys):=by
 rcases h with rfl|⟨rfl,rfl⟩|⟨id,ty,rfl,hH⟩
 ·exact aL hi ht
 ·exact CH ht
 ·exact ez hH rfl hi ht
set_option maxHeartbeats 1000000 in
theorem Iq (l:List THolding) (k1 k2:Int) (g:FuncId) (cf:THolding→Int) (k:Nat) (hl:l.length≤1000000) (hk:k≤l.length) (hen:aa Tryz.prog g=true) (hm:∀h x,l[h]?=some x→(cf x<0↔h<k))
  (hg:∀a,a∈l→PFun Tryz.prog none none g [.agg (THolding.cells a),.agg ([iv k1,iv k2])] (·=iv (cf a))):
  PFun Tryz.prog none none 325 [.list 3 (ao THolding.cells l),.agg ([iv k1,iv k2]),.fn g []] (·= .tup [iv k,bv ((l[k]?).any fun x=>decide (cf x=0))]):=by
 refine ab Tryz.func325 rfl (by simp[Tryz.f325]) (by kernel_rfl) ?_
 intro E hP hr hs hW hN
 have ik:Imm (.agg ([iv k1,iv k2])):= .agg (by simp -dsimp[-getElem?_pos,go_sem])
 simp -dsimp -implicitDefEqProofs [go_sem,hP,eX]
 obtain⟨I,hI⟩:∃I:Nat→St→Prop,I=fun m s=>∃i j:Nat,i≤k∧k≤j∧j≤l.length∧m=j-i∧s.t 0= .list 3 (ao THolding.cells l)∧s.t 2= .fn g []∧s.t 4= .ref 0 0 0∧s.t 8=iv l.length∧s.t 9=iv i∧s.t 10=iv j∧s.H[0]?=some (some ⟨357,2,[[iv k1,iv k2]]⟩):=⟨_,rfl⟩
 refine az I (l.length) (by rw[hN];rfl) ?_ ?_
 ·rw[hI]
  exact⟨0,l.length,by omega,hk,by omega,rfl,rfl,rfl,rfl,rfl,rfl,rfl,by simp -dsimp[-getElem?_pos,go_sem,eX]⟩
 intro m s hs'
 rw[hI]at hs'
 obtain⟨i,j,hi,hj,hjl,hm',t0,t2,t4,t8,t9,t10,hp⟩:=hs'
 have lt0:=(gsI hp)
 simp -dsimp -implicitDefEqProofs [go_sem,hP,t9,t10]
 refine aB ?_ ?_<;>intro h
 ·have hij:i<j:=by simpa using h
  have w1:=ae ((i:Int)+j) (by omega)
  have wu:IntKind.u64.wrap ((i:Int)+j)=(i:Int)+j:=by rw[IntKind.wrap_u64];omega
  obtain⟨h,hh⟩:∃h,h=(i+j) / 2:=⟨_,rfl⟩
  have wh:IntKind.i64.wrap (((i:Int)+j) / 2)=(h:Int):=by rw[ae _ (by omega)];omega
  obtain⟨a,ha⟩:∃a,l[h]?=some a:=⟨_,zF (by omega)⟩
  have hcmp:=hm h a ha
  have w2:=ae ((h:Int)+1) (by omega)
  have ia:Imm (.agg (THolding.cells a)):= .agg fun c hc=>THolding.imm a c hc
  have cm:=hg a (zE ha)
  rw[eX]at cm ia
  simp -dsimp -implicitDefEqProofs [go_sem,hP,t9,t10,w1,wu,xz,pU,wh]
  refine aq (fun _=>true) [] hP (by kernel_rfl) (by kernel_rfl) ?_
  simp -dsimp -implicitDefEqProofs [-getElem?_pos,go_sem,hP,t0,t2,t4,ha,hp,lt0,eX]
  refine af cm hP hen (by simpa using⟨ia,ik⟩) .sc ?_
  by_cases c:cf a<0
  ·have c1:decide (cf a<0)=true:=zC c
   simp -dsimp -implicitDefEqProofs [go_sem,hP,c1,w2]
   refine⟨j-(h+1),by omega,?_⟩
   rw[hI]
   exact⟨h+1,j,by have:=hcmp.1 c;omega,by omega,by omega,rfl,t0,t2,t4,t8,rfl,t10,hp⟩
  ·have c1:decide (cf a<0)=false:=zA c
   simp -dsimp -implicitDefEqProofs [go_sem,hP,c1]
   refine⟨h-i,by omega,?_⟩
   rw[hI]
   exact⟨i,h,by omega,by have:=mt hcmp.2 c;omega,by omega,rfl,t0,t2,t4,t8,t9,rfl,hp⟩
 ·have hik:i=k:=by
   have:¬i<j:=by simpa using h
   omega
  subst hik
  simp -dsimp -implicitDefEqProofs [go_sem,hP]
  refine aq (fun _=>true) [] hP (by kernel_rfl) (by kernel_rfl) ?_
  by_cases c:i<l.length
  ·obtain⟨a,ha⟩:=gkE c
   have d:decide ((i:Int)<(l.length:Int))=true:=zC (by omega)
   have ia:Imm (.agg (THolding.cells a)):= .agg fun c hc=>THolding.imm a c hc
   have cm:=hg a (zE ha)
   rw[eX]at cm ia
   simp -dsimp -implicitDefEqProofs [-getElem?_pos,go_sem,hP,t9,t8,c,d,t0,t2,t4,ha,hp,lt0,eX]
   refine af cm hP hen (by simpa using⟨ia,ik⟩) .sc ?_
   simp -dsimp -implicitDefEqProofs [-getElem?_pos,go_sem,hP,t9,t8,c,d,t0,t2,t4,ha,hp,lt0,eX]
   exact aw (aj .sc .sc) (by simp[ha])
  ·have d:decide ((i:Int)<(l.length:Int))=false:=zA (by omega)
   have n:l[i]?=none:=List.getElem?_eq_none (by omega)
   simp -dsimp -implicitDefEqProofs [go_sem,hP,t9,t8,c,d]
   exact aw (aj .sc .sc) (by simp[n])
def Ef (a1 a2 b1 b2:Int):Int:=orI [jg a1 b1,jg a2 b2]
theorem Sr (a1 a2 b1 b2:Int):Ef a1 a2 b1 b2<0↔(a1<b1∨(a1=b1∧a2<b2)):=by
 simp only[Ef,orI,jg]
 repeat' split
 all_goals omega
theorem SK (a1 a2 b1 b2:Int):Ef a1 a2 b1 b2=0↔(a1=b1∧a2=b2):=by
 simp only[Ef,orI,jg]
 repeat' split
 all_goals omega
theorem HF (a1 a2 b1 b2:Int):PFun Tryz.prog none none 328 [.agg [iv a1,iv a2],.agg [iv b1,iv b2]] (·=iv (Ef a1 a2 b1 b2)):=by
 refine ab Tryz.func328 rfl (by simp[Tryz.f328]) (by kernel_rfl) ?_
 intro E hP hr hs hW hN
 simp -dsimp[go_sem,hP]
 refine aq (fun _=>true) [] hP (by kernel_rfl) (by kernel_rfl) ?_
 simp -dsimp[go_sem,hP]
 refine ai (fe a1 b1) hP rj (ak (by simp -dsimp[go_sem])) .sc ?_
 simp -dsimp[go_sem,hP]
 refine ai (fe a2 b2) hP rj (ak (by simp -dsimp[go_sem])) .sc ?_
 simp -dsimp[go_sem,hP]
 refine ai (K0 [jg a1 b1,jg a2 b2] (by simp)) hP Kw (ak (by simp -dsimp[go_sem,aA])) .sc ?_
 simp -dsimp[go_sem,hP,Ef]
theorem UD (x:THolding):PFun Tryz.prog none none 327 [.agg x.cells] (·= .agg [iv x.Security,iv x.Holder]):=by
 refine ab Tryz.func327 rfl (by simp[Tryz.f327]) (by kernel_rfl) ?_
 intro E hP hr hs hW hN
 simp[go_sem,hP,eX]
 exact aw (by simp -dsimp[-getElem?_pos,go_sem]) rfl
theorem HW (x:THolding) (k1 k2:Int):PFun Tryz.prog none none 326 [.agg x.cells,.agg [iv k1,iv k2]] (·=iv (Ef x.Security x.Holder k1 k2)):=by
 refine ab Tryz.func326 rfl (by simp[Tryz.f326]) (by kernel_rfl) ?_
 intro E hP hr hs hW hN
 have ix:=Ez x
 have op:=UD x
 rw[eX]at ix op
 simp[go_sem,hP,eX]
 refine aq (fun _=>true) [] hP (by kernel_rfl) (by kernel_rfl) ?_
 simp[go_sem,hP]
 refine af op hP UQ (by simpa using ix) (by simp -dsimp[-getElem?_pos,go_sem]) ?_
 simp[go_sem,hP]
 refine ai (HF x.Security x.Holder k1 k2) hP UN (ak (by simp[go_sem])) .sc ?_
 simp[go_sem,hP]
theorem HG {row src:Option Nat} (c:Nat) (sx hx n d:AV) (l:List THolding) (id h:Int) (k:Nat) (H:ah) (hc:H[c]?=some (some ⟨179,4,[[sx,hx,n,d]]⟩)) (hsl:SlIs H hx 3 (ao THolding.cells l)) (hl:l.length≤100000) (hk:k≤l.length) (hm:∀j x,l[j]?=some x→(hLt id h x=true↔j<k)):
  MFun Tryz.prog row src 290 [.ref c 0 0,.agg [iv id,iv h]] H (fun r H'=>r= .tup [iv k,bv ((l[k]?).any (hIs id h))]∧Kept [] H H'):=by
 obtain⟨C,hC⟩:∃C:AV→ah→Prop,C=fun r H'=>r= .tup [iv k,bv ((l[k]?).any (hIs id h))]∧Kept [] H H':=⟨_,rfl⟩
 rw[←hC]
 have ex:∃r H',C r H':=⟨_,H,by rw[hC];exact⟨rfl,aD _ _⟩⟩
 have pf:=Iq l id h 326 (fun x=>Ef x.Security x.Holder id h) k (by omega) hk UI (fun j x hx=>by
  rw[←hm j x hx,tQ]
  exact Sr _ _ _ _) (fun a _=>HW a id h)
 have e:(fun x:THolding=>decide (Ef x.Security x.Holder id h=0))=hIs id h:=funext fun x=>by
  rw[Bool.eq_iff_iff,gN,zI]
  exact SK _ _ _ _
 rw[e]at pf
 have lc:=(gsI hc)
 obtain⟨b,hb⟩:∃b,b=(l[k]?).any (hIs id h):=⟨_,rfl⟩
 rw[←hb]at pf hC
 refine aG Tryz.func290 rfl (by simp[Tryz.f290]) (by kernel_rfl) (ex) ?_
 intro E hP hr hs hN
 simp[go_sem,hP]
 obtain⟨H1,hH1⟩:∃H1:ah,H1=H++[some ⟨357,2,[[iv id,iv h]]⟩]:=⟨_,rfl⟩
 have k1:Kept [] H H1:=by rw[hH1];exact bN _ _ _
 have c1:=k1 _ _ (by simp) hc
 have s1:=hsl.kept k1
 have a1:H1[H.length]?=some (some ⟨357,2,[[iv id,iv h]]⟩):=by rw[hH1];simp
 have lt1:=(gsI a1)
 have lc1:=(gsI c1)
 simp only[←hH1]
 refine aq (fun _=>true) [] hP (by kernel_rfl) (by kernel_rfl) ?_
 simp[-getElem?_pos,go_sem,hP,c1,a1,lt1,lc1]
 refine cn (pf.lift _ _) hP T7 (Tj s1 (bg l) (ak (by simp[go_sem]))) ⟨_,rfl⟩ (by rintro r rfl;simp[GJ,yO]) ?_
 rintro r rfl
 simp[go_sem,hP]
 rw[hC]
 exact⟨rfl,k1⟩
end Go.Proofs.YtfbogibogkbhmaaGreatDoor
namespace Go.PA
open Go.RowKit
section
variable {E:Env} {w:World} {ρ:aW} {H:ah} {ok:Nat→Prop}
theorem Lq {α:Type} (es news:List α) (p i:Nat) (hp:p≤es.length):
  (es.take p++news++es.drop (p+news.length))[i]?=if i<p then es[i]? else if i<p+news.length then news[i-p]? else es[i]?:=by
 have h1:(es.take p).length=p:=by simp;omega
 split
 ·rw[vJ,zD (by omega),vE,if_pos (by assumption)]
 ·split
  ·rw[vJ,zN (by omega),zD (by omega),h1]
  ·rw[zN (by simp;omega),uG]
   congr 1
   simp
   omega
theorem lZ (g:Good E w ρ H ok) {id b cap p:Nat} {o:AObj} (ho:H[id]?=some (some o)) (hρ:ρ id=some (b,cap)) (hcap:cap≤maxLen) (hp:p≤o.es.length) (news:List (List AV)) (hm:p+news.length≤cap)
  (hk:∀e,e∈news→e.length=o.k) (xs:List Value) (hxl:xs.length=news.length*o.k) (h1:∀v∈xs,v.oneCell'=true)
  (hx:∀(i:Nat) (e:List AV) (j:Nat) (a:AV),news[i]?=some e→e[j]?=some a→∃c,xs[i*o.k+j]?=some c∧Rep w ρ H ok c a):
  ∃w',(storeCells ⟨b,p*o.k,none⟩ xs).run E.P w= .ok () w'∧Good E w' ρ (H.set id (some {o with es:=o.es.take p++news++o.es.drop (p+news.length)})) ok∧Ext w ρ H ok w' ρ (H.set id (some {o with es:=o.es.take p++news++o.es.drop (p+news.length)})) ok:=by
 have hobj:=g.obj id o ho
 rw[hρ]at hobj
 obtain⟨cur,hb,hs,hl,hmx,hcell⟩:=hobj.cells hcap
 have hle:p*o.k+news.length*o.k≤cur.size:=by
  rw[hs,←Nat.add_mul]
  exact wM _ hm
 have hst:=run_storeCells_at E.P b (p*o.k) o.ty xs 0 cur w hb (by rw[hxl];omega) h1
 simp only[Nat.add_zero]at hst
 generalize hnew:(cur.toList.take (p*o.k)++xs++cur.toList.drop (p*o.k+xs.length)).toArray=new at hst
 have hnewget:∀q,new[q]?=if q<p*o.k then cur[q]? else if q<p*o.k+news.length*o.k then xs[q-p*o.k]? else cur[q]?:=fun q=>by
  subst hnew
  have:=oa cur.toList xs (p*o.k) q (by simp[hxl];omega)
  rw[hxl]at this
  simpa[hxl]using this
 have hnewsize:new.size=cur.size:=by
  subst hnew
  simp only[List.size_toArray,zK,zY,wP,Array.length_toList]
  rw[hxl]
  omega
 have hlen':∀e∈o.es.take p++news++o.es.drop (p+news.length),e.length=o.k:=fun e he=>by
  rcases wA.1 he with he|he
  ·rcases wA.1 he with he|he
   ·exact g.len id o ho e (wV he)
   ·exact hk e he
  ·exact g.len id o ho e (uB he)
 obtain⟨g',x'⟩:=g.change (w':=w.setRow b new) ho hρ {o with es:=o.es.take p++news++o.es.drop (p+news.length)} rfl (by simp;omega) hlen' rfl rfl rfl pu (fun b' hb'=>jc hb') fun hxx=> .inl ⟨new,tz hb,hnewsize.trans hs,by simp;omega,hmx,fun i e j a hi hj=>by
  simp only at hi
  have hjk:j<o.k:=by
   have:=hlen' e (zE hi)
   have:=(gsI hj)
   omega
  rw[Lq _ _ _ _ hp]at hi
  simp only
  rw[hnewget]
  split at hi
  ·rename_i hip
   have:i*o.k+o.k≤p*o.k:=by rw[←Nat.succ_mul];exact wM _ hip
   rw[if_pos (by omega)]
   obtain⟨c,c1,c2,c3⟩:=hcell i e j a hi hj
   exact⟨c,c1,c2,c3.ext hxx⟩
  ·split at hi
   ·rename_i hge hlt
    have h3:p*o.k≤i*o.k:=wM _ (by omega)
    have h4:i*o.k+o.k≤p*o.k+news.length*o.k:=by rw[←Nat.succ_mul,←Nat.add_mul];exact wM _ hlt
    rw[if_neg (by omega),if_pos (by omega)]
    obtain⟨c,c1,c3⟩:=hx (i-p) e j a hi hj
    have e5:i*o.k+j-p*o.k=(i-p)*o.k+j:=by rw[Nat.sub_mul];omega
    rw[e5]
    exact⟨c,c1,h1 c (zE c1),c3.ext hxx⟩
   ·rename_i hge hge2
    have h4:p*o.k+news.length*o.k≤i*o.k:=by rw[←Nat.add_mul];exact wM _ (by omega)
    rw[if_neg (by omega),if_neg (by omega)]
    obtain⟨c,c1,c2,c3⟩:=hcell i e j a hi hj
    exact⟨c,c1,c2,c3.ext hxx⟩⟩
 exact⟨_,hst,g',x'⟩
theorem A5 (g:Good E w ρ H ok) {P:Program} {e:TypeId} {v:Value} {x:AV} {es:List (List AV)} (r:Rep w ρ H ok v x) (h:jN P e H x=some es) (hne:es≠[]) (hk:0<ay P e):
  ∃(ad:Addr) (c:Nat) (xs:List Value),v= .slice (some ad) es.length c∧(∀(e':List AV),e'∈es→e'.length=ay P e)∧xs.length=es.length*ay P e∧(∀(j:Nat) (u:Value),xs[j]?=some u→w.cell? (ad.add j)=some u)∧(∀u∈xs,u.oneCell'=true)∧
   ∀(i:Nat) (e':List AV) (j:Nat) (a:AV),es[i]?=some e'→e'[j]?=some a→∃c,xs[i*ay P e+j]?=some c∧Rep w ρ H ok c a:=by
 obtain⟨A,c,f,hv,hlen,hc⟩:=Dl g r h
 obtain⟨ad,rfl,hcc⟩:=hc hne
 have hdm:∀p,p<es.length*ay P e→p / ay P e<es.length∧p%ay P e<ay P e:=fun p hp=>⟨Nat.div_lt_of_lt_mul (by rw[Nat.mul_comm];exact hp),Nat.mod_lt _ hk⟩
 have heq:∀p,p / ay P e*ay P e+p%ay P e=p:=fun p=>Nat.div_add_mod' p _
 have get:∀i j,i<es.length→j<ay P e→∃e' a,es[i]?=some e'∧e'[j]?=some a:=fun i j hi hj=>by
  have:=hlen _ (List.getElem_mem hi)
  exact⟨_,_,zF hi,zF (by omega)⟩
 refine⟨ad,c,(List.range (es.length*ay P e)).map fun p=>f (p / ay P e) (p%ay P e),hv,hlen,by simp,fun p u hp=>?_,fun u hu=>?_,fun i e' j a hi hj=>?_⟩
 ·rw[zR,zL]at hp
  obtain⟨q,hq,rfl⟩:=hp
  obtain⟨hlt,rfl⟩:=zM.1 hq
  simp only[List.length_range,List.getElem_range]at hlt⊢
  obtain⟨e',a,h1,h2⟩:=get _ _ (hdm p hlt).1 (hdm p hlt).2
  have:=(hcc _ _ _ _ h1 h2).1
  rwa[heq]at this
 ·obtain⟨p,hp,rfl⟩:=zV.1 hu
  have hlt:=List.mem_range.1 hp
  obtain⟨e',a,h1,h2⟩:=get _ _ (hdm p hlt).1 (hdm p hlt).2
  exact (hcc _ _ _ _ h1 h2).2.1
 ·have hil:=(gsI hi)
  have hjl:j<ay P e:=by rw[←hlen e' (zE hi)];exact (gsI hj)
  have hlt:i*ay P e+j<es.length*ay P e:=by
   have:i*ay P e+ay P e≤es.length*ay P e:=by rw[←Nat.succ_mul];exact wM _ hil
   omega
  refine⟨f i j,?_,(hcc i e' j a hi hj).2.2⟩
  simp[hlt,(uK (i:=i) hjl).1,(uK (i:=i) hjl).2]
theorem yS (g:Good E w ρ H ok) {v:Value} {x:AV} {id lo dn:Nat} {o:AObj} (hx:x= .sref id lo dn∨∃N,x= .full id lo dn N) (ho:H[id]?=some (some o)) (hpos:0<dn) (r:Rep w ρ H ok v x):
  ∃b cap c,v= .slice (some ⟨b,lo*o.k,none⟩) dn c∧ρ id=some (b,cap)∧lo+dn≤cap∧cap≤maxLen:=by
 rcases hx with rfl|⟨N,rfl⟩
 ·cases r with
  |srefDead hd _=>rw[ho]at hd;cases hd
  |srefNil ho' hρ=>omega
  |@sref _ _ _ c o' b cap ho' hρ hn hc hnc hcap=>
   rw[ho]at ho'
   simp only[zB]at ho'
   subst ho'
   have hobj:=g.obj id o ho
   rw[hρ]at hobj
   obtain⟨_,_,_,hl,_,_⟩:=hobj.cells hcap
   exact⟨b,cap,c,rfl,hρ,by omega,hcap⟩
 ·cases r with
  |fullDead hd _=>rw[ho]at hd;cases hd
  |@full _ _ _ _ o' b ho' hρ hn hN=>
   rw[ho]at ho'
   simp only[zB]at ho'
   subst ho'
   exact⟨b,N,_,rfl,hρ,hn,hN⟩
theorem Dc {α:Type} {vs:Array α} (h:vs.size=2):∃a b,vs=#[a,b]:=by
 obtain⟨l⟩:=vs
 match l,h with
 |[a,b],_=>exact⟨a,b,rfl⟩
theorem TE {α:Type} {vs:Array α} (h:vs.size=1):∃a,vs=#[a]:=by
 obtain⟨l⟩:=vs
 match l,h with
 |[a],_=>exact⟨a,rfl⟩
theorem Nt {t t' e:TypeId} {x y:AV} {id lo dn:Nat} {o:AObj} {news:List (List AV)} {C:AV→ah→Prop} {b:Bx C} (hx:x= .sref id lo dn∨∃N,x= .full id lo dn N) (ho:H[id]?=some (some o)) (he:aT E.P t=some e)
  (hk:o.k=ay E.P e) (hk0:0<o.k) (hkn:aE E.P e=true) (hs:jN E.P e H y=some news) (hl:news.length≤dn) (hpos:0<news.length) (hp:lo≤o.es.length)
  (hC:C (.sc (goInt news.length)) (H.set id (some {o with es:=o.es.take lo++news++o.es.drop (lo+news.length)}))):oM E .copy #[t,t'] [x,y] H C b:=by
 refine⟨⟨_,_,hC⟩,fun w ρ ok ty vs g hsz hr=>?_⟩
 obtain⟨vx,vy,rfl⟩:=Dc hsz
 have rx:=hr 0 vx x rfl rfl
 have ry:=hr 1 vy y rfl rfl
 obtain⟨b',cap,c,rfl,hρ,hcap,hmx⟩:=yS g hx ho (by omega) rx
 obtain⟨ad,c',xs,rfl,hlen,hxl,hcell,h1,hrep⟩:=A5 g ry hs (by intro e0;simp[e0]at hpos) (by omega)
 obtain⟨w',hst,g',x'⟩:=lZ g ho hρ hmx hp news (by omega) (by rw[hk];exact hlen) xs (by rw[hk];exact hxl) h1 (by rw[hk];exact hrep)
 refine⟨.int .i64 news.length,w',_,_,ρ,ok,?_,hC,g',x',.sc⟩
 have hmin:Nat.min news.length dn=news.length:=Nat.min_eq_left hl
 have hld:=run_firstCells_some (P:=E.P) w (ay E.P e) news.length ad news.length c' xs hxl hcell
 simp[kY,Builtin.copy_,run_underlying (bA he),Builtin.lenOf,bB hkn,hmin,hld,hst,goInt]
theorem yh {t t' e:TypeId} {x:AV} {id lo dn id2 lo2 m2 N2:Nat} {o:AObj} {news:List (List AV)} {C:AV→ah→Prop} {b:Bx C} (hx:x= .sref id lo dn∨∃N,x= .full id lo dn N) (ho:H[id]?=some (some o)) (he:aT E.P t=some e)
  (hk:o.k=ay E.P e) (hk0:0<o.k) (hkn:aE E.P e=true) (hs:jN E.P e H (.full id2 lo2 dn N2)=some news) (hnl:news.length=dn) (hm2:dn≤m2) (hpos:0<news.length) (hp:lo≤o.es.length)
  (hC:C (.sc (goInt news.length)) (H.set id (some {o with es:=o.es.take lo++news++o.es.drop (lo+news.length)}))):oM E .copy #[t,t'] [x,.full id2 lo2 m2 N2] H C b:=by
 refine⟨⟨_,_,hC⟩,fun w ρ ok ty vs g hsz hr=>?_⟩
 obtain⟨vx,vy,rfl⟩:=Dc hsz
 have rx:=hr 0 vx x rfl rfl
 have ry:=hr 1 vy _ rfl rfl
 obtain⟨b',cap,c,rfl,hρ,hcap,hmx⟩:=yS g hx ho (by omega) rx
 cases ry with
 |fullDead hd _=>simp[jN,hd]at hs
 |@full _ _ _ _ o2 b2 ho2 hρ2 hn2 hN2=>
  have ry':Rep w ρ H ok (.slice (some ⟨b2,lo2*o2.k,none⟩) dn (N2-lo2)) (.full id2 lo2 dn N2):= .full ho2 hρ2 (by omega) hN2
  obtain⟨ad,c',xs,hv,hlen,hxl,hcell,h1,hrep⟩:=A5 g ry' hs (by intro e0;simp[e0]at hpos) (by omega)
  simp only[Value.slice.injEq,zB]at hv
  obtain⟨rfl,_,_⟩:=hv
  obtain⟨w',hst,g',x'⟩:=lZ g ho hρ hmx hp news (by omega) (by rw[hk];exact hlen) xs (by rw[hk];exact hxl) h1 (by rw[hk];exact hrep)
  refine⟨.int .i64 news.length,w',_,_,ρ,ok,?_,hC,g',x',.sc⟩
  have hmin:Nat.min m2 dn=news.length:=by rw[hnl];exact Nat.min_eq_right hm2
  have hld:=run_firstCells_some (P:=E.P) w (ay E.P e) news.length ⟨b2,lo2*o2.k,none⟩ m2 (N2-lo2) xs hxl hcell
  simp[kY,Builtin.copy_,run_underlying (bA he),Builtin.lenOf,bB hkn,hmin,hld,hst,goInt]
theorem mn {z:Value} {k n i j:Nat} (hz:z.cells.size=k) (hi:i<n) (hj:j<k):(Builtin.zeroCells z.cells n)[i*k+j]?=z.cells[j]?:=by
 have hlt:i*k+j<n*k:=by
  have:i*k+k≤n*k:=by rw[←Nat.succ_mul];exact wM _ hi
  omega
 unfold Builtin.zeroCells
 rw[hz,Array.getElem?_map,Array.getElem?_range,if_pos hlt]
 simp only[vI,(uK (i:=i) hj).2]
 rw[getElem!_pos z.cells j (by omega),zX (by omega)]
theorem i8 {z:Value} {k n:Nat} (hz:z.cells.size=k):(Builtin.zeroCells z.cells n).size=n*k:=by simp[Builtin.zeroCells,hz]
theorem CC {z:Value} {k n:Nat} (hz:z.cells.size=k) (hk:0<k) {v:Value} (hv:v∈(Builtin.zeroCells z.cells n).toList):v∈z.cells.toList:=by
 obtain⟨q,hq⟩:=wN hv
 have hql:q<n*k:=by have:=(gsI hq);simpa[i8 (n:=n) hz]using this
 have e:=Nat.div_add_mod' q k
 have h1:q / k<n:=Nat.div_lt_of_lt_mul (by rw[Nat.mul_comm];exact hql)
 have h2:q%k<k:=Nat.mod_lt _ hk
 have:=mn (n:=n) hz h1 h2
 rw[e]at this
 rw[vF,this]at hq
 exact zE (by simpa using hq)
theorem Bj {t e:TypeId} {x:AV} {id lo dn:Nat} {o:AObj} {zs:List AV} {C:AV→ah→Prop} {b:Bx C} (hx:x= .sref id lo dn∨∃N,x= .full id lo dn N) (ho:H[id]?=some (some o)) (he:aT E.P t=some e)
  (hk:o.k=ay E.P e) (hk0:0<o.k) (hz:cv E.P e=some zs) (hpos:0<dn) (hp:lo≤o.es.length)
  (hC:C (.tup []) (H.set id (some {o with es:=o.es.take lo++List.replicate dn zs++o.es.drop (lo+dn)}))):oM E .clear #[t] [x] H C b:=by
 refine⟨⟨_,_,hC⟩,fun w ρ ok ty vs g hsz hr=>?_⟩
 obtain⟨vx,rfl⟩:=TE hsz
 have rx:=hr 0 vx x rfl rfl
 obtain⟨b',cap,c,rfl,hρ,hcap,hmx⟩:=yS g hx ho hpos rx
 obtain⟨i,z,hi,hzz,hzs,_,hzeq,h1⟩:=fZ hz
 have hzl:zs.length=ay E.P e:=by rw[hzeq];simpa using hzs
 obtain⟨w',hst,g',x'⟩:=lZ g ho hρ hmx hp (List.replicate dn zs) (by simp;omega) (fun e' he'=>by rw[List.eq_of_mem_replicate he',hk,hzl]) (Builtin.zeroCells z.cells dn).toList (by simp[i8 hzs,hk]) (fun v hv=>h1 v (CC hzs (by omega) hv)) (fun i' e' j a hi' hj=>by
  have hil:i'<dn:=by have:=(zM.1 hi').1;simpa using this
  rw[List.eq_of_mem_replicate (zE hi')]at hj
  have hjl:=(gsI hj)
  rw[hzeq,zR,zL]at hj
  obtain⟨c0,hc0,rfl⟩:=hj
  refine⟨c0,?_,jk c0⟩
  rw[vF,hk,mn hzs hil (by omega)]
  simpa using hc0)
 rw[List.length_replicate]at g' x'
 refine⟨.tuple #[],w',_,_,ρ,ok,?_,hC,g',x',.tup rfl (by simp)⟩
 obtain⟨dn,rfl⟩:∃m,dn=m+1:=⟨dn-1,by omega⟩
 simp[kY,Builtin.clear_,run_underlying (bA he),gc hi hzz,hst]
theorem zq {t e:TypeId} {k:Nat} {C:AV→ah→Prop} {b:Bx C} (he:aT E.P t=some e) (hC:C (.tup []) H):oM E .clear #[t] [.list k []] H C b:=by
 refine⟨⟨_,_,hC⟩,fun w ρ ok ty vs g hsz hr=>?_⟩
 obtain⟨vx,rfl⟩:=TE hsz
 have rx:=hr 0 vx _ rfl rfl
 have:∃A c,vx= .slice A 0 c:=by
  cases rx with
  |listNil=>exact⟨_,_,rfl⟩
  |list f hn _ _ _ _ _ _=>subst hn;exact⟨_,_,rfl⟩
 obtain⟨A,c,rfl⟩:=this
 refine⟨.tuple #[],w,_,_,ρ,ok,?_,hC,g,Ext.refl _ _ _ _,.tup rfl (by simp)⟩
 cases A<;>simp[kY,Builtin.clear_,run_underlying (bA he)]
theorem AC {t e:TypeId} {y:AV} {id n N:Nat} {o:AObj} {news:List (List AV)} {C:AV→ah→Prop} {b:Bx C} (ho:H[id]?=some (some o)) (he:aT E.P t=some e)
  (hk:o.k=ay E.P e) (hk0:0<o.k) (hkn:aE E.P e=true) (hs:jN E.P e H y=some news) (hl:n+news.length≤N) (hpos:0<news.length) (hp:n≤o.es.length)
  (hC:C (.full id 0 (n+news.length) N) (H.set id (some {o with es:=o.es.take n++news++o.es.drop (n+news.length)}))):oM E .append #[t,t] [.full id 0 n N,y] H C b:=by
 refine⟨⟨_,_,hC⟩,fun w ρ ok ty vs g hsz hr=>?_⟩
 obtain⟨vx,vy,rfl⟩:=Dc hsz
 have rx:=hr 0 vx _ rfl rfl
 have ry:=hr 1 vy y rfl rfl
 cases rx with
 |fullDead hd _=>rw[ho]at hd;cases hd
 |@full _ _ _ _ o' b' ho' hρ hn hN=>
  rw[ho]at ho'
  simp only[zB]at ho'
  subst ho'
  obtain⟨ad,c',xs,rfl,hlen,hxl,hcell,h1,hrep⟩:=A5 g ry hs (by intro e0;simp[e0]at hpos) (by omega)
  obtain⟨w',hst,g',x'⟩:=lZ g ho hρ hN hp news (by omega) (by rw[hk];exact hlen) xs (by rw[hk];exact hxl) h1 (by rw[hk];exact hrep)
  refine⟨.slice (some ⟨b',0*o.k,none⟩) (n+news.length) (N-0),w',_,_,ρ,ok,?_,hC,g',x',?_⟩
  ·have hld:=run_firstCells_some (P:=E.P) w (ay E.P e) news.length ad news.length c' xs hxl hcell
   have hle:n+news.length≤N-0:=by omega
   rw[hk]at hst
   simp[kY,Builtin.append_,run_underlying (bA he),Builtin.lenOf,bB hkn,hl,hld,kU,hk,hst]
  ·exact .full (o:={o with es:=o.es.take n++news++o.es.drop (n+news.length)}) (by rw[wO];simp[rW ho]) hρ (by omega) hN
theorem NN (g:Good E w ρ H ok):Good E w.drew ρ H ok∧Ext w ρ H ok w.drew ρ H ok:=
 g.step (w':=w.drew) (fun _=>False) rfl rfl rfl (zZ _) (fun _ _ _=>rfl) (fun _ h=>h.elim) (fun _ h=>h) (fun _ h=> .inl h)
theorem ud {t tn e:TypeId} {id n N m:Nat} {o:AObj} {zs:List AV} {kq kn:IntKind} {C:AV→ah→Prop} {b:Bx C} (ho:H[id]?=some (some o)) (he:aT E.P t=some e) (htn:E.P.underlying tn=some (.int kn))
  (hk:o.k=ay E.P e) (hk0:0<o.k) (hty:o.ty=e) (hz:cv E.P e=some zs) (hp:n≤o.es.length) (hpos:0<m) (hroom:N<n+m) (h63:n+m≤9223372036854775807) (hb:(n+m)*cI E.P e≤140737488355328)
  (hC:C (.sref H.length 0 (n+m)) (H++[some ⟨e,o.k,o.es.take n++List.replicate m zs⟩])):oM E .append #[t,tn] [.full id 0 n N,.sc (.int kq m)] H C b:=by
 refine⟨⟨_,_,hC⟩,fun w ρ ok ty vs g hsz hr=>?_⟩
 obtain⟨vx,vy,rfl⟩:=Dc hsz
 have rx:=hr 0 vx _ rfl rfl
 have ry:=cM (hr 1 vy _ rfl rfl)
 subst ry
 cases rx with
 |fullDead hd _=>rw[ho]at hd;cases hd
 |@full _ _ _ _ o' b' ho' hρ hn hN=>
  rw[ho]at ho'
  simp only[zB]at ho'
  subst ho'
  obtain⟨i,z,hi,hzz,hzs,his,hzeq,h1⟩:=fZ hz
  have hzl:zs.length=ay E.P e:=by rw[hzeq];simpa using hzs
  have hobj:=g.obj id o ho
  rw[hρ]at hobj
  obtain⟨cur,hbk,hs,hl,hmx,hcell⟩:=hobj.cells hN
  have hcur:n*o.k≤cur.size:=by rw[hs];exact wM _ (by omega)
  obtain⟨g0,x0⟩:=NN g
  have hold:(Builtin.firstCells i.size n (.slice (some ⟨b',0*o.k,none⟩) n (N-0))).run E.P w.drew= .ok (cur.toList.take (n*o.k)).toArray w.drew:=by
   refine run_firstCells_some (P:=E.P) w.drew i.size n ⟨b',0*o.k,none⟩ n (N-0) (cur.toList.take (n*o.k)) (by simp[his,←hk];omega) (fun j v hj=>?_)
   rw[kU,Nat.zero_mul,vR,cell_of_row w.drew b' _ cur o.ty (0,0) hbk]
   rw[vE]at hj
   split at hj
   ·simpa using hj
   ·cases hj
  have hbi:cI E.P e=i.bytes:=by simp[cI,hi]
  rw[hbi]at hb
  have hrun:=Lib.run_append_grow_zeros w t tn ty e i z kq kn (bA he) htn hi hzz (some ⟨b',0*o.k,none⟩) n (N-0) _ hold m hpos (by rw[his];omega) (by omega) (by omega) (by
   have:=wM i.bytes (show m≤n+m by omega)
   omega) (growslice_fits (by omega) hb)
  obtain⟨G,hG⟩:∃G,G=grownCap w (n+m) (N-0) e:=⟨_,rfl⟩
  have hG1:n+m≤G:=by rw[hG];exact grownCap_ge w _ _ _
  have hG2:G≤maxLen:=by rw[hG];exact grownCap_le_maxLen w _ _ _ (by unfold maxLen;omega)
  rw[←hG]at hrun
  obtain⟨ROW,hROW⟩:∃ROW,ROW=(cur.toList.take (n*o.k)).toArray++Builtin.zeroCells z.cells m++Builtin.zeroCells z.cells (G-(n+m)):=⟨_,rfl⟩
  rw[←hROW]at hrun
  have hl1:(cur.toList.take (n*o.k)).toArray.size=n*o.k:=by simp;omega
  have hl2:(Builtin.zeroCells z.cells m).size=m*o.k:=by rw[i8 hzs,hk]
  have hRs:ROW.size=G*o.k:=by
   rw[hROW,Array.size_append,Array.size_append,hl1,hl2,i8 hzs,←hk,←Nat.add_mul,←Nat.add_mul]
   congr 1
   omega
  have hlen':∀e'∈o.es.take n++List.replicate m zs,e'.length=o.k:=fun e' he'=>by
   rcases wA.1 he' with he'|he'
   ·exact g.len id o ho e' (wV he')
   ·rw[List.eq_of_mem_replicate he',hk,hzl]
  obtain⟨g',x'⟩:=g0.newObj ⟨e,o.k,o.es.take n++List.replicate m zs⟩ G ROW hRs (by simp;omega) hG2 hlen' (fun i' e' j a hi' hj=>by
   simp only at hi'⊢
   have hjk:j<o.k:=by
    have:=hlen' e' (zE hi')
    have:=(gsI hj)
    omega
   rw[hROW]
   rcases Nat.lt_or_ge i' n with hin|hin
   ·rw[zD (by simp;omega),vE,if_pos hin]at hi'
    obtain⟨c,c1,c2,c3⟩:=hcell i' e' j a hi' hj
    have hlt:i'*o.k+j<n*o.k:=by
     have:i'*o.k+o.k≤n*o.k:=by rw[←Nat.succ_mul];exact wM _ hin
     omega
    refine⟨c,?_,c2,c3.ext x0⟩
    rw[Array.append_assoc,Array.getElem?_append_left (by omega)]
    simp[hlt,c1]
   ·rw[zN (by simp;omega)]at hi'
    have hil:i'-n<m:=by
     have:=(zM.1 hi').1
     simp at this
     omega
    rw[List.eq_of_mem_replicate (zE hi')]at hj
    rw[hzeq,zR,zL]at hj
    obtain⟨c0,hc0,rfl⟩:=hj
    refine⟨c0,?_,h1 c0 (zE hc0),jk c0⟩
    have h3:n*o.k≤i'*o.k:=wM _ hin
    have h4:(i'-n)*o.k+o.k≤m*o.k:=by rw[←Nat.succ_mul];exact wM _ hil
    have h5:i'*o.k+j-n*o.k=(i'-n)*o.k+j:=by rw[Nat.sub_mul];omega
    rw[Array.append_assoc,Array.getElem?_append_right (by omega),hl1,Array.getElem?_append_left (by omega),h5,hk,mn hzs hil (by omega)]
    simpa using hc0)
  refine⟨_,_,_,_,_,ok,by simpa[kY]using hrun,hC,g',x0.trans x',?_⟩
  have:=Rep.sref (w:=w.drew.alloc (.cells ROW e)) (ρ:=fK ρ H.length (some (w.drew.heap.size,G))) (H:=H++[some ⟨e,o.k,o.es.take n++List.replicate m zs⟩]) (ok:=ok) (id:=H.length) (lo:=0) (n:=n+m) (c:=G) cO (b:=w.drew.heap.size) (cap:=G) (by simp[fK]) (by simp;omega) (fun _=>rfl) hG1 hG2
  simpa using this
theorem ZH {x y:Value} {h1:#[x,y].size=2} {h2:0<2}:(#[x,y]:Array Value).getLit 0 h1 h2=x:=rfl
theorem Yz {x y:Value} {h1:#[x,y].size=2} {h2:1<2}:(#[x,y]:Array Value).getLit 1 h1 h2=y:=rfl
theorem vp {P:Program} (w:World) (tS tR e:TypeId) (ht:P.underlying tS=some (.slice e)) (size:Nat) (hz:∀w,(Go.sizeOf e).run P w= .ok size w)
  (a b:Addr) (la ca lb cb:Nat) (hne:a.block≠b.block) (tA tB:TypeId) (kA kB:Nat) (hsa:w.shape? a.block=some (tA,kA)) (hsb:w.shape? b.block=some (tB,kB)) (hkA:kA≠0)
  (hfb:w.frozen? b=false) (hfe:w.frozen? ⟨b.block,kB,none⟩=false):
  (Extern.SlicesOverlaps.overlaps #[tS,tS] #[tR] #[.slice (some a) la ca,.slice (some b) lb cb]).run P w= .ok (.bool false) w:=by
 have hnb:(a.block !=b.block)=true:=by simpa using hne
 have hnb':(a.block==b.block)=false:=by simpa using hne
 obtain⟨kA,rfl⟩:∃m,kA=m+1:=⟨kA-1,by omega⟩
 delta Extern.SlicesOverlaps.overlaps Extern.SlicesOverlaps.overlaps.match_4 Extern.SlicesOverlaps.overlaps._sparseCasesOn_4
 simp only[List.size_toArray,wI,List.length_nil,dite_true]
 dsimp only[ZH,Yz]
 by_cases h0:la=0∨lb=0∨size=0
 ·simp[run_underlying ht,hz,h0]
 ·cases hfa:w.frozen? a<;>cases hfa':w.frozen? {block:=a.block,off:=kA+1}<;>simp[run_underlying ht,hz,h0,hnb,hnb',frozen,noView,viewAt,mayBeOne,stringish,shape,Sem.run,hsa,hsb,hfa,hfb,hfe,hfa']
theorem yf {f:FuncId} {fn:Func} {t e tR:TypeId} {y:AV} {e0:List AV} {es:List (List AV)} {k id' lo' dn':Nat} {o':AObj} {C:AV→ah→Prop} {b:Bx C} (hf:E.P.funcs[f]?=some fn) (hname:(fn.name== "runtime.NumGoroutine")=false) (hb:fn.body.isNone=true)
  (hn:Extern.findNext fn=none) (hfind:Extern.find fn=some (Extern.SlicesOverlaps.overlaps #[t,t] #[tR])) (he:aT E.P t=some e) (hkn:aE E.P e=true)
  (hk0:e0≠[]) (hy:y= .sref id' lo' dn'∨∃N,y= .full id' lo' dn' N) (ho':H[id']?=some (some o')) (hd':0<dn')
  (hC:C (.sc (.bool false)) H):lW E f [.list k (e0::es),y] H C b:=by
 refine .inr ⟨⟨_,_,hC⟩,fun w ρ ok vs g hsz hr=>?_⟩
 obtain⟨vx,vy,rfl⟩:=Dc hsz
 have rx:=hr 0 vx _ rfl rfl
 obtain⟨b2,cap',c',rfl,hρ',hcap',hmx'⟩:=yS g hy ho' hd' (hr 1 vy _ rfl rfl)
 have hob':=g.obj id' o' ho'
 rw[hρ']at hob'
 obtain⟨cur',hb2,hs',_,_,_⟩:=hob'.cells hmx'
 cases rx with
 |@list ad n c _ _ fv hn' hnc hok hkk hcc h1 hh=>
  obtain⟨a0,e1,rfl⟩:=List.exists_cons_of_ne_nil hk0
  have hc0:=hcc 0 (a0::e1) 0 a0 rfl rfl
  have hne:ad.block≠b2:=fun e'=>(g.own id' o' b2 cap' ho' hρ').1 (e'▸hok)
  obtain⟨tA,kA,hsa,hkA⟩:∃tA kA,w.shape? ad.block=some (tA,kA)∧kA≠0:=by
   unfold World.cell? at hc0
   rw[fq]at hc0
   unfold World.shape?
   cases hb:w.heap[ad.block]? with
   |none=>simp[hb]at hc0
   |some x=>
    cases x with
    |cells cs el fz=>
     simp only[hb]at hc0
     split at hc0
     ·cases hc0
     ·exact⟨el,cs.size,rfl,fun h0=>by
       have:=(zW.1 hc0).1
       omega⟩
    |_=>simp[hb]at hc0
  have h1:=vp (P:=E.P) w t tR e (bA he) (ay E.P e) (fun w=>bB hkn w) ad ⟨b2,lo'*o'.k,none⟩ n c dn' c' hne tA o'.ty kA cur'.size hsa (by simp[World.shape?,hb2]) hkA (by simp[World.frozen?,hb2]) (by simp[World.frozen?,hb2])
  refine⟨.bool false,w,_,_,ρ,ok,?_,hC,g,Ext.refl _ _ _ _,.sc⟩
  rw[run_callFunc_extern hf hname hb hn hfind,h1]
  rfl
theorem r6 {t t' e:TypeId} {x y:AV} {id lo dn ty k m:Nat} {es news es':List (List AV)} {C:AV→ah→Prop} {b:Bx C} (ho:H[id]?=some (some ⟨ty,k,es⟩)) (hx:x= .sref id lo dn∨∃N,x= .full id lo dn N) (he:aT E.P t=some e)
  (hk:k=ay E.P e) (hk0:0<k) (hkn:aE E.P e=true) (hs:jN E.P e H y=some news) (hnl:news.length=m) (hl:m≤dn) (hpos:0<m) (hp:lo≤es.length) (hes:es.take lo++news++es.drop (lo+m)=es')
  (hC:C (.sc (goInt m)) (H.set id (some ⟨ty,k,es'⟩))):oM E .copy #[t,t'] [x,y] H C b:=by
 subst hes;subst hnl
 exact Nt hx ho he hk hk0 hkn hs hl hpos hp hC
theorem HV {t t' e:TypeId} {x:AV} {id lo dn id2 lo2 m2 N2 ty k:Nat} {es news es':List (List AV)} {C:AV→ah→Prop} {b:Bx C} (ho:H[id]?=some (some ⟨ty,k,es⟩)) (hx:x= .sref id lo dn∨∃N,x= .full id lo dn N) (he:aT E.P t=some e)
  (hk:k=ay E.P e) (hk0:0<k) (hkn:aE E.P e=true) (hs:jN E.P e H (.full id2 lo2 dn N2)=some news) (hnl:news.length=dn) (hm2:dn≤m2) (hpos:0<dn) (hp:lo≤es.length) (hes:es.take lo++news++es.drop (lo+dn)=es')
  (hC:C (.sc (goInt dn)) (H.set id (some ⟨ty,k,es'⟩))):oM E .copy #[t,t'] [x,.full id2 lo2 m2 N2] H C b:=by
 subst hes;subst hnl
 exact yh hx ho he hk hk0 hkn hs rfl hm2 hpos hp hC
theorem xY {t e:TypeId} {x:AV} {id lo dn ty k:Nat} {es es':List (List AV)} {zs:List AV} {C:AV→ah→Prop} {b:Bx C} (ho:H[id]?=some (some ⟨ty,k,es⟩)) (hx:x= .sref id lo dn∨∃N,x= .full id lo dn N) (he:aT E.P t=some e)
  (hk:k=ay E.P e) (hk0:0<k) (hz:cv E.P e=some zs) (hpos:0<dn) (hp:lo≤es.length) (hes:es.take lo++List.replicate dn zs++es.drop (lo+dn)=es') (hC:C (.tup []) (H.set id (some ⟨ty,k,es'⟩))):oM E .clear #[t] [x] H C b:=by
 subst hes
 exact Bj hx ho he hk hk0 hz hpos hp hC
theorem DS {t e:TypeId} {y:AV} {id n N ty k m L:Nat} {es news es':List (List AV)} {C:AV→ah→Prop} {b:Bx C} (ho:H[id]?=some (some ⟨ty,k,es⟩)) (he:aT E.P t=some e)
  (hk:k=ay E.P e) (hk0:0<k) (hkn:aE E.P e=true) (hs:jN E.P e H y=some news) (hnl:news.length=m) (hl:n+m≤N) (hpos:0<m) (hp:n≤es.length) (hes:es.take n++news++es.drop L=es') (hL:n+m=L)
  (hC:C (.full id 0 L N) (H.set id (some ⟨ty,k,es'⟩))):oM E .append #[t,t] [.full id 0 n N,y] H C b:=by
 subst hL;subst hes;subst hnl
 exact AC ho he hk hk0 hkn hs hl hpos hp hC
theorem E1 {t e:TypeId} {id n N k0 L:Nat} {o:AObj} {C:AV→ah→Prop} {b:Bx C} (ho:H[id]?=some (some o)) (he:aT E.P t=some e) (hkn:aE E.P e=true) (hl:n≤N) (hL:n=L)
  (hC:C (.full id 0 L N) H):oM E .append #[t,t] [.full id 0 n N,.list k0 []] H C b:=by
 subst hL
 refine⟨⟨_,_,hC⟩,fun w ρ ok ty vs g hsz hr=>?_⟩
 obtain⟨vx,vy,rfl⟩:=Dc hsz
 have rx:=hr 0 vx _ rfl rfl
 have ry:=hr 1 vy _ rfl rfl
 have:∃A c,vy= .slice A 0 c:=by
  cases ry with
  |listNil=>exact⟨_,_,rfl⟩
  |list f hn _ _ _ _ _ _=>subst hn;exact⟨_,_,rfl⟩
 obtain⟨A,c,rfl⟩:=this
 cases rx with
 |fullDead hd _=>rw[ho]at hd;cases hd
 |@full _ _ _ _ o' b' ho' hρ hn hN=>
  refine⟨.slice (some ⟨b',0*o'.k,none⟩) n (N-0),w,_,_,ρ,ok,?_,hC,g,Ext.refl _ _ _ _,.full ho' hρ (by omega) hN⟩
  cases A<;>simp[kY,Builtin.append_,run_underlying (bA he),Builtin.lenOf,bB hkn,hl,Builtin.firstCells,loadCells,loadCellsFrom,storeCells]
theorem Jr {t tn e:TypeId} {id n N m ty k L:Nat} {es:List (List AV)} {zs:List AV} {x:Int} {kq kn:IntKind} {C:AV→ah→Prop} {b:Bx C} (ho:H[id]?=some (some ⟨ty,k,es⟩)) (he:aT E.P t=some e) (htn:E.P.underlying tn=some (.int kn))
  (hk:k=ay E.P e) (hk0:0<k) (hty:ty=e) (hz:cv E.P e=some zs) (hp:n≤es.length) (hx:x=(m:Int)) (hpos:0<m) (hL:n+m=L) (hroom:N<L) (h63:L≤9223372036854775807) (hb:L*cI E.P e≤140737488355328)
  (hC:C (.sref H.length 0 L) (H++[some ⟨ty,k,es.take n++List.replicate m zs⟩])):oM E .append #[t,tn] [.full id 0 n N,.sc (.int kq x)] H C b:=by
 subst hL;subst hx;subst hty
 exact ud ho he htn hk hk0 rfl hz hp hpos hroom h63 hb hC
end
theorem jO {H:ah} {g:FuncId} {cs cs' xs ys:List AV} (h:cs.map (oE H)=cs') (hi:∀c,c∈cs'→Imm c) (ht:Args H xs ys):Args H (.fn g cs::xs) (.fn g cs'::ys):=
 DA.2 ⟨⟨by rw[DZ,h];exact .refl _,by rw[DZ,h];exact gz.2 hi⟩,ht⟩
theorem gS {α:Type} (enc:α→List AV) (l:List α) (i:Nat):(ao enc l).take i=ao enc (l.take i):=by simp[ao,List.map_take]
theorem jo {α:Type} (enc:α→List AV) (l:List α) (i:Nat):(ao enc l).drop i=ao enc (l.drop i):=by simp[ao,List.map_drop]
theorem uc {α:Type} (enc:α→List AV) (l m:List α):ao enc l++ao enc m=ao enc (l++m):=by simp[ao]
theorem CU {P:Program} {row src:Option Nat} {f:FuncId} {args:List AV} {id n:Nat} {o:AObj} {H:ah} {C:AV→ah→Prop} (ho:H[id]?=some (some o)) (hne:o.es≠[]) (hn:n≤o.es.length)
  (h:∀N,o.es.length≤N→MFun P row src f (.full id 0 n N::args) H C):MFun P row src f (.sref id 0 n::args) H C:=by
 intro E hP hrow hsrc
 refine⟨(h o.es.length (zZ _) E hP hrow hsrc).1,fun w ρ ok vs g hs hr=>?_⟩
 have h0:0<vs.size:=by rw[hs];simp
 have hv:=hr 0 vs[0] (.sref id 0 n) (zX h0) rfl
 have key:∃N,o.es.length≤N∧Rep w ρ H ok vs[0] (.full id 0 n N):=by
  have hobj:=g.obj id o ho
  generalize vs[0]=v at hv
  cases hv with
  |srefDead hd _=>rw[ho]at hd;cases hd
  |srefNil ho' hρ=>
   rw[hρ]at hobj
   exact absurd hobj hne
  |@sref _ _ _ c o' b cap ho' hρ hn' hc hnc hcap=>
   rw[ho]at ho'
   simp only[zB]at ho'
   subst ho'
   rw[hρ]at hobj
   obtain⟨_,_,_,hl,_,_⟩:=hobj.cells hcap
   have:=hc rfl
   subst this
   exact⟨c,hl,.full ho hρ (by omega) hcap⟩
 obtain⟨N,hN,hrep⟩:=key
 refine (h N hN E hP hrow hsrc).2 w ρ ok vs g hs fun i v a hv ha=>?_
 match i,hv,ha with
 |0,hv,ha=>
  rw[zX h0]at hv
  simp only[zB]at hv
  subst hv
  simp only[wQ,zB]at ha
  subst ha
  exact hrep
 |i+1,hv,ha=>exact hr (i+1) v a hv ha
theorem xP {P:Program} {row src:Option Nat} {f:FuncId} {args:List AV} {H:ah} {C D:AV→ah→Prop} (h:MFun P row src f args H C)
  (hd:∀r H',C r H'→D r H'∨∃id n N o,r= .full id 0 n N∧H'[id]?=some (some o)∧n≤o.es.length∧D (.sref id 0 n) H'):MFun P row src f args H D:=by
 intro E hP hrow hsrc
 obtain⟨⟨x0,H0,h0⟩,hw⟩:=h E hP hrow hsrc
 refine⟨?_,fun w ρ ok vs g hs hr=>(hw w ρ ok vs g hs hr).mono ?_⟩
 ·rcases hd _ _ h0 with h1|⟨_,_,_,_,_,_,_,h1⟩<;>exact⟨_,_,h1⟩
 ·rintro e w' ⟨v,x,H',ρ',ok',rfl,hc,g',x',r'⟩
  rcases hd _ _ hc with h1|⟨id,n,N,o,rfl,ho,hn,h1⟩
  ·exact⟨v,x,H',ρ',ok',rfl,h1,g',x',r'⟩
  ·refine⟨v,_,H',ρ',ok',rfl,h1,g',x',?_⟩
   cases r' with
   |fullDead hd' _=>rw[ho]at hd';cases hd'
   |@full _ _ _ _ o' b ho' hρ hn' hN=>
    rw[ho]at ho'
    simp only[zB]at ho'
    subst ho'
    exact .sref ho hρ (by omega) (fun _=>by omega) (by omega) hN
def Js (ops:Array Oper) (S T:List Nat) (listed:Array Bool) (i:Nat):Bool:=
 let A:=qD ops.toList []
 ((List.range ops.size).all fun j=>match ops[j]? with
  |none=>true
  |some o=>!listed.getD j false||o.after.toList.all fun e=>!Region.binds .any e||listed.getD e.on false)&&
 (decide (i∈Region.ready .any ops listed)&&match ops[i]? with
  |none=>false
  |some oi=>(List.range ops.size).all fun j=>match ops[j]? with
   |none=>true
   |some oj=>decide (j=i)||(listed.getD j true||((A.getD j 0).testBit i||(oi.apart ops oj&&ui S T i j oi oj))))
theorem Na {E:Env} {ops:Array Oper} {D:Nat→Bool} {S T:List Nat} {K:St→Prop} {n:Nat} (i:Nat) {oi:Oper} {listed:Array Bool} {s:St} (hi:ops[i]?=some oi) (hc:Js ops S T listed i=true)
  (h:AXOps D E ops S T [oi] i s (fun s'=>XAny D E ops S T K n (listed.setIfInBounds i true) s')):XAny D E ops S T K (n+1) listed s:=by
 unfold Js at hc
 simp only[zG,zI]at hc
 obtain⟨h1,h2,h3⟩:=hc
 rw[hi]at h3
 refine As hi n listed s (fun j o ho hj e he hb=>?_) (fun j oj hoj hji hun hanc=>?_) h2 h
 ·have:=zS.1 h1 j (List.mem_range.2 (zW.1 ho).1)
  simp only[ho,hj,Bool.not_true,Bool.false_or]at this
  have:=zS.1 this e (by simpa using he)
  simpa[hb]using this
 ·have:=zS.1 h3 j (List.mem_range.2 (zW.1 hoj).1)
  simp only[hoj,hji,hun,hanc,decide_false,Bool.false_or,zG]at this
  exact this
def SlIsT (H:ah) (x:AV) (k:Nat) (es:List (List AV)):Prop:=x= .list k es∨(x= .nil∧es=[])∨∃id ty tl,x= .sref id 0 es.length∧H[id]?=some (some ⟨ty,k,es++tl⟩)
theorem SlIsT.kept {H H':ah} {x:AV} {k:Nat} {es:List (List AV)} (h:SlIsT H x k es) (hk:Kept [] H H'):SlIsT H' x k es:=by
 rcases h with h|h|⟨id,ty,tl,h1,h2⟩
 ·exact .inl h
 ·exact .inr (.inl h)
 ·exact .inr (.inr ⟨id,ty,tl,h1,hk id _ (by simp) h2⟩)
theorem SlIsT.len {H:ah} {x:AV} {k:Nat} {es:List (List AV)} (h:SlIsT H x k es):lu H x=some (es.length:Int):=by
 rcases h with h|⟨rfl,rfl⟩|⟨id,ty,tl,rfl,h2⟩
 ·subst h;rfl
 ·rfl
 ·simp only[lu,h2]
theorem SlIsT.idx {P:Program} {t e:TypeId} {H:ah} {x:AV} {k:Nat} {es:List (List AV)} (h:SlIsT H x k es) (ht:Go.PA.aT P t=some e) (hk:k=ay P e) (hn:aE P e=true) (i:Nat) (hi:i<es.length):
  ∃a,bQ P t H x i=some a∧aO H a=some es[i]:=by
 rcases h with h|⟨rfl,rfl⟩|⟨id,ty,tl,rfl,h2⟩
 ·subst h
  refine⟨.iref es[i],?_,rfl⟩
  rw[Bq ht]
  simp[hk,hn,hi]
 ·simp at hi
 ·have hi':i<es.length+tl.length:=by omega
  refine⟨.ref id i 0,?_,?_⟩
  ·rw[Ar ht]
   simp[h2,hk,hn,hi,hi']
  ·rw[AD]
   simp[h2,zD hi,hi]
open Go.RowKit
theorem Rb {P:Program} {row src:Option Nat} {f:FuncId} {args:List AV} {H:ah} {C D:AV→ah→Prop} (h:MFun P row src f args H C)
  (hd:∀r H',C r H'→∃id n o,r= .sref id 0 n∧H'[id]?=some (some o)∧n≤o.es.length∧D (.sref H'.length 0 n) (H'.set id none++[some ⟨o.ty,o.k,o.es.take n⟩])):MFun P row src f args H D:=by
 intro E hP hrow hsrc
 obtain⟨⟨x0,H0,h0⟩,hw⟩:=h E hP hrow hsrc
 refine⟨?_,fun w ρ ok vs g hs hr=>(hw w ρ ok vs g hs hr).mono ?_⟩
 ·obtain⟨_,_,_,_,_,_,h1⟩:=hd _ _ h0
  exact⟨_,_,h1⟩
 ·rintro e w' ⟨v,x,H',ρ',ok',rfl,hc,g',x',r'⟩
  obtain⟨id,n,o,rfl,ho,hn,h1⟩:=hd _ _ hc
  obtain⟨g2,x2⟩:=g'.kill id ok' (fun _ h=>h) (fun _ h=> .inl h)
  have hlen:(H'.set id none).length=H'.length:=by simp
  have hnew:∀y:Option AObj,(H'.set id none++[y])[H'.length]?=some y:=fun y=>by rw[←hlen];exact cO
  cases r' with
  |srefDead hd' _=>rw[ho]at hd';cases hd'
  |srefNil ho' hρ=>
   obtain⟨g3,x3⟩:=g2.add ⟨o.ty,o.k,o.es.take 0⟩ none (by simp[ObjOk]) (by simp) (fun _ _ h=>by cases h)
   exact⟨_,_,_,_,ok',rfl,h1,g3,x'.trans (x2.trans x3),.srefNil (hnew _) (by simp[fK])⟩
  |@sref _ _ _ c o' b cap ho' hρ hn' hcc hnc hcap=>
   rw[ho]at ho'
   simp only[zB]at ho'
   subst ho'
   have hobj:=g'.obj id o ho
   rw[hρ]at hobj
   obtain⟨cur,c1,c2,c3,c4,c5⟩:=hobj.cells hcap
   have own:=g'.own id o b cap ho hρ
   obtain⟨g3,x3⟩:=g2.add ⟨o.ty,o.k,o.es.take n⟩ (some (b,cap)) (.inl ⟨cur,c1,c2,by simp only[zY];omega,c4,fun i e j a he ha=>by
     simp only[vE]at he
     split at he
     ·obtain⟨c,d1,d2,d3⟩:=c5 i e j a he ha
      exact⟨c,d1,d2,d3.ext x2⟩
     ·cases he⟩) (fun e he=>g'.len id o ho e (wV he)) (fun b' c' h'=>by
     simp only[zB,Prod.mk.injEq]at h'
     obtain⟨rfl,rfl⟩:=h'
     refine⟨own.1,fun id' o' c' ho' hρ'=>?_,own.2.1,own.2.2⟩
     obtain⟨hne,hl⟩:=kG ho'
     exact hne (g'.inj id' o' b c' id o cap hl hρ' ho hρ))
   refine⟨_,_,_,_,ok',rfl,h1,g3,x'.trans (x2.trans x3),.sref (o:=⟨o.ty,o.k,o.es.take n⟩) (hnew _) (by simp[fK]) (by simp;omega) hcc hnc hcap⟩
end Go.PA
namespace Go.Proofs.YtfbogibogkbhmaaGreatDoor
open Go.PA
open Go.RowKit
set_option maxRecDepth 8000 in
set_option maxHeartbeats 2000000 in
theorem EP {row src:Option Nat} (es:List (List AV)) (e:List AV) (i id:Nat) (H:ah) (hi:i≤es.length) (hl:es.length≤100000) (ho:H[id]?=some (some ⟨177,3,es⟩)) (he0:e≠[]):
  MFun Tryz.prog row src 291 [.sref id 0 es.length,iv i,.list 3 [e]] H (fun r H'=>∃jd,r= .sref jd 0 (es.length+1)∧(jd=id∨H.length≤jd)∧H'[jd]?=some (some ⟨177,3,es.take i++e::es.drop i⟩)∧Kept [id] H H'):=by
 obtain⟨C,hC⟩:∃C:AV→ah→Prop,C=fun r H'=>∃jd,r= .sref jd 0 (es.length+1)∧(jd=id∨H.length≤jd)∧H'[jd]?=some (some ⟨177,3,es.take i++e::es.drop i⟩)∧Kept [id] H H':=⟨_,rfl⟩
 rw[←hC]
 have ex:∃r H',C r H':=by
  rw[hC]
  exact⟨.sref H.length 0 (es.length+1),H++[some ⟨177,3,es.take i++e::es.drop i⟩],H.length,rfl,.inr (zZ _),by simp,bN _ _ _⟩
 have lid:=(gsI ho)
 obtain⟨n,hn⟩:∃n,n=es.length:=⟨_,rfl⟩
 rw[←hn]at hi hl hC⊢
 by_cases hin:i=n
 ·subst hin
  refine aG Tryz.func291 rfl (by simp[Tryz.f291]) (by kernel_rfl) (ex) ?_
  intro E hP hr hs hN
  by_cases h0:i=0
  ·subst h0
   simp -dsimp -implicitDefEqProofs [go_sem,hP,ho,←hn,bL,dL,dD]
   rw[hC]
   exact⟨H.length,rfl,.inr (zZ _),by simp -dsimp[go_sem,wF hn.symm],(cL none (by simp) (aD _ _)).trans (bN _ _ _)⟩
  ·simp -dsimp -implicitDefEqProofs [go_sem,hP,ho,←hn,h0,bL,dL,dD]
   refine⟨by omega,by omega,?_⟩
   rw[hC]
   exact⟨H.length,rfl,.inr (zZ _),by simp -dsimp[-getElem?_pos,go_sem,hn],(cL none (by simp) (aD _ _)).trans (bN _ _ _)⟩
 ·have hlt:i<n:=by omega
  have hin':¬(i:Int)=n:=by omega
  have w1:=ae ((n:Int)+1) (by omega)
  have w2:=ae ((i:Int)+1) (by omega)
  have w3:=ae ((n:Int)+1-i) (by omega)
  have hesne:es≠[]:=by intro e0;simp[e0]at hn;omega
  refine xP (C:=fun r H'=>C r H'∨∃N,r= .full id 0 (n+1) N∧∃o,H'[id]?=some (some o)∧n+1≤o.es.length∧C (.sref id 0 (n+1)) H') ?_ (fun r H' h=>?_)
  rotate_left
  ·rcases h with h|⟨N,h1,o,h2,h3,h4⟩
   ·exact .inl h
   ·exact .inr ⟨id,n+1,N,o,h1,h2,h3,h4⟩
  refine CU ho hesne (by dsimp only;omega) fun N hN0=>?_
  dsimp only at hN0
  obtain⟨D,hD⟩:∃D:AV→ah→Prop,D=fun r H'=>C r H'∨∃N,r= .full id 0 (n+1) N∧∃o,H'[id]?=some (some o)∧n+1≤o.es.length∧C (.sref id 0 (n+1)) H':=⟨_,rfl⟩
  rw[←hD]
  have exD:∃r H',D r H':=by
   obtain⟨r,H',h⟩:=ex
   rw[hD]
   exact⟨r,H',.inl h⟩
  have fx:∀(id n N:Nat),(if i=0 then some (AV.full id 0 n N)else some (AV.full id i (n-i) N))=some (.full id i (n-i) N):=fun id n N=>by
   split
   ·subst i;rfl
   ·rfl
  have nN:n≤N:=by omega
  have iN:i≤N:=by omega
  have a1:(0:Int)≤(n:Int)+1:=by omega
  have a3:(0:Int)≤(i:Int)+1:=by omega
  have a4:(i:Int)+1≤(n:Int)+1:=by omega
  refine aG Tryz.func291 rfl (by simp[Tryz.f291]) (by kernel_rfl) (exD) ?_
  intro E hP hr hs hN
  by_cases hroom:N<n+1
  ·have dN:decide ((N:Int)<(n:Int)+1)=true:=zC (by omega)
   obtain⟨zs,hz⟩:=wU.1 (show (cv Tryz.prog 177).isSome=true by kernel_rfl)
   have hbt:cI Tryz.prog 177=24:=by kernel_rfl
   have hm:(n:Int)+1-i=((n+1-i:Nat):Int):=by omega
   have sx:∀(id n:Nat),(if i=0 then some (AV.sref id 0 n)else some (AV.sref id i (n-i)))=some (.sref id i (n-i)):=fun id n=>by
    split
    ·subst i;rfl
    ·rfl
   simp -dsimp -implicitDefEqProofs [go_sem,hP,dN,ho,←hn,hin,hin',bL,dL,dD,w1,w2,w3,hroom,hi,nN,iN,a1,a3,a4,fx]
   refine Jr (e:=177) (m:=n+1-i) (L:=n+1) (kn:= .i64) (zs:=zs) ho (by rw[hP];kernel_rfl) (by rw[hP];kernel_rfl) (by rw[hP];kernel_rfl) (by omega) rfl (by rw[hP];exact hz) (by omega) hm (by omega) (by omega) hroom (by omega) (by rw[hP,hbt];omega) ?_
   have ho2:(H++[some (⟨177,3,es.take i++List.replicate (n+1-i) zs⟩:AObj)])[id]?=some (some ⟨177,3,es⟩):=by rw[zD lid];exact ho
   have hl1:(es.take i++List.replicate (n+1-i) zs).length=n+1:=by simp;omega
   have a7:(i:Int)≤(n:Int)+1:=by omega
   have a8:¬((i:Int)=(n:Int)+1):=by omega
   have a9:i≤n+1:=by omega
   have a10:¬i=n+1:=by omega
   have hA:(es.take i).length=i:=by simp;omega
   have d1:(es.take i++List.replicate (n+1-i) zs).drop (i+1)=List.replicate (n-i) zs:=by
    rw[List.drop_append,vG (by omega),hA,vY,List.drop_replicate]
    congr 1
    omega
   simp -dsimp -implicitDefEqProofs [go_sem,hP,ho2,bL,dL,dD,a7,a8,a9,a10,sx]
   refine r6 (e:=177) (ty:=177) (k:=3) (lo:=i) (dn:=n+1-i) (m:=1) (es:=es.take i++List.replicate (n+1-i) zs) (news:=[e]) (es':=es.take i++e::List.replicate (n-i) zs) (by simp) (.inl rfl) (by rw[hP];kernel_rfl) (by rw[hP];kernel_rfl) (by omega) (by rw[hP];kernel_rfl) ?_ rfl (by omega) (by omega) (by simp;omega) ?_ ?_
   ·simp only[jN]
    rw[if_pos (by rw[hP];kernel_rfl)]
   ·rw[d1,vO (by omega),zQ (by omega)]
    simp
   have ho3:(H++[some (⟨177,3,es.take i++e::List.replicate (n-i) zs⟩:AObj)])[id]?=some (some ⟨177,3,es⟩):=by rw[zD lid];exact ho
   have a5:¬((i:Int)+1=0):=by omega
   have a6:((n:Int)+1-((i:Int)+1)).toNat=n-i:=by omega
   have a11:¬((i:Int)+1=(n:Int)+1):=by omega
   simp -dsimp -implicitDefEqProofs [go_sem,hP]
   refine aq (fun _=>true) [8] hP (by kernel_rfl) (by kernel_rfl) ?_
   simp -dsimp -implicitDefEqProofs [go_sem,hP,ho3,←hn,hin,hin',bL,dL,dD,w1,w2,hi,nN,iN,a1,a3,a4,a5,a6,a7,a8,a11,fx,sx]
   refine r6 (e:=177) (ty:=177) (k:=3) (lo:=i+1) (dn:=n-i) (m:=n-i) (es:=es.take i++e::List.replicate (n-i) zs) (news:=es.drop i) (es':=es.take i++e::es.drop i) (by simp) (.inl rfl) (by rw[hP];kernel_rfl) (by rw[hP];kernel_rfl) (by omega) (by rw[hP];kernel_rfl) ?_ (by simp[←hn]) (by omega) (by omega) (by simp;omega) ?_ ?_
   ·simp only[jN,ho3]
    rw[if_pos ⟨by rw[hP];kernel_rfl,by omega⟩,zQ (by simp;omega)]
   ·rw[show es.take i++e::List.replicate (n-i) zs=(es.take i++[e])++List.replicate (n-i) zs from by simp,vO (by simp;omega),zQ (by simp;omega),vG (show ((es.take i++[e])++List.replicate (n-i) zs).length≤i+1+(n-i) by simp;omega)]
    simp
   simp -dsimp -implicitDefEqProofs [go_sem,hP]
   rw[hD,hC]
   exact .inl ⟨H.length,rfl,.inr (zZ _),by simp,bN _ _ _⟩
  ·have dN:decide ((N:Int)<(n:Int)+1)=false:=zA (by omega)
   have a2:(n:Int)+1≤N:=by omega
   have a5:¬((i:Int)+1=0):=by omega
   have a6:((n:Int)+1-((i:Int)+1)).toNat=n-i:=by omega
   have a7:(i:Int)≤(n:Int)+1:=by omega
   have a8:¬((i:Int)=(n:Int)+1):=by omega
   simp -dsimp -implicitDefEqProofs [go_sem,hP,dN,ho,←hn,hin,hin',bL,dL,dD,w1,w2,w3,hroom,hi,nN,iN,a1,a2,a3,a4,a5,a6,a7,a8,fx]
   refine yf (t:=39) (e:=177) (tR:=4) (fn:=Tryz.f329) (id':=id) (lo':=i+1) (dn':=n-i) (by rw[hP];exact Tryz.func329) (by kernel_rfl) (by kernel_rfl) (by kernel_rfl) (by kernel_rfl) (by rw[hP];kernel_rfl) (by rw[hP];kernel_rfl) he0 (.inr ⟨N,rfl⟩) ho (by omega) ?_
   simp -dsimp -implicitDefEqProofs [go_sem,hP]
   refine aq (fun _=>true) [8] hP (by kernel_rfl) (by kernel_rfl) ?_
   simp -dsimp -implicitDefEqProofs [go_sem,hP,dN,ho,←hn,hin,hin',bL,dL,dD,w1,w2,w3,hroom,hi,nN,iN,a1,a2,a3,a4,a5,a6,a7,a8,fx]
   refine HV (e:=177) (lo:=i+1) (dn:=n-i) (news:=es.drop i) (es':=es.take (i+1)++es.drop i) ho (.inr ⟨N,rfl⟩) (by rw[hP];kernel_rfl) (by rw[hP];kernel_rfl) (by omega) (by rw[hP];kernel_rfl) ?_ (by simp[←hn]) (by omega) (by omega) (by omega) (by rw[vG (show es.length≤i+1+(n-i) by omega),wY]) ?_
   ·simp only[jN,ho]
    rw[if_pos ⟨by rw[hP];kernel_rfl,by omega⟩,zQ (by simp;omega)]
   simp -dsimp -implicitDefEqProofs [-getElem?_pos,go_sem,hP,lid,ho,bL,dL,dD,a2,a7,a8,fx]
   refine r6 (e:=177) (ty:=177) (k:=3) (lo:=i) (dn:=n+1-i) (m:=1) (es:=es.take (i+1)++es.drop i) (news:=[e]) (es':=es.take i++e::es.drop i) (by simp[lid]) (.inr ⟨N,rfl⟩) (by rw[hP];kernel_rfl) (by rw[hP];kernel_rfl) (by omega) (by rw[hP];kernel_rfl) ?_ rfl (by omega) (by omega) (by simp[←hn];omega) ?_ ?_
   ·simp only[jN]
    rw[if_pos (by rw[hP];kernel_rfl)]
   ·rw[vO (by simp;omega),List.take_take,Nat.min_eq_left (by omega),List.drop_append_of_le_length (by simp;omega),vG (by simp;omega)]
    simp
   simp -dsimp -implicitDefEqProofs [-getElem?_pos,go_sem,hP,lid]
   rw[hD,hC]
   simp only[List.set_set]
   exact .inr ⟨N,rfl,⟨177,3,es.take i++e::es.drop i⟩,by simp[lid],by simp[←hn];omega,id,rfl,.inl rfl,by simp[lid],cL _ (by simp) (aD _ _)⟩
set_option maxHeartbeats 2000000 in
theorem EB {row src:Option Nat} (es:List (List AV)) (i id:Nat) (H:ah) (hi:i<es.length) (hl:es.length≤100000) (ho:H[id]?=some (some ⟨177,3,es⟩)):
  MFun Tryz.prog row src 292 [.sref id 0 es.length,iv i,iv ((i:Int)+1)] H (fun r H'=>∃tl,r= .sref id 0 (es.length-1)∧H'[id]?=some (some ⟨177,3,es.take i++es.drop (i+1)++tl⟩)∧Kept [id] H H'):=by
 obtain⟨C,hC⟩:∃C:AV→ah→Prop,C=fun r H'=>∃tl,r= .sref id 0 (es.length-1)∧H'[id]?=some (some ⟨177,3,es.take i++es.drop (i+1)++tl⟩)∧Kept [id] H H':=⟨_,rfl⟩
 rw[←hC]
 have lid:=(gsI ho)
 have ex:∃r H',C r H':=by
  rw[hC]
  exact⟨.sref id 0 (es.length-1),H.set id (some ⟨177,3,es.take i++es.drop (i+1)++[]⟩),[],rfl,by simp[lid],cL _ (by simp) (aD _ _)⟩
 obtain⟨n,hn⟩:∃n,n=es.length:=⟨_,rfl⟩
 rw[←hn]at hi hl hC⊢
 have hesne:es≠[]:=by intro e0;simp[e0]at hn;omega
 refine xP (C:=fun r H'=>∃N,r= .full id 0 (n-1) N∧∃o,H'[id]?=some (some o)∧n-1≤o.es.length∧C (.sref id 0 (n-1)) H') ?_ (fun r H' h=>?_)
 rotate_left
 ·obtain⟨N,h1,o,h2,h3,h4⟩:=h
  exact .inr ⟨id,n-1,N,o,h1,h2,h3,h4⟩
 refine CU ho hesne (by dsimp only;omega) fun N hN0=>?_
 dsimp only at hN0
 obtain⟨D,hD⟩:∃D:AV→ah→Prop,D=fun r H'=>∃N,r= .full id 0 (n-1) N∧∃o,H'[id]?=some (some o)∧n-1≤o.es.length∧C (.sref id 0 (n-1)) H':=⟨_,rfl⟩
 rw[←hD]
 have exD:∃r H',D r H':=by
  rw[hD,hC]
  refine⟨.full id 0 (n-1) n,H.set id (some ⟨177,3,es.take i++es.drop (i+1)++[]⟩),n,rfl,⟨177,3,es.take i++es.drop (i+1)++[]⟩,by simp[lid],by simp;omega,[],rfl,by simp[lid],cL _ (by simp) (aD _ _)⟩
 obtain⟨zs,hz⟩:=wU.1 (show (cv Tryz.prog 177).isSome=true by kernel_rfl)
 have nN:n≤N:=by omega
 have iN:i≤N:=by omega
 have b1:(0:Int)≤i:=by omega
 have b2:(i:Int)≤(i:Int)+1:=by omega
 have b3:(i:Int)+1≤n:=by omega
 have b4:¬(i:Int)=(i:Int)+1:=by omega
 have b5:(0:Int)≤(i:Int)+1:=by omega
 have b6:¬((i:Int)+1=0):=by omega
 have fin:∀(es1:List (List AV)),es1.take (n-1)=es.take i++es.drop (i+1)→es1.length=n→(H1:ah)→H1[id]?=some (some ⟨177,3,es1⟩)→Kept [id] H H1→D (.full id 0 (n-1) N) (H1.set id (some ⟨177,3,es.take i++es.drop (i+1)++[zs]⟩)):=fun es1 h1 h2 H1 h3 h4=>by
  have l1:=(gsI h3)
  rw[hD,hC]
  exact⟨N,rfl,⟨177,3,es.take i++es.drop (i+1)++[zs]⟩,by simp[l1],by simp[←hn];omega,[zs],rfl,by simp[l1],cL _ (by simp) h4⟩
 refine aG Tryz.func292 rfl (by simp[Tryz.f292]) (by kernel_rfl) (exD) ?_
 intro E hP hr hs hN
 simp -dsimp -implicitDefEqProofs [go_sem,hP,ho,←hn,bL,dL,dD,ql,b1,b2,b3,b4,b5]
 refine aq (fun _=>true) [6] hP (by kernel_rfl) (by kernel_rfl) ?_
 have sx:(if n-1=0 then some (AV.full id 0 n N)else some (AV.full id (n-1) 1 N))=some (.full id (n-1) 1 N):=by
  split
  ·rename_i h0;rw[h0,show n=1 by omega]
  ·rfl
 have n4:¬(((n-1:Nat):Int)=(n:Int)):=by omega
 have n1:n-(n-1)=1:=by omega
 have n2:n-1≤n:=by omega
 have n3:¬(n-1=n):=by omega
 have n0:¬n=0:=by omega
 by_cases hlast:i+1=n
 ·have c1:(i:Int)+1=n:=by omega
  have iN1:i=n-1:=by omega
  simp -dsimp -implicitDefEqProofs [go_sem,hP,ho,←hn,bL,dL,dD,b1,b2,b3,b4,b5,b6,c1,iN,nN,n0]
  refine E1 (e:=177) (L:=n-1) (o:=⟨177,3,es⟩) ho (by rw[hP];kernel_rfl) (by rw[hP];kernel_rfl) iN iN1 ?_
  simp -dsimp -implicitDefEqProofs [go_sem,hP,ho,bL,dL,dD,n1,n2,n3,n4,nN,sx]
  refine xY (e:=177) (es':=es.take i++es.drop (i+1)++[zs]) ho (.inr ⟨N,rfl⟩) (by rw[hP];kernel_rfl) (by rw[hP];kernel_rfl) (by omega) (by rw[hP];exact hz) (by omega) (by omega) ?_ ?_
  ·rw[vG (show es.length≤n-1+1 by omega),vG (show es.length≤i+1 by omega),iN1]
   simp
  simp -dsimp -implicitDefEqProofs [go_sem,hP]
  have:=fin es (by rw[vG (show es.length≤i+1 by omega),iN1];simp) hn.symm H ho (aD _ _)
  simpa using this
 ·have c1:¬(i:Int)+1=n:=by omega
  have c2:(n:Int)-((i:Int)+1)=((n-(i+1):Nat):Int):=by omega
  simp -dsimp -implicitDefEqProofs [go_sem,hP,ho,←hn,bL,dL,dD,b1,b2,b3,b4,b5,b6,c1,c2,iN,nN]
  refine DS (e:=177) (L:=n-1) (m:=n-(i+1)) (news:=es.drop (i+1)) (es':=es.take i++es.drop (i+1)++es.drop (n-1)) ho (by rw[hP];kernel_rfl) (by rw[hP];kernel_rfl) (by omega) (by rw[hP];kernel_rfl) ?_ (by simp[←hn]) (by omega) (by omega) (by omega) rfl (by omega) ?_
  ·simp only[jN,ho]
   rw[if_pos ⟨by rw[hP];kernel_rfl,by omega⟩,zQ (by simp;omega)]
  simp -dsimp -implicitDefEqProofs [-getElem?_pos,go_sem,hP,lid,bL,dL,dD,n1,n2,n3,n4,nN,sx]
  have hl2:(es.take i++es.drop (i+1)).length=n-1:=by simp;omega
  refine xY (e:=177) (ty:=177) (k:=3) (es:=es.take i++es.drop (i+1)++es.drop (n-1)) (es':=es.take i++es.drop (i+1)++[zs]) (by simp[lid]) (.inr ⟨N,rfl⟩) (by rw[hP];kernel_rfl) (by rw[hP];kernel_rfl) (by omega) (by rw[hP];exact hz) (by omega) (by simp;omega) ?_ ?_
  ·rw[vO (by omega),zQ (by omega),vG (show (es.take i++es.drop (i+1)++es.drop (n-1)).length≤n-1+1 by rw[zK,hl2,wP];omega)]
   simp
  simp -dsimp -implicitDefEqProofs [go_sem,hP]
  have:=fin (es.take i++es.drop (i+1)++es.drop (n-1)) (by rw[vO (by omega),zQ (by omega)]) (by rw[zK,hl2,wP];omega) (H.set id (some ⟨177,3,es.take i++es.drop (i+1)++es.drop (n-1)⟩)) (by simp[lid]) (cL _ (by simp) (aD _ _))
  simpa using this
theorem GH {row src:Option Nat} (es:List (List AV)) (i id:Nat) (H:ah) (hi:i<es.length) (hl:es.length≤100000) (ho:H[id]?=some (some ⟨177,3,es⟩)):
  MFun Tryz.prog row src 292 [.sref id 0 es.length,iv i,iv ((i:Int)+1)] H (fun r H'=>∃jd,r= .sref jd 0 (es.length-1)∧(∀(x:Nat) (o:AObj),x≠id→H[x]?=some (some o)→x<jd)∧H'[jd]?=some (some ⟨177,3,es.take i++es.drop (i+1)⟩)∧Kept [id] H H'):=by
 refine Rb (EB es i id H hi hl ho) ?_
 rintro r H' ⟨tl,rfl,h1,h2⟩
 have hn:(es.take i++es.drop (i+1)).length=es.length-1:=by simp;omega
 refine⟨id,_,_,rfl,h1,by dsimp only;rw[zK,hn];omega,H'.length,rfl,fun x o hx e=>?_,?_,?_⟩
 ·exact (zM.1 (h2 x o (by simpa using hx) e)).1
 ·dsimp only
  rw[vO (by omega),zQ (by omega)]
  simp
 ·exact h2.trans ((cL none (by simp) (aD _ _)).trans (bN _ _ _))
theorem VG {row src:Option Nat} (c:Nat) (sx hx n d:AV) (l:List THolding) (id h:Int) (H:ah) (hc:H[c]?=some (some ⟨179,4,[[sx,hx,n,d]]⟩)) (hsl:SlIs H hx 3 (ao THolding.cells l)) (hl:l.length≤100000) (ho:l.Pairwise hR):
  MFun Tryz.prog row src 231 [.ref c 0 0,iv id,iv h] H (fun r H'=>r=iv (dY l id h)∧Kept [] H H'):=by
 obtain⟨v,hv⟩:∃v,v=dY l id h:=⟨_,rfl⟩
 rw[←hv]
 obtain⟨C,hC⟩:∃C:AV→ah→Prop,C=fun r H'=>r=iv v∧Kept [] H H':=⟨_,rfl⟩
 rw[←hC]
 have ex:∃r H',C r H':=⟨_,H,by rw[hC];exact⟨rfl,aD _ _⟩⟩
 obtain⟨k,hk,hm,hcase⟩:=n5 (hOk id h) ho
 have pm:=fun {row src:Option Nat}=>HG (row:=row) (src:=src) c sx hx n d l id h k H hc hsl hl hk hm
 rcases hcase with⟨x,e1,e2,e3,_⟩|⟨e1,e3,_⟩
 ·have hb:(l[k]?).any (hIs id h)=true:=by rw[e1];exact e2
  have ev:v=x.Amount:=by rw[hv];exact e3
  have lk:=(gsI e1)
  rw[hb]at pm
  refine aG Tryz.func231 rfl (by simp[Tryz.f231]) (by kernel_rfl) (ex) ?_
  intro E hP hr hs hN
  simp -dsimp -implicitDefEqProofs [go_sem,hP]
  refine aI (by rw[hr,hs];exact pm) hP Eb ?_
  rintro r H' ⟨rfl,kp⟩
  have c1:=kp _ _ (by simp) hc
  have s1:=hsl.kept kp
  have lc1:=(gsI c1)
  rcases s1 with rfl|⟨rfl,e⟩|⟨hid,ty,rfl,hh⟩
  ·simp -dsimp -implicitDefEqProofs [-getElem?_pos,go_sem,hP,c1,lc1,e1,eX]
   rw[hC]
   exact⟨by rw[ev],kp⟩
  ·exfalso
   cases l with
   |nil=>simp at lk
   |cons _ _=>simp[ao]at e
  ·have lh:=(gsI hh)
   simp -dsimp -implicitDefEqProofs [-getElem?_pos,go_sem,hP,c1,lc1,hh,lh,e1,eX,ar,lk]
   rw[hC]
   exact⟨by rw[ev],kp⟩
 ·have hb:(l[k]?).any (hIs id h)=false:=by
   cases e:l[k]? with
   |none=>rfl
   |some x=>simpa using e1 x e
  have ev:v=0:=by rw[hv];exact e3
  rw[hb]at pm
  refine aG Tryz.func231 rfl (by simp[Tryz.f231]) (by kernel_rfl) (ex) ?_
  intro E hP hr hs hN
  simp -dsimp -implicitDefEqProofs [go_sem,hP]
  refine aI (by rw[hr,hs];exact pm) hP Eb ?_
  rintro r H' ⟨rfl,kp⟩
  simp -dsimp -implicitDefEqProofs [go_sem,hP]
  rw[hC]
  exact⟨by rw[ev],kp⟩
theorem uz {l:List THolding} {N:Nat} (h:HoldOk l N) (id:Int) (k:Nat):0≤eY (l.take k) id∧eY (l.take k) id≤1000000000000:=by
 have h1:=gr (rJ id) hAm (l.take k) fun x hx=>h.pos x (wV hx)
 have h2:=gr (rJ id) hAm (l.drop k) fun x hx=>h.pos x (uB hx)
 have h3:=ma (rJ id) hAm (l.take k) (l.drop k)
 rw[vV]at h3
 have h4:=h.tot id
 unfold eY at*
 omega
theorem Me {l:List THolding} {k:Nat} {x:THolding} (hx:l[k]?=some x) (id:Int):eY (l.take (k+1)) id=eY (l.take k) id+if x.Security=id then x.Amount else 0:=by
 unfold eY
 rw[wJ,hx,ma]
 simp only[Option.toList_some,dC,tg,rJ,zI,hAm]
 omega
theorem Sg {row src:Option Nat} (c:Nat) (sx hx n d:AV) (l:List THolding) (N:Nat) (id:Int) (H:ah) (hc:H[c]?=some (some ⟨179,4,[[sx,hx,n,d]]⟩)) (hsl:SlIs H hx 3 (ao THolding.cells l)) (hl:l.length≤100000) (ho:HoldOk l N):
  MFun Tryz.prog row src 232 [.ref c 0 0,iv id] H (fun r H'=>r=iv (eY l id)∧Kept [] H H'):=by
 obtain⟨v,hv⟩:∃v,v=eY l id:=⟨_,rfl⟩
 rw[←hv]
 obtain⟨C,hC⟩:∃C:AV→ah→Prop,C=fun r H'=>r=iv v∧Kept [] H H':=⟨_,rfl⟩
 rw[←hC]
 have ex:∃r H',C r H':=⟨_,H,by rw[hC];exact⟨rfl,aD _ _⟩⟩
 have lc:=(gsI hc)
 have hlen:=hsl.len
 rw[ar]at hlen
 refine aG Tryz.func232 rfl (by simp[Tryz.f232]) (by kernel_rfl) (ex) ?_
 intro E hP hr hs hN
 simp -dsimp -implicitDefEqProofs [-getElem?_pos,go_sem,hP,hc,lc,hlen]
 obtain⟨I,hI⟩:∃I:Nat→St→Prop,I=fun m s=>∃(k:Nat) (w:Int),k≤l.length∧m=l.length-k∧w=eY (l.take k) id∧s.t 0= .ref c 0 0∧s.t 1=iv id∧s.t 5=iv w∧s.t 11=hx∧s.t 12=iv l.length∧s.t 13=iv k∧Kept [] H s.H:=⟨_,rfl⟩
 refine az I (l.length) (by rw[hN];rfl) ?_ ?_
 ·rw[hI]
  exact⟨0,0,by omega,by omega,rfl,rfl,rfl,rfl,rfl,rfl,rfl,by simp -dsimp[go_sem];exact aD _ _⟩
 intro m s hs'
 rw[hI]at hs'
 obtain⟨k,w,hk,hm,hw,t0,t1,t5,t11,t12,t13,kp⟩:=hs'
 simp -dsimp -implicitDefEqProofs [go_sem,hP,t12,t13]
 refine aB ?_ ?_<;>intro hq
 ·have hk:k<l.length:=by simpa using hq
  obtain⟨a,ha⟩:=gkE hk
  have wk:=ae ((k:Int)+1) (by omega)
  obtain⟨ad,h1,h2⟩:=(hsl.kept kp).idx (P:=Tryz.prog) (t:=39) (e:=177) WS (by rw[Uh]) VI k (by rw[ar];exact hk)
  have h2':aO s.H ad=some [iv a.Security,iv a.Holder,iv a.Amount]:=by
   rw[h2]
   have:=eW THolding.cells l k
   rw[ha,zF (by rw[ar];exact hk)]at this
   exact this
  have hs2:=Me ha id
  have hb:=uz ho id (k+1)
  rw[←hw]at hs2
  by_cases e:a.Security=id
  ·rw[if_pos e]at hs2
   have wa:=ae (w+a.Amount) (by omega)
   simp -dsimp -implicitDefEqProofs [go_sem,hP,t13,t11,h1,h2',t1,t5,e,wa,wk]
   refine⟨l.length-(k+1),by omega,?_⟩
   rw[hI]
   exact⟨k+1,_,by omega,rfl,hs2.symm,t0,t1,rfl,t11,t12,rfl,by simp -dsimp[go_sem];exact kp.trans (bN _ _ _)⟩
  ·rw[if_neg e,Int.add_zero]at hs2
   simp -dsimp -implicitDefEqProofs [go_sem,hP,t13,t11,h1,h2',t1,t5,e,wk]
   refine⟨l.length-(k+1),by omega,?_⟩
   rw[hI]
   exact⟨k+1,_,by omega,rfl,hs2.symm,t0,t1,t5,t11,t12,rfl,by simp -dsimp[go_sem];exact kp.trans (bN _ _ _)⟩
 ·have hk:k=l.length:=by simp at hq;omega
  subst hk
  rw[zT,←hv]at hw
  simp -dsimp -implicitDefEqProofs [go_sem,hP,t5]
  rw[hC]
  exact⟨by rw[hw],kp⟩
open Go.PA
open Go.RowKit
structure Clk (H:ah) (c hid:Nat) (sx:AV) (l:List THolding) (n d:Int):Prop where
 oc:H[c]?=some (some ⟨179,4,[[sx,.sref hid 0 l.length,iv n,iv d]]⟩)
 oh:H[hid]?=some (some ⟨177,3,ao THolding.cells l⟩)
 ne:c≠hid
theorem Clk.kept {H H':ah} {c hid:Nat} {sx:AV} {l:List THolding} {n d:Int} (h:Clk H c hid sx l n d) (k:Kept [] H H'):Clk H' c hid sx l n d:=⟨k _ _ (by simp) h.oc,k _ _ (by simp) h.oh,h.ne⟩
theorem Clk.sl {H:ah} {c hid:Nat} {sx:AV} {l:List THolding} {n d:Int} (h:Clk H c hid sx l n d):SlIs H (.sref hid 0 l.length) 3 (ao THolding.cells l):= .inr (.inr ⟨hid,_,by rw[ar],h.oh⟩)
theorem vw {α:Type} (enc:α→List AV):∀(l:List α) (k:Nat) (x:α),(ao enc l).set k (enc x)=ao enc (l.set k x)
 |[],_,_=>rfl
 |_::_,0,_=>rfl
 |y::l,k+1,x=>by
  have:=vw enc l k x
  simp only[ao,wD,List.set_cons_succ]at*
  rw[this]
def yo (H:ah) (c hid:Nat) (sx:AV) (l:List THolding) (n d:Int) (H':ah):Prop:=∃hid',Clk H' c hid' sx l n d∧(∀(x:Nat) (o:AObj),x≠hid→H[x]?=some (some o)→x≠hid')∧Kept [c,hid] H H'
set_option maxHeartbeats 4000000 in
theorem o7 {row src:Option Nat} (c hid:Nat) (sx:AV) (n d:Int) (l:List THolding) (id h am:Int) (H:ah) (hk:Clk H c hid sx l n d) (hsx:sx.cellish=true) (hl:l.length≤10000) (ho:l.Pairwise hR) (hb:∀x,x∈l→0<x.Amount∧x.Amount≤1000000000000) (ham: -1000000000000≤am∧am≤1000000000000) (ha0:am≠0):
  MFun Tryz.prog row src 233 [.ref c 0 0,iv id,iv h,iv am] H (fun _ H'=>yo H c hid sx (n6 l id h am) n d H'):=by
 by_cases hz:h=0
 ·have ea:n6 l id h am=l:=by rw[n6,if_pos hz]
  rw[ea]
  refine aG Tryz.func233 rfl (by simp[Tryz.f233]) (by kernel_rfl) (⟨.tup [],H,hid,hk,fun x o hx _=>hx,aD _ _⟩) ?_
  intro E hP hr hs hN
  simp -dsimp -implicitDefEqProofs [go_sem,hP,hz]
  exact⟨hid,hk,fun x o hx _=>hx,aD _ _⟩
 have ea:n6 l id h am=kD l id h am:=by rw[n6,if_neg hz]
 rw[ea]
 obtain⟨l',hl'⟩:∃l',l'=kD l id h am:=⟨_,rfl⟩
 rw[←hl']
 obtain⟨C,hC⟩:∃C:AV→ah→Prop,C=fun _ H'=>yo H c hid sx l' n d H':=⟨_,rfl⟩
 rw[←hC]
 have lc:=(zM.1 hk.oc).1
 have lh:=(zM.1 hk.oh).1
 have ne:=hk.ne
 have ex:∃r H',C r H':=by
  rw[hC]
  refine⟨.tup [],(H.set c (some ⟨179,4,[[sx,.sref hid 0 l'.length,iv n,iv d]]⟩)).set hid (some ⟨177,3,ao THolding.cells l'⟩),hid,⟨?_,?_,ne⟩,fun x o hx _=>hx,?_⟩
  ·rw[zH (fun e=>ne e.symm)]
   simp[lc]
  ·simp[lh]
  ·exact cL _ (by simp) (cL _ (by simp) (aD _ _))
 obtain⟨k,hkl,hm,hcase⟩:=n5 (hOk id h) ho
 have pm:=fun {row src:Option Nat}=>HG (row:=row) (src:=src) c sx _ _ _ l id h k H hk.oc hk.sl (by omega) hkl hm
 have wk:=ae ((k:Int)+1) (by omega)
 rcases hcase with⟨x,e1,e2,e3,e4⟩|⟨e1,e3,e4⟩
 ·have hbt:(l[k]?).any (hIs id h)=true:=by rw[e1];exact e2
  have lk:=(gsI e1)
  have bx:=hb x (zE e1)
  have wa:=ae (x.Amount+am) (by omega)
  have e4:l'=if x.Amount+am=0 then l.take k++l.drop (k+1)else l.take k++hMk id h (x.Amount+am)::l.drop (k+1):=by rw[hl'];exact e4 am
  have hx2:=gN.1 e2
  rw[hbt]at pm
  refine aG Tryz.func233 rfl (by simp[Tryz.f233]) (by kernel_rfl) (ex) ?_
  intro E hP hr hs hN
  simp -dsimp -implicitDefEqProofs [go_sem,hP,hz]
  refine aI (by rw[hr,hs];exact pm) hP Eb ?_
  rintro r H1 ⟨rfl,kp⟩
  have k1:=hk.kept kp
  have c1:=k1.oc
  have h1:=k1.oh
  have lc1:=(gsI c1)
  have lh1:=(gsI h1)
  obtain⟨y,hy⟩:∃y:THolding,y=⟨x.Security,x.Holder,x.Amount+am⟩:=⟨_,rfl⟩
  have ey:(ao THolding.cells l).set k [iv x.Security,iv x.Holder,iv (x.Amount+am)]=ao THolding.cells (l.set k y):=by rw[←vw,hy,eX]
  have lk2:(l.set k y)[k]?=some y:=by simp[lk]
  have ne':¬hid=c:=fun e=>ne e.symm
  simp -dsimp -implicitDefEqProofs [-getElem?_pos,go_sem,hP,c1,lc1,h1,lh1,e1,eX,ar,lk,wa,ey,ne,ne']
  have es:l.set k y=l.take k++y::l.drop (k+1):=List.set_eq_take_append_cons_drop.trans (if_pos lk)
  obtain⟨H2,hH2⟩:∃H2,H2=H1.set hid (some ⟨177,3,ao THolding.cells (l.set k y)⟩):=⟨_,rfl⟩
  have k12:Kept [c,hid] H1 H2:=by rw[hH2];exact cL _ (by simp) (aD _ _)
  have c2:H2[c]?=some (some ⟨179,4,[[sx,.sref hid 0 l.length,iv n,iv d]]⟩):=by rw[hH2,zH ne'];exact c1
  have h2:H2[hid]?=some (some ⟨177,3,ao THolding.cells (l.set k y)⟩):=by rw[hH2];simp[lh1]
  have hye:y.Amount=x.Amount+am:=by rw[hy]
  rw[←hH2]
  refine aB ?_ ?_<;>intro hq
  ·have hq:y.Amount=0:=by simpa using hq
   have el:l'=l.take k++l.drop (k+1):=by rw[e4,if_pos (by omega)]
   have dm:=fun {row src:Option Nat}=>GH (row:=row) (src:=src) (ao THolding.cells (l.set k y)) k hid H2 (by rw[ar,wX];exact lk) (by rw[ar,wX];omega) h2
   rw[ar,wX]at dm
   simp -dsimp -implicitDefEqProofs [go_sem,hP,c2,wk]
   refine aI (by rw[hr,hs];exact dm) hP UP ?_
   rintro r H3 ⟨jd,rfl,hj,h3,kp3⟩
   have c3:=kp3 _ _ (by simpa using ne) c2
   have lc3:=(gsI c3)
   have nj:c≠jd:=fun e=>by
    have:=hj c _ ne c2
    omega
   simp -dsimp -implicitDefEqProofs [-getElem?_pos,go_sem,hP,c3,lc3,hsx]
   rw[hC]
   refine⟨jd,⟨?_,?_,nj⟩,fun z o hz he=>?_,?_⟩
   ·have:l'.length=l.length-1:=by rw[el];simp;omega
    rw[this]
    simp[lc3]
   ·rw[zH nj,h3,es,el]
    rw[gS,jo,uc,←es,List.take_set_of_le (zZ _),List.drop_set_of_lt (by omega)]
   ·by_cases hzc:z=c
    ·rw[hzc];exact nj
    ·have:=hj z o hz (k12 z o (by simp[hzc,hz]) (kp z o (by simp) he))
     omega
   ·exact (((kp.mono (by simp)).trans k12).trans (kp3.mono (by simp))).trans (cL _ (by simp) (aD _ _))
  ·have hq:¬y.Amount=0:=by simpa using hq
   have el:l'=l.set k y:=by rw[e4,if_neg (by omega),es,hy,hx2.1,hx2.2];rfl
   simp -dsimp -implicitDefEqProofs [go_sem,hP]
   rw[hC,el]
   exact⟨hid,⟨by rw[wX];exact c2,h2,ne⟩,fun z o hz _=>hz,(kp.mono (by simp)).trans k12⟩
 ·have hbt:(l[k]?).any (hIs id h)=false:=by
   cases e:l[k]? with
   |none=>rfl
   |some x=>simpa using e1 x e
  have e4:l'=l.take k++hMk id h am::l.drop k:=by rw[hl',kD,e4 am,if_neg ha0]
  rw[hbt]at pm
  refine aG Tryz.func233 rfl (by simp[Tryz.f233]) (by kernel_rfl) (ex) ?_
  intro E hP hr hs hN
  simp -dsimp -implicitDefEqProofs [go_sem,hP,hz]
  refine aI (by rw[hr,hs];exact pm) hP Eb ?_
  rintro r H1 ⟨rfl,kp⟩
  have k1:=hk.kept kp
  have c1:=k1.oc
  have h1:=k1.oh
  have lc1:=(gsI c1)
  have lh1:=(gsI h1)
  have im:=fun {row src:Option Nat}=>EP (row:=row) (src:=src) (ao THolding.cells l) [iv id,iv h,iv 0] k hid H1 (by rw[ar];exact hkl) (by rw[ar];omega) h1 (by simp)
  rw[ar]at im
  simp -dsimp -implicitDefEqProofs [-getElem?_pos,go_sem,hP,c1,lc1]
  refine aI (by rw[hr,hs];exact im) hP T4 ?_
  rintro r H2 ⟨jd,rfl,hj,h2,kp2⟩
  have c2:=kp2 _ _ (by simpa using ne) c1
  have lc2:=(gsI c2)
  have lh2:=(gsI h2)
  have nj:c≠jd:=by rcases hj with rfl|hj<;>omega
  have nj':¬jd=c:=fun e=>nj e.symm
  obtain⟨y0,hy0⟩:∃y0:THolding,y0=⟨id,h,0⟩:=⟨_,rfl⟩
  obtain⟨y,hy⟩:∃y:THolding,y=⟨id,h,am⟩:=⟨_,rfl⟩
  obtain⟨l1,hl1⟩:∃l1,l1=l.take k++y0::l.drop k:=⟨_,rfl⟩
  have h2':(ao THolding.cells l).take k++[iv id,iv h,iv 0]::(ao THolding.cells l).drop k=ao THolding.cells l1:=by
   rw[gS,jo,hl1,←uc,hy0]
   rfl
  rw[h2']at h2
  have ll1:l1.length=l.length+1:=by rw[hl1];simp;omega
  have e1k:l1[k]?=some y0:=by rw[hl1,zN (by simp;omega)];simp[Nat.min_eq_left hkl]
  have lk:k<l1.length:=by omega
  have lkl:k<l.length+1:=by omega
  have lki:(k:Int)<(l.length:Int)+1:=by omega
  have lk2:(l1.set k y)[k]?=some y:=by simp[lk]
  have wa:=ae (0+am) (by omega)
  have wa':=ae am (by omega)
  have es1:l1.set k y=l':=by
   rw[e4,hl1,List.set_append_right _ _ (by simp;omega)]
   simp[Nat.min_eq_left hkl,hy]
   rfl
  have ey:(ao THolding.cells l1).set k [iv id,iv h,iv am]=ao THolding.cells (l1.set k y):=by rw[←vw,hy,eX]
  have c0:y0.cells=[iv id,iv h,iv 0]:=by rw[hy0];rfl
  have cy:y.cells=[iv id,iv h,iv am]:=by rw[hy];rfl
  have hya:¬y.Amount=0:=by rw[hy];exact ha0
  simp -dsimp -implicitDefEqProofs [-getElem?_pos,go_sem,hP,c2,lc2,hsx,h2,lh2,e1k,c0,ar,lk,lkl,lki,ll1,wa,wa',ey,nj,nj',lk2,cy,ha0]
  obtain⟨H3,hH3⟩:∃H3,H3=(H2.set c (some ⟨179,4,[[sx,.sref jd 0 (l.length+1),iv n,iv d]]⟩)).set jd (some ⟨177,3,ao THolding.cells (l1.set k y)⟩):=⟨_,rfl⟩
  rw[←hH3]
  rw[hC,←es1,hH3]
  have lset:(l1.set k y).length=l.length+1:=by simp[ll1]
  refine⟨jd,⟨?_,?_,nj⟩,fun z o hz he=>?_,?_⟩
  ·rw[lset]
   simp[nj',lc2]
  ·simp[lh2]
  ·rcases hj with rfl|hj
   ·exact hz
   ·have:=(zM.1 (kp z o (by simp) he)).1
    omega
  ·intro z o hz he
   have h2z:=kp2 z o (by simp at hz;simp[hz]) (kp z o (by simp) he)
   have n1:jd≠z:=fun e=>by
    rcases hj with rfl|hj
    ·simp[e]at hz
    ·have:=(zM.1 (kp z o (by simp) he)).1
     omega
   have n2:c≠z:=fun e=>by simp[e]at hz
   rw[zH n1,zH n2]
   exact h2z
open Go.PA
open Go.RowKit
theorem DO (l:List TSecurity) (g:FuncId) (caps:List AV) (p:TSecurity→Bool) (hl:l.length≤1000000) (hen:aa Tryz.prog g=true) (hcap:∀a,a∈caps→Imm a)
  (hg:∀a,a∈l→PFun Tryz.prog none none g (.agg (TSecurity.cells a)::caps) (·=bv (p a))):
  PFun Tryz.prog none none 287 [.list 7 (ao TSecurity.cells l),.fn g caps] (·=iv (fD p l)):=by
 refine ab Tryz.func287 rfl (by simp[Tryz.f287]) (by kernel_rfl) ?_
 intro E hP hr hs hW hN
 simp -dsimp -implicitDefEqProofs [go_sem,hP]
 obtain⟨I,hI⟩:∃I:Nat→St→Prop,I=fun m s=>∃k:Nat,k≤l.length∧m=l.length-k∧fD p l=bE p k (l.drop k)∧s.t 0= .list 7 (ao TSecurity.cells l)∧s.t 1= .fn g caps∧s.t 7=iv l.length∧s.t 8=iv k:=⟨_,rfl⟩
 refine az I (l.length) (by rw[hN];rfl) ?_ ?_
 ·rw[hI]
  exact⟨0,by omega,by omega,by simp[fD],rfl,rfl,rfl,rfl⟩
 intro m s hs'
 rw[hI]at hs'
 obtain⟨k,hk,hm,hi,t0,t1,t7,t8⟩:=hs'
 simp -dsimp -implicitDefEqProofs [go_sem,hP,t7,t8]
 refine aB ?_ ?_<;>intro h
 ·have hk:k<l.length:=by simpa using h
  obtain⟨a,ha⟩:=gkE hk
  have wk:=ae ((k:Int)+1) (by omega)
  have hz:(TSecurity.cells a).take 7=TSecurity.cells a:=zQ (by rw[TSecurity.len];omega)
  have hd:l.drop k=a::l.drop (k+1):=by
   rw[zF hk]at ha
   rw[wE hk,wT ha]
  simp -dsimp -implicitDefEqProofs [go_sem,hP,t8,t1,t0,ha,TSecurity.len,hz]
  refine aJ ((hg a (zE ha)).lift _ _) hP hen (fun x hx=>?_) .sc ?_
  ·rcases zO.1 hx with rfl|hx
   ·exact bH.2 (TSecurity.imm a)
   ·exact hcap x hx
  rw[hd]at hi
  simp only[bE]at hi
  simp -dsimp -implicitDefEqProofs [go_sem,hP]
  refine aB ?_ ?_<;>intro hp
  ·rw[if_pos hp]at hi
   simp -dsimp -implicitDefEqProofs [go_sem,hP]
   exact hi.symm
  ·rw[hp,if_neg (by simp)]at hi
   simp -dsimp -implicitDefEqProofs [go_sem,hP,t8,wk]
   refine⟨l.length-(k+1),by omega,?_⟩
   rw[hI]
   exact⟨k+1,by omega,rfl,hi,t0,t1,t7,rfl⟩
 ·have hk:k=l.length:=by simp at h;omega
  subst hk
  rw[wG]at hi
  simp -dsimp -implicitDefEqProofs [go_sem,hP]
  exact hi.symm
theorem Ml (x:TSecurity) (id:Int):PFun Tryz.prog none none 288 [.agg x.cells,.iref [iv id]] (·=bv (decide (x.ID=id))):=by
 refine ab Tryz.func288 rfl (by simp[Tryz.f288]) (by kernel_rfl) ?_
 intro E hP hr hs hW hN
 simp -dsimp -implicitDefEqProofs [go_sem,hP,cc]
def qE:TSecurity:=⟨0,0,0,0,0,0,false⟩
def dT (l:List TSecurity) (id:Int):TSecurity×Bool:=match i6 l id with
 |some s=>(s,true)
 |none=>(qE,false)
theorem Fr {α:Type} (p:α→Bool) (l:List α):(fD p l= -1∧l.find? p=none)∨∃(i:Nat) (a:α),l[i]?=some a∧fD p l=(i:Int)∧l.find? p=some a:=by
 rcases dF p l with⟨h1,h2⟩|⟨i,a,h1,h2,h3,h4⟩
 ·exact .inl ⟨h1,List.find?_eq_none.2 fun x hx=>by simp[h2 x hx]⟩
 ·refine .inr ⟨i,a,h1,h3,?_⟩
  rw[List.find?_eq_some_iff_getElem]
  have hi:=(gsI h1)
  refine⟨h2,i,hi,(zM.1 h1).2,fun j hj=>?_⟩
  rw[h4 j l[j] hj (zF (by omega))]
  rfl
theorem QG (l:List TSecurity) (id:Int) (hl:l.length≤100000):PFun Tryz.prog none none 229 [bZ l,iv id] (·= .tup [.agg (dT l id).1.cells,bv (dT l id).2]):=by
 have il:=nc l
 refine ab Tryz.func229 rfl (by simp[Tryz.f229]) (by kernel_rfl) ?_
 intro E hP hr hs hW hN
 simp -dsimp -implicitDefEqProofs [go_sem,hP]
 refine ai (DO l 288 [.iref [iv id]] (fun x=>decide (x.ID=id)) (by omega) Us (by simp[cY,an]) fun x _=>Ml x id) hP Ug (aL il (jO (cs:=[.ref 0 0 0]) (by simp -dsimp[-getElem?_pos,go_sem,ij]) (by simp[cY,an]) (aZ.2 trivial))) .sc ?_
 rcases Fr (fun x:TSecurity=>decide (x.ID=id)) l with⟨h1,h2⟩|⟨i,a,h1,h2,h3⟩
 ·have e:dT l id=(qE,false):=by rw[dT,i6,h2]
  simp -dsimp -implicitDefEqProofs [go_sem,hP,h1]
  exact aw (aj (show Imm (.agg qE.cells)from fh _) .sc) (by rw[e];rfl)
 ·have e:dT l id=(a,true):=by rw[dT,i6,h3]
  have d:decide ((i:Int)<0)=false:=zA (by omega)
  have li:=(gsI h1)
  simp -dsimp -implicitDefEqProofs [-getElem?_pos,go_sem,hP,h2,d,h1,cc,li]
  exact aw (aj (by rw[←cc];exact fh _) .sc) (by rw[e];rfl)
theorem Hh (m:TMove):PFun Tryz.prog none none 230 [.agg m.cells] (·=bv (cD m)):=by
 refine ab Tryz.func230 rfl (by simp[Tryz.f230]) (by kernel_rfl) ?_
 intro E hP hr hs hW hN
 simp -dsimp -implicitDefEqProofs [go_sem,hP,eK]
 refine aq (fun _=>true) [] hP (by kernel_rfl) (by kernel_rfl) ?_
 simp -dsimp -implicitDefEqProofs [go_sem,hP]
 refine ai (zi m.From) hP O1 (ak (by simp -dsimp[go_sem])) .sc ?_
 simp -dsimp -implicitDefEqProofs [go_sem,hP]
 refine ai (zi m.To) hP O1 (ak (by simp -dsimp[go_sem])) .sc ?_
 by_cases k1:m.Kind=1
 ·by_cases f:m.From=0<;>cases h:cP m.To<;>simp -dsimp -implicitDefEqProofs [go_sem,hP,k1,f,h,cD]
 ·by_cases k2:m.Kind=2
  ·cases h1:cP m.From<;>cases h2:cP m.To<;>by_cases f:m.From=m.To<;>simp -dsimp -implicitDefEqProofs [go_sem,hP,k1,k2,f,h1,h2,cD]
  ·by_cases f:m.To=0<;>cases h:cP m.From<;>simp -dsimp -implicitDefEqProofs [go_sem,hP,k1,k2,f,h,cD]
open Go.PA
open Go.RowKit
def RE (secs:List TSecurity) (l:List THolding) (n d:Int) (m:TMove) (H:ah) (c hid:Nat) (r:AV) (H':ah):Prop:=
 r=iv (bC secs l d m)∧(bC secs l d m≠0→Kept [] H H')∧(bC secs l d m=0→∃hid',Clk H' c hid' (bZ secs) (goH l m) (n+1) m.Day∧(∀(x:Nat) (o:AObj),x≠hid→H[x]?=some (some o)→x≠hid')∧Kept [c,hid] H H')
theorem UT {H:ah} {c hid:Nat} {sx:AV} {l:List THolding} {n d:Int} (hk:Clk H c hid sx l n d) (l':List THolding) (n' d':Int):∃H',Clk H' c hid sx l' n' d'∧Kept [c,hid] H H':=by
 have lc:=(zM.1 hk.oc).1
 have lh:=(zM.1 hk.oh).1
 have ne:=hk.ne
 refine⟨(H.set c (some ⟨179,4,[[sx,.sref hid 0 l'.length,iv n',iv d']]⟩)).set hid (some ⟨177,3,ao THolding.cells l'⟩),⟨?_,?_,ne⟩,?_⟩
 ·rw[zH (fun e=>ne e.symm)]
  simp[lc]
 ·simp[lh]
 ·exact cL _ (by simp) (cL _ (by simp) (aD _ _))
theorem lV {H H':ah} {p:Nat} {o:AObj} (k:Kept [] H H') (h:H[p]?=some (some o)):Agree (fun i=>decide (i=p)) H H':=fun i hi=>by
 have:=of_decide_eq_true hi
 subst this
 rw[h,k _ _ (by simp) h]
theorem tG {H:ah} {p c:Nat} {o:Option AObj} (h:¬p=c):Agree (fun i=>decide (i=p)) H (H.set c o):=fun i hi=>by
 have:=of_decide_eq_true hi
 subst this
 rw[zH (fun e=>h e.symm)]
theorem qC {H:ah} {p c:Nat} {o o':Option AObj} (h:¬p=c):Agree (fun i=>decide (i=p)) (H.set c o) (H.set c o'):=fun i hi=>by
 have:=of_decide_eq_true hi
 subst this
 rw[zH (fun e=>h e.symm),zH (fun e=>h e.symm)]
theorem tD {H0 H H':ah} {c hid:Nat} {sx:AV} {l l':List THolding} {n d n' d':Int} (k:Kept [] H0 H) (hk:Clk H0 c hid sx l n d) (h:yo H c hid sx l' n' d' H'):yo H0 c hid sx l' n' d' H':=by
 obtain⟨hid',h1,h2,h3⟩:=h
 exact⟨hid',h1,fun x o hx he=>h2 x o hx (k x o (by simp) he),(k.mono (by simp)).trans h3⟩
theorem qk {H H' H'':ah} {c hid:Nat} {sx:AV} {l1 l2:List THolding} {n d:Int} (h:yo H c hid sx l1 n d H') (hid1:Nat) (hk:Clk H' c hid1 sx l1 n d) (hp:∀(x:Nat) (o:AObj),x≠hid→H[x]?=some (some o)→x≠hid1) (h2:yo H' c hid1 sx l2 n d H''):yo H c hid sx l2 n d H'':=by
 obtain⟨_,_,_,kp⟩:=h
 obtain⟨hid2,g1,g2,g3⟩:=h2
 refine⟨hid2,g1,fun x o hx he=>?_,fun x o hx he=>?_⟩
 ·by_cases hc:x=c
  ·rw[hc];exact g1.ne
  ·exact g2 x o (hp x o hx he) (kp x o (by simp[hc,hx]) he)
 ·have hx':¬x=c∧¬x=hid:=by simpa using hx
  exact g3 x o (by simp[hx'.1,hp x o hx'.2 he]) (kp x o hx he)
theorem tj {secs:List TSecurity} {l:List THolding} {n d:Int} {m:TMove} {H H5:ah} {c hid hid5:Nat} (cl:yo H c hid (bZ secs) (goH l m) n d H5) (hk:Clk H5 c hid5 (bZ secs) (goH l m) n d) (e0:bC secs l d m=0):
  RE secs l n d m H c hid (iv 0) (H5.set c (some ⟨179,4,[[bZ secs,.sref hid5 0 (goH l m).length,iv (n+1),iv m.Day]]⟩)):=by
 obtain⟨hid',h1,h2,h3⟩:=cl
 have lc:=(zM.1 h1.oc).1
 have e:hid'=hid5:=by
  have:=h1.oc.symm.trans hk.oc
  simpa using this
 subst e
 refine⟨by rw[e0],fun e=>absurd e0 e,fun _=>⟨hid',⟨by simp[lc],by rw[zH h1.ne];exact h1.oh,h1.ne⟩,h2,h3.trans (cL _ (by simp) (aD _ _))⟩⟩
set_option maxHeartbeats 4000000 in
theorem ZT {row src:Option Nat} (c hid:Nat) (secs:List TSecurity) (l:List THolding) (n d:Int) (m:TMove) (N:Nat) (H:ah) (hk:Clk H c hid (bZ secs) l n d) (hl:l.length≤5000) (hsl:secs.length≤1000) (hso:∀s,s∈secs→fP s=true) (ho:HoldOk l N) (hn:0≤n∧n≤1000000):
  MFun Tryz.prog row src 158 [.ref c 0 0,.agg m.cells] H (RE secs l n d m H c hid):=by
 obtain⟨C,hC⟩:∃C:AV→ah→Prop,C=RE secs l n d m H c hid:=⟨_,rfl⟩
 rw[←hC]
 have ex:∃r H',C r H':=by
  rw[hC]
  by_cases h0:bC secs l d m=0
  ·obtain⟨H',h1,h2⟩:=UT hk (goH l m) (n+1) m.Day
   exact⟨_,H',rfl,fun e=>absurd h0 e,fun _=>⟨hid,h1,fun x o hx _=>hx,h2⟩⟩
  ·exact⟨_,H,rfl,fun _=>aD _ _,fun e=>absurd e h0⟩
 refine aG Tryz.func158 rfl (by simp[Tryz.f158]) (by kernel_rfl) (ex) ?_
 intro E hP hr hs hN
 simp -dsimp -implicitDefEqProofs [go_sem,hP,eK]
 obtain⟨H1,hH1⟩:∃H1:ah,H1=H++[some ⟨235,7,[[iv m.Number,iv m.Day,iv m.Kind,iv m.Security,iv m.From,iv m.To,iv m.Amount]]⟩]:=⟨_,rfl⟩
 have k1:Kept [] H H1:=by rw[hH1];exact bN _ _ _
 have a1:H1[H.length]?=some (some ⟨235,7,[[iv m.Number,iv m.Day,iv m.Kind,iv m.Security,iv m.From,iv m.To,iv m.Amount]]⟩):=by rw[hH1];simp
 have c1:=(hk.kept k1).oc
 have lt1:=(gsI a1)
 have lc1:=(gsI c1)
 simp only[←hH1]
 obtain⟨p,hp⟩:∃p,p=H.length:=⟨_,rfl⟩
 rw[←hp]at a1 lt1
 simp only[←hp]
 have hk1:=hk.kept k1
 have npc:¬p=c:=fun e=>by
  have:=(zM.1 hk.oc).1
  omega
 have npc':¬c=p:=fun e=>npc e.symm
 have am:mO [iv d,iv (dT secs m.Security).1.Issued]=some (iv (max d (dT secs m.Security).1.Issued)):=by simp[mO,cX]
 have gf:=QG secs m.Security (by omega)
 refine v7 (fun i=>decide (i<H1.length)) [11] [6] hP (by kernel_rfl) (by kernel_rfl) ?_
 simp -dsimp -implicitDefEqProofs [-getElem?_pos,go_sem,hP,aS,c1,a1,lt1,lc1]
 cases hf:i6 secs m.Security with
 |none=>
  have e0:bC secs l d m=76:=by rw[bC,hf]
  have ef:dT secs m.Security=(qE,false):=by rw[dT,hf]
  rw[ef]at gf
  refine gl (gf.lift _ _) hP QF (by simp[nc,an]) (aj (show Imm (.agg qE.cells)from fh _) .sc) ?_
  simp -dsimp -implicitDefEqProofs [go_sem,hP,cc]
  refine⟨jv (zZ _),?_⟩
  by_cases k3:m.Kind=3
  all_goals
   simp -dsimp -implicitDefEqProofs [-getElem?_pos,go_sem,hP,a1,lt1,k3,List.getElem?_append]
   rw[hC]
   exact⟨by rw[e0],fun _=>k1.trans (bN _ _ _),fun e=>by rw[e0]at e;cases e⟩
 |some s=>
  have ef:dT secs m.Security=(s,true):=by rw[dT,hf]
  rw[ef]at gf am
  refine gl (gf.lift _ _) hP QF (by simp[nc,an]) (aj (fh _) .sc) ?_
  have so:=nh (hso s (vU hf))
  simp -dsimp -implicitDefEqProofs [go_sem,hP,cc]
  refine⟨jv (zZ _),?_⟩
  obtain⟨H2,hH2⟩:∃H2:ah,H2=H1++[some ⟨86,7,[[iv s.ID,iv s.Unit,iv s.Issued,iv s.Maturity,iv s.Rate,iv s.Every,bv s.Indexed]]⟩]:=⟨_,rfl⟩
  have k2:Kept [] H H2:=k1.trans (by rw[hH2];exact bN _ _ _)
  have k12:Kept [] H1 H2:=by rw[hH2];exact bN _ _ _
  obtain⟨q,hq⟩:∃q,q=H1.length:=⟨_,rfl⟩
  have b2:H2[q]?=some (some ⟨86,7,[[iv s.ID,iv s.Unit,iv s.Issued,iv s.Maturity,iv s.Rate,iv s.Every,bv s.Indexed]]⟩):=by rw[hH2,hq];simp
  rw[←hH2,←hq]
  have a2:=k12 _ _ (by simp) a1
  have hk2:=hk1.kept k12
  have c2:=hk2.oc
  have lp2:=(gsI a2)
  have lq2:=(gsI b2)
  have lc2:=(gsI c2)
  dsimp only at am
  have gs:=Hh m
  rw[eK]at gs
  have hm:=fun {row src:Option Nat}=>VG (row:=row) (src:=src) c _ _ _ _ l m.Security m.From H2 c2 hk2.sl (by omega) ho.srt
  have om:=fun {row src:Option Nat}=>Sg (row:=row) (src:=src) c _ _ _ _ l N m.Security H2 c2 hk2.sl (by omega) ho
  have nph:¬p=hid:=fun e=>by
   have:=(zM.1 hk.oh).1
   omega
  by_cases k3:m.Kind=3
  ·by_cases cday:max d s.Issued≤m.Day∧m.Day≤if m.Kind=3 then 36000 else s.Maturity
   rotate_left
   ·have e0:bC secs l d m=8:=by rw[bC,hf];dsimp only;rw[if_pos (by simpa using cday)]
    have hb:bet m.Day (max d s.Issued) (36000)=false:=El (by rw[if_pos k3]at cday;exact cday)
    simp -dsimp -implicitDefEqProofs [-getElem?_pos,go_sem,hP,a2,b2,c2,lp2,lq2,lc2,k3,am]
    refine aq (fun _=>true) [] hP (by kernel_rfl) (by kernel_rfl) ?_
    simp -dsimp -implicitDefEqProofs [-getElem?_pos,go_sem,hP,a2,b2,c2,lp2,lq2,lc2,k3,am]
    refine ai (fy m.Day (max d s.Issued) (36000)) hP kS (ak (by simp -dsimp[go_sem])) .sc ?_
    simp -dsimp -implicitDefEqProofs [go_sem,hP,hb]
    rw[hC]
    exact⟨by rw[e0],fun _=>k2,fun e=>by rw[e0]at e;cases e⟩
   have hb:bet m.Day (max d s.Issued) (36000)=true:=eZ (by rw[if_pos k3]at cday;exact cday)
   simp -dsimp -implicitDefEqProofs [-getElem?_pos,go_sem,hP,a2,b2,c2,lp2,lq2,lc2,k3,am]
   refine aq (fun _=>true) [] hP (by kernel_rfl) (by kernel_rfl) ?_
   simp -dsimp -implicitDefEqProofs [-getElem?_pos,go_sem,hP,a2,b2,c2,lp2,lq2,lc2,k3,am]
   refine ai (fy m.Day (max d s.Issued) (36000)) hP kS (ak (by simp -dsimp[go_sem])) .sc ?_
   by_cases a0:m.Amount≤0
   ·have e0:bC secs l d m=79:=by rw[bC,hf];dsimp only;rw[if_neg (by simpa using cday),if_pos (.inl a0)]
    have d0:decide (m.Amount≤0)=true:=zC a0
    simp -dsimp -implicitDefEqProofs [-getElem?_pos,go_sem,hP,hb,a2,b2,lp2,lq2,d0]
    rw[hC]
    exact⟨by rw[e0],fun _=>k2,fun e=>by rw[e0]at e;cases e⟩
   have d0:decide (m.Amount≤0)=false:=zA a0
   simp -dsimp -implicitDefEqProofs [-getElem?_pos,go_sem,hP,hb,a2,b2,lp2,lq2,d0]
   refine ai (jz m.Amount) hP jZ (ak (by simp -dsimp[go_sem])) .sc ?_
   by_cases a9:1000000000000<m.Amount
   ·have e0:bC secs l d m=79:=by rw[bC,hf];dsimp only;rw[if_neg (by simpa using cday),if_pos (.inr (.inl a9))]
    have hv:bet m.Amount 0 1000000000000=false:=El (by omega)
    simp -dsimp -implicitDefEqProofs [go_sem,hP,hv]
    rw[hC]
    exact⟨by rw[e0],fun _=>k2,fun e=>by rw[e0]at e;cases e⟩
   have hv:bet m.Amount 0 1000000000000=true:=eZ (by omega)
   have ht:m.Amount.tmod s.Unit=m.Amount%s.Unit:=wB (by omega)
   have u0:¬s.Unit=0:=by have:=so.unit;omega
   by_cases am0:m.Amount%s.Unit=0
   rotate_left
   ·have e0:bC secs l d m=79:=by rw[bC,hf];dsimp only;rw[if_neg (by simpa using cday),if_pos (.inr (.inr am0))]
    simp -dsimp -implicitDefEqProofs [-getElem?_pos,go_sem,hP,hv,a2,b2,lp2,lq2,ht,u0,am0]
    rw[hC]
    exact⟨by rw[e0],fun _=>k2,fun e=>by rw[e0]at e;cases e⟩
   simp -dsimp -implicitDefEqProofs [-getElem?_pos,go_sem,hP,hv,a2,b2,lp2,lq2,ht,u0,am0]
   refine ai gs hP Rz (ak (by simp -dsimp[go_sem])) .sc ?_
   cases cs:cD m with
   |true=>
    have e0:bC secs l d m=6:=by rw[bC,hf];dsimp only;rw[if_neg (by simpa using cday),if_neg (by omega),if_pos cs]
    simp -dsimp -implicitDefEqProofs [go_sem,hP]
    rw[hC]
    exact⟨by rw[e0],fun _=>k2,fun e=>by rw[e0]at e;cases e⟩
   |false=>
    simp -dsimp -implicitDefEqProofs [go_sem,hP]
    refine aq (fun i=>decide (i=p)) [] hP (by kernel_rfl) (by kernel_rfl) ?_
    by_cases f0:m.From=0
    ·simp -dsimp -implicitDefEqProofs [-getElem?_pos,go_sem,hP,aS,a2,lp2,f0]
     refine aq (fun i=>decide (i=p)) [] hP (by kernel_rfl) (by kernel_rfl) ?_
     simp -dsimp -implicitDefEqProofs [-getElem?_pos,go_sem,hP,aS,a2,lp2,f0]
     refine aI (by rw[hr,hs];exact om) hP Qa ?_
     rintro r H3 ⟨rfl,kp3⟩
     have a3:=kp3 _ _ (by simp) a2
     have hk3:=hk2.kept kp3
     have k3':Kept [] H H3:=k2.trans kp3
     have lp3:=(gsI a3)
     have ho3:=uz ho m.Security l.length
     rw[zT]at ho3
     have wo:=ae (eY l m.Security+m.Amount) (by omega)
     by_cases o9:1000000000000<eY l m.Security+m.Amount
     ·have e0:bC secs l d m=2:=by rw[bC,hf];dsimp only;rw[if_neg (by simpa using cday),if_neg (by omega),if_neg (by simp[cs]),if_neg (fun e=>e.1 f0),if_pos ⟨f0,o9⟩]
      have d9:decide (1000000000000<eY l m.Security+m.Amount)=true:=zC o9
      simp -dsimp -implicitDefEqProofs [go_sem,hP]
      refine⟨lV kp3 a2,?_⟩
      simp -dsimp -implicitDefEqProofs [-getElem?_pos,go_sem,hP,aS,a3,lp3,wo,d9]
      rw[hC]
      exact⟨by rw[e0],fun _=>k3',fun e=>by rw[e0]at e;cases e⟩
     have d9:decide (1000000000000<eY l m.Security+m.Amount)=false:=zA o9
     simp -dsimp -implicitDefEqProofs [go_sem,hP]
     refine⟨lV kp3 a2,?_⟩
     simp -dsimp -implicitDefEqProofs [-getElem?_pos,go_sem,hP,aS,a3,lp3,wo,d9]
     have mok:MoveOk secs l d m s:=⟨hf,cday,⟨by omega,by omega,am0⟩,cs,fun e=>by first|exact absurd f0 e|omega,fun e=>by first|exact absurd e f0|omega⟩
     have e0:=kV mok
     have ho1:=qu ho mok
     have wn:=ae (-m.Amount) (by omega)
     have ad1:=fun {row src:Option Nat}=>o7 (row:=row) (src:=src) c hid (bZ secs) n d l m.Security m.From (-m.Amount) H3 hk3 rfl (by omega) ho.srt (fun x hx=>ho.am hx) (by omega) (by omega)
     simp -dsimp -implicitDefEqProofs [-getElem?_pos,go_sem,hP,a3,lp3,wn]
     refine aI (by rw[hr,hs];exact ad1) hP pI ?_
     rintro _ H4 c24
     obtain⟨hid4,hk4,pr4,kp4⟩:=c24
     have a4:=kp4 _ _ (by simpa using⟨npc,nph⟩) a3
     have lp4:=(gsI a4)
     have ad2:=fun {row src:Option Nat}=>o7 (row:=row) (src:=src) c hid4 (bZ secs) n d (n6 l m.Security m.From (-m.Amount)) m.Security m.To m.Amount H4 hk4 rfl (by have:=ho1.2;omega) ho1.1.srt (fun x hx=>ho1.1.am hx) (by omega) (by omega)
     simp -dsimp -implicitDefEqProofs [-getElem?_pos,go_sem,hP,a4,lp4]
     refine aI (by rw[hr,hs];exact ad2) hP pI ?_
     rintro _ H5 c25
     have cl5:yo H c hid (bZ secs) (goH l m) n d H5:=qk (tD k3' hk ⟨hid4,hk4,pr4,kp4⟩) hid4 hk4 (fun x o hx he=>pr4 x o hx (k3' x o (by simp) he)) c25
     obtain⟨hid5,hk5,pr5,kp5⟩:=c25
     have a5:=kp5 _ _ (by simpa using⟨npc,pr4 p _ nph a3⟩) a4
     have lp5:=(gsI a5)
     have c5:=hk5.oc
     have lc5:=(gsI c5)
     have wn1:=ae (n+1) (by omega)
     simp -dsimp -implicitDefEqProofs [go_sem,hP]
     refine aq (fun i=>decide (i=p)) [3,4,5,9,10,12,13] hP (by kernel_rfl) (by kernel_rfl) ?_
     simp -dsimp -implicitDefEqProofs [-getElem?_pos,go_sem,hP,aS,a5,lp5,c5,lc5,npc,npc',wn1]
     refine⟨tG npc,qC npc,?_⟩
     rw[hC]
     exact tj cl5 hk5 e0
    ·simp -dsimp -implicitDefEqProofs [-getElem?_pos,go_sem,hP,aS,a2,lp2,f0]
     refine aI (by rw[hr,hs];exact hm) hP Rl ?_
     rintro r H3 ⟨rfl,kp3⟩
     have a3:=kp3 _ _ (by simp) a2
     have hk3:=hk2.kept kp3
     have k3':Kept [] H H3:=k2.trans kp3
     have lp3:=(gsI a3)
     by_cases o9:dY l m.Security m.From<m.Amount
     ·have e0:bC secs l d m=77:=by rw[bC,hf];dsimp only;rw[if_neg (by simpa using cday),if_neg (by omega),if_neg (by simp[cs]),if_pos ⟨f0,o9⟩]
      have d9:decide (dY l m.Security m.From<m.Amount)=true:=zC o9
      simp -dsimp -implicitDefEqProofs [go_sem,hP]
      refine⟨lV kp3 a2,?_⟩
      simp -dsimp -implicitDefEqProofs [-getElem?_pos,go_sem,hP,aS,a3,lp3,d9]
      rw[hC]
      exact⟨by rw[e0],fun _=>k3',fun e=>by rw[e0]at e;cases e⟩
     have d9:decide (dY l m.Security m.From<m.Amount)=false:=zA o9
     simp -dsimp -implicitDefEqProofs [go_sem,hP]
     refine⟨lV kp3 a2,?_⟩
     simp -dsimp -implicitDefEqProofs [-getElem?_pos,go_sem,hP,aS,a3,lp3,d9]
     refine aq (fun i=>decide (i=p)) [] hP (by kernel_rfl) (by kernel_rfl) ?_
     simp -dsimp -implicitDefEqProofs [-getElem?_pos,go_sem,hP,aS,a3,lp3,f0]
     have mok:MoveOk secs l d m s:=⟨hf,cday,⟨by omega,by omega,am0⟩,cs,fun e=>by first|exact absurd f0 e|omega,fun e=>by first|exact absurd e f0|omega⟩
     have e0:=kV mok
     have ho1:=qu ho mok
     have wn:=ae (-m.Amount) (by omega)
     have ad1:=fun {row src:Option Nat}=>o7 (row:=row) (src:=src) c hid (bZ secs) n d l m.Security m.From (-m.Amount) H3 hk3 rfl (by omega) ho.srt (fun x hx=>ho.am hx) (by omega) (by omega)
     simp -dsimp -implicitDefEqProofs [-getElem?_pos,go_sem,hP,a3,lp3,wn]
     refine aI (by rw[hr,hs];exact ad1) hP pI ?_
     rintro _ H4 c24
     obtain⟨hid4,hk4,pr4,kp4⟩:=c24
     have a4:=kp4 _ _ (by simpa using⟨npc,nph⟩) a3
     have lp4:=(gsI a4)
     have ad2:=fun {row src:Option Nat}=>o7 (row:=row) (src:=src) c hid4 (bZ secs) n d (n6 l m.Security m.From (-m.Amount)) m.Security m.To m.Amount H4 hk4 rfl (by have:=ho1.2;omega) ho1.1.srt (fun x hx=>ho1.1.am hx) (by omega) (by omega)
     simp -dsimp -implicitDefEqProofs [-getElem?_pos,go_sem,hP,a4,lp4]
     refine aI (by rw[hr,hs];exact ad2) hP pI ?_
     rintro _ H5 c25
     have cl5:yo H c hid (bZ secs) (goH l m) n d H5:=qk (tD k3' hk ⟨hid4,hk4,pr4,kp4⟩) hid4 hk4 (fun x o hx he=>pr4 x o hx (k3' x o (by simp) he)) c25
     obtain⟨hid5,hk5,pr5,kp5⟩:=c25
     have a5:=kp5 _ _ (by simpa using⟨npc,pr4 p _ nph a3⟩) a4
     have lp5:=(gsI a5)
     have c5:=hk5.oc
     have lc5:=(gsI c5)
     have wn1:=ae (n+1) (by omega)
     simp -dsimp -implicitDefEqProofs [go_sem,hP]
     refine aq (fun i=>decide (i=p)) [3,4,5,9,10,12,13] hP (by kernel_rfl) (by kernel_rfl) ?_
     simp -dsimp -implicitDefEqProofs [-getElem?_pos,go_sem,hP,aS,a5,lp5,c5,lc5,npc,npc',wn1]
     refine⟨tG npc,qC npc,?_⟩
     rw[hC]
     exact tj cl5 hk5 e0
  ·by_cases cday:max d s.Issued≤m.Day∧m.Day≤if m.Kind=3 then 36000 else s.Maturity
   rotate_left
   ·have e0:bC secs l d m=8:=by rw[bC,hf];dsimp only;rw[if_pos (by simpa using cday)]
    have hb:bet m.Day (max d s.Issued) (s.Maturity)=false:=El (by rw[if_neg k3]at cday;exact cday)
    simp -dsimp -implicitDefEqProofs [-getElem?_pos,go_sem,hP,a2,b2,c2,lp2,lq2,lc2,k3,am]
    refine aq (fun _=>true) [] hP (by kernel_rfl) (by kernel_rfl) ?_
    simp -dsimp -implicitDefEqProofs [-getElem?_pos,go_sem,hP,a2,b2,c2,lp2,lq2,lc2,k3,am]
    refine ai (fy m.Day (max d s.Issued) (s.Maturity)) hP kS (ak (by simp -dsimp[go_sem])) .sc ?_
    simp -dsimp -implicitDefEqProofs [go_sem,hP,hb]
    rw[hC]
    exact⟨by rw[e0],fun _=>k2,fun e=>by rw[e0]at e;cases e⟩
   have hb:bet m.Day (max d s.Issued) (s.Maturity)=true:=eZ (by rw[if_neg k3]at cday;exact cday)
   simp -dsimp -implicitDefEqProofs [-getElem?_pos,go_sem,hP,a2,b2,c2,lp2,lq2,lc2,k3,am]
   refine aq (fun _=>true) [] hP (by kernel_rfl) (by kernel_rfl) ?_
   simp -dsimp -implicitDefEqProofs [-getElem?_pos,go_sem,hP,a2,b2,c2,lp2,lq2,lc2,k3,am]
   refine ai (fy m.Day (max d s.Issued) (s.Maturity)) hP kS (ak (by simp -dsimp[go_sem])) .sc ?_
   by_cases a0:m.Amount≤0
   ·have e0:bC secs l d m=79:=by rw[bC,hf];dsimp only;rw[if_neg (by simpa using cday),if_pos (.inl a0)]
    have d0:decide (m.Amount≤0)=true:=zC a0
    simp -dsimp -implicitDefEqProofs [-getElem?_pos,go_sem,hP,hb,a2,b2,lp2,lq2,d0]
    rw[hC]
    exact⟨by rw[e0],fun _=>k2,fun e=>by rw[e0]at e;cases e⟩
   have d0:decide (m.Amount≤0)=false:=zA a0
   simp -dsimp -implicitDefEqProofs [-getElem?_pos,go_sem,hP,hb,a2,b2,lp2,lq2,d0]
   refine ai (jz m.Amount) hP jZ (ak (by simp -dsimp[go_sem])) .sc ?_
   by_cases a9:1000000000000<m.Amount
   ·have e0:bC secs l d m=79:=by rw[bC,hf];dsimp only;rw[if_neg (by simpa using cday),if_pos (.inr (.inl a9))]
    have hv:bet m.Amount 0 1000000000000=false:=El (by omega)
    simp -dsimp -implicitDefEqProofs [go_sem,hP,hv]
    rw[hC]
    exact⟨by rw[e0],fun _=>k2,fun e=>by rw[e0]at e;cases e⟩
   have hv:bet m.Amount 0 1000000000000=true:=eZ (by omega)
   have ht:m.Amount.tmod s.Unit=m.Amount%s.Unit:=wB (by omega)
   have u0:¬s.Unit=0:=by have:=so.unit;omega
   by_cases am0:m.Amount%s.Unit=0
   rotate_left
   ·have e0:bC secs l d m=79:=by rw[bC,hf];dsimp only;rw[if_neg (by simpa using cday),if_pos (.inr (.inr am0))]
    simp -dsimp -implicitDefEqProofs [-getElem?_pos,go_sem,hP,hv,a2,b2,lp2,lq2,ht,u0,am0]
    rw[hC]
    exact⟨by rw[e0],fun _=>k2,fun e=>by rw[e0]at e;cases e⟩
   simp -dsimp -implicitDefEqProofs [-getElem?_pos,go_sem,hP,hv,a2,b2,lp2,lq2,ht,u0,am0]
   refine ai gs hP Rz (ak (by simp -dsimp[go_sem])) .sc ?_
   cases cs:cD m with
   |true=>
    have e0:bC secs l d m=6:=by rw[bC,hf];dsimp only;rw[if_neg (by simpa using cday),if_neg (by omega),if_pos cs]
    simp -dsimp -implicitDefEqProofs [go_sem,hP]
    rw[hC]
    exact⟨by rw[e0],fun _=>k2,fun e=>by rw[e0]at e;cases e⟩
   |false=>
    simp -dsimp -implicitDefEqProofs [go_sem,hP]
    refine aq (fun i=>decide (i=p)) [] hP (by kernel_rfl) (by kernel_rfl) ?_
    by_cases f0:m.From=0
    ·simp -dsimp -implicitDefEqProofs [-getElem?_pos,go_sem,hP,aS,a2,lp2,f0]
     refine aq (fun i=>decide (i=p)) [] hP (by kernel_rfl) (by kernel_rfl) ?_
     simp -dsimp -implicitDefEqProofs [-getElem?_pos,go_sem,hP,aS,a2,lp2,f0]
     refine aI (by rw[hr,hs];exact om) hP Qa ?_
     rintro r H3 ⟨rfl,kp3⟩
     have a3:=kp3 _ _ (by simp) a2
     have hk3:=hk2.kept kp3
     have k3':Kept [] H H3:=k2.trans kp3
     have lp3:=(gsI a3)
     have ho3:=uz ho m.Security l.length
     rw[zT]at ho3
     have wo:=ae (eY l m.Security+m.Amount) (by omega)
     by_cases o9:1000000000000<eY l m.Security+m.Amount
     ·have e0:bC secs l d m=2:=by rw[bC,hf];dsimp only;rw[if_neg (by simpa using cday),if_neg (by omega),if_neg (by simp[cs]),if_neg (fun e=>e.1 f0),if_pos ⟨f0,o9⟩]
      have d9:decide (1000000000000<eY l m.Security+m.Amount)=true:=zC o9
      simp -dsimp -implicitDefEqProofs [go_sem,hP]
      refine⟨lV kp3 a2,?_⟩
      simp -dsimp -implicitDefEqProofs [-getElem?_pos,go_sem,hP,aS,a3,lp3,wo,d9]
      rw[hC]
      exact⟨by rw[e0],fun _=>k3',fun e=>by rw[e0]at e;cases e⟩
     have d9:decide (1000000000000<eY l m.Security+m.Amount)=false:=zA o9
     simp -dsimp -implicitDefEqProofs [go_sem,hP]
     refine⟨lV kp3 a2,?_⟩
     simp -dsimp -implicitDefEqProofs [-getElem?_pos,go_sem,hP,aS,a3,lp3,wo,d9]
     have mok:MoveOk secs l d m s:=⟨hf,cday,⟨by omega,by omega,am0⟩,cs,fun e=>by first|exact absurd f0 e|omega,fun e=>by first|exact absurd e f0|omega⟩
     have e0:=kV mok
     have ho1:=qu ho mok
     have wn:=ae (-m.Amount) (by omega)
     have ad1:=fun {row src:Option Nat}=>o7 (row:=row) (src:=src) c hid (bZ secs) n d l m.Security m.From (-m.Amount) H3 hk3 rfl (by omega) ho.srt (fun x hx=>ho.am hx) (by omega) (by omega)
     simp -dsimp -implicitDefEqProofs [-getElem?_pos,go_sem,hP,a3,lp3,wn]
     refine aI (by rw[hr,hs];exact ad1) hP pI ?_
     rintro _ H4 c24
     obtain⟨hid4,hk4,pr4,kp4⟩:=c24
     have a4:=kp4 _ _ (by simpa using⟨npc,nph⟩) a3
     have lp4:=(gsI a4)
     have ad2:=fun {row src:Option Nat}=>o7 (row:=row) (src:=src) c hid4 (bZ secs) n d (n6 l m.Security m.From (-m.Amount)) m.Security m.To m.Amount H4 hk4 rfl (by have:=ho1.2;omega) ho1.1.srt (fun x hx=>ho1.1.am hx) (by omega) (by omega)
     simp -dsimp -implicitDefEqProofs [-getElem?_pos,go_sem,hP,a4,lp4]
     refine aI (by rw[hr,hs];exact ad2) hP pI ?_
     rintro _ H5 c25
     have cl5:yo H c hid (bZ secs) (goH l m) n d H5:=qk (tD k3' hk ⟨hid4,hk4,pr4,kp4⟩) hid4 hk4 (fun x o hx he=>pr4 x o hx (k3' x o (by simp) he)) c25
     obtain⟨hid5,hk5,pr5,kp5⟩:=c25
     have a5:=kp5 _ _ (by simpa using⟨npc,pr4 p _ nph a3⟩) a4
     have lp5:=(gsI a5)
     have c5:=hk5.oc
     have lc5:=(gsI c5)
     have wn1:=ae (n+1) (by omega)
     simp -dsimp -implicitDefEqProofs [go_sem,hP]
     refine aq (fun i=>decide (i=p)) [3,4,5,9,10,12,13] hP (by kernel_rfl) (by kernel_rfl) ?_
     simp -dsimp -implicitDefEqProofs [-getElem?_pos,go_sem,hP,aS,a5,lp5,c5,lc5,npc,npc',wn1]
     refine⟨tG npc,qC npc,?_⟩
     rw[hC]
     exact tj cl5 hk5 e0
    ·simp -dsimp -implicitDefEqProofs [-getElem?_pos,go_sem,hP,aS,a2,lp2,f0]
     refine aI (by rw[hr,hs];exact hm) hP Rl ?_
     rintro r H3 ⟨rfl,kp3⟩
     have a3:=kp3 _ _ (by simp) a2
     have hk3:=hk2.kept kp3
     have k3':Kept [] H H3:=k2.trans kp3
     have lp3:=(gsI a3)
     by_cases o9:dY l m.Security m.From<m.Amount
     ·have e0:bC secs l d m=77:=by rw[bC,hf];dsimp only;rw[if_neg (by simpa using cday),if_neg (by omega),if_neg (by simp[cs]),if_pos ⟨f0,o9⟩]
      have d9:decide (dY l m.Security m.From<m.Amount)=true:=zC o9
      simp -dsimp -implicitDefEqProofs [go_sem,hP]
      refine⟨lV kp3 a2,?_⟩
      simp -dsimp -implicitDefEqProofs [-getElem?_pos,go_sem,hP,aS,a3,lp3,d9]
      rw[hC]
      exact⟨by rw[e0],fun _=>k3',fun e=>by rw[e0]at e;cases e⟩
     have d9:decide (dY l m.Security m.From<m.Amount)=false:=zA o9
     simp -dsimp -implicitDefEqProofs [go_sem,hP]
     refine⟨lV kp3 a2,?_⟩
     simp -dsimp -implicitDefEqProofs [-getElem?_pos,go_sem,hP,aS,a3,lp3,d9]
     refine aq (fun i=>decide (i=p)) [] hP (by kernel_rfl) (by kernel_rfl) ?_
     simp -dsimp -implicitDefEqProofs [-getElem?_pos,go_sem,hP,aS,a3,lp3,f0]
     have mok:MoveOk secs l d m s:=⟨hf,cday,⟨by omega,by omega,am0⟩,cs,fun e=>by first|exact absurd f0 e|omega,fun e=>by first|exact absurd e f0|omega⟩
     have e0:=kV mok
     have ho1:=qu ho mok
     have wn:=ae (-m.Amount) (by omega)
     have ad1:=fun {row src:Option Nat}=>o7 (row:=row) (src:=src) c hid (bZ secs) n d l m.Security m.From (-m.Amount) H3 hk3 rfl (by omega) ho.srt (fun x hx=>ho.am hx) (by omega) (by omega)
     simp -dsimp -implicitDefEqProofs [-getElem?_pos,go_sem,hP,a3,lp3,wn]
     refine aI (by rw[hr,hs];exact ad1) hP pI ?_
     rintro _ H4 c24
     obtain⟨hid4,hk4,pr4,kp4⟩:=c24
     have a4:=kp4 _ _ (by simpa using⟨npc,nph⟩) a3
     have lp4:=(gsI a4)
     have ad2:=fun {row src:Option Nat}=>o7 (row:=row) (src:=src) c hid4 (bZ secs) n d (n6 l m.Security m.From (-m.Amount)) m.Security m.To m.Amount H4 hk4 rfl (by have:=ho1.2;omega) ho1.1.srt (fun x hx=>ho1.1.am hx) (by omega) (by omega)
     simp -dsimp -implicitDefEqProofs [-getElem?_pos,go_sem,hP,a4,lp4]
     refine aI (by rw[hr,hs];exact ad2) hP pI ?_
     rintro _ H5 c25
     have cl5:yo H c hid (bZ secs) (goH l m) n d H5:=qk (tD k3' hk ⟨hid4,hk4,pr4,kp4⟩) hid4 hk4 (fun x o hx he=>pr4 x o hx (k3' x o (by simp) he)) c25
     obtain⟨hid5,hk5,pr5,kp5⟩:=c25
     have a5:=kp5 _ _ (by simpa using⟨npc,pr4 p _ nph a3⟩) a4
     have lp5:=(gsI a5)
     have c5:=hk5.oc
     have lc5:=(gsI c5)
     have wn1:=ae (n+1) (by omega)
     simp -dsimp -implicitDefEqProofs [go_sem,hP]
     refine aq (fun i=>decide (i=p)) [3,4,5,9,10,12,13] hP (by kernel_rfl) (by kernel_rfl) ?_
     simp -dsimp -implicitDefEqProofs [-getElem?_pos,go_sem,hP,aS,a5,lp5,c5,lc5,npc,npc',wn1]
     refine⟨tG npc,qC npc,?_⟩
     rw[hC]
     exact tj cl5 hk5 e0
end Go.Proofs.YtfbogibogkbhmaaGreatDoor
namespace Go.PA
open Go.RowKit
section
variable {E:Env}
theorem BA {s:St} {o ty k:Nat} {cs:List AV} (j:Nat) (ty' k':Nat) (h:s.H[o]?=some (some ⟨ty,k,[cs]⟩)) (hk:k≠2) (hi:∀es,cs[2]?≠some (.imap es)) (hj:cs[j]?=some .nil):
  Weaker E s ⟨s.t,(s.H++[some (AObj.mk ty' k' [])]).set o (some ⟨ty,k,[cs.set j (.sref s.H.length 0 0)]⟩)⟩:=by
 rintro a w ⟨ρ,ok,g,hx,hd,hs,hr⟩
 obtain⟨g1,x1⟩:=g.add ⟨ty',k',[]⟩ none rfl (by simp) (by simp)
 have lt:=(gsI h)
 have h1:(s.H++[some ⟨ty',k',[]⟩])[o]?=some (some ⟨ty,k,[cs]⟩):=by rw[zD lt];exact h
 have hobj:=g1.obj o _ h1
 have hlen:=g1.len o _ h1 cs (by simp)
 obtain⟨ρ1,hρ1⟩:∃ρ1,ρ1=fK ρ s.H.length none:=⟨_,rfl⟩
 rw[←hρ1]at g1 x1 hobj
 have hnew:ρ1 s.H.length=none:=by rw[hρ1];simp[fK]
 cases hρ:ρ1 o with
 |none=>rw[hρ]at hobj;cases hobj
 |some bc=>
  obtain⟨b,cap⟩:=bc
  rw[hρ]at hobj
  obtain⟨g',x'⟩:=g1.change (w':=w) h1 hρ ⟨ty,k,[cs.set j (.sref s.H.length 0 0)]⟩ rfl (zZ _) (by simpa using hlen) rfl rfl rfl rfl (fun _ _=>rfl) fun hx'=>by
   rcases hobj with⟨cur,h1',h2,h3,h4,h5⟩|⟨_,hk',_⟩|⟨_,hk',he⟩
   ·refine .inl ⟨cur,h1',h2,h3,h4,fun i e q a he ha=>?_⟩
    match i,he with
    |0,he=>
     simp only[wQ,zB]at he
     subst he
     by_cases hq:j=q
     ·subst hq
      obtain⟨c,c1,c2,c3⟩:=h5 0 cs j .nil rfl hj
      have hjl:=(gsI hj)
      rw[wO,if_pos rfl,if_pos hjl]at ha
      cases ha
      refine⟨c,c1,c2,?_⟩
      cases c3
      refine .srefNil (o:=⟨ty',k',[]⟩) ?_ hnew
      rw[zH (by omega)]
      exact cO
     ·rw[zH hq]at ha
      obtain⟨c,c1,c2,c3⟩:=h5 0 cs q a rfl ha
      exact⟨c,c1,c2,c3.ext hx'⟩
   ·exact absurd hk' hk
   ·exfalso
    rcases he with⟨he,_⟩|⟨m,clk,seen,ents,c1,c2,_,_,_,_,he,_⟩
    ·simp only[vZ,and_true]at he
     exact hi [] (by rw[he];rfl)
    ·simp only[vZ,and_true]at he
     exact hi _ (by rw[he];rfl)
  exact⟨ρ1,ok,g',(hx.trans x1).trans x',hd,hs,fun i=>((hr i).ext x1).ext x'⟩
theorem B4 {c:Code} {s:St} {Q:Exit→St→Prop} {b:Bx (c,Q)} {o ty k:Nat} {cs:List AV} (j:Nat) (ty' k':Nat) (h:s.H[o]?=some (some ⟨ty,k,[cs]⟩)) (hk:k≠2) (hi:∀es,cs[2]?≠some (.imap es)) (hj:cs[j]?=some .nil)
  (hl:qK E c ⟨s.t,(s.H++[some (AObj.mk ty' k' [])]).set o (some ⟨ty,k,[cs.set j (.sref s.H.length 0 0)]⟩)⟩ Q .mk):qK E c s Q b:=
 AWp.weaken (BA j ty' k' h hk hi hj) hl
end
end Go.PA
namespace Go.Proofs.YtfbogibogkbhmaaGreatDoor
open Go.PA
open Go.RowKit
theorem Dm:∀(l:List TSecurity) (p:Int),qY p l=true→(∀s,s∈l→fP s=true)∧∀(i:Nat) (s t:TSecurity),l[i]?=some s→l[i+1]?=some t→s.ID<t.ID
 |[],_,_=>⟨fun _ h=>(by cases h),fun i s t h=>by simp at h⟩
 |x::l,p,h=>by
  unfold qY at h
  rw[zG,zG]at h
  obtain⟨⟨h1,h2⟩,h3⟩:=h
  obtain⟨g1,g2⟩:=Dm l _ h3
  refine⟨fun s hs=>?_,fun i s t hs ht=>?_⟩
  ·rcases zO.1 hs with rfl|hs
   ·exact h1
   ·exact g1 s hs
  ·cases i with
   |zero=>
    simp only[wQ,zB]at hs
    subst hs
    cases l with
    |nil=>simp at ht
    |cons y l=>
     simp only[uI,wQ,zB]at ht
     subst ht
     unfold qY at h3
     rw[zG,zG,zI]at h3
     exact h3.1.2
   |succ i=>exact g2 i s t (by simpa using hs) (by simpa using ht)
theorem ST (m:TMove):PFun Tryz.prog none none 94 [.agg m.cells] (·=bv true):=by
 refine ab Tryz.func94 rfl (by simp[Tryz.f94]) (by kernel_rfl) ?_
 intro E hP hr hs hW hN
 simp -dsimp -implicitDefEqProofs [go_sem,hP,eK]
def Wu (H:ah) (sx:AV) (t:RepSt) (r:AV) (H':ah):Prop:=∃c hid,r= .tup [.ref c 0 0,bv true]∧Clk H' c hid sx t.l t.n t.d∧H.length≤c∧(∀(z:Nat) (o:AObj),H[z]?=some (some o)→z≠hid)∧Kept [] H H'
set_option maxHeartbeats 4000000 in
theorem M7 {row src:Option Nat} (r:TRegister) (g:FuncId) (caps:List AV) (t:RepSt) (H:ah) (hrun:Runs r.Securities mi r.Moves t) (hml:r.Moves.length≤400) (hsl:r.Securities.length≤1000) (hso:∀s,s∈r.Securities→fP s=true) (hen:aa Tryz.prog g=true)
  (hg:∀m,m∈r.Moves→∀H',Kept [] H H'→MFun Tryz.prog row src g (.agg m.cells::caps) H' (fun r H''=>r=bv true∧Kept [] H' H'')):
  MFun Tryz.prog row src 93 [.agg r.cells,.fn g caps] H (Wu H (bZ r.Securities) t):=by
 obtain⟨C,hC⟩:∃C:AV→ah→Prop,C=Wu H (bZ r.Securities) t:=⟨_,rfl⟩
 rw[←hC]
 have ex:∃x H',C x H':=by
  rw[hC]
  refine⟨_,H++[some ⟨179,4,[[bZ r.Securities,.sref (H.length+1) 0 t.l.length,iv t.n,iv t.d]]⟩,some ⟨177,3,ao THolding.cells t.l⟩],H.length,H.length+1,rfl,⟨by simp,?_,by omega⟩,zZ _,fun z o hz=>by have:=(gsI hz);omega,bN _ _ _⟩
  rw[zN (by omega)]
  simp
 refine aG Tryz.func93 rfl (by simp[Tryz.f93]) (by kernel_rfl) (ex) ?_
 intro E hP hr hs hN
 simp -dsimp -implicitDefEqProofs [go_sem,hP,bP]
 refine B4 (o:=H.length+1) (ty:=179) (k:=4) (cs:=[bZ r.Securities,.nil,iv 0,iv 0]) 1 177 3 (by simp) (by decide) (by simp) rfl ?_
 obtain⟨I,hI⟩:∃I:Nat→St→Prop,I=fun m s=>∃(k c hid:Nat) (v:RepSt),k≤r.Moves.length∧m=r.Moves.length-k∧Runs r.Securities mi (r.Moves.take k) v∧s.t 1= .fn g caps∧s.t 6= .ref c 0 0∧s.t 14=fQ r.Moves∧s.t 15=iv r.Moves.length∧s.t 16=iv k∧Clk s.H c hid (bZ r.Securities) v.l v.n v.d∧H.length≤c∧(∀(z:Nat) (o:AObj),H[z]?=some (some o)→z≠hid)∧Kept [] H s.H:=⟨_,rfl⟩
 refine az I (r.Moves.length) (by rw[hN];rfl) ?_ ?_
 ·rw[hI]
  refine⟨0,H.length+1,H.length+2,mi,by omega,by omega,by simpa using Runs.nil,rfl,rfl,rfl,rfl,rfl,⟨?_,?_,by omega⟩,by omega,fun z o hz=>by have:=(gsI hz);omega,?_⟩
  ·simp[mi]
  ·simp[mi,ao]
  ·simp
   exact bN _ _ _
 intro m s hs'
 rw[hI]at hs'
 obtain⟨k,c,hid,v,hk,hm,hv,t1,t6,t14,t15,t16,hc,hcl,hhl,kp⟩:=hs'
 simp -dsimp -implicitDefEqProofs [go_sem,hP,t15,t16]
 refine aB ?_ ?_<;>intro hq
 ·have hk:k<r.Moves.length:=by simpa using hq
  obtain⟨a,ha⟩:=gkE hk
  have wk:=ae ((k:Int)+1) (by omega)
  obtain⟨v',hv',hst⟩:=hrun.take k
  have e:v'=v:=by rw[hv'.det,hv.det]
  subst e
  obtain⟨⟨s1,s2,s3⟩,hv2⟩:=hst a ha
  have hnn:=hv.n
  have hho:=hv.ok
  have htl:(r.Moves.take k).length=k:=by simp;omega
  rw[htl]at hnn hho
  have h00:mi.n=0:=rfl
  have wn:=ae ((v'.n:Int)+1) (by omega)
  have kb:=eZ s2
  simp -dsimp -implicitDefEqProofs [go_sem,hP,t14,t16,ha,eK]
  obtain⟨b,hb⟩:∃b,b=s.H.length:=⟨_,rfl⟩
  obtain⟨H1,hH1⟩:∃H1:ah,H1=s.H++[some ⟨235,7,[[iv a.Number,iv a.Day,iv a.Kind,iv a.Security,iv a.From,iv a.To,iv a.Amount]]⟩]:=⟨_,rfl⟩
  have k1:Kept [] s.H H1:=by rw[hH1];exact bN _ _ _
  have a1:H1[b]?=some (some ⟨235,7,[[iv a.Number,iv a.Day,iv a.Kind,iv a.Security,iv a.From,iv a.To,iv a.Amount]]⟩):=by rw[hH1,hb];simp
  have c1:=hc.kept k1
  have lb1:=(gsI a1)
  rw[←hH1,←hb]
  have gm:=hg a (zE ha) H1 (kp.trans k1)
  rw[eK]at gm
  simp -dsimp -implicitDefEqProofs [-getElem?_pos,go_sem,hP,t1,a1,lb1]
  refine aI (by rw[hr,hs];exact gm) hP hen ?_
  rintro x H2 ⟨rfl,k2⟩
  have a2:=k2 _ _ (by simp) a1
  have c2:=c1.kept k2
  have lb2:=(gsI a2)
  have oc2:=c2.oc
  have lc2:=(gsI oc2)
  simp -dsimp -implicitDefEqProofs [go_sem,hP]
  refine aq (fun _=>true) [17] hP (by kernel_rfl) (by kernel_rfl) ?_
  simp -dsimp -implicitDefEqProofs [-getElem?_pos,go_sem,hP,t6,a2,lb2,oc2,lc2,s1,wn]
  refine ai (fy a.Kind 1 3) hP kS (ak (by simp -dsimp[go_sem])) .sc ?_
  have dm:=fun {row src:Option Nat}=>ZT (row:=row) (src:=src) c hid r.Securities v'.l v'.n v'.d a (2*k) H2 c2 (by have:=hho.len;omega) hsl hso hho (by omega)
  rw[eK]at dm
  simp -dsimp -implicitDefEqProofs [-getElem?_pos,go_sem,hP,kb,t6,a2,lb2,oc2,lc2]
  refine aI (by rw[hr,hs];exact dm) hP UF ?_
  rintro x H3 ⟨rfl,_,hd⟩
  obtain⟨hid',c3,p3,k3⟩:=hd s3
  simp -dsimp -implicitDefEqProofs [go_sem,hP,s3,t16,wk]
  refine⟨r.Moves.length-(k+1),by omega,?_⟩
  rw[hI]
  refine⟨k+1,c,hid',tf v' a,by omega,rfl,hv2,t1,t6,t14,t15,rfl,?_,hcl,?_,?_⟩
  ·simpa[tf]using c3
  ·exact fun z o hz=>p3 z o (hhl z o hz) (((kp.trans k1).trans k2) z o (by simp) hz)
  ·intro z o _ hz
   have h2:=((kp.trans k1).trans k2) z o (by simp) hz
   have:=(gsI hz)
   have n1:¬z=c:=by omega
   exact k3 z o (by simp[n1,hhl z o hz]) h2
 ·have hk:k=r.Moves.length:=by simp at hq;omega
  subst hk
  rw[zT]at hv
  have e:v=t:=by rw[hv.det,hrun.det]
  subst e
  simp -dsimp -implicitDefEqProofs [go_sem,hP,t6]
  rw[hC]
  exact⟨c,hid,rfl,hc,hcl,hhl,kp⟩
theorem B8 (a b:List THolding) (ha:a.length≤100000) (hb:b.length≤100000):
  PFun Tryz.prog none none 95 [.list 3 (ao THolding.cells a),.list 3 (ao THolding.cells b)] (·=bv (decide (a=b))):=by
 refine ab Tryz.func95 rfl (by simp[Tryz.f95]) (by kernel_rfl) ?_
 intro E hP hr hs hW hN
 by_cases hlen:a.length=b.length
 rotate_left
 ·have hne:¬a=b:=fun h=>hlen (by rw[h])
  have hl:decide ((a.length:Int)=(b.length:Int))=false:=by simp;omega
  simp -dsimp -implicitDefEqProofs [-getElem?_pos,go_sem,hP,hl,hne]
 have hl:decide ((a.length:Int)=(b.length:Int))=true:=by simp;omega
 simp -dsimp -implicitDefEqProofs [-getElem?_pos,go_sem,hP,hl]
 obtain⟨I,hI⟩:∃I:Nat→St→Prop,I=fun m s=>∃k:Nat,k≤a.length∧m=a.length-k∧s.t 0= .list 3 (ao THolding.cells a)∧s.t 1= .list 3 (ao THolding.cells b)∧s.t 12=iv a.length∧s.t 13=iv k∧a.take k=b.take k:=⟨_,rfl⟩
 refine az I (a.length) (by rw[hN];rfl) ?_ ?_
 ·rw[hI]
  exact⟨0,by omega,by omega,rfl,rfl,rfl,rfl,by simp⟩
 intro m s hs'
 rw[hI]at hs'
 obtain⟨k,hk,hm,t0,t1,t12,t13,heq⟩:=hs'
 simp -dsimp -implicitDefEqProofs [go_sem,hP,t12,t13]
 refine aB ?_ ?_<;>intro h
 ·have hk:k<a.length:=by simpa using h
  obtain⟨x,hx⟩:=gkE hk
  obtain⟨y,hy⟩:∃y,b[k]?=some y:=⟨_,zF (by omega)⟩
  have wk:=ae ((k:Int)+1) (by omega)
  have tx:a.take (k+1)=a.take k++[x]:=by rw[wJ,hx];rfl
  have ty:b.take (k+1)=b.take k++[y]:=by rw[wJ,hy];rfl
  simp -dsimp -implicitDefEqProofs [go_sem,hP,t13]
  refine aq (fun _=>true) [] hP (by kernel_rfl) (by kernel_rfl) ?_
  by_cases hxy:x=y
  ·subst hxy
   simp -dsimp -implicitDefEqProofs [go_sem,hP,t0,t1,hx,hy,THolding.cells,t13,wk]
   refine⟨a.length-(k+1),by omega,?_⟩
   rw[hI]
   exact⟨k+1,by omega,rfl,t0,t1,t12,rfl,by rw[tx,ty,heq]⟩
  ·have hne:¬a=b:=fun h=>by
    subst h
    rw[hx]at hy
    exact hxy (wT hy)
   simp -dsimp -implicitDefEqProofs [go_sem,hP,t0,t1,hx,hy,THolding.cells,t13,wk]
   refine aB ?_ ?_<;>intro h
   ·simp -dsimp -implicitDefEqProofs [go_sem,hP,hne]
   ·exact absurd (by cases x;cases y;simp at h;simp[h]) hxy
 ·have hk:k=a.length:=by simp at h;omega
  subst hk
  rw[zT]at heq
  rw[hlen,zT]at heq
  simp -dsimp -implicitDefEqProofs [go_sem,hP,heq]
structure RegIn (r:TRegister):Prop where
 ml:r.Moves.length≤400
 sl:r.Securities.length≤20
 so:∀s,s∈r.Securities→fP s=true
 asc:∀(i:Nat) (s t:TSecurity),r.Securities[i]?=some s→r.Securities[i+1]?=some t→s.ID<t.ID
theorem RegOk.regIn {r:TRegister} {d:Int} (h:RegOk r d):RegIn r:=by
 obtain⟨h1,h2⟩:=Dm _ _ h.secs
 exact⟨h.mlen,h.slen,h1,h2⟩
theorem RegOk.hl {r:TRegister} {d:Int} (h:RegOk r d):HoldOk r.Holdings (2*r.Moves.length):=h.run.ok
set_option maxHeartbeats 4000000 in
theorem LH (r:TRegister) (d:Int) (h:RegOk r d):PFun Tryz.prog none none 28 [.agg r.cells] (·=iv 0):=by
 have hin:=h.regIn
 have h1:=hin.ml
 have h2:=hin.sl
 have h4:=h.hl
 refine ab Tryz.func28 rfl (by simp[Tryz.f28]) (by kernel_rfl) ?_
 intro E hP hr hs hW hN
 have d1:decide (20<(r.Securities.length:Int))=false:=zA (by omega)
 have d2:decide (400<(r.Moves.length:Int))=false:=zA (by omega)
 have ir:=dI r
 simp -dsimp -implicitDefEqProofs [-getElem?_pos,go_sem,hP,bP,ar,d1,d2]
 obtain⟨I,hI⟩:∃I:Nat→St→Prop,I=fun m s=>∃k:Nat,k≤r.Securities.length∧m=r.Securities.length-k∧s.t 1= .ref 0 0 0∧s.t 18=bZ r.Securities∧s.t 19=iv r.Securities.length∧s.t 20=iv k∧s.H[0]?=some (some ⟨42,3,[[bZ r.Securities,bn r.Holdings,fQ r.Moves]]⟩):=⟨_,rfl⟩
 refine az I (r.Securities.length) (by rw[hN];rfl) ?_ ?_
 ·rw[hI]
  exact⟨0,by omega,by omega,rfl,rfl,by simp -dsimp[-getElem?_pos,go_sem,ar],rfl,rfl⟩
 intro m s hs'
 rw[hI]at hs'
 obtain⟨k,hk,hm,t1,t18,t19,t20,g0⟩:=hs'
 have l0:=(gsI g0)
 simp -dsimp -implicitDefEqProofs [-getElem?_pos,go_sem,hP,t19,t20]
 refine aB ?_ ?_<;>intro hq
 ·have hk:k<r.Securities.length:=by simpa using hq
  obtain⟨a,ha⟩:=gkE hk
  have wk:=ae ((k:Int)+1) (by omega)
  have sp:=yV a (hin.so a (zE ha))
  rw[cc]at sp
  have g0':∀x:ah,(s.H++x)[0]?=some (some ⟨42,3,[[bZ r.Securities,bn r.Holdings,fQ r.Moves]]⟩):=fun x=>by rw[zD l0];exact g0
  simp -dsimp -implicitDefEqProofs [-getElem?_pos,go_sem,hP,t18,t20,ha,cc]
  refine aq (fun _=>true) [] hP (by kernel_rfl) (by kernel_rfl) ?_
  simp -dsimp -implicitDefEqProofs [-getElem?_pos,go_sem,hP]
  refine ai sp hP Ks (ak (by simp -dsimp[-getElem?_pos,go_sem])) .sc ?_
  by_cases k0:k=0
  ·subst k0
   have w1:=ae 1 (by omega)
   simp -dsimp -implicitDefEqProofs [-getElem?_pos,go_sem,hP,t1,g0',t20,wk,w1]
   refine⟨r.Securities.length-1,by omega,?_⟩
   rw[hI]
   exact⟨1,by omega,rfl,t1,t18,t19,by simp -dsimp[-getElem?_pos,go_sem,w1],by simp -dsimp[-getElem?_pos,go_sem,g0']⟩
  ·obtain⟨j,rfl⟩:∃j,k=j+1:=⟨k-1,by omega⟩
   obtain⟨z,hz⟩:∃z,r.Securities[j]?=some z:=⟨_,zF (by omega)⟩
   have lt:=hin.asc j z a hz ha
   have dj:decide ((0:Int)<((j+1:Nat):Int))=true:=zC (by omega)
   have wj:=ae (((j+1:Nat):Int)-1) (by omega)
   have ej:((j+1:Nat):Int)-1=(j:Int):=by omega
   have dl:decide (a.ID≤z.ID)=false:=zA (by omega)
   have lj:j<r.Securities.length:=by omega
   rw[ej]at wj
   have wk2:=ae ((j:Int)+1+1) (by omega)
   simp -dsimp -implicitDefEqProofs [-getElem?_pos,go_sem,hP,t1,g0',t20,wk,wk2,dj,wj,ej,hz,cc,dl,lj]
   refine⟨r.Securities.length-(j+1+1),by omega,?_⟩
   rw[hI]
   exact⟨j+1+1,by omega,rfl,t1,t18,t19,by simp -dsimp[-getElem?_pos,go_sem,wk2],by simp -dsimp[-getElem?_pos,go_sem,g0']⟩
 ·have hk:k=r.Securities.length:=by simp at hq;omega
  subst hk
  have rm:=fun {row src:Option Nat}=>M7 (row:=row) (src:=src) r 94 [] ⟨r.Holdings,r.Moves.length,d⟩ s.H h.run hin.ml (by omega) hin.so W8 fun m hm H' hk=>(DX ((ST m).lift _ _) (ak (by simp[qc])) ⟨_,rfl⟩ (by rintro _ rfl;simp[yO])).mono (by rintro x H'' ⟨rfl,rfl⟩;exact⟨rfl,aD _ _⟩)
  rw[bP]at rm
  simp -dsimp -implicitDefEqProofs [-getElem?_pos,go_sem,hP,t1,g0]
  refine aI (by rw[hr,hs];exact rm) hP V1 ?_
  rintro x H1 ⟨c,hid,rfl,hc,_,_,kp⟩
  have a1:=kp _ _ (by simp) g0
  have l1:=(gsI a1)
  have oc:=hc.oc
  have lc:=(gsI oc)
  have ihl:=bg r.Holdings
  have lq:=B8 r.Holdings r.Holdings (by have:=h4.len;omega) (by have:=h4.len;omega)
  rw[zC rfl]at lq
  simp -dsimp -implicitDefEqProofs [-getElem?_pos,go_sem,hP]
  refine aq (fun _=>true) [] hP (by kernel_rfl) (by kernel_rfl) ?_
  simp -dsimp -implicitDefEqProofs [-getElem?_pos,go_sem,hP,t1,a1,l1,oc,lc]
  refine cn (lq.lift _ _) hP VY (ez hc.oh (by rw[ar]) ihl (aL ihl (aZ.2 trivial))) ⟨_,rfl⟩ (by rintro x rfl;simp[yO]) ?_
  rintro x rfl
  simp -dsimp -implicitDefEqProofs [-getElem?_pos,go_sem,hP]
open Go.PA
open Go.RowKit
open Go.PA
open Go.RowKit
theorem Aj {H:ah}:CW H [.nil,.nil,.nil] (⟨[],[],[]⟩:TRegister).cells:=eS (eS (eS .nil))
open Go.PA
open Go.RowKit
def iY (s:TSecurity):List Int:=if s.Every=0 then []else (List.range ((s.Maturity-s.Issued) / (30*s.Every)).toNat).map fun i:Nat=>s.Issued+30*s.Every*((i:Int)+1)
def ox (s:TSecurity) (n:Int):Int:=(n*s.Rate*s.Every+600000) / 1200000
def yy (s:TSecurity) (day:Int) (h:THolding):List TDue:=
 (if day∈iY s∧ox s h.Amount≠0 then [⟨day,h.Security,h.Holder,1,ox s h.Amount⟩]else [])++(if day=s.Maturity then [⟨day,h.Security,h.Holder,2,h.Amount⟩]else [])
open Go.PA
open Go.RowKit
theorem M4 (l:List Int) (v:Int) (hl:l.length≤1000000):PFun Tryz.prog none none 293 [aA l,iv v] (·=iv (fD (fun x=>decide (v=x)) l)):=by
 refine ab Tryz.func293 rfl (by simp[Tryz.f293]) (by kernel_rfl) ?_
 intro E hP hr hs hW hN
 simp[go_sem,hP,aA]
 obtain⟨I,hI⟩:∃I:Nat→St→Prop,I=fun m s=>∃k:Nat,k≤l.length∧m=l.length-k∧fD (fun x=>decide (v=x)) l=bE (fun x=>decide (v=x)) k (l.drop k)∧s.t 0=aA l∧s.t 1=iv v∧s.t 7=iv l.length∧s.t 8=iv k:=⟨_,rfl⟩
 refine az I (l.length) (by rw[hN];rfl) ?_ ?_
 ·rw[hI]
  exact⟨0,by omega,by omega,by simp[fD],by simp -dsimp[-getElem?_pos,go_sem,aA],rfl,rfl,rfl⟩
 intro m s hs'
 rw[hI]at hs'
 obtain⟨k,hk,hm,hi,t0,t1,t7,t8⟩:=hs'
 simp[go_sem,hP,t7,t8]
 refine aB ?_ ?_<;>intro h
 ·have hk:k<l.length:=by simpa using h
  obtain⟨a,ha⟩:=gkE hk
  have wk:=ae ((k:Int)+1) (by omega)
  have hd:l.drop k=a::l.drop (k+1):=by
   rw[zF hk]at ha
   rw[wE hk,wT ha]
  rw[hd]at hi
  simp only[bE]at hi
  simp[go_sem,hP,t8,t1,t0,ha,aA]
  by_cases hp:v=a
  ·rw[if_pos (by simpa using hp)]at hi
   simp[go_sem,hP,hp]
   rw[hp]at hi
   exact hi.symm
  ·rw[if_neg (by simpa using hp)]at hi
   simp[go_sem,hP,t8,wk,hp]
   refine⟨l.length-(k+1),by omega,?_⟩
   rw[hI]
   exact⟨k+1,by omega,rfl,hi,t0,t1,t7,rfl⟩
 ·have hk:k=l.length:=by simp at h;omega
  subst hk
  rw[wG]at hi
  simp[go_sem,hP]
  exact hi.symm
theorem eV (l:List Int):Imm (aA l):=by simp[go_sem,aA]
theorem Nz (l:List Int) (v:Int) (hl:l.length≤1000000):PFun Tryz.prog none none 235 [aA l,iv v] (·=bv (decide (v∈l))):=by
 refine ab Tryz.func235 rfl (by simp[Tryz.f235]) (by kernel_rfl) ?_
 intro E hP hr hs hW hN
 simp[go_sem,hP]
 refine aJ ((M4 l v hl).lift _ _) hP Qu (by simp[eV,an]) .sc ?_
 rcases dF (fun x=>decide (v=x)) l with⟨h1,h2⟩|⟨i,a,h1,h2,h3,_⟩
 ·have:decide (v∈l)=false:=zA fun hv=>by simpa using h2 v hv
  simp[go_sem,hP,h1,this]
 ·have d:decide ((0:Int)≤(i:Int))=true:=zC (by omega)
  have hva:v=a:=by simpa using h2
  have:decide (v∈l)=true:=zC (hva▸zE h1)
  simp[go_sem,hP,h3,d,this]
open Go.PA
open Go.RowKit
abbrev GI (l:List TDue):AV:= .list 5 (ao TDue.cells l)
theorem R5 (x:TDue):x.cells=[iv x.Day,iv x.Security,iv x.Holder,iv x.Kind,iv x.Amount]:=rfl
theorem yZ (l:List TDue):Imm (GI l):=aY _ TDue.imm _
theorem Gp (n:Int) (h:0≤n∧n≤1000000000000000000):PFun Tryz.prog none none 237 [iv n,iv 1200000] (·=iv ((n+600000) / 1200000)):=by
 refine ab Tryz.func237 rfl (by simp[Tryz.f237]) (by kernel_rfl) ?_
 intro E hP hr hs hW hN
 have w1:=ae (n+600000) (by omega)
 have w2:IntKind.i64.wrap ((1200000:Int).tdiv 2)=600000:=by decide
 have t:(n+600000).tdiv 1200000=(n+600000) / 1200000:=Int.tdiv_eq_ediv_of_nonneg (by omega)
 have w3:=ae ((n+600000) / 1200000) (by omega)
 have w4:=ae 600000 (by omega)
 simp[go_sem,hP,w1,w2,w4,t,w3]
theorem JF (s:TSecurity) (n:Int) (hs0:fP s=true) (hn:0≤n∧n≤1000000000000):PFun Tryz.prog none none 236 [.agg s.cells,iv n] (·=iv 0):=by
 have sp:=yV s hs0
 have hv:=eZ hn
 rw[cc]at sp
 refine ab Tryz.func236 rfl (by simp[Tryz.f236]) (by kernel_rfl) ?_
 intro E hP hr hs hW hN
 simp[go_sem,hP,cc]
 refine ai sp hP Ks (ak (by simp[go_sem])) .sc ?_
 simp[go_sem,hP]
 refine ai (jz n) hP jZ (ak (by simp[go_sem])) .sc ?_
 simp[go_sem,hP,hv]
theorem L4 (s:TSecurity) (n:Int) (hs0:fP s=true) (hn:0≤n∧n≤1000000000):PFun Tryz.prog none none 161 [.agg s.cells,iv n] (·= .tup [iv (ox s n),iv 0]):=by
 have so:=nh hs0
 have ck:=JF s n hs0 (by omega)
 have is:=fh s
 have b1:0≤n*s.Rate∧n*s.Rate≤1000000000*20000:=⟨Int.mul_nonneg hn.1 so.rate.1,Int.mul_le_mul hn.2 so.rate.2 so.rate.1 (by omega)⟩
 have e1:0≤s.Every∧s.Every≤12:=by rcases so.every with⟨e,_⟩|⟨e|e|e|e,_⟩<;>omega
 have b2:0≤n*s.Rate*s.Every∧n*s.Rate*s.Every≤1000000000*20000*12:=⟨Int.mul_nonneg b1.1 e1.1,Int.mul_le_mul b1.2 e1.2 e1.1 (by omega)⟩
 have w1:=ae (n*s.Rate) (by omega)
 have w2:=ae (n*s.Rate*s.Every) (by omega)
 have nr:=Gp (n*s.Rate*s.Every) (by omega)
 rw[cc]at ck is
 refine ab Tryz.func161 rfl (by simp[Tryz.f161]) (by kernel_rfl) ?_
 intro E hP hr hs hW hN
 simp[go_sem,hP,cc]
 refine af ck hP UJ (by simpa[an]using is) .sc ?_
 simp[go_sem,hP,w1,w2]
 refine ai nr hP Ua (ak (by simp[go_sem])) .sc ?_
 simp[go_sem,hP]
 exact aw (aj .sc .sc) rfl
theorem Nk (s:TSecurity) (n:Int) (hs0:fP s=true) (hn:0≤n∧n≤1000000000):PFun Tryz.prog none none 160 [iv n,.iref s.cells] (·= .tup [iv (ox s n),iv 0]):=by
 have cp:=L4 s n hs0 hn
 have is:=fh s
 rw[cc]at cp is
 refine ab Tryz.func160 rfl (by simp[Tryz.f160]) (by kernel_rfl) ?_
 intro E hP hr hs hW hN
 simp[go_sem,hP,cc]
 refine af cp hP Uv (by simpa[an]using is) (aj .sc .sc) ?_
 simp[go_sem,hP]
 exact aw (aj .sc .sc) rfl
theorem Nd (n:Int):PFun Tryz.prog none none 162 [iv n] (·= .tup [iv n,iv 0]):=by
 refine ab Tryz.func162 rfl (by simp[Tryz.f162]) (by kernel_rfl) ?_
 intro E hP hr hs hW hN
 simp[go_sem,hP]
 exact aw (aj .sc .sc) rfl
theorem rT {s:TSecurity} (so:SecOk s) (he:s.Every≠0):∃(q:Int) (n:Nat),30*s.Every=q∧(30≤q∧q≤360)∧s.Maturity=s.Issued+q*n∧n≤600∧iY s=(List.range n).map fun i:Nat=>s.Issued+q*((i:Int)+1):=by
 have h1:=so.every
 have h2:=so.mat
 have hE:(s.Every=1∨s.Every=3∨s.Every=6∨s.Every=12)∧(s.Maturity-s.Issued)%(30*s.Every)=0:=by
  rcases h1 with⟨e,_⟩|h1
  ·exact absurd e he
  ·exact h1
 have hq:30≤30*s.Every∧30*s.Every≤360:=by omega
 have hd:=Int.mul_ediv_cancel_of_emod_eq_zero hE.2
 obtain⟨k,hk⟩:∃k,k=(s.Maturity-s.Issued) / (30*s.Every):=⟨_,rfl⟩
 rw[←hk]at hd
 have hkn:0≤k:=by rw[hk];exact Int.ediv_nonneg (by omega) (by omega)
 have hku:k≤600:=by
  rw[hk]
  rcases hE.1 with e|e|e|e<;>rw[e]<;>omega
 refine⟨30*s.Every,k.toNat,rfl,hq,?_,by omega,?_⟩
 ·rw[Int.toNat_of_nonneg hkn]
  omega
 ·unfold iY
  rw[if_neg he,←hk]
set_option maxHeartbeats 2000000 in
theorem O8 (B:TSecurity) (hs0:fP B=true) (he:B.Every≠0):PFun Tryz.prog none none 96 [.agg B.cells] (·=aA (iY B)):=by
 have so:=nh hs0
 obtain⟨q,n,hq,hqb,hm,hn,hd⟩:=rT so he
 have sp:=yV B hs0
 rw[cc]at sp
 have h1:=so.iss
 have h2:=so.mat
 have hb:∀k:Nat,k≤n→0≤q*(k:Int)∧q*(k:Int)≤360*600:=fun k hk=>⟨Int.mul_nonneg (by omega) (by omega),Int.mul_le_mul hqb.2 (by omega) (by omega) (by omega)⟩
 have wq:IntKind.i64.wrap (30*B.Every)=q:=by rw[hq];exact ae q (by omega)
 obtain⟨L,hL⟩:∃L,L=iY B:=⟨_,rfl⟩
 rw[←hL]
 have hLn:L.length=n:=by rw[hL,hd];simp
 have hLk:∀k:Nat,k<n→L.take (k+1)=L.take k++[B.Issued+q*((k:Int)+1)]:=fun k hk=>by
  rw[hL,hd,←List.map_take,←List.map_take,List.take_range,List.take_range,Nat.min_eq_left (by omega),Nat.min_eq_left (by omega),List.range_succ]
  simp
 refine ab Tryz.func96 rfl (by simp[Tryz.f96]) (by kernel_rfl) ?_
 intro E hP hr hs hW hN
 simp -dsimp[go_sem,hP,cc]
 refine ai sp hP Ks (ak (by simp -dsimp[go_sem])) .sc ?_
 have w0:=ae (B.Issued+q) (by omega)
 simp -dsimp[go_sem,hP,he,wq,w0]
 refine cV 3 3 1 rfl ?_
 obtain⟨I,hI⟩:∃I:Nat→St→Prop,I=fun m s=>∃(k id:Nat),k≤n∧m=n-k∧s.t 1= .ref 0 0 0∧s.t 3= .sref id 0 k∧s.t 4=iv (B.Issued+q*((k:Int)+1))∧s.H[0]?=some (some ⟨86,7,[[iv B.ID,iv B.Unit,iv B.Issued,iv B.Maturity,iv B.Rate,iv B.Every,bv B.Indexed]]⟩)∧id≠0∧s.H[id]?=some (some ⟨3,1,(L.take k).map fun x=>[iv x]⟩):=⟨_,rfl⟩
 refine az I (n) (by rw[hN];rfl) ?_ ?_
 ·rw[hI]
  exact⟨0,1,by omega,by omega,rfl,rfl,by simp -dsimp[-getElem?_pos,go_sem],rfl,by omega,rfl⟩
 intro m s hs'
 rw[hI]at hs'
 obtain⟨k,id,hk,hm',t1,t3,t4,g0,hid,gi⟩:=hs'
 have l0:=(gsI g0)
 have li:=(gsI gi)
 have hlk:(L.take k).length=k:=by rw[zY];omega
 have hb1:=hb k hk
 have ek:q*((k:Int)+1)=q*(k:Int)+q:=by rw[Int.mul_add,Int.mul_one]
 by_cases hkn:k<n
 ·have hb2:=hb (k+1) (by omega)
  have ek2:q*((k:Int)+1+1)=q*((k:Int)+1)+q:=by rw[Int.mul_add,Int.mul_one]
  have le:=Int.mul_le_mul_of_nonneg_left (show ((k:Int)+1)≤(n:Int) by omega) (show 0≤q by omega)
  have dk:decide (B.Issued+q*((k:Int)+1)≤B.Maturity)=true:=zC (by omega)
  have w2:IntKind.i64.wrap (B.Issued+q*((k:Int)+1)+q)=B.Issued+q*((k:Int)+1+1):=by rw[ek2,ae _ (by omega)];omega
  simp -dsimp[go_sem,hP,t4,t1,g0,dk]
  have hmin:min k L.length=k:=by omega
  have hm2:min k n=k:=by omega
  have n0:¬(0:Nat)=id:=fun e=>hid e.symm
  have s0:(s.H.set id none)[0]?=some (some ⟨86,7,[[iv B.ID,iv B.Unit,iv B.Issued,iv B.Maturity,iv B.Rate,iv B.Every,bv B.Indexed]]⟩):=by rw[zH hid];exact g0
  simp -dsimp[-getElem?_pos,go_sem,hP,t3,t4,gi,li,hlk,t1,g0,wq,w2,hmin,hm2,hLn,s0,l0]
  refine⟨by omega,by omega,n-(k+1),by omega,?_⟩
  rw[hI]
  refine⟨k+1,s.H.length,by omega,rfl,t1,rfl,rfl,?_,by omega,?_⟩
  ·simp -dsimp[-getElem?_pos,go_sem,s0,l0]
  ·simp -dsimp[go_sem,hLk k hkn]
 ·have hkn:k=n:=by omega
  subst hkn
  have dk:decide (B.Issued+q*((k:Int)+1)≤B.Maturity)=false:=zA (by omega)
  simp -dsimp[go_sem,hP,t4,t1,g0,dk,t3]
  have hLL:L.take k=L:=zQ (by omega)
  rw[hLL]at gi
  refine done (x:=aA L) ?_ rfl ?_<;>rw[fo,gi,dQ]
  ·rw[vW,zQ (by simp[hLn])]
   exact eV L
  ·rw[vW,zQ (by simp[hLn])]
   rfl
theorem NE {s:TSecurity} (hs0:fP s=true):(iY s).length≤600:=by
 by_cases he:s.Every=0
 ·rw[iY,if_pos he];simp
 ·obtain⟨q,n,_,_,_,hn,hd⟩:=rT (nh hs0) he
  rw[hd];simp;omega
theorem Dp (B:TSecurity) (hs0:fP B=true):PFun Tryz.prog none none 96 [.agg B.cells] (·=aA (iY B)):=by
 by_cases he:B.Every=0
 rotate_left
 ·exact O8 B hs0 he
 have e:iY B=[]:=by rw[iY,if_pos he]
 have sp:=yV B hs0
 rw[cc]at sp
 rw[e]
 refine ab Tryz.func96 rfl (by simp[Tryz.f96]) (by kernel_rfl) ?_
 intro E hP hr hs hW hN
 simp[go_sem,hP,cc]
 refine ai sp hP Ks (ak (by simp[go_sem])) .sc ?_
 simp[go_sem,hP,he]
 exact eU .nil (eV []) (.nil 1) rfl
open Go.PA
open Go.RowKit
def VW (H:ah) (p:Nat) (l:List TDue):Prop:=∃x,H[p]?=some (some ⟨180,1,[[x]]⟩)∧((x= .nil∧l=[])∨∃id,x= .sref id 0 l.length∧3<id∧H[id]?=some (some ⟨183,5,ao TDue.cells l⟩))
structure OfH (H:ah) (s:TSecurity) (h:THolding) (day:Int) (l:List TDue):Prop where
 b0:H[0]?=some (some ⟨86,7,[s.cells]⟩)
 b1:H[1]?=some (some ⟨177,3,[h.cells]⟩)
 b2:H[2]?=some (some ⟨3,1,[[iv day]]⟩)
 out:VW H 3 l
def j8 (day:Int) (h:THolding) (kind v:Int):List TDue:=if v=0 then []else [⟨day,h.Security,h.Holder,kind,v⟩]
set_option maxHeartbeats 2000000 in
theorem TB {row src:Option Nat} (s:TSecurity) (h:THolding) (day:Int) (l:List TDue) (kind v:Int) (g:FuncId) (caps:List AV) (H:ah) (o:OfH H s h day l) (hl:l.length≤100) (hen:aa Tryz.prog g=true) (hc:∀a,a∈caps→Imm a) (hg:PFun Tryz.prog none none g (iv h.Amount::caps) (·= .tup [iv v,iv 0])):
  MFun Tryz.prog row src 234 [iv kind,.fn g caps,.ref 1 0 0,.ref 3 0 0,.ref 2 0 0] H (fun r H'=>r=iv 0∧OfH H' s h day (l++j8 day h kind v)):=by
 obtain⟨C,hC⟩:∃C:AV→ah→Prop,C=fun r H'=>r=iv 0∧OfH H' s h day (l++j8 day h kind v):=⟨_,rfl⟩
 rw[←hC]
 have ex:∃r H',C r H':=by
  rw[hC]
  obtain⟨b0,b1,b2,x,b3,hx⟩:=o
  have l3:=(gsI b3)
  have ho:=fun (z:Nat) (hz:z<3) (w:Option AObj) (v:Option AObj)=>(zD (l₂:=[v]) (show z<(H.set 3 w).length by simp;omega)).trans (zH (show (3:Nat)≠z by omega) (a:=w) (l:=H))
  refine⟨_,H.set 3 (some ⟨180,1,[[.sref H.length 0 (l++j8 day h kind v).length]]⟩)++[some ⟨183,5,ao TDue.cells (l++j8 day h kind v)⟩],rfl,⟨?_,?_,?_,.sref H.length 0 _,?_,.inr ⟨H.length,rfl,by omega,?_⟩⟩⟩
  ·rw[ho 0 (by omega)];exact b0
  ·rw[ho 1 (by omega)];exact b1
  ·rw[ho 2 (by omega)];exact b2
  ·rw[zD (by simpa using l3)];simp[l3]
  ·rw[zN (by simp)];simp
 obtain⟨b0,b1,b2,x,b3,hx⟩:=o
 have l1:=(gsI b1)
 have l2:=(gsI b2)
 have l3:=(gsI b3)
 rw[eX]at b1
 have ho:=fun (z:Nat) (hz:z<3) (H:ah) (l3:3<H.length) (w:Option AObj) (v:Option AObj)=>(zD (l₂:=[v]) (show z<(H.set 3 w).length by simp;omega)).trans (zH (show (3:Nat)≠z by omega) (a:=w) (l:=H))
 refine aG Tryz.func234 rfl (by simp[Tryz.f234]) (by kernel_rfl) (ex) ?_
 intro E hP hr hs hN
 simp -dsimp -implicitDefEqProofs [-getElem?_pos,go_sem,hP,b1,l1]
 refine af hg hP hen (by simpa[an]using hc) (aj .sc .sc) ?_
 by_cases hv:v=0
 ·have e:l++j8 day h kind v=l:=by rw[j8,if_pos hv,wY]
  simp -dsimp -implicitDefEqProofs [go_sem,hP,hv]
  rw[hC,e]
  exact⟨rfl,b0,b1,b2,x,b3,hx⟩
 ·rcases hx with⟨rfl,rfl⟩|⟨id,rfl,hid,hh⟩
  ·simp -dsimp -implicitDefEqProofs [-getElem?_pos,go_sem,hP,hv,b3,l3,b1,l1,b2,l2]
   rw[hC]
   refine⟨rfl,?_,?_,?_,.sref H.length 0 1,?_,.inr ⟨H.length,by simp[j8,hv],by omega,?_⟩⟩
   ·rw[ho 0 (by omega) H l3];exact b0
   ·rw[ho 1 (by omega) H l3,eX];exact b1
   ·rw[ho 2 (by omega) H l3];exact b2
   ·rw[zD (by simpa using l3)];simp[l3]
   ·rw[zN (by simp)];simp[j8,hv,ao,R5]
  ·have lid:=(gsI hh)
   simp -dsimp -implicitDefEqProofs [-getElem?_pos,go_sem,hP,hv,b3,l3,b1,l1,b2,l2,hh,lid,ar]
   refine⟨by omega,by omega,?_⟩
   have s3:(H.set id none)[3]?=some (some ⟨180,1,[[.sref id 0 l.length]]⟩):=by rw[zH (by omega)];exact b3
   have sz:∀z,z<3→(H.set id none)[z]?=H[z]?:=fun z hz=>zH (by omega)
   have ls:3<(H.set id none).length:=by simpa using l3
   simp -dsimp -implicitDefEqProofs [-getElem?_pos,go_sem,hP,s3,l3]
   rw[hC]
   have e:l++j8 day h kind v=l++[⟨day,h.Security,h.Holder,kind,v⟩]:=by rw[j8,if_neg hv]
   rw[e]
   refine⟨rfl,?_,?_,?_,.sref H.length 0 (l.length+1),?_,.inr ⟨H.length,by simp,by omega,?_⟩⟩
   ·rw[ho 0 (by omega) _ ls,sz 0 (by omega)];exact b0
   ·rw[ho 1 (by omega) _ ls,sz 1 (by omega),eX];exact b1
   ·rw[ho 2 (by omega) _ ls,sz 2 (by omega)];exact b2
   ·rw[zD (by simpa using l3)];simp[l3]
   ·rw[zN (by simp)];simp[ao,R5]
theorem FQ {H:ah} {id n ty k:Nat} {es:List (List AV)} {v:Value} {Q:AV→Prop} {b:Bx Q} (h:H[id]?=some (some ⟨ty,k,es⟩)) (hn:n=es.length) (hi:Imm (.list k es)) (hq:Q (.tup [.list k es,.sc v])):jh H (.tup [.sref id 0 n,.sc v]) Q b:=by
 have hv:iC H (.sref id 0 n)= .list k es:=by
  rw[rY,h,dQ]
  simp only[vW]
  rw[zQ (by omega)]
 exact eU (aj (by rw[hv];exact hi) .sc) (aj hi .sc) (p6 (by rw[hv];exact .refl _) (.refl _)) hq
theorem H8 {H:ah} {k:Nat} {v:Value} {Q:AV→Prop} {b:Bx Q} (hq:Q (.tup [.list k [],.sc v])):jh H (.tup [.nil,.sc v]) Q b:=
 eU (aj .nil .sc) (aj (dv.2 (by simp)) .sc) (p6 (.nil k) (.refl _)) hq
theorem Qy (s:TSecurity) (h:THolding) (day:Int) (ha:h.Amount≠0):yy s day h=(if day∈iY s then j8 day h 1 (ox s h.Amount)else [])++if day=s.Maturity then j8 day h 2 h.Amount else []:=by
 unfold yy j8
 congr 1
 ·by_cases h1:day∈iY s
  ·by_cases h2:ox s h.Amount=0
   ·simp[h1,h2]
   ·simp[h1,h2]
  ·simp[h1]
 ·rw[if_neg ha]
theorem Qf (day:Int) (h:THolding) (k v:Int):(j8 day h k v).length≤1:=by
 unfold j8
 split<;>simp
set_option maxHeartbeats 4000000 in
theorem MY (s:TSecurity) (h:THolding) (day:Int) (hs0:fP s=true) (ha:0<h.Amount∧h.Amount≤1000000000):PFun Tryz.prog none none 159 [.agg s.cells,.agg h.cells,iv day,.fn 160 [.iref s.cells],.fn 162 []] (·= .tup [GI (yy s day h),iv 0]):=by
 have dp:=Dp s hs0
 have is:=fh s
 have hcn:=Nz (iY s) day (by have:=NE hs0;omega)
 have iL:=eV (iY s)
 obtain⟨L,hL⟩:∃L,L=iY s:=⟨_,rfl⟩
 rw[←hL]at dp hcn iL
 have p1:=Nk s h.Amount hs0 (by omega)
 have p2:=Nd h.Amount
 have o1:=fun (l:List TDue) (H:ah) (o:OfH H s h day l) (hl:l.length≤100)=>TB (row:=none) (src:=none) s h day l 1 (ox s h.Amount) 160 [.iref s.cells] H o hl UB (by simp[cY];exact s.imm) p1
 have o2:=fun (l:List TDue) (H:ah) (o:OfH H s h day l) (hl:l.length≤100)=>TB (row:=none) (src:=none) s h day l 2 h.Amount 162 [] H o hl Vn (by simp) p2
 rw[cc]at dp is o1
 refine ab Tryz.func159 rfl (by simp[Tryz.f159]) (by kernel_rfl) ?_
 intro E hP hr hs hW hN
 simp -dsimp -implicitDefEqProofs [go_sem,hP,cc,eX]
 refine aq (fun _=>true) [] hP (by kernel_rfl) (by kernel_rfl) ?_
 simp -dsimp -implicitDefEqProofs [go_sem,hP]
 refine af dp hP TT (by simpa using is) iL ?_
 simp -dsimp -implicitDefEqProofs [go_sem,hP]
 refine af hcn hP Qo (by simp[iL,an]) .sc ?_
 obtain⟨H0,hH0⟩:∃H0:ah,H0=[some ⟨86,7,[[iv s.ID,iv s.Unit,iv s.Issued,iv s.Maturity,iv s.Rate,iv s.Every,bv s.Indexed]]⟩,some ⟨177,3,[[iv h.Security,iv h.Holder,iv h.Amount]]⟩,some ⟨3,1,[[iv day]]⟩,some ⟨180,1,[[.nil]]⟩]:=⟨_,rfl⟩
 have of0:OfH H0 s h day []:=by
  rw[hH0]
  exact⟨rfl,rfl,rfl,.nil,rfl,.inl ⟨rfl,rfl⟩⟩
 rw[←hH0]
 have fin:∀(H:ah) (l:List TDue) (Q:AV→Prop) (x:AV),H[3]?=some (some ⟨180,1,[[x]]⟩)→(x= .nil∧l=[])∨(∃id,x= .sref id 0 l.length∧3<id∧H[id]?=some (some ⟨183,5,ao TDue.cells l⟩))→Q (.tup [GI l,iv 0])→jh H (.tup [x,iv 0]) Q .mk:=fun H l Q x _ hx hq=>by
  rcases hx with⟨rfl,rfl⟩|⟨id,rfl,_,h2⟩
  ·exact H8 hq
  ·exact FQ h2 (by rw[ar]) (yZ l) hq
 have em:=Qy s h day (by omega)
 rw[←hL]at em
 by_cases c1:day∈L
 ·simp -dsimp -implicitDefEqProofs [go_sem,hP,c1]
  have a1:=Qf day h 1 (ox s h.Amount)
  refine aI (by rw[hr,hs];exact o1 [] H0 of0 (by simp)) hP Ih ?_
  rintro x H1 ⟨rfl,⟨b0,b1,b2,y,b3,hy⟩⟩
  have of1:OfH H1 s h day (j8 day h 1 (ox s h.Amount)):=⟨b0,b1,b2,y,b3,hy⟩
  rw[cc]at b0
  have l0:=(gsI b0)
  have l2:=(gsI b2)
  have l3:=(gsI b3)
  by_cases c2:day=s.Maturity
  ·simp -dsimp -implicitDefEqProofs [-getElem?_pos,go_sem,hP,b0,l0,b2,l2,c2]
   rw[←c2]
   refine aI (by rw[hr,hs];exact o2 _ H1 of1 (by omega)) hP Ih ?_
   rintro x H2 ⟨rfl,⟨_,_,_,z,d3,hz⟩⟩
   have l4:=(gsI d3)
   rw[if_pos c1,if_pos c2]at em
   simp -dsimp -implicitDefEqProofs [-getElem?_pos,go_sem,hP,d3,l4]
   exact fin H2 _ _ z d3 hz (by rw[em])
  ·rw[if_pos c1,if_neg c2,wY]at em
   simp -dsimp -implicitDefEqProofs [-getElem?_pos,go_sem,hP,b0,l0,b2,l2,c2,b3,l3]
   exact fin H1 _ _ y b3 hy (by rw[em];rfl)
 ·have l0:H0.length=4:=by rw[hH0];rfl
  have b0:=of0.b0
  have b2:=of0.b2
  have b3:H0[3]?=some (some ⟨180,1,[[.nil]]⟩):=by rw[hH0];rfl
  rw[cc]at b0
  by_cases c2:day=s.Maturity
  ·simp -dsimp -implicitDefEqProofs [go_sem,hP,c1]
   simp -dsimp -implicitDefEqProofs [-getElem?_pos,go_sem,hP,b0,b2,l0,c2]
   rw[←c2]
   refine aI (by rw[hr,hs];exact o2 _ H0 of0 (by simp)) hP Ih ?_
   rintro x H2 ⟨rfl,⟨_,_,_,z,d3,hz⟩⟩
   have l4:=(gsI d3)
   rw[if_neg c1,if_pos c2]at em
   simp -dsimp -implicitDefEqProofs [-getElem?_pos,go_sem,hP,d3,l4]
   exact fin H2 _ _ z d3 hz (by rw[em])
  ·rw[if_neg c1,if_neg c2,wY]at em
   simp -dsimp -implicitDefEqProofs [go_sem,hP,c1]
   simp -dsimp -implicitDefEqProofs [-getElem?_pos,go_sem,hP,b0,b2,l0,c2,b3]
   exact fin H0 [] _ .nil b3 (.inl ⟨rfl,rfl⟩) (by rw[em])
open Go.PA
open Go.RowKit
theorem Nq (s:TSecurity) (h:THolding) (day:Int) (hs0:fP s=true) (ha:0<h.Amount∧h.Amount≤1000000000):PFun Tryz.prog none none 98 [.agg s.cells,.agg h.cells,iv day] (·=GI (yy s day h)):=by
 have od:=MY s h day hs0 ha
 have is:=fh s
 have ih:=Ez h
 have iD:=yZ (yy s day h)
 rw[eX]at od ih
 refine ab Tryz.func98 rfl (by simp[Tryz.f98]) (by kernel_rfl) ?_
 intro E hP hr hs hW hN
 simp[go_sem,hP,cc,eX]
 have ic:∀c,c∈s.cells→Imm c:=s.imm
 refine mL (od.lift _ _) hP hW VL (aL (by rw[←cc];exact is) (aL ih (aL .sc (jO (cs:=[.ref 0 0 0]) (by simp[go_sem,ij,cc]) (by simpa[cY]using ic) (jO (cs:=[]) (by simp) (by simp) (aZ.2 trivial)))))) (aj iD .sc) ?_
 simp[go_sem,hP]
 exact aw iD rfl
theorem rL (n lo hi:Int):PFun Tryz.prog none none 29 [iv n,iv lo,iv hi] (·=bv (bet n lo hi)):=by
 refine ab Tryz.func29 rfl (by simp[Tryz.f29]) (by kernel_rfl) ?_
 intro E hP hr hs hW hN
 by_cases h1:lo≤n<;>by_cases h2:n≤hi<;>simp[go_sem,hP,h1,h2,bet]
theorem QW (b:TSecurity) (day:Int) (x:THolding):(yy b day x).length≤2:=by
 unfold yy
 rw[zK]
 have h1:(if day∈iY b∧ox b x.Amount≠0 then [(⟨day,x.Security,x.Holder,1,ox b x.Amount⟩:TDue)]else []).length≤1:=by split<;>simp
 have h2:(if day=b.Maturity then [(⟨day,x.Security,x.Holder,2,x.Amount⟩:TDue)]else []).length≤1:=by split<;>simp
 omega
open Go.PA
open Go.RowKit
def oN {α:Type} (lt:α→α→Bool) (x:α):List α→List α
 |[]=>[x]
 |y::ys=>if lt x y then y::oN lt x ys else x::y::ys
def mM {α:Type} (lt:α→α→Bool) (l:List α):List α:=l.foldl (fun acc x=>oN lt x acc) []
def gG {α:Type} (lt:α→α→Bool) (l:List α):List α:=(mM lt l).reverse
theorem Gk {α:Type} (lt:α→α→Bool) (x:α):∀l:List α,(oN lt x l).length=l.length+1
 |[]=>rfl
 |y::ys=>by
  simp only[oN]
  split
  ·simp[Gk lt x ys]
  ·simp
theorem zc {α:Type} (lt:α→α→Bool) (l:List α) (x:α):mM lt (l++[x])=oN lt x (mM lt l):=by simp[mM]
theorem pN {α:Type} (lt:α→α→Bool):∀(l acc:List α),(l.foldl (fun acc x=>oN lt x acc) acc).length=acc.length+l.length
 |[],acc=>by simp
 |x::l,acc=>by rw[List.foldl_cons,pN lt l,Gk];simp;omega
theorem CN {α:Type} (lt:α→α→Bool) (l:List α):(mM lt l).length=l.length:=by simp[mM,pN]
theorem mH {α:Type} (lt:α→α→Bool) (l:List α):(gG lt l).length=l.length:=by simp[gG,CN]
theorem NX {β:Type} (L M:List β) (x y:β) (j:Nat) (hj:j=L.length+1):((L++y::x::M).set j y).set (j-1) x=L++x::y::M:=by
 subst hj
 rw[List.set_append_right _ _ (by omega),List.set_append_right _ _ (by omega)]
 simp
section
variable {α:Type} (enc:α→List AV) (lt:α→α→Bool) (g:FuncId)
def oB:Prop:=(∀a,(enc a).length=4)∧(∀a c,c∈enc a→Imm c∧c.cellish=true)∧aa Tryz.prog g=true∧∀a b,PFun Tryz.prog none none g [.agg (enc a),.agg (enc b)] (fun r=>∃i:Int,r=iv i∧decide (i<0)=lt a b)
set_option maxRecDepth 4000 in
theorem xd {row src:Option Nat} (hc:oB enc lt g) (pre l post:List α) (H:ah) (id a b n:Nat) (ha:a=pre.length) (hb:b=pre.length+l.length) (hn:n=pre.length+l.length+post.length) (hb9:n≤1000000000)
  (hH:H[id]?=some (some ⟨97,4,ao enc (pre++l++post)⟩)):
  MFun Tryz.prog row src 163 [.sref id 0 n,iv a,iv b,.fn g []] H (fun _ H'=>H'=H.set id (some ⟨97,4,ao enc (pre++gG lt l++post)⟩)):=by
 obtain⟨hk,him,hen,hcmp⟩:=hc
 refine aG Tryz.func163 rfl (by simp[Tryz.f163]) (by kernel_rfl) ⟨.tup [],_,rfl⟩ ?_
 intro E hP hr hs hN
 have w1:=ae ((a:Int)+1) (by omega)
 have hlt:id<H.length:=(gsI hH)
 have hself:H.set id (some ⟨97,4,ao enc (pre++l++post)⟩)=H:=by
  apply List.ext_getElem?
  intro j
  rw[wO]
  split
  ·rename_i h;subst h;rw[hH]
  ·rfl
 simp[go_sem,hP,w1]
 obtain⟨I,hI⟩:∃I:Nat→St→Prop,I=fun m s=>∃i:Nat,a+1≤i∧(i≤b∨l=[]∧i=a+1)∧m=b-i∧s.t 0= .sref id 0 n∧s.t 1=iv a∧s.t 2=iv b∧s.t 3= .fn g []∧s.t 8=iv i∧
  s.H=H.set id (some ⟨97,4,ao enc (pre++((mM lt (l.take (i-a))).reverse++l.drop (i-a))++post)⟩):=⟨_,rfl⟩
 refine az I (b-(a+1)) (by rw[hN];rfl) ?_ ?_
 ·rw[hI]
  refine⟨a+1,by omega,?_,rfl,?_⟩
  ·cases l with
   |nil=>exact .inr ⟨rfl,rfl⟩
   |cons x l=>exact .inl (by simp at hb;omega)
  ·refine⟨by simp[go_sem],by simp[go_sem],by simp[go_sem],by simp[go_sem],by simp[go_sem],?_⟩
   have e:(mM lt (l.take 1)).reverse++l.drop 1=l:=by
    cases l with
    |nil=>rfl
    |cons x l=>simp[mM,oN]
   rw[show a+1-a=1 from by omega,e]
   exact hself.symm
 intro m s hs'
 rw[hI]at hs'
 obtain⟨i,h1,h2,hm,t0,t1,t2,t3,t8,sH⟩:=hs'
 simp[go_sem,hP,t8,t2]
 refine aB ?_ ?_<;>intro h
 ·have hib:i<b:=by simpa using h
  have hil:i-a<l.length:=by omega
  simp[go_sem,hP,t8,t2]
  obtain⟨x,hx⟩:∃x,x=l[i-a]:=⟨_,rfl⟩
  obtain⟨P,hPd⟩:∃P,P=mM lt (l.take (i-a)):=⟨_,rfl⟩
  obtain⟨R,hR⟩:∃R,R=l.drop (i-a+1):=⟨_,rfl⟩
  have hPl:P.length=i-a:=by rw[hPd,CN];simp;omega
  have hRl:R.length+(i-a)+1=l.length:=by rw[hR];simp;omega
  have w9:=ae ((i:Int)+1) (by omega)
  obtain⟨J,hJ⟩:∃J:Nat→St→Prop,J=fun m s=>∃(A B:List α),m=A.length∧A.length+B.length=i-a∧oN lt x P=B.reverse++oN lt x A.reverse∧s.t 0= .sref id 0 n∧s.t 1=iv a∧s.t 2=iv b∧s.t 3= .fn g []∧s.t 8=iv i∧s.t 9=iv (a+A.length:Nat)∧
   s.H=H.set id (some ⟨97,4,ao enc (pre++(A++x::B++R)++post)⟩):=⟨_,rfl⟩
  refine az J (i-a) (by rw[hN];rfl) ?_ ?_
  ·rw[hJ]
   refine⟨P.reverse,[],by simp[hPl],by simp[hPl],by simp,by simp[go_sem,t0],by simp[go_sem,t1],by simp[go_sem,t2],by simp[go_sem,t3],by simp[go_sem,t8],?_,?_⟩
   ·simp[go_sem,hPl];omega
   simp only[sH,←hPd]
   rw[wE hil,←hx,←hR]
   simp
  intro m s hs'
  rw[hJ]at hs'
  obtain⟨A,B,hm',hAB,hins,t0,t1,t2,t3,t8,t9,sH⟩:=hs'
  simp[go_sem,hP]
  refine aq (fun _=>true) [] hP (by kernel_rfl) (by kernel_rfl) ?_
  have stop:oN lt x P=B.reverse++x::A.reverse→s.H=H.set id (some ⟨97,4,ao enc (pre++((mM lt (l.take (i+1-a))).reverse++l.drop (i+1-a))++post)⟩):=fun h=>by
   have e1:l.take (i+1-a)=l.take (i-a)++[x]:=by rw[show i+1-a=i-a+1 from by omega,List.take_succ_eq_append_getElem hil,←hx]
   have e2:l.drop (i+1-a)=R:=by rw[hR];congr 1;omega
   rw[e1,e2,zc,←hPd,h,sH]
   simp
  rcases List.eq_nil_or_concat A with rfl|⟨A',y,rfl⟩
  ·have st:=stop (by simpa[oN]using hins)
   simp only[List.length_nil,Nat.add_zero]at t9
   simp[go_sem,hP,t9,t1,t8,w9]
   rw[hI]
   exact⟨b-(i+1),by omega,i+1,by omega,.inl (by omega),rfl,by simp[go_sem,t0],by simp[go_sem,t1],by simp[go_sem,t2],by simp[go_sem,t3],by simp[go_sem],st⟩
  ·rw[List.concat_eq_append]at*
   obtain⟨M,hM⟩:∃M,M=ao enc (B++R++post):=⟨_,rfl⟩
   obtain⟨L,hL⟩:∃L,L=ao enc (pre++A'):=⟨_,rfl⟩
   have ecs:ao enc (pre++((A'++[y])++x::B++R)++post)=L++enc y::enc x::M:=by rw[hM,hL];simp[ao]
   have ecs2:ao enc (pre++(A'++x::y::B++R)++post)=L++enc x::enc y::M:=by rw[hM,hL];simp[ao]
   rw[ecs]at sH
   obtain⟨j,hj⟩:∃j,j=L.length:=⟨_,rfl⟩
   have hj2:j=pre.length+A'.length:=by rw[hj,hL];simp[ao]
   have t9:s.t 9=iv ((j:Int)+1):=by rw[t9,hj2,ha];simp;omega
   simp at hAB
   have hjN:j+1<n:=by omega
   obtain⟨cs,hcs⟩:∃cs,cs=L++enc y::enc x::M:=⟨_,rfl⟩
   have hcl:cs.length=n:=by rw[hcs,←ecs];simp[ao];omega
   have hcy:∀h:j<cs.length,cs[j]'h=enc y:=fun h=>by subst hcs;subst hj;simp
   have hcx:∀h:j+1<cs.length,cs[j+1]'h=enc x:=fun h=>by subst hcs;subst hj;simp
   have hk4:∀z,(enc z).take 4=enc z:=fun z=>zQ (by rw[hk];omega)
   have ht:((j:Int)+1).toNat=j+1:=by omega
   have hd:decide ((a:Int)<(j:Int)+1)=true:=by simp;omega
   have hjN':(j:Int)+1<n:=by omega
   have hj0:(0:Int)≤(j:Int)+1:=by omega
   have hjn:j<n:=by omega
   have w2:=ae ((j:Int)+1-1) (by omega)
   rw[vC]at w2
   rw[←hcs]at sH
   have hHid:s.H[id]?=some (some ⟨97,4,cs⟩):=by rw[sH];simp[hlt]
   simp[go_sem,hP,t9,t1,t0,t3,hd,hHid,hcy,hcx,ht,w2,hk,hk4,hjN',hj0,hcl,hjn,hjN,vC]
   refine cn ((hcmp x y).lift _ _) hP hen (ak (by simp[go_sem];exact⟨fun c h=>(him x c h).1,fun c h=>(him y c h).1⟩)) ⟨iv (if lt x y then -1 else 0),_,rfl,by cases lt x y<;>simp⟩ (by rintro r ⟨c,rfl,_⟩;exact .sc) ?_
   rintro r ⟨c,rfl,hlt⟩
   simp[go_sem,hP,hlt]
   refine aB ?_ ?_<;>intro h
   ·refine aq (fun _=>true) [15,17] hP (by kernel_rfl) (by kernel_rfl) ?_
    have hcel:∀z c,c∈enc z→c.cellish=true:=fun z c h=>(him z c h).2
    have hltS:id<s.H.length:=(gsI hHid)
    have hset:∀o:Option AObj,(s.H.set id o)[id]?=some o:=fun o=>by simp[hltS]
    have hd4:∀z,(enc z).drop 4=[]:=fun z=>vH (by rw[hk];omega)
    have hcely:(enc y).all AV.cellish=true:=zS.2 (hcel y)
    have hcelx:(enc x).all AV.cellish=true:=zS.2 (hcel x)
    simp[go_sem,hP,t9,t1,t0,t3,hd,hHid,hcy,hcx,ht,w2,hk,hk4,hjN',hj0,hcl,hjn,hjN,vC,hcelx,hcely,hset,hd4]
    have w3:=ae ((j:Int)+1-1) (by omega)
    rw[vC]at w3
    rw[hJ]
    refine⟨A'.length,by simp at hm';omega,A',y::B,rfl,by simp;omega,?_,by simp[go_sem,t0],by simp[go_sem,t1],by simp[go_sem,t2],by simp[go_sem,t3],by simp[go_sem,t8],?_,?_⟩
    ·rw[hins];simp[oN,h]
    ·simp[go_sem];omega
    ·rw[ecs2,sH,List.set_set,hcs]
     have:=NX L M (enc x) (enc y) (j+1) (by omega)
     simp only[Nat.add_sub_cancel]at this
     simp[this]
   ·have st:=stop (by rw[hins];simp[oN,h])
    simp[go_sem,hP,t9,t1,t8,w9]
    rw[hI]
    exact⟨b-(i+1),by omega,i+1,by omega,.inl (by omega),rfl,by simp[go_sem,t0],by simp[go_sem,t1],by simp[go_sem,t2],by simp[go_sem,t3],by simp[go_sem],st⟩
 ·have e:gG lt l=(mM lt (l.take (i-a))).reverse++l.drop (i-a):=by
   have hge:l.length≤i-a:=by simp at h;omega
   rw[zQ hge,vH hge]
   simp[gG]
  simp[go_sem,hP]
  rw[sH,e]
  simp
end
end Go.Proofs.YtfbogibogkbhmaaGreatDoor
