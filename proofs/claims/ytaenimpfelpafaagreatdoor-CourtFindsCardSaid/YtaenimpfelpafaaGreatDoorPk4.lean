/- Several texts of this claim, joined: PaIns RParts CashM Cash2 Cash3 CsL1 Cash4 Cash5 Grown CashT CashA Cash6 Cash7 SortInt DelInt Cash8 Cash9 CashN CashS Cash10 CsL2 CsL3 CsL4 Acc1 AccLib Acc2 Acc3 Acc4. -/
import Derived.Test.YtaenimpfelpafaaGreatDoorPk3
import Derived.Lib.AppendZerosOnto
import Derived.Lib.Overlaps
import Derived.Laws.Externs
set_option linter.unusedSimpArgs false
set_option linter.unusedVariables false
set_option maxRecDepth 4000
namespace Go.PA
open Go.RowKit
section
variable {E:Env} {w:World} {ρ:aU} {H:ac} {ok:Nat→Prop}
theorem Hp {α:Type} (es news:List α) (p i:Nat) (hp:p≤es.length):
  (es.take p++news++es.drop (p+news.length))[i]?=if i<p then es[i]? else if i<p+news.length then news[i-p]? else es[i]?:=by
 have h1:(es.take p).length=p:=by simp;omega
 split
 ·rw[List.append_assoc,List.getElem?_append_left (by omega),List.getElem?_take,if_pos (by assumption)]
 ·split
  ·rw[List.append_assoc,List.getElem?_append_right (by omega),List.getElem?_append_left (by omega),h1]
  ·rw[List.getElem?_append_right (by simp;omega),List.getElem?_drop]
   congr 1
   simp
   omega
theorem ku (g:Good E w ρ H ok) {id b cap p:Nat} {o:AObj} (ho:H[id]?=some (some o)) (hρ:ρ id=some (b,cap)) (hcap:cap≤maxLen) (hp:p≤o.es.length) (news:List (List AV)) (hm:p+news.length≤cap)
  (hk:∀e,e∈news→e.length=o.k) (xs:List Value) (hxl:xs.length=news.length*o.k) (h1:∀v∈xs,v.oneCell'=true)
  (hx:∀(i:Nat) (e:List AV) (j:Nat) (a:AV),news[i]?=some e→e[j]?=some a→∃c,xs[i*o.k+j]?=some c∧Rep w ρ H ok c a):
  ∃w',(storeCells ⟨b,p*o.k,none⟩ xs).run E.P w= .ok () w'∧Good E w' ρ (H.set id (some {o with es:=o.es.take p++news++o.es.drop (p+news.length)})) ok∧Ext w ρ H ok w' ρ (H.set id (some {o with es:=o.es.take p++news++o.es.drop (p+news.length)})) ok:=by
 have hobj:=g.obj id o ho
 rw[hρ]at hobj
 obtain⟨cur,hb,hs,hl,hmx,hcell⟩:=hobj.cells hcap
 have hle:p*o.k+news.length*o.k≤cur.size:=by
  rw[hs,←Nat.add_mul]
  exact Nat.mul_le_mul_right _ hm
 have hst:=run_storeCells_at E.P b (p*o.k) o.ty xs 0 cur w hb (by rw[hxl];omega) h1
 simp only[Nat.add_zero]at hst
 generalize hnew:(cur.toList.take (p*o.k)++xs++cur.toList.drop (p*o.k+xs.length)).toArray=new at hst
 have hnewget:∀q,new[q]?=if q<p*o.k then cur[q]? else if q<p*o.k+news.length*o.k then xs[q-p*o.k]? else cur[q]?:=fun q=>by
  subst hnew
  have:=l7 cur.toList xs (p*o.k) q (by simp[hxl];omega)
  rw[hxl]at this
  simpa[hxl]using this
 have hnewsize:new.size=cur.size:=by
  subst hnew
  simp only[List.size_toArray,List.length_append,List.length_take,List.length_drop,Array.length_toList]
  rw[hxl]
  omega
 have hlen':∀e∈o.es.take p++news++o.es.drop (p+news.length),e.length=o.k:=fun e he=>by
  rcases List.mem_append.1 he with he|he
  ·rcases List.mem_append.1 he with he|he
   ·exact g.len id o ho e (List.mem_of_mem_take he)
   ·exact hk e he
  ·exact g.len id o ho e (List.mem_of_mem_drop he)
 obtain⟨g',x'⟩:=g.change (w':=w.setRow b new) ho hρ {o with es:=o.es.take p++news++o.es.drop (p+news.length)} rfl (by simp;omega) hlen' rfl rfl rfl nk (fun b' hb'=>gL hb') fun hxx=> .inl ⟨new,qT hb,hnewsize.trans hs,by simp;omega,hmx,fun i e j a hi hj=>by
  simp only at hi
  have hjk:j<o.k:=by
   have:=hlen' e (List.mem_of_getElem? hi)
   have:=(gsI hj)
   omega
  rw[Hp _ _ _ _ hp]at hi
  simp only
  rw[hnewget]
  split at hi
  ·rename_i hip
   have:i*o.k+o.k≤p*o.k:=by rw[←Nat.succ_mul];exact Nat.mul_le_mul_right _ hip
   rw[if_pos (by omega)]
   obtain⟨c,c1,c2,c3⟩:=hcell i e j a hi hj
   exact⟨c,c1,c2,c3.ext hxx⟩
  ·split at hi
   ·rename_i hge hlt
    have h3:p*o.k≤i*o.k:=Nat.mul_le_mul_right _ (by omega)
    have h4:i*o.k+o.k≤p*o.k+news.length*o.k:=by rw[←Nat.succ_mul,←Nat.add_mul];exact Nat.mul_le_mul_right _ hlt
    rw[if_neg (by omega),if_pos (by omega)]
    obtain⟨c,c1,c3⟩:=hx (i-p) e j a hi hj
    have e5:i*o.k+j-p*o.k=(i-p)*o.k+j:=by rw[Nat.sub_mul];omega
    rw[e5]
    exact⟨c,c1,h1 c (List.mem_of_getElem? c1),c3.ext hxx⟩
   ·rename_i hge hge2
    have h4:p*o.k+news.length*o.k≤i*o.k:=by rw[←Nat.add_mul];exact Nat.mul_le_mul_right _ (by omega)
    rw[if_neg (by omega),if_neg (by omega)]
    obtain⟨c,c1,c2,c3⟩:=hcell i e j a hi hj
    exact⟨c,c1,c2,c3.ext hxx⟩⟩
 exact⟨_,hst,g',x'⟩
theorem uS (g:Good E w ρ H ok) {P:Program} {e:TypeId} {v:Value} {x:AV} {es:List (List AV)} (r:Rep w ρ H ok v x) (h:je P e H x=some es) (hne:es≠[]) (hk:0<aq P e):
  ∃(ad:Addr) (c:Nat) (xs:List Value),v= .slice (some ad) es.length c∧(∀(e':List AV),e'∈es→e'.length=aq P e)∧xs.length=es.length*aq P e∧(∀(j:Nat) (u:Value),xs[j]?=some u→w.cell? (ad.add j)=some u)∧(∀u∈xs,u.oneCell'=true)∧
   ∀(i:Nat) (e':List AV) (j:Nat) (a:AV),es[i]?=some e'→e'[j]?=some a→∃c,xs[i*aq P e+j]?=some c∧Rep w ρ H ok c a:=by
 obtain⟨A,c,f,hv,hlen,hc⟩:=xS g r h
 obtain⟨ad,rfl,hcc⟩:=hc hne
 have hdm:∀p,p<es.length*aq P e→p / aq P e<es.length∧p%aq P e<aq P e:=fun p hp=>⟨Nat.div_lt_of_lt_mul (by rw[Nat.mul_comm];exact hp),Nat.mod_lt _ hk⟩
 have heq:∀p,p / aq P e*aq P e+p%aq P e=p:=fun p=>Nat.div_add_mod' p _
 have get:∀i j,i<es.length→j<aq P e→∃e' a,es[i]?=some e'∧e'[j]?=some a:=fun i j hi hj=>by
  have:=hlen _ (List.getElem_mem hi)
  exact⟨_,_,List.getElem?_eq_getElem hi,List.getElem?_eq_getElem (by omega)⟩
 refine⟨ad,c,(List.range (es.length*aq P e)).map fun p=>f (p / aq P e) (p%aq P e),hv,hlen,by simp,fun p u hp=>?_,fun u hu=>?_,fun i e' j a hi hj=>?_⟩
 ·rw[List.getElem?_map,Option.map_eq_some_iff]at hp
  obtain⟨q,hq,rfl⟩:=hp
  obtain⟨hlt,rfl⟩:=List.getElem?_eq_some_iff.1 hq
  simp only[List.length_range,List.getElem_range]at hlt⊢
  obtain⟨e',a,h1,h2⟩:=get _ _ (hdm p hlt).1 (hdm p hlt).2
  have:=(hcc _ _ _ _ h1 h2).1
  rwa[heq]at this
 ·obtain⟨p,hp,rfl⟩:=List.mem_map.1 hu
  have hlt:=List.mem_range.1 hp
  obtain⟨e',a,h1,h2⟩:=get _ _ (hdm p hlt).1 (hdm p hlt).2
  exact (hcc _ _ _ _ h1 h2).2.1
 ·have hil:=(gsI hi)
  have hjl:j<aq P e:=by rw[←hlen e' (List.mem_of_getElem? hi)];exact (gsI hj)
  have hlt:i*aq P e+j<es.length*aq P e:=by
   have:i*aq P e+aq P e≤es.length*aq P e:=by rw[←Nat.succ_mul];exact Nat.mul_le_mul_right _ hil
   omega
  refine⟨f i j,?_,(hcc i e' j a hi hj).2.2⟩
  simp[hlt,(rn (i:=i) hjl).1,(rn (i:=i) hjl).2]
theorem ui (g:Good E w ρ H ok) {v:Value} {x:AV} {id lo dn:Nat} {o:AObj} (hx:x= .sref id lo dn∨∃N,x= .full id lo dn N) (ho:H[id]?=some (some o)) (hpos:0<dn) (r:Rep w ρ H ok v x):
  ∃b cap c,v= .slice (some ⟨b,lo*o.k,none⟩) dn c∧ρ id=some (b,cap)∧lo+dn≤cap∧cap≤maxLen:=by
 rcases hx with rfl|⟨N,rfl⟩
 ·cases r with
  |srefDead hd _=>rw[ho]at hd;cases hd
  |srefNil ho' hρ=>omega
  |@sref _ _ _ c o' b cap ho' hρ hn hc hnc hcap=>
   rw[ho]at ho'
   simp only[Option.some.injEq]at ho'
   subst ho'
   have hobj:=g.obj id o ho
   rw[hρ]at hobj
   obtain⟨_,_,_,hl,_,_⟩:=hobj.cells hcap
   exact⟨b,cap,c,rfl,hρ,by omega,hcap⟩
 ·cases r with
  |fullDead hd _=>rw[ho]at hd;cases hd
  |@full _ _ _ _ o' b ho' hρ hn hN=>
   rw[ho]at ho'
   simp only[Option.some.injEq]at ho'
   subst ho'
   exact⟨b,N,_,rfl,hρ,hn,hN⟩
theorem xK {α:Type} {vs:Array α} (h:vs.size=2):∃a b,vs=#[a,b]:=by
 obtain⟨l⟩:=vs
 match l,h with
 |[a,b],_=>exact⟨a,b,rfl⟩
theorem Nw {α:Type} {vs:Array α} (h:vs.size=1):∃a,vs=#[a]:=by
 obtain⟨l⟩:=vs
 match l,h with
 |[a],_=>exact⟨a,rfl⟩
theorem GE {t t' e:TypeId} {x y:AV} {id lo dn:Nat} {o:AObj} {news:List (List AV)} {C:AV→ac→Prop} {b:Bx C} (hx:x= .sref id lo dn∨∃N,x= .full id lo dn N) (ho:H[id]?=some (some o)) (he:aN E.P t=some e)
  (hk:o.k=aq E.P e) (hk0:0<o.k) (hkn:aA E.P e=true) (hs:je E.P e H y=some news) (hl:news.length≤dn) (hpos:0<news.length) (hp:lo≤o.es.length)
  (hC:C (.sc (goInt news.length)) (H.set id (some {o with es:=o.es.take lo++news++o.es.drop (lo+news.length)}))):mN E .copy #[t,t'] [x,y] H C b:=by
 refine⟨⟨_,_,hC⟩,fun w ρ ok ty vs g hsz hr=>?_⟩
 obtain⟨vx,vy,rfl⟩:=xK hsz
 have rx:=hr 0 vx x rfl rfl
 have ry:=hr 1 vy y rfl rfl
 obtain⟨b',cap,c,rfl,hρ,hcap,hmx⟩:=ui g hx ho (by omega) rx
 obtain⟨ad,c',xs,rfl,hlen,hxl,hcell,h1,hrep⟩:=uS g ry hs (by intro e0;simp[e0]at hpos) (by omega)
 obtain⟨w',hst,g',x'⟩:=ku g ho hρ hmx hp news (by omega) (by rw[hk];exact hlen) xs (by rw[hk];exact hxl) h1 (by rw[hk];exact hrep)
 refine⟨.int .i64 news.length,w',_,_,ρ,ok,?_,hC,g',x',.sc⟩
 have hmin:Nat.min news.length dn=news.length:=Nat.min_eq_left hl
 have hld:=run_firstCells_some (P:=E.P) w (aq E.P e) news.length ad news.length c' xs hxl hcell
 simp[jI,Builtin.copy_,run_underlying (bw he),Builtin.lenOf,bz hkn,hmin,hld,hst,goInt]
theorem tO {t t' e:TypeId} {x:AV} {id lo dn id2 lo2 m2 N2:Nat} {o:AObj} {news:List (List AV)} {C:AV→ac→Prop} {b:Bx C} (hx:x= .sref id lo dn∨∃N,x= .full id lo dn N) (ho:H[id]?=some (some o)) (he:aN E.P t=some e)
  (hk:o.k=aq E.P e) (hk0:0<o.k) (hkn:aA E.P e=true) (hs:je E.P e H (.full id2 lo2 dn N2)=some news) (hnl:news.length=dn) (hm2:dn≤m2) (hpos:0<news.length) (hp:lo≤o.es.length)
  (hC:C (.sc (goInt news.length)) (H.set id (some {o with es:=o.es.take lo++news++o.es.drop (lo+news.length)}))):mN E .copy #[t,t'] [x,.full id2 lo2 m2 N2] H C b:=by
 refine⟨⟨_,_,hC⟩,fun w ρ ok ty vs g hsz hr=>?_⟩
 obtain⟨vx,vy,rfl⟩:=xK hsz
 have rx:=hr 0 vx x rfl rfl
 have ry:=hr 1 vy _ rfl rfl
 obtain⟨b',cap,c,rfl,hρ,hcap,hmx⟩:=ui g hx ho (by omega) rx
 cases ry with
 |fullDead hd _=>simp[je,hd]at hs
 |@full _ _ _ _ o2 b2 ho2 hρ2 hn2 hN2=>
  have ry':Rep w ρ H ok (.slice (some ⟨b2,lo2*o2.k,none⟩) dn (N2-lo2)) (.full id2 lo2 dn N2):= .full ho2 hρ2 (by omega) hN2
  obtain⟨ad,c',xs,hv,hlen,hxl,hcell,h1,hrep⟩:=uS g ry' hs (by intro e0;simp[e0]at hpos) (by omega)
  simp only[Value.slice.injEq,Option.some.injEq]at hv
  obtain⟨rfl,_,_⟩:=hv
  obtain⟨w',hst,g',x'⟩:=ku g ho hρ hmx hp news (by omega) (by rw[hk];exact hlen) xs (by rw[hk];exact hxl) h1 (by rw[hk];exact hrep)
  refine⟨.int .i64 news.length,w',_,_,ρ,ok,?_,hC,g',x',.sc⟩
  have hmin:Nat.min m2 dn=news.length:=by rw[hnl];exact Nat.min_eq_right hm2
  have hld:=run_firstCells_some (P:=E.P) w (aq E.P e) news.length ⟨b2,lo2*o2.k,none⟩ m2 (N2-lo2) xs hxl hcell
  simp[jI,Builtin.copy_,run_underlying (bw he),Builtin.lenOf,bz hkn,hmin,hld,hst,goInt]
theorem kX {z:Value} {k n i j:Nat} (hz:z.cells.size=k) (hi:i<n) (hj:j<k):(Builtin.zeroCells z.cells n)[i*k+j]?=z.cells[j]?:=by
 have hlt:i*k+j<n*k:=by
  have:i*k+k≤n*k:=by rw[←Nat.succ_mul];exact Nat.mul_le_mul_right _ hi
  omega
 unfold Builtin.zeroCells
 rw[hz,Array.getElem?_map,Array.getElem?_range,if_pos hlt]
 simp only[Option.map_some,(rn (i:=i) hj).2]
 rw[getElem!_pos z.cells j (by omega),Array.getElem?_eq_getElem (by omega)]
theorem gM {z:Value} {k n:Nat} (hz:z.cells.size=k):(Builtin.zeroCells z.cells n).size=n*k:=by simp[Builtin.zeroCells,hz]
theorem xn {z:Value} {k n:Nat} (hz:z.cells.size=k) (hk:0<k) {v:Value} (hv:v∈(Builtin.zeroCells z.cells n).toList):v∈z.cells.toList:=by
 obtain⟨q,hq⟩:=List.getElem?_of_mem hv
 have hql:q<n*k:=by have:=(gsI hq);simpa[gM (n:=n) hz]using this
 have e:=Nat.div_add_mod' q k
 have h1:q / k<n:=Nat.div_lt_of_lt_mul (by rw[Nat.mul_comm];exact hql)
 have h2:q%k<k:=Nat.mod_lt _ hk
 have:=kX (n:=n) hz h1 h2
 rw[e]at this
 rw[Array.getElem?_toList,this]at hq
 exact List.mem_of_getElem? (by simpa using hq)
theorem v4 {t e:TypeId} {x:AV} {id lo dn:Nat} {o:AObj} {zs:List AV} {C:AV→ac→Prop} {b:Bx C} (hx:x= .sref id lo dn∨∃N,x= .full id lo dn N) (ho:H[id]?=some (some o)) (he:aN E.P t=some e)
  (hk:o.k=aq E.P e) (hk0:0<o.k) (hz:bP E.P e=some zs) (hpos:0<dn) (hp:lo≤o.es.length)
  (hC:C (.tup []) (H.set id (some {o with es:=o.es.take lo++List.replicate dn zs++o.es.drop (lo+dn)}))):mN E .clear #[t] [x] H C b:=by
 refine⟨⟨_,_,hC⟩,fun w ρ ok ty vs g hsz hr=>?_⟩
 obtain⟨vx,rfl⟩:=Nw hsz
 have rx:=hr 0 vx x rfl rfl
 obtain⟨b',cap,c,rfl,hρ,hcap,hmx⟩:=ui g hx ho hpos rx
 obtain⟨i,z,hi,hzz,hzs,_,hzeq,h1⟩:=fL hz
 have hzl:zs.length=aq E.P e:=by rw[hzeq];simpa using hzs
 obtain⟨w',hst,g',x'⟩:=ku g ho hρ hmx hp (List.replicate dn zs) (by simp;omega) (fun e' he'=>by rw[List.eq_of_mem_replicate he',hk,hzl]) (Builtin.zeroCells z.cells dn).toList (by simp[gM hzs,hk]) (fun v hv=>h1 v (xn hzs (by omega) hv)) (fun i' e' j a hi' hj=>by
  have hil:i'<dn:=by have:=(List.getElem?_eq_some_iff.1 hi').1;simpa using this
  rw[List.eq_of_mem_replicate (List.mem_of_getElem? hi')]at hj
  have hjl:=(gsI hj)
  rw[hzeq,List.getElem?_map,Option.map_eq_some_iff]at hj
  obtain⟨c0,hc0,rfl⟩:=hj
  refine⟨c0,?_,ig c0⟩
  rw[Array.getElem?_toList,hk,kX hzs hil (by omega)]
  simpa using hc0)
 rw[List.length_replicate]at g' x'
 refine⟨.tuple #[],w',_,_,ρ,ok,?_,hC,g',x',.tup rfl (by simp)⟩
 obtain⟨dn,rfl⟩:∃m,dn=m+1:=⟨dn-1,by omega⟩
 simp[jI,Builtin.clear_,run_underlying (bw he),fB hi hzz,hst]
theorem uK {t e:TypeId} {k:Nat} {C:AV→ac→Prop} {b:Bx C} (he:aN E.P t=some e) (hC:C (.tup []) H):mN E .clear #[t] [.list k []] H C b:=by
 refine⟨⟨_,_,hC⟩,fun w ρ ok ty vs g hsz hr=>?_⟩
 obtain⟨vx,rfl⟩:=Nw hsz
 have rx:=hr 0 vx _ rfl rfl
 have:∃A c,vx= .slice A 0 c:=by
  cases rx with
  |listNil=>exact⟨_,_,rfl⟩
  |list f hn _ _ _ _ _ _=>subst hn;exact⟨_,_,rfl⟩
 obtain⟨A,c,rfl⟩:=this
 refine⟨.tuple #[],w,_,_,ρ,ok,?_,hC,g,Ext.refl _ _ _ _,.tup rfl (by simp)⟩
 cases A<;>simp[jI,Builtin.clear_,run_underlying (bw he)]
theorem u6 {t e:TypeId} {y:AV} {id n N:Nat} {o:AObj} {news:List (List AV)} {C:AV→ac→Prop} {b:Bx C} (ho:H[id]?=some (some o)) (he:aN E.P t=some e)
  (hk:o.k=aq E.P e) (hk0:0<o.k) (hkn:aA E.P e=true) (hs:je E.P e H y=some news) (hl:n+news.length≤N) (hpos:0<news.length) (hp:n≤o.es.length)
  (hC:C (.full id 0 (n+news.length) N) (H.set id (some {o with es:=o.es.take n++news++o.es.drop (n+news.length)}))):mN E .append #[t,t] [.full id 0 n N,y] H C b:=by
 refine⟨⟨_,_,hC⟩,fun w ρ ok ty vs g hsz hr=>?_⟩
 obtain⟨vx,vy,rfl⟩:=xK hsz
 have rx:=hr 0 vx _ rfl rfl
 have ry:=hr 1 vy y rfl rfl
 cases rx with
 |fullDead hd _=>rw[ho]at hd;cases hd
 |@full _ _ _ _ o' b' ho' hρ hn hN=>
  rw[ho]at ho'
  simp only[Option.some.injEq]at ho'
  subst ho'
  obtain⟨ad,c',xs,rfl,hlen,hxl,hcell,h1,hrep⟩:=uS g ry hs (by intro e0;simp[e0]at hpos) (by omega)
  obtain⟨w',hst,g',x'⟩:=ku g ho hρ hN hp news (by omega) (by rw[hk];exact hlen) xs (by rw[hk];exact hxl) h1 (by rw[hk];exact hrep)
  refine⟨.slice (some ⟨b',0*o.k,none⟩) (n+news.length) (N-0),w',_,_,ρ,ok,?_,hC,g',x',?_⟩
  ·have hld:=run_firstCells_some (P:=E.P) w (aq E.P e) news.length ad news.length c' xs hxl hcell
   have hle:n+news.length≤N-0:=by omega
   rw[hk]at hst
   simp[jI,Builtin.append_,run_underlying (bw he),Builtin.lenOf,bz hkn,hl,hld,jK,hk,hst]
  ·exact .full (o:={o with es:=o.es.take n++news++o.es.drop (n+news.length)}) (by rw[List.getElem?_set];simp[pi ho]) hρ (by omega) hN
theorem Ig (g:Good E w ρ H ok):Good E w.drew ρ H ok∧Ext w ρ H ok w.drew ρ H ok:=
 g.step (w':=w.drew) (fun _=>False) rfl rfl rfl (Nat.le_refl _) (fun _ _ _=>rfl) (fun _ h=>h.elim) (fun _ h=>h) (fun _ h=> .inl h)
theorem rO {t tn e:TypeId} {id n N m:Nat} {o:AObj} {zs:List AV} {kq kn:IntKind} {C:AV→ac→Prop} {b:Bx C} (ho:H[id]?=some (some o)) (he:aN E.P t=some e) (htn:E.P.underlying tn=some (.int kn))
  (hk:o.k=aq E.P e) (hk0:0<o.k) (hty:o.ty=e) (hz:bP E.P e=some zs) (hp:n≤o.es.length) (hpos:0<m) (hroom:N<n+m) (h63:n+m≤9223372036854775807) (hb:(n+m)*bX E.P e≤140737488355328)
  (hC:C (.sref H.length 0 (n+m)) (H++[some ⟨e,o.k,o.es.take n++List.replicate m zs⟩])):mN E .append #[t,tn] [.full id 0 n N,.sc (.int kq m)] H C b:=by
 refine⟨⟨_,_,hC⟩,fun w ρ ok ty vs g hsz hr=>?_⟩
 obtain⟨vx,vy,rfl⟩:=xK hsz
 have rx:=hr 0 vx _ rfl rfl
 have ry:=cI (hr 1 vy _ rfl rfl)
 subst ry
 cases rx with
 |fullDead hd _=>rw[ho]at hd;cases hd
 |@full _ _ _ _ o' b' ho' hρ hn hN=>
  rw[ho]at ho'
  simp only[Option.some.injEq]at ho'
  subst ho'
  obtain⟨i,z,hi,hzz,hzs,his,hzeq,h1⟩:=fL hz
  have hzl:zs.length=aq E.P e:=by rw[hzeq];simpa using hzs
  have hobj:=g.obj id o ho
  rw[hρ]at hobj
  obtain⟨cur,hbk,hs,hl,hmx,hcell⟩:=hobj.cells hN
  have hcur:n*o.k≤cur.size:=by rw[hs];exact Nat.mul_le_mul_right _ (by omega)
  obtain⟨g0,x0⟩:=Ig g
  have hold:(Builtin.firstCells i.size n (.slice (some ⟨b',0*o.k,none⟩) n (N-0))).run E.P w.drew= .ok (cur.toList.take (n*o.k)).toArray w.drew:=by
   refine run_firstCells_some (P:=E.P) w.drew i.size n ⟨b',0*o.k,none⟩ n (N-0) (cur.toList.take (n*o.k)) (by simp[his,←hk];omega) (fun j v hj=>?_)
   rw[jK,Nat.zero_mul,Nat.zero_add,cell_of_row w.drew b' _ cur o.ty (0,0) hbk]
   rw[List.getElem?_take]at hj
   split at hj
   ·simpa using hj
   ·cases hj
  have hbi:bX E.P e=i.bytes:=by simp[bX,hi]
  rw[hbi]at hb
  have hrun:=Lib.run_append_grow_zeros w t tn ty e i z kq kn (bw he) htn hi hzz (some ⟨b',0*o.k,none⟩) n (N-0) _ hold m hpos (by rw[his];omega) (by omega) (by omega) (by
   have:=Nat.mul_le_mul_right i.bytes (show m≤n+m by omega)
   omega) (growslice_fits (by omega) hb)
  obtain⟨G,hG⟩:∃G,G=grownCap w (n+m) (N-0) e:=⟨_,rfl⟩
  have hG1:n+m≤G:=by rw[hG];exact grownCap_ge w _ _ _
  have hG2:G≤maxLen:=by rw[hG];exact grownCap_le_maxLen w _ _ _ (by unfold maxLen;omega)
  rw[←hG]at hrun
  obtain⟨ROW,hROW⟩:∃ROW,ROW=(cur.toList.take (n*o.k)).toArray++Builtin.zeroCells z.cells m++Builtin.zeroCells z.cells (G-(n+m)):=⟨_,rfl⟩
  rw[←hROW]at hrun
  have hl1:(cur.toList.take (n*o.k)).toArray.size=n*o.k:=by simp;omega
  have hl2:(Builtin.zeroCells z.cells m).size=m*o.k:=by rw[gM hzs,hk]
  have hRs:ROW.size=G*o.k:=by
   rw[hROW,Array.size_append,Array.size_append,hl1,hl2,gM hzs,←hk,←Nat.add_mul,←Nat.add_mul]
   congr 1
   omega
  have hlen':∀e'∈o.es.take n++List.replicate m zs,e'.length=o.k:=fun e' he'=>by
   rcases List.mem_append.1 he' with he'|he'
   ·exact g.len id o ho e' (List.mem_of_mem_take he')
   ·rw[List.eq_of_mem_replicate he',hk,hzl]
  obtain⟨g',x'⟩:=g0.newObj ⟨e,o.k,o.es.take n++List.replicate m zs⟩ G ROW hRs (by simp;omega) hG2 hlen' (fun i' e' j a hi' hj=>by
   simp only at hi'⊢
   have hjk:j<o.k:=by
    have:=hlen' e' (List.mem_of_getElem? hi')
    have:=(gsI hj)
    omega
   rw[hROW]
   rcases Nat.lt_or_ge i' n with hin|hin
   ·rw[List.getElem?_append_left (by simp;omega),List.getElem?_take,if_pos hin]at hi'
    obtain⟨c,c1,c2,c3⟩:=hcell i' e' j a hi' hj
    have hlt:i'*o.k+j<n*o.k:=by
     have:i'*o.k+o.k≤n*o.k:=by rw[←Nat.succ_mul];exact Nat.mul_le_mul_right _ hin
     omega
    refine⟨c,?_,c2,c3.ext x0⟩
    rw[Array.append_assoc,Array.getElem?_append_left (by omega)]
    simp[hlt,c1]
   ·rw[List.getElem?_append_right (by simp;omega)]at hi'
    have hil:i'-n<m:=by
     have:=(List.getElem?_eq_some_iff.1 hi').1
     simp at this
     omega
    rw[List.eq_of_mem_replicate (List.mem_of_getElem? hi')]at hj
    rw[hzeq,List.getElem?_map,Option.map_eq_some_iff]at hj
    obtain⟨c0,hc0,rfl⟩:=hj
    refine⟨c0,?_,h1 c0 (List.mem_of_getElem? hc0),ig c0⟩
    have h3:n*o.k≤i'*o.k:=Nat.mul_le_mul_right _ hin
    have h4:(i'-n)*o.k+o.k≤m*o.k:=by rw[←Nat.succ_mul];exact Nat.mul_le_mul_right _ hil
    have h5:i'*o.k+j-n*o.k=(i'-n)*o.k+j:=by rw[Nat.sub_mul];omega
    rw[Array.append_assoc,Array.getElem?_append_right (by omega),hl1,Array.getElem?_append_left (by omega),h5,hk,kX hzs hil (by omega)]
    simpa using hc0)
  refine⟨_,_,_,_,_,ok,by simpa[jI]using hrun,hC,g',x0.trans x',?_⟩
  have:=Rep.sref (w:=w.drew.alloc (.cells ROW e)) (ρ:=fH ρ H.length (some (w.drew.heap.size,G))) (H:=H++[some ⟨e,o.k,o.es.take n++List.replicate m zs⟩]) (ok:=ok) (id:=H.length) (lo:=0) (n:=n+m) (c:=G) cS (b:=w.drew.heap.size) (cap:=G) (by simp[fH]) (by simp;omega) (fun _=>rfl) hG1 hG2
  simpa using this
theorem Tk {x y:Value} {h1:#[x,y].size=2} {h2:0<2}:(#[x,y]:Array Value).getLit 0 h1 h2=x:=rfl
theorem TF {x y:Value} {h1:#[x,y].size=2} {h2:1<2}:(#[x,y]:Array Value).getLit 1 h1 h2=y:=rfl
theorem se {P:Program} (w:World) (tS tR e:TypeId) (ht:P.underlying tS=some (.slice e)) (size:Nat) (hz:∀w,(Go.sizeOf e).run P w= .ok size w)
  (a b:Addr) (la ca lb cb:Nat) (hne:a.block≠b.block) (tA tB:TypeId) (kA kB:Nat) (hsa:w.shape? a.block=some (tA,kA)) (hsb:w.shape? b.block=some (tB,kB)) (hkA:kA≠0)
  (hfb:w.frozen? b=false) (hfe:w.frozen? ⟨b.block,kB,none⟩=false):
  (Extern.SlicesOverlaps.overlaps #[tS,tS] #[tR] #[.slice (some a) la ca,.slice (some b) lb cb]).run P w= .ok (.bool false) w:=by
 have hnb:(a.block !=b.block)=true:=by simpa using hne
 have hnb':(a.block==b.block)=false:=by simpa using hne
 obtain⟨kA,rfl⟩:∃m,kA=m+1:=⟨kA-1,by omega⟩
 delta Extern.SlicesOverlaps.overlaps Extern.SlicesOverlaps.overlaps.match_4 Extern.SlicesOverlaps.overlaps._sparseCasesOn_4
 simp only[List.size_toArray,List.length_cons,List.length_nil,dite_true]
 dsimp only[Tk,TF]
 by_cases h0:la=0∨lb=0∨size=0
 ·simp[run_underlying ht,hz,h0]
 ·cases hfa:w.frozen? a<;>cases hfa':w.frozen? {block:=a.block,off:=kA+1}<;>simp[run_underlying ht,hz,h0,hnb,hnb',frozen,noView,viewAt,mayBeOne,stringish,shape,Sem.run,hsa,hsb,hfa,hfb,hfe,hfa']
theorem tT {f:FuncId} {fn:Func} {t e tR:TypeId} {y:AV} {e0:List AV} {es:List (List AV)} {k id' lo' dn':Nat} {o':AObj} {C:AV→ac→Prop} {b:Bx C} (hf:E.P.funcs[f]?=some fn) (hname:(fn.name== "runtime.NumGoroutine")=false) (hb:fn.body.isNone=true)
  (hn:Extern.findNext fn=none) (hfind:Extern.find fn=some (Extern.SlicesOverlaps.overlaps #[t,t] #[tR])) (he:aN E.P t=some e) (hkn:aA E.P e=true)
  (hk0:e0≠[]) (hy:y= .sref id' lo' dn'∨∃N,y= .full id' lo' dn' N) (ho':H[id']?=some (some o')) (hd':0<dn')
  (hC:C (.sc (.bool false)) H):lR E f [.list k (e0::es),y] H C b:=by
 refine .inr ⟨⟨_,_,hC⟩,fun w ρ ok vs g hsz hr=>?_⟩
 obtain⟨vx,vy,rfl⟩:=xK hsz
 have rx:=hr 0 vx _ rfl rfl
 obtain⟨b2,cap',c',rfl,hρ',hcap',hmx'⟩:=ui g hy ho' hd' (hr 1 vy _ rfl rfl)
 have hob':=g.obj id' o' ho'
 rw[hρ']at hob'
 obtain⟨cur',hb2,hs',_,_,_⟩:=hob'.cells hmx'
 cases rx with
 |@list ad n c _ _ fv hn' hnc hok hkk hcc h1 hh=>
  obtain⟨a0,e1,rfl⟩:=List.exists_cons_of_ne_nil hk0
  have hc0:=hcc 0 (a0::e1) 0 a0 rfl rfl
  have hne:ad.block≠b2:=fun e'=>(g.own id' o' b2 cap' ho' hρ').1 (e'▸hok)
  obtain⟨tA,kA,hsa,hkA⟩:∃tA kA,w.shape? ad.block=some (tA,kA)∧kA≠0:=by
   unfold World.cell? at hc0
   rw[eN]at hc0
   unfold World.shape?
   cases hb:w.heap[ad.block]? with
   |none=>simp[hb]at hc0
   |some x=>
    cases x with
    |cells cs el fz=>
     simp only[hb]at hc0
     split at hc0
     ·cases hc0
     ·exact⟨el,cs.size,rfl,fun h0=>by
       have:=(Array.getElem?_eq_some_iff.1 hc0).1
       omega⟩
    |_=>simp[hb]at hc0
  have h1:=se (P:=E.P) w t tR e (bw he) (aq E.P e) (fun w=>bz hkn w) ad ⟨b2,lo'*o'.k,none⟩ n c dn' c' hne tA o'.ty kA cur'.size hsa (by simp[World.shape?,hb2]) hkA (by simp[World.frozen?,hb2]) (by simp[World.frozen?,hb2])
  refine⟨.bool false,w,_,_,ρ,ok,?_,hC,g,Ext.refl _ _ _ _,.sc⟩
  rw[run_callFunc_extern hf hname hb hn hfind,h1]
  rfl
theorem pK {t t' e:TypeId} {x y:AV} {id lo dn ty k m:Nat} {es news es':List (List AV)} {C:AV→ac→Prop} {b:Bx C} (ho:H[id]?=some (some ⟨ty,k,es⟩)) (hx:x= .sref id lo dn∨∃N,x= .full id lo dn N) (he:aN E.P t=some e)
  (hk:k=aq E.P e) (hk0:0<k) (hkn:aA E.P e=true) (hs:je E.P e H y=some news) (hnl:news.length=m) (hl:m≤dn) (hpos:0<m) (hp:lo≤es.length) (hes:es.take lo++news++es.drop (lo+m)=es')
  (hC:C (.sc (goInt m)) (H.set id (some ⟨ty,k,es'⟩))):mN E .copy #[t,t'] [x,y] H C b:=by
 subst hes;subst hnl
 exact GE hx ho he hk hk0 hkn hs hl hpos hp hC
theorem D9 {t t' e:TypeId} {x:AV} {id lo dn id2 lo2 m2 N2 ty k:Nat} {es news es':List (List AV)} {C:AV→ac→Prop} {b:Bx C} (ho:H[id]?=some (some ⟨ty,k,es⟩)) (hx:x= .sref id lo dn∨∃N,x= .full id lo dn N) (he:aN E.P t=some e)
  (hk:k=aq E.P e) (hk0:0<k) (hkn:aA E.P e=true) (hs:je E.P e H (.full id2 lo2 dn N2)=some news) (hnl:news.length=dn) (hm2:dn≤m2) (hpos:0<dn) (hp:lo≤es.length) (hes:es.take lo++news++es.drop (lo+dn)=es')
  (hC:C (.sc (goInt dn)) (H.set id (some ⟨ty,k,es'⟩))):mN E .copy #[t,t'] [x,.full id2 lo2 m2 N2] H C b:=by
 subst hes;subst hnl
 exact tO hx ho he hk hk0 hkn hs rfl hm2 hpos hp hC
theorem ky {t e:TypeId} {x:AV} {id lo dn ty k:Nat} {es es':List (List AV)} {zs:List AV} {C:AV→ac→Prop} {b:Bx C} (ho:H[id]?=some (some ⟨ty,k,es⟩)) (hx:x= .sref id lo dn∨∃N,x= .full id lo dn N) (he:aN E.P t=some e)
  (hk:k=aq E.P e) (hk0:0<k) (hz:bP E.P e=some zs) (hpos:0<dn) (hp:lo≤es.length) (hes:es.take lo++List.replicate dn zs++es.drop (lo+dn)=es') (hC:C (.tup []) (H.set id (some ⟨ty,k,es'⟩))):mN E .clear #[t] [x] H C b:=by
 subst hes
 exact v4 hx ho he hk hk0 hz hpos hp hC
theorem Ak {t e:TypeId} {y:AV} {id n N ty k m L:Nat} {es news es':List (List AV)} {C:AV→ac→Prop} {b:Bx C} (ho:H[id]?=some (some ⟨ty,k,es⟩)) (he:aN E.P t=some e)
  (hk:k=aq E.P e) (hk0:0<k) (hkn:aA E.P e=true) (hs:je E.P e H y=some news) (hnl:news.length=m) (hl:n+m≤N) (hpos:0<m) (hp:n≤es.length) (hes:es.take n++news++es.drop L=es') (hL:n+m=L)
  (hC:C (.full id 0 L N) (H.set id (some ⟨ty,k,es'⟩))):mN E .append #[t,t] [.full id 0 n N,y] H C b:=by
 subst hL;subst hes;subst hnl
 exact u6 ho he hk hk0 hkn hs hl hpos hp hC
theorem As {t e:TypeId} {id n N k0 L:Nat} {o:AObj} {C:AV→ac→Prop} {b:Bx C} (ho:H[id]?=some (some o)) (he:aN E.P t=some e) (hkn:aA E.P e=true) (hl:n≤N) (hL:n=L)
  (hC:C (.full id 0 L N) H):mN E .append #[t,t] [.full id 0 n N,.list k0 []] H C b:=by
 subst hL
 refine⟨⟨_,_,hC⟩,fun w ρ ok ty vs g hsz hr=>?_⟩
 obtain⟨vx,vy,rfl⟩:=xK hsz
 have rx:=hr 0 vx _ rfl rfl
 have ry:=hr 1 vy _ rfl rfl
 have:∃A c,vy= .slice A 0 c:=by
  cases ry with
  |listNil=>exact⟨_,_,rfl⟩
  |list f hn _ _ _ _ _ _=>subst hn;exact⟨_,_,rfl⟩
 obtain⟨A,c,rfl⟩:=this
 cases rx with
 |fullDead hd _=>rw[ho]at hd;cases hd
 |@full _ _ _ _ o' b' ho' hρ hn hN=>
  refine⟨.slice (some ⟨b',0*o'.k,none⟩) n (N-0),w,_,_,ρ,ok,?_,hC,g,Ext.refl _ _ _ _,.full ho' hρ (by omega) hN⟩
  cases A<;>simp[jI,Builtin.append_,run_underlying (bw he),Builtin.lenOf,bz hkn,hl,Builtin.firstCells,loadCells,loadCellsFrom,storeCells]
theorem De {t tn e:TypeId} {id n N m ty k L:Nat} {es:List (List AV)} {zs:List AV} {x:Int} {kq kn:IntKind} {C:AV→ac→Prop} {b:Bx C} (ho:H[id]?=some (some ⟨ty,k,es⟩)) (he:aN E.P t=some e) (htn:E.P.underlying tn=some (.int kn))
  (hk:k=aq E.P e) (hk0:0<k) (hty:ty=e) (hz:bP E.P e=some zs) (hp:n≤es.length) (hx:x=(m:Int)) (hpos:0<m) (hL:n+m=L) (hroom:N<L) (h63:L≤9223372036854775807) (hb:L*bX E.P e≤140737488355328)
  (hC:C (.sref H.length 0 L) (H++[some ⟨ty,k,es.take n++List.replicate m zs⟩])):mN E .append #[t,tn] [.full id 0 n N,.sc (.int kq x)] H C b:=by
 subst hL;subst hx;subst hty
 exact rO ho he htn hk hk0 rfl hz hp hpos hroom h63 hb hC
end
theorem nM {H:ac} {g:FuncId} {cs cs' xs ys:List AV} (h:cs.map (kJ H)=cs') (hi:∀c,c∈cs'→Imm c) (ht:Args H xs ys):Args H (.fn g cs::xs) (.fn g cs'::ys):=
 yg.2 ⟨⟨by rw[z8,h];exact .refl _,by rw[z8,h];exact eW.2 hi⟩,ht⟩
theorem eX {α:Type} (enc:α→List AV) (l:List α) (i:Nat):(aj enc l).take i=aj enc (l.take i):=by simp[aj,List.map_take]
theorem du {α:Type} (enc:α→List AV) (l:List α) (i:Nat):(aj enc l).drop i=aj enc (l.drop i):=by simp[aj,List.map_drop]
theorem lr {α:Type} (enc:α→List AV) (l m:List α):aj enc l++aj enc m=aj enc (l++m):=by simp[aj]
theorem xP {α:Type} (enc:α→List AV) (l:List α) (i:Nat):(aj enc l)[i]?=(l[i]?).map enc:=by simp[aj]
theorem yF {P:Program} {row src:Option Nat} {f:FuncId} {args:List AV} {id n:Nat} {o:AObj} {H:ac} {C:AV→ac→Prop} (ho:H[id]?=some (some o)) (hne:o.es≠[]) (hn:n≤o.es.length)
  (h:∀N,o.es.length≤N→MFun P row src f (.full id 0 n N::args) H C):MFun P row src f (.sref id 0 n::args) H C:=by
 intro E hP hrow hsrc
 refine⟨(h o.es.length (Nat.le_refl _) E hP hrow hsrc).1,fun w ρ ok vs g hs hr=>?_⟩
 have h0:0<vs.size:=by rw[hs];simp
 have hv:=hr 0 vs[0] (.sref id 0 n) (Array.getElem?_eq_getElem h0) rfl
 have key:∃N,o.es.length≤N∧Rep w ρ H ok vs[0] (.full id 0 n N):=by
  have hobj:=g.obj id o ho
  generalize vs[0]=v at hv
  cases hv with
  |srefDead hd _=>rw[ho]at hd;cases hd
  |srefNil ho' hρ=>
   rw[hρ]at hobj
   exact absurd hobj hne
  |@sref _ _ _ c o' b cap ho' hρ hn' hc hnc hcap=>
   rw[ho]at ho'
   simp only[Option.some.injEq]at ho'
   subst ho'
   rw[hρ]at hobj
   obtain⟨_,_,_,hl,_,_⟩:=hobj.cells hcap
   have:=hc rfl
   subst this
   exact⟨c,hl,.full ho hρ (by omega) hcap⟩
 obtain⟨N,hN,hrep⟩:=key
 refine (h N hN E hP hrow hsrc).2 w ρ ok vs g hs fun i v a hv ha=>?_
 match i,hv,ha with
 |0,hv,ha=>
  rw[Array.getElem?_eq_getElem h0]at hv
  simp only[Option.some.injEq]at hv
  subst hv
  simp only[List.getElem?_cons_zero,Option.some.injEq]at ha
  subst ha
  exact hrep
 |i+1,hv,ha=>exact hr (i+1) v a hv ha
theorem sK {P:Program} {row src:Option Nat} {f:FuncId} {args:List AV} {H:ac} {C D:AV→ac→Prop} (h:MFun P row src f args H C)
  (hd:∀r H',C r H'→D r H'∨∃id n N o,r= .full id 0 n N∧H'[id]?=some (some o)∧n≤o.es.length∧D (.sref id 0 n) H'):MFun P row src f args H D:=by
 intro E hP hrow hsrc
 obtain⟨⟨x0,H0,h0⟩,hw⟩:=h E hP hrow hsrc
 refine⟨?_,fun w ρ ok vs g hs hr=>(hw w ρ ok vs g hs hr).mono ?_⟩
 ·rcases hd _ _ h0 with h1|⟨_,_,_,_,_,_,_,h1⟩<;>exact⟨_,_,h1⟩
 ·rintro e w' ⟨v,x,H',ρ',ok',rfl,hc,g',x',r'⟩
  rcases hd _ _ hc with h1|⟨id,n,N,o,rfl,ho,hn,h1⟩
  ·exact⟨v,x,H',ρ',ok',rfl,h1,g',x',r'⟩
  ·refine⟨v,_,H',ρ',ok',rfl,h1,g',x',?_⟩
   cases r' with
   |fullDead hd' _=>rw[ho]at hd';cases hd'
   |@full _ _ _ _ o' b ho' hρ hn' hN=>
    rw[ho]at ho'
    simp only[Option.some.injEq]at ho'
    subst ho'
    exact .sref ho hρ (by omega) (fun _=>by omega) (by omega) hN
def D0 (ops:Array Oper) (S T:List Nat) (listed:Array Bool) (i:Nat):Bool:=
 let A:=nC ops.toList []
 ((List.range ops.size).all fun j=>match ops[j]? with
  |none=>true
  |some o=>!listed.getD j false||o.after.toList.all fun e=>!Region.binds .any e||listed.getD e.on false)&&
 (decide (i∈Region.ready .any ops listed)&&match ops[i]? with
  |none=>false
  |some oi=>(List.range ops.size).all fun j=>match ops[j]? with
   |none=>true
   |some oj=>decide (j=i)||(listed.getD j true||((A.getD j 0).testBit i||(oi.apart ops oj&&pM S T i j oi oj))))
theorem lm {E:Env} {ops:Array Oper} {D:Nat→Bool} {S T:List Nat} {K:St→Prop} {n:Nat} (i:Nat) {oi:Oper} {listed:Array Bool} {s:St} (hi:ops[i]?=some oi) (hc:D0 ops S T listed i=true)
  (h:AXOps D E ops S T [oi] i s (fun s'=>XAny D E ops S T K n (listed.setIfInBounds i true) s')):XAny D E ops S T K (n+1) listed s:=by
 unfold D0 at hc
 simp only[Bool.and_eq_true,decide_eq_true_eq]at hc
 obtain⟨h1,h2,h3⟩:=hc
 rw[hi]at h3
 refine pJ hi n listed s (fun j o ho hj e he hb=>?_) (fun j oj hoj hji hun hanc=>?_) h2 h
 ·have:=List.all_eq_true.1 h1 j (List.mem_range.2 (Array.getElem?_eq_some_iff.1 ho).1)
  simp only[ho,hj,Bool.not_true,Bool.false_or]at this
  have:=List.all_eq_true.1 this e (by simpa using he)
  simpa[hb]using this
 ·have:=List.all_eq_true.1 h3 j (List.mem_range.2 (Array.getElem?_eq_some_iff.1 hoj).1)
  simp only[hoj,hji,hun,hanc,decide_false,Bool.false_or,Bool.and_eq_true]at this
  exact this
def SlIsT (H:ac) (x:AV) (k:Nat) (es:List (List AV)):Prop:=x= .list k es∨(x= .nil∧es=[])∨∃id ty tl,x= .sref id 0 es.length∧H[id]?=some (some ⟨ty,k,es++tl⟩)
theorem SlIsT.kept {H H':ac} {x:AV} {k:Nat} {es:List (List AV)} (h:SlIsT H x k es) (hk:Kept [] H H'):SlIsT H' x k es:=by
 rcases h with h|h|⟨id,ty,tl,h1,h2⟩
 ·exact .inl h
 ·exact .inr (.inl h)
 ·exact .inr (.inr ⟨id,ty,tl,h1,hk id _ (by simp) h2⟩)
theorem SlIsT.len {H:ac} {x:AV} {k:Nat} {es:List (List AV)} (h:SlIsT H x k es):kg H x=some (es.length:Int):=by
 rcases h with h|⟨rfl,rfl⟩|⟨id,ty,tl,rfl,h2⟩
 ·subst h;rfl
 ·rfl
 ·simp only[kg,h2]
theorem SlIsT.idx {P:Program} {t e:TypeId} {H:ac} {x:AV} {k:Nat} {es:List (List AV)} (h:SlIsT H x k es) (ht:Go.PA.aN P t=some e) (hk:k=aq P e) (hn:aA P e=true) (i:Nat) (hi:i<es.length):
  ∃a,bL P t H x i=some a∧aJ H a=some es[i]:=by
 rcases h with h|⟨rfl,rfl⟩|⟨id,ty,tl,rfl,h2⟩
 ·subst h
  refine⟨.iref es[i],?_,rfl⟩
  rw[wv ht]
  simp[hk,hn,hi]
 ·simp at hi
 ·have hi':i<es.length+tl.length:=by omega
  refine⟨.ref id i 0,?_,?_⟩
  ·rw[vH ht]
   simp[h2,hk,hn,hi,hi']
  ·rw[u4]
   simp[h2,List.getElem?_append_left hi,hi]
end Go.PA
namespace Go.Proofs.YtaenimpfelpafaaGreatDoor
open Go.PA
open Go.RowKit
section
variable {L:List UInt8} {i:Nat} {cur:List UInt8} {out:List Int}
end
theorem Lb {α:Type} {l:List α} {k:Nat} {e:α} (h:l[k]?=some e):l.drop k=e::l.drop (k+1):=by
 obtain⟨h1,h2⟩:=List.getElem?_eq_some_iff.1 h
 rw[List.drop_eq_getElem_cons h1,h2]
section
variable {c:TCash} {ms:List TMatch} {m:TMatch} {i k:Nat} {x:TClaim} {y:TIncome}
end
theorem kE {y:TIncome} (h:iK y=true):1≤y.Amount∧y.Amount≤1000000000000:=by
 simp only[iK,Bool.and_eq_true]at h
 exact iE.1 h.1.2
open Go.PA
open Go.RowKit
abbrev aR (l:List TIncome):AV:= .list 5 (aj TIncome.cells l)
abbrev cu (l:List TMatch):AV:= .list 3 (aj TMatch.cells l)
theorem fF (l:List TIncome):Imm (aR l):=aV _ TIncome.imm l
theorem i9 (l:List TMatch):Imm (cu l):=aV _ TMatch.imm l
theorem Gx (c:TCash):c.cells=[dt c.Claims,aR c.Incomes,cu c.Matches,.list 1 (aj aS c.Loose)]:=rfl
def Bj (l:List TIncome):Nat→Int
 |0=>0
 |k+1=>((l[k]?).map (·.Number)).getD 0
def CZ (l:List TIncome):Nat→Int
 |0=>0
 |k+1=>((l[k]?).map (·.Day)).getD 0
theorem sE (x:TIncome):PFun Tryz.prog none none 209 [.agg x.cells] (·=bv (iK x)):=by
 refine ab Tryz.func209 rfl (by simp[Tryz.f209]) (by kernel_rfl) ?_
 intro E hP hr hs hW hN
 obtain⟨R,hR⟩:∃R,R=iK x:=⟨_,rfl⟩
 rw[←hR]
 rw[iK]at hR
 by_cases h0:1≤x.Number
 rotate_left
 ·rw[kd (by omega)]at hR
  simp -dsimp -implicitDefEqProofs [-getElem?_pos,go_sem,hP,eg,h0,hR]
 by_cases h1:x.Number≤1000000
 rotate_left
 ·rw[kd (n:=x.Number) (by omega)]at hR
  simp -dsimp -implicitDefEqProofs [-getElem?_pos,go_sem,hP,eg,h0,h1,hR]
 rw[iE.2 ⟨h0,h1⟩]at hR
 by_cases h2:1≤x.Payer
 rotate_left
 ·rw[kd (n:=x.Payer) (by omega)]at hR
  simp -dsimp -implicitDefEqProofs [-getElem?_pos,go_sem,hP,eg,h0,h1,h2,hR]
 by_cases h3:x.Payer≤1000000
 rotate_left
 ·rw[kd (n:=x.Payer) (by omega)]at hR
  simp -dsimp -implicitDefEqProofs [-getElem?_pos,go_sem,hP,eg,h0,h1,h2,h3,hR]
 rw[iE.2 ⟨h2,h3⟩]at hR
 by_cases h4:0≤x.Day
 rotate_left
 ·rw[kd (n:=x.Day) (by omega)]at hR
  simp -dsimp -implicitDefEqProofs [-getElem?_pos,go_sem,hP,eg,h0,h1,h2,h3,h4,hR]
 by_cases h5:x.Day≤36000
 rotate_left
 ·rw[kd (n:=x.Day) (by omega)]at hR
  simp -dsimp -implicitDefEqProofs [-getElem?_pos,go_sem,hP,eg,h0,h1,h2,h3,h4,h5,hR]
 rw[iE.2 ⟨h4,h5⟩]at hR
 by_cases h6:1≤x.Amount
 rotate_left
 ·rw[kd (n:=x.Amount) (by omega)]at hR
  simp -dsimp -implicitDefEqProofs [-getElem?_pos,go_sem,hP,eg,h0,h1,h2,h3,h4,h5,h6,hR]
 by_cases h7:x.Amount≤1000000000000
 rotate_left
 ·rw[kd (n:=x.Amount) (by omega)]at hR
  simp -dsimp -implicitDefEqProofs [-getElem?_pos,go_sem,hP,eg,h0,h1,h2,h3,h4,h5,h6,h7,hR]
 rw[iE.2 ⟨h6,h7⟩]at hR
 by_cases h8:0≤x.Claim
 rotate_left
 ·rw[kd (n:=x.Claim) (by omega)]at hR
  simp -dsimp -implicitDefEqProofs [-getElem?_pos,go_sem,hP,eg,h0,h1,h2,h3,h4,h5,h6,h7,h8,hR]
 by_cases h9:x.Claim≤1000000
 rotate_left
 ·rw[kd (n:=x.Claim) (by omega)]at hR
  simp -dsimp -implicitDefEqProofs [-getElem?_pos,go_sem,hP,eg,h0,h1,h2,h3,h4,h5,h6,h7,h8,h9,hR]
 rw[iE.2 ⟨h8,h9⟩]at hR
 simp -dsimp -implicitDefEqProofs [-getElem?_pos,go_sem,hP,eg,h0,h1,h2,h3,h4,h5,h6,h7,h8,h9,hR]
theorem vD {x:TIncome} (h:iK x=true):0<x.Number∧0≤x.Day:=by
 simp only[iK,Bool.and_eq_true]at h
 have a1:=iE.1 h.1.1.1.1
 have a2:=iE.1 h.1.1.2
 omega
set_option maxHeartbeats 1000000 in
theorem sJ (l:List TIncome) (hl:l.length≤1000000):PFun Tryz.prog none none 139 [aR l] (·=bv (kr 0 0 l)):=by
 refine ab Tryz.func139 rfl (by simp[Tryz.f139]) (by kernel_rfl) ?_
 intro E hP hr hs hW hN
 obtain⟨R,hR⟩:∃R,R=kr 0 0 l:=⟨_,rfl⟩
 rw[←hR]
 simp -dsimp -implicitDefEqProofs [-getElem?_pos,go_sem,hP]
 obtain⟨I,hI⟩:∃I:Nat→St→Prop,I=fun m s=>∃k:Nat,k≤l.length∧m=l.length-k∧R=kr (Bj l k) (CZ l k) (l.drop k)∧s.t 0=aR l∧s.t 5=aR l∧s.t 6=iv l.length∧s.t 7=iv k:=⟨_,rfl⟩
 refine ay I (l.length) (by rw[hN];rfl) ?_ ?_
 ·rw[hI]
  exact⟨0,by omega,by omega,hR,by simp -dsimp[-getElem?_pos,go_sem],by simp -dsimp[-getElem?_pos,go_sem],by simp -dsimp[-getElem?_pos,go_sem],by simp -dsimp[-getElem?_pos,go_sem]⟩
 intro m s hs'
 rw[hI]at hs'
 obtain⟨k,hk,hm,hRk,t0,t5,t6,t7⟩:=hs'
 simp -dsimp -implicitDefEqProofs [-getElem?_pos,go_sem,hP,t6,t7]
 refine aB (fun h=>?_) (fun h=>?_)
 ·have hk:k<l.length:=by simpa using h
  obtain⟨x,hx⟩:∃x,l[k]?=some x:=⟨_,List.getElem?_eq_getElem hk⟩
  have wk:=af ((k:Int)+1) (by omega)
  have px:=EL x
  have ix:=az.2 (TIncome.imm x)
  rw[eg]at px ix
  rw[Lb hx,kr]at hRk
  simp -dsimp -implicitDefEqProofs [-getElem?_pos,go_sem,hP,t5,t7,hx,eg]
  refine ao (fun _=>true) [] hP (by kernel_rfl) (by kernel_rfl) ?_
  simp -dsimp -implicitDefEqProofs [-getElem?_pos,go_sem,hP]
  refine ah px hP NV (ai (by simpa using ix)) .sc ?_
  cases c1:iK x
  ·rw[c1,Bool.false_and,Bool.false_and,Bool.false_and]at hRk
   simp -dsimp -implicitDefEqProofs [-getElem?_pos,go_sem,hP,hRk]
  have pos:=vD c1
  rw[c1,Bool.true_and]at hRk
  have fin:∀s':St,R=kr x.Number x.Day (l.drop (k+1))→s'.t 0=aR l→s'.t 5=aR l→s'.t 6=iv l.length→s'.t 7=iv ((k:Int)+1)→∃m',m'<l.length-k∧I m' s':=fun s' a1 a2 a3 a4 a5=>by
   refine⟨l.length-(k+1),by omega,?_⟩
   rw[hI]
   refine⟨k+1,by omega,rfl,?_,a2,a3,a4,by rw[a5];simp⟩
   rw[a1]
   simp[Bj,CZ,hx]
  subst hm
  cases k with
  |zero=>
   have d:decide ((0:Int)<x.Number)=true:=decide_eq_true (by omega)
   have d':decide ((0:Int)≤x.Day)=true:=decide_eq_true (by omega)
   rw[Bj,CZ,d,d',Bool.true_and,Bool.true_and]at hRk
   have w1:IntKind.i64.wrap 1=1:=af 1 (by omega)
   simp -dsimp -implicitDefEqProofs [-getElem?_pos,go_sem,hP,t7,w1]
   exact fin _ hRk (by simp -dsimp[-getElem?_pos,go_sem,t0]) (by simp -dsimp[-getElem?_pos,go_sem,t5]) (by simp -dsimp[-getElem?_pos,go_sem,t6]) (by simp -dsimp[-getElem?_pos,go_sem,w1])
  |succ j=>
   obtain⟨y,hy⟩:∃y,l[j]?=some y:=⟨_,List.getElem?_eq_getElem (by omega)⟩
   have wj:=af ((j:Int)+1-1) (by omega)
   rw[Int.add_sub_cancel]at wj
   have ep:Bj l (j+1)=y.Number:=by simp[Bj,hy]
   have ep2:CZ l (j+1)=y.Day:=by simp[CZ,hy]
   rw[ep,ep2]at hRk
   have d0:decide ((0:Int)<(j:Int)+1)=true:=decide_eq_true (by omega)
   have wk2:=af ((j:Int)+1+1) (by omega)
   by_cases c2:y.Number<x.Number
   ·have d:decide (x.Number≤y.Number)=false:=decide_eq_false (by omega)
    have d2:decide (y.Number<x.Number)=true:=decide_eq_true c2
    rw[d2,Bool.true_and]at hRk
    by_cases c3:y.Day≤x.Day
    ·have d3:decide (x.Day<y.Day)=false:=decide_eq_false (by omega)
     have d4:decide (y.Day≤x.Day)=true:=decide_eq_true c3
     rw[d4,Bool.true_and]at hRk
     simp -dsimp -implicitDefEqProofs [-getElem?_pos,go_sem,hP,t0,t7,d0,Int.add_sub_cancel,wj,hy,eg,d,d3,wk2]
     exact fin _ hRk (by simp -dsimp[-getElem?_pos,go_sem,t0]) (by simp -dsimp[-getElem?_pos,go_sem,t5]) (by simp -dsimp[-getElem?_pos,go_sem,t6]) (by simp -dsimp[-getElem?_pos,go_sem])
    ·have d3:decide (x.Day<y.Day)=true:=decide_eq_true (by omega)
     have d4:decide (y.Day≤x.Day)=false:=decide_eq_false c3
     rw[d4,Bool.false_and]at hRk
     simp -dsimp -implicitDefEqProofs [-getElem?_pos,go_sem,hP,t0,t7,d0,Int.add_sub_cancel,wj,hy,eg,d,d3,wk2,hRk]
   ·have d:decide (x.Number≤y.Number)=true:=decide_eq_true (by omega)
    have d2:decide (y.Number<x.Number)=false:=decide_eq_false c2
    rw[d2,Bool.false_and,Bool.false_and]at hRk
    simp -dsimp -implicitDefEqProofs [-getElem?_pos,go_sem,hP,t0,t7,d0,Int.add_sub_cancel,wj,hy,eg,d,wk2,hRk]
 ·have hk:k=l.length:=by simp at h;omega
  subst hk
  rw[List.drop_length,kr]at hRk
  simp -dsimp -implicitDefEqProofs [-getElem?_pos,go_sem,hP,hRk]
open Go.PA
open Go.RowKit
structure FitC (c:TCash):Prop where
 fc:c.Claims.length≤100000
 fi:c.Incomes.length≤100000
 fm:c.Matches.length≤100000
 fl:c.Loose.length≤100000
 code:∀x,x∈c.Claims→x.Code.size≤1000000
abbrev dH (xs:List Int):List (List AV):=aj aS xs
theorem HY (xs:List Int) (k:Nat) (v:Int):(dH xs).set k [iv v]=dH (xs.set k v):=by simp[dH,aj,aS]
theorem ov {xs:List Int} {k:Nat} {v:Int} (h:xs[k]?=some v):(dH xs)[k]?=some [iv v]:=by simp[dH,aj,aS,h]
theorem fO (xs:List Int):(dH xs).length=xs.length:=by simp[dH,aj]
theorem jZ (n:Nat):List.replicate n [iv 0]=dH (List.replicate n 0):=by simp[dH,aj,aS]
theorem Ke {α:Type} {l:List α} {f:α→Int} {xs:List Int} (hl:xs.length=l.length) (h:∀(j:Nat) (x:α),j<l.length→l[j]?=some x→xs[j]?=some (f x)):xs=l.map f:=by
 apply List.ext_getElem?
 intro j
 rw[List.getElem?_map]
 by_cases e:j<l.length
 ·rw[h j _ e (List.getElem?_eq_getElem e),List.getElem?_eq_getElem e]
  rfl
 ·rw[List.getElem?_eq_none (by omega),List.getElem?_eq_none (by omega)]
  rfl
open Go.PA
open Go.RowKit
def csh (l:List TIncome):TCash:=⟨[],l,[],l.map (·.Amount)⟩
def CsOk (l:List TIncome):Prop:=kr 0 0 l=true∧l.length≤100
theorem Cj (l:List TIncome):(csh l).cells=[.list 6 [],aR l,.list 3 [],.list 1 (aj aS (l.map (·.Amount)))]:=rfl
theorem BG (l:List TIncome):Imm (.agg (csh l).cells):=az.2 (csh l).imm
set_option maxHeartbeats 4000000 in
set_option maxRecDepth 8000 in
theorem AA (l:List TIncome) (hx:CsOk l):PFun Tryz.prog none none 140 [.agg (csh l).cells] (·=bv true):=by
 refine ab Tryz.func140 rfl (by simp[Tryz.f140]) (by kernel_rfl) ?_
 intro E hP hr hs hW hN
 obtain⟨hx,hfi⟩:=hx
 have iw:=((ij _ _ _).1 hx).1
 obtain⟨nI,hnI⟩:∃n,n=l.length:=⟨_,rfl⟩
 rw[←hnI]at hfi
 obtain⟨ls,hls⟩:∃ls,ls=l.map (·.Amount):=⟨_,rfl⟩
 have lls:ls.length=nI:=by rw[hls,List.length_map,hnI]
 obtain⟨O,hO⟩:∃O:AObj,O=⟨40,4,[[.list 6 [],aR l,.list 3 [],.list 1 (aj aS ls)]]⟩:=⟨_,rfl⟩
 obtain⟨Inv,hInv⟩:∃Inv:St→Prop,Inv=fun s=>∃a b,a≠b∧0<a∧0<b∧s.t 1= .ref 0 0 0∧s.t 3= .sref a 0 0∧s.t 4= .sref b 0 nI∧s.H[0]?=some (some O)∧s.H[b]?=some (some ⟨3,1,dH (List.replicate nI 0)⟩):=⟨_,rfl⟩
 simp -dsimp -implicitDefEqProofs [-getElem?_pos,go_sem,hP,Cj,←hls]
 simp only[←hO]
 refine nY Inv ?_ ?_
 ·refine Pc (fun id=>decide (id=0)) [] [] 3 hP (by kernel_rfl) (by kernel_rfl) (by simp) ?_
  simp -dsimp -implicitDefEqProofs [-getElem?_pos,go_sem,hP,List.take_succ_cons,List.take_zero,hO,ax]
  refine lm 4 rfl (by kernel_rfl) ?_
  simp -dsimp -implicitDefEqProofs [-getElem?_pos,go_sem,hP,hO,ax]
  refine lm 5 rfl (by kernel_rfl) ?_
  simp -dsimp -implicitDefEqProofs [-getElem?_pos,go_sem,hP,hO,ax]
  refine lm 6 rfl (by kernel_rfl) ?_
  simp -dsimp -implicitDefEqProofs [-getElem?_pos,go_sem,hP,hO,←hnI,ax]
  refine KC (i:=3) (j:=7) (by kernel_rfl) rfl rfl ?_ ?_
  ·simp -dsimp -implicitDefEqProofs [-getElem?_pos,go_sem,hP,jZ,ax]
   refine⟨qc,?_⟩
   refine lm 8 rfl (by kernel_rfl) ?_
   simp -dsimp -implicitDefEqProofs [-getElem?_pos,go_sem,hP,ax]
   refine nH (i:=7) (by kernel_rfl) rfl ?_
   simp -dsimp -implicitDefEqProofs [-getElem?_pos,go_sem,hP,jZ,ax]
   refine⟨by omega,by omega,qc,?_⟩
   refine nH (i:=9) (by kernel_rfl) rfl ?_
   simp -dsimp -implicitDefEqProofs [-getElem?_pos,go_sem,hP,ax]
   refine BJ (by kernel_rfl) ?_
   rw[hInv]
   exact⟨1,2,by omega,by omega,by omega,by simp -dsimp[-getElem?_pos,go_sem],by simp -dsimp[-getElem?_pos,go_sem],by simp -dsimp[-getElem?_pos,go_sem],by simp -dsimp[-getElem?_pos,go_sem,hO],by simp -dsimp[-getElem?_pos,go_sem]⟩
  ·simp -dsimp -implicitDefEqProofs [-getElem?_pos,go_sem,hP,jZ,ax]
   refine⟨by omega,by omega,qc,?_⟩
   refine nH (i:=3) (by kernel_rfl) rfl ?_
   simp -dsimp -implicitDefEqProofs [-getElem?_pos,go_sem,hP,jZ,ax]
   refine⟨qc,?_⟩
   refine nH (i:=8) (by kernel_rfl) rfl ?_
   simp -dsimp -implicitDefEqProofs [-getElem?_pos,go_sem,hP,ax]
   refine nH (i:=9) (by kernel_rfl) rfl ?_
   simp -dsimp -implicitDefEqProofs [-getElem?_pos,go_sem,hP,ax]
   refine BJ (by kernel_rfl) ?_
   rw[hInv]
   exact⟨2,1,by omega,by omega,by omega,by simp -dsimp[-getElem?_pos,go_sem],by simp -dsimp[-getElem?_pos,go_sem],by simp -dsimp[-getElem?_pos,go_sem],by simp -dsimp[-getElem?_pos,go_sem,hO],by simp -dsimp[-getElem?_pos,go_sem]⟩
 rw[hInv]
 rintro s ⟨a,b,nab,pa,pb,t1,t3,t4,h0,hb⟩
 have lt0:=(gsI h0)
 simp -dsimp -implicitDefEqProofs [-getElem?_pos,go_sem,hP,t1,h0,lt0,hO]
 refine ay (fun n s=>n=0∧s=_) 0 (by rw[hN];rfl) ⟨rfl,rfl⟩ ?_
 rintro _ _ ⟨rfl,rfl⟩
 simp -dsimp -implicitDefEqProofs [-getElem?_pos,go_sem,hP,t1,h0,lt0,hO,←hnI]
 obtain⟨I,hI⟩:∃I:Nat→St→Prop,I=fun m s=>∃(k:Nat) (xs:List Int),k≤nI∧m=nI-k∧xs.length=nI∧(∀(j:Nat) (x:TIncome),j<k→l[j]?=some x→xs[j]?=some x.Amount)∧s.t 1= .ref 0 0 0∧s.t 4= .sref b 0 nI∧s.t 40=aR l∧s.t 41=iv nI∧s.t 42=iv k∧s.H[0]?=some (some O)∧s.H[b]?=some (some ⟨3,1,dH xs⟩):=⟨_,rfl⟩
 refine ay I (nI) (by rw[hN];rfl) ?_ ?_
 ·rw[hI]
  exact⟨0,List.replicate nI 0,by omega,by omega,List.length_replicate,fun j x hj=>by omega,by simp -dsimp[-getElem?_pos,go_sem,t1],by simp -dsimp[-getElem?_pos,go_sem,t4],by simp -dsimp[-getElem?_pos,go_sem],by simp -dsimp[-getElem?_pos,go_sem],by simp -dsimp[-getElem?_pos,go_sem],by simp -dsimp[-getElem?_pos,go_sem,h0,hO],by simp -dsimp[-getElem?_pos,go_sem,hb]⟩
 clear t1 t3 t4 h0 hb lt0
 intro m s hs'
 rw[hI]at hs'
 obtain⟨k,xs,hk,hm,hxl,hxs,t1,t4,t40,t41,t42,h0,hb⟩:=hs'
 have lt0:=(gsI h0)
 have ltb:=(gsI hb)
 simp -dsimp -implicitDefEqProofs [-getElem?_pos,go_sem,hP,t41,t42]
 refine aB (fun h=>?_) (fun h=>?_)
 ·have hk:k<nI:=by simpa using h
  obtain⟨x,hx⟩:∃x,l[k]?=some x:=⟨_,List.getElem?_eq_getElem (by omega)⟩
  obtain⟨v,hv⟩:∃v,xs[k]?=some v:=⟨_,List.getElem?_eq_getElem (by omega)⟩
  have wk:=af ((k:Int)+1) (by omega)
  have rv:=ov hv
  have rs:=HY xs k x.Amount
  have rl:=fO xs
  obtain⟨rw',hrw⟩:∃r,r=dH xs:=⟨_,rfl⟩
  rw[←hrw]at hb rv rs rl
  have nb0:¬b=0:=by omega
  simp -dsimp -implicitDefEqProofs [-getElem?_pos,go_sem,hP,t40,t42,hx,eg,t4,hb,ltb,rv,rl,hxl,hk,wk]
  refine⟨nI-(k+1),by omega,?_⟩
  rw[hI]
  refine⟨k+1,xs.set k x.Amount,by omega,rfl,by simp[hxl],fun j y hj hy=>?_,by simp -dsimp[-getElem?_pos,go_sem,t1],by simp -dsimp[-getElem?_pos,go_sem,t4],by simp -dsimp[-getElem?_pos,go_sem,t40],by simp -dsimp[-getElem?_pos,go_sem,t41],by simp -dsimp[-getElem?_pos,go_sem],by simp -dsimp[-getElem?_pos,go_sem,lt0,h0,nb0],by simp -dsimp[-getElem?_pos,go_sem,ltb,rs]⟩
  by_cases e:j=k
  ·subst e
   rw[hx]at hy
   cases hy
   exact List.getElem?_set_self (by omega)
  ·rw[List.getElem?_set_ne (fun h=>e h.symm)]
   exact hxs j y (by omega) hy
 have hk:nI=k:=by
  have:¬k<nI:=by simpa using h
  omega
 subst hk
 have exs:xs=ls:=by
  rw[hls]
  exact Ke (by omega) fun j x hj hx=>hxs j x (by omega) hx
 subst exs
 clear hxs hxl hI h t40 t41 t42
 have rly:=fO xs
 simp -dsimp -implicitDefEqProofs [-getElem?_pos,go_sem,hP,t1,h0,lt0,hO]
 refine ay (fun n s=>n=0∧s=_) 0 (by rw[hN];rfl) ⟨rfl,rfl⟩ ?_
 rintro _ _ ⟨rfl,rfl⟩
 simp -dsimp -implicitDefEqProofs [-getElem?_pos,go_sem,hP,t1,h0,lt0,hO]
 refine ay (fun n s=>n=0∧s=_) 0 (by rw[hN];rfl) ⟨rfl,rfl⟩ ?_
 rintro _ _ ⟨rfl,rfl⟩
 simp -dsimp -implicitDefEqProofs [-getElem?_pos,go_sem,hP,t1,h0,lt0,hO,lls]
 obtain⟨I,hI⟩:∃I:Nat→St→Prop,I=fun m s=>∃(k:Nat),k≤nI∧m=nI-k∧s.t 4= .sref b 0 nI∧s.t 150= .list 1 (aj aS xs)∧s.t 151=iv nI∧s.t 152=iv k∧s.H[b]?=some (some ⟨3,1,dH xs⟩):=⟨_,rfl⟩
 refine ay I (nI) (by rw[hN];rfl) ?_ ?_
 ·rw[hI]
  exact⟨0,by omega,by omega,by simp -dsimp[-getElem?_pos,go_sem,t4],by simp -dsimp[-getElem?_pos,go_sem],by simp -dsimp[-getElem?_pos,go_sem],by simp -dsimp[-getElem?_pos,go_sem],by simp -dsimp[-getElem?_pos,go_sem,hb]⟩
 clear t1 t4 h0 hb lt0
 intro m s hs'
 rw[hI]at hs'
 obtain⟨k,hk,hm,t4,t150,t151,t152,hb⟩:=hs'
 have ltb:=(gsI hb)
 simp -dsimp -implicitDefEqProofs [-getElem?_pos,go_sem,hP,t151,t152]
 refine aB (fun h=>?_) (fun h=>?_)
 ·have hk:k<nI:=by simpa using h
  obtain⟨y,hy1⟩:∃y,l[k]?=some y:=⟨_,List.getElem?_eq_getElem (by omega)⟩
  have hlo:xs[k]?=some y.Amount:=by rw[hls];simp[hy1]
  have am:=kE (iw y (List.mem_of_getElem? hy1)).1
  have rv:=ov hlo
  have wk:=af ((k:Int)+1) (by omega)
  have c1:¬y.Amount<0:=by omega
  simp -dsimp -implicitDefEqProofs [-getElem?_pos,go_sem,hP,t150,t152,hlo,aS,c1,t4,hb,ltb,rv,rly,lls,hk,wk]
  refine⟨nI-(k+1),by omega,?_⟩
  rw[hI]
  exact⟨k+1,by omega,rfl,by simp -dsimp[-getElem?_pos,go_sem,t4],by simp -dsimp[-getElem?_pos,go_sem,t150],by simp -dsimp[-getElem?_pos,go_sem,t151],by simp -dsimp[-getElem?_pos,go_sem],by simp -dsimp[-getElem?_pos,go_sem,hb]⟩
 simp -dsimp -implicitDefEqProofs [-getElem?_pos,go_sem,hP]
theorem vn (l:List TIncome) (hx:CsOk l):PFun Tryz.prog none none 84 [.agg (csh l).cells] (·=iv 0):=by
 refine ab Tryz.func84 rfl (by simp[Tryz.f84]) (by kernel_rfl) ?_
 intro E hP hr hs hW hN
 have ii:=fF l
 have ic:=BG l
 have mp:=AA l hx
 rw[Cj]at ic mp
 obtain⟨h1,h2⟩:=hx
 have d2:decide ((100:Int)<(l.length:Int))=false:=decide_eq_false (by omega)
 have nc:PFun Tryz.prog none none 138 [.list 6 []] (·=bv true):=by
  refine ab Tryz.func138 rfl (by simp[Tryz.f138]) (by kernel_rfl) ?_
  intro E hP hr hs hW hN
  simp -dsimp -implicitDefEqProofs [-getElem?_pos,go_sem,hP]
  refine ay (fun n s=>n=0∧s=_) 0 (by rw[hN];rfl) ⟨rfl,rfl⟩ ?_
  rintro _ _ ⟨rfl,rfl⟩
  simp -dsimp -implicitDefEqProofs [-getElem?_pos,go_sem,hP]
 simp -dsimp -implicitDefEqProofs [-getElem?_pos,go_sem,hP,Cj,d2]
 refine ah nc hP Lq (ai (by simp -dsimp[-getElem?_pos,go_sem])) .sc ?_
 simp -dsimp -implicitDefEqProofs [-getElem?_pos,go_sem,hP]
 refine ah (sJ l (by omega)) hP JA (ai (by simpa using ii)) .sc ?_
 simp -dsimp -implicitDefEqProofs [-getElem?_pos,go_sem,hP,h1,al,List.length_map]
 refine ah mp hP NM (ai (by simpa using ic)) .sc ?_
 simp -dsimp -implicitDefEqProofs [-getElem?_pos,go_sem,hP]
open Go.PA
open Go.RowKit
open Go.PA
open Go.RowKit
open Go.PA
open Go.RowKit
def Grown (n:Nat) (H:ac) (x:AV) (ty:TypeId) (k:Nat) (es:List (List AV)):Prop:=(x= .nil∧es=[])∨∃id,n≤id∧x= .sref id 0 es.length∧H[id]?=some (some ⟨ty,k,es⟩)
theorem Grown.cw {n:Nat} {H:ac} {x:AV} {ty:TypeId} {k:Nat} {es:List (List AV)} {xs ys:List AV} (h:Grown n H x ty k es) (hi:Imm (.list k es)) (t:CW H xs ys):CW H (x::xs) (.list k es::ys):=by
 rcases h with⟨rfl,rfl⟩|⟨id,_,rfl,h⟩
 ·exact bW t
 ·exact da h rfl hi t
theorem Grown.cellish {n:Nat} {H:ac} {x:AV} {ty:TypeId} {k:Nat} {es:List (List AV)} (h:Grown n H x ty k es):x.cellish=true:=by
 rcases h with⟨rfl,rfl⟩|⟨id,_,rfl,h⟩<;>rfl
theorem Grown.kept {n:Nat} {H H':ac} {x:AV} {ty:TypeId} {k:Nat} {es:List (List AV)} {X:List Nat} (h:Grown n H x ty k es) (hk:Kept X H H') (hX:∀i,i∈X→i<n):Grown n H' x ty k es:=by
 rcases h with⟨rfl,rfl⟩|⟨id,hn,rfl,h⟩
 ·exact .inl ⟨rfl,rfl⟩
 ·refine .inr ⟨id,hn,rfl,hk _ _ (fun hi=>?_) h⟩
  have:=hX id hi
  omega
def Io (c:TCash) (x:TIncome):TCash:={c with Incomes:=c.Incomes++[x],Loose:=c.Loose++[x.Amount]}
open Go.PA
open Go.RowKit
def Own (n0:Nat) (H:ac) (x:AV) (ty:TypeId) (k:Nat) (es:List (List AV)):Prop:=∃id,n0≤id∧x= .sref id 0 es.length∧H[id]?=some (some ⟨ty,k,es⟩)
structure HC (n0:Nat) (H:ac) (p:Nat) (c:TCash) (A B D F:AV):Prop where
 len:n0≤H.length
 obj:H[p]?=some (some ⟨40,4,[[A,B,D,F]]⟩)
 a:Own n0 H A 145 6 (aj TClaim.cells c.Claims)
 b:Own n0 H B 79 5 (aj TIncome.cells c.Incomes)
 d:Own n0 H D 149 3 (aj TMatch.cells c.Matches)
 f:Own n0 H F 3 1 (dH c.Loose)
theorem pg {H:ac} {i j:Nat} {o o':AObj} (hi:H[i]?=some (some o)) (hj:H[j]?=some (some o')) (h:¬o.ty=o'.ty):¬i=j:=fun e=>by
 subst e
 rw[hi]at hj
 cases hj
 exact h rfl
open Go.PA
open Go.RowKit
open Go.PA
open Go.RowKit
section
variable {α:Type} (val:α→Int) (lt:α→α→Bool) (g:FuncId) (cap:AV)
end
open Go.PA
open Go.RowKit
open Go.PA
open Go.RowKit
open Go.PA
open Go.RowKit
def Om (H:ac) (n0:Nat) (c:TCash) (r:AV):Prop:=∃A B D F,r= .agg [A,B,D,F]∧Own n0 H A 145 6 (aj TClaim.cells c.Claims)∧Own n0 H B 79 5 (aj TIncome.cells c.Incomes)∧Own n0 H D 149 3 (aj TMatch.cells c.Matches)∧Own n0 H F 3 1 (dH c.Loose)
theorem qk {H l l':ac} {x:Option AObj}:Agree (fun i=>decide (i=H.length)) (H++x::l) (H++x::l'):=fun i hi=>by
 simp only[decide_eq_true_eq]at hi
 subst hi
 simp
theorem FC {c:TCash} {H H':ac} {i1 i2 i3 i4:Nat} {a b d f:Nat} (h1:H.length≤i1) (h2:H.length≤i2) (h3:H.length≤i3) (h4:H.length≤i4) (ea:a=c.Claims.length) (eb:b=c.Incomes.length) (ed:d=c.Matches.length) (ef:f=c.Loose.length)
  (g1:H'[i1]?=some (some ⟨145,6,aj TClaim.cells c.Claims⟩)) (g2:H'[i2]?=some (some ⟨79,5,aj TIncome.cells c.Incomes⟩)) (g3:H'[i3]?=some (some ⟨149,3,aj TMatch.cells c.Matches⟩)) (g4:H'[i4]?=some (some ⟨3,1,dH c.Loose⟩)):
  Om H' H.length c (.agg [.sref i1 0 a,.sref i2 0 b,.sref i3 0 d,.sref i4 0 f]):=
 ⟨_,_,_,_,rfl,⟨i1,h1,by rw[al,ea],g1⟩,⟨i2,h2,by rw[al,eb],g2⟩,⟨i3,h3,by rw[al,ed],g3⟩,⟨i4,h4,by rw[fO,ef],g4⟩⟩
set_option maxHeartbeats 4000000 in
theorem Gy {row src:Option Nat} (c:TCash) (H:ac) (hf:FitC c):
  MFun Tryz.prog row src 210 [.agg c.cells] H (fun r H'=>Om H' H.length c r∧Kept [] H H'):=by
 obtain⟨C,hC⟩:∃C:AV→ac→Prop,C=fun r H'=>Om H' H.length c r∧Kept [] H H':=⟨_,rfl⟩
 rw[←hC]
 have i1:=wW c.Claims
 have i2:=fF c.Incomes
 have i3:=i9 c.Matches
 have i4:Imm (.list 1 (aj aS c.Loose)):=c.imm _ (by simp[Gx])
 have f1:=hf.fc
 have f2:=hf.fi
 have f3:=hf.fm
 have f4:=hf.fl
 have ex:∃r H',C r H':=by
  obtain⟨H1,hH1⟩:∃H1:ac,H1=H++[some ⟨145,6,aj TClaim.cells c.Claims⟩,some ⟨79,5,aj TIncome.cells c.Incomes⟩,some ⟨149,3,aj TMatch.cells c.Matches⟩,some ⟨3,1,dH c.Loose⟩]:=⟨_,rfl⟩
  rw[hC]
  refine⟨_,H1,FC (i1:=H.length) (i2:=H.length+1) (i3:=H.length+2) (i4:=H.length+3) (by omega) (by omega) (by omega) (by omega) rfl rfl rfl rfl ?_ ?_ ?_ ?_,by rw[hH1];exact aK _ _ _⟩
  all_goals
   rw[hH1,List.getElem?_append_right (by omega)]
   simp
 refine aI Tryz.func210 rfl (by simp[Tryz.f210]) (by kernel_rfl) (ex) ?_
 intro E hP hr hs hN
 simp -dsimp -implicitDefEqProofs [-getElem?_pos,go_sem,hP,Gx]
 refine ao (fun i=>decide (i=H.length)) [13] hP (by kernel_rfl) (by kernel_rfl) ?_
 simp -dsimp -implicitDefEqProofs [-getElem?_pos,go_sem,hP,ax]
 refine⟨by omega,by omega,qk,by omega,by omega,qk,by omega,by omega,qk,by omega,by omega,qk,?_⟩
 rw[hC]
 refine⟨FC (i1:=H.length+2) (i2:=H.length+3) (i3:=H.length+4) (i4:=H.length+5) (by omega) (by omega) (by omega) (by omega) rfl rfl rfl rfl ?_ ?_ ?_ ?_,?_⟩
 ·simp -dsimp -implicitDefEqProofs [-getElem?_pos,go_sem]
 ·simp -dsimp -implicitDefEqProofs [-getElem?_pos,go_sem]
 ·simp -dsimp -implicitDefEqProofs [-getElem?_pos,go_sem]
 ·simp -dsimp -implicitDefEqProofs [-getElem?_pos,go_sem]
 ·exact aK _ _ _
open Go.PA
open Go.RowKit
theorem oq {a b c:AV} (ha:Imm a) (hb:Imm b) (hc:Imm c):Imm (.tup [a,b,c]):=by
 refine .tup fun x hx=>?_
 simp only[List.mem_cons,List.not_mem_nil,or_false]at hx
 rcases hx with rfl|rfl|rfl<;>assumption
theorem wO {a b c a' b' c':AV} (ha:Weak a a') (hb:Weak b b') (hc:Weak c c'):Weak (.tup [a,b,c]) (.tup [a',b',c']):=by
 refine .tup rfl fun i x y hx hy=>?_
 match i,hx,hy with
 |0,hx,hy=>simp at hx hy;subst hx;subst hy;exact ha
 |1,hx,hy=>simp at hx hy;subst hx;subst hy;exact hb
 |2,hx,hy=>simp at hx hy;subst hx;subst hy;exact hc
 |i+3,hx,hy=>simp at hx
theorem rq {H:ac}:CW H [.nil,.nil,.nil,.nil] Aj.cells:=bW (bW (bW (bW .nil)))
theorem jx {H:ac} {n:Int} {Q:AV→Prop} {b:Bx Q} (h:Q (.tup [.agg Aj.cells,cu [],iv n])):jO H (.tup [.agg [.nil,.nil,.nil,.nil],.nil,iv n]) Q b:=
 gy (oq (rq (H:=H)).imm .nil .sc) (oq (rq (H:=H)).imm' (i9 []) .sc) (wO rq.weak (.nil 3) (.refl _)) h
theorem HA {D:Nat→Bool} {X X' l l':ac} (hl:X.length=X'.length) (h:∀i,D i=true→i<X.length∧X'[i]?=X[i]?):Agree D (X++l) (X'++l'):=fun i hi=>by
 obtain⟨h1,h2⟩:=h i hi
 rw[List.getElem?_append_left h1,List.getElem?_append_left (by omega),h2]
theorem DR {D:Nat→Bool} {X X' l':ac} (hl:X.length=X'.length) (h:∀i,D i=true→i<X.length∧X'[i]?=X[i]?):Agree D X (X'++l'):=fun i hi=>by
 obtain⟨h1,h2⟩:=h i hi
 rw[List.getElem?_append_left (by omega),h2]
theorem Own.cw {n:Nat} {H:ac} {x:AV} {ty:TypeId} {k:Nat} {es:List (List AV)} {xs ys:List AV} (h:Own n H x ty k es) (hi:Imm (.list k es)) (t:CW H xs ys):CW H (x::xs) (.list k es::ys):=by
 obtain⟨id,_,rfl,h⟩:=h
 exact da h rfl hi t
theorem Own.set {n0:Nat} {H:ac} {x:AV} {ty:TypeId} {k:Nat} {es:List (List AV)} {i:Nat} {o:AObj} {o':Option AObj} (h:Own n0 H x ty k es) (hi:H[i]?=some (some o)) (ht:¬o.ty=ty):Own n0 (H.set i o') x ty k es:=by
 obtain⟨id,h1,h2,h3⟩:=h
 refine⟨id,h1,h2,?_⟩
 rw[List.getElem?_set_ne (pg hi h3 ht)]
 exact h3
theorem ue {c:TCash} {x:TIncome} {H':ac} {n0 p a b d f:Nat} {la lb ld lf:Nat} (na:n0≤a) (nb:n0≤b) (nd:n0≤d) (nf:n0≤f) (hl:n0≤H'.length) (ea:la=c.Claims.length) (eb:lb=c.Incomes.length+1) (ed:ld=c.Matches.length) (ef:lf=c.Loose.length+1)
  (hp:H'[p]?=some (some ⟨40,4,[[.sref a 0 la,.sref b 0 lb,.sref d 0 ld,.sref f 0 lf]]⟩))
  (ha:H'[a]?=some (some ⟨145,6,aj TClaim.cells c.Claims⟩)) (hb:H'[b]?=some (some ⟨79,5,aj TIncome.cells c.Incomes++[[iv x.Number,iv x.Day,iv x.Payer,iv x.Amount,iv x.Claim]]⟩))
  (hd:H'[d]?=some (some ⟨149,3,aj TMatch.cells c.Matches⟩)) (hf:H'[f]?=some (some ⟨3,1,dH c.Loose++[[iv x.Amount]]⟩)):
  HC n0 H' p (Io c x) (.sref a 0 la) (.sref b 0 lb) (.sref d 0 ld) (.sref f 0 lf):=by
 subst ea;subst eb;subst ed;subst ef
 refine⟨hl,hp,⟨a,na,by rw[al];rfl,ha⟩,⟨b,nb,by rw[al];simp[Io],?_⟩,⟨d,nd,by rw[al];rfl,hd⟩,⟨f,nf,by rw[fO];simp[Io],?_⟩⟩
 ·rw[hb]
  exact congrArg (fun z=>some (some (⟨79,5,z⟩:AObj))) (ba TIncome.cells c.Incomes x)
 ·rw[hf]
  exact congrArg (fun z=>some (some (⟨3,1,z⟩:AObj))) (ba aS c.Loose x.Amount)
theorem Own.kept {n0:Nat} {H H':ac} {x:AV} {ty:TypeId} {k:Nat} {es:List (List AV)} (h:Own n0 H x ty k es) (hk:Kept [] H H'):Own n0 H' x ty k es:=by
 obtain⟨id,h1,h2,h3⟩:=h
 exact⟨id,h1,h2,hk _ _ (by simp) h3⟩
theorem HC.kept {n0:Nat} {H H':ac} {p:Nat} {c:TCash} {A B D F:AV} (h:HC n0 H p c A B D F) (hk:Kept [] H H') (hl:n0≤H'.length):HC n0 H' p c A B D F:=
 ⟨hl,hk _ _ (by simp) h.obj,h.a.kept hk,h.b.kept hk,h.d.kept hk,h.f.kept hk⟩
open Go.PA
open Go.RowKit
theorem CsOk.fit {l:List TIncome} (h:CsOk l):FitC (csh l):=⟨by simp[csh],by have:=h.2;simp[csh];omega,by simp[csh],by have:=h.2;simp[csh];omega,by simp[csh]⟩
def sV (l:List TIncome) (x:TIncome):Int:=if iK x=true then (if p5 (csh l)<x.Number then (if qi (csh l)≤x.Day then (if l.length<100 then 0 else 3)else 8)else 65)else 70
def s6 (l:List TIncome) (x:TIncome):TCash×Int:=if sV l x=0 then (csh (l++[x]),0)else (Aj,sV l x)
theorem JR {l:List TIncome} {x:TIncome} (h:CsOk l) (hx:sV l x=0):CsOk (l++[x]):=by
 unfold sV at hx
 split at hx
 rotate_left
 ·simp at hx
 rename_i h1
 split at hx
 rotate_left
 ·simp at hx
 rename_i h2
 split at hx
 rotate_left
 ·simp at hx
 rename_i h3
 split at hx
 rotate_left
 ·simp at hx
 rename_i h4
 refine⟨?_,by simp;omega⟩
 obtain⟨b1,b2⟩:=(ij _ _ _).1 h.1
 have last:∀y,y∈l→y.Number≤p5 (csh l)∧y.Day≤qi (csh l):=fun y hy=>by
  rcases List.eq_nil_or_concat l with rfl|⟨m,z,rfl⟩
  ·cases hy
  ·rw[List.concat_eq_append]at*
   have e1:p5 (csh (m++[z]))=z.Number:=by simp[p5,csh]
   have e2:qi (csh (m++[z]))=z.Day:=by simp[qi,csh]
   rw[e1,e2]
   rcases List.mem_append.1 hy with hy|hy
   ·have:=(List.pairwise_append.1 b2).2.2 y hy z (by simp)
    omega
   ·simp at hy
    subst hy
    omega
 have ps:=vD h1
 refine (ij _ _ _).2 ⟨fun y hy=>?_,List.pairwise_append.2 ⟨b2,by simp,fun y hy z hz=>?_⟩⟩
 ·rcases List.mem_append.1 hy with hy|hy
  ·exact b1 y hy
  ·simp at hy
   subst hy
   exact⟨h1,by omega,by omega⟩
 ·simp at hz
  subst hz
  have:=last y hy
  omega
open Go.PA
open Go.RowKit
theorem wQ {E:Env} {c:Code} {s0:St} {Q:Exit→St→Prop} {b:Bx (c,Q)} (hc:fW E.N c=true) (h:awp E c s0 (vA 0 (fun n s=>n=0∧s=s0) Q .mk)):sj E c s0 Q b:=
 ay (fun n s=>n=0∧s=s0) 0 hc ⟨rfl,rfl⟩ fun _ _ ⟨h1,h2⟩=>by
  subst h1;subst h2
  exact h
theorem Jk {n d:Int} {l:List TIncome} (h:kr n d l=true) {k:Nat} {x y:TIncome} (hy:l[k]?=some y) (hx:l[k+1]?=some x):y.Number<x.Number∧y.Day≤x.Day:=by
 obtain⟨_,h2⟩:=(ij _ _ _).1 h
 have lx:=(List.getElem?_eq_some_iff.1 hx)
 have ly:=(List.getElem?_eq_some_iff.1 hy)
 have:=List.pairwise_iff_getElem.1 h2 k (k+1) ly.1 lx.1 (by omega)
 rw[ly.2,lx.2]at this
 exact this
set_option maxHeartbeats 4000000 in
set_option maxRecDepth 8000 in
theorem Db (l:List TIncome) (hok:CsOk l):PFun Tryz.prog none none 208 [.agg (csh l).cells] (·=iv 0):=by
 obtain⟨hx,hfi⟩:=hok
 have iw:=((ij _ _ _).1 hx).1
 have nc:PFun Tryz.prog none none 267 [.list 6 []] (·=bv true):=by
  refine ab Tryz.func267 rfl (by simp[Tryz.f267]) (by kernel_rfl) ?_
  intro E hP hr hs hW hN
  simp -dsimp -implicitDefEqProofs [-getElem?_pos,go_sem,hP]
  refine wQ (by rw[hN];rfl) ?_
  simp -dsimp -implicitDefEqProofs [-getElem?_pos,go_sem,hP]
 obtain⟨nI,hnI⟩:∃n,n=l.length:=⟨_,rfl⟩
 rw[←hnI]at hfi
 obtain⟨ls,hls⟩:∃ls,ls=l.map (·.Amount):=⟨_,rfl⟩
 have lls:ls.length=nI:=by rw[hls,List.length_map,hnI]
 obtain⟨O,hO⟩:∃O:AObj,O=⟨40,4,[[.list 6 [],aR l,.list 3 [],.list 1 (aj aS ls)]]⟩:=⟨_,rfl⟩
 have c2:¬100<nI:=by omega
 have d2:decide ((100:Int)<(nI:Int))=false:=decide_eq_false (by omega)
 refine ab Tryz.func208 rfl (by simp[Tryz.f208]) (by kernel_rfl) ?_
 intro E hP hr hs hW hN
 simp -dsimp -implicitDefEqProofs [-getElem?_pos,go_sem,hP,Cj,←hls,←hnI,c2,d2]
 refine ah nc hP Ph (ai (by simp -dsimp[-getElem?_pos,go_sem])) .sc ?_
 simp -dsimp -implicitDefEqProofs [-getElem?_pos,go_sem,hP,←hnI,lls,jZ]
 refine⟨by omega,by omega,?_⟩
 simp only[←hO]
 obtain⟨I,hI⟩:∃I:Nat→St→Prop,I=fun m s=>∃(k:Nat),k≤nI∧m=nI-k∧s.t 1= .ref 0 0 0∧s.t 3= .sref 1 0 0∧s.t 4= .sref 2 0 nI∧s.t 51=aR l∧s.t 52=iv nI∧s.t 53=iv k∧s.H[0]?=some (some O)∧s.H[2]?=some (some ⟨3,1,dH (List.replicate nI 0)⟩):=⟨_,rfl⟩
 refine ay I (nI) (by rw[hN];rfl) ?_ ?_
 ·rw[hI]
  exact⟨0,by omega,by omega,by simp -dsimp[-getElem?_pos,go_sem],by simp -dsimp[-getElem?_pos,go_sem],by simp -dsimp[-getElem?_pos,go_sem],by simp -dsimp[-getElem?_pos,go_sem],by simp -dsimp[-getElem?_pos,go_sem],by simp -dsimp[-getElem?_pos,go_sem],by simp -dsimp[-getElem?_pos,go_sem],by simp -dsimp[-getElem?_pos,go_sem]⟩
 intro m s hs'
 rw[hI]at hs'
 obtain⟨k,hk,hm,t1,t3,t4,t51,t52,t53,h0,hb⟩:=hs'
 have lt0:=(gsI h0)
 have ltb:=(gsI hb)
 simp -dsimp -implicitDefEqProofs [-getElem?_pos,go_sem,hP,t52,t53]
 refine aB (fun h=>?_) (fun h=>?_)
 ·have hk:k<nI:=by simpa using h
  obtain⟨x,hx1⟩:∃x,l[k]?=some x:=⟨_,List.getElem?_eq_getElem (by omega)⟩
  have hlo:ls[k]?=some x.Amount:=by rw[hls];simp[hx1]
  have wk:=af ((k:Int)+1) (by omega)
  have px:=sE x
  have xi:=iw x (List.mem_of_getElem? hx1)
  rw[xi.1]at px
  have am:=kE xi.1
  have ix:=az.2 (TIncome.imm x)
  rw[eg]at px ix
  have f1:¬x.Amount<0:=by omega
  have h0':∀Y:List (Option AObj),(s.H++Y)[0]?=some (some O):=fun Y=>(List.getElem?_append_left lt0).trans h0
  have fin:∀s':St,s'.t 1= .ref 0 0 0→s'.t 3= .sref 1 0 0→s'.t 4= .sref 2 0 nI→s'.t 51=aR l→s'.t 52=iv nI→s'.t 53=iv ((k:Int)+1)→s'.H[0]?=some (some O)→s'.H[2]?=some (some ⟨3,1,dH (List.replicate nI 0)⟩)→∃m',m'<m∧I m' s':=fun s' a2 a3 a4 a5 a6 a7 a8 a10=>by
   refine⟨nI-(k+1),by omega,?_⟩
   rw[hI]
   exact⟨k+1,by omega,rfl,a2,a3,a4,a5,a6,a7,a8,a10⟩
  simp -dsimp -implicitDefEqProofs [-getElem?_pos,go_sem,hP,t51,t53,hx1,eg]
  refine ao (fun _=>true) [] hP (by kernel_rfl) (by kernel_rfl) ?_
  simp -dsimp -implicitDefEqProofs [-getElem?_pos,go_sem,hP]
  refine ah px hP rC (ai (by simpa using ix)) .sc ?_
  cases k with
  |zero=>
   have w1:IntKind.i64.wrap 1=1:=af 1 (by omega)
   simp -dsimp -implicitDefEqProofs [-getElem?_pos,go_sem,hP,t53,t1,h0,h0',hO,lt0,hlo,aS,f1,w1]
   exact fin _ (by simp -dsimp[-getElem?_pos,go_sem,t1]) (by simp -dsimp[-getElem?_pos,go_sem,t3]) (by simp -dsimp[-getElem?_pos,go_sem,t4]) (by simp -dsimp[-getElem?_pos,go_sem,t51]) (by simp -dsimp[-getElem?_pos,go_sem,t52]) (by simp -dsimp[-getElem?_pos,go_sem,w1]) (by simp -dsimp[-getElem?_pos,go_sem,lt0,h0]) (by simp -dsimp[-getElem?_pos,go_sem,ltb,hb])
  |succ j=>
   obtain⟨y,hy⟩:∃y,l[j]?=some y:=⟨_,List.getElem?_eq_getElem (by omega)⟩
   have nx:=Jk hx hy hx1
   have wj:=af ((j:Int)+1-1) (by omega)
   rw[Int.add_sub_cancel]at wj
   have d0:decide ((0:Int)<(j:Int)+1)=true:=decide_eq_true (by omega)
   have wk2:=af ((j:Int)+1+1) (by omega)
   have d:decide (x.Number≤y.Number)=false:=decide_eq_false (by omega)
   have d3:decide (x.Day<y.Day)=false:=decide_eq_false (by omega)
   have j0:(0:Int)≤(j:Int)+1:=by omega
   simp -dsimp -implicitDefEqProofs [-getElem?_pos,go_sem,hP,t53,t1,h0,h0',hO,lt0,hlo,aS,d0,j0,Int.add_sub_cancel,wj,hy,eg,d,d3,f1,wk2]
   exact fin _ (by simp -dsimp[-getElem?_pos,go_sem,t1]) (by simp -dsimp[-getElem?_pos,go_sem,t3]) (by simp -dsimp[-getElem?_pos,go_sem,t4]) (by simp -dsimp[-getElem?_pos,go_sem,t51]) (by simp -dsimp[-getElem?_pos,go_sem,t52]) (by simp -dsimp[-getElem?_pos,go_sem]) (by simp -dsimp[-getElem?_pos,go_sem,lt0,h0]) (by simp -dsimp[-getElem?_pos,go_sem,ltb,hb])
 simp -dsimp -implicitDefEqProofs [-getElem?_pos,go_sem,hP,t1,h0,lt0,hO]
 refine wQ (by rw[hN];rfl) ?_
 simp -dsimp -implicitDefEqProofs [-getElem?_pos,go_sem,hP,t1,h0,lt0,hO]
 refine wQ (by rw[hN];rfl) ?_
 simp -dsimp -implicitDefEqProofs [-getElem?_pos,go_sem,hP,t1,h0,lt0,hO,←hnI]
 obtain⟨J,hJ⟩:∃I:Nat→St→Prop,I=fun m s=>∃(k:Nat),k≤nI∧m=nI-k∧s.t 1= .ref 0 0 0∧s.t 4= .sref 2 0 nI∧s.t 191=aR l∧s.t 192=iv nI∧s.t 193=iv k∧s.H[0]?=some (some O)∧s.H[2]?=some (some ⟨3,1,dH (List.replicate nI 0)⟩):=⟨_,rfl⟩
 refine ay J (nI) (by rw[hN];rfl) ?_ ?_
 ·rw[hJ]
  exact⟨0,by omega,by omega,by simp -dsimp[-getElem?_pos,go_sem,t1],by simp -dsimp[-getElem?_pos,go_sem,t4],by simp -dsimp[-getElem?_pos,go_sem],by simp -dsimp[-getElem?_pos,go_sem],by simp -dsimp[-getElem?_pos,go_sem],by simp -dsimp[-getElem?_pos,go_sem,h0,hO],by simp -dsimp[-getElem?_pos,go_sem,hb]⟩
 clear t1 t3 t4 t51 t52 t53 h0 hb lt0 ltb h hm hk
 intro m s hs'
 rw[hJ]at hs'
 obtain⟨k,hk,hm,t1,t4,t191,t192,t193,h0,hb⟩:=hs'
 have lt0:=(gsI h0)
 have ltb:=(gsI hb)
 simp -dsimp -implicitDefEqProofs [-getElem?_pos,go_sem,hP,t192,t193]
 refine aB (fun h=>?_) (fun h=>?_)
 ·have hk:k<nI:=by simpa using h
  obtain⟨x,hx1⟩:∃x,l[k]?=some x:=⟨_,List.getElem?_eq_getElem (by omega)⟩
  have hlo:ls[k]?=some x.Amount:=by rw[hls];simp[hx1]
  have wk:=af ((k:Int)+1) (by omega)
  have xi:=iw x (List.mem_of_getElem? hx1)
  have am:=kE xi.1
  have rv:=ov (show (List.replicate nI (0:Int))[k]?=some 0 by rw[List.getElem?_replicate,if_pos hk])
  have rl:=fO (List.replicate nI (0:Int))
  rw[List.length_replicate]at rl
  have rl:(dH (List.replicate nI 0)).length=nI:=by rw[fO,List.length_replicate]
  obtain⟨rw',hrw⟩:∃r,r=dH (List.replicate nI 0):=⟨_,rfl⟩
  have h0':∀Y:List (Option AObj),(s.H++Y)[0]?=some (some O):=fun Y=>(List.getElem?_append_left lt0).trans h0
  rw[←hrw]at hb rv rl
  have hb':∀Y:List (Option AObj),(s.H++Y)[2]?=_:=fun Y=>(List.getElem?_append_left ltb).trans hb
  have ws:IntKind.i64.wrap 0=0:=af 0 (by omega)
  simp -dsimp -implicitDefEqProofs [-getElem?_pos,go_sem,hP,t191,t193,hx1,eg]
  refine ao (fun _=>true) [] hP (by kernel_rfl) (by kernel_rfl) ?_
  simp -dsimp -implicitDefEqProofs [-getElem?_pos,go_sem,hP,t4,hb,hb',ltb,rv,rl,hk,t1,h0,h0',hO,lt0,hlo,aS,Int.sub_self,ws,t193,wk]
  refine⟨nI-(k+1),by omega,?_⟩
  rw[hJ]
  exact⟨k+1,by omega,rfl,by simp -dsimp[-getElem?_pos,go_sem,t1],by simp -dsimp[-getElem?_pos,go_sem,t4],by simp -dsimp[-getElem?_pos,go_sem,t191],by simp -dsimp[-getElem?_pos,go_sem,t192],by simp -dsimp[-getElem?_pos,go_sem],by simp -dsimp[-getElem?_pos,go_sem,h0',hO],by simp -dsimp[-getElem?_pos,go_sem,hb',hrw]⟩
 simp -dsimp -implicitDefEqProofs [-getElem?_pos,go_sem,hP]
open Go.PA
open Go.RowKit
theorem DW (I:List TIncome) (ls:List Int) (id:Int):PFun Tryz.prog none none 211 [.agg [.list 6 [],aR I,.list 3 [],.list 1 (aj aS ls)],iv id] (·=iv (-1)):=by
 refine ab Tryz.func211 rfl (by simp[Tryz.f211]) (by kernel_rfl) ?_
 intro E hP hr hs hW hN
 simp -dsimp -implicitDefEqProofs [-getElem?_pos,go_sem,hP]
 refine wQ (by rw[hN];rfl) ?_
 simp -dsimp -implicitDefEqProofs [-getElem?_pos,go_sem,hP]
theorem Cn (I:List TIncome) (ls:List Int) (id:Int):PFun Tryz.prog none none 213 [.agg [.list 6 [],aR I,.list 3 [],.list 1 (aj aS ls)],iv id] (·=iv (-1)):=by
 refine ab Tryz.func213 rfl (by simp[Tryz.f213]) (by kernel_rfl) ?_
 intro E hP hr hs hW hN
 simp -dsimp -implicitDefEqProofs [-getElem?_pos,go_sem,hP]
 refine wQ (by rw[hN];rfl) ?_
 simp -dsimp -implicitDefEqProofs [-getElem?_pos,go_sem,hP]
set_option maxHeartbeats 8000000 in
set_option maxRecDepth 8000 in
theorem GT (L:List TIncome) (x:TIncome) (hx0:CsOk L):PFun Tryz.prog none none 148 [.agg (csh L).cells,.agg x.cells] (·= .tup [.agg (s6 L x).1.cells,.list 3 [],iv (s6 L x).2]):=by
 refine eV Tryz.func148 rfl (by simp[Tryz.f148]) ?_
 intro E hP hr hs hW hN
 have ck:=Db L hx0
 have ic:=BG L
 have ix:=az.2 x.imm
 have px:=sE x
 rw[Cj]at ck ic
 rw[eg]at px ix
 obtain⟨Q,hQ⟩:∃Q:AV→Prop,Q=(·= .tup [.agg (s6 L x).1.cells,.list 3 [],iv (s6 L x).2]):=⟨_,rfl⟩
 rw[←hQ]
 obtain⟨n,hnE⟩:∃n,n=sV L x:=⟨_,rfl⟩
 have hQe:n≠0→Q (.tup [.agg Aj.cells,cu [],iv n]):=fun h=>by
  rw[hQ,s6,←hnE,if_neg h]
  rfl
 have hQo:n=0→Q (.tup [.agg (csh (L++[x])).cells,.list 3 [],iv 0]):=fun h=>by
  rw[hQ,s6,←hnE,if_pos h]
 clear hQ
 have hR:=hnE
 rw[sV]at hR
 have hf:=hx0.fit
 have hfi:=hx0.2
 obtain⟨O0,hO0⟩:∃O:AObj,O=⟨40,4,[[.list 6 [],aR L,.list 3 [],.list 1 (aj aS (L.map (·.Amount)))]]⟩:=⟨_,rfl⟩
 obtain⟨O1,hO1⟩:∃O:AObj,O=⟨79,5,[[iv x.Number,iv x.Day,iv x.Payer,iv x.Amount,iv x.Claim]]⟩:=⟨_,rfl⟩
 obtain⟨O2,hO2⟩:∃O:AObj,O=⟨40,4,[[.nil,.nil,.nil,.nil]]⟩:=⟨_,rfl⟩
 obtain⟨nI,hnI⟩:∃n,n=L.length:=⟨_,rfl⟩
 refine bG (by rw[hN];kernel_rfl) ?_
 simp -dsimp -implicitDefEqProofs [-getElem?_pos,go_sem,hP,Cj,eg]
 simp only[←hO0,←hO1,←hO2]
 refine bG (by rw[hN];kernel_rfl) ?_
 simp -dsimp -implicitDefEqProofs [-getElem?_pos,go_sem,hP,hO0]
 refine ah ck hP NH (ai (by simpa using ic)) .sc ?_
 simp -dsimp -implicitDefEqProofs [-getElem?_pos,go_sem,hP]
 refine bG (by rw[hN];kernel_rfl) ?_
 simp -dsimp -implicitDefEqProofs [-getElem?_pos,go_sem,hP,hO0,←hnI]
 obtain⟨InvA,hInvA⟩:∃Inv:St→Prop,Inv=fun s=>s.t 2= .ref 0 0 0∧s.t 3= .ref 1 0 0∧s.t 4= .ref 2 0 0∧s.t 8=iv nI∧s.H=[some O0,some O1,some O2]:=⟨_,rfl⟩
 cases c2:iK x
 ·rw[if_neg (by simp[c2])]at hR
  refine bG (by rw[hN];kernel_rfl) ?_
  simp -dsimp -implicitDefEqProofs [-getElem?_pos,go_sem,hP,hO1]
  refine ah px hP rC (ai (by simpa using ix)) .sc ?_
  simp -dsimp -implicitDefEqProofs [-getElem?_pos,go_sem,hP,c2,hO2]
  subst hR
  exact jx (hQe (by omega))
 rw[if_pos c2]at hR
 have pos:=vD c2
 have key:(nI=0∧p5 (csh L)=0∧qi (csh L)=0)∨∃(l:Nat) (z:TIncome),nI=l+1∧L[l]?=some z∧p5 (csh L)=z.Number∧qi (csh L)=z.Day:=by
  rcases List.eq_nil_or_concat L with hn|⟨l,z,hn⟩
  ·exact .inl ⟨by rw[hnI,hn];rfl,by simp[p5,csh,hn],by simp[qi,csh,hn]⟩
  ·rw[List.concat_eq_append]at hn
   exact .inr ⟨l.length,z,by rw[hnI,hn];simp,by rw[hn];simp,by simp[p5,csh,hn],by simp[qi,csh,hn]⟩
 by_cases c3:p5 (csh L)<x.Number
 rotate_left
 ·rw[if_neg c3]at hR
  rcases key with⟨k1,k2,k3⟩|⟨l,z,k1,k2,k3,k4⟩
  ·omega
  have d0:decide ((0:Int)<(l:Int)+1)=true:=decide_eq_true (by omega)
  have d3:decide (x.Number≤z.Number)=true:=decide_eq_true (by omega)
  have wn:=af ((l:Int)+1-1) (by omega)
  rw[Int.add_sub_cancel]at wn
  refine bG (by rw[hN];kernel_rfl) ?_
  simp -dsimp -implicitDefEqProofs [-getElem?_pos,go_sem,hP,hO1]
  refine ah px hP rC (ai (by simpa using ix)) .sc ?_
  simp -dsimp -implicitDefEqProofs [-getElem?_pos,go_sem,hP,c2]
  refine ao (fun _=>true) [] hP (by kernel_rfl) (by kernel_rfl) ?_
  simp -dsimp -implicitDefEqProofs [-getElem?_pos,go_sem,hP,hO0,hO1,k1,d0,wn,Int.add_sub_cancel,k2,eg,d3,hO2]
  subst hR
  exact jx (hQe (by omega))
 rw[if_pos c3]at hR
 by_cases c4:qi (csh L)≤x.Day
 rotate_left
 ·rw[if_neg c4]at hR
  rcases key with⟨k1,k2,k3⟩|⟨l,z,k1,k2,k3,k4⟩
  ·omega
  have d0:decide ((0:Int)<(l:Int)+1)=true:=decide_eq_true (by omega)
  have d3:decide (x.Number≤z.Number)=false:=decide_eq_false (by omega)
  have d4:decide (x.Day<z.Day)=true:=decide_eq_true (by omega)
  have wn:=af ((l:Int)+1-1) (by omega)
  rw[Int.add_sub_cancel]at wn
  refine bG (by rw[hN];kernel_rfl) ?_
  simp -dsimp -implicitDefEqProofs [-getElem?_pos,go_sem,hP,hO1]
  refine ah px hP rC (ai (by simpa using ix)) .sc ?_
  simp -dsimp -implicitDefEqProofs [-getElem?_pos,go_sem,hP,c2]
  refine ao (fun _=>true) [] hP (by kernel_rfl) (by kernel_rfl) ?_
  simp -dsimp -implicitDefEqProofs [-getElem?_pos,go_sem,hP,hO0,hO1,k1,d0,wn,Int.add_sub_cancel,k2,eg,d3]
  refine ao (fun _=>true) [] hP (by kernel_rfl) (by kernel_rfl) ?_
  simp -dsimp -implicitDefEqProofs [-getElem?_pos,go_sem,hP,hO0,hO1,k1,d0,wn,Int.add_sub_cancel,k2,eg,d4,hO2]
  subst hR
  exact jx (hQe (by omega))
 rw[if_pos c4]at hR
 rw[←hnI]at hR
 refine fI (fun s=>nI<100∧InvA s) (by rw[hN];kernel_rfl) ?_ ?_
 ·rcases key with⟨k1,k2,k3⟩|⟨l,z,k1,k2,k3,k4⟩
  ·simp -dsimp -implicitDefEqProofs [-getElem?_pos,go_sem,hP,hO1]
   refine ah px hP rC (ai (by simpa using ix)) .sc ?_
   simp -dsimp -implicitDefEqProofs [-getElem?_pos,go_sem,hP,c2]
   refine ao (fun _=>true) [] hP (by kernel_rfl) (by kernel_rfl) ?_
   simp -dsimp -implicitDefEqProofs [-getElem?_pos,go_sem,hP,k1]
   refine ao (fun _=>true) [] hP (by kernel_rfl) (by kernel_rfl) ?_
   simp -dsimp -implicitDefEqProofs [-getElem?_pos,go_sem,hP,k1]
   refine⟨_,Weaker.refl _,?_⟩
   rw[hInvA]
   exact⟨by simp -dsimp[-getElem?_pos,go_sem],by simp -dsimp[-getElem?_pos,go_sem],by simp -dsimp[-getElem?_pos,go_sem],by simp -dsimp[-getElem?_pos,go_sem,k1],by simp -dsimp[-getElem?_pos,go_sem,hO0,hO1]⟩
  ·have d0:decide ((0:Int)<(l:Int)+1)=true:=decide_eq_true (by omega)
   have d3:decide (x.Number≤z.Number)=false:=decide_eq_false (by omega)
   have d4:decide (x.Day<z.Day)=false:=decide_eq_false (by omega)
   have wn:=af ((l:Int)+1-1) (by omega)
   rw[Int.add_sub_cancel]at wn
   simp -dsimp -implicitDefEqProofs [-getElem?_pos,go_sem,hP,hO1]
   refine ah px hP rC (ai (by simpa using ix)) .sc ?_
   simp -dsimp -implicitDefEqProofs [-getElem?_pos,go_sem,hP,c2]
   refine ao (fun _=>true) [] hP (by kernel_rfl) (by kernel_rfl) ?_
   simp -dsimp -implicitDefEqProofs [-getElem?_pos,go_sem,hP,hO0,hO1,k1,d0,wn,Int.add_sub_cancel,k2,eg,d3]
   refine ao (fun _=>true) [] hP (by kernel_rfl) (by kernel_rfl) ?_
   simp -dsimp -implicitDefEqProofs [-getElem?_pos,go_sem,hP,hO0,hO1,k1,d0,wn,Int.add_sub_cancel,k2,eg,d4]
   by_cases c5:l+1<100
   ·have d5:decide ((l:Int)+1=100)=false:=decide_eq_false (by omega)
    have n5:¬l=99:=by omega
    simp -dsimp -implicitDefEqProofs [-getElem?_pos,go_sem,hP,d5,n5]
    refine⟨_,Weaker.refl _,by omega,?_⟩
    rw[hInvA]
    exact⟨by simp -dsimp[-getElem?_pos,go_sem],by simp -dsimp[-getElem?_pos,go_sem],by simp -dsimp[-getElem?_pos,go_sem],by simp -dsimp[-getElem?_pos,go_sem,k1],by simp -dsimp[-getElem?_pos,go_sem,hO0,hO1]⟩
   ·have l5:l=99:=by omega
    have d5:decide ((l:Int)+1=100)=true:=decide_eq_true (by omega)
    rw[if_neg (by omega)]at hR
    simp -dsimp -implicitDefEqProofs [-getElem?_pos,go_sem,hP,d5,l5,hO2]
    subst hR
    exact jx (hQe (by omega))
 rintro s ⟨c5,hs'⟩
 rw[if_pos c5]at hR
 have hQo:=hQo hR
 clear hQe hR hnE
 rw[hInvA]at hs'
 obtain⟨t2,t3,t4,t8,sH⟩:=hs'
 have amt:=kE c2
 have h0:s.H[0]?=some (some O0):=by rw[sH];rfl
 have h1:s.H[1]?=some (some O1):=by rw[sH];rfl
 have h2:s.H[2]?=some (some O2):=by rw[sH];rfl
 have h4:s.H.length=3:=by rw[sH];rfl
 have lt0:=(gsI h0)
 have cp:=Gy (row:=E.row) (src:=E.src) (csh L) s.H hf
 rw[Cj,h4]at cp
 refine bG (by rw[hN];kernel_rfl) ?_
 simp -dsimp -implicitDefEqProofs [-getElem?_pos,go_sem,hP,t2,h0,hO0,lt0]
 refine aM cp hP Oq ?_
 rintro r H1 ⟨⟨A,B,D,F,rfl,ha,hb,hd,hf'⟩,hk⟩
 have g0:=hk _ _ (by simp) h0
 have g1:=hk _ _ (by simp) h1
 have g2:=hk _ _ (by simp) h2
 clear sH h4 cp
 obtain⟨a,na,rfl,ha⟩:=ha
 obtain⟨b,nb,rfl,hb⟩:=hb
 obtain⟨d,nd,rfl,hd⟩:=hd
 obtain⟨f,nf,rfl,hf'⟩:=hf'
 have lto:=(gsI g0)
 have lta:=(gsI ha)
 have ltb:=(gsI hb)
 have ltd:=(gsI hd)
 have ltf:=(List.getElem?_eq_some_iff.1 hf').1
 have n5:=pg hb ha (by simp)
 have n6:=pg hb hd (by simp)
 have n7:=pg hb hf' (by simp)
 have n8:=pg hf' ha (by simp)
 have n9:=pg hf' hd (by simp)
 have n7':¬f=b:=fun e=>n7 e.symm
 have lb:(aj TIncome.cells (csh L).Incomes).length=nI:=by rw[al,hnI];rfl
 have lf:(dH (csh L).Loose).length=nI:=by rw[fO,hnI];simp[csh]
 have la:(aj TClaim.cells (csh L).Claims).length=0:=rfl
 have ld:(aj TMatch.cells (csh L).Matches).length=0:=rfl
 have eB:aj TIncome.cells (csh L).Incomes++[[iv x.Number,iv x.Day,iv x.Payer,iv x.Amount,iv x.Claim]]=aj TIncome.cells (L++[x]):=ba TIncome.cells L x
 obtain⟨LS,hLS⟩:∃LS,LS=(L++[x]).map (·.Amount):=⟨_,rfl⟩
 have eF:dH (csh L).Loose++[[iv x.Amount]]=dH LS:=by rw[hLS];simp[csh,dH,aj,aS]
 have ha:H1[a]?=some (some ⟨145,6,[]⟩):=ha
 have hd:H1[d]?=some (some ⟨149,3,[]⟩):=hd
 obtain⟨PB,hPB⟩:∃P,P=aj TIncome.cells (csh L).Incomes:=⟨_,rfl⟩
 obtain⟨PF,hPF⟩:∃P,P=dH (csh L).Loose:=⟨_,rfl⟩
 rw[←hPB]at hb lb eB
 rw[←hPF]at hf' lf eF
 rw[hO0]at g0
 simp only[←hPB,←hPF,lb,lf,la,ld]
 have nb1:¬b=1:=by omega
 have nf1:¬f=1:=by omega
 have nb0:¬b=0:=by omega
 have nf0:¬f=0:=by omega
 have na0:¬a=0:=by omega
 have nd0:¬d=0:=by omega
 have nb2:¬b=2:=by omega
 have nf2:¬f=2:=by omega
 have lt1':=(gsI g1)
 have lt2':=(gsI g2)
 have nb0':¬0=b:=by omega
 have nf0':¬0=f:=by omega
 have na0':¬0=a:=by omega
 have nd0':¬0=d:=by omega
 simp -dsimp -implicitDefEqProofs [-getElem?_pos,go_sem,hP,t2,g0,lto]
 refine bG (by rw[hN];kernel_rfl) ?_
 simp -dsimp -implicitDefEqProofs [-getElem?_pos,go_sem,hP]
 have hD:∀i,decide (i<3)=true→i<H1.length∧¬b=i∧¬f=i:=fun i hi=>by
  have:i<3:=by simpa using hi
  exact⟨by omega,by omega,by omega⟩
 refine ao (fun i=>decide (i<3)) [12,14] hP (by kernel_rfl) (by kernel_rfl) ?_
 simp -dsimp -implicitDefEqProofs [-getElem?_pos,go_sem,hP,ax,t2,g0,lto,t3,g1,lt1',hO1,hb,ltb,lb,hf',ltf,lf,nb1,nf1,nb0,nf0,nb0',nf0',n7,n7']
 refine⟨by omega,by omega,DR (by simp) fun i hi=>⟨by simp;exact (hD i hi).1,by simp[List.getElem?_set,(hD i hi).2.1]⟩,by omega,by omega,HA (by simp) fun i hi=>⟨by simp;exact (hD i hi).1,by simp[List.getElem?_set,(hD i hi).2.1,(hD i hi).2.2]⟩,?_⟩
 obtain⟨Inv,hInv⟩:∃Inv:St→Prop,Inv=fun s=>∃b' f':Nat,s.t 2= .ref 0 0 0∧s.t 3= .ref 1 0 0∧s.t 4= .ref 2 0 0∧s.t 8=iv nI∧s.t 9= .nil∧s.H[0]?=some (some ⟨40,4,[[.sref a 0 0,.sref b' 0 (nI+1),.sref d 0 0,.sref f' 0 (nI+1)]]⟩)∧s.H[1]?=some (some O1)∧s.H[2]?=some (some O2)∧s.H[a]?=some (some ⟨145,6,[]⟩)∧s.H[b']?=some (some ⟨79,5,aj TIncome.cells (L++[x])⟩)∧s.H[d]?=some (some ⟨149,3,[]⟩)∧s.H[f']?=some (some ⟨3,1,dH LS⟩):=⟨_,rfl⟩
 refine fI Inv (by rw[hN];kernel_rfl) ?_ ?_
 ·simp -dsimp -implicitDefEqProofs [-getElem?_pos,go_sem,hP]
  refine⟨_,Weaker.refl _,?_⟩
  rw[hInv]
  refine⟨H1.length,H1.length+1,by simp -dsimp[-getElem?_pos,go_sem,t2],by simp -dsimp[-getElem?_pos,go_sem,t3],by simp -dsimp[-getElem?_pos,go_sem,t4],by simp -dsimp[-getElem?_pos,go_sem,t8],by simp -dsimp[-getElem?_pos,go_sem],?_,?_,?_,?_,?_,?_,?_⟩
  ·simp -dsimp -implicitDefEqProofs [-getElem?_pos,go_sem,lto,nb0',nf0',nb0,nf0]
  ·simp -dsimp -implicitDefEqProofs [-getElem?_pos,go_sem,lt1',nb1,nf1,g1]
  ·simp -dsimp -implicitDefEqProofs [-getElem?_pos,go_sem,lt2',nb2,nf2,g2]
  ·simp -dsimp -implicitDefEqProofs [-getElem?_pos,go_sem,lta,na0,na0',n5,n8,ha]
  ·simp -dsimp -implicitDefEqProofs [-getElem?_pos,go_sem,←eB,nb0,lto]
  ·simp -dsimp -implicitDefEqProofs [-getElem?_pos,go_sem,ltd,nd0,nd0',n6,n9,hd]
  ·simp -dsimp -implicitDefEqProofs [-getElem?_pos,go_sem,←eF,nf0,lto]
 clear t2 t3 t4 t8 h0 h1 h2 lt0 g0 g1 g2 ha hb hd hf' lto lta ltb ltd ltf n5 n6 n7 n8 n9 n7' lt1' lt2' hD hk s
 intro s hs'
 rw[hInv]at hs'
 obtain⟨b',f',t2,t3,t4,t8,t9,g0,g1,g2,ga,gb,gd,gf⟩:=hs'
 have l0:=(gsI g0)
 have l1:=(gsI g1)
 have l2:=(gsI g2)
 have la':=(gsI ga)
 have ld':=(gsI gd)
 have lf':=(gsI gf)
 have iI:=fF (L++[x])
 have iL:Imm (.list 1 (aj aS LS)):=aV _ ql _
 have cw:∀H:ac,H[a]?=some (some ⟨145,6,[]⟩)→H[b']?=some (some ⟨79,5,aj TIncome.cells (L++[x])⟩)→H[d]?=some (some ⟨149,3,[]⟩)→H[f']?=some (some ⟨3,1,dH LS⟩)→CW H [.sref a 0 0,.sref b' 0 (nI+1),.sref d 0 0,.sref f' 0 (nI+1)] [.list 6 [],aR (L++[x]),.list 3 [],.list 1 (aj aS LS)]:=fun H q1 q2 q3 q4=>
  da q1 rfl (wW []) (da q2 (by rw[al,hnI];simp) iI (da q3 rfl (i9 []) (da q4 (by rw[fO,hLS,hnI];simp) iL .nil)))
 have en:(csh (L++[x])).cells=[.list 6 [],aR (L++[x]),.list 3 [],.list 1 (aj aS LS)]:=by rw[hLS];rfl
 have rl:(dH LS).length=nI+1:=by rw[fO,hLS,hnI];simp
 have rv:=ov (show LS[nI]?=some x.Amount by rw[hLS,hnI];simp)
 have dni:(nI:Int)<(nI:Int)+1:=by omega
 have dn:nI<nI+1:=by omega
 have dx:decide (0<x.Amount)=true:=decide_eq_true (by omega)
 obtain⟨PB2,hPB2⟩:∃P,P=aj TIncome.cells (L++[x]):=⟨_,rfl⟩
 refine bU _ _ _ (by rw[hN];kernel_rfl) ?_
 simp -dsimp -implicitDefEqProofs [-getElem?_pos,go_sem,hP,t2,g0,l0,t3,g1,l1,hO1]
 refine bM ((DW (L++[x]) LS x.Claim).lift _ _) hP OY (wI (cw _ ga gb gd gf) (ai (by simp[ar]))) ⟨_,rfl⟩ (by rintro _ rfl;simp[kH]) ?_
 rintro r rfl
 simp -dsimp -implicitDefEqProofs [-getElem?_pos,go_sem,hP]
 refine ao (fun _=>true) [] hP (by kernel_rfl) (by kernel_rfl) ?_
 simp -dsimp -implicitDefEqProofs [-getElem?_pos,go_sem,hP,t9,t2,g0,l0,ga,la']
 refine wQ (by rw[hN];rfl) ?_
 simp -dsimp -implicitDefEqProofs [-getElem?_pos,go_sem,hP,t2,g0,l0,ga,la']
 refine wQ (by rw[hN];rfl) ?_
 simp -dsimp -implicitDefEqProofs [-getElem?_pos,go_sem,hP,t2,t3,t8,g0,l0,gf,lf',rl,rv,dn,dni,dx,g1,l1,hO1]
 refine bM ((Cn (L++[x]) LS x.Payer).lift _ _) hP OC (wI (cw _ ga gb gd gf) (ai (by simp[ar]))) ⟨_,rfl⟩ (by rintro _ rfl;simp[kH]) ?_
 rintro r rfl
 simp -dsimp -implicitDefEqProofs [-getElem?_pos,go_sem,hP,t2,t4,t9,g0,l0,gd,ld',g2,l2,hO2]
 rw[en]at hQo
 have q:∀(y:Option AObj) (i:Nat) (o:AObj),s.H[i]?=some (some o)→¬O2.ty=o.ty→(s.H.set 2 y)[i]?=some (some o):=fun y i o h ht=>by
  rw[List.getElem?_set_ne (pg g2 h ht)]
  exact h
 have h:=cw _ (q (some ⟨40,4,[[.sref a 0 0,.sref b' 0 (nI+1),.sref d 0 0,.sref f' 0 (nI+1)]]⟩) _ _ ga (by rw[hO2];simp)) (q _ _ _ gb (by rw[hO2];simp)) (q _ _ _ gd (by rw[hO2];simp)) (q _ _ _ gf (by rw[hO2];simp))
 exact gy (oq h.imm .nil .sc) (oq h.imm' (i9 []) .sc) (wO h.weak (.nil 3) (.refl _)) hQo
open Go.PA
def bn (n lo hi:Int):Bool:=decide (lo≤n)&&decide (n≤hi)
theorem gX {n lo hi:Int}:bn n lo hi=true↔lo≤n∧n≤hi:=by simp[bn]
def vB (n:Int):Bool:=bn n 0 1000000000000
def tU:Int→List Int→Bool
 |_,[]=>true
 |p,i::l=>bn i 1 1000&&(decide (p<i)&&tU i l)
def jb (ids:List Int):Bool:=tU 0 ids&&decide (ids.head?=some 1)
def ids (l:List TSub):List Int:=l.map (·.ID)
theorem fo (l:List TSub):(ids l).length=l.length:=by simp[ids]
theorem zx (l:List TSub) (i:Nat):(ids l)[i]?=(l[i]?).map (·.ID):=by simp[ids]
theorem zN:∀(l:List Int) (p:Int),tU p l=true→∀i,i∈l→p<i∧1≤i∧i≤1000
 |[],p,_,i,hi=>by simp at hi
 |a::l,p,h,i,hi=>by
  simp only[tU,Bool.and_eq_true,gX,decide_eq_true_eq]at h
  rcases List.mem_cons.1 hi with rfl|hi
  ·exact⟨h.2.1,h.1⟩
  ·have:=zN l a h.2.2 i hi
   omega
theorem uI:∀(l:List Int) (p:Int),tU p l=true→l.Nodup
 |[],p,_=>List.nodup_nil
 |a::l,p,h=>by
  simp only[tU,Bool.and_eq_true,gX,decide_eq_true_eq]at h
  refine List.nodup_cons.2 ⟨fun hm=>?_,uI l a h.2.2⟩
  have:=zN l a h.2.2 a hm
  omega
def adj (l:List TSub) (id amt:Int):List TSub:=l.map fun s=>if s.ID=id then⟨s.ID,s.Balance+amt⟩else s
theorem bm (l:List TSub) (id amt:Int):(adj l id amt).length=l.length:=by simp[adj]
theorem fu (l:List TSub) (id amt:Int):ids (adj l id amt)=ids l:=by
 simp only[ids,adj,List.map_map]
 apply List.map_congr_left
 intro s _
 simp only[Function.comp]
 split<;>rfl
theorem qu {l:List TSub} {id amt:Int} (h:id∉ids l):adj l id amt=l:=by
 have:∀s,s∈l→(if s.ID=id then (⟨s.ID,s.Balance+amt⟩:TSub)else s)=s:=fun s hs=>by
  rw[if_neg]
  intro e
  exact h (List.mem_map.2 ⟨s,hs,e⟩)
 unfold adj
 rw[List.map_congr_left this]
 simp
theorem jz (l:List TSub) (id amt:Int) (i:Nat):(adj l id amt)[i]?=(l[i]?).map fun s=>if s.ID=id then⟨s.ID,s.Balance+amt⟩else s:=by simp[adj]
theorem rB {l:List TSub} (h:(ids l).Nodup) {i j:Nat} {a b:TSub} (hi:l[i]?=some a) (hj:l[j]?=some b) (e:a.ID=b.ID):i=j:=by
 have h1:(ids l)[i]?=some a.ID:=by rw[zx,hi];rfl
 have h2:(ids l)[j]?=some a.ID:=by rw[zx,hj,e];rfl
 exact (List.getElem?_inj (gsI h1) h).1 (h1.trans h2.symm)
theorem qF {l:List TSub} (hn:(ids l).Nodup) {i:Nat} {a:TSub} (hi:l[i]?=some a) (amt:Int):l.set i ⟨a.ID,a.Balance+amt⟩=adj l a.ID amt:=by
 apply List.ext_getElem?
 intro j
 rw[jz,List.getElem?_set]
 by_cases hij:i=j
 ·subst hij
  have:=(gsI hi)
  simp[-getElem?_pos,this,hi]
 ·rw[if_neg hij]
  cases hj:l[j]? with
  |none=>rfl
  |some b=>
   have:¬b.ID=a.ID:=fun e=>hij (rB hn hi hj e.symm)
   simp[this]
def fj (l:List TSub) (id:Int):Int:=fA (fun s=>decide (s.ID=id)) l
theorem iW (l:List TSub) (id:Int):(fj l id= -1∧id∉ids l)∨∃(i:Nat) (a:TSub),l[i]?=some a∧a.ID=id∧fj l id=(i:Int)∧id∈ids l:=by
 rcases dY (fun s:TSub=>decide (s.ID=id)) l with⟨h1,h2⟩|⟨i,a,h1,h2,h3,_⟩
 ·refine .inl ⟨h1,fun hm=>?_⟩
  obtain⟨s,hs,e⟩:=List.mem_map.1 hm
  have:=h2 s hs
  simp[e]at this
 ·exact .inr ⟨i,a,h1,by simpa using h2,h3,List.mem_map.2 ⟨a,List.mem_of_getElem? h1,by simpa using h2⟩⟩
def eK (credit:Int) (s:TSub):Bool:=decide ((if s.ID=1 then -credit else 0)≤s.Balance)&&decide (s.Balance≤1000000000000000)
def ek (credit:Int) (l:List TSub) (id:Int):Bool:=l.all fun s=>!decide (s.ID=id)||eK credit s
def lJ (credit:Int) (l:List TSub):Bool:=l.all (eK credit)
theorem nT {credit:Int} {l:List TSub} {id:Int} (h:id∉ids l):ek credit l id=true:=by
 refine List.all_eq_true.2 fun s hs=>?_
 have:¬s.ID=id:=fun e=>h (List.mem_map.2 ⟨s,hs,e⟩)
 simp[this]
theorem m5 {credit:Int} {l:List TSub} (hn:(ids l).Nodup) {i:Nat} {a:TSub} (hi:l[i]?=some a):ek credit l a.ID=eK credit a:=by
 rw[Bool.eq_iff_iff,ek,List.all_eq_true]
 constructor
 ·intro h
  have:=h a (List.mem_of_getElem? hi)
  simpa using this
 ·intro h s hs
  obtain⟨j,hj⟩:=List.getElem?_of_mem hs
  by_cases e:s.ID=a.ID
  ·have:=rB hn hi hj e.symm
   subst this
   rw[hi]at hj
   simp only[Option.some.injEq]at hj
   subst hj
   simp[h]
  ·simp[e]
def kU (n:Int) (e:TEntry):Bool:=!decide (e.Number=n+1)
def jk (d:Int) (e:TEntry):Bool:=!bn e.Day d 36000
def jN (e:TEntry):Bool:=!(decide (0<e.Amount)&&vB e.Amount)||!bn e.Ref 0 1000000
def gY (l:List TSub) (id:Int):Bool:=decide (id=0)||decide (0≤fj l id)
theorem l6 (l:List TSub) (id:Int):gY l id=true↔id=0∨id∈ids l:=by
 unfold gY
 rcases iW l id with⟨h1,h2⟩|⟨i,a,_,_,h3,h4⟩
 ·simp[h1,h2]
 ·simp[h3,h4]
def dL (l:List TSub) (e:TEntry):Bool:=decide (e.From=e.To)||(!gY l e.From||!gY l e.To)
def aT (credit n d:Int) (l:List TSub) (e:TEntry):Int×List TSub:=
 if kU n e=true then (65,l)else if jk d e=true then (8,l)else if jN e=true then (2,l)else if dL l e=true then (60,l)else
 if ek credit (adj l e.From (-e.Amount)) e.From=false then (61,adj l e.From (-e.Amount))else
 if ek credit (adj (adj l e.From (-e.Amount)) e.To e.Amount) e.To=false then (61,adj (adj l e.From (-e.Amount)) e.To e.Amount)else (0,adj (adj l e.From (-e.Amount)) e.To e.Amount)
def bB (credit:Int):Int→Int→List TSub→List TEntry→Option (Int×Int×List TSub)
 |n,d,l,[]=>some (n,d,l)
 |n,d,l,e::es=>if (aT credit n d l e).1=0 then bB credit e.Number e.Day (aT credit n d l e).2 es else none
def cv (l:List TSub):List TSub:=l.map fun s=>⟨s.ID,0⟩
theorem nW (l:List TSub):ids (cv l)=ids l:=by simp[ids,cv]
theorem lv (l:List TSub):(cv l).length=l.length:=by simp[cv]
def aD (a:TAccount):Int:=
 if 20<a.Subs.length∨400<a.Entries.length then 3 else if (!vB a.Credit||!jb (ids a.Subs))=true then 62 else
 match bB a.Credit 0 0 (cv a.Subs) a.Entries with
 |none=>62
 |some r=>if r.2.2=a.Subs then 0 else 62
theorem jH (credit n d:Int) (l:List TSub) (e:TEntry):ids (aT credit n d l e).2=ids l:=by
 unfold aT
 repeat' split
 all_goals simp[fu]
theorem r6 {credit:Int} {l:List TSub} {id amt:Int} (h:lJ credit l=true) (ha:ek credit (adj l id amt) id=true):lJ credit (adj l id amt)=true:=by
 refine List.all_eq_true.2 fun s hs=>?_
 by_cases e:s.ID=id
 ·have:=List.all_eq_true.1 ha s hs
  simpa[e]using this
 ·obtain⟨t,ht,hst⟩:=List.mem_map.1 hs
  split at hst
  ·rename_i h'
   subst hst
   exact absurd h' e
  ·subst hst
   exact List.all_eq_true.1 h t ht
theorem jY {credit n d:Int} {l:List TSub} {e:TEntry} (h:(aT credit n d l e).1=0):
  e.Number=n+1∧d≤e.Day∧e.Day≤36000∧0<e.Amount∧e.Amount≤1000000000000∧0≤e.Ref∧e.Ref≤1000000∧e.From≠e.To∧(e.From=0∨e.From∈ids l)∧(e.To=0∨e.To∈ids l)∧
   ek credit (adj l e.From (-e.Amount)) e.From=true∧ek credit (adj (adj l e.From (-e.Amount)) e.To e.Amount) e.To=true∧(aT credit n d l e).2=adj (adj l e.From (-e.Amount)) e.To e.Amount:=by
 unfold aT at h⊢
 split at h
 ·simp at h
 rename_i h1
 rw[if_neg h1]
 split at h
 ·simp at h
 rename_i h2
 rw[if_neg h2]
 split at h
 ·simp at h
 rename_i h3
 rw[if_neg h3]
 split at h
 ·simp at h
 rename_i h4
 rw[if_neg h4]
 split at h
 ·simp at h
 rename_i h5
 rw[if_neg h5]
 split at h
 ·simp at h
 rename_i h6
 rw[if_neg h6]
 have h1:e.Number=n+1:=by simpa[kU]using h1
 have h2:d≤e.Day∧e.Day≤36000:=by simpa[jk,bn]using h2
 have h3:(0<e.Amount∧(0≤e.Amount∧e.Amount≤1000000000000))∧(0≤e.Ref∧e.Ref≤1000000):=by simpa[jN,vB,bn]using h3
 have h4:¬e.From=e.To∧(gY l e.From=true∧gY l e.To=true):=by simpa[dL]using h4
 rw[l6,l6]at h4
 exact⟨h1,h2.1,h2.2,h3.1.1,h3.1.2.2,h3.2.1,h3.2.2,h4.1,h4.2.1,h4.2.2,by simpa using h5,by simpa using h6,rfl⟩
theorem q8 {credit n d:Int} {l:List TSub} {e:TEntry} (h:(aT credit n d l e).1=0) (hl:lJ credit l=true):lJ credit (aT credit n d l e).2=true:=by
 obtain⟨_,_,_,_,_,_,_,_,_,_,h1,h2,h3⟩:=jY h
 rw[h3]
 exact r6 (r6 hl h1) h2
theorem ln {credit:Int} (hc:0≤credit) (l:List TSub):lJ credit (cv l)=true:=by
 refine List.all_eq_true.2 fun s hs=>?_
 obtain⟨t,_,rfl⟩:=List.mem_map.1 hs
 simp[eK]
 split<;>omega
theorem sZ (credit:Int):∀(es es':List TEntry) (n d:Int) (l:List TSub),bB credit n d l (es++es')=(bB credit n d l es).bind fun r=>bB credit r.1 r.2.1 r.2.2 es'
 |[],es',n,d,l=>rfl
 |e::es,es',n,d,l=>by
  rw[List.cons_append,bB,bB]
  split
  ·exact sZ credit es es' _ _ _
  ·rfl
theorem iC (credit:Int):∀(es:List TEntry) (n d:Int) (l:List TSub) (r:Int×Int×List TSub),lJ credit l=true→bB credit n d l es=some r→
  lJ credit r.2.2=true∧ids r.2.2=ids l∧r.1=n+es.length∧d≤r.2.1∧(d≤36000→r.2.1≤36000)
 |[],n,d,l,r,hl,h=>by
  simp only[bB,Option.some.injEq]at h
  subst h
  exact⟨hl,rfl,by simp,Int.le_refl _,fun h=>h⟩
 |e::es,n,d,l,r,hl,h=>by
  rw[bB]at h
  split at h
  ·rename_i hp
   obtain⟨h1,h2,h3,_⟩:=jY hp
   obtain⟨a1,a2,a3,a4,a5⟩:=iC credit es _ _ _ r (q8 hp hl) h
   refine⟨a1,a2.trans (jH _ _ _ _ _),by rw[a3,h1,List.length_cons];omega,by omega,fun _=>a5 h3⟩
  ·cases h
open Go.PA
open Go.RowKit
theorem xE {row src:Option Nat} (l:List TEntry) (H:ac) (hl:l.length≤1000000):MFun Tryz.prog row src 62 [.list 6 (aj TEntry.cells l)] H (fun r H'=>∃id,r= .sref id 0 l.length∧H.length≤id∧H'[id]?=some (some ⟨75,6,aj TEntry.cells l⟩)∧Kept [] H H'):=by
 have own:MFun Tryz.prog row src 62 [.list 6 (aj TEntry.cells l)] H (fun r H'=>(r= .nil∧l=[]∧H'=H)∨∃id,r= .sref id 0 l.length∧H.length≤id∧H'[id]?=some (some ⟨75,6,aj TEntry.cells l⟩)∧Kept [] H H'):=by
  cases l with
  |nil=>
   refine kY fun A c=>?_
   refine aI Tryz.func62 rfl (by simp[Tryz.f62]) (by kernel_rfl) ⟨.nil,H,.inl ⟨rfl,rfl,rfl⟩⟩ ?_
   intro E hP hr hs hN
   cases A with
   |none=>simp -dsimp -implicitDefEqProofs [-getElem?_pos,go_sem,hP]
   |some a=>
    simp -dsimp -implicitDefEqProofs [-getElem?_pos,go_sem,hP]
    exact aK _ _ _
  |cons a l=>
   refine aI Tryz.func62 rfl (by simp[Tryz.f62]) (by kernel_rfl) ⟨_,H++[some ⟨75,6,aj TEntry.cells (a::l)⟩],.inr ⟨H.length,rfl,Nat.le_refl _,by simp,eQ _ (au _ _)⟩⟩ ?_
   intro E hP hr hs hN
   simp only[List.length_cons]at hl
   have e:aj TEntry.cells (a::l)=TEntry.cells a::aj TEntry.cells l:=rfl
   simp -dsimp -implicitDefEqProofs [-getElem?_pos,go_sem,hP,e]
   refine⟨by omega,by omega,?_⟩
   exact aK _ _ _
 refine (own.ownNil 75 6).mono ?_
 rintro r H' (⟨H0,h0,rfl,rfl⟩|⟨hne,h⟩)
 ·rcases h0 with⟨_,rfl,rfl⟩|⟨id,h,_⟩
  ·exact⟨_,rfl,Nat.le_refl _,by simp[aj],eQ _ (au _ _)⟩
  ·cases h
 ·rcases h with⟨h,_⟩|h
  ·exact absurd h hne
  ·exact h
theorem sT {row src:Option Nat} (l:List TSub) (x:AV) (H:ac) (g:FuncId) (caps:List AV) (p:TSub→Bool) (hx:SlIs H x 2 (aj TSub.cells l)) (hl:l.length≤1000000) (hen:aa Tryz.prog g=true)
  (hg:∀a,a∈l→∀H',Kept [] H H'→MFun Tryz.prog row src g (.agg (TSub.cells a)::caps) H' (fun r H''=>r=bv (p a)∧Kept [] H' H'')):
  MFun Tryz.prog row src 175 [x,.fn g caps] H (fun r H'=>r=iv (fA p l)∧Kept [] H H'):=by
 refine aI Tryz.func175 rfl (by simp[Tryz.f175]) (by kernel_rfl) ⟨_,H,rfl,au _ _⟩ ?_
 intro E hP hr hs hN
 have hlen:=hx.len
 rw[al]at hlen
 simp -dsimp -implicitDefEqProofs [-getElem?_pos,go_sem,hP,hlen]
 obtain⟨I,hI⟩:∃I:Nat→St→Prop,I=fun m s=>∃k:Nat,k≤l.length∧m=l.length-k∧fA p l=bE p k (l.drop k)∧s.t 0=x∧s.t 1= .fn g caps∧s.t 7=iv l.length∧s.t 8=iv k∧Kept [] H s.H:=⟨_,rfl⟩
 refine ay I l.length (by rw[hN];rfl) ?_ ?_
 ·rw[hI]
  exact⟨0,by omega,by omega,by simp[fA],by simp -dsimp[-getElem?_pos,go_sem],by simp -dsimp[-getElem?_pos,go_sem],by simp -dsimp[-getElem?_pos,go_sem],by simp -dsimp[-getElem?_pos,go_sem],by simp -dsimp[-getElem?_pos,go_sem];exact au _ _⟩
 intro m s hs'
 rw[hI]at hs'
 obtain⟨k,hk,hm,hi,t0,t1,t7,t8,hKp⟩:=hs'
 simp -dsimp -implicitDefEqProofs [-getElem?_pos,go_sem,hP,t7,t8]
 refine aB (fun h=>?_) (fun h=>?_)
 ·have hk:k<l.length:=by simpa using h
  obtain⟨a,ha⟩:∃a,l[k]?=some a:=⟨_,List.getElem?_eq_getElem hk⟩
  have wk:=af ((k:Int)+1) (by omega)
  obtain⟨ad,h1,h2⟩:=(hx.kept hKp).idx (P:=Tryz.prog) (t:=25) (e:=121) P8 (by rw[Oo]) O7 k (by rw[al];exact hk)
  have h2':aJ s.H ad=some (TSub.cells a):=by
   rw[h2]
   have:=wr TSub.cells l k
   rw[ha,List.getElem?_eq_getElem (by rw[al];exact hk)]at this
   exact this
  have hz:(TSub.cells a).take 2=TSub.cells a:=List.take_of_length_le (by rw[TSub.len];omega)
  simp -dsimp -implicitDefEqProofs [-getElem?_pos,go_sem,hP,t8,t1,t0,h1,h2',TSub.len,hz]
  have hd:l.drop k=a::l.drop (k+1):=by
   rw[List.getElem?_eq_getElem hk]at ha
   rw[List.drop_eq_getElem_cons hk,Option.some.inj ha]
  refine aM (by rw[hr,hs];exact hg a (List.mem_of_getElem? ha) s.H hKp) hP hen ?_
  rintro r H' ⟨rfl,hK2⟩
  rw[hd]at hi
  simp only[bE]at hi
  simp -dsimp -implicitDefEqProofs [-getElem?_pos,go_sem,hP]
  refine aB (fun hp=>?_) (fun hp=>?_)
  ·rw[if_pos hp]at hi
   simp -dsimp -implicitDefEqProofs [-getElem?_pos,go_sem,hP]
   exact⟨hi.symm,hKp.trans hK2⟩
  ·rw[hp,if_neg (by simp)]at hi
   simp -dsimp -implicitDefEqProofs [-getElem?_pos,go_sem,hP,t8,wk]
   refine⟨l.length-(k+1),by omega,?_⟩
   rw[hI]
   exact⟨k+1,by omega,rfl,hi,by simp -dsimp[-getElem?_pos,go_sem,t0],by simp -dsimp[-getElem?_pos,go_sem,t1],by simp -dsimp[-getElem?_pos,go_sem,t7],by simp -dsimp[-getElem?_pos,go_sem],by simp -dsimp[-getElem?_pos,go_sem];exact hKp.trans hK2⟩
 ·have hk:k=l.length:=by simp at h;omega
  subst hk
  rw[List.drop_length]at hi
  simp -dsimp -implicitDefEqProofs [-getElem?_pos,go_sem,hP]
  exact⟨hi.symm,hKp⟩
open Go.PA
open Go.RowKit
abbrev aL (l:List TSub):AV:= .list 2 (aj TSub.cells l)
abbrev bu (l:List TEntry):AV:= .list 6 (aj TEntry.cells l)
theorem aY (l:List TSub):Imm (aL l):=aV _ TSub.imm l
theorem fe (l:List TEntry):Imm (bu l):=aV _ TEntry.imm l
theorem cV (a:TAccount):Imm (.agg a.cells):= .agg fun c hc=>a.imm c hc
theorem eC (e:TEntry):Imm (.agg e.cells):= .agg fun c hc=>e.imm c hc
theorem uQ (n:Int):PFun Tryz.prog none none 144 [iv n] (·=bv (vB n)):=by
 refine ab Tryz.func144 rfl (by simp[Tryz.f144]) (by kernel_rfl) ?_
 intro E hP hr hs hW hN
 by_cases h1:0≤n<;>by_cases h2:n≤1000000000000<;>simp -dsimp -implicitDefEqProofs [-getElem?_pos,go_sem,hP,h1,h2,vB,bn]
theorem Cz (n:Int):PFun Tryz.prog none none 97 [iv n] (·=bv (bn n 0 36000)):=by
 refine ab Tryz.func97 rfl (by simp[Tryz.f97]) (by kernel_rfl) ?_
 intro E hP hr hs hW hN
 by_cases h1:0≤n<;>by_cases h2:n≤36000<;>simp -dsimp -implicitDefEqProofs [-getElem?_pos,go_sem,hP,h1,h2,bn]
theorem ka (l:List TSub) (id:Int) (hl:l.length≤100000):PFun Tryz.prog none none 228 [aL l,iv id] (·=iv (fj l id)):=by
 refine ab Tryz.func228 rfl (by simp[Tryz.f228]) (by kernel_rfl) ?_
 intro E hP hr hs hW hN
 simp -dsimp -implicitDefEqProofs [-getElem?_pos,go_sem,hP]
 obtain⟨I,hI⟩:∃I:Nat→St→Prop,I=fun m s=>∃k:Nat,k≤l.length∧m=l.length-k∧fj l id=bE (fun s=>decide (s.ID=id)) k (l.drop k)∧s.t 1=iv id∧s.t 7=aL l∧s.t 8=iv l.length∧s.t 9=iv k:=⟨_,rfl⟩
 refine ay I (l.length) (by rw[hN];rfl) ?_ ?_
 ·rw[hI]
  exact⟨0,by omega,by omega,by simp[fj,fA],by simp -dsimp[-getElem?_pos,go_sem],by simp -dsimp[-getElem?_pos,go_sem],by simp -dsimp[-getElem?_pos,go_sem],by simp -dsimp[-getElem?_pos,go_sem]⟩
 intro m s hs'
 rw[hI]at hs'
 obtain⟨k,hk,hm,hi,t1,t7,t8,t9⟩:=hs'
 simp -dsimp -implicitDefEqProofs [-getElem?_pos,go_sem,hP,t8,t9]
 refine aB (fun h=>?_) (fun h=>?_)
 ·have hk:k<l.length:=by simpa using h
  obtain⟨a,ha⟩:∃a,l[k]?=some a:=⟨_,List.getElem?_eq_getElem hk⟩
  have wk:=af ((k:Int)+1) (by omega)
  have hd:l.drop k=a::l.drop (k+1):=by
   rw[List.getElem?_eq_getElem hk]at ha
   rw[List.drop_eq_getElem_cons hk,Option.some.inj ha]
  rw[hd]at hi
  simp only[bE]at hi
  simp -dsimp -implicitDefEqProofs [-getElem?_pos,go_sem,hP,t9,t7,t1,ha,TSub.cells]
  refine aB (fun hp=>?_) (fun hp=>?_)
  ·rw[if_pos hp]at hi
   simp -dsimp -implicitDefEqProofs [-getElem?_pos,go_sem,hP]
   exact hi.symm
  ·rw[if_neg (by simpa using hp)]at hi
   simp -dsimp -implicitDefEqProofs [-getElem?_pos,go_sem,hP,t9,wk]
   refine⟨l.length-(k+1),by omega,?_⟩
   rw[hI]
   exact⟨k+1,by omega,rfl,hi,by simp -dsimp[-getElem?_pos,go_sem,t1],by simp -dsimp[-getElem?_pos,go_sem,t7],by simp -dsimp[-getElem?_pos,go_sem,t8],by simp -dsimp[-getElem?_pos,go_sem]⟩
 ·have hk:k=l.length:=by simp at h;omega
  subst hk
  rw[List.drop_length]at hi
  simp -dsimp -implicitDefEqProofs [-getElem?_pos,go_sem,hP]
  exact hi.symm
theorem I9 (l:List TSub) (hl:l.length≤100000):PFun Tryz.prog none none 159 [aL l] (·=aL (cv l)):=by
 refine ab Tryz.func159 rfl (by simp[Tryz.f159]) (by kernel_rfl) ?_
 intro E hP hr hs hW hN
 simp -dsimp -implicitDefEqProofs [-getElem?_pos,go_sem,hP]
 refine eJ 3 121 2 (by simp -dsimp[-getElem?_pos,go_sem]) ?_
 obtain⟨I,hI⟩:∃I:Nat→St→Prop,I=fun m s=>∃k id:Nat,k≤l.length∧m=l.length-k∧s.t 6=aL l∧s.t 7=iv l.length∧s.t 8=iv k∧s.t 3= .sref id 0 k∧s.H[id]?=some (some ⟨121,2,aj TSub.cells (cv (l.take k))⟩):=⟨_,rfl⟩
 refine zQ 3 hW I (l.length) (by rw[hN];rfl) ?_ ?_
 ·rw[hI]
  exact⟨0,0,by omega,by omega,by simp -dsimp[-getElem?_pos,go_sem],by simp -dsimp[-getElem?_pos,go_sem],by simp -dsimp[-getElem?_pos,go_sem],by simp -dsimp[-getElem?_pos,go_sem],by simp -dsimp[-getElem?_pos,go_sem,cv]⟩
 intro m s hs'
 rw[hI]at hs'
 obtain⟨k,id,hk,hm,t6,t7,t8,t3,hH⟩:=hs'
 have hlt:=(gsI hH)
 simp -dsimp -implicitDefEqProofs [-getElem?_pos,go_sem,hP,t7,t8]
 refine aB (fun h=>?_) (fun h=>?_)
 ·have hk:k<l.length:=by simpa using h
  obtain⟨a,ha⟩:∃a,l[k]?=some a:=⟨_,List.getElem?_eq_getElem hk⟩
  have wk:=af ((k:Int)+1) (by omega)
  have e1:l.take (k+1)=l.take k++[a]:=by rw[List.take_add_one,ha];rfl
  have hz:(cv (l.take k)).length=k:=by rw[lv];simp;omega
  have e2:=gZ TSub.cells (cv (l.take k)) k hz.symm
  simp -dsimp -implicitDefEqProofs [-getElem?_pos,go_sem,hP,t8,t6,ha,TSub.cells,t3,hH,hlt,e2,hz,wk]
  refine⟨by omega,by omega,l.length-(k+1),by omega,?_⟩
  rw[hI]
  refine⟨k+1,s.H.length+1,by omega,rfl,by simp -dsimp[-getElem?_pos,go_sem,t6],by simp -dsimp[-getElem?_pos,go_sem,t7],by simp -dsimp[-getElem?_pos,go_sem],by simp -dsimp[-getElem?_pos,go_sem],?_⟩
  simp -dsimp -implicitDefEqProofs [-getElem?_pos,go_sem,e1,cv,aj,TSub.cells]
 ·have hk:k=l.length:=by simp at h;omega
  subst hk
  rw[List.take_length]at hH
  simp -dsimp -implicitDefEqProofs [-getElem?_pos,go_sem,hP]
  refine frz id l.length 121 2 (aj TSub.cells (cv l)) (by simp -dsimp[-getElem?_pos,go_sem,t3]) (by simp -dsimp[-getElem?_pos,go_sem,hH]) (by simp[aj,cv]) (aY _) ?_
  simp -dsimp -implicitDefEqProofs [-getElem?_pos,go_sem,hP]
  exact aw (aY _) rfl
def mr (credit:Int) (l:List TSub) (last e:TEntry):List TSub×Int:=if (aT credit last.Number last.Day l e).1=0 then ((aT credit last.Number last.Day l e).2,0)else ([],(aT credit last.Number last.Day l e).1)
theorem eO (credit:Int) (s:TSub):eK credit s=true↔(if s.ID=1 then -credit else 0)≤s.Balance∧s.Balance≤1000000000000000:=by simp[eK]
theorem FU {l:List TSub} (hn:(ids l).Nodup) {i:Nat} {a:TSub} (hi:l[i]?=some a):fj l a.ID=(i:Int):=by
 rcases iW l a.ID with⟨_,h2⟩|⟨j,b,h1,h2,h3,_⟩
 ·exact absurd (List.mem_map.2 ⟨a,List.mem_of_getElem? hi,rfl⟩) h2
 ·rw[h3,rB hn hi h1 h2.symm]
set_option maxHeartbeats 1000000 in
theorem KK (credit:Int) (l:List TSub) (last e:TEntry) (hl:l.length≤100000) (hc:0≤credit∧credit≤1000000000000) (hn:(ids l).Nodup) (h0:0∉ids l) (hok:lJ credit l=true) (hln: -1000000000≤last.Number∧last.Number≤1000000000) (hld:0≤last.Day):
  PFun Tryz.prog none none 160 [iv credit,aL l,.agg last.cells,.agg e.cells] (·= .tup [aL (mr credit l last e).1,iv (mr credit l last e).2]):=by
 refine ab Tryz.func160 rfl (by simp[Tryz.f160]) (by kernel_rfl) ?_
 intro E hP hr hs hW hN
 have w1:=af (last.Number+1) (by omega)
 have fin:∀(n:Int) (H:ac) (b),¬n=0→(aT credit last.Number last.Day l e).1=n→jO H (.tup [.nil,iv n]) (·= .tup [aL (mr credit l last e).1,iv (mr credit l last e).2]) b:=fun n H b hn0 hp=>by
  refine bQ 2 ?_
  unfold mr
  rw[if_neg (by rw[hp];exact hn0),hp]
  simp[aj]
 by_cases h1:e.Number=last.Number+1
 rotate_left
 ·have h1':kU last.Number e=true:=by simpa[kU]using h1
  simp -dsimp -implicitDefEqProofs [-getElem?_pos,go_sem,hP,TEntry.cells,w1,h1]
  exact fin 65 _ _ (by omega) (by rw[aT,if_pos h1'])
 have h1':¬kU last.Number e=true:=by simpa[kU]using h1
 by_cases h2:e.Day<last.Day
 ·have h2':jk last.Day e=true:=by simp[jk,bn];omega
  simp -dsimp -implicitDefEqProofs [-getElem?_pos,go_sem,hP,TEntry.cells,w1,h1,h2]
  exact fin 8 _ _ (by omega) (by rw[aT,if_neg h1',if_pos h2'])
 simp -dsimp -implicitDefEqProofs [-getElem?_pos,go_sem,hP,TEntry.cells,w1,h1,h2]
 refine ah (Cz e.Day) hP M9 (ai (by simp -dsimp[-getElem?_pos,go_sem])) .sc ?_
 by_cases h3:bn e.Day 0 36000=true
 rotate_left
 ·have h2':jk last.Day e=true:=by simp[bn]at h3;simp[jk,bn];omega
  simp -dsimp -implicitDefEqProofs [-getElem?_pos,go_sem,hP,h3]
  exact fin 8 _ _ (by omega) (by rw[aT,if_neg h1',if_pos h2'])
 have h2':¬jk last.Day e=true:=by simp[bn]at h3;simp[jk,bn];omega
 simp -dsimp -implicitDefEqProofs [-getElem?_pos,go_sem,hP,h3]
 refine ah (uQ e.Amount) hP Lf (ai (by simp -dsimp[-getElem?_pos,go_sem])) .sc ?_
 have b3:jN e=true↔¬(vB e.Amount=true∧¬e.Amount=0∧¬e.Ref<0∧¬1000000<e.Ref):=by
  simp[jN,vB,bn]
  omega
 by_cases h4:jN e=true
 ·have f4:∀(H:ac) (b),jO H (.tup [.nil,iv 2]) (·= .tup [aL (mr credit l last e).1,iv (mr credit l last e).2]) b:=fun H b=>fin 2 _ _ (by omega) (by rw[aT,if_neg h1',if_neg h2',if_pos h4])
  by_cases a1:vB e.Amount=true
  rotate_left
  ·simp -dsimp -implicitDefEqProofs [-getElem?_pos,go_sem,hP,a1]
   exact f4 _ _
  by_cases a2:e.Amount=0
  ·have d2:decide (e.Amount=0)=true:=by simpa using a2
   simp -dsimp -implicitDefEqProofs [-getElem?_pos,go_sem,hP,a1,d2]
   exact f4 _ _
  by_cases a3:e.Ref<0
  ·simp -dsimp -implicitDefEqProofs [-getElem?_pos,go_sem,hP,a1,a2,a3]
   exact f4 _ _
  by_cases a4:1000000<e.Ref
  ·simp -dsimp -implicitDefEqProofs [-getElem?_pos,go_sem,hP,a1,a2,a3,a4]
   exact f4 _ _
  ·exact absurd ⟨a1,a2,a3,a4⟩ (b3.1 h4)
 have h4':=h4
 rw[b3,Classical.not_not]at h4'
 have a1:=h4'.1
 have a2:=h4'.2.1
 have a3:=h4'.2.2.1
 have a4:=h4'.2.2.2
 clear h4'
 simp -dsimp -implicitDefEqProofs [-getElem?_pos,go_sem,hP,a1,a2,a3,a4]
 have b5:dL l e=true↔¬(¬e.From=e.To∧(e.From=0∨0≤fj l e.From)∧(e.To=0∨0≤fj l e.To)):=by
  simp[dL,gY]
  grind
 by_cases a5:e.From=e.To
 ·have h5:dL l e=true:=b5.2 fun h=>h.1 a5
  have d5:decide (e.From=e.To)=true:=by simpa using a5
  simp -dsimp -implicitDefEqProofs [-getElem?_pos,go_sem,hP,d5]
  exact fin 60 _ _ (by omega) (by rw[aT,if_neg h1',if_neg h2',if_neg h4,if_pos h5])
 have f5:∀(H:ac) (b),dL l e=true→jO H (.tup [.nil,iv 60]) (·= .tup [aL (mr credit l last e).1,iv (mr credit l last e).2]) b:=fun H b h5=>fin 60 _ _ (by omega) (by rw[aT,if_neg h1',if_neg h2',if_neg h4,if_pos h5])
 have iS:=aY l
 have two:∀(From:Int),From=0∧fj l From= -1∨¬From=0∧fj l From= -1∨∃(i:Nat) (a:TSub),¬From=0∧l[i]?=some a∧a.ID=From∧fj l From=(i:Int):=fun From=>by
  rcases iW l From with⟨p1,p2⟩|⟨i,a,p1,p2,p3,p4⟩
  ·by_cases hz:From=0
   ·exact .inl ⟨hz,p1⟩
   ·exact .inr (.inl ⟨hz,p1⟩)
  ·exact .inr (.inr ⟨i,a,fun hz=>h0 (hz▸p4),p1,p2,p3⟩)
 have e0:=gZ TSub.cells l l.length rfl
 have pS:aT credit last.Number last.Day l e=if dL l e=true then (60,l)else if ek credit (adj l e.From (-e.Amount)) e.From=false then (61,adj l e.From (-e.Amount))else
   if ek credit (adj (adj l e.From (-e.Amount)) e.To e.Amount) e.To=false then (61,adj (adj l e.From (-e.Amount)) e.To e.Amount)else (0,adj (adj l e.From (-e.Amount)) e.To e.Amount):=by
  rw[aT,if_neg h1',if_neg h2',if_neg h4]
 have okR:∀L,aT credit last.Number last.Day l e=(0,L)→mr credit l last e=(L,0):=fun L h=>by unfold mr;rw[h];rfl
 have hamt:0≤e.Amount∧e.Amount≤1000000000000:=by simpa[vB,bn]using a1
 have okg:∀(i:Nat) (a:TSub),l[i]?=some a→eK credit a=true:=fun i a hi=>List.all_eq_true.1 hok a (List.mem_of_getElem? hi)
 have bnd:∀(i:Nat) (a:TSub),l[i]?=some a→ -1000000000000≤a.Balance∧a.Balance≤1000000000000000:=fun i a hi=>by
  have:=(eO _ _).1 (okg i a hi)
  split at this<;>omega
 have wneg:=af (0-credit) (by omega)
 rw[Int.zero_sub]at wneg
 rcases two e.From with⟨z1,p1⟩|⟨z1,p1⟩|⟨i,a,z1,i1,ea,p1⟩
 ·have d1:decide (e.From=0)=true:=by simpa using z1
  have nf:adj l e.From (-e.Amount)=l:=qu (z1▸h0)
  have of:ek credit l e.From=true:=nT (z1▸h0)
  rcases two e.To with⟨z2,p2⟩|⟨z2,p2⟩|⟨j,b,z2,jL,eb,p2⟩
  ·exact absurd (z1.trans z2.symm) a5
  ·have h5:dL l e=true:=b5.2 fun h=>by have:=h.2.2;omega
   simp -dsimp -implicitDefEqProofs [-getElem?_pos,go_sem,hP,a5,d1,z2]
   refine ah (ka l e.To hl) hP gp (aH iS (aH .sc (be.2 trivial))) .sc ?_
   simp -dsimp -implicitDefEqProofs [-getElem?_pos,go_sem,hP,a5,d1,z2,p2]
   exact f5 _ _ h5
  ·have h5:dL l e=false:=by simpa using fun h=>b5.1 h ⟨a5,.inl z1,.inr (by omega)⟩
   have ok1:(if dL l e=true then ((60:Int),l)else if ek credit (adj l e.From (-e.Amount)) e.From=false then (61,adj l e.From (-e.Amount))else
     if ek credit (adj (adj l e.From (-e.Amount)) e.To e.Amount) e.To=false then (61,adj (adj l e.From (-e.Amount)) e.To e.Amount)else (0,adj (adj l e.From (-e.Amount)) e.To e.Amount))=
     if ek credit (adj l e.To e.Amount) e.To=false then (61,adj l e.To e.Amount)else (0,adj l e.To e.Amount):=by
    rw[nf,of,h5];simp
   have okb:=okg j b jL
   have hb:=bnd j b jL
   have wb:=af (b.Balance+e.Amount) (by omega)
   have nL:=hn
   have q2:=p2
   simp -dsimp -implicitDefEqProofs [-getElem?_pos,go_sem,hP,a5,d1,z2]
   refine ah (ka l e.To hl) hP gp (aH iS (aH .sc (be.2 trivial))) .sc ?_
   have d2:decide ((j:Int)<0)=false:=by simp
   simp -dsimp -implicitDefEqProofs [-getElem?_pos,go_sem,hP,a5,d1,z2,p2,d2]
   refine⟨by omega,by omega,?_⟩
   refine ah (ka l e.From (by (try simp only[bm]);omega)) hP gp (cY rfl (by simp[aj,adj]) (aY _) (aH .sc (be.2 trivial))) .sc ?_
   simp -dsimp -implicitDefEqProofs [-getElem?_pos,go_sem,hP,p1]
   have hj:j<l.length:=(gsI jL)
   have hjl:j<l.length:=by (try simp only[bm]at hj);omega
   refine ah (ka l e.To (by (try simp only[bm]);omega)) hP gp (cY rfl (by simp[aj,adj]) (aY _) (aH .sc (be.2 trivial))) .sc ?_
   simp -dsimp -implicitDefEqProofs [-getElem?_pos,go_sem,hP,q2]
   refine ao (fun _=>true) [10] hP (by kernel_rfl) (by kernel_rfl) ?_
   have set2:(aj TSub.cells l).set j [iv b.ID,iv (b.Balance+e.Amount)]=aj TSub.cells (adj l e.To e.Amount):=by
    rw[←eb,←qF nL jL,←fD]
    rfl
   have g2:(adj l e.To e.Amount)[j]?=some ⟨b.ID,b.Balance+e.Amount⟩:=by rw[jz,jL,←eb];simp
   have len2:(adj l e.To e.Amount).length=l.length:=by simp[bm]
   have o2:ek credit (adj l e.To e.Amount) e.To=eK credit ⟨b.ID,b.Balance+e.Amount⟩:=by
    rw[←eb]at g2⊢
    exact m5 (by rw[fu];exact nL) g2
   have lt2:(j:Int)<(l.length:Int):=by omega
   simp -dsimp -implicitDefEqProofs [-getElem?_pos,go_sem,hP,bm,jL,TSub.cells,hjl,lt2,wb,set2,g2]
   by_cases c4:1000000000000000<b.Balance+e.Amount
   ·have o2':ek credit (adj l e.To e.Amount) e.To=false:=by rw[o2];simp[eK];omega
    simp -dsimp -implicitDefEqProofs [-getElem?_pos,go_sem,hP,bm,g2,TSub.cells,hjl,lt2,c4]
    exact fin 61 _ _ (by omega) (by rw[pS,ok1];simp[nf,z1,o2'])
   ·have o2':ek credit (adj l e.To e.Amount) e.To=true:=by
     rw[o2]
     have:=(eO _ _).1 okb
     rw[eO]
     dsimp only
     omega
    simp -dsimp -implicitDefEqProofs [-getElem?_pos,go_sem,hP,bm,g2,TSub.cells,hjl,lt2,c4]
    have e2:=gZ TSub.cells (adj l e.To e.Amount) l.length (by simp[bm])
    refine done (x:= .tup [aL (adj l e.To e.Amount),iv 0]) ?_ ?_ ?_
    ·simp -dsimp -implicitDefEqProofs [-getElem?_pos,go_sem,e2]
     exact cN.1 (aY _)
    ·rw[okR (adj l e.To e.Amount) (by rw[pS,ok1];simp[nf,z1,o2'])]
    ·simp -dsimp -implicitDefEqProofs [-getElem?_pos,go_sem,e2]
 ·have h5:dL l e=true:=b5.2 fun h=>by have:=h.2.1;omega
  simp -dsimp -implicitDefEqProofs [-getElem?_pos,go_sem,hP,a5,z1]
  refine ah (ka l e.From hl) hP gp (aH iS (aH .sc (be.2 trivial))) .sc ?_
  simp -dsimp -implicitDefEqProofs [-getElem?_pos,go_sem,hP,a5,z1,p1]
  exact f5 _ _ h5
 ·have d2:decide ((i:Int)<0)=false:=by simp
  simp -dsimp -implicitDefEqProofs [-getElem?_pos,go_sem,hP,a5,z1]
  refine ah (ka l e.From hl) hP gp (aH iS (aH .sc (be.2 trivial))) .sc ?_
  simp -dsimp -implicitDefEqProofs [-getElem?_pos,go_sem,hP,a5,z1,p1,d2]
  have hi:i<l.length:=(gsI i1)
  have hia:=bnd i a i1
  have oka:=(eO _ _).1 (okg i a i1)
  have wa:=af (a.Balance-e.Amount) (by omega)
  have set1:(aj TSub.cells l).set i [iv a.ID,iv (a.Balance-e.Amount)]=aj TSub.cells (adj l e.From (-e.Amount)):=by
   rw[←ea,←qF hn i1,←fD]
   rfl
  have g1:(adj l e.From (-e.Amount))[i]?=some ⟨a.ID,a.Balance-e.Amount⟩:=by rw[jz,i1,←ea];simp;omega
  have nL1:(ids (adj l e.From (-e.Amount))).Nodup:=by rw[fu];exact hn
  have o1:ek credit (adj l e.From (-e.Amount)) e.From=eK credit ⟨a.ID,a.Balance-e.Amount⟩:=by
   rw[←ea]at g1 nL1⊢
   exact m5 nL1 g1
  have e1:=gZ TSub.cells (adj l e.From (-e.Amount)) l.length (by simp[bm])
  have len1:(adj l e.From (-e.Amount)).length=l.length:=by simp[bm]
  have lt1:(i:Int)<(l.length:Int):=by omega
  have stepF:dL l e=false→∀(P:Prop),(eK credit ⟨a.ID,a.Balance-e.Amount⟩=false→P)→(eK credit ⟨a.ID,a.Balance-e.Amount⟩=true→P)→P:=fun _ P h k=>by
   cases hh:eK credit ⟨a.ID,a.Balance-e.Amount⟩
   ·exact h hh
   ·exact k hh
  rcases two e.To with⟨z2,p2⟩|⟨z2,p2⟩|⟨j,b,z2,j1,eb,p2⟩
  rotate_left
  ·have h5:dL l e=true:=b5.2 fun h=>by have:=h.2.2;omega
   simp -dsimp -implicitDefEqProofs [-getElem?_pos,go_sem,hP,a5,z1,z2,p1,d2]
   refine ah (ka l e.To hl) hP gp (aH iS (aH .sc (be.2 trivial))) .sc ?_
   simp -dsimp -implicitDefEqProofs [-getElem?_pos,go_sem,hP,a5,z1,z2,p1,p2,d2]
   exact f5 _ _ h5
  ·have h5:dL l e=false:=by simpa using fun h=>b5.1 h ⟨a5,.inr (by omega),.inr (by omega)⟩
   have d4:decide ((j:Int)<0)=false:=by simp
   have okb:=okg j b j1
   have hb:=bnd j b j1
   have wb:=af (b.Balance+e.Amount) (by omega)
   have q2:fj (adj l e.From (-e.Amount)) e.To=(j:Int):=by
    have hne:¬b.ID=e.From:=fun h=>a5 (h.symm.trans eb)
    have:(adj l e.From (-e.Amount))[j]?=some b:=by rw[jz,j1];simp[hne]
    rw[←eb]
    exact FU nL1 this
   simp -dsimp -implicitDefEqProofs [-getElem?_pos,go_sem,hP,a5,z1,z2,p1,d2]
   refine ah (ka l e.To hl) hP gp (aH iS (aH .sc (be.2 trivial))) .sc ?_
   simp -dsimp -implicitDefEqProofs [-getElem?_pos,go_sem,hP,a5,z1,z2,p1,p2,d2,d4]
   refine⟨by omega,by omega,?_⟩
   refine ah (ka l e.From (by (try simp only[bm]);omega)) hP gp (cY rfl (by simp[aj,adj]) (aY _) (aH .sc (be.2 trivial))) .sc ?_
   simp -dsimp -implicitDefEqProofs [-getElem?_pos,go_sem,hP,p1]
   refine ao (fun _=>true) [10] hP (by kernel_rfl) (by kernel_rfl) ?_
   simp -dsimp -implicitDefEqProofs [-getElem?_pos,go_sem,hP,bm,i1,TSub.cells,hi,lt1,wa,set1,g1]
   have nok:eK credit ⟨a.ID,a.Balance-e.Amount⟩=false↔(a.Balance-e.Amount<0∧(¬a.ID=1∨a.Balance-e.Amount< -credit)):=by
    rw[←Bool.not_eq_true,eO]
    dsimp only
    by_cases hid:a.ID=1
    ·rw[if_pos hid];omega
    ·rw[if_neg hid];simp[hid];omega
   by_cases hno:eK credit ⟨a.ID,a.Balance-e.Amount⟩=false
   ·have r61:∀(H:ac) (b),jO H (.tup [.nil,iv 61]) (·= .tup [aL (mr credit l last e).1,iv (mr credit l last e).2]) b:=fun H b=>fin 61 _ _ (by omega) (by rw[pS,h5,o1,hno];simp)
    obtain⟨c1,c2⟩:=nok.1 hno
    by_cases c3:a.ID=1
    ·have c4:a.Balance-e.Amount< -credit:=c2.resolve_left (fun h=>h c3)
     have d3:decide (a.ID=1)=true:=by simpa using c3
     simp -dsimp -implicitDefEqProofs [-getElem?_pos,go_sem,hP,bm,g1,TSub.cells,hi,lt1,c1,d3,c4,wneg]
     exact r61 _ _
    ·simp -dsimp -implicitDefEqProofs [-getElem?_pos,go_sem,hP,bm,g1,TSub.cells,hi,lt1,c1,c3]
     exact r61 _ _
   have hyes:eK credit ⟨a.ID,a.Balance-e.Amount⟩=true:=by simpa using hno
   have f1:ek credit (adj l e.From (-e.Amount)) e.From=true:=by rw[o1,hyes]
   have ok1:(if dL l e=true then ((60:Int),l)else if ek credit (adj l e.From (-e.Amount)) e.From=false then (61,adj l e.From (-e.Amount))else
     if ek credit (adj (adj l e.From (-e.Amount)) e.To e.Amount) e.To=false then (61,adj (adj l e.From (-e.Amount)) e.To e.Amount)else (0,adj (adj l e.From (-e.Amount)) e.To e.Amount))=
     if ek credit (adj (adj l e.From (-e.Amount)) e.To e.Amount) e.To=false then (61,adj (adj l e.From (-e.Amount)) e.To e.Amount)else (0,adj (adj l e.From (-e.Amount)) e.To e.Amount):=by
    rw[f1,h5];simp
   have go:∀{p:Prop},(a.Balance-e.Amount<0→a.ID=1→¬a.Balance-e.Amount< -credit→p)→(¬a.Balance-e.Amount<0→p)→p:=fun h k=>by
    by_cases c1:a.Balance-e.Amount<0
    ·have c3:a.ID=1:=Classical.byContradiction fun h3=>hno (nok.2 ⟨c1,.inl h3⟩)
     exact h c1 c3 fun h4=>hno (nok.2 ⟨c1,.inr h4⟩)
    ·exact k c1
   refine go (fun c1 c3 c4=>?_) (fun c1=>?_)
   ·have d3:decide (a.ID=1)=true:=by simpa using c3
    simp -dsimp -implicitDefEqProofs [-getElem?_pos,go_sem,hP,bm,g1,TSub.cells,hi,lt1,c1,d3,c4,wneg]
    have hj:j<l.length:=(gsI j1)
    have hne:¬b.ID=e.From:=fun h=>a5 (h.symm.trans eb)
    have jL:(adj l e.From (-e.Amount))[j]?=some b:=by rw[jz,j1];simp[hne]
    refine ah (ka (adj l e.From (-e.Amount)) e.To (by (try simp only[bm]);omega)) hP gp (cY rfl (by simp[aj,adj]) (aY _) (aH .sc (be.2 trivial))) .sc ?_
    simp -dsimp -implicitDefEqProofs [-getElem?_pos,go_sem,hP,q2]
    refine ao (fun _=>true) [10] hP (by kernel_rfl) (by kernel_rfl) ?_
    have set2:(aj TSub.cells (adj l e.From (-e.Amount))).set j [iv b.ID,iv (b.Balance+e.Amount)]=aj TSub.cells (adj (adj l e.From (-e.Amount)) e.To e.Amount):=by
     rw[←eb,←qF nL1 jL,←fD]
     rfl
    have g2:(adj (adj l e.From (-e.Amount)) e.To e.Amount)[j]?=some ⟨b.ID,b.Balance+e.Amount⟩:=by rw[jz,jL,←eb];simp
    have o2:ek credit (adj (adj l e.From (-e.Amount)) e.To e.Amount) e.To=eK credit ⟨b.ID,b.Balance+e.Amount⟩:=by
     rw[←eb]at g2⊢
     exact m5 (by rw[fu];exact nL1) g2
    have lt2:(j:Int)<(l.length:Int):=by omega
    simp -dsimp -implicitDefEqProofs [-getElem?_pos,go_sem,hP,bm,jL,TSub.cells,hj,lt2,wb,set2,g2]
    by_cases c4:1000000000000000<b.Balance+e.Amount
    ·have o2':ek credit (adj (adj l e.From (-e.Amount)) e.To e.Amount) e.To=false:=by rw[o2];simp[eK];omega
     simp -dsimp -implicitDefEqProofs [-getElem?_pos,go_sem,hP,bm,g2,TSub.cells,hj,lt2,c4]
     exact fin 61 _ _ (by omega) (by rw[pS,ok1];simp[o2'])
    ·have o2':ek credit (adj (adj l e.From (-e.Amount)) e.To e.Amount) e.To=true:=by
      rw[o2]
      have:=(eO _ _).1 okb
      rw[eO]
      dsimp only
      omega
     simp -dsimp -implicitDefEqProofs [-getElem?_pos,go_sem,hP,bm,g2,TSub.cells,hj,lt2,c4]
     have e2:=gZ TSub.cells (adj (adj l e.From (-e.Amount)) e.To e.Amount) l.length (by simp[bm])
     refine done (x:= .tup [aL (adj (adj l e.From (-e.Amount)) e.To e.Amount),iv 0]) ?_ ?_ ?_
     ·simp -dsimp -implicitDefEqProofs [-getElem?_pos,go_sem,e2]
      exact cN.1 (aY _)
     ·rw[okR (adj (adj l e.From (-e.Amount)) e.To e.Amount) (by rw[pS,ok1];simp[o2'])]
     ·simp -dsimp -implicitDefEqProofs [-getElem?_pos,go_sem,e2]
   ·simp -dsimp -implicitDefEqProofs [-getElem?_pos,go_sem,hP,bm,g1,TSub.cells,hi,lt1,c1]
    have hj:j<l.length:=(gsI j1)
    have hne:¬b.ID=e.From:=fun h=>a5 (h.symm.trans eb)
    have jL:(adj l e.From (-e.Amount))[j]?=some b:=by rw[jz,j1];simp[hne]
    refine ah (ka (adj l e.From (-e.Amount)) e.To (by (try simp only[bm]);omega)) hP gp (cY rfl (by simp[aj,adj]) (aY _) (aH .sc (be.2 trivial))) .sc ?_
    simp -dsimp -implicitDefEqProofs [-getElem?_pos,go_sem,hP,q2]
    refine ao (fun _=>true) [10] hP (by kernel_rfl) (by kernel_rfl) ?_
    have set2:(aj TSub.cells (adj l e.From (-e.Amount))).set j [iv b.ID,iv (b.Balance+e.Amount)]=aj TSub.cells (adj (adj l e.From (-e.Amount)) e.To e.Amount):=by
     rw[←eb,←qF nL1 jL,←fD]
     rfl
    have g2:(adj (adj l e.From (-e.Amount)) e.To e.Amount)[j]?=some ⟨b.ID,b.Balance+e.Amount⟩:=by rw[jz,jL,←eb];simp
    have o2:ek credit (adj (adj l e.From (-e.Amount)) e.To e.Amount) e.To=eK credit ⟨b.ID,b.Balance+e.Amount⟩:=by
     rw[←eb]at g2⊢
     exact m5 (by rw[fu];exact nL1) g2
    have lt2:(j:Int)<(l.length:Int):=by omega
    simp -dsimp -implicitDefEqProofs [-getElem?_pos,go_sem,hP,bm,jL,TSub.cells,hj,lt2,wb,set2,g2]
    by_cases c4:1000000000000000<b.Balance+e.Amount
    ·have o2':ek credit (adj (adj l e.From (-e.Amount)) e.To e.Amount) e.To=false:=by rw[o2];simp[eK];omega
     simp -dsimp -implicitDefEqProofs [-getElem?_pos,go_sem,hP,bm,g2,TSub.cells,hj,lt2,c4]
     exact fin 61 _ _ (by omega) (by rw[pS,ok1];simp[o2'])
    ·have o2':ek credit (adj (adj l e.From (-e.Amount)) e.To e.Amount) e.To=true:=by
      rw[o2]
      have:=(eO _ _).1 okb
      rw[eO]
      dsimp only
      omega
     simp -dsimp -implicitDefEqProofs [-getElem?_pos,go_sem,hP,bm,g2,TSub.cells,hj,lt2,c4]
     have e2:=gZ TSub.cells (adj (adj l e.From (-e.Amount)) e.To e.Amount) l.length (by simp[bm])
     refine done (x:= .tup [aL (adj (adj l e.From (-e.Amount)) e.To e.Amount),iv 0]) ?_ ?_ ?_
     ·simp -dsimp -implicitDefEqProofs [-getElem?_pos,go_sem,e2]
      exact cN.1 (aY _)
     ·rw[okR (adj (adj l e.From (-e.Amount)) e.To e.Amount) (by rw[pS,ok1];simp[o2'])]
     ·simp -dsimp -implicitDefEqProofs [-getElem?_pos,go_sem,e2]
  ·have h5:dL l e=false:=by simpa using fun h=>b5.1 h ⟨a5,.inr (by omega),.inl z2⟩
   have d5:decide (e.To=0)=true:=by simpa using z2
   have q2:fj (adj l e.From (-e.Amount)) e.To= -1:=by
    rcases iW (adj l e.From (-e.Amount)) e.To with⟨h,_⟩|⟨_,_,_,_,_,h⟩
    ·exact h
    ·rw[fu,z2]at h;exact absurd h h0
   simp -dsimp -implicitDefEqProofs [-getElem?_pos,go_sem,hP,a5,z1,p1,d2,d5]
   refine⟨by omega,by omega,?_⟩
   refine ah (ka l e.From (by (try simp only[bm]);omega)) hP gp (cY rfl (by simp[aj,adj]) (aY _) (aH .sc (be.2 trivial))) .sc ?_
   simp -dsimp -implicitDefEqProofs [-getElem?_pos,go_sem,hP,p1]
   refine ao (fun _=>true) [10] hP (by kernel_rfl) (by kernel_rfl) ?_
   simp -dsimp -implicitDefEqProofs [-getElem?_pos,go_sem,hP,bm,i1,TSub.cells,hi,lt1,wa,set1,g1]
   have nok:eK credit ⟨a.ID,a.Balance-e.Amount⟩=false↔(a.Balance-e.Amount<0∧(¬a.ID=1∨a.Balance-e.Amount< -credit)):=by
    rw[←Bool.not_eq_true,eO]
    dsimp only
    by_cases hid:a.ID=1
    ·rw[if_pos hid];omega
    ·rw[if_neg hid];simp[hid];omega
   by_cases hno:eK credit ⟨a.ID,a.Balance-e.Amount⟩=false
   ·have r61:∀(H:ac) (b),jO H (.tup [.nil,iv 61]) (·= .tup [aL (mr credit l last e).1,iv (mr credit l last e).2]) b:=fun H b=>fin 61 _ _ (by omega) (by rw[pS,h5,o1,hno];simp)
    obtain⟨c1,c2⟩:=nok.1 hno
    by_cases c3:a.ID=1
    ·have c4:a.Balance-e.Amount< -credit:=c2.resolve_left (fun h=>h c3)
     have d3:decide (a.ID=1)=true:=by simpa using c3
     simp -dsimp -implicitDefEqProofs [-getElem?_pos,go_sem,hP,bm,g1,TSub.cells,hi,lt1,c1,d3,c4,wneg]
     exact r61 _ _
    ·simp -dsimp -implicitDefEqProofs [-getElem?_pos,go_sem,hP,bm,g1,TSub.cells,hi,lt1,c1,c3]
     exact r61 _ _
   have hyes:eK credit ⟨a.ID,a.Balance-e.Amount⟩=true:=by simpa using hno
   have f1:ek credit (adj l e.From (-e.Amount)) e.From=true:=by rw[o1,hyes]
   have ok1:(if dL l e=true then ((60:Int),l)else if ek credit (adj l e.From (-e.Amount)) e.From=false then (61,adj l e.From (-e.Amount))else
     if ek credit (adj (adj l e.From (-e.Amount)) e.To e.Amount) e.To=false then (61,adj (adj l e.From (-e.Amount)) e.To e.Amount)else (0,adj (adj l e.From (-e.Amount)) e.To e.Amount))=
     if ek credit (adj (adj l e.From (-e.Amount)) e.To e.Amount) e.To=false then (61,adj (adj l e.From (-e.Amount)) e.To e.Amount)else (0,adj (adj l e.From (-e.Amount)) e.To e.Amount):=by
    rw[f1,h5];simp
   have go:∀{p:Prop},(a.Balance-e.Amount<0→a.ID=1→¬a.Balance-e.Amount< -credit→p)→(¬a.Balance-e.Amount<0→p)→p:=fun h k=>by
    by_cases c1:a.Balance-e.Amount<0
    ·have c3:a.ID=1:=Classical.byContradiction fun h3=>hno (nok.2 ⟨c1,.inl h3⟩)
     exact h c1 c3 fun h4=>hno (nok.2 ⟨c1,.inr h4⟩)
    ·exact k c1
   refine go (fun c1 c3 c4=>?_) (fun c1=>?_)
   ·have d3:decide (a.ID=1)=true:=by simpa using c3
    simp -dsimp -implicitDefEqProofs [-getElem?_pos,go_sem,hP,bm,g1,TSub.cells,hi,lt1,c1,d3,c4,wneg]
    refine ah (ka (adj l e.From (-e.Amount)) e.To (by (try simp only[bm]);omega)) hP gp (cY rfl (by simp[aj,adj]) (aY _) (aH .sc (be.2 trivial))) .sc ?_
    simp -dsimp -implicitDefEqProofs [-getElem?_pos,go_sem,hP,q2]
    refine done (x:= .tup [aL (adj l e.From (-e.Amount)),iv 0]) ?_ ?_ ?_
    ·simp -dsimp -implicitDefEqProofs [-getElem?_pos,go_sem,e1]
     exact cN.1 (aY _)
    ·have nt:adj (adj l e.From (-e.Amount)) e.To e.Amount=(adj l e.From (-e.Amount)):=qu (by rw[fu,z2];exact h0)
     have ot:ek credit (adj l e.From (-e.Amount)) e.To=true:=nT (by rw[fu,z2];exact h0)
     rw[okR (adj l e.From (-e.Amount)) (by rw[pS,ok1,nt,ot];simp)]
    ·simp -dsimp -implicitDefEqProofs [-getElem?_pos,go_sem,e1]
   ·simp -dsimp -implicitDefEqProofs [-getElem?_pos,go_sem,hP,bm,g1,TSub.cells,hi,lt1,c1]
    refine ah (ka (adj l e.From (-e.Amount)) e.To (by (try simp only[bm]);omega)) hP gp (cY rfl (by simp[aj,adj]) (aY _) (aH .sc (be.2 trivial))) .sc ?_
    simp -dsimp -implicitDefEqProofs [-getElem?_pos,go_sem,hP,q2]
    refine done (x:= .tup [aL (adj l e.From (-e.Amount)),iv 0]) ?_ ?_ ?_
    ·simp -dsimp -implicitDefEqProofs [-getElem?_pos,go_sem,e1]
     exact cN.1 (aY _)
    ·have nt:adj (adj l e.From (-e.Amount)) e.To e.Amount=(adj l e.From (-e.Amount)):=qu (by rw[fu,z2];exact h0)
     have ot:ek credit (adj l e.From (-e.Amount)) e.To=true:=nT (by rw[fu,z2];exact h0)
     rw[okR (adj l e.From (-e.Amount)) (by rw[pS,ok1,nt,ot];simp)]
    ·simp -dsimp -implicitDefEqProofs [-getElem?_pos,go_sem,e1]
open Go.PA
open Go.RowKit
def CM (credit:Int):TEntry→List TSub→List TEntry→List TSub×Int
 |_,l,[]=>(l,0)
 |last,l,e::es=>if (aT credit last.Number last.Day l e).1=0 then CM credit e (aT credit last.Number last.Day l e).2 es else ([],(aT credit last.Number last.Day l e).1)
theorem su (credit:Int):∀(es:List TEntry) (last:TEntry) (l:List TSub),(∃r,bB credit last.Number last.Day l es=some r∧CM credit last l es=(r.2.2,0))∨(bB credit last.Number last.Day l es=none∧(CM credit last l es).1=[]∧¬(CM credit last l es).2=0)
 |[],last,l=> .inl ⟨_,rfl,rfl⟩
 |e::es,last,l=>by
  rw[bB,CM]
  by_cases h:(aT credit last.Number last.Day l e).1=0
  ·rw[if_pos h,if_pos h]
   exact su credit es e _
  ·rw[if_neg h,if_neg h]
   exact .inr ⟨rfl,rfl,h⟩
abbrev mJ:TEntry:=⟨0,0,0,0,0,0⟩
def uC (day:Int) (e:TEntry):Bool:=decide (e.Day≤day)
def ng (a:TAccount) (day:Int):List TSub×Int:=CM a.Credit mJ (cv a.Subs) (a.Entries.takeWhile (uC day))
theorem Fy {credit:Int} {l:List TSub} {last e:TEntry} (h:(aT credit last.Number last.Day l e).1=0):mr credit l last e=((aT credit last.Number last.Day l e).2,0):=by rw[mr,if_pos h]
theorem AE {credit:Int} {l:List TSub} {last e:TEntry} (h:¬(aT credit last.Number last.Day l e).1=0):mr credit l last e=([],(aT credit last.Number last.Day l e).1):=by rw[mr,if_neg h]
set_option maxHeartbeats 1000000 in
theorem J7 (a:TAccount) (day:Int) (hl:a.Subs.length≤100000) (he:a.Entries.length≤100000) (hc:0≤a.Credit∧a.Credit≤1000000000000) (hn:(ids a.Subs).Nodup) (h0:0∉ids a.Subs):
  PFun Tryz.prog none none 98 [.agg a.cells,iv day] (·= .tup [aL (ng a day).1,iv (ng a day).2]):=by
 refine ab Tryz.func98 rfl (by simp[Tryz.f98]) (by kernel_rfl) ?_
 intro E hP hr hs hW hN
 simp -dsimp -implicitDefEqProofs [-getElem?_pos,go_sem,hP,TAccount.cells]
 refine ae ((I9 a.Subs hl).lift _ _) hP NS (by simp[aY]) (aY _) ?_
 simp -dsimp -implicitDefEqProofs [-getElem?_pos,go_sem,hP]
 obtain⟨I,hI⟩:∃I:Nat→St→Prop,I=fun m s=>∃(k id:Nat) (last:TEntry) (l:List TSub),k≤a.Entries.length∧1≤id∧m=a.Entries.length-k∧ng a day=CM a.Credit last l ((a.Entries.drop k).takeWhile (uC day))∧last.Number=k∧0≤last.Day∧lJ a.Credit l=true∧ids l=ids a.Subs∧s.t 1=iv day∧s.t 2= .ref 0 0 0∧s.t 6=aL l∧s.t 7= .ref id 0 0∧s.t 17=bu a.Entries∧s.t 18=iv a.Entries.length∧s.t 19=iv k∧s.H[0]?=some (some ⟨28,3,[a.cells]⟩)∧s.H[id]?=some (some ⟨75,6,[last.cells]⟩):=⟨_,rfl⟩
 refine ay I (a.Entries.length) (by rw[hN];rfl) ?_ ?_
 ·rw[hI]
  exact⟨0,1,mJ,cv a.Subs,by omega,by omega,by omega,by simp[ng],rfl,Int.le_refl _,ln hc.1 _,nW _,by simp -dsimp[-getElem?_pos,go_sem],by simp -dsimp[-getElem?_pos,go_sem],by simp -dsimp[-getElem?_pos,go_sem],by simp -dsimp[-getElem?_pos,go_sem],by simp -dsimp[-getElem?_pos,go_sem],by simp -dsimp[-getElem?_pos,go_sem],by simp -dsimp[-getElem?_pos,go_sem],by simp -dsimp[-getElem?_pos,go_sem,TAccount.cells],by simp -dsimp[-getElem?_pos,go_sem,TEntry.cells]⟩
 intro m s hs'
 rw[hI]at hs'
 obtain⟨k,id,last,l,hk,hid,hm,hu,hnum,hday,hok,hids,t1,t2,t6,t7,t17,t18,t19,hA,hL⟩:=hs'
 have hll:l.length=a.Subs.length:=by rw[←fo l,hids,fo]
 simp -dsimp -implicitDefEqProofs [-getElem?_pos,go_sem,hP,t18,t19]
 refine aB (fun h=>?_) (fun h=>?_)
 ·have hk:k<a.Entries.length:=by simpa using h
  obtain⟨e,hee⟩:∃e,a.Entries[k]?=some e:=⟨_,List.getElem?_eq_getElem hk⟩
  have wk:=af ((k:Int)+1) (by omega)
  have hd:a.Entries.drop k=e::a.Entries.drop (k+1):=by
   rw[List.getElem?_eq_getElem hk]at hee
   rw[List.drop_eq_getElem_cons hk,Option.some.inj hee]
  rw[hd]at hu
  have hlt0:=(gsI hA)
  have hne0:¬id=0:=by omega
  have hlt:=(gsI hL)
  have tkE:e.cells.take 6=e.cells:=List.take_of_length_le (by rw[TEntry.len];omega)
  have tkL:last.cells.take 6=last.cells:=List.take_of_length_le (by rw[TEntry.len];omega)
  have drE:e.cells.drop 6=[]:=List.drop_eq_nil_of_le (by rw[TEntry.len];omega)
  have drL:last.cells.drop 6=[]:=List.drop_eq_nil_of_le (by rw[TEntry.len];omega)
  by_cases hearly:e.Day≤day
  ·have h2:decide (day<e.Day)=false:=by simp;omega
   have hu2:ng a day=if (aT a.Credit last.Number last.Day l e).1=0 then CM a.Credit e (aT a.Credit last.Number last.Day l e).2 ((a.Entries.drop (k+1)).takeWhile (uC day))else ([],(aT a.Credit last.Number last.Day l e).1):=by
    rw[hu,List.takeWhile_cons_of_pos (by simpa[uC]using hearly)]
    rfl
   have ap:=KK a.Credit l last e (by omega) hc (hids▸hn) (hids▸h0) hok (by omega) hday
   have cE:e.cells=[iv e.Number,iv e.Day,iv e.From,iv e.To,iv e.Amount,iv e.Ref]:=rfl
   simp -dsimp -implicitDefEqProofs [-getElem?_pos,go_sem,hP,t17,t19,hee,t1,cE,h2,t2,hA,hlt0,hlt,TAccount.cells,t6,t7,hL,TEntry.len,tkL]
   refine ae (ap.lift _ _) hP Jt (by simp[aY,ar];exact⟨eC last,eC e⟩) (ak (aY _) .sc) ?_
   by_cases hp:(aT a.Credit last.Number last.Day l e).1=0
   ·rw[Fy hp]
    rw[if_pos hp]at hu2
    obtain⟨q1,q2,q3,_⟩:=jY hp
    simp -dsimp -implicitDefEqProofs [-getElem?_pos,go_sem,hP]
    refine ao (fun _=>true) [3] hP (by kernel_rfl) (by kernel_rfl) ?_
    simp -dsimp -implicitDefEqProofs [-getElem?_pos,go_sem,hP,t7,hL,hlt,t19,wk,drL,TEntry.len]
    refine⟨a.Entries.length-(k+1),by omega,?_⟩
    rw[hI]
    refine⟨k+1,id,e,(aT a.Credit last.Number last.Day l e).2,by omega,hid,rfl,hu2,by rw[q1,hnum];simp,by omega,q8 hp hok,(jH _ _ _ _ _).trans hids,by simp -dsimp[-getElem?_pos,go_sem,t1],by simp -dsimp[-getElem?_pos,go_sem,t2],by simp -dsimp[-getElem?_pos,go_sem],by simp -dsimp[-getElem?_pos,go_sem,t7],by simp -dsimp[-getElem?_pos,go_sem,t17],by simp -dsimp[-getElem?_pos,go_sem,t18],by simp -dsimp[-getElem?_pos,go_sem],?_,?_⟩
    ·simp -dsimp -implicitDefEqProofs [-getElem?_pos,go_sem,hne0,hlt0,hA]
    ·simp -dsimp -implicitDefEqProofs [-getElem?_pos,go_sem,hlt,TEntry.cells]
   ·rw[AE hp]
    rw[if_neg hp]at hu2
    simp -dsimp -implicitDefEqProofs [-getElem?_pos,go_sem,hP,hp]
    refine bQ 2 ?_
    rw[hu2]
    simp[aj]
  ·have h2:decide (day<e.Day)=true:=by simp;omega
   have hu2:ng a day=(l,0):=by
    rw[hu,List.takeWhile_cons_of_neg (by simpa[uC]using hearly)]
    rfl
   have cE:e.cells=[iv e.Number,iv e.Day,iv e.From,iv e.To,iv e.Amount,iv e.Ref]:=rfl
   simp -dsimp -implicitDefEqProofs [-getElem?_pos,go_sem,hP,t17,t19,hee,t1,cE,h2,t6]
   refine aw (ak (aY _) .sc) ?_
   rw[hu2]
 ·have hk:k=a.Entries.length:=by simp at h;omega
  subst hk
  rw[List.drop_length]at hu
  have hu2:ng a day=(l,0):=hu
  simp -dsimp -implicitDefEqProofs [-getElem?_pos,go_sem,hP,t6]
  refine aw (ak (aY _) .sc) ?_
  rw[hu2]
theorem v8 (a b:List TSub) (ha:a.length≤100000) (hb:b.length≤100000):
  PFun Tryz.prog none none 134 [.list 2 (aj TSub.cells a),.list 2 (aj TSub.cells b)] (·=bv (decide (a=b))):=by
 refine ab Tryz.func134 rfl (by simp[Tryz.f134]) (by kernel_rfl) ?_
 intro E hP hr hs hW hN
 by_cases hlen:a.length=b.length
 rotate_left
 ·have hne:¬a=b:=fun h=>hlen (by rw[h])
  have hl:decide ((a.length:Int)=(b.length:Int))=false:=by simp;omega
  simp -dsimp -implicitDefEqProofs [-getElem?_pos,go_sem,hP,hl,hne]
 have hl:decide ((a.length:Int)=(b.length:Int))=true:=by simp;omega
 simp -dsimp -implicitDefEqProofs [-getElem?_pos,go_sem,hP,hl]
 obtain⟨I,hI⟩:∃I:Nat→St→Prop,I=fun m s=>∃k:Nat,k≤a.length∧m=a.length-k∧s.t 0= .list 2 (aj TSub.cells a)∧s.t 1= .list 2 (aj TSub.cells b)∧s.t 12=iv a.length∧s.t 13=iv k∧a.take k=b.take k:=⟨_,rfl⟩
 refine ay I (a.length) (by rw[hN];rfl) ?_ ?_
 ·rw[hI]
  exact⟨0,by omega,by omega,by simp -dsimp[-getElem?_pos,go_sem],by simp -dsimp[-getElem?_pos,go_sem],by simp -dsimp[-getElem?_pos,go_sem],by simp -dsimp[-getElem?_pos,go_sem],by simp⟩
 intro m s hs'
 rw[hI]at hs'
 obtain⟨k,hk,hm,t0,t1,t12,t13,heq⟩:=hs'
 simp -dsimp -implicitDefEqProofs [-getElem?_pos,go_sem,hP,t12,t13]
 refine aB (fun h=>?_) (fun h=>?_)
 ·have hk:k<a.length:=by simpa using h
  obtain⟨x,hx⟩:∃x,a[k]?=some x:=⟨_,List.getElem?_eq_getElem hk⟩
  obtain⟨y,hy⟩:∃y,b[k]?=some y:=⟨_,List.getElem?_eq_getElem (by omega)⟩
  have wk:=af ((k:Int)+1) (by omega)
  have tx:a.take (k+1)=a.take k++[x]:=by rw[List.take_add_one,hx];rfl
  have ty:b.take (k+1)=b.take k++[y]:=by rw[List.take_add_one,hy];rfl
  simp -dsimp -implicitDefEqProofs [-getElem?_pos,go_sem,hP,t13]
  refine ao (fun _=>true) [] hP (by kernel_rfl) (by kernel_rfl) ?_
  by_cases hxy:x=y
  ·subst hxy
   simp -dsimp -implicitDefEqProofs [-getElem?_pos,go_sem,hP,t0,t1,hx,hy,TSub.cells,t13,wk]
   refine⟨a.length-(k+1),by omega,?_⟩
   rw[hI]
   exact⟨k+1,by omega,rfl,by simp -dsimp[-getElem?_pos,go_sem,t0],by simp -dsimp[-getElem?_pos,go_sem,t1],by simp -dsimp[-getElem?_pos,go_sem,t12],by simp -dsimp[-getElem?_pos,go_sem],by rw[tx,ty,heq]⟩
  ·have hne:¬a=b:=fun h=>by
    subst h
    rw[hx]at hy
    exact hxy (Option.some.inj hy)
   simp -dsimp -implicitDefEqProofs [-getElem?_pos,go_sem,hP,t0,t1,hx,hy,TSub.cells,t13,wk]
   refine aB (fun h=>?_) (fun h=>?_)
   ·simp -dsimp -implicitDefEqProofs [-getElem?_pos,go_sem,hP,hne]
   ·exact absurd (by cases x;cases y;simp at h;simp[h]) hxy
 ·have hk:k=a.length:=by simp at h;omega
  subst hk
  rw[List.take_length]at heq
  rw[hlen,List.take_length]at heq
  simp -dsimp -implicitDefEqProofs [-getElem?_pos,go_sem,hP,heq]
theorem LJ (a:TAccount) (hl:a.Subs.length≤100000):PFun Tryz.prog none none 96 [.agg a.cells] (·=bv (vB a.Credit&&jb (ids a.Subs))):=by
 refine ab Tryz.func96 rfl (by simp[Tryz.f96]) (by kernel_rfl) ?_
 intro E hP hr hs hW hN
 simp -dsimp -implicitDefEqProofs [-getElem?_pos,go_sem,hP,TAccount.cells]
 refine ah (uQ a.Credit) hP Lf (ai (by simp -dsimp[-getElem?_pos,go_sem])) .sc ?_
 by_cases hv:vB a.Credit=true
 rotate_left
 ·simp -dsimp -implicitDefEqProofs [-getElem?_pos,go_sem,hP,hv]
 by_cases hz:a.Subs.length<1
 ·have hnil:a.Subs=[]:=List.eq_nil_of_length_eq_zero (by omega)
  have hd:decide ((a.Subs.length:Int)<1)=true:=by simp;omega
  simp -dsimp -implicitDefEqProofs [-getElem?_pos,go_sem,hP,hv,hd]
  simp[hnil,jb,ids]
 have hd:decide ((a.Subs.length:Int)<1)=false:=by simp;omega
 simp -dsimp -implicitDefEqProofs [-getElem?_pos,go_sem,hP,hv,hd]
 obtain⟨I,hI⟩:∃I:Nat→St→Prop,I=fun m s=>∃(k:Nat) (p:Int),k≤a.Subs.length∧m=a.Subs.length-k∧jb (ids a.Subs)=(tU p ((ids a.Subs).drop k)&&(decide (k=0→(ids a.Subs).head?=some 1)))∧(k=0→p=0)∧(∀j x,k=j+1→a.Subs[j]?=some x→p=x.ID)∧s.t 1= .ref 0 0 0∧s.t 16=aL a.Subs∧s.t 17=iv a.Subs.length∧s.t 18=iv k∧s.H[0]?=some (some ⟨28,3,[a.cells]⟩):=⟨_,rfl⟩
 refine ay I (a.Subs.length) (by rw[hN];rfl) ?_ ?_
 ·rw[hI]
  exact⟨0,0,by omega,by omega,by simp[jb],by simp,by omega,by simp -dsimp[-getElem?_pos,go_sem],by simp -dsimp[-getElem?_pos,go_sem],by simp -dsimp[-getElem?_pos,go_sem],by simp -dsimp[-getElem?_pos,go_sem],by simp -dsimp[-getElem?_pos,go_sem,TAccount.cells]⟩
 intro m s hs'
 rw[hI]at hs'
 obtain⟨k,p,hk,hm,hnum,hp0,hp1,t1,t16,t17,t18,hA⟩:=hs'
 have hlt0:=(gsI hA)
 simp -dsimp -implicitDefEqProofs [-getElem?_pos,go_sem,hP,t17,t18]
 refine aB (fun h=>?_) (fun h=>?_)
 ·have hk:k<a.Subs.length:=by simpa using h
  obtain⟨x,hx⟩:∃x,a.Subs[k]?=some x:=⟨_,List.getElem?_eq_getElem hk⟩
  have wk:=af ((k:Int)+1) (by omega)
  have hdr:(ids a.Subs).drop k=x.ID::(ids a.Subs).drop (k+1):=by
   have h1:(ids a.Subs)[k]?=some x.ID:=by rw[zx,hx];rfl
   obtain⟨h2,h3⟩:=List.getElem?_eq_some_iff.1 h1
   rw[List.drop_eq_getElem_cons h2,h3]
  rw[hdr,tU]at hnum
  have hhead:k=0→(ids a.Subs).head?=some x.ID:=fun h=>by
   subst h
   rw[List.drop_zero]at hdr
   rw[hdr]
   rfl
  have fin:∀s':St,(bn x.ID 1 1000&&decide (p<x.ID))=true→(k=0→x.ID=1)→s'.t 1=s.t 1→s'.t 16=s.t 16→s'.t 17=s.t 17→s'.t 18=iv ((k:Int)+1)→s'.H[0]?=s.H[0]?→∃n',n'<m∧I n' s':=fun s' hc h1 e1 e16 e17 e18 eH=>by
   refine⟨a.Subs.length-(k+1),by omega,?_⟩
   rw[hI]
   simp only[Bool.and_eq_true]at hc
   refine⟨k+1,x.ID,by omega,rfl,?_,by omega,fun j y hj hy=>?_,by rw[e1,t1],by rw[e16,t16],by rw[e17,t17],by rw[e18];simp,by rw[eH,hA]⟩
   ·rw[hnum,hc.1,hc.2]
    have:decide (k=0→(ids a.Subs).head?=some 1)=true:=by
     simp only[decide_eq_true_eq]
     exact fun h=>by rw[hhead h,h1 h]
    rw[this]
    simp
   ·have:j=k:=by omega
    subst this
    rw[hx]at hy
    rw[Option.some.inj hy]
  have bad:(bn x.ID 1 1000&&decide (p<x.ID))=false∨(k=0∧¬x.ID=1)→jb (ids a.Subs)=false:=fun h=>by
   rcases h with h|⟨h1,h2⟩
   ·rw[hnum,←Bool.and_assoc (bn _ _ _),h];simp
   ·rw[hnum]
    have:decide (k=0→(ids a.Subs).head?=some 1)=false:=by
     simp only[decide_eq_false_iff_not]
     intro h
     have:=h h1
     rw[hhead h1]at this
     exact h2 (Option.some.inj this)
    rw[this];simp
  simp -dsimp -implicitDefEqProofs [-getElem?_pos,go_sem,hP,t16,t18,hx,TSub.cells]
  refine ao (fun _=>true) [] hP (by kernel_rfl) (by kernel_rfl) ?_
  by_cases c1:x.ID<1
  ·have:=bad (.inl (by simp[bn];omega))
   simp -dsimp -implicitDefEqProofs [-getElem?_pos,go_sem,hP,c1,this]
  by_cases c2:1000<x.ID
  ·have:=bad (.inl (by simp[bn];omega))
   simp -dsimp -implicitDefEqProofs [-getElem?_pos,go_sem,hP,c1,c2,this]
  rcases Nat.eq_zero_or_pos k with hk0|hkp
  ·have d0:decide (k=0)=true:=by simp;omega
   have d1:decide (0<k)=false:=by simp;omega
   by_cases c3:x.ID=1
   ·have d3:decide (x.ID=1)=true:=by simpa using c3
    simp -dsimp -implicitDefEqProofs [-getElem?_pos,go_sem,hP,c1,c2,d0,d1,d3,t18,wk]
    exact fin _ (by have:=hp0 hk0;simp[bn];omega) (fun _=>c3) (by simp -dsimp[-getElem?_pos,go_sem]) (by simp -dsimp[-getElem?_pos,go_sem]) (by simp -dsimp[-getElem?_pos,go_sem]) (by simp -dsimp[-getElem?_pos,go_sem]) (by simp -dsimp[-getElem?_pos,go_sem,hlt0])
   ·have:=bad (.inr ⟨hk0,c3⟩)
    simp -dsimp -implicitDefEqProofs [-getElem?_pos,go_sem,hP,c1,c2,d0,d1,c3,this]
  ·obtain⟨j,rfl⟩:∃j,k=j+1:=⟨k-1,by omega⟩
   obtain⟨y,hy⟩:∃y,a.Subs[j]?=some y:=⟨_,List.getElem?_eq_getElem (by omega)⟩
   have d0:decide (((j:Int)+1)=0)=false:=by simp<;>omega
   have d1:decide ((0:Int)<(j:Int)+1)=true:=by simp<;>omega
   have wj:=af ((j:Int)+1-1) (by omega)
   rw[Int.add_sub_cancel]at wj
   have hpy:=hp1 j y rfl hy
   have wk':=af ((j:Int)+1+1) (by omega)
   by_cases c3:x.ID≤y.ID
   ·have:=bad (.inl (by simp[bn];omega))
    simp -dsimp -implicitDefEqProofs [-getElem?_pos,go_sem,hP,c1,c2,d0,d1,Int.add_sub_cancel,wj,t1,hA,hlt0,TAccount.cells,hy,TSub.cells,c3,this]
   ·simp -dsimp -implicitDefEqProofs [-getElem?_pos,go_sem,hP,c1,c2,d0,d1,Int.add_sub_cancel,wj,t1,hA,hlt0,TAccount.cells,hy,TSub.cells,c3,t18,wk']
    exact fin _ (by simp[bn];omega) (by omega) (by simp -dsimp[-getElem?_pos,go_sem]) (by simp -dsimp[-getElem?_pos,go_sem]) (by simp -dsimp[-getElem?_pos,go_sem]) (by simp -dsimp[-getElem?_pos,go_sem]) (by simp -dsimp[-getElem?_pos,go_sem,hlt0])
 ·have hk:k=a.Subs.length:=by simp at h;omega
  subst hk
  have hdn:(ids a.Subs).drop a.Subs.length=[]:=List.drop_eq_nil_of_le (by rw[fo];omega)
  have hh:decide (a.Subs.length=0→(ids a.Subs).head?=some 1)=true:=by
   simp only[decide_eq_true_eq]
   intro h
   omega
  rw[hdn,hh]at hnum
  have hnum:jb (ids a.Subs)=true:=hnum
  simp -dsimp -implicitDefEqProofs [-getElem?_pos,go_sem,hP,hnum,hv]
open Go.PA
open Go.RowKit
theorem qJ (credit:Int):∀(es:List TEntry) (n d:Int) (l:List TSub) (r:Int×Int×List TSub),0≤d→bB credit n d l es=some r→∀e,e∈es→d≤e.Day∧e.Day≤36000
 |[],n,d,l,r,hd,h,e,he=>by simp at he
 |x::es,n,d,l,r,hd,h,e,he=>by
  rw[bB]at h
  split at h
  ·rename_i hp
   obtain⟨_,h2,h3,_⟩:=jY hp
   rcases List.mem_cons.1 he with rfl|he
   ·exact⟨h2,h3⟩
   ·have:=qJ credit es _ _ _ r (by omega) h e he
    exact⟨by omega,this.2⟩
  ·cases h
theorem qg (credit:Int):∀(es:List TEntry) (last:TEntry) (l:List TSub) (r:Int×Int×List TSub),bB credit last.Number last.Day l es=some r→r.1=((es.getLast?).getD last).Number∧r.2.1=((es.getLast?).getD last).Day
 |[],last,l,r,h=>by
  simp only[bB,Option.some.injEq]at h
  subst h
  exact⟨rfl,rfl⟩
 |e::es,last,l,r,h=>by
  rw[bB]at h
  split at h
  ·have:=qg credit es e _ r h
   cases es with
   |nil=>exact this
   |cons x es=>
    have e1:(e::x::es).getLast?=(x::es).getLast?:=by rw[List.getLast?_cons_cons]
    rw[e1]
    have e2:∀y,((x::es).getLast?).getD y=((x::es).getLast?).getD e:=fun y=>by
     rw[List.getLast?_eq_some_getLast (by simp)];rfl
    rw[e2 last]
    exact this
  ·cases h
theorem kT {α:Type} (p:α→Bool):∀l:List α,(∀x,x∈l→p x=true)→l.takeWhile p=l
 |[],_=>rfl
 |a::l,h=>by
  rw[List.takeWhile_cons_of_pos (h a (by simp)),kT p l fun x hx=>h x (List.mem_cons_of_mem _ hx)]
def cG (a:TAccount):TEntry:=(a.Entries.getLast?).getD mJ
theorem iT {a:TAccount} (h:aD a=0):a.Subs.length≤20∧a.Entries.length≤400∧(0≤a.Credit∧a.Credit≤1000000000000)∧jb (ids a.Subs)=true∧bB a.Credit 0 0 (cv a.Subs) a.Entries=some ((cG a).Number,(cG a).Day,a.Subs):=by
 unfold aD at h
 split at h
 ·simp at h
 rename_i h1
 split at h
 ·simp at h
 rename_i h2
 split at h
 ·simp at h
 rename_i r hr
 split at h
 ·rename_i he
  have h2:vB a.Credit=true∧jb (ids a.Subs)=true:=by simpa using h2
  have h3:0≤a.Credit∧a.Credit≤1000000000000:=by simpa[vB,bn]using h2.1
  have:=qg a.Credit a.Entries mJ (cv a.Subs) r hr
  refine⟨by omega,by omega,h3,h2.2,?_⟩
  rw[hr]
  congr 1
  exact Prod.ext this.1 (Prod.ext this.2 he)
 ·simp at h
theorem I7 {a:TAccount} (h1:a.Subs.length≤20) (h2:a.Entries.length≤400) (h3:0≤a.Credit∧a.Credit≤1000000000000) (h4:jb (ids a.Subs)=true) {n d:Int} (h5:bB a.Credit 0 0 (cv a.Subs) a.Entries=some (n,d,a.Subs)):aD a=0:=by
 unfold aD
 have hv:vB a.Credit=true:=by simpa[vB,bn]using h3
 rw[if_neg (by omega),if_neg (by simp[hv,h4]),h5]
 simp
theorem oZ {l:List Int} (h:jb l=true):l.Nodup∧0∉l∧l.head?=some 1:=by
 simp only[jb,Bool.and_eq_true,decide_eq_true_eq]at h
 refine⟨uI l 0 h.1,fun h0=>?_,h.2⟩
 have:=zN l 0 h.1 0 h0
 omega
theorem tg {a:TAccount} (h:aD a=0):lJ a.Credit a.Subs=true∧(cG a).Number=a.Entries.length∧0≤(cG a).Day∧(cG a).Day≤36000:=by
 obtain⟨_,_,h3,_,h5⟩:=iT h
 obtain⟨a1,_,a3,a4,a5⟩:=iC a.Credit a.Entries 0 0 (cv a.Subs) _ (ln h3.1 _) h5
 exact⟨a1,by simpa using a3,a4,a5 (by omega)⟩
set_option maxHeartbeats 1000000 in
theorem pr (a:TAccount) (hl:a.Subs.length≤100000) (he:a.Entries.length≤100000):PFun Tryz.prog none none 46 [.agg a.cells] (·=iv (aD a)):=by
 refine ab Tryz.func46 rfl (by simp[Tryz.f46]) (by kernel_rfl) ?_
 intro E hP hr hs hW hN
 have cA:a.cells=[iv a.Credit,aL a.Subs,bu a.Entries]:=rfl
 by_cases c1:20<a.Subs.length
 ·have d1:decide ((20:Int)<a.Subs.length)=true:=by simp;omega
  have:aD a=3:=by rw[aD,if_pos (.inl c1)]
  simp -dsimp -implicitDefEqProofs [-getElem?_pos,go_sem,hP,cA,d1,this]
 have d1:decide ((20:Int)<a.Subs.length)=false:=by simp;omega
 by_cases c2:400<a.Entries.length
 ·have d2:decide ((400:Int)<a.Entries.length)=true:=by simp;omega
  have:aD a=3:=by rw[aD,if_pos (.inr c2)]
  simp -dsimp -implicitDefEqProofs [-getElem?_pos,go_sem,hP,cA,d1,d2,this]
 have d2:decide ((400:Int)<a.Entries.length)=false:=by simp;omega
 simp -dsimp -implicitDefEqProofs [-getElem?_pos,go_sem,hP,cA,d1,d2]
 have pl:=LJ a hl
 rw[cA]at pl
 refine ae (pl.lift _ _) hP P6 (by simp only[List.mem_singleton,forall_eq];rw[←cA];exact cV a) .sc ?_
 by_cases c3:(vB a.Credit&&jb (ids a.Subs))=true
 rotate_left
 ·have:aD a=62:=by
   rw[aD,if_neg (by omega),if_pos]
   cases h1:vB a.Credit<;>cases h2:jb (ids a.Subs)<;>simp[h1,h2]at c3⊢
  have c3:(vB a.Credit&&jb (ids a.Subs))=false:=by simpa using c3
  simp -dsimp -implicitDefEqProofs [-getElem?_pos,go_sem,hP,c3,this]
 simp only[Bool.and_eq_true]at c3
 obtain⟨c3,c4⟩:=c3
 have hcr:0≤a.Credit∧a.Credit≤1000000000000:=by simpa[vB,bn]using c3
 obtain⟨hnd,hz0,hhd⟩:=oZ c4
 have hchk:aD a=(bB a.Credit 0 0 (cv a.Subs) a.Entries).elim 62 (fun r=>if r.2.2=a.Subs then 0 else 62):=by
  rw[aD,if_neg (by omega),if_neg (by simp[c3,c4])]
  cases bB a.Credit 0 0 (cv a.Subs) a.Entries<;>rfl
 simp -dsimp -implicitDefEqProofs [-getElem?_pos,go_sem,hP,c3,c4]
 obtain⟨I,hI⟩:∃I:Nat→St→Prop,I=fun m s=>∃(k:Nat),k≤a.Entries.length∧m=a.Entries.length-k∧(∀e,e∈a.Entries.take k→bn e.Day 0 36000=true)∧s.t 1= .ref 0 0 0∧s.t 23=bu a.Entries∧s.t 24=iv a.Entries.length∧s.t 25=iv k∧s.H[0]?=some (some ⟨28,3,[a.cells]⟩):=⟨_,rfl⟩
 refine ay I (a.Entries.length) (by rw[hN];rfl) ?_ ?_
 ·rw[hI]
  exact⟨0,by omega,by omega,by simp,by simp -dsimp[-getElem?_pos,go_sem],by simp -dsimp[-getElem?_pos,go_sem],by simp -dsimp[-getElem?_pos,go_sem],by simp -dsimp[-getElem?_pos,go_sem],by simp -dsimp[-getElem?_pos,go_sem,cA]⟩
 intro m s hs'
 rw[hI]at hs'
 obtain⟨k,hk,hm,hdays,t1,t23,t24,t25,hA⟩:=hs'
 have hlt0:=(gsI hA)
 simp -dsimp -implicitDefEqProofs [-getElem?_pos,go_sem,hP,t24,t25]
 refine aB (fun h=>?_) (fun h=>?_)
 ·have hk:k<a.Entries.length:=by simpa using h
  obtain⟨e,hee⟩:∃e,a.Entries[k]?=some e:=⟨_,List.getElem?_eq_getElem hk⟩
  have wk:=af ((k:Int)+1) (by omega)
  have e1:a.Entries.take (k+1)=a.Entries.take k++[e]:=by rw[List.take_add_one,hee];rfl
  simp -dsimp -implicitDefEqProofs [-getElem?_pos,go_sem,hP,t23,t25,hee,TEntry.cells]
  refine ah (Cz e.Day) hP M9 (ai (by simp -dsimp[-getElem?_pos,go_sem])) .sc ?_
  by_cases c5:bn e.Day 0 36000=true
  ·simp -dsimp -implicitDefEqProofs [-getElem?_pos,go_sem,hP,c5,t25,wk]
   refine⟨a.Entries.length-(k+1),by omega,?_⟩
   rw[hI]
   refine⟨k+1,by omega,rfl,fun x hx=>?_,by simp -dsimp[-getElem?_pos,go_sem,t1],by simp -dsimp[-getElem?_pos,go_sem,t23],by simp -dsimp[-getElem?_pos,go_sem,t24],by simp -dsimp[-getElem?_pos,go_sem],by simp -dsimp[-getElem?_pos,go_sem,hlt0,hA]⟩
   rw[e1,List.mem_append]at hx
   rcases hx with hx|hx
   ·exact hdays x hx
   ·simp at hx;subst hx;exact c5
  ·have:aD a=62:=by
    rw[hchk]
    cases hr:bB a.Credit 0 0 (cv a.Subs) a.Entries with
    |none=>rfl
    |some r=>exact absurd (gX.2 (qJ _ _ _ _ _ _ (Int.le_refl _) hr e (List.mem_of_getElem? hee))) c5
   simp -dsimp -implicitDefEqProofs [-getElem?_pos,go_sem,hP,c5,this]
 have hk:k=a.Entries.length:=by simp at h;omega
 subst hk
 rw[List.take_length]at hdays
 have htw:a.Entries.takeWhile (uC 36000)=a.Entries:=by
  refine kT _ _ fun e he=>?_
  have:=gX.1 (hdays e he)
  simpa[uC]using this.2
 have up:=J7 a 36000 hl he hcr hnd hz0
 rw[ng,htw,cA]at up
 have tk:([iv a.Credit,aL a.Subs,bu a.Entries]:List AV).take 3=[iv a.Credit,aL a.Subs,bu a.Entries]:=rfl
 simp -dsimp -implicitDefEqProofs [-getElem?_pos,go_sem,hP,t1,hA,cA]
 refine ae (up.lift _ _) hP Qd (by simp only[List.mem_cons,List.not_mem_nil,or_false,forall_eq_or_imp,forall_eq];rw[←cA];exact⟨cV a,.sc⟩) (ak (aY _) .sc) ?_
 rcases su a.Credit a.Entries mJ (cv a.Subs)with⟨r,hr,hrun⟩|⟨hr,hrun1,hrun2⟩
 rotate_left
 ·rw[show mJ.Number=0 from rfl,show mJ.Day=0 from rfl]at hr
  have:aD a=62:=by rw[hchk,hr];rfl
  simp -dsimp -implicitDefEqProofs [-getElem?_pos,go_sem,hP,hrun2,this]
 rw[show mJ.Number=0 from rfl,show mJ.Day=0 from rfl]at hr
 have hids:=(iC a.Credit a.Entries 0 0 (cv a.Subs) r (ln hcr.1 _) hr).2.1
 rw[nW]at hids
 rw[hr]at hchk
 obtain⟨l,hlr⟩:∃l,l=r.2.2:=⟨_,rfl⟩
 rw[←hlr]at hids
 have hll:l.length=a.Subs.length:=by rw[←fo l,hids,fo]
 have hchk:aD a=if l=a.Subs then 0 else 62:=by rw[hchk,hlr];rfl
 rw[hrun,←hlr]
 simp -dsimp -implicitDefEqProofs [-getElem?_pos,go_sem,hP,hlt0,hA,t1,cA]
 obtain⟨J,hJ⟩:∃I:Nat→St→Prop,I=fun m s=>∃(k:Nat),k≤a.Subs.length∧m=a.Subs.length-k∧l.take k=a.Subs.take k∧s.t 5=aL l∧s.t 42=aL a.Subs∧s.t 43=iv a.Subs.length∧s.t 44=iv k:=⟨_,rfl⟩
 refine ay J (a.Subs.length) (by rw[hN];rfl) ?_ ?_
 ·rw[hJ]
  exact⟨0,by omega,by omega,by simp,by simp -dsimp[-getElem?_pos,go_sem],by simp -dsimp[-getElem?_pos,go_sem],by simp -dsimp[-getElem?_pos,go_sem],by simp -dsimp[-getElem?_pos,go_sem]⟩
 clear t1 t23 t24 t25 hA hlt0
 intro m s hs'
 rw[hJ]at hs'
 obtain⟨k,hk,hm,htk,t5,t42,t43,t44⟩:=hs'
 simp -dsimp -implicitDefEqProofs [-getElem?_pos,go_sem,hP,t43,t44]
 refine aB (fun h=>?_) (fun h=>?_)
 ·have hk:k<a.Subs.length:=by simpa using h
  obtain⟨x,hx⟩:∃x,a.Subs[k]?=some x:=⟨_,List.getElem?_eq_getElem hk⟩
  obtain⟨y,hy⟩:∃y,l[k]?=some y:=⟨_,List.getElem?_eq_getElem (by omega)⟩
  have wk:=af ((k:Int)+1) (by omega)
  have e1:a.Subs.take (k+1)=a.Subs.take k++[x]:=by rw[List.take_add_one,hx];rfl
  have e2:l.take (k+1)=l.take k++[y]:=by rw[List.take_add_one,hy];rfl
  simp -dsimp -implicitDefEqProofs [-getElem?_pos,go_sem,hP,t42,t44,hx,TSub.cells]
  refine ao (fun _=>true) [] hP (by kernel_rfl) (by kernel_rfl) ?_
  by_cases hxy:y=x
  ·subst hxy
   simp -dsimp -implicitDefEqProofs [-getElem?_pos,go_sem,hP,t5,hy,TSub.cells,t44,wk]
   refine⟨a.Subs.length-(k+1),by omega,?_⟩
   rw[hJ]
   exact⟨k+1,by omega,rfl,by rw[e1,e2,htk],by simp -dsimp[-getElem?_pos,go_sem,t5],by simp -dsimp[-getElem?_pos,go_sem,t42],by simp -dsimp[-getElem?_pos,go_sem,t43],by simp -dsimp[-getElem?_pos,go_sem]⟩
  ·have hne:¬l=a.Subs:=fun h=>by
    rw[h,hx]at hy
    exact hxy (Option.some.inj hy).symm
   rw[if_neg hne]at hchk
   simp -dsimp -implicitDefEqProofs [-getElem?_pos,go_sem,hP,t5,hy,TSub.cells]
   refine aB (fun h=>?_) (fun h=>?_)
   ·simp -dsimp -implicitDefEqProofs [-getElem?_pos,go_sem,hP,hchk]
   ·exact absurd (by cases x;cases y;simp at h;simp[h]) hxy
 ·have hk:k=a.Subs.length:=by simp at h;omega
  subst hk
  rw[List.take_length,←hll,List.take_length]at htk
  rw[if_pos htk]at hchk
  simp -dsimp -implicitDefEqProofs [-getElem?_pos,go_sem,hP,hchk]
end Go.Proofs.YtaenimpfelpafaaGreatDoor
