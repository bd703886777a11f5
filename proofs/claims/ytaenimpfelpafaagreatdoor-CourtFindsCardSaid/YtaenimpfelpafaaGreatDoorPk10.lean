/- Several texts of this claim, joined: Rec16 Rd2 RSt Rd3 Fd1 CrtS Csum Fd2 Fd3 SaneCo LawCf. -/
import Derived.Test.YtaenimpfelpafaaGreatDoorPk9
set_option linter.unusedSimpArgs false
set_option linter.unusedVariables false
set_option maxRecDepth 4000
namespace Go.Proofs.YtaenimpfelpafaaGreatDoor
open Go.PA
open Go.RowKit
theorem ru (day:Int):∀(l:List TPayment) (a:TAccount) (ws:List Int) (full:Bool),∃us,us.Sublist (l.map (·.Warrant))∧(eL day l a ws full).2.1=ws++us
 |[],a,ws,full=>⟨[],by simp,by simp[eL]⟩
 |p::l,a,ws,full=>by
  rw[eL]
  split
  ·exact⟨[],by simp,by simp⟩
  ·split
   ·obtain⟨us,h1,h2⟩:=ru day l (bF a (bT a day p.Sub 0 p.Amount p.Warrant)).1 (ws++[p.Warrant]) full
    exact⟨p.Warrant::us,by rw[List.map_cons];exact h1.cons_cons _,by rw[h2];simp⟩
   ·obtain⟨us,h1,h2⟩:=ru day l a ws (full||decide ((bF a (bT a day p.Sub 0 p.Amount p.Warrant)).2=3))
    exact⟨us,by rw[List.map_cons];exact h1.cons _,h2⟩
theorem OO {d:TDesk} (hq:QOk d.Queue) (day:Int):(goD d day).2.1.Nodup∧∀w,w∈(goD d day).2.1→∃p,p∈fU d.Queue day∧p.Warrant=w:=by
 obtain⟨us,h1,h2⟩:=ru day (fU d.Queue day) d.Account [] false
 rw[goD,h2,List.nil_append]
 refine⟨(Gk hq day).sublist h1,fun w hw=>?_⟩
 obtain⟨p,hp,e⟩:=List.mem_map.1 (h1.subset hw)
 exact⟨p,hp,e⟩
theorem pD (day:Int):∀(l:List TPayment) (a:TAccount) (ws:List Int) (full:Bool),aD a=0→aD (eL day l a ws full).1=0
 |[],a,ws,full,h=>h
 |p::l,a,ws,full,h=>by
  rw[eL]
  split
  ·exact h
  ·split
   ·rename_i hp
    exact pD day l _ _ _ (gr hp)
   ·exact pD day l _ _ _ h
abbrev tW (a:TAccount):AObj:=⟨28,3,[[iv a.Credit,aL a.Subs,bu a.Entries]]⟩
set_option maxHeartbeats 8000000 in
theorem Hz (d:TDesk) (day:Int) (hf:FitD d):PFun Tryz.prog none none 151 [.agg d.cells,iv day] (·= .tup [.agg (dD d day).1.cells,.agg (dD d day).2.1.cells,iv (dD d day).2.2]):=by
 refine eV Tryz.func151 rfl (by simp[Tryz.f151]) ?_
 intro E hP hr hs hW hN
 have li:=hf.i
 have lb:=hf.q.b
 have le:=hf.e
 have id':=dO d
 have ia:=cV d.Account
 have ck:=nw d hf
 simp only[cDn]at id' ck
 simp only[cA]at ia
 obtain⟨R,hR⟩:∃R,R=AV.tup [.agg (dD d day).1.cells,.agg (dD d day).2.1.cells,iv (dD d day).2.2]:=⟨_,rfl⟩
 rw[←hR]
 have zer:∀n,dD d day=(cR,dy,n)→AV.tup [.agg cR.cells,.agg dy.cells,iv n]=R:=fun n h=>by rw[hR,h]
 refine bG (by rw[hN];kernel_rfl) ?_
 simp -dsimp -implicitDefEqProofs [-getElem?_pos,go_sem,hP,cDn]
 refine bG (by rw[hN];kernel_rfl) ?_
 simp -dsimp -implicitDefEqProofs [-getElem?_pos,go_sem,hP]
 refine ae (ck.lift _ _) hP En (by simpa using id') .sc ?_
 by_cases c1:bH d=0
 rotate_left
 ·have:dD d day=(cR,dy,bH d):=by rw[dD,if_neg c1]
  simp -dsimp -implicitDefEqProofs [-getElem?_pos,go_sem,hP,c1]
  exact dC (zer _ this)
 have hd:=dK.1 c1
 simp -dsimp -implicitDefEqProofs [-getElem?_pos,go_sem,hP,c1]
 refine bG (by rw[hN];kernel_rfl) ?_
 by_cases b1:day<0
 ·have:dD d day=(cR,dy,66):=by rw[dD,if_pos c1,if_neg (by rw[gW,eM (by omega)];simp)]
  simp -dsimp -implicitDefEqProofs [-getElem?_pos,go_sem,hP,b1]
  exact dC (zer _ this)
 have f1:=decide_eq_false b1
 by_cases b2:36000<day
 ·have:dD d day=(cR,dy,66):=by rw[dD,if_pos c1,if_neg (by rw[gW,eM (by omega)];simp)]
  simp -dsimp -implicitDefEqProofs [-getElem?_pos,go_sem,hP,b1,f1,b2]
  exact dC (zer _ this)
 have f2:=decide_eq_false b2
 simp -dsimp -implicitDefEqProofs [-getElem?_pos,go_sem,hP,f1,f2]
 refine ah (j4 day) hP DP (ai (by simp -dsimp[-getElem?_pos,go_sem])) .sc ?_
 cases c2:gW day
 ·have:dD d day=(cR,dy,66):=by rw[dD,if_pos c1,if_neg (by simp[c2])]
  simp -dsimp -implicitDefEqProofs [-getElem?_pos,go_sem,hP,c2]
  exact dC (zer _ this)
 simp -dsimp -implicitDefEqProofs [-getElem?_pos,go_sem,hP,c2]
 refine bG (by rw[hN];kernel_rfl) ?_
 simp -dsimp -implicitDefEqProofs [-getElem?_pos,go_sem,hP]
 refine ao (fun _=>true) [] hP (by kernel_rfl) (by kernel_rfl) ?_
 simp -dsimp -implicitDefEqProofs [-getElem?_pos,go_sem,hP]
 obtain⟨bs,hbs⟩:∃bs,bs=d.Queue.Batches:=⟨_,rfl⟩
 obtain⟨es,hes⟩:∃es,es=d.Account.Entries:=⟨_,rfl⟩
 obtain⟨Inv,hInv⟩:∃Inv:St→Prop,Inv=fun s=>¬(day<fQ d.Queue∨day<iF d.Account)∧s.t 1=iv day∧s.t 2= .ref 0 0 0∧s.t 4= .ref 1 0 0∧s.t 5= .ref 2 0 0∧s.H=[some (lN d),some nu,some tj]:=⟨_,rfl⟩
 refine fI Inv (by rw[hN];kernel_rfl) ?_ ?_
 ·have late:(day<fQ d.Queue∨day<iF d.Account)→dD d day=(cR,dy,8):=fun h=>by rw[dD,if_pos c1,if_pos c2,if_pos h]
  have hdp:=B9 hd.a
  have hd0:0≤day:=by omega
  rw[←hbs]at lb
  rw[←hes]at le
  have lE:es.length=0→iF d.Account=0:=fun h=>by rw[iF,ye (by rw[←hes];exact h)]
  have lE1:∀(j:Nat) (e:TEntry),es.length=j+1→es[j]?=some e→iF d.Account=e.Day:=fun j e h h'=>by rw[iF,yx (k:=j) (e:=e) (by rw[←hes];exact h) (by rw[←hes];exact h')]
  have lQ:bs.length=0→fQ d.Queue=0:=fun h=>HH (by rw[←hbs];exact h)
  have lQ1:∀(j:Nat) (e:TBatch),bs.length=j+1→bs[j]?=some e→fQ d.Queue=e.Day:=fun j e h h'=>GX (k:=j) (by rw[←hbs];exact h) (by rw[←hbs];exact h')
  rcases Nat.eq_zero_or_pos bs.length with n0|n0
  ·have e0:decide (0<bs.length)=false:=decide_eq_false (by omega)
   have lq:=lQ n0
   rcases Nat.eq_zero_or_pos es.length with m0|m0
   ·have e1:decide (0<es.length)=false:=decide_eq_false (by omega)
    have:=lE m0
    simp -dsimp -implicitDefEqProofs [-getElem?_pos,go_sem,hP,←hbs,←hes,e0,e1]
    refine⟨_,Weaker.refl _,?_⟩
    rw[hInv]
    exact⟨by omega,by simp -dsimp[-getElem?_pos,go_sem],by simp -dsimp[-getElem?_pos,go_sem],by simp -dsimp[-getElem?_pos,go_sem],by simp -dsimp[-getElem?_pos,go_sem],by simp[lN,hbs,hes]⟩
   ·obtain⟨j,hj⟩:∃j,es.length=j+1:=⟨_,(Nat.succ_pred_eq_of_pos m0).symm⟩
    obtain⟨e,hee⟩:∃e,es[j]?=some e:=⟨_,List.getElem?_eq_getElem (by omega)⟩
    have wj:IntKind.i64.wrap (j:Int)=(j:Int):=af _ (by omega)
    have hle:=lE1 j e hj hee
    by_cases c3:day<e.Day
    ·have d3:=decide_eq_true c3
     simp -dsimp -implicitDefEqProofs [-getElem?_pos,go_sem,hP,←hbs,←hes,e0,m0,hj,wj,Int.add_sub_cancel,hee,cE,d3]
     exact dC (zer _ (late (.inr (by omega))))
    ·have d3:=decide_eq_false c3
     simp -dsimp -implicitDefEqProofs [-getElem?_pos,go_sem,hP,←hbs,←hes,e0,m0,hj,wj,Int.add_sub_cancel,hee,cE,d3]
     refine⟨_,Weaker.refl _,?_⟩
     rw[hInv]
     exact⟨by omega,by simp -dsimp[-getElem?_pos,go_sem],by simp -dsimp[-getElem?_pos,go_sem],by simp -dsimp[-getElem?_pos,go_sem],by simp -dsimp[-getElem?_pos,go_sem],by simp[lN,hbs,hes]⟩
  ·obtain⟨i,hi⟩:∃i,bs.length=i+1:=⟨_,(Nat.succ_pred_eq_of_pos n0).symm⟩
   obtain⟨b,hb⟩:∃b,bs[i]?=some b:=⟨_,List.getElem?_eq_getElem (by omega)⟩
   have wi:IntKind.i64.wrap (i:Int)=(i:Int):=af _ (by omega)
   have hlb:=lQ1 i b hi hb
   by_cases c4:day<b.Day
   ·have d4:=decide_eq_true c4
    simp -dsimp -implicitDefEqProofs [-getElem?_pos,go_sem,hP,←hbs,←hes,n0,hi,wi,Int.add_sub_cancel,hb,cBt,d4]
    exact dC (zer _ (late (.inl (by omega))))
   have d4:=decide_eq_false c4
   rcases Nat.eq_zero_or_pos es.length with m0|m0
   ·have e1:decide (0<es.length)=false:=decide_eq_false (by omega)
    have:=lE m0
    simp -dsimp -implicitDefEqProofs [-getElem?_pos,go_sem,hP,←hbs,←hes,n0,hi,wi,hb,cBt,d4,e1]
    refine⟨_,Weaker.refl _,?_⟩
    rw[hInv]
    exact⟨by omega,by simp -dsimp[-getElem?_pos,go_sem],by simp -dsimp[-getElem?_pos,go_sem],by simp -dsimp[-getElem?_pos,go_sem],by simp -dsimp[-getElem?_pos,go_sem],by simp[lN,hbs,hes]⟩
   ·obtain⟨j,hj⟩:∃j,es.length=j+1:=⟨_,(Nat.succ_pred_eq_of_pos m0).symm⟩
    obtain⟨e,hee⟩:∃e,es[j]?=some e:=⟨_,List.getElem?_eq_getElem (by omega)⟩
    have wj:IntKind.i64.wrap (j:Int)=(j:Int):=af _ (by omega)
    have hle:=lE1 j e hj hee
    by_cases c3:day<e.Day
    ·have d3:=decide_eq_true c3
     simp -dsimp -implicitDefEqProofs [-getElem?_pos,go_sem,hP,←hbs,←hes,n0,hi,wi,hb,cBt,d4,m0,hj,wj,Int.add_sub_cancel,hee,cE,d3]
     exact dC (zer _ (late (.inr (by omega))))
    ·have d3:=decide_eq_false c3
     simp -dsimp -implicitDefEqProofs [-getElem?_pos,go_sem,hP,←hbs,←hes,n0,hi,wi,hb,cBt,d4,m0,hj,wj,Int.add_sub_cancel,hee,cE,d3]
     refine⟨_,Weaker.refl _,?_⟩
     rw[hInv]
     exact⟨by omega,by simp -dsimp[-getElem?_pos,go_sem],by simp -dsimp[-getElem?_pos,go_sem],by simp -dsimp[-getElem?_pos,go_sem],by simp -dsimp[-getElem?_pos,go_sem],by simp[lN,hbs,hes]⟩
 intro s hs'
 rw[hInv]at hs'
 obtain⟨c3,t1,t2,t4,t5,hH⟩:=hs'
 clear hInv Inv
 refine bG (by rw[hN];kernel_rfl) ?_
 simp -dsimp -implicitDefEqProofs [-getElem?_pos,go_sem,hP,t2,hH]
 refine bG (by rw[hN];kernel_rfl) ?_
 simp -dsimp -implicitDefEqProofs [-getElem?_pos,go_sem,hP]
 refine bG (by rw[hN];kernel_rfl) ?_
 simp -dsimp -implicitDefEqProofs [-getElem?_pos,go_sem,hP]
 obtain⟨rl,hrl⟩:∃rl,rl=fU d.Queue day:=⟨_,rfl⟩
 have hg:goD d day=eL day rl d.Account [] false:=by rw[hrl];rfl
 have hll:rl.length≤100000:=by
  have:=(mn d.Queue day).length_le
  have:=hf.q.w
  rw[hrl]
  omega
 have hca:=pD day rl d.Account [] false hd.a
 have hcl:=o8 day rl d.Account [] false (by simp)
 rw[←hg]at hca hcl
 obtain⟨Inv,hInv⟩:∃Inv:St→Prop,Inv=fun s=>s.t 1=iv day∧s.t 2= .ref 0 0 0∧s.t 4= .ref 1 0 0∧s.t 5= .ref 2 0 0∧s.t 10= .ref 3 0 0∧s.t 11=eU (goD d day).2.1∧s.t 12=bv (goD d day).2.2∧s.H[0]?=some (some (lN d))∧s.H[1]?=some (some nu)∧s.H[2]?=some (some tj)∧s.H[3]?=some (some (tW (goD d day).1)):=⟨_,rfl⟩
 refine fI Inv (by rw[hN];kernel_rfl) ?_ ?_
 ·have rp:=DZ d.Queue day hf.q
  have iq:=dr d.Queue
  have irl:=cg rl
  rw[←hrl]at rp
  simp only[cQn]at rp iq
  simp -dsimp -implicitDefEqProofs [-getElem?_pos,go_sem,hP,t2,t1]
  refine ae (rp.lift _ _) hP N5 (by simpa[ar]using iq) irl ?_
  simp -dsimp -implicitDefEqProofs [-getElem?_pos,go_sem,hP]
  refine eJ 11 3 1 (by simp -dsimp[-getElem?_pos,go_sem]) ?_
  obtain⟨I,hI⟩:∃I:Nat→St→Prop,I=fun m s=>∃(k wid:Nat) (a:TAccount) (ws:List Int) (full:Bool),k≤rl.length∧m=rl.length-k∧goD d day=eL day (rl.drop k) a ws full∧aD a=0∧ws.length≤10∧4≤wid∧s.t 1=iv day∧s.t 2= .ref 0 0 0∧s.t 4= .ref 1 0 0∧s.t 5= .ref 2 0 0∧s.t 10= .ref 3 0 0∧s.t 11= .sref wid 0 ws.length∧s.t 12=bv full∧s.t 89=aC rl∧s.t 90=iv rl.length∧s.t 91=iv k∧s.H[0]?=some (some (lN d))∧s.H[1]?=some (some nu)∧s.H[2]?=some (some tj)∧s.H[3]?=some (some (tW a))∧s.H[wid]?=some (some ⟨3,1,aj aS ws⟩):=⟨_,rfl⟩
  refine ay I (rl.length) (by rw[hN];rfl) ?_ ?_
  ·rw[hI]
   refine⟨0,4,d.Account,[],false,by omega,by omega,by rw[hg];rfl,hd.a,by simp,by omega,by simp -dsimp[-getElem?_pos,go_sem,t1],by simp -dsimp[-getElem?_pos,go_sem,t2],by simp -dsimp[-getElem?_pos,go_sem,t4],by simp -dsimp[-getElem?_pos,go_sem,t5],by simp -dsimp[-getElem?_pos,go_sem],by simp -dsimp[-getElem?_pos,go_sem],by simp -dsimp[-getElem?_pos,go_sem],by simp -dsimp[-getElem?_pos,go_sem],by simp -dsimp[-getElem?_pos,go_sem],by simp -dsimp[-getElem?_pos,go_sem],by simp -dsimp[-getElem?_pos,go_sem],by simp -dsimp[-getElem?_pos,go_sem],by simp -dsimp[-getElem?_pos,go_sem],by simp -dsimp[-getElem?_pos,go_sem],by simp -dsimp[-getElem?_pos,go_sem,aj]⟩
  clear t1 t2 t4 t5 hg
  intro m s hs'
  rw[hI]at hs'
  obtain⟨k,wid,a,ws,full,hk,hm,hgo,hca,hw10,hwid,t1,t2,t4,t5,t10,t11,t12,t89,t90,t91,h0,h1,h2,h3,hH⟩:=hs'
  have g0:=(gsI h0)
  have g1:=(gsI h1)
  have g2:=(gsI h2)
  have g3:=(gsI h3)
  have gw:=(gsI hH)
  have fin:goD d day=(a,ws,full)→∀s':St,s'.t 1=iv day→s'.t 2= .ref 0 0 0→s'.t 4= .ref 1 0 0→s'.t 5= .ref 2 0 0→s'.t 10= .ref 3 0 0→s'.t 11= .sref wid 0 ws.length→s'.t 12=bv full→s'.H[0]?=some (some (lN d))→s'.H[1]?=some (some nu)→s'.H[2]?=some (some tj)→s'.H[3]?=some (some (tW a))→s'.H[wid]?=some (some ⟨3,1,aj aS ws⟩)→QF E Inv s':=fun e s' a1 a2 a3 a4 a0 a5 a6 a7 a8 a9 a10 a11=>by
   have lw:((aj aS ws).drop 0).take ws.length=aj aS ws:=by rw[List.drop_zero,List.take_of_length_le (by rw[al];exact Nat.le_refl _)]
   refine⟨_,w4 hW 11 a5 a11 (by dsimp only;rw[lw];exact fY ws),?_⟩
   rw[hInv,e]
   dsimp only
   rw[lw]
   refine⟨by simp -dsimp[-getElem?_pos,go_sem,a1],by simp -dsimp[-getElem?_pos,go_sem,a2],by simp -dsimp[-getElem?_pos,go_sem,a3],by simp -dsimp[-getElem?_pos,go_sem,a4],by simp -dsimp[-getElem?_pos,go_sem,a0],by simp -dsimp[-getElem?_pos,go_sem],by simp -dsimp[-getElem?_pos,go_sem,a6],?_,?_,?_,?_⟩
   ·rw[List.getElem?_set_ne (by omega),a7]
   ·rw[List.getElem?_set_ne (by omega),a8]
   ·rw[List.getElem?_set_ne (by omega),a9]
   ·rw[List.getElem?_set_ne (by omega),a10]
  simp -dsimp -implicitDefEqProofs [-getElem?_pos,go_sem,hP,t90,t91]
  refine aB (fun hh=>?_) (fun hh=>?_)
  rotate_left
  ·have hk:k=rl.length:=by simp at hh;omega
   subst hk
   rw[List.drop_length,eL]at hgo
   simp -dsimp -implicitDefEqProofs [-getElem?_pos,go_sem,hP]
   exact fin hgo _ (by simp -dsimp[-getElem?_pos,go_sem,t1]) (by simp -dsimp[-getElem?_pos,go_sem,t2]) (by simp -dsimp[-getElem?_pos,go_sem,t4]) (by simp -dsimp[-getElem?_pos,go_sem,t5]) (by simp -dsimp[-getElem?_pos,go_sem,t10]) (by simp -dsimp[-getElem?_pos,go_sem,t11]) (by simp -dsimp[-getElem?_pos,go_sem,t12]) (by simp -dsimp[-getElem?_pos,go_sem,h0]) (by simp -dsimp[-getElem?_pos,go_sem,h1]) (by simp -dsimp[-getElem?_pos,go_sem,h2]) (by simp -dsimp[-getElem?_pos,go_sem,h3]) (by simp -dsimp[-getElem?_pos,go_sem,hH])
  have hk:k<rl.length:=by simpa using hh
  obtain⟨p,hp⟩:∃p,rl[k]?=some p:=⟨_,List.getElem?_eq_getElem hk⟩
  have wk:=af ((k:Int)+1) (by omega)
  rw[cU hp,eL]at hgo
  by_cases c5:ws.length=10
  ·have d5:decide ((ws.length:Int)=10)=true:=decide_eq_true (by omega)
   rw[if_pos c5]at hgo
   simp -dsimp -implicitDefEqProofs [-getElem?_pos,go_sem,hP,t89,t91,hp,cPy,t11,hH,gw,d5,c5]
   exact fin hgo _ (by simp -dsimp[-getElem?_pos,go_sem,t1]) (by simp -dsimp[-getElem?_pos,go_sem,t2]) (by simp -dsimp[-getElem?_pos,go_sem,t4]) (by simp -dsimp[-getElem?_pos,go_sem,t5]) (by simp -dsimp[-getElem?_pos,go_sem,t10]) (by simp -dsimp[-getElem?_pos,go_sem,t11]) (by simp -dsimp[-getElem?_pos,go_sem,t12]) (by simp -dsimp[-getElem?_pos,go_sem,h0,g0]) (by simp -dsimp[-getElem?_pos,go_sem,h1,g1]) (by simp -dsimp[-getElem?_pos,go_sem,h2,g2]) (by simp -dsimp[-getElem?_pos,go_sem,h3,g3]) (by simp -dsimp[-getElem?_pos,go_sem,hH,gw])
  have d5:decide ((ws.length:Int)=10)=false:=decide_eq_false (by omega)
  rw[if_neg c5]at hgo
  simp -dsimp -implicitDefEqProofs [-getElem?_pos,go_sem,hP,t89,t91,hp,cPy,t11,hH,gw,d5,c5]
  obtain⟨pb,hpb⟩:∃pb,pb=s.H.length:=⟨_,rfl⟩
  obtain⟨H1,hH1⟩:∃H1,H1=s.H++[some (⟨81,5,[[iv p.Warrant,iv p.Payee,iv p.Amount,iv p.Due,iv p.Sub]]⟩:AObj)]:=⟨_,rfl⟩
  have l1:H1.length=pb+1:=by rw[hH1,hpb];simp
  have k0:H1[0]?=some (some (lN d)):=by rw[hH1,List.getElem?_append_left g0];exact h0
  have k1:H1[1]?=some (some nu):=by rw[hH1,List.getElem?_append_left g1];exact h1
  have k2:H1[2]?=some (some tj):=by rw[hH1,List.getElem?_append_left g2];exact h2
  have k3:H1[3]?=some (some (tW a)):=by rw[hH1,List.getElem?_append_left g3];exact h3
  have kw:H1[wid]?=some (some ⟨3,1,aj aS ws⟩):=by rw[hH1,List.getElem?_append_left gw];exact hH
  have kp:H1[pb]?=some (some ⟨81,5,[[iv p.Warrant,iv p.Payee,iv p.Amount,iv p.Due,iv p.Sub]]⟩):=by rw[hH1,hpb,List.getElem?_append_right (Nat.le_refl _),Nat.sub_self];rfl
  simp only[←hH1,←hpb]
  have q0:0<H1.length:=by omega
  have q1:1<H1.length:=by omega
  have q2:2<H1.length:=by omega
  have q3:3<H1.length:=by omega
  have qw:wid<H1.length:=by omega
  have qp:pb<H1.length:=by omega
  have sl:=rW hca
  have iac:=cV a
  have nx:=rJ a day p.Sub 0 p.Amount p.Warrant sl.2
  obtain⟨e,hee⟩:∃e,e=bT a day p.Sub 0 p.Amount p.Warrant:=⟨_,rfl⟩
  rw[←hee]at nx hgo
  have ie:=eC e
  have po:=rT a e sl.1 sl.2
  have io:=cV (bF a e).1
  simp only[cA]at iac nx po io
  refine sa (fun i=>decide (i=3)||decide (i=pb)) [15] [9,10] hP (by kernel_rfl) (by kernel_rfl) ?_
  simp -dsimp -implicitDefEqProofs [-getElem?_pos,go_sem,hP,t10,t1,k3,q3,kp,qp]
  refine ke (nx.lift _ _) hP Dx (by simpa[ar]using iac) ie ?_
  simp -dsimp -implicitDefEqProofs [-getElem?_pos,go_sem,hP,t10,t1,k3,q3,kp,qp]
  refine ke (po.lift _ _) hP EK (by simpa using⟨iac,ie⟩) (ak io .sc) ?_
  obtain⟨b,hb⟩:∃b,b=(bF a e).1:=⟨_,rfl⟩
  obtain⟨H2',hH2⟩:∃H2',H2'=H1++[some (tW b)]:=⟨_,rfl⟩
  have l2:H2'.length=pb+2:=by rw[hH2];simp;omega
  have j0:H2'[0]?=some (some (lN d)):=by rw[hH2,List.getElem?_append_left q0];exact k0
  have j1:H2'[1]?=some (some nu):=by rw[hH2,List.getElem?_append_left q1];exact k1
  have j2:H2'[2]?=some (some tj):=by rw[hH2,List.getElem?_append_left q2];exact k2
  have j3:H2'[3]?=some (some (tW a)):=by rw[hH2,List.getElem?_append_left q3];exact k3
  have jw:H2'[wid]?=some (some ⟨3,1,aj aS ws⟩):=by rw[hH2,List.getElem?_append_left qw];exact kw
  have jp:H2'[pb]?=some (some ⟨81,5,[[iv p.Warrant,iv p.Payee,iv p.Amount,iv p.Due,iv p.Sub]]⟩):=by rw[hH2,List.getElem?_append_left qp];exact kp
  have ja:H2'[pb+1]?=some (some (tW b)):=by rw[hH2,←l1,List.getElem?_append_right (Nat.le_refl _),Nat.sub_self];rfl
  have z0:0<H2'.length:=by omega
  have z1:1<H2'.length:=by omega
  have z2:2<H2'.length:=by omega
  have z3:3<H2'.length:=by omega
  have zw:wid<H2'.length:=by omega
  have zp:pb<H2'.length:=by omega
  have za:pb+1<H2'.length:=by omega
  rw[←hb]at hgo
  simp -dsimp -implicitDefEqProofs [-getElem?_pos,go_sem,hP,t10,t1,k3,q3,kp,qp]
  refine⟨fun i hi=>?_,?_⟩
  ·simp only[Bool.or_eq_true,decide_eq_true_eq]at hi
   rw[List.getElem?_append_left (by omega)]
  rw[←hb,←hH2,l1]
  have lws:(aj aS ws).length=ws.length:=al _ _
  have wpb:wid<pb:=by rw[hpb];exact gw
  have nw3:¬wid=3:=by omega
  have next:∀(s':St) (wid':Nat) (a':TAccount) (ws':List Int) (full':Bool),goD d day=eL day (rl.drop (k+1)) a' ws' full'→aD a'=0→ws'.length≤10→4≤wid'→s'.t 1=iv day→s'.t 2= .ref 0 0 0→s'.t 4= .ref 1 0 0→s'.t 5= .ref 2 0 0→s'.t 10= .ref 3 0 0→s'.t 11= .sref wid' 0 ws'.length→s'.t 12=bv full'→s'.t 89=aC rl→s'.t 90=iv rl.length→s'.t 91=iv (k+1)→s'.H[0]?=some (some (lN d))→s'.H[1]?=some (some nu)→s'.H[2]?=some (some tj)→s'.H[3]?=some (some (tW a'))→s'.H[wid']?=some (some ⟨3,1,aj aS ws'⟩)→∃m',m'<m∧I m' s':=fun s' wid' a' ws' full' x1 x2 x3 x4 x5 x6 x7 x8 x9 x10 x11 x12 x13 x14 x15 x16 x17 x18 x19=>by
   refine⟨rl.length-(k+1),by omega,?_⟩
   rw[hI]
   exact⟨k+1,wid',a',ws',full',by omega,rfl,x1,x2,x3,x4,x5,x6,x7,x8,x9,x10,x11,x12,x13,x14,x15,x16,x17,x18,x19⟩
  by_cases c6:(bF a e).2=0
  rotate_left
  ·rw[if_neg c6]at hgo
   have d6:=decide_eq_false c6
   cases full
   ·rw[Bool.false_or]at hgo
    simp -dsimp -implicitDefEqProofs [-getElem?_pos,go_sem,hP,t12,c6,d6,t91,wk]
    exact next _ wid a ws _ hgo hca hw10 hwid (by simp -dsimp[-getElem?_pos,go_sem,t1]) (by simp -dsimp[-getElem?_pos,go_sem,t2]) (by simp -dsimp[-getElem?_pos,go_sem,t4]) (by simp -dsimp[-getElem?_pos,go_sem,t5]) (by simp -dsimp[-getElem?_pos,go_sem,t10]) (by simp -dsimp[-getElem?_pos,go_sem,t11]) (by simp -dsimp[-getElem?_pos,go_sem]) (by simp -dsimp[-getElem?_pos,go_sem,t89]) (by simp -dsimp[-getElem?_pos,go_sem,t90]) (by simp -dsimp[-getElem?_pos,go_sem]) (by simp -dsimp[-getElem?_pos,go_sem,j0]) (by simp -dsimp[-getElem?_pos,go_sem,j1]) (by simp -dsimp[-getElem?_pos,go_sem,j2]) (by simp -dsimp[-getElem?_pos,go_sem,j3]) (by simp -dsimp[-getElem?_pos,go_sem,jw])
   ·rw[Bool.true_or]at hgo
    simp -dsimp -implicitDefEqProofs [-getElem?_pos,go_sem,hP,t12,c6,d6,t91,wk]
    exact next _ wid a ws _ hgo hca hw10 hwid (by simp -dsimp[-getElem?_pos,go_sem,t1]) (by simp -dsimp[-getElem?_pos,go_sem,t2]) (by simp -dsimp[-getElem?_pos,go_sem,t4]) (by simp -dsimp[-getElem?_pos,go_sem,t5]) (by simp -dsimp[-getElem?_pos,go_sem,t10]) (by simp -dsimp[-getElem?_pos,go_sem,t11]) (by simp -dsimp[-getElem?_pos,go_sem]) (by simp -dsimp[-getElem?_pos,go_sem,t89]) (by simp -dsimp[-getElem?_pos,go_sem,t90]) (by simp -dsimp[-getElem?_pos,go_sem]) (by simp -dsimp[-getElem?_pos,go_sem,j0]) (by simp -dsimp[-getElem?_pos,go_sem,j1]) (by simp -dsimp[-getElem?_pos,go_sem,j2]) (by simp -dsimp[-getElem?_pos,go_sem,j3]) (by simp -dsimp[-getElem?_pos,go_sem,jw])
  have en:aj aS ws++[[AV.sc (.int .i64 p.Warrant)]]=aj aS (ws++[p.Warrant]):=ba aS ws p.Warrant
  have old:∀j,j≠wid→j≠3→j<H2'.length→((List.set H2' wid none).set 3 (some (tW b))++[some (⟨3,1,aj aS ws++[[AV.sc (.int .i64 p.Warrant)]]⟩:AObj)])[j]?=H2'[j]?:=fun j h1 h3 h2=>by
   rw[List.getElem?_append_left (by rw[List.length_set,List.length_set];exact h2),List.getElem?_set_ne (Ne.symm h3),List.getElem?_set_ne (Ne.symm h1)]
  have u3:((List.set H2' wid none).set 3 (some (tW b))++[some (⟨3,1,aj aS ws++[[AV.sc (.int .i64 p.Warrant)]]⟩:AObj)])[3]?=some (some (tW b)):=by rw[List.getElem?_append_left (by rw[List.length_set,List.length_set];exact z3),List.getElem?_set_self (by rw[List.length_set];exact z3)]
  have uw:((List.set H2' wid none).set 3 (some (tW b))++[some (⟨3,1,aj aS ws++[[AV.sc (.int .i64 p.Warrant)]]⟩:AObj)])[pb+2]?=some (some ⟨3,1,aj aS (ws++[p.Warrant])⟩):=by
   rw[←l2,List.getElem?_append_right (by simp),List.length_set,List.length_set,Nat.sub_self,en];rfl
  cases full
  ·rw[if_pos c6]at hgo
   simp -dsimp -implicitDefEqProofs [-getElem?_pos,go_sem,hP,t12,c6]
   refine ao (fun i=>decide (i=pb)||decide (i=pb+1)) [6] hP (by kernel_rfl) (by kernel_rfl) ?_
   simp -dsimp -implicitDefEqProofs [-getElem?_pos,go_sem,hP,t10,t11,j3,z3,jp,zp,ja,za,jw,zw,lws,nw3,t91,wk]
   refine⟨by omega,by omega,fun j hj=>?_,?_⟩
   ·simp only[Bool.or_eq_true,decide_eq_true_eq]at hj
    rw[List.getElem?_append_left (by rw[List.length_set];omega),List.getElem?_set_ne (by omega)]
   exact next _ (pb+2) b (ws++[p.Warrant]) _ hgo (hb▸gr c6) (by rw[List.length_append,List.length_singleton];omega) (by omega) (by simp -dsimp[-getElem?_pos,go_sem,t1]) (by simp -dsimp[-getElem?_pos,go_sem,t2]) (by simp -dsimp[-getElem?_pos,go_sem,t4]) (by simp -dsimp[-getElem?_pos,go_sem,t5]) (by simp -dsimp[-getElem?_pos,go_sem,t10]) (by simp -dsimp[-getElem?_pos,go_sem,l2]) (by simp -dsimp[-getElem?_pos,go_sem]) (by simp -dsimp[-getElem?_pos,go_sem,t89]) (by simp -dsimp[-getElem?_pos,go_sem,t90]) (by simp -dsimp[-getElem?_pos,go_sem]) ((old 0 (by omega) (by omega) z0).trans j0) ((old 1 (by omega) (by omega) z1).trans j1) ((old 2 (by omega) (by omega) z2).trans j2) u3 uw
  ·rw[if_pos c6]at hgo
   simp -dsimp -implicitDefEqProofs [-getElem?_pos,go_sem,hP,t12,c6]
   refine ao (fun i=>decide (i=pb)||decide (i=pb+1)) [6] hP (by kernel_rfl) (by kernel_rfl) ?_
   simp -dsimp -implicitDefEqProofs [-getElem?_pos,go_sem,hP,t10,t11,j3,z3,jp,zp,ja,za,jw,zw,lws,nw3,t91,wk]
   refine⟨by omega,by omega,fun j hj=>?_,?_⟩
   ·simp only[Bool.or_eq_true,decide_eq_true_eq]at hj
    rw[List.getElem?_append_left (by rw[List.length_set];omega),List.getElem?_set_ne (by omega)]
   exact next _ (pb+2) b (ws++[p.Warrant]) _ hgo (hb▸gr c6) (by rw[List.length_append,List.length_singleton];omega) (by omega) (by simp -dsimp[-getElem?_pos,go_sem,t1]) (by simp -dsimp[-getElem?_pos,go_sem,t2]) (by simp -dsimp[-getElem?_pos,go_sem,t4]) (by simp -dsimp[-getElem?_pos,go_sem,t5]) (by simp -dsimp[-getElem?_pos,go_sem,t10]) (by simp -dsimp[-getElem?_pos,go_sem,l2]) (by simp -dsimp[-getElem?_pos,go_sem]) (by simp -dsimp[-getElem?_pos,go_sem,t89]) (by simp -dsimp[-getElem?_pos,go_sem,t90]) (by simp -dsimp[-getElem?_pos,go_sem]) ((old 0 (by omega) (by omega) z0).trans j0) ((old 1 (by omega) (by omega) z1).trans j1) ((old 2 (by omega) (by omega) z2).trans j2) u3 uw
 intro s hs'
 rw[hInv]at hs'
 obtain⟨t1,t2,t4,t5,t10,t11,t12,h0,h1,h2,h3⟩:=hs'
 clear hInv Inv
 obtain⟨G,hG⟩:∃G,G=goD d day:=⟨_,rfl⟩
 have hws:=OO hd.q day
 rw[←hG]at t11 t12 h3 hws hca hcl
 have g0:=(gsI h0)
 have g1:=(gsI h1)
 have g2:=(gsI h2)
 have g3:=(gsI h3)
 have hsd:dD d day=if G.2.1.length=0 then (cR,dy,if G.2.2=true then 3 else 10)else if (cC d.Queue day G.2.1).2.2=0 then (⟨G.1,(cC d.Queue day G.2.1).1,d.Items.map (fa G.2.1)⟩,(cC d.Queue day G.2.1).2.1,0)else (cR,dy,(cC d.Queue day G.2.1).2.2):=by
  rw[dD,if_pos c1,if_pos c2,if_neg c3,←hG]
 refine bU _ _ _ (by rw[hN];kernel_rfl) ?_
 by_cases c4:G.2.1.length=0
 ·rw[if_pos c4]at hsd
  have d4:decide ((G.2.1.length:Int)=0)=true:=decide_eq_true (by omega)
  cases hfull:G.2.2
  ·rw[hfull]at t12 hsd
   simp -dsimp -implicitDefEqProofs [-getElem?_pos,go_sem,hP,t11,d4,c4,t4,t5,h1,g1,h2,g2,t12]
   exact dC (zer _ hsd)
  ·rw[hfull]at t12 hsd
   simp -dsimp -implicitDefEqProofs [-getElem?_pos,go_sem,hP,t11,d4,c4,t4,t5,h1,g1,h2,g2,t12]
   exact dC (zer _ hsd)
 rw[if_neg c4]at hsd
 have d4:decide ((G.2.1.length:Int)=0)=false:=decide_eq_false (by omega)
 have lG:G.2.1.length≤100000:=by omega
 have tk:=Ie d.Queue day G.2.1 hf.q lG
 have iq:=dr d.Queue
 have iqq:=dr (cC d.Queue day G.2.1).1
 have ibb:=Fz (cC d.Queue day G.2.1).2.1
 have iws:=fY G.2.1
 have e1:aF G.2.1=eU G.2.1:=rfl
 simp only[cQn,cBt,e1]at tk iq iqq ibb
 simp -dsimp -implicitDefEqProofs [-getElem?_pos,go_sem,hP,t11,d4,c4,t1,t2,h0,g0]
 refine ae (tk.lift _ _) hP NR (by simp[ar];exact⟨by simpa using iq,iws⟩) (eP iqq ibb .sc) ?_
 by_cases c5:(cC d.Queue day G.2.1).2.2=0
 rotate_left
 ·rw[if_neg c5]at hsd
  have d5:=decide_eq_false c5
  simp -dsimp -implicitDefEqProofs [-getElem?_pos,go_sem,hP,d5,t4,t5,h1,g1,h2,g2]
  exact dC (zer _ hsd)
 rw[if_pos c5]at hsd
 obtain⟨q',hq'⟩:∃q',q'=(cC d.Queue day G.2.1).1:=⟨_,rfl⟩
 obtain⟨bt,hbt⟩:∃bt,bt=(cC d.Queue day G.2.1).2.1:=⟨_,rfl⟩
 simp only[←hq',←hbt]at hsd iqq ibb
 simp -dsimp -implicitDefEqProofs [-getElem?_pos,go_sem,hP,c5,←hq',←hbt]
 obtain⟨n,hn⟩:∃n,n=s.H.length:=⟨_,rfl⟩
 obtain⟨H5,hH5⟩:∃H5,H5=s.H++[some ⟨32,3,[[aC q'.Waiting,eU q'.Known,aX q'.Batches]]⟩,some (⟨140,3,[[iv bt.Number,iv bt.Day,aC bt.Payments]]⟩:AObj)]:=⟨_,rfl⟩
 have l5:H5.length=n+2:=by rw[hH5,hn];simp
 have old:∀j,j<s.H.length→H5[j]?=s.H[j]?:=fun j h2=>by rw[hH5,List.getElem?_append_left h2]
 have u0:=(old 0 g0).trans h0
 have u1:=(old 1 g1).trans h1
 have u2:=(old 2 g2).trans h2
 have u3:=(old 3 g3).trans h3
 have uq:H5[n]?=some (some ⟨32,3,[[aC q'.Waiting,eU q'.Known,aX q'.Batches]]⟩):=by rw[hH5,hn,List.getElem?_append_right (Nat.le_refl _),Nat.sub_self];rfl
 have ub:H5[n+1]?=some (some ⟨140,3,[[iv bt.Number,iv bt.Day,aC bt.Payments]]⟩):=by rw[hH5,hn,List.getElem?_append_right (by omega),Nat.add_sub_cancel_left];rfl
 rw[←hn]at g0 g1 g2 g3
 rw[←hH5,←hn]
 have v0:0<H5.length:=by omega
 have v3:3<H5.length:=by omega
 have vq:n<H5.length:=by omega
 have vb:n+1<H5.length:=by omega
 refine ao (fun i=>decide (i=3)||decide (i=n)) [2,4,5] hP (by kernel_rfl) (by kernel_rfl) ?_
 simp -dsimp -implicitDefEqProofs [-getElem?_pos,go_sem,hP,t10,t2,u3,v3,uq,vq,u0,v0]
 refine⟨fun j hj=>?_,?_⟩
 ·simp only[Bool.or_eq_true,decide_eq_true_eq]at hj
  rw[List.getElem?_set_ne (by omega)]
 simp -dsimp -implicitDefEqProofs [-getElem?_pos,go_sem,hP,t11]
 obtain⟨ws,hwsd⟩:∃ws,ws=G.2.1:=⟨_,rfl⟩
 rw[←hwsd]at hws hsd
 have lws10:ws.length≤10:=by rw[hwsd];exact hcl
 obtain⟨K,hK⟩:∃I:Nat→St→Prop,I=fun m s=>∃k:Nat,k≤ws.length∧m=ws.length-k∧s.t 2= .ref 0 0 0∧s.t 4= .ref 1 0 0∧s.t 5= .ref 2 0 0∧s.t 18= .ref (n+1) 0 0∧s.t 152=eU ws∧s.t 153=iv ws.length∧s.t 154=iv k∧s.H[0]?=some (some (lN ⟨G.1,q',d.Items.map (fa (ws.take k))⟩))∧s.H[1]?=some (some nu)∧s.H[2]?=some (some tj)∧s.H[n+1]?=some (some ⟨140,3,[[iv bt.Number,iv bt.Day,aC bt.Payments]]⟩):=⟨_,rfl⟩
 refine ay K (ws.length) (by rw[hN];rfl) ?_ ?_
 ·rw[hK]
  refine⟨0,by omega,by omega,by simp -dsimp[-getElem?_pos,go_sem,t2],by simp -dsimp[-getElem?_pos,go_sem,t4],by simp -dsimp[-getElem?_pos,go_sem,t5],by simp -dsimp[-getElem?_pos,go_sem,hn],by simp -dsimp[-getElem?_pos,go_sem,hwsd],by simp -dsimp[-getElem?_pos,go_sem,hwsd],by simp -dsimp[-getElem?_pos,go_sem],?_,?_,?_,?_⟩
  ·rw[List.take_zero,He]
   simp -dsimp -implicitDefEqProofs [-getElem?_pos,go_sem,v0]
  ·dsimp only;rw[List.getElem?_set_ne (by omega)];exact u1
  ·dsimp only;rw[List.getElem?_set_ne (by omega)];exact u2
  ·dsimp only;rw[List.getElem?_set_ne (by omega)];exact ub
 clear t1 t2 t4 t5 t10 t11 t12 h0 h1 h2 h3 u0 u1 u2 u3 uq ub
 intro m s hs'
 rw[hK]at hs'
 obtain⟨k,hk,hm,t2,t4,t5,t18,t152,t153,t154,h0,h1,h2,hb⟩:=hs'
 have g0:=(gsI h0)
 have g1:=(gsI h1)
 have g2:=(gsI h2)
 have gb:=(gsI hb)
 simp -dsimp -implicitDefEqProofs [-getElem?_pos,go_sem,hP,t153,t154]
 refine aB (fun hh=>?_) (fun hh=>?_)
 ·have hk:k<ws.length:=by simpa using hh
  obtain⟨w,hw⟩:∃w,ws[k]?=some w:=⟨_,List.getElem?_eq_getElem hk⟩
  have wk:=af ((k:Int)+1) (by omega)
  obtain⟨p,hp,hpw⟩:=hws.2 w (List.mem_of_getElem? hw)
  obtain⟨i,x,hx,hxp,hxs⟩:=Gn hd ((mn d.Queue day).subset hp)
  have hxw:x.Payment.Warrant=w:=by rw[hxp,hpw]
  have hnw:w∉ws.take k:=fun h=>by
   have h2:ws=ws.take k++ws.drop k:=(List.take_append_drop k ws).symm
   have h1:=hws.1
   rw[h2]at h1
   refine (List.nodup_append.1 h1).2.2 _ h w ?_ rfl
   rw[cU hw]
   simp
  obtain⟨hxL,hset⟩:=Gh hd.nd hx (ws:=ws.take k) (by rw[hxw];exact hnw)
  have hxa:0≤x.Attempts∧x.Attempts≤5:=(DS hd (List.mem_of_getElem? hx)).2.2.2.1
  have wa:=af (x.Attempts+1) (by omega)
  obtain⟨L,hL⟩:∃L,L=d.Items.map (fa (ws.take k)):=⟨_,rfl⟩
  have lL:L.length=d.Items.length:=by rw[hL,List.length_map]
  have hLw:L.map wrt=d.Items.map wrt:=by rw[hL,yY]
  rw[←hL]at h0 hxL hset
  rw[hxw,←bV hw]at hset
  have hpos:qK L w=i:=by rw[←hxw];exact uc (by rw[hLw];exact hd.nd) hxL
  have rt:=Ks ⟨G.1,q',L⟩ w (by simp only;omega)
  have wt:=ud ⟨G.1,q',L⟩ i ⟨x.Payment,2,x.Attempts+1⟩ (by simp only;omega) (by simp only;exact (gsI hxL))
  have iL:=dO ⟨G.1,q',L⟩
  have iL2:=dO ⟨G.1,q',L.set i ⟨x.Payment,2,x.Attempts+1⟩⟩
  have ix2:=eS ⟨x.Payment,2,x.Attempts+1⟩
  rw[hset]at wt iL2
  simp only[hpos]at rt
  simp only[cDn,cIt]at rt wt iL iL2 ix2
  simp -dsimp -implicitDefEqProofs [-getElem?_pos,go_sem,hP,t152,t154,hw,aS,t2,h0,g0]
  refine ae (rt.lift _ _) hP IW (by simpa[ar]using iL) .sc ?_
  simp -dsimp -implicitDefEqProofs [-getElem?_pos,go_sem,hP,t2,h0,g0,hxL,cIt,wa]
  refine ae (wt.lift _ _) hP zg (by simpa[ar]using⟨iL,ix2⟩) iL2 ?_
  have g0':∀y:Option AObj,(s.H++[y])[0]?=s.H[0]?:=fun y=>List.getElem?_append_left g0
  simp -dsimp -implicitDefEqProofs [-getElem?_pos,go_sem,hP,t2,g0',h0,g0,t154,wk]
  refine⟨ws.length-(k+1),by omega,?_⟩
  rw[hK]
  refine⟨k+1,by omega,rfl,by simp -dsimp[-getElem?_pos,go_sem,t2],by simp -dsimp[-getElem?_pos,go_sem,t4],by simp -dsimp[-getElem?_pos,go_sem,t5],by simp -dsimp[-getElem?_pos,go_sem,t18],by simp -dsimp[-getElem?_pos,go_sem,t152],by simp -dsimp[-getElem?_pos,go_sem,t153],by simp -dsimp[-getElem?_pos,go_sem],?_,?_,?_,?_⟩
  ·simp -dsimp -implicitDefEqProofs [-getElem?_pos,go_sem,g0]
  ·simp -dsimp -implicitDefEqProofs [-getElem?_pos,go_sem,g1,h1]
  ·simp -dsimp -implicitDefEqProofs [-getElem?_pos,go_sem,g2,h2]
  ·have nb:¬0=n+1:=by omega
   simp -dsimp -implicitDefEqProofs [-getElem?_pos,go_sem,gb,hb,nb]
 ·have hk:k=ws.length:=by simp at hh;omega
  subst hk
  rw[List.take_length]at h0
  simp -dsimp -implicitDefEqProofs [-getElem?_pos,go_sem,hP]
  have n12:¬1=2:=by omega
  refine ao (fun i=>decide (i=0)||decide (i=n+1)) [] hP (by kernel_rfl) (by kernel_rfl) ?_
  simp -dsimp -implicitDefEqProofs [-getElem?_pos,go_sem,hP,t2,t4,t5,t18,h0,g0,h1,g1,h2,g2,hb,gb,n12]
  refine⟨fun j hj=>?_,fun j hj=>?_,?_⟩
  ·simp only[Bool.or_eq_true,decide_eq_true_eq]at hj
   rw[List.getElem?_set_ne (by omega)]
  ·simp only[Bool.or_eq_true,decide_eq_true_eq]at hj
   rw[List.getElem?_set_ne (by omega)]
  have iD:=dO ⟨G.1,q',d.Items.map (fa ws)⟩
  refine nV (cs':=TDesk.cells ⟨G.1,q',d.Items.map (fa ws)⟩) (ds':=TBatch.cells bt) (uo (az.1 iD)) (uo (az.1 ibb)) ?_
  rw[hR,hsd]
open Go.PA
open Go.RowKit
abbrev zO:AObj:=⟨50,15,[[iv 0,.nil,.nil,.nil,.nil,.nil,.nil,.nil,.nil,.nil,.nil,.nil,.nil,.nil,.nil]]⟩
set_option maxHeartbeats 2000000 in
theorem Gr (s:TState) (hf:FitD s.Desk) (day f t n:Int):PFun Tryz.prog none none 149 [.agg s.cells,iv day,iv f,iv t,iv n] (·= .tup [.agg (zS (fT s day f t n)).1.cells,iv (zS (fT s day f t n)).2]):=by
 have nx:=rJ s.Desk.Account day f t n 0 hf.e
 have po:=rT s.Desk.Account (bT s.Desk.Account day f t n 0) hf.s hf.e
 have im:=cV s.Desk.Account
 have ie:=eC (bT s.Desk.Account day f t n 0)
 obtain⟨ee,hee⟩:∃ee,ee=bT s.Desk.Account day f t n 0:=⟨_,rfl⟩
 rw[←hee]at nx po ie
 obtain⟨b,e,hb⟩:∃b e,bF s.Desk.Account ee=(b,e):=⟨_,_,rfl⟩
 rw[hb]at po
 have ib:=cV b
 have hS:fT s day f t n=if e=0 then (zZ s b,0)else (s,e):=by rw[fT,←hee,hb]
 have i2:=cM (zZ s b)
 have c2:(zZ s b).cells=[iv b.Credit,aL b.Subs,bu b.Entries,aC s.Desk.Queue.Waiting,.list 1 (aj aS s.Desk.Queue.Known),aX s.Desk.Queue.Batches,bI s.Desk.Items,dt s.Cash.Claims,aR s.Cash.Incomes,cu s.Cash.Matches,.list 1 (aj aS s.Cash.Loose),bb s.Register.Securities,aQ s.Register.Holdings,cB s.Register.Moves,ce s.Ledger.Postings]:=rfl
 rw[cA]at nx po im ib
 rw[cA]at po
 rw[cE]at nx po ie
 rw[hS]
 refine ab Tryz.func149 rfl (by simp[Tryz.f149]) (by kernel_rfl) ?_
 intro E hP hr hs hW hN
 simp -dsimp -implicitDefEqProofs [-getElem?_pos,go_sem,hP,fV]
 refine sa (fun i=>decide (i<2)) [16] [10,11] hP (by kernel_rfl) (by kernel_rfl) ?_
 simp -dsimp -implicitDefEqProofs [-getElem?_pos,go_sem,hP,ax]
 refine hY (nx.lift _ _) hP Dx (by simp[im,ar]) ⟨_,rfl,ie⟩ ?_
 rintro r rfl _
 simp -dsimp -implicitDefEqProofs [-getElem?_pos,go_sem,hP,ax]
 refine hY (po.lift _ _) hP EK (by simp[im,ie]) ⟨_,rfl,ak ib .sc⟩ ?_
 rintro r rfl _
 simp -dsimp -implicitDefEqProofs [-getElem?_pos,go_sem,hP,ax]
 refine⟨iA,?_⟩
 by_cases he:e=0
 ·subst he
  rw[if_pos rfl,Qj]
  simp -dsimp -implicitDefEqProofs [-getElem?_pos,go_sem,hP]
  rw[c2]at i2⊢
  exact aw (ak i2 .sc) rfl
 ·have d1:decide (e=0)=false:=decide_eq_false he
  rw[if_neg he,zW he]
  simp -dsimp -implicitDefEqProofs [-getElem?_pos,go_sem,hP,d1]
  exact aP (cs':=dw.cells) dg rfl
structure FitM (j:Nat) (s:TState):Prop where
 f:FitS j s
 s0:s.Register.Securities=jR
 mv:∀m,m∈s.Register.Moves→pn m
theorem oU (d:TDesk):d.cells=[iv d.Account.Credit,aL d.Account.Subs,bu d.Account.Entries,aC d.Queue.Waiting,.list 1 (aj aS d.Queue.Known),aX d.Queue.Batches,bI d.Items]:=rfl
theorem r7 {cs:List AV} {l:AV} {v:Value} (h1:Imm (.agg cs)) (h2:Imm l):Imm (.tup [.agg cs,l,.sc v]):=Ae.2 fun a ha=>by
 simp only[List.mem_cons,List.not_mem_nil,or_false]at ha
 rcases ha with rfl|rfl|rfl
 ·exact h1
 ·exact h2
 ·exact .sc
theorem Hx {cs ds:List AV} {v:Value} (h1:Imm (.agg cs)) (h2:Imm (.agg ds)):Imm (.tup [.agg cs,.agg ds,.sc v]):=r7 h1 h2
set_option maxHeartbeats 16000000 in
theorem GZ {j:Nat} {s:TState} (d:TDeed) (h:FitM j s) (hj:j<399):PFun Tryz.prog none none 93 [.agg s.cells,.agg d.cells] (·= .tup [.agg (zS (doK s d)).1.cells,iv (zS (doK s d)).2]):=by
 have hf:=h.f
 have hd:=hf.d
 have hm:=hf.rm
 have id0:Imm (.agg s.Desk.cells):=az.2 s.Desk.imm
 have ic0:Imm (.agg s.Cash.cells):=az.2 s.Cash.imm
 have ir0:=gJ s.Register
 have is0:=cM s
 obtain⟨R,hR⟩:∃R,R=doK s d:=⟨_,rfl⟩
 obtain⟨Q,hQ⟩:∃Q:AV→Prop,Q=(·= .tup [.agg (zS R).1.cells,iv (zS R).2]):=⟨_,rfl⟩
 rw[←hR,←hQ]
 have qo:∀x,R=(x,0)→Q (.tup [.agg x.cells,iv 0]):=fun x e=>by rw[hQ,e];rfl
 have qe:∀x e,R=(x,e)→e≠0→Q (.tup [.agg dw.cells,iv e]):=fun x e h1 h2=>by rw[hQ,h1,zW h2]
 have qs:Q (.tup [.agg (zS R).1.cells,iv (zS R).2]):=by rw[hQ]
 clear hQ
 have en:∀(x:TState) (day f t n:Int),FitD x.Desk→PFun Tryz.prog none none 149 [.agg x.cells,iv day,iv f,iv t,iv n] (·= .tup [.agg (zS (fT x day f t n)).1.cells,iv (zS (fT x day f t n)).2]):=fun x day f t n hx=>Gr x hx day f t n
 have cst:∀(D:TDesk) (C:TCash) (G:TRegister),(⟨D,C,G,s.Ledger⟩:TState).cells=[iv D.Account.Credit,aL D.Account.Subs,bu D.Account.Entries,aC D.Queue.Waiting,.list 1 (aj aS D.Queue.Known),aX D.Queue.Batches,bI D.Items,dt C.Claims,aR C.Incomes,cu C.Matches,.list 1 (aj aS C.Loose),bb G.Securities,aQ G.Holdings,cB G.Moves,ce s.Ledger.Postings]:=fun D C G=>rfl
 have cst0:=fV s
 refine ab Tryz.func93 rfl (by simp[Tryz.f93]) (by kernel_rfl) ?_
 intro E hP hr hs hW hN
 have road:d.Kind=1∨d.Kind=2∨d.Kind=3∨d.Kind=4∨d.Kind=5∨d.Kind=6∨d.Kind=7∨d.Kind=8∨d.Kind=9∨(d.Kind≠1∧d.Kind≠2∧d.Kind≠3∧d.Kind≠4∧d.Kind≠5∧d.Kind≠6∧d.Kind≠7∧d.Kind≠8∧d.Kind≠9):=by omega
 rcases road with hk|hk|hk|hk|hk|hk|hk|hk|hk|hk
 ·have k1:decide (d.Kind=1)=true:=by rw[hk];rfl
  have hR2:R=fZ s d:=by rw[hR,doK,if_pos hk]
  clear hR
  rw[fZ]at hR2
  by_cases a1:d.Sub=1
  ·have b1:decide (d.Sub=1)=true:=decide_eq_true a1
   rw[if_pos a1]at hR2
   simp -dsimp -implicitDefEqProofs [-getElem?_pos,go_sem,hP,cst0,dJ,k1,b1]
   exact aP (cs':=dw.cells) dg (qe s 60 hR2 (by omega))
  have b1:decide (d.Sub=1)=false:=decide_eq_false a1
  rw[if_neg a1]at hR2
  have tk:=GT s.Cash.Incomes (At s d) hf.cl
  rw[←hf.c]at tk
  have ici:=az.2 (At s d).imm
  obtain⟨c',e,hT⟩:∃c' e,s6 s.Cash.Incomes (At s d)=(c',e):=⟨_,_,rfl⟩
  have hS:R=if e=0 then fT ⟨s.Desk,c',s.Register,s.Ledger⟩ d.Day 0 d.Sub d.Amount else (s,e):=by
   rw[hR2]
   rw[s6]at hT
   split at hT<;>rename_i ht<;>cases hT
   ·rw[if_pos ht,if_pos rfl]
   ·rw[if_neg ht,if_neg ht]
  clear hR2
  rw[hT]at tk
  have icr:=Ah c'
  have im:Imm (.list 3 []):=i9 []
  have hin:(At s d).cells=[iv (yG s.Cash),iv d.Day,iv d.Who,iv d.Amount,iv d.Ref]:=rfl
  have en1:=en ⟨s.Desk,c',s.Register,s.Ledger⟩ d.Day 0 d.Sub d.Amount hd
  have ien:=cM ⟨s.Desk,c',s.Register,s.Ledger⟩
  obtain⟨M,hM⟩:∃M,M=zS (fT ⟨s.Desk,c',s.Register,s.Ledger⟩ d.Day 0 d.Sub d.Amount):=⟨_,rfl⟩
  rw[←hM]at en1
  have iM:=cM M.1
  rw[cst]at en1 ien
  rw[fV M.1]at en1 iM
  rw[hin]at tk ici
  rw[Gx]at tk ic0 icr
  rw[Gx]at tk
  have fin1:e=0→Q (.tup [.agg M.1.cells,iv M.2]):=fun he=>by
   rw[if_pos he]at hS
   rw[hM,←hS]
   exact qs
  rw[fV M.1]at fin1
  rcases hlast:s.Cash.Incomes.getLast? with _|x
  ·have e0:s.Cash.Incomes=[]:=List.getLast?_eq_none_iff.1 hlast
   have n1:yG s.Cash=1:=by rw[yG,hlast]
   have l0:(s.Cash.Incomes.length:Int)=0:=by rw[e0];rfl
   have l1:s.Cash.Incomes.length=0:=by rw[e0];rfl
   rw[n1]at tk ici
   simp -dsimp -implicitDefEqProofs [-getElem?_pos,go_sem,hP,cst0,dJ,k1,b1,al,l0,l1]
   refine ae (tk.lift _ _) hP LC (by simp[ic0,ici]) (r7 icr im) ?_
   by_cases he:e=0
   ·have fin:=fin1 he
    subst he
    simp -dsimp -implicitDefEqProofs [-getElem?_pos,go_sem,hP]
    refine ae (en1.lift _ _) hP v6 (by simp[ien,ar]) (ak iM .sc) ?_
    simp -dsimp -implicitDefEqProofs [-getElem?_pos,go_sem,hP]
    exact aw (ak iM .sc) fin
   ·have de:decide (e=0)=false:=decide_eq_false he
    rw[if_neg he]at hS
    simp -dsimp -implicitDefEqProofs [-getElem?_pos,go_sem,hP,de]
    exact aP (cs':=dw.cells) dg (qe s e hS he)
  ·have n1:yG s.Cash=IntKind.i64.wrap (x.Number+1):=by rw[yG,hlast]
   obtain⟨k,e0,ex⟩:∃k,s.Cash.Incomes.length=k+1∧s.Cash.Incomes[k]?=some x:=by
    rw[List.getLast?_eq_getElem?]at hlast
    refine⟨s.Cash.Incomes.length-1,?_,hlast⟩
    have:=(gsI hlast)
    omega
   have d0:decide ((0:Int)<(s.Cash.Incomes.length:Int))=true:=decide_eq_true (by omega)
   have d0':0<s.Cash.Incomes.length:=by omega
   have hil:=hf.cl.2
   have wj:IntKind.i64.wrap ((s.Cash.Incomes.length:Int)-1)=(k:Int):=by rw[af _ (by omega)];omega
   rw[n1]at tk ici
   simp -dsimp -implicitDefEqProofs [-getElem?_pos,go_sem,hP,cst0,dJ,k1,b1,al,d0,d0',wj,ex,Fu]
   refine ae (tk.lift _ _) hP LC (by simp[ic0,ici]) (r7 icr im) ?_
   by_cases he:e=0
   ·have fin:=fin1 he
    subst he
    simp -dsimp -implicitDefEqProofs [-getElem?_pos,go_sem,hP]
    refine ae (en1.lift _ _) hP v6 (by simp[ien,ar]) (ak iM .sc) ?_
    simp -dsimp -implicitDefEqProofs [-getElem?_pos,go_sem,hP]
    exact aw (ak iM .sc) fin
   ·have de:decide (e=0)=false:=decide_eq_false he
    rw[if_neg he]at hS
    simp -dsimp -implicitDefEqProofs [-getElem?_pos,go_sem,hP,de]
    exact aP (cs':=dw.cells) dg (qe s e hS he)
 ·have k1:decide (d.Kind=1)=false:=by rw[hk];rfl
  have k2:decide (d.Kind=2)=true:=by rw[hk];rfl
  have hR2:R=fC s (dq s.Desk (tP d)).1 (dq s.Desk (tP d)).2:=by
   rw[hR,doK]
   rw[if_neg (by omega)]
   rw[if_pos hk]
  have cd:=Ee s.Desk (tP d) hd
  obtain⟨D,e,hD⟩:∃D e,dq s.Desk (tP d)=(D,e):=⟨_,_,rfl⟩
  rw[hD]at cd hR2
  simp only[fC]at hR2
  have iD:Imm (.agg D.cells):=az.2 D.imm
  have i2:=cM (dZ s D)
  rw[oU]at cd id0 iD
  rw[oU]at cd
  have ip:=az.2 (tP d).imm
  have hp:(tP d).cells=[iv d.Ref,iv d.Who,iv d.Amount,iv d.Due,iv d.Sub]:=rfl
  rw[hp]at cd ip
  rw[dZ,cst]at i2
  simp -dsimp -implicitDefEqProofs [-getElem?_pos,go_sem,hP,cst0,dJ,k1,k2]
  refine ae (cd.lift _ _) hP OX (by simp[id0,ar,ip]) (ak iD .sc) ?_
  by_cases he:e=0
  ·subst he
   rw[if_pos rfl]at hR2
   have fin:=qo _ hR2
   rw[dZ,cst]at fin
   simp -dsimp -implicitDefEqProofs [-getElem?_pos,go_sem,hP]
   exact aw (ak i2 .sc) fin
  ·have de:decide (e=0)=false:=decide_eq_false he
   rw[if_neg he]at hR2
   simp -dsimp -implicitDefEqProofs [-getElem?_pos,go_sem,hP,de]
   exact aP (cs':=dw.cells) dg (qe s e hR2 he)
 ·have k1:decide (d.Kind=1)=false:=by rw[hk];rfl
  have k2:decide (d.Kind=2)=false:=by rw[hk];rfl
  have k3:decide (d.Kind=3)=true:=by rw[hk];rfl
  have hR2:R=fC s (dD s.Desk d.Day).1 (dD s.Desk d.Day).2.2:=by
   rw[hR,doK]
   rw[if_neg (by omega)]
   rw[if_neg (by omega)]
   rw[if_pos hk]
  have cd:=Hz s.Desk d.Day hd
  obtain⟨D,Z,e,hD⟩:∃D Z e,dD s.Desk d.Day=(D,Z,e):=⟨_,_,_,rfl⟩
  rw[hD]at cd hR2
  simp only[fC]at hR2
  have iD:Imm (.agg D.cells):=az.2 D.imm
  have i2:=cM (dZ s D)
  rw[oU]at cd id0 iD
  rw[oU]at cd
  have iZ:=az.2 Z.imm
  rw[dZ,cst]at i2
  simp -dsimp -implicitDefEqProofs [-getElem?_pos,go_sem,hP,cst0,dJ,k1,k2,k3]
  refine ae (cd.lift _ _) hP N3 (by simp[id0,ar]) (Hx iD iZ) ?_
  by_cases he:e=0
  ·subst he
   rw[if_pos rfl]at hR2
   have fin:=qo _ hR2
   rw[dZ,cst]at fin
   simp -dsimp -implicitDefEqProofs [-getElem?_pos,go_sem,hP]
   exact aw (ak i2 .sc) fin
  ·have de:decide (e=0)=false:=decide_eq_false he
   rw[if_neg he]at hR2
   simp -dsimp -implicitDefEqProofs [-getElem?_pos,go_sem,hP,de]
   exact aP (cs':=dw.cells) dg (qe s e hR2 he)
 ·have k1:decide (d.Kind=1)=false:=by rw[hk];rfl
  have k2:decide (d.Kind=2)=false:=by rw[hk];rfl
  have k3:decide (d.Kind=3)=false:=by rw[hk];rfl
  have k4:decide (d.Kind=4)=true:=by rw[hk];rfl
  have hR2:R=fC s (ez s.Desk d.Ref).1 (ez s.Desk d.Ref).2:=by
   rw[hR,doK]
   rw[if_neg (by omega)]
   rw[if_neg (by omega)]
   rw[if_neg (by omega)]
   rw[if_pos hk]
  have cd:=CI s.Desk d.Ref hd
  obtain⟨D,e,hD⟩:∃D e,ez s.Desk d.Ref=(D,e):=⟨_,_,rfl⟩
  rw[hD]at cd hR2
  simp only[fC]at hR2
  have iD:Imm (.agg D.cells):=az.2 D.imm
  have i2:=cM (dZ s D)
  rw[oU]at cd id0 iD
  rw[oU]at cd
  rw[dZ,cst]at i2
  simp -dsimp -implicitDefEqProofs [-getElem?_pos,go_sem,hP,cst0,dJ,k1,k2,k3,k4]
  refine ae (cd.lift _ _) hP NJ (by simp[id0,ar]) (ak iD .sc) ?_
  by_cases he:e=0
  ·subst he
   rw[if_pos rfl]at hR2
   have fin:=qo _ hR2
   rw[dZ,cst]at fin
   simp -dsimp -implicitDefEqProofs [-getElem?_pos,go_sem,hP]
   exact aw (ak i2 .sc) fin
  ·have de:decide (e=0)=false:=decide_eq_false he
   rw[if_neg he]at hR2
   simp -dsimp -implicitDefEqProofs [-getElem?_pos,go_sem,hP,de]
   exact aP (cs':=dw.cells) dg (qe s e hR2 he)
 ·have k1:decide (d.Kind=1)=false:=by rw[hk];rfl
  have k2:decide (d.Kind=2)=false:=by rw[hk];rfl
  have k3:decide (d.Kind=3)=false:=by rw[hk];rfl
  have k4:decide (d.Kind=4)=false:=by rw[hk];rfl
  have k5:decide (d.Kind=5)=true:=by rw[hk];rfl
  have hR2:R=fC s (eu s.Desk d.Ref d.Day).1 (eu s.Desk d.Ref d.Day).2:=by
   rw[hR,doK]
   rw[if_neg (by omega)]
   rw[if_neg (by omega)]
   rw[if_neg (by omega)]
   rw[if_neg (by omega)]
   rw[if_pos hk]
  have cd:=AR s.Desk d.Ref d.Day hd
  obtain⟨D,e,hD⟩:∃D e,eu s.Desk d.Ref d.Day=(D,e):=⟨_,_,rfl⟩
  rw[hD]at cd hR2
  simp only[fC]at hR2
  have iD:Imm (.agg D.cells):=az.2 D.imm
  have i2:=cM (dZ s D)
  rw[oU]at cd id0 iD
  rw[oU]at cd
  rw[dZ,cst]at i2
  simp -dsimp -implicitDefEqProofs [-getElem?_pos,go_sem,hP,cst0,dJ,k1,k2,k3,k4,k5]
  refine ae (cd.lift _ _) hP OS (by simp[id0,ar]) (ak iD .sc) ?_
  by_cases he:e=0
  ·subst he
   rw[if_pos rfl]at hR2
   have fin:=qo _ hR2
   rw[dZ,cst]at fin
   simp -dsimp -implicitDefEqProofs [-getElem?_pos,go_sem,hP]
   exact aw (ak i2 .sc) fin
  ·have de:decide (e=0)=false:=decide_eq_false he
   rw[if_neg he]at hR2
   simp -dsimp -implicitDefEqProofs [-getElem?_pos,go_sem,hP,de]
   exact aP (cs':=dw.cells) dg (qe s e hR2 he)
 ·have k1:decide (d.Kind=1)=false:=by rw[hk];rfl
  have k2:decide (d.Kind=2)=false:=by rw[hk];rfl
  have k3:decide (d.Kind=3)=false:=by rw[hk];rfl
  have k4:decide (d.Kind=4)=false:=by rw[hk];rfl
  have k5:decide (d.Kind=5)=false:=by rw[hk];rfl
  have k6:decide (d.Kind=6)=true:=by rw[hk];rfl
  have hR2:R=fC s (eD s.Desk d.Ref).1 (eD s.Desk d.Ref).2:=by
   rw[hR,doK]
   rw[if_neg (by omega)]
   rw[if_neg (by omega)]
   rw[if_neg (by omega)]
   rw[if_neg (by omega)]
   rw[if_neg (by omega)]
   rw[if_pos hk]
  have cd:=Cg s.Desk d.Ref hd
  obtain⟨D,e,hD⟩:∃D e,eD s.Desk d.Ref=(D,e):=⟨_,_,rfl⟩
  rw[hD]at cd hR2
  simp only[fC]at hR2
  have iD:Imm (.agg D.cells):=az.2 D.imm
  have i2:=cM (dZ s D)
  rw[oU]at cd id0 iD
  rw[oU]at cd
  rw[dZ,cst]at i2
  simp -dsimp -implicitDefEqProofs [-getElem?_pos,go_sem,hP,cst0,dJ,k1,k2,k3,k4,k5,k6]
  refine ae (cd.lift _ _) hP NB (by simp[id0,ar]) (ak iD .sc) ?_
  by_cases he:e=0
  ·subst he
   rw[if_pos rfl]at hR2
   have fin:=qo _ hR2
   rw[dZ,cst]at fin
   simp -dsimp -implicitDefEqProofs [-getElem?_pos,go_sem,hP]
   exact aw (ak i2 .sc) fin
  ·have de:decide (e=0)=false:=decide_eq_false he
   rw[if_neg he]at hR2
   simp -dsimp -implicitDefEqProofs [-getElem?_pos,go_sem,hP,de]
   exact aP (cs':=dw.cells) dg (qe s e hR2 he)
 ·have k1:decide (d.Kind=1)=false:=by rw[hk];rfl
  have k2:decide (d.Kind=2)=false:=by rw[hk];rfl
  have k3:decide (d.Kind=3)=false:=by rw[hk];rfl
  have k4:decide (d.Kind=4)=false:=by rw[hk];rfl
  have k5:decide (d.Kind=5)=false:=by rw[hk];rfl
  have k6:decide (d.Kind=6)=false:=by rw[hk];rfl
  have k7:decide (d.Kind=7)=true:=by rw[hk];rfl
  have hR2:R=jQ s (Jf s d) (tF s.Register (Jf s d)) 0 1 d.Amount:=by
   rw[hR,doK]
   rw[if_neg (by omega)]
   rw[if_neg (by omega)]
   rw[if_neg (by omega)]
   rw[if_neg (by omega)]
   rw[if_neg (by omega)]
   rw[if_neg (by omega)]
   rw[if_pos hk]
  have cd:=HR s.Register d.Day d.Ref d.Who d.Amount hf.r h.s0 h.mv (by omega)
  obtain⟨m,hmv⟩:∃m,m=Jf s d:=⟨_,rfl⟩
  have hmd:m.Day=d.Day:=by rw[hmv];rfl
  have hmv2:fd s.Register d.Day 1 d.Ref 0 d.Who d.Amount=m:=hmv.symm
  rw[hmv2]at cd
  rw[←hmv]at hR2
  clear hmv hmv2
  unfold ve at cd
  unfold jQ at hR2
  obtain⟨e,hee⟩:∃e,e=tF s.Register m:=⟨_,rfl⟩
  rw[←hee]at cd hR2
  obtain⟨G,hG⟩:∃G,G=(if e=0 then jq s.Register m else Fg):=⟨_,rfl⟩
  rw[←hG]at cd
  have iG:=gJ G
  have en1:=en ⟨s.Desk,s.Cash,G,s.Ledger⟩ d.Day 0 1 d.Amount hd
  have ien:=cM ⟨s.Desk,s.Cash,G,s.Ledger⟩
  obtain⟨M,hM⟩:∃M,M=zS (fT ⟨s.Desk,s.Cash,G,s.Ledger⟩ d.Day 0 1 d.Amount):=⟨_,rfl⟩
  rw[←hM]at en1
  have iM:=cM M.1
  rw[cst]at en1 ien
  rw[fV M.1]at en1 iM
  rw[dQ]at cd ir0 iG
  rw[dQ]at cd
  have fin1:e=0→Q (.tup [.agg M.1.cells,iv M.2]):=fun he=>by
   rw[if_pos he,hmd]at hR2
   rw[if_pos he]at hG
   rw[hM,hG,←hR2]
   exact qs
  rw[fV M.1]at fin1
  simp -dsimp -implicitDefEqProofs [-getElem?_pos,go_sem,hP,cst0,dJ,k1,k2,k3,k4,k5,k6,k7]
  refine ae (cd.lift _ _) hP Pm (by simp[ir0,ar]) (ak iG .sc) ?_
  by_cases he:e=0
  ·have fin:=fin1 he
   clear hG hee
   subst he
   simp -dsimp -implicitDefEqProofs [-getElem?_pos,go_sem,hP]
   refine ae (en1.lift _ _) hP v6 (by simp[ien,ar]) (ak iM .sc) ?_
   simp -dsimp -implicitDefEqProofs [-getElem?_pos,go_sem,hP]
   exact aw (ak iM .sc) fin
  ·have de:decide (e=0)=false:=decide_eq_false he
   rw[if_neg he]at hR2
   simp -dsimp -implicitDefEqProofs [-getElem?_pos,go_sem,hP,de]
   exact aP (cs':=dw.cells) dg (qe s e hR2 he)
 ·have k1:decide (d.Kind=1)=false:=by rw[hk];rfl
  have k2:decide (d.Kind=2)=false:=by rw[hk];rfl
  have k3:decide (d.Kind=3)=false:=by rw[hk];rfl
  have k4:decide (d.Kind=4)=false:=by rw[hk];rfl
  have k5:decide (d.Kind=5)=false:=by rw[hk];rfl
  have k6:decide (d.Kind=6)=false:=by rw[hk];rfl
  have k7:decide (d.Kind=7)=false:=by rw[hk];rfl
  have k8:decide (d.Kind=8)=true:=by rw[hk];rfl
  have hR2:R=jQ s (Ll s d) (tF s.Register (Ll s d)) 1 0 d.Amount:=by
   rw[hR,doK]
   rw[if_neg (by omega)]
   rw[if_neg (by omega)]
   rw[if_neg (by omega)]
   rw[if_neg (by omega)]
   rw[if_neg (by omega)]
   rw[if_neg (by omega)]
   rw[if_neg (by omega)]
   rw[if_pos hk]
  have cd:=DT s.Register d.Day d.Ref d.Who d.Amount hf.r h.s0 h.mv (by omega)
  obtain⟨m,hmv⟩:∃m,m=Ll s d:=⟨_,rfl⟩
  have hmd:m.Day=d.Day:=by rw[hmv];rfl
  have hmv2:fd s.Register d.Day 3 d.Ref d.Who 0 d.Amount=m:=hmv.symm
  rw[hmv2]at cd
  rw[←hmv]at hR2
  clear hmv hmv2
  unfold ve at cd
  unfold jQ at hR2
  obtain⟨e,hee⟩:∃e,e=tF s.Register m:=⟨_,rfl⟩
  rw[←hee]at cd hR2
  obtain⟨G,hG⟩:∃G,G=(if e=0 then jq s.Register m else Fg):=⟨_,rfl⟩
  rw[←hG]at cd
  have iG:=gJ G
  have en1:=en ⟨s.Desk,s.Cash,G,s.Ledger⟩ d.Day 1 0 d.Amount hd
  have ien:=cM ⟨s.Desk,s.Cash,G,s.Ledger⟩
  obtain⟨M,hM⟩:∃M,M=zS (fT ⟨s.Desk,s.Cash,G,s.Ledger⟩ d.Day 1 0 d.Amount):=⟨_,rfl⟩
  rw[←hM]at en1
  have iM:=cM M.1
  rw[cst]at en1 ien
  rw[fV M.1]at en1 iM
  rw[dQ]at cd ir0 iG
  rw[dQ]at cd
  have fin1:e=0→Q (.tup [.agg M.1.cells,iv M.2]):=fun he=>by
   rw[if_pos he,hmd]at hR2
   rw[if_pos he]at hG
   rw[hM,hG,←hR2]
   exact qs
  rw[fV M.1]at fin1
  simp -dsimp -implicitDefEqProofs [-getElem?_pos,go_sem,hP,cst0,dJ,k1,k2,k3,k4,k5,k6,k7,k8]
  refine ae (cd.lift _ _) hP OR (by simp[ir0,ar]) (ak iG .sc) ?_
  by_cases he:e=0
  ·have fin:=fin1 he
   clear hG hee
   subst he
   simp -dsimp -implicitDefEqProofs [-getElem?_pos,go_sem,hP]
   refine ae (en1.lift _ _) hP v6 (by simp[ien,ar]) (ak iM .sc) ?_
   simp -dsimp -implicitDefEqProofs [-getElem?_pos,go_sem,hP]
   exact aw (ak iM .sc) fin
  ·have de:decide (e=0)=false:=decide_eq_false he
   rw[if_neg he]at hR2
   simp -dsimp -implicitDefEqProofs [-getElem?_pos,go_sem,hP,de]
   exact aP (cs':=dw.cells) dg (qe s e hR2 he)
 ·have k1:decide (d.Kind=1)=false:=by rw[hk];rfl
  have k2:decide (d.Kind=2)=false:=by rw[hk];rfl
  have k3:decide (d.Kind=3)=false:=by rw[hk];rfl
  have k4:decide (d.Kind=4)=false:=by rw[hk];rfl
  have k5:decide (d.Kind=5)=false:=by rw[hk];rfl
  have k6:decide (d.Kind=6)=false:=by rw[hk];rfl
  have k7:decide (d.Kind=7)=false:=by rw[hk];rfl
  have k8:decide (d.Kind=8)=false:=by rw[hk];rfl
  have k9:decide (d.Kind=9)=true:=by rw[hk];rfl
  have hR2:R=if d.Sub=0∨d.Who=0 then (s,60)else fT s d.Day d.Sub d.Who d.Amount:=by
   rw[hR,doK]
   rw[if_neg (by omega)]
   rw[if_neg (by omega)]
   rw[if_neg (by omega)]
   rw[if_neg (by omega)]
   rw[if_neg (by omega)]
   rw[if_neg (by omega)]
   rw[if_neg (by omega)]
   rw[if_neg (by omega)]
   rw[if_pos hk]
  by_cases a1:d.Sub=0
  ·have b1:decide (d.Sub=0)=true:=decide_eq_true a1
   rw[if_pos (.inl a1)]at hR2
   simp -dsimp -implicitDefEqProofs [-getElem?_pos,go_sem,hP,cst0,dJ,k1,k2,k3,k4,k5,k6,k7,k8,k9,b1]
   exact aP (cs':=dw.cells) dg (qe s 60 hR2 (by omega))
  have b1:decide (d.Sub=0)=false:=decide_eq_false a1
  by_cases a2:d.Who=0
  ·have b2:decide (d.Who=0)=true:=decide_eq_true a2
   rw[if_pos (.inr a2)]at hR2
   simp -dsimp -implicitDefEqProofs [-getElem?_pos,go_sem,hP,cst0,dJ,k1,k2,k3,k4,k5,k6,k7,k8,k9,b1,b2]
   exact aP (cs':=dw.cells) dg (qe s 60 hR2 (by omega))
  have b2:decide (d.Who=0)=false:=decide_eq_false a2
  rw[if_neg (by omega)]at hR2
  have en1:=en s d.Day d.Sub d.Who d.Amount hd
  rw[←hR2]at en1
  have iM:=cM (zS R).1
  rw[cst0]at en1 is0
  rw[fV (zS R).1]at en1 iM qs
  simp -dsimp -implicitDefEqProofs [-getElem?_pos,go_sem,hP,cst0,dJ,k1,k2,k3,k4,k5,k6,k7,k8,k9,b1,b2]
  refine ae (en1.lift _ _) hP v6 (by simp[is0,ar]) (ak iM .sc) ?_
  simp -dsimp -implicitDefEqProofs [-getElem?_pos,go_sem,hP]
  exact aw (ak iM .sc) qs
 ·obtain⟨n1,n2,n3,n4,n5,n6,n7,n8,n9⟩:=hk
  have k1:decide (d.Kind=1)=false:=decide_eq_false n1
  have k2:decide (d.Kind=2)=false:=decide_eq_false n2
  have k3:decide (d.Kind=3)=false:=decide_eq_false n3
  have k4:decide (d.Kind=4)=false:=decide_eq_false n4
  have k5:decide (d.Kind=5)=false:=decide_eq_false n5
  have k6:decide (d.Kind=6)=false:=decide_eq_false n6
  have k7:decide (d.Kind=7)=false:=decide_eq_false n7
  have k8:decide (d.Kind=8)=false:=decide_eq_false n8
  have k9:decide (d.Kind=9)=false:=decide_eq_false n9
  have hR2:R=(s,91):=by rw[hR,doK,if_neg n1,if_neg n2,if_neg n3,if_neg n4,if_neg n5,if_neg n6,if_neg n7,if_neg n8,if_neg n9]
  simp -dsimp -implicitDefEqProofs [-getElem?_pos,go_sem,hP,cst0,dJ,k1,k2,k3,k4,k5,k6,k7,k8,k9]
  exact aP (cs':=dw.cells) dg (qe s 91 hR2 (by omega))
set_option maxHeartbeats 4000000 in
theorem ON {j:Nat} {s:TState} (d:TDeed) (h:FitM j s) (hj:j<399):PFun Tryz.prog none none 43 [.agg s.cells,.agg d.cells] (·= .tup [.agg (doS s d).1.cells,iv (doS s d).2]):=by
 have hf:=h.f
 have cc:=GZ d h hj
 have ist:=cM s
 have ide:=az.2 d.imm
 have kp:=fun h=>KA (d:=d) hf (by omega) h
 obtain⟨R,hR⟩:∃R,R=doS s d:=⟨_,rfl⟩
 rw[←hR]
 obtain⟨t,e,hK⟩:∃t e,doK s d=(t,e):=⟨_,_,rfl⟩
 rw[hK]at cc kp
 have itt:=cM (zS (t,e)).1
 rw[fV (zS (t,e)).1]at cc itt
 rw[fV s]at cc ist⊢
 rw[dJ]at cc ide
 by_cases he:e=0
 rotate_left
 ·have hS:R=(dw,e):=by rw[hR,doS,hK,if_neg he]
  have de:decide (e=0)=false:=decide_eq_false he
  have z2:(zS (t,e)).2=e:=by rw[zW he]
  rw[z2]at cc
  refine ab Tryz.func43 rfl (by simp[Tryz.f43]) (by kernel_rfl) ?_
  intro E hP hr hs hW hN
  simp -dsimp -implicitDefEqProofs [-getElem?_pos,go_sem,hP,dJ,al]
  refine ae (cc.lift _ _) hP Nz (by simp[ist,ide]) (ak itt .sc) ?_
  simp -dsimp -implicitDefEqProofs [-getElem?_pos,go_sem,hP,de]
  rw[hS]
  exact aP (cs':=dw.cells) dg rfl
 subst he
 have kf:=kp rfl
 have z1:(zS (t,0))=(t,0):=rfl
 rw[z1]at cc itt
 have bk:=DU t kf.f.d kf.f.l kf.e
 have hS:R=zS (oO t s.Desk.Account.Entries.length):=by rw[hR,doS,hK,if_pos rfl];rfl
 rw[←hS]at bk
 have iR:=cM R.1
 rw[fV t]at bk
 rw[fV R.1]at bk iR⊢
 refine ab Tryz.func43 rfl (by simp[Tryz.f43]) (by kernel_rfl) ?_
 intro E hP hr hs hW hN
 simp -dsimp -implicitDefEqProofs [-getElem?_pos,go_sem,hP,dJ,al]
 refine ae (cc.lift _ _) hP Nz (by simp[ist,ide]) (ak itt .sc) ?_
 simp -dsimp -implicitDefEqProofs [-getElem?_pos,go_sem,hP]
 refine ae (bk.lift _ _) hP P9 (by simp[itt,ar]) (ak iR .sc) ?_
 simp -dsimp -implicitDefEqProofs [-getElem?_pos,go_sem,hP]
 exact aw (ak iR .sc) rfl
theorem ro (s:TState) (day f t n:Int):(fT s day f t n).1.Register=s.Register:=by
 unfold fT
 split<;>rfl
theorem lz (s:TState) (d:TDesk) (e:Int):(fC s d e).1.Register=s.Register:=by
 unfold fC
 split<;>rfl
theorem yV {s:TState} {m:TMove} {e f t n:Int} (hm:pn m):(jQ s m e f t n).1.Register.Securities=s.Register.Securities∧((∀m,m∈s.Register.Moves→pn m)→∀x,x∈(jQ s m e f t n).1.Register.Moves→pn x):=by
 unfold jQ
 split
 ·rw[ro]
  refine⟨rfl,fun h x hx=>?_⟩
  rcases List.mem_append.1 hx with hx|hx
  ·exact h x hx
  ·simp at hx
   subst hx
   exact hm
 ·exact⟨rfl,fun h=>h⟩
theorem LW (s:TState) (d:TDeed):(doK s d).1.Register.Securities=s.Register.Securities∧((∀m,m∈s.Register.Moves→pn m)→∀x,x∈(doK s d).1.Register.Moves→pn x):=by
 have same:∀{t:TState},t.Register=s.Register→t.Register.Securities=s.Register.Securities∧((∀m,m∈s.Register.Moves→pn m)→∀x,x∈t.Register.Moves→pn x):=fun e=>by rw[e];exact⟨rfl,fun h=>h⟩
 unfold doK
 split
 ·unfold fZ
  split
  ·exact same rfl
  ·split
   ·exact same (ro _ _ _ _ _)
   ·exact same rfl
 split
 ·exact same (lz _ _ _)
 split
 ·exact same (lz _ _ _)
 split
 ·exact same (lz _ _ _)
 split
 ·exact same (lz _ _ _)
 split
 ·exact same (lz _ _ _)
 split
 ·exact yV (.inl ⟨rfl,rfl⟩)
 split
 ·exact yV (.inr ⟨rfl,rfl⟩)
 split
 ·split
  ·exact same rfl
  ·exact same (ro _ _ _ _ _)
 ·exact same rfl
theorem I8 {j:Nat} {s:TState} {d:TDeed} (h:FitM j s) (hj:j<400) (he:(doS s d).2=0):FitM (j+1) (doS s d).1:=by
 have f2:=L2 h.f hj he
 obtain⟨k1,k2⟩:=LW s d
 have er:(doS s d).1.Register=(doK s d).1.Register:=by
  unfold doS at he⊢
  split at he
  ·rename_i h1
   rw[if_pos h1]
   split at he
   ·rename_i h2
    rw[if_pos h2]
    rfl
   ·rename_i h2
    exact absurd he h2
  ·rename_i h1
   exact absurd he h1
 exact⟨f2,by rw[er,k1];exact h.s0,by rw[er];exact k2 h.mv⟩
end Go.Proofs.YtaenimpfelpafaaGreatDoor
set_option maxRecDepth 100000
namespace Go.Proofs.YtaenimpfelpafaaGreatDoor
open Go.PA
open Go.RowKit
def P1:=zH []
def QC:FuncId→Nat→DH:=rI [(92,12,⟨[14],[],[]⟩)]
theorem C3 (row src:Option Nat):PFun Tryz.prog row src 42 [aF [1,2,3,7],iv 0,bb jR] (·= .tup [.agg (dB 0).cells,iv 0]):=
 yj (lO (mV (l:=[]) fun x hx=>by cases hx) QC P1 10000 60 (by kernel_rfl) (by kernel_rfl) row src) (ak (cM _) .sc) (vF 0)
theorem C0 (row src:Option Nat):PFun Tryz.prog row src 42 [aF [1,2,3,7],iv 50,bb jR] (·= .tup [.agg (dB 50).cells,iv 0]):=
 yj (lO (mV (l:=[]) fun x hx=>by cases hx) QC P1 10000 60 (by kernel_rfl) (by kernel_rfl) row src) (ak (cM _) .sc) (vF 50)
theorem HS (row src:Option Nat) {c:Int} (h:c=0∨c=50):PFun Tryz.prog row src 42 [aF [1,2,3,7],iv c,bb jR] (·= .tup [.agg (dB c).cells,iv 0]):=by
 rcases h with rfl|rfl
 ·exact C3 row src
 ·exact C0 row src
open Go.PA
open Go.RowKit
theorem tE {c:Int} (h:c=0∨c=50):CleanS (dB c):=by
 rcases h with rfl|rfl
 ·exact⟨dK.1 (by kernel_rfl),by kernel_rfl,rfl,rfl,rfl⟩
 ·exact⟨dK.1 (by kernel_rfl),by kernel_rfl,rfl,rfl,rfl⟩
theorem DG (c:Int):FitM 0 (dB c):=⟨xW c,rfl,by simp[dB]⟩
def Nd (n:Nat) (x:AV):Prop:=∃s:TState,x= .agg s.cells∧FitM n s∧CleanS s
theorem Le (n:Nat):∃r,Nd n r∧Imm r:=⟨_,⟨dB 0,rfl,⟨(xW 0).mono (by omega),rfl,by simp[dB]⟩,tE (.inl rfl)⟩,cM _⟩
abbrev stO (s:TState):AObj:=⟨50,15,[[iv s.Desk.Account.Credit,aL s.Desk.Account.Subs,bu s.Desk.Account.Entries,aC s.Desk.Queue.Waiting,.list 1 (aj aS s.Desk.Queue.Known),aX s.Desk.Queue.Batches,bI s.Desk.Items,dt s.Cash.Claims,aR s.Cash.Incomes,cu s.Cash.Matches,.list 1 (aj aS s.Cash.Loose),bb s.Register.Securities,aQ s.Register.Holdings,cB s.Register.Moves,ce s.Ledger.Postings]]⟩
set_option maxHeartbeats 4000000 in
theorem LM (p:Nat) (src:Option Nat) (n:Nat) (hn:n≤100):PFun Tryz.prog (some p) src 16 [sp p,iv n] (Nd n):=by
 obtain⟨sl,hsl⟩:∃sl,sl=jR:=⟨_,rfl⟩
 have ss:=IF p src
 rw[←hsl]at ss
 have isl:=iV sl
 refine ab Tryz.func16 rfl (by simp[Tryz.f16]) (by kernel_rfl) ?_
 intro E hP hr hs hW hN
 have up:∀{f:FuncId} {args:List AV} {Q:AV→Prop},PFun Tryz.prog (some p) src f args Q→PFun Tryz.prog E.row E.src f args Q:=fun h=>hr▸hs▸h
 simp -dsimp -implicitDefEqProofs [-getElem?_pos,go_sem,hP]
 refine aO (up (AF p src [0,50] (by simp))) hP we (by simp -dsimp[-getElem?_pos,go_sem]) (nn (by simp)) ?_
 rintro r ⟨c,rfl,hc⟩ _
 have hc:c=0∨c=50:=by simpa using hc
 have st:=HS E.row E.src hc
 have f0:=DG c
 have c0:=tE hc
 obtain⟨x0,hx0⟩:∃x0,x0=dB c:=⟨_,rfl⟩
 rw[←hsl,←hx0]at st
 rw[←hx0]at f0 c0
 have i0:=cM x0
 rw[fV]at st i0
 simp -dsimp -implicitDefEqProofs [-getElem?_pos,go_sem,hP]
 refine ae (up ss) hP Py (by simp -dsimp[-getElem?_pos,go_sem]) isl ?_
 simp -dsimp -implicitDefEqProofs [-getElem?_pos,go_sem,hP]
 refine ae st hP Qu (by have:=fG [1,2,3,7];simpa[isl,aF,ar]using this) (ak i0 .sc) ?_
 simp -dsimp -implicitDefEqProofs [-getElem?_pos,go_sem,hP]
 refine aO (up (HM p src n hn)) hP QG (by simp -dsimp[-getElem?_pos,go_sem]) (HL _) ?_
 rintro r ⟨l,rfl,ll⟩ _
 have il:=rb l
 simp -dsimp -implicitDefEqProofs [-getElem?_pos,go_sem,hP,al]
 obtain⟨I,hI⟩:∃I:Nat→St→Prop,I=fun m s=>∃(k:Nat) (x:TState),k≤l.length∧m=l.length-k∧FitM k x∧CleanS x∧s.t 4= .ref 0 0 0∧s.t 5= .ref 1 0 0∧s.t 23=Aw l∧s.t 24=iv l.length∧s.t 25=iv k∧s.H[1]?=some (some (stO x))∧s.H[0]?=some (some zO):=⟨_,rfl⟩
 refine ay I (l.length) (by rw[hN];rfl) ?_ ?_
 ·rw[hI]
  exact⟨0,x0,by omega,by omega,f0,c0,by simp -dsimp[-getElem?_pos,go_sem],by simp -dsimp[-getElem?_pos,go_sem],by simp -dsimp[-getElem?_pos,go_sem],by simp -dsimp[-getElem?_pos,go_sem],by simp -dsimp[-getElem?_pos,go_sem],by simp -dsimp[-getElem?_pos,go_sem],by simp -dsimp[-getElem?_pos,go_sem]⟩
 intro m s hs'
 rw[hI]at hs'
 obtain⟨k,x,hk,hm,hf,hcl,t4,t5,t23,t24,t25,g1,g0⟩:=hs'
 have l1:=(gsI g1)
 have l0:=(gsI g0)
 have ix:=cM x
 rw[fV]at ix
 simp -dsimp -implicitDefEqProofs [-getElem?_pos,go_sem,hP,t24,t25]
 refine aB (fun hq=>?_) (fun hq=>?_)
 ·have hk:k<l.length:=by simpa using hq
  obtain⟨d,hd⟩:∃d,l[k]?=some d:=⟨_,List.getElem?_eq_getElem hk⟩
  have wk:=af ((k:Int)+1) (by omega)
  have cd:=ON d hf (by omega)
  have fx:=fun h=>I8 (d:=d) hf (by omega) h
  have cx:=fun h=>Gm (d:=d) hcl h
  obtain⟨y,e,hy⟩:∃y e,doS x d=(y,e):=⟨_,_,rfl⟩
  rw[hy]at cd fx cx
  simp only at cd fx cx
  have iy:=cM y
  have idd:=az.2 d.imm
  rw[fV,fV y,dJ]at cd
  rw[fV]at iy
  rw[dJ]at idd
  have g1':∀Y:List (Option AObj),(s.H++Y)[1]?=some (some (stO x)):=fun Y=>by rw[List.getElem?_append_left l1];exact g1
  have g0':∀Y:List (Option AObj),(s.H++Y)[0]?=some (some zO):=fun Y=>by rw[List.getElem?_append_left l0];exact g0
  have l11:1<s.H.length+1:=by omega
  simp -dsimp -implicitDefEqProofs [-getElem?_pos,go_sem,hP,t23,t25,hd,dJ]
  simp -dsimp -implicitDefEqProofs [-getElem?_pos,go_sem,hP,t5,g1',l1,l11,t23]
  refine ae (cd.lift _ _) hP QA (by simp[ix,idd]) (ak iy .sc) ?_
  by_cases he:e=0
  ·subst he
   simp -dsimp -implicitDefEqProofs [-getElem?_pos,go_sem,hP,t5,g1',l1,l11,t25,wk]
   refine⟨l.length-(k+1),by omega,?_⟩
   rw[hI]
   refine⟨k+1,y,by omega,rfl,fx rfl,cx rfl,by simp -dsimp[-getElem?_pos,go_sem,t4],by simp -dsimp[-getElem?_pos,go_sem,t5],by simp -dsimp[-getElem?_pos,go_sem,t23],by simp -dsimp[-getElem?_pos,go_sem,t24],by simp -dsimp[-getElem?_pos,go_sem],?_,?_⟩
   ·simp -dsimp -implicitDefEqProofs [-getElem?_pos,go_sem,l1,l11]
   ·dsimp only
    rw[List.getElem?_append_left (by simp;omega),List.getElem?_set_ne (by omega)]
    exact g0
  ·have de:decide (e=0)=false:=decide_eq_false he
   simp -dsimp -implicitDefEqProofs [-getElem?_pos,go_sem,hP,de,t5,g1',l1,l11,t25,wk]
   refine⟨l.length-(k+1),by omega,?_⟩
   rw[hI]
   refine⟨k+1,x,by omega,rfl,⟨hf.f.mono (by omega),hf.s0,hf.mv⟩,hcl,by simp -dsimp[-getElem?_pos,go_sem,t4],by simp -dsimp[-getElem?_pos,go_sem,t5],by simp -dsimp[-getElem?_pos,go_sem,t23],by simp -dsimp[-getElem?_pos,go_sem,t24],by simp -dsimp[-getElem?_pos,go_sem],?_,?_⟩
   ·simp -dsimp -implicitDefEqProofs [-getElem?_pos,go_sem,g1',l1,l11]
   ·simp -dsimp -implicitDefEqProofs [-getElem?_pos,go_sem,g0',l1,l11]
 ·simp -dsimp -implicitDefEqProofs [-getElem?_pos,go_sem,hP,t4,t5,g1,g0,l0,l1]
  refine aw ix ⟨x,by rw[fV],⟨hf.f.mono (by omega),hf.s0,hf.mv⟩,hcl⟩
open Go.PA
open Go.RowKit
def Cc (x:AV):Prop:=∃l:List (List AV),x= .list 2 l∧l≠[]∧Imm (.list 2 l)
theorem zl:∃r,Cc r∧Imm r:=⟨_,⟨[[iv 0,iv 0]],rfl,by simp,cN.2 fun e he c hc=>by simp at he;subst he;simp at hc;subst hc;exact .sc⟩,cN.2 fun e he c hc=>by simp at he;subst he;simp at hc;subst hc;exact .sc⟩
structure ChkG (x:TState) (e1 e2 e3 e4 e5:Int):Prop where
 k1:PFun Tryz.prog none none 82 [.agg x.Desk.Account.cells] (·=iv e1)
 k2:PFun Tryz.prog none none 83 [.agg x.Desk.cells] (·=iv e2)
 k3:PFun Tryz.prog none none 84 [.agg x.Cash.cells] (·=iv e3)
 k4:PFun Tryz.prog none none 52 [.agg x.Register.cells] (·=iv e4)
 k5:PFun Tryz.prog none none 85 [.agg x.Ledger.cells] (·=iv e5)
set_option maxHeartbeats 2000000 in
theorem si (x:TState) (h:ChkG x 0 0 0 0 0):PFun Tryz.prog none none 27 [.agg x.cells] (·= .nil):=by
 obtain⟨k1,k2,k3,k4,k5⟩:=h
 have i1:=cV x.Desk.Account
 have i2:=az.2 x.Desk.imm
 have i3:=Ah x.Cash
 have i4:=az.2 x.Register.imm
 have i5:=az.2 x.Ledger.imm
 have cL':x.Ledger.cells=[ce x.Ledger.Postings]:=rfl
 simp only[cA]at k1 i1
 simp only[LI]at k2 i2
 simp only[Gx]at k3 i3
 simp only[dQ]at k4 i4
 simp only[cL']at k5 i5
 refine ab Tryz.func27 rfl (by simp[Tryz.f27]) (by kernel_rfl) ?_
 intro E hP hr hs hW hN
 simp -dsimp -implicitDefEqProofs [-getElem?_pos,go_sem,hP,fV]
 refine ao (fun _=>true) [] hP (by kernel_rfl) (by kernel_rfl) ?_
 simp -dsimp -implicitDefEqProofs [-getElem?_pos,go_sem,hP]
 refine ae (k1.lift _ _) hP Fa (by simpa using i1) .sc ?_
 simp -dsimp -implicitDefEqProofs [-getElem?_pos,go_sem,hP]
 refine ae (k2.lift _ _) hP Nt (by simpa using i2) .sc ?_
 simp -dsimp -implicitDefEqProofs [-getElem?_pos,go_sem,hP]
 refine ae (k3.lift _ _) hP M6 (by simpa using i3) .sc ?_
 simp -dsimp -implicitDefEqProofs [-getElem?_pos,go_sem,hP]
 refine ae (k4.lift _ _) hP M7 (by simpa using i4) .sc ?_
 simp -dsimp -implicitDefEqProofs [-getElem?_pos,go_sem,hP]
 refine ae (k5.lift _ _) hP Ns (by simpa using i5) .sc ?_
 simp -dsimp -implicitDefEqProofs [-getElem?_pos,go_sem,hP]
 obtain⟨G,hG⟩:∃G:List (List AV),G=[[iv 23,iv 0],[iv 26,iv 0],[iv 27,iv 0],[iv 33,iv 0],[iv 40,iv 0]]:=⟨_,rfl⟩
 have lG:G.length=5:=by rw[hG];rfl
 have gG:∀k:Nat,k<5→∃z:Int,G[k]?=some [iv z,iv 0]:=fun k hk=>by
  rw[hG]
  match k,hk with
  |0,_|1,_|2,_|3,_|4,_=>exact⟨_,rfl⟩
 rw[←hG]
 clear hG
 obtain⟨I,hI⟩:∃I:Nat→St→Prop,I=fun m s=>∃k:Nat,k≤5∧m=5-k∧s.t 3= .nil∧s.t 27= .list 2 G∧s.t 28=iv 5∧s.t 29=iv k:=⟨_,rfl⟩
 refine ay I (5) (by rw[hN];rfl) ?_ ?_
 ·rw[hI]
  exact⟨0,by omega,by omega,by simp -dsimp[-getElem?_pos,go_sem],by simp -dsimp[-getElem?_pos,go_sem],by simp -dsimp[-getElem?_pos,go_sem],by simp -dsimp[-getElem?_pos,go_sem]⟩
 intro m s hs'
 rw[hI]at hs'
 obtain⟨k,hk,hm,t3,t27,t28,t29⟩:=hs'
 simp -dsimp -implicitDefEqProofs [-getElem?_pos,go_sem,hP,t28,t29]
 refine aB (fun hh=>?_) (fun hh=>?_)
 ·have hk:k<5:=by simp at hh;omega
  obtain⟨z,hz⟩:=gG k hk
  have wk:=af ((k:Int)+1) (by omega)
  simp -dsimp -implicitDefEqProofs [-getElem?_pos,go_sem,hP,t27,t29,hz,wk]
  refine⟨5-(k+1),by omega,?_⟩
  rw[hI]
  exact⟨k+1,by omega,rfl,by simp -dsimp[-getElem?_pos,go_sem,t3],by simp -dsimp[-getElem?_pos,go_sem,t27],by simp -dsimp[-getElem?_pos,go_sem,t28],by simp -dsimp[-getElem?_pos,go_sem]⟩
 ·simp -dsimp -implicitDefEqProofs [-getElem?_pos,go_sem,hP,t3]
  exact aw .nil rfl
set_option maxHeartbeats 2000000 in
theorem A8 (x:TState) {e1 e2 e3 e4 e5:Int} (h:ChkG x e1 e2 e3 e4 e5) (hn:¬(e1=0∧e2=0∧e3=0∧e4=0∧e5=0)):PFun Tryz.prog none none 27 [.agg x.cells] Cc:=by
 obtain⟨k1,k2,k3,k4,k5⟩:=h
 have i1:=cV x.Desk.Account
 have i2:=az.2 x.Desk.imm
 have i3:=Ah x.Cash
 have i4:=az.2 x.Register.imm
 have i5:=az.2 x.Ledger.imm
 have cL':x.Ledger.cells=[ce x.Ledger.Postings]:=rfl
 simp only[cA]at k1 i1
 simp only[LI]at k2 i2
 simp only[Gx]at k3 i3
 simp only[dQ]at k4 i4
 simp only[cL']at k5 i5
 refine ab Tryz.func27 rfl (by simp[Tryz.f27]) (by kernel_rfl) ?_
 intro E hP hr hs hW hN
 simp -dsimp -implicitDefEqProofs [-getElem?_pos,go_sem,hP,fV]
 refine ao (fun _=>true) [] hP (by kernel_rfl) (by kernel_rfl) ?_
 simp -dsimp -implicitDefEqProofs [-getElem?_pos,go_sem,hP]
 refine ae (k1.lift _ _) hP Fa (by simpa using i1) .sc ?_
 simp -dsimp -implicitDefEqProofs [-getElem?_pos,go_sem,hP]
 refine ae (k2.lift _ _) hP Nt (by simpa using i2) .sc ?_
 simp -dsimp -implicitDefEqProofs [-getElem?_pos,go_sem,hP]
 refine ae (k3.lift _ _) hP M6 (by simpa using i3) .sc ?_
 simp -dsimp -implicitDefEqProofs [-getElem?_pos,go_sem,hP]
 refine ae (k4.lift _ _) hP M7 (by simpa using i4) .sc ?_
 simp -dsimp -implicitDefEqProofs [-getElem?_pos,go_sem,hP]
 refine ae (k5.lift _ _) hP Ns (by simpa using i5) .sc ?_
 simp -dsimp -implicitDefEqProofs [-getElem?_pos,go_sem,hP]
 obtain⟨G,hG⟩:∃G:List (List AV),G=[[iv 23,iv e1],[iv 26,iv e2],[iv 27,iv e3],[iv 33,iv e4],[iv 40,iv e5]]:=⟨_,rfl⟩
 have lG:G.length=5:=by rw[hG];rfl
 have gG:∀k:Nat,k<5→∃z e:Int,G[k]?=some [iv z,iv e]:=fun k hk=>by
  rw[hG]
  match k,hk with
  |0,_|1,_|2,_|3,_|4,_=>exact⟨_,_,rfl⟩
 have bad:∃(k:Nat) (z e:Int),k<5∧G[k]?=some [iv z,iv e]∧e≠0:=by
  rw[hG]
  by_cases a1:e1=0
  ·by_cases a2:e2=0
   ·by_cases a3:e3=0
    ·by_cases a4:e4=0
     ·exact⟨4,40,e5,by omega,rfl,fun a5=>hn ⟨a1,a2,a3,a4,a5⟩⟩
     ·exact⟨3,33,e4,by omega,rfl,a4⟩
    ·exact⟨2,27,e3,by omega,rfl,a3⟩
   ·exact⟨1,26,e2,by omega,rfl,a2⟩
  ·exact⟨0,23,e1,by omega,rfl,a1⟩
 rw[←hG]
 clear hG
 refine eJ 3 105 2 (by simp -dsimp[-getElem?_pos,go_sem]) ?_
 obtain⟨I,hI⟩:∃I:Nat→St→Prop,I=fun m s=>∃(k id:Nat) (out:List (List AV)),k≤5∧m=5-k∧out.length≤k∧Imm (.list 2 out)∧(∀(j:Nat) (z e:Int),j<k→G[j]?=some [iv z,iv e]→e≠0→out≠[])∧s.t 3= .sref id 0 out.length∧s.t 27= .list 2 G∧s.t 28=iv 5∧s.t 29=iv k∧s.H[id]?=some (some ⟨105,2,out⟩):=⟨_,rfl⟩
 refine ay I (5) (by rw[hN];rfl) ?_ ?_
 ·rw[hI]
  exact⟨0,1,[],by omega,by omega,by simp,cN.2 (by simp),fun j z e hj=>by omega,by simp -dsimp[-getElem?_pos,go_sem],by simp -dsimp[-getElem?_pos,go_sem],by simp -dsimp[-getElem?_pos,go_sem],by simp -dsimp[-getElem?_pos,go_sem],by simp -dsimp[-getElem?_pos,go_sem]⟩
 intro m s hs'
 rw[hI]at hs'
 obtain⟨k,id,out,hk,hm,hol,hio,hout,t3,t27,t28,t29,hH⟩:=hs'
 have lH:=(gsI hH)
 simp -dsimp -implicitDefEqProofs [-getElem?_pos,go_sem,hP,t28,t29]
 refine aB (fun hh=>?_) (fun hh=>?_)
 ·have hk:k<5:=by simp at hh;omega
  obtain⟨z,e,hz⟩:=gG k hk
  have wk:=af ((k:Int)+1) (by omega)
  have gj:∀Y:List (Option AObj),(s.H++Y)[id]?=_:=fun Y=>(List.getElem?_append_left lH).trans hH
  by_cases he:e=0
  ·have de:decide (e=0)=true:=decide_eq_true he
   simp -dsimp -implicitDefEqProofs [-getElem?_pos,go_sem,hP,t27,t29,hz,wk,de]
   refine⟨5-(k+1),by omega,?_⟩
   rw[hI]
   refine⟨k+1,id,out,by omega,rfl,by omega,hio,fun j z' e' hj hg hne=>?_,by simp -dsimp[-getElem?_pos,go_sem,t3],by simp -dsimp[-getElem?_pos,go_sem,t27],by simp -dsimp[-getElem?_pos,go_sem,t28],by simp -dsimp[-getElem?_pos,go_sem],by simp -dsimp[-getElem?_pos,go_sem,gj]⟩
   by_cases hjk:j=k
   ·subst hjk
    rw[hz]at hg
    injection hg with hg
    injection hg with _ hg
    injection hg with hg _
    injection hg with hg
    injection hg with _ hg
    exact absurd (hg.symm.trans he) hne
   ·exact hout j z' e' (by omega) hg hne
  ·have de:decide (e=0)=false:=decide_eq_false he
   simp -dsimp -implicitDefEqProofs [-getElem?_pos,go_sem,hP,t27,t29,hz,wk,de,t3,gj,hH,lH]
   refine⟨by omega,by omega,?_⟩
   refine⟨5-(k+1),by omega,?_⟩
   rw[hI]
   refine⟨k+1,s.H.length+1,out++[[iv z,iv 0]],by omega,rfl,by simp;omega,?_,fun j z' e' hj hg hne=>by simp,by simp -dsimp[-getElem?_pos,go_sem],by simp -dsimp[-getElem?_pos,go_sem,t27],by simp -dsimp[-getElem?_pos,go_sem,t28],by simp -dsimp[-getElem?_pos,go_sem],by simp -dsimp[-getElem?_pos,go_sem]⟩
   refine cN.2 fun a ha c hc=>?_
   rcases List.mem_append.1 ha with ha|ha
   ·exact cN.1 hio a ha c hc
   ·simp at ha
    subst ha
    simp at hc
    rcases hc with rfl|rfl<;>exact .sc
 ·have hk:k=5:=by simp at hh;omega
  subst hk
  obtain⟨j,z,e,hj,hg,hne⟩:=bad
  simp -dsimp -implicitDefEqProofs [-getElem?_pos,go_sem,hP,t3]
  exact gU (tl:=[]) (by rw[List.append_nil];exact hH) rfl hio ⟨out,rfl,hout j z e hj hg hne,hio⟩
theorem mC (x:TState) {e1 e2 e3 e4 e5:Int} (h:ChkG x e1 e2 e3 e4 e5) (hn:¬(e1=0∧e2=0∧e3=0∧e4=0∧e5=0)):PFun Tryz.prog none none 14 [.agg x.cells] Cc:=by
 have k1:=A8 x h hn
 have ist:=cM x
 rw[fV]at k1 ist
 refine ab Tryz.func14 rfl (by simp[Tryz.f14]) (by kernel_rfl) ?_
 intro E hP hr hs hW hN
 simp -dsimp -implicitDefEqProofs [-getElem?_pos,go_sem,hP,fV]
 refine aO (k1.lift _ _) hP Ly (by simpa using ist) zl ?_
 rintro r ⟨l,rfl,hl,hi⟩ _
 have d:decide ((0:Int)<(l.length:Int))=true:=decide_eq_true (by have:=List.length_pos_iff.2 hl;omega)
 have d':0<l.length:=List.length_pos_iff.2 hl
 simp -dsimp -implicitDefEqProofs [-getElem?_pos,go_sem,hP,d,d']
 exact aw hi ⟨l,rfl,hl,hi⟩
theorem DD (x:TState) (h:PFun Tryz.prog none none 14 [.agg x.cells] Cc):PFun Tryz.prog none none 13 [.agg x.cells] (·=bv false):=by
 have ist:=cM x
 rw[fV]at h ist
 refine ab Tryz.func13 rfl (by simp[Tryz.f13]) (by kernel_rfl) ?_
 intro E hP hr hs hW hN
 simp -dsimp -implicitDefEqProofs [-getElem?_pos,go_sem,hP,fV]
 refine aO (h.lift _ _) hP Na (by simpa using ist) zl ?_
 rintro r ⟨l,rfl,hl,hi⟩ _
 have d':¬l.length=0:=fun e=>hl (List.eq_nil_of_length_eq_zero e)
 simp -dsimp -implicitDefEqProofs [-getElem?_pos,go_sem,hP,d']
set_option maxHeartbeats 2000000 in
theorem DV (x:TState) (hd:FitD x.Desk) (hcl:x.Cash.Incomes.length≤100) (hml:x.Register.Moves.length≤400) (hll:x.Ledger.Postings.length≤400) (hchk:ChkG x 0 0 0 0 0) (fi:aG pH x.Cash.Incomes (x.Desk.Account.Entries.filter iU)=false) (fm:aG rM (x.Register.Moves.filter fun m=>!mz m) (x.Desk.Account.Entries.filter eZ)=true) (P:List TPosting) (hP0:cO 0 [] x.Desk.Account.Entries=P) (lP:P.length≤400) (fp:aG (fun p q=>decide (p=q)) x.Ledger.Postings P=true):PFun Tryz.prog none none 14 [.agg x.cells] Cc:=by
 have k1:=si x hchk
 have ist:=cM x
 have k2:=uu x.Desk.Account 30 iU hd.e M3 Fd
 have k3:=uu x.Desk.Account 37 eZ hd.e Fj zq
 have fl:∀p:TEntry→Bool,(x.Desk.Account.Entries.filter p).length≤100000:=fun p=>Nat.le_trans (List.length_filter_le _ _) hd.e
 have k4:=oC x.Cash.Incomes (x.Desk.Account.Entries.filter iU) 31 pH (by omega) (fl _) M5 Fb
 have ml:=hml
 have k5:=oE (x.Register.Moves.filter fun m=>!mz m) (x.Desk.Account.Entries.filter eZ) 35 rM (by have:=List.length_filter_le (fun m=>!mz m) x.Register.Moves;omega) (fl _) Nk Fk
 have k6:=pQ x.Desk.Account.Entries 0 hd.e (by omega)
 rw[hP0]at k6
 have k7:=oP x.Ledger.Postings P 40 (fun p q=>decide (p=q)) (by omega) (by omega) Nb FI
 rw[fi]at k4
 rw[fm]at k5
 rw[fp]at k7
 have i1:=cV x.Desk.Account
 have i2:=fF x.Cash.Incomes
 have i3:=fe (x.Desk.Account.Entries.filter iU)
 have i4:=fe (x.Desk.Account.Entries.filter eZ)
 have i5:=jF (x.Register.Moves.filter fun m=>!mz m)
 have i6:=dG x.Ledger.Postings
 have i7:=fe x.Desk.Account.Entries
 have i8:=dG P
 simp only[cA]at i1 k2 k3
 rw[fV]at k1 ist
 refine ab Tryz.func14 rfl (by simp[Tryz.f14]) (by kernel_rfl) ?_
 intro E hP hr hs hW hN
 simp -dsimp -implicitDefEqProofs [-getElem?_pos,go_sem,hP,fV]
 refine ae (k1.lift _ _) hP Ly (by simpa using ist) .nil ?_
 simp -dsimp -implicitDefEqProofs [-getElem?_pos,go_sem,hP,cA]
 refine ao (fun _=>true) [] hP (by kernel_rfl) (by kernel_rfl) ?_
 simp -dsimp -implicitDefEqProofs [-getElem?_pos,go_sem,hP]
 refine ae (k2.lift _ _) hP E8 (by simp[i1,eW]) i3 ?_
 simp -dsimp -implicitDefEqProofs [-getElem?_pos,go_sem,hP]
 refine aO (k4.lift _ _) hP Nf (by simp[i2,i3,eW]) ⟨_,⟨0,by omega,rfl⟩,ak .sc .sc⟩ ?_
 rintro r ⟨n1,hn1,rfl⟩ _
 have w1:=af ((n1:Int)+1) (by omega)
 have ii:Imm (.list 2 [[iv 27,iv ((n1:Int)+1)]]):=cN.2 fun e he c hc=>by
  simp at he
  subst he
  simp at hc
  rcases hc with rfl|rfl<;>exact .sc
 simp -dsimp -implicitDefEqProofs [-getElem?_pos,go_sem,hP,w1]
 obtain⟨H1,hH1⟩:∃H1:ac,H1=[some ⟨50,15,[[iv x.Desk.Account.Credit,aL x.Desk.Account.Subs,bu x.Desk.Account.Entries,aC x.Desk.Queue.Waiting,.list 1 (aj aS x.Desk.Queue.Known),aX x.Desk.Queue.Batches,bI x.Desk.Items,dt x.Cash.Claims,aR x.Cash.Incomes,cu x.Cash.Matches,.list 1 (aj aS x.Cash.Loose),bb x.Register.Securities,aQ x.Register.Holdings,cB x.Register.Moves,ce x.Ledger.Postings]]⟩,some ⟨28,3,[[iv x.Desk.Account.Credit,aL x.Desk.Account.Subs,bu x.Desk.Account.Entries]]⟩,some ⟨105,2,[[iv 27,iv ((n1:Int)+1)]]⟩]:=⟨_,rfl⟩
 have g0:=congrArg (·[0]?) hH1
 have g1:=congrArg (·[1]?) hH1
 have g2:=congrArg (·[2]?) hH1
 simp only[List.getElem?_cons_zero,List.getElem?_cons_succ]at g0 g1 g2
 have l2:H1.length=3:=by rw[hH1];rfl
 rw[←hH1]
 clear hH1
 refine aM (sQ x.Register.Moves H1 (by omega)) hP Nn ?_
 rintro r H2 ⟨id,rfl,hid,ho,hk⟩
 simp -dsimp -implicitDefEqProofs [-getElem?_pos,go_sem,hP]
 refine aM (lC x.Register.Moves id H2 34 [] [] mz (by omega) ho Nq (by simp) (fun H' _=>⟨be.2 trivial,rfl⟩) (fun m _=>Fh m)) hP Nc ?_
 rintro r H3 ⟨tl,rfl,ho3,hk3⟩
 have e0:=hk3 _ _ (by simp;omega) (hk _ _ (by simp) g0)
 have e1:=hk3 _ _ (by simp;omega) (hk _ _ (by simp) g1)
 have e2:=hk3 _ _ (by simp;omega) (hk _ _ (by simp) g2)
 have l0:=(gsI e0)
 have l1:=(gsI e1)
 clear hk hk3 ho g0 g1 g2 l2
 simp -dsimp -implicitDefEqProofs [-getElem?_pos,go_sem,hP,e0,e1,l0,l1]
 refine ae (k3.lift _ _) hP E8 (by simp[i1,eW]) i4 ?_
 simp -dsimp -implicitDefEqProofs [-getElem?_pos,go_sem,hP]
 refine bM (k5.lift _ _) hP Np (vQ ho3 (by rw[al]) i5 (aH i4 (aH (by simp[eW]) (be.2 trivial)))) ⟨_,0,by omega,rfl⟩ (fun r ⟨n,_,e⟩=>by rw[e];exact .tup fun a ha=>by simp at ha;rcases ha with rfl|rfl<;>exact .sc) ?_
 rintro r ⟨n2,_,rfl⟩
 simp -dsimp -implicitDefEqProofs [-getElem?_pos,go_sem,hP]
 refine ao (fun _=>true) [] hP (by kernel_rfl) (by kernel_rfl) ?_
 simp -dsimp -implicitDefEqProofs [-getElem?_pos,go_sem,hP,e0,e1,l0,l1]
 refine ae (k6.lift _ _) hP M4 (by simp[i7,ar]) i8 ?_
 simp -dsimp -implicitDefEqProofs [-getElem?_pos,go_sem,hP]
 refine aO (k7.lift _ _) hP M8 (by simp[i6,i8,eW]) ⟨_,⟨0,by omega,rfl⟩,ak .sc .sc⟩ ?_
 rintro r ⟨n3,_,rfl⟩ _
 simp -dsimp -implicitDefEqProofs [-getElem?_pos,go_sem,hP]
 exact gU (tl:=[]) (by rw[List.append_nil];exact e2) rfl ii ⟨_,rfl,by simp,ii⟩
set_option maxHeartbeats 2000000 in
theorem EW (x:TState) (hd:FitD x.Desk) (hcl:x.Cash.Incomes.length≤100) (hml:x.Register.Moves.length≤400) (hll:x.Ledger.Postings.length≤400) (hchk:ChkG x 0 0 0 0 0) (fi:aG pH x.Cash.Incomes (x.Desk.Account.Entries.filter iU)=true) (fm:aG rM (x.Register.Moves.filter fun m=>!mz m) (x.Desk.Account.Entries.filter eZ)=true) (P:List TPosting) (hP0:cO 0 [] x.Desk.Account.Entries=P) (lP:P.length≤400) (fp:aG (fun p q=>decide (p=q)) x.Ledger.Postings P=false):PFun Tryz.prog none none 14 [.agg x.cells] Cc:=by
 have k1:=si x hchk
 have ist:=cM x
 have k2:=uu x.Desk.Account 30 iU hd.e M3 Fd
 have k3:=uu x.Desk.Account 37 eZ hd.e Fj zq
 have fl:∀p:TEntry→Bool,(x.Desk.Account.Entries.filter p).length≤100000:=fun p=>Nat.le_trans (List.length_filter_le _ _) hd.e
 have k4:=oC x.Cash.Incomes (x.Desk.Account.Entries.filter iU) 31 pH (by omega) (fl _) M5 Fb
 have ml:=hml
 have k5:=oE (x.Register.Moves.filter fun m=>!mz m) (x.Desk.Account.Entries.filter eZ) 35 rM (by have:=List.length_filter_le (fun m=>!mz m) x.Register.Moves;omega) (fl _) Nk Fk
 have k6:=pQ x.Desk.Account.Entries 0 hd.e (by omega)
 rw[hP0]at k6
 have k7:=oP x.Ledger.Postings P 40 (fun p q=>decide (p=q)) (by omega) (by omega) Nb FI
 rw[fi]at k4
 rw[fm]at k5
 rw[fp]at k7
 have i1:=cV x.Desk.Account
 have i2:=fF x.Cash.Incomes
 have i3:=fe (x.Desk.Account.Entries.filter iU)
 have i4:=fe (x.Desk.Account.Entries.filter eZ)
 have i5:=jF (x.Register.Moves.filter fun m=>!mz m)
 have i6:=dG x.Ledger.Postings
 have i7:=fe x.Desk.Account.Entries
 have i8:=dG P
 simp only[cA]at i1 k2 k3
 rw[fV]at k1 ist
 refine ab Tryz.func14 rfl (by simp[Tryz.f14]) (by kernel_rfl) ?_
 intro E hP hr hs hW hN
 simp -dsimp -implicitDefEqProofs [-getElem?_pos,go_sem,hP,fV]
 refine ae (k1.lift _ _) hP Ly (by simpa using ist) .nil ?_
 simp -dsimp -implicitDefEqProofs [-getElem?_pos,go_sem,hP,cA]
 refine ao (fun _=>true) [] hP (by kernel_rfl) (by kernel_rfl) ?_
 simp -dsimp -implicitDefEqProofs [-getElem?_pos,go_sem,hP]
 refine ae (k2.lift _ _) hP E8 (by simp[i1,eW]) i3 ?_
 simp -dsimp -implicitDefEqProofs [-getElem?_pos,go_sem,hP]
 refine aO (k4.lift _ _) hP Nf (by simp[i2,i3,eW]) ⟨_,⟨0,by omega,rfl⟩,ak .sc .sc⟩ ?_
 rintro r ⟨n1,_,rfl⟩ _
 simp -dsimp -implicitDefEqProofs [-getElem?_pos,go_sem,hP]
 obtain⟨H1,hH1⟩:∃H1:ac,H1=[some ⟨50,15,[[iv x.Desk.Account.Credit,aL x.Desk.Account.Subs,bu x.Desk.Account.Entries,aC x.Desk.Queue.Waiting,.list 1 (aj aS x.Desk.Queue.Known),aX x.Desk.Queue.Batches,bI x.Desk.Items,dt x.Cash.Claims,aR x.Cash.Incomes,cu x.Cash.Matches,.list 1 (aj aS x.Cash.Loose),bb x.Register.Securities,aQ x.Register.Holdings,cB x.Register.Moves,ce x.Ledger.Postings]]⟩,some ⟨28,3,[[iv x.Desk.Account.Credit,aL x.Desk.Account.Subs,bu x.Desk.Account.Entries]]⟩]:=⟨_,rfl⟩
 have g0:=congrArg (·[0]?) hH1
 have g1:=congrArg (·[1]?) hH1
 simp only[List.getElem?_cons_zero,List.getElem?_cons_succ]at g0 g1
 have l2:H1.length=2:=by rw[hH1];rfl
 rw[←hH1]
 clear hH1
 refine aM (sQ x.Register.Moves H1 (by omega)) hP Nn ?_
 rintro r H2 ⟨id,rfl,hid,ho,hk⟩
 simp -dsimp -implicitDefEqProofs [-getElem?_pos,go_sem,hP]
 refine aM (lC x.Register.Moves id H2 34 [] [] mz (by omega) ho Nq (by simp) (fun H' _=>⟨be.2 trivial,rfl⟩) (fun m _=>Fh m)) hP Nc ?_
 rintro r H3 ⟨tl,rfl,ho3,hk3⟩
 have e0:=hk3 _ _ (by simp;omega) (hk _ _ (by simp) g0)
 have e1:=hk3 _ _ (by simp;omega) (hk _ _ (by simp) g1)
 have l0:=(gsI e0)
 have l1:=(gsI e1)
 clear hk hk3 ho g0 g1 l2
 simp -dsimp -implicitDefEqProofs [-getElem?_pos,go_sem,hP,e0,e1,l0,l1]
 refine ae (k3.lift _ _) hP E8 (by simp[i1,eW]) i4 ?_
 simp -dsimp -implicitDefEqProofs [-getElem?_pos,go_sem,hP]
 refine bM (k5.lift _ _) hP Np (vQ ho3 (by rw[al]) i5 (aH i4 (aH (by simp[eW]) (be.2 trivial)))) ⟨_,0,by omega,rfl⟩ (fun r ⟨n,_,e⟩=>by rw[e];exact .tup fun a ha=>by simp at ha;rcases ha with rfl|rfl<;>exact .sc) ?_
 rintro r ⟨n2,_,rfl⟩
 simp -dsimp -implicitDefEqProofs [-getElem?_pos,go_sem,hP]
 refine ao (fun _=>true) [] hP (by kernel_rfl) (by kernel_rfl) ?_
 simp -dsimp -implicitDefEqProofs [-getElem?_pos,go_sem,hP,e0,e1,l0,l1]
 refine ae (k6.lift _ _) hP M4 (by simp[i7,ar]) i8 ?_
 simp -dsimp -implicitDefEqProofs [-getElem?_pos,go_sem,hP]
 refine aO (k7.lift _ _) hP M8 (by simp[i6,i8,eW]) ⟨_,⟨0,by omega,rfl⟩,ak .sc .sc⟩ ?_
 rintro r ⟨n3,hn3,rfl⟩ _
 have w3:=af ((n3:Int)+1) (by omega)
 simp -dsimp -implicitDefEqProofs [-getElem?_pos,go_sem,hP,w3]
 have ii:Imm (.list 2 [[iv 40,iv ((n3:Int)+1)]]):=cN.2 fun e he c hc=>by
  simp at he
  subst he
  simp at hc
  rcases hc with rfl|rfl<;>exact .sc
 refine gU (tl:=[]) (es:=[[iv 40,iv ((n3:Int)+1)]]) (ty:=105) (k:=2) ?_ rfl ii ⟨_,rfl,by simp,ii⟩
 simp -dsimp -implicitDefEqProofs [-getElem?_pos,go_sem]
open Go.PA
open Go.RowKit
def qf (m:TMove):Int:=if m.Kind=1 then m.Amount else if m.Kind=3 then -m.Amount else 0
def tu (l:List TMove):Int:=(l.map qf).sum
def Hu (l:List THolding):Int:=kL (fun _=>true) hAm l
theorem rS (l:List THolding) (id h n:Int):Hu (kQ l id h n)=Hu l+n:=by
 have:=rj (lt:=hLt id h) (is:=hIs id h) (mk:=hMk id h) (am:=hAm) (fun _=>true) (fun _=>rfl) true (fun _=>rfl) (fun _ _=>rfl) l n
 unfold Hu kQ
 rw[this,if_pos rfl]
theorem Ck {m:TMove} (h:dP m=false) (hk:1≤m.Kind∧m.Kind≤3):(m.Kind=1→m.From=0∧m.To≠0)∧(m.Kind=2→m.From≠0∧m.To≠0)∧(m.Kind=3→m.From≠0∧m.To=0):=by
 unfold dP dA at h
 split at h
 ·simp at h
  omega
 ·split at h
  ·simp at h
   omega
  ·simp at h
   omega
theorem AL {secs:List TSecurity} {u:RepSt} {ms:List TMove} (h:Runs secs gu ms u):Hu u.l=tu ms∧∀m,m∈ms→1≤m.Kind∧m.Kind≤3:=by
 induction h with
 |nil=>exact⟨rfl,by simp⟩
 |@snoc u ms m hr hs ih=>
  obtain⟨s1,s2,s3⟩:=hs
  obtain⟨s,mo⟩:=qE s3
  have st:=Ck mo.str s2
  refine⟨?_,fun x hx=>?_⟩
  ·have e:tu (ms++[m])=tu ms+qf m:=by simp[tu]
   rw[e,←ih.1]
   show Hu (goH u.l m)=Hu u.l+qf m
   unfold goH qf
   by_cases k1:m.Kind=1
   ·obtain⟨a,b⟩:=st.1 k1
    simp only[a,b,k1,if_true,if_false,rS]
   by_cases k2:m.Kind=2
   ·obtain⟨a,b⟩:=st.2.1 k2
    simp only[a,b,k2,if_false,rS]
    simp
    omega
   ·have k3:m.Kind=3:=by omega
    obtain⟨a,b⟩:=st.2.2 k3
    simp only[a,b,k3,if_true,if_false,rS]
    simp
  ·rcases List.mem_append.1 hx with hx|hx
   ·exact ih.2 x hx
   ·simp at hx
    subst hx
    exact s2
open Go.PA
open Go.RowKit
open Go.PA
open Go.RowKit
def P5 (H:ac) (r:AV) (H':ac):Prop:=(∃c:Nat,r= .tup [.ref c 0 0,bv false])∧Kept [] H H'
set_option maxHeartbeats 4000000 in
theorem E6 {row src:Option Nat} (r:TRegister) (g:FuncId) (caps:List AV) (H:ac) (hrun:¬∃t,Runs r.Securities gu r.Moves t) (hnum:∀(k:Nat) (m:TMove),r.Moves[k]?=some m→m.Number=(k:Int)+1∧(1≤m.Kind∧m.Kind≤3)) (hml:r.Moves.length≤400) (hsl:r.Securities.length≤1000) (hso:∀s,s∈r.Securities→rQ s=true) (hen:aa Tryz.prog g=true)
  (hg:∀m,m∈r.Moves→∀H',Kept [] H H'→MFun Tryz.prog row src g (.agg m.cells::caps) H' (fun r H''=>r=bv true∧Kept [] H' H'')):
  MFun Tryz.prog row src 100 [.agg r.cells,.fn g caps] H (P5 H):=by
 obtain⟨C,hC⟩:∃C:AV→ac→Prop,C=P5 H:=⟨_,rfl⟩
 rw[←hC]
 have ex:∃x H',C x H':=by
  rw[hC]
  exact⟨_,H,⟨0,rfl⟩,au _ _⟩
 refine aI Tryz.func100 rfl (by simp[Tryz.f100]) (by kernel_rfl) (ex) ?_
 intro E hP hr hs hN
 simp -dsimp -implicitDefEqProofs [-getElem?_pos,go_sem,hP,dQ]
 refine oH (o:=H.length+1) (ty:=183) (k:=4) (cs:=[bb r.Securities,.nil,iv 0,iv 0]) 1 173 3 (by simp) (by decide) (by simp) rfl ?_
 obtain⟨I,hI⟩:∃I:Nat→St→Prop,I=fun m s=>∃(k c hid:Nat) (v:RepSt),k≤r.Moves.length∧m=r.Moves.length-k∧Runs r.Securities gu (r.Moves.take k) v∧s.t 1= .fn g caps∧s.t 6= .ref c 0 0∧s.t 14=cB r.Moves∧s.t 15=iv r.Moves.length∧s.t 16=iv k∧Clk s.H c hid (bb r.Securities) v.l v.n v.d∧H.length≤c∧(∀(z:Nat) (o:AObj),H[z]?=some (some o)→z≠hid)∧Kept [] H s.H:=⟨_,rfl⟩
 refine ay I (r.Moves.length) (by rw[hN];rfl) ?_ ?_
 ·rw[hI]
  refine⟨0,H.length+1,H.length+2,gu,by omega,by omega,by simpa using Runs.nil,by simp -dsimp[-getElem?_pos,go_sem],by simp -dsimp[-getElem?_pos,go_sem],by simp -dsimp[-getElem?_pos,go_sem],by simp -dsimp[-getElem?_pos,go_sem],by simp -dsimp[-getElem?_pos,go_sem],⟨?_,?_,by omega⟩,by omega,fun z o hz=>by have:=(gsI hz);omega,?_⟩
  ·simp[gu]
  ·simp[gu,aj]
  ·simp
   exact aK _ _ _
 intro m s hs'
 rw[hI]at hs'
 obtain⟨k,c,hid,v,hk,hm,hv,t1,t6,t14,t15,t16,hc,hcl,hhl,kp⟩:=hs'
 simp -dsimp -implicitDefEqProofs [-getElem?_pos,go_sem,hP,t15,t16]
 refine aB (fun hq=>?_) (fun hq=>?_)
 ·have hk:k<r.Moves.length:=by simpa using hq
  obtain⟨a,ha⟩:∃a,r.Moves[k]?=some a:=⟨_,List.getElem?_eq_getElem hk⟩
  have wk:=af ((k:Int)+1) (by omega)
  obtain⟨v',rfl⟩:∃v',v'=v:=⟨_,rfl⟩
  obtain⟨s1,s2⟩:=hnum k a ha
  have hnn:=hv.n
  have hho:=hv.ok
  have htk:r.Moves.take (k+1)=r.Moves.take k++[a]:=by rw[List.take_add_one,ha];rfl
  have htl:(r.Moves.take k).length=k:=by simp;omega
  rw[htl]at hnn hho
  have h00:gu.n=0:=rfl
  have evn:(v'.n:Int)=(k:Int):=by omega
  rw[←evn]at s1
  have wn:=af ((v'.n:Int)+1) (by omega)
  have kb:=gK s2
  simp -dsimp -implicitDefEqProofs [-getElem?_pos,go_sem,hP,t14,t16,ha,fb]
  obtain⟨b,hb⟩:∃b,b=s.H.length:=⟨_,rfl⟩
  obtain⟨H1,hH1⟩:∃H1:ac,H1=s.H++[some ⟨70,7,[[iv a.Number,iv a.Day,iv a.Kind,iv a.Security,iv a.From,iv a.To,iv a.Amount]]⟩]:=⟨_,rfl⟩
  have k1:Kept [] s.H H1:=by rw[hH1];exact aK _ _ _
  have a1:H1[b]?=some (some ⟨70,7,[[iv a.Number,iv a.Day,iv a.Kind,iv a.Security,iv a.From,iv a.To,iv a.Amount]]⟩):=by rw[hH1,hb];simp
  have c1:=hc.kept k1
  have lb1:=(gsI a1)
  rw[←hH1,←hb]
  have gm:=hg a (List.mem_of_getElem? ha) H1 (kp.trans k1)
  rw[fb]at gm
  simp -dsimp -implicitDefEqProofs [-getElem?_pos,go_sem,hP,t1,a1,lb1]
  refine aM (by rw[hr,hs];exact gm) hP hen ?_
  rintro x H2 ⟨rfl,k2⟩
  have a2:=k2 _ _ (by simp) a1
  have c2:=c1.kept k2
  have lb2:=(gsI a2)
  have oc2:=c2.oc
  have lc2:=(gsI oc2)
  simp -dsimp -implicitDefEqProofs [-getElem?_pos,go_sem,hP]
  refine ao (fun _=>true) [17] hP (by kernel_rfl) (by kernel_rfl) ?_
  simp -dsimp -implicitDefEqProofs [-getElem?_pos,go_sem,hP,t6,a2,lb2,oc2,lc2,s1,wn]
  refine ah (dX a.Kind 1 3) hP ji (ai (by simp -dsimp[-getElem?_pos,go_sem])) .sc ?_
  have dm:=fun {row src:Option Nat}=>Pq (row:=row) (src:=src) c hid r.Securities v'.l v'.n v'.d a (2*k) H2 c2 (by have:=hho.len;omega) hsl hso hho (by omega)
  rw[fb]at dm
  simp -dsimp -implicitDefEqProofs [-getElem?_pos,go_sem,hP,kb,t6,a2,lb2,oc2,lc2]
  refine aM (by rw[hr,hs];exact dm) hP KI ?_
  rintro x H3 ⟨rfl,hbad,hd⟩
  by_cases s3:bA r.Securities v'.l v'.d a=0
  rotate_left
  ·have ds:decide (bA r.Securities v'.l v'.d a=0)=false:=decide_eq_false s3
   have k3:=hbad s3
   simp -dsimp -implicitDefEqProofs [-getElem?_pos,go_sem,hP,ds,s3,t6]
   rw[hC]
   exact⟨⟨_,rfl⟩,((kp.trans k1).trans k2).trans k3⟩
  have hv2:Runs r.Securities gu (r.Moves.take (k+1)) (mK v' a):=by rw[htk];exact hv.snoc ⟨by rw[s1],s2,s3⟩
  obtain⟨hid',c3,p3,k3⟩:=hd s3
  simp -dsimp -implicitDefEqProofs [-getElem?_pos,go_sem,hP,s3,t16,wk]
  refine⟨r.Moves.length-(k+1),by omega,?_⟩
  rw[hI]
  refine⟨k+1,c,hid',mK v' a,by omega,rfl,hv2,by simp -dsimp[-getElem?_pos,go_sem,t1],by simp -dsimp[-getElem?_pos,go_sem,t6],by simp -dsimp[-getElem?_pos,go_sem,t14],by simp -dsimp[-getElem?_pos,go_sem,t15],by simp -dsimp[-getElem?_pos,go_sem],?_,hcl,?_,?_⟩
  ·simpa[mK]using c3
  ·exact fun z o hz=>p3 z o (hhl z o hz) (((kp.trans k1).trans k2) z o (by simp) hz)
  ·intro z o _ hz
   have h2:=((kp.trans k1).trans k2) z o (by simp) hz
   have:=(gsI hz)
   have n1:¬z=c:=by omega
   exact k3 z o (by simp[n1,hhl z o hz]) h2
 ·have hk:k=r.Moves.length:=by simp at hq;omega
  subst hk
  rw[List.take_length]at hv
  exact absurd ⟨v,hv⟩ hrun
set_option maxHeartbeats 4000000 in
theorem Dv (r:TRegister) (hin:RegIn r) (hhl:r.Holdings.length≤100000) (hnum:∀(k:Nat) (m:TMove),r.Moves[k]?=some m→m.Number=(k:Int)+1∧(1≤m.Kind∧m.Kind≤3)) (hbad:∀t,Runs r.Securities gu r.Moves t→t.l≠r.Holdings):PFun Tryz.prog none none 52 [.agg r.cells] (·=iv 78):=by
 have h1:=hin.ml
 have h2:=hin.sl
 refine ab Tryz.func52 rfl (by simp[Tryz.f52]) (by kernel_rfl) ?_
 intro E hP hr hs hW hN
 have d1:decide (20<(r.Securities.length:Int))=false:=decide_eq_false (by omega)
 have d2:decide (400<(r.Moves.length:Int))=false:=decide_eq_false (by omega)
 have ir:=gJ r
 simp -dsimp -implicitDefEqProofs [-getElem?_pos,go_sem,hP,dQ,al,d1,d2]
 obtain⟨I,hI⟩:∃I:Nat→St→Prop,I=fun m s=>∃k:Nat,k≤r.Securities.length∧m=r.Securities.length-k∧s.t 1= .ref 0 0 0∧s.t 18=bb r.Securities∧s.t 19=iv r.Securities.length∧s.t 20=iv k∧s.H[0]?=some (some ⟨45,3,[[bb r.Securities,aQ r.Holdings,cB r.Moves]]⟩):=⟨_,rfl⟩
 refine ay I (r.Securities.length) (by rw[hN];rfl) ?_ ?_
 ·rw[hI]
  exact⟨0,by omega,by omega,by simp -dsimp[-getElem?_pos,go_sem],by simp -dsimp[-getElem?_pos,go_sem],by simp -dsimp[-getElem?_pos,go_sem,al],by simp -dsimp[-getElem?_pos,go_sem],by simp -dsimp[-getElem?_pos,go_sem]⟩
 intro m s hs'
 rw[hI]at hs'
 obtain⟨k,hk,hm,t1,t18,t19,t20,g0⟩:=hs'
 have l0:=(gsI g0)
 simp -dsimp -implicitDefEqProofs [-getElem?_pos,go_sem,hP,t19,t20]
 refine aB (fun hq=>?_) (fun hq=>?_)
 ·have hk:k<r.Securities.length:=by simpa using hq
  obtain⟨a,ha⟩:∃a,r.Securities[k]?=some a:=⟨_,List.getElem?_eq_getElem hk⟩
  have wk:=af ((k:Int)+1) (by omega)
  have sp:=Fx a (hin.so a (List.mem_of_getElem? ha))
  rw[jU]at sp
  have g0':∀x:ac,(s.H++x)[0]?=some (some ⟨45,3,[[bb r.Securities,aQ r.Holdings,cB r.Moves]]⟩):=fun x=>by rw[List.getElem?_append_left l0];exact g0
  simp -dsimp -implicitDefEqProofs [-getElem?_pos,go_sem,hP,t18,t20,ha,jU]
  refine ao (fun _=>true) [] hP (by kernel_rfl) (by kernel_rfl) ?_
  simp -dsimp -implicitDefEqProofs [-getElem?_pos,go_sem,hP]
  refine ah sp hP M0 (ai (by simp -dsimp[-getElem?_pos,go_sem])) .sc ?_
  by_cases k0:k=0
  ·subst k0
   have w1:=af 1 (by omega)
   simp -dsimp -implicitDefEqProofs [-getElem?_pos,go_sem,hP,t1,g0',t20,wk,w1]
   refine⟨r.Securities.length-1,by omega,?_⟩
   rw[hI]
   exact⟨1,by omega,rfl,by simp -dsimp[-getElem?_pos,go_sem,t1],by simp -dsimp[-getElem?_pos,go_sem,t18],by simp -dsimp[-getElem?_pos,go_sem,t19],by simp -dsimp[-getElem?_pos,go_sem,w1],by simp -dsimp[-getElem?_pos,go_sem,g0']⟩
  ·obtain⟨j,rfl⟩:∃j,k=j+1:=⟨k-1,by omega⟩
   obtain⟨z,hz⟩:∃z,r.Securities[j]?=some z:=⟨_,List.getElem?_eq_getElem (by omega)⟩
   have lt:=hin.asc j z a hz ha
   have dj:decide ((0:Int)<((j+1:Nat):Int))=true:=decide_eq_true (by omega)
   have wj:=af (((j+1:Nat):Int)-1) (by omega)
   have ej:((j+1:Nat):Int)-1=(j:Int):=by omega
   have dl:decide (a.ID≤z.ID)=false:=decide_eq_false (by omega)
   have lj:j<r.Securities.length:=by omega
   rw[ej]at wj
   have wk2:=af ((j:Int)+1+1) (by omega)
   simp -dsimp -implicitDefEqProofs [-getElem?_pos,go_sem,hP,t1,g0',t20,wk,wk2,dj,wj,ej,hz,jU,dl,lj]
   refine⟨r.Securities.length-(j+1+1),by omega,?_⟩
   rw[hI]
   exact⟨j+1+1,by omega,rfl,by simp -dsimp[-getElem?_pos,go_sem,t1],by simp -dsimp[-getElem?_pos,go_sem,t18],by simp -dsimp[-getElem?_pos,go_sem,t19],by simp -dsimp[-getElem?_pos,go_sem,wk2],by simp -dsimp[-getElem?_pos,go_sem,g0']⟩
 ·have hk:k=r.Securities.length:=by simp at hq;omega
  subst hk
  have ihl:=bD r.Holdings
  have gall:∀m,m∈r.Moves→∀H',Kept [] s.H H'→MFun Tryz.prog E.row E.src 101 [.agg m.cells] H' (fun r H''=>r=bv true∧Kept [] H' H''):=fun m hm H' hk=>(qm ((Ft m).lift E.row E.src) (ai (H:=H') (by simp[nU])) ⟨_,rfl⟩ (by rintro _ rfl;simp[kH])).mono (by rintro x H'' ⟨rfl,rfl⟩;exact⟨rfl,au _ _⟩)
  by_cases hex:∃t,Runs r.Securities gu r.Moves t
  rotate_left
  ·have rm:=E6 (row:=E.row) (src:=E.src) r 101 [] s.H hex hnum hin.ml (by have:=hin.sl;omega) hin.so Em gall
   rw[dQ]at rm
   simp -dsimp -implicitDefEqProofs [-getElem?_pos,go_sem,hP,t1,g0]
   refine aM rm hP Ed ?_
   rintro x H1 ⟨⟨c,rfl⟩,kp⟩
   simp -dsimp -implicitDefEqProofs [-getElem?_pos,go_sem,hP]
   refine ao (fun _=>true) [] hP (by kernel_rfl) (by kernel_rfl) ?_
   simp -dsimp -implicitDefEqProofs [-getElem?_pos,go_sem,hP]
  obtain⟨t,ht⟩:=hex
  have hne:=hbad t ht
  have htl:=ht.ok.len
  have htn:=ht.n
  have rm:=yl (row:=E.row) (src:=E.src) r 101 [] t s.H ht hin.ml (by have:=hin.sl;omega) hin.so Em gall
  rw[dQ]at rm
  simp -dsimp -implicitDefEqProofs [-getElem?_pos,go_sem,hP,t1,g0]
  refine aM rm hP Ed ?_
  rintro x H1 ⟨c,hid,rfl,hc,_,_,kp⟩
  have a1:=kp _ _ (by simp) g0
  have l1:=(gsI a1)
  have oc:=hc.oc
  have lc:=(gsI oc)
  have itl:=bD t.l
  have lq:=oN t.l r.Holdings (by omega) hhl
  rw[decide_eq_false hne]at lq
  simp -dsimp -implicitDefEqProofs [-getElem?_pos,go_sem,hP]
  refine ao (fun _=>true) [] hP (by kernel_rfl) (by kernel_rfl) ?_
  simp -dsimp -implicitDefEqProofs [-getElem?_pos,go_sem,hP,t1,a1,l1,oc,lc]
  refine bM (lq.lift _ _) hP Lu (cY hc.oh (by rw[al]) itl (aH ihl (be.2 trivial))) ⟨_,rfl⟩ (by rintro x rfl;simp[kH]) ?_
  rintro x rfl
  simp -dsimp -implicitDefEqProofs [-getElem?_pos,go_sem,hP]
open Go.PA
open Go.RowKit
abbrev BL (x:TState):Prop:=PFun Tryz.prog none none 14 [.agg x.cells] Cc
theorem nR {j:Nat} {x:TState} (h:CleanS x) (hf:FitS j x):ChkG x 0 0 0 0 0:=by
 have a:=h.aud hf
 have k1:=qC x.Desk.Account hf.d.s hf.d.e
 have k2:=yC x.Desk hf.d
 have k3:=vn x.Cash.Incomes hf.cl
 have k4:=Gg x.Register _ hf.r
 have k5:=yd x.Ledger (by have:=hf.l;omega)
 rw[a.ca]at k1
 rw[a.cd]at k2
 rw[←hf.c]at k3
 rw[a.cp]at k5
 exact⟨k1,k2,k3,k4,k5⟩
theorem tY {α β:Type} {p:α→β→Bool}:∀{a:List α} {b:List β} {i:Nat} {x:α},aG p a b=true→a[i]?=some x→∃y,b[i]?=some y∧p x y=true
 |[],b,i,x,h,hx=>by simp at hx
 |x0::a,[],i,x,h,hx=>by simp[aG]at h
 |x0::a,y::b,0,x,h,hx=>by
  simp[aG]at h
  simp at hx
  subst hx
  exact⟨y,rfl,h.1⟩
 |x0::a,y::b,i+1,x,h,hx=>by
  simp[aG]at h
  exact tY (i:=i) h.2 (by simpa using hx)
theorem uV:∀l:List TPosting,aG (fun p q=>decide (p=q)) l l=true
 |[]=>rfl
 |p::l=>by simp[aG,uV l]
def uW (e:TEntry):TEntry:=⟨e.Number,e.Day,e.From,e.To,e.Amount+1,e.Ref⟩
def kS (e:TPosting):TPosting:=⟨e.Number,e.Day+1,e.Entity,e.Debit,e.Credit,e.Amount,e.Partner,e.Ref⟩
def jo (e:TIncome):TIncome:=⟨e.Number,e.Day+1,e.Payer,e.Amount,e.Claim⟩
def mL (e:TMove):TMove:=⟨e.Number,e.Day,e.Kind,e.Security,e.From,e.To,e.Amount+100⟩
def stE (x:TState) (l:List TEntry):TState:=⟨⟨⟨x.Desk.Account.Credit,x.Desk.Account.Subs,l⟩,x.Desk.Queue,x.Desk.Items⟩,x.Cash,x.Register,x.Ledger⟩
def stP (x:TState) (l:List TPosting):TState:=⟨x.Desk,x.Cash,x.Register,⟨l⟩⟩
def stI (x:TState) (l:List TIncome):TState:=⟨x.Desk,⟨x.Cash.Claims,l,x.Cash.Matches,x.Cash.Loose⟩,x.Register,x.Ledger⟩
def stM (x:TState) (l:List TMove):TState:=⟨x.Desk,x.Cash,⟨x.Register.Securities,x.Register.Holdings,l⟩,x.Ledger⟩
theorem KX {j:Nat} {x:TState} (h:CleanS x) (hf:FitS j x) {i:Nat} {e:TEntry} (hi:x.Desk.Account.Entries[i]?=some e):BL (stE x (x.Desk.Account.Entries.set i (uW e))):=by
 obtain⟨k1,k2,k3,k4,k5⟩:=nR h hf
 have b:=EF h.d.a hi
 have d2:=hf.d
 have k1':=qC (stE x (x.Desk.Account.Entries.set i (uW e))).Desk.Account d2.s (by simpa[stE]using d2.e)
 have k2':=yC (stE x (x.Desk.Account.Entries.set i (uW e))).Desk ⟨d2.s,by simpa[stE]using d2.e,d2.q,d2.i⟩
 have e1:aD (stE x (x.Desk.Account.Entries.set i (uW e))).Desk.Account=62:=b
 rw[e1]at k1'
 exact mC _ ⟨k1',k2',k3,k4,k5⟩ (fun c=>by have:=c.1;omega)
theorem HO {j:Nat} {x:TState} (h:CleanS x) (hf:FitS j x) {i:Nat} {e:TPosting} (hi:x.Ledger.Postings[i]?=some e):BL (stP x (x.Ledger.Postings.set i (kS e))):=by
 obtain⟨k1,k2,k3,k4,k5⟩:=nR h hf
 have hl:=hf.l
 have k5':=yd (stP x (x.Ledger.Postings.set i (kS e))).Ledger (by simp[stP];omega)
 by_cases c:bY (stP x (x.Ledger.Postings.set i (kS e))).Ledger.Postings=0
 ·rw[c]at k5'
  refine EW _ hf.d hf.cl.2 hf.r.mlen (by simp[stP];omega) ⟨k1,k2,k3,k4,k5'⟩ h.fi h.fm x.Ledger.Postings h.fp.symm hl ?_
  cases hh:aG (fun p q=>decide (p=q)) (stP x (x.Ledger.Postings.set i (kS e))).Ledger.Postings x.Ledger.Postings
  ·rfl
  ·have lt:=(gsI hi)
   obtain⟨y,h1,h2⟩:=tY hh (show (x.Ledger.Postings.set i (kS e))[i]?=some (kS e)from List.getElem?_set_self lt)
   rw[hi]at h1
   cases h1
   have:=congrArg TPosting.Day (of_decide_eq_true h2)
   simp[kS]at this
   omega
 ·exact mC _ ⟨k1,k2,k3,k4,k5'⟩ (fun d=>c d.2.2.2.2)
theorem E1 (l:List TIncome) (h1:kr 0 0 l=false) (h2:l.length≤100):PFun Tryz.prog none none 84 [.agg (csh l).cells] (·=iv 70):=by
 refine ab Tryz.func84 rfl (by simp[Tryz.f84]) (by kernel_rfl) ?_
 intro E hP hr hs hW hN
 have ii:=fF l
 have d2:decide ((100:Int)<(l.length:Int))=false:=decide_eq_false (by omega)
 have nc:PFun Tryz.prog none none 138 [.list 6 []] (·=bv true):=by
  refine ab Tryz.func138 rfl (by simp[Tryz.f138]) (by kernel_rfl) ?_
  intro E hP hr hs hW hN
  simp -dsimp -implicitDefEqProofs [-getElem?_pos,go_sem,hP]
  refine ay (fun n s=>n=0∧s=_) 0 (by rw[hN];rfl) ⟨rfl,rfl⟩ ?_
  rintro _ _ ⟨rfl,rfl⟩
  simp -dsimp -implicitDefEqProofs [-getElem?_pos,go_sem,hP]
 simp -dsimp -implicitDefEqProofs [-getElem?_pos,go_sem,hP,Cj,d2]
 refine ah nc hP Lq (ai (by simp -dsimp[-getElem?_pos,go_sem])) .sc ?_
 simp -dsimp -implicitDefEqProofs [-getElem?_pos,go_sem,hP]
 refine ah (sJ l (by omega)) hP JA (ai (by simpa using ii)) .sc ?_
 simp -dsimp -implicitDefEqProofs [-getElem?_pos,go_sem,hP,h1]
theorem Kj {j:Nat} {x:TState} (h:CleanS x) (hf:FitS j x) {i:Nat} {e:TIncome} (hi:x.Cash.Incomes[i]?=some e):BL (stI x (x.Cash.Incomes.set i (jo e))):=by
 obtain⟨k1,k2,k3,k4,k5⟩:=nR h hf
 have hl:=hf.cl.2
 have lt:=(gsI hi)
 have hc:=hf.c
 have ec:(stI x (x.Cash.Incomes.set i (jo e))).Cash=csh (x.Cash.Incomes.set i (jo e)):=by
  have hm:(x.Cash.Incomes.set i (jo e)).map (·.Amount)=x.Cash.Incomes.map (·.Amount):=by
   rw[List.map_set]
   refine List.ext_getElem? fun k=>?_
   by_cases hk:i=k
   ·subst hk
    rw[List.getElem?_set_self (by simpa using lt),List.getElem?_map,hi]
    rfl
   ·rw[List.getElem?_set_ne hk]
  show (⟨x.Cash.Claims,x.Cash.Incomes.set i (jo e),x.Cash.Matches,x.Cash.Loose⟩:TCash)=_
  rw[csh,hm]
  have a1:=congrArg TCash.Claims hc
  have a2:=congrArg TCash.Matches hc
  have a3:=congrArg TCash.Loose hc
  simp only[csh]at a1 a2 a3
  rw[a1,a2,a3]
 have lset:(x.Cash.Incomes.set i (jo e)).length≤100:=by simp;omega
 cases c:kr 0 0 (x.Cash.Incomes.set i (jo e))
 ·have k3':=E1 _ c lset
  rw[←ec]at k3'
  exact mC _ ⟨k1,k2,k3',k4,k5⟩ (fun d=>by have:=d.2.2.1;omega)
 ·have k3':=vn _ ⟨c,lset⟩
  rw[←ec]at k3'
  have hl2:=hf.l
  refine DV _ hf.d (by simp[stI];omega) hf.r.mlen hl2 ⟨k1,k2,k3',k4,k5⟩ ?_ h.fm x.Ledger.Postings h.fp.symm hl2 (uV _)
  cases hh:aG pH (stI x (x.Cash.Incomes.set i (jo e))).Cash.Incomes ((stI x (x.Cash.Incomes.set i (jo e))).Desk.Account.Entries.filter iU)
  ·rfl
  ·obtain⟨y,h1,h2⟩:=tY hh (show (x.Cash.Incomes.set i (jo e))[i]?=some (jo e)from List.getElem?_set_self lt)
   obtain⟨z,h3,h4⟩:=tY h.fi hi
   have h1:(x.Desk.Account.Entries.filter iU)[i]?=some y:=h1
   rw[h3]at h1
   cases h1
   unfold pH at h2 h4
   rw[Bool.and_eq_true,decide_eq_true_eq]at h2 h4
   have q2:(jo e).Day=y.Day:=h2.1
   have q4:e.Day=y.Day:=h4.1
   have q5:(jo e).Day=e.Day+1:=rfl
   omega
theorem xZ:∀(l:List TMove) (i:Nat) (e e':TMove),l[i]?=some e→tu (l.set i e')=tu l-qf e+qf e'
 |[],i,e,e',h=>by simp at h
 |x::l,0,e,e',h=>by
  simp at h
  subst h
  simp[tu]
  omega
 |x::l,i+1,e,e',h=>by
  have:=xZ l i e e' (by simpa using h)
  simp[tu]at this⊢
  omega
theorem CT {secs:List TSecurity} {t u:RepSt} {ms:List TMove} (h:Runs secs t ms u) (k:Nat) (m:TMove) (hm:ms[k]?=some m):m.Number=((t.n+k:Nat):Int)+1∧(1≤m.Kind∧m.Kind≤3):=by
 obtain⟨v,h1,h2⟩:=h.take k
 obtain⟨⟨s1,s2,_⟩,_⟩:=h2 m hm
 have hn:=h1.n
 have lt:=(gsI hm)
 rw[List.length_take,Nat.min_eq_left (by omega)]at hn
 rw[hn]at s1
 exact⟨s1,s2⟩
theorem Im {j:Nat} {x:TState} (h:CleanS x) (hf:FitM j x) {i:Nat} {e:TMove} (hi:x.Register.Moves[i]?=some e):BL (stM x (x.Register.Moves.set i (mL e))):=by
 have hF:=hf.f
 obtain⟨k1,k2,k3,k4,k5⟩:=nR h hF
 have hin:=hF.r.regIn
 have rt:=AL hF.r.run
 have lt:=(gsI hi)
 have num:∀(k:Nat) (m:TMove),(x.Register.Moves.set i (mL e))[k]?=some m→m.Number=(k:Int)+1∧(1≤m.Kind∧m.Kind≤3):=fun k m hm=>by
  by_cases hk:i=k
  ·subst hk
   rw[List.getElem?_set_self lt]at hm
   cases hm
   have:=CT hF.r.run i e hi
   simp[gu]at this
   exact this
  ·rw[List.getElem?_set_ne hk]at hm
   have:=CT hF.r.run k m hm
   simp[gu]at this
   exact this
 have bad:∀t,Runs x.Register.Securities gu (x.Register.Moves.set i (mL e)) t→t.l≠x.Register.Holdings:=fun t ht he=>by
  have r2:=(AL ht).1
  rw[he,rt.1,xZ _ _ _ _ hi]at r2
  have mk:=hf.mv e (List.mem_of_getElem? hi)
  rcases mk with⟨m1,_⟩|⟨m3,_⟩
  ·have d1:qf e=e.Amount:=by rw[qf,if_pos m1]
   have d2:qf (mL e)=e.Amount+100:=by rw[qf,if_pos (show (mL e).Kind=1 from m1)];rfl
   omega
  ·have d1:qf e= -e.Amount:=by rw[qf,if_neg (by omega),if_pos m3]
   have d2:qf (mL e)= -(e.Amount+100):=by rw[qf,if_neg (show¬(mL e).Kind=1 from by show¬e.Kind=1;omega),if_pos (show (mL e).Kind=3 from m3)];rfl
   omega
 have hol:=hF.r.hl.len
 have ml:=hF.r.mlen
 have k4':=Dv (stM x (x.Register.Moves.set i (mL e))).Register ⟨by simp[stM];exact ml,hin.sl,hin.so,hin.asc⟩ (by show x.Register.Holdings.length≤_;omega) num bad
 exact mC _ ⟨k1,k2,k3,k4',k5⟩ (fun d=>by have:=d.2.2.2.1;omega)
end Go.Proofs.YtaenimpfelpafaaGreatDoor
set_option maxRecDepth 100000
namespace Go.Proofs.YtaenimpfelpafaaGreatDoor
open Go.PA
open Go.RowKit
theorem Kc {row src:Option Nat} (H:ac):MFun Tryz.prog row src 63 [.list 5 []] H (IsL (NK 81 5 H)):=by
 have own:MFun Tryz.prog row src 63 [.list 5 []] H (fun r H'=>(r= .nil∧H'=H)∨(r= .sref (H.length+1) 0 0∧H'=H++[none]++[some ⟨81,5,[]⟩])):=by
  refine kY fun A c=>?_
  refine aI Tryz.func63 rfl (by simp[Tryz.f63]) (by kernel_rfl) ⟨.nil,H,.inl ⟨rfl,rfl⟩⟩ ?_
  intro E hP hr hs hN
  cases A with
  |none=>simp -dsimp -implicitDefEqProofs [-getElem?_pos,go_sem,hP]
  |some a=>simp -dsimp -implicitDefEqProofs [-getElem?_pos,go_sem,hP,Ce]
 refine (own.ownNil 81 5).mono ?_
 rintro r H' (⟨H0,h0,rfl,rfl⟩|⟨hne,h⟩)
 ·rcases h0 with⟨_,rfl⟩|⟨h,_⟩
  ·exact .head _
  ·cases h
 ·rcases h with⟨h,_⟩|⟨rfl,rfl⟩
  ·exact absurd h hne
  ·exact .tail _ (.head _)
def PM:List (FuncId×TypeId×Nat):=[(63,81,5)]
theorem dV:iO Tryz.prog (Lt PM):=mV fun x hx H row src=>by
 simp only[PM,List.mem_cons,List.not_mem_nil,or_false]at hx
 subst hx
 exact Kc H
def mM:=zH [(52,9,100),(120,6,132),(82,5,132),(132,1,194),(109,16,165),(165,1,66),(165,1,67),(165,1,68),(165,1,64),(120,10,62),(73,12,114),(114,1,65),(122,20,173),(173,1,63),(173,1,64),(122,17,183),(122,21,183),(81,12,69),(123,9,114),(29,1,62),(29,1,86)]
def mO:FuncId→Nat→DH:=rI [(25,7,⟨[],[7],[]⟩),(26,4,⟨[],[6],[]⟩),(70,7,⟨[],[15],[]⟩),(73,19,⟨[],[11,12],[]⟩),(80,1,⟨[],[19,20],[]⟩),(25,12,⟨[13],[],[]⟩),(125,2,⟨[28],[],[]⟩),(24,10,⟨[10],[],[]⟩),(73,34,⟨[3],[],[4]⟩),(122,23,⟨[8,9],[],[]⟩),(73,24,⟨[7],[],[]⟩),(25,5,⟨[20],[],[]⟩),(72,14,⟨[9,11],[],[]⟩),(114,1,⟨[10],[],[]⟩),(177,1,⟨[9],[],[]⟩),(110,11,⟨[4],[],[]⟩),(81,12,⟨[7],[],[]⟩),(120,10,⟨[13],[],[]⟩),(185,11,⟨[6,7,9,10],[],[0]⟩),(194,5,⟨[12,9],[],[]⟩),(109,35,⟨[12],[],[]⟩),(109,18,⟨[19,22],[],[]⟩),(24,15,⟨[8,11],[],[]⟩),(57,1,⟨[10],[],[]⟩),(24,14,⟨[26,29,32,35],[],[]⟩),(24,3,⟨[14,17],[],[]⟩),(24,2,⟨[14,17],[],[]⟩)]
theorem sk0:KOk Tryz.prog []:=MW
def sl1:KL:=(51,[.list 1 [[iv 1],[iv 2]]],bv true)::[]
theorem sk1:KOk Tryz.prog sl1:=iJ dV sk0 mO mM (by kernel_rfl) (by kernel_rfl)
def sl2:KL:=(129,[.agg [iv 1,iv 0,iv 1,iv 110,iv 410,iv 100,iv 0,iv 0]],bv true)::sl1
theorem sk2:KOk Tryz.prog sl2:=iJ dV sk1 mO mM (by kernel_rfl) (by kernel_rfl)
def sl3:KL:=(12,[.agg [iv 0,.list 2 [[iv 1,iv 0],[iv 2,iv 0]],.nil,.nil,.nil,.nil,.nil,.nil,.nil,.nil,.nil,.nil,.nil,.nil,.nil],.agg [iv 1,iv 0,iv 2,iv 1,iv 0,iv 100,iv 0]],.tup [.agg [iv 0,.list 2 [[iv 1,iv 0],[iv 2,iv 100]],.list 6 [[iv 1,iv 0,iv 0,iv 2,iv 100,iv 0]],.nil,.nil,.nil,.nil,.nil,.list 5 [[iv 1,iv 0,iv 1,iv 100,iv 0]],.nil,.list 1 [[iv 100]],.nil,.nil,.nil,.list 8 [[iv 1,iv 0,iv 1,iv 110,iv 410,iv 100,iv 0,iv 0]]],iv 0])::sl2
theorem sk3:KOk Tryz.prog sl3:=iJ dV sk2 mO mM (by kernel_rfl) (by kernel_rfl)
def sl4:KL:=(82,[.agg [iv 0,.list 2 [[iv 1,iv 0],[iv 2,iv 100]],.list 6 [[iv 1,iv 0,iv 0,iv 2,iv 100,iv 0]]]],iv 0)::sl3
theorem sk4:KOk Tryz.prog sl4:=iJ dV sk3 mO mM (by kernel_rfl) (by kernel_rfl)
def sl5:KL:=(171,[.agg [iv 5,iv 1,iv 60,iv 0,iv 2]],bv true)::sl4
theorem sk5:KOk Tryz.prog sl5:=iJ dV sk4 mO mM (by kernel_rfl) (by kernel_rfl)
def sl6:KL:=(135,[.agg [.list 5 [[iv 5,iv 1,iv 60,iv 0,iv 2]],.list 1 [[iv 5]],.nil]],iv 0)::sl5
theorem sk6:KOk Tryz.prog sl6:=iJ dV sk5 mO mM (by kernel_rfl) (by kernel_rfl)
def sl7:KL:=(73,[.agg [iv 0,.list 2 [[iv 1,iv 0],[iv 2,iv 100]],.list 6 [[iv 1,iv 0,iv 0,iv 2,iv 100,iv 0]],.list 5 [[iv 5,iv 1,iv 60,iv 0,iv 2]],.list 1 [[iv 5]],.nil,.list 7 [[iv 5,iv 1,iv 60,iv 0,iv 2,iv 1,iv 0]]],iv 0],.tup [.agg [iv 0,.list 2 [[iv 1,iv 0],[iv 2,iv 40]],.list 6 [[iv 1,iv 0,iv 0,iv 2,iv 100,iv 0],[iv 2,iv 0,iv 2,iv 0,iv 60,iv 5]],.list 5 [],.list 1 [[iv 5]],.list 3 [[iv 1,iv 0,.list 5 [[iv 5,iv 1,iv 60,iv 0,iv 2]]]],.list 7 [[iv 5,iv 1,iv 60,iv 0,iv 2,iv 2,iv 1]]],.agg [iv 1,iv 0,.list 5 [[iv 5,iv 1,iv 60,iv 0,iv 2]]],iv 0])::sl6
theorem sk7:KOk Tryz.prog sl7:=iJ dV sk6 mO mM (by kernel_rfl) (by kernel_rfl)
def sl8:KL:=(129,[.agg [iv 2,iv 0,iv 1,iv 510,iv 110,iv 60,iv 0,iv 5]],bv true)::sl7
theorem sk8:KOk Tryz.prog sl8:=iJ dV sk7 mO mM (by kernel_rfl) (by kernel_rfl)
def sl9:KL:=(82,[.agg [iv 0,.list 2 [[iv 1,iv 0],[iv 2,iv 40]],.list 6 [[iv 1,iv 0,iv 0,iv 2,iv 100,iv 0],[iv 2,iv 0,iv 2,iv 0,iv 60,iv 5]]]],iv 0)::sl8
theorem sk9:KOk Tryz.prog sl9:=iJ dV sk8 mO mM (by kernel_rfl) (by kernel_rfl)
def Qk:KL:=(199,[.agg [.list 5 [],.list 1 [[iv 5]],.list 3 [[iv 1,iv 0,.list 5 [[iv 5,iv 1,iv 60,iv 0,iv 2]]]]]],bv true)::sl9
theorem TQ:KOk Tryz.prog Qk:=iJ dV sk9 mO mM (by kernel_rfl) (by kernel_rfl)
def Qi:KL:=(136,[.agg [iv 0,.list 2 [[iv 1,iv 0],[iv 2,iv 40]],.list 6 [[iv 1,iv 0,iv 0,iv 2,iv 100,iv 0],[iv 2,iv 0,iv 2,iv 0,iv 60,iv 5]],.list 5 [],.list 1 [[iv 5]],.list 3 [[iv 1,iv 0,.list 5 [[iv 5,iv 1,iv 60,iv 0,iv 2]]]],.list 7 [[iv 5,iv 1,iv 60,iv 0,iv 2,iv 2,iv 1]]],.agg [iv 5,iv 1,iv 60,iv 0,iv 2,iv 2,iv 1]],bv true)::Qk
theorem Ts:KOk Tryz.prog Qi:=iJ dV TQ mO mM (by kernel_rfl) (by kernel_rfl)
def Qf:KL:=(173,[.agg [.list 5 [],.list 1 [[iv 5]],.list 3 [[iv 1,iv 0,.list 5 [[iv 5,iv 1,iv 60,iv 0,iv 2]]]]]],.agg [.list 5 [],.list 1 [[iv 5]],.list 3 [[iv 1,iv 0,.list 5 [[iv 5,iv 1,iv 60,iv 0,iv 2]]]]])::Qi
theorem SS:KOk Tryz.prog Qf:=iJ dV Ts mO mM (by kernel_rfl) (by kernel_rfl)
def QE:KL:=(120,[.agg [iv 0,.list 2 [[iv 1,iv 0],[iv 2,iv 40]],.list 6 [[iv 1,iv 0,iv 0,iv 2,iv 100,iv 0],[iv 2,iv 0,iv 2,iv 0,iv 60,iv 5]]],.agg [iv 3,iv 1,iv 0,iv 2,iv 60,iv 5]],.tup [.agg [iv 0,.list 2 [[iv 1,iv 0],[iv 2,iv 100]],.list 6 [[iv 1,iv 0,iv 0,iv 2,iv 100,iv 0],[iv 2,iv 0,iv 2,iv 0,iv 60,iv 5],[iv 3,iv 1,iv 0,iv 2,iv 60,iv 5]]],iv 0])::Qf
theorem Sm:KOk Tryz.prog QE:=iJ dV SS mO mM (by kernel_rfl) (by kernel_rfl)
def PU:KL:=(12,[.agg [iv 0,.list 2 [[iv 1,iv 0],[iv 2,iv 40]],.list 6 [[iv 1,iv 0,iv 0,iv 2,iv 100,iv 0],[iv 2,iv 0,iv 2,iv 0,iv 60,iv 5]],.list 5 [],.list 1 [[iv 5]],.list 3 [[iv 1,iv 0,.list 5 [[iv 5,iv 1,iv 60,iv 0,iv 2]]]],.list 7 [[iv 5,iv 1,iv 60,iv 0,iv 2,iv 2,iv 1]],.nil,.list 5 [[iv 1,iv 0,iv 1,iv 100,iv 0]],.nil,.list 1 [[iv 100]],.nil,.nil,.nil,.list 8 [[iv 1,iv 0,iv 1,iv 110,iv 410,iv 100,iv 0,iv 0],[iv 2,iv 0,iv 1,iv 510,iv 110,iv 60,iv 0,iv 5]]],.agg [iv 5,iv 1,iv 0,iv 0,iv 5,iv 0,iv 0]],.tup [.agg [iv 0,.list 2 [[iv 1,iv 0],[iv 2,iv 100]],.list 6 [[iv 1,iv 0,iv 0,iv 2,iv 100,iv 0],[iv 2,iv 0,iv 2,iv 0,iv 60,iv 5],[iv 3,iv 1,iv 0,iv 2,iv 60,iv 5]],.list 5 [],.list 1 [[iv 5]],.list 3 [[iv 1,iv 0,.list 5 [[iv 5,iv 1,iv 60,iv 0,iv 2]]]],.list 7 [[iv 5,iv 1,iv 60,iv 0,iv 2,iv 4,iv 1]],.nil,.list 5 [[iv 1,iv 0,iv 1,iv 100,iv 0]],.nil,.list 1 [[iv 100]],.nil,.nil,.nil,.list 8 [[iv 1,iv 0,iv 1,iv 110,iv 410,iv 100,iv 0,iv 0],[iv 2,iv 0,iv 1,iv 510,iv 110,iv 60,iv 0,iv 5],[iv 3,iv 1,iv 1,iv 110,iv 410,iv 60,iv 0,iv 5]]],iv 0])::QE
theorem TM:KOk Tryz.prog PU:=iJ dV Sm mO mM (by kernel_rfl) (by kernel_rfl)
def Ql:KL:=(41,[.agg [iv 0,.list 2 [[iv 1,iv 0],[iv 2,iv 0]],.nil,.nil,.nil,.nil,.nil,.nil,.nil,.nil,.nil,.nil,.nil,.nil,.nil],.list 7 [[iv 1,iv 0,iv 2,iv 1,iv 0,iv 100,iv 0],[iv 2,iv 0,iv 2,iv 1,iv 5,iv 60,iv 0],[iv 3,iv 0,iv 0,iv 0,iv 0,iv 0,iv 0],[iv 5,iv 1,iv 0,iv 0,iv 5,iv 0,iv 0]]],.tup [.agg [iv 0,.list 2 [[iv 1,iv 0],[iv 2,iv 100]],.list 6 [[iv 1,iv 0,iv 0,iv 2,iv 100,iv 0],[iv 2,iv 0,iv 2,iv 0,iv 60,iv 5],[iv 3,iv 1,iv 0,iv 2,iv 60,iv 5]],.list 5 [],.list 1 [[iv 5]],.list 3 [[iv 1,iv 0,.list 5 [[iv 5,iv 1,iv 60,iv 0,iv 2]]]],.list 7 [[iv 5,iv 1,iv 60,iv 0,iv 2,iv 4,iv 1]],.nil,.list 5 [[iv 1,iv 0,iv 1,iv 100,iv 0]],.nil,.list 1 [[iv 100]],.nil,.nil,.nil,.list 8 [[iv 1,iv 0,iv 1,iv 110,iv 410,iv 100,iv 0,iv 0],[iv 2,iv 0,iv 1,iv 510,iv 110,iv 60,iv 0,iv 5],[iv 3,iv 1,iv 1,iv 110,iv 410,iv 60,iv 0,iv 5]]],iv 4,iv 0])::PU
theorem SJ:KOk Tryz.prog Ql:=iJ dV TM mO mM (by kernel_rfl) (by kernel_rfl)
def QB:KL:=(82,[.agg [iv 0,.list 2 [[iv 1,iv 0],[iv 2,iv 100]],.list 6 [[iv 1,iv 0,iv 0,iv 2,iv 100,iv 0],[iv 2,iv 0,iv 2,iv 0,iv 60,iv 5],[iv 3,iv 1,iv 0,iv 2,iv 60,iv 5]]]],iv 0)::Ql
theorem Tc:KOk Tryz.prog QB:=iJ dV SJ mO mM (by kernel_rfl) (by kernel_rfl)
def TL:KL:=(14,[.agg [iv 0,.list 2 [[iv 1,iv 0],[iv 2,iv 100]],.list 6 [[iv 1,iv 0,iv 0,iv 2,iv 100,iv 0],[iv 2,iv 0,iv 2,iv 0,iv 60,iv 5],[iv 3,iv 1,iv 0,iv 2,iv 60,iv 5]],.list 5 [],.list 1 [[iv 5]],.list 3 [[iv 1,iv 0,.list 5 [[iv 5,iv 1,iv 60,iv 0,iv 2]]]],.list 7 [[iv 5,iv 1,iv 60,iv 0,iv 2,iv 4,iv 1]],.nil,.list 5 [[iv 1,iv 0,iv 1,iv 100,iv 0]],.nil,.list 1 [[iv 100]],.nil,.nil,.nil,.list 8 [[iv 1,iv 0,iv 1,iv 110,iv 410,iv 100,iv 0,iv 0],[iv 2,iv 0,iv 1,iv 510,iv 110,iv 60,iv 0,iv 5],[iv 3,iv 1,iv 1,iv 110,iv 410,iv 60,iv 0,iv 5]]]],.nil)::QB
theorem T1:KOk Tryz.prog TL:=iJ dV Tc mO mM (by kernel_rfl) (by kernel_rfl)
theorem lM (row src:Option Nat):PFun Tryz.prog row src 15 [] (·=bv true):=lO (yQ dV (BQ T1)) mO mM 10000 60 (by kernel_rfl) (by kernel_rfl) row src
open Go.PA
open Go.RowKit
theorem Mm {l:List TIncome} (h:CsOk l) {x:TIncome} (hx:x∈l):0≤x.Day∧x.Day≤36000:=by
 have iw:=((ij _ _ _).1 h.1).1 x hx
 have h1:=iw.1
 unfold iK at h1
 simp only[Bool.and_eq_true,btw,decide_eq_true_eq]at h1
 omega
theorem NE {secs:List TSecurity} {u:RepSt} {ms:List TMove} (h:Runs secs gu ms u):∀m,m∈ms→0<m.Amount∧m.Amount≤1000000000000:=by
 induction h with
 |nil=>intro m hm;cases hm
 |@snoc u ms m _ hst ih=>
  intro x hx
  rcases List.mem_append.1 hx with hx|hx
  ·exact ih x hx
  ·simp at hx
   subst hx
   obtain⟨s,hm⟩:=qE hst.2.2
   exact⟨hm.am.1,hm.am.2.1⟩
set_option maxHeartbeats 8000000 in
theorem EG (xs:List Int) (hx:Ng xs) (hl:xs.length≤9223372036854775807):PFun Tryz.prog none none 5 [aF xs] (·=bv true):=by
 refine eV Tryz.func5 rfl (by simp[Tryz.f5]) ?_
 intro E hP hr hs hW hN
 refine bG (by rw[hN];kernel_rfl) ?_
 simp[go_sem,hP]
 refine bG (by rw[hN];kernel_rfl) ?_
 simp[go_sem,hP]
 have hnew:Ml Tryz.prog E.row E.src 7 [aF xs] 85 2 (·=[[aF (xs.take 900),iv 0]]):=by rw[hr,hs];exact OT xs hl
 refine G7 hnew hP TG (ai (by simp[go_sem,aF])) (by simp[fg,go_sem,aF]) ⟨_,rfl⟩ ?_
 rintro es rfl
 simp[go_sem,hP]
 refine Dl 3 0 (ty:=85) (xs:=xs.take 900) (at_:=0) hr hs (by simp[go_sem]) (by simp[go_sem,aF]) (by omega) (by simp;omega) (fun x hx'=>hx x (List.mem_of_mem_take hx')) ?_
 intro E' p hP' hr' hN' hWx
 have hW':∀b,¬E'.W b:=fun b hb=>by
  obtain⟨id,o,ho⟩:=hWx b hb
  rcases id with _|id<;>simp at ho
 rw[hP]at hP'
 rw[hN]at hN'
 clear hnew hP hr hs hW hN hWx E
 rename Env=>E
 rename E.P=_=>hP
 rename E.row=_=>hr
 rename E.N=_=>hN
 rename (∀b,¬E.W b)=>hW
 obtain⟨src,hs⟩:∃src,E.src=src:=⟨_,rfl⟩
 have up:∀{f:FuncId} {args:List AV} {Q:AV→Prop},PFun Tryz.prog (some p) src f args Q→PFun Tryz.prog E.row E.src f args Q:=fun h=>hr▸hs▸h
 refine bG (by rw[hN];kernel_rfl) ?_
 simp -dsimp -implicitDefEqProofs [-getElem?_pos,go_sem,hP]
 refine aO (up (LM p src 14 (by omega))) hP Qm (by simp -dsimp[-getElem?_pos,go_sem]) (Le 14) ?_
 rintro r ⟨x,rfl,hf,hcl⟩ ix
 have hF:=hf.f
 have cst:=fV x
 rw[cst]at ix
 simp -dsimp -implicitDefEqProofs [-getElem?_pos,go_sem,hP,cst]
 obtain⟨Inv,hInv⟩:∃Inv:St→Prop,Inv=fun s=>∃y:TState,BL y∧s.t 4= .ref 1 0 0∧s.H[1]?=some (some (stO y)):=⟨_,rfl⟩
 refine fI Inv (by rw[hN];kernel_rfl) ?_ ?_
 rotate_left
 ·intro s hs'
  rw[hInv]at hs'
  obtain⟨y,fy,t4,g1⟩:=hs'
  have l1:=(gsI g1)
  have iy:=cM y
  have cn:=DD y fy
  rw[fV]at iy cn
  have fy:PFun Tryz.prog none none 14 [.agg y.cells] Cc:=fy
  rw[fV]at fy
  refine bU _ _ _ (by rw[hN];kernel_rfl) ?_
  simp -dsimp -implicitDefEqProofs [-getElem?_pos,go_sem,hP,t4,g1,l1]
  refine ae (cn.lift _ _) hP Qx (by simpa using iy) .sc ?_
  simp -dsimp -implicitDefEqProofs [-getElem?_pos,go_sem,hP,t4,g1,l1]
  refine aO (fy.lift _ _) hP Na (by simpa using iy) zl ?_
  rintro r ⟨l,rfl,hl0,_⟩ _
  have d':0<l.length:=List.length_pos_iff.2 hl0
  have d'':decide ((0:Int)<(l.length:Int))=true:=decide_eq_true (by omega)
  simp -dsimp -implicitDefEqProofs [-getElem?_pos,go_sem,hP,d',d'']
  refine ae (lM _ _) hP A9 (by simp) .sc ?_
  simp -dsimp -implicitDefEqProofs [-getElem?_pos,go_sem,hP]
 simp -dsimp -implicitDefEqProofs [-getElem?_pos,go_sem,hP]
 refine bM (up (zm p src 4 (by omega))) hP p8 (ai (by simp -dsimp[-getElem?_pos,go_sem])) (yX _) (nO _) ?_
 rintro r ⟨z,rfl,_,hz⟩
 have four:z=0∨z=1∨z=2∨(¬z=0∧¬z=1∧¬z=2):=by omega
 rcases four with rfl|rfl|rfl|⟨z0,z1,z2⟩
 ·have hel:=hF.d.e
  simp -dsimp -implicitDefEqProofs [-getElem?_pos,go_sem,hP,al]
  refine eJ 5 3 1 (by simp -dsimp[-getElem?_pos,go_sem]) ?_
  obtain⟨I,hI⟩:∃I:Nat→St→Prop,I=fun m s=>∃(k id:Nat) (out:List Nat),k≤x.Desk.Account.Entries.length∧m=x.Desk.Account.Entries.length-k∧(∀v,v∈out→v<k)∧out.length≤k∧id≠1∧s.t 3=sp p∧s.t 4= .ref 1 0 0∧s.t 5= .sref id 0 out.length∧s.t 46=bu x.Desk.Account.Entries∧s.t 47=iv x.Desk.Account.Entries.length∧s.t 48=iv k∧s.H[1]?=some (some (stO x))∧s.H[id]?=some (some ⟨3,1,out.map fun v=>[iv ((v:Nat):Int)]⟩):=⟨_,rfl⟩
  refine ay I (x.Desk.Account.Entries.length) (by rw[hN];rfl) ?_ ?_
  ·rw[hI]
   exact⟨0,2,[],by omega,by omega,by simp,by simp,by omega,by simp -dsimp[-getElem?_pos,go_sem],by simp -dsimp[-getElem?_pos,go_sem],by simp -dsimp[-getElem?_pos,go_sem],by simp -dsimp[-getElem?_pos,go_sem],by simp -dsimp[-getElem?_pos,go_sem],by simp -dsimp[-getElem?_pos,go_sem],by simp -dsimp[-getElem?_pos,go_sem],by simp -dsimp[-getElem?_pos,go_sem]⟩
  intro m s hs'
  rw[hI]at hs'
  obtain⟨k,id,out,hk,hm,hout,hol,hid,t3,t4,t5,t46,t47,t48,g1,hH⟩:=hs'
  have l1:=(gsI g1)
  have lH:=(gsI hH)
  simp -dsimp -implicitDefEqProofs [-getElem?_pos,go_sem,hP,t47,t48]
  refine aB (fun hq=>?_) (fun hq=>?_)
  ·have hk:k<x.Desk.Account.Entries.length:=by simpa using hq
   obtain⟨e,he⟩:∃e,x.Desk.Account.Entries[k]?=some e:=⟨_,List.getElem?_eq_getElem hk⟩
   have wk:=af ((k:Int)+1) (by omega)
   have g1':∀Y:List (Option AObj),(s.H++Y)[1]?=some (some (stO x)):=fun Y=>by rw[List.getElem?_append_left l1];exact g1
   have gj:∀Y:List (Option AObj),(s.H++Y)[id]?=_:=fun Y=>(List.getElem?_append_left lH).trans hH
   have lid:id<s.H.length+1:=by omega
   have l11:1<s.H.length+1:=by omega
   have road:(e.From=0∨(¬e.From=0∧e.To=0))∨(¬e.From=0∧¬e.To=0):=by omega
   have more:∀v,v∈out++[k]→v<k+1:=fun v hv=>by
    rcases List.mem_append.1 hv with hv|hv
    ·have:=hout v hv;omega
    ·simp at hv;omega
   rcases road with (a1|⟨a1,a2⟩)|⟨a1,a2⟩
   ·have b1:decide (e.From=0)=true:=decide_eq_true a1
    simp -dsimp -implicitDefEqProofs [-getElem?_pos,go_sem,hP,t46,t48,he,cE,b1,t5,gj,hH,lH,lid,wk]
    refine⟨by omega,by omega,?_⟩
    refine⟨x.Desk.Account.Entries.length-(k+1),by omega,?_⟩
    rw[hI]
    refine⟨k+1,s.H.length+1,out++[k],by omega,rfl,more,by simp;omega,by omega,by simp -dsimp[-getElem?_pos,go_sem,t3],by simp -dsimp[-getElem?_pos,go_sem,t4],by simp -dsimp[-getElem?_pos,go_sem],by simp -dsimp[-getElem?_pos,go_sem,t46],by simp -dsimp[-getElem?_pos,go_sem,t47],by simp -dsimp[-getElem?_pos,go_sem],?_,?_⟩
    ·dsimp only
     rw[List.getElem?_append_left (by simp;omega),List.getElem?_set_ne (by omega)]
     exact g1
    ·simp -dsimp -implicitDefEqProofs [-getElem?_pos,go_sem]
   ·have b1:decide (e.From=0)=false:=decide_eq_false a1
    have b2:decide (e.To=0)=true:=decide_eq_true a2
    simp -dsimp -implicitDefEqProofs [-getElem?_pos,go_sem,hP,t46,t48,he,cE,b1,b2,t5,gj,hH,lH,lid,wk]
    refine⟨by omega,by omega,?_⟩
    refine⟨x.Desk.Account.Entries.length-(k+1),by omega,?_⟩
    rw[hI]
    refine⟨k+1,s.H.length+1,out++[k],by omega,rfl,more,by simp;omega,by omega,by simp -dsimp[-getElem?_pos,go_sem,t3],by simp -dsimp[-getElem?_pos,go_sem,t4],by simp -dsimp[-getElem?_pos,go_sem],by simp -dsimp[-getElem?_pos,go_sem,t46],by simp -dsimp[-getElem?_pos,go_sem,t47],by simp -dsimp[-getElem?_pos,go_sem],?_,?_⟩
    ·dsimp only
     rw[List.getElem?_append_left (by simp;omega),List.getElem?_set_ne (by omega)]
     exact g1
    ·simp -dsimp -implicitDefEqProofs [-getElem?_pos,go_sem]
   ·have b1:decide (e.From=0)=false:=decide_eq_false a1
    have b2:decide (e.To=0)=false:=decide_eq_false a2
    simp -dsimp -implicitDefEqProofs [-getElem?_pos,go_sem,hP,t46,t48,he,cE,b1,b2,wk]
    refine⟨x.Desk.Account.Entries.length-(k+1),by omega,?_⟩
    rw[hI]
    exact⟨k+1,id,out,by omega,rfl,fun v hv=>by have:=hout v hv;omega,by omega,hid,by simp -dsimp[-getElem?_pos,go_sem,t3],by simp -dsimp[-getElem?_pos,go_sem,t4],by simp -dsimp[-getElem?_pos,go_sem,t5],by simp -dsimp[-getElem?_pos,go_sem,t46],by simp -dsimp[-getElem?_pos,go_sem,t47],by simp -dsimp[-getElem?_pos,go_sem],by simp -dsimp[-getElem?_pos,go_sem,g1'],by simp -dsimp[-getElem?_pos,go_sem,gj]⟩
  have hk:k=x.Desk.Account.Entries.length:=by simp at hq;omega
  subst hk
  by_cases h0:out.length=0
  ·simp -dsimp -implicitDefEqProofs [-getElem?_pos,go_sem,hP,t5,hH,lH,h0]
   refine ae (lM _ _) hP A9 (by simp) .sc ?_
   simp -dsimp -implicitDefEqProofs [-getElem?_pos,go_sem,hP]
  have d0:decide ((out.length:Int)=0)=false:=decide_eq_false (by omega)
  have hne:x.Desk.Account.Entries≠[]:=fun e=>by rw[e,List.length_nil]at hol;omega
  simp -dsimp -implicitDefEqProofs [-getElem?_pos,go_sem,hP,t5,hH,lH,h0,d0,t4,g1,l1,hne]
  refine⟨by omega,by omega,?_⟩
  obtain⟨N,hN0⟩:∃N,N=s.H.length:=⟨_,rfl⟩
  rw[←hN0]
  obtain⟨H2,hH2⟩:∃H2:ac,H2=List.set s.H 1 (some ⟨50,15,[[iv x.Desk.Account.Credit,aL x.Desk.Account.Subs,.sref N 0 x.Desk.Account.Entries.length,aC x.Desk.Queue.Waiting,.list 1 (aj aS x.Desk.Queue.Known),aX x.Desk.Queue.Batches,bI x.Desk.Items,dt x.Cash.Claims,aR x.Cash.Incomes,cu x.Cash.Matches,.list 1 (aj aS x.Cash.Loose),bb x.Register.Securities,aQ x.Register.Holdings,cB x.Register.Moves,ce x.Ledger.Postings]]⟩)++[some ⟨75,6,aj TEntry.cells x.Desk.Account.Entries⟩]:=⟨_,rfl⟩
  rw[←hH2]
  have g1':H2[1]?=some (some ⟨50,15,[[iv x.Desk.Account.Credit,aL x.Desk.Account.Subs,.sref N 0 x.Desk.Account.Entries.length,aC x.Desk.Queue.Waiting,.list 1 (aj aS x.Desk.Queue.Known),aX x.Desk.Queue.Batches,bI x.Desk.Items,dt x.Cash.Claims,aR x.Cash.Incomes,cu x.Cash.Matches,.list 1 (aj aS x.Cash.Loose),bb x.Register.Securities,aQ x.Register.Holdings,cB x.Register.Moves,ce x.Ledger.Postings]]⟩):=by rw[hH2,List.getElem?_append_left (by simp;omega),List.getElem?_set_self l1]
  have gN:H2[N]?=some (some ⟨75,6,aj TEntry.cells x.Desk.Account.Entries⟩):=by rw[hH2,hN0,List.getElem?_append_right (by simp)];simp
  have gid:H2[id]?=some (some ⟨3,1,out.map fun v=>[iv ((v:Nat):Int)]⟩):=by rw[hH2,List.getElem?_append_left (by simp;omega),List.getElem?_set_ne (by omega)];exact hH
  have ln1:=(List.getElem?_eq_some_iff.1 g1').1
  have lnN:=(gsI gN)
  have lnid:=(gsI gid)
  have nN1:¬N=1:=by omega
  have nN1':¬1=N:=by omega
  have nNid:¬N=id:=by omega
  clear hH2
  refine ao (fun _=>true) [17] hP (by kernel_rfl) (by kernel_rfl) ?_
  simp -dsimp -implicitDefEqProofs [-getElem?_pos,go_sem,hP,t3,t4,t5,g1',gN,gid,ln1,lnN,lnid]
  refine bM (up (zm p src out.length (by omega))) hP p8 (ai (by simp -dsimp[-getElem?_pos,go_sem])) (yX _) (nO _) ?_
  rintro r ⟨a,rfl,_,ha⟩
  have ha:=ha (by omega)
  obtain⟨a,rfl⟩:=Int.eq_ofNat_of_zero_le ha.1
  have hal:a<out.length:=by omega
  have hal':(a:Int)<out.length:=by omega
  obtain⟨i,hi⟩:∃i,out[a]?=some i:=⟨_,List.getElem?_eq_getElem hal⟩
  have hil:i<x.Desk.Account.Entries.length:=hout i (List.mem_of_getElem? hi)
  obtain⟨e,he⟩:∃e,x.Desk.Account.Entries[i]?=some e:=⟨_,List.getElem?_eq_getElem hil⟩
  have hit:(i:Int)<x.Desk.Account.Entries.length:=by omega
  have bd:=yZ hcl.d.a e (List.mem_of_getElem? he)
  have wd:=af (e.Amount+1) (by omega)
  have set2:(aj TEntry.cells x.Desk.Account.Entries).set i [iv e.Number,iv e.Day,iv e.From,iv e.To,iv (e.Amount+1),iv e.Ref]=aj TEntry.cells (x.Desk.Account.Entries.set i (uW e)):=by rw[←fD];rfl
  simp -dsimp -implicitDefEqProofs [-getElem?_pos,go_sem,hP,hal,hal',hi,t3,t4,t5,g1',gN,gid,ln1,lnN,lnid,hit,he,cE,wd,set2]
  refine⟨_,fE (o:=1) (id:=N) (r:=0) (c:=2) (ty:=50) (k:=15) (es:=[[iv x.Desk.Account.Credit,aL x.Desk.Account.Subs,.sref N 0 x.Desk.Account.Entries.length,aC x.Desk.Queue.Waiting,.list 1 (aj aS x.Desk.Queue.Known),aX x.Desk.Queue.Batches,bI x.Desk.Items,dt x.Cash.Claims,aR x.Cash.Incomes,cu x.Cash.Matches,.list 1 (aj aS x.Cash.Loose),bb x.Register.Securities,aQ x.Register.Holdings,cB x.Register.Moves,ce x.Ledger.Postings]]) (e:=[iv x.Desk.Account.Credit,aL x.Desk.Account.Subs,.sref N 0 x.Desk.Account.Entries.length,aC x.Desk.Queue.Waiting,.list 1 (aj aS x.Desk.Queue.Known),aX x.Desk.Queue.Batches,bI x.Desk.Items,dt x.Cash.Claims,aR x.Cash.Incomes,cu x.Cash.Matches,.list 1 (aj aS x.Cash.Loose),bb x.Register.Securities,aQ x.Register.Holdings,cB x.Register.Moves,ce x.Ledger.Postings]) (ty':=75) (kk:=6) (fs:=aj TEntry.cells (x.Desk.Account.Entries.set i (uW e))) (n:=x.Desk.Account.Entries.length) hW (by simp -dsimp[-getElem?_pos,go_sem,g1',gN,ln1,lnN,nN1,nN1']) (by omega) rfl rfl (by simp -dsimp[-getElem?_pos,go_sem,g1',gN,ln1,lnN,nN1,nN1']) (by rw[al];simp) (fe _) (by omega),?_⟩
  rw[hInv]
  exact⟨stE x (x.Desk.Account.Entries.set i (uW e)),KX hcl hF he,by simp -dsimp[-getElem?_pos,go_sem,t4],by simp -dsimp[-getElem?_pos,go_sem,stE,stP,stI,stM,g1',gN,ln1,lnN,nN1,nN1']⟩
 ·have hll:x.Ledger.Postings.length≤100000:=by have:=hF.l;omega
  by_cases h0:x.Ledger.Postings.length=0
  ·have e0:x.Ledger.Postings=[]:=List.eq_nil_of_length_eq_zero h0
   simp -dsimp -implicitDefEqProofs [-getElem?_pos,go_sem,hP,al,h0]
   refine ae (lM _ _) hP A9 (by simp) .sc ?_
   simp -dsimp -implicitDefEqProofs [-getElem?_pos,go_sem,hP]
  have d0:decide ((x.Ledger.Postings.length:Int)=0)=false:=decide_eq_false (by omega)
  have hne:x.Ledger.Postings≠[]:=fun e=>h0 (by rw[e];rfl)
  simp -dsimp -implicitDefEqProofs [-getElem?_pos,go_sem,hP,al,h0,d0,hne]
  refine⟨by omega,by omega,?_⟩
  refine ao (fun _=>true) [15] hP (by kernel_rfl) (by kernel_rfl) ?_
  simp -dsimp -implicitDefEqProofs [-getElem?_pos,go_sem,hP]
  refine bM (up (zm p src x.Ledger.Postings.length (by omega))) hP p8 (ai (by simp -dsimp[-getElem?_pos,go_sem])) (yX _) (nO _) ?_
  rintro r ⟨i,rfl,_,hi⟩
  have hi:=hi (by omega)
  obtain⟨i,rfl⟩:=Int.eq_ofNat_of_zero_le hi.1
  have hil:i<x.Ledger.Postings.length:=by omega
  obtain⟨e,he⟩:∃e,x.Ledger.Postings[i]?=some e:=⟨_,List.getElem?_eq_getElem hil⟩
  have hit:(i:Int)<x.Ledger.Postings.length:=by omega
  have bd:=(nS hcl.cp).2.1 e (List.mem_of_getElem? he) |>.day
  have wd:=af (e.Day+1) (by omega)
  have set2:(aj TPosting.cells x.Ledger.Postings).set i [iv e.Number,iv (e.Day+1),iv e.Entity,iv e.Debit,iv e.Credit,iv e.Amount,iv e.Partner,iv e.Ref]=aj TPosting.cells (x.Ledger.Postings.set i (kS e)):=by rw[←fD];rfl
  simp -dsimp -implicitDefEqProofs [-getElem?_pos,go_sem,hP,hit,he,cP,wd,set2]
  refine⟨_,fE (o:=1) (id:=2) (r:=0) (c:=14) (ty:=50) (k:=15) (es:=[[iv x.Desk.Account.Credit,aL x.Desk.Account.Subs,bu x.Desk.Account.Entries,aC x.Desk.Queue.Waiting,.list 1 (aj aS x.Desk.Queue.Known),aX x.Desk.Queue.Batches,bI x.Desk.Items,dt x.Cash.Claims,aR x.Cash.Incomes,cu x.Cash.Matches,.list 1 (aj aS x.Cash.Loose),bb x.Register.Securities,aQ x.Register.Holdings,cB x.Register.Moves,.sref 2 0 x.Ledger.Postings.length]]) (e:=[iv x.Desk.Account.Credit,aL x.Desk.Account.Subs,bu x.Desk.Account.Entries,aC x.Desk.Queue.Waiting,.list 1 (aj aS x.Desk.Queue.Known),aX x.Desk.Queue.Batches,bI x.Desk.Items,dt x.Cash.Claims,aR x.Cash.Incomes,cu x.Cash.Matches,.list 1 (aj aS x.Cash.Loose),bb x.Register.Securities,aQ x.Register.Holdings,cB x.Register.Moves,.sref 2 0 x.Ledger.Postings.length]) (ty':=77) (kk:=8) (fs:=aj TPosting.cells (x.Ledger.Postings.set i (kS e))) (n:=x.Ledger.Postings.length) hW (by simp -dsimp[-getElem?_pos,go_sem]) (by omega) rfl rfl (by simp -dsimp[-getElem?_pos,go_sem]) (by rw[al];simp) (dG _) (by omega),?_⟩
  rw[hInv]
  exact⟨stP x (x.Ledger.Postings.set i (kS e)),HO hcl hF he,by simp -dsimp[-getElem?_pos,go_sem],by simp -dsimp[-getElem?_pos,go_sem,stE,stP,stI,stM]⟩
 ·have hll:x.Cash.Incomes.length≤100000:=by have:=hF.cl.2;omega
  by_cases h0:x.Cash.Incomes.length=0
  ·have e0:x.Cash.Incomes=[]:=List.eq_nil_of_length_eq_zero h0
   simp -dsimp -implicitDefEqProofs [-getElem?_pos,go_sem,hP,al,h0]
   refine ae (lM _ _) hP A9 (by simp) .sc ?_
   simp -dsimp -implicitDefEqProofs [-getElem?_pos,go_sem,hP]
  have d0:decide ((x.Cash.Incomes.length:Int)=0)=false:=decide_eq_false (by omega)
  have hne:x.Cash.Incomes≠[]:=fun e=>h0 (by rw[e];rfl)
  simp -dsimp -implicitDefEqProofs [-getElem?_pos,go_sem,hP,al,h0,d0,hne]
  refine⟨by omega,by omega,?_⟩
  refine ao (fun _=>true) [15] hP (by kernel_rfl) (by kernel_rfl) ?_
  simp -dsimp -implicitDefEqProofs [-getElem?_pos,go_sem,hP]
  refine bM (up (zm p src x.Cash.Incomes.length (by omega))) hP p8 (ai (by simp -dsimp[-getElem?_pos,go_sem])) (yX _) (nO _) ?_
  rintro r ⟨i,rfl,_,hi⟩
  have hi:=hi (by omega)
  obtain⟨i,rfl⟩:=Int.eq_ofNat_of_zero_le hi.1
  have hil:i<x.Cash.Incomes.length:=by omega
  obtain⟨e,he⟩:∃e,x.Cash.Incomes[i]?=some e:=⟨_,List.getElem?_eq_getElem hil⟩
  have hit:(i:Int)<x.Cash.Incomes.length:=by omega
  have bd:=Mm hF.cl (List.mem_of_getElem? he)
  have wd:=af (e.Day+1) (by omega)
  have set2:(aj TIncome.cells x.Cash.Incomes).set i [iv e.Number,iv (e.Day+1),iv e.Payer,iv e.Amount,iv e.Claim]=aj TIncome.cells (x.Cash.Incomes.set i (jo e)):=by rw[←fD];rfl
  simp -dsimp -implicitDefEqProofs [-getElem?_pos,go_sem,hP,hit,he,Fu,wd,set2]
  refine⟨_,fE (o:=1) (id:=2) (r:=0) (c:=8) (ty:=50) (k:=15) (es:=[[iv x.Desk.Account.Credit,aL x.Desk.Account.Subs,bu x.Desk.Account.Entries,aC x.Desk.Queue.Waiting,.list 1 (aj aS x.Desk.Queue.Known),aX x.Desk.Queue.Batches,bI x.Desk.Items,dt x.Cash.Claims,.sref 2 0 x.Cash.Incomes.length,cu x.Cash.Matches,.list 1 (aj aS x.Cash.Loose),bb x.Register.Securities,aQ x.Register.Holdings,cB x.Register.Moves,ce x.Ledger.Postings]]) (e:=[iv x.Desk.Account.Credit,aL x.Desk.Account.Subs,bu x.Desk.Account.Entries,aC x.Desk.Queue.Waiting,.list 1 (aj aS x.Desk.Queue.Known),aX x.Desk.Queue.Batches,bI x.Desk.Items,dt x.Cash.Claims,.sref 2 0 x.Cash.Incomes.length,cu x.Cash.Matches,.list 1 (aj aS x.Cash.Loose),bb x.Register.Securities,aQ x.Register.Holdings,cB x.Register.Moves,ce x.Ledger.Postings]) (ty':=79) (kk:=5) (fs:=aj TIncome.cells (x.Cash.Incomes.set i (jo e))) (n:=x.Cash.Incomes.length) hW (by simp -dsimp[-getElem?_pos,go_sem]) (by omega) rfl rfl (by simp -dsimp[-getElem?_pos,go_sem]) (by rw[al];simp) (fF _) (by omega),?_⟩
  rw[hInv]
  exact⟨stI x (x.Cash.Incomes.set i (jo e)),Kj hcl hF he,by simp -dsimp[-getElem?_pos,go_sem],by simp -dsimp[-getElem?_pos,go_sem,stE,stP,stI,stM]⟩
 ·have hll:x.Register.Moves.length≤100000:=by have:=hF.r.mlen;omega
  by_cases h0:x.Register.Moves.length=0
  ·have e0:x.Register.Moves=[]:=List.eq_nil_of_length_eq_zero h0
   simp -dsimp -implicitDefEqProofs [-getElem?_pos,go_sem,hP,al,z0,z1,z2,h0]
   refine ae (lM _ _) hP A9 (by simp) .sc ?_
   simp -dsimp -implicitDefEqProofs [-getElem?_pos,go_sem,hP]
  have d0:decide ((x.Register.Moves.length:Int)=0)=false:=decide_eq_false (by omega)
  have hne:x.Register.Moves≠[]:=fun e=>h0 (by rw[e];rfl)
  simp -dsimp -implicitDefEqProofs [-getElem?_pos,go_sem,hP,al,z0,z1,z2,h0,d0,hne]
  refine⟨by omega,by omega,?_⟩
  refine ao (fun _=>true) [15] hP (by kernel_rfl) (by kernel_rfl) ?_
  simp -dsimp -implicitDefEqProofs [-getElem?_pos,go_sem,hP]
  refine bM (up (zm p src x.Register.Moves.length (by omega))) hP p8 (ai (by simp -dsimp[-getElem?_pos,go_sem])) (yX _) (nO _) ?_
  rintro r ⟨i,rfl,_,hi⟩
  have hi:=hi (by omega)
  obtain⟨i,rfl⟩:=Int.eq_ofNat_of_zero_le hi.1
  have hil:i<x.Register.Moves.length:=by omega
  obtain⟨e,he⟩:∃e,x.Register.Moves[i]?=some e:=⟨_,List.getElem?_eq_getElem hil⟩
  have hit:(i:Int)<x.Register.Moves.length:=by omega
  have bd:=NE hF.r.run e (List.mem_of_getElem? he)
  have wd:=af (e.Amount+100) (by omega)
  have set2:(aj TMove.cells x.Register.Moves).set i [iv e.Number,iv e.Day,iv e.Kind,iv e.Security,iv e.From,iv e.To,iv (e.Amount+100)]=aj TMove.cells (x.Register.Moves.set i (mL e)):=by rw[←fD];rfl
  simp -dsimp -implicitDefEqProofs [-getElem?_pos,go_sem,hP,hit,he,fb,wd,set2]
  refine⟨_,fE (o:=1) (id:=2) (r:=0) (c:=13) (ty:=50) (k:=15) (es:=[[iv x.Desk.Account.Credit,aL x.Desk.Account.Subs,bu x.Desk.Account.Entries,aC x.Desk.Queue.Waiting,.list 1 (aj aS x.Desk.Queue.Known),aX x.Desk.Queue.Batches,bI x.Desk.Items,dt x.Cash.Claims,aR x.Cash.Incomes,cu x.Cash.Matches,.list 1 (aj aS x.Cash.Loose),bb x.Register.Securities,aQ x.Register.Holdings,.sref 2 0 x.Register.Moves.length,ce x.Ledger.Postings]]) (e:=[iv x.Desk.Account.Credit,aL x.Desk.Account.Subs,bu x.Desk.Account.Entries,aC x.Desk.Queue.Waiting,.list 1 (aj aS x.Desk.Queue.Known),aX x.Desk.Queue.Batches,bI x.Desk.Items,dt x.Cash.Claims,aR x.Cash.Incomes,cu x.Cash.Matches,.list 1 (aj aS x.Cash.Loose),bb x.Register.Securities,aQ x.Register.Holdings,.sref 2 0 x.Register.Moves.length,ce x.Ledger.Postings]) (ty':=70) (kk:=7) (fs:=aj TMove.cells (x.Register.Moves.set i (mL e))) (n:=x.Register.Moves.length) hW (by simp -dsimp[-getElem?_pos,go_sem]) (by omega) rfl rfl (by simp -dsimp[-getElem?_pos,go_sem]) (by rw[al];simp) (jF _) (by omega),?_⟩
  rw[hInv]
  exact⟨stM x (x.Register.Moves.set i (mL e)),Im hcl hf he,by simp -dsimp[-getElem?_pos,go_sem],by simp -dsimp[-getElem?_pos,go_sem,stE,stP,stI,stM]⟩
end Go.Proofs.YtaenimpfelpafaaGreatDoor
