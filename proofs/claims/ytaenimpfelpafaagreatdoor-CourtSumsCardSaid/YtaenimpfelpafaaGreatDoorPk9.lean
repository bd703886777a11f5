/- Several texts of this claim, joined: Rec16 Rd2 RSt Rd3 CrtS Csum LedOf LedRo SaneCo LawCs. -/
import Derived.Test.YtaenimpfelpafaaGreatDoorPk8
set_option linter.unusedSimpArgs false
set_option linter.unusedVariables false
namespace Go.Proofs.YtaenimpfelpafaaGreatDoor
open Go.PA
open Go.RowKit
theorem sendGo_ws (day:Int):∀(l:List TPayment) (a:TAccount) (ws:List Int) (full:Bool),∃us,us.Sublist (l.map (·.Warrant))∧(sendGo day l a ws full).2.1=ws++us
 |[],a,ws,full=>⟨[],by simp,by simp[sendGo]⟩
 |p::l,a,ws,full=>by
  rw[sendGo]
  split
  ·exact⟨[],by simp,by simp⟩
  ·split
   ·obtain⟨us,h1,h2⟩:=sendGo_ws day l (postA a (nextE a day p.Sub 0 p.Amount p.Warrant)).1 (ws++[p.Warrant]) full
    exact⟨p.Warrant::us,by rw[List.map_cons];exact h1.cons_cons _,by rw[h2];simp⟩
   ·obtain⟨us,h1,h2⟩:=sendGo_ws day l a ws (full||decide ((postA a (nextE a day p.Sub 0 p.Amount p.Warrant)).2=3))
    exact⟨us,by rw[List.map_cons];exact h1.cons _,h2⟩
theorem goD_ws {d:TDesk} (hq:QOk d.Queue) (day:Int):(goD d day).2.1.Nodup∧∀w,w∈(goD d day).2.1→∃p,p∈readyQ d.Queue day∧p.Warrant=w:=by
 obtain⟨us,h1,h2⟩:=sendGo_ws day (readyQ d.Queue day) d.Account [] false
 rw[goD,h2,List.nil_append]
 refine⟨(readyQ_nd hq day).sublist h1,fun w hw=>?_⟩
 obtain⟨p,hp,e⟩:=List.mem_map.1 (h1.subset hw)
 exact⟨p,hp,e⟩
theorem sendGo_chk (day:Int):∀(l:List TPayment) (a:TAccount) (ws:List Int) (full:Bool),checkA a=0→checkA (sendGo day l a ws full).1=0
 |[],a,ws,full,h=>h
 |p::l,a,ws,full,h=>by
  rw[sendGo]
  split
  ·exact h
  ·split
   ·rename_i hp
    exact sendGo_chk day l _ _ _ (post_check hp)
   ·exact sendGo_chk day l _ _ _ h
abbrev accO (a:TAccount):AObj:=⟨28,3,[[iv a.Credit,subsL a.Subs,entsL a.Entries]]⟩
set_option maxHeartbeats 8000000 in
theorem send26_pf (d:TDesk) (day:Int) (hf:FitD d):PFun Tryz.prog none none 151 [.agg d.cells,iv day] (·= .tup [.agg (sendD d day).1.cells,.agg (sendD d day).2.1.cells,iv (sendD d day).2.2]):=by
 refine pfun_introA Tryz.func151 rfl (by simp[Tryz.f151]) ?_
 intro E hP hr hs hW hN
 have li:=hf.i
 have lb:=hf.q.b
 have le:=hf.e
 have id':=imm_desk d
 have ia:=imm_acc d.Account
 have ck:=rcheck26_pf d hf
 simp only[cDn]at id' ck
 simp only[cA]at ia
 obtain⟨R,hR⟩:∃R,R=AV.tup [.agg (sendD d day).1.cells,.agg (sendD d day).2.1.cells,iv (sendD d day).2.2]:=⟨_,rfl⟩
 rw[←hR]
 have zer:∀n,sendD d day=(zeroD,zeroB,n)→AV.tup [.agg zeroD.cells,.agg zeroB.cells,iv n]=R:=fun n h=>by rw[hR,h]
 refine awp_cut (by rw[hN];kernel_rfl) ?_
 simp -dsimp -implicitDefEqProofs [-getElem?_pos,go_sem,hP,cDn]
 refine awp_cut (by rw[hN];kernel_rfl) ?_
 simp -dsimp -implicitDefEqProofs [-getElem?_pos,go_sem,hP]
 refine callB_is (ck.lift _ _) hP en_216 (by simpa using id') .sc ?_
 by_cases c1:checkD d=0
 rotate_left
 ·have:sendD d day=(zeroD,zeroB,checkD d):=by rw[sendD,if_neg c1]
  simp -dsimp -implicitDefEqProofs [-getElem?_pos,go_sem,hP,c1]
  exact done_zeroD3 (zer _ this)
 have hd:=checkD_iff.1 c1
 simp -dsimp -implicitDefEqProofs [-getElem?_pos,go_sem,hP,c1]
 refine awp_cut (by rw[hN];kernel_rfl) ?_
 by_cases b1:day<0
 ·have:sendD d day=(zeroD,zeroB,66):=by rw[sendD,if_pos c1,if_neg (by rw[busB,amg_no (by omega)];simp)]
  simp -dsimp -implicitDefEqProofs [-getElem?_pos,go_sem,hP,b1]
  exact done_zeroD3 (zer _ this)
 have f1:=decide_eq_false b1
 by_cases b2:36000<day
 ·have:sendD d day=(zeroD,zeroB,66):=by rw[sendD,if_pos c1,if_neg (by rw[busB,amg_no (by omega)];simp)]
  simp -dsimp -implicitDefEqProofs [-getElem?_pos,go_sem,hP,b1,f1,b2]
  exact done_zeroD3 (zer _ this)
 have f2:=decide_eq_false b2
 simp -dsimp -implicitDefEqProofs [-getElem?_pos,go_sem,hP,f1,f2]
 refine callB_pure (r02business_pf day) hP en_219 (args_same (by simp -dsimp[-getElem?_pos,go_sem])) .sc ?_
 cases c2:busB day
 ·have:sendD d day=(zeroD,zeroB,66):=by rw[sendD,if_pos c1,if_neg (by simp[c2])]
  simp -dsimp -implicitDefEqProofs [-getElem?_pos,go_sem,hP,c2]
  exact done_zeroD3 (zer _ this)
 simp -dsimp -implicitDefEqProofs [-getElem?_pos,go_sem,hP,c2]
 refine awp_cut (by rw[hN];kernel_rfl) ?_
 simp -dsimp -implicitDefEqProofs [-getElem?_pos,go_sem,hP]
 refine adrawB (fun _=>true) [] hP (by kernel_rfl) (by kernel_rfl) ?_
 simp -dsimp -implicitDefEqProofs [-getElem?_pos,go_sem,hP]
 obtain⟨bs,hbs⟩:∃bs,bs=d.Queue.Batches:=⟨_,rfl⟩
 obtain⟨es,hes⟩:∃es,es=d.Account.Entries:=⟨_,rfl⟩
 obtain⟨Inv,hInv⟩:∃Inv:St→Prop,Inv=fun s=>¬(day<lastQ d.Queue∨day<lastDay d.Account)∧s.t 1=iv day∧s.t 2= .ref 0 0 0∧s.t 4= .ref 1 0 0∧s.t 5= .ref 2 0 0∧s.H=[some (deskO d),some zDeskO,some zBatO]:=⟨_,rfl⟩
 refine awp_join Inv (by rw[hN];kernel_rfl) ?_ ?_
 ·have late:(day<lastQ d.Queue∨day<lastDay d.Account)→sendD d day=(zeroD,zeroB,8):=fun h=>by rw[sendD,if_pos c1,if_pos c2,if_pos h]
  have hdp:=lastDay_pos hd.a
  have hd0:0≤day:=by omega
  rw[←hbs]at lb
  rw[←hes]at le
  have lE:es.length=0→lastDay d.Account=0:=fun h=>by rw[lastDay,lastE_nil (by rw[←hes];exact h)]
  have lE1:∀(j:Nat) (e:TEntry),es.length=j+1→es[j]?=some e→lastDay d.Account=e.Day:=fun j e h h'=>by rw[lastDay,lastE_get (k:=j) (e:=e) (by rw[←hes];exact h) (by rw[←hes];exact h')]
  have lQ:bs.length=0→lastQ d.Queue=0:=fun h=>lastQ_nil (by rw[←hbs];exact h)
  have lQ1:∀(j:Nat) (e:TBatch),bs.length=j+1→bs[j]?=some e→lastQ d.Queue=e.Day:=fun j e h h'=>lastQ_get (k:=j) (by rw[←hbs];exact h) (by rw[←hbs];exact h')
  rcases Nat.eq_zero_or_pos bs.length with n0|n0
  ·have e0:decide (0<bs.length)=false:=decide_eq_false (by omega)
   have lq:=lQ n0
   rcases Nat.eq_zero_or_pos es.length with m0|m0
   ·have e1:decide (0<es.length)=false:=decide_eq_false (by omega)
    have:=lE m0
    simp -dsimp -implicitDefEqProofs [-getElem?_pos,go_sem,hP,←hbs,←hes,e0,e1]
    refine⟨_,Weaker.refl _,?_⟩
    rw[hInv]
    exact⟨by omega,by simp -dsimp[-getElem?_pos,go_sem],by simp -dsimp[-getElem?_pos,go_sem],by simp -dsimp[-getElem?_pos,go_sem],by simp -dsimp[-getElem?_pos,go_sem],by simp[deskO,hbs,hes]⟩
   ·obtain⟨j,hj⟩:∃j,es.length=j+1:=⟨_,(Nat.succ_pred_eq_of_pos m0).symm⟩
    obtain⟨e,hee⟩:∃e,es[j]?=some e:=⟨_,List.getElem?_eq_getElem (by omega)⟩
    have wj:IntKind.i64.wrap (j:Int)=(j:Int):=wrap_in _ (by omega)
    have hle:=lE1 j e hj hee
    by_cases c3:day<e.Day
    ·have d3:=decide_eq_true c3
     simp -dsimp -implicitDefEqProofs [-getElem?_pos,go_sem,hP,←hbs,←hes,e0,m0,hj,wj,Int.add_sub_cancel,hee,cE,d3]
     exact done_zeroD3 (zer _ (late (.inr (by omega))))
    ·have d3:=decide_eq_false c3
     simp -dsimp -implicitDefEqProofs [-getElem?_pos,go_sem,hP,←hbs,←hes,e0,m0,hj,wj,Int.add_sub_cancel,hee,cE,d3]
     refine⟨_,Weaker.refl _,?_⟩
     rw[hInv]
     exact⟨by omega,by simp -dsimp[-getElem?_pos,go_sem],by simp -dsimp[-getElem?_pos,go_sem],by simp -dsimp[-getElem?_pos,go_sem],by simp -dsimp[-getElem?_pos,go_sem],by simp[deskO,hbs,hes]⟩
  ·obtain⟨i,hi⟩:∃i,bs.length=i+1:=⟨_,(Nat.succ_pred_eq_of_pos n0).symm⟩
   obtain⟨b,hb⟩:∃b,bs[i]?=some b:=⟨_,List.getElem?_eq_getElem (by omega)⟩
   have wi:IntKind.i64.wrap (i:Int)=(i:Int):=wrap_in _ (by omega)
   have hlb:=lQ1 i b hi hb
   by_cases c4:day<b.Day
   ·have d4:=decide_eq_true c4
    simp -dsimp -implicitDefEqProofs [-getElem?_pos,go_sem,hP,←hbs,←hes,n0,hi,wi,Int.add_sub_cancel,hb,cBt,d4]
    exact done_zeroD3 (zer _ (late (.inl (by omega))))
   have d4:=decide_eq_false c4
   rcases Nat.eq_zero_or_pos es.length with m0|m0
   ·have e1:decide (0<es.length)=false:=decide_eq_false (by omega)
    have:=lE m0
    simp -dsimp -implicitDefEqProofs [-getElem?_pos,go_sem,hP,←hbs,←hes,n0,hi,wi,hb,cBt,d4,e1]
    refine⟨_,Weaker.refl _,?_⟩
    rw[hInv]
    exact⟨by omega,by simp -dsimp[-getElem?_pos,go_sem],by simp -dsimp[-getElem?_pos,go_sem],by simp -dsimp[-getElem?_pos,go_sem],by simp -dsimp[-getElem?_pos,go_sem],by simp[deskO,hbs,hes]⟩
   ·obtain⟨j,hj⟩:∃j,es.length=j+1:=⟨_,(Nat.succ_pred_eq_of_pos m0).symm⟩
    obtain⟨e,hee⟩:∃e,es[j]?=some e:=⟨_,List.getElem?_eq_getElem (by omega)⟩
    have wj:IntKind.i64.wrap (j:Int)=(j:Int):=wrap_in _ (by omega)
    have hle:=lE1 j e hj hee
    by_cases c3:day<e.Day
    ·have d3:=decide_eq_true c3
     simp -dsimp -implicitDefEqProofs [-getElem?_pos,go_sem,hP,←hbs,←hes,n0,hi,wi,hb,cBt,d4,m0,hj,wj,Int.add_sub_cancel,hee,cE,d3]
     exact done_zeroD3 (zer _ (late (.inr (by omega))))
    ·have d3:=decide_eq_false c3
     simp -dsimp -implicitDefEqProofs [-getElem?_pos,go_sem,hP,←hbs,←hes,n0,hi,wi,hb,cBt,d4,m0,hj,wj,Int.add_sub_cancel,hee,cE,d3]
     refine⟨_,Weaker.refl _,?_⟩
     rw[hInv]
     exact⟨by omega,by simp -dsimp[-getElem?_pos,go_sem],by simp -dsimp[-getElem?_pos,go_sem],by simp -dsimp[-getElem?_pos,go_sem],by simp -dsimp[-getElem?_pos,go_sem],by simp[deskO,hbs,hes]⟩
 intro s hs'
 rw[hInv]at hs'
 obtain⟨c3,t1,t2,t4,t5,hH⟩:=hs'
 clear hInv Inv
 refine awp_cut (by rw[hN];kernel_rfl) ?_
 simp -dsimp -implicitDefEqProofs [-getElem?_pos,go_sem,hP,t2,hH]
 refine awp_cut (by rw[hN];kernel_rfl) ?_
 simp -dsimp -implicitDefEqProofs [-getElem?_pos,go_sem,hP]
 refine awp_cut (by rw[hN];kernel_rfl) ?_
 simp -dsimp -implicitDefEqProofs [-getElem?_pos,go_sem,hP]
 obtain⟨rl,hrl⟩:∃rl,rl=readyQ d.Queue day:=⟨_,rfl⟩
 have hg:goD d day=sendGo day rl d.Account [] false:=by rw[hrl];rfl
 have hll:rl.length≤100000:=by
  have:=(readyQ_sub d.Queue day).length_le
  have:=hf.q.w
  rw[hrl]
  omega
 have hca:=sendGo_chk day rl d.Account [] false hd.a
 have hcl:=sendGo_len day rl d.Account [] false (by simp)
 rw[←hg]at hca hcl
 obtain⟨Inv,hInv⟩:∃Inv:St→Prop,Inv=fun s=>s.t 1=iv day∧s.t 2= .ref 0 0 0∧s.t 4= .ref 1 0 0∧s.t 5= .ref 2 0 0∧s.t 10= .ref 3 0 0∧s.t 11=numsL (goD d day).2.1∧s.t 12=bv (goD d day).2.2∧s.H[0]?=some (some (deskO d))∧s.H[1]?=some (some zDeskO)∧s.H[2]?=some (some zBatO)∧s.H[3]?=some (some (accO (goD d day).1)):=⟨_,rfl⟩
 refine awp_join Inv (by rw[hN];kernel_rfl) ?_ ?_
 ·have rp:=ready25_pf d.Queue day hf.q
  have iq:=imm_que d.Queue
  have irl:=imm_pays rl
  rw[←hrl]at rp
  simp only[cQn]at rp iq
  simp -dsimp -implicitDefEqProofs [-getElem?_pos,go_sem,hP,t2,t1]
  refine callB_is (rp.lift _ _) hP en_220 (by simpa[imm_sc]using iq) irl ?_
  simp -dsimp -implicitDefEqProofs [-getElem?_pos,go_sem,hP]
  refine aloop_own 11 3 1 (by simp -dsimp[-getElem?_pos,go_sem]) ?_
  obtain⟨I,hI⟩:∃I:Nat→St→Prop,I=fun m s=>∃(k wid:Nat) (a:TAccount) (ws:List Int) (full:Bool),k≤rl.length∧m=rl.length-k∧goD d day=sendGo day (rl.drop k) a ws full∧checkA a=0∧ws.length≤10∧4≤wid∧s.t 1=iv day∧s.t 2= .ref 0 0 0∧s.t 4= .ref 1 0 0∧s.t 5= .ref 2 0 0∧s.t 10= .ref 3 0 0∧s.t 11= .sref wid 0 ws.length∧s.t 12=bv full∧s.t 89=paysL rl∧s.t 90=iv rl.length∧s.t 91=iv k∧s.H[0]?=some (some (deskO d))∧s.H[1]?=some (some zDeskO)∧s.H[2]?=some (some zBatO)∧s.H[3]?=some (some (accO a))∧s.H[wid]?=some (some ⟨3,1,encL encI ws⟩):=⟨_,rfl⟩
  refine aloop0 I (rl.length) (by rw[hN];rfl) ?_ ?_
  ·rw[hI]
   refine⟨0,4,d.Account,[],false,by omega,by omega,by rw[hg];rfl,hd.a,by simp,by omega,by simp -dsimp[-getElem?_pos,go_sem,t1],by simp -dsimp[-getElem?_pos,go_sem,t2],by simp -dsimp[-getElem?_pos,go_sem,t4],by simp -dsimp[-getElem?_pos,go_sem,t5],by simp -dsimp[-getElem?_pos,go_sem],by simp -dsimp[-getElem?_pos,go_sem],by simp -dsimp[-getElem?_pos,go_sem],by simp -dsimp[-getElem?_pos,go_sem],by simp -dsimp[-getElem?_pos,go_sem],by simp -dsimp[-getElem?_pos,go_sem],by simp -dsimp[-getElem?_pos,go_sem],by simp -dsimp[-getElem?_pos,go_sem],by simp -dsimp[-getElem?_pos,go_sem],by simp -dsimp[-getElem?_pos,go_sem],by simp -dsimp[-getElem?_pos,go_sem,encL]⟩
  clear t1 t2 t4 t5 hg
  intro m s hs'
  rw[hI]at hs'
  obtain⟨k,wid,a,ws,full,hk,hm,hgo,hca,hw10,hwid,t1,t2,t4,t5,t10,t11,t12,t89,t90,t91,h0,h1,h2,h3,hH⟩:=hs'
  have g0:=(gsI h0)
  have g1:=(gsI h1)
  have g2:=(gsI h2)
  have g3:=(gsI h3)
  have gw:=(gsI hH)
  have fin:goD d day=(a,ws,full)→∀s':St,s'.t 1=iv day→s'.t 2= .ref 0 0 0→s'.t 4= .ref 1 0 0→s'.t 5= .ref 2 0 0→s'.t 10= .ref 3 0 0→s'.t 11= .sref wid 0 ws.length→s'.t 12=bv full→s'.H[0]?=some (some (deskO d))→s'.H[1]?=some (some zDeskO)→s'.H[2]?=some (some zBatO)→s'.H[3]?=some (some (accO a))→s'.H[wid]?=some (some ⟨3,1,encL encI ws⟩)→AInv E Inv s':=fun e s' a1 a2 a3 a4 a0 a5 a6 a7 a8 a9 a10 a11=>by
   have lw:((encL encI ws).drop 0).take ws.length=encL encI ws:=by rw[List.drop_zero,List.take_of_length_le (by rw[encL_len];exact Nat.le_refl _)]
   refine⟨_,weaker_frz hW 11 a5 a11 (by dsimp only;rw[lw];exact imm_nums ws),?_⟩
   rw[hInv,e]
   dsimp only
   rw[lw]
   refine⟨by simp -dsimp[-getElem?_pos,go_sem,a1],by simp -dsimp[-getElem?_pos,go_sem,a2],by simp -dsimp[-getElem?_pos,go_sem,a3],by simp -dsimp[-getElem?_pos,go_sem,a4],by simp -dsimp[-getElem?_pos,go_sem,a0],by simp -dsimp[-getElem?_pos,go_sem],by simp -dsimp[-getElem?_pos,go_sem,a6],?_,?_,?_,?_⟩
   ·rw[List.getElem?_set_ne (by omega),a7]
   ·rw[List.getElem?_set_ne (by omega),a8]
   ·rw[List.getElem?_set_ne (by omega),a9]
   ·rw[List.getElem?_set_ne (by omega),a10]
  simp -dsimp -implicitDefEqProofs [-getElem?_pos,go_sem,hP,t90,t91]
  refine condP (fun hh=>?_) (fun hh=>?_)
  rotate_left
  ·have hk:k=rl.length:=by simp at hh;omega
   subst hk
   rw[List.drop_length,sendGo]at hgo
   simp -dsimp -implicitDefEqProofs [-getElem?_pos,go_sem,hP]
   exact fin hgo _ (by simp -dsimp[-getElem?_pos,go_sem,t1]) (by simp -dsimp[-getElem?_pos,go_sem,t2]) (by simp -dsimp[-getElem?_pos,go_sem,t4]) (by simp -dsimp[-getElem?_pos,go_sem,t5]) (by simp -dsimp[-getElem?_pos,go_sem,t10]) (by simp -dsimp[-getElem?_pos,go_sem,t11]) (by simp -dsimp[-getElem?_pos,go_sem,t12]) (by simp -dsimp[-getElem?_pos,go_sem,h0]) (by simp -dsimp[-getElem?_pos,go_sem,h1]) (by simp -dsimp[-getElem?_pos,go_sem,h2]) (by simp -dsimp[-getElem?_pos,go_sem,h3]) (by simp -dsimp[-getElem?_pos,go_sem,hH])
  have hk:k<rl.length:=by simpa using hh
  obtain⟨p,hp⟩:∃p,rl[k]?=some p:=⟨_,List.getElem?_eq_getElem hk⟩
  have wk:=wrap_in ((k:Int)+1) (by omega)
  rw[drop_at hp,sendGo]at hgo
  by_cases c5:ws.length=10
  ·have d5:decide ((ws.length:Int)=10)=true:=decide_eq_true (by omega)
   rw[if_pos c5]at hgo
   simp -dsimp -implicitDefEqProofs [-getElem?_pos,go_sem,hP,t89,t91,hp,cPy,t11,hH,gw,d5,c5]
   exact fin hgo _ (by simp -dsimp[-getElem?_pos,go_sem,t1]) (by simp -dsimp[-getElem?_pos,go_sem,t2]) (by simp -dsimp[-getElem?_pos,go_sem,t4]) (by simp -dsimp[-getElem?_pos,go_sem,t5]) (by simp -dsimp[-getElem?_pos,go_sem,t10]) (by simp -dsimp[-getElem?_pos,go_sem,t11]) (by simp -dsimp[-getElem?_pos,go_sem,t12]) (by simp -dsimp[-getElem?_pos,go_sem,h0,g0]) (by simp -dsimp[-getElem?_pos,go_sem,h1,g1]) (by simp -dsimp[-getElem?_pos,go_sem,h2,g2]) (by simp -dsimp[-getElem?_pos,go_sem,h3,g3]) (by simp -dsimp[-getElem?_pos,go_sem,hH,gw])
  have d5:decide ((ws.length:Int)=10)=false:=decide_eq_false (by omega)
  rw[if_neg c5]at hgo
  simp -dsimp -implicitDefEqProofs [-getElem?_pos,go_sem,hP,t89,t91,hp,cPy,t11,hH,gw,d5,c5]
  obtain⟨pb,hpb⟩:∃pb,pb=s.H.length:=⟨_,rfl⟩
  obtain⟨H1,hH1⟩:∃H1,H1=s.H++[some (⟨81,5,[[iv p.Warrant,iv p.Payee,iv p.Amount,iv p.Due,iv p.Sub]]⟩:AObj)]:=⟨_,rfl⟩
  have l1:H1.length=pb+1:=by rw[hH1,hpb];simp
  have k0:H1[0]?=some (some (deskO d)):=by rw[hH1,List.getElem?_append_left g0];exact h0
  have k1:H1[1]?=some (some zDeskO):=by rw[hH1,List.getElem?_append_left g1];exact h1
  have k2:H1[2]?=some (some zBatO):=by rw[hH1,List.getElem?_append_left g2];exact h2
  have k3:H1[3]?=some (some (accO a)):=by rw[hH1,List.getElem?_append_left g3];exact h3
  have kw:H1[wid]?=some (some ⟨3,1,encL encI ws⟩):=by rw[hH1,List.getElem?_append_left gw];exact hH
  have kp:H1[pb]?=some (some ⟨81,5,[[iv p.Warrant,iv p.Payee,iv p.Amount,iv p.Due,iv p.Sub]]⟩):=by rw[hH1,hpb,List.getElem?_append_right (Nat.le_refl _),Nat.sub_self];rfl
  simp only[←hH1,←hpb]
  have q0:0<H1.length:=by omega
  have q1:1<H1.length:=by omega
  have q2:2<H1.length:=by omega
  have q3:3<H1.length:=by omega
  have qw:wid<H1.length:=by omega
  have qp:pb<H1.length:=by omega
  have sl:=check_fit hca
  have iac:=imm_acc a
  have nx:=next23_pf a day p.Sub 0 p.Amount p.Warrant sl.2
  obtain⟨e,hee⟩:∃e,e=nextE a day p.Sub 0 p.Amount p.Warrant:=⟨_,rfl⟩
  rw[←hee]at nx hgo
  have ie:=imm_ent e
  have po:=post23_pf a e sl.1 sl.2
  have io:=imm_acc (postA a e).1
  simp only[cA]at iac nx po io
  refine adrawQ (fun i=>decide (i=3)||decide (i=pb)) [15] [9,10] hP (by kernel_rfl) (by kernel_rfl) ?_
  simp -dsimp -implicitDefEqProofs [-getElem?_pos,go_sem,hP,t10,t1,k3,q3,kp,qp]
  refine callQ_is (nx.lift _ _) hP en_215 (by simpa[imm_sc]using iac) ie ?_
  simp -dsimp -implicitDefEqProofs [-getElem?_pos,go_sem,hP,t10,t1,k3,q3,kp,qp]
  refine callQ_is (po.lift _ _) hP en_214 (by simpa using⟨iac,ie⟩) (imm_pair io .sc) ?_
  obtain⟨b,hb⟩:∃b,b=(postA a e).1:=⟨_,rfl⟩
  obtain⟨H2',hH2⟩:∃H2',H2'=H1++[some (accO b)]:=⟨_,rfl⟩
  have l2:H2'.length=pb+2:=by rw[hH2];simp;omega
  have j0:H2'[0]?=some (some (deskO d)):=by rw[hH2,List.getElem?_append_left q0];exact k0
  have j1:H2'[1]?=some (some zDeskO):=by rw[hH2,List.getElem?_append_left q1];exact k1
  have j2:H2'[2]?=some (some zBatO):=by rw[hH2,List.getElem?_append_left q2];exact k2
  have j3:H2'[3]?=some (some (accO a)):=by rw[hH2,List.getElem?_append_left q3];exact k3
  have jw:H2'[wid]?=some (some ⟨3,1,encL encI ws⟩):=by rw[hH2,List.getElem?_append_left qw];exact kw
  have jp:H2'[pb]?=some (some ⟨81,5,[[iv p.Warrant,iv p.Payee,iv p.Amount,iv p.Due,iv p.Sub]]⟩):=by rw[hH2,List.getElem?_append_left qp];exact kp
  have ja:H2'[pb+1]?=some (some (accO b)):=by rw[hH2,←l1,List.getElem?_append_right (Nat.le_refl _),Nat.sub_self];rfl
  have z0:0<H2'.length:=by omega
  have z1:1<H2'.length:=by omega
  have z2:2<H2'.length:=by omega
  have z3:3<H2'.length:=by omega
  have zw:wid<H2'.length:=by omega
  have zp:pb<H2'.length:=by omega
  have za:pb+1<H2'.length:=by omega
  rw[←hb]at hgo
  simp -dsimp -implicitDefEqProofs [-getElem?_pos,go_sem,hP,t10,t1,k3,q3,kp,qp]
  refine⟨fun i hi=>?_,?_⟩
  ·simp only[Bool.or_eq_true,decide_eq_true_eq]at hi
   rw[List.getElem?_append_left (by omega)]
  rw[←hb,←hH2,l1]
  have lws:(encL encI ws).length=ws.length:=encL_len _ _
  have wpb:wid<pb:=by rw[hpb];exact gw
  have nw3:¬wid=3:=by omega
  have next:∀(s':St) (wid':Nat) (a':TAccount) (ws':List Int) (full':Bool),goD d day=sendGo day (rl.drop (k+1)) a' ws' full'→checkA a'=0→ws'.length≤10→4≤wid'→s'.t 1=iv day→s'.t 2= .ref 0 0 0→s'.t 4= .ref 1 0 0→s'.t 5= .ref 2 0 0→s'.t 10= .ref 3 0 0→s'.t 11= .sref wid' 0 ws'.length→s'.t 12=bv full'→s'.t 89=paysL rl→s'.t 90=iv rl.length→s'.t 91=iv (k+1)→s'.H[0]?=some (some (deskO d))→s'.H[1]?=some (some zDeskO)→s'.H[2]?=some (some zBatO)→s'.H[3]?=some (some (accO a'))→s'.H[wid']?=some (some ⟨3,1,encL encI ws'⟩)→∃m',m'<m∧I m' s':=fun s' wid' a' ws' full' x1 x2 x3 x4 x5 x6 x7 x8 x9 x10 x11 x12 x13 x14 x15 x16 x17 x18 x19=>by
   refine⟨rl.length-(k+1),by omega,?_⟩
   rw[hI]
   exact⟨k+1,wid',a',ws',full',by omega,rfl,x1,x2,x3,x4,x5,x6,x7,x8,x9,x10,x11,x12,x13,x14,x15,x16,x17,x18,x19⟩
  by_cases c6:(postA a e).2=0
  rotate_left
  ·rw[if_neg c6]at hgo
   have d6:=decide_eq_false c6
   cases full
   ·rw[Bool.false_or]at hgo
    simp -dsimp -implicitDefEqProofs [-getElem?_pos,go_sem,hP,t12,c6,d6,t91,wk]
    exact next _ wid a ws _ hgo hca hw10 hwid (by simp -dsimp[-getElem?_pos,go_sem,t1]) (by simp -dsimp[-getElem?_pos,go_sem,t2]) (by simp -dsimp[-getElem?_pos,go_sem,t4]) (by simp -dsimp[-getElem?_pos,go_sem,t5]) (by simp -dsimp[-getElem?_pos,go_sem,t10]) (by simp -dsimp[-getElem?_pos,go_sem,t11]) (by simp -dsimp[-getElem?_pos,go_sem]) (by simp -dsimp[-getElem?_pos,go_sem,t89]) (by simp -dsimp[-getElem?_pos,go_sem,t90]) (by simp -dsimp[-getElem?_pos,go_sem]) (by simp -dsimp[-getElem?_pos,go_sem,j0]) (by simp -dsimp[-getElem?_pos,go_sem,j1]) (by simp -dsimp[-getElem?_pos,go_sem,j2]) (by simp -dsimp[-getElem?_pos,go_sem,j3]) (by simp -dsimp[-getElem?_pos,go_sem,jw])
   ·rw[Bool.true_or]at hgo
    simp -dsimp -implicitDefEqProofs [-getElem?_pos,go_sem,hP,t12,c6,d6,t91,wk]
    exact next _ wid a ws _ hgo hca hw10 hwid (by simp -dsimp[-getElem?_pos,go_sem,t1]) (by simp -dsimp[-getElem?_pos,go_sem,t2]) (by simp -dsimp[-getElem?_pos,go_sem,t4]) (by simp -dsimp[-getElem?_pos,go_sem,t5]) (by simp -dsimp[-getElem?_pos,go_sem,t10]) (by simp -dsimp[-getElem?_pos,go_sem,t11]) (by simp -dsimp[-getElem?_pos,go_sem]) (by simp -dsimp[-getElem?_pos,go_sem,t89]) (by simp -dsimp[-getElem?_pos,go_sem,t90]) (by simp -dsimp[-getElem?_pos,go_sem]) (by simp -dsimp[-getElem?_pos,go_sem,j0]) (by simp -dsimp[-getElem?_pos,go_sem,j1]) (by simp -dsimp[-getElem?_pos,go_sem,j2]) (by simp -dsimp[-getElem?_pos,go_sem,j3]) (by simp -dsimp[-getElem?_pos,go_sem,jw])
  have en:encL encI ws++[[AV.sc (.int .i64 p.Warrant)]]=encL encI (ws++[p.Warrant]):=encL_snoc encI ws p.Warrant
  have old:∀j,j≠wid→j≠3→j<H2'.length→((List.set H2' wid none).set 3 (some (accO b))++[some (⟨3,1,encL encI ws++[[AV.sc (.int .i64 p.Warrant)]]⟩:AObj)])[j]?=H2'[j]?:=fun j h1 h3 h2=>by
   rw[List.getElem?_append_left (by rw[List.length_set,List.length_set];exact h2),List.getElem?_set_ne (Ne.symm h3),List.getElem?_set_ne (Ne.symm h1)]
  have u3:((List.set H2' wid none).set 3 (some (accO b))++[some (⟨3,1,encL encI ws++[[AV.sc (.int .i64 p.Warrant)]]⟩:AObj)])[3]?=some (some (accO b)):=by rw[List.getElem?_append_left (by rw[List.length_set,List.length_set];exact z3),List.getElem?_set_self (by rw[List.length_set];exact z3)]
  have uw:((List.set H2' wid none).set 3 (some (accO b))++[some (⟨3,1,encL encI ws++[[AV.sc (.int .i64 p.Warrant)]]⟩:AObj)])[pb+2]?=some (some ⟨3,1,encL encI (ws++[p.Warrant])⟩):=by
   rw[←l2,List.getElem?_append_right (by simp),List.length_set,List.length_set,Nat.sub_self,en];rfl
  cases full
  ·rw[if_pos c6]at hgo
   simp -dsimp -implicitDefEqProofs [-getElem?_pos,go_sem,hP,t12,c6]
   refine adrawB (fun i=>decide (i=pb)||decide (i=pb+1)) [6] hP (by kernel_rfl) (by kernel_rfl) ?_
   simp -dsimp -implicitDefEqProofs [-getElem?_pos,go_sem,hP,t10,t11,j3,z3,jp,zp,ja,za,jw,zw,lws,nw3,t91,wk]
   refine⟨by omega,by omega,fun j hj=>?_,?_⟩
   ·simp only[Bool.or_eq_true,decide_eq_true_eq]at hj
    rw[List.getElem?_append_left (by rw[List.length_set];omega),List.getElem?_set_ne (by omega)]
   exact next _ (pb+2) b (ws++[p.Warrant]) _ hgo (hb▸post_check c6) (by rw[List.length_append,List.length_singleton];omega) (by omega) (by simp -dsimp[-getElem?_pos,go_sem,t1]) (by simp -dsimp[-getElem?_pos,go_sem,t2]) (by simp -dsimp[-getElem?_pos,go_sem,t4]) (by simp -dsimp[-getElem?_pos,go_sem,t5]) (by simp -dsimp[-getElem?_pos,go_sem,t10]) (by simp -dsimp[-getElem?_pos,go_sem,l2]) (by simp -dsimp[-getElem?_pos,go_sem]) (by simp -dsimp[-getElem?_pos,go_sem,t89]) (by simp -dsimp[-getElem?_pos,go_sem,t90]) (by simp -dsimp[-getElem?_pos,go_sem]) ((old 0 (by omega) (by omega) z0).trans j0) ((old 1 (by omega) (by omega) z1).trans j1) ((old 2 (by omega) (by omega) z2).trans j2) u3 uw
  ·rw[if_pos c6]at hgo
   simp -dsimp -implicitDefEqProofs [-getElem?_pos,go_sem,hP,t12,c6]
   refine adrawB (fun i=>decide (i=pb)||decide (i=pb+1)) [6] hP (by kernel_rfl) (by kernel_rfl) ?_
   simp -dsimp -implicitDefEqProofs [-getElem?_pos,go_sem,hP,t10,t11,j3,z3,jp,zp,ja,za,jw,zw,lws,nw3,t91,wk]
   refine⟨by omega,by omega,fun j hj=>?_,?_⟩
   ·simp only[Bool.or_eq_true,decide_eq_true_eq]at hj
    rw[List.getElem?_append_left (by rw[List.length_set];omega),List.getElem?_set_ne (by omega)]
   exact next _ (pb+2) b (ws++[p.Warrant]) _ hgo (hb▸post_check c6) (by rw[List.length_append,List.length_singleton];omega) (by omega) (by simp -dsimp[-getElem?_pos,go_sem,t1]) (by simp -dsimp[-getElem?_pos,go_sem,t2]) (by simp -dsimp[-getElem?_pos,go_sem,t4]) (by simp -dsimp[-getElem?_pos,go_sem,t5]) (by simp -dsimp[-getElem?_pos,go_sem,t10]) (by simp -dsimp[-getElem?_pos,go_sem,l2]) (by simp -dsimp[-getElem?_pos,go_sem]) (by simp -dsimp[-getElem?_pos,go_sem,t89]) (by simp -dsimp[-getElem?_pos,go_sem,t90]) (by simp -dsimp[-getElem?_pos,go_sem]) ((old 0 (by omega) (by omega) z0).trans j0) ((old 1 (by omega) (by omega) z1).trans j1) ((old 2 (by omega) (by omega) z2).trans j2) u3 uw
 intro s hs'
 rw[hInv]at hs'
 obtain⟨t1,t2,t4,t5,t10,t11,t12,h0,h1,h2,h3⟩:=hs'
 clear hInv Inv
 obtain⟨G,hG⟩:∃G,G=goD d day:=⟨_,rfl⟩
 have hws:=goD_ws hd.q day
 rw[←hG]at t11 t12 h3 hws hca hcl
 have g0:=(gsI h0)
 have g1:=(gsI h1)
 have g2:=(gsI h2)
 have g3:=(gsI h3)
 have hsd:sendD d day=if G.2.1.length=0 then (zeroD,zeroB,if G.2.2=true then 3 else 10)else if (takeQ d.Queue day G.2.1).2.2=0 then (⟨G.1,(takeQ d.Queue day G.2.1).1,d.Items.map (sentI G.2.1)⟩,(takeQ d.Queue day G.2.1).2.1,0)else (zeroD,zeroB,(takeQ d.Queue day G.2.1).2.2):=by
  rw[sendD,if_pos c1,if_pos c2,if_neg c3,←hG]
 refine awp_sound _ _ _ (by rw[hN];kernel_rfl) ?_
 by_cases c4:G.2.1.length=0
 ·rw[if_pos c4]at hsd
  have d4:decide ((G.2.1.length:Int)=0)=true:=decide_eq_true (by omega)
  cases hfull:G.2.2
  ·rw[hfull]at t12 hsd
   simp -dsimp -implicitDefEqProofs [-getElem?_pos,go_sem,hP,t11,d4,c4,t4,t5,h1,g1,h2,g2,t12]
   exact done_zeroD3 (zer _ hsd)
  ·rw[hfull]at t12 hsd
   simp -dsimp -implicitDefEqProofs [-getElem?_pos,go_sem,hP,t11,d4,c4,t4,t5,h1,g1,h2,g2,t12]
   exact done_zeroD3 (zer _ hsd)
 rw[if_neg c4]at hsd
 have d4:decide ((G.2.1.length:Int)=0)=false:=decide_eq_false (by omega)
 have lG:G.2.1.length≤100000:=by omega
 have tk:=take25_pf d.Queue day G.2.1 hf.q lG
 have iq:=imm_que d.Queue
 have iqq:=imm_que (takeQ d.Queue day G.2.1).1
 have ibb:=imm_bat (takeQ d.Queue day G.2.1).2.1
 have iws:=imm_nums G.2.1
 have e1:intsL G.2.1=numsL G.2.1:=rfl
 simp only[cQn,cBt,e1]at tk iq iqq ibb
 simp -dsimp -implicitDefEqProofs [-getElem?_pos,go_sem,hP,t11,d4,c4,t1,t2,h0,g0]
 refine callB_is (tk.lift _ _) hP en_221 (by simp[imm_sc];exact⟨by simpa using iq,iws⟩) (imm_trip iqq ibb .sc) ?_
 by_cases c5:(takeQ d.Queue day G.2.1).2.2=0
 rotate_left
 ·rw[if_neg c5]at hsd
  have d5:=decide_eq_false c5
  simp -dsimp -implicitDefEqProofs [-getElem?_pos,go_sem,hP,d5,t4,t5,h1,g1,h2,g2]
  exact done_zeroD3 (zer _ hsd)
 rw[if_pos c5]at hsd
 obtain⟨q',hq'⟩:∃q',q'=(takeQ d.Queue day G.2.1).1:=⟨_,rfl⟩
 obtain⟨bt,hbt⟩:∃bt,bt=(takeQ d.Queue day G.2.1).2.1:=⟨_,rfl⟩
 simp only[←hq',←hbt]at hsd iqq ibb
 simp -dsimp -implicitDefEqProofs [-getElem?_pos,go_sem,hP,c5,←hq',←hbt]
 obtain⟨n,hn⟩:∃n,n=s.H.length:=⟨_,rfl⟩
 obtain⟨H5,hH5⟩:∃H5,H5=s.H++[some ⟨32,3,[[paysL q'.Waiting,numsL q'.Known,batsL q'.Batches]]⟩,some (⟨140,3,[[iv bt.Number,iv bt.Day,paysL bt.Payments]]⟩:AObj)]:=⟨_,rfl⟩
 have l5:H5.length=n+2:=by rw[hH5,hn];simp
 have old:∀j,j<s.H.length→H5[j]?=s.H[j]?:=fun j h2=>by rw[hH5,List.getElem?_append_left h2]
 have u0:=(old 0 g0).trans h0
 have u1:=(old 1 g1).trans h1
 have u2:=(old 2 g2).trans h2
 have u3:=(old 3 g3).trans h3
 have uq:H5[n]?=some (some ⟨32,3,[[paysL q'.Waiting,numsL q'.Known,batsL q'.Batches]]⟩):=by rw[hH5,hn,List.getElem?_append_right (Nat.le_refl _),Nat.sub_self];rfl
 have ub:H5[n+1]?=some (some ⟨140,3,[[iv bt.Number,iv bt.Day,paysL bt.Payments]]⟩):=by rw[hH5,hn,List.getElem?_append_right (by omega),Nat.add_sub_cancel_left];rfl
 rw[←hn]at g0 g1 g2 g3
 rw[←hH5,←hn]
 have v0:0<H5.length:=by omega
 have v3:3<H5.length:=by omega
 have vq:n<H5.length:=by omega
 have vb:n+1<H5.length:=by omega
 refine adrawB (fun i=>decide (i=3)||decide (i=n)) [2,4,5] hP (by kernel_rfl) (by kernel_rfl) ?_
 simp -dsimp -implicitDefEqProofs [-getElem?_pos,go_sem,hP,t10,t2,u3,v3,uq,vq,u0,v0]
 refine⟨fun j hj=>?_,?_⟩
 ·simp only[Bool.or_eq_true,decide_eq_true_eq]at hj
  rw[List.getElem?_set_ne (by omega)]
 simp -dsimp -implicitDefEqProofs [-getElem?_pos,go_sem,hP,t11]
 obtain⟨ws,hwsd⟩:∃ws,ws=G.2.1:=⟨_,rfl⟩
 rw[←hwsd]at hws hsd
 have lws10:ws.length≤10:=by rw[hwsd];exact hcl
 obtain⟨K,hK⟩:∃I:Nat→St→Prop,I=fun m s=>∃k:Nat,k≤ws.length∧m=ws.length-k∧s.t 2= .ref 0 0 0∧s.t 4= .ref 1 0 0∧s.t 5= .ref 2 0 0∧s.t 18= .ref (n+1) 0 0∧s.t 152=numsL ws∧s.t 153=iv ws.length∧s.t 154=iv k∧s.H[0]?=some (some (deskO ⟨G.1,q',d.Items.map (sentI (ws.take k))⟩))∧s.H[1]?=some (some zDeskO)∧s.H[2]?=some (some zBatO)∧s.H[n+1]?=some (some ⟨140,3,[[iv bt.Number,iv bt.Day,paysL bt.Payments]]⟩):=⟨_,rfl⟩
 refine aloop0 K (ws.length) (by rw[hN];rfl) ?_ ?_
 ·rw[hK]
  refine⟨0,by omega,by omega,by simp -dsimp[-getElem?_pos,go_sem,t2],by simp -dsimp[-getElem?_pos,go_sem,t4],by simp -dsimp[-getElem?_pos,go_sem,t5],by simp -dsimp[-getElem?_pos,go_sem,hn],by simp -dsimp[-getElem?_pos,go_sem,hwsd],by simp -dsimp[-getElem?_pos,go_sem,hwsd],by simp -dsimp[-getElem?_pos,go_sem],?_,?_,?_,?_⟩
  ·rw[List.take_zero,sentI_nil]
   simp -dsimp -implicitDefEqProofs [-getElem?_pos,go_sem,v0]
  ·dsimp only;rw[List.getElem?_set_ne (by omega)];exact u1
  ·dsimp only;rw[List.getElem?_set_ne (by omega)];exact u2
  ·dsimp only;rw[List.getElem?_set_ne (by omega)];exact ub
 clear t1 t2 t4 t5 t10 t11 t12 h0 h1 h2 h3 u0 u1 u2 u3 uq ub
 intro m s hs'
 rw[hK]at hs'
 obtain⟨k,hk,hm,t2,t4,t5,t18,t152,t153,t154,h0,h1,h2,hb⟩:=hs'
 have g0:=(gsI h0)
 have g1:=(gsI h1)
 have g2:=(gsI h2)
 have gb:=(gsI hb)
 simp -dsimp -implicitDefEqProofs [-getElem?_pos,go_sem,hP,t153,t154]
 refine condP (fun hh=>?_) (fun hh=>?_)
 ·have hk:k<ws.length:=by simpa using hh
  obtain⟨w,hw⟩:∃w,ws[k]?=some w:=⟨_,List.getElem?_eq_getElem hk⟩
  have wk:=wrap_in ((k:Int)+1) (by omega)
  obtain⟨p,hp,hpw⟩:=hws.2 w (List.mem_of_getElem? hw)
  obtain⟨i,x,hx,hxp,hxs⟩:=wait_item hd ((readyQ_sub d.Queue day).subset hp)
  have hxw:x.Payment.Warrant=w:=by rw[hxp,hpw]
  have hnw:w∉ws.take k:=fun h=>by
   have h2:ws=ws.take k++ws.drop k:=(List.take_append_drop k ws).symm
   have h1:=hws.1
   rw[h2]at h1
   refine (List.nodup_append.1 h1).2.2 _ h w ?_ rfl
   rw[drop_at hw]
   simp
  obtain⟨hxL,hset⟩:=sentI_set hd.nd hx (ws:=ws.take k) (by rw[hxw];exact hnw)
  have hxa:0≤x.Attempts∧x.Attempts≤5:=(item_facts hd (List.mem_of_getElem? hx)).2.2.2.1
  have wa:=wrap_in (x.Attempts+1) (by omega)
  obtain⟨L,hL⟩:∃L,L=d.Items.map (sentI (ws.take k)):=⟨_,rfl⟩
  have lL:L.length=d.Items.length:=by rw[hL,List.length_map]
  have hLw:L.map wrt=d.Items.map wrt:=by rw[hL,sentI_wrt]
  rw[←hL]at h0 hxL hset
  rw[hxw,←take_at hw]at hset
  have hpos:posI L w=i:=by rw[←hxw];exact posI_at (by rw[hLw];exact hd.nd) hxL
  have rt:=rat_pf ⟨G.1,q',L⟩ w (by simp only;omega)
  have wt:=with_pf ⟨G.1,q',L⟩ i ⟨x.Payment,2,x.Attempts+1⟩ (by simp only;omega) (by simp only;exact (gsI hxL))
  have iL:=imm_desk ⟨G.1,q',L⟩
  have iL2:=imm_desk ⟨G.1,q',L.set i ⟨x.Payment,2,x.Attempts+1⟩⟩
  have ix2:=imm_item ⟨x.Payment,2,x.Attempts+1⟩
  rw[hset]at wt iL2
  simp only[hpos]at rt
  simp only[cDn,cIt]at rt wt iL iL2 ix2
  simp -dsimp -implicitDefEqProofs [-getElem?_pos,go_sem,hP,t152,t154,hw,encI,t2,h0,g0]
  refine callB_is (rt.lift _ _) hP en_222 (by simpa[imm_sc]using iL) .sc ?_
  simp -dsimp -implicitDefEqProofs [-getElem?_pos,go_sem,hP,t2,h0,g0,hxL,cIt,wa]
  refine callB_is (wt.lift _ _) hP en_223 (by simpa[imm_sc]using⟨iL,ix2⟩) iL2 ?_
  have g0':∀y:Option AObj,(s.H++[y])[0]?=s.H[0]?:=fun y=>List.getElem?_append_left g0
  simp -dsimp -implicitDefEqProofs [-getElem?_pos,go_sem,hP,t2,g0',h0,g0,t154,wk]
  refine⟨ws.length-(k+1),by omega,?_⟩
  rw[hK]
  refine⟨k+1,by omega,rfl,by simp -dsimp[-getElem?_pos,go_sem,t2],by simp -dsimp[-getElem?_pos,go_sem,t4],by simp -dsimp[-getElem?_pos,go_sem,t5],by simp -dsimp[-getElem?_pos,go_sem,t18],by simp -dsimp[-getElem?_pos,go_sem,t152],by simp -dsimp[-getElem?_pos,go_sem,t153],by simp -dsimp[-getElem?_pos,go_sem],?_,?_,?_,?_⟩
  ·simp -dsimp -implicitDefEqProofs [-getElem?_pos,go_sem,g0]
  ·simp -dsimp -implicitDefEqProofs [-getElem?_pos,go_sem,g1,h1]
  ·simp -dsimp -implicitDefEqProofs [-getElem?_pos,go_sem,g2,h2]
  ·have nb:¬0=n+1:=by omega
   simp -dsimp -implicitDefEqProofs [-getElem?_pos,go_sem,gb,hb,nb]
 ·have hk:k=ws.length:=by simp at hh;omega
  subst hk
  rw[List.take_length]at h0
  simp -dsimp -implicitDefEqProofs [-getElem?_pos,go_sem,hP]
  have n12:¬1=2:=by omega
  refine adrawB (fun i=>decide (i=0)||decide (i=n+1)) [] hP (by kernel_rfl) (by kernel_rfl) ?_
  simp -dsimp -implicitDefEqProofs [-getElem?_pos,go_sem,hP,t2,t4,t5,t18,h0,g0,h1,g1,h2,g2,hb,gb,n12]
  refine⟨fun j hj=>?_,fun j hj=>?_,?_⟩
  ·simp only[Bool.or_eq_true,decide_eq_true_eq]at hj
   rw[List.getElem?_set_ne (by omega)]
  ·simp only[Bool.or_eq_true,decide_eq_true_eq]at hj
   rw[List.getElem?_set_ne (by omega)]
  have iD:=imm_desk ⟨G.1,q',d.Items.map (sentI ws)⟩
  refine done_trip (cs':=TDesk.cells ⟨G.1,q',d.Items.map (sentI ws)⟩) (ds':=TBatch.cells bt) (cw_immL (imm_agg.1 iD)) (cw_immL (imm_agg.1 ibb)) ?_
  rw[hR,hsd]
open Go.PA
open Go.RowKit
abbrev zO:AObj:=⟨50,15,[[iv 0,.nil,.nil,.nil,.nil,.nil,.nil,.nil,.nil,.nil,.nil,.nil,.nil,.nil,.nil]]⟩
set_option maxHeartbeats 2000000 in
theorem renter_pf (s:TState) (hf:FitD s.Desk) (day f t n:Int):PFun Tryz.prog none none 149 [.agg s.cells,iv day,iv f,iv t,iv n] (·= .tup [.agg (zS (moveS s day f t n)).1.cells,iv (zS (moveS s day f t n)).2]):=by
 have nx:=next23_pf s.Desk.Account day f t n 0 hf.e
 have po:=post23_pf s.Desk.Account (nextE s.Desk.Account day f t n 0) hf.s hf.e
 have im:=imm_acc s.Desk.Account
 have ie:=imm_ent (nextE s.Desk.Account day f t n 0)
 obtain⟨ee,hee⟩:∃ee,ee=nextE s.Desk.Account day f t n 0:=⟨_,rfl⟩
 rw[←hee]at nx po ie
 obtain⟨b,e,hb⟩:∃b e,postA s.Desk.Account ee=(b,e):=⟨_,_,rfl⟩
 rw[hb]at po
 have ib:=imm_acc b
 have hS:moveS s day f t n=if e=0 then (setAcc s b,0)else (s,e):=by rw[moveS,←hee,hb]
 have i2:=imm_st (setAcc s b)
 have c2:(setAcc s b).cells=[iv b.Credit,subsL b.Subs,entsL b.Entries,paysL s.Desk.Queue.Waiting,.list 1 (encL encI s.Desk.Queue.Known),batsL s.Desk.Queue.Batches,itemsL s.Desk.Items,claimsL s.Cash.Claims,incomesL s.Cash.Incomes,matchesL s.Cash.Matches,.list 1 (encL encI s.Cash.Loose),secsL s.Register.Securities,holdsL s.Register.Holdings,movesL s.Register.Moves,postsL s.Ledger.Postings]:=rfl
 rw[cA]at nx po im ib
 rw[cA]at po
 rw[cE]at nx po ie
 rw[hS]
 refine pfun_intro Tryz.func149 rfl (by simp[Tryz.f149]) (by kernel_rfl) ?_
 intro E hP hr hs hW hN
 simp -dsimp -implicitDefEqProofs [-getElem?_pos,go_sem,hP,cStX]
 refine adrawQ (fun i=>decide (i<2)) [16] [10,11] hP (by kernel_rfl) (by kernel_rfl) ?_
 simp -dsimp -implicitDefEqProofs [-getElem?_pos,go_sem,hP,restr_get]
 refine callQ_isQ (nx.lift _ _) hP en_215 (by simp[im,imm_sc]) ⟨_,rfl,ie⟩ ?_
 rintro r rfl _
 simp -dsimp -implicitDefEqProofs [-getElem?_pos,go_sem,hP,restr_get]
 refine callQ_isQ (po.lift _ _) hP en_214 (by simp[im,ie]) ⟨_,rfl,imm_pair ib .sc⟩ ?_
 rintro r rfl _
 simp -dsimp -implicitDefEqProofs [-getElem?_pos,go_sem,hP,restr_get]
 refine⟨agree_2,?_⟩
 by_cases he:e=0
 ·subst he
  rw[if_pos rfl,zS_ok]
  simp -dsimp -implicitDefEqProofs [-getElem?_pos,go_sem,hP]
  rw[c2]at i2⊢
  exact done_imm (imm_pair i2 .sc) rfl
 ·have d1:decide (e=0)=false:=decide_eq_false he
  rw[if_neg he,zS_err he]
  simp -dsimp -implicitDefEqProofs [-getElem?_pos,go_sem,hP,d1]
  exact done_agg2 (cs':=zeroSt.cells) cw_zeroS rfl
structure FitM (j:Nat) (s:TState):Prop where
 f:FitS j s
 s0:s.Register.Securities=secs0
 mv:∀m,m∈s.Register.Moves→MvOk m
theorem cDskX (d:TDesk):d.cells=[iv d.Account.Credit,subsL d.Account.Subs,entsL d.Account.Entries,paysL d.Queue.Waiting,.list 1 (encL encI d.Queue.Known),batsL d.Queue.Batches,itemsL d.Items]:=rfl
theorem imm_trip4 {cs:List AV} {l:AV} {v:Value} (h1:Imm (.agg cs)) (h2:Imm l):Imm (.tup [.agg cs,l,.sc v]):=imm_tup.2 fun a ha=>by
 simp only[List.mem_cons,List.not_mem_nil,or_false]at ha
 rcases ha with rfl|rfl|rfl
 ·exact h1
 ·exact h2
 ·exact .sc
theorem imm_trip5 {cs ds:List AV} {v:Value} (h1:Imm (.agg cs)) (h2:Imm (.agg ds)):Imm (.tup [.agg cs,.agg ds,.sc v]):=imm_trip4 h1 h2
set_option maxHeartbeats 16000000 in
theorem rcarry_pf {j:Nat} {s:TState} (d:TDeed) (h:FitM j s) (hj:j<399):PFun Tryz.prog none none 93 [.agg s.cells,.agg d.cells] (·= .tup [.agg (zS (doK s d)).1.cells,iv (zS (doK s d)).2]):=by
 have hf:=h.f
 have hd:=hf.d
 have hm:=hf.rm
 have id0:Imm (.agg s.Desk.cells):=imm_agg.2 s.Desk.imm
 have ic0:Imm (.agg s.Cash.cells):=imm_agg.2 s.Cash.imm
 have ir0:=imm_reg s.Register
 have is0:=imm_st s
 obtain⟨R,hR⟩:∃R,R=doK s d:=⟨_,rfl⟩
 obtain⟨Q,hQ⟩:∃Q:AV→Prop,Q=(·= .tup [.agg (zS R).1.cells,iv (zS R).2]):=⟨_,rfl⟩
 rw[←hR,←hQ]
 have qo:∀x,R=(x,0)→Q (.tup [.agg x.cells,iv 0]):=fun x e=>by rw[hQ,e];rfl
 have qe:∀x e,R=(x,e)→e≠0→Q (.tup [.agg zeroSt.cells,iv e]):=fun x e h1 h2=>by rw[hQ,h1,zS_err h2]
 have qs:Q (.tup [.agg (zS R).1.cells,iv (zS R).2]):=by rw[hQ]
 clear hQ
 have en:∀(x:TState) (day f t n:Int),FitD x.Desk→PFun Tryz.prog none none 149 [.agg x.cells,iv day,iv f,iv t,iv n] (·= .tup [.agg (zS (moveS x day f t n)).1.cells,iv (zS (moveS x day f t n)).2]):=fun x day f t n hx=>renter_pf x hx day f t n
 have cst:∀(D:TDesk) (C:TCash) (G:TRegister),(⟨D,C,G,s.Ledger⟩:TState).cells=[iv D.Account.Credit,subsL D.Account.Subs,entsL D.Account.Entries,paysL D.Queue.Waiting,.list 1 (encL encI D.Queue.Known),batsL D.Queue.Batches,itemsL D.Items,claimsL C.Claims,incomesL C.Incomes,matchesL C.Matches,.list 1 (encL encI C.Loose),secsL G.Securities,holdsL G.Holdings,movesL G.Moves,postsL s.Ledger.Postings]:=fun D C G=>rfl
 have cst0:=cStX s
 refine pfun_intro Tryz.func93 rfl (by simp[Tryz.f93]) (by kernel_rfl) ?_
 intro E hP hr hs hW hN
 have road:d.Kind=1∨d.Kind=2∨d.Kind=3∨d.Kind=4∨d.Kind=5∨d.Kind=6∨d.Kind=7∨d.Kind=8∨d.Kind=9∨(d.Kind≠1∧d.Kind≠2∧d.Kind≠3∧d.Kind≠4∧d.Kind≠5∧d.Kind≠6∧d.Kind≠7∧d.Kind≠8∧d.Kind≠9):=by omega
 rcases road with hk|hk|hk|hk|hk|hk|hk|hk|hk|hk
 ·have k1:decide (d.Kind=1)=true:=by rw[hk];rfl
  have hR2:R=receiveS s d:=by rw[hR,doK,if_pos hk]
  clear hR
  rw[receiveS]at hR2
  by_cases a1:d.Sub=1
  ·have b1:decide (d.Sub=1)=true:=decide_eq_true a1
   rw[if_pos a1]at hR2
   simp -dsimp -implicitDefEqProofs [-getElem?_pos,go_sem,hP,cst0,cDeedX,k1,b1]
   exact done_agg2 (cs':=zeroSt.cells) cw_zeroS (qe s 60 hR2 (by omega))
  have b1:decide (d.Sub=1)=false:=decide_eq_false a1
  rw[if_neg a1]at hR2
  have tk:=rtakeL_pf s.Cash.Incomes (incS s d) hf.cl
  rw[←hf.c]at tk
  have ici:=imm_agg.2 (incS s d).imm
  obtain⟨c',e,hT⟩:∃c' e,takeL s.Cash.Incomes (incS s d)=(c',e):=⟨_,_,rfl⟩
  have hS:R=if e=0 then moveS ⟨s.Desk,c',s.Register,s.Ledger⟩ d.Day 0 d.Sub d.Amount else (s,e):=by
   rw[hR2]
   rw[takeL]at hT
   split at hT<;>rename_i ht<;>cases hT
   ·rw[if_pos ht,if_pos rfl]
   ·rw[if_neg ht,if_neg ht]
  clear hR2
  rw[hT]at tk
  have icr:=imm_csh c'
  have im:Imm (.list 3 []):=imm_matches []
  have hin:(incS s d).cells=[iv (nextN s.Cash),iv d.Day,iv d.Who,iv d.Amount,iv d.Ref]:=rfl
  have en1:=en ⟨s.Desk,c',s.Register,s.Ledger⟩ d.Day 0 d.Sub d.Amount hd
  have ien:=imm_st ⟨s.Desk,c',s.Register,s.Ledger⟩
  obtain⟨M,hM⟩:∃M,M=zS (moveS ⟨s.Desk,c',s.Register,s.Ledger⟩ d.Day 0 d.Sub d.Amount):=⟨_,rfl⟩
  rw[←hM]at en1
  have iM:=imm_st M.1
  rw[cst]at en1 ien
  rw[cStX M.1]at en1 iM
  rw[hin]at tk ici
  rw[cCsh]at tk ic0 icr
  rw[cCsh]at tk
  have fin1:e=0→Q (.tup [.agg M.1.cells,iv M.2]):=fun he=>by
   rw[if_pos he]at hS
   rw[hM,←hS]
   exact qs
  rw[cStX M.1]at fin1
  rcases hlast:s.Cash.Incomes.getLast? with _|x
  ·have e0:s.Cash.Incomes=[]:=List.getLast?_eq_none_iff.1 hlast
   have n1:nextN s.Cash=1:=by rw[nextN,hlast]
   have l0:(s.Cash.Incomes.length:Int)=0:=by rw[e0];rfl
   have l1:s.Cash.Incomes.length=0:=by rw[e0];rfl
   rw[n1]at tk ici
   simp -dsimp -implicitDefEqProofs [-getElem?_pos,go_sem,hP,cst0,cDeedX,k1,b1,encL_len,l0,l1]
   refine callB_is (tk.lift _ _) hP en_148 (by simp[ic0,ici]) (imm_trip4 icr im) ?_
   by_cases he:e=0
   ·have fin:=fin1 he
    subst he
    simp -dsimp -implicitDefEqProofs [-getElem?_pos,go_sem,hP]
    refine callB_is (en1.lift _ _) hP en_149 (by simp[ien,imm_sc]) (imm_pair iM .sc) ?_
    simp -dsimp -implicitDefEqProofs [-getElem?_pos,go_sem,hP]
    exact done_imm (imm_pair iM .sc) fin
   ·have de:decide (e=0)=false:=decide_eq_false he
    rw[if_neg he]at hS
    simp -dsimp -implicitDefEqProofs [-getElem?_pos,go_sem,hP,de]
    exact done_agg2 (cs':=zeroSt.cells) cw_zeroS (qe s e hS he)
  ·have n1:nextN s.Cash=IntKind.i64.wrap (x.Number+1):=by rw[nextN,hlast]
   obtain⟨k,e0,ex⟩:∃k,s.Cash.Incomes.length=k+1∧s.Cash.Incomes[k]?=some x:=by
    rw[List.getLast?_eq_getElem?]at hlast
    refine⟨s.Cash.Incomes.length-1,?_,hlast⟩
    have:=(gsI hlast)
    omega
   have d0:decide ((0:Int)<(s.Cash.Incomes.length:Int))=true:=decide_eq_true (by omega)
   have d0':0<s.Cash.Incomes.length:=by omega
   have hil:=hf.cl.2
   have wj:IntKind.i64.wrap ((s.Cash.Incomes.length:Int)-1)=(k:Int):=by rw[wrap_in _ (by omega)];omega
   rw[n1]at tk ici
   simp -dsimp -implicitDefEqProofs [-getElem?_pos,go_sem,hP,cst0,cDeedX,k1,b1,encL_len,d0,d0',wj,ex,cIncX]
   refine callB_is (tk.lift _ _) hP en_148 (by simp[ic0,ici]) (imm_trip4 icr im) ?_
   by_cases he:e=0
   ·have fin:=fin1 he
    subst he
    simp -dsimp -implicitDefEqProofs [-getElem?_pos,go_sem,hP]
    refine callB_is (en1.lift _ _) hP en_149 (by simp[ien,imm_sc]) (imm_pair iM .sc) ?_
    simp -dsimp -implicitDefEqProofs [-getElem?_pos,go_sem,hP]
    exact done_imm (imm_pair iM .sc) fin
   ·have de:decide (e=0)=false:=decide_eq_false he
    rw[if_neg he]at hS
    simp -dsimp -implicitDefEqProofs [-getElem?_pos,go_sem,hP,de]
    exact done_agg2 (cs':=zeroSt.cells) cw_zeroS (qe s e hS he)
 ·have k1:decide (d.Kind=1)=false:=by rw[hk];rfl
  have k2:decide (d.Kind=2)=true:=by rw[hk];rfl
  have hR2:R=deskS s (orderD s.Desk (payS d)).1 (orderD s.Desk (payS d)).2:=by
   rw[hR,doK]
   rw[if_neg (by omega)]
   rw[if_pos hk]
  have cd:=order26_pf s.Desk (payS d) hd
  obtain⟨D,e,hD⟩:∃D e,orderD s.Desk (payS d)=(D,e):=⟨_,_,rfl⟩
  rw[hD]at cd hR2
  simp only[deskS]at hR2
  have iD:Imm (.agg D.cells):=imm_agg.2 D.imm
  have i2:=imm_st (setDesk s D)
  rw[cDskX]at cd id0 iD
  rw[cDskX]at cd
  have ip:=imm_agg.2 (payS d).imm
  have hp:(payS d).cells=[iv d.Ref,iv d.Who,iv d.Amount,iv d.Due,iv d.Sub]:=rfl
  rw[hp]at cd ip
  rw[setDesk,cst]at i2
  simp -dsimp -implicitDefEqProofs [-getElem?_pos,go_sem,hP,cst0,cDeedX,k1,k2]
  refine callB_is (cd.lift _ _) hP en_150 (by simp[id0,imm_sc,ip]) (imm_pair iD .sc) ?_
  by_cases he:e=0
  ·subst he
   rw[if_pos rfl]at hR2
   have fin:=qo _ hR2
   rw[setDesk,cst]at fin
   simp -dsimp -implicitDefEqProofs [-getElem?_pos,go_sem,hP]
   exact done_imm (imm_pair i2 .sc) fin
  ·have de:decide (e=0)=false:=decide_eq_false he
   rw[if_neg he]at hR2
   simp -dsimp -implicitDefEqProofs [-getElem?_pos,go_sem,hP,de]
   exact done_agg2 (cs':=zeroSt.cells) cw_zeroS (qe s e hR2 he)
 ·have k1:decide (d.Kind=1)=false:=by rw[hk];rfl
  have k2:decide (d.Kind=2)=false:=by rw[hk];rfl
  have k3:decide (d.Kind=3)=true:=by rw[hk];rfl
  have hR2:R=deskS s (sendD s.Desk d.Day).1 (sendD s.Desk d.Day).2.2:=by
   rw[hR,doK]
   rw[if_neg (by omega)]
   rw[if_neg (by omega)]
   rw[if_pos hk]
  have cd:=send26_pf s.Desk d.Day hd
  obtain⟨D,Z,e,hD⟩:∃D Z e,sendD s.Desk d.Day=(D,Z,e):=⟨_,_,_,rfl⟩
  rw[hD]at cd hR2
  simp only[deskS]at hR2
  have iD:Imm (.agg D.cells):=imm_agg.2 D.imm
  have i2:=imm_st (setDesk s D)
  rw[cDskX]at cd id0 iD
  rw[cDskX]at cd
  have iZ:=imm_agg.2 Z.imm
  rw[setDesk,cst]at i2
  simp -dsimp -implicitDefEqProofs [-getElem?_pos,go_sem,hP,cst0,cDeedX,k1,k2,k3]
  refine callB_is (cd.lift _ _) hP en_151 (by simp[id0,imm_sc]) (imm_trip5 iD iZ) ?_
  by_cases he:e=0
  ·subst he
   rw[if_pos rfl]at hR2
   have fin:=qo _ hR2
   rw[setDesk,cst]at fin
   simp -dsimp -implicitDefEqProofs [-getElem?_pos,go_sem,hP]
   exact done_imm (imm_pair i2 .sc) fin
  ·have de:decide (e=0)=false:=decide_eq_false he
   rw[if_neg he]at hR2
   simp -dsimp -implicitDefEqProofs [-getElem?_pos,go_sem,hP,de]
   exact done_agg2 (cs':=zeroSt.cells) cw_zeroS (qe s e hR2 he)
 ·have k1:decide (d.Kind=1)=false:=by rw[hk];rfl
  have k2:decide (d.Kind=2)=false:=by rw[hk];rfl
  have k3:decide (d.Kind=3)=false:=by rw[hk];rfl
  have k4:decide (d.Kind=4)=true:=by rw[hk];rfl
  have hR2:R=deskS s (settleD s.Desk d.Ref).1 (settleD s.Desk d.Ref).2:=by
   rw[hR,doK]
   rw[if_neg (by omega)]
   rw[if_neg (by omega)]
   rw[if_neg (by omega)]
   rw[if_pos hk]
  have cd:=settle26_pf s.Desk d.Ref hd
  obtain⟨D,e,hD⟩:∃D e,settleD s.Desk d.Ref=(D,e):=⟨_,_,rfl⟩
  rw[hD]at cd hR2
  simp only[deskS]at hR2
  have iD:Imm (.agg D.cells):=imm_agg.2 D.imm
  have i2:=imm_st (setDesk s D)
  rw[cDskX]at cd id0 iD
  rw[cDskX]at cd
  rw[setDesk,cst]at i2
  simp -dsimp -implicitDefEqProofs [-getElem?_pos,go_sem,hP,cst0,cDeedX,k1,k2,k3,k4]
  refine callB_is (cd.lift _ _) hP en_152 (by simp[id0,imm_sc]) (imm_pair iD .sc) ?_
  by_cases he:e=0
  ·subst he
   rw[if_pos rfl]at hR2
   have fin:=qo _ hR2
   rw[setDesk,cst]at fin
   simp -dsimp -implicitDefEqProofs [-getElem?_pos,go_sem,hP]
   exact done_imm (imm_pair i2 .sc) fin
  ·have de:decide (e=0)=false:=decide_eq_false he
   rw[if_neg he]at hR2
   simp -dsimp -implicitDefEqProofs [-getElem?_pos,go_sem,hP,de]
   exact done_agg2 (cs':=zeroSt.cells) cw_zeroS (qe s e hR2 he)
 ·have k1:decide (d.Kind=1)=false:=by rw[hk];rfl
  have k2:decide (d.Kind=2)=false:=by rw[hk];rfl
  have k3:decide (d.Kind=3)=false:=by rw[hk];rfl
  have k4:decide (d.Kind=4)=false:=by rw[hk];rfl
  have k5:decide (d.Kind=5)=true:=by rw[hk];rfl
  have hR2:R=deskS s (returnD s.Desk d.Ref d.Day).1 (returnD s.Desk d.Ref d.Day).2:=by
   rw[hR,doK]
   rw[if_neg (by omega)]
   rw[if_neg (by omega)]
   rw[if_neg (by omega)]
   rw[if_neg (by omega)]
   rw[if_pos hk]
  have cd:=return26_pf s.Desk d.Ref d.Day hd
  obtain⟨D,e,hD⟩:∃D e,returnD s.Desk d.Ref d.Day=(D,e):=⟨_,_,rfl⟩
  rw[hD]at cd hR2
  simp only[deskS]at hR2
  have iD:Imm (.agg D.cells):=imm_agg.2 D.imm
  have i2:=imm_st (setDesk s D)
  rw[cDskX]at cd id0 iD
  rw[cDskX]at cd
  rw[setDesk,cst]at i2
  simp -dsimp -implicitDefEqProofs [-getElem?_pos,go_sem,hP,cst0,cDeedX,k1,k2,k3,k4,k5]
  refine callB_is (cd.lift _ _) hP en_153 (by simp[id0,imm_sc]) (imm_pair iD .sc) ?_
  by_cases he:e=0
  ·subst he
   rw[if_pos rfl]at hR2
   have fin:=qo _ hR2
   rw[setDesk,cst]at fin
   simp -dsimp -implicitDefEqProofs [-getElem?_pos,go_sem,hP]
   exact done_imm (imm_pair i2 .sc) fin
  ·have de:decide (e=0)=false:=decide_eq_false he
   rw[if_neg he]at hR2
   simp -dsimp -implicitDefEqProofs [-getElem?_pos,go_sem,hP,de]
   exact done_agg2 (cs':=zeroSt.cells) cw_zeroS (qe s e hR2 he)
 ·have k1:decide (d.Kind=1)=false:=by rw[hk];rfl
  have k2:decide (d.Kind=2)=false:=by rw[hk];rfl
  have k3:decide (d.Kind=3)=false:=by rw[hk];rfl
  have k4:decide (d.Kind=4)=false:=by rw[hk];rfl
  have k5:decide (d.Kind=5)=false:=by rw[hk];rfl
  have k6:decide (d.Kind=6)=true:=by rw[hk];rfl
  have hR2:R=deskS s (recallD s.Desk d.Ref).1 (recallD s.Desk d.Ref).2:=by
   rw[hR,doK]
   rw[if_neg (by omega)]
   rw[if_neg (by omega)]
   rw[if_neg (by omega)]
   rw[if_neg (by omega)]
   rw[if_neg (by omega)]
   rw[if_pos hk]
  have cd:=recall26_pf s.Desk d.Ref hd
  obtain⟨D,e,hD⟩:∃D e,recallD s.Desk d.Ref=(D,e):=⟨_,_,rfl⟩
  rw[hD]at cd hR2
  simp only[deskS]at hR2
  have iD:Imm (.agg D.cells):=imm_agg.2 D.imm
  have i2:=imm_st (setDesk s D)
  rw[cDskX]at cd id0 iD
  rw[cDskX]at cd
  rw[setDesk,cst]at i2
  simp -dsimp -implicitDefEqProofs [-getElem?_pos,go_sem,hP,cst0,cDeedX,k1,k2,k3,k4,k5,k6]
  refine callB_is (cd.lift _ _) hP en_154 (by simp[id0,imm_sc]) (imm_pair iD .sc) ?_
  by_cases he:e=0
  ·subst he
   rw[if_pos rfl]at hR2
   have fin:=qo _ hR2
   rw[setDesk,cst]at fin
   simp -dsimp -implicitDefEqProofs [-getElem?_pos,go_sem,hP]
   exact done_imm (imm_pair i2 .sc) fin
  ·have de:decide (e=0)=false:=decide_eq_false he
   rw[if_neg he]at hR2
   simp -dsimp -implicitDefEqProofs [-getElem?_pos,go_sem,hP,de]
   exact done_agg2 (cs':=zeroSt.cells) cw_zeroS (qe s e hR2 he)
 ·have k1:decide (d.Kind=1)=false:=by rw[hk];rfl
  have k2:decide (d.Kind=2)=false:=by rw[hk];rfl
  have k3:decide (d.Kind=3)=false:=by rw[hk];rfl
  have k4:decide (d.Kind=4)=false:=by rw[hk];rfl
  have k5:decide (d.Kind=5)=false:=by rw[hk];rfl
  have k6:decide (d.Kind=6)=false:=by rw[hk];rfl
  have k7:decide (d.Kind=7)=true:=by rw[hk];rfl
  have hR2:R=debtS s (issM s d) (movE s.Register (issM s d)) 0 1 d.Amount:=by
   rw[hR,doK]
   rw[if_neg (by omega)]
   rw[if_neg (by omega)]
   rw[if_neg (by omega)]
   rw[if_neg (by omega)]
   rw[if_neg (by omega)]
   rw[if_neg (by omega)]
   rw[if_pos hk]
  have cd:=rissue_pf s.Register d.Day d.Ref d.Who d.Amount hf.r h.s0 h.mv (by omega)
  obtain⟨m,hmv⟩:∃m,m=issM s d:=⟨_,rfl⟩
  have hmd:m.Day=d.Day:=by rw[hmv];rfl
  have hmv2:movR s.Register d.Day 1 d.Ref 0 d.Who d.Amount=m:=hmv.symm
  rw[hmv2]at cd
  rw[←hmv]at hR2
  clear hmv hmv2
  unfold chgR at cd
  unfold debtS at hR2
  obtain⟨e,hee⟩:∃e,e=movE s.Register m:=⟨_,rfl⟩
  rw[←hee]at cd hR2
  obtain⟨G,hG⟩:∃G,G=(if e=0 then moved s.Register m else zeroR):=⟨_,rfl⟩
  rw[←hG]at cd
  have iG:=imm_reg G
  have en1:=en ⟨s.Desk,s.Cash,G,s.Ledger⟩ d.Day 0 1 d.Amount hd
  have ien:=imm_st ⟨s.Desk,s.Cash,G,s.Ledger⟩
  obtain⟨M,hM⟩:∃M,M=zS (moveS ⟨s.Desk,s.Cash,G,s.Ledger⟩ d.Day 0 1 d.Amount):=⟨_,rfl⟩
  rw[←hM]at en1
  have iM:=imm_st M.1
  rw[cst]at en1 ien
  rw[cStX M.1]at en1 iM
  rw[cReg]at cd ir0 iG
  rw[cReg]at cd
  have fin1:e=0→Q (.tup [.agg M.1.cells,iv M.2]):=fun he=>by
   rw[if_pos he,hmd]at hR2
   rw[if_pos he]at hG
   rw[hM,hG,←hR2]
   exact qs
  rw[cStX M.1]at fin1
  simp -dsimp -implicitDefEqProofs [-getElem?_pos,go_sem,hP,cst0,cDeedX,k1,k2,k3,k4,k5,k6,k7]
  refine callB_is (cd.lift _ _) hP en_155 (by simp[ir0,imm_sc]) (imm_pair iG .sc) ?_
  by_cases he:e=0
  ·have fin:=fin1 he
   clear hG hee
   subst he
   simp -dsimp -implicitDefEqProofs [-getElem?_pos,go_sem,hP]
   refine callB_is (en1.lift _ _) hP en_149 (by simp[ien,imm_sc]) (imm_pair iM .sc) ?_
   simp -dsimp -implicitDefEqProofs [-getElem?_pos,go_sem,hP]
   exact done_imm (imm_pair iM .sc) fin
  ·have de:decide (e=0)=false:=decide_eq_false he
   rw[if_neg he]at hR2
   simp -dsimp -implicitDefEqProofs [-getElem?_pos,go_sem,hP,de]
   exact done_agg2 (cs':=zeroSt.cells) cw_zeroS (qe s e hR2 he)
 ·have k1:decide (d.Kind=1)=false:=by rw[hk];rfl
  have k2:decide (d.Kind=2)=false:=by rw[hk];rfl
  have k3:decide (d.Kind=3)=false:=by rw[hk];rfl
  have k4:decide (d.Kind=4)=false:=by rw[hk];rfl
  have k5:decide (d.Kind=5)=false:=by rw[hk];rfl
  have k6:decide (d.Kind=6)=false:=by rw[hk];rfl
  have k7:decide (d.Kind=7)=false:=by rw[hk];rfl
  have k8:decide (d.Kind=8)=true:=by rw[hk];rfl
  have hR2:R=debtS s (redM s d) (movE s.Register (redM s d)) 1 0 d.Amount:=by
   rw[hR,doK]
   rw[if_neg (by omega)]
   rw[if_neg (by omega)]
   rw[if_neg (by omega)]
   rw[if_neg (by omega)]
   rw[if_neg (by omega)]
   rw[if_neg (by omega)]
   rw[if_neg (by omega)]
   rw[if_pos hk]
  have cd:=rredeem_pf s.Register d.Day d.Ref d.Who d.Amount hf.r h.s0 h.mv (by omega)
  obtain⟨m,hmv⟩:∃m,m=redM s d:=⟨_,rfl⟩
  have hmd:m.Day=d.Day:=by rw[hmv];rfl
  have hmv2:movR s.Register d.Day 3 d.Ref d.Who 0 d.Amount=m:=hmv.symm
  rw[hmv2]at cd
  rw[←hmv]at hR2
  clear hmv hmv2
  unfold chgR at cd
  unfold debtS at hR2
  obtain⟨e,hee⟩:∃e,e=movE s.Register m:=⟨_,rfl⟩
  rw[←hee]at cd hR2
  obtain⟨G,hG⟩:∃G,G=(if e=0 then moved s.Register m else zeroR):=⟨_,rfl⟩
  rw[←hG]at cd
  have iG:=imm_reg G
  have en1:=en ⟨s.Desk,s.Cash,G,s.Ledger⟩ d.Day 1 0 d.Amount hd
  have ien:=imm_st ⟨s.Desk,s.Cash,G,s.Ledger⟩
  obtain⟨M,hM⟩:∃M,M=zS (moveS ⟨s.Desk,s.Cash,G,s.Ledger⟩ d.Day 1 0 d.Amount):=⟨_,rfl⟩
  rw[←hM]at en1
  have iM:=imm_st M.1
  rw[cst]at en1 ien
  rw[cStX M.1]at en1 iM
  rw[cReg]at cd ir0 iG
  rw[cReg]at cd
  have fin1:e=0→Q (.tup [.agg M.1.cells,iv M.2]):=fun he=>by
   rw[if_pos he,hmd]at hR2
   rw[if_pos he]at hG
   rw[hM,hG,←hR2]
   exact qs
  rw[cStX M.1]at fin1
  simp -dsimp -implicitDefEqProofs [-getElem?_pos,go_sem,hP,cst0,cDeedX,k1,k2,k3,k4,k5,k6,k7,k8]
  refine callB_is (cd.lift _ _) hP en_156 (by simp[ir0,imm_sc]) (imm_pair iG .sc) ?_
  by_cases he:e=0
  ·have fin:=fin1 he
   clear hG hee
   subst he
   simp -dsimp -implicitDefEqProofs [-getElem?_pos,go_sem,hP]
   refine callB_is (en1.lift _ _) hP en_149 (by simp[ien,imm_sc]) (imm_pair iM .sc) ?_
   simp -dsimp -implicitDefEqProofs [-getElem?_pos,go_sem,hP]
   exact done_imm (imm_pair iM .sc) fin
  ·have de:decide (e=0)=false:=decide_eq_false he
   rw[if_neg he]at hR2
   simp -dsimp -implicitDefEqProofs [-getElem?_pos,go_sem,hP,de]
   exact done_agg2 (cs':=zeroSt.cells) cw_zeroS (qe s e hR2 he)
 ·have k1:decide (d.Kind=1)=false:=by rw[hk];rfl
  have k2:decide (d.Kind=2)=false:=by rw[hk];rfl
  have k3:decide (d.Kind=3)=false:=by rw[hk];rfl
  have k4:decide (d.Kind=4)=false:=by rw[hk];rfl
  have k5:decide (d.Kind=5)=false:=by rw[hk];rfl
  have k6:decide (d.Kind=6)=false:=by rw[hk];rfl
  have k7:decide (d.Kind=7)=false:=by rw[hk];rfl
  have k8:decide (d.Kind=8)=false:=by rw[hk];rfl
  have k9:decide (d.Kind=9)=true:=by rw[hk];rfl
  have hR2:R=if d.Sub=0∨d.Who=0 then (s,60)else moveS s d.Day d.Sub d.Who d.Amount:=by
   rw[hR,doK]
   rw[if_neg (by omega)]
   rw[if_neg (by omega)]
   rw[if_neg (by omega)]
   rw[if_neg (by omega)]
   rw[if_neg (by omega)]
   rw[if_neg (by omega)]
   rw[if_neg (by omega)]
   rw[if_neg (by omega)]
   rw[if_pos hk]
  by_cases a1:d.Sub=0
  ·have b1:decide (d.Sub=0)=true:=decide_eq_true a1
   rw[if_pos (.inl a1)]at hR2
   simp -dsimp -implicitDefEqProofs [-getElem?_pos,go_sem,hP,cst0,cDeedX,k1,k2,k3,k4,k5,k6,k7,k8,k9,b1]
   exact done_agg2 (cs':=zeroSt.cells) cw_zeroS (qe s 60 hR2 (by omega))
  have b1:decide (d.Sub=0)=false:=decide_eq_false a1
  by_cases a2:d.Who=0
  ·have b2:decide (d.Who=0)=true:=decide_eq_true a2
   rw[if_pos (.inr a2)]at hR2
   simp -dsimp -implicitDefEqProofs [-getElem?_pos,go_sem,hP,cst0,cDeedX,k1,k2,k3,k4,k5,k6,k7,k8,k9,b1,b2]
   exact done_agg2 (cs':=zeroSt.cells) cw_zeroS (qe s 60 hR2 (by omega))
  have b2:decide (d.Who=0)=false:=decide_eq_false a2
  rw[if_neg (by omega)]at hR2
  have en1:=en s d.Day d.Sub d.Who d.Amount hd
  rw[←hR2]at en1
  have iM:=imm_st (zS R).1
  rw[cst0]at en1 is0
  rw[cStX (zS R).1]at en1 iM qs
  simp -dsimp -implicitDefEqProofs [-getElem?_pos,go_sem,hP,cst0,cDeedX,k1,k2,k3,k4,k5,k6,k7,k8,k9,b1,b2]
  refine callB_is (en1.lift _ _) hP en_149 (by simp[is0,imm_sc]) (imm_pair iM .sc) ?_
  simp -dsimp -implicitDefEqProofs [-getElem?_pos,go_sem,hP]
  exact done_imm (imm_pair iM .sc) qs
 ·obtain⟨n1,n2,n3,n4,n5,n6,n7,n8,n9⟩:=hk
  have k1:decide (d.Kind=1)=false:=decide_eq_false n1
  have k2:decide (d.Kind=2)=false:=decide_eq_false n2
  have k3:decide (d.Kind=3)=false:=decide_eq_false n3
  have k4:decide (d.Kind=4)=false:=decide_eq_false n4
  have k5:decide (d.Kind=5)=false:=decide_eq_false n5
  have k6:decide (d.Kind=6)=false:=decide_eq_false n6
  have k7:decide (d.Kind=7)=false:=decide_eq_false n7
  have k8:decide (d.Kind=8)=false:=decide_eq_false n8
  have k9:decide (d.Kind=9)=false:=decide_eq_false n9
  have hR2:R=(s,91):=by rw[hR,doK,if_neg n1,if_neg n2,if_neg n3,if_neg n4,if_neg n5,if_neg n6,if_neg n7,if_neg n8,if_neg n9]
  simp -dsimp -implicitDefEqProofs [-getElem?_pos,go_sem,hP,cst0,cDeedX,k1,k2,k3,k4,k5,k6,k7,k8,k9]
  exact done_agg2 (cs':=zeroSt.cells) cw_zeroS (qe s 91 hR2 (by omega))
set_option maxHeartbeats 4000000 in
theorem rDo_pf {j:Nat} {s:TState} (d:TDeed) (h:FitM j s) (hj:j<399):PFun Tryz.prog none none 43 [.agg s.cells,.agg d.cells] (·= .tup [.agg (doS s d).1.cells,iv (doS s d).2]):=by
 have hf:=h.f
 have cc:=rcarry_pf d h hj
 have ist:=imm_st s
 have ide:=imm_agg.2 d.imm
 have kp:=fun h=>doK_kp (d:=d) hf (by omega) h
 obtain⟨R,hR⟩:∃R,R=doS s d:=⟨_,rfl⟩
 rw[←hR]
 obtain⟨t,e,hK⟩:∃t e,doK s d=(t,e):=⟨_,_,rfl⟩
 rw[hK]at cc kp
 have itt:=imm_st (zS (t,e)).1
 rw[cStX (zS (t,e)).1]at cc itt
 rw[cStX s]at cc ist⊢
 rw[cDeedX]at cc ide
 by_cases he:e=0
 rotate_left
 ·have hS:R=(zeroSt,e):=by rw[hR,doS,hK,if_neg he]
  have de:decide (e=0)=false:=decide_eq_false he
  have z2:(zS (t,e)).2=e:=by rw[zS_err he]
  rw[z2]at cc
  refine pfun_intro Tryz.func43 rfl (by simp[Tryz.f43]) (by kernel_rfl) ?_
  intro E hP hr hs hW hN
  simp -dsimp -implicitDefEqProofs [-getElem?_pos,go_sem,hP,cDeedX,encL_len]
  refine callB_is (cc.lift _ _) hP en_93 (by simp[ist,ide]) (imm_pair itt .sc) ?_
  simp -dsimp -implicitDefEqProofs [-getElem?_pos,go_sem,hP,de]
  rw[hS]
  exact done_agg2 (cs':=zeroSt.cells) cw_zeroS rfl
 subst he
 have kf:=kp rfl
 have z1:(zS (t,0))=(t,0):=rfl
 rw[z1]at cc itt
 have bk:=rbooked_pf t kf.f.d kf.f.l kf.e
 have hS:R=zS (bookS t s.Desk.Account.Entries.length):=by rw[hR,doS,hK,if_pos rfl];rfl
 rw[←hS]at bk
 have iR:=imm_st R.1
 rw[cStX t]at bk
 rw[cStX R.1]at bk iR⊢
 refine pfun_intro Tryz.func43 rfl (by simp[Tryz.f43]) (by kernel_rfl) ?_
 intro E hP hr hs hW hN
 simp -dsimp -implicitDefEqProofs [-getElem?_pos,go_sem,hP,cDeedX,encL_len]
 refine callB_is (cc.lift _ _) hP en_93 (by simp[ist,ide]) (imm_pair itt .sc) ?_
 simp -dsimp -implicitDefEqProofs [-getElem?_pos,go_sem,hP]
 refine callB_is (bk.lift _ _) hP en_94 (by simp[itt,imm_sc]) (imm_pair iR .sc) ?_
 simp -dsimp -implicitDefEqProofs [-getElem?_pos,go_sem,hP]
 exact done_imm (imm_pair iR .sc) rfl
theorem moveS_reg (s:TState) (day f t n:Int):(moveS s day f t n).1.Register=s.Register:=by
 unfold moveS
 split<;>rfl
theorem deskS_reg (s:TState) (d:TDesk) (e:Int):(deskS s d e).1.Register=s.Register:=by
 unfold deskS
 split<;>rfl
theorem debtS_reg {s:TState} {m:TMove} {e f t n:Int} (hm:MvOk m):(debtS s m e f t n).1.Register.Securities=s.Register.Securities∧((∀m,m∈s.Register.Moves→MvOk m)→∀x,x∈(debtS s m e f t n).1.Register.Moves→MvOk x):=by
 unfold debtS
 split
 ·rw[moveS_reg]
  refine⟨rfl,fun h x hx=>?_⟩
  rcases List.mem_append.1 hx with hx|hx
  ·exact h x hx
  ·simp at hx
   subst hx
   exact hm
 ·exact⟨rfl,fun h=>h⟩
theorem doK_reg (s:TState) (d:TDeed):(doK s d).1.Register.Securities=s.Register.Securities∧((∀m,m∈s.Register.Moves→MvOk m)→∀x,x∈(doK s d).1.Register.Moves→MvOk x):=by
 have same:∀{t:TState},t.Register=s.Register→t.Register.Securities=s.Register.Securities∧((∀m,m∈s.Register.Moves→MvOk m)→∀x,x∈t.Register.Moves→MvOk x):=fun e=>by rw[e];exact⟨rfl,fun h=>h⟩
 unfold doK
 split
 ·unfold receiveS
  split
  ·exact same rfl
  ·split
   ·exact same (moveS_reg _ _ _ _ _)
   ·exact same rfl
 split
 ·exact same (deskS_reg _ _ _)
 split
 ·exact same (deskS_reg _ _ _)
 split
 ·exact same (deskS_reg _ _ _)
 split
 ·exact same (deskS_reg _ _ _)
 split
 ·exact same (deskS_reg _ _ _)
 split
 ·exact debtS_reg (.inl ⟨rfl,rfl⟩)
 split
 ·exact debtS_reg (.inr ⟨rfl,rfl⟩)
 split
 ·split
  ·exact same rfl
  ·exact same (moveS_reg _ _ _ _ _)
 ·exact same rfl
theorem doS_fitM {j:Nat} {s:TState} {d:TDeed} (h:FitM j s) (hj:j<400) (he:(doS s d).2=0):FitM (j+1) (doS s d).1:=by
 have f2:=doS_fit h.f hj he
 obtain⟨k1,k2⟩:=doK_reg s d
 have er:(doS s d).1.Register=(doK s d).1.Register:=by
  unfold doS at he⊢
  split at he
  ·rename_i h1
   rw[if_pos h1]
   split at he
   ·rename_i h2
    rw[if_pos h2]
    rfl
   ·rename_i h2
    exact absurd he h2
  ·rename_i h1
   exact absurd he h1
 exact⟨f2,by rw[er,k1];exact h.s0,by rw[er];exact k2 h.mv⟩
end Go.Proofs.YtaenimpfelpafaaGreatDoor
set_option maxRecDepth 100000
namespace Go.Proofs.YtaenimpfelpafaaGreatDoor
open Go.PA
open Go.RowKit
def rstM:=modeOf []
def rstH:FuncId→Nat→DH:=hintOf [(92,12,⟨[14],[],[]⟩)]
theorem rstart0_pf (row src:Option Nat):PFun Tryz.prog row src 42 [intsL [1,2,3,7],iv 0,secsL secs0] (·= .tup [.agg (startS 0).cells,iv 0]):=
 pfun_weak (pfun_run (primE_ok (l:=[]) fun x hx=>by cases hx) rstH rstM 10000 60 (by kernel_rfl) (by kernel_rfl) row src) (imm_pair (imm_st _) .sc) (start_weak 0)
theorem rstart50_pf (row src:Option Nat):PFun Tryz.prog row src 42 [intsL [1,2,3,7],iv 50,secsL secs0] (·= .tup [.agg (startS 50).cells,iv 0]):=
 pfun_weak (pfun_run (primE_ok (l:=[]) fun x hx=>by cases hx) rstH rstM 10000 60 (by kernel_rfl) (by kernel_rfl) row src) (imm_pair (imm_st _) .sc) (start_weak 50)
theorem rstart_pf (row src:Option Nat) {c:Int} (h:c=0∨c=50):PFun Tryz.prog row src 42 [intsL [1,2,3,7],iv c,secsL secs0] (·= .tup [.agg (startS c).cells,iv 0]):=by
 rcases h with rfl|rfl
 ·exact rstart0_pf row src
 ·exact rstart50_pf row src
open Go.PA
open Go.RowKit
theorem start_clean {c:Int} (h:c=0∨c=50):CleanS (startS c):=by
 rcases h with rfl|rfl
 ·exact⟨checkD_iff.1 (by kernel_rfl),by kernel_rfl,rfl,rfl,rfl⟩
 ·exact⟨checkD_iff.1 (by kernel_rfl),by kernel_rfl,rfl,rfl,rfl⟩
theorem start_fitM (c:Int):FitM 0 (startS c):=⟨start_fit c,rfl,by simp[startS]⟩
def MadeQ (n:Nat) (x:AV):Prop:=∃s:TState,x= .agg s.cells∧FitM n s∧CleanS s
theorem MadeQ_ex (n:Nat):∃r,MadeQ n r∧Imm r:=⟨_,⟨startS 0,rfl,⟨(start_fit 0).mono (by omega),rfl,by simp[startS]⟩,start_clean (.inl rfl)⟩,imm_st _⟩
abbrev stO (s:TState):AObj:=⟨50,15,[[iv s.Desk.Account.Credit,subsL s.Desk.Account.Subs,entsL s.Desk.Account.Entries,paysL s.Desk.Queue.Waiting,.list 1 (encL encI s.Desk.Queue.Known),batsL s.Desk.Queue.Batches,itemsL s.Desk.Items,claimsL s.Cash.Claims,incomesL s.Cash.Incomes,matchesL s.Cash.Matches,.list 1 (encL encI s.Cash.Loose),secsL s.Register.Securities,holdsL s.Register.Holdings,movesL s.Register.Moves,postsL s.Ledger.Postings]]⟩
set_option maxHeartbeats 4000000 in
theorem made_pf (p:Nat) (src:Option Nat) (n:Nat) (hn:n≤100):PFun Tryz.prog (some p) src 16 [sp p,iv n] (MadeQ n):=by
 obtain⟨sl,hsl⟩:∃sl,sl=secs0:=⟨_,rfl⟩
 have ss:=ssecs_pf p src
 rw[←hsl]at ss
 have isl:=imm_secs sl
 refine pfun_intro Tryz.func16 rfl (by simp[Tryz.f16]) (by kernel_rfl) ?_
 intro E hP hr hs hW hN
 have up:∀{f:FuncId} {args:List AV} {Q:AV→Prop},PFun Tryz.prog (some p) src f args Q→PFun Tryz.prog E.row E.src f args Q:=fun h=>hr▸hs▸h
 simp -dsimp -implicitDefEqProofs [-getElem?_pos,go_sem,hP]
 refine callB_isQ (up (pickQ_pf p src [0,50] (by simp))) hP en_9 (by simp -dsimp[-getElem?_pos,go_sem]) (PQ_ex (by simp)) ?_
 rintro r ⟨c,rfl,hc⟩ _
 have hc:c=0∨c=50:=by simpa using hc
 have st:=rstart_pf E.row E.src hc
 have f0:=start_fitM c
 have c0:=start_clean hc
 obtain⟨x0,hx0⟩:∃x0,x0=startS c:=⟨_,rfl⟩
 rw[←hsl,←hx0]at st
 rw[←hx0]at f0 c0
 have i0:=imm_st x0
 rw[cStX]at st i0
 simp -dsimp -implicitDefEqProofs [-getElem?_pos,go_sem,hP]
 refine callB_is (up ss) hP en_10 (by simp -dsimp[-getElem?_pos,go_sem]) isl ?_
 simp -dsimp -implicitDefEqProofs [-getElem?_pos,go_sem,hP]
 refine callB_is st hP en_42 (by have:=imm_ints [1,2,3,7];simpa[isl,intsL,imm_sc]using this) (imm_pair i0 .sc) ?_
 simp -dsimp -implicitDefEqProofs [-getElem?_pos,go_sem,hP]
 refine callB_isQ (up (sdeeds_pf p src n hn)) hP en_11 (by simp -dsimp[-getElem?_pos,go_sem]) (DeedsQ_ex _) ?_
 rintro r ⟨l,rfl,ll⟩ _
 have il:=imm_deeds l
 simp -dsimp -implicitDefEqProofs [-getElem?_pos,go_sem,hP,encL_len]
 obtain⟨I,hI⟩:∃I:Nat→St→Prop,I=fun m s=>∃(k:Nat) (x:TState),k≤l.length∧m=l.length-k∧FitM k x∧CleanS x∧s.t 4= .ref 0 0 0∧s.t 5= .ref 1 0 0∧s.t 23=deedsL l∧s.t 24=iv l.length∧s.t 25=iv k∧s.H[1]?=some (some (stO x))∧s.H[0]?=some (some zO):=⟨_,rfl⟩
 refine aloop0 I (l.length) (by rw[hN];rfl) ?_ ?_
 ·rw[hI]
  exact⟨0,x0,by omega,by omega,f0,c0,by simp -dsimp[-getElem?_pos,go_sem],by simp -dsimp[-getElem?_pos,go_sem],by simp -dsimp[-getElem?_pos,go_sem],by simp -dsimp[-getElem?_pos,go_sem],by simp -dsimp[-getElem?_pos,go_sem],by simp -dsimp[-getElem?_pos,go_sem],by simp -dsimp[-getElem?_pos,go_sem]⟩
 intro m s hs'
 rw[hI]at hs'
 obtain⟨k,x,hk,hm,hf,hcl,t4,t5,t23,t24,t25,g1,g0⟩:=hs'
 have l1:=(gsI g1)
 have l0:=(gsI g0)
 have ix:=imm_st x
 rw[cStX]at ix
 simp -dsimp -implicitDefEqProofs [-getElem?_pos,go_sem,hP,t24,t25]
 refine condP (fun hq=>?_) (fun hq=>?_)
 ·have hk:k<l.length:=by simpa using hq
  obtain⟨d,hd⟩:∃d,l[k]?=some d:=⟨_,List.getElem?_eq_getElem hk⟩
  have wk:=wrap_in ((k:Int)+1) (by omega)
  have cd:=rDo_pf d hf (by omega)
  have fx:=fun h=>doS_fitM (d:=d) hf (by omega) h
  have cx:=fun h=>doS_clean (d:=d) hcl h
  obtain⟨y,e,hy⟩:∃y e,doS x d=(y,e):=⟨_,_,rfl⟩
  rw[hy]at cd fx cx
  simp only at cd fx cx
  have iy:=imm_st y
  have idd:=imm_agg.2 d.imm
  rw[cStX,cStX y,cDeedX]at cd
  rw[cStX]at iy
  rw[cDeedX]at idd
  have g1':∀Y:List (Option AObj),(s.H++Y)[1]?=some (some (stO x)):=fun Y=>by rw[List.getElem?_append_left l1];exact g1
  have g0':∀Y:List (Option AObj),(s.H++Y)[0]?=some (some zO):=fun Y=>by rw[List.getElem?_append_left l0];exact g0
  have l11:1<s.H.length+1:=by omega
  simp -dsimp -implicitDefEqProofs [-getElem?_pos,go_sem,hP,t23,t25,hd,cDeedX]
  simp -dsimp -implicitDefEqProofs [-getElem?_pos,go_sem,hP,t5,g1',l1,l11,t23]
  refine callB_is (cd.lift _ _) hP en_43 (by simp[ix,idd]) (imm_pair iy .sc) ?_
  by_cases he:e=0
  ·subst he
   simp -dsimp -implicitDefEqProofs [-getElem?_pos,go_sem,hP,t5,g1',l1,l11,t25,wk]
   refine⟨l.length-(k+1),by omega,?_⟩
   rw[hI]
   refine⟨k+1,y,by omega,rfl,fx rfl,cx rfl,by simp -dsimp[-getElem?_pos,go_sem,t4],by simp -dsimp[-getElem?_pos,go_sem,t5],by simp -dsimp[-getElem?_pos,go_sem,t23],by simp -dsimp[-getElem?_pos,go_sem,t24],by simp -dsimp[-getElem?_pos,go_sem],?_,?_⟩
   ·simp -dsimp -implicitDefEqProofs [-getElem?_pos,go_sem,l1,l11]
   ·dsimp only
    rw[List.getElem?_append_left (by simp;omega),List.getElem?_set_ne (by omega)]
    exact g0
  ·have de:decide (e=0)=false:=decide_eq_false he
   simp -dsimp -implicitDefEqProofs [-getElem?_pos,go_sem,hP,de,t5,g1',l1,l11,t25,wk]
   refine⟨l.length-(k+1),by omega,?_⟩
   rw[hI]
   refine⟨k+1,x,by omega,rfl,⟨hf.f.mono (by omega),hf.s0,hf.mv⟩,hcl,by simp -dsimp[-getElem?_pos,go_sem,t4],by simp -dsimp[-getElem?_pos,go_sem,t5],by simp -dsimp[-getElem?_pos,go_sem,t23],by simp -dsimp[-getElem?_pos,go_sem,t24],by simp -dsimp[-getElem?_pos,go_sem],?_,?_⟩
   ·simp -dsimp -implicitDefEqProofs [-getElem?_pos,go_sem,g1',l1,l11]
   ·simp -dsimp -implicitDefEqProofs [-getElem?_pos,go_sem,g0',l1,l11]
 ·simp -dsimp -implicitDefEqProofs [-getElem?_pos,go_sem,hP,t4,t5,g1,g0,l0,l1]
  refine done_imm ix ⟨x,by rw[cStX],⟨hf.f.mono (by omega),hf.s0,hf.mv⟩,hcl⟩
open Go.PA
open Go.RowKit
theorem posts_bal {a:Int} {g:TEntry→Int} (b:Int):∀(es:List TEntry) (out:List TPosting),(∀e,e∈es→(0≤e.Day∧e.Day≤36000)∧(outsE e=true→∀n,addP (fun c=>decide (c=a)) (postE e n)=g e)∧(outsE e=false→g e=0))→
  bal (ofB 1 0 36000) (postsGo b out es) a=bal (ofB 1 0 36000) out a+sumE g es
 |[],out,_=>by simp[postsGo,sumE]
 |e::es,out,h=>by
  have he:=h e (by simp)
  rw[postsGo,posts_bal b es _ fun x hx=>h x (by simp[hx]),sumE_cons]
  cases ho:outsE e
  ·rw[if_neg (by simp),he.2.2 ho]
   omega
  ·have f:ofB 1 0 36000 (postE e (b+(out.length:Int)+1))=true:=by
    have h1:(postE e (b+(out.length:Int)+1)).Entity=1:=rfl
    have h2:(postE e (b+(out.length:Int)+1)).Day=e.Day:=rfl
    simp[ofB,h1,h2,he.1.1,he.1.2]
   rw[if_pos rfl]
   show netP _ _ (out++[_])+_=_
   rw[netP_snoc,if_pos f,he.2.1 ho]
   show _=netP _ _ out+_
   omega
def debE (e:TEntry):Int:=if secE e=true then (if e.From=0 then e.Amount else -e.Amount)else 0
theorem cash_bal {e:TEntry} (h:e.From≠e.To) (ho:outsE e=true) (n:Int):addP (fun c=>decide (c=110)) (postE e n)=ioE e:=by
 have h1:(postE e n).Debit=if secE e=true∧e.From≠0 then 230 else if e.To=0 then 510 else 110:=rfl
 have h2:(postE e n).Credit=if secE e=true∧e.From=0 then 230 else if e.To=0 then 110 else 410:=rfl
 have h3:(postE e n).Amount=e.Amount:=rfl
 unfold addP ioE
 rw[h1,h2,h3]
 by_cases c1:e.From=0
 ·have c2:¬e.To=0:=fun h2=>h (c1.trans h2.symm)
  cases secE e<;>simp[c1,c2]
 ·by_cases c2:e.To=0
  ·cases secE e<;>simp[c1,c2]
  ·simp[outsE,c1,c2]at ho
theorem debt_bal {e:TEntry} (h:e.From≠e.To) (n:Int):addP (fun c=>decide (c=230)) (postE e n)= -debE e:=by
 have h1:(postE e n).Debit=if secE e=true∧e.From≠0 then 230 else if e.To=0 then 510 else 110:=rfl
 have h2:(postE e n).Credit=if secE e=true∧e.From=0 then 230 else if e.To=0 then 110 else 410:=rfl
 have h3:(postE e n).Amount=e.Amount:=rfl
 unfold addP debE
 rw[h1,h2,h3]
 by_cases c1:e.From=0
 ·have c2:¬e.To=0:=fun h2=>h (c1.trans h2.symm)
  cases secE e<;>simp[c1,c2]
 ·by_cases c2:e.To=0
  ·cases secE e<;>simp[c1,c2]
  ·cases hs:secE e
   ·simp[c1,c2]
   ·simp[secE,c1,c2]at hs
def debM (m:TMove):Int:=if m.Kind=1 then m.Amount else if m.Kind=3 then -m.Amount else 0
def sumMv (l:List TMove):Int:=(l.map debM).sum
theorem fit_sum:∀(a:List TMove) (b:List TEntry),(∀m,m∈a→m.Kind=1∨m.Kind=3)→(∀e,e∈b→secE e=true)→agreeB fitM a b=true→sumMv a=sumE debE b
 |[],[],_,_,_=>rfl
 |m::a,e::b,h1,h2,h=>by
  rw[agreeB,Bool.and_eq_true]at h
  have ih:=fit_sum a b (fun x hx=>h1 x (by simp[hx])) (fun x hx=>h2 x (by simp[hx])) h.2
  have hf:=h.1
  simp only[fitM,Bool.and_eq_true,decide_eq_true_eq]at hf
  obtain⟨_,f2,f3⟩:=hf
  have hs:=h2 e (by simp)
  rw[sumE_cons]
  show debM m+sumMv a=debE e+sumE debE b
  rw[ih]
  have:debM m=debE e:=by
   unfold debM debE
   rw[if_pos hs]
   rcases h1 m (by simp)with k|k
   ·rw[if_pos k,if_pos (by rw[k]at f3;simpa using f3),f2]
   ·rw[if_neg (by omega),if_pos k,if_neg (by rw[k]at f3;simpa using f3),f2]
  rw[this]
 |[],_::_,_,_,h=>by simp[agreeB]at h
 |_::_,[],_,_,h=>by simp[agreeB]at h
def totH (l:List THolding):Int:=sumQ (fun _=>true) hAm l
theorem totH_setH (l:List THolding) (id h n:Int):totH (setH l id h n)=totH l+n:=by
 have:=sumQ_setK (lt:=hLt id h) (is:=hIs id h) (mk:=hMk id h) (am:=hAm) (fun _=>true) (fun _=>rfl) true (fun _=>rfl) (fun _ _=>rfl) l n
 unfold totH setH
 rw[this,if_pos rfl]
theorem strange_not {m:TMove} (h:strangeB m=false) (hk:1≤m.Kind∧m.Kind≤3):(m.Kind=1→m.From=0∧m.To≠0)∧(m.Kind=2→m.From≠0∧m.To≠0)∧(m.Kind=3→m.From≠0∧m.To=0):=by
 unfold strangeB holderB at h
 split at h
 ·simp at h
  omega
 ·split at h
  ·simp at h
   omega
  ·simp at h
   omega
theorem runs_tot {secs:List TSecurity} {u:RepSt} {ms:List TMove} (h:Runs secs rep0 ms u):totH u.l=sumMv ms∧∀m,m∈ms→1≤m.Kind∧m.Kind≤3:=by
 induction h with
 |nil=>exact⟨rfl,by simp⟩
 |@snoc u ms m hr hs ih=>
  obtain⟨s1,s2,s3⟩:=hs
  obtain⟨s,mo⟩:=moveE_ok s3
  have st:=strange_not mo.str s2
  refine⟨?_,fun x hx=>?_⟩
  ·have e:sumMv (ms++[m])=sumMv ms+debM m:=by simp[sumMv]
   rw[e,←ih.1]
   show totH (goH u.l m)=totH u.l+debM m
   unfold goH debM
   by_cases k1:m.Kind=1
   ·obtain⟨a,b⟩:=st.1 k1
    simp only[a,b,k1,if_true,if_false,totH_setH]
   by_cases k2:m.Kind=2
   ·obtain⟨a,b⟩:=st.2.1 k2
    simp only[a,b,k2,if_false,totH_setH]
    simp
    omega
   ·have k3:m.Kind=3:=by omega
    obtain⟨a,b⟩:=st.2.2 k3
    simp only[a,b,k3,if_true,if_false,totH_setH]
    simp
  ·rcases List.mem_append.1 hx with hx|hx
   ·exact ih.2 x hx
   ·simp at hx
    subst hx
    exact s2
theorem CleanS.sums {j:Nat} {s:TState} (h:CleanS s) (hf:FitS j s):totalA s.Desk.Account=(flowA s.Desk.Account 0 36000).1-(flowA s.Desk.Account 0 36000).2∧totH s.Register.Holdings=sumMv s.Register.Moves∧
  bal (ofB 1 0 36000) s.Ledger.Postings 110=(flowA s.Desk.Account 0 36000).1-(flowA s.Desk.Account 0 36000).2∧ -(bal (ofB 1 0 36000) s.Ledger.Postings 230)=totH s.Register.Holdings:=by
 have ca:=h.d.a
 have hd:=check_days ca
 have hm:=check_mem ca
 have t1:=total_sum ca
 have t2:=flow_all ca
 have rt:=runs_tot hf.r.run
 simp only at rt
 have o0:∀e:TEntry,outsE e=false→ioE e=0∧debE e=0:=fun e he=>by
  simp only[outsE,Bool.or_eq_false_iff,decide_eq_false_iff_not]at he
  refine⟨by simp[ioE,he.1,he.2],?_⟩
  have:secE e=false:=by simp[secE,he.1,he.2]
  rw[debE,this]
  rfl
 refine⟨by rw[t1,t2],rt.1,?_,?_⟩
 ·rw[h.fp,posts_bal (g:=ioE) 0 s.Desk.Account.Entries [] fun e he=>⟨hd e he,fun ho n=>cash_bal (hm e he).2.2.2.2.1 ho n,fun ho=>(o0 e ho).1⟩,t2]
  show netP _ _ []+_=_
  rw[netP]
  omega
 ·rw[h.fp,posts_bal (g:=fun e=> -debE e) 0 s.Desk.Account.Entries [] fun e he=>⟨hd e he,fun _ n=>debt_bal (hm e he).2.2.2.2.1 n,fun ho=>by rw[(o0 e ho).2];rfl⟩,rt.1]
  have f1:sumMv s.Register.Moves=sumMv (s.Register.Moves.filter fun m=>!trfM m):=by
   have:∀l:List TMove,sumMv l=sumMv (l.filter fun m=>!trfM m):=fun l=>by
    induction l with
    |nil=>rfl
    |cons m l ih=>
     rw[List.filter_cons]
     have e:sumMv (m::l)=debM m+sumMv l:=rfl
     split
     ·show debM m+sumMv l=debM m+sumMv _
      rw[ih]
     ·rename_i hn
      have k:m.Kind=2:=by simpa[trfM]using hn
      rw[e,ih]
      simp[debM,k]
   exact this _
  have f2:sumE debE s.Desk.Account.Entries=sumE debE (s.Desk.Account.Entries.filter secE):=by
   have:∀l:List TEntry,sumE debE l=sumE debE (l.filter secE):=fun l=>by
    induction l with
    |nil=>rfl
    |cons e l ih=>
     rw[List.filter_cons,sumE_cons]
     split
     ·rw[sumE_cons,ih]
     ·rename_i hn
      rw[ih,debE,if_neg hn]
      omega
   exact this _
  have f3:=fit_sum _ _ (fun m hm=>by
   obtain⟨m1,m2⟩:=List.mem_filter.1 hm
   have:=rt.2 m m1
   have:¬m.Kind=2:=by simpa[trfM]using m2
   omega) (fun e he=>(List.mem_filter.1 he).2) h.fm
  have f4:sumE (fun e=> -debE e) s.Desk.Account.Entries= -sumE debE s.Desk.Account.Entries:=by
   have:=sumE_sub (fun _=>0) debE s.Desk.Account.Entries
   have z:sumE (fun _=>0) s.Desk.Account.Entries=0:=by
    have:∀l:List TEntry,sumE (fun _=>0) l=0:=fun l=>by
     induction l with
     |nil=>rfl
     |cons e l ih=>rw[sumE_cons,ih];rfl
    exact this _
   rw[z]at this
   simpa using this
  show -(netP _ _ []+_)=_
  rw[netP,f4,f1,f3,f2]
  omega
open Go.PA
open Go.RowKit
theorem tot_le {l:List THolding} (h:∀x,x∈l→0<x.Amount∧x.Amount≤1000000000000):0≤totH l∧totH l≤1000000000000*(l.length:Int):=by
 induction l with
 |nil=>simp[totH,sumQ]
 |cons x l ih=>
  have h1:=h x (by simp)
  have h2:=ih fun y hy=>h y (by simp[hy])
  have e:totH (x::l)=x.Amount+totH l:=by
   unfold totH
   rw[sumQ_cons,if_pos rfl]
   rfl
  rw[e]
  simp only[List.length_cons,Int.natCast_add,Int.natCast_one]
  omega
theorem gdebt_pf (r:TRegister) (d:Int) (h:RegOk r d):PFun Tryz.prog none none 45 [.agg r.cells] (·=iv (totH r.Holdings)):=by
 have hl:=h.hl
 have len:=hl.len
 have ml:=h.mlen
 have ck:=gcheck_pf r d h
 have ir:=imm_reg r
 have part:∀k,k≤r.Holdings.length→0≤totH (r.Holdings.take k)∧totH (r.Holdings.take k)≤1000000000000000:=fun k hk=>by
  have:=tot_le (l:=r.Holdings.take k) fun x hx=>hl.am (List.mem_of_mem_take hx)
  rw[List.length_take]at this
  omega
 rw[cReg]at ck ir
 refine pfun_intro Tryz.func45 rfl (by simp[Tryz.f45]) (by kernel_rfl) ?_
 intro E hP hr hs hW hN
 simp -dsimp -implicitDefEqProofs [-getElem?_pos,go_sem,hP,cReg]
 refine callB_is (ck.lift _ _) hP en_52 (by simp[ir]) .sc ?_
 simp -dsimp -implicitDefEqProofs [-getElem?_pos,go_sem,hP,encL_len]
 obtain⟨I,hI⟩:∃I:Nat→St→Prop,I=fun m s=>∃k:Nat,k≤r.Holdings.length∧m=r.Holdings.length-k∧s.t 3=iv (totH (r.Holdings.take k))∧s.t 10=holdsL r.Holdings∧s.t 11=iv r.Holdings.length∧s.t 12=iv k:=⟨_,rfl⟩
 refine aloop0 I (r.Holdings.length) (by rw[hN];rfl) ?_ ?_
 ·rw[hI]
  exact⟨0,by omega,by omega,by simp -dsimp[-getElem?_pos,go_sem];rfl,by simp -dsimp[-getElem?_pos,go_sem],by simp -dsimp[-getElem?_pos,go_sem],by simp -dsimp[-getElem?_pos,go_sem]⟩
 intro m s hs'
 rw[hI]at hs'
 obtain⟨k,hk,hm,t3,t10,t11,t12⟩:=hs'
 simp -dsimp -implicitDefEqProofs [-getElem?_pos,go_sem,hP,t11,t12]
 refine condP (fun hq=>?_) (fun hq=>?_)
 ·have hk:k<r.Holdings.length:=by simpa using hq
  obtain⟨x,hx⟩:∃x,r.Holdings[k]?=some x:=⟨_,List.getElem?_eq_getElem hk⟩
  have wk:=wrap_in ((k:Int)+1) (by omega)
  have e1:totH (r.Holdings.take (k+1))=totH (r.Holdings.take k)+x.Amount:=by
   rw[List.take_add_one,hx]
   unfold totH
   rw[sumQ_append]
   show _+sumQ _ _ [x]=_
   rw[sumQ_cons,sumQ_nil,if_pos rfl]
   show _+(hAm x+0)=_
   unfold hAm
   omega
  have p1:=part (k+1) hk
  have w1:=wrap_in (totH (r.Holdings.take k)+x.Amount) (by omega)
  simp -dsimp -implicitDefEqProofs [-getElem?_pos,go_sem,hP,t10,t12,hx,cHol,t3,w1,wk]
  refine⟨r.Holdings.length-(k+1),by omega,?_⟩
  rw[hI]
  exact⟨k+1,by omega,rfl,by simp -dsimp[-getElem?_pos,go_sem,e1],by simp -dsimp[-getElem?_pos,go_sem,t10],by simp -dsimp[-getElem?_pos,go_sem,t11],by simp -dsimp[-getElem?_pos,go_sem]⟩
 ·have hk:k=r.Holdings.length:=by simp at hq;omega
  subst hk
  rw[List.take_length]at t3
  simp -dsimp -implicitDefEqProofs [-getElem?_pos,go_sem,hP,t3]
theorem imm_tup3s (a b c:Value):Imm (.tup [.sc a,.sc b,.sc c]):=imm_tup.2 fun x hx=>by
 simp only[List.mem_cons,List.not_mem_nil,or_false]at hx
 rcases hx with rfl|rfl|rfl<;>exact .sc
theorem csums_pf {j:Nat} (s:TState) (h:FitS j s):PFun Tryz.prog none none 17 [.agg s.cells] (·= .tup [iv (flowA s.Desk.Account 0 36000).1,iv (flowA s.Desk.Account 0 36000).2,iv (totH s.Register.Holdings)]):=by
 have fl:=flow_pf s.Desk.Account 0 36000 h.d.s h.d.e
 have de:=gdebt_pf s.Register _ h.r
 have ia:=imm_acc s.Desk.Account
 have ir:=imm_reg s.Register
 rw[cA]at fl ia
 rw[cReg]at de ir
 obtain⟨a,ha⟩:∃a,a=(flowA s.Desk.Account 0 36000).1:=⟨_,rfl⟩
 obtain⟨b,hb⟩:∃b,b=(flowA s.Desk.Account 0 36000).2:=⟨_,rfl⟩
 obtain⟨c,hc⟩:∃c,c=totH s.Register.Holdings:=⟨_,rfl⟩
 rw[←ha,←hb]at fl
 rw[←hc]at de
 rw[←ha,←hb,←hc,cStX]
 refine pfun_intro Tryz.func17 rfl (by simp[Tryz.f17]) (by kernel_rfl) ?_
 intro E hP hr hs hW hN
 simp -dsimp -implicitDefEqProofs [-getElem?_pos,go_sem,hP]
 refine callB_is (fl.lift _ _) hP en_44 (by simp[ia,imm_sc]) (imm_pair .sc .sc) ?_
 simp -dsimp -implicitDefEqProofs [-getElem?_pos,go_sem,hP]
 refine callB_is (de.lift _ _) hP en_45 (by simp[ir]) .sc ?_
 simp -dsimp -implicitDefEqProofs [-getElem?_pos,go_sem,hP]
 exact done_imm (imm_tup3s _ _ _) rfl
open Go.PA
open Go.RowKit
def ofL (l:List TPosting) (e a day:Int):Int:=if checkL l=0 then bal (ofB e 0 day) l a else 0
open Go.PA
open Go.RowKit
theorem ze500:∃Z:List Int,zeros Tryz.prog 123=some (arI Z)∧Z=List.replicate 500 0:=⟨List.replicate 500 0,by rw[←arI_rep];exact ze_123,rfl⟩
def sumsX (f:TPosting→Bool) (l:List TPosting):List Int:=(List.range 500).map fun (i:Nat)=>bal f l (100+(i:Int))
theorem sumsX_len (f:TPosting→Bool) (l:List TPosting):(sumsX f l).length=500:=by simp[sumsX]
theorem sumsX_get (f:TPosting→Bool) (l:List TPosting) (i:Nat) (h:i<500):(sumsX f l)[i]?=some (bal f l (100+(i:Int))):=by simp[sumsX,h]
theorem sumsX_eq {f:TPosting→Bool} {l:List TPosting} {xs:List Int} (h5:xs.length=500) (h:∀i:Nat,i<500→xs[i]?=some (bal f l (100+(i:Int)))):xs=sumsX f l:=by
 apply List.ext_getElem?
 intro i
 by_cases hi:i<500
 ·rw[h i hi,sumsX_get f l i hi]
 ·rw[List.getElem?_eq_none (by omega),List.getElem?_eq_none (by rw[sumsX_len];omega)]
theorem ofB_not (e from_ to:Int) (p:TPosting):(p.Day<from_∨to<p.Day∨(¬e=0∧¬p.Entity=e))↔ofB e from_ to p=false:=by
 unfold ofB
 by_cases h1:e=0<;>by_cases h2:p.Entity=e<;>by_cases h3:from_≤p.Day<;>by_cases h4:p.Day≤to<;>simp[h1,h2,h3,h4]<;>omega
set_option maxHeartbeats 2000000 in
theorem rsums_pf (l:List TPosting) (e from_ to:Int) (hl:FineL l):PFun Tryz.prog none none 49 [postsL l,iv e,iv from_,iv to] (·= .agg (arI (sumsX (ofB e from_ to) l))):=by
 refine pfun_intro Tryz.func49 rfl (by simp[Tryz.f49]) (by kernel_rfl) ?_
 intro E hP hr hs hW hN
 have ip:=imm_posts l
 obtain⟨h1,h2⟩:=hl
 obtain⟨f,hf⟩:∃f,f=ofB e from_ to:=⟨_,rfl⟩
 obtain⟨Z,hZ,hZ2⟩:=ze500
 have hZl:Z.length=500:=by rw[hZ2];exact List.length_replicate
 rw[←hf]
 simp -dsimp -implicitDefEqProofs [-getElem?_pos,go_sem,hP,hZ]
 obtain⟨I,hI⟩:∃I:Nat→St→Prop,I=fun m s=>∃(k:Nat) (xs:List Int),k≤l.length∧m=l.length-k∧xs.length=500∧(∀i:Nat,i<500→xs[i]?=some (bal f (l.take k) (100+(i:Int))))∧s.t 1=iv e∧s.t 2=iv from_∧s.t 3=iv to∧s.t 8= .ref 0 0 0∧s.t 9= .ref 1 0 0∧s.t 12=postsL l∧s.t 13=iv l.length∧s.t 14=iv k∧s.H[0]?=some (some ⟨123,500,[arI Z]⟩)∧s.H[1]?=some (some ⟨123,500,[arI xs]⟩):=⟨_,rfl⟩
 refine aloop0 I (l.length) (by rw[hN];rfl) ?_ ?_
 ·rw[hI]
  refine⟨0,Z,by omega,by omega,hZl,fun i hi=>?_,by simp -dsimp[-getElem?_pos,go_sem],by simp -dsimp[-getElem?_pos,go_sem],by simp -dsimp[-getElem?_pos,go_sem],by simp -dsimp[-getElem?_pos,go_sem],by simp -dsimp[-getElem?_pos,go_sem],by simp -dsimp[-getElem?_pos,go_sem],by simp -dsimp[-getElem?_pos,go_sem],by simp -dsimp[-getElem?_pos,go_sem],by simp -dsimp[-getElem?_pos,go_sem],by simp -dsimp[-getElem?_pos,go_sem]⟩
  rw[hZ2,List.getElem?_replicate,if_pos hi]
  rfl
 intro m s hs'
 rw[hI]at hs'
 obtain⟨k,xs,hk,hm,h5,hx,t1,t2,t3,t8,t9,t12,t13,t14,hH0,hH⟩:=hs'
 have hlt:=(gsI hH)
 simp -dsimp -implicitDefEqProofs [-getElem?_pos,go_sem,hP,t13,t14]
 refine condP (fun h=>?_) (fun h=>?_)
 ·have hk:k<l.length:=by simpa using h
  obtain⟨p,hp⟩:∃p,l[k]?=some p:=⟨_,List.getElem?_eq_getElem hk⟩
  have hfp:=h1 p (List.mem_of_getElem? hp)
  have wk:=wrap_in ((k:Int)+1) (by omega)
  have nx:∀a,bal f (l.take (k+1)) a=bal f (l.take k) a+(if f p=true then addP (fun b=>decide (b=a)) p else 0):=fun a=>by rw[List.take_add_one,hp];exact netP_snoc _ _ _ _
  have hb:∀a, -(1000000000000*(k:Int))≤bal f (l.take k) a∧bal f (l.take k) a≤1000000000000*(k:Int):=fun a=>by
   have:=netP_bound (fun b=>decide (b=a)) f (l.take k) fun q hq=>h1 q (List.mem_of_mem_take hq)
   rw[show (l.take k).length=k by simp;omega]at this
   exact this
  have g0:∀x:Option AObj,(s.H++[x])[0]?=some (some ⟨123,500,[arI Z]⟩):=fun x=>by rw[List.getElem?_append_left (by omega)];exact hH0
  have g1:∀x:Option AObj,(s.H++[x])[1]?=some (some ⟨123,500,[arI xs]⟩):=fun x=>by rw[List.getElem?_append_left hlt];exact hH
  have hskip:f p=false→∀i:Nat,i<500→xs[i]?=some (bal f (l.take (k+1)) (100+(i:Int))):=fun hc i hi=>by rw[nx,hc,hx i hi];simp
  have hn:=ofB_not e from_ to p
  rw[←hf]at hn
  simp -dsimp -implicitDefEqProofs [-getElem?_pos,go_sem,hP,t12,t14,hp,cP]
  by_cases c1:p.Day<from_
  ·have d1:decide (p.Day<from_)=true:=decide_eq_true c1
   have hs:=hskip (hn.1 (.inl c1))
   simp -dsimp -implicitDefEqProofs [-getElem?_pos,go_sem,hP,t2,d1,t14,wk]
   refine⟨l.length-(k+1),by omega,?_⟩
   rw[hI]
   exact⟨k+1,xs,by omega,rfl,h5,hs,by simp -dsimp[-getElem?_pos,go_sem,t1],by simp -dsimp[-getElem?_pos,go_sem,t2],by simp -dsimp[-getElem?_pos,go_sem,t3],by simp -dsimp[-getElem?_pos,go_sem,t8],by simp -dsimp[-getElem?_pos,go_sem,t9],by simp -dsimp[-getElem?_pos,go_sem,t12],by simp -dsimp[-getElem?_pos,go_sem,t13],by simp -dsimp[-getElem?_pos,go_sem],by simp -dsimp[-getElem?_pos,go_sem,g0],by simp -dsimp[-getElem?_pos,go_sem,g1]⟩
  have d1:decide (p.Day<from_)=false:=decide_eq_false c1
  by_cases c2:to<p.Day
  ·have d2:decide (to<p.Day)=true:=decide_eq_true c2
   have hs:=hskip (hn.1 (.inr (.inl c2)))
   simp -dsimp -implicitDefEqProofs [-getElem?_pos,go_sem,hP,t2,t3,d1,d2,t14,wk]
   refine⟨l.length-(k+1),by omega,?_⟩
   rw[hI]
   exact⟨k+1,xs,by omega,rfl,h5,hs,by simp -dsimp[-getElem?_pos,go_sem,t1],by simp -dsimp[-getElem?_pos,go_sem,t2],by simp -dsimp[-getElem?_pos,go_sem,t3],by simp -dsimp[-getElem?_pos,go_sem,t8],by simp -dsimp[-getElem?_pos,go_sem,t9],by simp -dsimp[-getElem?_pos,go_sem,t12],by simp -dsimp[-getElem?_pos,go_sem,t13],by simp -dsimp[-getElem?_pos,go_sem],by simp -dsimp[-getElem?_pos,go_sem,g0],by simp -dsimp[-getElem?_pos,go_sem,g1]⟩
  have d2:decide (to<p.Day)=false:=decide_eq_false c2
  by_cases c3:¬e=0∧¬p.Entity=e
  ·have hs:=hskip (hn.1 (.inr (.inr c3)))
   have d3:decide (e=0)=false:=decide_eq_false c3.1
   have d4:decide (p.Entity=e)=false:=decide_eq_false c3.2
   simp -dsimp -implicitDefEqProofs [-getElem?_pos,go_sem,hP,t1,t2,t3,d1,d2,d3,d4,t14,wk]
   refine⟨l.length-(k+1),by omega,?_⟩
   rw[hI]
   exact⟨k+1,xs,by omega,rfl,h5,hs,by simp -dsimp[-getElem?_pos,go_sem,t1],by simp -dsimp[-getElem?_pos,go_sem,t2],by simp -dsimp[-getElem?_pos,go_sem,t3],by simp -dsimp[-getElem?_pos,go_sem,t8],by simp -dsimp[-getElem?_pos,go_sem,t9],by simp -dsimp[-getElem?_pos,go_sem,t12],by simp -dsimp[-getElem?_pos,go_sem,t13],by simp -dsimp[-getElem?_pos,go_sem],by simp -dsimp[-getElem?_pos,go_sem,g0],by simp -dsimp[-getElem?_pos,go_sem,g1]⟩
  have hc:f p=true:=by
   cases hfp':f p with
   |true=>rfl
   |false=>have:=hn.2 hfp';omega
  obtain⟨d,hd,hd5⟩:∃d:Nat,p.Debit=100+(d:Int)∧d<500:=⟨(p.Debit-100).toNat,by have:=hfp.deb;omega,by have:=hfp.deb;omega⟩
  obtain⟨c,hcr,hc5⟩:∃c:Nat,p.Credit=100+(c:Int)∧c<500:=⟨(p.Credit-100).toNat,by have:=hfp.cre;omega,by have:=hfp.cre;omega⟩
  have wd:IntKind.i64.wrap (p.Debit-100)=(d:Int):=by rw[wrap_in _ (by omega)];omega
  have wc:IntKind.i64.wrap (p.Credit-100)=(c:Int):=by rw[wrap_in _ (by omega)];omega
  have hamt:=hfp.amt
  have d3:(e=0∨(¬e=0∧p.Entity=e)):=by omega
  have x1:=hx d hd5
  have b1:=hb (100+(d:Int))
  have w1:=wrap_in (bal f (l.take k) (100+(d:Int))+p.Amount) (by omega)
  obtain⟨xs1,hxs1⟩:∃xs1,xs1=xs.set d (bal f (l.take k) (100+(d:Int))+p.Amount):=⟨_,rfl⟩
  have l1:xs1.length=500:=by rw[hxs1,List.length_set];exact h5
  obtain⟨y,hy⟩:∃y,xs1[c]?=some y:=⟨_,List.getElem?_eq_getElem (by omega)⟩
  have hyb:y=bal f (l.take k) (100+(c:Int))+(if c=d then p.Amount else 0):=by
   rw[hxs1]at hy
   by_cases hcd:c=d
   ·subst hcd
    rw[List.getElem?_set_self (by omega)]at hy
    rw[if_pos rfl,←Option.some.inj hy]
   ·rw[List.getElem?_set_ne (fun e=>hcd e.symm),hx c hc5]at hy
    rw[if_neg hcd,←Option.some.inj hy]
    omega
  have b2:=hb (100+(c:Int))
  have w2:=wrap_in (y-p.Amount) (by rw[hyb];split<;>omega)
  have hnew:∀i:Nat,i<500→(xs1.set c (y-p.Amount))[i]?=some (bal f (l.take (k+1)) (100+(i:Int))):=fun i hi=>by
   have hii:(if i=d then p.Amount else 0)-(if i=c then p.Amount else 0)=addP (fun b=>decide (b=100+(i:Int))) p:=by
    unfold addP
    rw[hd,hcr]
    by_cases e1:i=d<;>by_cases e2:i=c
    ·subst e1;subst e2;simp
    ·have:¬(c:Int)=(i:Int):=by omega
     subst e1;simp[e2,this]
    ·have:¬(d:Int)=(i:Int):=by omega
     subst e2;simp[e1,this]
    ·have h1:¬(d:Int)=(i:Int):=by omega
     have h2:¬(c:Int)=(i:Int):=by omega
     simp[e1,e2,h1,h2]
   rw[nx,hc,if_pos rfl,←hii]
   by_cases e2:i=c
   ·subst e2
    rw[List.getElem?_set_self (by omega),hyb]
    refine congrArg some ?_
    rw[if_pos rfl]
    omega
   ·rw[List.getElem?_set_ne (fun e=>e2 e.symm),hxs1,if_neg e2]
    by_cases e1:i=d
    ·subst e1
     rw[List.getElem?_set_self (by omega)]
     refine congrArg some ?_
     rw[if_pos rfl]
     omega
    ·rw[List.getElem?_set_ne (fun e=>e1 e.symm),hx i hi,if_neg e1]
     refine congrArg some ?_
     omega
  have dlt:(d:Int)<500:=by omega
  have clt:(c:Int)<500:=by omega
  have d1x:d+1≤500:=by omega
  have c1x:c+1≤500:=by omega
  have d2x:d≤499:=by omega
  have c2x:c≤499:=by omega
  have r1:=fun x=>@heap_set_at s.H x 1 hlt
  have r0:=fun x=>@heap_set_self s.H x 1 hlt
  have q0:∀(x y:Option AObj),((s.H++[x]).set 1 y)[0]?=some (some ⟨123,500,[arI Z]⟩):=fun x y=>by rw[List.getElem?_set_ne (by omega)];exact g0 x
  have fin:∀K:Prop,True:=fun _=>trivial
  rcases d3 with d3|⟨d3,d4⟩
  ·simp -dsimp -implicitDefEqProofs [-getElem?_pos,go_sem,hP,t1,t2,t3,t9,d1,d2,d3]
   refine adrawB (fun _=>true) [9] hP (by kernel_rfl) (by kernel_rfl) ?_
   simp -dsimp -implicitDefEqProofs [-getElem?_pos,go_sem,hP,t9,wd,g1,dlt,hd5,d1x,d2x,h5,x1,w1,arI_put,arI_put',←hxs1]
   refine adrawB (fun _=>true) [9] hP (by kernel_rfl) (by kernel_rfl) ?_
   simp -dsimp -implicitDefEqProofs [-getElem?_pos,go_sem,hP,t9,wc,r0,r1,clt,hc5,c1x,c2x,l1,hy,w2,arI_put,arI_put',t14,wk]
   refine⟨l.length-(k+1),by omega,?_⟩
   rw[hI]
   exact⟨k+1,xs1.set c (y-p.Amount),by omega,rfl,by rw[List.length_set];exact l1,hnew,by simp -dsimp[-getElem?_pos,go_sem,t1],by simp -dsimp[-getElem?_pos,go_sem,t2],by simp -dsimp[-getElem?_pos,go_sem,t3],by simp -dsimp[-getElem?_pos,go_sem,t8],by simp -dsimp[-getElem?_pos,go_sem,t9],by simp -dsimp[-getElem?_pos,go_sem,t12],by simp -dsimp[-getElem?_pos,go_sem,t13],by simp -dsimp[-getElem?_pos,go_sem],by simp -dsimp[-getElem?_pos,go_sem,q0],by simp -dsimp[-getElem?_pos,go_sem,r0]⟩
  ·have d5:decide (e=0)=false:=decide_eq_false d3
   have d6:decide (p.Entity=e)=true:=decide_eq_true d4
   simp -dsimp -implicitDefEqProofs [-getElem?_pos,go_sem,hP,t1,t2,t3,t9,d1,d2,d5,d6]
   refine adrawB (fun _=>true) [9] hP (by kernel_rfl) (by kernel_rfl) ?_
   simp -dsimp -implicitDefEqProofs [-getElem?_pos,go_sem,hP,t9,wd,g1,dlt,hd5,d1x,d2x,h5,x1,w1,arI_put,arI_put',←hxs1]
   refine adrawB (fun _=>true) [9] hP (by kernel_rfl) (by kernel_rfl) ?_
   simp -dsimp -implicitDefEqProofs [-getElem?_pos,go_sem,hP,t9,wc,r0,r1,clt,hc5,c1x,c2x,l1,hy,w2,arI_put,arI_put',t14,wk]
   refine⟨l.length-(k+1),by omega,?_⟩
   rw[hI]
   exact⟨k+1,xs1.set c (y-p.Amount),by omega,rfl,by rw[List.length_set];exact l1,hnew,by simp -dsimp[-getElem?_pos,go_sem,t1],by simp -dsimp[-getElem?_pos,go_sem,t2],by simp -dsimp[-getElem?_pos,go_sem,t3],by simp -dsimp[-getElem?_pos,go_sem,t8],by simp -dsimp[-getElem?_pos,go_sem,t9],by simp -dsimp[-getElem?_pos,go_sem,t12],by simp -dsimp[-getElem?_pos,go_sem,t13],by simp -dsimp[-getElem?_pos,go_sem],by simp -dsimp[-getElem?_pos,go_sem,q0],by simp -dsimp[-getElem?_pos,go_sem,r0]⟩
 ·have hk:k=l.length:=by simp at h;omega
  subst hk
  rw[List.take_length]at hx
  have e5:=sumsX_eq h5 hx
  have z0:(arI Z).drop 500=[]:=arI_drop (by omega)
  have hlt0:=(gsI hH0)
  have r0:=fun x:Option AObj=>@List.getElem?_set_self _ s.H 0 x hlt0
  simp -dsimp -implicitDefEqProofs [-getElem?_pos,go_sem,hP,t8,t9,hH,hH0,h5,arI_take h5.symm,z0,hZl,r0]
  refine done_imm (imm_agg.2 (arI_imm _)) ?_
  rw[e5]
theorem ofL_class {l:List TPosting} {e a day:Int} (h:checkL l=0) (ha:classI a=0):ofL l e a day=0:=by
 rw[ofL,if_pos h]
 refine bal_out _ l (checkL_fine h).1 a ?_
 unfold classI at ha
 split at ha<;>omega
theorem rof_pf (l:TLedger) (e a day:Int) (hl:l.Postings.length≤100000):PFun Tryz.prog none none 19 [.agg l.cells,iv e,iv a,iv day] (·=iv (ofL l.Postings e a day)):=by
 refine pfun_intro Tryz.func19 rfl (by simp[Tryz.f19]) (by kernel_rfl) ?_
 intro E hP hr hs hW hN
 have ck:=rcheck_pf l hl
 obtain⟨l⟩:=l
 simp only at hl ck
 rw[cL]at ck
 have ip:=imm_posts l
 simp -dsimp -implicitDefEqProofs [-getElem?_pos,go_sem,hP,cL]
 refine callB_is (ck.lift _ _) hP en_47 (by simp[ip,imm_agg]) .sc ?_
 by_cases c1:checkL l=0
 rotate_left
 ·have:ofL l e a day=0:=if_neg c1
  simp -dsimp -implicitDefEqProofs [-getElem?_pos,go_sem,hP,c1,this]
 have fl:=checkL_fine c1
 simp -dsimp -implicitDefEqProofs [-getElem?_pos,go_sem,hP,c1]
 refine callB_pure (rclass_pf a) hP en_48 (args_same (by simp -dsimp[-getElem?_pos,go_sem])) .sc ?_
 by_cases c2:classI a=0
 ·have:=ofL_class (e:=e) (day:=day) c1 c2
  simp -dsimp -implicitDefEqProofs [-getElem?_pos,go_sem,hP,c2,this]
 have d2:decide (classI a=0)=false:=decide_eq_false c2
 have ha:100≤a∧a≤599:=(classI_pos a).1 (by have:=classI_nat' a;omega)
 obtain⟨d,hd,hd5⟩:∃d:Nat,a=100+(d:Int)∧d<500:=⟨(a-100).toNat,by omega,by omega⟩
 have hof:ofL l e a day=bal (ofB e 0 day) l (100+(d:Int)):=by rw[ofL,if_pos c1,hd]
 have wa:IntKind.i64.wrap (a-100)=(d:Int):=by rw[wrap_in _ (by omega)];omega
 have dlt:(d:Int)<500:=by omega
 have hx:=sumsX_get (ofB e 0 day) l d hd5
 simp -dsimp -implicitDefEqProofs [-getElem?_pos,go_sem,hP,d2]
 refine callB_is ((rsums_pf l e 0 day fl).lift _ _) hP en_49 (by simp[ip,imm_sc]) (imm_agg.2 (arI_imm _)) ?_
 simp -dsimp -implicitDefEqProofs [-getElem?_pos,go_sem,hP,wa,dlt,hd5,hx,hof]
end Go.Proofs.YtaenimpfelpafaaGreatDoor
set_option maxRecDepth 100000
namespace Go.Proofs.YtaenimpfelpafaaGreatDoor
open Go.PA
open Go.RowKit
theorem cloneS_0 {row src:Option Nat} (H:Heap):MFun Tryz.prog row src 63 [.list 5 []] H (IsL (twoE 81 5 H)):=by
 have own:MFun Tryz.prog row src 63 [.list 5 []] H (fun r H'=>(r= .nil∧H'=H)∨(r= .sref (H.length+1) 0 0∧H'=H++[none]++[some ⟨81,5,[]⟩])):=by
  refine mfun_list_nil fun A c=>?_
  refine mfun_intro Tryz.func63 rfl (by simp[Tryz.f63]) (by kernel_rfl) ⟨.nil,H,.inl ⟨rfl,rfl⟩⟩ ?_
  intro E hP hr hs hN
  cases A with
  |none=>simp -dsimp -implicitDefEqProofs [-getElem?_pos,go_sem,hP]
  |some a=>simp -dsimp -implicitDefEqProofs [-getElem?_pos,go_sem,hP,hset_new]
 refine (own.ownNil 81 5).mono ?_
 rintro r H' (⟨H0,h0,rfl,rfl⟩|⟨hne,h⟩)
 ·rcases h0 with⟨_,rfl⟩|⟨h,_⟩
  ·exact .head _
  ·cases h
 ·rcases h with⟨h,_⟩|⟨rfl,rfl⟩
  ·exact absurd h hne
  ·exact .tail _ (.head _)
def sanE:List (FuncId×TypeId×Nat):=[(63,81,5)]
theorem sanE_ok:RunOk Tryz.prog (primE sanE):=primE_ok fun x hx H row src=>by
 simp only[sanE,List.mem_cons,List.not_mem_nil,or_false]at hx
 subst hx
 exact cloneS_0 H
def sanM:=modeOf [(52,9,100),(120,6,132),(82,5,132),(132,1,194),(109,16,165),(165,1,66),(165,1,67),(165,1,68),(165,1,64),(120,10,62),(73,12,114),(114,1,65),(122,20,173),(173,1,63),(173,1,64),(122,17,183),(122,21,183),(81,12,69),(123,9,114),(29,1,62),(29,1,86)]
def sanH:FuncId→Nat→DH:=hintOf [(25,7,⟨[],[7],[]⟩),(26,4,⟨[],[6],[]⟩),(70,7,⟨[],[15],[]⟩),(73,19,⟨[],[11,12],[]⟩),(80,1,⟨[],[19,20],[]⟩),(25,12,⟨[13],[],[]⟩),(125,2,⟨[28],[],[]⟩),(24,10,⟨[10],[],[]⟩),(73,34,⟨[3],[],[4]⟩),(122,23,⟨[8,9],[],[]⟩),(73,24,⟨[7],[],[]⟩),(25,5,⟨[20],[],[]⟩),(72,14,⟨[9,11],[],[]⟩),(114,1,⟨[10],[],[]⟩),(177,1,⟨[9],[],[]⟩),(110,11,⟨[4],[],[]⟩),(81,12,⟨[7],[],[]⟩),(120,10,⟨[13],[],[]⟩),(185,11,⟨[6,7,9,10],[],[0]⟩),(194,5,⟨[12,9],[],[]⟩),(109,35,⟨[12],[],[]⟩),(109,18,⟨[19,22],[],[]⟩),(24,15,⟨[8,11],[],[]⟩),(57,1,⟨[10],[],[]⟩),(24,14,⟨[26,29,32,35],[],[]⟩),(24,3,⟨[14,17],[],[]⟩),(24,2,⟨[14,17],[],[]⟩)]
theorem sk0:KOk Tryz.prog []:=kOk_nil
def sl1:KL:=(51,[.list 1 [[iv 1],[iv 2]]],bv true)::[]
theorem sk1:KOk Tryz.prog sl1:=kstep sanE_ok sk0 sanH sanM (by kernel_rfl) (by kernel_rfl)
def sl2:KL:=(129,[.agg [iv 1,iv 0,iv 1,iv 110,iv 410,iv 100,iv 0,iv 0]],bv true)::sl1
theorem sk2:KOk Tryz.prog sl2:=kstep sanE_ok sk1 sanH sanM (by kernel_rfl) (by kernel_rfl)
def sl3:KL:=(12,[.agg [iv 0,.list 2 [[iv 1,iv 0],[iv 2,iv 0]],.nil,.nil,.nil,.nil,.nil,.nil,.nil,.nil,.nil,.nil,.nil,.nil,.nil],.agg [iv 1,iv 0,iv 2,iv 1,iv 0,iv 100,iv 0]],.tup [.agg [iv 0,.list 2 [[iv 1,iv 0],[iv 2,iv 100]],.list 6 [[iv 1,iv 0,iv 0,iv 2,iv 100,iv 0]],.nil,.nil,.nil,.nil,.nil,.list 5 [[iv 1,iv 0,iv 1,iv 100,iv 0]],.nil,.list 1 [[iv 100]],.nil,.nil,.nil,.list 8 [[iv 1,iv 0,iv 1,iv 110,iv 410,iv 100,iv 0,iv 0]]],iv 0])::sl2
theorem sk3:KOk Tryz.prog sl3:=kstep sanE_ok sk2 sanH sanM (by kernel_rfl) (by kernel_rfl)
def sl4:KL:=(82,[.agg [iv 0,.list 2 [[iv 1,iv 0],[iv 2,iv 100]],.list 6 [[iv 1,iv 0,iv 0,iv 2,iv 100,iv 0]]]],iv 0)::sl3
theorem sk4:KOk Tryz.prog sl4:=kstep sanE_ok sk3 sanH sanM (by kernel_rfl) (by kernel_rfl)
def sl5:KL:=(171,[.agg [iv 5,iv 1,iv 60,iv 0,iv 2]],bv true)::sl4
theorem sk5:KOk Tryz.prog sl5:=kstep sanE_ok sk4 sanH sanM (by kernel_rfl) (by kernel_rfl)
def sl6:KL:=(135,[.agg [.list 5 [[iv 5,iv 1,iv 60,iv 0,iv 2]],.list 1 [[iv 5]],.nil]],iv 0)::sl5
theorem sk6:KOk Tryz.prog sl6:=kstep sanE_ok sk5 sanH sanM (by kernel_rfl) (by kernel_rfl)
def sl7:KL:=(73,[.agg [iv 0,.list 2 [[iv 1,iv 0],[iv 2,iv 100]],.list 6 [[iv 1,iv 0,iv 0,iv 2,iv 100,iv 0]],.list 5 [[iv 5,iv 1,iv 60,iv 0,iv 2]],.list 1 [[iv 5]],.nil,.list 7 [[iv 5,iv 1,iv 60,iv 0,iv 2,iv 1,iv 0]]],iv 0],.tup [.agg [iv 0,.list 2 [[iv 1,iv 0],[iv 2,iv 40]],.list 6 [[iv 1,iv 0,iv 0,iv 2,iv 100,iv 0],[iv 2,iv 0,iv 2,iv 0,iv 60,iv 5]],.list 5 [],.list 1 [[iv 5]],.list 3 [[iv 1,iv 0,.list 5 [[iv 5,iv 1,iv 60,iv 0,iv 2]]]],.list 7 [[iv 5,iv 1,iv 60,iv 0,iv 2,iv 2,iv 1]]],.agg [iv 1,iv 0,.list 5 [[iv 5,iv 1,iv 60,iv 0,iv 2]]],iv 0])::sl6
theorem sk7:KOk Tryz.prog sl7:=kstep sanE_ok sk6 sanH sanM (by kernel_rfl) (by kernel_rfl)
def sl8:KL:=(129,[.agg [iv 2,iv 0,iv 1,iv 510,iv 110,iv 60,iv 0,iv 5]],bv true)::sl7
theorem sk8:KOk Tryz.prog sl8:=kstep sanE_ok sk7 sanH sanM (by kernel_rfl) (by kernel_rfl)
def sl9:KL:=(82,[.agg [iv 0,.list 2 [[iv 1,iv 0],[iv 2,iv 40]],.list 6 [[iv 1,iv 0,iv 0,iv 2,iv 100,iv 0],[iv 2,iv 0,iv 2,iv 0,iv 60,iv 5]]]],iv 0)::sl8
theorem sk9:KOk Tryz.prog sl9:=kstep sanE_ok sk8 sanH sanM (by kernel_rfl) (by kernel_rfl)
def sl10:KL:=(199,[.agg [.list 5 [],.list 1 [[iv 5]],.list 3 [[iv 1,iv 0,.list 5 [[iv 5,iv 1,iv 60,iv 0,iv 2]]]]]],bv true)::sl9
theorem sk10:KOk Tryz.prog sl10:=kstep sanE_ok sk9 sanH sanM (by kernel_rfl) (by kernel_rfl)
def sl11:KL:=(136,[.agg [iv 0,.list 2 [[iv 1,iv 0],[iv 2,iv 40]],.list 6 [[iv 1,iv 0,iv 0,iv 2,iv 100,iv 0],[iv 2,iv 0,iv 2,iv 0,iv 60,iv 5]],.list 5 [],.list 1 [[iv 5]],.list 3 [[iv 1,iv 0,.list 5 [[iv 5,iv 1,iv 60,iv 0,iv 2]]]],.list 7 [[iv 5,iv 1,iv 60,iv 0,iv 2,iv 2,iv 1]]],.agg [iv 5,iv 1,iv 60,iv 0,iv 2,iv 2,iv 1]],bv true)::sl10
theorem sk11:KOk Tryz.prog sl11:=kstep sanE_ok sk10 sanH sanM (by kernel_rfl) (by kernel_rfl)
def sl12:KL:=(173,[.agg [.list 5 [],.list 1 [[iv 5]],.list 3 [[iv 1,iv 0,.list 5 [[iv 5,iv 1,iv 60,iv 0,iv 2]]]]]],.agg [.list 5 [],.list 1 [[iv 5]],.list 3 [[iv 1,iv 0,.list 5 [[iv 5,iv 1,iv 60,iv 0,iv 2]]]]])::sl11
theorem sk12:KOk Tryz.prog sl12:=kstep sanE_ok sk11 sanH sanM (by kernel_rfl) (by kernel_rfl)
def sl13:KL:=(120,[.agg [iv 0,.list 2 [[iv 1,iv 0],[iv 2,iv 40]],.list 6 [[iv 1,iv 0,iv 0,iv 2,iv 100,iv 0],[iv 2,iv 0,iv 2,iv 0,iv 60,iv 5]]],.agg [iv 3,iv 1,iv 0,iv 2,iv 60,iv 5]],.tup [.agg [iv 0,.list 2 [[iv 1,iv 0],[iv 2,iv 100]],.list 6 [[iv 1,iv 0,iv 0,iv 2,iv 100,iv 0],[iv 2,iv 0,iv 2,iv 0,iv 60,iv 5],[iv 3,iv 1,iv 0,iv 2,iv 60,iv 5]]],iv 0])::sl12
theorem sk13:KOk Tryz.prog sl13:=kstep sanE_ok sk12 sanH sanM (by kernel_rfl) (by kernel_rfl)
def sl14:KL:=(12,[.agg [iv 0,.list 2 [[iv 1,iv 0],[iv 2,iv 40]],.list 6 [[iv 1,iv 0,iv 0,iv 2,iv 100,iv 0],[iv 2,iv 0,iv 2,iv 0,iv 60,iv 5]],.list 5 [],.list 1 [[iv 5]],.list 3 [[iv 1,iv 0,.list 5 [[iv 5,iv 1,iv 60,iv 0,iv 2]]]],.list 7 [[iv 5,iv 1,iv 60,iv 0,iv 2,iv 2,iv 1]],.nil,.list 5 [[iv 1,iv 0,iv 1,iv 100,iv 0]],.nil,.list 1 [[iv 100]],.nil,.nil,.nil,.list 8 [[iv 1,iv 0,iv 1,iv 110,iv 410,iv 100,iv 0,iv 0],[iv 2,iv 0,iv 1,iv 510,iv 110,iv 60,iv 0,iv 5]]],.agg [iv 5,iv 1,iv 0,iv 0,iv 5,iv 0,iv 0]],.tup [.agg [iv 0,.list 2 [[iv 1,iv 0],[iv 2,iv 100]],.list 6 [[iv 1,iv 0,iv 0,iv 2,iv 100,iv 0],[iv 2,iv 0,iv 2,iv 0,iv 60,iv 5],[iv 3,iv 1,iv 0,iv 2,iv 60,iv 5]],.list 5 [],.list 1 [[iv 5]],.list 3 [[iv 1,iv 0,.list 5 [[iv 5,iv 1,iv 60,iv 0,iv 2]]]],.list 7 [[iv 5,iv 1,iv 60,iv 0,iv 2,iv 4,iv 1]],.nil,.list 5 [[iv 1,iv 0,iv 1,iv 100,iv 0]],.nil,.list 1 [[iv 100]],.nil,.nil,.nil,.list 8 [[iv 1,iv 0,iv 1,iv 110,iv 410,iv 100,iv 0,iv 0],[iv 2,iv 0,iv 1,iv 510,iv 110,iv 60,iv 0,iv 5],[iv 3,iv 1,iv 1,iv 110,iv 410,iv 60,iv 0,iv 5]]],iv 0])::sl13
theorem sk14:KOk Tryz.prog sl14:=kstep sanE_ok sk13 sanH sanM (by kernel_rfl) (by kernel_rfl)
def sl15:KL:=(41,[.agg [iv 0,.list 2 [[iv 1,iv 0],[iv 2,iv 0]],.nil,.nil,.nil,.nil,.nil,.nil,.nil,.nil,.nil,.nil,.nil,.nil,.nil],.list 7 [[iv 1,iv 0,iv 2,iv 1,iv 0,iv 100,iv 0],[iv 2,iv 0,iv 2,iv 1,iv 5,iv 60,iv 0],[iv 3,iv 0,iv 0,iv 0,iv 0,iv 0,iv 0],[iv 5,iv 1,iv 0,iv 0,iv 5,iv 0,iv 0]]],.tup [.agg [iv 0,.list 2 [[iv 1,iv 0],[iv 2,iv 100]],.list 6 [[iv 1,iv 0,iv 0,iv 2,iv 100,iv 0],[iv 2,iv 0,iv 2,iv 0,iv 60,iv 5],[iv 3,iv 1,iv 0,iv 2,iv 60,iv 5]],.list 5 [],.list 1 [[iv 5]],.list 3 [[iv 1,iv 0,.list 5 [[iv 5,iv 1,iv 60,iv 0,iv 2]]]],.list 7 [[iv 5,iv 1,iv 60,iv 0,iv 2,iv 4,iv 1]],.nil,.list 5 [[iv 1,iv 0,iv 1,iv 100,iv 0]],.nil,.list 1 [[iv 100]],.nil,.nil,.nil,.list 8 [[iv 1,iv 0,iv 1,iv 110,iv 410,iv 100,iv 0,iv 0],[iv 2,iv 0,iv 1,iv 510,iv 110,iv 60,iv 0,iv 5],[iv 3,iv 1,iv 1,iv 110,iv 410,iv 60,iv 0,iv 5]]],iv 4,iv 0])::sl14
theorem sk15:KOk Tryz.prog sl15:=kstep sanE_ok sk14 sanH sanM (by kernel_rfl) (by kernel_rfl)
def sl16:KL:=(82,[.agg [iv 0,.list 2 [[iv 1,iv 0],[iv 2,iv 100]],.list 6 [[iv 1,iv 0,iv 0,iv 2,iv 100,iv 0],[iv 2,iv 0,iv 2,iv 0,iv 60,iv 5],[iv 3,iv 1,iv 0,iv 2,iv 60,iv 5]]]],iv 0)::sl15
theorem sk16:KOk Tryz.prog sl16:=kstep sanE_ok sk15 sanH sanM (by kernel_rfl) (by kernel_rfl)
def sl17:KL:=(14,[.agg [iv 0,.list 2 [[iv 1,iv 0],[iv 2,iv 100]],.list 6 [[iv 1,iv 0,iv 0,iv 2,iv 100,iv 0],[iv 2,iv 0,iv 2,iv 0,iv 60,iv 5],[iv 3,iv 1,iv 0,iv 2,iv 60,iv 5]],.list 5 [],.list 1 [[iv 5]],.list 3 [[iv 1,iv 0,.list 5 [[iv 5,iv 1,iv 60,iv 0,iv 2]]]],.list 7 [[iv 5,iv 1,iv 60,iv 0,iv 2,iv 4,iv 1]],.nil,.list 5 [[iv 1,iv 0,iv 1,iv 100,iv 0]],.nil,.list 1 [[iv 100]],.nil,.nil,.nil,.list 8 [[iv 1,iv 0,iv 1,iv 110,iv 410,iv 100,iv 0,iv 0],[iv 2,iv 0,iv 1,iv 510,iv 110,iv 60,iv 0,iv 5],[iv 3,iv 1,iv 1,iv 110,iv 410,iv 60,iv 0,iv 5]]]],.nil)::sl16
theorem sk17:KOk Tryz.prog sl17:=kstep sanE_ok sk16 sanH sanM (by kernel_rfl) (by kernel_rfl)
theorem sane45_pf (row src:Option Nat):PFun Tryz.prog row src 15 [] (·=bv true):=pfun_run (primOr_ok sanE_ok (primK_ok sk17)) sanH sanM 10000 60 (by kernel_rfl) (by kernel_rfl) row src
open Go.PA
open Go.RowKit
theorem runs_am {secs:List TSecurity} {u:RepSt} {ms:List TMove} (h:Runs secs rep0 ms u):∀m,m∈ms→0<m.Amount∧m.Amount≤1000000000000:=by
 induction h with
 |nil=>intro m hm;cases hm
 |@snoc u ms m _ hst ih=>
  intro x hx
  rcases List.mem_append.1 hx with hx|hx
  ·exact ih x hx
  ·simp at hx
   subst hx
   obtain⟨s,hm⟩:=moveE_ok hst.2.2
   exact⟨hm.am.1,hm.am.2.1⟩
theorem sumMv_le:∀{l:List TMove},(∀m,m∈l→0<m.Amount∧m.Amount≤1000000000000)→ -(1000000000000*(l.length:Int))≤sumMv l∧sumMv l≤1000000000000*(l.length:Int)
 |[],_=>by simp[sumMv]
 |x::l,h=>by
  have h1:=h x (by simp)
  have h2:=sumMv_le (l:=l) fun y hy=>h y (by simp[hy])
  have e:sumMv (x::l)=debM x+sumMv l:=by simp[sumMv]
  have b: -1000000000000≤debM x∧debM x≤1000000000000:=by
   unfold debM
   split
   ·omega
   ·split<;>omega
  rw[e]
  simp only[List.length_cons,Int.natCast_add,Int.natCast_one]
  omega
theorem flow_bd {a:TAccount} (h:checkA a=0) (x y:Int):(0≤(flowA a x y).1∧(flowA a x y).1≤1000000000000*400)∧(0≤(flowA a x y).2∧(flowA a x y).2≤1000000000000*400):=by
 have h2:=(check_ok h).2.1
 rw[flowA,if_pos h]
 have i:=sumE_bound (inF x y) 1000000000000 a.Entries (inF_bound h x y)
 have o:=sumE_bound (outF x y) 1000000000000 a.Entries (outF_bound h x y)
 dsimp only
 omega
set_option maxHeartbeats 4000000 in
theorem sums45_pf (xs:List Int) (hx:Small xs) (hl:xs.length≤9223372036854775807):PFun Tryz.prog none none 4 [intsL xs] (·=bv true):=by
 refine pfun_introA Tryz.func4 rfl (by simp[Tryz.f4]) ?_
 intro E hP hr hs hW hN
 refine awp_cut (by rw[hN];kernel_rfl) ?_
 simp[go_sem,hP]
 refine awp_cut (by rw[hN];kernel_rfl) ?_
 simp[go_sem,hP]
 have hnew:POwn Tryz.prog E.row E.src 7 [intsL xs] 85 2 (·=[[intsL (xs.take 900),iv 0]]):=by rw[hr,hs];exact new_pf xs hl
 refine callB_own hnew hP en_7 (args_same (by simp[go_sem,intsL])) (by simp[srefs_imm,go_sem,intsL]) ⟨_,rfl⟩ ?_
 rintro es rfl
 simp[go_sem,hP]
 refine awp_adopt 3 (ty:=85) (xs:=xs.take 900) (at_:=0) hr hs hW (by simp[go_sem]) (by simp[go_sem,intsL]) (by omega) (by simp;omega) (fun x hx'=>hx x (List.mem_of_mem_take hx')) (by rw[hN];kernel_rfl) ?_
 intro E' p hP' hr' hN' hW'
 rw[hP]at hP'
 rw[hN]at hN'
 clear hnew hP hr hs hW hN E
 rename Env=>E
 rename E.P=_=>hP
 rename E.row=_=>hr
 rename E.N=_=>hN
 rename (∀b,¬E.W b)=>hW
 obtain⟨src,hs⟩:∃src,E.src=src:=⟨_,rfl⟩
 have up:∀{f:FuncId} {args:List AV} {Q:AV→Prop},PFun Tryz.prog (some p) src f args Q→PFun Tryz.prog E.row E.src f args Q:=fun h=>hr▸hs▸h
 simp -dsimp -implicitDefEqProofs [-getElem?_pos,go_sem,hP]
 refine callB_isQ (up (made_pf p src 16 (by omega))) hP en_16 (by simp -dsimp[-getElem?_pos,go_sem]) (MadeQ_ex 16) ?_
 rintro r ⟨x,rfl,hf,hcl⟩ ix
 have hF:=hf.f
 obtain⟨u1,u2,u3,u4⟩:=hcl.sums hF
 have cp:=hcl.cp
 have hml:=hF.rm
 have cs:=csums_pf x hF
 have to:=total23_pf x.Desk.Account hF.d.s hF.d.e
 have o1:=rof_pf x.Ledger 1 110 36000 (by have:=hF.l;omega)
 have o2:=rof_pf x.Ledger 1 230 36000 (by have:=hF.l;omega)
 have e1:ofL x.Ledger.Postings 1 110 36000=bal (ofB 1 0 36000) x.Ledger.Postings 110:=by rw[ofL,if_pos cp]
 have e2:ofL x.Ledger.Postings 1 230 36000=bal (ofB 1 0 36000) x.Ledger.Postings 230:=by rw[ofL,if_pos cp]
 have ram:=runs_am hF.r.run
 have lt:=tot_le (l:=x.Register.Holdings) fun y hy=>hF.r.hl.am hy
 have hlen:=hF.r.hl.len
 have fl:=flow_bd hcl.d.a 0 36000
 rw[u1]at to
 rw[e1,u3]at o1
 rw[e2]at o2
 obtain⟨a,ha⟩:∃a,a=(flowA x.Desk.Account 0 36000).1:=⟨_,rfl⟩
 obtain⟨b,hb⟩:∃b,b=(flowA x.Desk.Account 0 36000).2:=⟨_,rfl⟩
 obtain⟨c,hc⟩:∃c,c=totH x.Register.Holdings:=⟨_,rfl⟩
 obtain⟨w,hw⟩:∃w,w=bal (ofB 1 0 36000) x.Ledger.Postings 230:=⟨_,rfl⟩
 rw[←ha,←hb]at cs to o1 fl
 rw[←hc]at cs u2 u4 lt
 rw[←hw]at o2 u4
 have ia:=imm_acc x.Desk.Account
 have ip:=imm_posts x.Ledger.Postings
 have cl:x.Ledger.cells=[postsL x.Ledger.Postings]:=rfl
 rw[cA]at to ia
 rw[cl]at o1 o2
 rw[cStX]at cs ix
 have part:∀k,k≤x.Register.Moves.length→ -1000000000000000≤sumMv (x.Register.Moves.take k)∧sumMv (x.Register.Moves.take k)≤1000000000000000:=fun k hk=>by
  have:=sumMv_le (l:=x.Register.Moves.take k) fun y hy=>ram y (List.mem_of_mem_take hy)
  rw[List.length_take]at this
  omega
 simp -dsimp -implicitDefEqProofs [-getElem?_pos,go_sem,hP,cStX]
 refine callB_is (cs.lift _ _) hP en_17 (by simpa using ix) (imm_tup3s _ _ _) ?_
 simp -dsimp -implicitDefEqProofs [-getElem?_pos,go_sem,hP,encL_len]
 obtain⟨I,hI⟩:∃I:Nat→St→Prop,I=fun m s=>∃k:Nat,k≤x.Register.Moves.length∧m=x.Register.Moves.length-k∧s.t 4= .ref 1 0 0∧s.t 5=iv a∧s.t 6=iv b∧s.t 7=iv c∧s.t 8=iv (sumMv (x.Register.Moves.take k))∧s.t 23=movesL x.Register.Moves∧s.t 24=iv x.Register.Moves.length∧s.t 25=iv k∧s.H[1]?=some (some (stO x)):=⟨_,rfl⟩
 refine aloop0 I (x.Register.Moves.length) (by rw[hN];rfl) ?_ ?_
 ·rw[hI]
  exact⟨0,by omega,by omega,by simp -dsimp[-getElem?_pos,go_sem],by simp -dsimp[-getElem?_pos,go_sem],by simp -dsimp[-getElem?_pos,go_sem],by simp -dsimp[-getElem?_pos,go_sem],by simp -dsimp[-getElem?_pos,go_sem];rfl,by simp -dsimp[-getElem?_pos,go_sem],by simp -dsimp[-getElem?_pos,go_sem],by simp -dsimp[-getElem?_pos,go_sem],by simp -dsimp[-getElem?_pos,go_sem]⟩
 intro m s hs'
 rw[hI]at hs'
 obtain⟨k,hk,hm,t4,t5,t6,t7,t8,t23,t24,t25,g1⟩:=hs'
 have l1:=(gsI g1)
 simp -dsimp -implicitDefEqProofs [-getElem?_pos,go_sem,hP,t24,t25]
 refine condP (fun hq=>?_) (fun hq=>?_)
 ·have hk:k<x.Register.Moves.length:=by simpa using hq
  obtain⟨y,hy⟩:∃y,x.Register.Moves[k]?=some y:=⟨_,List.getElem?_eq_getElem hk⟩
  have wk:=wrap_in ((k:Int)+1) (by omega)
  have es:sumMv (x.Register.Moves.take (k+1))=sumMv (x.Register.Moves.take k)+debM y:=by
   rw[List.take_add_one,hy]
   simp[sumMv]
  have p1:=part (k+1) hk
  have g1':∀Y:List (Option AObj),(s.H++Y)[1]?=some (some (stO x)):=fun Y=>by rw[List.getElem?_append_left l1];exact g1
  rcases hf.mv y (List.mem_of_getElem? hy)with⟨k1,_⟩|⟨k3,_⟩
  ·have d1:decide (y.Kind=1)=true:=decide_eq_true k1
   have d3:decide (y.Kind=3)=false:=decide_eq_false (by omega)
   have e:debM y=y.Amount:=by rw[debM,if_pos k1]
   rw[e]at es
   have w1:=wrap_in (sumMv (x.Register.Moves.take k)+y.Amount) (by omega)
   simp -dsimp -implicitDefEqProofs [-getElem?_pos,go_sem,hP,t23,t25,hy,cMov,t8,d1,d3,w1,wk]
   refine⟨x.Register.Moves.length-(k+1),by omega,?_⟩
   rw[hI]
   exact⟨k+1,by omega,rfl,by simp -dsimp[-getElem?_pos,go_sem,t4],by simp -dsimp[-getElem?_pos,go_sem,t5],by simp -dsimp[-getElem?_pos,go_sem,t6],by simp -dsimp[-getElem?_pos,go_sem,t7],by simp -dsimp[-getElem?_pos,go_sem,es],by simp -dsimp[-getElem?_pos,go_sem,t23],by simp -dsimp[-getElem?_pos,go_sem,t24],by simp -dsimp[-getElem?_pos,go_sem],by simp -dsimp[-getElem?_pos,go_sem,g1']⟩
  ·have d1:decide (y.Kind=1)=false:=decide_eq_false (by omega)
   have d3:decide (y.Kind=3)=true:=decide_eq_true k3
   have e:debM y= -y.Amount:=by rw[debM,if_neg (by omega),if_pos k3]
   rw[e]at es
   have w1:=wrap_in (sumMv (x.Register.Moves.take k)-y.Amount) (by omega)
   simp -dsimp -implicitDefEqProofs [-getElem?_pos,go_sem,hP,t23,t25,hy,cMov,t8,d1,d3,w1,wk]
   refine⟨x.Register.Moves.length-(k+1),by omega,?_⟩
   rw[hI]
   exact⟨k+1,by omega,rfl,by simp -dsimp[-getElem?_pos,go_sem,t4],by simp -dsimp[-getElem?_pos,go_sem,t5],by simp -dsimp[-getElem?_pos,go_sem,t6],by simp -dsimp[-getElem?_pos,go_sem,t7],by simp -dsimp[-getElem?_pos,go_sem,es,Int.sub_eq_add_neg],by simp -dsimp[-getElem?_pos,go_sem,t23],by simp -dsimp[-getElem?_pos,go_sem,t24],by simp -dsimp[-getElem?_pos,go_sem],by simp -dsimp[-getElem?_pos,go_sem,g1']⟩
 ·have hk:k=x.Register.Moves.length:=by simp at hq;omega
  subst hk
  rw[List.take_length,←u2]at t8
  have w1:=wrap_in (a-b) (by omega)
  have w2:=wrap_in (-w) (by omega)
  have wc:=wrap_in c (by omega)
  simp -dsimp -implicitDefEqProofs [-getElem?_pos,go_sem,hP,t4,g1,l1]
  refine callB_is (to.lift _ _) hP en_18 (by simp[ia]) .sc ?_
  simp -dsimp -implicitDefEqProofs [-getElem?_pos,go_sem,hP,t5,t6,t7,t8,w1,t4,g1,l1]
  refine callB_is (o1.lift _ _) hP en_19 (by simp[ip,imm_agg,imm_sc]) .sc ?_
  simp -dsimp -implicitDefEqProofs [-getElem?_pos,go_sem,hP,t5,t6,t7,t8,w1,t4,g1,l1]
  refine callB_is (o2.lift _ _) hP en_19 (by simp[ip,imm_agg,imm_sc]) .sc ?_
  simp -dsimp -implicitDefEqProofs [-getElem?_pos,go_sem,hP,t5,t6,t7,t8,w1,w2,u4,wc]
  refine callB_is (sane45_pf _ _) hP en_15 (by simp) .sc ?_
  simp -dsimp -implicitDefEqProofs [-getElem?_pos,go_sem,hP]
end Go.Proofs.YtaenimpfelpafaaGreatDoor
