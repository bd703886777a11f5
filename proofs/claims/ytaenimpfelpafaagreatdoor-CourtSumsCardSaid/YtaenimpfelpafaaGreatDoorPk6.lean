/- Several texts of this claim, joined: Bat16 Rec2 Rec3 Rec4 Rec5 Rec6 Rec7 AccNet Rec9 Rec10 Rec8 Key1 Reg1 Reg2 Reg3 PaCut Reg4 Reg5 Reg6 Reg7 PaCell. -/
import Derived.Test.YtaenimpfelpafaaGreatDoorPk5
set_option linter.unusedSimpArgs false
set_option linter.unusedVariables false
namespace Go.Proofs.YtaenimpfelpafaaGreatDoor
open Go.PA
open Go.RowKit
set_option maxHeartbeats 4000000 in
theorem take25_pf (q:TQueue) (day:Int) (ws:List Int) (hf:FitQ q) (hw:ws.length≤100000):PFun Tryz.prog none none 221 [.agg q.cells,iv day,intsL ws] (·= .tup [.agg (takeQ q day ws).1.cells,.agg (takeQ q day ws).2.1.cells,iv (takeQ q day ws).2.2]):=by
 refine pfun_introA Tryz.func221 rfl (by simp[Tryz.f221]) ?_
 intro E hP hr hs hW hN
 have ck:=rcheck25_pf q hf
 have iq:=imm_que q
 have ip:=imm_pays q.Waiting
 have i2:=imm_ints q.Known
 have i3:=imm_bats q.Batches
 have iw:=imm_ints ws
 have lb:=hf.b
 have lw:=hf.w
 rw[cQu]at ck iq
 simp only[intsL]at i2 ck iq iw
 refine awp_cut (by rw[hN];kernel_rfl) ?_
 simp -dsimp -implicitDefEqProofs [-getElem?_pos,go_sem,hP,cQu,intsL]
 refine awp_cut (by rw[hN];kernel_rfl) ?_
 simp -dsimp -implicitDefEqProofs [-getElem?_pos,go_sem,hP]
 refine callB_is (ck.lift _ _) hP en_270 (by simpa using iq) .sc ?_
 by_cases c1:checkQ q=0
 rotate_left
 ·have:takeQ q day ws=(zeroQ,zeroB,checkQ q):=by rw[takeQ,if_neg c1]
  simp -dsimp -implicitDefEqProofs [-getElem?_pos,go_sem,hP,c1]
  refine done_zeroQ3 ?_
  rw[this];rfl
 have hq:=checkQ_iff.1 c1
 simp -dsimp -implicitDefEqProofs [-getElem?_pos,go_sem,hP,c1]
 refine awp_cut (by rw[hN];kernel_rfl) ?_
 simp -dsimp -implicitDefEqProofs [-getElem?_pos,go_sem,hP]
 obtain⟨Inv,hInv⟩:∃Inv:St→Prop,Inv=fun s=>busB day=true∧¬day<lastQ q∧¬ws.length=0∧¬10<ws.length∧¬200≤q.Batches.length∧s.t 1=iv day∧s.t 2= .list 1 (ws.map fun x=>[iv x])∧s.t 3= .ref 0 0 0∧s.t 6= .ref 1 0 0∧s.t 7= .ref 2 0 0∧s.t 10=iv q.Batches.length∧s.H=[some ⟨32,3,[[paysL q.Waiting,.list 1 (q.Known.map fun x=>[iv x]),batsL q.Batches]]⟩,some ⟨32,3,[[.nil,.nil,.nil]]⟩,some ⟨140,3,[[iv 0,iv 0,.nil]]⟩]:=⟨_,rfl⟩
 refine awp_join Inv (by rw[hN];kernel_rfl) ?_ ?_
 rotate_left
 ·intro s hs'
  rw[hInv]at hs'
  obtain⟨c2,c3,c4,c5,c6,t1,t2,t3,t6,t7,t10,hH⟩:=hs'
  have wl:=wrap_in ((q.Batches.length:Int)+1) (by omega)
  have f6:dueB q day ws=false→takeQ q day ws=(zeroQ,zeroB,6):=fun h=>by rw[takeQ,if_pos c1,if_pos c2,if_neg c3,if_neg c4,if_neg (by omega),if_neg (by simp[h])]
  refine awp_cut (by rw[hN];kernel_rfl) ?_
  simp -dsimp -implicitDefEqProofs [-getElem?_pos,go_sem,hP,t10,t1,wl,hH]
  obtain⟨Inv1,hInv1⟩:∃Inv:St→Prop,Inv=fun s=>dueB q day ws=true∧s.t 1=iv day∧s.t 2= .list 1 (ws.map fun x=>[iv x])∧s.t 3= .ref 0 0 0∧s.t 6= .ref 1 0 0∧s.t 7= .ref 2 0 0∧s.t 11= .ref 3 0 0∧s.H=[some ⟨32,3,[[paysL q.Waiting,.list 1 (q.Known.map fun x=>[iv x]),batsL q.Batches]]⟩,some ⟨32,3,[[.nil,.nil,.nil]]⟩,some ⟨140,3,[[iv 0,iv 0,.nil]]⟩,some ⟨140,3,[[iv ((q.Batches.length:Int)+1),iv day,.nil]]⟩]:=⟨_,rfl⟩
  refine awp_join Inv1 (by rw[hN];kernel_rfl) ?_ ?_
  rotate_left
  ·intro s hs'
   rw[hInv1]at hs'
   obtain⟨hdue,t1,t2,t3,t6,t7,t11,hH⟩:=hs'
   have htk:takeQ q day ws=(⟨q.Waiting.filter (fun p=>!takenB ws p),q.Known,q.Batches++[takeB q day ws]⟩,takeB q day ws,0):=by rw[takeQ,if_pos c1,if_pos c2,if_neg c3,if_neg c4,if_neg (by omega),if_pos hdue]
   rw[htk,takeB]
   obtain⟨W,hWt⟩:∃W,W=q.Waiting:=⟨_,rfl⟩
   obtain⟨Kn,hKn⟩:∃Kn,Kn=q.Known:=⟨_,rfl⟩
   obtain⟨bs,hbs⟩:∃bs,bs=q.Batches:=⟨_,rfl⟩
   rw[←hWt,←hKn,←hbs]at hH⊢
   rw[←hWt]at lw ip
   rw[←hbs]at lb i3 wl
   rw[←hKn]at i2
   refine awp_cut (by rw[hN];kernel_rfl) ?_
   simp -dsimp -implicitDefEqProofs [-getElem?_pos,go_sem,hP]
   obtain⟨Inv2,hInv2⟩:∃Inv:St→Prop,Inv=fun s=>∃(id:Nat) (ys zs:List TPayment),ys=W.filter (fun p=>!takenB ws p)∧zs=W.filter (takenB ws)∧4≤id∧s.t 1=iv day∧s.t 3= .ref 0 0 0∧s.t 6= .ref 1 0 0∧s.t 7= .ref 2 0 0∧s.t 11= .ref 3 0 0∧s.t 17= .sref id 0 ys.length∧s.H[0]?=some (some ⟨32,3,[[paysL W,.list 1 (Kn.map fun x=>[iv x]),batsL bs]]⟩)∧s.H[1]?=some (some ⟨32,3,[[.nil,.nil,.nil]]⟩)∧s.H[2]?=some (some ⟨140,3,[[iv 0,iv 0,.nil]]⟩)∧s.H[3]?=some (some ⟨140,3,[[iv ((bs.length:Int)+1),iv day,paysL zs]]⟩)∧s.H[id]?=some (some ⟨81,5,encL TPayment.cells ys⟩):=⟨_,rfl⟩
   refine awp_join Inv2 (by rw[hN];kernel_rfl) ?_ ?_
   rotate_left
   ·intro s hs'
    rw[hInv2]at hs'
    obtain⟨id,ys,zs,hys,hzs,hid,t1,t3,t6,t7,t11,t17,h0,h1,h2,h3,hi⟩:=hs'
    have lt0:=(gsI h0)
    have lt1:=(gsI h1)
    have lt2:=(gsI h2)
    have lt3:=(gsI h3)
    have lti:=(gsI hi)
    refine awp_sound _ _ _ (by rw[hN];kernel_rfl) ?_
    simp -dsimp -implicitDefEqProofs [-getElem?_pos,go_sem,hP,t17,t3,h0,lt0]
    refine adrawB (fun i=>decide (i<4)) [7] hP (by kernel_rfl) (by kernel_rfl) ?_
    have D:∀i,decide (i<4)=true→i<4:=fun i hi=>by simpa using hi
    simp -dsimp -implicitDefEqProofs [-getElem?_pos,go_sem,hP,t3,t11,h3,lt3,lt0]
    refine⟨by omega,by omega,fun i hi=>?_,by omega,by omega,fun i hi=>?_,?_⟩
    ·have:=D i hi
     rw[List.getElem?_append_left (by simp;omega)]
    ·have:=D i hi
     rw[List.getElem?_append_left (by simp;omega),List.getElem?_append_left (by simp;omega)]
    have en:encL TBatch.cells bs++[[iv ((bs.length:Int)+1),iv day,paysL zs]]=encL TBatch.cells (bs++[⟨bs.length+1,day,zs⟩]):=encL_snoc TBatch.cells bs ⟨bs.length+1,day,zs⟩
    rw[en]
    generalize hH9:(_++_:Heap)=H9
    obtain⟨b',hb'⟩:∃b',b'=s.H.length+1:=⟨_,rfl⟩
    have y0:H9[0]?=some (some ⟨32,3,[[.sref id 0 ys.length,.list 1 (Kn.map fun x=>[iv x]),.sref b' 0 (bs.length+1)]]⟩):=by rw[←hH9,List.getElem?_append_left (by simp;omega),List.getElem?_set_self lt0,hb']
    have y1:H9[1]?=s.H[1]?:=by rw[←hH9,List.getElem?_append_left (by simp;omega),List.getElem?_set_ne (by omega)]
    have y2:H9[2]?=s.H[2]?:=by rw[←hH9,List.getElem?_append_left (by simp;omega),List.getElem?_set_ne (by omega)]
    have y3:H9[3]?=s.H[3]?:=by rw[←hH9,List.getElem?_append_left (by simp;omega),List.getElem?_set_ne (by omega)]
    have yi:H9[id]?=s.H[id]?:=by rw[←hH9,List.getElem?_append_left (by simp;omega),List.getElem?_set_ne (by omega)]
    have yb:H9[b']?=some (some ⟨140,3,encL TBatch.cells (bs++[⟨bs.length+1,day,zs⟩])⟩):=by rw[←hH9,hb',List.getElem?_append_right (by simp)];simp
    rw[h1]at y1
    rw[h2]at y2
    rw[h3]at y3
    rw[hi]at yi
    clear hH9
    have r0:=(gsI y0)
    have r1:=(gsI y1)
    have r2:=(gsI y2)
    have r3:=(gsI y3)
    refine adrawB (fun i=>decide (i=0)||decide (i=3)) [] hP (by kernel_rfl) (by kernel_rfl) ?_
    simp -dsimp -implicitDefEqProofs [-getElem?_pos,go_sem,hP,t3,t11,t6,t7,y0,y1,y2,y3,r0,r1,r2,r3]
    refine⟨fun i hi=>?_,fun i hi=>?_,?_⟩
    ·simp only[Bool.or_eq_true,decide_eq_true_eq]at hi
     rw[List.getElem?_set_ne (by omega)]
    ·simp only[Bool.or_eq_true,decide_eq_true_eq]at hi
     rw[List.getElem?_set_ne (by omega)]
    have iB:=imm_bat ⟨bs.length+1,day,zs⟩
    refine done_trip (cs':=(TQueue.mk ys Kn (bs++[⟨bs.length+1,day,zs⟩])).cells) (ds':=(TBatch.mk (bs.length+1) day zs).cells) ?_ (cw_immL (imm_agg.1 iB)) (by rw[hys,hzs];rfl)
    refine cw_sref (ty:=81) (es:=encL TPayment.cells ys) ?_ (by rw[encL_len]) (imm_pays _) (cw_imm i2 (cw_sref (ty:=140) (es:=encL TBatch.cells (bs++[⟨bs.length+1,day,zs⟩])) ?_ (by rw[encL_len];simp) (imm_bats _) .nil))
    ·rw[List.getElem?_set_ne (by omega),List.getElem?_set_ne (by omega),yi]
    ·rw[List.getElem?_set_ne (by omega),List.getElem?_set_ne (by omega),yb]
   have zne:W.filter (takenB ws)≠[]:=fun h=>by
    have:=taken_len hq.asc.nd hdue
    rw[←hWt,h]at this
    exact c4 this.symm
   simp -dsimp -implicitDefEqProofs [-getElem?_pos,go_sem,hP,t3,hH]
   refine aloop_own 17 81 5 (by simp -dsimp[-getElem?_pos,go_sem]) ?_
   obtain⟨I,hI⟩:∃I:Nat→St→Prop,I=fun m s=>∃(k id:Nat) (x:AV) (ys zs:List TPayment),k≤W.length∧m=W.length-k∧ys=(W.take k).filter (fun p=>!takenB ws p)∧zs=(W.take k).filter (takenB ws)∧ys.length≤k∧zs.length≤k∧4≤id∧s.t 1=iv day∧s.t 2= .list 1 (ws.map fun x=>[iv x])∧s.t 3= .ref 0 0 0∧s.t 6= .ref 1 0 0∧s.t 7= .ref 2 0 0∧s.t 11= .ref 3 0 0∧s.t 123=paysL W∧s.t 124=iv W.length∧s.t 125=iv k∧s.t 17= .sref id 0 ys.length∧s.H[0]?=some (some ⟨32,3,[[paysL W,.list 1 (Kn.map fun x=>[iv x]),batsL bs]]⟩)∧s.H[1]?=some (some ⟨32,3,[[.nil,.nil,.nil]]⟩)∧s.H[2]?=some (some ⟨140,3,[[iv 0,iv 0,.nil]]⟩)∧s.H[3]?=some (some ⟨140,3,[[iv ((bs.length:Int)+1),iv day,x]]⟩)∧s.H[id]?=some (some ⟨81,5,encL TPayment.cells ys⟩)∧((x= .nil∧zs=[])∨∃jd,4≤jd∧jd≠id∧x= .sref jd 0 zs.length∧s.H[jd]?=some (some ⟨81,5,encL TPayment.cells zs⟩)):=⟨_,rfl⟩
   refine aloop0 I (W.length) (by rw[hN];rfl) ?_ ?_
   ·rw[hI]
    exact⟨0,4,.nil,[],[],by omega,by omega,by simp,by simp,by simp,by simp,by omega,by simp -dsimp[-getElem?_pos,go_sem,t1],by simp -dsimp[-getElem?_pos,go_sem,t2],by simp -dsimp[-getElem?_pos,go_sem,t3],by simp -dsimp[-getElem?_pos,go_sem,t6],by simp -dsimp[-getElem?_pos,go_sem,t7],by simp -dsimp[-getElem?_pos,go_sem,t11],by simp -dsimp[-getElem?_pos,go_sem],by simp -dsimp[-getElem?_pos,go_sem],by simp -dsimp[-getElem?_pos,go_sem],by simp -dsimp[-getElem?_pos,go_sem,hH],by simp -dsimp[-getElem?_pos,go_sem,hH],by simp -dsimp[-getElem?_pos,go_sem,hH],by simp -dsimp[-getElem?_pos,go_sem,hH],by simp -dsimp[-getElem?_pos,go_sem,hH],by simp -dsimp[-getElem?_pos,go_sem,hH],.inl ⟨rfl,rfl⟩⟩
   clear t1 t2 t3 t6 t7 t11 hH
   intro m s hs'
   rw[hI]at hs'
   obtain⟨k,id,x,ys,zs,hk,hm,hys,hzs,hyl,hzl,hid,t1,t2,t3,t6,t7,t11,t123,t124,t125,t17,h0,h1,h2,h3,hi,hx⟩:=hs'
   have lt0:=(gsI h0)
   have lt3:=(gsI h3)
   have lti:=(gsI hi)
   simp -dsimp -implicitDefEqProofs [-getElem?_pos,go_sem,hP,t124,t125]
   refine condP (fun hh=>?_) (fun hh=>?_)
   rotate_left
   ·have hk:k=W.length:=by simp at hh;omega
    subst hk
    rw[List.take_length]at hys hzs
    rcases hx with⟨rfl,hx⟩|⟨jd,hj4,hji,rfl,hjo⟩
    ·exact absurd (hzs▸hx) zne
    have ltj:=(gsI hjo)
    simp -dsimp -implicitDefEqProofs [-getElem?_pos,go_sem,hP]
    refine⟨_,weaker_frzcell (o:=3) (id:=jd) (r:=0) (c:=2) (ty:=140) (k:=3) (es:=[[iv ((bs.length:Int)+1),iv day,.sref jd 0 zs.length]]) (e:=[iv ((bs.length:Int)+1),iv day,.sref jd 0 zs.length]) (ty':=81) (kk:=5) (fs:=encL TPayment.cells zs) (n:=zs.length) hW (by simp -dsimp[-getElem?_pos,go_sem,h3]) (by omega) rfl rfl (by simp -dsimp[-getElem?_pos,go_sem,hjo]) (by rw[encL_len]) (imm_pays _) (by omega),?_⟩
    rw[hInv2]
    refine⟨id,ys,zs,hys,hzs,hid,by simp -dsimp[-getElem?_pos,go_sem,t1],by simp -dsimp[-getElem?_pos,go_sem,t3],by simp -dsimp[-getElem?_pos,go_sem,t6],by simp -dsimp[-getElem?_pos,go_sem,t7],by simp -dsimp[-getElem?_pos,go_sem,t11],by simp -dsimp[-getElem?_pos,go_sem,t17],?_,?_,?_,?_,?_⟩
    ·dsimp only
     rw[List.getElem?_set_ne (by omega),List.getElem?_set_ne (by omega),h0]
    ·dsimp only
     rw[List.getElem?_set_ne (by omega),List.getElem?_set_ne (by omega),h1]
    ·dsimp only
     rw[List.getElem?_set_ne (by omega),List.getElem?_set_ne (by omega),h2]
    ·dsimp only
     rw[List.getElem?_set_self (by simp;omega)]
     rfl
    ·dsimp only
     rw[List.getElem?_set_ne (by omega),List.getElem?_set_ne (by omega),hi]
   have hk:k<W.length:=by simpa using hh
   obtain⟨p,hp⟩:∃p,W[k]?=some p:=⟨_,List.getElem?_eq_getElem hk⟩
   have wk:=wrap_in ((k:Int)+1) (by omega)
   have ny:(W.take (k+1)).filter (fun p=>!takenB ws p)=if takenB ws p then ys else ys++[p]:=by
    rw[take_at hp,List.filter_append,←hys]
    cases ht:takenB ws p<;>simp[ht]
   have nz:(W.take (k+1)).filter (takenB ws)=if takenB ws p then zs++[p]else zs:=by
    rw[take_at hp,List.filter_append,←hzs]
    cases ht:takenB ws p<;>simp[ht]
   simp -dsimp -implicitDefEqProofs [-getElem?_pos,go_sem,hP,t125,t123,hp,cPy,t2]
   generalize hH1:s.H++_=H1
   obtain⟨n,hn⟩:∃n,n=s.H.length:=⟨_,rfl⟩
   have kk:Kept [] s.H H1:=by rw[←hH1];exact kept_app _ _ _
   have ep:H1[n]?=some (some ⟨81,5,[[iv p.Warrant,iv p.Payee,iv p.Amount,iv p.Due,iv p.Sub]]⟩):=by rw[←hH1,hn];simp
   have e0:=kk _ _ (by simp) h0
   have e1:=kk _ _ (by simp) h1
   have e2:=kk _ _ (by simp) h2
   have e3:=kk _ _ (by simp) h3
   have ei:=kk _ _ (by simp) hi
   have ltp:=(gsI ep)
   have ll1:H1.length=n+1:=by rw[←hH1,hn];simp
   obtain⟨J,hJ⟩:∃I:Nat→St→Prop,I=fun m s=>∃(j:Nat),j≤ws.length∧m=ws.length-j∧s.t 20=bv (decide (p.Warrant∈ws.take j))∧s.t 1=iv day∧s.t 2= .list 1 (ws.map fun x=>[iv x])∧s.t 3= .ref 0 0 0∧s.t 6= .ref 1 0 0∧s.t 7= .ref 2 0 0∧s.t 11= .ref 3 0 0∧s.t 123=paysL W∧s.t 124=iv W.length∧s.t 125=iv k∧s.t 17= .sref id 0 ys.length∧s.t 19= .ref n 0 0∧s.t 129= .list 1 (ws.map fun x=>[iv x])∧s.t 130=iv ws.length∧s.t 131=iv j∧s.H=H1:=⟨_,rfl⟩
   refine aloop0 J (ws.length) (by rw[hN];rfl) ?_ ?_
   ·rw[hJ]
    exact⟨0,by omega,by omega,by simp -dsimp[-getElem?_pos,go_sem],by simp -dsimp[-getElem?_pos,go_sem,t1],by simp -dsimp[-getElem?_pos,go_sem,t2],by simp -dsimp[-getElem?_pos,go_sem,t3],by simp -dsimp[-getElem?_pos,go_sem,t6],by simp -dsimp[-getElem?_pos,go_sem,t7],by simp -dsimp[-getElem?_pos,go_sem,t11],by simp -dsimp[-getElem?_pos,go_sem,t123],by simp -dsimp[-getElem?_pos,go_sem,t124],by simp -dsimp[-getElem?_pos,go_sem,t125],by simp -dsimp[-getElem?_pos,go_sem,t17],by simp -dsimp[-getElem?_pos,go_sem,hn],by simp -dsimp[-getElem?_pos,go_sem],by simp -dsimp[-getElem?_pos,go_sem],by simp -dsimp[-getElem?_pos,go_sem],rfl⟩
   clear t1 t2 t3 t6 t7 t11 t123 t124 t125 t17
   intro m s hs'
   rw[hJ]at hs'
   obtain⟨j,hj,hm',t20,t1,t2,t3,t6,t7,t11,t123,t124,t125,t17,t19,t129,t130,t131,hH⟩:=hs'
   simp -dsimp -implicitDefEqProofs [-getElem?_pos,go_sem,hP,t130,t131]
   refine condP (fun hh=>?_) (fun hh=>?_)
   ·have hj:j<ws.length:=by simpa using hh
    obtain⟨w,hw'⟩:∃w,ws[j]?=some w:=⟨_,List.getElem?_eq_getElem hj⟩
    have wj:=wrap_in ((j:Int)+1) (by omega)
    have em:decide (p.Warrant∈ws.take (j+1))=(decide (p.Warrant∈ws.take j)||decide (w=p.Warrant)):=by
     rw[take_at hw']
     by_cases c:p.Warrant∈ws.take j<;>simp[c,eq_comm]
    have fin:∀s':St,s'.t 20=bv (decide (p.Warrant∈ws.take (j+1)))→s'.t 1=s.t 1→s'.t 2=s.t 2→s'.t 3=s.t 3→s'.t 6=s.t 6→s'.t 7=s.t 7→s'.t 11=s.t 11→s'.t 123=s.t 123→s'.t 124=s.t 124→s'.t 125=s.t 125→s'.t 17=s.t 17→s'.t 19=s.t 19→s'.t 129=s.t 129→s'.t 130=s.t 130→s'.t 131=iv ((j:Int)+1)→s'.H=s.H→∃n',n'<m∧J n' s':=fun s' a1 a2 a3 a4 a5 a6 a7 a8 a9 a10 a11 a12 a13 a14 a15 a16=>by
     refine⟨ws.length-(j+1),by omega,?_⟩
     rw[hJ]
     exact⟨j+1,by omega,rfl,a1,by rw[a2,t1],by rw[a3,t2],by rw[a4,t3],by rw[a5,t6],by rw[a6,t7],by rw[a7,t11],by rw[a8,t123],by rw[a9,t124],by rw[a10,t125],by rw[a11,t17],by rw[a12,t19],by rw[a13,t129],by rw[a14,t130],by rw[a15];simp,by rw[a16,hH]⟩
    by_cases c9:p.Warrant∈ws.take j
    ·have d9:decide (p.Warrant∈ws.take j)=true:=decide_eq_true c9
     rw[d9]at em t20
     simp -dsimp -implicitDefEqProofs [-getElem?_pos,go_sem,hP,t131,t129,hw',t20,wj]
     exact fin _ (by rw[em];simp -dsimp -implicitDefEqProofs [-getElem?_pos,go_sem]) (by simp -dsimp[-getElem?_pos,go_sem]) (by simp -dsimp[-getElem?_pos,go_sem]) (by simp -dsimp[-getElem?_pos,go_sem]) (by simp -dsimp[-getElem?_pos,go_sem]) (by simp -dsimp[-getElem?_pos,go_sem]) (by simp -dsimp[-getElem?_pos,go_sem]) (by simp -dsimp[-getElem?_pos,go_sem]) (by simp -dsimp[-getElem?_pos,go_sem]) (by simp -dsimp[-getElem?_pos,go_sem]) (by simp -dsimp[-getElem?_pos,go_sem]) (by simp -dsimp[-getElem?_pos,go_sem]) (by simp -dsimp[-getElem?_pos,go_sem]) (by simp -dsimp[-getElem?_pos,go_sem]) (by simp -dsimp[-getElem?_pos,go_sem]) (by simp -dsimp[-getElem?_pos,go_sem])
    ·have d9:decide (p.Warrant∈ws.take j)=false:=decide_eq_false c9
     rw[d9,Bool.false_or]at em
     rw[d9]at t20
     simp -dsimp -implicitDefEqProofs [-getElem?_pos,go_sem,hP,t131,t129,hw',t20,wj,t19,hH,ep,ltp]
     exact fin _ (by rw[em];simp -dsimp -implicitDefEqProofs [-getElem?_pos,go_sem]) (by simp -dsimp[-getElem?_pos,go_sem]) (by simp -dsimp[-getElem?_pos,go_sem]) (by simp -dsimp[-getElem?_pos,go_sem]) (by simp -dsimp[-getElem?_pos,go_sem]) (by simp -dsimp[-getElem?_pos,go_sem]) (by simp -dsimp[-getElem?_pos,go_sem]) (by simp -dsimp[-getElem?_pos,go_sem]) (by simp -dsimp[-getElem?_pos,go_sem]) (by simp -dsimp[-getElem?_pos,go_sem]) (by simp -dsimp[-getElem?_pos,go_sem]) (by simp -dsimp[-getElem?_pos,go_sem]) (by simp -dsimp[-getElem?_pos,go_sem]) (by simp -dsimp[-getElem?_pos,go_sem]) (by simp -dsimp[-getElem?_pos,go_sem]) (by simp -dsimp[-getElem?_pos,go_sem,hH])
   have hj:j=ws.length:=by simp at hh;omega
   subst hj
   rw[List.take_length]at t20
   have etk:decide (p.Warrant∈ws)=takenB ws p:=rfl
   rw[etk]at t20
   cases ht:takenB ws p
   ·rw[ht]at ny nz t20
    have nid:¬id=n:=by omega
    simp -dsimp -implicitDefEqProofs [-getElem?_pos,go_sem,hP,t20,t17,t19,hH,ep,ltp,ei,nid,t125,wk]
    refine⟨by omega,by omega,?_⟩
    refine⟨W.length-(k+1),by omega,?_⟩
    rw[hI]
    refine⟨k+1,n+1,x,ys++[p],zs,by omega,rfl,ny.symm,nz.symm,by simp;omega,by omega,by omega,by simp -dsimp[-getElem?_pos,go_sem,t1],by simp -dsimp[-getElem?_pos,go_sem,t2],by simp -dsimp[-getElem?_pos,go_sem,t3],by simp -dsimp[-getElem?_pos,go_sem,t6],by simp -dsimp[-getElem?_pos,go_sem,t7],by simp -dsimp[-getElem?_pos,go_sem,t11],by simp -dsimp[-getElem?_pos,go_sem,t123],by simp -dsimp[-getElem?_pos,go_sem,t124],by simp -dsimp[-getElem?_pos,go_sem],by simp -dsimp[-getElem?_pos,go_sem,ll1],?_,?_,?_,?_,?_,?_⟩
    ·dsimp only
     rw[List.getElem?_append_left (by simp;omega),List.getElem?_set_ne (by omega),e0]
    ·dsimp only
     rw[List.getElem?_append_left (by simp;omega),List.getElem?_set_ne (by omega),e1]
    ·dsimp only
     rw[List.getElem?_append_left (by simp;omega),List.getElem?_set_ne (by omega),e2]
    ·dsimp only
     rw[List.getElem?_append_left (by simp;omega),List.getElem?_set_ne (by omega),e3]
    ·dsimp only
     rw[List.getElem?_append_right (by simp;omega),←encL_snoc]
     simp -dsimp -implicitDefEqProofs [-getElem?_pos,go_sem,ll1,cPy]
    ·rcases hx with hx|⟨jd,hj4,hji,rfl,hjo⟩
     ·exact .inl hx
     ·have hjo':=kk _ _ (by simp) hjo
      have ltj:=(gsI hjo)
      refine .inr ⟨jd,hj4,by omega,rfl,?_⟩
      dsimp only
      rw[List.getElem?_append_left (by simp;omega),List.getElem?_set_ne (by omega),hjo']
   ·rw[ht]at ny nz t20
    have l3:3<H1.length:=by omega
    have n3:¬n=3:=by omega
    rcases hx with⟨rfl,hx⟩|⟨jd,hj4,hji,rfl,hjo⟩
    ·rw[hx,List.nil_append]at nz
     simp -dsimp -implicitDefEqProofs [-getElem?_pos,go_sem,hP,t20,t19,t11,hH,ep,ltp,e3,t125,wk,l3]
     refine⟨W.length-(k+1),by omega,?_⟩
     rw[hI]
     refine⟨k+1,id,.sref (n+1) 0 1,ys,[p],by omega,rfl,ny.symm,nz.symm,by omega,by simp,by omega,by simp -dsimp[-getElem?_pos,go_sem,t1],by simp -dsimp[-getElem?_pos,go_sem,t2],by simp -dsimp[-getElem?_pos,go_sem,t3],by simp -dsimp[-getElem?_pos,go_sem,t6],by simp -dsimp[-getElem?_pos,go_sem,t7],by simp -dsimp[-getElem?_pos,go_sem,t11],by simp -dsimp[-getElem?_pos,go_sem,t123],by simp -dsimp[-getElem?_pos,go_sem,t124],by simp -dsimp[-getElem?_pos,go_sem],by simp -dsimp[-getElem?_pos,go_sem,t17],?_,?_,?_,?_,?_,.inr ⟨n+1,by omega,by omega,rfl,?_⟩⟩
     ·dsimp only
      rw[List.getElem?_append_left (by simp;omega)]
      repeat rw[List.getElem?_set_ne (by omega)]
      exact e0
     ·dsimp only
      rw[List.getElem?_append_left (by simp;omega)]
      repeat rw[List.getElem?_set_ne (by omega)]
      exact e1
     ·dsimp only
      rw[List.getElem?_append_left (by simp;omega)]
      repeat rw[List.getElem?_set_ne (by omega)]
      exact e2
     ·dsimp only
      rw[List.getElem?_append_left (by simp;omega),List.getElem?_set_self (by omega),ll1]
     ·dsimp only
      rw[List.getElem?_append_left (by simp;omega)]
      repeat rw[List.getElem?_set_ne (by omega)]
      exact ei
     ·dsimp only
      rw[List.getElem?_append_right (by simp;omega)]
      show _=some (some (⟨81,5,[p.cells]⟩:AObj))
      simp -dsimp -implicitDefEqProofs [-getElem?_pos,go_sem,ll1,cPy]
    ·have hjo':=kk _ _ (by simp) hjo
     have ltj:=(gsI hjo)
     have ltj1:=(List.getElem?_eq_some_iff.1 hjo').1
     have nj3:¬jd=3:=by omega
     have nj3':¬3=jd:=by omega
     simp -dsimp -implicitDefEqProofs [-getElem?_pos,go_sem,hP,t20,t19,t11,hH,ep,ltp,e3,t125,wk,hjo',ltj1,nj3,nj3',l3]
     refine⟨by omega,by omega,?_⟩
     refine⟨W.length-(k+1),by omega,?_⟩
     rw[hI]
     refine⟨k+1,id,.sref (n+1) 0 (zs.length+1),ys,(zs++[p]),by omega,rfl,ny.symm,nz.symm,by omega,by rw[List.length_append];simp;omega,by omega,by simp -dsimp[-getElem?_pos,go_sem,t1],by simp -dsimp[-getElem?_pos,go_sem,t2],by simp -dsimp[-getElem?_pos,go_sem,t3],by simp -dsimp[-getElem?_pos,go_sem,t6],by simp -dsimp[-getElem?_pos,go_sem,t7],by simp -dsimp[-getElem?_pos,go_sem,t11],by simp -dsimp[-getElem?_pos,go_sem,t123],by simp -dsimp[-getElem?_pos,go_sem,t124],by simp -dsimp[-getElem?_pos,go_sem],by simp -dsimp[-getElem?_pos,go_sem,t17],?_,?_,?_,?_,?_,.inr ⟨n+1,by omega,by omega,by rw[List.length_append];rfl,?_⟩⟩
     ·dsimp only
      rw[List.getElem?_append_left (by simp;omega)]
      repeat rw[List.getElem?_set_ne (by omega)]
      exact e0
     ·dsimp only
      rw[List.getElem?_append_left (by simp;omega)]
      repeat rw[List.getElem?_set_ne (by omega)]
      exact e1
     ·dsimp only
      rw[List.getElem?_append_left (by simp;omega)]
      repeat rw[List.getElem?_set_ne (by omega)]
      exact e2
     ·dsimp only
      rw[List.getElem?_append_left (by simp;omega),List.getElem?_set_self (by simp;omega),ll1]
     ·dsimp only
      rw[List.getElem?_append_left (by simp;omega)]
      repeat rw[List.getElem?_set_ne (by omega)]
      exact ei
     ·dsimp only
      rw[List.getElem?_append_right (by simp;omega)]
      rw[←encL_snoc]
      simp -dsimp -implicitDefEqProofs [-getElem?_pos,go_sem,ll1,cPy]
  simp -dsimp -implicitDefEqProofs [-getElem?_pos,go_sem,hP,t2]
  obtain⟨I,hI⟩:∃I:Nat→St→Prop,I=fun m s=>∃(k:Nat),k≤ws.length∧m=ws.length-k∧(ws.take k).Nodup∧(∀w,w∈ws.take k→∃p,p∈q.Waiting∧p.Warrant=w∧p.Due≤day)∧s.t 1=iv day∧s.t 2= .list 1 (ws.map fun x=>[iv x])∧s.t 3= .ref 0 0 0∧s.t 6= .ref 1 0 0∧s.t 7= .ref 2 0 0∧s.t 11= .ref 3 0 0∧s.t 83= .list 1 (ws.map fun x=>[iv x])∧s.t 84=iv ws.length∧s.t 85=iv k∧s.H=[some ⟨32,3,[[paysL q.Waiting,.list 1 (q.Known.map fun x=>[iv x]),batsL q.Batches]]⟩,some ⟨32,3,[[.nil,.nil,.nil]]⟩,some ⟨140,3,[[iv 0,iv 0,.nil]]⟩,some ⟨140,3,[[iv ((q.Batches.length:Int)+1),iv day,.nil]]⟩]:=⟨_,rfl⟩
  refine aloop0 I (ws.length) (by rw[hN];rfl) ?_ ?_
  ·rw[hI]
   exact⟨0,by omega,by omega,by simp,by simp,by simp -dsimp[-getElem?_pos,go_sem,t1],by simp -dsimp[-getElem?_pos,go_sem,t2],by simp -dsimp[-getElem?_pos,go_sem,t3],by simp -dsimp[-getElem?_pos,go_sem,t6],by simp -dsimp[-getElem?_pos,go_sem,t7],by simp -dsimp[-getElem?_pos,go_sem],by simp -dsimp[-getElem?_pos,go_sem],by simp -dsimp[-getElem?_pos,go_sem],by simp -dsimp[-getElem?_pos,go_sem],by simp -dsimp[-getElem?_pos,go_sem]⟩
  clear t1 t2 t3 t6 t7 t10 hH
  intro m s hs'
  rw[hI]at hs'
  obtain⟨k,hk,hm,hnd,hall,t1,t2,t3,t6,t7,t11,t83,t84,t85,hH⟩:=hs'
  simp -dsimp -implicitDefEqProofs [-getElem?_pos,go_sem,hP,t84,t85]
  refine condP (fun hh=>?_) (fun hh=>?_)
  rotate_left
  ·have hk:k=ws.length:=by simp at hh;omega
   subst hk
   rw[List.take_length]at hnd hall
   simp -dsimp -implicitDefEqProofs [-getElem?_pos,go_sem,hP]
   refine⟨_,Weaker.refl _,?_⟩
   rw[hInv1]
   exact⟨dueB_iff.2 ⟨hnd,hall⟩,by simp -dsimp[-getElem?_pos,go_sem,t1],by simp -dsimp[-getElem?_pos,go_sem,t2],by simp -dsimp[-getElem?_pos,go_sem,t3],by simp -dsimp[-getElem?_pos,go_sem,t6],by simp -dsimp[-getElem?_pos,go_sem,t7],by simp -dsimp[-getElem?_pos,go_sem,t11],by simp -dsimp[-getElem?_pos,go_sem,hH]⟩
  have hk:k<ws.length:=by simpa using hh
  obtain⟨w,hw'⟩:∃w,ws[k]?=some w:=⟨_,List.getElem?_eq_getElem hk⟩
  have wk:=wrap_in ((k:Int)+1) (by omega)
  have wt:=rwaits_pf q w (by omega)
  rw[cQu]at wt
  simp only[intsL]at wt
  simp -dsimp -implicitDefEqProofs [-getElem?_pos,go_sem,hP,t85,t83,hw',t3,hH]
  refine callB_is (wt.lift _ _) hP en_278 (by simpa[imm_sc]using iq) .sc ?_
  by_cases c7:waitQ q w<0
  ·have d7:decide (waitQ q w<0)=true:=decide_eq_true c7
   have:=f6 (Bool.eq_false_iff.2 fun h=>by
    obtain⟨p,hp,e,_⟩:=(dueB_iff.1 h).2 w (List.mem_of_getElem? hw')
    exact waitQ_none.1 c7 p hp e)
   simp -dsimp -implicitDefEqProofs [-getElem?_pos,go_sem,hP,d7,t6,t7,hH]
   refine done_zeroQ3 ?_
   rw[this];rfl
  have d7:decide (waitQ q w<0)=false:=decide_eq_false c7
  obtain⟨i,p,hi,hip,hpw,hil⟩:=waitQ_some c7
  have d7':=d7
  rw[hi]at d7'
  by_cases c8:day<p.Due
  ·have d8:decide (day<p.Due)=true:=decide_eq_true c8
   have:=f6 (Bool.eq_false_iff.2 fun h=>by
    obtain⟨p',hp',e,hd⟩:=(dueB_iff.1 h).2 w (List.mem_of_getElem? hw')
    have:=uniqW hq.asc.nd hp' (List.mem_of_getElem? hip) (e.trans hpw.symm)
    subst this
    omega)
   simp -dsimp -implicitDefEqProofs [-getElem?_pos,go_sem,hP,hi,d7',t6,t7,hH,t3,hip,cPy,t1,d8]
   refine done_zeroQ3 ?_
   rw[this];rfl
  have d8:decide (day<p.Due)=false:=decide_eq_false c8
  obtain⟨T,hT⟩:∃T,T=ws.take k:=⟨_,rfl⟩
  have g1:(ws.map fun x=>[iv x]).take k=T.map fun x=>[iv x]:=by rw[hT,List.map_take]
  have hk':k≤ws.length:=by omega
  have lk:T.length=k:=by rw[hT,List.length_take];omega
  simp -dsimp -implicitDefEqProofs [-getElem?_pos,go_sem,hP,hi,d7',hH,t3,hip,cPy,t1,d8,t2,asliceOp,bound,aslice,hk',g1,lk]
  obtain⟨J,hJ⟩:∃I:Nat→St→Prop,I=fun m s=>∃(j:Nat),j≤k∧m=k-j∧(∀x,x∈T.take j→x≠w)∧s.t 1=iv day∧s.t 2= .list 1 (ws.map fun x=>[iv x])∧s.t 3= .ref 0 0 0∧s.t 6= .ref 1 0 0∧s.t 7= .ref 2 0 0∧s.t 11= .ref 3 0 0∧s.t 13=iv w∧s.t 83= .list 1 (ws.map fun x=>[iv x])∧s.t 84=iv ws.length∧s.t 85=iv k∧s.t 109= .list 1 (T.map fun x=>[iv x])∧s.t 110=iv k∧s.t 111=iv j∧s.H=[some ⟨32,3,[[paysL q.Waiting,.list 1 (q.Known.map fun x=>[iv x]),batsL q.Batches]]⟩,some ⟨32,3,[[.nil,.nil,.nil]]⟩,some ⟨140,3,[[iv 0,iv 0,.nil]]⟩,some ⟨140,3,[[iv ((q.Batches.length:Int)+1),iv day,.nil]]⟩]:=⟨_,rfl⟩
  refine aloop0 J (k) (by rw[hN];rfl) ?_ ?_
  ·rw[hJ]
   exact⟨0,by omega,by omega,by simp,by simp -dsimp[-getElem?_pos,go_sem,t1],by simp -dsimp[-getElem?_pos,go_sem,t2],by simp -dsimp[-getElem?_pos,go_sem,t3],by simp -dsimp[-getElem?_pos,go_sem,t6],by simp -dsimp[-getElem?_pos,go_sem,t7],by simp -dsimp[-getElem?_pos,go_sem,t11],by simp -dsimp[-getElem?_pos,go_sem],by simp -dsimp[-getElem?_pos,go_sem,t83],by simp -dsimp[-getElem?_pos,go_sem,t84],by simp -dsimp[-getElem?_pos,go_sem,t85],by simp -dsimp[-getElem?_pos,go_sem],by simp -dsimp[-getElem?_pos,go_sem,lk],by simp -dsimp[-getElem?_pos,go_sem],by simp -dsimp[-getElem?_pos,go_sem,hH]⟩
  clear t1 t2 t3 t6 t7 t11 t83 t84 t85 hH
  intro m s hs'
  rw[hJ]at hs'
  obtain⟨j,hj,hm,hne,t1,t2,t3,t6,t7,t11,t13,t83,t84,t85,t109,t110,t111,hH⟩:=hs'
  simp -dsimp -implicitDefEqProofs [-getElem?_pos,go_sem,hP,t110,t111]
  refine condP (fun hh=>?_) (fun hh=>?_)
  ·have hj:j<k:=by simpa using hh
   obtain⟨x,hx⟩:∃x,T[j]?=some x:=⟨_,List.getElem?_eq_getElem (by omega)⟩
   have wj:=wrap_in ((j:Int)+1) (by omega)
   by_cases c9:x=w
   ·have d9:decide (x=w)=true:=decide_eq_true c9
    have:=f6 (Bool.eq_false_iff.2 fun h=>by
     have hn:=(dueB_iff.1 h).1
     have e1:(ws.take (k+1)).Nodup:=hn.sublist (List.take_sublist _ _)
     rw[take_at hw',←hT,List.nodup_append]at e1
     exact e1.2.2 x (List.mem_of_getElem? hx) w (by simp) c9)
    simp -dsimp -implicitDefEqProofs [-getElem?_pos,go_sem,hP,t111,t109,hx,t13,d9,c9,t6,t7,hH]
    refine done_zeroQ3 ?_
    rw[this];rfl
   ·have d9:decide (x=w)=false:=decide_eq_false c9
    simp -dsimp -implicitDefEqProofs [-getElem?_pos,go_sem,hP,t111,t109,hx,t13,d9,c9,wj]
    refine⟨k-(j+1),by omega,?_⟩
    rw[hJ]
    refine⟨j+1,by omega,rfl,?_,by simp -dsimp[-getElem?_pos,go_sem,t1],by simp -dsimp[-getElem?_pos,go_sem,t2],by simp -dsimp[-getElem?_pos,go_sem,t3],by simp -dsimp[-getElem?_pos,go_sem,t6],by simp -dsimp[-getElem?_pos,go_sem,t7],by simp -dsimp[-getElem?_pos,go_sem,t11],by simp -dsimp[-getElem?_pos,go_sem,t13],by simp -dsimp[-getElem?_pos,go_sem,t83],by simp -dsimp[-getElem?_pos,go_sem,t84],by simp -dsimp[-getElem?_pos,go_sem,t85],by simp -dsimp[-getElem?_pos,go_sem,t109],by simp -dsimp[-getElem?_pos,go_sem,t110],by simp -dsimp[-getElem?_pos,go_sem],by simp -dsimp[-getElem?_pos,go_sem,hH]⟩
    intro y hy
    rw[take_at hx]at hy
    rcases List.mem_append.1 hy with hy|hy
    ·exact hne y hy
    ·simp at hy;subst hy;exact c9
  ·have hj:j=k:=by simp at hh;omega
   subst hj
   rw[List.take_of_length_le (by omega)]at hne
   simp -dsimp -implicitDefEqProofs [-getElem?_pos,go_sem,hP,t85,wk]
   refine⟨ws.length-(j+1),by omega,?_⟩
   rw[hI]
   refine⟨j+1,by omega,rfl,?_,?_,by simp -dsimp[-getElem?_pos,go_sem,t1],by simp -dsimp[-getElem?_pos,go_sem,t2],by simp -dsimp[-getElem?_pos,go_sem,t3],by simp -dsimp[-getElem?_pos,go_sem,t6],by simp -dsimp[-getElem?_pos,go_sem,t7],by simp -dsimp[-getElem?_pos,go_sem,t11],by simp -dsimp[-getElem?_pos,go_sem,t83],by simp -dsimp[-getElem?_pos,go_sem,t84],by simp -dsimp[-getElem?_pos,go_sem],by simp -dsimp[-getElem?_pos,go_sem,hH]⟩
   ·rw[take_at hw',←hT,List.nodup_append]
    refine⟨hT▸hnd,by simp,fun a ha b hb=>?_⟩
    simp at hb
    subst hb
    exact hne a ha
   ·intro y hy
    rw[take_at hw']at hy
    rcases List.mem_append.1 hy with hy|hy
    ·exact hall y hy
    ·simp at hy;subst hy
     exact⟨p,List.mem_of_getElem? hip,hpw,by omega⟩
 have bad66:busB day=false→takeQ q day ws=(zeroQ,zeroB,66):=fun c2=>by rw[takeQ,if_pos c1,if_neg (by simp[c2])]
 by_cases c2a:day<0
 ·have d2:decide (day<0)=true:=decide_eq_true c2a
  have:=bad66 (by rw[busB,amg_no (by omega)];rfl)
  simp -dsimp -implicitDefEqProofs [-getElem?_pos,go_sem,hP,d2]
  refine done_zeroQ3 ?_
  rw[this];rfl
 have d2a:decide (day<0)=false:=decide_eq_false c2a
 by_cases c2b:36000<day
 ·have d2:decide (36000<day)=true:=decide_eq_true c2b
  have:=bad66 (by rw[busB,amg_no (by omega)];rfl)
  simp -dsimp -implicitDefEqProofs [-getElem?_pos,go_sem,hP,d2a,d2]
  refine done_zeroQ3 ?_
  rw[this];rfl
 have d2b:decide (36000<day)=false:=decide_eq_false c2b
 simp -dsimp -implicitDefEqProofs [-getElem?_pos,go_sem,hP,d2a,d2b]
 refine callB_is ((r02business_pf day).lift _ _) hP en_219 (by simp[imm_sc]) .sc ?_
 cases c2:busB day
 ·have:=bad66 c2
  simp -dsimp -implicitDefEqProofs [-getElem?_pos,go_sem,hP,c2]
  refine done_zeroQ3 ?_
  rw[this];rfl
 have c7:∀P:Prop,(q.Batches.length=0→day<lastQ q→False):=fun _ h1 h2=>by
  have:q.Batches=[]:=List.eq_nil_of_length_eq_zero h1
  rw[lastQ,this]at h2
  simp at h2
  omega
 by_cases c3:day<lastQ q
 ·have:takeQ q day ws=(zeroQ,zeroB,8):=by rw[takeQ,if_pos c1,if_pos c2,if_pos c3]
  have hpos:¬q.Batches.length=0:=fun h=>c7 True h c3
  obtain⟨b,hlast⟩:∃b,q.Batches.getLast?=some b:=⟨_,List.getLast?_eq_some_getLast (by intro h;simp[h]at hpos)⟩
  have l0:lastQ q=b.Day:=by rw[lastQ,hlast]
  have hb:q.Batches[q.Batches.length-1]?=some b:=by rw[←List.getLast?_eq_getElem?];exact hlast
  have d0:decide ((0:Int)<(q.Batches.length:Int))=true:=decide_eq_true (by omega)
  have w1:IntKind.i64.wrap ((q.Batches.length:Int)-1)=((q.Batches.length-1:Nat):Int):=by rw[wrap_in _ (by omega)];omega
  have d3:decide (day<b.Day)=true:=decide_eq_true (by omega)
  have hp0:0<q.Batches.length:=by omega
  simp -dsimp -implicitDefEqProofs [-getElem?_pos,go_sem,hP,c2,d0,w1,hb,cBt,d3,hp0]
  refine done_zeroQ3 ?_
  rw[this];rfl
 by_cases c0:q.Batches.length=0
 ·have d0:decide ((0:Int)<(q.Batches.length:Int))=false:=decide_eq_false (by omega)
  have d0n:decide (0<q.Batches.length)=false:=decide_eq_false (by omega)
  by_cases c4:ws.length=0
  ·have d4:decide ((ws.length:Int)=0)=true:=decide_eq_true (by omega)
   have:takeQ q day ws=(zeroQ,zeroB,10):=by rw[takeQ,if_pos c1,if_pos c2,if_neg c3,if_pos c4]
   simp -dsimp -implicitDefEqProofs [-getElem?_pos,go_sem,hP,c2,d0,d0n,d4,c4]
   refine done_zeroQ3 ?_
   rw[this];rfl
  have d4:decide ((ws.length:Int)=0)=false:=decide_eq_false (by omega)
  by_cases c5:10<ws.length
  ·have d5:decide ((10:Int)<(ws.length:Int))=true:=decide_eq_true (by omega)
   have:takeQ q day ws=(zeroQ,zeroB,3):=by rw[takeQ,if_pos c1,if_pos c2,if_neg c3,if_neg c4,if_pos (.inl c5)]
   simp -dsimp -implicitDefEqProofs [-getElem?_pos,go_sem,hP,c2,d0,d0n,d4,c4,d5]
   refine done_zeroQ3 ?_
   rw[this];rfl
  have d5:decide ((10:Int)<(ws.length:Int))=false:=decide_eq_false (by omega)
  by_cases c6:200≤q.Batches.length
  ·have d6:decide ((200:Int)≤(q.Batches.length:Int))=true:=decide_eq_true (by omega)
   have:takeQ q day ws=(zeroQ,zeroB,3):=by rw[takeQ,if_pos c1,if_pos c2,if_neg c3,if_neg c4,if_pos (.inr c6)]
   simp -dsimp -implicitDefEqProofs [-getElem?_pos,go_sem,hP,c2,d0,d0n,d4,c4,d5,d6]
   refine done_zeroQ3 ?_
   rw[this];rfl
  have d6:decide ((200:Int)≤(q.Batches.length:Int))=false:=decide_eq_false (by omega)
  simp -dsimp -implicitDefEqProofs [-getElem?_pos,go_sem,hP,c2,d0,d0n,d4,c4,d5,d6]
  refine⟨_,Weaker.refl _,?_⟩
  rw[hInv]
  exact⟨c2,c3,c4,c5,c6,by simp -dsimp[-getElem?_pos,go_sem],by simp -dsimp[-getElem?_pos,go_sem],by simp -dsimp[-getElem?_pos,go_sem],by simp -dsimp[-getElem?_pos,go_sem],by simp -dsimp[-getElem?_pos,go_sem],by simp -dsimp[-getElem?_pos,go_sem],rfl⟩
 ·obtain⟨b,hlast⟩:∃b,q.Batches.getLast?=some b:=⟨_,List.getLast?_eq_some_getLast (by intro h;simp[h]at c0)⟩
  have l0:lastQ q=b.Day:=by rw[lastQ,hlast]
  have hb:q.Batches[q.Batches.length-1]?=some b:=by rw[←List.getLast?_eq_getElem?];exact hlast
  have d0:decide ((0:Int)<(q.Batches.length:Int))=true:=decide_eq_true (by omega)
  have w1:IntKind.i64.wrap ((q.Batches.length:Int)-1)=((q.Batches.length-1:Nat):Int):=by rw[wrap_in _ (by omega)];omega
  have d3:decide (day<b.Day)=false:=decide_eq_false (by omega)
  have hp0:0<q.Batches.length:=by omega
  by_cases c4:ws.length=0
  ·have d4:decide ((ws.length:Int)=0)=true:=decide_eq_true (by omega)
   have:takeQ q day ws=(zeroQ,zeroB,10):=by rw[takeQ,if_pos c1,if_pos c2,if_neg c3,if_pos c4]
   simp -dsimp -implicitDefEqProofs [-getElem?_pos,go_sem,hP,c2,d0,w1,hb,cBt,d3,hp0,d4,c4]
   refine done_zeroQ3 ?_
   rw[this];rfl
  have d4:decide ((ws.length:Int)=0)=false:=decide_eq_false (by omega)
  by_cases c5:10<ws.length
  ·have d5:decide ((10:Int)<(ws.length:Int))=true:=decide_eq_true (by omega)
   have:takeQ q day ws=(zeroQ,zeroB,3):=by rw[takeQ,if_pos c1,if_pos c2,if_neg c3,if_neg c4,if_pos (.inl c5)]
   simp -dsimp -implicitDefEqProofs [-getElem?_pos,go_sem,hP,c2,d0,w1,hb,cBt,d3,hp0,d4,c4,d5]
   refine done_zeroQ3 ?_
   rw[this];rfl
  have d5:decide ((10:Int)<(ws.length:Int))=false:=decide_eq_false (by omega)
  by_cases c6:200≤q.Batches.length
  ·have d6:decide ((200:Int)≤(q.Batches.length:Int))=true:=decide_eq_true (by omega)
   have:takeQ q day ws=(zeroQ,zeroB,3):=by rw[takeQ,if_pos c1,if_pos c2,if_neg c3,if_neg c4,if_pos (.inr c6)]
   simp -dsimp -implicitDefEqProofs [-getElem?_pos,go_sem,hP,c2,d0,w1,hb,cBt,d3,hp0,d4,c4,d5,d6]
   refine done_zeroQ3 ?_
   rw[this];rfl
  have d6:decide ((200:Int)≤(q.Batches.length:Int))=false:=decide_eq_false (by omega)
  simp -dsimp -implicitDefEqProofs [-getElem?_pos,go_sem,hP,c2,d0,w1,hb,cBt,d3,hp0,d4,c4,d5,d6]
  refine⟨_,Weaker.refl _,?_⟩
  rw[hInv]
  exact⟨c2,c3,c4,c5,c6,by simp -dsimp[-getElem?_pos,go_sem],by simp -dsimp[-getElem?_pos,go_sem],by simp -dsimp[-getElem?_pos,go_sem],by simp -dsimp[-getElem?_pos,go_sem],by simp -dsimp[-getElem?_pos,go_sem],by simp -dsimp[-getElem?_pos,go_sem],rfl⟩
open Go.PA
open Go.RowKit
theorem cQn (q:TQueue):q.cells=[paysL q.Waiting,numsL q.Known,batsL q.Batches]:=rfl
theorem cDn (d:TDesk):d.cells=[iv d.Account.Credit,subsL d.Account.Subs,entsL d.Account.Entries,paysL d.Queue.Waiting,numsL d.Queue.Known,batsL d.Queue.Batches,itemsL d.Items]:=rfl
open Go.PA
open Go.RowKit
open Go.PA
open Go.RowKit
abbrev deskO (d:TDesk):AObj:=⟨35,7,[[iv d.Account.Credit,subsL d.Account.Subs,entsL d.Account.Entries,paysL d.Queue.Waiting,numsL d.Queue.Known,batsL d.Queue.Batches,itemsL d.Items]]⟩
abbrev itemO (x:TItem):AObj:=⟨83,7,[[iv x.Payment.Warrant,iv x.Payment.Payee,iv x.Payment.Amount,iv x.Payment.Due,iv x.Payment.Sub,iv x.State,iv x.Attempts]]⟩
theorem map_snoc_take {l:List TItem} {k:Nat} {x:TItem} (h:l[k]?=some x):(l.take (k+1)).map wrt=(l.take k).map wrt++[wrt x]:=by rw[take_at h,List.map_append];rfl
open Go.PA
open Go.RowKit
open Go.PA
open Go.RowKit
theorem DOk.ks {d:TDesk} (h:DOk d):(d.Items.map wrt).Pairwise (·<·):=by rw[h.k];exact h.q.ks
theorem DOk.nd {d:TDesk} (h:DOk d):(d.Items.map wrt).Nodup:=sorted_nodup h.ks
theorem posI_at {l:List TItem} (hn:(l.map wrt).Nodup) {k:Nat} {x:TItem} (hx:l[k]?=some x):posI l x.Payment.Warrant=k:=by
 unfold posI
 rcases idxI_spec (fun y:TItem=>decide (y.Payment.Warrant=x.Payment.Warrant)) l with⟨h1,h2⟩|⟨i,a,h1,h2,h3,_⟩
 ·have:=h2 x (List.mem_of_getElem? hx)
  simp at this
 ·have h2:a.Payment.Warrant=x.Payment.Warrant:=by simpa using h2
  have e1:(l.map wrt)[i]?=some x.Payment.Warrant:=by rw[List.getElem?_map,h1];exact congrArg some h2
  have e2:(l.map wrt)[k]?=some x.Payment.Warrant:=by rw[List.getElem?_map,hx];rfl
  have:=(List.getElem?_inj (gsI e1) hn).1 (e1.trans e2.symm)
  rw[h3,this]
theorem posI_none {l:List TItem} {w:Int} (h:w∉l.map wrt):posI l w= -1:=by
 unfold posI
 rcases idxI_spec (fun y:TItem=>decide (y.Payment.Warrant=w)) l with⟨h1,h2⟩|⟨i,a,h1,h2,h3,_⟩
 ·exact h1
 ·have h2:a.Payment.Warrant=w:=by simpa using h2
  exact absurd (List.mem_map.2 ⟨a,List.mem_of_getElem? h1,h2⟩) h
theorem changeD_bad {d:TDesk} {w st:Int} {f:TDesk→TItem→Done1} (h:¬checkD d=0):changeD d w st f=(zeroD,checkD d):=by rw[changeD,if_neg h]
theorem changeD_none {d:TDesk} {w st:Int} {f:TDesk→TItem→Done1} (h:checkD d=0) (hw:w∉d.Items.map wrt):changeD d w st f=(zeroD,6):=by
 rw[changeD,if_pos h]
 split
 ·rfl
 ·rw[if_pos (by rw[posI_none hw];omega)]
theorem changeD_at {d:TDesk} {st:Int} {f:TDesk→TItem→Done1} (h:checkD d=0) {k:Nat} {x:TItem} (hx:d.Items[k]?=some x):changeD d x.Payment.Warrant st f=if x.State=st then (if (f d x).e=0 then (⟨(f d x).a,(f d x).q,d.Items.set k (f d x).x⟩,0)else (zeroD,(f d x).e))else (zeroD,67):=by
 have hp:=posI_at (checkD_iff.1 h).nd hx
 rw[changeD,if_pos h,hp,Int.toNat_natCast,hx]
 simp only
 rw[if_neg (by omega)]
theorem cw_zeroD {H:Heap}:CW H [iv 0,.nil,.nil,.nil,.nil,.nil,.nil] zeroD.cells:=cw_sc (cw_nil (cw_nil (cw_nil (cw_nil (cw_nil (cw_nil .nil))))))
theorem done_zeroD {H:Heap} {n:Int} {Q:AV→Prop} {b:Bx Q} (h:Q (.tup [.agg zeroD.cells,iv n])):Done H (.tup [.agg [iv 0,.nil,.nil,.nil,.nil,.nil,.nil],iv n]) Q b:=done_agg2 cw_zeroD h
open Go.PA
open Go.RowKit
theorem encL_set {α:Type} (f:α→List AV) (l:List α) (i:Nat) (x:α):(encL f l).set i (f x)=encL f (l.set i x):=by
 simp[encL,List.map_set]
open Go.PA
def dE (id:Int) (e:TEntry):Int:=(if e.To=id then e.Amount else 0)-(if e.From=id then e.Amount else 0)
def netE (id:Int) (es:List TEntry):Int:=sumE (dE id) es
theorem sumE_cons (f:TEntry→Int) (e:TEntry) (l:List TEntry):sumE f (e::l)=f e+sumE f l:=by simp[sumE]
theorem postS_net {credit n d:Int} {l:List TSub} {e:TEntry} (h:(postS credit n d l e).1=0):(postS credit n d l e).2=l.map fun s=>⟨s.ID,s.Balance+dE s.ID e⟩:=by
 obtain⟨_,_,_,_,_,_,_,hne,_,_,_,_,h2⟩:=postS_ok h
 rw[h2,adj,adj,List.map_map]
 apply List.map_congr_left
 intro s _
 simp only[Function.comp,dE]
 by_cases h1:s.ID=e.From
 ·have h3:¬s.ID=e.To:=fun h=>hne (h1.symm.trans h)
  have h3':¬e.To=s.ID:=fun h=>h3 h.symm
  simp[h1,h3,h3',hne,Ne.symm hne];try omega
 ·have h1':¬e.From=s.ID:=fun h=>h1 h.symm
  by_cases h3:s.ID=e.To
  ·simp[h1,h3,h1',Ne.symm hne,hne]
  ·have h3':¬e.To=s.ID:=fun h=>h3 h.symm
   simp[h1,h3,h1',h3']
theorem replayS_net (credit:Int):∀(es:List TEntry) (n d:Int) (l:List TSub) (r:Int×Int×List TSub),replayS credit n d l es=some r→r.2.2=l.map fun s=>⟨s.ID,s.Balance+netE s.ID es⟩
 |[],n,d,l,r,h=>by
  simp only[replayS,Option.some.injEq]at h
  subst h
  simp[netE,sumE]
 |e::es,n,d,l,r,h=>by
  rw[replayS]at h
  split at h
  ·rename_i hp
   rw[replayS_net credit es _ _ _ r h,postS_net hp,List.map_map]
   apply List.map_congr_left
   intro s _
   simp only[Function.comp,netE,sumE_cons]
   congr 1
   omega
  ·cases h
theorem zero_net (l:List TSub) (es:List TEntry):((zeroS l).map fun s=>(⟨s.ID,s.Balance+netE s.ID es⟩:TSub))=(ids l).map fun i=>⟨i,netE i es⟩:=by
 simp[zeroS,ids,Function.comp_def]
theorem check_net {a:TAccount} (h:checkA a=0):a.Subs=(ids a.Subs).map fun i=>⟨i,netE i a.Entries⟩:=by
 obtain⟨_,_,_,_,h5⟩:=check_ok h
 have:=replayS_net _ _ _ _ _ _ h5
 rw[zero_net]at this
 exact this
theorem agree_2 {a b:Option AObj} {l l':Heap}:Agree (fun id=>decide (id<2)) (a::b::l) (a::b::l'):=fun id hid=>by
 have:id<2:=by simpa using hid
 rcases id with _|_|id
 ·rfl
 ·rfl
 ·omega
def sumI (f:Int→Int) (l:List Int):Int:=(l.map f).sum
theorem sumI_cons (f:Int→Int) (i:Int) (l:List Int):sumI f (i::l)=f i+sumI f l:=by simp[sumI]
theorem sumI_add (f g:Int→Int):∀l:List Int,sumI (fun i=>f i+g i) l=sumI f l+sumI g l
 |[]=>by simp[sumI]
 |i::l=>by rw[sumI_cons,sumI_cons,sumI_cons,sumI_add f g l];omega
theorem sumI_sub (f g:Int→Int):∀l:List Int,sumI (fun i=>f i-g i) l=sumI f l-sumI g l
 |[]=>by simp[sumI]
 |i::l=>by rw[sumI_cons,sumI_cons,sumI_cons,sumI_sub f g l];omega
theorem sumI_zero:∀l:List Int,sumI (fun _=>0) l=0
 |[]=>by simp[sumI]
 |i::l=>by rw[sumI_cons,sumI_zero l];omega
theorem sumI_one (x A:Int):∀l:List Int,l.Nodup→sumI (fun i=>if x=i then A else 0) l=if x∈l then A else 0
 |[],_=>by simp[sumI]
 |i::l,h=>by
  rw[List.nodup_cons]at h
  rw[sumI_cons,sumI_one x A l h.2]
  by_cases h1:x=i
  ·subst h1
   simp[h.1]
  ·simp[h1]
def ioE (e:TEntry):Int:=(if e.From=0 then e.Amount else 0)-(if e.To=0 then e.Amount else 0)
theorem sumI_dE {l:List Int} (hn:l.Nodup) (h0:0∉l) {e:TEntry} (hf:e.From=0∨e.From∈l) (ht:e.To=0∨e.To∈l):sumI (fun i=>dE i e) l=ioE e:=by
 unfold dE
 rw[sumI_sub,sumI_one _ _ _ hn,sumI_one _ _ _ hn,ioE]
 have k:∀x:Int,(x=0∨x∈l)→(if x∈l then e.Amount else 0)=e.Amount-(if x=0 then e.Amount else 0):=fun x hx=>by
  by_cases h:x=0
  ·subst h;simp[h0]
  ·simp[h,hx.resolve_left h]
 rw[k _ hf,k _ ht]
 omega
theorem sumI_netE {l:List Int} (hn:l.Nodup) (h0:0∉l):∀es:List TEntry,(∀e,e∈es→(e.From=0∨e.From∈l)∧(e.To=0∨e.To∈l))→sumI (fun i=>netE i es) l=sumE ioE es
 |[],_=>by simp[netE,sumE];exact sumI_zero l
 |e::es,h=>by
  simp only[netE,sumE_cons]
  rw[sumI_add]
  have:=sumI_netE hn h0 es fun x hx=>h x (List.mem_cons_of_mem _ hx)
  simp only[netE]at this
  rw[this,sumI_dE hn h0 (h e (by simp)).1 (h e (by simp)).2]
theorem sumB_map (g:Int→Int) (l:List Int):sumB (l.map fun i=>⟨i,g i⟩)=sumI g l:=by simp[sumB,sumI,Function.comp_def]
theorem check_sum {a:TAccount} (h:checkA a=0):sumB a.Subs=sumE ioE a.Entries:=by
 obtain⟨_,_,_,h4,_⟩:=check_ok h
 obtain⟨hn,h0,_⟩:=numB_facts h4
 rw[check_net h,sumB_map]
 exact sumI_netE hn h0 _ fun e he=>(check_mem h e he).2.2.2.2.2
theorem total_sum {a:TAccount} (h:checkA a=0):totalA a=sumE ioE a.Entries:=by rw[totalA,if_pos h,check_sum h]
theorem check_days {a:TAccount} (h:checkA a=0):∀e,e∈a.Entries→0≤e.Day∧e.Day≤36000:=by
 obtain⟨_,_,_,_,h5⟩:=check_ok h
 exact replayS_days _ _ _ _ _ _ (Int.le_refl _) h5
theorem sumE_congr {f g:TEntry→Int}:∀l:List TEntry,(∀e,e∈l→f e=g e)→sumE f l=sumE g l
 |[],_=>rfl
 |e::l,h=>by rw[sumE_cons,sumE_cons,h e (by simp),sumE_congr l fun x hx=>h x (List.mem_cons_of_mem _ hx)]
theorem sumE_sub (f g:TEntry→Int):∀l:List TEntry,sumE (fun e=>f e-g e) l=sumE f l-sumE g l
 |[]=>by simp[sumE]
 |e::l=>by rw[sumE_cons,sumE_cons,sumE_cons,sumE_sub f g l];omega
theorem flow_all {a:TAccount} (h:checkA a=0):sumE ioE a.Entries=(flowA a 0 36000).1-(flowA a 0 36000).2:=by
 rw[flowA,if_pos h,←sumE_sub]
 apply sumE_congr
 intro e he
 have hd:=check_days h e he
 have:amongB e.Day 0 36000=true:=amongB_iff.2 hd
 simp[ioE,inF,outF,this]
theorem post_ok {a:TAccount} {e:TEntry} (h:(postA a e).2=0):checkA a=0∧a.Entries.length<400∧(postS a.Credit (lastE a).Number (lastE a).Day a.Subs e).1=0∧(postA a e).1=⟨a.Credit,(postS a.Credit (lastE a).Number (lastE a).Day a.Subs e).2,a.Entries++[e]⟩:=by
 unfold postA at h⊢
 by_cases c1:checkA a=0
 ·rw[if_pos c1]at h⊢
  by_cases c2:a.Entries.length=400
  ·rw[if_pos c2]at h;simp at h
  ·rw[if_neg c2]at h⊢
   by_cases c3:(postS a.Credit (lastE a).Number (lastE a).Day a.Subs e).1=0
   ·rw[if_pos c3]
    have:=(check_ok c1).2.1
    exact⟨c1,by omega,c3,rfl⟩
   ·rw[if_neg c3]at h
    exact absurd h c3
 ·rw[if_neg c1]at h
  exact absurd h c1
theorem post_check {a:TAccount} {e:TEntry} (h:(postA a e).2=0):checkA (postA a e).1=0:=by
 obtain⟨c1,c2,c3,c4⟩:=post_ok h
 obtain⟨k1,k2,k3,k4,k5⟩:=check_ok c1
 rw[c4]
 have hi:=postS_ids a.Credit (lastE a).Number (lastE a).Day a.Subs e
 have hl:(postS a.Credit (lastE a).Number (lastE a).Day a.Subs e).2.length=a.Subs.length:=by rw[←ids_len,hi,ids_len]
 have hz:zeroS (postS a.Credit (lastE a).Number (lastE a).Day a.Subs e).2=zeroS a.Subs:=by
  have:∀l:List TSub,zeroS l=(ids l).map fun i=>⟨i,0⟩:=fun l=>by simp[zeroS,ids,Function.comp_def]
  rw[this,this,hi]
 refine check_mk (n:=e.Number) (d:=e.Day) (by dsimp only;omega) (by simp;omega) k3 (by dsimp only;rw[hi];exact k4) ?_
 dsimp only
 rw[hz,replayS_app,k5]
 simp only[Option.bind_some,replayS,c3,if_true]
theorem lastE_post {a:TAccount} {e:TEntry} (h:(postA a e).2=0):lastE (postA a e).1=e:=by
 rw[(post_ok h).2.2.2,lastE]
 simp
theorem post_ids {a:TAccount} {e:TEntry} (h:(postA a e).2=0):ids (postA a e).1.Subs=ids a.Subs:=by
 rw[(post_ok h).2.2.2]
 exact postS_ids _ _ _ _ _
theorem post_ents {a:TAccount} {e:TEntry} (h:(postA a e).2=0):(postA a e).1.Entries=a.Entries++[e]:=by rw[(post_ok h).2.2.2]
theorem post_credit {a:TAccount} {e:TEntry} (h:(postA a e).2=0):(postA a e).1.Credit=a.Credit:=by rw[(post_ok h).2.2.2]
structure GenAcc (n:Nat) (a:TAccount):Prop where
 ok:checkA a=0
 ids:ids a.Subs=[1,2,3,7]
 len:a.Entries.length≤n
 day:(lastE a).Day≤2*(n:Int)
 small:∀e,e∈a.Entries→e.Amount≤500
 cred:a.Credit≤100
theorem GenAcc.post {n:Nat} {a:TAccount} {e:TEntry} (h:GenAcc n a) (hp:(postA a e).2=0) (hd:e.Day≤2*((n:Int)+1)) (ha:e.Amount≤500):GenAcc (n+1) (postA a e).1:=by
 refine⟨post_check hp,(post_ids hp).trans h.ids,?_,?_,?_,by rw[post_credit hp];exact h.cred⟩
 ·rw[post_ents hp];have:=h.len;simp;omega
 ·rw[lastE_post hp];omega
 ·rw[post_ents hp]
  intro x hx
  rcases List.mem_append.1 hx with hx|hx
  ·exact h.small x hx
  ·simp at hx;subst hx;exact ha
theorem GenAcc.mono {n m:Nat} {a:TAccount} (h:GenAcc n a) (hm:n≤m):GenAcc m a:=⟨h.ok,h.ids,by have:=h.len;omega,by have:=h.day;omega,h.small,h.cred⟩
theorem GenAcc.slen {n:Nat} {a:TAccount} (h:GenAcc n a):a.Subs.length=4:=by rw[←ids_len,h.ids];rfl
theorem dE_small {id:Int} {e:TEntry} (h:0<e.Amount∧e.Amount≤500): -500≤dE id e∧dE id e≤500:=by
 unfold dE
 split<;>split<;>omega
theorem netE_small (id:Int):∀es:List TEntry,(∀e,e∈es→0<e.Amount∧e.Amount≤500)→ -(500*(es.length:Int))≤netE id es∧netE id es≤500*(es.length:Int)
 |[],_=>by simp[netE,sumE]
 |e::es,h=>by
  have h1:=netE_small id es fun x hx=>h x (List.mem_cons_of_mem _ hx)
  have h2:=dE_small (id:=id) (h e (by simp))
  simp only[netE,sumE_cons,List.length_cons]at h1⊢
  omega
theorem GenAcc.bal {n:Nat} {a:TAccount} (h:GenAcc n a):∀s,s∈a.Subs→ -(500*(n:Int))≤s.Balance∧s.Balance≤500*(n:Int):=fun s hs=>by
 rw[check_net h.ok]at hs
 obtain⟨i,_,rfl⟩:=List.mem_map.1 hs
 have:=netE_small i a.Entries fun e he=>⟨(check_mem h.ok e he).1,h.small e he⟩
 have:=h.len
 dsimp only
 omega
theorem GenAcc.open {c:Int} (hc:0≤c∧c≤100):GenAcc 0 (newA [1,2,3,7] c)∧openA [1,2,3,7] c=(newA [1,2,3,7] c,0):=by
 have hv:vB c=true:=by simp[vB,amongB];omega
 have hb:numB [1,2,3,7]=true:=by decide
 refine⟨⟨check_mk (n:=0) (d:=0) (by simp[newA,newS]) (by simp[newA]) (by simp[newA];omega) (by simp only[newA,newS_ids];exact hb) (by simp[newA,newS,zeroS,replayS]),by simp[newA,newS_ids],by simp[newA],by simp[newA,lastE],by simp[newA],by simp[newA];omega⟩,?_⟩
 unfold openA
 rw[if_pos hv,if_neg (by simp),if_pos hb]
open Go.PA
open Go.RowKit
theorem sentI_pay (ws:List Int) (x:TItem):(sentI ws x).Payment=x.Payment:=by unfold sentI;split<;>rfl
theorem sentI_wrt (ws:List Int) (l:List TItem):(l.map (sentI ws)).map wrt=l.map wrt:=by
 rw[List.map_map]
 exact List.map_congr_left fun x _=>by simp[wrt,sentI_pay]
theorem sentI_nil (l:List TItem):l.map (sentI [])=l:=by
 have:sentI []=id:=funext fun x=>by simp[sentI]
 rw[this,List.map_id]
theorem sentI_set {l:List TItem} (hn:(l.map wrt).Nodup) {ws:List Int} {i:Nat} {x:TItem} (hx:l[i]?=some x) (hw:x.Payment.Warrant∉ws):
  (l.map (sentI ws))[i]?=some x∧(l.map (sentI ws)).set i ⟨x.Payment,2,x.Attempts+1⟩=l.map (sentI (ws++[x.Payment.Warrant])):=by
 refine⟨by rw[List.getElem?_map,hx,Option.map_some,sentI,if_neg hw],?_⟩
 apply List.ext_getElem?
 intro j
 rw[List.getElem?_set,List.getElem?_map,List.getElem?_map,List.length_map]
 by_cases hij:i=j
 ·subst hij
  rw[if_pos rfl,if_pos (gsI hx),hx,Option.map_some,sentI,if_pos (by simp)]
 ·rw[if_neg hij]
  cases hj:l[j]? with
  |none=>rfl
  |some y=>
   have hne:y.Payment.Warrant≠x.Payment.Warrant:=fun e=>by
    have e1:(l.map wrt)[i]?=some x.Payment.Warrant:=by rw[List.getElem?_map,hx];rfl
    have e2:(l.map wrt)[j]?=some x.Payment.Warrant:=by rw[List.getElem?_map,hj,←e];rfl
    exact hij ((List.getElem?_inj (gsI e1) hn).1 (e1.trans e2.symm))
   simp[sentI,hne]
theorem readyQ_sub (q:TQueue) (day:Int):(readyQ q day).Sublist q.Waiting:=by
 unfold readyQ
 split
 ·exact List.filter_sublist
 ·exact List.nil_sublist _
theorem readyQ_nd {q:TQueue} (hq:QOk q) (day:Int):((readyQ q day).map (·.Warrant)).Nodup:=hq.asc.nd.sublist ((readyQ_sub q day).map _)
theorem wait_item {d:TDesk} (hd:DOk d) {p:TPayment} (hp:p∈d.Queue.Waiting):∃(i:Nat) (x:TItem),d.Items[i]?=some x∧x.Payment=p∧x.State=1:=by
 have hw:∀x,x∈d.Items→waitB d.Queue x=true:=fun x hx=>by
  have:=hd.i x hx
  simp only[itemB,Bool.and_eq_true]at this
  exact this.2.2.2.2.1
 obtain⟨h1,h2⟩:=(waitB_iff hd.q hd.k).1 hw
 obtain⟨x,hx,hs,e⟩:=wait_all hd.q hd.k h1 h2 p hp
 obtain⟨i,hi⟩:=List.getElem?_of_mem hx
 exact⟨i,x,hi,e,hs⟩
theorem item_facts {d:TDesk} (hd:DOk d) {x:TItem} (hx:x∈d.Items):PayOk x.Payment∧(balanceA d.Account x.Payment.Sub).2=true∧(1≤x.State∧x.State≤5)∧(0≤x.Attempts∧x.Attempts≤5)∧attB x=true∧waitB d.Queue x=true∧(batN d.Queue x.Payment.Warrant:Int)=x.Attempts∧movedB d.Account x=true:=by
 have:=hd.i x hx
 simp only[itemB,Bool.and_eq_true,payPB_iff,amg_iff,decide_eq_true_eq]at this
 obtain⟨h1,h2,h3,h4,h5,h6,h7⟩:=this
 refine⟨h1,h2,h3,?_,h4,h5,h6,h7⟩
 simp only[attB,Bool.and_eq_true,amg_iff]at h4
 exact h4.1
theorem lastQ_nil {q:TQueue} (h:q.Batches.length=0):lastQ q=0:=by
 rw[lastQ,List.eq_nil_of_length_eq_zero h]
 rfl
theorem lastQ_get {q:TQueue} {k:Nat} {b:TBatch} (h:q.Batches.length=k+1) (hb:q.Batches[k]?=some b):lastQ q=b.Day:=by
 rw[lastQ,List.getLast?_eq_getElem?,h]
 simp[hb]
theorem check_fit {a:TAccount} (h:checkA a=0):a.Subs.length≤100000∧a.Entries.length≤100000:=by
 have:=check_ok h
 omega
theorem sendGo_len (day:Int):∀(l:List TPayment) (a:TAccount) (ws:List Int) (full:Bool),ws.length≤10→(sendGo day l a ws full).2.1.length≤10
 |[],a,ws,full,h=>h
 |p::l,a,ws,full,h=>by
  rw[sendGo]
  split
  ·exact h
  ·split
   ·exact sendGo_len day l _ _ _ (by rw[List.length_append,List.length_singleton];omega)
   ·exact sendGo_len day l _ _ _ h
theorem lastDay_pos {a:TAccount} (h:checkA a=0):0≤lastDay a:=(check_keeps h).2.2.1
open Go.PA
open Go.RowKit
abbrev zDeskO:AObj:=⟨35,7,[[iv 0,.nil,.nil,.nil,.nil,.nil,.nil]]⟩
abbrev zBatO:AObj:=⟨140,3,[[iv 0,iv 0,.nil]]⟩
theorem done_zeroD3 {H:Heap} {n:Int} {Q:AV→Prop} {b:Bx Q} (h:Q (.tup [.agg zeroD.cells,.agg zeroB.cells,iv n])):Done H (.tup [.agg [iv 0,.nil,.nil,.nil,.nil,.nil,.nil],.agg [iv 0,iv 0,.nil],iv n]) Q b:=done_trip cw_zeroD cw_zeroB h
open Go.PA
open Go.RowKit
def sumQ {α:Type} (q:α→Bool) (am:α→Int) (l:List α):Int:=((l.filter q).map am).sum
def cntQ {α:Type} (q:α→Bool) (l:List α):Nat:=(l.filter q).length
theorem sumQ_nil {α:Type} (q:α→Bool) (am:α→Int):sumQ q am []=0:=rfl
theorem sumQ_cons {α:Type} (q:α→Bool) (am:α→Int) (x:α) (l:List α):sumQ q am (x::l)=(if q x=true then am x else 0)+sumQ q am l:=by
 unfold sumQ
 by_cases h:q x=true
 ·simp[h]
 ·simp[h]
theorem sumQ_append {α:Type} (q:α→Bool) (am:α→Int) (a b:List α):sumQ q am (a++b)=sumQ q am a+sumQ q am b:=by
 unfold sumQ
 simp
theorem cntQ_cons {α:Type} (q:α→Bool) (x:α) (l:List α):cntQ q (x::l)=(if q x=true then 1 else 0)+cntQ q l:=by
 unfold cntQ
 by_cases h:q x=true
 ·simp[h];omega
 ·simp[h]
theorem sumQ_le {α:Type} (q:α→Bool) (am:α→Int):∀l:List α,(∀x,x∈l→0<am x)→0≤sumQ q am l∧∀x,x∈l→q x=true→am x≤sumQ q am l
 |[],_=>⟨Int.le_refl _,fun x h=>by cases h⟩
 |y::l,h=>by
  obtain⟨h1,h2⟩:=sumQ_le q am l fun x hx=>h x (by simp[hx])
  have hy:=h y (by simp)
  rw[sumQ_cons]
  refine⟨by split<;>omega,fun x hx hq=>?_⟩
  rcases List.mem_cons.1 hx with rfl|hx
  ·rw[if_pos hq];omega
  ·have:=h2 x hx hq
   split<;>omega
theorem sumQ_none {α:Type} (q:α→Bool) (am:α→Int) (l:List α) (h:∀x,x∈l→q x=false):sumQ q am l=0:=by
 unfold sumQ
 rw[List.filter_eq_nil_iff.2 fun x hx=>by simp[h x hx]]
 rfl
def setK {α:Type} (lt is:α→Bool) (mk:Int→α) (am:α→Int):List α→Int→List α
 |[],n=>if n=0 then []else [mk n]
 |x::l,n=>if lt x=true then x::setK lt is mk am l n else if is x=true then (if am x+n=0 then l else mk (am x+n)::l)else if n=0 then x::l else mk n::x::l
structure KeyOk {α:Type} (R:α→α→Prop) (lt is:α→Bool) (mk:Int→α) (am:α→Int):Prop where
 am:∀a,am (mk a)=a
 trans:∀x y z,R x y→R y z→R x z
 ltMk:∀x a,lt x=true→R x (mk a)
 isR:∀x y a,is x=true→R x y→R (mk a) y
 tri:∀x a,lt x=false→is x=false→R (mk a) x
 mono:∀x y,R x y→lt y=true→lt x=true
 irr:∀x y,is x=true→R x y→is y=false
 dis:∀x,lt x=true→is x=false
 aft:∀x y,lt x=false→is x=false→R x y→is y=false
section
variable {α:Type} {R:α→α→Prop} {lt is:α→Bool} {mk:Int→α} {am:α→Int}
theorem sumQ_setK (q:α→Bool) (hm:∀a,am (mk a)=a) (c:Bool) (hq:∀a,q (mk a)=c) (hi:∀x,is x=true→q x=c):∀(l:List α) (n:Int),sumQ q am (setK lt is mk am l n)=sumQ q am l+if c=true then n else 0
 |[],n=>by
  unfold setK
  by_cases h:n=0
  ·subst h;simp[sumQ_nil]
  ·rw[if_neg h,sumQ_cons,hq,hm,sumQ_nil];omega
 |x::l,n=>by
  have ih:=sumQ_setK q hm c hq hi l n
  unfold setK
  split
  ·rw[sumQ_cons,sumQ_cons,ih];omega
  ·split
   ·rename_i h1 h2
    have:=hi x h2
    split
    ·rename_i h3
     rw[sumQ_cons,this]
     split<;>omega
    ·rw[sumQ_cons,sumQ_cons,hq,hm,this]
     split<;>omega
   ·split
    ·rename_i h
     subst h
     simp
    ·rw[sumQ_cons,hq,hm];omega
theorem cntQ_setK (q:α→Bool) (c:Bool) (hq:∀a,q (mk a)=c) (hi:∀x,is x=true→q x=c):∀(l:List α) (n:Int),cntQ q (setK lt is mk am l n)≤cntQ q l+if c=true then 1 else 0
 |[],n=>by
  unfold setK
  by_cases h:n=0
  ·subst h;simp[cntQ]
  ·rw[if_neg h,cntQ_cons,hq];simp[cntQ]
 |x::l,n=>by
  have ih:=cntQ_setK q c hq hi l n
  unfold setK
  split
  ·rw[cntQ_cons,cntQ_cons];omega
  ·split
   ·rename_i h1 h2
    have:=hi x h2
    split
    ·rw[cntQ_cons,this];omega
    ·rw[cntQ_cons,cntQ_cons,hq,this];omega
   ·split
    ·omega
    ·rw[cntQ_cons,hq];omega
theorem len_setK (l:List α) (n:Int):(setK lt is mk am l n).length≤l.length+1:=by
 have:=cntQ_setK (lt:=lt) (is:=is) (mk:=mk) (am:=am) (fun _=>true) true (fun _=>rfl) (fun _ _=>rfl) l n
 have e:∀l:List α,l.filter (fun _=>true)=l:=fun l=>List.filter_eq_self.2 (by simp)
 unfold cntQ at this
 rw[e,e]at this
 simpa using this
theorem mem_setK:∀{l:List α} {n:Int} {x:α},x∈setK lt is mk am l n→x∈l∨(n≠0∧x=mk n)∨∃y,y∈l∧is y=true∧am y+n≠0∧x=mk (am y+n)
 |[],n,x,h=>by
  unfold setK at h
  split at h
  ·cases h
  ·rename_i h0
   exact .inr (.inl ⟨h0,by simpa using h⟩)
 |y::l,n,x,h=>by
  unfold setK at h
  split at h
  ·rcases List.mem_cons.1 h with rfl|h
   ·exact .inl (by simp)
   ·rcases mem_setK h with h|h|⟨z,h1,h2⟩
    ·exact .inl (by simp[h])
    ·exact .inr (.inl h)
    ·exact .inr (.inr ⟨z,by simp[h1],h2⟩)
  ·split at h
   ·rename_i h1 h2
    split at h
    ·exact .inl (by simp[h])
    ·rename_i h3
     rcases List.mem_cons.1 h with rfl|h
     ·exact .inr (.inr ⟨y,by simp,h2,h3,rfl⟩)
     ·exact .inl (by simp[h])
   ·split at h
    ·exact .inl h
    ·rename_i h3
     rcases List.mem_cons.1 h with rfl|h
     ·exact .inr (.inl ⟨h3,rfl⟩)
     ·exact .inl h
theorem sorted_setK (ok:KeyOk R lt is mk am):∀{l:List α} (n:Int),l.Pairwise R→(setK lt is mk am l n).Pairwise R
 |[],n,_=>by
  unfold setK
  split<;>simp
 |x::l,n,h=>by
  obtain⟨h1,h2⟩:=List.pairwise_cons.1 h
  unfold setK
  split
  ·rename_i hl
   refine List.pairwise_cons.2 ⟨fun y hy=>?_,sorted_setK ok n h2⟩
   rcases mem_setK hy with hy|⟨_,rfl⟩|⟨_,_,_,_,rfl⟩
   ·exact h1 y hy
   ·exact ok.ltMk _ _ hl
   ·exact ok.ltMk _ _ hl
  ·split
   ·rename_i hl hi
    split
    ·exact h2
    ·exact List.pairwise_cons.2 ⟨fun y hy=>ok.isR x y _ hi (h1 y hy),h2⟩
   ·rename_i hl hi
    split
    ·exact h
    ·have ht:=ok.tri x n (by simpa using hl) (by simpa using hi)
     refine List.pairwise_cons.2 ⟨fun y hy=>?_,h⟩
     rcases List.mem_cons.1 hy with rfl|hy
     ·exact ht
     ·exact ok.trans _ _ _ ht (h1 y hy)
theorem place_setK (ok:KeyOk R lt is mk am):∀{l:List α},l.Pairwise R→∃k,k≤l.length∧(∀h x,l[h]?=some x→(lt x=true↔h<k))∧
  ((∃x,l[k]?=some x∧is x=true∧sumQ is am l=am x∧∀n,setK lt is mk am l n=if am x+n=0 then l.take k++l.drop (k+1)else l.take k++mk (am x+n)::l.drop (k+1))∨
   ((∀x,l[k]?=some x→is x=false)∧sumQ is am l=0∧∀n,setK lt is mk am l n=if n=0 then l else l.take k++mk n::l.drop k))
 |[],_=>⟨0,by simp,by simp,.inr ⟨by simp,rfl,fun n=>by unfold setK;simp⟩⟩
 |x::l,h=>by
  obtain⟨h1,h2⟩:=List.pairwise_cons.1 h
  by_cases hl:lt x=true
  ·obtain⟨k,hk,hm,hc⟩:=place_setK ok h2
   have hd:=ok.dis x hl
   refine⟨k+1,by simp;omega,fun j y hy=>?_,?_⟩
   ·cases j with
    |zero=>
     simp only[List.getElem?_cons_zero,Option.some.injEq]at hy
     subst hy
     simp[hl]
    |succ j=>
     rw[List.getElem?_cons_succ]at hy
     rw[hm j y hy]
     omega
   ·rcases hc with⟨y,c1,c2,c3,c4⟩|⟨c1,c3,c4⟩
    ·refine .inl ⟨y,by simpa using c1,c2,by rw[sumQ_cons,hd,c3];simp,fun n=>?_⟩
     unfold setK
     rw[if_pos hl,c4]
     split<;>simp
    ·refine .inr ⟨fun y hy=>c1 y (by simpa using hy),by rw[sumQ_cons,hd,c3];simp,fun n=>?_⟩
     unfold setK
     rw[if_pos hl,c4]
     split<;>simp
  ·have hl':lt x=false:=by simpa using hl
   have hm:∀(j:Nat) (y:α),(x::l)[j]?=some y→(lt y=true↔j<0):=fun j y hy=>by
    refine⟨fun e=>?_,fun e=>by omega⟩
    rcases List.mem_cons.1 (List.mem_of_getElem? hy)with rfl|hy
    ·exact absurd e hl
    ·exact absurd (ok.mono x y (h1 y hy) e) hl
   refine⟨0,by simp,hm,?_⟩
   by_cases hi:is x=true
   ·refine .inl ⟨x,rfl,hi,?_,fun n=>?_⟩
    ·rw[sumQ_cons,if_pos hi,sumQ_none is am l fun y hy=>ok.irr x y hi (h1 y hy)]
     omega
    ·unfold setK
     rw[if_neg hl,if_pos hi]
     simp
   ·have hi':is x=false:=by simpa using hi
    refine .inr ⟨fun y hy=>?_,?_,fun n=>?_⟩
    ·simp only[List.getElem?_cons_zero,Option.some.injEq]at hy
     subst hy
     exact hi'
    ·rw[sumQ_cons,if_neg hi,sumQ_none is am l fun y hy=>ok.aft x y hl' hi' (h1 y hy)]
     omega
    ·unfold setK
     rw[if_neg hl,if_neg hi]
     simp
end
open Go.PA
open Go.RowKit
def secB (s:TSecurity):Bool:=
 decide ((1≤s.ID∧s.ID≤1000)∧(1≤s.Unit∧s.Unit≤1000000000)∧(0≤s.Issued∧s.Issued≤36000)∧(s.Issued+30≤s.Maturity∧s.Maturity≤min (s.Issued+18000) 35990)∧(0≤s.Rate∧s.Rate≤20000))&&
  (if s.Every=0 then decide ((s.Maturity-s.Issued)%30=0)&&decide (s.Rate=0)else if s.Every=1∨s.Every=3∨s.Every=6∨s.Every=12 then decide ((s.Maturity-s.Issued)%(30*s.Every)=0)else false)
def findS (l:List TSecurity) (id:Int):Option TSecurity:=l.find? fun s=>decide (s.ID=id)
def hLt (id h:Int) (x:THolding):Bool:=decide (x.Security<id)||(decide (x.Security=id)&&decide (x.Holder<h))
def hIs (id h:Int) (x:THolding):Bool:=decide (x.Security=id)&&decide (x.Holder=h)
def hMk (id h a:Int):THolding:=⟨id,h,a⟩
def hAm (x:THolding):Int:=x.Amount
def hR (x y:THolding):Prop:=x.Security<y.Security∨(x.Security=y.Security∧x.Holder<y.Holder)
theorem hLt_iff {id h:Int} {x:THolding}:hLt id h x=true↔(x.Security<id∨(x.Security=id∧x.Holder<h)):=by simp[hLt]
theorem hIs_iff {id h:Int} {x:THolding}:hIs id h x=true↔(x.Security=id∧x.Holder=h):=by simp[hIs]
theorem hLt_not {id h:Int} {x:THolding}:hLt id h x=false↔¬(x.Security<id∨(x.Security=id∧x.Holder<h)):=by rw[←hLt_iff];simp
theorem hIs_not {id h:Int} {x:THolding}:hIs id h x=false↔¬(x.Security=id∧x.Holder=h):=by rw[←hIs_iff];simp
theorem hOk (id h:Int):KeyOk hR (hLt id h) (hIs id h) (hMk id h) hAm where
 am a:=rfl
 trans x y z h1 h2:=by unfold hR at*;omega
 ltMk x a h1:=by rw[hLt_iff]at h1;unfold hR hMk;dsimp only;omega
 isR x y a h1 h2:=by rw[hIs_iff]at h1;unfold hR hMk at*;dsimp only at*;omega
 tri x a h1 h2:=by rw[hLt_not]at h1;rw[hIs_not]at h2;unfold hR hMk;dsimp only;omega
 mono x y h1 h2:=by rw[hLt_iff]at*;unfold hR at h1;omega
 irr x y h1 h2:=by rw[hIs_iff]at h1;rw[hIs_not];unfold hR at h2;omega
 dis x h1:=by rw[hLt_iff]at h1;rw[hIs_not];omega
 aft x y h1 h2 h3:=by rw[hLt_not]at h1;rw[hIs_not]at*;unfold hR at h3;omega
def setH (l:List THolding) (id h n:Int):List THolding:=setK (hLt id h) (hIs id h) (hMk id h) hAm l n
def heldH (l:List THolding) (id h:Int):Int:=sumQ (hIs id h) hAm l
def secQ (id:Int) (x:THolding):Bool:=decide (x.Security=id)
def outH (l:List THolding) (id:Int):Int:=sumQ (secQ id) hAm l
theorem outH_setH (l:List THolding) (id h n id':Int):outH (setH l id h n) id'=outH l id'+if id=id' then n else 0:=by
 have:=sumQ_setK (lt:=hLt id h) (is:=hIs id h) (mk:=hMk id h) (am:=hAm) (secQ id') (fun _=>rfl) (decide (id=id')) (fun _=>rfl) (fun x hx=>by rw[hIs_iff]at hx;unfold secQ;rw[hx.1]) l n
 unfold outH setH
 rw[this]
 simp
theorem pos_setH {l:List THolding} {id h n:Int} (hs:l.Pairwise hR) (hp:∀x,x∈l→0<x.Amount) (hn:0≤heldH l id h+n):∀x,x∈setH l id h n→0<x.Amount:=by
 intro x hx
 obtain⟨k,hk,hm,⟨y,c1,c2,c3,c4⟩|⟨c1,c3,c4⟩⟩:=place_setK (hOk id h) hs
 all_goals
  unfold setH at hx
  unfold heldH at hn
  rw[c4]at hx
  rw[c3]at hn
  split at hx
 ·rcases List.mem_append.1 hx with hx|hx
  ·exact hp x (List.mem_of_mem_take hx)
  ·exact hp x (List.mem_of_mem_drop hx)
 ·rcases List.mem_append.1 hx with hx|hx
  ·exact hp x (List.mem_of_mem_take hx)
  ·rcases List.mem_cons.1 hx with rfl|hx
   ·unfold hMk;dsimp only;omega
   ·exact hp x (List.mem_of_mem_drop hx)
 ·exact hp x hx
 ·rcases List.mem_append.1 hx with hx|hx
  ·exact hp x (List.mem_of_mem_take hx)
  ·rcases List.mem_cons.1 hx with rfl|hx
   ·unfold hMk;dsimp only;omega
   ·exact hp x (List.mem_of_mem_drop hx)
def holderB (n:Int):Bool:=decide (1≤n)&&decide (n≤1000)
def strangeB (m:TMove):Bool:=
 if m.Kind=1 then !decide (m.From=0)||!holderB m.To else if m.Kind=2 then !holderB m.From||!holderB m.To||decide (m.From=m.To)else !holderB m.From||!decide (m.To=0)
def goH (l:List THolding) (m:TMove):List THolding:=
 let l1:=if m.From=0 then l else setH l m.Security m.From (-m.Amount)
 if m.To=0 then l1 else setH l1 m.Security m.To m.Amount
def moveE (secs:List TSecurity) (l:List THolding) (day:Int) (m:TMove):Int:=
 match findS secs m.Security with
 |none=>76
 |some s=>
  if¬(max day s.Issued≤m.Day∧m.Day≤if m.Kind=3 then 36000 else s.Maturity)then 8
  else if m.Amount≤0∨1000000000000<m.Amount∨m.Amount%s.Unit≠0 then 79
  else if strangeB m=true then 6
  else if m.From≠0∧heldH l m.Security m.From<m.Amount then 77
  else if m.From=0∧1000000000000<outH l m.Security+m.Amount then 2
  else 0
structure HoldOk (l:List THolding) (N:Nat):Prop where
 srt:l.Pairwise hR
 pos:∀x,x∈l→0<x.Amount
 tot:∀id,outH l id≤1000000000000
 len:l.length≤N
theorem HoldOk.am {l:List THolding} {N:Nat} (h:HoldOk l N) {x:THolding} (hx:x∈l):0<x.Amount∧x.Amount≤1000000000000:=by
 have h1:=(sumQ_le (secQ x.Security) hAm l h.pos).2 x hx (by simp[secQ])
 have h2:=h.tot x.Security
 have h3:=h.pos x hx
 unfold outH at h2
 unfold hAm at h1 h2
 omega
structure MoveOk (secs:List TSecurity) (l:List THolding) (day:Int) (m:TMove) (s:TSecurity):Prop where
 sec:findS secs m.Security=some s
 day:max day s.Issued≤m.Day∧m.Day≤if m.Kind=3 then 36000 else s.Maturity
 am:0<m.Amount∧m.Amount≤1000000000000∧m.Amount%s.Unit=0
 str:strangeB m=false
 held:m.From≠0→m.Amount≤heldH l m.Security m.From
 out:m.From=0→outH l m.Security+m.Amount≤1000000000000
theorem moveE_ok {secs:List TSecurity} {l:List THolding} {day:Int} {m:TMove} (h:moveE secs l day m=0):∃s,MoveOk secs l day m s:=by
 unfold moveE at h
 cases hs:findS secs m.Security with
 |none=>rw[hs]at h;cases h
 |some s=>
  rw[hs]at h
  dsimp only at h
  by_cases h1:max day s.Issued≤m.Day∧m.Day≤if m.Kind=3 then 36000 else s.Maturity
  ·rw[if_neg (by simpa using h1)]at h
   by_cases h2:m.Amount≤0∨1000000000000<m.Amount∨m.Amount%s.Unit≠0
   ·rw[if_pos h2]at h;cases h
   ·rw[if_neg h2]at h
    by_cases h3:strangeB m=true
    ·rw[if_pos h3]at h;cases h
    ·rw[if_neg h3]at h
     by_cases h4:m.From≠0∧heldH l m.Security m.From<m.Amount
     ·rw[if_pos h4]at h;cases h
     ·rw[if_neg h4]at h
      by_cases h5:m.From=0∧1000000000000<outH l m.Security+m.Amount
      ·rw[if_pos h5]at h;cases h
      ·exact⟨s,hs,h1,by omega,by simpa using h3,fun e=>by have:=fun c=>h4 ⟨e,c⟩;omega,fun e=>by have:=fun c=>h5 ⟨e,c⟩;omega⟩
  ·rw[if_pos h1]at h;cases h
theorem moveE_zero {secs:List TSecurity} {l:List THolding} {day:Int} {m:TMove} {s:TSecurity} (h:MoveOk secs l day m s):moveE secs l day m=0:=by
 unfold moveE
 rw[h.sec]
 dsimp only
 have h2:=h.am
 rw[if_neg (by simpa using h.day),if_neg (by omega),if_neg (by simp[h.str]),if_neg (fun c=>by have:=h.held c.1;omega),if_neg (fun c=>by have:=h.out c.1;omega)]
def addH (l:List THolding) (id h n:Int):List THolding:=if h=0 then l else setH l id h n
theorem goH1_ok {secs:List TSecurity} {l:List THolding} {day:Int} {m:TMove} {s:TSecurity} {N:Nat} (h:HoldOk l N) (hm:MoveOk secs l day m s):HoldOk (addH l m.Security m.From (-m.Amount)) (N+1)∧(addH l m.Security m.From (-m.Amount)).length≤l.length+1:=by
 have h0:=h.len
 have am:=hm.am
 unfold addH
 split
 ·exact⟨⟨h.srt,h.pos,h.tot,by omega⟩,by omega⟩
 ·rename_i hf
  have:=hm.held hf
  refine⟨⟨sorted_setK (hOk _ _) _ h.srt,pos_setH h.srt h.pos (by omega),fun id=>?_,Nat.le_trans (len_setK _ _) (by omega)⟩,len_setK _ _⟩
  rw[outH_setH]
  have:=h.tot id
  split<;>omega
theorem goH_eq (l:List THolding) (m:TMove):goH l m=addH (addH l m.Security m.From (-m.Amount)) m.Security m.To m.Amount:=rfl
theorem goH_ok {secs:List TSecurity} {l:List THolding} {day:Int} {m:TMove} {s:TSecurity} {N:Nat} (h:HoldOk l N) (hm:MoveOk secs l day m s):HoldOk (goH l m) (N+2):=by
 have am:=hm.am
 obtain⟨k1,_⟩:=goH1_ok h hm
 rw[goH_eq]
 obtain⟨l1,h1⟩:∃l1,l1=addH l m.Security m.From (-m.Amount):=⟨_,rfl⟩
 rw[←h1]at k1⊢
 rw[addH]
 split
 ·exact⟨k1.srt,k1.pos,k1.tot,by have:=k1.len;omega⟩
 ·have hh:0≤heldH l1 m.Security m.To:=(sumQ_le _ hAm l1 k1.pos).1
  refine⟨sorted_setK (hOk _ _) _ k1.srt,pos_setH k1.srt k1.pos (by omega),fun id=>?_,Nat.le_trans (len_setK _ _) (by have:=k1.len;omega)⟩
  rw[outH_setH]
  have ht:=h.tot id
  by_cases hid:m.Security=id
  ·subst hid
   rw[if_pos rfl,h1,addH]
   split
   ·rename_i hf;have:=hm.out hf;omega
   ·rw[outH_setH,if_pos rfl];omega
  ·rw[if_neg hid]
   have:=k1.tot id
   omega
structure RepSt where
 l:List THolding
 n:Nat
 d:Int
def stepOk (secs:List TSecurity) (t:RepSt) (m:TMove):Prop:=m.Number=t.n+1∧(1≤m.Kind∧m.Kind≤3)∧moveE secs t.l t.d m=0
def stepR (t:RepSt) (m:TMove):RepSt:=⟨goH t.l m,t.n+1,m.Day⟩
inductive Runs (secs:List TSecurity):RepSt→List TMove→RepSt→Prop
 |nil {t}:Runs secs t [] t
 |snoc {t u ms m}:Runs secs t ms u→stepOk secs u m→Runs secs t (ms++[m]) (stepR u m)
def rep0:RepSt:=⟨[],0,0⟩
theorem Runs.n {secs:List TSecurity} {t u:RepSt} {ms:List TMove} (h:Runs secs t ms u):u.n=t.n+ms.length:=by
 induction h with
 |nil=>rfl
 |snoc _ _ ih=>simp[stepR,ih];omega
theorem Runs.take {secs:List TSecurity} {t u:RepSt} {ms:List TMove} (h:Runs secs t ms u):∀k,∃v,Runs secs t (ms.take k) v∧∀m,ms[k]?=some m→stepOk secs v m∧Runs secs t (ms.take (k+1)) (stepR v m):=by
 induction h with
 |nil=>exact fun k=>⟨t,by simpa using Runs.nil,fun m hm=>by simp at hm⟩
 |@snoc u ms m hr hs ih=>
  intro k
  rcases Nat.lt_trichotomy k ms.length with hk|hk|hk
  ·obtain⟨v,h1,h2⟩:=ih k
   refine⟨v,by rw[List.take_append_of_le_length (by omega)];exact h1,fun x hx=>?_⟩
   rw[List.getElem?_append_left hk]at hx
   rw[List.take_append_of_le_length (by omega)]
   exact h2 x hx
  ·subst hk
   refine⟨u,by simpa using hr,fun x hx=>?_⟩
   simp only[List.getElem?_append_right (Nat.le_refl _),Nat.sub_self,List.getElem?_cons_zero,Option.some.injEq]at hx
   subst hx
   exact⟨hs,by rw[List.take_of_length_le (by simp)];exact .snoc hr hs⟩
  ·exact⟨_,by rw[List.take_of_length_le (by simp;omega)];exact .snoc hr hs,fun x hx=>by rw[List.getElem?_eq_none (by simp;omega)]at hx;cases hx⟩
theorem Runs.det {secs:List TSecurity} {t u:RepSt} {ms:List TMove} (h:Runs secs t ms u):u=ms.foldl stepR t:=by
 induction h with
 |nil=>rfl
 |snoc _ _ ih=>rw[List.foldl_append,←ih];rfl
theorem Runs.ok {secs:List TSecurity} {u:RepSt} {ms:List TMove} (h:Runs secs rep0 ms u):HoldOk u.l (2*ms.length):=by
 induction h with
 |nil=>
  exact⟨by simp[rep0],by simp[rep0],fun id=>by simp[rep0,outH,sumQ],by simp[rep0]⟩
 |snoc _ hs ih=>
  obtain⟨s,hm⟩:=moveE_ok hs.2.2
  have:=goH_ok ih hm
  simpa[stepR,Nat.mul_add]using this
def secsB:Int→List TSecurity→Bool
 |_,[]=>true
 |p,s::l=>secB s&&decide (p<s.ID)&&secsB s.ID l
structure RegOk (r:TRegister) (d:Int):Prop where
 secs:secsB 0 r.Securities=true
 slen:r.Securities.length≤20
 run:Runs r.Securities rep0 r.Moves ⟨r.Holdings,r.Moves.length,d⟩
 mlen:r.Moves.length≤400
def moved (r:TRegister) (m:TMove):TRegister:=⟨r.Securities,goH r.Holdings m,r.Moves++[m]⟩
open Go.PA
open Go.RowKit
abbrev secsL (l:List TSecurity):AV:= .list 7 (encL TSecurity.cells l)
abbrev holdsL (l:List THolding):AV:= .list 3 (encL THolding.cells l)
abbrev movesL (l:List TMove):AV:= .list 7 (encL TMove.cells l)
theorem cSec (x:TSecurity):x.cells=[iv x.ID,iv x.Unit,iv x.Issued,iv x.Maturity,iv x.Rate,iv x.Every,bv x.Indexed]:=rfl
theorem cHol (x:THolding):x.cells=[iv x.Security,iv x.Holder,iv x.Amount]:=rfl
theorem cMov (x:TMove):x.cells=[iv x.Number,iv x.Day,iv x.Kind,iv x.Security,iv x.From,iv x.To,iv x.Amount]:=rfl
theorem cReg (x:TRegister):x.cells=[secsL x.Securities,holdsL x.Holdings,movesL x.Moves]:=rfl
theorem imm_secs (l:List TSecurity):Imm (secsL l):=imm_encL _ TSecurity.imm _
theorem imm_holds (l:List THolding):Imm (holdsL l):=imm_encL _ THolding.imm _
theorem imm_moves (l:List TMove):Imm (movesL l):=imm_encL _ TMove.imm _
theorem imm_sec (x:TSecurity):Imm (.agg x.cells):= .agg fun c hc=>x.imm c hc
theorem imm_hol (x:THolding):Imm (.agg x.cells):= .agg fun c hc=>x.imm c hc
theorem imm_mov (x:TMove):Imm (.agg x.cells):= .agg fun c hc=>x.imm c hc
theorem imm_reg (x:TRegister):Imm (.agg x.cells):= .agg fun c hc=>x.imm c hc
def bet (n lo hi:Int):Bool:=decide (lo≤n)&&decide (n≤hi)
theorem bet_yes {n lo hi:Int} (h:lo≤n∧n≤hi):bet n lo hi=true:=by simp[bet,h]
theorem bet_no {n lo hi:Int} (h:¬(lo≤n∧n≤hi)):bet n lo hi=false:=by simp[bet];omega
theorem gamong_pf (n lo hi:Int):PFun Tryz.prog none none 104 [iv n,iv lo,iv hi] (·=bv (bet n lo hi)):=by
 refine pfun_intro Tryz.func104 rfl (by simp[Tryz.f104]) (by kernel_rfl) ?_
 intro E hP hr hs hW hN
 by_cases h1:lo≤n<;>by_cases h2:n≤hi<;>simp -dsimp -implicitDefEqProofs [-getElem?_pos,go_sem,hP,h1,h2,bet]
theorem gholder_pf (n:Int):PFun Tryz.prog none none 281 [iv n] (·=bv (holderB n)):=by
 refine pfun_intro Tryz.func281 rfl (by simp[Tryz.f281]) (by kernel_rfl) ?_
 intro E hP hr hs hW hN
 simp -dsimp -implicitDefEqProofs [-getElem?_pos,go_sem,hP]
 refine callB_pure (gamong_pf n 1 1000) hP en_104 (args_same (by simp -dsimp[-getElem?_pos,go_sem])) .sc ?_
 simp -dsimp -implicitDefEqProofs [-getElem?_pos,go_sem,hP,holderB,bet]
theorem gvalid_pf (n:Int):PFun Tryz.prog none none 50 [iv n] (·=bv (bet n 0 1000000000000)):=by
 refine pfun_intro Tryz.func50 rfl (by simp[Tryz.f50]) (by kernel_rfl) ?_
 intro E hP hr hs hW hN
 by_cases h1:0≤n<;>by_cases h2:n≤1000000000000<;>simp -dsimp -implicitDefEqProofs [-getElem?_pos,go_sem,hP,h1,h2,bet]
structure SecOk (s:TSecurity):Prop where
 id:1≤s.ID∧s.ID≤1000
 unit:1≤s.Unit∧s.Unit≤1000000000
 iss:0≤s.Issued∧s.Issued≤36000
 mat:s.Issued+30≤s.Maturity∧s.Maturity≤min (s.Issued+18000) 35990
 rate:0≤s.Rate∧s.Rate≤20000
 every:(s.Every=0∧(s.Maturity-s.Issued)%30=0∧s.Rate=0)∨((s.Every=1∨s.Every=3∨s.Every=6∨s.Every=12)∧(s.Maturity-s.Issued)%(30*s.Every)=0)
theorem secOk {s:TSecurity} (h:secB s=true):SecOk s:=by
 unfold secB at h
 rw[Bool.and_eq_true,decide_eq_true_eq]at h
 obtain⟨⟨h1,h2,h3,h4,h5⟩,h6⟩:=h
 refine⟨h1,h2,h3,h4,h5,?_⟩
 by_cases e:s.Every=0
 ·rw[if_pos e,Bool.and_eq_true,decide_eq_true_eq,decide_eq_true_eq]at h6
  exact .inl ⟨e,h6⟩
 ·rw[if_neg e]at h6
  by_cases e2:s.Every=1∨s.Every=3∨s.Every=6∨s.Every=12
  ·rw[if_pos e2,decide_eq_true_eq]at h6
   exact .inr ⟨e2,h6⟩
  ·rw[if_neg e2]at h6
   cases h6
theorem gsec_pf (s:TSecurity) (h:secB s=true):PFun Tryz.prog none none 56 [.agg s.cells] (·=bv true):=by
 obtain⟨h1,h2,h3,h4,h5,h6⟩:=secOk h
 refine pfun_intro Tryz.func56 rfl (by simp[Tryz.f56]) (by kernel_rfl) ?_
 intro E hP hr hs hW hN
 have c1:=bet_yes h1
 have c2:=bet_yes h2
 have c3:=bet_yes h3
 have c4:=bet_yes h4
 have c5:=bet_yes h5
 have w1:=wrap_in (s.Issued+30) (by omega)
 have w2:=wrap_in (s.Issued+18000) (by omega)
 have w3:=wrap_in (s.Maturity-s.Issued) (by omega)
 have am:amin [iv (s.Issued+18000),iv 35990]=some (iv (min (s.Issued+18000) 35990)):=by simp[amin,aminFrom]
 simp -dsimp -implicitDefEqProofs [-getElem?_pos,go_sem,hP,cSec]
 refine callB_pure (gamong_pf s.ID 1 1000) hP en_104 (args_same (by simp -dsimp[-getElem?_pos,go_sem])) .sc ?_
 simp -dsimp -implicitDefEqProofs [-getElem?_pos,go_sem,hP,c1]
 refine callB_pure (gamong_pf s.Unit 1 1000000000) hP en_104 (args_same (by simp -dsimp[-getElem?_pos,go_sem])) .sc ?_
 simp -dsimp -implicitDefEqProofs [-getElem?_pos,go_sem,hP,c2]
 refine callB_pure (gamong_pf s.Issued 0 36000) hP en_104 (args_same (by simp -dsimp[-getElem?_pos,go_sem])) .sc ?_
 simp -dsimp -implicitDefEqProofs [-getElem?_pos,go_sem,hP,c3,w1,w2,am]
 refine callB_pure (gamong_pf s.Maturity (s.Issued+30) (min (s.Issued+18000) 35990)) hP en_104 (args_same (by simp -dsimp[-getElem?_pos,go_sem])) .sc ?_
 simp -dsimp -implicitDefEqProofs [-getElem?_pos,go_sem,hP,c4]
 refine callB_pure (gamong_pf s.Rate 0 20000) hP en_104 (args_same (by simp -dsimp[-getElem?_pos,go_sem])) .sc ?_
 simp -dsimp -implicitDefEqProofs [-getElem?_pos,go_sem,hP,c5,w3]
 rcases h6 with⟨e,e2,e3⟩|⟨e,e2⟩
 ·have t:(s.Maturity-s.Issued).tmod 30=0:=by rw[Int.tmod_eq_emod_of_nonneg (by omega)];exact e2
  simp -dsimp -implicitDefEqProofs [-getElem?_pos,go_sem,hP,e,e3,t]
 ·rcases e with e|e|e|e
  ·rw[e]at e2
   have t:(s.Maturity-s.Issued).tmod 30=0:=(Int.tmod_eq_emod_of_nonneg (by omega)).trans e2
   have w5:IntKind.i64.wrap 30=30:=by decide
   simp -dsimp -implicitDefEqProofs [-getElem?_pos,go_sem,hP,e,t,w5]
  ·rw[e]at e2
   have t:(s.Maturity-s.Issued).tmod 90=0:=(Int.tmod_eq_emod_of_nonneg (by omega)).trans e2
   have w5:IntKind.i64.wrap 90=90:=by decide
   simp -dsimp -implicitDefEqProofs [-getElem?_pos,go_sem,hP,e,t,w5]
  ·rw[e]at e2
   have t:(s.Maturity-s.Issued).tmod 180=0:=(Int.tmod_eq_emod_of_nonneg (by omega)).trans e2
   have w5:IntKind.i64.wrap 180=180:=by decide
   simp -dsimp -implicitDefEqProofs [-getElem?_pos,go_sem,hP,e,t,w5]
  ·rw[e]at e2
   have t:(s.Maturity-s.Issued).tmod 360=0:=(Int.tmod_eq_emod_of_nonneg (by omega)).trans e2
   have w5:IntKind.i64.wrap 360=360:=by decide
   simp -dsimp -implicitDefEqProofs [-getElem?_pos,go_sem,hP,e,t,w5]
open Go.PA
open Go.RowKit
theorem args_sl {H:Heap} {x:AV} {k:Nat} {es:List (List AV)} {xs ys:List AV} (h:SlIs H x k es) (hi:Imm (.list k es)) (ht:Args H xs ys):Args H (x::xs) (.list k es::ys):=by
 rcases h with rfl|⟨rfl,rfl⟩|⟨id,ty,rfl,hH⟩
 ·exact args_imm hi ht
 ·exact args_nilL ht
 ·exact args_sref hH rfl hi ht
set_option maxHeartbeats 1000000 in
theorem bsf_pf_hol (l:List THolding) (k1 k2:Int) (g:FuncId) (cf:THolding→Int) (k:Nat) (hl:l.length≤1000000) (hk:k≤l.length) (hen:enterable Tryz.prog g=true) (hm:∀h x,l[h]?=some x→(cf x<0↔h<k))
  (hg:∀a,a∈l→PFun Tryz.prog none none g [.agg (THolding.cells a),.agg ([iv k1,iv k2])] (·=iv (cf a))):
  PFun Tryz.prog none none 303 [.list 3 (encL THolding.cells l),.agg ([iv k1,iv k2]),.fn g []] (·= .tup [iv k,bv ((l[k]?).any fun x=>decide (cf x=0))]):=by
 refine pfun_intro Tryz.func303 rfl (by simp[Tryz.f303]) (by kernel_rfl) ?_
 intro E hP hr hs hW hN
 have ik:Imm (.agg ([iv k1,iv k2])):= .agg (by simp -dsimp[-getElem?_pos,go_sem])
 simp -dsimp -implicitDefEqProofs [-getElem?_pos,go_sem,hP,cHol]
 obtain⟨I,hI⟩:∃I:Nat→St→Prop,I=fun m s=>∃i j:Nat,i≤k∧k≤j∧j≤l.length∧m=j-i∧s.t 0= .list 3 (encL THolding.cells l)∧s.t 2= .fn g []∧s.t 4= .ref 0 0 0∧s.t 8=iv l.length∧s.t 9=iv i∧s.t 10=iv j∧s.H[0]?=some (some ⟨303,2,[[iv k1,iv k2]]⟩):=⟨_,rfl⟩
 refine aloop0 I (l.length) (by rw[hN];rfl) ?_ ?_
 ·rw[hI]
  exact⟨0,l.length,by omega,hk,by omega,rfl,by simp -dsimp[-getElem?_pos,go_sem],by simp -dsimp[-getElem?_pos,go_sem],by simp -dsimp[-getElem?_pos,go_sem],by simp -dsimp[-getElem?_pos,go_sem],by simp -dsimp[-getElem?_pos,go_sem],by simp -dsimp[-getElem?_pos,go_sem],by simp -dsimp[-getElem?_pos,go_sem,cHol]⟩
 intro m s hs'
 rw[hI]at hs'
 obtain⟨i,j,hi,hj,hjl,hm',t0,t2,t4,t8,t9,t10,hp⟩:=hs'
 have lt0:=(gsI hp)
 simp -dsimp -implicitDefEqProofs [-getElem?_pos,go_sem,hP,t9,t10]
 refine condP (fun h=>?_) (fun h=>?_)
 ·have hij:i<j:=by simpa using h
  have w1:=wrap_in ((i:Int)+j) (by omega)
  have wu:IntKind.u64.wrap ((i:Int)+j)=(i:Int)+j:=by rw[IntKind.wrap_u64];omega
  obtain⟨h,hh⟩:∃h,h=(i+j) / 2:=⟨_,rfl⟩
  have wh:IntKind.i64.wrap (((i:Int)+j) / 2)=(h:Int):=by rw[wrap_in _ (by omega)];omega
  obtain⟨a,ha⟩:∃a,l[h]?=some a:=⟨_,List.getElem?_eq_getElem (by omega)⟩
  have hcmp:=hm h a ha
  have w2:=wrap_in ((h:Int)+1) (by omega)
  have ia:Imm (.agg (THolding.cells a)):= .agg fun c hc=>THolding.imm a c hc
  have cm:=hg a (List.mem_of_getElem? ha)
  rw[cHol]at cm ia
  simp -dsimp -implicitDefEqProofs [-getElem?_pos,go_sem,hP,t9,t10,w1,wu,aconv,aint_shr,wh]
  refine adrawB (fun _=>true) [] hP (by kernel_rfl) (by kernel_rfl) ?_
  simp -dsimp -implicitDefEqProofs [-getElem?_pos,go_sem,hP,t0,t2,t4,ha,hp,lt0,cHol]
  refine callB_is (cm.lift _ _) hP hen (by simpa using⟨ia,ik⟩) .sc ?_
  by_cases c:cf a<0
  ·have c1:decide (cf a<0)=true:=decide_eq_true c
   simp -dsimp -implicitDefEqProofs [-getElem?_pos,go_sem,hP,c1,w2]
   refine⟨j-(h+1),by omega,?_⟩
   rw[hI]
   exact⟨h+1,j,by have:=hcmp.1 c;omega,by omega,by omega,rfl,by simp -dsimp[-getElem?_pos,go_sem,t0],by simp -dsimp[-getElem?_pos,go_sem,t2],by simp -dsimp[-getElem?_pos,go_sem,t4],by simp -dsimp[-getElem?_pos,go_sem,t8],by simp -dsimp[-getElem?_pos,go_sem],by simp -dsimp[-getElem?_pos,go_sem,t10],by simp -dsimp[-getElem?_pos,go_sem,hp]⟩
  ·have c1:decide (cf a<0)=false:=decide_eq_false c
   simp -dsimp -implicitDefEqProofs [-getElem?_pos,go_sem,hP,c1]
   refine⟨h-i,by omega,?_⟩
   rw[hI]
   exact⟨i,h,by omega,by have:=mt hcmp.2 c;omega,by omega,rfl,by simp -dsimp[-getElem?_pos,go_sem,t0],by simp -dsimp[-getElem?_pos,go_sem,t2],by simp -dsimp[-getElem?_pos,go_sem,t4],by simp -dsimp[-getElem?_pos,go_sem,t8],by simp -dsimp[-getElem?_pos,go_sem,t9],by simp -dsimp[-getElem?_pos,go_sem],by simp -dsimp[-getElem?_pos,go_sem,hp]⟩
 ·have hik:i=k:=by
   have:¬i<j:=by simpa using h
   omega
  subst hik
  simp -dsimp -implicitDefEqProofs [-getElem?_pos,go_sem,hP]
  refine adrawB (fun _=>true) [] hP (by kernel_rfl) (by kernel_rfl) ?_
  by_cases c:i<l.length
  ·obtain⟨a,ha⟩:∃a,l[i]?=some a:=⟨_,List.getElem?_eq_getElem c⟩
   have d:decide ((i:Int)<(l.length:Int))=true:=decide_eq_true (by omega)
   have ia:Imm (.agg (THolding.cells a)):= .agg fun c hc=>THolding.imm a c hc
   have cm:=hg a (List.mem_of_getElem? ha)
   rw[cHol]at cm ia
   simp -dsimp -implicitDefEqProofs [-getElem?_pos,go_sem,hP,t9,t8,c,d,t0,t2,t4,ha,hp,lt0,cHol]
   refine callB_is (cm.lift _ _) hP hen (by simpa using⟨ia,ik⟩) .sc ?_
   simp -dsimp -implicitDefEqProofs [-getElem?_pos,go_sem,hP,t9,t8,c,d,t0,t2,t4,ha,hp,lt0,cHol]
   exact done_imm (imm_pair .sc .sc) (by simp[ha])
  ·have d:decide ((i:Int)<(l.length:Int))=false:=decide_eq_false (by omega)
   have n:l[i]?=none:=List.getElem?_eq_none (by omega)
   simp -dsimp -implicitDefEqProofs [-getElem?_pos,go_sem,hP,t9,t8,c,d]
   exact done_imm (imm_pair .sc .sc) (by simp[n])
def cmpK (a1 a2 b1 b2:Int):Int:=orI [cmpI a1 b1,cmpI a2 b2]
theorem cmpK_lt (a1 a2 b1 b2:Int):cmpK a1 a2 b1 b2<0↔(a1<b1∨(a1=b1∧a2<b2)):=by
 simp only[cmpK,orI,cmpI]
 repeat' split
 all_goals omega
theorem cmpK_eq (a1 a2 b1 b2:Int):cmpK a1 a2 b1 b2=0↔(a1=b1∧a2=b2):=by
 simp only[cmpK,orI,cmpI]
 repeat' split
 all_goals omega
theorem kcompare_pf (a1 a2 b1 b2:Int):PFun Tryz.prog none none 306 [.agg [iv a1,iv a2],.agg [iv b1,iv b2]] (·=iv (cmpK a1 a2 b1 b2)):=by
 refine pfun_intro Tryz.func306 rfl (by simp[Tryz.f306]) (by kernel_rfl) ?_
 intro E hP hr hs hW hN
 simp -dsimp -implicitDefEqProofs [-getElem?_pos,go_sem,hP]
 refine adrawB (fun _=>true) [] hP (by kernel_rfl) (by kernel_rfl) ?_
 simp -dsimp -implicitDefEqProofs [-getElem?_pos,go_sem,hP]
 refine callB_pure (compare_pf a1 b1) hP en_55 (args_same (by simp -dsimp[-getElem?_pos,go_sem])) .sc ?_
 simp -dsimp -implicitDefEqProofs [-getElem?_pos,go_sem,hP]
 refine callB_pure (compare_pf a2 b2) hP en_55 (args_same (by simp -dsimp[-getElem?_pos,go_sem])) .sc ?_
 simp -dsimp -implicitDefEqProofs [-getElem?_pos,go_sem,hP]
 refine callB_pure (or_pf [cmpI a1 b1,cmpI a2 b2] (by simp)) hP en_287 (args_same (by simp -dsimp[-getElem?_pos,go_sem,intsL])) .sc ?_
 simp -dsimp -implicitDefEqProofs [-getElem?_pos,go_sem,hP,cmpK]
theorem gof_pf (x:THolding):PFun Tryz.prog none none 305 [.agg x.cells] (·= .agg [iv x.Security,iv x.Holder]):=by
 refine pfun_intro Tryz.func305 rfl (by simp[Tryz.f305]) (by kernel_rfl) ?_
 intro E hP hr hs hW hN
 simp -dsimp -implicitDefEqProofs [-getElem?_pos,go_sem,hP,cHol]
 exact done_imm (by simp -dsimp[-getElem?_pos,go_sem]) rfl
theorem gplace1_pf (x:THolding) (k1 k2:Int):PFun Tryz.prog none none 304 [.agg x.cells,.agg [iv k1,iv k2]] (·=iv (cmpK x.Security x.Holder k1 k2)):=by
 refine pfun_intro Tryz.func304 rfl (by simp[Tryz.f304]) (by kernel_rfl) ?_
 intro E hP hr hs hW hN
 have ix:=imm_hol x
 have op:=gof_pf x
 rw[cHol]at ix op
 simp -dsimp -implicitDefEqProofs [-getElem?_pos,go_sem,hP,cHol]
 refine adrawB (fun _=>true) [] hP (by kernel_rfl) (by kernel_rfl) ?_
 simp -dsimp -implicitDefEqProofs [-getElem?_pos,go_sem,hP]
 refine callB_is (op.lift _ _) hP en_305 (by simpa using ix) (by simp -dsimp[-getElem?_pos,go_sem]) ?_
 simp -dsimp -implicitDefEqProofs [-getElem?_pos,go_sem,hP]
 refine callB_pure (kcompare_pf x.Security x.Holder k1 k2) hP en_306 (args_same (by simp -dsimp[-getElem?_pos,go_sem])) .sc ?_
 simp -dsimp -implicitDefEqProofs [-getElem?_pos,go_sem,hP]
theorem gplace_m {row src:Option Nat} (c:Nat) (sx hx n d:AV) (l:List THolding) (id h:Int) (k:Nat) (H:Heap) (hc:H[c]?=some (some ⟨183,4,[[sx,hx,n,d]]⟩)) (hsl:SlIs H hx 3 (encL THolding.cells l)) (hl:l.length≤100000) (hk:k≤l.length) (hm:∀j x,l[j]?=some x→(hLt id h x=true↔j<k)):
  MFun Tryz.prog row src 282 [.ref c 0 0,.agg [iv id,iv h]] H (fun r H'=>r= .tup [iv k,bv ((l[k]?).any (hIs id h))]∧Kept [] H H'):=by
 obtain⟨C,hC⟩:∃C:AV→Heap→Prop,C=fun r H'=>r= .tup [iv k,bv ((l[k]?).any (hIs id h))]∧Kept [] H H':=⟨_,rfl⟩
 rw[←hC]
 have ex:∃r H',C r H':=⟨_,H,by rw[hC];exact⟨rfl,kept_refl _ _⟩⟩
 have pf:=bsf_pf_hol l id h 304 (fun x=>cmpK x.Security x.Holder id h) k (by omega) hk en_304 (fun j x hx=>by
  rw[←hm j x hx,hLt_iff]
  exact cmpK_lt _ _ _ _) (fun a _=>gplace1_pf a id h)
 have e:(fun x:THolding=>decide (cmpK x.Security x.Holder id h=0))=hIs id h:=funext fun x=>by
  rw[Bool.eq_iff_iff,hIs_iff,decide_eq_true_eq]
  exact cmpK_eq _ _ _ _
 rw[e]at pf
 have lc:=(gsI hc)
 obtain⟨b,hb⟩:∃b,b=(l[k]?).any (hIs id h):=⟨_,rfl⟩
 rw[←hb]at pf hC
 refine mfun_intro Tryz.func282 rfl (by simp[Tryz.f282]) (by kernel_rfl) (ex) ?_
 intro E hP hr hs hN
 simp -dsimp -implicitDefEqProofs [-getElem?_pos,go_sem,hP]
 obtain⟨H1,hH1⟩:∃H1:Heap,H1=H++[some ⟨303,2,[[iv id,iv h]]⟩]:=⟨_,rfl⟩
 have k1:Kept [] H H1:=by rw[hH1];exact kept_app _ _ _
 have c1:=k1 _ _ (by simp) hc
 have s1:=hsl.kept k1
 have a1:H1[H.length]?=some (some ⟨303,2,[[iv id,iv h]]⟩):=by rw[hH1];simp
 have lt1:=(gsI a1)
 have lc1:=(gsI c1)
 simp only[←hH1]
 refine adrawB (fun _=>true) [] hP (by kernel_rfl) (by kernel_rfl) ?_
 simp -dsimp -implicitDefEqProofs [-getElem?_pos,go_sem,hP,c1,a1,lt1,lc1]
 refine callB_flat (pf.lift _ _) hP en_303 (args_sl s1 (imm_holds l) (args_same (by simp -dsimp[-getElem?_pos,go_sem]))) ⟨_,rfl⟩ (by rintro r rfl;simp[flat_tup,flat_sc]) ?_
 rintro r rfl
 simp -dsimp -implicitDefEqProofs [-getElem?_pos,go_sem,hP]
 rw[hC]
 exact⟨rfl,k1⟩
end Go.Proofs.YtaenimpfelpafaaGreatDoor
namespace Go.PA
open Go.RowKit
theorem mfun_cut {P:Program} {row src:Option Nat} {f:FuncId} {args:List AV} {H:Heap} {C D:AV→Heap→Prop} (h:MFun P row src f args H C)
  (hd:∀r H',C r H'→∃id n o,r= .sref id 0 n∧H'[id]?=some (some o)∧n≤o.es.length∧D (.sref H'.length 0 n) (H'.set id none++[some ⟨o.ty,o.k,o.es.take n⟩])):MFun P row src f args H D:=by
 intro E hP hrow hsrc
 obtain⟨⟨x0,H0,h0⟩,hw⟩:=h E hP hrow hsrc
 refine⟨?_,fun w ρ ok vs g hs hr=>(hw w ρ ok vs g hs hr).mono ?_⟩
 ·obtain⟨_,_,_,_,_,_,h1⟩:=hd _ _ h0
  exact⟨_,_,h1⟩
 ·rintro e w' ⟨v,x,H',ρ',ok',rfl,hc,g',x',r'⟩
  obtain⟨id,n,o,rfl,ho,hn,h1⟩:=hd _ _ hc
  obtain⟨g2,x2⟩:=g'.kill id ok' (fun _ h=>h) (fun _ h=> .inl h)
  have hlen:(H'.set id none).length=H'.length:=by simp
  have hnew:∀y:Option AObj,(H'.set id none++[y])[H'.length]?=some y:=fun y=>by rw[←hlen];exact push_new
  cases r' with
  |srefDead hd' _=>rw[ho]at hd';cases hd'
  |srefNil ho' hρ=>
   obtain⟨g3,x3⟩:=g2.add ⟨o.ty,o.k,o.es.take 0⟩ none (by simp[ObjOk]) (by simp) (fun _ _ h=>by cases h)
   exact⟨_,_,_,_,ok',rfl,h1,g3,x'.trans (x2.trans x3),.srefNil (hnew _) (by simp[updP])⟩
  |@sref _ _ _ c o' b cap ho' hρ hn' hcc hnc hcap=>
   rw[ho]at ho'
   simp only[Option.some.injEq]at ho'
   subst ho'
   have hobj:=g'.obj id o ho
   rw[hρ]at hobj
   obtain⟨cur,c1,c2,c3,c4,c5⟩:=hobj.cells hcap
   have own:=g'.own id o b cap ho hρ
   obtain⟨g3,x3⟩:=g2.add ⟨o.ty,o.k,o.es.take n⟩ (some (b,cap)) (.inl ⟨cur,c1,c2,by simp only[List.length_take];omega,c4,fun i e j a he ha=>by
     simp only[List.getElem?_take]at he
     split at he
     ·obtain⟨c,d1,d2,d3⟩:=c5 i e j a he ha
      exact⟨c,d1,d2,d3.ext x2⟩
     ·cases he⟩) (fun e he=>g'.len id o ho e (List.mem_of_mem_take he)) (fun b' c' h'=>by
     simp only[Option.some.injEq,Prod.mk.injEq]at h'
     obtain⟨rfl,rfl⟩:=h'
     refine⟨own.1,fun id' o' c' ho' hρ'=>?_,own.2.1,own.2.2⟩
     obtain⟨hne,hl⟩:=set_live ho'
     exact hne (g'.inj id' o' b c' id o cap hl hρ' ho hρ))
   refine⟨_,_,_,_,ok',rfl,h1,g3,x'.trans (x2.trans x3),.sref (o:=⟨o.ty,o.k,o.es.take n⟩) (hnew _) (by simp[updP]) (by simp;omega) hcc hnc hcap⟩
end Go.PA
namespace Go.Proofs.YtaenimpfelpafaaGreatDoor
open Go.PA
open Go.RowKit
set_option maxRecDepth 8000 in
set_option maxHeartbeats 2000000 in
theorem insert_m_hol {row src:Option Nat} (es:List (List AV)) (e:List AV) (i id:Nat) (H:Heap) (hi:i≤es.length) (hl:es.length≤100000) (ho:H[id]?=some (some ⟨173,3,es⟩)) (he0:e≠[]):
  MFun Tryz.prog row src 283 [.sref id 0 es.length,iv i,.list 3 [e]] H (fun r H'=>∃jd,r= .sref jd 0 (es.length+1)∧(jd=id∨H.length≤jd)∧H'[jd]?=some (some ⟨173,3,es.take i++e::es.drop i⟩)∧Kept [id] H H'):=by
 obtain⟨C,hC⟩:∃C:AV→Heap→Prop,C=fun r H'=>∃jd,r= .sref jd 0 (es.length+1)∧(jd=id∨H.length≤jd)∧H'[jd]?=some (some ⟨173,3,es.take i++e::es.drop i⟩)∧Kept [id] H H':=⟨_,rfl⟩
 rw[←hC]
 have ex:∃r H',C r H':=by
  rw[hC]
  exact⟨.sref H.length 0 (es.length+1),H++[some ⟨173,3,es.take i++e::es.drop i⟩],H.length,rfl,.inr (Nat.le_refl _),by simp,kept_app _ _ _⟩
 have lid:=(gsI ho)
 obtain⟨n,hn⟩:∃n,n=es.length:=⟨_,rfl⟩
 rw[←hn]at hi hl hC⊢
 by_cases hin:i=n
 ·subst hin
  refine mfun_intro Tryz.func283 rfl (by simp[Tryz.f283]) (by kernel_rfl) (ex) ?_
  intro E hP hr hs hN
  by_cases h0:i=0
  ·subst h0
   simp -dsimp -implicitDefEqProofs [-getElem?_pos,go_sem,hP,ho,←hn,asliceOp,bound,aslice]
   rw[hC]
   exact⟨H.length,rfl,.inr (Nat.le_refl _),by simp -dsimp[-getElem?_pos,go_sem,List.eq_nil_of_length_eq_zero hn.symm],(kept_set none (by simp) (kept_refl _ _)).trans (kept_app _ _ _)⟩
  ·simp -dsimp -implicitDefEqProofs [-getElem?_pos,go_sem,hP,ho,←hn,h0,asliceOp,bound,aslice]
   refine⟨by omega,by omega,?_⟩
   rw[hC]
   exact⟨H.length,rfl,.inr (Nat.le_refl _),by simp -dsimp[-getElem?_pos,go_sem,hn],(kept_set none (by simp) (kept_refl _ _)).trans (kept_app _ _ _)⟩
 ·have hlt:i<n:=by omega
  have hin':¬(i:Int)=n:=by omega
  have w1:=wrap_in ((n:Int)+1) (by omega)
  have w2:=wrap_in ((i:Int)+1) (by omega)
  have w3:=wrap_in ((n:Int)+1-i) (by omega)
  have hesne:es≠[]:=by intro e0;simp[e0]at hn;omega
  refine mfun_unfull (C:=fun r H'=>C r H'∨∃N,r= .full id 0 (n+1) N∧∃o,H'[id]?=some (some o)∧n+1≤o.es.length∧C (.sref id 0 (n+1)) H') ?_ (fun r H' h=>?_)
  rotate_left
  ·rcases h with h|⟨N,h1,o,h2,h3,h4⟩
   ·exact .inl h
   ·exact .inr ⟨id,n+1,N,o,h1,h2,h3,h4⟩
  refine mfun_full ho hesne (by dsimp only;omega) fun N hN0=>?_
  dsimp only at hN0
  obtain⟨D,hD⟩:∃D:AV→Heap→Prop,D=fun r H'=>C r H'∨∃N,r= .full id 0 (n+1) N∧∃o,H'[id]?=some (some o)∧n+1≤o.es.length∧C (.sref id 0 (n+1)) H':=⟨_,rfl⟩
  rw[←hD]
  have exD:∃r H',D r H':=by
   obtain⟨r,H',h⟩:=ex
   rw[hD]
   exact⟨r,H',.inl h⟩
  have fx:∀(id n N:Nat),(if i=0 then some (AV.full id 0 n N)else some (AV.full id i (n-i) N))=some (.full id i (n-i) N):=fun id n N=>by
   split
   ·subst i;rfl
   ·rfl
  have nN:n≤N:=by omega
  have iN:i≤N:=by omega
  have a1:(0:Int)≤(n:Int)+1:=by omega
  have a3:(0:Int)≤(i:Int)+1:=by omega
  have a4:(i:Int)+1≤(n:Int)+1:=by omega
  refine mfun_intro Tryz.func283 rfl (by simp[Tryz.f283]) (by kernel_rfl) (exD) ?_
  intro E hP hr hs hN
  by_cases hroom:N<n+1
  ·have dN:decide ((N:Int)<(n:Int)+1)=true:=decide_eq_true (by omega)
   obtain⟨zs,hz⟩:=Option.isSome_iff_exists.1 (show (zeros Tryz.prog 173).isSome=true by kernel_rfl)
   have hbt:bytesOf Tryz.prog 173=24:=by kernel_rfl
   have hm:(n:Int)+1-i=((n+1-i:Nat):Int):=by omega
   have sx:∀(id n:Nat),(if i=0 then some (AV.sref id 0 n)else some (AV.sref id i (n-i)))=some (.sref id i (n-i)):=fun id n=>by
    split
    ·subst i;rfl
    ·rfl
   simp -dsimp -implicitDefEqProofs [-getElem?_pos,go_sem,hP,dN,ho,←hn,hin,hin',asliceOp,bound,aslice,w1,w2,w3,hroom,hi,nN,iN,a1,a3,a4,fx]
   refine buiB_makeE (e:=173) (m:=n+1-i) (L:=n+1) (kn:= .i64) (zs:=zs) ho (by rw[hP];kernel_rfl) (by rw[hP];kernel_rfl) (by rw[hP];kernel_rfl) (by omega) rfl (by rw[hP];exact hz) (by omega) hm (by omega) (by omega) hroom (by omega) (by rw[hP,hbt];omega) ?_
   have ho2:(H++[some (⟨173,3,es.take i++List.replicate (n+1-i) zs⟩:AObj)])[id]?=some (some ⟨173,3,es⟩):=by rw[List.getElem?_append_left lid];exact ho
   have hl1:(es.take i++List.replicate (n+1-i) zs).length=n+1:=by simp;omega
   have a7:(i:Int)≤(n:Int)+1:=by omega
   have a8:¬((i:Int)=(n:Int)+1):=by omega
   have a9:i≤n+1:=by omega
   have a10:¬i=n+1:=by omega
   have hA:(es.take i).length=i:=by simp;omega
   have d1:(es.take i++List.replicate (n+1-i) zs).drop (i+1)=List.replicate (n-i) zs:=by
    rw[List.drop_append,List.drop_of_length_le (by omega),hA,List.nil_append,List.drop_replicate]
    congr 1
    omega
   simp -dsimp -implicitDefEqProofs [-getElem?_pos,go_sem,hP,ho2,asliceOp,bound,aslice,a7,a8,a9,a10,sx]
   refine buiB_copyE (e:=173) (ty:=173) (k:=3) (lo:=i) (dn:=n+1-i) (m:=1) (es:=es.take i++List.replicate (n+1-i) zs) (news:=[e]) (es':=es.take i++e::List.replicate (n-i) zs) (by simp) (.inl rfl) (by rw[hP];kernel_rfl) (by rw[hP];kernel_rfl) (by omega) (by rw[hP];kernel_rfl) ?_ rfl (by omega) (by omega) (by simp;omega) ?_ ?_
   ·simp only[srcEs]
    rw[if_pos (by rw[hP];kernel_rfl)]
   ·rw[d1,List.take_append_of_le_length (by omega),List.take_of_length_le (by omega)]
    simp
   have ho3:(H++[some (⟨173,3,es.take i++e::List.replicate (n-i) zs⟩:AObj)])[id]?=some (some ⟨173,3,es⟩):=by rw[List.getElem?_append_left lid];exact ho
   have a5:¬((i:Int)+1=0):=by omega
   have a6:((n:Int)+1-((i:Int)+1)).toNat=n-i:=by omega
   have a11:¬((i:Int)+1=(n:Int)+1):=by omega
   simp -dsimp -implicitDefEqProofs [-getElem?_pos,go_sem,hP]
   refine adrawB (fun _=>true) [8] hP (by kernel_rfl) (by kernel_rfl) ?_
   simp -dsimp -implicitDefEqProofs [-getElem?_pos,go_sem,hP,ho3,←hn,hin,hin',asliceOp,bound,aslice,w1,w2,hi,nN,iN,a1,a3,a4,a5,a6,a7,a8,a11,fx,sx]
   refine buiB_copyE (e:=173) (ty:=173) (k:=3) (lo:=i+1) (dn:=n-i) (m:=n-i) (es:=es.take i++e::List.replicate (n-i) zs) (news:=es.drop i) (es':=es.take i++e::es.drop i) (by simp) (.inl rfl) (by rw[hP];kernel_rfl) (by rw[hP];kernel_rfl) (by omega) (by rw[hP];kernel_rfl) ?_ (by simp[←hn]) (by omega) (by omega) (by simp;omega) ?_ ?_
   ·simp only[srcEs,ho3]
    rw[if_pos ⟨by rw[hP];kernel_rfl,by omega⟩,List.take_of_length_le (by simp;omega)]
   ·rw[show es.take i++e::List.replicate (n-i) zs=(es.take i++[e])++List.replicate (n-i) zs from by simp,List.take_append_of_le_length (by simp;omega),List.take_of_length_le (by simp;omega),List.drop_of_length_le (show ((es.take i++[e])++List.replicate (n-i) zs).length≤i+1+(n-i) by simp;omega)]
    simp
   simp -dsimp -implicitDefEqProofs [-getElem?_pos,go_sem,hP]
   rw[hD,hC]
   exact .inl ⟨H.length,rfl,.inr (Nat.le_refl _),by simp,kept_app _ _ _⟩
  ·have dN:decide ((N:Int)<(n:Int)+1)=false:=decide_eq_false (by omega)
   have a2:(n:Int)+1≤N:=by omega
   have a5:¬((i:Int)+1=0):=by omega
   have a6:((n:Int)+1-((i:Int)+1)).toNat=n-i:=by omega
   have a7:(i:Int)≤(n:Int)+1:=by omega
   have a8:¬((i:Int)=(n:Int)+1):=by omega
   simp -dsimp -implicitDefEqProofs [-getElem?_pos,go_sem,hP,dN,ho,←hn,hin,hin',asliceOp,bound,aslice,w1,w2,w3,hroom,hi,nN,iN,a1,a2,a3,a4,a5,a6,a7,a8,fx]
   refine callB_overlapsL (t:=42) (e:=173) (tR:=4) (fn:=Tryz.f307) (id':=id) (lo':=i+1) (dn':=n-i) (by rw[hP];exact Tryz.func307) (by kernel_rfl) (by kernel_rfl) (by kernel_rfl) (by kernel_rfl) (by rw[hP];kernel_rfl) (by rw[hP];kernel_rfl) he0 (.inr ⟨N,rfl⟩) ho (by omega) ?_
   simp -dsimp -implicitDefEqProofs [-getElem?_pos,go_sem,hP]
   refine adrawB (fun _=>true) [8] hP (by kernel_rfl) (by kernel_rfl) ?_
   simp -dsimp -implicitDefEqProofs [-getElem?_pos,go_sem,hP,dN,ho,←hn,hin,hin',asliceOp,bound,aslice,w1,w2,w3,hroom,hi,nN,iN,a1,a2,a3,a4,a5,a6,a7,a8,fx]
   refine buiB_copyS (e:=173) (lo:=i+1) (dn:=n-i) (news:=es.drop i) (es':=es.take (i+1)++es.drop i) ho (.inr ⟨N,rfl⟩) (by rw[hP];kernel_rfl) (by rw[hP];kernel_rfl) (by omega) (by rw[hP];kernel_rfl) ?_ (by simp[←hn]) (by omega) (by omega) (by omega) (by rw[List.drop_of_length_le (show es.length≤i+1+(n-i) by omega),List.append_nil]) ?_
   ·simp only[srcEs,ho]
    rw[if_pos ⟨by rw[hP];kernel_rfl,by omega⟩,List.take_of_length_le (by simp;omega)]
   simp -dsimp -implicitDefEqProofs [-getElem?_pos,go_sem,hP,lid,ho,asliceOp,bound,aslice,a2,a7,a8,fx]
   refine buiB_copyE (e:=173) (ty:=173) (k:=3) (lo:=i) (dn:=n+1-i) (m:=1) (es:=es.take (i+1)++es.drop i) (news:=[e]) (es':=es.take i++e::es.drop i) (by simp[lid]) (.inr ⟨N,rfl⟩) (by rw[hP];kernel_rfl) (by rw[hP];kernel_rfl) (by omega) (by rw[hP];kernel_rfl) ?_ rfl (by omega) (by omega) (by simp[←hn];omega) ?_ ?_
   ·simp only[srcEs]
    rw[if_pos (by rw[hP];kernel_rfl)]
   ·rw[List.take_append_of_le_length (by simp;omega),List.take_take,Nat.min_eq_left (by omega),List.drop_append_of_le_length (by simp;omega),List.drop_of_length_le (by simp;omega)]
    simp
   simp -dsimp -implicitDefEqProofs [-getElem?_pos,go_sem,hP,lid]
   rw[hD,hC]
   simp only[List.set_set]
   exact .inr ⟨N,rfl,⟨173,3,es.take i++e::es.drop i⟩,by simp[lid],by simp[←hn];omega,id,rfl,.inl rfl,by simp[lid],kept_set _ (by simp) (kept_refl _ _)⟩
set_option maxHeartbeats 2000000 in
theorem delete_m_hol {row src:Option Nat} (es:List (List AV)) (i id:Nat) (H:Heap) (hi:i<es.length) (hl:es.length≤100000) (ho:H[id]?=some (some ⟨173,3,es⟩)):
  MFun Tryz.prog row src 284 [.sref id 0 es.length,iv i,iv ((i:Int)+1)] H (fun r H'=>∃tl,r= .sref id 0 (es.length-1)∧H'[id]?=some (some ⟨173,3,es.take i++es.drop (i+1)++tl⟩)∧Kept [id] H H'):=by
 obtain⟨C,hC⟩:∃C:AV→Heap→Prop,C=fun r H'=>∃tl,r= .sref id 0 (es.length-1)∧H'[id]?=some (some ⟨173,3,es.take i++es.drop (i+1)++tl⟩)∧Kept [id] H H':=⟨_,rfl⟩
 rw[←hC]
 have lid:=(gsI ho)
 have ex:∃r H',C r H':=by
  rw[hC]
  exact⟨.sref id 0 (es.length-1),H.set id (some ⟨173,3,es.take i++es.drop (i+1)++[]⟩),[],rfl,by simp[lid],kept_set _ (by simp) (kept_refl _ _)⟩
 obtain⟨n,hn⟩:∃n,n=es.length:=⟨_,rfl⟩
 rw[←hn]at hi hl hC⊢
 have hesne:es≠[]:=by intro e0;simp[e0]at hn;omega
 refine mfun_unfull (C:=fun r H'=>∃N,r= .full id 0 (n-1) N∧∃o,H'[id]?=some (some o)∧n-1≤o.es.length∧C (.sref id 0 (n-1)) H') ?_ (fun r H' h=>?_)
 rotate_left
 ·obtain⟨N,h1,o,h2,h3,h4⟩:=h
  exact .inr ⟨id,n-1,N,o,h1,h2,h3,h4⟩
 refine mfun_full ho hesne (by dsimp only;omega) fun N hN0=>?_
 dsimp only at hN0
 obtain⟨D,hD⟩:∃D:AV→Heap→Prop,D=fun r H'=>∃N,r= .full id 0 (n-1) N∧∃o,H'[id]?=some (some o)∧n-1≤o.es.length∧C (.sref id 0 (n-1)) H':=⟨_,rfl⟩
 rw[←hD]
 have exD:∃r H',D r H':=by
  rw[hD,hC]
  refine⟨.full id 0 (n-1) n,H.set id (some ⟨173,3,es.take i++es.drop (i+1)++[]⟩),n,rfl,⟨173,3,es.take i++es.drop (i+1)++[]⟩,by simp[lid],by simp;omega,[],rfl,by simp[lid],kept_set _ (by simp) (kept_refl _ _)⟩
 obtain⟨zs,hz⟩:=Option.isSome_iff_exists.1 (show (zeros Tryz.prog 173).isSome=true by kernel_rfl)
 have nN:n≤N:=by omega
 have iN:i≤N:=by omega
 have b1:(0:Int)≤i:=by omega
 have b2:(i:Int)≤(i:Int)+1:=by omega
 have b3:(i:Int)+1≤n:=by omega
 have b4:¬(i:Int)=(i:Int)+1:=by omega
 have b5:(0:Int)≤(i:Int)+1:=by omega
 have b6:¬((i:Int)+1=0):=by omega
 have fin:∀(es1:List (List AV)),es1.take (n-1)=es.take i++es.drop (i+1)→es1.length=n→(H1:Heap)→H1[id]?=some (some ⟨173,3,es1⟩)→Kept [id] H H1→D (.full id 0 (n-1) N) (H1.set id (some ⟨173,3,es.take i++es.drop (i+1)++[zs]⟩)):=fun es1 h1 h2 H1 h3 h4=>by
  have l1:=(gsI h3)
  rw[hD,hC]
  exact⟨N,rfl,⟨173,3,es.take i++es.drop (i+1)++[zs]⟩,by simp[l1],by simp[←hn];omega,[zs],rfl,by simp[l1],kept_set _ (by simp) h4⟩
 refine mfun_intro Tryz.func284 rfl (by simp[Tryz.f284]) (by kernel_rfl) (exD) ?_
 intro E hP hr hs hN
 simp -dsimp -implicitDefEqProofs [-getElem?_pos,go_sem,hP,ho,←hn,asliceOp,bound,aslice,aslice3,b1,b2,b3,b4,b5]
 refine adrawB (fun _=>true) [6] hP (by kernel_rfl) (by kernel_rfl) ?_
 have sx:(if n-1=0 then some (AV.full id 0 n N)else some (AV.full id (n-1) 1 N))=some (.full id (n-1) 1 N):=by
  split
  ·rename_i h0;rw[h0,show n=1 by omega]
  ·rfl
 have n4:¬(((n-1:Nat):Int)=(n:Int)):=by omega
 have n1:n-(n-1)=1:=by omega
 have n2:n-1≤n:=by omega
 have n3:¬(n-1=n):=by omega
 have n0:¬n=0:=by omega
 by_cases hlast:i+1=n
 ·have c1:(i:Int)+1=n:=by omega
  have iN1:i=n-1:=by omega
  simp -dsimp -implicitDefEqProofs [-getElem?_pos,go_sem,hP,ho,←hn,asliceOp,bound,aslice,b1,b2,b3,b4,b5,b6,c1,iN,nN,n0]
  refine buiB_appendN (e:=173) (L:=n-1) (o:=⟨173,3,es⟩) ho (by rw[hP];kernel_rfl) (by rw[hP];kernel_rfl) iN iN1 ?_
  simp -dsimp -implicitDefEqProofs [-getElem?_pos,go_sem,hP,ho,asliceOp,bound,aslice,n1,n2,n3,n4,nN,sx]
  refine buiB_clearE (e:=173) (es':=es.take i++es.drop (i+1)++[zs]) ho (.inr ⟨N,rfl⟩) (by rw[hP];kernel_rfl) (by rw[hP];kernel_rfl) (by omega) (by rw[hP];exact hz) (by omega) (by omega) ?_ ?_
  ·rw[List.drop_of_length_le (show es.length≤n-1+1 by omega),List.drop_of_length_le (show es.length≤i+1 by omega),iN1]
   simp
  simp -dsimp -implicitDefEqProofs [-getElem?_pos,go_sem,hP]
  have:=fin es (by rw[List.drop_of_length_le (show es.length≤i+1 by omega),iN1];simp) hn.symm H ho (kept_refl _ _)
  simpa using this
 ·have c1:¬(i:Int)+1=n:=by omega
  have c2:(n:Int)-((i:Int)+1)=((n-(i+1):Nat):Int):=by omega
  simp -dsimp -implicitDefEqProofs [-getElem?_pos,go_sem,hP,ho,←hn,asliceOp,bound,aslice,b1,b2,b3,b4,b5,b6,c1,c2,iN,nN]
  refine buiB_appendE (e:=173) (L:=n-1) (m:=n-(i+1)) (news:=es.drop (i+1)) (es':=es.take i++es.drop (i+1)++es.drop (n-1)) ho (by rw[hP];kernel_rfl) (by rw[hP];kernel_rfl) (by omega) (by rw[hP];kernel_rfl) ?_ (by simp[←hn]) (by omega) (by omega) (by omega) rfl (by omega) ?_
  ·simp only[srcEs,ho]
   rw[if_pos ⟨by rw[hP];kernel_rfl,by omega⟩,List.take_of_length_le (by simp;omega)]
  simp -dsimp -implicitDefEqProofs [-getElem?_pos,go_sem,hP,lid,asliceOp,bound,aslice,n1,n2,n3,n4,nN,sx]
  have hl2:(es.take i++es.drop (i+1)).length=n-1:=by simp;omega
  refine buiB_clearE (e:=173) (ty:=173) (k:=3) (es:=es.take i++es.drop (i+1)++es.drop (n-1)) (es':=es.take i++es.drop (i+1)++[zs]) (by simp[lid]) (.inr ⟨N,rfl⟩) (by rw[hP];kernel_rfl) (by rw[hP];kernel_rfl) (by omega) (by rw[hP];exact hz) (by omega) (by simp;omega) ?_ ?_
  ·rw[List.take_append_of_le_length (by omega),List.take_of_length_le (by omega),List.drop_of_length_le (show (es.take i++es.drop (i+1)++es.drop (n-1)).length≤n-1+1 by rw[List.length_append,hl2,List.length_drop];omega)]
   simp
  simp -dsimp -implicitDefEqProofs [-getElem?_pos,go_sem,hP]
  have:=fin (es.take i++es.drop (i+1)++es.drop (n-1)) (by rw[List.take_append_of_le_length (by omega),List.take_of_length_le (by omega)]) (by rw[List.length_append,hl2,List.length_drop];omega) (H.set id (some ⟨173,3,es.take i++es.drop (i+1)++es.drop (n-1)⟩)) (by simp[lid]) (kept_set _ (by simp) (kept_refl _ _))
  simpa using this
theorem deleteC_hol {row src:Option Nat} (es:List (List AV)) (i id:Nat) (H:Heap) (hi:i<es.length) (hl:es.length≤100000) (ho:H[id]?=some (some ⟨173,3,es⟩)):
  MFun Tryz.prog row src 284 [.sref id 0 es.length,iv i,iv ((i:Int)+1)] H (fun r H'=>∃jd,r= .sref jd 0 (es.length-1)∧(∀(x:Nat) (o:AObj),x≠id→H[x]?=some (some o)→x<jd)∧H'[jd]?=some (some ⟨173,3,es.take i++es.drop (i+1)⟩)∧Kept [id] H H'):=by
 refine mfun_cut (delete_m_hol es i id H hi hl ho) ?_
 rintro r H' ⟨tl,rfl,h1,h2⟩
 have hn:(es.take i++es.drop (i+1)).length=es.length-1:=by simp;omega
 refine⟨id,_,_,rfl,h1,by dsimp only;rw[List.length_append,hn];omega,H'.length,rfl,fun x o hx e=>?_,?_,?_⟩
 ·exact (List.getElem?_eq_some_iff.1 (h2 x o (by simpa using hx) e)).1
 ·dsimp only
  rw[List.take_append_of_le_length (by omega),List.take_of_length_le (by omega)]
  simp
 ·exact h2.trans ((kept_set none (by simp) (kept_refl _ _)).trans (kept_app _ _ _))
theorem held_m {row src:Option Nat} (c:Nat) (sx hx n d:AV) (l:List THolding) (id h:Int) (H:Heap) (hc:H[c]?=some (some ⟨183,4,[[sx,hx,n,d]]⟩)) (hsl:SlIs H hx 3 (encL THolding.cells l)) (hl:l.length≤100000) (ho:l.Pairwise hR):
  MFun Tryz.prog row src 231 [.ref c 0 0,iv id,iv h] H (fun r H'=>r=iv (heldH l id h)∧Kept [] H H'):=by
 obtain⟨v,hv⟩:∃v,v=heldH l id h:=⟨_,rfl⟩
 rw[←hv]
 obtain⟨C,hC⟩:∃C:AV→Heap→Prop,C=fun r H'=>r=iv v∧Kept [] H H':=⟨_,rfl⟩
 rw[←hC]
 have ex:∃r H',C r H':=⟨_,H,by rw[hC];exact⟨rfl,kept_refl _ _⟩⟩
 obtain⟨k,hk,hm,hcase⟩:=place_setK (hOk id h) ho
 have pm:=fun {row src:Option Nat}=>gplace_m (row:=row) (src:=src) c sx hx n d l id h k H hc hsl hl hk hm
 rcases hcase with⟨x,e1,e2,e3,_⟩|⟨e1,e3,_⟩
 ·have hb:(l[k]?).any (hIs id h)=true:=by rw[e1];exact e2
  have ev:v=x.Amount:=by rw[hv];exact e3
  have lk:=(gsI e1)
  rw[hb]at pm
  refine mfun_intro Tryz.func231 rfl (by simp[Tryz.f231]) (by kernel_rfl) (ex) ?_
  intro E hP hr hs hN
  simp -dsimp -implicitDefEqProofs [-getElem?_pos,go_sem,hP]
  refine callB_m (by rw[hr,hs];exact pm) hP en_282 ?_
  rintro r H' ⟨rfl,kp⟩
  have c1:=kp _ _ (by simp) hc
  have s1:=hsl.kept kp
  have lc1:=(gsI c1)
  rcases s1 with rfl|⟨rfl,e⟩|⟨hid,ty,rfl,hh⟩
  ·simp -dsimp -implicitDefEqProofs [-getElem?_pos,go_sem,hP,c1,lc1,e1,cHol]
   rw[hC]
   exact⟨by rw[ev],kp⟩
  ·exfalso
   cases l with
   |nil=>simp at lk
   |cons _ _=>simp[encL]at e
  ·have lh:=(gsI hh)
   simp -dsimp -implicitDefEqProofs [-getElem?_pos,go_sem,hP,c1,lc1,hh,lh,e1,cHol,encL_len,lk]
   rw[hC]
   exact⟨by rw[ev],kp⟩
 ·have hb:(l[k]?).any (hIs id h)=false:=by
   cases e:l[k]? with
   |none=>rfl
   |some x=>simpa using e1 x e
  have ev:v=0:=by rw[hv];exact e3
  rw[hb]at pm
  refine mfun_intro Tryz.func231 rfl (by simp[Tryz.f231]) (by kernel_rfl) (ex) ?_
  intro E hP hr hs hN
  simp -dsimp -implicitDefEqProofs [-getElem?_pos,go_sem,hP]
  refine callB_m (by rw[hr,hs];exact pm) hP en_282 ?_
  rintro r H' ⟨rfl,kp⟩
  simp -dsimp -implicitDefEqProofs [-getElem?_pos,go_sem,hP]
  rw[hC]
  exact⟨by rw[ev],kp⟩
theorem outH_take {l:List THolding} {N:Nat} (h:HoldOk l N) (id:Int) (k:Nat):0≤outH (l.take k) id∧outH (l.take k) id≤1000000000000:=by
 have h1:=sumQ_le (secQ id) hAm (l.take k) fun x hx=>h.pos x (List.mem_of_mem_take hx)
 have h2:=sumQ_le (secQ id) hAm (l.drop k) fun x hx=>h.pos x (List.mem_of_mem_drop hx)
 have h3:=sumQ_append (secQ id) hAm (l.take k) (l.drop k)
 rw[List.take_append_drop]at h3
 have h4:=h.tot id
 unfold outH at*
 omega
theorem outH_succ {l:List THolding} {k:Nat} {x:THolding} (hx:l[k]?=some x) (id:Int):outH (l.take (k+1)) id=outH (l.take k) id+if x.Security=id then x.Amount else 0:=by
 unfold outH
 rw[List.take_add_one,hx,sumQ_append]
 simp only[Option.toList_some,sumQ_cons,sumQ_nil,secQ,decide_eq_true_eq,hAm]
 omega
theorem outst_m {row src:Option Nat} (c:Nat) (sx hx n d:AV) (l:List THolding) (N:Nat) (id:Int) (H:Heap) (hc:H[c]?=some (some ⟨183,4,[[sx,hx,n,d]]⟩)) (hsl:SlIs H hx 3 (encL THolding.cells l)) (hl:l.length≤100000) (ho:HoldOk l N):
  MFun Tryz.prog row src 232 [.ref c 0 0,iv id] H (fun r H'=>r=iv (outH l id)∧Kept [] H H'):=by
 obtain⟨v,hv⟩:∃v,v=outH l id:=⟨_,rfl⟩
 rw[←hv]
 obtain⟨C,hC⟩:∃C:AV→Heap→Prop,C=fun r H'=>r=iv v∧Kept [] H H':=⟨_,rfl⟩
 rw[←hC]
 have ex:∃r H',C r H':=⟨_,H,by rw[hC];exact⟨rfl,kept_refl _ _⟩⟩
 have lc:=(gsI hc)
 have hlen:=hsl.len
 rw[encL_len]at hlen
 refine mfun_intro Tryz.func232 rfl (by simp[Tryz.f232]) (by kernel_rfl) (ex) ?_
 intro E hP hr hs hN
 simp -dsimp -implicitDefEqProofs [-getElem?_pos,go_sem,hP,hc,lc,hlen]
 obtain⟨I,hI⟩:∃I:Nat→St→Prop,I=fun m s=>∃(k:Nat) (w:Int),k≤l.length∧m=l.length-k∧w=outH (l.take k) id∧s.t 0= .ref c 0 0∧s.t 1=iv id∧s.t 5=iv w∧s.t 11=hx∧s.t 12=iv l.length∧s.t 13=iv k∧Kept [] H s.H:=⟨_,rfl⟩
 refine aloop0 I (l.length) (by rw[hN];rfl) ?_ ?_
 ·rw[hI]
  exact⟨0,0,by omega,by omega,rfl,by simp -dsimp[-getElem?_pos,go_sem],by simp -dsimp[-getElem?_pos,go_sem],by simp -dsimp[-getElem?_pos,go_sem],by simp -dsimp[-getElem?_pos,go_sem],by simp -dsimp[-getElem?_pos,go_sem],by simp -dsimp[-getElem?_pos,go_sem],by simp -dsimp[-getElem?_pos,go_sem];exact kept_refl _ _⟩
 intro m s hs'
 rw[hI]at hs'
 obtain⟨k,w,hk,hm,hw,t0,t1,t5,t11,t12,t13,kp⟩:=hs'
 simp -dsimp -implicitDefEqProofs [-getElem?_pos,go_sem,hP,t12,t13]
 refine condP (fun hq=>?_) (fun hq=>?_)
 ·have hk:k<l.length:=by simpa using hq
  obtain⟨a,ha⟩:∃a,l[k]?=some a:=⟨_,List.getElem?_eq_getElem hk⟩
  have wk:=wrap_in ((k:Int)+1) (by omega)
  obtain⟨ad,h1,h2⟩:=(hsl.kept kp).idx (P:=Tryz.prog) (t:=42) (e:=173) el_42 (by rw[sz_173]) kn_173 k (by rw[encL_len];exact hk)
  have h2':addrCells s.H ad=some [iv a.Security,iv a.Holder,iv a.Amount]:=by
   rw[h2]
   have:=encL_get THolding.cells l k
   rw[ha,List.getElem?_eq_getElem (by rw[encL_len];exact hk)]at this
   exact this
  have hs2:=outH_succ ha id
  have hb:=outH_take ho id (k+1)
  rw[←hw]at hs2
  by_cases e:a.Security=id
  ·rw[if_pos e]at hs2
   have wa:=wrap_in (w+a.Amount) (by omega)
   simp -dsimp -implicitDefEqProofs [-getElem?_pos,go_sem,hP,t13,t11,h1,h2',t1,t5,e,wa,wk]
   refine⟨l.length-(k+1),by omega,?_⟩
   rw[hI]
   exact⟨k+1,_,by omega,rfl,hs2.symm,by simp -dsimp[-getElem?_pos,go_sem,t0],by simp -dsimp[-getElem?_pos,go_sem,t1],by simp -dsimp[-getElem?_pos,go_sem],by simp -dsimp[-getElem?_pos,go_sem,t11],by simp -dsimp[-getElem?_pos,go_sem,t12],by simp -dsimp[-getElem?_pos,go_sem],by simp -dsimp[-getElem?_pos,go_sem];exact kp.trans (kept_app _ _ _)⟩
  ·rw[if_neg e,Int.add_zero]at hs2
   simp -dsimp -implicitDefEqProofs [-getElem?_pos,go_sem,hP,t13,t11,h1,h2',t1,t5,e,wk]
   refine⟨l.length-(k+1),by omega,?_⟩
   rw[hI]
   exact⟨k+1,_,by omega,rfl,hs2.symm,by simp -dsimp[-getElem?_pos,go_sem,t0],by simp -dsimp[-getElem?_pos,go_sem,t1],by simp -dsimp[-getElem?_pos,go_sem,t5],by simp -dsimp[-getElem?_pos,go_sem,t11],by simp -dsimp[-getElem?_pos,go_sem,t12],by simp -dsimp[-getElem?_pos,go_sem],by simp -dsimp[-getElem?_pos,go_sem];exact kp.trans (kept_app _ _ _)⟩
 ·have hk:k=l.length:=by simp at hq;omega
  subst hk
  rw[List.take_length,←hv]at hw
  simp -dsimp -implicitDefEqProofs [-getElem?_pos,go_sem,hP,t5]
  rw[hC]
  exact⟨by rw[hw],kp⟩
open Go.PA
open Go.RowKit
structure Clk (H:Heap) (c hid:Nat) (sx:AV) (l:List THolding) (n d:Int):Prop where
 oc:H[c]?=some (some ⟨183,4,[[sx,.sref hid 0 l.length,iv n,iv d]]⟩)
 oh:H[hid]?=some (some ⟨173,3,encL THolding.cells l⟩)
 ne:c≠hid
theorem Clk.kept {H H':Heap} {c hid:Nat} {sx:AV} {l:List THolding} {n d:Int} (h:Clk H c hid sx l n d) (k:Kept [] H H'):Clk H' c hid sx l n d:=⟨k _ _ (by simp) h.oc,k _ _ (by simp) h.oh,h.ne⟩
theorem Clk.sl {H:Heap} {c hid:Nat} {sx:AV} {l:List THolding} {n d:Int} (h:Clk H c hid sx l n d):SlIs H (.sref hid 0 l.length) 3 (encL THolding.cells l):= .inr (.inr ⟨hid,_,by rw[encL_len],h.oh⟩)
theorem encL_setR {α:Type} (enc:α→List AV):∀(l:List α) (k:Nat) (x:α),(encL enc l).set k (enc x)=encL enc (l.set k x)
 |[],_,_=>rfl
 |_::_,0,_=>rfl
 |y::l,k+1,x=>by
  have:=encL_setR enc l k x
  simp only[encL,List.map_cons,List.set_cons_succ]at*
  rw[this]
def Clk2 (H:Heap) (c hid:Nat) (sx:AV) (l:List THolding) (n d:Int) (H':Heap):Prop:=∃hid',Clk H' c hid' sx l n d∧(∀(x:Nat) (o:AObj),x≠hid→H[x]?=some (some o)→x≠hid')∧Kept [c,hid] H H'
set_option maxHeartbeats 4000000 in
theorem cadd_m {row src:Option Nat} (c hid:Nat) (sx:AV) (n d:Int) (l:List THolding) (id h am:Int) (H:Heap) (hk:Clk H c hid sx l n d) (hsx:sx.cellish=true) (hl:l.length≤10000) (ho:l.Pairwise hR) (hb:∀x,x∈l→0<x.Amount∧x.Amount≤1000000000000) (ham: -1000000000000≤am∧am≤1000000000000) (ha0:am≠0):
  MFun Tryz.prog row src 233 [.ref c 0 0,iv id,iv h,iv am] H (fun _ H'=>Clk2 H c hid sx (addH l id h am) n d H'):=by
 by_cases hz:h=0
 ·have ea:addH l id h am=l:=by rw[addH,if_pos hz]
  rw[ea]
  refine mfun_intro Tryz.func233 rfl (by simp[Tryz.f233]) (by kernel_rfl) (⟨.tup [],H,hid,hk,fun x o hx _=>hx,kept_refl _ _⟩) ?_
  intro E hP hr hs hN
  simp -dsimp -implicitDefEqProofs [-getElem?_pos,go_sem,hP,hz]
  exact⟨hid,hk,fun x o hx _=>hx,kept_refl _ _⟩
 have ea:addH l id h am=setH l id h am:=by rw[addH,if_neg hz]
 rw[ea]
 obtain⟨l',hl'⟩:∃l',l'=setH l id h am:=⟨_,rfl⟩
 rw[←hl']
 obtain⟨C,hC⟩:∃C:AV→Heap→Prop,C=fun _ H'=>Clk2 H c hid sx l' n d H':=⟨_,rfl⟩
 rw[←hC]
 have lc:=(List.getElem?_eq_some_iff.1 hk.oc).1
 have lh:=(List.getElem?_eq_some_iff.1 hk.oh).1
 have ne:=hk.ne
 have ex:∃r H',C r H':=by
  rw[hC]
  refine⟨.tup [],(H.set c (some ⟨183,4,[[sx,.sref hid 0 l'.length,iv n,iv d]]⟩)).set hid (some ⟨173,3,encL THolding.cells l'⟩),hid,⟨?_,?_,ne⟩,fun x o hx _=>hx,?_⟩
  ·rw[List.getElem?_set_ne (fun e=>ne e.symm)]
   simp[lc]
  ·simp[lh]
  ·exact kept_set _ (by simp) (kept_set _ (by simp) (kept_refl _ _))
 obtain⟨k,hkl,hm,hcase⟩:=place_setK (hOk id h) ho
 have pm:=fun {row src:Option Nat}=>gplace_m (row:=row) (src:=src) c sx _ _ _ l id h k H hk.oc hk.sl (by omega) hkl hm
 have wk:=wrap_in ((k:Int)+1) (by omega)
 rcases hcase with⟨x,e1,e2,e3,e4⟩|⟨e1,e3,e4⟩
 ·have hbt:(l[k]?).any (hIs id h)=true:=by rw[e1];exact e2
  have lk:=(gsI e1)
  have bx:=hb x (List.mem_of_getElem? e1)
  have wa:=wrap_in (x.Amount+am) (by omega)
  have e4:l'=if x.Amount+am=0 then l.take k++l.drop (k+1)else l.take k++hMk id h (x.Amount+am)::l.drop (k+1):=by rw[hl'];exact e4 am
  have hx2:=hIs_iff.1 e2
  rw[hbt]at pm
  refine mfun_intro Tryz.func233 rfl (by simp[Tryz.f233]) (by kernel_rfl) (ex) ?_
  intro E hP hr hs hN
  simp -dsimp -implicitDefEqProofs [-getElem?_pos,go_sem,hP,hz]
  refine callB_m (by rw[hr,hs];exact pm) hP en_282 ?_
  rintro r H1 ⟨rfl,kp⟩
  have k1:=hk.kept kp
  have c1:=k1.oc
  have h1:=k1.oh
  have lc1:=(gsI c1)
  have lh1:=(gsI h1)
  obtain⟨y,hy⟩:∃y:THolding,y=⟨x.Security,x.Holder,x.Amount+am⟩:=⟨_,rfl⟩
  have ey:(encL THolding.cells l).set k [iv x.Security,iv x.Holder,iv (x.Amount+am)]=encL THolding.cells (l.set k y):=by rw[←encL_setR,hy,cHol]
  have lk2:(l.set k y)[k]?=some y:=by simp[lk]
  have ne':¬hid=c:=fun e=>ne e.symm
  simp -dsimp -implicitDefEqProofs [-getElem?_pos,go_sem,hP,c1,lc1,h1,lh1,e1,cHol,encL_len,lk,wa,ey,ne,ne']
  have es:l.set k y=l.take k++y::l.drop (k+1):=List.set_eq_take_append_cons_drop.trans (if_pos lk)
  obtain⟨H2,hH2⟩:∃H2,H2=H1.set hid (some ⟨173,3,encL THolding.cells (l.set k y)⟩):=⟨_,rfl⟩
  have k12:Kept [c,hid] H1 H2:=by rw[hH2];exact kept_set _ (by simp) (kept_refl _ _)
  have c2:H2[c]?=some (some ⟨183,4,[[sx,.sref hid 0 l.length,iv n,iv d]]⟩):=by rw[hH2,List.getElem?_set_ne ne'];exact c1
  have h2:H2[hid]?=some (some ⟨173,3,encL THolding.cells (l.set k y)⟩):=by rw[hH2];simp[lh1]
  have hye:y.Amount=x.Amount+am:=by rw[hy]
  rw[←hH2]
  refine condP (fun hq=>?_) (fun hq=>?_)
  ·have hq:y.Amount=0:=by simpa using hq
   have el:l'=l.take k++l.drop (k+1):=by rw[e4,if_pos (by omega)]
   have dm:=fun {row src:Option Nat}=>deleteC_hol (row:=row) (src:=src) (encL THolding.cells (l.set k y)) k hid H2 (by rw[encL_len,List.length_set];exact lk) (by rw[encL_len,List.length_set];omega) h2
   rw[encL_len,List.length_set]at dm
   simp -dsimp -implicitDefEqProofs [-getElem?_pos,go_sem,hP,c2,wk]
   refine callB_m (by rw[hr,hs];exact dm) hP en_284 ?_
   rintro r H3 ⟨jd,rfl,hj,h3,kp3⟩
   have c3:=kp3 _ _ (by simpa using ne) c2
   have lc3:=(gsI c3)
   have nj:c≠jd:=fun e=>by
    have:=hj c _ ne c2
    omega
   simp -dsimp -implicitDefEqProofs [-getElem?_pos,go_sem,hP,c3,lc3,hsx]
   rw[hC]
   refine⟨jd,⟨?_,?_,nj⟩,fun z o hz he=>?_,?_⟩
   ·have:l'.length=l.length-1:=by rw[el];simp;omega
    rw[this]
    simp[lc3]
   ·rw[List.getElem?_set_ne nj,h3,es,el]
    rw[encL_takeE,encL_dropE,encL_appE,←es,List.take_set_of_le (Nat.le_refl _),List.drop_set_of_lt (by omega)]
   ·by_cases hzc:z=c
    ·rw[hzc];exact nj
    ·have:=hj z o hz (k12 z o (by simp[hzc,hz]) (kp z o (by simp) he))
     omega
   ·exact (((kp.mono (by simp)).trans k12).trans (kp3.mono (by simp))).trans (kept_set _ (by simp) (kept_refl _ _))
  ·have hq:¬y.Amount=0:=by simpa using hq
   have el:l'=l.set k y:=by rw[e4,if_neg (by omega),es,hy,hx2.1,hx2.2];rfl
   simp -dsimp -implicitDefEqProofs [-getElem?_pos,go_sem,hP]
   rw[hC,el]
   exact⟨hid,⟨by rw[List.length_set];exact c2,h2,ne⟩,fun z o hz _=>hz,(kp.mono (by simp)).trans k12⟩
 ·have hbt:(l[k]?).any (hIs id h)=false:=by
   cases e:l[k]? with
   |none=>rfl
   |some x=>simpa using e1 x e
  have e4:l'=l.take k++hMk id h am::l.drop k:=by rw[hl',setH,e4 am,if_neg ha0]
  rw[hbt]at pm
  refine mfun_intro Tryz.func233 rfl (by simp[Tryz.f233]) (by kernel_rfl) (ex) ?_
  intro E hP hr hs hN
  simp -dsimp -implicitDefEqProofs [-getElem?_pos,go_sem,hP,hz]
  refine callB_m (by rw[hr,hs];exact pm) hP en_282 ?_
  rintro r H1 ⟨rfl,kp⟩
  have k1:=hk.kept kp
  have c1:=k1.oc
  have h1:=k1.oh
  have lc1:=(gsI c1)
  have lh1:=(gsI h1)
  have im:=fun {row src:Option Nat}=>insert_m_hol (row:=row) (src:=src) (encL THolding.cells l) [iv id,iv h,iv 0] k hid H1 (by rw[encL_len];exact hkl) (by rw[encL_len];omega) h1 (by simp)
  rw[encL_len]at im
  simp -dsimp -implicitDefEqProofs [-getElem?_pos,go_sem,hP,c1,lc1]
  refine callB_m (by rw[hr,hs];exact im) hP en_283 ?_
  rintro r H2 ⟨jd,rfl,hj,h2,kp2⟩
  have c2:=kp2 _ _ (by simpa using ne) c1
  have lc2:=(gsI c2)
  have lh2:=(gsI h2)
  have nj:c≠jd:=by rcases hj with rfl|hj<;>omega
  have nj':¬jd=c:=fun e=>nj e.symm
  obtain⟨y0,hy0⟩:∃y0:THolding,y0=⟨id,h,0⟩:=⟨_,rfl⟩
  obtain⟨y,hy⟩:∃y:THolding,y=⟨id,h,am⟩:=⟨_,rfl⟩
  obtain⟨l1,hl1⟩:∃l1,l1=l.take k++y0::l.drop k:=⟨_,rfl⟩
  have h2':(encL THolding.cells l).take k++[iv id,iv h,iv 0]::(encL THolding.cells l).drop k=encL THolding.cells l1:=by
   rw[encL_takeE,encL_dropE,hl1,←encL_appE,hy0]
   rfl
  rw[h2']at h2
  have ll1:l1.length=l.length+1:=by rw[hl1];simp;omega
  have e1k:l1[k]?=some y0:=by rw[hl1,List.getElem?_append_right (by simp;omega)];simp[Nat.min_eq_left hkl]
  have lk:k<l1.length:=by omega
  have lkl:k<l.length+1:=by omega
  have lki:(k:Int)<(l.length:Int)+1:=by omega
  have lk2:(l1.set k y)[k]?=some y:=by simp[lk]
  have wa:=wrap_in (0+am) (by omega)
  have wa':=wrap_in am (by omega)
  have es1:l1.set k y=l':=by
   rw[e4,hl1,List.set_append_right _ _ (by simp;omega)]
   simp[Nat.min_eq_left hkl,hy]
   rfl
  have ey:(encL THolding.cells l1).set k [iv id,iv h,iv am]=encL THolding.cells (l1.set k y):=by rw[←encL_setR,hy,cHol]
  have c0:y0.cells=[iv id,iv h,iv 0]:=by rw[hy0];rfl
  have cy:y.cells=[iv id,iv h,iv am]:=by rw[hy];rfl
  have hya:¬y.Amount=0:=by rw[hy];exact ha0
  simp -dsimp -implicitDefEqProofs [-getElem?_pos,go_sem,hP,c2,lc2,hsx,h2,lh2,e1k,c0,encL_len,lk,lkl,lki,ll1,wa,wa',ey,nj,nj',lk2,cy,ha0]
  obtain⟨H3,hH3⟩:∃H3,H3=(H2.set c (some ⟨183,4,[[sx,.sref jd 0 (l.length+1),iv n,iv d]]⟩)).set jd (some ⟨173,3,encL THolding.cells (l1.set k y)⟩):=⟨_,rfl⟩
  rw[←hH3]
  rw[hC,←es1,hH3]
  have lset:(l1.set k y).length=l.length+1:=by simp[ll1]
  refine⟨jd,⟨?_,?_,nj⟩,fun z o hz he=>?_,?_⟩
  ·rw[lset]
   simp[nj',lc2]
  ·simp[lh2]
  ·rcases hj with rfl|hj
   ·exact hz
   ·have:=(List.getElem?_eq_some_iff.1 (kp z o (by simp) he)).1
    omega
  ·intro z o hz he
   have h2z:=kp2 z o (by simp at hz;simp[hz]) (kp z o (by simp) he)
   have n1:jd≠z:=fun e=>by
    rcases hj with rfl|hj
    ·simp[e]at hz
    ·have:=(List.getElem?_eq_some_iff.1 (kp z o (by simp) he)).1
     omega
   have n2:c≠z:=fun e=>by simp[e]at hz
   rw[List.getElem?_set_ne n1,List.getElem?_set_ne n2]
   exact h2z
open Go.PA
open Go.RowKit
theorem index_pf_sec (l:List TSecurity) (g:FuncId) (caps:List AV) (p:TSecurity→Bool) (hl:l.length≤1000000) (hen:enterable Tryz.prog g=true) (hcap:∀a,a∈caps→Imm a)
  (hg:∀a,a∈l→PFun Tryz.prog none none g (.agg (TSecurity.cells a)::caps) (·=bv (p a))):
  PFun Tryz.prog none none 279 [.list 7 (encL TSecurity.cells l),.fn g caps] (·=iv (idxI p l)):=by
 refine pfun_intro Tryz.func279 rfl (by simp[Tryz.f279]) (by kernel_rfl) ?_
 intro E hP hr hs hW hN
 simp -dsimp -implicitDefEqProofs [-getElem?_pos,go_sem,hP]
 obtain⟨I,hI⟩:∃I:Nat→St→Prop,I=fun m s=>∃k:Nat,k≤l.length∧m=l.length-k∧idxI p l=idxFrom p k (l.drop k)∧s.t 0= .list 7 (encL TSecurity.cells l)∧s.t 1= .fn g caps∧s.t 7=iv l.length∧s.t 8=iv k:=⟨_,rfl⟩
 refine aloop0 I (l.length) (by rw[hN];rfl) ?_ ?_
 ·rw[hI]
  exact⟨0,by omega,by omega,by simp[idxI],by simp -dsimp[-getElem?_pos,go_sem],by simp -dsimp[-getElem?_pos,go_sem],by simp -dsimp[-getElem?_pos,go_sem],by simp -dsimp[-getElem?_pos,go_sem]⟩
 intro m s hs'
 rw[hI]at hs'
 obtain⟨k,hk,hm,hi,t0,t1,t7,t8⟩:=hs'
 simp -dsimp -implicitDefEqProofs [-getElem?_pos,go_sem,hP,t7,t8]
 refine condP (fun h=>?_) (fun h=>?_)
 ·have hk:k<l.length:=by simpa using h
  obtain⟨a,ha⟩:∃a,l[k]?=some a:=⟨_,List.getElem?_eq_getElem hk⟩
  have wk:=wrap_in ((k:Int)+1) (by omega)
  have hz:(TSecurity.cells a).take 7=TSecurity.cells a:=List.take_of_length_le (by rw[TSecurity.len];omega)
  have hd:l.drop k=a::l.drop (k+1):=by
   rw[List.getElem?_eq_getElem hk]at ha
   rw[List.drop_eq_getElem_cons hk,Option.some.inj ha]
  simp -dsimp -implicitDefEqProofs [-getElem?_pos,go_sem,hP,t8,t1,t0,ha,TSecurity.len,hz]
  refine callB_is ((hg a (List.mem_of_getElem? ha)).lift _ _) hP hen (fun x hx=>?_) .sc ?_
  ·rcases List.mem_cons.1 hx with rfl|hx
   ·exact imm_agg.2 (TSecurity.imm a)
   ·exact hcap x hx
  rw[hd]at hi
  simp only[idxFrom]at hi
  simp -dsimp -implicitDefEqProofs [-getElem?_pos,go_sem,hP]
  refine condP (fun hp=>?_) (fun hp=>?_)
  ·rw[if_pos hp]at hi
   simp -dsimp -implicitDefEqProofs [-getElem?_pos,go_sem,hP]
   exact hi.symm
  ·rw[hp,if_neg (by simp)]at hi
   simp -dsimp -implicitDefEqProofs [-getElem?_pos,go_sem,hP,t8,wk]
   refine⟨l.length-(k+1),by omega,?_⟩
   rw[hI]
   exact⟨k+1,by omega,rfl,hi,by simp -dsimp[-getElem?_pos,go_sem,t0],by simp -dsimp[-getElem?_pos,go_sem,t1],by simp -dsimp[-getElem?_pos,go_sem,t7],by simp -dsimp[-getElem?_pos,go_sem]⟩
 ·have hk:k=l.length:=by simp at h;omega
  subst hk
  rw[List.drop_length]at hi
  simp -dsimp -implicitDefEqProofs [-getElem?_pos,go_sem,hP]
  exact hi.symm
theorem gfind1_pf (x:TSecurity) (id:Int):PFun Tryz.prog none none 280 [.agg x.cells,.iref [iv id]] (·=bv (decide (x.ID=id))):=by
 refine pfun_intro Tryz.func280 rfl (by simp[Tryz.f280]) (by kernel_rfl) ?_
 intro E hP hr hs hW hN
 simp -dsimp -implicitDefEqProofs [-getElem?_pos,go_sem,hP,cSec]
def zSec:TSecurity:=⟨0,0,0,0,0,0,false⟩
def findR (l:List TSecurity) (id:Int):TSecurity×Bool:=match findS l id with
 |some s=>(s,true)
 |none=>(zSec,false)
theorem find_idx {α:Type} (p:α→Bool) (l:List α):(idxI p l= -1∧l.find? p=none)∨∃(i:Nat) (a:α),l[i]?=some a∧idxI p l=(i:Int)∧l.find? p=some a:=by
 rcases idxI_spec p l with⟨h1,h2⟩|⟨i,a,h1,h2,h3,h4⟩
 ·exact .inl ⟨h1,List.find?_eq_none.2 fun x hx=>by simp[h2 x hx]⟩
 ·refine .inr ⟨i,a,h1,h3,?_⟩
  rw[List.find?_eq_some_iff_getElem]
  have hi:=(gsI h1)
  refine⟨h2,i,hi,(List.getElem?_eq_some_iff.1 h1).2,fun j hj=>?_⟩
  rw[h4 j l[j] hj (List.getElem?_eq_getElem (by omega))]
  rfl
theorem gfind_pf (l:List TSecurity) (id:Int) (hl:l.length≤100000):PFun Tryz.prog none none 229 [secsL l,iv id] (·= .tup [.agg (findR l id).1.cells,bv (findR l id).2]):=by
 have il:=imm_secs l
 refine pfun_intro Tryz.func229 rfl (by simp[Tryz.f229]) (by kernel_rfl) ?_
 intro E hP hr hs hW hN
 simp -dsimp -implicitDefEqProofs [-getElem?_pos,go_sem,hP]
 refine callB_pure (index_pf_sec l 280 [.iref [iv id]] (fun x=>decide (x.ID=id)) (by omega) en_280 (by simp[imm_iref,imm_sc]) fun x _=>gfind1_pf x id) hP en_279 (args_imm il (args_fnc (cs:=[.ref 0 0 0]) (by simp -dsimp[-getElem?_pos,go_sem,viewR_ref]) (by simp[imm_iref,imm_sc]) (args_nil.2 trivial))) .sc ?_
 rcases find_idx (fun x:TSecurity=>decide (x.ID=id)) l with⟨h1,h2⟩|⟨i,a,h1,h2,h3⟩
 ·have e:findR l id=(zSec,false):=by rw[findR,findS,h2]
  simp -dsimp -implicitDefEqProofs [-getElem?_pos,go_sem,hP,h1]
  exact done_imm (imm_pair (show Imm (.agg zSec.cells)from imm_sec _) .sc) (by rw[e];rfl)
 ·have e:findR l id=(a,true):=by rw[findR,findS,h3]
  have d:decide ((i:Int)<0)=false:=decide_eq_false (by omega)
  have li:=(gsI h1)
  simp -dsimp -implicitDefEqProofs [-getElem?_pos,go_sem,hP,h2,d,h1,cSec,li]
  exact done_imm (imm_pair (by rw[←cSec];exact imm_sec _) .sc) (by rw[e];rfl)
theorem gstrange_pf (m:TMove):PFun Tryz.prog none none 230 [.agg m.cells] (·=bv (strangeB m)):=by
 refine pfun_intro Tryz.func230 rfl (by simp[Tryz.f230]) (by kernel_rfl) ?_
 intro E hP hr hs hW hN
 simp -dsimp -implicitDefEqProofs [-getElem?_pos,go_sem,hP,cMov]
 refine adrawB (fun _=>true) [] hP (by kernel_rfl) (by kernel_rfl) ?_
 simp -dsimp -implicitDefEqProofs [-getElem?_pos,go_sem,hP]
 refine callB_pure (gholder_pf m.From) hP en_281 (args_same (by simp -dsimp[-getElem?_pos,go_sem])) .sc ?_
 simp -dsimp -implicitDefEqProofs [-getElem?_pos,go_sem,hP]
 refine callB_pure (gholder_pf m.To) hP en_281 (args_same (by simp -dsimp[-getElem?_pos,go_sem])) .sc ?_
 by_cases k1:m.Kind=1
 ·by_cases f:m.From=0<;>cases h:holderB m.To<;>simp -dsimp -implicitDefEqProofs [-getElem?_pos,go_sem,hP,k1,f,h,strangeB]
 ·by_cases k2:m.Kind=2
  ·cases h1:holderB m.From<;>cases h2:holderB m.To<;>by_cases f:m.From=m.To<;>simp -dsimp -implicitDefEqProofs [-getElem?_pos,go_sem,hP,k1,k2,f,h1,h2,strangeB]
  ·by_cases f:m.To=0<;>cases h:holderB m.From<;>simp -dsimp -implicitDefEqProofs [-getElem?_pos,go_sem,hP,k1,k2,f,h,strangeB]
open Go.PA
open Go.RowKit
def DoneC (secs:List TSecurity) (l:List THolding) (n d:Int) (m:TMove) (H:Heap) (c hid:Nat) (r:AV) (H':Heap):Prop:=
 r=iv (moveE secs l d m)∧(moveE secs l d m≠0→Kept [] H H')∧(moveE secs l d m=0→∃hid',Clk H' c hid' (secsL secs) (goH l m) (n+1) m.Day∧(∀(x:Nat) (o:AObj),x≠hid→H[x]?=some (some o)→x≠hid')∧Kept [c,hid] H H')
theorem clk_ex {H:Heap} {c hid:Nat} {sx:AV} {l:List THolding} {n d:Int} (hk:Clk H c hid sx l n d) (l':List THolding) (n' d':Int):∃H',Clk H' c hid sx l' n' d'∧Kept [c,hid] H H':=by
 have lc:=(List.getElem?_eq_some_iff.1 hk.oc).1
 have lh:=(List.getElem?_eq_some_iff.1 hk.oh).1
 have ne:=hk.ne
 refine⟨(H.set c (some ⟨183,4,[[sx,.sref hid 0 l'.length,iv n',iv d']]⟩)).set hid (some ⟨173,3,encL THolding.cells l'⟩),⟨?_,?_,ne⟩,?_⟩
 ·rw[List.getElem?_set_ne (fun e=>ne e.symm)]
  simp[lc]
 ·simp[lh]
 ·exact kept_set _ (by simp) (kept_set _ (by simp) (kept_refl _ _))
theorem agree_p {H H':Heap} {p:Nat} {o:AObj} (k:Kept [] H H') (h:H[p]?=some (some o)):Agree (fun i=>decide (i=p)) H H':=fun i hi=>by
 have:=of_decide_eq_true hi
 subst this
 rw[h,k _ _ (by simp) h]
theorem agree_ps {H:Heap} {p c:Nat} {o:Option AObj} (h:¬p=c):Agree (fun i=>decide (i=p)) H (H.set c o):=fun i hi=>by
 have:=of_decide_eq_true hi
 subst this
 rw[List.getElem?_set_ne (fun e=>h e.symm)]
theorem agree_ps2 {H:Heap} {p c:Nat} {o o':Option AObj} (h:¬p=c):Agree (fun i=>decide (i=p)) (H.set c o) (H.set c o'):=fun i hi=>by
 have:=of_decide_eq_true hi
 subst this
 rw[List.getElem?_set_ne (fun e=>h e.symm),List.getElem?_set_ne (fun e=>h e.symm)]
theorem clk2_pre {H0 H H':Heap} {c hid:Nat} {sx:AV} {l l':List THolding} {n d n' d':Int} (k:Kept [] H0 H) (hk:Clk H0 c hid sx l n d) (h:Clk2 H c hid sx l' n' d' H'):Clk2 H0 c hid sx l' n' d' H':=by
 obtain⟨hid',h1,h2,h3⟩:=h
 exact⟨hid',h1,fun x o hx he=>h2 x o hx (k x o (by simp) he),(k.mono (by simp)).trans h3⟩
theorem clk2_comp {H H' H'':Heap} {c hid:Nat} {sx:AV} {l1 l2:List THolding} {n d:Int} (h:Clk2 H c hid sx l1 n d H') (hid1:Nat) (hk:Clk H' c hid1 sx l1 n d) (hp:∀(x:Nat) (o:AObj),x≠hid→H[x]?=some (some o)→x≠hid1) (h2:Clk2 H' c hid1 sx l2 n d H''):Clk2 H c hid sx l2 n d H'':=by
 obtain⟨_,_,_,kp⟩:=h
 obtain⟨hid2,g1,g2,g3⟩:=h2
 refine⟨hid2,g1,fun x o hx he=>?_,fun x o hx he=>?_⟩
 ·by_cases hc:x=c
  ·rw[hc];exact g1.ne
  ·exact g2 x o (hp x o hx he) (kp x o (by simp[hc,hx]) he)
 ·have hx':¬x=c∧¬x=hid:=by simpa using hx
  exact g3 x o (by simp[hx'.1,hp x o hx'.2 he]) (kp x o hx he)
theorem clk2_end {secs:List TSecurity} {l:List THolding} {n d:Int} {m:TMove} {H H5:Heap} {c hid hid5:Nat} (cl:Clk2 H c hid (secsL secs) (goH l m) n d H5) (hk:Clk H5 c hid5 (secsL secs) (goH l m) n d) (e0:moveE secs l d m=0):
  DoneC secs l n d m H c hid (iv 0) (H5.set c (some ⟨183,4,[[secsL secs,.sref hid5 0 (goH l m).length,iv (n+1),iv m.Day]]⟩)):=by
 obtain⟨hid',h1,h2,h3⟩:=cl
 have lc:=(List.getElem?_eq_some_iff.1 h1.oc).1
 have e:hid'=hid5:=by
  have:=h1.oc.symm.trans hk.oc
  simpa using this
 subst e
 refine⟨by rw[e0],fun e=>absurd e0 e,fun _=>⟨hid',⟨by simp[lc],by rw[List.getElem?_set_ne h1.ne];exact h1.oh,h1.ne⟩,h2,h3.trans (kept_set _ (by simp) (kept_refl _ _))⟩⟩
set_option maxHeartbeats 4000000 in
theorem do_m {row src:Option Nat} (c hid:Nat) (secs:List TSecurity) (l:List THolding) (n d:Int) (m:TMove) (N:Nat) (H:Heap) (hk:Clk H c hid (secsL secs) l n d) (hl:l.length≤5000) (hsl:secs.length≤1000) (hso:∀s,s∈secs→secB s=true) (ho:HoldOk l N) (hn:0≤n∧n≤1000000):
  MFun Tryz.prog row src 162 [.ref c 0 0,.agg m.cells] H (DoneC secs l n d m H c hid):=by
 obtain⟨C,hC⟩:∃C:AV→Heap→Prop,C=DoneC secs l n d m H c hid:=⟨_,rfl⟩
 rw[←hC]
 have ex:∃r H',C r H':=by
  rw[hC]
  by_cases h0:moveE secs l d m=0
  ·obtain⟨H',h1,h2⟩:=clk_ex hk (goH l m) (n+1) m.Day
   exact⟨_,H',rfl,fun e=>absurd h0 e,fun _=>⟨hid,h1,fun x o hx _=>hx,h2⟩⟩
  ·exact⟨_,H,rfl,fun _=>kept_refl _ _,fun e=>absurd e h0⟩
 refine mfun_intro Tryz.func162 rfl (by simp[Tryz.f162]) (by kernel_rfl) (ex) ?_
 intro E hP hr hs hN
 simp -dsimp -implicitDefEqProofs [-getElem?_pos,go_sem,hP,cMov]
 obtain⟨H1,hH1⟩:∃H1:Heap,H1=H++[some ⟨70,7,[[iv m.Number,iv m.Day,iv m.Kind,iv m.Security,iv m.From,iv m.To,iv m.Amount]]⟩]:=⟨_,rfl⟩
 have k1:Kept [] H H1:=by rw[hH1];exact kept_app _ _ _
 have a1:H1[H.length]?=some (some ⟨70,7,[[iv m.Number,iv m.Day,iv m.Kind,iv m.Security,iv m.From,iv m.To,iv m.Amount]]⟩):=by rw[hH1];simp
 have c1:=(hk.kept k1).oc
 have lt1:=(gsI a1)
 have lc1:=(gsI c1)
 simp only[←hH1]
 obtain⟨p,hp⟩:∃p,p=H.length:=⟨_,rfl⟩
 rw[←hp]at a1 lt1
 simp only[←hp]
 have hk1:=hk.kept k1
 have npc:¬p=c:=fun e=>by
  have:=(List.getElem?_eq_some_iff.1 hk.oc).1
  omega
 have npc':¬c=p:=fun e=>npc e.symm
 have am:amax [iv d,iv (findR secs m.Security).1.Issued]=some (iv (max d (findR secs m.Security).1.Issued)):=by simp[amax,amaxFrom]
 have gf:=gfind_pf secs m.Security (by omega)
 refine adrawQ (fun i=>decide (i<H1.length)) [11] [6] hP (by kernel_rfl) (by kernel_rfl) ?_
 simp -dsimp -implicitDefEqProofs [-getElem?_pos,go_sem,hP,restr_get,c1,a1,lt1,lc1]
 cases hf:findS secs m.Security with
 |none=>
  have e0:moveE secs l d m=76:=by rw[moveE,hf]
  have ef:findR secs m.Security=(zSec,false):=by rw[findR,hf]
  rw[ef]at gf
  refine callQ_is (gf.lift _ _) hP en_229 (by simp[imm_secs,imm_sc]) (imm_pair (show Imm (.agg zSec.cells)from imm_sec _) .sc) ?_
  simp -dsimp -implicitDefEqProofs [-getElem?_pos,go_sem,hP,cSec]
  refine⟨agree_push (Nat.le_refl _),?_⟩
  by_cases k3:m.Kind=3
  all_goals
   simp -dsimp -implicitDefEqProofs [-getElem?_pos,go_sem,hP,a1,lt1,k3,List.getElem?_append]
   rw[hC]
   exact⟨by rw[e0],fun _=>k1.trans (kept_app _ _ _),fun e=>by rw[e0]at e;cases e⟩
 |some s=>
  have ef:findR secs m.Security=(s,true):=by rw[findR,hf]
  rw[ef]at gf am
  refine callQ_is (gf.lift _ _) hP en_229 (by simp[imm_secs,imm_sc]) (imm_pair (imm_sec _) .sc) ?_
  have so:=secOk (hso s (List.mem_of_find?_eq_some hf))
  simp -dsimp -implicitDefEqProofs [-getElem?_pos,go_sem,hP,cSec]
  refine⟨agree_push (Nat.le_refl _),?_⟩
  obtain⟨H2,hH2⟩:∃H2:Heap,H2=H1++[some ⟨89,7,[[iv s.ID,iv s.Unit,iv s.Issued,iv s.Maturity,iv s.Rate,iv s.Every,bv s.Indexed]]⟩]:=⟨_,rfl⟩
  have k2:Kept [] H H2:=k1.trans (by rw[hH2];exact kept_app _ _ _)
  have k12:Kept [] H1 H2:=by rw[hH2];exact kept_app _ _ _
  obtain⟨q,hq⟩:∃q,q=H1.length:=⟨_,rfl⟩
  have b2:H2[q]?=some (some ⟨89,7,[[iv s.ID,iv s.Unit,iv s.Issued,iv s.Maturity,iv s.Rate,iv s.Every,bv s.Indexed]]⟩):=by rw[hH2,hq];simp
  rw[←hH2,←hq]
  have a2:=k12 _ _ (by simp) a1
  have hk2:=hk1.kept k12
  have c2:=hk2.oc
  have lp2:=(gsI a2)
  have lq2:=(gsI b2)
  have lc2:=(gsI c2)
  dsimp only at am
  have gs:=gstrange_pf m
  rw[cMov]at gs
  have hm:=fun {row src:Option Nat}=>held_m (row:=row) (src:=src) c _ _ _ _ l m.Security m.From H2 c2 hk2.sl (by omega) ho.srt
  have om:=fun {row src:Option Nat}=>outst_m (row:=row) (src:=src) c _ _ _ _ l N m.Security H2 c2 hk2.sl (by omega) ho
  have nph:¬p=hid:=fun e=>by
   have:=(List.getElem?_eq_some_iff.1 hk.oh).1
   omega
  by_cases k3:m.Kind=3
  ·by_cases cday:max d s.Issued≤m.Day∧m.Day≤if m.Kind=3 then 36000 else s.Maturity
   rotate_left
   ·have e0:moveE secs l d m=8:=by rw[moveE,hf];dsimp only;rw[if_pos (by simpa using cday)]
    have hb:bet m.Day (max d s.Issued) (36000)=false:=bet_no (by rw[if_pos k3]at cday;exact cday)
    simp -dsimp -implicitDefEqProofs [-getElem?_pos,go_sem,hP,a2,b2,c2,lp2,lq2,lc2,k3,am]
    refine adrawB (fun _=>true) [] hP (by kernel_rfl) (by kernel_rfl) ?_
    simp -dsimp -implicitDefEqProofs [-getElem?_pos,go_sem,hP,a2,b2,c2,lp2,lq2,lc2,k3,am]
    refine callB_pure (gamong_pf m.Day (max d s.Issued) (36000)) hP en_104 (args_same (by simp -dsimp[-getElem?_pos,go_sem])) .sc ?_
    simp -dsimp -implicitDefEqProofs [-getElem?_pos,go_sem,hP,hb]
    rw[hC]
    exact⟨by rw[e0],fun _=>k2,fun e=>by rw[e0]at e;cases e⟩
   have hb:bet m.Day (max d s.Issued) (36000)=true:=bet_yes (by rw[if_pos k3]at cday;exact cday)
   simp -dsimp -implicitDefEqProofs [-getElem?_pos,go_sem,hP,a2,b2,c2,lp2,lq2,lc2,k3,am]
   refine adrawB (fun _=>true) [] hP (by kernel_rfl) (by kernel_rfl) ?_
   simp -dsimp -implicitDefEqProofs [-getElem?_pos,go_sem,hP,a2,b2,c2,lp2,lq2,lc2,k3,am]
   refine callB_pure (gamong_pf m.Day (max d s.Issued) (36000)) hP en_104 (args_same (by simp -dsimp[-getElem?_pos,go_sem])) .sc ?_
   by_cases a0:m.Amount≤0
   ·have e0:moveE secs l d m=79:=by rw[moveE,hf];dsimp only;rw[if_neg (by simpa using cday),if_pos (.inl a0)]
    have d0:decide (m.Amount≤0)=true:=decide_eq_true a0
    simp -dsimp -implicitDefEqProofs [-getElem?_pos,go_sem,hP,hb,a2,b2,lp2,lq2,d0]
    rw[hC]
    exact⟨by rw[e0],fun _=>k2,fun e=>by rw[e0]at e;cases e⟩
   have d0:decide (m.Amount≤0)=false:=decide_eq_false a0
   simp -dsimp -implicitDefEqProofs [-getElem?_pos,go_sem,hP,hb,a2,b2,lp2,lq2,d0]
   refine callB_pure (gvalid_pf m.Amount) hP en_50 (args_same (by simp -dsimp[-getElem?_pos,go_sem])) .sc ?_
   by_cases a9:1000000000000<m.Amount
   ·have e0:moveE secs l d m=79:=by rw[moveE,hf];dsimp only;rw[if_neg (by simpa using cday),if_pos (.inr (.inl a9))]
    have hv:bet m.Amount 0 1000000000000=false:=bet_no (by omega)
    simp -dsimp -implicitDefEqProofs [-getElem?_pos,go_sem,hP,hv]
    rw[hC]
    exact⟨by rw[e0],fun _=>k2,fun e=>by rw[e0]at e;cases e⟩
   have hv:bet m.Amount 0 1000000000000=true:=bet_yes (by omega)
   have ht:m.Amount.tmod s.Unit=m.Amount%s.Unit:=Int.tmod_eq_emod_of_nonneg (by omega)
   have u0:¬s.Unit=0:=by have:=so.unit;omega
   by_cases am0:m.Amount%s.Unit=0
   rotate_left
   ·have e0:moveE secs l d m=79:=by rw[moveE,hf];dsimp only;rw[if_neg (by simpa using cday),if_pos (.inr (.inr am0))]
    simp -dsimp -implicitDefEqProofs [-getElem?_pos,go_sem,hP,hv,a2,b2,lp2,lq2,ht,u0,am0]
    rw[hC]
    exact⟨by rw[e0],fun _=>k2,fun e=>by rw[e0]at e;cases e⟩
   simp -dsimp -implicitDefEqProofs [-getElem?_pos,go_sem,hP,hv,a2,b2,lp2,lq2,ht,u0,am0]
   refine callB_pure gs hP en_230 (args_same (by simp -dsimp[-getElem?_pos,go_sem])) .sc ?_
   cases cs:strangeB m with
   |true=>
    have e0:moveE secs l d m=6:=by rw[moveE,hf];dsimp only;rw[if_neg (by simpa using cday),if_neg (by omega),if_pos cs]
    simp -dsimp -implicitDefEqProofs [-getElem?_pos,go_sem,hP]
    rw[hC]
    exact⟨by rw[e0],fun _=>k2,fun e=>by rw[e0]at e;cases e⟩
   |false=>
    simp -dsimp -implicitDefEqProofs [-getElem?_pos,go_sem,hP]
    refine adrawB (fun i=>decide (i=p)) [] hP (by kernel_rfl) (by kernel_rfl) ?_
    by_cases f0:m.From=0
    ·simp -dsimp -implicitDefEqProofs [-getElem?_pos,go_sem,hP,restr_get,a2,lp2,f0]
     refine adrawB (fun i=>decide (i=p)) [] hP (by kernel_rfl) (by kernel_rfl) ?_
     simp -dsimp -implicitDefEqProofs [-getElem?_pos,go_sem,hP,restr_get,a2,lp2,f0]
     refine callB_m (by rw[hr,hs];exact om) hP en_232 ?_
     rintro r H3 ⟨rfl,kp3⟩
     have a3:=kp3 _ _ (by simp) a2
     have hk3:=hk2.kept kp3
     have k3':Kept [] H H3:=k2.trans kp3
     have lp3:=(gsI a3)
     have ho3:=outH_take ho m.Security l.length
     rw[List.take_length]at ho3
     have wo:=wrap_in (outH l m.Security+m.Amount) (by omega)
     by_cases o9:1000000000000<outH l m.Security+m.Amount
     ·have e0:moveE secs l d m=2:=by rw[moveE,hf];dsimp only;rw[if_neg (by simpa using cday),if_neg (by omega),if_neg (by simp[cs]),if_neg (fun e=>e.1 f0),if_pos ⟨f0,o9⟩]
      have d9:decide (1000000000000<outH l m.Security+m.Amount)=true:=decide_eq_true o9
      simp -dsimp -implicitDefEqProofs [-getElem?_pos,go_sem,hP]
      refine⟨agree_p kp3 a2,?_⟩
      simp -dsimp -implicitDefEqProofs [-getElem?_pos,go_sem,hP,restr_get,a3,lp3,wo,d9]
      rw[hC]
      exact⟨by rw[e0],fun _=>k3',fun e=>by rw[e0]at e;cases e⟩
     have d9:decide (1000000000000<outH l m.Security+m.Amount)=false:=decide_eq_false o9
     simp -dsimp -implicitDefEqProofs [-getElem?_pos,go_sem,hP]
     refine⟨agree_p kp3 a2,?_⟩
     simp -dsimp -implicitDefEqProofs [-getElem?_pos,go_sem,hP,restr_get,a3,lp3,wo,d9]
     have mok:MoveOk secs l d m s:=⟨hf,cday,⟨by omega,by omega,am0⟩,cs,fun e=>by first|exact absurd f0 e|omega,fun e=>by first|exact absurd e f0|omega⟩
     have e0:=moveE_zero mok
     have ho1:=goH1_ok ho mok
     have wn:=wrap_in (-m.Amount) (by omega)
     have ad1:=fun {row src:Option Nat}=>cadd_m (row:=row) (src:=src) c hid (secsL secs) n d l m.Security m.From (-m.Amount) H3 hk3 rfl (by omega) ho.srt (fun x hx=>ho.am hx) (by omega) (by omega)
     simp -dsimp -implicitDefEqProofs [-getElem?_pos,go_sem,hP,a3,lp3,wn]
     refine callB_m (by rw[hr,hs];exact ad1) hP en_233 ?_
     rintro _ H4 c24
     obtain⟨hid4,hk4,pr4,kp4⟩:=c24
     have a4:=kp4 _ _ (by simpa using⟨npc,nph⟩) a3
     have lp4:=(gsI a4)
     have ad2:=fun {row src:Option Nat}=>cadd_m (row:=row) (src:=src) c hid4 (secsL secs) n d (addH l m.Security m.From (-m.Amount)) m.Security m.To m.Amount H4 hk4 rfl (by have:=ho1.2;omega) ho1.1.srt (fun x hx=>ho1.1.am hx) (by omega) (by omega)
     simp -dsimp -implicitDefEqProofs [-getElem?_pos,go_sem,hP,a4,lp4]
     refine callB_m (by rw[hr,hs];exact ad2) hP en_233 ?_
     rintro _ H5 c25
     have cl5:Clk2 H c hid (secsL secs) (goH l m) n d H5:=clk2_comp (clk2_pre k3' hk ⟨hid4,hk4,pr4,kp4⟩) hid4 hk4 (fun x o hx he=>pr4 x o hx (k3' x o (by simp) he)) c25
     obtain⟨hid5,hk5,pr5,kp5⟩:=c25
     have a5:=kp5 _ _ (by simpa using⟨npc,pr4 p _ nph a3⟩) a4
     have lp5:=(gsI a5)
     have c5:=hk5.oc
     have lc5:=(gsI c5)
     have wn1:=wrap_in (n+1) (by omega)
     simp -dsimp -implicitDefEqProofs [-getElem?_pos,go_sem,hP]
     refine adrawB (fun i=>decide (i=p)) [3,4,5,9,10,12,13] hP (by kernel_rfl) (by kernel_rfl) ?_
     simp -dsimp -implicitDefEqProofs [-getElem?_pos,go_sem,hP,restr_get,a5,lp5,c5,lc5,npc,npc',wn1]
     refine⟨agree_ps npc,agree_ps2 npc,?_⟩
     rw[hC]
     exact clk2_end cl5 hk5 e0
    ·simp -dsimp -implicitDefEqProofs [-getElem?_pos,go_sem,hP,restr_get,a2,lp2,f0]
     refine callB_m (by rw[hr,hs];exact hm) hP en_231 ?_
     rintro r H3 ⟨rfl,kp3⟩
     have a3:=kp3 _ _ (by simp) a2
     have hk3:=hk2.kept kp3
     have k3':Kept [] H H3:=k2.trans kp3
     have lp3:=(gsI a3)
     by_cases o9:heldH l m.Security m.From<m.Amount
     ·have e0:moveE secs l d m=77:=by rw[moveE,hf];dsimp only;rw[if_neg (by simpa using cday),if_neg (by omega),if_neg (by simp[cs]),if_pos ⟨f0,o9⟩]
      have d9:decide (heldH l m.Security m.From<m.Amount)=true:=decide_eq_true o9
      simp -dsimp -implicitDefEqProofs [-getElem?_pos,go_sem,hP]
      refine⟨agree_p kp3 a2,?_⟩
      simp -dsimp -implicitDefEqProofs [-getElem?_pos,go_sem,hP,restr_get,a3,lp3,d9]
      rw[hC]
      exact⟨by rw[e0],fun _=>k3',fun e=>by rw[e0]at e;cases e⟩
     have d9:decide (heldH l m.Security m.From<m.Amount)=false:=decide_eq_false o9
     simp -dsimp -implicitDefEqProofs [-getElem?_pos,go_sem,hP]
     refine⟨agree_p kp3 a2,?_⟩
     simp -dsimp -implicitDefEqProofs [-getElem?_pos,go_sem,hP,restr_get,a3,lp3,d9]
     refine adrawB (fun i=>decide (i=p)) [] hP (by kernel_rfl) (by kernel_rfl) ?_
     simp -dsimp -implicitDefEqProofs [-getElem?_pos,go_sem,hP,restr_get,a3,lp3,f0]
     have mok:MoveOk secs l d m s:=⟨hf,cday,⟨by omega,by omega,am0⟩,cs,fun e=>by first|exact absurd f0 e|omega,fun e=>by first|exact absurd e f0|omega⟩
     have e0:=moveE_zero mok
     have ho1:=goH1_ok ho mok
     have wn:=wrap_in (-m.Amount) (by omega)
     have ad1:=fun {row src:Option Nat}=>cadd_m (row:=row) (src:=src) c hid (secsL secs) n d l m.Security m.From (-m.Amount) H3 hk3 rfl (by omega) ho.srt (fun x hx=>ho.am hx) (by omega) (by omega)
     simp -dsimp -implicitDefEqProofs [-getElem?_pos,go_sem,hP,a3,lp3,wn]
     refine callB_m (by rw[hr,hs];exact ad1) hP en_233 ?_
     rintro _ H4 c24
     obtain⟨hid4,hk4,pr4,kp4⟩:=c24
     have a4:=kp4 _ _ (by simpa using⟨npc,nph⟩) a3
     have lp4:=(gsI a4)
     have ad2:=fun {row src:Option Nat}=>cadd_m (row:=row) (src:=src) c hid4 (secsL secs) n d (addH l m.Security m.From (-m.Amount)) m.Security m.To m.Amount H4 hk4 rfl (by have:=ho1.2;omega) ho1.1.srt (fun x hx=>ho1.1.am hx) (by omega) (by omega)
     simp -dsimp -implicitDefEqProofs [-getElem?_pos,go_sem,hP,a4,lp4]
     refine callB_m (by rw[hr,hs];exact ad2) hP en_233 ?_
     rintro _ H5 c25
     have cl5:Clk2 H c hid (secsL secs) (goH l m) n d H5:=clk2_comp (clk2_pre k3' hk ⟨hid4,hk4,pr4,kp4⟩) hid4 hk4 (fun x o hx he=>pr4 x o hx (k3' x o (by simp) he)) c25
     obtain⟨hid5,hk5,pr5,kp5⟩:=c25
     have a5:=kp5 _ _ (by simpa using⟨npc,pr4 p _ nph a3⟩) a4
     have lp5:=(gsI a5)
     have c5:=hk5.oc
     have lc5:=(gsI c5)
     have wn1:=wrap_in (n+1) (by omega)
     simp -dsimp -implicitDefEqProofs [-getElem?_pos,go_sem,hP]
     refine adrawB (fun i=>decide (i=p)) [3,4,5,9,10,12,13] hP (by kernel_rfl) (by kernel_rfl) ?_
     simp -dsimp -implicitDefEqProofs [-getElem?_pos,go_sem,hP,restr_get,a5,lp5,c5,lc5,npc,npc',wn1]
     refine⟨agree_ps npc,agree_ps2 npc,?_⟩
     rw[hC]
     exact clk2_end cl5 hk5 e0
  ·by_cases cday:max d s.Issued≤m.Day∧m.Day≤if m.Kind=3 then 36000 else s.Maturity
   rotate_left
   ·have e0:moveE secs l d m=8:=by rw[moveE,hf];dsimp only;rw[if_pos (by simpa using cday)]
    have hb:bet m.Day (max d s.Issued) (s.Maturity)=false:=bet_no (by rw[if_neg k3]at cday;exact cday)
    simp -dsimp -implicitDefEqProofs [-getElem?_pos,go_sem,hP,a2,b2,c2,lp2,lq2,lc2,k3,am]
    refine adrawB (fun _=>true) [] hP (by kernel_rfl) (by kernel_rfl) ?_
    simp -dsimp -implicitDefEqProofs [-getElem?_pos,go_sem,hP,a2,b2,c2,lp2,lq2,lc2,k3,am]
    refine callB_pure (gamong_pf m.Day (max d s.Issued) (s.Maturity)) hP en_104 (args_same (by simp -dsimp[-getElem?_pos,go_sem])) .sc ?_
    simp -dsimp -implicitDefEqProofs [-getElem?_pos,go_sem,hP,hb]
    rw[hC]
    exact⟨by rw[e0],fun _=>k2,fun e=>by rw[e0]at e;cases e⟩
   have hb:bet m.Day (max d s.Issued) (s.Maturity)=true:=bet_yes (by rw[if_neg k3]at cday;exact cday)
   simp -dsimp -implicitDefEqProofs [-getElem?_pos,go_sem,hP,a2,b2,c2,lp2,lq2,lc2,k3,am]
   refine adrawB (fun _=>true) [] hP (by kernel_rfl) (by kernel_rfl) ?_
   simp -dsimp -implicitDefEqProofs [-getElem?_pos,go_sem,hP,a2,b2,c2,lp2,lq2,lc2,k3,am]
   refine callB_pure (gamong_pf m.Day (max d s.Issued) (s.Maturity)) hP en_104 (args_same (by simp -dsimp[-getElem?_pos,go_sem])) .sc ?_
   by_cases a0:m.Amount≤0
   ·have e0:moveE secs l d m=79:=by rw[moveE,hf];dsimp only;rw[if_neg (by simpa using cday),if_pos (.inl a0)]
    have d0:decide (m.Amount≤0)=true:=decide_eq_true a0
    simp -dsimp -implicitDefEqProofs [-getElem?_pos,go_sem,hP,hb,a2,b2,lp2,lq2,d0]
    rw[hC]
    exact⟨by rw[e0],fun _=>k2,fun e=>by rw[e0]at e;cases e⟩
   have d0:decide (m.Amount≤0)=false:=decide_eq_false a0
   simp -dsimp -implicitDefEqProofs [-getElem?_pos,go_sem,hP,hb,a2,b2,lp2,lq2,d0]
   refine callB_pure (gvalid_pf m.Amount) hP en_50 (args_same (by simp -dsimp[-getElem?_pos,go_sem])) .sc ?_
   by_cases a9:1000000000000<m.Amount
   ·have e0:moveE secs l d m=79:=by rw[moveE,hf];dsimp only;rw[if_neg (by simpa using cday),if_pos (.inr (.inl a9))]
    have hv:bet m.Amount 0 1000000000000=false:=bet_no (by omega)
    simp -dsimp -implicitDefEqProofs [-getElem?_pos,go_sem,hP,hv]
    rw[hC]
    exact⟨by rw[e0],fun _=>k2,fun e=>by rw[e0]at e;cases e⟩
   have hv:bet m.Amount 0 1000000000000=true:=bet_yes (by omega)
   have ht:m.Amount.tmod s.Unit=m.Amount%s.Unit:=Int.tmod_eq_emod_of_nonneg (by omega)
   have u0:¬s.Unit=0:=by have:=so.unit;omega
   by_cases am0:m.Amount%s.Unit=0
   rotate_left
   ·have e0:moveE secs l d m=79:=by rw[moveE,hf];dsimp only;rw[if_neg (by simpa using cday),if_pos (.inr (.inr am0))]
    simp -dsimp -implicitDefEqProofs [-getElem?_pos,go_sem,hP,hv,a2,b2,lp2,lq2,ht,u0,am0]
    rw[hC]
    exact⟨by rw[e0],fun _=>k2,fun e=>by rw[e0]at e;cases e⟩
   simp -dsimp -implicitDefEqProofs [-getElem?_pos,go_sem,hP,hv,a2,b2,lp2,lq2,ht,u0,am0]
   refine callB_pure gs hP en_230 (args_same (by simp -dsimp[-getElem?_pos,go_sem])) .sc ?_
   cases cs:strangeB m with
   |true=>
    have e0:moveE secs l d m=6:=by rw[moveE,hf];dsimp only;rw[if_neg (by simpa using cday),if_neg (by omega),if_pos cs]
    simp -dsimp -implicitDefEqProofs [-getElem?_pos,go_sem,hP]
    rw[hC]
    exact⟨by rw[e0],fun _=>k2,fun e=>by rw[e0]at e;cases e⟩
   |false=>
    simp -dsimp -implicitDefEqProofs [-getElem?_pos,go_sem,hP]
    refine adrawB (fun i=>decide (i=p)) [] hP (by kernel_rfl) (by kernel_rfl) ?_
    by_cases f0:m.From=0
    ·simp -dsimp -implicitDefEqProofs [-getElem?_pos,go_sem,hP,restr_get,a2,lp2,f0]
     refine adrawB (fun i=>decide (i=p)) [] hP (by kernel_rfl) (by kernel_rfl) ?_
     simp -dsimp -implicitDefEqProofs [-getElem?_pos,go_sem,hP,restr_get,a2,lp2,f0]
     refine callB_m (by rw[hr,hs];exact om) hP en_232 ?_
     rintro r H3 ⟨rfl,kp3⟩
     have a3:=kp3 _ _ (by simp) a2
     have hk3:=hk2.kept kp3
     have k3':Kept [] H H3:=k2.trans kp3
     have lp3:=(gsI a3)
     have ho3:=outH_take ho m.Security l.length
     rw[List.take_length]at ho3
     have wo:=wrap_in (outH l m.Security+m.Amount) (by omega)
     by_cases o9:1000000000000<outH l m.Security+m.Amount
     ·have e0:moveE secs l d m=2:=by rw[moveE,hf];dsimp only;rw[if_neg (by simpa using cday),if_neg (by omega),if_neg (by simp[cs]),if_neg (fun e=>e.1 f0),if_pos ⟨f0,o9⟩]
      have d9:decide (1000000000000<outH l m.Security+m.Amount)=true:=decide_eq_true o9
      simp -dsimp -implicitDefEqProofs [-getElem?_pos,go_sem,hP]
      refine⟨agree_p kp3 a2,?_⟩
      simp -dsimp -implicitDefEqProofs [-getElem?_pos,go_sem,hP,restr_get,a3,lp3,wo,d9]
      rw[hC]
      exact⟨by rw[e0],fun _=>k3',fun e=>by rw[e0]at e;cases e⟩
     have d9:decide (1000000000000<outH l m.Security+m.Amount)=false:=decide_eq_false o9
     simp -dsimp -implicitDefEqProofs [-getElem?_pos,go_sem,hP]
     refine⟨agree_p kp3 a2,?_⟩
     simp -dsimp -implicitDefEqProofs [-getElem?_pos,go_sem,hP,restr_get,a3,lp3,wo,d9]
     have mok:MoveOk secs l d m s:=⟨hf,cday,⟨by omega,by omega,am0⟩,cs,fun e=>by first|exact absurd f0 e|omega,fun e=>by first|exact absurd e f0|omega⟩
     have e0:=moveE_zero mok
     have ho1:=goH1_ok ho mok
     have wn:=wrap_in (-m.Amount) (by omega)
     have ad1:=fun {row src:Option Nat}=>cadd_m (row:=row) (src:=src) c hid (secsL secs) n d l m.Security m.From (-m.Amount) H3 hk3 rfl (by omega) ho.srt (fun x hx=>ho.am hx) (by omega) (by omega)
     simp -dsimp -implicitDefEqProofs [-getElem?_pos,go_sem,hP,a3,lp3,wn]
     refine callB_m (by rw[hr,hs];exact ad1) hP en_233 ?_
     rintro _ H4 c24
     obtain⟨hid4,hk4,pr4,kp4⟩:=c24
     have a4:=kp4 _ _ (by simpa using⟨npc,nph⟩) a3
     have lp4:=(gsI a4)
     have ad2:=fun {row src:Option Nat}=>cadd_m (row:=row) (src:=src) c hid4 (secsL secs) n d (addH l m.Security m.From (-m.Amount)) m.Security m.To m.Amount H4 hk4 rfl (by have:=ho1.2;omega) ho1.1.srt (fun x hx=>ho1.1.am hx) (by omega) (by omega)
     simp -dsimp -implicitDefEqProofs [-getElem?_pos,go_sem,hP,a4,lp4]
     refine callB_m (by rw[hr,hs];exact ad2) hP en_233 ?_
     rintro _ H5 c25
     have cl5:Clk2 H c hid (secsL secs) (goH l m) n d H5:=clk2_comp (clk2_pre k3' hk ⟨hid4,hk4,pr4,kp4⟩) hid4 hk4 (fun x o hx he=>pr4 x o hx (k3' x o (by simp) he)) c25
     obtain⟨hid5,hk5,pr5,kp5⟩:=c25
     have a5:=kp5 _ _ (by simpa using⟨npc,pr4 p _ nph a3⟩) a4
     have lp5:=(gsI a5)
     have c5:=hk5.oc
     have lc5:=(gsI c5)
     have wn1:=wrap_in (n+1) (by omega)
     simp -dsimp -implicitDefEqProofs [-getElem?_pos,go_sem,hP]
     refine adrawB (fun i=>decide (i=p)) [3,4,5,9,10,12,13] hP (by kernel_rfl) (by kernel_rfl) ?_
     simp -dsimp -implicitDefEqProofs [-getElem?_pos,go_sem,hP,restr_get,a5,lp5,c5,lc5,npc,npc',wn1]
     refine⟨agree_ps npc,agree_ps2 npc,?_⟩
     rw[hC]
     exact clk2_end cl5 hk5 e0
    ·simp -dsimp -implicitDefEqProofs [-getElem?_pos,go_sem,hP,restr_get,a2,lp2,f0]
     refine callB_m (by rw[hr,hs];exact hm) hP en_231 ?_
     rintro r H3 ⟨rfl,kp3⟩
     have a3:=kp3 _ _ (by simp) a2
     have hk3:=hk2.kept kp3
     have k3':Kept [] H H3:=k2.trans kp3
     have lp3:=(gsI a3)
     by_cases o9:heldH l m.Security m.From<m.Amount
     ·have e0:moveE secs l d m=77:=by rw[moveE,hf];dsimp only;rw[if_neg (by simpa using cday),if_neg (by omega),if_neg (by simp[cs]),if_pos ⟨f0,o9⟩]
      have d9:decide (heldH l m.Security m.From<m.Amount)=true:=decide_eq_true o9
      simp -dsimp -implicitDefEqProofs [-getElem?_pos,go_sem,hP]
      refine⟨agree_p kp3 a2,?_⟩
      simp -dsimp -implicitDefEqProofs [-getElem?_pos,go_sem,hP,restr_get,a3,lp3,d9]
      rw[hC]
      exact⟨by rw[e0],fun _=>k3',fun e=>by rw[e0]at e;cases e⟩
     have d9:decide (heldH l m.Security m.From<m.Amount)=false:=decide_eq_false o9
     simp -dsimp -implicitDefEqProofs [-getElem?_pos,go_sem,hP]
     refine⟨agree_p kp3 a2,?_⟩
     simp -dsimp -implicitDefEqProofs [-getElem?_pos,go_sem,hP,restr_get,a3,lp3,d9]
     refine adrawB (fun i=>decide (i=p)) [] hP (by kernel_rfl) (by kernel_rfl) ?_
     simp -dsimp -implicitDefEqProofs [-getElem?_pos,go_sem,hP,restr_get,a3,lp3,f0]
     have mok:MoveOk secs l d m s:=⟨hf,cday,⟨by omega,by omega,am0⟩,cs,fun e=>by first|exact absurd f0 e|omega,fun e=>by first|exact absurd e f0|omega⟩
     have e0:=moveE_zero mok
     have ho1:=goH1_ok ho mok
     have wn:=wrap_in (-m.Amount) (by omega)
     have ad1:=fun {row src:Option Nat}=>cadd_m (row:=row) (src:=src) c hid (secsL secs) n d l m.Security m.From (-m.Amount) H3 hk3 rfl (by omega) ho.srt (fun x hx=>ho.am hx) (by omega) (by omega)
     simp -dsimp -implicitDefEqProofs [-getElem?_pos,go_sem,hP,a3,lp3,wn]
     refine callB_m (by rw[hr,hs];exact ad1) hP en_233 ?_
     rintro _ H4 c24
     obtain⟨hid4,hk4,pr4,kp4⟩:=c24
     have a4:=kp4 _ _ (by simpa using⟨npc,nph⟩) a3
     have lp4:=(gsI a4)
     have ad2:=fun {row src:Option Nat}=>cadd_m (row:=row) (src:=src) c hid4 (secsL secs) n d (addH l m.Security m.From (-m.Amount)) m.Security m.To m.Amount H4 hk4 rfl (by have:=ho1.2;omega) ho1.1.srt (fun x hx=>ho1.1.am hx) (by omega) (by omega)
     simp -dsimp -implicitDefEqProofs [-getElem?_pos,go_sem,hP,a4,lp4]
     refine callB_m (by rw[hr,hs];exact ad2) hP en_233 ?_
     rintro _ H5 c25
     have cl5:Clk2 H c hid (secsL secs) (goH l m) n d H5:=clk2_comp (clk2_pre k3' hk ⟨hid4,hk4,pr4,kp4⟩) hid4 hk4 (fun x o hx he=>pr4 x o hx (k3' x o (by simp) he)) c25
     obtain⟨hid5,hk5,pr5,kp5⟩:=c25
     have a5:=kp5 _ _ (by simpa using⟨npc,pr4 p _ nph a3⟩) a4
     have lp5:=(gsI a5)
     have c5:=hk5.oc
     have lc5:=(gsI c5)
     have wn1:=wrap_in (n+1) (by omega)
     simp -dsimp -implicitDefEqProofs [-getElem?_pos,go_sem,hP]
     refine adrawB (fun i=>decide (i=p)) [3,4,5,9,10,12,13] hP (by kernel_rfl) (by kernel_rfl) ?_
     simp -dsimp -implicitDefEqProofs [-getElem?_pos,go_sem,hP,restr_get,a5,lp5,c5,lc5,npc,npc',wn1]
     refine⟨agree_ps npc,agree_ps2 npc,?_⟩
     rw[hC]
     exact clk2_end cl5 hk5 e0
end Go.Proofs.YtaenimpfelpafaaGreatDoor
namespace Go.PA
open Go.RowKit
section
variable {E:Env}
theorem weaker_owncell {s:St} {o ty k:Nat} {cs:List AV} (j:Nat) (ty' k':Nat) (h:s.H[o]?=some (some ⟨ty,k,[cs]⟩)) (hk:k≠2) (hi:∀es,cs[2]?≠some (.imap es)) (hj:cs[j]?=some .nil):
  Weaker E s ⟨s.t,(s.H++[some (AObj.mk ty' k' [])]).set o (some ⟨ty,k,[cs.set j (.sref s.H.length 0 0)]⟩)⟩:=by
 rintro a w ⟨ρ,ok,g,hx,hd,hs,hr⟩
 obtain⟨g1,x1⟩:=g.add ⟨ty',k',[]⟩ none rfl (by simp) (by simp)
 have lt:=(gsI h)
 have h1:(s.H++[some ⟨ty',k',[]⟩])[o]?=some (some ⟨ty,k,[cs]⟩):=by rw[List.getElem?_append_left lt];exact h
 have hobj:=g1.obj o _ h1
 have hlen:=g1.len o _ h1 cs (by simp)
 obtain⟨ρ1,hρ1⟩:∃ρ1,ρ1=updP ρ s.H.length none:=⟨_,rfl⟩
 rw[←hρ1]at g1 x1 hobj
 have hnew:ρ1 s.H.length=none:=by rw[hρ1];simp[updP]
 cases hρ:ρ1 o with
 |none=>rw[hρ]at hobj;cases hobj
 |some bc=>
  obtain⟨b,cap⟩:=bc
  rw[hρ]at hobj
  obtain⟨g',x'⟩:=g1.change (w':=w) h1 hρ ⟨ty,k,[cs.set j (.sref s.H.length 0 0)]⟩ rfl (Nat.le_refl _) (by simpa using hlen) rfl rfl rfl rfl (fun _ _=>rfl) fun hx'=>by
   rcases hobj with⟨cur,h1',h2,h3,h4,h5⟩|⟨_,hk',_⟩|⟨_,hk',he⟩
   ·refine .inl ⟨cur,h1',h2,h3,h4,fun i e q a he ha=>?_⟩
    match i,he with
    |0,he=>
     simp only[List.getElem?_cons_zero,Option.some.injEq]at he
     subst he
     by_cases hq:j=q
     ·subst hq
      obtain⟨c,c1,c2,c3⟩:=h5 0 cs j .nil rfl hj
      have hjl:=(gsI hj)
      rw[List.getElem?_set,if_pos rfl,if_pos hjl]at ha
      cases ha
      refine⟨c,c1,c2,?_⟩
      cases c3
      refine .srefNil (o:=⟨ty',k',[]⟩) ?_ hnew
      rw[List.getElem?_set_ne (by omega)]
      exact push_new
     ·rw[List.getElem?_set_ne hq]at ha
      obtain⟨c,c1,c2,c3⟩:=h5 0 cs q a rfl ha
      exact⟨c,c1,c2,c3.ext hx'⟩
   ·exact absurd hk' hk
   ·exfalso
    rcases he with⟨he,_⟩|⟨m,clk,seen,ents,c1,c2,_,_,_,_,he,_⟩
    ·simp only[List.cons.injEq,and_true]at he
     exact hi [] (by rw[he];rfl)
    ·simp only[List.cons.injEq,and_true]at he
     exact hi _ (by rw[he];rfl)
  exact⟨ρ1,ok,g',(hx.trans x1).trans x',hd,hs,fun i=>((hr i).ext x1).ext x'⟩
theorem aloop_owncell {c:Code} {s:St} {Q:Exit→St→Prop} {b:Bx (c,Q)} {o ty k:Nat} {cs:List AV} (j:Nat) (ty' k':Nat) (h:s.H[o]?=some (some ⟨ty,k,[cs]⟩)) (hk:k≠2) (hi:∀es,cs[2]?≠some (.imap es)) (hj:cs[j]?=some .nil)
  (hl:ALoop E c ⟨s.t,(s.H++[some (AObj.mk ty' k' [])]).set o (some ⟨ty,k,[cs.set j (.sref s.H.length 0 0)]⟩)⟩ Q .mk):ALoop E c s Q b:=
 AWp.weaken (weaker_owncell j ty' k' h hk hi hj) hl
end
end Go.PA
