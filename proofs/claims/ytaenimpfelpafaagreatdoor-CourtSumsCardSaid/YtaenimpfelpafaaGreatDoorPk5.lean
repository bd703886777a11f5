/- Several texts of this claim, joined: Acc5 Bat1 BatLaw Rec1 Acc6 Acc7 Acc8 Del Ins BatLib Bat2 Bat3 Bat4 Bat5 Bat6 Bat7 Bat8 Bat9 Bat10 Bat11 Bat12 Bat13 Bat14 Bat15. -/
import Derived.Test.YtaenimpfelpafaaGreatDoorPk4
set_option linter.unusedSimpArgs false
set_option linter.unusedVariables false
namespace Go.Proofs.YtaenimpfelpafaaGreatDoor
open Go.PA
open Go.RowKit
theorem agree_push {n:Nat} {H l:Heap} (h:n≤H.length):Agree (fun id=>decide (id<n)) H (H++l):=fun id hid=>List.getElem?_append_left (by simp at hid;omega)
theorem agree_3 {a b c:Option AObj} {l l':Heap}:Agree (fun id=>decide (id<3)) (a::b::c::l) (a::b::c::l'):=fun id hid=>by
 have:id<3:=by simpa using hid
 rcases id with _|_|_|id
 ·rfl
 ·rfl
 ·rfl
 ·omega
abbrev zeroA:TAccount:=⟨0,[],[]⟩
def postA (a:TAccount) (e:TEntry):TAccount×Int:=
 if checkA a=0 then
  if a.Entries.length=400 then (zeroA,3)else
  if (postS a.Credit (lastE a).Number (lastE a).Day a.Subs e).1=0 then (⟨a.Credit,(postS a.Credit (lastE a).Number (lastE a).Day a.Subs e).2,a.Entries++[e]⟩,0)else (zeroA,(postS a.Credit (lastE a).Number (lastE a).Day a.Subs e).1)
 else (zeroA,checkA a)
theorem lastE_nil {a:TAccount} (h:a.Entries.length=0):lastE a=zeroE:=by
 rw[lastE,List.eq_nil_of_length_eq_zero h]
 rfl
theorem lastE_get {a:TAccount} {k:Nat} {e:TEntry} (h:a.Entries.length=k+1) (he:a.Entries[k]?=some e):lastE a=e:=by
 rw[lastE,List.getLast?_eq_getElem?,h]
 simp[he]
theorem cA (a:TAccount):a.cells=[iv a.Credit,subsL a.Subs,entsL a.Entries]:=rfl
theorem cE (e:TEntry):e.cells=[iv e.Number,iv e.Day,iv e.From,iv e.To,iv e.Amount,iv e.Ref]:=rfl
theorem done_zeroA {H:Heap} {n:Int} {Q:AV→Prop} {b:Bx Q} (h:Q (.tup [.agg zeroA.cells,iv n])):Done H (.tup [.agg [iv 0,.nil,.nil],iv n]) Q b:=
 done_agg2 (cw_sc (cw_nil (cw_nil .nil))) h
theorem last23_pf (a:TAccount) (he:a.Entries.length≤100000):PFun Tryz.prog none none 269 [.agg a.cells] (·= .agg (lastE a).cells):=by
 refine pfun_intro Tryz.func269 rfl (by simp[Tryz.f269]) (by kernel_rfl) ?_
 intro E hP hr hs hW hN
 by_cases h0:a.Entries.length=0
 ·have d0:decide (0<a.Entries.length)=false:=decide_eq_false (by omega)
  have:lastE a=zeroE:=lastE_nil h0
  simp -dsimp -implicitDefEqProofs [-getElem?_pos,go_sem,hP,cA,d0]
  refine done_imm (imm_ent zeroE) ?_
  rw[this]
  rfl
 ·obtain⟨k,hk⟩:∃k,a.Entries.length=k+1:=⟨a.Entries.length-1,by omega⟩
  obtain⟨e,hee⟩:∃e,a.Entries[k]?=some e:=⟨_,List.getElem?_eq_getElem (by omega)⟩
  have d0:decide ((0:Int)<(k:Int)+1)=true:=by simp
  have wk:=wrap_in ((k:Int)+1-1) (by omega)
  rw[Int.add_sub_cancel]at wk
  have:lastE a=e:=lastE_get hk hee
  simp -dsimp -implicitDefEqProofs [-getElem?_pos,go_sem,hP,cA,hk,d0,Int.add_sub_cancel,wk,hee,cE]
  refine done_imm (imm_ent e) ?_
  rw[this]
  rfl
set_option maxHeartbeats 1000000 in
theorem post23_pf (a:TAccount) (e:TEntry) (hl:a.Subs.length≤100000) (he:a.Entries.length≤100000):PFun Tryz.prog none none 214 [.agg a.cells,.agg e.cells] (·= .tup [.agg (postA a e).1.cells,iv (postA a e).2]):=by
 refine pfun_intro Tryz.func214 rfl (by simp[Tryz.f214]) (by kernel_rfl) ?_
 intro E hP hr hs hW hN
 have ck:=check23_pf a hl he
 have la:=last23_pf a he
 rw[cA]at ck la
 have ia:Imm (.agg [iv a.Credit,subsL a.Subs,entsL a.Entries]):=imm_acc a
 have ie:Imm (.agg [iv e.Number,iv e.Day,iv e.From,iv e.To,iv e.Amount,iv e.Ref]):=imm_ent e
 simp -dsimp -implicitDefEqProofs [-getElem?_pos,go_sem,hP,cA,cE]
 refine callB_is (ck.lift _ _) hP en_46 (by simp[ia]) .sc ?_
 by_cases c1:checkA a=0
 rotate_left
 ·have:postA a e=(zeroA,checkA a):=by rw[postA,if_neg c1]
  simp -dsimp -implicitDefEqProofs [-getElem?_pos,go_sem,hP,c1]
  refine done_zeroA ?_
  rw[this]
 obtain⟨k1,k2,k3,k4,k5⟩:=check_ok c1
 by_cases c2:a.Entries.length=400
 ·have:postA a e=(zeroA,3):=by rw[postA,if_pos c1,if_pos c2]
  simp -dsimp -implicitDefEqProofs [-getElem?_pos,go_sem,hP,c1,c2]
  refine done_zeroA ?_
  rw[this]
 have d2:decide ((a.Entries.length:Int)=400)=false:=by simp;omega
 obtain⟨hnd,hz0,hhd⟩:=numB_facts k4
 obtain⟨q1,q2,q3,q4⟩:=check_keeps c1
 have ap:=add_pf a.Credit a.Subs (lastE a) e (by omega) k3 hnd hz0 q1 (by omega) q3
 rw[cE,cE]at ap
 simp -dsimp -implicitDefEqProofs [-getElem?_pos,go_sem,hP,c1,d2]
 refine adrawB (fun _=>true) [] hP (by kernel_rfl) (by kernel_rfl) ?_
 simp -dsimp -implicitDefEqProofs [-getElem?_pos,go_sem,hP]
 refine callB_is (la.lift _ _) hP en_269 (by simp[ia]) (imm_ent _) ?_
 simp -dsimp -implicitDefEqProofs [-getElem?_pos,go_sem,hP,cE]
 refine callB_is (ap.lift _ _) hP en_160 (by simp[imm_subs,imm_sc,ie];exact imm_ent (lastE a)) (imm_pair (imm_subs _) .sc) ?_
 by_cases c3:(postS a.Credit (lastE a).Number (lastE a).Day a.Subs e).1=0
 ·have pA:postA a e=(⟨a.Credit,(postS a.Credit (lastE a).Number (lastE a).Day a.Subs e).2,a.Entries++[e]⟩,0):=by rw[postA,if_pos c1,if_neg c2,if_pos c3]
  rw[addR_ok c3]
  simp -dsimp -implicitDefEqProofs [-getElem?_pos,go_sem,hP]
  refine adrawB (fun id=>decide (id<3)) [7] hP (by kernel_rfl) (by kernel_rfl) ?_
  simp -dsimp -implicitDefEqProofs [-getElem?_pos,go_sem,hP,restr_get]
  refine⟨by omega,by omega,agree_3,by omega,by omega,agree_3,?_⟩
  have en:encL TEntry.cells a.Entries++[[iv e.Number,iv e.Day,iv e.From,iv e.To,iv e.Amount,iv e.Ref]]=encL TEntry.cells (a.Entries++[e]):=encL_snoc TEntry.cells a.Entries e
  refine done_agg2 (cw_sc (cw_imm (imm_subs _) (cw_sref rfl (by simp[encL]) (by rw[en];exact imm_ents _) .nil))) ?_
  rw[pA,en]
  rfl
 ·have pA:postA a e=(zeroA,(postS a.Credit (lastE a).Number (lastE a).Day a.Subs e).1):=by rw[postA,if_pos c1,if_neg c2,if_neg c3]
  rw[addR_bad c3]
  simp -dsimp -implicitDefEqProofs [-getElem?_pos,go_sem,hP,c3]
  refine done_zeroA ?_
  rw[pA]
def nextE (a:TAccount) (day from_ to amount ref:Int):TEntry:=⟨IntKind.i64.wrap ((lastE a).Number+1),day,from_,to,amount,ref⟩
theorem next23_pf (a:TAccount) (day from_ to amount ref:Int) (he:a.Entries.length≤100000):PFun Tryz.prog none none 215 [.agg a.cells,iv day,iv from_,iv to,iv amount,iv ref] (·= .agg (nextE a day from_ to amount ref).cells):=by
 refine pfun_intro Tryz.func215 rfl (by simp[Tryz.f215]) (by kernel_rfl) ?_
 intro E hP hr hs hW hN
 have la:=last23_pf a he
 rw[cA,cE]at la
 have ia:Imm (.agg [iv a.Credit,subsL a.Subs,entsL a.Entries]):=imm_acc a
 simp -dsimp -implicitDefEqProofs [-getElem?_pos,go_sem,hP,cA]
 refine callB_is (la.lift _ _) hP en_269 (by simp[ia]) (imm_ent (lastE a)) ?_
 simp -dsimp -implicitDefEqProofs [-getElem?_pos,go_sem,hP]
 refine done_imm (imm_ent (nextE a day from_ to amount ref)) ?_
 rfl
def balanceA (a:TAccount) (id:Int):Int×Bool:=
 if checkA a=0 then (match a.Subs.find? (fun s=>decide (s.ID=id))with|some s=>(s.Balance,true)|none=>(0,false))else (0,false)
theorem find_place {l:List TSub} {id:Int}:(placeI l id= -1∧l.find? (fun s=>decide (s.ID=id))=none)∨∃(i:Nat) (s:TSub),placeI l id=i∧l[i]?=some s∧l.find? (fun s=>decide (s.ID=id))=some s:=by
 suffices h:∀(l:List TSub) (k:Nat),(idxFrom (fun s=>decide (s.ID=id)) k l= -1∧l.find? (fun s=>decide (s.ID=id))=none)∨∃(i:Nat) (s:TSub),idxFrom (fun s=>decide (s.ID=id)) k l=((k+i:Nat):Int)∧l[i]?=some s∧l.find? (fun s=>decide (s.ID=id))=some s by
  have:=h l 0
  simpa[placeI,idxI]using this
 intro l
 induction l with
 |nil=>exact fun k=> .inl ⟨rfl,rfl⟩
 |cons a l ih=>
  intro k
  rw[idxFrom,List.find?_cons]
  by_cases h:a.ID=id
  ·simp only[h,decide_true,if_true]
   exact .inr ⟨0,a,by simp,rfl,rfl⟩
  ·simp only[h,decide_false,Bool.false_eq_true,if_false]
   rcases ih (k+1)with h|⟨i,s,h1,h2,h3⟩
   ·exact .inl h
   ·exact .inr ⟨i+1,s,by rw[h1];congr 1;omega,h2,h3⟩
theorem balance23_pf (a:TAccount) (id:Int) (hl:a.Subs.length≤100000) (he:a.Entries.length≤100000):PFun Tryz.prog none none 218 [.agg a.cells,iv id] (·= .tup [iv (balanceA a id).1,bv (balanceA a id).2]):=by
 refine pfun_intro Tryz.func218 rfl (by simp[Tryz.f218]) (by kernel_rfl) ?_
 intro E hP hr hs hW hN
 have ck:=check23_pf a hl he
 rw[cA]at ck
 have ia:Imm (.agg [iv a.Credit,subsL a.Subs,entsL a.Entries]):=imm_acc a
 simp -dsimp -implicitDefEqProofs [-getElem?_pos,go_sem,hP,cA]
 refine callB_is (ck.lift _ _) hP en_46 (by simp[ia]) .sc ?_
 by_cases c1:checkA a=0
 rotate_left
 ·have:balanceA a id=(0,false):=by rw[balanceA,if_neg c1]
  simp -dsimp -implicitDefEqProofs [-getElem?_pos,go_sem,hP,c1]
  refine done_imm (imm_pair .sc .sc) ?_
  rw[this]
 simp -dsimp -implicitDefEqProofs [-getElem?_pos,go_sem,hP,c1]
 refine callB_pure (at_pf a.Subs id hl) hP en_228 (args_imm (imm_subs _) (args_imm .sc (args_nil.2 trivial))) .sc ?_
 rcases find_place (l:=a.Subs) (id:=id)with⟨h1,h2⟩|⟨i,s,h1,h2,h3⟩
 ·have:balanceA a id=(0,false):=by rw[balanceA,if_pos c1,h2]
  simp -dsimp -implicitDefEqProofs [-getElem?_pos,go_sem,hP,h1]
  refine done_imm (imm_pair .sc .sc) ?_
  rw[this]
 ·have:balanceA a id=(s.Balance,true):=by rw[balanceA,if_pos c1,h3]
  have hi:=(gsI h2)
  have d1:decide ((0:Int)≤(i:Int))=true:=by simp
  simp -dsimp -implicitDefEqProofs [-getElem?_pos,go_sem,hP,h1,d1,h2,TSub.cells]
  refine done_imm (imm_pair .sc .sc) ?_
  rw[this]
def sumB (l:List TSub):Int:=(l.map (·.Balance)).sum
theorem sumB_snoc (l:List TSub) (s:TSub):sumB (l++[s])=sumB l+s.Balance:=by simp[sumB]
def totalA (a:TAccount):Int:=if checkA a=0 then sumB a.Subs else 0
theorem okSub_bounds {credit:Int} {s:TSub} (hc:0≤credit∧credit≤1000000000000) (h:okSub credit s=true): -1000000000000≤s.Balance∧s.Balance≤1000000000000000:=by
 have:=(okSub_iff _ _).1 h
 split at this<;>omega
theorem sumB_bound {credit:Int} (hc:0≤credit∧credit≤1000000000000):∀l:List TSub,okAll credit l=true→ -(1000000000000*(l.length:Int))≤sumB l∧sumB l≤1000000000000000*(l.length:Int)
 |[],_=>by simp[sumB]
 |s::l,h=>by
  simp only[okAll,List.all_cons,Bool.and_eq_true]at h
  have h1:=okSub_bounds hc h.1
  have h2:=sumB_bound hc l h.2
  have:sumB (s::l)=s.Balance+sumB l:=by simp[sumB]
  rw[this,List.length_cons]
  omega
theorem okAll_take {credit:Int} {l:List TSub} (h:okAll credit l=true) (k:Nat):okAll credit (l.take k)=true:=List.all_eq_true.2 fun s hs=>List.all_eq_true.1 h s (List.mem_of_mem_take hs)
theorem total23_pf (a:TAccount) (hl:a.Subs.length≤100000) (he:a.Entries.length≤100000):PFun Tryz.prog none none 18 [.agg a.cells] (·=iv (totalA a)):=by
 refine pfun_intro Tryz.func18 rfl (by simp[Tryz.f18]) (by kernel_rfl) ?_
 intro E hP hr hs hW hN
 have ck:=check23_pf a hl he
 rw[cA]at ck
 have ia:Imm (.agg [iv a.Credit,subsL a.Subs,entsL a.Entries]):=imm_acc a
 simp -dsimp -implicitDefEqProofs [-getElem?_pos,go_sem,hP,cA]
 refine callB_is (ck.lift _ _) hP en_46 (by simp[ia]) .sc ?_
 by_cases c1:checkA a=0
 rotate_left
 ·have:totalA a=0:=by rw[totalA,if_neg c1]
  simp -dsimp -implicitDefEqProofs [-getElem?_pos,go_sem,hP,c1,this]
 have tA:totalA a=sumB a.Subs:=by rw[totalA,if_pos c1]
 obtain⟨k1,k2,k3,k4,k5⟩:=check_ok c1
 obtain⟨q1,q2,q3,q4⟩:=check_keeps c1
 simp -dsimp -implicitDefEqProofs [-getElem?_pos,go_sem,hP,c1]
 obtain⟨I,hI⟩:∃I:Nat→St→Prop,I=fun m s=>∃k:Nat,k≤a.Subs.length∧m=a.Subs.length-k∧s.t 3=iv (sumB (a.Subs.take k))∧s.t 10=subsL a.Subs∧s.t 11=iv a.Subs.length∧s.t 12=iv k:=⟨_,rfl⟩
 refine aloop0 I (a.Subs.length) (by rw[hN];rfl) ?_ ?_
 ·rw[hI]
  exact⟨0,by omega,by omega,by simp -dsimp[-getElem?_pos,go_sem,sumB],by simp -dsimp[-getElem?_pos,go_sem],by simp -dsimp[-getElem?_pos,go_sem],by simp -dsimp[-getElem?_pos,go_sem]⟩
 intro m s hs'
 rw[hI]at hs'
 obtain⟨k,hk,hm,t3,t10,t11,t12⟩:=hs'
 simp -dsimp -implicitDefEqProofs [-getElem?_pos,go_sem,hP,t11,t12]
 refine condP (fun h=>?_) (fun h=>?_)
 ·have hk:k<a.Subs.length:=by simpa using h
  obtain⟨x,hx⟩:∃x,a.Subs[k]?=some x:=⟨_,List.getElem?_eq_getElem hk⟩
  have wk:=wrap_in ((k:Int)+1) (by omega)
  have e1:a.Subs.take (k+1)=a.Subs.take k++[x]:=by rw[List.take_add_one,hx];rfl
  have b1:=sumB_bound k3 _ (okAll_take q1 (k+1))
  have b2:(a.Subs.take (k+1)).length≤20:=by rw[List.length_take];omega
  rw[e1,sumB_snoc,←e1]at b1
  have ws:=wrap_in (sumB (a.Subs.take k)+x.Balance) (by omega)
  simp -dsimp -implicitDefEqProofs [-getElem?_pos,go_sem,hP,t10,t12,hx,TSub.cells,t3,ws,wk]
  refine⟨a.Subs.length-(k+1),by omega,?_⟩
  rw[hI]
  exact⟨k+1,by omega,rfl,by simp -dsimp[-getElem?_pos,go_sem];rw[e1,sumB_snoc],by simp -dsimp[-getElem?_pos,go_sem,t10],by simp -dsimp[-getElem?_pos,go_sem,t11],by simp -dsimp[-getElem?_pos,go_sem]⟩
 ·have hk:k=a.Subs.length:=by simp at h;omega
  subst hk
  rw[List.take_length]at t3
  simp -dsimp -implicitDefEqProofs [-getElem?_pos,go_sem,hP,t3,tA]
def inF (from_ to:Int) (e:TEntry):Int:=if amongB e.Day from_ to=true∧e.From=0 then e.Amount else 0
def outF (from_ to:Int) (e:TEntry):Int:=if amongB e.Day from_ to=true∧e.To=0 then e.Amount else 0
def sumE (f:TEntry→Int) (l:List TEntry):Int:=(l.map f).sum
theorem sumE_snoc (f:TEntry→Int) (l:List TEntry) (e:TEntry):sumE f (l++[e])=sumE f l+f e:=by simp[sumE]
theorem sumE_bound (f:TEntry→Int) (N:Int):∀l:List TEntry,(∀e,e∈l→0≤f e∧f e≤N)→0≤sumE f l∧sumE f l≤N*(l.length:Int)
 |[],_=>by simp[sumE]
 |e::l,h=>by
  have h1:=h e (by simp)
  have h2:=sumE_bound f N l fun x hx=>h x (List.mem_cons_of_mem _ hx)
  have:sumE f (e::l)=f e+sumE f l:=by simp[sumE]
  rw[this,List.length_cons]
  have:N*((l.length+1:Nat):Int)=N*(l.length:Int)+N:=by rw[Int.natCast_add,Int.mul_add];simp
  omega
def flowA (a:TAccount) (from_ to:Int):Int×Int:=if checkA a=0 then (sumE (inF from_ to) a.Entries,sumE (outF from_ to) a.Entries)else (0,0)
theorem replayS_mem (credit:Int):∀(es:List TEntry) (n d:Int) (l:List TSub) (r:Int×Int×List TSub),replayS credit n d l es=some r→∀e,e∈es→0<e.Amount∧e.Amount≤1000000000000∧0≤e.Ref∧e.Ref≤1000000∧e.From≠e.To∧(e.From=0∨e.From∈ids l)∧(e.To=0∨e.To∈ids l)
 |[],n,d,l,r,h,e,he=>by simp at he
 |x::es,n,d,l,r,h,e,he=>by
  rw[replayS]at h
  split at h
  ·rename_i hp
   obtain⟨_,_,_,h4,h5,h6,h7,h8,h9,h10,_⟩:=postS_ok hp
   rcases List.mem_cons.1 he with rfl|he
   ·exact⟨h4,h5,h6,h7,h8,h9,h10⟩
   ·have:=replayS_mem credit es _ _ _ r h e he
    rw[postS_ids]at this
    exact this
  ·cases h
theorem check_mem {a:TAccount} (h:checkA a=0):∀e,e∈a.Entries→0<e.Amount∧e.Amount≤1000000000000∧0≤e.Ref∧e.Ref≤1000000∧e.From≠e.To∧(e.From=0∨e.From∈ids a.Subs)∧(e.To=0∨e.To∈ids a.Subs):=by
 obtain⟨_,_,_,_,h5⟩:=check_ok h
 have:=replayS_mem _ _ _ _ _ _ h5
 rw[zeroS_ids]at this
 exact this
theorem inF_bound {a:TAccount} (h:checkA a=0) (from_ to:Int):∀e,e∈a.Entries→0≤inF from_ to e∧inF from_ to e≤1000000000000:=fun e he=>by
 have:=check_mem h e he
 unfold inF
 split<;>omega
theorem outF_bound {a:TAccount} (h:checkA a=0) (from_ to:Int):∀e,e∈a.Entries→0≤outF from_ to e∧outF from_ to e≤1000000000000:=fun e he=>by
 have:=check_mem h e he
 unfold outF
 split<;>omega
abbrev numsL (l:List Int):AV:= .list 1 (encL encI l)
theorem imm_nums (l:List Int):Imm (numsL l):=imm_encL _ imm_encI l
def newS (l:List Int):List TSub:=l.map fun i=>⟨i,0⟩
def newA (l:List Int) (credit:Int):TAccount:=⟨credit,newS l,[]⟩
theorem newS_ids (l:List Int):ids (newS l)=l:=by simp[ids,newS,Function.comp_def]
def openA (ids:List Int) (credit:Int):TAccount×Int:=
 if vB credit=true then if 20<ids.length then (zeroA,3)else if numB ids=true then (newA ids credit,0)else (zeroA,60)else (zeroA,2)
open Go.PA
open Go.RowKit
abbrev paysL (l:List TPayment):AV:= .list 5 (encL TPayment.cells l)
abbrev batsL (l:List TBatch):AV:= .list 3 (encL TBatch.cells l)
theorem imm_pays (l:List TPayment):Imm (paysL l):=imm_encL _ TPayment.imm _
theorem imm_bats (l:List TBatch):Imm (batsL l):=imm_encL _ TBatch.imm _
theorem cPy (p:TPayment):p.cells=[iv p.Warrant,iv p.Payee,iv p.Amount,iv p.Due,iv p.Sub]:=rfl
theorem cBt (b:TBatch):b.cells=[iv b.Number,iv b.Day,paysL b.Payments]:=rfl
theorem cQu (q:TQueue):q.cells=[paysL q.Waiting,intsL q.Known,batsL q.Batches]:=rfl
theorem imm_pay (c:TPayment):Imm (.agg c.cells):=imm_agg.2 c.imm
theorem imm_bat (c:TBatch):Imm (.agg c.cells):=imm_agg.2 c.imm
theorem imm_que (c:TQueue):Imm (.agg c.cells):=imm_agg.2 c.imm
theorem drop_at {α:Type} {l:List α} {k:Nat} {e:α} (h:l[k]?=some e):l.drop k=e::l.drop (k+1):=by
 obtain⟨hk,rfl⟩:=List.getElem?_eq_some_iff.1 h
 exact List.drop_eq_getElem_cons hk
theorem take_at {α:Type} {l:List α} {k:Nat} {e:α} (h:l[k]?=some e):l.take (k+1)=l.take k++[e]:=by
 rw[List.take_add_one,h];rfl
def amg (n lo hi:Int):Bool:=decide (lo≤n)&&decide (n≤hi)
theorem amg_iff {n lo hi:Int}:amg n lo hi=true↔lo≤n∧n≤hi:=by simp[amg]
theorem amg_no {n lo hi:Int} (h:¬(lo≤n∧n≤hi)):amg n lo hi=false:=Bool.eq_false_iff.2 fun e=>h (amg_iff.1 e)
def payPB (p:TPayment):Bool:=amg p.Warrant 1 1000000&&(amg p.Payee 1 1000000&&(amg p.Amount 1 1000000000000&&(amg p.Due 0 35990&&amg p.Sub 1 1000)))
structure PayOk (p:TPayment):Prop where
 warrant:1≤p.Warrant∧p.Warrant≤1000000
 payee:1≤p.Payee∧p.Payee≤1000000
 amount:1≤p.Amount∧p.Amount≤1000000000000
 due:0≤p.Due∧p.Due≤35990
 sub:1≤p.Sub∧p.Sub≤1000
theorem payPB_iff (p:TPayment):payPB p=true↔PayOk p:=by
 simp only[payPB,Bool.and_eq_true,amg_iff]
 exact⟨fun⟨a,b,c,d,e⟩=>⟨a,b,c,d,e⟩,fun⟨a,b,c,d,e⟩=>⟨a,b,c,d,e⟩⟩
def Bef (a b:TPayment):Prop:=a.Due<b.Due∨a.Due=b.Due∧a.Warrant<b.Warrant
instance (a b:TPayment):Decidable (Bef a b):=by unfold Bef;infer_instance
def befB (a b:TPayment):Bool:=decide (Bef a b)
theorem befB_iff {a b:TPayment}:befB a b=true↔Bef a b:=by simp[befB]
theorem Bef.trans {a b c:TPayment} (h:Bef a b) (k:Bef b c):Bef a c:=by unfold Bef at*;omega
theorem Bef.tot {a b:TPayment} (h:a.Warrant≠b.Warrant):Bef a b∨Bef b a:=by unfold Bef;omega
def allO {α:Type} (o:Option α) (f:α→Bool):Bool:=match o with
 |none=>true
 |some x=>f x
theorem allO_iff {α:Type} {o:Option α} {f:α→Bool}:allO o f=true↔∀x,o=some x→f x=true:=by
 cases o<;>simp[allO]
def ordFrom:Option TPayment→List TPayment→Bool
 |_,[]=>true
 |o,p::l=>payPB p&&(allO o (fun x=>befB x p)&&ordFrom (some p) l)
def distFrom:List TPayment→List TPayment→Bool
 |_,[]=>true
 |pre,p::l=>!(pre.any fun x=>decide (x.Warrant=p.Warrant))&&distFrom (pre++[p]) l
def inK (K:List Int) (p:TPayment):Bool:=decide (p.Warrant∈K)
def ascB (K:List Int) (l:List TPayment):Bool:=ordFrom none l&&(l.all (inK K)&&distFrom [] l)
def knFrom:Option Int→List Int→Bool
 |_,[]=>true
 |o,n::l=>amg n 1 1000000&&(allO o (fun x=>decide (x<n))&&knFrom (some n) l)
def busB (d:Int):Bool:=amg d 0 36000&&decide (d%7<5)
def batB (K:List Int) (i d:Int) (b:TBatch):Bool:=decide (b.Number=i+1)&&(decide (d≤b.Day)&&(busB b.Day&&(amg b.Payments.length 1 10&&ascB K b.Payments)))
def batsFrom (K:List Int):Int→Int→List TBatch→Bool
 |_,_,[]=>true
 |i,d,b::l=>batB K i d b&&batsFrom K (i+1) b.Day l
def checkQ (q:TQueue):Int:=
 if 100<q.Waiting.length∨200<q.Known.length∨200<q.Batches.length then 3 else if (knFrom none q.Known&&(ascB q.Known q.Waiting&&batsFrom q.Known 0 0 q.Batches))=true then 0 else 64
theorem ordFrom_iff:∀(l:List TPayment) (o:Option TPayment),ordFrom o l=true↔(∀p,p∈l→PayOk p)∧(∀x,o=some x→∀p,p∈l→Bef x p)∧l.Pairwise Bef
 |[],o=>by simp[ordFrom]
 |p::l,o=>by
  rw[ordFrom,Bool.and_eq_true,Bool.and_eq_true,ordFrom_iff l (some p),payPB_iff,allO_iff,List.pairwise_cons]
  simp only[befB_iff,List.mem_cons]
  constructor
  ·rintro⟨h1,h2,h3,h4,h5⟩
   refine⟨?_,?_,h4 p rfl,h5⟩
   ·rintro x (rfl|hx)
    ·exact h1
    ·exact h3 x hx
   ·rintro x hx y (rfl|hy)
    ·exact h2 x hx
    ·exact (h2 x hx).trans (h4 p rfl y hy)
  ·rintro⟨h1,h2,h3,h4⟩
   refine⟨h1 p (.inl rfl),fun x hx=>h2 x hx p (.inl rfl),fun x hx=>h1 x (.inr hx),?_,h4⟩
   rintro x hx y hy
   cases hx
   exact h3 y hy
theorem distFrom_iff:∀(l pre:List TPayment),distFrom pre l=true↔(∀p,p∈l→∀x,x∈pre→x.Warrant≠p.Warrant)∧(l.map (·.Warrant)).Nodup
 |[],pre=>by simp[distFrom]
 |p::l,pre=>by
  rw[distFrom,Bool.and_eq_true,Bool.not_eq_true',distFrom_iff l,List.map_cons,List.nodup_cons,List.any_eq_false]
  simp only[decide_eq_true_eq,List.mem_append,List.mem_cons,List.not_mem_nil,or_false,List.mem_map,not_exists,not_and]
  constructor
  ·rintro⟨h1,h2,h3⟩
   refine⟨?_,fun x hx e=>h2 x hx p (.inr rfl) e.symm,h3⟩
   rintro x (rfl|hx) y hy
   ·exact h1 y hy
   ·exact h2 x hx y (.inl hy)
  ·rintro⟨h1,h2,h3⟩
   refine⟨fun y hy=>h1 p (.inl rfl) y hy,?_,h3⟩
   rintro x hx y (hy|rfl)
   ·exact h1 x (.inr hx) y hy
   ·exact fun e=>h2 x hx e.symm
structure AscOk (K:List Int) (l:List TPayment):Prop where
 pay:∀p,p∈l→PayOk p
 ord:l.Pairwise Bef
 kn:∀p,p∈l→p.Warrant∈K
 nd:(l.map (·.Warrant)).Nodup
theorem ascB_iff {K:List Int} {l:List TPayment}:ascB K l=true↔AscOk K l:=by
 rw[ascB,Bool.and_eq_true,Bool.and_eq_true,ordFrom_iff,distFrom_iff,List.all_eq_true]
 simp only[inK,decide_eq_true_eq]
 constructor
 ·rintro⟨⟨h1,_,h2⟩,h3,_,h4⟩
  exact⟨h1,h2,h3,h4⟩
 ·rintro⟨h1,h2,h3,h4⟩
  exact⟨⟨h1,by simp,h2⟩,h3,by simp,h4⟩
theorem knFrom_iff:∀(l:List Int) (o:Option Int),knFrom o l=true↔(∀p,p∈l→1≤p∧p≤1000000)∧(∀x,o=some x→∀p,p∈l→x<p)∧l.Pairwise (·<·)
 |[],o=>by simp[knFrom]
 |p::l,o=>by
  rw[knFrom,Bool.and_eq_true,Bool.and_eq_true,knFrom_iff l (some p),amg_iff,allO_iff,List.pairwise_cons]
  simp only[decide_eq_true_eq,List.mem_cons]
  constructor
  ·rintro⟨h1,h2,h3,h4,h5⟩
   refine⟨?_,?_,h4 p rfl,h5⟩
   ·rintro x (rfl|hx)
    ·exact h1
    ·exact h3 x hx
   ·rintro x hx y (rfl|hy)
    ·exact h2 x hx
    ·exact Int.lt_trans (h2 x hx) (h4 p rfl y hy)
  ·rintro⟨h1,h2,h3,h4⟩
   refine⟨h1 p (.inl rfl),fun x hx=>h2 x hx p (.inl rfl),fun x hx=>h1 x (.inr hx),?_,h4⟩
   rintro x hx y hy
   cases hx
   exact h3 y hy
structure QOk (q:TQueue):Prop where
 lw:q.Waiting.length≤100
 lk:q.Known.length≤200
 lb:q.Batches.length≤200
 kn:∀w,w∈q.Known→1≤w∧w≤1000000
 ks:q.Known.Pairwise (·<·)
 asc:AscOk q.Known q.Waiting
 bats:batsFrom q.Known 0 0 q.Batches=true
theorem checkQ_iff {q:TQueue}:checkQ q=0↔QOk q:=by
 unfold checkQ
 split
 ·rename_i h
  exact⟨fun e=>absurd e (by decide),fun⟨h1,h2,h3,_,_,_,_⟩=>by omega⟩
 ·rename_i h
  split
  ·rename_i h1
   rw[Bool.and_eq_true,Bool.and_eq_true,knFrom_iff,ascB_iff]at h1
   exact⟨fun _=>⟨by omega,by omega,by omega,h1.1.1,h1.1.2.2,h1.2.1,h1.2.2⟩,fun _=>rfl⟩
  ·rename_i h1
   refine⟨fun e=>absurd e (by decide),fun⟨_,_,_,h4,h5,h6,h7⟩=>absurd ?_ h1⟩
   rw[Bool.and_eq_true,Bool.and_eq_true,knFrom_iff,ascB_iff]
   exact⟨⟨h4,by simp,h5⟩,h6,h7⟩
structure FitQ (q:TQueue):Prop where
 w:q.Waiting.length≤100000
 k:q.Known.length≤100000
 b:q.Batches.length≤100000
 each:∀b,b∈q.Batches→b.Payments.length≤100000
theorem batsFrom_len {K:List Int}:∀{l:List TBatch} {i d:Int},batsFrom K i d l=true→∀b,b∈l→1≤b.Payments.length∧b.Payments.length≤10∧AscOk K b.Payments∧busB b.Day=true∧d≤b.Day
 |[],_,_,_,b,hb=>by cases hb
 |a::l,i,d,h,b,hb=>by
  rw[batsFrom,batB]at h
  simp only[Bool.and_eq_true,amg_iff,ascB_iff,decide_eq_true_eq]at h
  rcases List.mem_cons.1 hb with rfl|hb
  ·obtain⟨⟨_,h2,h3,h4,h5⟩,_⟩:=h
   exact⟨by omega,by omega,h5,h3,h2⟩
  ·obtain⟨h1,h2,h3,h4,h5⟩:=batsFrom_len h.2 b hb
   exact⟨h1,h2,h3,h4,by have:=h.1.2.1;omega⟩
theorem QOk.fit {q:TQueue} (h:QOk q):FitQ q:=⟨by have:=h.lw;omega,by have:=h.lk;omega,by have:=h.lb;omega,fun b hb=>by have:=batsFrom_len h.bats b hb;omega⟩
abbrev zeroQ:TQueue:=⟨[],[],[]⟩
abbrev zeroB:TBatch:=⟨0,0,[]⟩
def ins {α:Type} (lt:α→α→Bool) (l:List α) (a:α):List α:=l.takeWhile (fun x=>lt x a)++a::l.dropWhile (fun x=>lt x a)
def ltB (a b:Int):Bool:=decide (a<b)
def waitQ (q:TQueue) (w:Int):Int:=idxI (fun p:TPayment=>decide (p.Warrant=w)) q.Waiting
def addQ (q:TQueue) (p:TPayment):TQueue×Int:=
 if checkQ q=0 then (if payPB p=true then (if p.Warrant∈q.Known then (zeroQ,65)else if q.Waiting.length=100∨q.Known.length=200 then (zeroQ,3)else (⟨ins befB q.Waiting p,ins ltB q.Known p.Warrant,q.Batches⟩,0))else (zeroQ,64))else (zeroQ,checkQ q)
def againQ (q:TQueue) (p:TPayment):TQueue×Int:=
 if checkQ q=0 then (if payPB p=true then (if p.Warrant∈q.Known then (if 0≤waitQ q p.Warrant then (zeroQ,65)else if q.Waiting.length=100 then (zeroQ,3)else (⟨ins befB q.Waiting p,q.Known,q.Batches⟩,0))else (zeroQ,6))else (zeroQ,64))else (zeroQ,checkQ q)
def dropQ (q:TQueue) (w:Int):TQueue×Int:=
 if checkQ q=0 then (if waitQ q w<0 then (zeroQ,6)else (⟨q.Waiting.eraseIdx (waitQ q w).toNat,q.Known,q.Batches⟩,0))else (zeroQ,checkQ q)
def readyQ (q:TQueue) (day:Int):List TPayment:=if checkQ q=0 then q.Waiting.filter (fun p=>decide (p.Due≤day))else []
def lastQ (q:TQueue):Int:=match q.Batches.getLast? with
 |none=>0
 |some b=>b.Day
def takenB (ws:List Int) (p:TPayment):Bool:=decide (p.Warrant∈ws)
def dueB (q:TQueue) (day:Int) (ws:List Int):Bool:=decide (ws.Nodup)&&ws.all fun w=>q.Waiting.any fun p=>decide (p.Warrant=w)&&decide (p.Due≤day)
def takeB (q:TQueue) (day:Int) (ws:List Int):TBatch:=⟨q.Batches.length+1,day,q.Waiting.filter (takenB ws)⟩
def takeQ (q:TQueue) (day:Int) (ws:List Int):TQueue×TBatch×Int:=
 if checkQ q=0 then (if busB day=true then (if day<lastQ q then (zeroQ,zeroB,8)else if ws.length=0 then (zeroQ,zeroB,10)else if 10<ws.length∨200≤q.Batches.length then (zeroQ,zeroB,3)else if dueB q day ws=true then (⟨q.Waiting.filter (fun p=>!takenB ws p),q.Known,q.Batches++[takeB q day ws]⟩,takeB q day ws,0)else (zeroQ,zeroB,6))else (zeroQ,zeroB,66))else (zeroQ,zeroB,checkQ q)
open Go.PA
open Go.RowKit
theorem ins_split {α:Type} (lt:α→α→Bool) (l:List α) (a:α):∃A B,l=A++B∧ins lt l a=A++a::B∧(∀x,x∈A→lt x a=true)∧∀x,B.head?=some x→lt x a=false:=by
 refine⟨l.takeWhile fun x=>lt x a,l.dropWhile fun x=>lt x a,by rw[List.takeWhile_append_dropWhile],rfl,fun x hx=>?_,fun x hx=>?_⟩
 ·exact List.all_eq_true.1 (List.all_takeWhile (p:=fun x=>lt x a) (l:=l)) x hx
 ·have:=List.head?_dropWhile_not (p:=fun x=>lt x a) (l:=l)
  rw[hx]at this
  simpa using this
theorem ins_perm {α:Type} (lt:α→α→Bool) (l:List α) (a:α):(ins lt l a).Perm (a::l):=by
 obtain⟨A,B,h1,h2,_⟩:=ins_split lt l a
 rw[h2,h1]
 exact List.perm_middle
theorem ins_len {α:Type} (lt:α→α→Bool) (l:List α) (a:α):(ins lt l a).length=l.length+1:=by
 rw[(ins_perm lt l a).length_eq];rfl
theorem mem_ins {α:Type} {lt:α→α→Bool} {l:List α} {a x:α}:x∈ins lt l a↔x=a∨x∈l:=by
 rw[(ins_perm lt l a).mem_iff,List.mem_cons]
theorem ins_sorted {α:Type} {lt:α→α→Bool} {R:α→α→Prop} (hR:∀x y,lt x y=true↔R x y) (tr:∀{x y z},R x y→R y z→R x z) {l:List α} {a:α} (hl:l.Pairwise R) (tot:∀x,x∈l→R x a∨R a x):(ins lt l a).Pairwise R:=by
 obtain⟨A,B,rfl,h2,h3,h4⟩:=ins_split lt l a
 rw[h2]
 rw[List.pairwise_append]at hl⊢
 obtain⟨p1,p2,p3⟩:=hl
 have ha:∀x,x∈B→R a x:=by
  cases B with
  |nil=>simp
  |cons b B=>
   have hb:R a b:=(tot b (by simp)).resolve_left fun h=>by
    have:=h4 b rfl
    rw[(hR _ _).2 h]at this
    cases this
   intro x hx
   rcases List.mem_cons.1 hx with rfl|hx
   ·exact hb
   ·exact tr hb (List.rel_of_pairwise_cons p2 hx)
 refine⟨p1,List.pairwise_cons.2 ⟨ha,p2⟩,fun x hx y hy=>?_⟩
 rcases List.mem_cons.1 hy with rfl|hy
 ·exact (hR _ _).1 (h3 x hx)
 ·exact p3 x hx y hy
theorem befB_bef (a b:TPayment):befB a b=true↔Bef a b:=befB_iff
theorem ltB_lt (a b:Int):ltB a b=true↔a<b:=by simp[ltB]
theorem waitQ_none {q:TQueue} {w:Int}:waitQ q w<0↔∀p,p∈q.Waiting→p.Warrant≠w:=by
 unfold waitQ
 rcases idxI_spec (fun p:TPayment=>decide (p.Warrant=w)) q.Waiting with⟨h1,h2⟩|⟨i,a,h1,h2,h3,h4⟩
 ·rw[h1]
  exact⟨fun _ p hp=>by simpa using h2 p hp,fun _=>by omega⟩
 ·rw[h3]
  exact⟨fun h=>by omega,fun h=>absurd (by simpa using h2) (h a (List.mem_of_getElem? h1))⟩
theorem waitQ_some {q:TQueue} {w:Int} (h:¬waitQ q w<0):∃(i:Nat) (p:TPayment),waitQ q w=i∧q.Waiting[i]?=some p∧p.Warrant=w∧i<q.Waiting.length:=by
 unfold waitQ at*
 rcases idxI_spec (fun p:TPayment=>decide (p.Warrant=w)) q.Waiting with⟨h1,h2⟩|⟨i,a,h1,h2,h3,h4⟩
 ·omega
 ·exact⟨i,a,h3,h1,by simpa using h2,(gsI h1)⟩
theorem AscOk.mono {K K':List Int} {l:List TPayment} (h:AscOk K l) (hk:∀w,w∈K→w∈K'):AscOk K' l:=⟨h.pay,h.ord,fun p hp=>hk _ (h.kn p hp),h.nd⟩
theorem AscOk.sub {K:List Int} {l l':List TPayment} (h:AscOk K l) (hs:l'.Sublist l):AscOk K l':=⟨fun p hp=>h.pay p (hs.subset hp),h.ord.sublist hs,fun p hp=>h.kn p (hs.subset hp),h.nd.sublist (hs.map _)⟩
theorem batB_mono {K K':List Int} (hk:∀w,w∈K→w∈K') {i d:Int} {b:TBatch} (h:batB K i d b=true):batB K' i d b=true:=by
 unfold batB at*
 simp only[Bool.and_eq_true,ascB_iff]at h⊢
 exact⟨h.1,h.2.1,h.2.2.1,h.2.2.2.1,h.2.2.2.2.mono hk⟩
theorem batsFrom_mono {K K':List Int} (hk:∀w,w∈K→w∈K'):∀{l:List TBatch} {i d:Int},batsFrom K i d l=true→batsFrom K' i d l=true
 |[],_,_,_=>rfl
 |b::l,i,d,h=>by
  rw[batsFrom,Bool.and_eq_true]at h⊢
  exact⟨batB_mono hk h.1,batsFrom_mono hk h.2⟩
def lastFrom (d:Int) (l:List TBatch):Int:=match l.getLast? with
 |none=>d
 |some b=>b.Day
theorem lastFrom_cons (d:Int) (b:TBatch) (l:List TBatch):lastFrom d (b::l)=lastFrom b.Day l:=by
 unfold lastFrom
 cases l with
 |nil=>rfl
 |cons c l=>rw[List.getLast?_cons_cons];cases h:(c::l).getLast? with
  |none=>simp at h
  |some x=>rfl
theorem batsFrom_snoc {K:List Int} {b:TBatch}:∀{l:List TBatch} {i d:Int},batsFrom K i d l=true→batB K (i+l.length) (lastFrom d l) b=true→batsFrom K i d (l++[b])=true
 |[],i,d,_,h=>by
  have:batB K i d b=true:=by simpa[lastFrom]using h
  simp[batsFrom,this]
 |c::l,i,d,h,k=>by
  rw[batsFrom,Bool.and_eq_true]at h
  rw[List.cons_append,batsFrom,Bool.and_eq_true]
  rw[lastFrom_cons,List.length_cons]at k
  exact⟨h.1,batsFrom_snoc h.2 (by rw[show i+1+(l.length:Int)=i+((l.length+1:Nat):Int) by omega];exact k)⟩
theorem QOk.nod {q:TQueue} (h:QOk q) {w:Int} (hw:w∉q.Known):∀p,p∈q.Waiting→p.Warrant≠w:=fun p hp e=>hw (e▸h.asc.kn p hp)
theorem AscOk.ins {K:List Int} {l:List TPayment} {p:TPayment} (h:AscOk K l) (hp:PayOk p) (hk:p.Warrant∈K) (hn:∀x,x∈l→x.Warrant≠p.Warrant):AscOk K (ins befB l p):=by
 refine⟨fun x hx=>?_,ins_sorted befB_bef Bef.trans h.ord fun x hx=>Bef.tot (hn x hx),fun x hx=>?_,?_⟩
 ·rcases mem_ins.1 hx with rfl|hx
  ·exact hp
  ·exact h.pay x hx
 ·rcases mem_ins.1 hx with rfl|hx
  ·exact hk
  ·exact h.kn x hx
 ·refine (((ins_perm befB l p).map (·.Warrant)).nodup_iff).2 ?_
  rw[List.map_cons,List.nodup_cons]
  refine⟨fun hm=>?_,h.nd⟩
  obtain⟨x,hx,e⟩:=List.mem_map.1 hm
  exact hn x hx e
theorem addQ_ok {q x:TQueue} {p:TPayment} (h:addQ q p=(x,0)):QOk q∧PayOk p∧p.Warrant∉q.Known∧q.Waiting.length<100∧q.Known.length<200∧x=⟨ins befB q.Waiting p,ins ltB q.Known p.Warrant,q.Batches⟩∧QOk x:=by
 unfold addQ at h
 split at h
 ·rename_i c1
  split at h
  ·rename_i c2
   split at h
   ·simp at h
   ·rename_i c3
    split at h
    ·simp at h
    ·rename_i c4
     have hq:=checkQ_iff.1 c1
     have hp:=(payPB_iff p).1 c2
     have:=hq.lw
     have:=hq.lk
     have hm:∀w,w∈q.Known→w∈ins ltB q.Known p.Warrant:=fun w hw=>mem_ins.2 (.inr hw)
     simp only[Prod.mk.injEq,and_true]at h
     refine⟨hq,hp,c3,by omega,by omega,h.symm,h▸⟨?_,?_,hq.lb,?_,?_,?_,?_⟩⟩
     ·simp only[ins_len];omega
     ·simp only[ins_len];omega
     ·intro w hw
      rcases mem_ins.1 hw with rfl|hw
      ·exact hp.warrant
      ·exact hq.kn w hw
     ·refine ins_sorted ltB_lt Int.lt_trans hq.ks fun x hx=>?_
      have:x≠p.Warrant:=fun e=>c3 (e▸hx)
      omega
     ·exact (hq.asc.mono hm).ins hp (mem_ins.2 (.inl rfl)) (hq.nod c3)
     ·exact batsFrom_mono hm hq.bats
  ·simp at h
 ·rename_i c1
  simp only[Prod.mk.injEq]at h
  exact absurd h.2 c1
theorem againQ_ok {q x:TQueue} {p:TPayment} (h:againQ q p=(x,0)):QOk q∧PayOk p∧p.Warrant∈q.Known∧(∀y,y∈q.Waiting→y.Warrant≠p.Warrant)∧q.Waiting.length<100∧x=⟨ins befB q.Waiting p,q.Known,q.Batches⟩∧QOk x:=by
 unfold againQ at h
 split at h
 ·rename_i c1
  split at h
  ·rename_i c2
   split at h
   ·rename_i c3
    split at h
    ·simp at h
    ·rename_i c4
     split at h
     ·simp at h
     ·rename_i c5
      have hq:=checkQ_iff.1 c1
      have hp:=(payPB_iff p).1 c2
      have:=hq.lw
      have hn:=waitQ_none.1 (show waitQ q p.Warrant<0 by omega)
      simp only[Prod.mk.injEq,and_true]at h
      refine⟨hq,hp,c3,hn,by omega,h.symm,h▸⟨?_,hq.lk,hq.lb,hq.kn,hq.ks,?_,hq.bats⟩⟩
      ·simp only[ins_len];omega
      ·exact hq.asc.ins hp c3 hn
   ·simp at h
  ·simp at h
 ·rename_i c1
  simp only[Prod.mk.injEq]at h
  exact absurd h.2 c1
theorem dropQ_ok {q x:TQueue} {w:Int} (h:dropQ q w=(x,0)):QOk q∧(∃p,p∈q.Waiting∧p.Warrant=w)∧x=⟨q.Waiting.eraseIdx (waitQ q w).toNat,q.Known,q.Batches⟩∧QOk x:=by
 unfold dropQ at h
 split at h
 ·rename_i c1
  split at h
  ·simp at h
  ·rename_i c2
   have hq:=checkQ_iff.1 c1
   obtain⟨i,p,h1,h2,h3,h4⟩:=waitQ_some c2
   simp only[Prod.mk.injEq,and_true]at h
   refine⟨hq,⟨p,List.mem_of_getElem? h2,h3⟩,h.symm,h▸⟨?_,hq.lk,hq.lb,hq.kn,hq.ks,hq.asc.sub (List.eraseIdx_sublist _ _),hq.bats⟩⟩
   have:=(List.eraseIdx_sublist q.Waiting (waitQ q w).toNat).length_le
   have:=hq.lw
   simp only
   omega
 ·rename_i c1
  simp only[Prod.mk.injEq]at h
  exact absurd h.2 c1
theorem nodup_sub:∀(M ws:List Int),M.Nodup→(∀x,x∈M→x∈ws)→M.length≤ws.length∧(M.length=ws.length→ws.Nodup∧∀x,x∈ws→x∈M)
 |[],ws,_,_=>⟨by simp,fun h=>by
   have:ws=[]:=List.eq_nil_of_length_eq_zero h.symm
   subst this
   simp⟩
 |a::M,ws,hn,hs=>by
  have ha:=hs a (by simp)
  have hp:=List.perm_cons_erase ha
  rw[List.nodup_cons]at hn
  have hl:ws.length=(ws.erase a).length+1:=hp.length_eq
  obtain⟨i1,i2⟩:=nodup_sub M (ws.erase a) hn.2 fun x hx=>(List.mem_erase_of_ne (fun e=>hn.1 (by rw[←e];exact hx))).2 (hs x (by simp[hx]))
  refine⟨by simp only[List.length_cons];omega,fun h=>?_⟩
  simp only[List.length_cons]at h
  obtain⟨j1,j2⟩:=i2 (by omega)
  refine⟨hp.nodup_iff.2 (List.nodup_cons.2 ⟨fun hm=>hn.1 (j2 a hm),j1⟩),fun x hx=>?_⟩
  rcases List.mem_cons.1 (hp.mem_iff.1 hx)with rfl|hx
  ·simp
  ·exact List.mem_cons_of_mem _ (j2 x hx)
theorem uniqW {l:List TPayment} (h:(l.map (·.Warrant)).Nodup) {p p':TPayment} (hp:p∈l) (hp':p'∈l) (e:p.Warrant=p'.Warrant):p=p':=by
 induction l with
 |nil=>cases hp
 |cons a l ih=>
  rw[List.map_cons,List.nodup_cons]at h
  rcases List.mem_cons.1 hp with e1|hp
  ·rcases List.mem_cons.1 hp' with e2|hp'
   ·rw[e1,e2]
   ·exact absurd (List.mem_map.2 ⟨p',hp',by rw[←e,e1]⟩) h.1
  ·rcases List.mem_cons.1 hp' with e2|hp'
   ·exact absurd (List.mem_map.2 ⟨p,hp,by rw[e,e2]⟩) h.1
   ·exact ih h.2 hp hp'
theorem dueB_iff {q:TQueue} {day:Int} {ws:List Int}:dueB q day ws=true↔ws.Nodup∧∀w,w∈ws→∃p,p∈q.Waiting∧p.Warrant=w∧p.Due≤day:=by
 simp[dueB]
theorem dueB_filter {q:TQueue} {day:Int} {ws:List Int} (hn:(q.Waiting.map (·.Warrant)).Nodup) (h:dueB q day ws=true):(q.Waiting.filter fun p=>decide (p.Due≤day)).filter (takenB ws)=q.Waiting.filter (takenB ws):=by
 obtain⟨_,h⟩:=dueB_iff.1 h
 rw[List.filter_filter]
 refine List.filter_congr fun p hp=>?_
 cases ht:takenB ws p
 ·rfl
 ·obtain⟨p',h1,h2,h3⟩:=h p.Warrant (by simpa[takenB]using ht)
  have:=uniqW hn h1 hp h2
  subst this
  simp[h3]
theorem dueB_len {q:TQueue} {day:Int} {ws:List Int} (hn:(q.Waiting.map (·.Warrant)).Nodup):((q.Waiting.filter fun p=>decide (p.Due≤day)).filter (takenB ws)).length=ws.length↔dueB q day ws=true:=by
 have hM:=hn.sublist (((List.filter_sublist (p:=takenB ws)).trans (List.filter_sublist (l:=q.Waiting) (p:=fun p=>decide (p.Due≤day)))).map (·.Warrant))
 have hs:∀x,x∈((q.Waiting.filter fun p=>decide (p.Due≤day)).filter (takenB ws)).map (·.Warrant)→x∈ws:=fun x hx=>by
  obtain⟨p,hp,rfl⟩:=List.mem_map.1 hx
  simpa[takenB]using (List.mem_filter.1 hp).2
 obtain⟨h1,h2⟩:=nodup_sub _ ws hM hs
 rw[List.length_map]at h1 h2
 rw[dueB_iff]
 constructor
 ·intro h
  obtain⟨h3,h4⟩:=h2 h
  refine⟨h3,fun w hw=>?_⟩
  obtain⟨p,hp,e⟩:=List.mem_map.1 (h4 w hw)
  obtain⟨hp,_⟩:=List.mem_filter.1 hp
  obtain⟨hp,hd⟩:=List.mem_filter.1 hp
  exact⟨p,hp,e,by simpa using hd⟩
 ·rintro⟨h3,h4⟩
  have:=h3.length_le_of_subset (l₂:=((q.Waiting.filter fun p=>decide (p.Due≤day)).filter (takenB ws)).map (·.Warrant)) fun w hw=>by
   obtain⟨p,hp,e,hd⟩:=h4 w hw
   exact List.mem_map.2 ⟨p,List.mem_filter.2 ⟨List.mem_filter.2 ⟨hp,by simpa using hd⟩,by simpa[takenB,e]using hw⟩,e⟩
  rw[List.length_map]at this
  omega
theorem taken_len {q:TQueue} {day:Int} {ws:List Int} (hn:(q.Waiting.map (·.Warrant)).Nodup) (h:dueB q day ws=true):(q.Waiting.filter (takenB ws)).length=ws.length:=by
 rw[←dueB_filter hn h]
 exact (dueB_len hn).2 h
theorem takeQ_ok {q x:TQueue} {b:TBatch} {day:Int} {ws:List Int} (h:takeQ q day ws=(x,b,0)):QOk q∧busB day=true∧lastQ q≤day∧1≤ws.length∧ws.length≤10∧dueB q day ws=true∧x=⟨q.Waiting.filter (fun p=>!takenB ws p),q.Known,q.Batches++[takeB q day ws]⟩∧b=takeB q day ws∧QOk x:=by
 unfold takeQ at h
 split at h
 ·rename_i c1
  split at h
  ·rename_i c2
   split at h
   ·simp at h
   ·rename_i c3
    split at h
    ·simp at h
    ·rename_i c4
     split at h
     ·simp at h
     ·rename_i c5
      split at h
      ·rename_i c6
       have hq:=checkQ_iff.1 c1
       simp only[Prod.mk.injEq,and_true]at h
       refine⟨hq,c2,by omega,by omega,by omega,c6,h.1.symm,h.2.symm,h.1▸⟨?_,hq.lk,?_,hq.kn,hq.ks,hq.asc.sub List.filter_sublist,?_⟩⟩
       ·have:=List.length_filter_le (fun p=>!takenB ws p) q.Waiting
        have:=hq.lw
        simp only
        omega
       ·simp only[List.length_append,List.length_cons,List.length_nil]
        omega
       ·refine batsFrom_snoc hq.bats ?_
        have:=taken_len hq.asc.nd c6
        simp only[batB,takeB,Bool.and_eq_true,ascB_iff,amg_iff]
        refine⟨decide_eq_true (by omega),decide_eq_true ?_,c2,by omega,hq.asc.sub List.filter_sublist⟩
        have:lastFrom 0 q.Batches=lastQ q:=rfl
        omega
      ·simp at h
  ·simp at h
 ·rename_i c1
  simp only[Prod.mk.injEq]at h
  exact absurd h.2.2 c1
open Go.PA
open Go.RowKit
abbrev itemsL (l:List TItem):AV:= .list 7 (encL TItem.cells l)
theorem imm_items (l:List TItem):Imm (itemsL l):=imm_encL _ TItem.imm _
theorem cIt (x:TItem):x.cells=[iv x.Payment.Warrant,iv x.Payment.Payee,iv x.Payment.Amount,iv x.Payment.Due,iv x.Payment.Sub,iv x.State,iv x.Attempts]:=rfl
theorem imm_item (c:TItem):Imm (.agg c.cells):=imm_agg.2 c.imm
theorem imm_desk (c:TDesk):Imm (.agg c.cells):=imm_agg.2 c.imm
abbrev zeroD:TDesk:=⟨zeroA,zeroQ,[]⟩
def wrt (x:TItem):Int:=x.Payment.Warrant
structure FitD (d:TDesk):Prop where
 s:d.Account.Subs.length≤100000
 e:d.Account.Entries.length≤100000
 q:FitQ d.Queue
 i:d.Items.length≤100000
def outE (p:TPayment) (e:TEntry):Bool:=decide (e.Ref=p.Warrant)&&(decide (e.From=p.Sub)&&decide (e.To=0))
def inE (p:TPayment) (e:TEntry):Bool:=decide (e.Ref=p.Warrant)&&(decide (e.From=0)&&decide (e.To=p.Sub))
def okE (p:TPayment) (e:TEntry):Bool:=!decide (e.Ref=p.Warrant)||(decide (e.Amount=p.Amount)&&(decide (e.From=p.Sub)&&decide (e.To=0)||decide (e.From=0)&&decide (e.To=p.Sub)))
def goneB (x:TItem):Bool:=decide (x.State=2)||decide (x.State=3)
def goneN (x:TItem):Nat:=if goneB x=true then 1 else 0
def movedB (a:TAccount) (x:TItem):Bool:=a.Entries.all (okE x.Payment)&&(decide ((a.Entries.countP (outE x.Payment):Int)=x.Attempts)&&decide ((a.Entries.countP (inE x.Payment):Int)+goneN x=x.Attempts))
def hasW (w:Int) (p:TPayment):Bool:=decide (p.Warrant=w)
def batN (q:TQueue) (w:Int):Nat:=(q.Batches.map fun b=>b.Payments.countP (hasW w)).sum
def waitO (q:TQueue) (w:Int):Option TPayment:=q.Waiting.find? (hasW w)
def waitB (q:TQueue) (x:TItem):Bool:=match waitO q x.Payment.Warrant with
 |none=>!decide (x.State=1)
 |some w=>decide (x.State=1)&&decide (w=x.Payment)
def attB (x:TItem):Bool:=amg x.Attempts 0 5&&(!(decide (x.Attempts=5)&&decide (x.State=1))&&!(decide (x.Attempts=0)&&!(decide (x.State=1)||decide (x.State=5))))
def itemB (d:TDesk) (x:TItem):Bool:=payPB x.Payment&&((balanceA d.Account x.Payment.Sub).2&&(amg x.State 1 5&&(attB x&&(waitB d.Queue x&&(decide ((batN d.Queue x.Payment.Warrant:Int)=x.Attempts)&&movedB d.Account x)))))
def deskB (d:TDesk):Bool:=decide (d.Items.map wrt=d.Queue.Known)&&d.Items.all (itemB d)
def checkD (d:TDesk):Int:=if checkA d.Account=0 then (if checkQ d.Queue=0 then (if deskB d=true then 0 else 68)else checkQ d.Queue)else checkA d.Account
def queuedB (x:TItem):Bool:=decide (x.State=1)
theorem uniqI {l:List TItem} (h:(l.map wrt).Nodup) {x y:TItem} (hx:x∈l) (hy:y∈l) (e:x.Payment.Warrant=y.Payment.Warrant):x=y:=by
 induction l with
 |nil=>cases hx
 |cons a l ih=>
  rw[List.map_cons,List.nodup_cons]at h
  rcases List.mem_cons.1 hx with e1|hx
  ·rcases List.mem_cons.1 hy with e2|hy
   ·rw[e1,e2]
   ·exact absurd (List.mem_map.2 ⟨y,hy,by rw[wrt,←e,e1];rfl⟩) h.1
  ·rcases List.mem_cons.1 hy with e2|hy
   ·exact absurd (List.mem_map.2 ⟨x,hx,by rw[wrt,e,e2];rfl⟩) h.1
   ·exact ih h.2 hx hy
theorem waitO_none {q:TQueue} {w:Int}:waitO q w=none↔∀p,p∈q.Waiting→p.Warrant≠w:=by
 simp[waitO,hasW]
theorem waitO_some {q:TQueue} {w:Int} {p:TPayment} (h:waitO q w=some p):p∈q.Waiting∧p.Warrant=w:=⟨List.mem_of_find?_eq_some h,by simpa[hasW]using List.find?_some h⟩
theorem waitO_mem {q:TQueue} (hn:(q.Waiting.map (·.Warrant)).Nodup) {p:TPayment} (h:p∈q.Waiting):waitO q p.Warrant=some p:=by
 cases hw:waitO q p.Warrant with
 |none=>exact absurd rfl (waitO_none.1 hw p h)
 |some x=>
  obtain⟨h1,h2⟩:=waitO_some hw
  rw[uniqW hn h1 h h2]
theorem sorted_nodup {l:List Int} (h:l.Pairwise (·<·)):l.Nodup:=h.imp fun h=>by omega
theorem nodup_map_of {l:List TItem} (h:(l.map wrt).Nodup):∀f:TItem→Bool,(((l.filter f).map (·.Payment)).map (·.Warrant)).Nodup:=fun f=>by
 rw[List.map_map]
 exact h.sublist (List.filter_sublist.map _)
theorem nodup_of_map {α β:Type} {f:α→β} {l:List α} (h:(l.map f).Nodup):l.Nodup:=(List.pairwise_map.1 h).imp fun hab e=>hab (congrArg f e)
theorem wait_all {q:TQueue} {l:List TItem} (hq:QOk q) (hk:l.map wrt=q.Known) (hw:∀x,x∈l→(x.Payment∈q.Waiting↔x.State=1)) (hc:l.countP queuedB=q.Waiting.length):∀p,p∈q.Waiting→∃x,x∈l∧x.State=1∧x.Payment=p:=by
 have hnk:(l.map wrt).Nodup:=hk▸sorted_nodup hq.ks
 intro p hp
 by_cases h:p∈(l.filter queuedB).map (·.Payment)
 ·obtain⟨x,hx,e⟩:=List.mem_map.1 h
  obtain⟨h1,h2⟩:=List.mem_filter.1 hx
  exact⟨x,h1,by simpa[queuedB]using h2,e⟩
 ·exfalso
  have hn:(p::(l.filter queuedB).map (·.Payment)).Nodup:=List.nodup_cons.2 ⟨h,nodup_of_map (nodup_map_of hnk queuedB)⟩
  have:=hn.length_le_of_subset (l₂:=q.Waiting) fun y hy=>by
   rcases List.mem_cons.1 hy with rfl|hy
   ·exact hp
   ·obtain⟨x,hx,rfl⟩:=List.mem_map.1 hy
    obtain⟨h1,h2⟩:=List.mem_filter.1 hx
    exact (hw x h1).2 (by simpa[queuedB]using h2)
  rw[List.length_cons,List.length_map,←List.countP_eq_length_filter]at this
  omega
theorem waitB_iff {q:TQueue} {l:List TItem} (hq:QOk q) (hk:l.map wrt=q.Known):((∀x,x∈l→waitB q x=true)↔(∀x,x∈l→(x.Payment∈q.Waiting↔x.State=1))∧l.countP queuedB=q.Waiting.length):=by
 have hnk:(l.map wrt).Nodup:=hk▸sorted_nodup hq.ks
 have hnd:=hq.asc.nd
 constructor
 ·intro h
  have h1:∀x,x∈l→(x.Payment∈q.Waiting↔x.State=1):=fun x hx=>by
   have:=h x hx
   unfold waitB at this
   cases hw:waitO q x.Payment.Warrant with
   |none=>
    rw[hw]at this
    have h1:=waitO_none.1 hw
    exact⟨fun hm=>absurd rfl (h1 _ hm),fun e=>by simp[e]at this⟩
   |some w=>
    rw[hw]at this
    simp only[Bool.and_eq_true,decide_eq_true_eq]at this
    exact⟨fun _=>this.1,fun _=>this.2▸(waitO_some hw).1⟩
  refine⟨h1,?_⟩
  rw[List.countP_eq_length_filter]
  have a:=(nodup_of_map (nodup_map_of hnk queuedB)).length_le_of_subset (l₂:=q.Waiting) fun y hy=>by
   obtain⟨x,hx,rfl⟩:=List.mem_map.1 hy
   obtain⟨h2,h3⟩:=List.mem_filter.1 hx
   exact (h1 x h2).2 (by simpa[queuedB]using h3)
  have b:=(nodup_of_map hnd).length_le_of_subset (l₂:=(l.filter queuedB).map (·.Payment)) fun p hp=>by
   have hw:=hq.asc.kn p hp
   rw[←hk]at hw
   obtain⟨x,hx,e⟩:=List.mem_map.1 hw
   have hb:=h x hx
   have e:x.Payment.Warrant=p.Warrant:=e
   rw[waitB,e,waitO_mem hnd hp]at hb
   simp only[Bool.and_eq_true,decide_eq_true_eq]at hb
   exact List.mem_map.2 ⟨x,List.mem_filter.2 ⟨hx,by simp[queuedB,hb.1]⟩,hb.2.symm⟩
  rw[List.length_map]at a b
  omega
 ·rintro⟨h,hc⟩ x hx
  have hall:=wait_all hq hk h hc
  unfold waitB
  cases hw:waitO q x.Payment.Warrant with
  |none=>
   have h1:=waitO_none.1 hw
   simp only[Bool.not_eq_true',decide_eq_false_iff_not]
   exact fun e=>h1 _ ((h x hx).2 e) rfl
  |some w=>
   obtain⟨h1,h2⟩:=waitO_some hw
   obtain⟨y,hy,hs,e⟩:=hall w h1
   have:x=y:=uniqI hnk hx hy (by rw[←h2,e])
   subst this
   simp[hs,e]
def refB (w:Int) (e:TEntry):Bool:=decide (e.Ref=w)
def ltI (x y:TItem):Bool:=decide (x.Payment.Warrant<y.Payment.Warrant)
def posI (l:List TItem) (w:Int):Int:=idxI (fun x=>decide (x.Payment.Warrant=w)) l
def orderD (d:TDesk) (p:TPayment):TDesk×Int:=
 if checkD d=0 then (if (addQ d.Queue p).2=0 then (if (balanceA d.Account p.Sub).2=true then (if d.Account.Entries.any (refB p.Warrant)=true then (zeroD,65)else (⟨d.Account,(addQ d.Queue p).1,ins ltI d.Items ⟨p,1,0⟩⟩,0))else (zeroD,60))else (zeroD,(addQ d.Queue p).2))else (zeroD,checkD d)
structure Done1 where
 a:TAccount
 q:TQueue
 x:TItem
 e:Int
def changeD (d:TDesk) (w st:Int) (f:TDesk→TItem→Done1):TDesk×Int:=
 if checkD d=0 then (match d.Items[(posI d.Items w).toNat]? with
  |none=>(zeroD,6)
  |some x=>if posI d.Items w<0 then (zeroD,6)else if x.State=st then (if (f d x).e=0 then (⟨(f d x).a,(f d x).q,d.Items.set (posI d.Items w).toNat (f d x).x⟩,0)else (zeroD,(f d x).e))else (zeroD,67))else (zeroD,checkD d)
def recallF (w:Int) (d:TDesk) (x:TItem):Done1:=⟨d.Account,(dropQ d.Queue w).1,⟨x.Payment,5,x.Attempts⟩,(dropQ d.Queue w).2⟩
def settleF (d:TDesk) (x:TItem):Done1:=⟨d.Account,d.Queue,⟨x.Payment,3,x.Attempts⟩,0⟩
def returnF (w day:Int) (d:TDesk) (x:TItem):Done1:=⟨(postA d.Account (nextE d.Account day 0 x.Payment.Sub x.Payment.Amount w)).1,d.Queue,⟨x.Payment,4,x.Attempts⟩,(postA d.Account (nextE d.Account day 0 x.Payment.Sub x.Payment.Amount w)).2⟩
def recallD (d:TDesk) (w:Int):TDesk×Int:=changeD d w 1 (recallF w)
def settleD (d:TDesk) (w:Int):TDesk×Int:=changeD d w 2 settleF
def returnD (d:TDesk) (w day:Int):TDesk×Int:=changeD d w 2 (returnF w day)
def sendGo (day:Int):List TPayment→TAccount→List Int→Bool→TAccount×List Int×Bool
 |[],a,ws,full=>(a,ws,full)
 |p::l,a,ws,full=>if ws.length=10 then (a,ws,full)else
  if (postA a (nextE a day p.Sub 0 p.Amount p.Warrant)).2=0 then sendGo day l (postA a (nextE a day p.Sub 0 p.Amount p.Warrant)).1 (ws++[p.Warrant]) full else sendGo day l a ws (full||decide ((postA a (nextE a day p.Sub 0 p.Amount p.Warrant)).2=3))
def sentI (ws:List Int) (x:TItem):TItem:=if x.Payment.Warrant∈ws then⟨x.Payment,2,x.Attempts+1⟩else x
def lastDay (a:TAccount):Int:=(lastE a).Day
def goD (d:TDesk) (day:Int):TAccount×List Int×Bool:=sendGo day (readyQ d.Queue day) d.Account [] false
def sendD (d:TDesk) (day:Int):TDesk×TBatch×Int:=
 if checkD d=0 then (if busB day=true then (if day<lastQ d.Queue∨day<lastDay d.Account then (zeroD,zeroB,8)else
  if (goD d day).2.1.length=0 then (zeroD,zeroB,if (goD d day).2.2=true then 3 else 10)else
  if (takeQ d.Queue day (goD d day).2.1).2.2=0 then (⟨(goD d day).1,(takeQ d.Queue day (goD d day).2.1).1,d.Items.map (sentI (goD d day).2.1)⟩,(takeQ d.Queue day (goD d day).2.1).2.1,0)else (zeroD,zeroB,(takeQ d.Queue day (goD d day).2.1).2.2))else (zeroD,zeroB,66))else (zeroD,zeroB,checkD d)
structure DOk (d:TDesk):Prop where
 a:checkA d.Account=0
 q:QOk d.Queue
 k:d.Items.map wrt=d.Queue.Known
 i:∀x,x∈d.Items→itemB d x=true
theorem checkD_iff {d:TDesk}:checkD d=0↔DOk d:=by
 unfold checkD
 split
 ·rename_i h1
  split
  ·rename_i h2
   split
   ·rename_i h3
    rw[deskB,Bool.and_eq_true,decide_eq_true_eq,List.all_eq_true]at h3
    exact⟨fun _=>⟨h1,checkQ_iff.1 h2,h3.1,h3.2⟩,fun _=>rfl⟩
   ·rename_i h3
    refine⟨fun e=>absurd e (by decide),fun h=>absurd ?_ h3⟩
    rw[deskB,Bool.and_eq_true,decide_eq_true_eq,List.all_eq_true]
    exact⟨h.k,h.i⟩
  ·rename_i h2
   exact⟨fun e=>absurd e h2,fun h=>absurd (checkQ_iff.2 h.q) h2⟩
 ·rename_i h1
  exact⟨fun e=>absurd e h1,fun h=>absurd h.a h1⟩
open Go.PA
open Go.RowKit
theorem valid_pf (n:Int):PFun Tryz.prog none none 50 [iv n] (·=bv (vB n)):=by
 refine pfun_intro Tryz.func50 rfl (by simp[Tryz.f50]) (by kernel_rfl) ?_
 intro E hP hr hs hW hN
 by_cases h1:0≤n<;>by_cases h2:n≤1000000000000<;>simp -dsimp -implicitDefEqProofs [-getElem?_pos,go_sem,hP,h1,h2,vB,amongB]
theorem among_pf (n lo hi:Int):PFun Tryz.prog none none 95 [iv n,iv lo,iv hi] (·=bv (amongB n lo hi)):=by
 refine pfun_intro Tryz.func95 rfl (by simp[Tryz.f95]) (by kernel_rfl) ?_
 intro E hP hr hs hW hN
 by_cases h1:lo≤n<;>by_cases h2:n≤hi<;>simp -dsimp -implicitDefEqProofs [-getElem?_pos,go_sem,hP,h1,h2,amongB]
theorem positive_pf (n:Int):PFun Tryz.prog none none 253 [iv n] (·=bv (decide (0<n)&&vB n)):=by
 refine pfun_intro Tryz.func253 rfl (by simp[Tryz.f253]) (by kernel_rfl) ?_
 intro E hP hr hs hW hN
 by_cases h1:0<n
 ·have d1:decide (0<n)=true:=decide_eq_true h1
  simp -dsimp -implicitDefEqProofs [-getElem?_pos,go_sem,hP,d1]
  refine callB_pure (valid_pf n) hP en_50 (args_same (by simp -dsimp[-getElem?_pos,go_sem])) .sc ?_
  simp -dsimp -implicitDefEqProofs [-getElem?_pos,go_sem,hP,d1]
 ·simp -dsimp -implicitDefEqProofs [-getElem?_pos,go_sem,hP,h1]
theorem numbers_pf (l:List TSub) (hl:l.length≤100000):PFun Tryz.prog none none 131 [subsL l] (·=numsL (ids l)):=by
 refine pfun_intro Tryz.func131 rfl (by simp[Tryz.f131]) (by kernel_rfl) ?_
 intro E hP hr hs hW hN
 simp -dsimp -implicitDefEqProofs [-getElem?_pos,go_sem,hP]
 refine aloop_own 3 3 1 (by simp -dsimp[-getElem?_pos,go_sem]) ?_
 obtain⟨I,hI⟩:∃I:Nat→St→Prop,I=fun m s=>∃k id:Nat,k≤l.length∧m=l.length-k∧s.t 6=subsL l∧s.t 7=iv l.length∧s.t 8=iv k∧s.t 3= .sref id 0 k∧s.H[id]?=some (some ⟨3,1,encL encI (ids (l.take k))⟩):=⟨_,rfl⟩
 refine aloopF 3 hW I (l.length) (by rw[hN];rfl) ?_ ?_
 ·rw[hI]
  exact⟨0,0,by omega,by omega,by simp -dsimp[-getElem?_pos,go_sem],by simp -dsimp[-getElem?_pos,go_sem],by simp -dsimp[-getElem?_pos,go_sem],by simp -dsimp[-getElem?_pos,go_sem],by simp -dsimp[-getElem?_pos,go_sem,ids]⟩
 intro m s hs'
 rw[hI]at hs'
 obtain⟨k,id,hk,hm,t6,t7,t8,t3,hH⟩:=hs'
 have hlt:=(gsI hH)
 have hz:(ids (l.take k)).length=k:=by rw[ids_len];simp;omega
 simp -dsimp -implicitDefEqProofs [-getElem?_pos,go_sem,hP,t7,t8]
 refine condP (fun h=>?_) (fun h=>?_)
 ·have hk:k<l.length:=by simpa using h
  obtain⟨a,ha⟩:∃a,l[k]?=some a:=⟨_,List.getElem?_eq_getElem hk⟩
  have wk:=wrap_in ((k:Int)+1) (by omega)
  have e1:ids (l.take (k+1))=ids (l.take k)++[a.ID]:=by rw[List.take_add_one,ha];simp[ids]
  simp -dsimp -implicitDefEqProofs [-getElem?_pos,go_sem,hP,t6,t8,t3,ha,TSub.cells,hH,hz,hlt,wk]
  refine⟨by omega,by omega,?_⟩
  refine⟨l.length-(k+1),by omega,?_⟩
  rw[hI]
  exact⟨k+1,s.H.length+1,by omega,rfl,by simp -dsimp[-getElem?_pos,go_sem,t6],by simp -dsimp[-getElem?_pos,go_sem,t7],by simp -dsimp[-getElem?_pos,go_sem],by simp -dsimp[-getElem?_pos,go_sem],by rw[e1,←encL_snoc];simp -dsimp -implicitDefEqProofs [-getElem?_pos,go_sem,encI]⟩
 ·have hk:k=l.length:=by simp at h;omega
  subst hk
  refine frz id _ 3 1 (encL encI (ids l)) t3 (by rw[hH,List.take_length]) (by rw[encL_len,ids_len]) (imm_nums _) ?_
  simp -dsimp -implicitDefEqProofs [-getElem?_pos,go_sem,hP]
  exact done_imm (imm_nums _) rfl
set_option maxHeartbeats 1000000 in
theorem numbered_pf (l:List Int) (hl:l.length≤100000):PFun Tryz.prog none none 51 [numsL l] (·=bv (numB l)):=by
 refine pfun_intro Tryz.func51 rfl (by simp[Tryz.f51]) (by kernel_rfl) ?_
 intro E hP hr hs hW hN
 simp -dsimp -implicitDefEqProofs [-getElem?_pos,go_sem,hP]
 obtain⟨I,hI⟩:∃I:Nat→St→Prop,I=fun m s=>∃(k:Nat) (p:Int),k≤l.length∧m=l.length-k∧ascA 0 l=ascA p (l.drop k)∧(k=0→p=0)∧(∀j x,k=j+1→l[j]?=some x→p=x)∧s.t 0=numsL l∧s.t 5=numsL l∧s.t 6=iv l.length∧s.t 7=iv k:=⟨_,rfl⟩
 refine aloop0 I (l.length) (by rw[hN];rfl) ?_ ?_
 ·rw[hI]
  exact⟨0,0,by omega,by omega,by simp,by simp,by omega,by simp -dsimp[-getElem?_pos,go_sem],by simp -dsimp[-getElem?_pos,go_sem],by simp -dsimp[-getElem?_pos,go_sem],by simp -dsimp[-getElem?_pos,go_sem]⟩
 intro m s hs'
 rw[hI]at hs'
 obtain⟨k,p,hk,hm,hasc,hp0,hp1,t0,t5,t6,t7⟩:=hs'
 simp -dsimp -implicitDefEqProofs [-getElem?_pos,go_sem,hP,t6,t7]
 refine condP (fun h=>?_) (fun h=>?_)
 ·have hk:k<l.length:=by simpa using h
  obtain⟨x,hx⟩:∃x,l[k]?=some x:=⟨_,List.getElem?_eq_getElem hk⟩
  have wk:=wrap_in ((k:Int)+1) (by omega)
  have hdr:l.drop k=x::l.drop (k+1):=by
   obtain⟨h2,h3⟩:=List.getElem?_eq_some_iff.1 hx
   rw[List.drop_eq_getElem_cons h2,h3]
  rw[hdr,ascA]at hasc
  have fin:∀s':St,(amongB x 1 1000&&decide (p<x))=true→s'.t 0=s.t 0→s'.t 5=s.t 5→s'.t 6=s.t 6→s'.t 7=iv ((k:Int)+1)→∃n',n'<m∧I n' s':=fun s' hc e0 e5 e6 e7=>by
   refine⟨l.length-(k+1),by omega,?_⟩
   rw[hI]
   simp only[Bool.and_eq_true]at hc
   refine⟨k+1,x,by omega,rfl,by rw[hasc,hc.1,hc.2];simp,by omega,fun j y hj hy=>?_,by rw[e0,t0],by rw[e5,t5],by rw[e6,t6],by rw[e7];simp⟩
   have:j=k:=by omega
   subst this
   rw[hx]at hy
   exact Option.some.inj hy
  have bad:(amongB x 1 1000&&decide (p<x))=false→numB l=false:=fun h=>by
   rw[numB,hasc,←Bool.and_assoc (amongB _ _ _),h];simp
  simp -dsimp -implicitDefEqProofs [-getElem?_pos,go_sem,hP,t5,t7,hx,encI]
  refine callB_pure (among_pf x 1 1000) hP en_95 (args_same (by simp -dsimp[-getElem?_pos,go_sem])) .sc ?_
  by_cases c1:amongB x 1 1000=true
  rotate_left
  ·have:numB l=false:=bad (by simp[c1])
   simp -dsimp -implicitDefEqProofs [-getElem?_pos,go_sem,hP,c1,this]
  rcases Nat.eq_zero_or_pos k with hk0|hkp
  ·have d1:decide (0<k)=false:=decide_eq_false (by omega)
   simp -dsimp -implicitDefEqProofs [-getElem?_pos,go_sem,hP,c1,d1,t7,wk]
   exact fin _ (by have:=hp0 hk0;have:=amongB_iff.1 c1;simp[c1];omega) (by simp -dsimp[-getElem?_pos,go_sem]) (by simp -dsimp[-getElem?_pos,go_sem]) (by simp -dsimp[-getElem?_pos,go_sem]) (by simp -dsimp[-getElem?_pos,go_sem])
  ·obtain⟨j,rfl⟩:∃j,k=j+1:=⟨k-1,by omega⟩
   obtain⟨y,hy⟩:∃y,l[j]?=some y:=⟨_,List.getElem?_eq_getElem (by omega)⟩
   have d1:decide ((0:Int)<(j:Int)+1)=true:=decide_eq_true (by omega)
   have wj:=wrap_in ((j:Int)+1-1) (by omega)
   rw[Int.add_sub_cancel]at wj
   have hpy:=hp1 j y rfl hy
   have wk':=wrap_in ((j:Int)+1+1) (by omega)
   by_cases c3:x≤y
   ·have:numB l=false:=bad (by simp[c1];omega)
    simp -dsimp -implicitDefEqProofs [-getElem?_pos,go_sem,hP,c1,d1,t0,Int.add_sub_cancel,wj,hy,encI,c3,this]
   ·simp -dsimp -implicitDefEqProofs [-getElem?_pos,go_sem,hP,c1,d1,t0,Int.add_sub_cancel,wj,hy,encI,c3,t7,wk']
    exact fin _ (by simp[c1];omega) (by simp -dsimp[-getElem?_pos,go_sem]) (by simp -dsimp[-getElem?_pos,go_sem]) (by simp -dsimp[-getElem?_pos,go_sem]) (by simp -dsimp[-getElem?_pos,go_sem])
 ·have hk:k=l.length:=by simp at h;omega
  subst hk
  rw[List.drop_length]at hasc
  have hasc:ascA 0 l=true:=hasc
  cases l with
  |nil=>simp -dsimp -implicitDefEqProofs [-getElem?_pos,go_sem,hP,t0,numB]
  |cons x l=>
   have:numB (x::l)=decide (x=1):=by rw[numB,hasc];simp
   simp -dsimp -implicitDefEqProofs [-getElem?_pos,go_sem,hP,t0,this,encI]
structure Teller (H:Heap) (p q:Nat) (credit n d:Int) (l:List TSub):Prop where
 ne:p≠q
 obj:H[p]?=some (some ⟨216,4,[[iv credit,iv n,iv d,.sref q 0 l.length]]⟩)
 subs:H[q]?=some (some ⟨121,2,encL TSub.cells l⟩)
theorem Teller.kept {H H':Heap} {p q:Nat} {credit n d:Int} {l:List TSub} {X:List Nat} (h:Teller H p q credit n d l) (hk:Kept X H H') (hp:p∉X) (hq:q∉X):Teller H' p q credit n d l:=
 ⟨h.ne,hk _ _ hp h.obj,hk _ _ hq h.subs⟩
theorem Teller.ltp {H:Heap} {p q:Nat} {credit n d:Int} {l:List TSub} (h:Teller H p q credit n d l):p<H.length:=(List.getElem?_eq_some_iff.1 h.obj).1
theorem Teller.ltq {H:Heap} {p q:Nat} {credit n d:Int} {l:List TSub} (h:Teller H p q credit n d l):q<H.length:=(List.getElem?_eq_some_iff.1 h.subs).1
theorem isid_m {row src:Option Nat} (g:FuncId) (fn:Func) (hg:True) (a:TSub) (H:Heap) (b:Nat) (id:Int) (hb:H[b]?=some (some ⟨3,1,[[iv id]]⟩)):
  MFun Tryz.prog row src 313 [.agg a.cells,.ref b 0 0] H (fun r H'=>r=bv (decide (a.ID=id))∧Kept [] H H'):=by
 refine mfun_intro Tryz.func313 rfl (by simp[Tryz.f313]) (by kernel_rfl) (⟨_,H,rfl,kept_refl _ _⟩) ?_
 intro E hP hr hs hN
 have hlt:=(gsI hb)
 simp -dsimp -implicitDefEqProofs [-getElem?_pos,go_sem,hP,TSub.cells,hb,hlt]
 exact kept_push _ (kept_refl _ _)
theorem place_m {row src:Option Nat} {H:Heap} {p q:Nat} {credit n d:Int} {l:List TSub} (h:Teller H p q credit n d l) (hl:l.length≤100000) (id:Int):
  MFun Tryz.prog row src 292 [.ref p 0 0,iv id] H (fun r H'=>r=iv (placeI l id)∧Kept [] H H'):=by
 refine mfun_intro Tryz.func292 rfl (by simp[Tryz.f292]) (by kernel_rfl) (⟨_,H,rfl,kept_refl _ _⟩) ?_
 intro E hP hr hs hN
 have ho:=h.obj
 have hlt:=h.ltp
 simp -dsimp -implicitDefEqProofs [-getElem?_pos,go_sem,hP,ho,hlt]
 refine callB_m (by rw[hr,hs];exact index_m_sub l (.sref q 0 l.length) _ 313 [.ref H.length 0 0] (fun s=>decide (s.ID=id)) (.inr (.inr ⟨q,121,by rw[encL_len],by rw[List.getElem?_append_left h.ltq];exact h.subs⟩)) (by omega) en_313 (fun a _ H' hk=>isid_m 0 default trivial a H' _ id (hk _ _ (by simp) (by simp)))) hP en_175 ?_
 rintro r H' ⟨rfl,hk⟩
 simp -dsimp -implicitDefEqProofs [-getElem?_pos,go_sem,hP]
 exact⟨rfl,(kept_push _ (kept_refl _ _)).trans hk⟩
theorem known_m {row src:Option Nat} {H:Heap} {p q:Nat} {credit n d:Int} {l:List TSub} (h:Teller H p q credit n d l) (hl:l.length≤100000) (id:Int):
  MFun Tryz.prog row src 254 [.ref p 0 0,iv id] H (fun r H'=>r=bv (knownB l id)∧Kept [] H H'):=by
 refine mfun_intro Tryz.func254 rfl (by simp[Tryz.f254]) (by kernel_rfl) (⟨_,H,rfl,kept_refl _ _⟩) ?_
 intro E hP hr hs hN
 by_cases h0:id=0
 ·have d0:decide (id=0)=true:=decide_eq_true h0
  simp -dsimp -implicitDefEqProofs [-getElem?_pos,go_sem,hP,d0,knownB]
  exact kept_refl _ _
 ·simp -dsimp -implicitDefEqProofs [-getElem?_pos,go_sem,hP,h0,knownB]
  refine callB_m (by rw[hr,hs];exact place_m h hl id) hP en_292 ?_
  rintro r H' ⟨rfl,hk⟩
  simp -dsimp -implicitDefEqProofs [-getElem?_pos,go_sem,hP,h0,knownB]
  exact hk
theorem agree_two {H H':Heap} {X:List Nat} {p q:Nat} {o o':AObj} (hk:Kept X H H') (hp:H[p]?=some (some o)) (hq:H[q]?=some (some o')) (np:p∉X) (nq:q∉X):Agree (fun i=>decide (i=p)||decide (i=q)) H H':=fun i hi=>by
 simp only[Bool.or_eq_true,decide_eq_true_eq]at hi
 rcases hi with rfl|rfl
 ·rw[hp,hk _ _ np hp]
 ·rw[hq,hk _ _ nq hq]
theorem add_m {row src:Option Nat} {H:Heap} {p q:Nat} {credit n d:Int} {l:List TSub} (h:Teller H p q credit n d l) (hl:l.length≤100000) (hc:0≤credit∧credit≤1000000000000) (hn:(ids l).Nodup) (h0:0∉ids l) (hok:okAll credit l=true)
  (id amt:Int) (hid:id=0∨id∈ids l) (ham: -1000000000000≤amt∧amt≤1000000000000):
  MFun Tryz.prog row src 255 [.ref p 0 0,iv id,iv amt] H (fun r H'=>r=bv (okAt credit (adj l id amt) id)∧Teller H' p q credit n d (adj l id amt)∧Kept [q] H H'):=by
 have hadj:(adj l id amt).length=l.length:=adj_len _ _ _
 refine mfun_intro Tryz.func255 rfl (by simp[Tryz.f255]) (by kernel_rfl) (⟨_,H.set q (some ⟨121,2,encL TSub.cells (adj l id amt)⟩),rfl,⟨h.ne,by rw[List.getElem?_set_ne h.ne.symm,hadj];exact h.obj,by rw[List.getElem?_set_self h.ltq]⟩,kept_set _ (by simp) (kept_refl _ _)⟩) ?_
 intro E hP hr hs hN
 by_cases hz:id=0
 ·subst hz
  have e1:adj l 0 amt=l:=adj_none h0
  have e2:okAt credit l 0=true:=okAt_none h0
  simp -dsimp -implicitDefEqProofs [-getElem?_pos,go_sem,hP,e1,e2]
  exact⟨h,kept_refl _ _⟩
 have hm:id∈ids l:=hid.resolve_left hz
 have ho:=h.obj
 have hlt:=h.ltp
 rcases placeI_spec l id with⟨_,h2⟩|⟨i,a,hi,ha,hp,_⟩
 ·exact absurd hm h2
 simp -dsimp -implicitDefEqProofs [-getElem?_pos,go_sem,hP,hz,ho,hlt]
 have hq:=h.subs
 refine adrawB (fun i=>decide (i=p)||decide (i=q)) [] hP (by kernel_rfl) (by kernel_rfl) ?_
 simp -dsimp -implicitDefEqProofs [-getElem?_pos,go_sem,hP,ho,hlt,restr_get]
 refine callB_m (by rw[hr,hs];exact place_m h hl id) hP en_292 ?_
 rintro r H' ⟨rfl,hk⟩
 simp -dsimp -implicitDefEqProofs [-getElem?_pos,go_sem,hP,hp]
 have h':=h.kept hk (by simp) (by simp)
 have ho':=h'.obj
 have hq':=h'.subs
 have hil:=(gsI hi)
 have hlq:=h'.ltq
 have hlp:=h'.ltp
 have hne:¬q=p:=fun e=>h.ne e.symm
 have bnd:=okSub_bounds hc (List.all_eq_true.1 hok a (List.mem_of_getElem? hi))
 have wa:=wrap_in (a.Balance+amt) (by omega)
 have set1:(encL TSub.cells l).set i [iv a.ID,iv (a.Balance+amt)]=encL TSub.cells (adj l id amt):=by
  rw[←ha,←set_adj hn hi,←encL_set]
  rfl
 have g1:(adj l id amt)[i]?=some ⟨a.ID,a.Balance+amt⟩:=by rw[adj_get,hi,←ha];simp
 have o1:okAt credit (adj l id amt) id=okSub credit ⟨a.ID,a.Balance+amt⟩:=by
  rw[←ha]at g1⊢
  exact okAt_get (by rw[adj_ids];exact hn) g1
 have fin:∀H'',Kept [] (H'.set q (some ⟨121,2,encL TSub.cells (adj l id amt)⟩)) H''→Teller H'' p q credit n d (adj l id amt)∧Kept [q] H H'':=fun H'' hk2=>by
  have t:Teller (H'.set q (some ⟨121,2,encL TSub.cells (adj l id amt)⟩)) p q credit n d (adj l id amt):=⟨h.ne,by rw[List.getElem?_set_ne h.ne.symm,hadj];exact ho',by rw[List.getElem?_set_self hlq]⟩
  exact⟨t.kept hk2 (by simp) (by simp),(kept_set _ (by simp) (hk.mono (by simp))).trans (hk2.mono (by simp))⟩
 simp -dsimp -implicitDefEqProofs [-getElem?_pos,go_sem,hP,hz,restr_get,hq',hil]
 refine⟨agree_two hk ho hq (by simp) (by simp),?_⟩
 by_cases h1:id=1
 ·have d1:decide (id=1)=true:=decide_eq_true h1
  have wn:=wrap_in (-credit) (by omega)
  simp -dsimp -implicitDefEqProofs [-getElem?_pos,go_sem,hP,hp,hil,hq',hi,TSub.cells,wa,hlq,set1,d1,ho',hne,hlp,wn,g1]
  refine callB_pure (among_pf (a.Balance+amt) (-credit) 1000000000000000) hP en_95 (args_same (by simp -dsimp[-getElem?_pos,go_sem])) .sc ?_
  simp -dsimp -implicitDefEqProofs [-getElem?_pos,go_sem,hP]
  refine⟨?_,fin _ (kept_refl _ _)⟩
  rw[o1]
  simp[okSub,amongB,ha,h1]
 ·simp -dsimp -implicitDefEqProofs [-getElem?_pos,go_sem,hP,hp,hil,hq',hi,TSub.cells,wa,hlq,set1,h1,g1]
  refine callB_pure (among_pf (a.Balance+amt) 0 1000000000000000) hP en_95 (args_same (by simp -dsimp[-getElem?_pos,go_sem])) .sc ?_
  simp -dsimp -implicitDefEqProofs [-getElem?_pos,go_sem,hP]
  refine⟨?_,fin _ (kept_refl _ _)⟩
  rw[o1]
  simp[okSub,amongB,ha,h1]
set_option maxHeartbeats 1000000 in
theorem tpost_m {row src:Option Nat} {H:Heap} {p q:Nat} {credit n d:Int} {l:List TSub} (h:Teller H p q credit n d l) (hl:l.length≤100000) (hc:0≤credit∧credit≤1000000000000) (hn:(ids l).Nodup) (h0:0∉ids l) (hok:okAll credit l=true)
  (hnn:0≤n∧n≤100000) (e:TEntry):
  MFun Tryz.prog row src 185 [.ref p 0 0,.agg e.cells] H (fun r H'=>r=iv (postS credit n d l e).1∧((postS credit n d l e).1=0→Teller H' p q credit e.Number e.Day (postS credit n d l e).2)∧Kept [p,q] H H'):=by
 have post:∃r H',r=iv (postS credit n d l e).1∧((postS credit n d l e).1=0→Teller H' p q credit e.Number e.Day (postS credit n d l e).2)∧Kept [p,q] H H':=
  ⟨_,(H.set q (some ⟨121,2,encL TSub.cells (postS credit n d l e).2⟩)).set p (some ⟨216,4,[[iv credit,iv e.Number,iv e.Day,.sref q 0 (postS credit n d l e).2.length]]⟩),rfl,fun _=>⟨h.ne,by rw[List.getElem?_set_self (by simp;exact h.ltp)],by rw[List.getElem?_set_ne h.ne,List.getElem?_set_self h.ltq]⟩,kept_set _ (by simp) (kept_set _ (by simp) (kept_refl _ _))⟩
 obtain⟨C,hC⟩:∃C:AV→Heap→Prop,C=fun r H'=>r=iv (postS credit n d l e).1∧((postS credit n d l e).1=0→Teller H' p q credit e.Number e.Day (postS credit n d l e).2)∧Kept [p,q] H H':=⟨_,rfl⟩
 rw[←hC]
 have post:∃r H',C r H':=hC▸post
 refine mfun_intro Tryz.func185 rfl (by simp[Tryz.f185]) (by kernel_rfl) (post) ?_
 intro E hP hr hs hN
 have ho:=h.obj
 have hlt:=h.ltp
 have wn:=wrap_in (n+1) (by omega)
 have bad:∀(c:Int) (H'':Heap),(postS credit n d l e).1=c→c≠0→Kept [p,q] H H''→C (iv c) H'':=fun c H'' h1 h2 h3=>by
  rw[hC]
  exact⟨by rw[h1],fun h4=>absurd (h1.symm.trans h4) h2,h3⟩
 have kb:=kept_push (X:=[p,q]) (some ⟨75,6,[[iv e.Number,iv e.Day,iv e.From,iv e.To,iv e.Amount,iv e.Ref]]⟩) (kept_refl [p,q] H)
 have hB:Teller (H++[some ⟨75,6,[[iv e.Number,iv e.Day,iv e.From,iv e.To,iv e.Amount,iv e.Ref]]⟩]) p q credit n d l:=h.kept (X:=[]) (kept_push _ (kept_refl _ _)) (by simp) (by simp)
 simp -dsimp -implicitDefEqProofs [-getElem?_pos,go_sem,hP,cE]
 refine adrawB (fun _=>true) [] hP (by kernel_rfl) (by kernel_rfl) ?_
 simp -dsimp -implicitDefEqProofs [-getElem?_pos,go_sem,hP,ho,hlt,wn]
 by_cases c1:e.Number=n+1
 rotate_left
 ·have b1:badNum n e=true:=by simp[badNum,c1]
  simp -dsimp -implicitDefEqProofs [-getElem?_pos,go_sem,hP,c1]
  exact bad 65 _ (by rw[postS,if_pos b1]) (by omega) kb
 have b1:¬badNum n e=true:=by simp[badNum,c1]
 have d1:decide (e.Number=n+1)=true:=decide_eq_true c1
 simp -dsimp -implicitDefEqProofs [-getElem?_pos,go_sem,hP,d1]
 refine adrawB (fun _=>true) [] hP (by kernel_rfl) (by kernel_rfl) ?_
 simp -dsimp -implicitDefEqProofs [-getElem?_pos,go_sem,hP,ho,hlt]
 refine callB_pure (among_pf e.Day d 36000) hP en_95 (args_same (by simp -dsimp[-getElem?_pos,go_sem])) .sc ?_
 by_cases c2:amongB e.Day d 36000=true
 rotate_left
 ·have b2:badDay d e=true:=by simp[badDay,c2]
  simp -dsimp -implicitDefEqProofs [-getElem?_pos,go_sem,hP,c2,agree_refl]
  exact bad 8 _ (by rw[postS,if_neg b1,if_pos b2]) (by omega) kb
 have b2:¬badDay d e=true:=by simp[badDay,c2]
 simp -dsimp -implicitDefEqProofs [-getElem?_pos,go_sem,hP,c2,agree_refl]
 refine callB_pure (positive_pf e.Amount) hP en_253 (args_same (by simp -dsimp[-getElem?_pos,go_sem])) .sc ?_
 by_cases c3:(decide (0<e.Amount)&&vB e.Amount)=true
 rotate_left
 ·have b3:badAmt e=true:=by simp[badAmt,c3]
  have c3:(decide (0<e.Amount)&&vB e.Amount)=false:=by simpa using c3
  simp -dsimp -implicitDefEqProofs [-getElem?_pos,go_sem,hP,c3]
  exact bad 2 _ (by rw[postS,if_neg b1,if_neg b2,if_pos b3]) (by omega) kb
 simp -dsimp -implicitDefEqProofs [-getElem?_pos,go_sem,hP,c3]
 refine callB_pure (among_pf e.Ref 0 1000000) hP en_95 (args_same (by simp -dsimp[-getElem?_pos,go_sem])) .sc ?_
 by_cases c4:amongB e.Ref 0 1000000=true
 rotate_left
 ·have b3:badAmt e=true:=by simp[badAmt,c4]
  simp -dsimp -implicitDefEqProofs [-getElem?_pos,go_sem,hP,c3,c4]
  exact bad 2 _ (by rw[postS,if_neg b1,if_neg b2,if_pos b3]) (by omega) kb
 have b3:¬badAmt e=true:=by simp[badAmt,c3,c4]
 have am:0<e.Amount∧e.Amount≤1000000000000:=by
  simp only[Bool.and_eq_true,decide_eq_true_eq,vB,amongB_iff]at c3
  omega
 have p60:badSub l e=true→(postS credit n d l e).1=60:=fun h=>by rw[postS,if_neg b1,if_neg b2,if_neg b3,if_pos h]
 simp -dsimp -implicitDefEqProofs [-getElem?_pos,go_sem,hP,c3,c4]
 by_cases c5:e.From=e.To
 ·have d5:decide (e.From=e.To)=true:=decide_eq_true c5
  simp -dsimp -implicitDefEqProofs [-getElem?_pos,go_sem,hP,d5]
  exact bad 60 _ (p60 (by simp[badSub,c5])) (by omega) kb
 simp -dsimp -implicitDefEqProofs [-getElem?_pos,go_sem,hP,c5]
 refine callB_m (by rw[hr,hs];exact known_m hB hl e.From) hP en_254 ?_
 rintro r H1 ⟨rfl,hk1⟩
 have h1:=hB.kept hk1 (by simp) (by simp)
 have o1:=hk1 H.length ⟨75,6,[[iv e.Number,iv e.Day,iv e.From,iv e.To,iv e.Amount,iv e.Ref]]⟩ (by simp) (by simp)
 have l1:=(gsI o1)
 by_cases c6:knownB l e.From=true
 rotate_left
 ·simp -dsimp -implicitDefEqProofs [-getElem?_pos,go_sem,hP,c5,c6]
  exact bad 60 _ (p60 (by simp[badSub,c6])) (by omega) (kb.trans (hk1.mono (by simp)))
 simp -dsimp -implicitDefEqProofs [-getElem?_pos,go_sem,hP,c5,c6,o1,l1]
 refine callB_m (by rw[hr,hs];exact known_m h1 hl e.To) hP en_254 ?_
 rintro r H2 ⟨rfl,hk2⟩
 have h2:=h1.kept hk2 (by simp) (by simp)
 have o2:=hk2 _ _ (by simp) o1
 have l2:=(gsI o2)
 have k2:=kb.trans ((hk1.trans hk2).mono (Y:=[p,q]) (by simp))
 by_cases c7:knownB l e.To=true
 rotate_left
 ·simp -dsimp -implicitDefEqProofs [-getElem?_pos,go_sem,hP,c5,c6,c7]
  exact bad 60 _ (p60 (by simp[badSub,c7])) (by omega) k2
 have b4:¬badSub l e=true:=by simp[badSub,c5,c6,c7]
 have pS:postS credit n d l e=if okAt credit (adj l e.From (-e.Amount)) e.From=false then (61,adj l e.From (-e.Amount))else
   if okAt credit (adj (adj l e.From (-e.Amount)) e.To e.Amount) e.To=false then (61,adj (adj l e.From (-e.Amount)) e.To e.Amount)else (0,adj (adj l e.From (-e.Amount)) e.To e.Amount):=by
  rw[postS,if_neg b1,if_neg b2,if_neg b3,if_neg b4]
 have wa:=wrap_in (-e.Amount) (by omega)
 simp -dsimp -implicitDefEqProofs [-getElem?_pos,go_sem,hP,c5,c6,c7,o2,l2,wa]
 refine callB_m (by rw[hr,hs];exact add_m h2 hl hc hn h0 hok e.From (-e.Amount) ((knownB_iff _ _).1 c6) (by omega)) hP en_255 ?_
 rintro r H3 ⟨rfl,h3,hk3⟩
 have nq:¬H.length=q:=by have:=h.ltq;omega
 have np:¬H.length=p:=by have:=h.ltp;omega
 have o3:=hk3 _ _ (by simp[nq]) o2
 have l3:=(gsI o3)
 have k3:=k2.trans (hk3.mono (Y:=[p,q]) (by simp))
 by_cases c8:okAt credit (adj l e.From (-e.Amount)) e.From=true
 rotate_left
 ·have c8:okAt credit (adj l e.From (-e.Amount)) e.From=false:=by simpa using c8
  simp -dsimp -implicitDefEqProofs [-getElem?_pos,go_sem,hP,c8]
  exact bad 61 _ (by rw[pS,if_pos c8]) (by omega) k3
 rw[if_neg (by simp[c8])]at pS
 simp -dsimp -implicitDefEqProofs [-getElem?_pos,go_sem,hP,c8,o3,l3]
 refine callB_m (by rw[hr,hs];exact add_m h3 (by rw[adj_len];omega) hc (by rw[adj_ids];exact hn) (by rw[adj_ids];exact h0) (okAll_adj hok c8) e.To e.Amount (by rw[adj_ids];exact (knownB_iff _ _).1 c7) (by omega)) hP en_255 ?_
 rintro r H4 ⟨rfl,h4,hk4⟩
 have o4:=hk4 _ _ (by simp[nq]) o3
 have l4:=(gsI o4)
 have k4:=k3.trans (hk4.mono (Y:=[p,q]) (by simp))
 by_cases c9:okAt credit (adj (adj l e.From (-e.Amount)) e.To e.Amount) e.To=true
 rotate_left
 ·have c9:okAt credit (adj (adj l e.From (-e.Amount)) e.To e.Amount) e.To=false:=by simpa using c9
  simp -dsimp -implicitDefEqProofs [-getElem?_pos,go_sem,hP,c8,c9]
  exact bad 61 _ (by rw[pS,if_pos c9]) (by omega) k4
 rw[if_neg (by simp[c9])]at pS
 have ho4:=h4.obj
 have hp4:=h4.ltp
 simp -dsimp -implicitDefEqProofs [-getElem?_pos,go_sem,hP,c8,c9]
 refine adrawB (fun i=>decide (i=H.length)) [6,7,9,10,11] hP (by kernel_rfl) (by kernel_rfl) ?_
 simp -dsimp -implicitDefEqProofs [-getElem?_pos,go_sem,hP,o4,l4,ho4,hp4]
 refine⟨fun i hi=>?_,?_⟩
 ·simp only[decide_eq_true_eq]at hi
  subst hi
  rw[List.getElem?_set_ne (Ne.symm np)]
 rw[hC,pS]
 refine⟨rfl,fun _=>⟨h.ne,by rw[List.getElem?_set_self hp4],by rw[List.getElem?_set_ne h.ne];exact h4.subs⟩,kept_set _ (by simp) k4⟩
set_option maxHeartbeats 1000000 in
theorem fresh_m {row src:Option Nat} (a:TAccount) (H:Heap) (hl:a.Subs.length≤100000) (hne:a.Subs≠[]):
  MFun Tryz.prog row src 194 [.agg a.cells] H (fun r H'=>∃p q,r= .ref p 0 0∧H.length≤p∧H.length≤q∧Teller H' p q a.Credit 0 0 (zeroS a.Subs)∧Kept [] H H'):=by
 obtain⟨C,hC⟩:∃C:AV→Heap→Prop,C=fun r H'=>∃p q,r= .ref p 0 0∧H.length≤p∧H.length≤q∧Teller H' p q a.Credit 0 0 (zeroS a.Subs)∧Kept [] H H':=⟨_,rfl⟩
 rw[←hC]
 have ex:∃r H',C r H':=⟨.ref H.length 0 0,H++[some ⟨216,4,[[iv a.Credit,iv 0,iv 0,.sref (H.length+1) 0 (zeroS a.Subs).length]]⟩,some ⟨121,2,encL TSub.cells (zeroS a.Subs)⟩],by
  rw[hC]
  exact⟨H.length,H.length+1,rfl,Nat.le_refl _,by omega,⟨by omega,by simp,by rw[List.getElem?_append_right (by omega)];simp⟩,kept_app _ _ _⟩⟩
 refine mfun_intro Tryz.func194 rfl (by simp[Tryz.f194]) (by kernel_rfl) (ex) ?_
 intro E hP hr hs hN
 simp -dsimp -implicitDefEqProofs [-getElem?_pos,go_sem,hP,cA]
 obtain⟨I,hI⟩:∃I:Nat→St→Prop,I=fun m s=>∃(k:Nat) (x:AV),k≤a.Subs.length∧m=a.Subs.length-k∧s.t 3= .ref (H.length+1) 0 0∧s.t 11=subsL a.Subs∧s.t 12=iv a.Subs.length∧s.t 13=iv k∧s.H[H.length+1]?=some (some ⟨216,4,[[iv a.Credit,iv 0,iv 0,x]]⟩)∧Grown (H.length+2) s.H x 121 2 (encL TSub.cells (zeroS (a.Subs.take k)))∧Kept [] H s.H:=⟨_,rfl⟩
 refine aloop0 I (a.Subs.length) (by rw[hN];rfl) ?_ ?_
 ·rw[hI]
  exact⟨0,.nil,by omega,by omega,by simp -dsimp[-getElem?_pos,go_sem],by simp -dsimp[-getElem?_pos,go_sem],by simp -dsimp[-getElem?_pos,go_sem],by simp -dsimp[-getElem?_pos,go_sem],by simp -dsimp[-getElem?_pos,go_sem],.inl ⟨rfl,rfl⟩,by simp -dsimp[-getElem?_pos,go_sem];exact kept_app _ _ _⟩
 intro m s hs'
 rw[hI]at hs'
 obtain⟨k,x,hk,hm,t3,t11,t12,t13,h1,hg,hK⟩:=hs'
 have lt1:=(gsI h1)
 simp -dsimp -implicitDefEqProofs [-getElem?_pos,go_sem,hP,t12,t13]
 refine condP (fun h=>?_) (fun h=>?_)
 ·have hk:k<a.Subs.length:=by simpa using h
  obtain⟨y,hy⟩:∃y,a.Subs[k]?=some y:=⟨_,List.getElem?_eq_getElem hk⟩
  have wk:=wrap_in ((k:Int)+1) (by omega)
  have e1:zeroS (a.Subs.take (k+1))=zeroS (a.Subs.take k)++[⟨y.ID,0⟩]:=by rw[List.take_add_one,hy];simp[zeroS]
  have nl:(zeroS (a.Subs.take k)).length=k:=by rw[zeroS_len,List.length_take];omega
  simp -dsimp -implicitDefEqProofs [-getElem?_pos,go_sem,hP,t11,t13,hy,TSub.cells]
  rcases hg with⟨rfl,hg⟩|⟨id,h2,rfl,hg⟩
  ·refine adrawB (fun i=>decide (i=H.length+1)||decide (i=s.H.length)) [12] hP (by kernel_rfl) (by kernel_rfl) ?_
   simp -dsimp -implicitDefEqProofs [-getElem?_pos,go_sem,hP,t3,h1,lt1,t13,wk]
   refine⟨fun i hi=>?_,a.Subs.length-(k+1),by omega,?_⟩
   ·simp only[Bool.or_eq_true,decide_eq_true_eq]at hi
    rcases hi with rfl|rfl<;>simp[-getElem?_pos,List.getElem?_append,lt1]<;>rfl
   rw[hI]
   refine⟨k+1,.sref (s.H.length+1) 0 1,by omega,rfl,by simp -dsimp[-getElem?_pos,go_sem,t3],by simp -dsimp[-getElem?_pos,go_sem,t11],by simp -dsimp[-getElem?_pos,go_sem,t12],by simp -dsimp[-getElem?_pos,go_sem],by simp -dsimp[-getElem?_pos,go_sem,lt1],.inr ⟨s.H.length+1,by omega,?_,?_⟩,?_⟩
   ·rw[e1,←encL_snoc,hg];rfl
   ·rw[e1,←encL_snoc,hg]
    simp -dsimp -implicitDefEqProofs [-getElem?_pos,go_sem,TSub.cells]
   ·simp -dsimp -implicitDefEqProofs [-getElem?_pos,go_sem]
    exact (kept_new _ (by omega) hK).trans (kept_app _ _ _)
  ·have ne1:¬id=H.length+1:=by omega
   have lti:=(gsI hg)
   have ne2:¬id=s.H.length:=by omega
   refine adrawB (fun i=>decide (i=H.length+1)||decide (i=s.H.length)) [12] hP (by kernel_rfl) (by kernel_rfl) ?_
   simp -dsimp -implicitDefEqProofs [-getElem?_pos,go_sem,hP,t3,h1,lt1,t13,wk,hg,lti,ne1,nl]
   refine⟨by omega,by omega,fun i hi=>?_,a.Subs.length-(k+1),by omega,?_⟩
   ·simp only[Bool.or_eq_true,decide_eq_true_eq]at hi
    rcases hi with rfl|rfl<;>simp[-getElem?_pos,List.getElem?_append,List.getElem?_set,lt1,ne1,ne2]<;>rfl
   rw[hI]
   refine⟨k+1,.sref (s.H.length+1) 0 (k+1),by omega,rfl,by simp -dsimp[-getElem?_pos,go_sem,t3],by simp -dsimp[-getElem?_pos,go_sem,t11],by simp -dsimp[-getElem?_pos,go_sem,t12],by simp -dsimp[-getElem?_pos,go_sem],by simp -dsimp[-getElem?_pos,go_sem,lt1,ne1],.inr ⟨s.H.length+1,by omega,?_,?_⟩,?_⟩
   ·rw[encL_len,zeroS_len,List.length_take]
    congr 1
    omega
   ·rw[e1,←encL_snoc]
    simp -dsimp -implicitDefEqProofs [-getElem?_pos,go_sem,TSub.cells]
   ·simp -dsimp -implicitDefEqProofs [-getElem?_pos,go_sem]
    exact ((kept_new _ (by omega) (kept_new _ (by omega) hK)).trans (kept_app _ _ _))
 ·have hk:k=a.Subs.length:=by simp at h;omega
  subst hk
  rw[List.take_length]at hg
  simp -dsimp -implicitDefEqProofs [-getElem?_pos,go_sem,hP,t3]
  rw[hC]
  rcases hg with⟨rfl,hg⟩|⟨id,h2,rfl,hg⟩
  ·exfalso
   apply hne
   have:=congrArg List.length hg
   rw[encL_len,zeroS_len]at this
   exact List.eq_nil_of_length_eq_zero this
  ·exact⟨H.length+1,id,rfl,by omega,by omega,⟨by omega,by rw[h1,encL_len],hg⟩,hK⟩
open Go.PA
open Go.RowKit
theorem kept_high {H H' H'':Heap} {X:List Nat} (h:Kept [] H H') (k:Kept X H' H'') (hX:∀i,i∈X→H.length≤i):Kept [] H H'':=fun j o _ ho=>by
 refine k j o (fun hj=>?_) (h j o (by simp) ho)
 have:=hX j hj
 have:=(gsI ho)
 omega
def replayW (a:TAccount) (w:TEntry→Bool):Option (Int×Int×List TSub):=replayS a.Credit 0 0 (zeroS a.Subs) (a.Entries.takeWhile w)
set_option maxHeartbeats 1000000 in
theorem replay_m {row src:Option Nat} (a:TAccount) (H:Heap) (g:FuncId) (caps:List AV) (w:TEntry→Bool) (hl:a.Subs.length≤100000) (he:a.Entries.length≤100000) (hne:a.Subs≠[]) (hc:0≤a.Credit∧a.Credit≤1000000000000) (hn:(ids a.Subs).Nodup) (h0:0∉ids a.Subs)
  (hen:enterable Tryz.prog g=true) (hg:∀e,e∈a.Entries→∀H',Kept [] H H'→MFun Tryz.prog row src g (.agg e.cells::caps) H' (fun r H''=>r=bv (w e)∧Kept [] H' H'')):
  MFun Tryz.prog row src 132 [.agg a.cells,.fn g caps] H (fun r H'=>∃p q,r= .tup [.ref p 0 0,bv (replayW a w).isSome]∧H.length≤p∧H.length≤q∧(∀x,replayW a w=some x→Teller H' p q a.Credit x.1 x.2.1 x.2.2)∧Kept [] H H'):=by
 obtain⟨C,hC⟩:∃C:AV→Heap→Prop,C=fun r H'=>∃p q,r= .tup [.ref p 0 0,bv (replayW a w).isSome]∧H.length≤p∧H.length≤q∧(∀x,replayW a w=some x→Teller H' p q a.Credit x.1 x.2.1 x.2.2)∧Kept [] H H':=⟨_,rfl⟩
 rw[←hC]
 obtain⟨R,hR⟩:∃R,R=replayW a w:=⟨_,rfl⟩
 rw[←hR]at hC
 have ex:∃r H',C r H':=by
  rw[hC]
  cases R with
  |none=>exact⟨_,H,H.length,H.length,rfl,Nat.le_refl _,Nat.le_refl _,by simp,kept_refl _ _⟩
  |some x=>exact⟨_,H++[some ⟨216,4,[[iv a.Credit,iv x.1,iv x.2.1,.sref (H.length+1) 0 x.2.2.length]]⟩,some ⟨121,2,encL TSub.cells x.2.2⟩],H.length,H.length+1,rfl,Nat.le_refl _,by omega,fun y hy=>by
    simp only[Option.some.injEq]at hy
    subst hy
    exact⟨by omega,by simp,by rw[List.getElem?_append_right (by omega)];simp⟩,kept_app _ _ _⟩
 refine mfun_intro Tryz.func132 rfl (by simp[Tryz.f132]) (by kernel_rfl) (ex) ?_
 intro E hP hr hs hN
 have ia:Imm (.agg [iv a.Credit,subsL a.Subs,entsL a.Entries]):=imm_acc a
 have fr:=fun (row src:Option Nat) (H:Heap)=>fresh_m (row:=row) (src:=src) a H hl hne
 rw[cA]at fr
 simp -dsimp -implicitDefEqProofs [-getElem?_pos,go_sem,hP,cA]
 refine callB_m (fr _ _ _) hP en_194 ?_
 rintro r H1 ⟨p,q,rfl,hp,hq,ht,hk1⟩
 have ob:=hk1 H.length ⟨28,3,[[iv a.Credit,subsL a.Subs,entsL a.Entries]]⟩ (by simp) (by simp)
 have lb:=(gsI ob)
 rw[List.length_append,List.length_singleton]at hp hq
 simp -dsimp -implicitDefEqProofs [-getElem?_pos,go_sem,hP,ob,lb]
 obtain⟨I,hI⟩:∃I:Nat→St→Prop,I=fun m s=>∃(k:Nat) (d:Int) (l:List TSub),k≤a.Entries.length∧m=a.Entries.length-k∧R=replayS a.Credit k d l ((a.Entries.drop k).takeWhile w)∧okAll a.Credit l=true∧ids l=ids a.Subs∧Teller s.H p q a.Credit k d l∧Kept [] H s.H∧s.t 1= .fn g caps∧s.t 6= .ref p 0 0∧s.t 12=entsL a.Entries∧s.t 13=iv a.Entries.length∧s.t 14=iv k:=⟨_,rfl⟩
 refine aloop0 I (a.Entries.length) (by rw[hN];rfl) ?_ ?_
 ·rw[hI]
  exact⟨0,0,zeroS a.Subs,by omega,by omega,by rw[hR];simp[replayW],zeroS_all hc.1 _,zeroS_ids _,by simp -dsimp[-getElem?_pos,go_sem];exact ht,by simp -dsimp[-getElem?_pos,go_sem];exact (kept_app _ _ _).trans hk1,by simp -dsimp[-getElem?_pos,go_sem],by simp -dsimp[-getElem?_pos,go_sem],by simp -dsimp[-getElem?_pos,go_sem],by simp -dsimp[-getElem?_pos,go_sem],by simp -dsimp[-getElem?_pos,go_sem]⟩
 clear ht hk1 ob lb
 intro m s hs'
 rw[hI]at hs'
 obtain⟨k,d,l,hk,hm,hRr,hok,hids,ht,hK,t1,t6,t12,t13,t14⟩:=hs'
 have fin:∀b:Bool,R.isSome=b→(∀x,R=some x→Teller s.H p q a.Credit x.1 x.2.1 x.2.2)→C (.tup [.ref p 0 0,bv b]) s.H:=fun b hb hx=>by
  rw[hC]
  exact⟨p,q,by rw[hb],by omega,by omega,hx,hK⟩
 simp -dsimp -implicitDefEqProofs [-getElem?_pos,go_sem,hP,t13,t14]
 refine condP (fun h=>?_) (fun h=>?_)
 ·have hk:k<a.Entries.length:=by simpa using h
  obtain⟨e,hee⟩:∃e,a.Entries[k]?=some e:=⟨_,List.getElem?_eq_getElem hk⟩
  have wk:=wrap_in ((k:Int)+1) (by omega)
  have hd:a.Entries.drop k=e::a.Entries.drop (k+1):=by
   rw[List.getElem?_eq_getElem hk]at hee
   rw[List.drop_eq_getElem_cons hk,Option.some.inj hee]
  rw[hd]at hRr
  have hge:=hg e (List.mem_of_getElem? hee) _ (hK.trans (kept_push (some ⟨75,6,[[iv e.Number,iv e.Day,iv e.From,iv e.To,iv e.Amount,iv e.Ref]]⟩) (kept_refl _ s.H)))
  rw[cE]at hge
  simp -dsimp -implicitDefEqProofs [-getElem?_pos,go_sem,hP,t12,t14,hee,cE,t1]
  refine callB_m (by rw[hr,hs];exact hge) hP hen ?_
  rintro r H2 ⟨rfl,hk2⟩
  have o2:=hk2 s.H.length ⟨75,6,[[iv e.Number,iv e.Day,iv e.From,iv e.To,iv e.Amount,iv e.Ref]]⟩ (by simp) (by simp)
  have l2:=(gsI o2)
  have k2:Kept [] s.H H2:=(kept_app _ _ _).trans hk2
  by_cases hw:w e=true
  rotate_left
  ·rw[List.takeWhile_cons_of_neg hw]at hRr
   simp -dsimp -implicitDefEqProofs [-getElem?_pos,go_sem,hP,hw,t6]
   rw[hC]
   have hRr:R=some ((k:Int),d,l):=hRr
   refine⟨p,q,by rw[hRr];rfl,by omega,by omega,fun x hx=>?_,hK.trans k2⟩
   rw[hRr]at hx
   simp only[Option.some.injEq]at hx
   subst hx
   exact ht.kept k2 (by simp) (by simp)
  rw[List.takeWhile_cons_of_pos hw,replayS]at hRr
  have tp:=tpost_m (row:=row) (src:=src) (ht.kept k2 (by simp) (by simp)) (by rw[←ids_len,hids,ids_len];omega) hc (by rw[hids];exact hn) (by rw[hids];exact h0) hok (by omega) e
  rw[cE]at tp
  simp -dsimp -implicitDefEqProofs [-getElem?_pos,go_sem,hP,hw,t6,o2,l2]
  refine callB_m (by rw[hr,hs];exact tp) hP en_185 ?_
  rintro r H3 ⟨rfl,ht3,hk3⟩
  have K3:Kept [] H H3:=kept_high (hK.trans k2) hk3 (fun i hi=>by simp at hi;omega)
  by_cases hp0:(postS a.Credit k d l e).1=0
  ·rw[if_pos hp0]at hRr
   obtain⟨q1,q2,q3,_⟩:=postS_ok hp0
   simp -dsimp -implicitDefEqProofs [-getElem?_pos,go_sem,hP,hp0,t14,wk]
   refine⟨a.Entries.length-(k+1),by omega,?_⟩
   rw[hI]
   rw[q1]at hRr
   refine⟨k+1,e.Day,(postS a.Credit k d l e).2,by omega,rfl,hRr,postS_all hp0 hok,(postS_ids _ _ _ _ _).trans hids,?_,by simp -dsimp[-getElem?_pos,go_sem];exact K3,by simp -dsimp[-getElem?_pos,go_sem,t1],by simp -dsimp[-getElem?_pos,go_sem,t6],by simp -dsimp[-getElem?_pos,go_sem,t12],by simp -dsimp[-getElem?_pos,go_sem,t13],by simp -dsimp[-getElem?_pos,go_sem]⟩
   simp -dsimp -implicitDefEqProofs [-getElem?_pos,go_sem]
   have:=ht3 hp0
   rw[q1]at this
   exact this
  ·rw[if_neg hp0]at hRr
   simp -dsimp -implicitDefEqProofs [-getElem?_pos,go_sem,hP,hp0,t6]
   rw[hC]
   exact⟨p,q,by rw[hRr];rfl,by omega,by omega,fun x hx=>(by rw[hRr]at hx;cases hx),K3⟩
 ·have hk:k=a.Entries.length:=by simp at h;omega
  subst hk
  rw[List.drop_length]at hRr
  have hRr:R=some ((a.Entries.length:Int),d,l):=hRr
  simp -dsimp -implicitDefEqProofs [-getElem?_pos,go_sem,hP,t6]
  refine fin true (by rw[hRr];rfl) fun x hx=>?_
  rw[hRr]at hx
  simp only[Option.some.injEq]at hx
  subst hx
  exact ht
theorem all_m {row src:Option Nat} (e:TEntry) (H:Heap):MFun Tryz.prog row src 133 [.agg e.cells] H (fun r H'=>r=bv true∧Kept [] H H'):=by
 refine mfun_intro Tryz.func133 rfl (by simp[Tryz.f133]) (by kernel_rfl) (⟨_,H,rfl,kept_refl _ _⟩) ?_
 intro E hP hr hs hN
 simp -dsimp -implicitDefEqProofs [-getElem?_pos,go_sem,hP,TEntry.cells]
 exact kept_app _ _ _
theorem takeWhile_true {α:Type} (l:List α):l.takeWhile (fun _=>true)=l:=takeWhile_all _ _ fun _ _=>rfl
theorem check_prog {a:TAccount} (h1:¬(20<a.Subs.length∨400<a.Entries.length)) (h2:(vB a.Credit&&numB (ids a.Subs))=true):
  checkA a=(replayW a fun _=>true).elim 62 (fun r=>if r.2.2=a.Subs then 0 else 62):=by
 have h3:¬(!vB a.Credit||!numB (ids a.Subs))=true:=by
  simp only[Bool.and_eq_true]at h2
  simp[h2.1,h2.2]
 rw[checkA,if_neg h1,if_neg h3,replayW,takeWhile_true]
 cases replayS a.Credit 0 0 (zeroS a.Subs) a.Entries<;>rfl
set_option maxHeartbeats 1000000 in
theorem check_pf (a:TAccount) (hl:a.Subs.length≤100000) (he:a.Entries.length≤100000):PFun Tryz.prog none none 82 [.agg a.cells] (·=iv (checkA a)):=by
 refine pfun_intro Tryz.func82 rfl (by simp[Tryz.f82]) (by kernel_rfl) ?_
 intro E hP hr hs hW hN
 by_cases c1:20<a.Subs.length
 ·have d1:decide ((20:Int)<a.Subs.length)=true:=decide_eq_true (by omega)
  have:checkA a=3:=by rw[checkA,if_pos (.inl c1)]
  simp -dsimp -implicitDefEqProofs [-getElem?_pos,go_sem,hP,cA,d1,this]
 have d1:decide ((20:Int)<a.Subs.length)=false:=decide_eq_false (by omega)
 by_cases c2:400<a.Entries.length
 ·have d2:decide ((400:Int)<a.Entries.length)=true:=decide_eq_true (by omega)
  have:checkA a=3:=by rw[checkA,if_pos (.inr c2)]
  simp -dsimp -implicitDefEqProofs [-getElem?_pos,go_sem,hP,cA,d1,d2,this]
 have d2:decide ((400:Int)<a.Entries.length)=false:=decide_eq_false (by omega)
 simp -dsimp -implicitDefEqProofs [-getElem?_pos,go_sem,hP,cA,d1,d2]
 refine callB_pure (valid_pf a.Credit) hP en_50 (args_same (by simp -dsimp[-getElem?_pos,go_sem])) .sc ?_
 by_cases c3:vB a.Credit=true
 rotate_left
 ·have:checkA a=62:=by rw[checkA,if_neg (by omega),if_pos (by simp[c3])]
  simp -dsimp -implicitDefEqProofs [-getElem?_pos,go_sem,hP,c3,this]
 simp -dsimp -implicitDefEqProofs [-getElem?_pos,go_sem,hP,c3]
 refine callB_is ((numbers_pf a.Subs hl).lift _ _) hP en_131 (by simp[imm_subs]) (imm_nums _) ?_
 simp -dsimp -implicitDefEqProofs [-getElem?_pos,go_sem,hP,c3]
 refine callB_pure (numbered_pf (ids a.Subs) (by rw[ids_len];omega)) hP en_51 (args_imm (imm_nums _) (args_nil.2 trivial)) .sc ?_
 by_cases c4:numB (ids a.Subs)=true
 rotate_left
 ·have:checkA a=62:=by rw[checkA,if_neg (by omega),if_pos (by simp[c4])]
  simp -dsimp -implicitDefEqProofs [-getElem?_pos,go_sem,hP,c3,c4,this]
 obtain⟨hnd,hz0,hhd⟩:=numB_facts c4
 have hcr:0≤a.Credit∧a.Credit≤1000000000000:=by simpa[vB,amongB]using c3
 have hchk:=check_prog (a:=a) (by omega) (by simp[c3,c4])
 have hne:a.Subs≠[]:=fun h=>by rw[h]at hhd;simp[ids]at hhd
 have rp:=fun (H:Heap)=>replay_m (row:=none) (src:=none) a H 133 [] (fun _=>true) hl he hne hcr hnd hz0 en_133 (fun e _ H' _=>all_m e H')
 rw[cA]at rp
 simp -dsimp -implicitDefEqProofs [-getElem?_pos,go_sem,hP,c3,c4]
 refine callB_m (by rw[hr,hs];exact rp _) hP en_132 ?_
 rintro r H1 ⟨p,q,rfl,hp,hq,ht,hk⟩
 have ob:=hk 0 ⟨28,3,[[iv a.Credit,subsL a.Subs,entsL a.Entries]]⟩ (by simp) (by simp)
 have lb:=(gsI ob)
 cases hR:replayW a fun _=>true with
 |none=>
  rw[hR]at hchk
  have hchk:checkA a=62:=hchk
  simp -dsimp -implicitDefEqProofs [-getElem?_pos,go_sem,hP,hchk]
  refine adrawB (fun _=>true) [] hP (by kernel_rfl) (by kernel_rfl) ?_
  simp -dsimp -implicitDefEqProofs [-getElem?_pos,go_sem,hP]
  exact hchk.symm
 |some x=>
  rw[hR]at hchk
  have hchk:checkA a=if x.2.2=a.Subs then 0 else 62:=hchk
  have t:=ht x hR
  have t1:=t.obj
  have t2:=t.ltp
  have t3:=t.subs
  have il:x.2.2.length=a.Subs.length:=by
   have:=(replayS_keeps a.Credit _ 0 0 (zeroS a.Subs) x (zeroS_all hcr.1 _) hR).2.1
   rw[←ids_len x.2.2,this,ids_len,zeroS_len]
  simp -dsimp -implicitDefEqProofs [-getElem?_pos,go_sem,hP]
  refine adrawB (fun _=>true) [] hP (by kernel_rfl) (by kernel_rfl) ?_
  simp -dsimp -implicitDefEqProofs [-getElem?_pos,go_sem,hP,t1,t2,ob,lb]
  refine callB_pure (listEq_pf_subs x.2.2 a.Subs (by omega) hl) hP en_134 (args_sref t3 (by rw[encL_len]) (imm_subs _) (args_imm (imm_subs _) (args_nil.2 trivial))) .sc ?_
  by_cases c5:x.2.2=a.Subs
  ·rw[if_pos c5]at hchk
   have d5:decide (x.2.2=a.Subs)=true:=decide_eq_true c5
   simp -dsimp -implicitDefEqProofs [-getElem?_pos,go_sem,hP,d5,hchk]
  ·rw[if_neg c5]at hchk
   simp -dsimp -implicitDefEqProofs [-getElem?_pos,go_sem,hP,c5,hchk]
open Go.PA
open Go.RowKit
set_option maxHeartbeats 1000000 in
theorem flow_pf (a:TAccount) (from_ to:Int) (hl:a.Subs.length≤100000) (he:a.Entries.length≤100000):PFun Tryz.prog none none 44 [.agg a.cells,iv from_,iv to] (·= .tup [iv (flowA a from_ to).1,iv (flowA a from_ to).2]):=by
 refine pfun_intro Tryz.func44 rfl (by simp[Tryz.f44]) (by kernel_rfl) ?_
 intro E hP hr hs hW hN
 have ck:=check_pf a hl he
 rw[cA]at ck
 have ia:Imm (.agg [iv a.Credit,subsL a.Subs,entsL a.Entries]):=imm_acc a
 simp -dsimp -implicitDefEqProofs [-getElem?_pos,go_sem,hP,cA]
 refine callB_is (ck.lift _ _) hP en_82 (by simp[ia]) .sc ?_
 by_cases c1:checkA a=0
 rotate_left
 ·have:flowA a from_ to=(0,0):=by rw[flowA,if_neg c1]
  simp -dsimp -implicitDefEqProofs [-getElem?_pos,go_sem,hP,c1]
  refine done_imm (imm_pair .sc .sc) ?_
  rw[this]
 have tA:flowA a from_ to=(sumE (inF from_ to) a.Entries,sumE (outF from_ to) a.Entries):=by rw[flowA,if_pos c1]
 obtain⟨k1,k2,k3,k4,k5⟩:=check_ok c1
 simp -dsimp -implicitDefEqProofs [-getElem?_pos,go_sem,hP,c1]
 obtain⟨I,hI⟩:∃I:Nat→St→Prop,I=fun m s=>∃k:Nat,k≤a.Entries.length∧m=a.Entries.length-k∧s.t 1=iv from_∧s.t 2=iv to∧s.t 6=iv (sumE (inF from_ to) (a.Entries.take k))∧s.t 7=iv (sumE (outF from_ to) (a.Entries.take k))∧s.t 14=entsL a.Entries∧s.t 15=iv a.Entries.length∧s.t 16=iv k:=⟨_,rfl⟩
 refine aloop0 I (a.Entries.length) (by rw[hN];rfl) ?_ ?_
 ·rw[hI]
  exact⟨0,by omega,by omega,by simp -dsimp[-getElem?_pos,go_sem],by simp -dsimp[-getElem?_pos,go_sem],by simp -dsimp[-getElem?_pos,go_sem,sumE],by simp -dsimp[-getElem?_pos,go_sem,sumE],by simp -dsimp[-getElem?_pos,go_sem],by simp -dsimp[-getElem?_pos,go_sem],by simp -dsimp[-getElem?_pos,go_sem]⟩
 intro m s hs'
 rw[hI]at hs'
 obtain⟨k,hk,hm,t1,t2,t6,t7,t14,t15,t16⟩:=hs'
 simp -dsimp -implicitDefEqProofs [-getElem?_pos,go_sem,hP,t15,t16]
 refine condP (fun h=>?_) (fun h=>?_)
 ·have hk:k<a.Entries.length:=by simpa using h
  obtain⟨e,hee⟩:∃e,a.Entries[k]?=some e:=⟨_,List.getElem?_eq_getElem hk⟩
  have wk:=wrap_in ((k:Int)+1) (by omega)
  have e1:a.Entries.take (k+1)=a.Entries.take k++[e]:=by rw[List.take_add_one,hee];rfl
  have b2:(a.Entries.take (k+1)).length≤400:=by rw[List.length_take];omega
  have bi:=sumE_bound (inF from_ to) 1000000000000 (a.Entries.take (k+1)) fun x hx=>inF_bound c1 _ _ x (List.mem_of_mem_take hx)
  have bo:=sumE_bound (outF from_ to) 1000000000000 (a.Entries.take (k+1)) fun x hx=>outF_bound c1 _ _ x (List.mem_of_mem_take hx)
  have si:sumE (inF from_ to) (a.Entries.take (k+1))=sumE (inF from_ to) (a.Entries.take k)+inF from_ to e:=by rw[e1,sumE_snoc]
  have so:sumE (outF from_ to) (a.Entries.take (k+1))=sumE (outF from_ to) (a.Entries.take k)+outF from_ to e:=by rw[e1,sumE_snoc]
  have fin:∀s':St,s'.t 6=iv (sumE (inF from_ to) (a.Entries.take (k+1)))→s'.t 7=iv (sumE (outF from_ to) (a.Entries.take (k+1)))→s'.t 1=s.t 1→s'.t 2=s.t 2→s'.t 14=s.t 14→s'.t 15=s.t 15→s'.t 16=iv ((k:Int)+1)→∃n',n'<m∧I n' s':=fun s' e6 e7 e1 e2 e14 e15 e16=>by
   refine⟨a.Entries.length-(k+1),by omega,?_⟩
   rw[hI]
   exact⟨k+1,by omega,rfl,by rw[e1,t1],by rw[e2,t2],e6,e7,by rw[e14,t14],by rw[e15,t15],by rw[e16];simp⟩
  simp -dsimp -implicitDefEqProofs [-getElem?_pos,go_sem,hP,t14,t16,hee,TEntry.cells,t1,t2]
  refine callB_pure (among_pf e.Day from_ to) hP en_95 (args_same (by simp -dsimp[-getElem?_pos,go_sem])) .sc ?_
  by_cases d:amongB e.Day from_ to=true
  ·by_cases f0:e.From=0
   ·have g0:decide (e.From=0)=true:=by simpa using f0
    have fi:inF from_ to e=e.Amount:=by rw[inF,if_pos ⟨d,f0⟩]
    have wi:=wrap_in (sumE (inF from_ to) (a.Entries.take k)+e.Amount) (by omega)
    have z0:¬e.To=0:=fun z0=>(check_mem c1 e (List.mem_of_getElem? hee)).2.2.2.2.1 (f0.trans z0.symm)
    have fo:outF from_ to e=0:=by rw[outF,if_neg (fun h=>z0 h.2)]
    simp -dsimp -implicitDefEqProofs [-getElem?_pos,go_sem,hP,d,g0,t6,t16,wi,wk]
    exact fin _ (by simp -dsimp[-getElem?_pos,go_sem];rw[si,fi]) (by simp -dsimp[-getElem?_pos,go_sem,t7];rw[so,fo];simp) (by simp -dsimp[-getElem?_pos,go_sem]) (by simp -dsimp[-getElem?_pos,go_sem]) (by simp -dsimp[-getElem?_pos,go_sem]) (by simp -dsimp[-getElem?_pos,go_sem]) (by simp -dsimp[-getElem?_pos,go_sem])
   ·have fi:inF from_ to e=0:=by rw[inF,if_neg (fun h=>f0 h.2)]
    by_cases z0:e.To=0
    ·have g0:decide (e.To=0)=true:=by simpa using z0
     have fo:outF from_ to e=e.Amount:=by rw[outF,if_pos ⟨d,z0⟩]
     have wo:=wrap_in (sumE (outF from_ to) (a.Entries.take k)+e.Amount) (by omega)
     simp -dsimp -implicitDefEqProofs [-getElem?_pos,go_sem,hP,d,f0,g0,t7,t16,wo,wk]
     exact fin _ (by simp -dsimp[-getElem?_pos,go_sem,t6];rw[si,fi];simp) (by simp -dsimp[-getElem?_pos,go_sem];rw[so,fo]) (by simp -dsimp[-getElem?_pos,go_sem]) (by simp -dsimp[-getElem?_pos,go_sem]) (by simp -dsimp[-getElem?_pos,go_sem]) (by simp -dsimp[-getElem?_pos,go_sem]) (by simp -dsimp[-getElem?_pos,go_sem])
    ·have fo:outF from_ to e=0:=by rw[outF,if_neg (fun h=>z0 h.2)]
     simp -dsimp -implicitDefEqProofs [-getElem?_pos,go_sem,hP,d,f0,z0,t16,wk]
     exact fin _ (by simp -dsimp[-getElem?_pos,go_sem,t6];rw[si,fi];simp) (by simp -dsimp[-getElem?_pos,go_sem,t7];rw[so,fo];simp) (by simp -dsimp[-getElem?_pos,go_sem]) (by simp -dsimp[-getElem?_pos,go_sem]) (by simp -dsimp[-getElem?_pos,go_sem]) (by simp -dsimp[-getElem?_pos,go_sem]) (by simp -dsimp[-getElem?_pos,go_sem])
  ·have fi:inF from_ to e=0:=by rw[inF,if_neg (fun h=>d h.1)]
   have fo:outF from_ to e=0:=by rw[outF,if_neg (fun h=>d h.1)]
   have d:amongB e.Day from_ to=false:=by simpa using d
   simp -dsimp -implicitDefEqProofs [-getElem?_pos,go_sem,hP,d,t16,wk]
   exact fin _ (by simp -dsimp[-getElem?_pos,go_sem,t6];rw[si,fi];simp) (by simp -dsimp[-getElem?_pos,go_sem,t7];rw[so,fo];simp) (by simp -dsimp[-getElem?_pos,go_sem]) (by simp -dsimp[-getElem?_pos,go_sem]) (by simp -dsimp[-getElem?_pos,go_sem]) (by simp -dsimp[-getElem?_pos,go_sem]) (by simp -dsimp[-getElem?_pos,go_sem])
 ·have hk:k=a.Entries.length:=by simp at h;omega
  subst hk
  rw[List.take_length]at t6 t7
  simp -dsimp -implicitDefEqProofs [-getElem?_pos,go_sem,hP,t6,t7]
  refine done_imm (imm_pair .sc .sc) ?_
  rw[tA]
open Go.PA
open Go.RowKit
open Go.PA
open Go.RowKit
open Go.PA
open Go.RowKit
theorem imm_ints (l:List Int):Imm (intsL l):=by simp[go_sem,intsL]
open Go.PA
open Go.RowKit
theorem prev_at {α β:Type} {f:α→β} {l:List α} {k:Nat} {p:α} (hp:l[k]?=some p):∀j x,k+1=j+1→l[j]?=some x→f p=f x:=fun j x hj hx=>by
 cases (show k=j by omega)
 rw[hp]at hx
 cases hx
 rfl
open Go.PA
open Go.RowKit
theorem r02valid_pf (d:Int):PFun Tryz.prog none none 277 [iv d] (·=bv (amg d 0 36000)):=by
 refine pfun_intro Tryz.func277 rfl (by simp[Tryz.f277]) (by kernel_rfl) ?_
 intro E hP hr hs hW hN
 by_cases h1:0≤d<;>by_cases h2:d≤36000<;>simp -dsimp -implicitDefEqProofs [-getElem?_pos,go_sem,hP,h1,h2,amg]
theorem r02business_pf (d:Int):PFun Tryz.prog none none 219 [iv d] (·=bv (busB d)):=by
 refine pfun_intro Tryz.func219 rfl (by simp[Tryz.f219]) (by kernel_rfl) ?_
 intro E hP hr hs hW hN
 simp -dsimp -implicitDefEqProofs [-getElem?_pos,go_sem,hP]
 refine callB_pure (r02valid_pf d) hP en_277 (args_same (by simp -dsimp[-getElem?_pos,go_sem])) .sc ?_
 cases h:amg d 0 36000
 ·simp -dsimp -implicitDefEqProofs [-getElem?_pos,go_sem,hP,h,busB]
 have hd:=amg_iff.1 h
 have e:d.tmod 7=d%7:=Int.tmod_eq_emod_of_nonneg (by omega)
 have w:=wrap_in (d%7) (by omega)
 simp -dsimp -implicitDefEqProofs [-getElem?_pos,go_sem,hP,h,busB,e,w]
open Go.PA
open Go.RowKit
open Go.PA
open Go.RowKit
theorem rpay_pf (p:TPayment):PFun Tryz.prog none none 271 [.agg p.cells] (·=bv (payPB p)):=by
 refine pfun_intro Tryz.func271 rfl (by simp[Tryz.f271]) (by kernel_rfl) ?_
 intro E hP hr hs hW hN
 obtain⟨R,hR⟩:∃R,R=payPB p:=⟨_,rfl⟩
 rw[←hR]
 have hiff:=payPB_iff p
 rw[←hR]at hiff
 have no:¬PayOk p→R=false:=fun h=>Bool.eq_false_iff.2 fun e=>h (hiff.1 e)
 have yes:PayOk p→R=true:=hiff.2
 by_cases c1:1≤p.Warrant
 rotate_left
 ·have:=no fun h=>c1 h.warrant.1
  simp -dsimp -implicitDefEqProofs [-getElem?_pos,go_sem,hP,cPy,c1,this]
 by_cases c2:p.Warrant≤1000000
 rotate_left
 ·have:=no fun h=>c2 h.warrant.2
  simp -dsimp -implicitDefEqProofs [-getElem?_pos,go_sem,hP,cPy,c1,c2,this]
 by_cases c3:1≤p.Payee
 rotate_left
 ·have:=no fun h=>c3 h.payee.1
  simp -dsimp -implicitDefEqProofs [-getElem?_pos,go_sem,hP,cPy,c1,c2,c3,this]
 by_cases c4:p.Payee≤1000000
 rotate_left
 ·have:=no fun h=>c4 h.payee.2
  simp -dsimp -implicitDefEqProofs [-getElem?_pos,go_sem,hP,cPy,c1,c2,c3,c4,this]
 by_cases c5:1≤p.Amount
 rotate_left
 ·have:=no fun h=>c5 h.amount.1
  simp -dsimp -implicitDefEqProofs [-getElem?_pos,go_sem,hP,cPy,c1,c2,c3,c4,c5,this]
 by_cases c6:p.Amount≤1000000000000
 rotate_left
 ·have:=no fun h=>c6 h.amount.2
  simp -dsimp -implicitDefEqProofs [-getElem?_pos,go_sem,hP,cPy,c1,c2,c3,c4,c5,c6,this]
 by_cases c7:0≤p.Due
 rotate_left
 ·have:=no fun h=>c7 h.due.1
  simp -dsimp -implicitDefEqProofs [-getElem?_pos,go_sem,hP,cPy,c1,c2,c3,c4,c5,c6,c7,this]
 by_cases c8:p.Due≤35990
 rotate_left
 ·have:=no fun h=>c8 h.due.2
  simp -dsimp -implicitDefEqProofs [-getElem?_pos,go_sem,hP,cPy,c1,c2,c3,c4,c5,c6,c7,c8,this]
 by_cases c9:1≤p.Sub
 rotate_left
 ·have:=no fun h=>c9 h.sub.1
  simp -dsimp -implicitDefEqProofs [-getElem?_pos,go_sem,hP,cPy,c1,c2,c3,c4,c5,c6,c7,c8,c9,this]
 by_cases c10:p.Sub≤1000
 rotate_left
 ·have:=no fun h=>c10 h.sub.2
  simp -dsimp -implicitDefEqProofs [-getElem?_pos,go_sem,hP,cPy,c1,c2,c3,c4,c5,c6,c7,c8,c9,c10,this]
 have:=yes ⟨⟨c1,c2⟩,⟨c3,c4⟩,⟨c5,c6⟩,⟨c7,c8⟩,c9,c10⟩
 simp -dsimp -implicitDefEqProofs [-getElem?_pos,go_sem,hP,cPy,c1,c2,c3,c4,c5,c6,c7,c8,c9,c10,this]
theorem rbefore_pf (a b:TPayment):PFun Tryz.prog none none 302 [.agg a.cells,.agg b.cells] (·=bv (befB a b)):=by
 refine pfun_intro Tryz.func302 rfl (by simp[Tryz.f302]) (by kernel_rfl) ?_
 intro E hP hr hs hW hN
 by_cases c1:a.Due<b.Due
 ·have:befB a b=true:=befB_iff.2 (.inl c1)
  simp -dsimp -implicitDefEqProofs [-getElem?_pos,go_sem,hP,cPy,c1,this]
 by_cases c2:a.Due=b.Due
 rotate_left
 ·have:befB a b=false:=Bool.eq_false_iff.2 fun e=>by have:=befB_iff.1 e;unfold Bef at this;omega
  simp -dsimp -implicitDefEqProofs [-getElem?_pos,go_sem,hP,cPy,c1,c2,this]
 have d1:decide (b.Due<b.Due)=false:=decide_eq_false (by omega)
 by_cases c3:a.Warrant<b.Warrant
 ·have:befB a b=true:=befB_iff.2 (.inr ⟨c2,c3⟩)
  simp -dsimp -implicitDefEqProofs [-getElem?_pos,go_sem,hP,cPy,c1,c2,c3,d1,this]
 ·have:befB a b=false:=Bool.eq_false_iff.2 fun e=>by have:=befB_iff.1 e;unfold Bef at this;omega
  simp -dsimp -implicitDefEqProofs [-getElem?_pos,go_sem,hP,cPy,c1,c2,c3,d1,this]
theorem rknown_pf (q:TQueue) (w:Int) (hl:q.Known.length≤1000000):PFun Tryz.prog none none 275 [.agg q.cells,iv w] (·=bv (decide (w∈q.Known))):=by
 refine pfun_intro Tryz.func275 rfl (by simp[Tryz.f275]) (by kernel_rfl) ?_
 intro E hP hr hs hW hN
 obtain⟨R,hR⟩:∃R,R=decide (w∈q.Known):=⟨_,rfl⟩
 rw[←hR]
 obtain⟨l,hll⟩:∃l,l=q.Known:=⟨_,rfl⟩
 rw[←hll]at hR hl
 simp -dsimp -implicitDefEqProofs [-getElem?_pos,go_sem,hP,cQu,intsL,←hll]
 obtain⟨I,hI⟩:∃I:Nat→St→Prop,I=fun m s=>∃k:Nat,k≤l.length∧m=l.length-k∧R=decide (w∈l.drop k)∧s.t 1=iv w∧s.t 8=intsL l∧s.t 9=iv l.length∧s.t 10=iv k:=⟨_,rfl⟩
 refine aloop0 I (l.length) (by rw[hN];rfl) ?_ ?_
 ·rw[hI]
  exact⟨0,by omega,by omega,by rw[hR];rfl,by simp -dsimp[-getElem?_pos,go_sem],by simp -dsimp[-getElem?_pos,go_sem,intsL],by simp -dsimp[-getElem?_pos,go_sem],by simp -dsimp[-getElem?_pos,go_sem]⟩
 intro m s hs'
 rw[hI]at hs'
 obtain⟨k,hk,hm,hq,t1,t8,t9,t10⟩:=hs'
 simp -dsimp -implicitDefEqProofs [-getElem?_pos,go_sem,hP,t9,t10]
 refine condP (fun h=>?_) (fun h=>?_)
 ·have hk:k<l.length:=by simpa using h
  obtain⟨a,ha⟩:∃a,l[k]?=some a:=⟨_,List.getElem?_eq_getElem hk⟩
  have wk:=wrap_in ((k:Int)+1) (by omega)
  rw[drop_at ha]at hq
  simp only[List.mem_cons]at hq
  by_cases c:a=w
  ·have:R=true:=by rw[hq];simp[c]
   simp -dsimp -implicitDefEqProofs [-getElem?_pos,go_sem,hP,t8,t10,intsL,ha,t1,c,this]
  ·have c':¬w=a:=fun e=>c e.symm
   have d:=decide_eq_false c
   simp only[c',false_or]at hq
   simp -dsimp -implicitDefEqProofs [-getElem?_pos,go_sem,hP,t8,t10,intsL,ha,t1,c,d,wk]
   refine⟨l.length-(k+1),by omega,?_⟩
   rw[hI]
   exact⟨k+1,by omega,rfl,hq,by simp -dsimp[-getElem?_pos,go_sem,t1],by simp -dsimp[-getElem?_pos,go_sem,t8],by simp -dsimp[-getElem?_pos,go_sem,t9],by simp -dsimp[-getElem?_pos,go_sem]⟩
 ·have hk:k=l.length:=by simp at h;omega
  subst hk
  rw[List.drop_length]at hq
  have:R=false:=by rw[hq];simp
  simp -dsimp -implicitDefEqProofs [-getElem?_pos,go_sem,hP,this]
theorem rwaits_pf (q:TQueue) (w:Int) (hl:q.Waiting.length≤1000000):PFun Tryz.prog none none 278 [.agg q.cells,iv w] (·=iv (waitQ q w)):=by
 refine pfun_intro Tryz.func278 rfl (by simp[Tryz.f278]) (by kernel_rfl) ?_
 intro E hP hr hs hW hN
 obtain⟨R,hR⟩:∃R,R=waitQ q w:=⟨_,rfl⟩
 rw[←hR]
 rw[waitQ]at hR
 obtain⟨l,hll⟩:∃l,l=q.Waiting:=⟨_,rfl⟩
 rw[←hll]at hR hl
 simp -dsimp -implicitDefEqProofs [-getElem?_pos,go_sem,hP,cQu,intsL,←hll]
 obtain⟨I,hI⟩:∃I:Nat→St→Prop,I=fun m s=>∃k:Nat,k≤l.length∧m=l.length-k∧R=idxFrom (fun p:TPayment=>decide (p.Warrant=w)) k (l.drop k)∧s.t 1=iv w∧s.t 8=paysL l∧s.t 9=iv l.length∧s.t 10=iv k:=⟨_,rfl⟩
 refine aloop0 I (l.length) (by rw[hN];rfl) ?_ ?_
 ·rw[hI]
  exact⟨0,by omega,by omega,by rw[hR];rfl,by simp -dsimp[-getElem?_pos,go_sem],by simp -dsimp[-getElem?_pos,go_sem],by simp -dsimp[-getElem?_pos,go_sem],by simp -dsimp[-getElem?_pos,go_sem]⟩
 intro m s hs'
 rw[hI]at hs'
 obtain⟨k,hk,hm,hq,t1,t8,t9,t10⟩:=hs'
 simp -dsimp -implicitDefEqProofs [-getElem?_pos,go_sem,hP,t9,t10]
 refine condP (fun h=>?_) (fun h=>?_)
 ·have hk:k<l.length:=by simpa using h
  obtain⟨a,ha⟩:∃a,l[k]?=some a:=⟨_,List.getElem?_eq_getElem hk⟩
  have wk:=wrap_in ((k:Int)+1) (by omega)
  rw[drop_at ha,idxFrom]at hq
  by_cases c:a.Warrant=w
  ·rw[if_pos (by simpa using c)]at hq
   simp -dsimp -implicitDefEqProofs [-getElem?_pos,go_sem,hP,t8,t10,ha,cPy,t1,c,hq]
  ·rw[if_neg (by simpa using c)]at hq
   have d:=decide_eq_false c
   simp -dsimp -implicitDefEqProofs [-getElem?_pos,go_sem,hP,t8,t10,ha,cPy,t1,c,d,wk]
   refine⟨l.length-(k+1),by omega,?_⟩
   rw[hI]
   exact⟨k+1,by omega,rfl,hq,by simp -dsimp[-getElem?_pos,go_sem,t1],by simp -dsimp[-getElem?_pos,go_sem,t8],by simp -dsimp[-getElem?_pos,go_sem,t9],by simp -dsimp[-getElem?_pos,go_sem]⟩
 ·have hk:k=l.length:=by simp at h;omega
  subst hk
  rw[List.drop_length,idxFrom]at hq
  simp -dsimp -implicitDefEqProofs [-getElem?_pos,go_sem,hP,hq]
set_option maxHeartbeats 1000000 in
theorem rascending_pf (q:TQueue) (l:List TPayment) (hk9:q.Known.length≤1000000) (hl:l.length≤1000000):PFun Tryz.prog none none 301 [.agg q.cells,paysL l] (·=bv (ascB q.Known l)):=by
 refine pfun_intro Tryz.func301 rfl (by simp[Tryz.f301]) (by kernel_rfl) ?_
 intro E hP hr hs hW hN
 have iq:=imm_que q
 have knn:=fun w=>rknown_pf q w hk9
 rw[cQu]at iq
 simp only[cQu]at knn
 simp only[intsL]at iq knn
 obtain⟨R,hR⟩:∃R,R=ascB q.Known l:=⟨_,rfl⟩
 rw[←hR]
 simp -dsimp -implicitDefEqProofs [-getElem?_pos,go_sem,hP,cQu,intsL]
 obtain⟨I,hI⟩:∃I:Nat→St→Prop,I=fun m s=>∃(k:Nat) (o:Option TPayment),k≤l.length∧m=l.length-k∧R=(ordFrom o (l.drop k)&&((l.drop k).all (inK q.Known)&&distFrom (l.take k) (l.drop k)))∧(k=0→o=none)∧(∀j x,k=j+1→l[j]?=some x→o=some x)∧s.t 1=paysL l∧s.t 2= .ref 0 0 0∧s.t 9=paysL l∧s.t 10=iv l.length∧s.t 11=iv k∧s.H[0]?=some (some ⟨32,3,[[paysL q.Waiting,.list 1 (q.Known.map fun x=>[iv x]),batsL q.Batches]]⟩):=⟨_,rfl⟩
 refine aloop0 I (l.length) (by rw[hN];rfl) ?_ ?_
 ·rw[hI]
  exact⟨0,none,by omega,by omega,by rw[hR];rfl,by simp,by omega,by simp -dsimp[-getElem?_pos,go_sem],by simp -dsimp[-getElem?_pos,go_sem],by simp -dsimp[-getElem?_pos,go_sem],by simp -dsimp[-getElem?_pos,go_sem],by simp -dsimp[-getElem?_pos,go_sem],by simp -dsimp[-getElem?_pos,go_sem]⟩
 intro m s hs'
 rw[hI]at hs'
 obtain⟨k,o,hk,hm,hq,ho0,ho1,t1,t2,t9,t10,t11,h0⟩:=hs'
 have lt0:=(gsI h0)
 simp -dsimp -implicitDefEqProofs [-getElem?_pos,go_sem,hP,t10,t11]
 refine condP (fun h=>?_) (fun h=>?_)
 rotate_left
 ·have hk:k=l.length:=by simp at h;omega
  subst hk
  rw[List.drop_length,ordFrom,distFrom]at hq
  have:R=true:=by rw[hq];rfl
  simp -dsimp -implicitDefEqProofs [-getElem?_pos,go_sem,hP,this]
 have hk:k<l.length:=by simpa using h
 obtain⟨p,hp⟩:∃p,l[k]?=some p:=⟨_,List.getElem?_eq_getElem hk⟩
 have wk:=wrap_in ((k:Int)+1) (by omega)
 have ip:=imm_pay p
 have py:=rpay_pf p
 rw[cPy]at py ip
 rw[drop_at hp,ordFrom,List.all_cons,distFrom,←take_at hp]at hq
 have g0:∀x:Option AObj,(s.H++[x])[0]?=some (some ⟨32,3,[[paysL q.Waiting,.list 1 (q.Known.map fun x=>[iv x]),batsL q.Batches]]⟩):=fun x=>by rw[List.getElem?_append_left lt0];exact h0
 obtain⟨n,hn⟩:∃n,n=s.H.length:=⟨_,rfl⟩
 obtain⟨Inv,hInv⟩:∃Inv:St→Prop,Inv=fun s'=>(R=false∧s'.t 39=bv true∨s'.t 39=bv false∧R=(ordFrom (some p) (l.drop (k+1))&&(((l.drop (k+1)).all (inK q.Known))&&(!((l.take k).any fun x=>decide (x.Warrant=p.Warrant))&&distFrom (l.take (k+1)) (l.drop (k+1))))))∧s'.t 1=paysL l∧s'.t 2= .ref 0 0 0∧s'.t 5=iv k∧s'.t 6= .ref n 0 0∧s'.t 9=paysL l∧s'.t 10=iv l.length∧s'.t 11=iv k∧s'.H[0]?=some (some ⟨32,3,[[paysL q.Waiting,.list 1 (q.Known.map fun x=>[iv x]),batsL q.Batches]]⟩)∧s'.H[n]?=some (some ⟨81,5,[[iv p.Warrant,iv p.Payee,iv p.Amount,iv p.Due,iv p.Sub]]⟩):=⟨_,rfl⟩
 have fin:∀s':St,(R=false∧s'.t 39=bv true∨s'.t 39=bv false∧R=(ordFrom (some p) (l.drop (k+1))&&(((l.drop (k+1)).all (inK q.Known))&&(!((l.take k).any fun x=>decide (x.Warrant=p.Warrant))&&distFrom (l.take (k+1)) (l.drop (k+1))))))→s'.t 1=paysL l→s'.t 2= .ref 0 0 0→s'.t 5=iv k→s'.t 6= .ref n 0 0→s'.t 9=paysL l→s'.t 10=iv l.length→s'.t 11=iv k→s'.H[0]?=some (some ⟨32,3,[[paysL q.Waiting,.list 1 (q.Known.map fun x=>[iv x]),batsL q.Batches]]⟩)→s'.H[n]?=some (some ⟨81,5,[[iv p.Warrant,iv p.Payee,iv p.Amount,iv p.Due,iv p.Sub]]⟩)→Inv s':=fun s' a b c d e f g h i j=>by
  rw[hInv]
  exact⟨a,b,c,d,e,f,g,h,i,j⟩
 simp -dsimp -implicitDefEqProofs [-getElem?_pos,go_sem,hP,t9,t11,hp,cPy]
 refine adraw_cut Inv ?_ ?_
 ·refine adrawB (fun _=>true) [] hP (by kernel_rfl) (by kernel_rfl) ?_
  simp -dsimp -implicitDefEqProofs [-getElem?_pos,go_sem,hP]
  refine callB_is (py.lift _ _) hP en_271 (by simpa using ip) .sc ?_
  cases h1:payPB p
  ·rw[h1,Bool.false_and,Bool.false_and]at hq
   simp -dsimp -implicitDefEqProofs [-getElem?_pos,go_sem,hP,h1]
   exact fin _ (.inl ⟨hq,by simp -dsimp[-getElem?_pos,go_sem]⟩) (by simp -dsimp[-getElem?_pos,go_sem,t1]) (by simp -dsimp[-getElem?_pos,go_sem,t2]) (by simp -dsimp[-getElem?_pos,go_sem]) (by simp -dsimp[-getElem?_pos,go_sem,hn]) (by simp -dsimp[-getElem?_pos,go_sem,t9]) (by simp -dsimp[-getElem?_pos,go_sem,t10]) (by simp -dsimp[-getElem?_pos,go_sem,t11]) (by simp -dsimp[-getElem?_pos,go_sem,g0]) (by simp -dsimp[-getElem?_pos,go_sem,hn])
  rw[h1,Bool.true_and]at hq
  simp -dsimp -implicitDefEqProofs [-getElem?_pos,go_sem,hP,h1,t2,g0,lt0,h0]
  refine callB_is ((knn p.Warrant).lift _ _) hP en_275 (by simpa[imm_sc]using iq) .sc ?_
  cases h2:decide (p.Warrant∈q.Known)
  ·have hq:R=false:=by rw[hq,inK,h2,Bool.false_and,Bool.false_and,Bool.and_false]
   simp -dsimp -implicitDefEqProofs [-getElem?_pos,go_sem,hP,h2]
   exact fin _ (.inl ⟨hq,by simp -dsimp[-getElem?_pos,go_sem]⟩) (by simp -dsimp[-getElem?_pos,go_sem,t1]) (by simp -dsimp[-getElem?_pos,go_sem,t2]) (by simp -dsimp[-getElem?_pos,go_sem]) (by simp -dsimp[-getElem?_pos,go_sem,hn]) (by simp -dsimp[-getElem?_pos,go_sem,t9]) (by simp -dsimp[-getElem?_pos,go_sem,t10]) (by simp -dsimp[-getElem?_pos,go_sem,t11]) (by simp -dsimp[-getElem?_pos,go_sem,g0]) (by simp -dsimp[-getElem?_pos,go_sem,hn])
  rw[inK,h2,Bool.true_and]at hq
  rcases Nat.eq_zero_or_pos k with k0|k0
  ·rw[ho0 k0,allO,Bool.true_and]at hq
   have k0':¬0<k:=by omega
   have hjk:decide ((0:Int)<(k:Int))=false:=decide_eq_false (by omega)
   simp -dsimp -implicitDefEqProofs [-getElem?_pos,go_sem,hP,h2,k0',hjk]
   exact fin _ (.inr ⟨by simp -dsimp[-getElem?_pos,go_sem],hq⟩) (by simp -dsimp[-getElem?_pos,go_sem,t1]) (by simp -dsimp[-getElem?_pos,go_sem,t2]) (by simp -dsimp[-getElem?_pos,go_sem]) (by simp -dsimp[-getElem?_pos,go_sem,hn]) (by simp -dsimp[-getElem?_pos,go_sem,t9]) (by simp -dsimp[-getElem?_pos,go_sem,t10]) (by simp -dsimp[-getElem?_pos,go_sem,t11]) (by simp -dsimp[-getElem?_pos,go_sem,g0]) (by simp -dsimp[-getElem?_pos,go_sem,hn])
  obtain⟨j,hj⟩:∃j,k=j+1:=⟨k-1,by omega⟩
  obtain⟨x,hx⟩:∃x,l[j]?=some x:=⟨_,List.getElem?_eq_getElem (by omega)⟩
  have hox:=ho1 j x hj hx
  have hjk:decide ((0:Int)<(k:Int))=true:=decide_eq_true (by omega)
  have wj:IntKind.i64.wrap ((k:Int)-1)=(j:Int):=by rw[wrap_in _ (by omega)];omega
  have cm:=rbefore_pf x p
  have ix:=imm_pay x
  rw[cPy,cPy]at cm
  rw[cPy]at ix
  rw[hox,allO]at hq
  simp -dsimp -implicitDefEqProofs [-getElem?_pos,go_sem,hP,h2,k0,hjk,wj,t1,hx,cPy]
  refine callB_is (cm.lift _ _) hP en_302 (by simpa using⟨ix,ip⟩) .sc ?_
  cases c:befB x p
  ·rw[c,Bool.false_and,Bool.false_and]at hq
   simp -dsimp -implicitDefEqProofs [-getElem?_pos,go_sem,hP,c]
   exact fin _ (.inl ⟨hq,by simp -dsimp[-getElem?_pos,go_sem]⟩) (by simp -dsimp[-getElem?_pos,go_sem,t1]) (by simp -dsimp[-getElem?_pos,go_sem,t2]) (by simp -dsimp[-getElem?_pos,go_sem]) (by simp -dsimp[-getElem?_pos,go_sem,hn]) (by simp -dsimp[-getElem?_pos,go_sem,t9]) (by simp -dsimp[-getElem?_pos,go_sem,t10]) (by simp -dsimp[-getElem?_pos,go_sem,t11]) (by simp -dsimp[-getElem?_pos,go_sem,g0]) (by simp -dsimp[-getElem?_pos,go_sem,hn])
  ·rw[c,Bool.true_and]at hq
   simp -dsimp -implicitDefEqProofs [-getElem?_pos,go_sem,hP,c]
   exact fin _ (.inr ⟨by simp -dsimp[-getElem?_pos,go_sem],hq⟩) (by simp -dsimp[-getElem?_pos,go_sem,t1]) (by simp -dsimp[-getElem?_pos,go_sem,t2]) (by simp -dsimp[-getElem?_pos,go_sem]) (by simp -dsimp[-getElem?_pos,go_sem,hn]) (by simp -dsimp[-getElem?_pos,go_sem,t9]) (by simp -dsimp[-getElem?_pos,go_sem,t10]) (by simp -dsimp[-getElem?_pos,go_sem,t11]) (by simp -dsimp[-getElem?_pos,go_sem,g0]) (by simp -dsimp[-getElem?_pos,go_sem,hn])
 clear hq ho0 ho1 t1 t2 t9 t10 t11 h0 lt0 g0 fin
 rw[hInv]
 rintro s ⟨hR'|⟨t39,hq⟩,t1,t2,t5,t6,t9,t10,t11,h0,hN'⟩
 ·simp -dsimp -implicitDefEqProofs [-getElem?_pos,go_sem,hP,hR'.1,hR'.2]
 have lt0:=(gsI h0)
 have ltn:=(List.getElem?_eq_some_iff.1 hN').1
 have e1:(encL TPayment.cells l).take k=encL TPayment.cells (l.take k):=encL_takeE _ _ _
 have e2:(l.take k).length=k:=by simp;omega
 obtain⟨T,hT⟩:∃T,T=l.take k:=⟨_,rfl⟩
 rw[←hT]at e1 e2 hq
 clear hT
 have c1:(0:Int)≤(k:Int)∧(k:Int)≤(l.length:Int):=by omega
 simp -dsimp -implicitDefEqProofs [-getElem?_pos,go_sem,hP,t39,t1,t5,asliceOp,bound,aslice,c1,e1]
 obtain⟨J,hJ⟩:∃I:Nat→St→Prop,I=fun m s=>∃(j:Nat),j≤k∧m=k-j∧R=(ordFrom (some p) (l.drop (k+1))&&(((l.drop (k+1)).all (inK q.Known))&&(!((T.drop j).any fun x=>decide (x.Warrant=p.Warrant))&&distFrom (l.take (k+1)) (l.drop (k+1)))))∧s.t 1=paysL l∧s.t 2= .ref 0 0 0∧s.t 6= .ref n 0 0∧s.t 9=paysL l∧s.t 10=iv l.length∧s.t 11=iv k∧s.t 42=paysL T∧s.t 43=iv k∧s.t 44=iv j∧s.H[0]?=some (some ⟨32,3,[[paysL q.Waiting,.list 1 (q.Known.map fun x=>[iv x]),batsL q.Batches]]⟩)∧s.H[n]?=some (some ⟨81,5,[[iv p.Warrant,iv p.Payee,iv p.Amount,iv p.Due,iv p.Sub]]⟩):=⟨_,rfl⟩
 refine aloop0 J (k) (by rw[hN];rfl) ?_ ?_
 ·rw[hJ]
  exact⟨0,by omega,by omega,hq,by simp -dsimp[-getElem?_pos,go_sem,t1],by simp -dsimp[-getElem?_pos,go_sem,t2],by simp -dsimp[-getElem?_pos,go_sem,t6],by simp -dsimp[-getElem?_pos,go_sem,t9],by simp -dsimp[-getElem?_pos,go_sem,t10],by simp -dsimp[-getElem?_pos,go_sem,t11],by simp -dsimp[-getElem?_pos,go_sem],by simp -dsimp[-getElem?_pos,go_sem,e2],by simp -dsimp[-getElem?_pos,go_sem],by simp -dsimp[-getElem?_pos,go_sem,h0],by simp -dsimp[-getElem?_pos,go_sem,hN']⟩
 clear t1 t2 t5 t6 t9 t10 t11 t39 h0 lt0 hN' ltn hq hn
 intro m s hs'
 rw[hJ]at hs'
 obtain⟨j,hj,hm2,hq,t1,t2,t6,t9,t10,t11,t42,t43,t44,h0,hN'⟩:=hs'
 have lt0:=(gsI h0)
 have ltn:=(List.getElem?_eq_some_iff.1 hN').1
 simp -dsimp -implicitDefEqProofs [-getElem?_pos,go_sem,hP,t43,t44]
 refine condP (fun hh=>?_) (fun hh=>?_)
 ·have hj:j<k:=by simpa using hh
  obtain⟨x,hx⟩:∃x,T[j]?=some x:=⟨_,List.getElem?_eq_getElem (by omega)⟩
  have wj:=wrap_in ((j:Int)+1) (by omega)
  have gn:∀x:Option AObj,(s.H++[x])[n]?=some (some ⟨81,5,[[iv p.Warrant,iv p.Payee,iv p.Amount,iv p.Due,iv p.Sub]]⟩):=fun x=>by rw[List.getElem?_append_left ltn];exact hN'
  rw[drop_at hx,List.any_cons]at hq
  by_cases c:x.Warrant=p.Warrant
  ·have:R=false:=by rw[hq,decide_eq_true c];simp
   simp -dsimp -implicitDefEqProofs [-getElem?_pos,go_sem,hP,t42,t44,hx,cPy,t6,gn,ltn,hN',c,this]
  ·have d:=decide_eq_false c
   rw[d,Bool.false_or]at hq
   simp -dsimp -implicitDefEqProofs [-getElem?_pos,go_sem,hP,t42,t44,hx,cPy,t6,gn,ltn,hN',d,wj]
   refine⟨k-(j+1),by omega,?_⟩
   rw[hJ]
   exact⟨j+1,by omega,rfl,hq,by simp -dsimp[-getElem?_pos,go_sem,t1],by simp -dsimp[-getElem?_pos,go_sem,t2],by simp -dsimp[-getElem?_pos,go_sem,t6],by simp -dsimp[-getElem?_pos,go_sem,t9],by simp -dsimp[-getElem?_pos,go_sem,t10],by simp -dsimp[-getElem?_pos,go_sem,t11],by simp -dsimp[-getElem?_pos,go_sem,t42],by simp -dsimp[-getElem?_pos,go_sem,t43],by simp -dsimp[-getElem?_pos,go_sem],by simp -dsimp[-getElem?_pos,go_sem,lt0,h0],by simp -dsimp[-getElem?_pos,go_sem,gn]⟩
 ·have hj:j=k:=by simp at hh;omega
  subst hj
  have e3:T.drop j=[]:=List.drop_eq_nil_of_le (by omega)
  rw[e3,List.any_nil,Bool.not_false,Bool.true_and]at hq
  simp -dsimp -implicitDefEqProofs [-getElem?_pos,go_sem,hP,t11,wk]
  refine⟨l.length-(j+1),by omega,?_⟩
  rw[hI]
  exact⟨j+1,some p,by omega,rfl,hq,by omega,prev_at (f:=some) hp,by simp -dsimp[-getElem?_pos,go_sem,t1],by simp -dsimp[-getElem?_pos,go_sem,t2],by simp -dsimp[-getElem?_pos,go_sem,t9],by simp -dsimp[-getElem?_pos,go_sem,t10],by simp -dsimp[-getElem?_pos,go_sem],by simp -dsimp[-getElem?_pos,go_sem,h0]⟩
set_option maxHeartbeats 2000000 in
theorem rcheck25_pf (q:TQueue) (hf:FitQ q):PFun Tryz.prog none none 270 [.agg q.cells] (·=iv (checkQ q)):=by
 refine pfun_intro Tryz.func270 rfl (by simp[Tryz.f270]) (by kernel_rfl) ?_
 intro E hP hr hs hW hN
 have iq:=imm_que q
 have iw:=imm_pays q.Waiting
 obtain⟨R,hR⟩:∃R,R=checkQ q:=⟨_,rfl⟩
 rw[←hR]
 have hk9:=hf.k
 have hb9:=hf.b
 have hw9:=hf.w
 have asc:=fun l hl=>rascending_pf q l (by omega) hl
 rw[cQu]at iq
 simp only[cQu]at asc
 simp only[intsL]at iq asc
 rw[checkQ]at hR
 by_cases c1:100<q.Waiting.length
 ·have d1:decide ((100:Int)<(q.Waiting.length:Int))=true:=decide_eq_true (by omega)
  rw[if_pos (.inl c1)]at hR
  simp -dsimp -implicitDefEqProofs [-getElem?_pos,go_sem,hP,cQu,intsL,c1,d1,hR]
 have d1:decide ((100:Int)<(q.Waiting.length:Int))=false:=decide_eq_false (by omega)
 by_cases c2:200<q.Known.length
 ·have d2:decide ((200:Int)<(q.Known.length:Int))=true:=decide_eq_true (by omega)
  rw[if_pos (.inr (.inl c2))]at hR
  simp -dsimp -implicitDefEqProofs [-getElem?_pos,go_sem,hP,cQu,intsL,c1,d1,c2,d2,hR]
 have d2:decide ((200:Int)<(q.Known.length:Int))=false:=decide_eq_false (by omega)
 by_cases c3:200<q.Batches.length
 ·have d3:decide ((200:Int)<(q.Batches.length:Int))=true:=decide_eq_true (by omega)
  rw[if_pos (.inr (.inr c3))]at hR
  simp -dsimp -implicitDefEqProofs [-getElem?_pos,go_sem,hP,cQu,intsL,c1,d1,c2,d2,c3,d3,hR]
 have d3:decide ((200:Int)<(q.Batches.length:Int))=false:=decide_eq_false (by omega)
 rw[if_neg (by omega)]at hR
 obtain⟨K,hK⟩:∃K,K=q.Known:=⟨_,rfl⟩
 obtain⟨W,hWt⟩:∃W,W=q.Waiting:=⟨_,rfl⟩
 obtain⟨l,hl⟩:∃l,l=q.Batches:=⟨_,rfl⟩
 have each:∀b,b∈l→b.Payments.length≤100000:=hl▸hf.each
 rw[←hK,←hWt,←hl]at hR iq asc
 rw[←hK]at hk9 d2
 rw[←hWt]at hw9 d1 iw
 rw[←hl]at hb9 d3
 have h0I:∀(H:Heap),H[0]?=some (some ⟨32,3,[[paysL W,.list 1 (K.map fun x=>[iv x]),batsL l]]⟩)→0<H.length:=fun H h=>(gsI h)
 have bad:∀a b:Bool,R=(if (a&&b)=true then 0 else 64)→(a=false∨b=false)→R=64:=fun a b h e=>by
  rw[h,if_neg]
  rcases e with e|e<;>simp[e]
 simp -dsimp -implicitDefEqProofs [-getElem?_pos,go_sem,hP,cQu,intsL,←hK,←hWt,←hl,d1,d2,d3]
 obtain⟨I,hI⟩:∃I:Nat→St→Prop,I=fun m s=>∃(k:Nat) (o:Option Int),k≤K.length∧m=K.length-k∧knFrom none K=knFrom o (K.drop k)∧(k=0→o=none)∧(∀j x,k=j+1→K[j]?=some x→o=some x)∧s.t 1= .ref 0 0 0∧s.t 24=intsL K∧s.t 25=iv K.length∧s.t 26=iv k∧s.H[0]?=some (some ⟨32,3,[[paysL W,.list 1 (K.map fun x=>[iv x]),batsL l]]⟩):=⟨_,rfl⟩
 refine aloop0 I (K.length) (by rw[hN];rfl) ?_ ?_
 ·rw[hI]
  exact⟨0,none,by omega,by omega,by rfl,by simp,by omega,by simp -dsimp[-getElem?_pos,go_sem],by simp -dsimp[-getElem?_pos,go_sem,intsL],by simp -dsimp[-getElem?_pos,go_sem],by simp -dsimp[-getElem?_pos,go_sem],by simp -dsimp[-getElem?_pos,go_sem]⟩
 intro m s hs'
 rw[hI]at hs'
 obtain⟨k,o,hk,hm,hq,ho0,ho1,t1,t24,t25,t26,h0⟩:=hs'
 have lt0:=h0I _ h0
 simp -dsimp -implicitDefEqProofs [-getElem?_pos,go_sem,hP,t25,t26]
 refine condP (fun hh=>?_) (fun hh=>?_)
 ·have hk:k<K.length:=by simpa using hh
  obtain⟨p,hp⟩:∃p,K[k]?=some p:=⟨_,List.getElem?_eq_getElem hk⟩
  have wk:=wrap_in ((k:Int)+1) (by omega)
  rw[drop_at hp,knFrom]at hq
  by_cases e1:p<1
  ·rw[amg_no (by omega),Bool.false_and]at hq
   have:=bad _ _ hR (.inl hq)
   simp -dsimp -implicitDefEqProofs [-getElem?_pos,go_sem,hP,t24,t26,intsL,hp,e1,this]
  have f1:decide (p<1)=false:=decide_eq_false e1
  by_cases e2:1000000<p
  ·rw[amg_no (by omega),Bool.false_and]at hq
   have:=bad _ _ hR (.inl hq)
   simp -dsimp -implicitDefEqProofs [-getElem?_pos,go_sem,hP,t24,t26,intsL,hp,f1,e2,this]
  have f2:decide (1000000<p)=false:=decide_eq_false e2
  rw[amg_iff.2 (by omega),Bool.true_and]at hq
  rcases Nat.eq_zero_or_pos k with k0|k0
  ·rw[ho0 k0,allO,Bool.true_and]at hq
   have k0':¬0<k:=by omega
   have hjk:decide ((0:Int)<(k:Int))=false:=decide_eq_false (by omega)
   simp -dsimp -implicitDefEqProofs [-getElem?_pos,go_sem,hP,t24,t26,intsL,hp,f1,f2,k0',hjk,wk]
   refine⟨K.length-(k+1),by omega,?_⟩
   rw[hI]
   exact⟨k+1,some p,by omega,rfl,hq,by omega,prev_at (f:=some) hp,by simp -dsimp[-getElem?_pos,go_sem,t1],by simp -dsimp[-getElem?_pos,go_sem,t24],by simp -dsimp[-getElem?_pos,go_sem,t25],by simp -dsimp[-getElem?_pos,go_sem],by simp -dsimp[-getElem?_pos,go_sem,h0]⟩
  ·obtain⟨j,hj⟩:∃j,k=j+1:=⟨k-1,by omega⟩
   obtain⟨x,hx⟩:∃x,K[j]?=some x:=⟨_,List.getElem?_eq_getElem (by omega)⟩
   have hox:=ho1 j x hj hx
   have hjk:decide ((0:Int)<(k:Int))=true:=decide_eq_true (by omega)
   have wj:IntKind.i64.wrap ((k:Int)-1)=(j:Int):=by rw[wrap_in _ (by omega)];omega
   rw[hox,allO]at hq
   by_cases c:x<p
   ·have f3:decide (p≤x)=false:=decide_eq_false (by omega)
    rw[decide_eq_true c,Bool.true_and]at hq
    simp -dsimp -implicitDefEqProofs [-getElem?_pos,go_sem,hP,t24,t26,intsL,hp,f1,f2,k0,hjk,wj,t1,lt0,h0,hx,f3,wk]
    refine⟨K.length-(k+1),by omega,?_⟩
    rw[hI]
    exact⟨k+1,some p,by omega,rfl,hq,by omega,prev_at (f:=some) hp,by simp -dsimp[-getElem?_pos,go_sem,t1],by simp -dsimp[-getElem?_pos,go_sem,t24],by simp -dsimp[-getElem?_pos,go_sem,t25],by simp -dsimp[-getElem?_pos,go_sem],by simp -dsimp[-getElem?_pos,go_sem,h0]⟩
   ·have f3:decide (p≤x)=true:=decide_eq_true (by omega)
    rw[decide_eq_false c,Bool.false_and]at hq
    have:=bad _ _ hR (.inl hq)
    simp -dsimp -implicitDefEqProofs [-getElem?_pos,go_sem,hP,t24,t26,intsL,hp,f1,f2,k0,hjk,wj,t1,lt0,h0,hx,f3,this]
 have hk:k=K.length:=by simp at hh;omega
 subst hk
 rw[List.drop_length,knFrom]at hq
 rw[hq,Bool.true_and]at hR
 clear hq ho0 ho1 t24 t25 t26 hh hI
 simp -dsimp -implicitDefEqProofs [-getElem?_pos,go_sem,hP,t1,h0,lt0]
 refine callB_is ((asc W (by omega)).lift _ _) hP en_301 (by simpa using⟨iq,iw⟩) .sc ?_
 cases b1:ascB K W
 ·have:=bad _ _ hR (.inl b1)
  simp -dsimp -implicitDefEqProofs [-getElem?_pos,go_sem,hP,b1,this]
 rw[b1,Bool.true_and]at hR
 have bad:batsFrom K 0 0 l=false→R=64:=fun e=>by rw[hR,e];rfl
 simp -dsimp -implicitDefEqProofs [-getElem?_pos,go_sem,hP,b1,t1,h0,lt0]
 obtain⟨J,hJ⟩:∃I:Nat→St→Prop,I=fun m s=>∃(k:Nat) (d:Int),k≤l.length∧m=l.length-k∧batsFrom K 0 0 l=batsFrom K k d (l.drop k)∧(k=0→d=0)∧(∀j x,k=j+1→l[j]?=some x→d=x.Day)∧s.t 1= .ref 0 0 0∧s.t 58=batsL l∧s.t 59=iv l.length∧s.t 60=iv k∧s.H[0]?=some (some ⟨32,3,[[paysL W,.list 1 (K.map fun x=>[iv x]),batsL l]]⟩):=⟨_,rfl⟩
 refine aloop0 J (l.length) (by rw[hN];rfl) ?_ ?_
 ·rw[hJ]
  exact⟨0,0,by omega,by omega,by rfl,by simp,by omega,by simp -dsimp[-getElem?_pos,go_sem,t1],by simp -dsimp[-getElem?_pos,go_sem],by simp -dsimp[-getElem?_pos,go_sem],by simp -dsimp[-getElem?_pos,go_sem],by simp -dsimp[-getElem?_pos,go_sem,h0]⟩
 clear t1 h0 lt0 hk hm
 intro m s hs'
 rw[hJ]at hs'
 obtain⟨k,d,hk,hm,hq,hd0,hd1,t1,t58,t59,t60,h0⟩:=hs'
 have lt0:=h0I _ h0
 simp -dsimp -implicitDefEqProofs [-getElem?_pos,go_sem,hP,t59,t60]
 refine condP (fun hh=>?_) (fun hh=>?_)
 rotate_left
 ·have hk:k=l.length:=by simp at hh;omega
  subst hk
  rw[List.drop_length,batsFrom]at hq
  rw[hq,if_pos rfl]at hR
  simp -dsimp -implicitDefEqProofs [-getElem?_pos,go_sem,hP,hR]
 have hk:k<l.length:=by simpa using hh
 obtain⟨b,hb⟩:∃b,l[k]?=some b:=⟨_,List.getElem?_eq_getElem hk⟩
 have hbl:=each b (List.mem_of_getElem? hb)
 have wk:=wrap_in ((k:Int)+1) (by omega)
 have ip:=imm_pays b.Payments
 have g0:∀x:Option AObj,(s.H++[x])[0]?=some (some ⟨32,3,[[paysL W,.list 1 (K.map fun x=>[iv x]),batsL l]]⟩):=fun x=>by rw[List.getElem?_append_left lt0];exact h0
 rw[drop_at hb,batsFrom,batB]at hq
 simp -dsimp -implicitDefEqProofs [-getElem?_pos,go_sem,hP,t58,t60,hb,cBt]
 refine adrawB (fun _=>true) [] hP (by kernel_rfl) (by kernel_rfl) ?_
 by_cases e1:b.Number=(k:Int)+1
 rotate_left
 ·rw[decide_eq_false e1,Bool.false_and,Bool.false_and]at hq
  have f1:=decide_eq_false e1
  simp -dsimp -implicitDefEqProofs [-getElem?_pos,go_sem,hP,wk,e1,f1,bad hq]
 rw[decide_eq_true e1,Bool.true_and]at hq
 have f1:decide (b.Number=(k:Int)+1)=true:=decide_eq_true e1
 by_cases e2:b.Day<0
 ·have:busB b.Day=false:=by rw[busB,amg_no (by omega),Bool.false_and]
  rw[this,Bool.false_and,Bool.and_false,Bool.false_and]at hq
  simp -dsimp -implicitDefEqProofs [-getElem?_pos,go_sem,hP,wk,f1,e2,bad hq]
 have f2:decide (b.Day<0)=false:=decide_eq_false e2
 by_cases e3:36000<b.Day
 ·have:busB b.Day=false:=by rw[busB,amg_no (by omega),Bool.false_and]
  rw[this,Bool.false_and,Bool.and_false,Bool.false_and]at hq
  simp -dsimp -implicitDefEqProofs [-getElem?_pos,go_sem,hP,wk,f1,f2,e3,bad hq]
 have f3:decide (36000<b.Day)=false:=decide_eq_false e3
 simp -dsimp -implicitDefEqProofs [-getElem?_pos,go_sem,hP,wk,f1,f2,f3]
 refine callB_pure (r02business_pf b.Day) hP en_219 (args_same (by simp -dsimp[-getElem?_pos,go_sem])) .sc ?_
 cases c3:busB b.Day
 ·rw[c3,Bool.false_and,Bool.and_false,Bool.false_and]at hq
  simp -dsimp -implicitDefEqProofs [-getElem?_pos,go_sem,hP,c3,bad hq]
 rw[c3,Bool.true_and]at hq
 have rest:d≤b.Day→batsFrom K 0 0 l=(amg b.Payments.length 1 10&&ascB K b.Payments&&batsFrom K (k+1) b.Day (l.drop (k+1))):=fun h=>by
  rw[hq,decide_eq_true h,Bool.true_and]
 have done:d≤b.Day→∀s':St,(amg b.Payments.length 1 10&&ascB K b.Payments)=true→s'.t 1= .ref 0 0 0→s'.t 58=batsL l→s'.t 59=iv l.length→s'.t 60=iv (k+1)→s'.H[0]?=some (some ⟨32,3,[[paysL W,.list 1 (K.map fun x=>[iv x]),batsL l]]⟩)→∃m',m'<m∧J m' s':=fun h s' h1 h2 h3 h4 h5 h6=>by
  refine⟨l.length-(k+1),by omega,?_⟩
  rw[hJ]
  exact⟨k+1,b.Day,by omega,rfl,by rw[rest h,h1,Bool.true_and];rfl,by omega,prev_at (f:=fun b:TBatch=>b.Day) hb,h2,h3,h4,h5,h6⟩
 rcases Nat.eq_zero_or_pos k with k0|k0
 ·have hdd:d≤b.Day:=by rw[hd0 k0];omega
  have k0':¬0<k:=by omega
  have hjk:decide ((0:Int)<(k:Int))=false:=decide_eq_false (by omega)
  simp -dsimp -implicitDefEqProofs [-getElem?_pos,go_sem,hP,c3,k0',hjk]
  have rest':=rest hdd
  by_cases e4:b.Payments.length<1
  ·have f4:decide ((b.Payments.length:Int)<1)=true:=decide_eq_true (by omega)
   rw[amg_no (n:=(b.Payments.length:Int)) (by omega),Bool.false_and,Bool.false_and]at rest'
   simp -dsimp -implicitDefEqProofs [-getElem?_pos,go_sem,hP,k0',hjk,e4,f4,bad rest']
  have f4:decide ((b.Payments.length:Int)<1)=false:=decide_eq_false (by omega)
  by_cases e5:10<b.Payments.length
  ·have f5:decide ((10:Int)<(b.Payments.length:Int))=true:=decide_eq_true (by omega)
   rw[amg_no (n:=(b.Payments.length:Int)) (by omega),Bool.false_and,Bool.false_and]at rest'
   simp -dsimp -implicitDefEqProofs [-getElem?_pos,go_sem,hP,k0',hjk,f4,f5,bad rest']
  have f5:decide ((10:Int)<(b.Payments.length:Int))=false:=decide_eq_false (by omega)
  have f45:amg b.Payments.length 1 10=true:=amg_iff.2 (by omega)
  simp -dsimp -implicitDefEqProofs [-getElem?_pos,go_sem,hP,k0',hjk,f4,f5,t1,g0,lt0,h0]
  refine callB_is ((asc b.Payments (by omega)).lift _ _) hP en_301 (by simpa using⟨iq,ip⟩) .sc ?_
  cases c6:ascB K b.Payments
  ·rw[f45,c6,Bool.true_and,Bool.false_and]at rest'
   simp -dsimp -implicitDefEqProofs [-getElem?_pos,go_sem,hP,k0',hjk,c6,bad rest']
  simp -dsimp -implicitDefEqProofs [-getElem?_pos,go_sem,hP,k0',hjk,c6,t60,wk]
  exact done hdd _ (by rw[f45,c6];rfl) (by simp -dsimp[-getElem?_pos,go_sem,t1]) (by simp -dsimp[-getElem?_pos,go_sem,t58]) (by simp -dsimp[-getElem?_pos,go_sem,t59]) (by simp -dsimp[-getElem?_pos,go_sem]) (by simp -dsimp[-getElem?_pos,go_sem,lt0,h0])
 ·obtain⟨j,hj⟩:∃j,k=j+1:=⟨k-1,by omega⟩
  obtain⟨x,hx⟩:∃x,l[j]?=some x:=⟨_,List.getElem?_eq_getElem (by omega)⟩
  have hdx:=hd1 j x hj hx
  have hjk:decide ((0:Int)<(k:Int))=true:=decide_eq_true (by omega)
  have wj:IntKind.i64.wrap ((k:Int)-1)=(j:Int):=by rw[wrap_in _ (by omega)];omega
  by_cases c:x.Day≤b.Day
  rotate_left
  ·rw[decide_eq_false (show¬d≤b.Day by omega),Bool.false_and,Bool.false_and]at hq
   have f6:decide (b.Day<x.Day)=true:=decide_eq_true (by omega)
   simp -dsimp -implicitDefEqProofs [-getElem?_pos,go_sem,hP,c3,k0,hjk,wj,t1,g0,lt0,h0,hx,cBt,f6,bad hq]
  have hdd:d≤b.Day:=by omega
  have f6:decide (b.Day<x.Day)=false:=decide_eq_false (by omega)
  simp -dsimp -implicitDefEqProofs [-getElem?_pos,go_sem,hP,c3,k0,hjk,wj,t1,g0,lt0,h0,hx,cBt,f6]
  have rest':=rest hdd
  by_cases e4:b.Payments.length<1
  ·have f4:decide ((b.Payments.length:Int)<1)=true:=decide_eq_true (by omega)
   rw[amg_no (n:=(b.Payments.length:Int)) (by omega),Bool.false_and,Bool.false_and]at rest'
   simp -dsimp -implicitDefEqProofs [-getElem?_pos,go_sem,hP,k0,hjk,f6,e4,f4,bad rest']
  have f4:decide ((b.Payments.length:Int)<1)=false:=decide_eq_false (by omega)
  by_cases e5:10<b.Payments.length
  ·have f5:decide ((10:Int)<(b.Payments.length:Int))=true:=decide_eq_true (by omega)
   rw[amg_no (n:=(b.Payments.length:Int)) (by omega),Bool.false_and,Bool.false_and]at rest'
   simp -dsimp -implicitDefEqProofs [-getElem?_pos,go_sem,hP,k0,hjk,f6,f4,f5,bad rest']
  have f5:decide ((10:Int)<(b.Payments.length:Int))=false:=decide_eq_false (by omega)
  have f45:amg b.Payments.length 1 10=true:=amg_iff.2 (by omega)
  simp -dsimp -implicitDefEqProofs [-getElem?_pos,go_sem,hP,k0,hjk,f6,f4,f5,t1,g0,lt0,h0]
  refine callB_is ((asc b.Payments (by omega)).lift _ _) hP en_301 (by simpa using⟨iq,ip⟩) .sc ?_
  cases c6:ascB K b.Payments
  ·rw[f45,c6,Bool.true_and,Bool.false_and]at rest'
   simp -dsimp -implicitDefEqProofs [-getElem?_pos,go_sem,hP,k0,hjk,f6,c6,bad rest']
  simp -dsimp -implicitDefEqProofs [-getElem?_pos,go_sem,hP,k0,hjk,f6,c6,t60,wk]
  exact done hdd _ (by rw[f45,c6];rfl) (by simp -dsimp[-getElem?_pos,go_sem,t1]) (by simp -dsimp[-getElem?_pos,go_sem,t58]) (by simp -dsimp[-getElem?_pos,go_sem,t59]) (by simp -dsimp[-getElem?_pos,go_sem]) (by simp -dsimp[-getElem?_pos,go_sem,lt0,h0])
open Go.PA
open Go.RowKit
abbrev intRows (l:List Int):List (List AV):=l.map fun x=>[iv x]
theorem intRows_len (l:List Int):(intRows l).length=l.length:=by simp[intRows]
open Go.PA
open Go.RowKit
open Go.PA
open Go.RowKit
open Go.PA
open Go.RowKit
theorem cw_zeroQ {H:Heap}:CW H [.nil,.nil,.nil] zeroQ.cells:=cw_nil (cw_nil (cw_nil .nil))
theorem done_zeroQ {H:Heap} {n:Int} {Q:AV→Prop} {b:Bx Q} (h:Q (.tup [.agg zeroQ.cells,iv n])):Done H (.tup [.agg [.nil,.nil,.nil],iv n]) Q b:=done_agg2 cw_zeroQ h
open Go.PA
open Go.RowKit
theorem done_srefT {H:Heap} {id n:Nat} {ty:TypeId} {k:Nat} {es tl:List (List AV)} {Q:AV→Prop} {b:Bx Q} (hH:H[id]?=some (some ⟨ty,k,es++tl⟩)) (hn:n=es.length) (hi:Imm (.list k es)) (hq:Q (.list k es)):Done H (.sref id 0 n) Q b:=by
 have hv:view H (.sref id 0 n)= .list k es:=by rw[view_sref,hH,viewS_some];simp[hn]
 exact done_weak (by rw[hv];exact hi) hi (by rw[hv];exact .refl _) hq
open Go.PA
open Go.RowKit
theorem imm_trip {a b c:AV} (ha:Imm a) (hb:Imm b) (hc:Imm c):Imm (.tup [a,b,c]):=by
 refine .tup fun x hx=>?_
 simp only[List.mem_cons,List.not_mem_nil,or_false]at hx
 rcases hx with rfl|rfl|rfl<;>assumption
theorem weak_tup3 {a b c a' b' c':AV} (ha:Weak a a') (hb:Weak b b') (hc:Weak c c'):Weak (.tup [a,b,c]) (.tup [a',b',c']):=by
 refine .tup rfl fun i x y hx hy=>?_
 match i,hx,hy with
 |0,hx,hy=>simp at hx hy;subst hx;subst hy;exact ha
 |1,hx,hy=>simp at hx hy;subst hx;subst hy;exact hb
 |2,hx,hy=>simp at hx hy;subst hx;subst hy;exact hc
 |i+3,hx,hy=>simp at hx
theorem done_trip {H:Heap} {cs cs' ds ds':List AV} {v:Value} {Q:AV→Prop} {b:Bx Q} (h:CW H cs cs') (h2:CW H ds ds') (hq:Q (.tup [.agg cs',.agg ds',.sc v])):Done H (.tup [.agg cs,.agg ds,.sc v]) Q b:=
 done_weak (imm_trip h.imm h2.imm .sc) (imm_trip h.imm' h2.imm' .sc) (weak_tup3 h.weak h2.weak (.refl _)) hq
theorem cw_zeroB {H:Heap}:CW H [iv 0,iv 0,.nil] zeroB.cells:=cw_imm .sc (cw_imm .sc (cw_nil .nil))
theorem done_zeroQ3 {H:Heap} {n:Int} {Q:AV→Prop} {b:Bx Q} (h:Q (.tup [.agg zeroQ.cells,.agg zeroB.cells,iv n])):Done H (.tup [.agg [.nil,.nil,.nil],.agg [iv 0,iv 0,.nil],iv n]) Q b:=done_trip cw_zeroQ cw_zeroB h
theorem cw_immL {H:Heap}:∀{cs:List AV},(∀a,a∈cs→Imm a)→CW H cs cs
 |[],_=> .nil
 |a::cs,h=>cw_imm (h a (by simp)) (cw_immL fun x hx=>h x (List.mem_cons_of_mem _ hx))
@[go_sem] theorem fsz:szOf Tryz.prog 237=1:=by kernel_rfl
@[go_sem] theorem fkn:knownT Tryz.prog 237=true:=by kernel_rfl
@[go_sem] theorem fag:aggOf Tryz.prog 237=false:=by kernel_rfl
open Go.PA
open Go.RowKit
@[go_sem] theorem fze:zeros Tryz.prog 237=some [.sc .nilFunc]:=by kernel_rfl
open Go.PA
open Go.RowKit
theorem ready25_pf (q:TQueue) (day:Int) (hf:FitQ q):PFun Tryz.prog none none 220 [.agg q.cells,iv day] (·=paysL (readyQ q day)):=by
 refine pfun_intro Tryz.func220 rfl (by simp[Tryz.f220]) (by kernel_rfl) ?_
 intro E hP hr hs hW hN
 have ck:=rcheck25_pf q hf
 have iq:=imm_que q
 have ip:=imm_pays q.Waiting
 have i2:=imm_ints q.Known
 have i3:=imm_bats q.Batches
 rw[cQu]at ck iq
 simp only[intsL]at i2 ck iq
 simp -dsimp -implicitDefEqProofs [-getElem?_pos,go_sem,hP,cQu,intsL]
 refine callB_is (ck.lift _ _) hP en_270 (by simpa using iq) .sc ?_
 by_cases c1:checkQ q=0
 rotate_left
 ·have:readyQ q day=[]:=by rw[readyQ,if_neg c1]
  simp -dsimp -implicitDefEqProofs [-getElem?_pos,go_sem,hP,c1]
  exact done_weak .nil (imm_list.2 (by simp)) (.nil 5) (by rw[this];rfl)
 have hrd:readyQ q day=q.Waiting.filter (fun p=>decide (p.Due≤day)):=by rw[readyQ,if_pos c1]
 rw[hrd]
 obtain⟨l,hl⟩:∃l,l=q.Waiting:=⟨_,rfl⟩
 have lw:=hf.w
 rw[←hl]at lw⊢
 simp -dsimp -implicitDefEqProofs [-getElem?_pos,go_sem,hP,c1]
 refine aloop_own 5 81 5 (by simp -dsimp[-getElem?_pos,go_sem]) ?_
 obtain⟨I,hI⟩:∃I:Nat→St→Prop,I=fun m s=>∃(k id:Nat) (ys:List TPayment),k≤l.length∧m=l.length-k∧ys=(l.take k).filter (fun p=>decide (p.Due≤day))∧ys.length≤k∧s.t 1=iv day∧s.t 12=paysL l∧s.t 13=iv l.length∧s.t 14=iv k∧s.t 5= .sref id 0 ys.length∧s.H[id]?=some (some ⟨81,5,encL TPayment.cells ys⟩):=⟨_,rfl⟩
 refine aloopF 5 hW I (l.length) (by rw[hN];rfl) ?_ ?_
 ·rw[hI]
  exact⟨0,1,[],by omega,by omega,by simp,by simp,by simp -dsimp[-getElem?_pos,go_sem],by simp -dsimp[-getElem?_pos,go_sem,hl],by simp -dsimp[-getElem?_pos,go_sem,hl],by simp -dsimp[-getElem?_pos,go_sem],by simp -dsimp[-getElem?_pos,go_sem],by simp -dsimp[-getElem?_pos,go_sem]⟩
 intro m s hs'
 rw[hI]at hs'
 obtain⟨k,id,ys,hk,hm,hys,hyl,t1,t12,t13,t14,t5,hH⟩:=hs'
 have hlt:=(gsI hH)
 simp -dsimp -implicitDefEqProofs [-getElem?_pos,go_sem,hP,t13,t14]
 refine condP (fun h=>?_) (fun h=>?_)
 ·have hk:k<l.length:=by simpa using h
  obtain⟨x,hx⟩:∃x,l[k]?=some x:=⟨_,List.getElem?_eq_getElem hk⟩
  have wk:=wrap_in ((k:Int)+1) (by omega)
  have nx:(l.take (k+1)).filter (fun p=>decide (p.Due≤day))=if x.Due≤day then ys++[x]else ys:=by
   rw[take_at hx,List.filter_append,←hys]
   by_cases c:x.Due≤day<;>simp[c]
  by_cases c:x.Due≤day
  ·rw[if_pos c]at nx
   have d:decide (x.Due≤day)=true:=decide_eq_true c
   have nid:¬id=s.H.length:=by omega
   simp -dsimp -implicitDefEqProofs [-getElem?_pos,go_sem,hP,t14,t12,hx,cPy,t1,d,wk,t5,hH,hlt]
   refine⟨by omega,by omega,?_⟩
   refine⟨l.length-(k+1),by omega,?_⟩
   rw[hI]
   exact⟨k+1,s.H.length+1,ys++[x],by omega,rfl,nx.symm,by simp;omega,by simp -dsimp[-getElem?_pos,go_sem,t1],by simp -dsimp[-getElem?_pos,go_sem,t12],by simp -dsimp[-getElem?_pos,go_sem,t13],by simp -dsimp[-getElem?_pos,go_sem],by simp -dsimp[-getElem?_pos,go_sem],by rw[←encL_snoc];simp -dsimp -implicitDefEqProofs [-getElem?_pos,go_sem,cPy]⟩
  ·rw[if_neg c]at nx
   have d:decide (x.Due≤day)=false:=decide_eq_false c
   simp -dsimp -implicitDefEqProofs [-getElem?_pos,go_sem,hP,t14,t12,hx,cPy,t1,d,wk]
   refine⟨l.length-(k+1),by omega,?_⟩
   rw[hI]
   exact⟨k+1,id,ys,by omega,rfl,nx.symm,by omega,by simp -dsimp[-getElem?_pos,go_sem,t1],by simp -dsimp[-getElem?_pos,go_sem,t12],by simp -dsimp[-getElem?_pos,go_sem,t13],by simp -dsimp[-getElem?_pos,go_sem],by simp -dsimp[-getElem?_pos,go_sem,t5],by simp -dsimp[-getElem?_pos,go_sem,hH,hlt]⟩
 ·have hk:k=l.length:=by simp at h;omega
  subst hk
  rw[List.take_length]at hys
  refine frz id _ 81 5 (encL TPayment.cells ys) t5 hH (by rw[encL_len]) (imm_pays _) ?_
  simp -dsimp -implicitDefEqProofs [-getElem?_pos,go_sem,hP]
  exact done_imm (imm_pays _) (by rw[hys])
open Go.PA
open Go.RowKit
theorem ins_step {α:Type} {lt:α→α→Bool} {x a:α} {l:List α} (h:lt x a=true):ins lt (x::l) a=x::ins lt l a:=by
 simp[ins,h]
theorem ins_stop {α:Type} {lt:α→α→Bool} {x a:α} {l:List α} (h:lt x a=false):ins lt (x::l) a=a::x::l:=by
 simp[ins,h]
theorem ins_nil {α:Type} {lt:α→α→Bool} {a:α}:ins lt [] a=[a]:=rfl
set_option maxHeartbeats 1000000 in
theorem put25_pf (q:TQueue) (p:TPayment) (hf:FitQ q):PFun Tryz.prog none none 276 [.agg q.cells,.agg p.cells] (·= .agg (TQueue.mk (ins befB q.Waiting p) q.Known q.Batches).cells):=by
 refine pfun_introA Tryz.func276 rfl (by simp[Tryz.f276]) ?_
 intro E hP hr hs hW hN
 obtain⟨l,K,bs⟩:=q
 have lw:l.length≤100000:=hf.w
 have ip:=imm_pays l
 have i2:=imm_ints K
 have i3:=imm_bats bs
 have ipp:=imm_pay p
 simp only[intsL]at i2
 rw[cPy]at ipp
 simp only[cQu,intsL]
 refine awp_cut (by rw[hN];kernel_rfl) ?_
 simp -dsimp -implicitDefEqProofs [-getElem?_pos,go_sem,hP,cQu,cPy,intsL]
 refine awp_cut (by rw[hN];kernel_rfl) ?_
 simp -dsimp -implicitDefEqProofs [-getElem?_pos,go_sem,hP]
 obtain⟨Inv,hInv⟩:∃Inv:St→Prop,Inv=fun s=>∃k:Nat,k≤l.length∧ins befB l p=l.take k++p::l.drop k∧s.t 2= .ref 0 0 0∧s.t 3= .ref 1 0 0∧s.t 4= .ref 2 0 0∧s.t 5=iv k∧s.H=[some ⟨32,3,[[paysL l,.list 1 (K.map fun x=>[iv x]),batsL bs]]⟩,some ⟨81,5,[[iv p.Warrant,iv p.Payee,iv p.Amount,iv p.Due,iv p.Sub]]⟩,some ⟨32,3,[[.nil,.nil,.nil]]⟩]:=⟨_,rfl⟩
 refine awp_join Inv (by rw[hN];kernel_rfl) ?_ ?_
 rotate_left
 ·intro s hs'
  rw[hInv]at hs'
  obtain⟨k,hk,hi,t2,t3,t4,t5,hH⟩:=hs'
  refine awp_sound _ _ _ (by rw[hN];kernel_rfl) ?_
  simp -dsimp -implicitDefEqProofs [-getElem?_pos,go_sem,hP]
  refine adrawB (fun i=>decide (i<3)) [14] hP (by kernel_rfl) (by kernel_rfl) ?_
  have D:∀i,decide (i<3)=true→i=0∨i=1∨i=2:=fun i hi=>by
   simp only[decide_eq_true_eq]at hi
   omega
  obtain⟨A,hA⟩:∃A,A=l.take k:=⟨_,rfl⟩
  obtain⟨B,hB⟩:∃B,B=l.drop k:=⟨_,rfl⟩
  have lA:A.length=k:=by rw[hA,List.length_take];omega
  have lB:B.length=l.length-k:=by rw[hB,List.length_drop]
  rw[←hA,←hB]at hi
  simp -dsimp -implicitDefEqProofs [-getElem?_pos,go_sem,hP,t2,t3,t5,hH,asliceOp,bound,aslice,hk,encL_takeE,encL_dropE,←hA,←hB,lA,lB]
  refine⟨by omega,by omega,fun i hi=>?_,by omega,by omega,fun i hi=>?_,by omega,by omega,fun i hi=>?_,?_⟩
  ·rcases D i hi with rfl|rfl|rfl<;>rfl
  ·rcases D i hi with rfl|rfl|rfl<;>rfl
  ·rcases D i hi with rfl|rfl|rfl<;>rfl
  simp -dsimp -implicitDefEqProofs [-getElem?_pos,go_sem,hP,t4]
  refine done_agg (cs':=(TQueue.mk (ins befB l p) K bs).cells) ?_ rfl
  refine cw_sref (ty:=81) (es:=encL TPayment.cells (ins befB l p)) ?_ (by rw[encL_len,hi,List.length_append,List.length_cons];omega) (imm_pays _) (cw_imm i2 (cw_imm i3 .nil))
  simp -dsimp -implicitDefEqProofs [-getElem?_pos,go_sem,hi]
  simp[encL,cPy]
 simp -dsimp -implicitDefEqProofs [-getElem?_pos,go_sem,hP]
 obtain⟨I,hI⟩:∃I:Nat→St→Prop,I=fun m s=>∃k:Nat,k≤l.length∧m=l.length-k∧ins befB l p=l.take k++ins befB (l.drop k) p∧s.t 2= .ref 0 0 0∧s.t 3= .ref 1 0 0∧s.t 4= .ref 2 0 0∧s.t 5=iv k∧s.H=[some ⟨32,3,[[paysL l,.list 1 (K.map fun x=>[iv x]),batsL bs]]⟩,some ⟨81,5,[[iv p.Warrant,iv p.Payee,iv p.Amount,iv p.Due,iv p.Sub]]⟩,some ⟨32,3,[[.nil,.nil,.nil]]⟩]:=⟨_,rfl⟩
 refine aloop0 I (l.length) (by rw[hN];rfl) ?_ ?_
 ·rw[hI]
  exact⟨0,by omega,by omega,by simp,by simp -dsimp[-getElem?_pos,go_sem],by simp -dsimp[-getElem?_pos,go_sem],by simp -dsimp[-getElem?_pos,go_sem],by simp -dsimp[-getElem?_pos,go_sem],by simp -dsimp[-getElem?_pos,go_sem]⟩
 intro m s hs'
 rw[hI]at hs'
 obtain⟨k,hk,hm,hi,t2,t3,t4,t5,hH⟩:=hs'
 simp -dsimp -implicitDefEqProofs [-getElem?_pos,go_sem,hP]
 refine adrawB (fun _=>true) [] hP (by kernel_rfl) (by kernel_rfl) ?_
 have ag:∀X:Heap,X=s.H→Agree (fun _=>true) s.H X:=fun X e i _=>by rw[e]
 by_cases c:k<l.length
 ·obtain⟨x,hx⟩:∃x,l[k]?=some x:=⟨_,List.getElem?_eq_getElem c⟩
  have d:decide ((k:Int)<(l.length:Int))=true:=decide_eq_true (by omega)
  have ix:=imm_pay x
  have bf:=rbefore_pf x p
  rw[cPy,cPy]at bf
  rw[cPy]at ix
  rw[drop_at hx]at hi
  have wk:=wrap_in ((k:Int)+1) (by omega)
  simp -dsimp -implicitDefEqProofs [-getElem?_pos,go_sem,hP,t2,t5,t3,hH,d,c,hx,cPy]
  refine callB_is (bf.lift _ _) hP en_302 (by simpa using⟨ix,ipp⟩) .sc ?_
  cases cb:befB x p
  rotate_left
  ·rw[ins_step cb]at hi
   simp -dsimp -implicitDefEqProofs [-getElem?_pos,go_sem,hP,cb,t5,wk]
   refine⟨ag _ hH.symm,?_⟩
   refine⟨l.length-(k+1),by omega,?_⟩
   rw[hI]
   exact⟨k+1,by omega,rfl,by rw[hi,take_at hx];simp,by simp -dsimp[-getElem?_pos,go_sem,t2],by simp -dsimp[-getElem?_pos,go_sem,t3],by simp -dsimp[-getElem?_pos,go_sem,t4],by simp -dsimp[-getElem?_pos,go_sem],by simp -dsimp[-getElem?_pos,go_sem,hH]⟩
  ·rw[ins_stop cb,←drop_at hx]at hi
   simp -dsimp -implicitDefEqProofs [-getElem?_pos,go_sem,hP,cb,t5]
   refine⟨ag _ hH.symm,?_⟩
   refine⟨_,Weaker.refl _,?_⟩
   rw[hInv]
   exact⟨k,hk,hi,by simp -dsimp[-getElem?_pos,go_sem,t2],by simp -dsimp[-getElem?_pos,go_sem,t3],by simp -dsimp[-getElem?_pos,go_sem,t4],by simp -dsimp[-getElem?_pos,go_sem,t5],by simp -dsimp[-getElem?_pos,go_sem,hH]⟩
 ·have hk:k=l.length:=by omega
  have d:decide ((k:Int)<(l.length:Int))=false:=decide_eq_false (by omega)
  rw[List.drop_of_length_le (by omega),ins_nil]at hi
  simp -dsimp -implicitDefEqProofs [-getElem?_pos,go_sem,hP,t2,t5,t3,hH,d,c]
  refine⟨_,Weaker.refl _,?_⟩
  rw[hInv]
  exact⟨k,by omega,by rw[hi,List.drop_of_length_le (by omega)],by simp -dsimp[-getElem?_pos,go_sem,t2],by simp -dsimp[-getElem?_pos,go_sem,t3],by simp -dsimp[-getElem?_pos,go_sem,t4],by simp -dsimp[-getElem?_pos,go_sem,t5],by simp -dsimp[-getElem?_pos,go_sem,hH]⟩
set_option maxHeartbeats 1000000 in
theorem drop25_pf (q:TQueue) (w:Int) (hf:FitQ q):PFun Tryz.prog none none 225 [.agg q.cells,iv w] (·= .tup [.agg (dropQ q w).1.cells,iv (dropQ q w).2]):=by
 refine pfun_intro Tryz.func225 rfl (by simp[Tryz.f225]) (by kernel_rfl) ?_
 intro E hP hr hs hW hN
 have ck:=rcheck25_pf q hf
 have iq:=imm_que q
 have ip:=imm_pays q.Waiting
 have i2:=imm_ints q.Known
 have i3:=imm_bats q.Batches
 have wt:=rwaits_pf q w (by have:=hf.w;omega)
 rw[cQu]at ck iq wt
 simp only[intsL]at i2 ck iq wt
 simp -dsimp -implicitDefEqProofs [-getElem?_pos,go_sem,hP,cQu,intsL]
 refine callB_is (ck.lift _ _) hP en_270 (by simpa using iq) .sc ?_
 by_cases c1:checkQ q=0
 rotate_left
 ·have:dropQ q w=(zeroQ,checkQ q):=by rw[dropQ,if_neg c1]
  simp -dsimp -implicitDefEqProofs [-getElem?_pos,go_sem,hP,c1]
  refine done_zeroQ ?_
  rw[this]
 have hq:=checkQ_iff.1 c1
 simp -dsimp -implicitDefEqProofs [-getElem?_pos,go_sem,hP,c1]
 refine callB_is (wt.lift _ _) hP en_278 (by simpa[imm_sc]using iq) .sc ?_
 by_cases c2:waitQ q w<0
 ·have d2:decide (waitQ q w<0)=true:=decide_eq_true c2
  have:dropQ q w=(zeroQ,6):=by rw[dropQ,if_pos c1,if_pos c2]
  simp -dsimp -implicitDefEqProofs [-getElem?_pos,go_sem,hP,d2]
  refine done_zeroQ ?_
  rw[this]
 have d2:decide (waitQ q w<0)=false:=decide_eq_false c2
 obtain⟨i,p,hi,hip,hpw,hil⟩:=waitQ_some c2
 have hdr:dropQ q w=(⟨q.Waiting.eraseIdx i,q.Known,q.Batches⟩,0):=by rw[dropQ,if_pos c1,if_neg c2,hi];rfl
 rw[hdr]
 rw[hi]at d2
 have lw:=hq.lw
 have w1:=wrap_in ((i:Int)+1) (by omega)
 obtain⟨K,hK⟩:∃K,K=q.Known:=⟨_,rfl⟩
 obtain⟨bs,hbs⟩:∃bs,bs=q.Batches:=⟨_,rfl⟩
 obtain⟨l,hl⟩:∃l,l=q.Waiting:=⟨_,rfl⟩
 rw[←hK,←hbs,←hl]
 rw[←hl]at hil lw ip
 rw[←hK]at i2
 rw[←hbs]at i3
 simp -dsimp -implicitDefEqProofs [-getElem?_pos,go_sem,hP,hi,d2]
 refine adrawB (fun i=>decide (i<2)) [12] hP (by kernel_rfl) (by kernel_rfl) ?_
 have D:∀i,decide (i<2)=true→i=0∨i=1:=fun i hi=>by
  simp only[decide_eq_true_eq]at hi
  omega
 obtain⟨A,hA⟩:∃A,A=l.take i:=⟨_,rfl⟩
 obtain⟨B,hB⟩:∃B,B=l.drop (i+1):=⟨_,rfl⟩
 have lA:A.length=i:=by rw[hA,List.length_take];omega
 have lB:B.length=l.length-(i+1):=by rw[hB,List.length_drop]
 have he:l.eraseIdx i=A++B:=by rw[hA,hB];exact List.eraseIdx_eq_take_drop_succ _ _
 have g1:i≤l.length:=by omega
 have g2:(i:Int)+1≤l.length:=by omega
 have g3:(0:Int)≤(i:Int)+1:=by omega
 have g4:((i:Int)+1).toNat=i+1:=by omega
 simp -dsimp -implicitDefEqProofs [-getElem?_pos,go_sem,hP,hi,asliceOp,bound,aslice,←hl,w1,g1,g2,g3,g4,encL_takeE,encL_dropE,←hA,←hB,lA,lB]
 refine⟨by omega,by omega,fun i hi=>?_,by omega,by omega,fun i hi=>?_,?_⟩
 ·rcases D i hi with rfl|rfl<;>rfl
 ·rcases D i hi with rfl|rfl<;>rfl
 refine done_agg2 (cs':=(TQueue.mk (l.eraseIdx i) K bs).cells) ?_ rfl
 refine cw_sref (ty:=81) (es:=encL TPayment.cells (l.eraseIdx i)) ?_ (by rw[encL_len,he,List.length_append];omega) (imm_pays _) (cw_imm i2 (cw_imm i3 .nil))
 simp -dsimp -implicitDefEqProofs [-getElem?_pos,go_sem,he,encL_appE]
set_option maxHeartbeats 1000000 in
theorem add25_pf (q:TQueue) (p:TPayment) (hf:FitQ q):PFun Tryz.prog none none 217 [.agg q.cells,.agg p.cells] (·= .tup [.agg (addQ q p).1.cells,iv (addQ q p).2]):=by
 refine pfun_introA Tryz.func217 rfl (by simp[Tryz.f217]) ?_
 intro E hP hr hs hW hN
 have ck:=rcheck25_pf q hf
 have iq:=imm_que q
 have ipp:=imm_pay p
 have ip:=imm_pays q.Waiting
 have i2:=imm_ints q.Known
 have i3:=imm_bats q.Batches
 have ct:=rknown_pf q p.Warrant (by have:=hf.k;omega)
 have py:=rpay_pf p
 have pt:checkQ q=0→_:=fun c=>put25_pf ⟨q.Waiting,ins ltB q.Known p.Warrant,q.Batches⟩ p ⟨hf.w,by have:=(checkQ_iff.1 c).lk;simp only[ins_len];omega,hf.b,hf.each⟩
 have iq2:=imm_que ⟨q.Waiting,ins ltB q.Known p.Warrant,q.Batches⟩
 have iqq:=imm_que ⟨ins befB q.Waiting p,ins ltB q.Known p.Warrant,q.Batches⟩
 rw[cPy]at py
 simp only[cQu,cPy,intsL]at ck iq iq2 ct pt ipp iqq i2
 refine awp_cut (by rw[hN];kernel_rfl) ?_
 simp -dsimp -implicitDefEqProofs [-getElem?_pos,go_sem,hP,cQu,cPy,intsL]
 refine awp_cut (by rw[hN];kernel_rfl) ?_
 simp -dsimp -implicitDefEqProofs [-getElem?_pos,go_sem,hP]
 refine callB_is (ck.lift _ _) hP en_270 (by simpa using iq) .sc ?_
 by_cases c1:checkQ q=0
 rotate_left
 ·have:addQ q p=(zeroQ,checkQ q):=by rw[addQ,if_neg c1]
  simp -dsimp -implicitDefEqProofs [-getElem?_pos,go_sem,hP,c1]
  refine done_zeroQ ?_
  rw[this];rfl
 have hq:=checkQ_iff.1 c1
 have pt:=pt c1
 simp -dsimp -implicitDefEqProofs [-getElem?_pos,go_sem,hP,c1]
 refine awp_cut (by rw[hN];kernel_rfl) ?_
 simp -dsimp -implicitDefEqProofs [-getElem?_pos,go_sem,hP]
 refine callB_is (py.lift _ _) hP en_271 (by simpa using ipp) .sc ?_
 cases c2:payPB p
 ·have:addQ q p=(zeroQ,64):=by rw[addQ,if_pos c1,if_neg (by simp[c2])]
  simp -dsimp -implicitDefEqProofs [-getElem?_pos,go_sem,hP,c2]
  refine done_zeroQ ?_
  rw[this];rfl
 simp -dsimp -implicitDefEqProofs [-getElem?_pos,go_sem,hP,c2]
 refine callB_is (ct.lift _ _) hP en_275 (by simpa[imm_sc]using iq) .sc ?_
 by_cases c3:p.Warrant∈q.Known
 ·have:addQ q p=(zeroQ,65):=by rw[addQ,if_pos c1,if_pos c2,if_pos c3]
  simp -dsimp -implicitDefEqProofs [-getElem?_pos,go_sem,hP,c2,c3]
  refine done_zeroQ ?_
  rw[this];rfl
 by_cases c4:q.Waiting.length=100
 ·have d4:decide ((q.Waiting.length:Int)=100)=true:=decide_eq_true (by omega)
  have:addQ q p=(zeroQ,3):=by rw[addQ,if_pos c1,if_pos c2,if_neg c3,if_pos (.inl c4)]
  simp -dsimp -implicitDefEqProofs [-getElem?_pos,go_sem,hP,c2,c3,d4]
  refine done_zeroQ ?_
  rw[this];rfl
 have d4:decide ((q.Waiting.length:Int)=100)=false:=decide_eq_false (by omega)
 by_cases c5:q.Known.length=200
 ·have d5:decide ((q.Known.length:Int)=200)=true:=decide_eq_true (by omega)
  have:addQ q p=(zeroQ,3):=by rw[addQ,if_pos c1,if_pos c2,if_neg c3,if_pos (.inr c5)]
  simp -dsimp -implicitDefEqProofs [-getElem?_pos,go_sem,hP,c2,c3,d4,d5]
  refine done_zeroQ ?_
  rw[this];rfl
 have d5:decide ((q.Known.length:Int)=200)=false:=decide_eq_false (by omega)
 have hadd:addQ q p=(⟨ins befB q.Waiting p,ins ltB q.Known p.Warrant,q.Batches⟩,0):=by rw[addQ,if_pos c1,if_pos c2,if_neg c3,if_neg (by omega)]
 rw[hadd]
 simp -dsimp -implicitDefEqProofs [-getElem?_pos,go_sem,hP,c2,c3,d4,d5]
 refine awp_cut (by rw[hN];kernel_rfl) ?_
 simp -dsimp -implicitDefEqProofs [-getElem?_pos,go_sem,hP]
 obtain⟨l,hl⟩:∃l,l=q.Known:=⟨_,rfl⟩
 obtain⟨W,hWt⟩:∃W,W=q.Waiting:=⟨_,rfl⟩
 obtain⟨bs,hbs⟩:∃bs,bs=q.Batches:=⟨_,rfl⟩
 have lw:l.length≤100000:=by rw[hl];exact hf.k
 simp only[←hl,←hWt,←hbs]at*
 obtain⟨Inv,hInv⟩:∃Inv:St→Prop,Inv=fun s=>∃k:Nat,k≤l.length∧ins ltB l p.Warrant=l.take k++p.Warrant::l.drop k∧s.t 2= .ref 0 0 0∧s.t 3= .ref 1 0 0∧s.t 4= .ref 2 0 0∧s.t 7=iv k∧s.H=[some ⟨32,3,[[paysL W,.list 1 (l.map fun x=>[iv x]),batsL bs]]⟩,some ⟨81,5,[[iv p.Warrant,iv p.Payee,iv p.Amount,iv p.Due,iv p.Sub]]⟩,some ⟨32,3,[[.nil,.nil,.nil]]⟩]:=⟨_,rfl⟩
 refine awp_join Inv (by rw[hN];kernel_rfl) ?_ ?_
 rotate_left
 ·intro s hs'
  rw[hInv]at hs'
  obtain⟨k,hk,hi,t2,t3,t4,t7,hH⟩:=hs'
  refine awp_sound _ _ _ (by rw[hN];kernel_rfl) ?_
  simp -dsimp -implicitDefEqProofs [-getElem?_pos,go_sem,hP]
  refine adrawB (fun i=>decide (i<3)) [15] hP (by kernel_rfl) (by kernel_rfl) ?_
  have D:∀i,decide (i<3)=true→i=0∨i=1∨i=2:=fun i hi=>by
   simp only[decide_eq_true_eq]at hi
   omega
  obtain⟨A,hA⟩:∃A,A=l.take k:=⟨_,rfl⟩
  obtain⟨B,hB⟩:∃B,B=l.drop k:=⟨_,rfl⟩
  have lA:A.length=k:=by rw[hA,List.length_take];omega
  have lB:B.length=l.length-k:=by rw[hB,List.length_drop]
  have eA:(l.map fun x=>[iv x]).take k=A.map fun x=>[iv x]:=by rw[hA,List.map_take]
  have eB:(l.map fun x=>[iv x]).drop k=B.map fun x=>[iv x]:=by rw[hB,List.map_drop]
  rw[←hA,←hB]at hi
  simp -dsimp -implicitDefEqProofs [-getElem?_pos,go_sem,hP,t2,t3,t7,hH,asliceOp,bound,aslice,hk,eA,eB,lA,lB]
  refine⟨by omega,by omega,fun i hi=>?_,by omega,by omega,fun i hi=>?_,by omega,by omega,fun i hi=>?_,?_⟩
  ·rcases D i hi with rfl|rfl|rfl<;>rfl
  ·rcases D i hi with rfl|rfl|rfl<;>rfl
  ·rcases D i hi with rfl|rfl|rfl<;>rfl
  have eAB:(A.map fun x=>[iv x])++[iv p.Warrant]::(B.map fun x=>[iv x])=intRows (ins ltB l p.Warrant):=by rw[hi];simp[intRows]
  have lI:k+1+(l.length-k)=(intRows (ins ltB l p.Warrant)).length:=by rw[intRows_len,ins_len];omega
  rw[eAB]
  generalize hH6:(_::_:Heap)=H6
  have b5:H6[5]?=some (some ⟨3,1,intRows (ins ltB l p.Warrant)⟩):=by rw[←hH6];rfl
  have b2:H6[2]?=some (some ⟨32,3,[[.nil,.nil,.nil]]⟩):=by rw[←hH6];rfl
  refine callB_frz (pt.lift _ _) hP hW en_276 (args_agg (cw_imm ip (cw_sref b5 lI (imm_ints _) (cw_imm i3 .nil))) (args_imm ipp (args_nil.2 trivial))) iqq ?_
  generalize hH7:killAll _ H6=H7
  have f2:H7[2]?=some (some ⟨32,3,[[.nil,.nil,.nil]]⟩):=by
   rw[←hH7]
   show (H6.set 5 none)[2]?=_
   rw[List.getElem?_set_ne (by omega),b2]
  have lt2:=(gsI f2)
  simp -dsimp -implicitDefEqProofs [-getElem?_pos,go_sem,hP,t4,f2,lt2]
  exact done_imm (imm_pair iqq .sc) rfl
 simp -dsimp -implicitDefEqProofs [-getElem?_pos,go_sem,hP]
 obtain⟨I,hI⟩:∃I:Nat→St→Prop,I=fun m s=>∃k:Nat,k≤l.length∧m=l.length-k∧ins ltB l p.Warrant=l.take k++ins ltB (l.drop k) p.Warrant∧s.t 2= .ref 0 0 0∧s.t 3= .ref 1 0 0∧s.t 4= .ref 2 0 0∧s.t 7=iv k∧s.H=[some ⟨32,3,[[paysL W,.list 1 (l.map fun x=>[iv x]),batsL bs]]⟩,some ⟨81,5,[[iv p.Warrant,iv p.Payee,iv p.Amount,iv p.Due,iv p.Sub]]⟩,some ⟨32,3,[[.nil,.nil,.nil]]⟩]:=⟨_,rfl⟩
 refine aloop0 I (l.length) (by rw[hN];rfl) ?_ ?_
 ·rw[hI]
  exact⟨0,by omega,by omega,by simp,by simp -dsimp[-getElem?_pos,go_sem],by simp -dsimp[-getElem?_pos,go_sem],by simp -dsimp[-getElem?_pos,go_sem],by simp -dsimp[-getElem?_pos,go_sem],by simp -dsimp[-getElem?_pos,go_sem]⟩
 intro m s hs'
 rw[hI]at hs'
 obtain⟨k,hk,hm,hi,t2,t3,t4,t7,hH⟩:=hs'
 simp -dsimp -implicitDefEqProofs [-getElem?_pos,go_sem,hP]
 refine adrawB (fun _=>true) [] hP (by kernel_rfl) (by kernel_rfl) ?_
 by_cases c:k<l.length
 ·obtain⟨x,hx⟩:∃x,l[k]?=some x:=⟨_,List.getElem?_eq_getElem c⟩
  have d:decide ((k:Int)<(l.length:Int))=true:=decide_eq_true (by omega)
  rw[drop_at hx]at hi
  have wk:=wrap_in ((k:Int)+1) (by omega)
  by_cases cb:x<p.Warrant
  ·have db:decide (x<p.Warrant)=true:=decide_eq_true cb
   rw[ins_step ((ltB_lt _ _).2 cb)]at hi
   simp -dsimp -implicitDefEqProofs [-getElem?_pos,go_sem,hP,t2,t7,t3,hH,d,c,hx,db,wk]
   refine⟨l.length-(k+1),by omega,?_⟩
   rw[hI]
   exact⟨k+1,by omega,rfl,by rw[hi,take_at hx];simp,by simp -dsimp[-getElem?_pos,go_sem,t2],by simp -dsimp[-getElem?_pos,go_sem,t3],by simp -dsimp[-getElem?_pos,go_sem,t4],by simp -dsimp[-getElem?_pos,go_sem],by simp -dsimp[-getElem?_pos,go_sem,hH]⟩
  ·have db:decide (x<p.Warrant)=false:=decide_eq_false cb
   rw[ins_stop (show ltB x p.Warrant=false from db),←drop_at hx]at hi
   simp -dsimp -implicitDefEqProofs [-getElem?_pos,go_sem,hP,t2,t7,t3,hH,d,c,hx,db]
   refine⟨_,Weaker.refl _,?_⟩
   rw[hInv]
   exact⟨k,hk,hi,by simp -dsimp[-getElem?_pos,go_sem,t2],by simp -dsimp[-getElem?_pos,go_sem,t3],by simp -dsimp[-getElem?_pos,go_sem,t4],by simp -dsimp[-getElem?_pos,go_sem,t7],by simp -dsimp[-getElem?_pos,go_sem,hH]⟩
 ·have hk:k=l.length:=by omega
  have d:decide ((k:Int)<(l.length:Int))=false:=decide_eq_false (by omega)
  rw[List.drop_of_length_le (by omega),ins_nil]at hi
  simp -dsimp -implicitDefEqProofs [-getElem?_pos,go_sem,hP,t2,t7,t3,hH,d,c]
  refine⟨_,Weaker.refl _,?_⟩
  rw[hInv]
  exact⟨k,by omega,by rw[hi,List.drop_of_length_le (by omega)],by simp -dsimp[-getElem?_pos,go_sem,t2],by simp -dsimp[-getElem?_pos,go_sem,t3],by simp -dsimp[-getElem?_pos,go_sem,t4],by simp -dsimp[-getElem?_pos,go_sem,t7],by simp -dsimp[-getElem?_pos,go_sem,hH]⟩
open Go.PA
open Go.RowKit
end Go.Proofs.YtaenimpfelpafaaGreatDoor
