/- Several texts of this claim, joined: Led3 Rec17 Rec18 Crt1 Crt2 LedP Crt3 Crt4 Crt5 Crt6 Crt7 PlayOdd BatGen CrtGen. -/
import Derived.Test.YtmmpcldnpflchaaGreatDoorPk8
set_option linter.unusedSimpArgs false
set_option linter.unusedVariables false
namespace Go.Proofs.YtmmpcldnpflchaaGreatDoor
open Go.PA
open Go.RowKit
def eV:Nat→Int→List TPosting→Bool
 |_,_,[]=>true
 |k,d,p::l=>decide (p.Number=(k:Int)+1)&&(decide (d≤p.Day)&&eV (k+1) p.Day l)
def eg (l:List TPosting):Int:=if 400<l.length then 3 else if l.any (fun p=>!ky p)=true then 85 else if eV 0 0 l=true then 0 else 86
def ow (l:List TPosting):Int:=(l.getLast?.map (·.Day)).getD 0
theorem sd {l:List TPosting} (h:eg l=0):l.length≤400∧(∀p,p∈l→PostOk p)∧eV 0 0 l=true:=by
 unfold eg at h
 split at h
 ·cases h
 split at h
 ·cases h
 split at h
 ·rename_i h1 h2 h3
  refine⟨by omega,fun p hp=>(ku p).1 ?_,h3⟩
  cases hb:ky p with
  |true=>rfl
  |false=>exact absurd (List.any_eq_true.2 ⟨p,hp,by simp[hb]⟩) h2
 ·cases h
theorem Cp {l:List TPosting} {k:Nat} {p:TPosting} (hp:l[k]?=some p):∀(j:Nat) (x:TPosting),k+1=j+1→l[j]?=some x→p.Day=x.Day:=fun j x h hx=>by
 have:j=k:=by omega
 subst this
 rw[hp]at hx
 rw[Option.some.inj hx]
abbrev cL (l:TLedger):l.cells=[dy l.Postings]:=rfl
set_option maxHeartbeats 1000000 in
theorem Hp (l:TLedger) (hl:l.Postings.length≤100000):PFun Tryz.prog none none 120 [.agg l.cells] (·=iv (eg l.Postings)):=by
 refine ae Tryz.func120 rfl (by simp[Tryz.f120]) (by kernel_rfl) ?_
 intro E hP hr hs hW hN
 obtain⟨l⟩:=l
 simp only at hl
 have ip:=eE l
 simp -dsimp -implicitDefEqProofs [-getElem?_pos,go_sem,hP,cL]
 refine aH (fun h=>?_) (fun h=>?_)
 ·have h':400<l.length:=by simp at h;omega
  have:eg l=3:=if_pos h'
  simp -dsimp -implicitDefEqProofs [-getElem?_pos,go_sem,hP,this]
 have h0:¬400<l.length:=by simp at h;omega
 simp -dsimp -implicitDefEqProofs [-getElem?_pos,go_sem,hP]
 refine ak ((oo l 165 [] (fun p=>!ky p) (by omega) Qs (by simp) fun p _=>NV p).lift _ _) hP Pv (by simp[ip,lr]) .sc ?_
 by_cases h1:l.any (fun p=>!ky p)=true
 ·have:eg l=85:=by rw[eg,if_neg h0,if_pos h1]
  simp -dsimp -implicitDefEqProofs [-getElem?_pos,go_sem,hP,h1,this]
 have h1':(l.any fun p=>!ky p)=false:=by simpa using h1
 have hv:∀p,p∈l→PostOk p:=fun p hp=>(ku p).1 (by have:=List.any_eq_false.1 h1' p hp;simpa using this)
 have tc:eg l=if eV 0 0 l=true then 0 else 86:=by rw[eg,if_neg h0,if_neg h1]
 simp -dsimp -implicitDefEqProofs [-getElem?_pos,go_sem,hP,h1']
 obtain⟨I,hI⟩:∃I:Nat→St→Prop,I=fun m s=>∃(k:Nat) (d:Int),k≤l.length∧m=l.length-k∧eV 0 0 l=eV k d (l.drop k)∧(k=0→d=0)∧(∀j x,k=j+1→l[j]?=some x→d=x.Day)∧s.t 1= .ref 0 0 0∧s.t 15=dy l∧s.t 16=iv l.length∧s.t 17=iv k∧s.H[0]?=some (some ⟨48,1,[[dy l]]⟩):=⟨_,rfl⟩
 refine aF I (l.length) (by rw[hN];rfl) ?_ ?_
 ·rw[hI]
  exact⟨0,0,by omega,by omega,by simp,by simp,by omega,by simp -dsimp[-getElem?_pos,go_sem],by simp -dsimp[-getElem?_pos,go_sem],by simp -dsimp[-getElem?_pos,go_sem],by simp -dsimp[-getElem?_pos,go_sem],by simp -dsimp[-getElem?_pos,go_sem]⟩
 intro m s hs'
 rw[hI]at hs'
 obtain⟨k,d,hk,hm,hq,hd0,hd1,t1,t15,t16,t17,hH⟩:=hs'
 have hlt:=(gsI hH)
 simp -dsimp -implicitDefEqProofs [-getElem?_pos,go_sem,hP,t16,t17]
 refine aH (fun h=>?_) (fun h=>?_)
 ·have hk:k<l.length:=by simpa using h
  obtain⟨p,hp⟩:∃p,l[k]?=some p:=⟨_,List.getElem?_eq_getElem hk⟩
  have hpo:=hv p (List.mem_of_getElem? hp)
  have wk:=ah ((k:Int)+1) (by omega)
  have hdr:l.drop k=p::l.drop (k+1):=by
   rw[List.getElem?_eq_getElem hk]at hp
   rw[List.drop_eq_getElem_cons hk,Option.some.inj hp]
  rw[hdr,eV]at hq
  have nx:IntKind.i64.wrap ((k:Int)+1)=((k+1:Nat):Int):=by rw[wk];omega
  have g0:∀x:Option AObj,(s.H++[x])[0]?=some (some ⟨48,1,[[dy l]]⟩):=fun x=>by rw[List.getElem?_append_left hlt];exact hH
  simp -dsimp -implicitDefEqProofs [-getElem?_pos,go_sem,hP,t17,t15,hp,cP]
  refine au (fun _=>true) [] hP (by kernel_rfl) (by kernel_rfl) ?_
  by_cases c1:p.Number=(k:Int)+1
  ·have d1:decide (p.Number=(k:Int)+1)=true:=decide_eq_true c1
   rcases Nat.eq_zero_or_pos k with k0|k0
   ·have hdd:d≤p.Day:=by rw[hd0 k0];exact hpo.day.1
    rw[d1,decide_eq_true hdd,Bool.true_and,Bool.true_and]at hq
    have k0':¬0<k:=by omega
    have hjk:decide ((0:Int)<(k:Int))=false:=decide_eq_false (by omega)
    simp -dsimp -implicitDefEqProofs [-getElem?_pos,go_sem,hP,wk,d1,t1,t17,k0',hjk]
    refine⟨l.length-(k+1),by omega,?_⟩
    rw[hI]
    exact⟨k+1,p.Day,by omega,rfl,hq,by omega,Cp hp,by simp -dsimp[-getElem?_pos,go_sem,t1],by simp -dsimp[-getElem?_pos,go_sem,t15],by simp -dsimp[-getElem?_pos,go_sem,t16],by simp -dsimp[-getElem?_pos,go_sem],by simp -dsimp[-getElem?_pos,go_sem,g0]⟩
   ·obtain⟨j,hj⟩:∃j,k=j+1:=⟨k-1,by omega⟩
    obtain⟨x,hx⟩:∃x,l[j]?=some x:=⟨_,List.getElem?_eq_getElem (by omega)⟩
    have hdx:=hd1 j x hj hx
    have hjk:decide ((0:Int)<(k:Int))=true:=decide_eq_true (by omega)
    have wj:IntKind.i64.wrap ((k:Int)-1)=(j:Int):=by rw[ah _ (by omega)];omega
    have s1:=g0 (some ⟨127,8,[[iv p.Number,iv p.Day,iv p.Entity,iv p.Debit,iv p.Credit,iv p.Amount,iv p.Partner,iv p.Ref]]⟩)
    rw[hdx,d1,Bool.true_and]at hq
    by_cases c2:x.Day≤p.Day
    ·have d2:decide (p.Day<x.Day)=false:=decide_eq_false (by omega)
     rw[decide_eq_true c2,Bool.true_and]at hq
     simp -dsimp -implicitDefEqProofs [-getElem?_pos,go_sem,hP,wk,d1,t1,t17,k0,hjk,wj,s1,hx,cP,d2]
     refine⟨l.length-(k+1),by omega,?_⟩
     rw[hI]
     exact⟨k+1,p.Day,by omega,rfl,hq,by omega,Cp hp,by simp -dsimp[-getElem?_pos,go_sem,t1],by simp -dsimp[-getElem?_pos,go_sem,t15],by simp -dsimp[-getElem?_pos,go_sem,t16],by simp -dsimp[-getElem?_pos,go_sem],by simp -dsimp[-getElem?_pos,go_sem,g0]⟩
    ·have d2:decide (p.Day<x.Day)=true:=decide_eq_true (by omega)
     rw[decide_eq_false c2,Bool.false_and]at hq
     have:eg l=86:=by rw[tc,hq];rfl
     simp -dsimp -implicitDefEqProofs [-getElem?_pos,go_sem,hP,wk,d1,t1,k0,hjk,wj,s1,hx,cP,d2,this]
  ·have d1:decide (p.Number=(k:Int)+1)=false:=decide_eq_false c1
   rw[d1,Bool.false_and]at hq
   have:eg l=86:=by rw[tc,hq];rfl
   simp -dsimp -implicitDefEqProofs [-getElem?_pos,go_sem,hP,wk,d1,this]
 ·have hk:k=l.length:=by simp at h;omega
  subst hk
  rw[List.drop_length,eV]at hq
  have:eg l=0:=by rw[tc,hq];rfl
  simp -dsimp -implicitDefEqProofs [-getElem?_pos,go_sem,hP,this]
theorem Ie:ow []=0:=rfl
theorem GO {l:List TPosting} {k:Nat} {p:TPosting} (h:l.length=k+1) (hp:l[k]?=some p):ow l=p.Day:=by
 rw[ow,List.getLast?_eq_getElem?,h]
 simp[hp]
theorem MC (l:TLedger) (hl:l.Postings.length≤100000):PFun Tryz.prog none none 122 [.agg l.cells] (·=iv (ow l.Postings)):=by
 refine ae Tryz.func122 rfl (by simp[Tryz.f122]) (by kernel_rfl) ?_
 intro E hP hr hs hW hN
 obtain⟨l⟩:=l
 simp only at hl
 by_cases h0:l.length=0
 ·have:l=[]:=List.eq_nil_of_length_eq_zero h0
  subst this
  simp -dsimp -implicitDefEqProofs [-getElem?_pos,go_sem,hP,cL,Ie]
 ·obtain⟨k,hk⟩:∃k,l.length=k+1:=⟨l.length-1,by omega⟩
  obtain⟨p,hp⟩:∃p,l[k]?=some p:=⟨_,List.getElem?_eq_getElem (by omega)⟩
  have d0:decide ((0:Int)<(k:Int)+1)=true:=by simp
  have d1:(0:Int)<(k:Int)+1:=by omega
  have wk:=ah ((k:Int)+1-1) (by omega)
  rw[Int.add_sub_cancel]at wk
  have:=GO hk hp
  simp -dsimp -implicitDefEqProofs [-getElem?_pos,go_sem,hP,cL,hk,d0,d1,Int.add_sub_cancel,wk,hp,cP,this]
abbrev zeroL:TLedger:=⟨[]⟩
def eu (l:List TPosting) (p:TPosting):List TPosting×Int:=
 if eg l=0 then
  if ky p=false then ([],85)else if l.length=400 then ([],3)else if¬p.Number=(l.length:Int)+1 then ([],65)else if p.Day<ow l then ([],8)else (l++[p],0)
 else ([],eg l)
theorem jn {H:ab} {n:Int} {Q:AV→Prop} {b:Bx Q} (h:Q (.tup [.agg zeroL.cells,iv n])):mD H (.tup [.agg [.nil],iv n]) Q b:=
 cZ (bK .nil) h
set_option maxHeartbeats 1000000 in
theorem JL (l:TLedger) (p:TPosting) (hl:l.Postings.length≤100000):PFun Tryz.prog none none 67 [.agg l.cells,.agg p.cells] (·= .tup [.agg (TLedger.mk (eu l.Postings p).1).cells,iv (eu l.Postings p).2]):=by
 refine ae Tryz.func67 rfl (by simp[Tryz.f67]) (by kernel_rfl) ?_
 intro E hP hr hs hW hN
 have ck:=Hp l hl
 have la:=MC l hl
 have po:=xh p
 obtain⟨l⟩:=l
 simp only at hl ck la
 rw[cL]at ck la
 rw[cP]at po
 have ip:=eE l
 have ipp:Imm (.agg [iv p.Number,iv p.Day,iv p.Entity,iv p.Debit,iv p.Credit,iv p.Amount,iv p.Partner,iv p.Ref]):=aO.2 p.imm
 simp -dsimp -implicitDefEqProofs [-getElem?_pos,go_sem,hP,cL,cP]
 refine ak (ck.lift _ _) hP Qy (by simp[ip,aO]) .sc ?_
 by_cases c1:eg l=0
 rotate_left
 ·have:eu l p=([],eg l):=by rw[eu,if_neg c1]
  simp -dsimp -implicitDefEqProofs [-getElem?_pos,go_sem,hP,c1]
  refine jn ?_
  rw[this]
 obtain⟨k1,k2,k3⟩:=sd c1
 simp -dsimp -implicitDefEqProofs [-getElem?_pos,go_sem,hP,c1]
 refine ak (po.lift _ _) hP Kl (by simp[ipp]) .sc ?_
 cases c2:ky p
 ·have:eu l p=([],85):=by rw[eu,if_pos c1,if_pos c2]
  simp -dsimp -implicitDefEqProofs [-getElem?_pos,go_sem,hP,c2]
  refine jn ?_
  rw[this]
 have c2':¬ky p=false:=by simp[c2]
 by_cases c3:l.length=400
 ·have:eu l p=([],3):=by rw[eu,if_pos c1,if_neg c2',if_pos c3]
  simp -dsimp -implicitDefEqProofs [-getElem?_pos,go_sem,hP,c2,c3]
  refine jn ?_
  rw[this]
 have d3:decide ((l.length:Int)=400)=false:=by simp;omega
 have wk:=ah ((l.length:Int)+1) (by omega)
 by_cases c4:p.Number=(l.length:Int)+1
 rotate_left
 ·have:eu l p=([],65):=by rw[eu,if_pos c1,if_neg c2',if_neg c3,if_pos c4]
  have d4:decide (p.Number=(l.length:Int)+1)=false:=decide_eq_false c4
  simp -dsimp -implicitDefEqProofs [-getElem?_pos,go_sem,hP,c2,d3,wk,d4]
  refine jn ?_
  rw[this]
 have d4:decide (p.Number=(l.length:Int)+1)=true:=decide_eq_true c4
 simp -dsimp -implicitDefEqProofs [-getElem?_pos,go_sem,hP,c2,d3,wk,d4]
 refine au (fun _=>true) [] hP (by kernel_rfl) (by kernel_rfl) ?_
 simp -dsimp -implicitDefEqProofs [-getElem?_pos,go_sem,hP]
 refine ak (la.lift _ _) hP PO (by simp[ip,aO]) .sc ?_
 by_cases c5:p.Day<ow l
 ·have:eu l p=([],8):=by rw[eu,if_pos c1,if_neg c2',if_neg c3,if_neg (by simp[c4]),if_pos c5]
  have d5:decide (p.Day<ow l)=true:=decide_eq_true c5
  simp -dsimp -implicitDefEqProofs [-getElem?_pos,go_sem,hP,d5]
  refine jn ?_
  rw[this]
 have pA:eu l p=(l++[p],0):=by rw[eu,if_pos c1,if_neg c2',if_neg c3,if_neg (by simp[c4]),if_neg c5]
 have d5:decide (p.Day<ow l)=false:=decide_eq_false c5
 simp -dsimp -implicitDefEqProofs [-getElem?_pos,go_sem,hP,d5]
 refine au (fun i=>decide (i<2)) [7] hP (by kernel_rfl) (by kernel_rfl) ?_
 simp -dsimp -implicitDefEqProofs [-getElem?_pos,go_sem,hP]
 obtain⟨H2,hH2⟩:∃H2:ab,H2=[some ⟨48,1,[[dy l]]⟩,some ⟨127,8,[[iv p.Number,iv p.Day,iv p.Entity,iv p.Debit,iv p.Credit,iv p.Amount,iv p.Partner,iv p.Ref]]⟩,some ⟨48,1,[[.nil]]⟩]:=⟨_,rfl⟩
 have b0:H2[0]?=some (some ⟨48,1,[[dy l]]⟩):=by rw[hH2];rfl
 have b1:H2[1]?=some (some ⟨127,8,[[iv p.Number,iv p.Day,iv p.Entity,iv p.Debit,iv p.Credit,iv p.Amount,iv p.Partner,iv p.Ref]]⟩):=by rw[hH2];rfl
 have b2:H2[2]?=some (some ⟨48,1,[[.nil]]⟩):=by rw[hH2];rfl
 simp only[←hH2]
 refine ar (by rw[hr,hs];exact tW l H2 (by omega)) hP Pg ?_
 rintro r H3 ⟨id,rfl,hid,ho3,hk3⟩
 have l2:H2.length=3:=by rw[hH2];rfl
 have e0:=hk3 _ _ (by simp) b0
 have e1:=hk3 _ _ (by simp) b1
 have e2:=hk3 _ _ (by simp) b2
 have n1:=(gsI e1)
 have n2:=(gsI e2)
 have n3:=(gsI ho3)
 have ne2:¬id=2:=by omega
 simp -dsimp -implicitDefEqProofs [-getElem?_pos,go_sem,hP,e1,n1,ho3,n3,e2,n2,ne2]
 have en:ac TPosting.cells l++[[iv p.Number,iv p.Day,iv p.Entity,iv p.Debit,iv p.Credit,iv p.Amount,iv p.Partner,iv p.Ref]]=ac TPosting.cells (l++[p]):=cJ TPosting.cells l p
 have D:∀i,decide (i<2)=true→i<H2.length∧i≠id:=fun i hi=>by
  simp only[decide_eq_true_eq]at hi
  omega
 refine⟨hH2▸dZ hk3 fun i hi=>⟨by simp,?_⟩,by omega,by omega,fun i hi=>?_,?_⟩
 ·simp only[decide_eq_true_eq]at hi
  rcases i with _|_|i
  ·exact⟨_,b0⟩
  ·exact⟨_,b1⟩
  ·omega
 ·obtain⟨h1,h2⟩:=D i hi
  rw[List.getElem?_append_left (by simp;omega),List.getElem?_set_ne (Ne.symm h2)]
 refine cZ (cs':=[dy (l++[p])]) (cv (ty:=127) ?_ (by simp[ac]) (eE _) .nil) ?_
 ·rw[List.getElem?_append_right (by simp)]
  simp[en]
 ·rw[pA]
  rfl
open Go.PA
open Go.RowKit
theorem Fe {q:TQueue} (hq:QOk q) {x:TItem}:pV q x=true↔(x.State=1∧x.Payment∈q.Waiting)∨(x.State≠1∧∀p,p∈q.Waiting→p.Warrant≠x.Payment.Warrant):=by
 unfold pV
 cases hw:pL q x.Payment.Warrant with
 |none=>
  have h:=k8.1 hw
  simp only[Bool.not_eq_true',decide_eq_false_iff_not]
  constructor
  ·intro e
   exact .inr ⟨e,h⟩
  ·rintro (⟨_,hm⟩|⟨e,_⟩)
   ·exact absurd rfl (h _ hm)
   ·exact e
 |some w=>
  obtain⟨h1,h2⟩:=lQ hw
  simp only[Bool.and_eq_true,decide_eq_true_eq]
  constructor
  ·rintro⟨e,he⟩
   exact .inl ⟨e,he▸h1⟩
  ·rintro (⟨e,hm⟩|⟨_,hn⟩)
   ·exact⟨e,yO hq.asc.nd h1 hm h2⟩
   ·exact absurd h2 (hn _ h1)
theorem F4 {a:TAccount} {id:Int}:(cR a id).2=true↔bd a=0∧id∈ids a.Subs:=by
 unfold cR
 split
 ·rename_i h
  constructor
  ·intro e
   refine⟨h,?_⟩
   cases hf:a.Subs.find? (fun s=>decide (s.ID=id))with
   |none=>rw[hf]at e;cases e
   |some s=>exact List.mem_map.2 ⟨s,List.mem_of_find?_eq_some hf,by simpa using List.find?_some hf⟩
  ·rintro⟨_,hm⟩
   obtain⟨s,hs,e⟩:=List.mem_map.1 hm
   cases hf:a.Subs.find? (fun s=>decide (s.ID=id))with
   |none=>
    have:=List.find?_eq_none.1 hf s hs
    simp[e]at this
   |some s=>rfl
 ·rename_i h
  exact⟨fun e=>(by cases e),fun e=>absurd e.1 h⟩
structure IOk (d:TDesk) (x:TItem):Prop where
 pay:PayOk x.Payment
 sub:bd d.Account=0∧x.Payment.Sub∈ids d.Account.Subs
 st:1≤x.State∧x.State≤5
 att:0≤x.Attempts∧x.Attempts≤5
 a5:¬(x.Attempts=5∧x.State=1)
 a0:¬(x.Attempts=0∧x.State≠1∧x.State≠5)
 w:(x.State=1∧x.Payment∈d.Queue.Waiting)∨(x.State≠1∧∀p,p∈d.Queue.Waiting→p.Warrant≠x.Payment.Warrant)
 bat:(tX d.Queue x.Payment.Warrant:Int)=x.Attempts
 all:∀e,e∈d.Account.Entries→e.Ref=x.Payment.Warrant→e.Amount=x.Payment.Amount∧(e.From=x.Payment.Sub∧e.To=0∨e.From=0∧e.To=x.Payment.Sub)
 outs:(d.Account.Entries.countP (jo x.Payment):Int)=x.Attempts
 ins:(d.Account.Entries.countP (inE x.Payment):Int)+j5 x=x.Attempts
theorem Ng {p:TPayment} {e:TEntry}:okE p e=true↔(e.Ref=p.Warrant→e.Amount=p.Amount∧(e.From=p.Sub∧e.To=0∨e.From=0∧e.To=p.Sub)):=by
 unfold okE
 by_cases h:e.Ref=p.Warrant
 ·simp[h]
 ·simp[h]
theorem MO {x:TItem}:ET x=true↔(0≤x.Attempts∧x.Attempts≤5)∧¬(x.Attempts=5∧x.State=1)∧¬(x.Attempts=0∧x.State≠1∧x.State≠5):=by
 unfold ET
 rw[Bool.and_eq_true,Bool.and_eq_true,fu,Bool.not_eq_true',Bool.not_eq_true',Bool.and_eq_false_iff,Bool.and_eq_false_iff,Bool.not_eq_false',Bool.or_eq_true,decide_eq_false_iff_not,decide_eq_false_iff_not,decide_eq_false_iff_not,decide_eq_true_eq,decide_eq_true_eq]
 omega
theorem yA {d:TDesk} (hq:QOk d.Queue) {x:TItem}:vE d x=true↔IOk d x:=by
 simp only[vE,pC,Bool.and_eq_true,jf,F4,fu,MO,Fe hq,decide_eq_true_eq,List.all_eq_true,Ng]
 constructor
 ·rintro⟨h1,h2,h3,⟨h4,h5,h6⟩,h7,h8,h9,h10,h11⟩
  exact⟨h1,h2,h3,h4,h5,h6,h7,h8,h9,h10,h11⟩
 ·rintro⟨h1,h2,h3,h4,h5,h6,h7,h8,h9,h10,h11⟩
  exact⟨h1,h2,h3,⟨h4,h5,h6⟩,h7,h8,h9,h10,h11⟩
theorem DOk.io {d:TDesk} (h:DOk d) {x:TItem} (hx:x∈d.Items):IOk d x:=(yA h.q).1 (h.i x hx)
theorem DOk.mk' {d:TDesk} (a:bd d.Account=0) (q:QOk d.Queue) (k:d.Items.map wrt=d.Queue.Known) (i:∀x,x∈d.Items→IOk d x):DOk d:=⟨a,q,k,fun x hx=>(yA q).2 (i x hx)⟩
theorem oB {α β:Type} (f:α→β) (p:β→Bool):∀l:List α,(l.map f).takeWhile p=(l.takeWhile fun x=>p (f x)).map f
 |[]=>rfl
 |a::l=>by
  rw[List.map_cons,List.takeWhile_cons,List.takeWhile_cons,oB f p l]
  cases p (f a)<;>rfl
theorem oH {α β:Type} (f:α→β) (p:β→Bool):∀l:List α,(l.map f).dropWhile p=(l.dropWhile fun x=>p (f x)).map f
 |[]=>rfl
 |a::l=>by
  rw[List.map_cons,List.dropWhile_cons,List.dropWhile_cons,oH f p l]
  cases p (f a)<;>rfl
theorem Oz (l:List TItem) (y:TItem):(ins ltI l y).map wrt=ins ltB (l.map wrt) (wrt y):=by
 unfold ins
 rw[List.map_append,List.map_cons,oB,oH]
 rfl
theorem IC {q:TQueue} (h:QOk q) {w:Int} (hw:w∉q.Known):tX q w=0:=by
 unfold tX
 have:∀b,b∈q.Batches→b.Payments.countP (fF w)=0:=fun b hb=>by
  rw[List.countP_eq_zero]
  intro p hp e
  have e:p.Warrant=w:=by simpa[fF]using e
  exact hw (e▸(fY h.bats b hb).2.2.1.kn p hp)
 rw[List.map_congr_left (g:=fun _=>0) this]
 induction q.Batches with
 |nil=>rfl
 |cons a l ih=>rw[List.map_cons,List.sum_cons,ih]
theorem I5 {d x:TDesk} {p:TPayment} (h:dK d p=(x,0)):DOk d∧PayOk p∧p.Warrant∉d.Queue.Known∧x=⟨d.Account,⟨ins ke d.Queue.Waiting p,ins ltB d.Queue.Known p.Warrant,d.Queue.Batches⟩,ins ltI d.Items ⟨p,1,0⟩⟩∧DOk x:=by
 unfold dK at h
 by_cases c1:cI d=0
 rotate_left
 ·rw[if_neg c1]at h
  exact absurd (congrArg Prod.snd h) c1
 rw[if_pos c1]at h
 by_cases c2:(gp d.Queue p).2=0
 rotate_left
 ·rw[if_neg c2]at h
  exact absurd (congrArg Prod.snd h) c2
 rw[if_pos c2]at h
 by_cases c3:(cR d.Account p.Sub).2=true
 rotate_left
 ·rw[if_neg c3]at h
  simp at h
 rw[if_pos c3]at h
 by_cases c4:d.Account.Entries.any (Fq p.Warrant)=true
 ·rw[if_pos c4]at h
  simp at h
 rw[if_neg c4]at h
 have hd:=fE.1 c1
 obtain⟨a1,a2,a3,a4,a5,a6,a7⟩:=F8 (x:=(gp d.Queue p).1) (q:=d.Queue) (p:=p) (by rw[←c2])
 have hx:=(congrArg Prod.fst h).symm
 simp only at hx
 rw[a6]at hx a7
 have hne:∀e,e∈d.Account.Entries→e.Ref≠p.Warrant:=fun e he=>by
  have:=List.any_eq_false.1 (Bool.eq_false_iff.2 c4) e he
  simpa[Fq]using this
 refine⟨hd,a2,a3,hx,?_⟩
 rw[hx]
 refine DOk.mk' hd.a a7 ?_ fun y hy=>?_
 ·rw[Oz,hd.k]
  rfl
 rcases gL.1 hy with rfl|hy
 ·refine⟨a2,F4.1 c3,by simp,by simp,by simp,by simp,.inl ⟨rfl,gL.2 (.inl rfl)⟩,?_,fun e he er=>absurd er (hne e he),?_,?_⟩
  ·exact (show ((tX d.Queue p.Warrant:Nat):Int)=0 by rw[IC hd.q a3];rfl)
  ·rw[List.countP_eq_zero.2 fun e he=>by simp[jo,hne e he]];rfl
  ·rw[List.countP_eq_zero.2 fun e he=>by simp[inE,hne e he]];rfl
 ·have io:=hd.io hy
  have hyk:y.Payment.Warrant∈d.Queue.Known:=by rw[←hd.k];exact List.mem_map.2 ⟨y,hy,rfl⟩
  have hyp:p.Warrant≠y.Payment.Warrant:=fun e=>a3 (e▸hyk)
  refine⟨io.pay,io.sub,io.st,io.att,io.a5,io.a0,?_,io.bat,io.all,io.outs,io.ins⟩
  rcases io.w with⟨h1,h2⟩|⟨h1,h2⟩
  ·exact .inl ⟨h1,gL.2 (.inr h2)⟩
  ·refine .inr ⟨h1,fun z hz=>?_⟩
   rcases gL.1 hz with rfl|hz
   ·exact hyp
   ·exact h2 z hz
theorem zC {l:List TItem} {k:Nat} {x y:TItem} (hx:l[k]?=some x) (e:y.Payment.Warrant=x.Payment.Warrant):(l.set k y).map wrt=l.map wrt:=by
 rw[List.map_set]
 apply List.ext_getElem?
 intro j
 rw[List.getElem?_set,List.length_map]
 by_cases hj:k=j
 ·subst hj
  rw[if_pos rfl,if_pos (gsI hx),List.getElem?_map,hx]
  exact congrArg some e
 ·rw[if_neg hj]
theorem ko {l:List TItem} (hn:(l.map wrt).Nodup) {k:Nat} {x y z:TItem} (hx:l[k]?=some x) (hz:z∈l.set k y):z=y∨(z∈l∧z.Payment.Warrant≠x.Payment.Warrant):=by
 obtain⟨j,hj⟩:=List.getElem?_of_mem hz
 rw[List.getElem?_set]at hj
 by_cases hk:k=j
 ·subst hk
  rw[if_pos rfl,if_pos (gsI hx)]at hj
  exact .inl (Option.some.inj hj).symm
 ·rw[if_neg hk]at hj
  refine .inr ⟨List.mem_of_getElem? hj,fun e=>hk ?_⟩
  have e1:(l.map wrt)[k]?=some x.Payment.Warrant:=by rw[List.getElem?_map,hx];rfl
  have e2:(l.map wrt)[j]?=some x.Payment.Warrant:=by rw[List.getElem?_map,hj,←e];rfl
  exact (List.getElem?_inj (gsI e1) hn).1 (e1.trans e2.symm)
theorem pF {d x:TDesk} {w st:Int} {f:TDesk→TItem→Done1} (h:fo d w st f=(x,0)):DOk d∧∃(k:Nat) (y:TItem),d.Items[k]?=some y∧y.Payment.Warrant=w∧y.State=st∧(f d y).e=0∧x=⟨(f d y).a,(f d y).q,d.Items.set k (f d y).x⟩:=by
 by_cases c1:cI d=0
 rotate_left
 ·rw[sJ c1]at h
  exact absurd (congrArg Prod.snd h) c1
 by_cases c2:w∈d.Items.map wrt
 rotate_left
 ·rw[qC c1 c2]at h
  simp at h
 obtain⟨y,hy,e⟩:=List.mem_map.1 c2
 obtain⟨k,hk⟩:=List.getElem?_of_mem hy
 have e:y.Payment.Warrant=w:=e
 subst e
 rw[vu c1 hk]at h
 by_cases c3:y.State=st
 ·rw[if_pos c3]at h
  by_cases c4:(f d y).e=0
  ·rw[if_pos c4]at h
   exact⟨fE.1 c1,k,y,hk,rfl,c3,c4,(congrArg Prod.fst h).symm⟩
  ·rw[if_neg c4]at h
   exact absurd (congrArg Prod.snd h) c4
 ·rw[if_neg c3]at h
  simp at h
theorem DZ {d x:TDesk} {w:Int} (h:fA d w=(x,0)):DOk d∧(∃(k:Nat) (y:TItem),d.Items[k]?=some y∧y.Payment.Warrant=w∧y.State=2∧x=⟨d.Account,d.Queue,d.Items.set k ⟨y.Payment,3,y.Attempts⟩⟩)∧DOk x:=by
 obtain⟨hd,k,y,h1,h2,h3,_,h5⟩:=pF h
 have hx:x=⟨d.Account,d.Queue,d.Items.set k ⟨y.Payment,3,y.Attempts⟩⟩:=h5
 refine⟨hd,⟨k,y,h1,h2,h3,hx⟩,?_⟩
 rw[hx]
 refine DOk.mk' hd.a hd.q ((zC (y:=⟨y.Payment,3,y.Attempts⟩) h1 rfl).trans hd.k) fun z hz=>?_
 rcases ko hd.nd h1 hz with rfl|⟨hz,hne⟩
 ·have io:=hd.io (List.mem_of_getElem? h1)
  refine⟨io.pay,io.sub,by simp,io.att,by simp,fun e=>io.a0 ⟨e.1,by omega,by omega⟩,.inr ⟨by simp,?_⟩,io.bat,io.all,io.outs,?_⟩
  ·rcases io.w with⟨e,_⟩|⟨_,e⟩
   ·omega
   ·exact e
  ·have:=io.ins
   simpa[j5,nH,h3]using this
 ·have io:=hd.io hz
  exact⟨io.pay,io.sub,io.st,io.att,io.a5,io.a0,io.w,io.bat,io.all,io.outs,io.ins⟩
theorem qV {q:TQueue} (hq:QOk q) {w:Int} {p:TPayment} (hp:p∈q.Waiting) (hw:p.Warrant=w) {z:TPayment}:z∈q.Waiting.eraseIdx (gl q w).toNat↔z∈q.Waiting∧z.Warrant≠w:=by
 have hn:¬gl q w<0:=fun h=>uC.1 h p hp hw
 obtain⟨i,y,h1,h2,h3,h4⟩:=o7 hn
 rw[h1,Int.toNat_natCast,List.mem_eraseIdx_iff_getElem?]
 constructor
 ·rintro⟨j,hj,hz⟩
  refine⟨List.mem_of_getElem? hz,fun e=>hj ?_⟩
  have e1:(q.Waiting.map (·.Warrant))[i]?=some w:=by rw[List.getElem?_map,h2,←h3];rfl
  have e2:(q.Waiting.map (·.Warrant))[j]?=some w:=by rw[List.getElem?_map,hz,←e];rfl
  exact ((List.getElem?_inj (gsI e1) hq.asc.nd).1 (e1.trans e2.symm)).symm
 ·rintro⟨hz,hne⟩
  obtain⟨j,hj⟩:=List.getElem?_of_mem hz
  refine⟨j,fun e=>hne ?_,hj⟩
  subst e
  rw[h2]at hj
  cases hj
  exact h3
theorem E2 {d x:TDesk} {w:Int} (h:fp d w=(x,0)):DOk d∧(∃(k:Nat) (y:TItem),d.Items[k]?=some y∧y.Payment.Warrant=w∧y.State=1∧x=⟨d.Account,⟨d.Queue.Waiting.eraseIdx (gl d.Queue w).toNat,d.Queue.Known,d.Queue.Batches⟩,d.Items.set k ⟨y.Payment,5,y.Attempts⟩⟩)∧DOk x:=by
 obtain⟨hd,k,y,h1,h2,h3,h4,h5⟩:=pF h
 have h4:(gY d.Queue w).2=0:=h4
 obtain⟨q1,⟨p0,q2,q2'⟩,q3,q4⟩:=Bc (q:=d.Queue) (w:=w) (x:=(gY d.Queue w).1) (by rw[←h4])
 have hx:x=⟨d.Account,(gY d.Queue w).1,d.Items.set k ⟨y.Payment,5,y.Attempts⟩⟩:=h5
 rw[q3]at hx q4
 refine⟨hd,⟨k,y,h1,h2,h3,hx⟩,?_⟩
 rw[hx]
 refine DOk.mk' hd.a q4 ((zC (y:=⟨y.Payment,5,y.Attempts⟩) h1 rfl).trans hd.k) fun z hz=>?_
 rcases ko hd.nd h1 hz with rfl|⟨hz,hne⟩
 ·have io:=hd.io (List.mem_of_getElem? h1)
  refine⟨io.pay,io.sub,by simp,io.att,by simp,by simp,.inr ⟨by simp,fun p hp=>?_⟩,io.bat,io.all,io.outs,?_⟩
  ·simp only at hp⊢
   rw[h2]
   exact ((qV hd.q q2 q2').1 hp).2
  ·have:=io.ins
   simpa[j5,nH,h3]using this
 ·have io:=hd.io hz
  refine⟨io.pay,io.sub,io.st,io.att,io.a5,io.a0,?_,io.bat,io.all,io.outs,io.ins⟩
  rcases io.w with⟨e1,e2⟩|⟨e1,e2⟩
  ·exact .inl ⟨e1,(qV hd.q q2 q2').2 ⟨e2,by rw[←h2];exact hne⟩⟩
  ·exact .inr ⟨e1,fun p hp=>e2 p ((qV hd.q q2 q2').1 hp).1⟩
theorem EQ {d x:TDesk} {w day:Int} (h:fw d w day=(x,0)):DOk d∧(∃(k:Nat) (y:TItem),d.Items[k]?=some y∧y.Payment.Warrant=w∧y.State=2∧(bL d.Account (dk d.Account day 0 y.Payment.Sub y.Payment.Amount w)).2=0∧x=⟨(bL d.Account (dk d.Account day 0 y.Payment.Sub y.Payment.Amount w)).1,d.Queue,d.Items.set k ⟨y.Payment,4,y.Attempts⟩⟩)∧DOk x:=by
 obtain⟨hd,k,y,h1,h2,h3,h4,h5⟩:=pF h
 have h4:(bL d.Account (dk d.Account day 0 y.Payment.Sub y.Payment.Amount w)).2=0:=h4
 have h5:x=⟨(bL d.Account (dk d.Account day 0 y.Payment.Sub y.Payment.Amount w)).1,d.Queue,d.Items.set k ⟨y.Payment,4,y.Attempts⟩⟩:=h5
 refine⟨hd,⟨k,y,h1,h2,h3,h4,h5⟩,?_⟩
 rw[h5]
 have p1:=jH h4
 have p2:=wM h4
 have p3:=jl h4
 have io0:=hd.io (List.mem_of_getElem? h1)
 refine DOk.mk' p1 hd.q ((zC (y:=⟨y.Payment,4,y.Attempts⟩) h1 rfl).trans hd.k) fun z hz=>?_
 rcases ko hd.nd h1 hz with rfl|⟨hz,hne⟩
 ·refine⟨io0.pay,⟨p1,by rw[p2];exact io0.sub.2⟩,by simp,io0.att,by simp,fun e=>io0.a0 ⟨e.1,by omega,by omega⟩,.inr ⟨by simp,?_⟩,io0.bat,fun e he er=>?_,?_,?_⟩
  ·rcases io0.w with⟨e,_⟩|⟨_,e⟩
   ·omega
   ·exact e
  ·rw[p3]at he
   rcases List.mem_append.1 he with he|he
   ·exact io0.all e he er
   ·rw[List.mem_singleton]at he
    rw[he]
    exact⟨rfl,.inr ⟨rfl,rfl⟩⟩
  ·rw[p3,List.countP_append]
   have hs:=io0.pay.sub.1
   have:jo y.Payment (dk d.Account day 0 y.Payment.Sub y.Payment.Amount w)=false:=by
    show (decide (w=y.Payment.Warrant)&&(decide ((0:Int)=y.Payment.Sub)&&decide (y.Payment.Sub=0)))=false
    rw[decide_eq_false (p:=(0:Int)=y.Payment.Sub) (by omega),Bool.false_and,Bool.and_false]
   simp only[List.countP_cons,List.countP_nil,this]
   simpa using io0.outs
  ·rw[p3,List.countP_append]
   have:inE y.Payment (dk d.Account day 0 y.Payment.Sub y.Payment.Amount w)=true:=by simp[inE,dk,h2]
   simp only[List.countP_cons,List.countP_nil,this]
   have hi:=io0.ins
   simp[j5,nH,h3]at hi
   simp[j5,nH]
   omega
 ·have io:=hd.io hz
  refine⟨io.pay,⟨p1,by rw[p2];exact io.sub.2⟩,io.st,io.att,io.a5,io.a0,io.w,io.bat,fun e he er=>?_,?_,?_⟩
  ·rw[p3]at he
   rcases List.mem_append.1 he with he|he
   ·exact io.all e he er
   ·rw[List.mem_singleton]at he
    rw[he]at er
    exact absurd (er.symm.trans h2.symm) hne
  ·rw[p3,List.countP_append]
   have:jo z.Payment (dk d.Account day 0 y.Payment.Sub y.Payment.Amount w)=false:=by
    show (decide (w=z.Payment.Warrant)&&_)=false
    rw[decide_eq_false (p:=w=z.Payment.Warrant) (fun e=>hne (e.symm.trans h2.symm)),Bool.false_and]
   simp only[List.countP_cons,List.countP_nil,this]
   simpa using io.outs
  ·rw[p3,List.countP_append]
   have:inE z.Payment (dk d.Account day 0 y.Payment.Sub y.Payment.Amount w)=false:=by
    show (decide (w=z.Payment.Warrant)&&_)=false
    rw[decide_eq_false (p:=w=z.Payment.Warrant) (fun e=>hne (e.symm.trans h2.symm)),Bool.false_and]
   simp only[List.countP_cons,List.countP_nil,this]
   simpa using io.ins
open Go.PA
open Go.RowKit
def EO (e:TEntry):Int×Int×Int×Int:=(e.Ref,e.From,e.To,e.Amount)
def uU (p:TPayment):Int×Int×Int×Int:=(p.Warrant,p.Sub,0,p.Amount)
structure Sent (day:Int) (a:TAccount) (ps:List TPayment) (b:TAccount):Prop where
 ok:bd b=0
 ents:∃es,b.Entries=a.Entries++es∧es.map EO=ps.map uU∧∀e,e∈es→e.Day=day
 ids:ids b.Subs=ids a.Subs
 cred:b.Credit=a.Credit
theorem Sent.refl {day:Int} {a:TAccount} (h:bd a=0):Sent day a [] a:=⟨h,⟨[],by simp,rfl,by simp⟩,rfl,rfl⟩
theorem Sent.snoc {day:Int} {a b:TAccount} {ps:List TPayment} {p:TPayment} (h:Sent day a ps b) (hp:(bL b (dk b day p.Sub 0 p.Amount p.Warrant)).2=0):Sent day a (ps++[p]) (bL b (dk b day p.Sub 0 p.Amount p.Warrant)).1:=by
 obtain⟨h1,⟨es,h2,h3,h4⟩,h5,h6⟩:=h
 refine⟨jH hp,⟨es++[dk b day p.Sub 0 p.Amount p.Warrant],?_,?_,?_⟩,(wM hp).trans h5,(tH hp).trans h6⟩
 ·rw[jl hp,h2,List.append_assoc]
 ·rw[List.map_append,List.map_append,h3];rfl
 ·intro e he
  rcases List.mem_append.1 he with he|he
  ·exact h4 e he
  ·rw[List.mem_singleton]at he
   rw[he]
   rfl
theorem oU (day:Int) (a0:TAccount):∀(l:List TPayment) (a:TAccount) (ps:List TPayment) (full:Bool),Sent day a0 ps a→∃qs,qs.Sublist l∧(ge day l a (ps.map (·.Warrant)) full).2.1=(ps++qs).map (·.Warrant)∧Sent day a0 (ps++qs) (ge day l a (ps.map (·.Warrant)) full).1
 |[],a,ps,full,h=>⟨[],by simp,by simp[ge],by simpa[ge]using h⟩
 |p::l,a,ps,full,h=>by
  rw[ge]
  split
  ·exact⟨[],by simp,by simp,by simpa using h⟩
  ·split
   ·rename_i hp
    have e:ps.map (·.Warrant)++[p.Warrant]=(ps++[p]).map (·.Warrant):=by simp
    rw[e]
    obtain⟨qs,h1,h2,h3⟩:=oU day a0 l _ (ps++[p]) full (h.snoc hp)
    exact⟨p::qs,h1.cons_cons p,by rw[h2];simp,by rw[show ps++p::qs=ps++[p]++qs by simp];exact h3⟩
   ·obtain⟨qs,h1,h2,h3⟩:=oU day a0 l a ps _ h
    exact⟨qs,h1.cons p,h2,h3⟩
theorem N6 {d:TDesk} (hd:DOk d) (day:Int):∃ps,ps.Sublist (dJ d.Queue day)∧(goD d day).2.1=ps.map (·.Warrant)∧Sent day d.Account ps (goD d day).1:=by
 obtain⟨qs,h1,h2,h3⟩:=oU day d.Account (dJ d.Queue day) d.Account [] false (Sent.refl hd.a)
 exact⟨qs,h1,h2,h3⟩
theorem LT {l:List TPayment} (hn:(l.map (·.Warrant)).Nodup) (w:Int):l.countP (fF w)=if w∈l.map (·.Warrant)then 1 else 0:=by
 induction l with
 |nil=>rfl
 |cons p l ih=>
  rw[List.map_cons,List.nodup_cons]at hn
  rw[List.countP_cons,ih hn.2]
  by_cases h:p.Warrant=w
  ·subst h
   rw[if_neg hn.1,if_pos (by simp[fF]),if_pos (by simp)]
  ·have e:fF w p=false:=by simp[fF,h]
   have e2:w∈(p::l).map (·.Warrant)↔w∈l.map (·.Warrant):=by
    rw[List.map_cons,List.mem_cons]
    exact⟨fun o=>o.resolve_left fun e=>h e.symm,.inr⟩
   by_cases hm:w∈l.map (·.Warrant)
   ·rw[if_pos hm,if_pos (e2.2 hm),e];rfl
   ·rw[if_neg hm,if_neg (mt e2.1 hm),e];rfl
theorem FC {l:List TPayment} (hn:(l.map (·.Warrant)).Nodup) {w:Int} (h:w∈l.map (·.Warrant)):l.countP (fF w)=1:=by rw[LT hn,if_pos h]
def NN (p:TPayment) (k:Int×Int×Int×Int):Bool:=decide (k.1=p.Warrant)&&(decide (k.2.1=p.Sub)&&decide (k.2.2.1=0))
def NM (p:TPayment) (k:Int×Int×Int×Int):Bool:=decide (k.1=p.Warrant)&&(decide (k.2.1=0)&&decide (k.2.2.1=p.Sub))
theorem BS {p y:TPayment}:NN p (uU y)=true↔y.Warrant=p.Warrant∧y.Sub=p.Sub:=by
 unfold NN uU
 rw[Bool.and_eq_true,Bool.and_eq_true]
 exact⟨fun⟨a,b,_⟩=>⟨of_decide_eq_true a,of_decide_eq_true b⟩,fun⟨a,b⟩=>⟨decide_eq_true a,decide_eq_true b,rfl⟩⟩
theorem NR {p y:TPayment}:NM p (uU y)=true↔y.Warrant=p.Warrant∧y.Sub=0∧0=p.Sub:=by
 unfold NM uU
 rw[Bool.and_eq_true,Bool.and_eq_true]
 exact⟨fun⟨a,b,c⟩=>⟨of_decide_eq_true a,of_decide_eq_true b,of_decide_eq_true c⟩,fun⟨a,b,c⟩=>⟨decide_eq_true a,decide_eq_true b,decide_eq_true c⟩⟩
theorem II {es:List TEntry} {ps:List TPayment} (h:es.map EO=ps.map uU) (p:TPayment):es.countP (jo p)=ps.countP (fun y=>NN p (uU y))∧es.countP (inE p)=ps.countP (fun y=>NM p (uU y)):=by
 have e1:es.countP (jo p)=(es.map EO).countP (NN p):=by rw[List.countP_map];rfl
 have e2:es.countP (inE p)=(es.map EO).countP (NM p):=by rw[List.countP_map];rfl
 rw[e1,e2,h,List.countP_map,List.countP_map]
 exact⟨rfl,rfl⟩
theorem Gz {es:List TEntry} {ps:List TPayment} (h:es.map EO=ps.map uU) {e:TEntry} (he:e∈es):∃p,p∈ps∧e.Ref=p.Warrant∧e.From=p.Sub∧e.To=0∧e.Amount=p.Amount:=by
 have:EO e∈ps.map uU:=h▸List.mem_map.2 ⟨e,he,rfl⟩
 obtain⟨p,hp,k⟩:=List.mem_map.1 this
 simp only[EO,uU,Prod.mk.injEq]at k
 exact⟨p,hp,k.1.symm,k.2.1.symm,k.2.2.1.symm,k.2.2.2.symm⟩
theorem GM {d:TDesk} (hd:DOk d) {day:Int} {ps:List TPayment} {a:TAccount} (hsub:ps.Sublist d.Queue.Waiting) (hs:Sent day d.Account ps a) {b:TBatch} (hb:b.Payments=d.Queue.Waiting.filter (bP (ps.map (·.Warrant))))
  (hq:QOk ⟨d.Queue.Waiting.filter (fun p=>!bP (ps.map (·.Warrant)) p),d.Queue.Known,d.Queue.Batches++[b]⟩):DOk ⟨a,⟨d.Queue.Waiting.filter (fun p=>!bP (ps.map (·.Warrant)) p),d.Queue.Known,d.Queue.Batches++[b]⟩,d.Items.map (dH (ps.map (·.Warrant)))⟩:=by
 obtain⟨es,e1,e2,e3⟩:=hs.ents
 have hnW:=hd.q.asc.nd
 have hn:(ps.map (·.Warrant)).Nodup:=hnW.sublist (hsub.map _)
 refine DOk.mk' hs.ok hq ((yw _ _).trans hd.k) fun z hz=>?_
 obtain⟨x,hx,rfl⟩:=List.mem_map.1 hz
 have io:=hd.io hx
 have hbat:tX ⟨d.Queue.Waiting.filter (fun p=>!bP (ps.map (·.Warrant)) p),d.Queue.Known,d.Queue.Batches++[b]⟩ x.Payment.Warrant=tX d.Queue x.Payment.Warrant+if x.Payment.Warrant∈b.Payments.map (·.Warrant)then 1 else 0:=by
  have:(b.Payments.map (·.Warrant)).Nodup:=by rw[hb];exact hnW.sublist (List.filter_sublist.map _)
  rw[tX,List.map_append,List.sum_append]
  simp only[List.map_cons,List.map_nil,List.sum_cons,List.sum_nil,Nat.add_zero]
  rw[LT this,tX]
 have hmem:x.Payment.Warrant∈b.Payments.map (·.Warrant)↔x.Payment.Warrant∈ps.map (·.Warrant):=by
  rw[hb]
  constructor
  ·intro h
   obtain⟨p,hp,e⟩:=List.mem_map.1 h
   have:=(List.mem_filter.1 hp).2
   rw[←e]
   simpa[bP]using this
  ·intro h
   obtain⟨p,hp,e⟩:=List.mem_map.1 h
   exact List.mem_map.2 ⟨p,List.mem_filter.2 ⟨hsub.subset hp,by simp only[bP,decide_eq_true_eq];exact List.mem_map.2 ⟨p,hp,rfl⟩⟩,e⟩
 obtain⟨co,ci⟩:=II e2 x.Payment
 have ci0:es.countP (inE x.Payment)=0:=by
  rw[ci,List.countP_eq_zero]
  intro p hp e
  have h1:=(hd.q.asc.pay p (hsub.subset hp)).sub.1
  have:=(NR.1 e).2.1
  omega
 have hsubs:bd a=0∧(dH (ps.map (·.Warrant)) x).Payment.Sub∈ids a.Subs:=by rw[yV,hs.ids];exact⟨hs.ok,io.sub.2⟩
 by_cases hw:x.Payment.Warrant∈ps.map (·.Warrant)
 ·obtain⟨p,hp,e⟩:=List.mem_map.1 hw
  have hpW:=hsub.subset hp
  have hst:x.State=1∧x.Payment∈d.Queue.Waiting:=by
   rcases io.w with h|⟨_,h⟩
   ·exact h
   ·exact absurd e (h p hpW)
  have hpx:p=x.Payment:=yO hnW hpW hst.2 e
  have co1:es.countP (jo x.Payment)=1:=by
   rw[co,←FC hn hw]
   refine List.countP_congr fun y hy=>?_
   rw[BS,fF,decide_eq_true_eq]
   refine⟨fun h=>h.1,fun h=>⟨h,?_⟩⟩
   rw[yO hnW (hsub.subset hy) hst.2 h]
  have hsx:dH (ps.map (·.Warrant)) x=⟨x.Payment,2,x.Attempts+1⟩:=by rw[dH,if_pos hw]
  have h5:=io.a5
  have h0:=io.att
  rw[hsx]at hsubs⊢
  refine⟨io.pay,hsubs,by simp,by dsimp only;omega,by simp,by dsimp only;omega,.inr ⟨by simp,fun p' hp' e'=>?_⟩,?_,fun e' he' er=>?_,?_,?_⟩
  ·have:=(List.mem_filter.1 hp').2
   rw[bP,e',decide_eq_true hw]at this
   cases this
  ·dsimp only
   rw[hbat,if_pos (hmem.2 hw)]
   have:=io.bat
   omega
  ·dsimp only at he' er⊢
   rw[e1]at he'
   rcases List.mem_append.1 he' with he'|he'
   ·exact io.all e' he' er
   ·obtain⟨p',hp',k1,k2,k3,k4⟩:=Gz e2 he'
    have:p'=x.Payment:=yO hnW (hsub.subset hp') hst.2 (k1.symm.trans er)
    rw[this]at k2 k4
    exact⟨k4,.inl ⟨k2,k3⟩⟩
  ·dsimp only
   rw[e1,List.countP_append,co1]
   have:=io.outs
   omega
  ·dsimp only
   rw[e1,List.countP_append,ci0]
   have h1:=io.ins
   have g0:j5 x=0:=by simp[j5,nH,hst.1]
   have g1:j5 ⟨x.Payment,2,x.Attempts+1⟩=1:=by simp[j5,nH]
   rw[g0]at h1
   rw[g1]
   omega
 ·have co0:es.countP (jo x.Payment)=0:=by
   rw[co,List.countP_eq_zero]
   intro p hp e
   exact hw (List.mem_map.2 ⟨p,hp,(BS.1 e).1⟩)
  have hsx:dH (ps.map (·.Warrant)) x=x:=by rw[dH,if_neg hw]
  rw[hsx]at hsubs⊢
  refine⟨io.pay,hsubs,io.st,io.att,io.a5,io.a0,?_,?_,fun e' he' er=>?_,?_,?_⟩
  ·rcases io.w with⟨h1,h2⟩|⟨h1,h2⟩
   ·refine .inl ⟨h1,List.mem_filter.2 ⟨h2,?_⟩⟩
    rw[bP,decide_eq_false hw]
    rfl
   ·exact .inr ⟨h1,fun p hp=>h2 p (List.mem_filter.1 hp).1⟩
  ·dsimp only
   rw[hbat,if_neg (mt hmem.1 hw)]
   exact io.bat
  ·dsimp only at he'
   rw[e1]at he'
   rcases List.mem_append.1 he' with he'|he'
   ·exact io.all e' he' er
   ·obtain⟨p',hp',k1,k2,k3,k4⟩:=Gz e2 he'
    exact absurd (List.mem_map.2 ⟨p',hp',k1.symm.trans er⟩) hw
  ·dsimp only
   rw[e1,List.countP_append,co0]
   exact io.outs
  ·dsimp only
   rw[e1,List.countP_append,ci0]
   exact io.ins
theorem Mv {d x:TDesk} {b:TBatch} {day:Int} (h:eh d day=(x,b,0)):DOk d∧rM day=true∧eH d.Queue≤day∧dS d.Account≤day∧∃ps a,ps.Sublist (dJ d.Queue day)∧1≤ps.length∧ps.length≤10∧(goD d day).2.1=ps.map (·.Warrant)∧(goD d day).1=a∧Sent day d.Account ps a∧b=oO d.Queue day (ps.map (·.Warrant))∧
  x=⟨a,⟨d.Queue.Waiting.filter (fun p=>!bP (ps.map (·.Warrant)) p),d.Queue.Known,d.Queue.Batches++[b]⟩,d.Items.map (dH (ps.map (·.Warrant)))⟩∧DOk x:=by
 unfold eh at h
 by_cases c1:cI d=0
 rotate_left
 ·rw[if_neg c1]at h
  exact absurd (congrArg (fun r=>r.2.2) h) c1
 rw[if_pos c1]at h
 by_cases c2:rM day=true
 rotate_left
 ·rw[if_neg c2]at h
  simp at h
 rw[if_pos c2]at h
 by_cases c3:day<eH d.Queue∨day<dS d.Account
 ·rw[if_pos c3]at h
  simp at h
 rw[if_neg c3]at h
 by_cases c4:(goD d day).2.1.length=0
 ·rw[if_pos c4]at h
  have:=congrArg (fun r=>r.2.2) h
  simp only at this
  split at this<;>cases this
 rw[if_neg c4]at h
 by_cases c5:(cC d.Queue day (goD d day).2.1).2.2=0
 rotate_left
 ·rw[if_neg c5]at h
  exact absurd (congrArg (fun r=>r.2.2) h) c5
 rw[if_pos c5]at h
 have hd:=fE.1 c1
 obtain⟨ps,h1,h2,h3⟩:=N6 hd day
 obtain⟨_,_,_,t4,t5,_,t7,t8,t9⟩:=DD (q:=d.Queue) (day:=day) (ws:=(goD d day).2.1) (x:=(cC d.Queue day (goD d day).2.1).1) (b:=(cC d.Queue day (goD d day).2.1).2.1) (by rw[←c5])
 have hx:=(congrArg Prod.fst h).symm
 have hb:=(congrArg (fun r=>r.2.1) h).symm
 simp only at hx hb
 rw[t8]at hb
 rw[t7]at hx t9
 rw[h2]at hx hb t4 t5 t9
 rw[List.length_map]at t4 t5
 rw[←hb]at hx t9
 refine⟨hd,c2,by omega,by omega,ps,_,h1,t4,t5,h2,rfl,h3,hb,hx,?_⟩
 rw[hx]
 exact GM hd (h1.trans (lv _ _)) h3 (by rw[hb];rfl) t9
open Go.PA
open Go.RowKit
def pr:TState:=⟨dq,⟨[],[],[],[]⟩,⟨[],[],[]⟩,⟨[]⟩⟩
def Gs (s:TState) (d:TDesk):TState:=⟨d,s.Cash,s.Register,s.Ledger⟩
def Lx (s:TState) (a:TAccount):TState:=Gs s ⟨a,s.Desk.Queue,s.Desk.Items⟩
def kN (s:TState) (day f t n:Int):TState×Int:=
 if (bL s.Desk.Account (dk s.Desk.Account day f t n 0)).2=0 then (Lx s (bL s.Desk.Account (dk s.Desk.Account day f t n 0)).1,0)else (s,(bL s.Desk.Account (dk s.Desk.Account day f t n 0)).2)
def fM (s:TState) (d:TDesk) (e:Int):TState×Int:=if e=0 then (Gs s d,0)else (s,e)
def yM (c:TCash):Int:=match c.Incomes.getLast? with|none=>1|some x=>IntKind.i64.wrap (x.Number+1)
def Bq (s:TState) (d:TDeed):TIncome:=⟨yM s.Cash,d.Day,d.Who,d.Amount,d.Ref⟩
def ff (s:TState) (d:TDeed):TState×Int:=
 if d.Sub=1 then (s,60)else if (iD s.Cash (Bq s d)).2.2=0 then kN ⟨s.Desk,(iD s.Cash (Bq s d)).1,s.Register,s.Ledger⟩ d.Day 0 d.Sub d.Amount else (s,(iD s.Cash (Bq s d)).2.2)
def EL (r:TRegister) (day kind ref f t n:Int):TMove:=⟨(r.Moves.length:Int)+1,day,kind,ref,f,t,n⟩
def my (s:TState) (m:TMove) (e f t n:Int):TState×Int:=if e=0 then kN ⟨s.Desk,s.Cash,jt s.Register m,s.Ledger⟩ m.Day f t n else (s,e)
def dR (r:TRegister):Int:=((r.Moves.getLast?).map (·.Day)).getD 0
def oX (r:TRegister) (m:TMove):Int:=bJ r.Securities r.Holdings (dR r) m
def qe (s:TState) (d:TDeed):TMove:=EL s.Register d.Day 1 d.Ref 0 d.Who d.Amount
def qI (s:TState) (d:TDeed):TMove:=EL s.Register d.Day 3 d.Ref d.Who 0 d.Amount
def zI (d:TDeed):TPayment:=⟨d.Ref,d.Who,d.Amount,d.Due,d.Sub⟩
def doK (s:TState) (d:TDeed):TState×Int:=
 if d.Kind=1 then ff s d else if d.Kind=2 then fM s (dK s.Desk (zI d)).1 (dK s.Desk (zI d)).2 else if d.Kind=3 then fM s (eh s.Desk d.Day).1 (eh s.Desk d.Day).2.2 else
 if d.Kind=4 then fM s (fA s.Desk d.Ref).1 (fA s.Desk d.Ref).2 else if d.Kind=5 then fM s (fw s.Desk d.Ref d.Day).1 (fw s.Desk d.Ref d.Day).2 else if d.Kind=6 then fM s (fp s.Desk d.Ref).1 (fp s.Desk d.Ref).2 else
 if d.Kind=7 then my s (qe s d) (oX s.Register (qe s d)) 0 1 d.Amount else if d.Kind=8 then my s (qI s d) (oX s.Register (qI s d)) 1 0 d.Amount else
 if d.Kind=9 then (if d.Sub=0∨d.Who=0 then (s,60)else kN s d.Day d.Sub d.Who d.Amount)else (s,91)
structure FitS (j:Nat) (s:TState):Prop where
 d:FitD s.Desk
 c:FitC s.Cash
 cl:s.Cash.Claims=[]
 r:RegOk s.Register (dR s.Register)
 rm:s.Register.Moves.length≤j
 l:s.Ledger.Postings.length≤400
theorem gG (d:TDesk):d.cells=[iv d.Account.Credit,cj d.Account.Subs,b9 d.Account.Entries,aT d.Queue.Waiting,.list 1 (ac aJ d.Queue.Known),bY d.Queue.Batches,dt d.Items]:=rfl
theorem fI (s:TState):s.cells=[iv s.Desk.Account.Credit,cj s.Desk.Account.Subs,b9 s.Desk.Account.Entries,aT s.Desk.Queue.Waiting,.list 1 (ac aJ s.Desk.Queue.Known),bY s.Desk.Queue.Batches,dt s.Desk.Items,bM s.Cash.Claims,bk s.Cash.Incomes,aU s.Cash.Matches,.list 1 (ac aJ s.Cash.Loose),bf s.Register.Securities,cM s.Register.Holdings,cF s.Register.Moves,dy s.Ledger.Postings]:=rfl
theorem cK (d:TDeed):d.cells=[iv d.Kind,iv d.Day,iv d.Sub,iv d.Who,iv d.Ref,iv d.Amount,iv d.Due]:=rfl
theorem gz (s:TState):Imm (.agg s.cells):=aO.2 s.imm
theorem zN (c:TCash):Imm (.agg c.cells):=aO.2 c.imm
abbrev jv (s:TState) (day:Int):Option (Option AObj):=some (some ⟨85,16,[[iv s.Desk.Account.Credit,cj s.Desk.Account.Subs,b9 s.Desk.Account.Entries,aT s.Desk.Queue.Waiting,.list 1 (ac aJ s.Desk.Queue.Known),bY s.Desk.Queue.Batches,dt s.Desk.Items,bM s.Cash.Claims,bk s.Cash.Incomes,aU s.Cash.Matches,.list 1 (ac aJ s.Cash.Loose),bf s.Register.Securities,cM s.Register.Holdings,cF s.Register.Moves,dy s.Ledger.Postings,iv day]]⟩)
def qX (p:Nat) (day:Int) (H:ab) (x:TState×Int) (r:AV) (H':ab):Prop:=r=iv x.2∧H'[p]?=jv x.1 day∧Kept [p] H H'
theorem nZ {p:Nat} {day:Int} {H:ab} {s:TState} (h:H[p]?=jv s day) (x:TState×Int):∃r H',qX p day H x r H':=by
 have lp:=(gsI h)
 exact⟨_,H.set p (some ⟨85,16,[[iv x.1.Desk.Account.Credit,cj x.1.Desk.Account.Subs,b9 x.1.Desk.Account.Entries,aT x.1.Desk.Queue.Waiting,.list 1 (ac aJ x.1.Desk.Queue.Known),bY x.1.Desk.Queue.Batches,dt x.1.Desk.Items,bM x.1.Cash.Claims,bk x.1.Cash.Incomes,aU x.1.Cash.Matches,.list 1 (ac aJ x.1.Cash.Loose),bf x.1.Register.Securities,cM x.1.Register.Holdings,cF x.1.Register.Moves,dy x.1.Ledger.Postings,iv day]]⟩),rfl,List.getElem?_set_self lp,ay _ (by simp) (ai _ _)⟩
set_option maxHeartbeats 1000000 in
theorem Aa {row src:Option Nat} {p:Nat} {day:Int} {H:ab} {s:TState} (h:H[p]?=jv s day) (hf:FitD s.Desk) (f t n:Int):MFun Tryz.prog row src 65 [.ref p 0 0,iv f,iv t,iv n] H (qX p day H (kN s day f t n)):=by
 obtain⟨C,hC⟩:∃C,C=qX p day H (kN s day f t n):=⟨_,rfl⟩
 have wit:=nZ h (kN s day f t n)
 have lp:=(gsI h)
 have nx:=As s.Desk.Account day f t n 0 hf.e
 have po:=A0 s.Desk.Account (dk s.Desk.Account day f t n 0) hf.s hf.e
 have im:=dQ s.Desk.Account
 have ie:=jO (dk s.Desk.Account day f t n 0)
 obtain⟨ee,hee⟩:∃ee,ee=dk s.Desk.Account day f t n 0:=⟨_,rfl⟩
 rw[←hC]at wit⊢
 rw[←hee]at nx po ie
 obtain⟨b,e,hb⟩:∃b e,bL s.Desk.Account ee=(b,e):=⟨_,_,rfl⟩
 rw[hb]at po
 have ib:=dQ b
 have hS:kN s day f t n=if e=0 then (Lx s b,0)else (s,e):=by rw[kN,←hee,hb]
 rw[cA]at nx po im ib
 rw[cA]at po
 rw[cE]at nx po ie
 refine al Tryz.func65 rfl (by simp[Tryz.f65]) (by kernel_rfl) (wit) ?_
 intro E hP hr hs hN
 simp -dsimp -implicitDefEqProofs [-getElem?_pos,go_sem,hP]
 refine fJ (fun i=>decide (i<H.length)) [25] [19,20] hP (by kernel_rfl) (by kernel_rfl) ?_
 simp -dsimp -implicitDefEqProofs [-getElem?_pos,go_sem,hP,ao,h,lp]
 refine cY (nx.lift _ _) hP FW (by simp[im,aP]) ⟨_,rfl,ie⟩ ?_
 rintro r rfl _
 simp -dsimp -implicitDefEqProofs [-getElem?_pos,go_sem,hP,ao]
 refine cY (po.lift _ _) hP Ez (by simp[im,ie]) ⟨_,rfl,aE ib .sc⟩ ?_
 rintro r rfl _
 simp -dsimp -implicitDefEqProofs [-getElem?_pos,go_sem,hP,ao]
 refine⟨bS (Nat.le_refl _),?_⟩
 by_cases he:e=0
 ·subst he
  rw[if_pos rfl]at hS
  simp -dsimp -implicitDefEqProofs [-getElem?_pos,go_sem,hP,h,lp]
  rw[hC,hS]
  refine⟨rfl,?_,?_⟩
  ·rw[List.getElem?_append_left (by simpa using lp),List.getElem?_set_self lp]
   rfl
  ·exact az _ (ay _ (by simp) (ai _ _))
 ·rw[if_neg he]at hS
  have d1:decide (e=0)=false:=decide_eq_false he
  simp -dsimp -implicitDefEqProofs [-getElem?_pos,go_sem,hP,d1]
  rw[hC,hS]
  exact⟨rfl,by rw[List.getElem?_append_left lp];exact h,az _ (ai _ _)⟩
set_option maxHeartbeats 1000000 in
theorem Nt {row src:Option Nat} {p:Nat} {day:Int} {H:ab} {s:TState} (h:H[p]?=jv s day) (d:TDesk) (e:Int):MFun Tryz.prog row src 56 [.ref p 0 0,.agg d.cells,iv e] H (qX p day H (fM s d e)):=by
 obtain⟨C,hC⟩:∃C,C=qX p day H (fM s d e):=⟨_,rfl⟩
 have wit:=nZ h (fM s d e)
 have lp:=(gsI h)
 rw[←hC]at wit⊢
 refine al Tryz.func56 rfl (by simp[Tryz.f56]) (by kernel_rfl) (wit) ?_
 intro E hP hr hs hN
 by_cases he:e=0
 ·subst he
  simp -dsimp -implicitDefEqProofs [-getElem?_pos,go_sem,hP,gG,h,lp]
  rw[hC,fM,if_pos rfl]
  refine⟨rfl,?_,?_⟩
  ·rw[List.getElem?_append_left (by simpa using lp),List.getElem?_set_self lp]
   rfl
  ·exact az _ (ay _ (by simp) (ai _ _))
 ·have d1:decide (e=0)=false:=decide_eq_false he
  simp -dsimp -implicitDefEqProofs [-getElem?_pos,go_sem,hP,gG,d1]
  rw[hC,fM,if_neg he]
  exact⟨rfl,by rw[List.getElem?_append_left lp];exact h,az _ (ai _ _)⟩
set_option maxHeartbeats 1000000 in
theorem Gh {row src:Option Nat} {p:Nat} {H:ab} {s:TState} (m:TMove) (h:H[p]?=jv s m.Day) (hf:FitD s.Desk) (r:TRegister) (e f t n:Int) (hr0:e=0→r=jt s.Register m):
  MFun Tryz.prog row src 63 [.ref p 0 0,.agg r.cells,iv e,iv f,iv t,iv n] H (qX p m.Day H (my s m e f t n)):=by
 obtain⟨C,hC⟩:∃C,C=qX p m.Day H (my s m e f t n):=⟨_,rfl⟩
 have wit:=nZ h (my s m e f t n)
 have lp:=(gsI h)
 rw[←hC]at wit⊢
 refine al Tryz.func63 rfl (by simp[Tryz.f63]) (by kernel_rfl) (wit) ?_
 intro E hP hr hs hN
 by_cases he:e=0
 ·have e1:=hr0 he
  subst he
  have mv:=fun (H1:ab) (h1:H1[p]?=jv ⟨s.Desk,s.Cash,r,s.Ledger⟩ m.Day)=>Aa (row:=E.row) (src:=E.src) h1 hf f t n
  simp -dsimp -implicitDefEqProofs [-getElem?_pos,go_sem,hP,ga,h,lp]
  refine ar (mv _ (by rw[List.getElem?_append_left (by simpa using lp),List.getElem?_set_self lp])) hP Gn ?_
  rintro q H2 ⟨rfl,h2,k2⟩
  simp -dsimp -implicitDefEqProofs [-getElem?_pos,go_sem,hP]
  rw[hC,my,if_pos rfl,←e1]
  exact⟨rfl,h2,(az _ (ay _ (by simp) (ai _ _))).trans k2⟩
 ·have d1:decide (e=0)=false:=decide_eq_false he
  simp -dsimp -implicitDefEqProofs [-getElem?_pos,go_sem,hP,ga,d1]
  rw[hC,my,if_neg he]
  exact⟨rfl,by rw[List.getElem?_append_left lp];exact h,az _ (ai _ _)⟩
open Go.PA
open Go.RowKit
theorem R7 (x:TIncome):x.cells=[iv x.Number,iv x.Day,iv x.Payer,iv x.Amount,iv x.Claim]:=rfl
set_option maxHeartbeats 2000000 in
theorem Fr {row src:Option Nat} {p:Nat} {H:ab} {s:TState} (d:TDeed) (h:H[p]?=jv s d.Day) (hd:FitD s.Desk) (hc:FitC s.Cash) (hcl:s.Cash.Claims.length<20):
  MFun Tryz.prog row src 55 [.ref p 0 0,.agg d.cells] H (qX p d.Day H (ff s d)):=by
 obtain⟨C,hC⟩:∃C,C=qX p d.Day H (ff s d):=⟨_,rfl⟩
 have wit:=nZ h (ff s d)
 have lp:=(gsI h)
 have tk:=L3 s.Cash (Bq s d) hc hcl
 have icc:=zN s.Cash
 have ici:=aO.2 (Bq s d).imm
 obtain⟨c',ms,e,hT⟩:∃c' ms e,iD s.Cash (Bq s d)=(c',ms,e):=⟨_,_,_,rfl⟩
 have hS:ff s d=if d.Sub=1 then (s,60)else if e=0 then kN ⟨s.Desk,c',s.Register,s.Ledger⟩ d.Day 0 d.Sub d.Amount else (s,e):=by rw[ff,hT]
 rw[hT]at tk
 have icr:=zN c'
 have im:=dF ms
 have hin:(Bq s d).cells=[iv (yM s.Cash),iv d.Day,iv d.Who,iv d.Amount,iv d.Ref]:=rfl
 have mv:=fun (E:Env) (H1:ab) (h1:H1[p]?=jv ⟨s.Desk,c',s.Register,s.Ledger⟩ d.Day)=>Aa (row:=E.row) (src:=E.src) h1 hd 0 d.Sub d.Amount
 rw[←hC]at wit⊢
 rw[hin]at tk ici
 rw[jJ]at tk icc icr
 rw[jJ]at tk
 refine al Tryz.func55 rfl (by simp[Tryz.f55]) (by kernel_rfl) (wit) ?_
 intro E hP hr hs hN
 have lH:=fun (y:AObj)=>(List.getElem?_append_left (l₂:=[some y]) lp).trans h
 by_cases h1:d.Sub=1
 ·have d1:decide (d.Sub=1)=true:=decide_eq_true h1
  simp -dsimp -implicitDefEqProofs [-getElem?_pos,go_sem,hP,cK,d1]
  rw[hC,hS,if_pos h1]
  exact⟨rfl,lH _,az _ (ai _ _)⟩
 rw[if_neg h1]at hS
 have d1:decide (d.Sub=1)=false:=decide_eq_false h1
 have lp1:p<H.length+1:=by omega
 have hne:¬H.length=p:=by omega
 rcases hlast:s.Cash.Incomes.getLast? with _|x
 ·have e0:s.Cash.Incomes=[]:=List.getLast?_eq_none_iff.1 hlast
  have n1:yM s.Cash=1:=by rw[yM,hlast]
  have l0:(s.Cash.Incomes.length:Int)=0:=by rw[e0];rfl
  rw[n1]at tk ici
  simp -dsimp -implicitDefEqProofs [-getElem?_pos,go_sem,hP,cK,d1,h,lp,lH,af,l0]
  obtain⟨N,hN0⟩:∃N,N=H.length:=⟨_,rfl⟩
  obtain⟨H1,hH1⟩:∃H1:ab,H1=H++[some ⟨64,7,[[iv d.Kind,iv d.Day,iv d.Sub,iv d.Who,iv d.Ref,iv d.Amount,iv d.Due]]⟩]:=⟨_,rfl⟩
  have k1:Kept [p] H H1:=by rw[hH1];exact az _ (ai _ _)
  have h1':H1[p]?=jv s d.Day:=by rw[hH1];exact lH _
  have gN:H1[N]?=some (some ⟨64,7,[[iv d.Kind,iv d.Day,iv d.Sub,iv d.Who,iv d.Ref,iv d.Amount,iv d.Due]]⟩):=by rw[hH1,hN0];simp
  have lp':=(List.getElem?_eq_some_iff.1 h1').1
  have lN:=(gsI gN)
  have nNp:¬N=p:=by omega
  have nNp':¬p=N:=by omega
  rw[←hH1,←hN0]
  clear hH1
  refine fJ (fun i=>decide (i<H1.length)) [21] [15] hP (by kernel_rfl) (by kernel_rfl) ?_
  simp -dsimp -implicitDefEqProofs [-getElem?_pos,go_sem,hP,ao,h1',gN,lp',lN]
  refine cY (tk.lift _ _) hP O3 (by simp[icc,ici]) ⟨_,rfl,jg icr im .sc⟩ ?_
  rintro r rfl _
  simp -dsimp -implicitDefEqProofs [-getElem?_pos,go_sem,hP,ao]
  refine⟨bS (Nat.le_refl _),?_⟩
  by_cases he:e=0
  ·subst he
   rw[if_pos rfl]at hS
   simp -dsimp -implicitDefEqProofs [-getElem?_pos,go_sem,hP,h1',gN,lp',lN,List.getElem?_append_left,List.getElem?_set_ne,nNp,nNp']
   refine ar (mv E _ ?_) hP Gn ?_
   ·simp -dsimp -implicitDefEqProofs [-getElem?_pos,go_sem,lp']
   rintro q H2 ⟨rfl,h2,k2⟩
   simp -dsimp -implicitDefEqProofs [-getElem?_pos,go_sem,hP]
   rw[hC,hS]
   refine⟨rfl,h2,?_⟩
   refine Kept.trans ?_ k2
   exact az _ (ay _ (by simp) k1)
  ·rw[if_neg he]at hS
   have de:decide (e=0)=false:=decide_eq_false he
   simp -dsimp -implicitDefEqProofs [-getElem?_pos,go_sem,hP,de]
   rw[hC,hS]
   refine⟨rfl,?_,?_⟩
   ·rw[List.getElem?_append_left lp']
    exact h1'
   ·exact az _ k1
 ·have nn:s.Cash.Incomes≠[]:=fun e0=>by rw[e0]at hlast;simp at hlast
  have n1:yM s.Cash=IntKind.i64.wrap (x.Number+1):=by rw[yM,hlast]
  have hfi:=hc.fi
  have lpos:0<s.Cash.Incomes.length:=List.length_pos_iff.2 nn
  have hx:s.Cash.Incomes[s.Cash.Incomes.length-1]?=some x:=by rw[←List.getLast?_eq_getElem?];exact hlast
  obtain⟨nI,hnI⟩:∃nI,s.Cash.Incomes.length=nI+1:=⟨s.Cash.Incomes.length-1,by omega⟩
  have dI:decide ((0:Int)<((nI+1:Nat):Int))=true:=decide_eq_true (by omega)
  have wI:IntKind.i64.wrap (((nI+1:Nat):Int)-1)=(nI:Int):=by rw[ah _ (by omega)];omega
  have dI2:decide ((0:Int)<(nI:Int)+1)=true:=decide_eq_true (by omega)
  have wI2:=ah (nI:Int) (by omega)
  have wI3:IntKind.i64.wrap ((nI:Int)+1-1)=(nI:Int):=by rw[Int.add_sub_cancel];exact wI2
  rw[hnI,Nat.add_sub_cancel]at hx
  rw[n1]at tk ici
  simp -dsimp -implicitDefEqProofs [-getElem?_pos,go_sem,hP,cK,d1,h,lp,lH,af,hnI,dI,wI,dI2,wI2,wI3,hx,R7]
  obtain⟨N,hN0⟩:∃N,N=H.length:=⟨_,rfl⟩
  obtain⟨H1,hH1⟩:∃H1:ab,H1=H++[some ⟨64,7,[[iv d.Kind,iv d.Day,iv d.Sub,iv d.Who,iv d.Ref,iv d.Amount,iv d.Due]]⟩]:=⟨_,rfl⟩
  have k1:Kept [p] H H1:=by rw[hH1];exact az _ (ai _ _)
  have h1':H1[p]?=jv s d.Day:=by rw[hH1];exact lH _
  have gN:H1[N]?=some (some ⟨64,7,[[iv d.Kind,iv d.Day,iv d.Sub,iv d.Who,iv d.Ref,iv d.Amount,iv d.Due]]⟩):=by rw[hH1,hN0];simp
  have lp':=(List.getElem?_eq_some_iff.1 h1').1
  have lN:=(gsI gN)
  have nNp:¬N=p:=by omega
  have nNp':¬p=N:=by omega
  rw[←hH1,←hN0]
  clear hH1
  refine fJ (fun i=>decide (i<H1.length)) [21] [15] hP (by kernel_rfl) (by kernel_rfl) ?_
  simp -dsimp -implicitDefEqProofs [-getElem?_pos,go_sem,hP,ao,h1',gN,lp',lN]
  refine cY (tk.lift _ _) hP O3 (by simp[icc,ici]) ⟨_,rfl,jg icr im .sc⟩ ?_
  rintro r rfl _
  simp -dsimp -implicitDefEqProofs [-getElem?_pos,go_sem,hP,ao]
  refine⟨bS (Nat.le_refl _),?_⟩
  by_cases he:e=0
  ·subst he
   rw[if_pos rfl]at hS
   simp -dsimp -implicitDefEqProofs [-getElem?_pos,go_sem,hP,h1',gN,lp',lN,List.getElem?_append_left,List.getElem?_set_ne,nNp,nNp']
   refine ar (mv E _ ?_) hP Gn ?_
   ·simp -dsimp -implicitDefEqProofs [-getElem?_pos,go_sem,lp']
   rintro q H2 ⟨rfl,h2,k2⟩
   simp -dsimp -implicitDefEqProofs [-getElem?_pos,go_sem,hP]
   rw[hC,hS]
   refine⟨rfl,h2,?_⟩
   refine Kept.trans ?_ k2
   exact az _ (ay _ (by simp) k1)
  ·rw[if_neg he]at hS
   have de:decide (e=0)=false:=decide_eq_false he
   simp -dsimp -implicitDefEqProofs [-getElem?_pos,go_sem,hP,de]
   rw[hC,hS]
   refine⟨rfl,?_,?_⟩
   ·rw[List.getElem?_append_left lp']
    exact h1'
   ·exact az _ k1
def DJ (e:TEntry):Bool:=decide (e.Ref=0)&&(decide (e.From=1)&&decide (e.To=0)||decide (e.From=0)&&decide (e.To=1))
def Gf (e:TEntry):Bool:=decide (e.From=0)||decide (e.To=0)
def GB (e:TEntry) (n:Int):TPosting:=
 ⟨n,e.Day,1,if DJ e=true∧e.From≠0 then 230 else if e.To=0 then 510 else 110,if DJ e=true∧e.From=0 then 230 else if e.To=0 then 110 else 410,e.Amount,0,e.Ref⟩
theorem Oh (e:TEntry):PFun Tryz.prog none none 94 [.agg e.cells] (·=bv (DJ e)):=by
 refine ae Tryz.func94 rfl (by simp[Tryz.f94]) (by kernel_rfl) ?_
 intro E hP hr hs hW hN
 unfold DJ
 by_cases h1:e.Ref=0
 ·have d1:decide (e.Ref=0)=true:=decide_eq_true h1
  by_cases h2:e.From=1
  ·have d2:decide (e.From=1)=true:=decide_eq_true h2
   have d4:decide (e.From=0)=false:=decide_eq_false (by omega)
   by_cases h3:e.To=0
   ·have d3:decide (e.To=0)=true:=decide_eq_true h3
    simp -dsimp -implicitDefEqProofs [-getElem?_pos,go_sem,hP,cE,d1,d2,d3,d4]
   ·have d3:decide (e.To=0)=false:=decide_eq_false h3
    simp -dsimp -implicitDefEqProofs [-getElem?_pos,go_sem,hP,cE,d1,d2,d3,d4]
  ·have d2:decide (e.From=1)=false:=decide_eq_false h2
   by_cases h4:e.From=0
   ·have d4:decide (e.From=0)=true:=decide_eq_true h4
    simp -dsimp -implicitDefEqProofs [-getElem?_pos,go_sem,hP,cE,d1,d2,d4]
   ·have d4:decide (e.From=0)=false:=decide_eq_false h4
    simp -dsimp -implicitDefEqProofs [-getElem?_pos,go_sem,hP,cE,d1,d2,d4]
 ·have d1:decide (e.Ref=0)=false:=decide_eq_false h1
  simp -dsimp -implicitDefEqProofs [-getElem?_pos,go_sem,hP,cE,d1]
theorem JV (e:TEntry):PFun Tryz.prog none none 118 [.agg e.cells] (·=bv (Gf e)):=by
 refine ae Tryz.func118 rfl (by simp[Tryz.f118]) (by kernel_rfl) ?_
 intro E hP hr hs hW hN
 unfold Gf
 by_cases h4:e.From=0
 ·have d4:decide (e.From=0)=true:=decide_eq_true h4
  simp -dsimp -implicitDefEqProofs [-getElem?_pos,go_sem,hP,cE,d4]
 ·have d4:decide (e.From=0)=false:=decide_eq_false h4
  simp -dsimp -implicitDefEqProofs [-getElem?_pos,go_sem,hP,cE,d4]
theorem Cf (e:TEntry) (n:Int):PFun Tryz.prog none none 119 [.agg e.cells,iv n] (·= .agg (GB e n).cells):=by
 refine ae Tryz.func119 rfl (by simp[Tryz.f119]) (by kernel_rfl) ?_
 intro E hP hr hs hW hN
 have cs:=Oh e
 have ie:=jO e
 have hc:(GB e n).cells=[iv n,iv e.Day,iv 1,iv (if DJ e=true∧e.From≠0 then 230 else if e.To=0 then 510 else 110),iv (if DJ e=true∧e.From=0 then 230 else if e.To=0 then 110 else 410),iv e.Amount,iv 0,iv e.Ref]:=rfl
 rw[hc]
 rw[cE]at cs ie
 by_cases h3:e.To=0
 ·have d3:decide (e.To=0)=true:=decide_eq_true h3
  simp -dsimp -implicitDefEqProofs [-getElem?_pos,go_sem,hP,cE,d3]
  refine ak (cs.lift _ _) hP Pd (by simpa using ie) .sc ?_
  cases h1:DJ e
  ·simp -dsimp -implicitDefEqProofs [-getElem?_pos,go_sem,hP]
   exact done (by simp -dsimp[-getElem?_pos,go_sem]) rfl (by simp -dsimp[-getElem?_pos,go_sem,h3])
  ·by_cases h4:e.From=0
   ·have d4:decide (e.From=0)=true:=decide_eq_true h4
    simp -dsimp -implicitDefEqProofs [-getElem?_pos,go_sem,hP,d4]
    exact done (by simp -dsimp[-getElem?_pos,go_sem]) rfl (by simp -dsimp[-getElem?_pos,go_sem,h3,h4])
   ·have d4:decide (e.From=0)=false:=decide_eq_false h4
    simp -dsimp -implicitDefEqProofs [-getElem?_pos,go_sem,hP,d4]
    exact done (by simp -dsimp[-getElem?_pos,go_sem]) rfl (by simp -dsimp[-getElem?_pos,go_sem,h3,h4])
 ·have d3:decide (e.To=0)=false:=decide_eq_false h3
  simp -dsimp -implicitDefEqProofs [-getElem?_pos,go_sem,hP,cE,d3]
  refine ak (cs.lift _ _) hP Pd (by simpa using ie) .sc ?_
  cases h1:DJ e
  ·simp -dsimp -implicitDefEqProofs [-getElem?_pos,go_sem,hP]
   exact done (by simp -dsimp[-getElem?_pos,go_sem]) rfl (by simp -dsimp[-getElem?_pos,go_sem,h3])
  ·by_cases h4:e.From=0
   ·have d4:decide (e.From=0)=true:=decide_eq_true h4
    simp -dsimp -implicitDefEqProofs [-getElem?_pos,go_sem,hP,d4]
    exact done (by simp -dsimp[-getElem?_pos,go_sem]) rfl (by simp -dsimp[-getElem?_pos,go_sem,h3,h4])
   ·have d4:decide (e.From=0)=false:=decide_eq_false h4
    simp -dsimp -implicitDefEqProofs [-getElem?_pos,go_sem,hP,d4]
    exact done (by simp -dsimp[-getElem?_pos,go_sem]) rfl (by simp -dsimp[-getElem?_pos,go_sem,h3,h4])
def fV (b:Int):List TPosting→List TEntry→List TPosting
 |out,[]=>out
 |out,e::l=>fV b (if Gf e=true then out++[GB e (b+(out.length:Int)+1)]else out) l
theorem AF (l:List TEntry) (b:Int) (hl:l.length≤100000) (hb:0≤b∧b≤100000):PFun Tryz.prog none none 66 [b9 l,iv b] (·=dy (fV b [] l)):=by
 refine ae Tryz.func66 rfl (by simp[Tryz.f66]) (by kernel_rfl) ?_
 intro E hP hr hs hW hN
 have ie:=fj l
 simp -dsimp -implicitDefEqProofs [-getElem?_pos,go_sem,hP]
 refine jh 5 127 8 (by simp -dsimp[-getElem?_pos,go_sem]) ?_
 obtain⟨I,hI⟩:∃I:Nat→St→Prop,I=fun m s=>∃(k id:Nat) (out:List TPosting),k≤l.length∧m=l.length-k∧fV b [] l=fV b out (l.drop k)∧out.length≤k∧s.t 1=iv b∧s.t 8=b9 l∧s.t 9=iv l.length∧s.t 10=iv k∧s.t 5= .sref id 0 out.length∧s.H[id]?=some (some ⟨127,8,ac TPosting.cells out⟩):=⟨_,rfl⟩
 refine Ky 5 hW I (l.length) (by rw[hN];rfl) ?_ ?_
 ·rw[hI]
  exact⟨0,0,[],by omega,by omega,by simp,by simp,by simp -dsimp[-getElem?_pos,go_sem],by simp -dsimp[-getElem?_pos,go_sem],by simp -dsimp[-getElem?_pos,go_sem],by simp -dsimp[-getElem?_pos,go_sem],by simp -dsimp[-getElem?_pos,go_sem],by simp -dsimp[-getElem?_pos,go_sem,ac]⟩
 intro m s hs'
 rw[hI]at hs'
 obtain⟨k,id,out,hk,hm,hgo,hol,t1,t8,t9,t10,t5,hH⟩:=hs'
 have hlt:=(gsI hH)
 simp -dsimp -implicitDefEqProofs [-getElem?_pos,go_sem,hP,t9,t10]
 refine aH (fun h=>?_) (fun h=>?_)
 ·have hk:k<l.length:=by simpa using h
  obtain⟨e,he⟩:∃e,l[k]?=some e:=⟨_,List.getElem?_eq_getElem hk⟩
  have wk:=ah ((k:Int)+1) (by omega)
  have w1:=ah (b+(out.length:Int)) (by omega)
  have w2:=ah (b+(out.length:Int)+1) (by omega)
  have hd:l.drop k=e::l.drop (k+1):=by
   obtain⟨h2,h3⟩:=List.getElem?_eq_some_iff.1 he
   rw[List.drop_eq_getElem_cons h2,h3]
  rw[hd,fV]at hgo
  have iee:=jO e
  have co:=JV e
  have cp:=Cf e (b+(out.length:Int)+1)
  rw[cE]at iee co cp
  simp -dsimp -implicitDefEqProofs [-getElem?_pos,go_sem,hP,t8,t10,he,cE]
  refine ak (co.lift _ _) hP Qp (by simpa using iee) .sc ?_
  cases ho:Gf e
  ·rw[ho,if_neg (by simp)]at hgo
   simp -dsimp -implicitDefEqProofs [-getElem?_pos,go_sem,hP,t10,wk]
   refine⟨l.length-(k+1),by omega,?_⟩
   rw[hI]
   exact⟨k+1,id,out,by omega,rfl,hgo,by omega,by simp -dsimp[-getElem?_pos,go_sem,t1],by simp -dsimp[-getElem?_pos,go_sem,t8],by simp -dsimp[-getElem?_pos,go_sem,t9],by simp -dsimp[-getElem?_pos,go_sem],by simp -dsimp[-getElem?_pos,go_sem,t5],by simp -dsimp[-getElem?_pos,go_sem,List.getElem?_append_left hlt,hH]⟩
  ·rw[ho,if_pos rfl]at hgo
   obtain⟨np,hnp⟩:∃np,np=GB e (b+(out.length:Int)+1):=⟨_,rfl⟩
   rw[←hnp]at cp hgo
   have inp:=aO.2 np.imm
   rw[cP]at cp inp
   have hb2:=(List.getElem?_append_left (l₂:=[some ⟨105,6,[[iv e.Number,iv e.Day,iv e.From,iv e.To,iv e.Amount,iv e.Ref]]⟩]) hlt).trans hH
   simp -dsimp -implicitDefEqProofs [-getElem?_pos,go_sem,hP,t5,hH,hb2,t1,w1,w2]
   refine ak (cp.lift _ _) hP Qu (by simpa[aP]using iee) inp ?_
   simp -dsimp -implicitDefEqProofs [-getElem?_pos,go_sem,hP,t5,hH,hb2,hlt,t10,wk]
   refine⟨by omega,by omega,?_⟩
   refine⟨l.length-(k+1),by omega,?_⟩
   rw[hI]
   exact⟨k+1,s.H.length+1,out++[np],by omega,rfl,hgo,by simp;omega,by simp -dsimp[-getElem?_pos,go_sem,t1],by simp -dsimp[-getElem?_pos,go_sem,t8],by simp -dsimp[-getElem?_pos,go_sem,t9],by simp -dsimp[-getElem?_pos,go_sem],by simp -dsimp[-getElem?_pos,go_sem],by rw[←cJ];simp -dsimp -implicitDefEqProofs [-getElem?_pos,go_sem,cP]⟩
 ·have hk:k=l.length:=by simp at h;omega
  subst hk
  rw[List.drop_length,fV]at hgo
  refine frz id _ 127 8 (ac TPosting.cells out) t5 hH (by rw[af]) (eE out) ?_
  simp -dsimp -implicitDefEqProofs [-getElem?_pos,go_sem,hP]
  rw[hgo]
  exact aN (eE out) rfl
open Go.PA
open Go.RowKit
theorem qf (q:TPosting):∀(l:List TPosting) (k:Nat) (d:Int),eV k d (l++[q])=(eV k d l&&(decide (q.Number=((k+l.length:Nat):Int)+1)&&decide ((l.getLast?.map (·.Day)).getD d≤q.Day)))
 |[],k,d=>by simp[eV];rfl
 |p::l,k,d=>by
  have ih:=qf q l (k+1) p.Day
  have e1:(((p::l).getLast?.map (·.Day)).getD d)=(l.getLast?.map (·.Day)).getD p.Day:=by
   cases l with
   |nil=>rfl
   |cons b l=>
    rw[List.getLast?_cons_cons]
    rw[List.getLast?_eq_some_getLast (by simp)]
    rfl
  rw[List.cons_append,eV,ih,eV,e1,List.length_cons,show k+1+l.length=k+(l.length+1)from by omega]
  simp only[Bool.and_assoc]
theorem JU {l:List TPosting} {q:TPosting} (h:(eu l q).2=0):eg l=0∧PostOk q∧q.Number=(l.length:Int)+1∧ow l≤q.Day∧l.length<400∧(eu l q).1=l++[q]∧eg (l++[q])=0:=by
 unfold eu at h⊢
 by_cases c1:eg l=0
 rotate_left
 ·rw[if_neg c1]at h;exact absurd h c1
 rw[if_pos c1]at h⊢
 split at h
 ·cases h
 rename_i c2
 split at h
 ·cases h
 rename_i c3
 split at h
 ·cases h
 rename_i c4
 split at h
 ·cases h
 rename_i c5
 rw[if_neg c2,if_neg c3,if_neg c4,if_neg c5]
 obtain⟨k1,k2,k3⟩:=sd c1
 have hq:PostOk q:=(ku q).1 (by simpa using c2)
 have c4':q.Number=(l.length:Int)+1:=by omega
 refine⟨c1,hq,c4',by omega,by omega,rfl,?_⟩
 have hl:(l++[q]).length=l.length+1:=by simp
 rw[eg,if_neg (by omega),if_neg,if_pos]
 ·rw[qf,k3,Bool.true_and,decide_eq_true (by rw[c4'];simp),Bool.true_and]
  exact decide_eq_true (by have:ow l≤q.Day:=by omega
              exact this)
 ·intro h
  obtain⟨p,hp,hb⟩:=List.any_eq_true.1 h
  rcases List.mem_append.1 hp with hp|hp
  ·rw[(ku p).2 (k2 p hp)]at hb;cases hb
  ·simp at hp;subst hp
   rw[(ku p).2 hq]at hb;cases hb
open Go.PA
open Go.RowKit
def j9:List TPosting→List TPosting→List TPosting×Int
 |L,[]=>(L,0)
 |L,p::l=>if (eu L p).2=0 then j9 (eu L p).1 l else (L,(eu L p).2)
def sM (s:TState) (n:Nat):TState×Int:=
 let r:=j9 s.Ledger.Postings (fV (s.Ledger.Postings.length:Int) [] (s.Desk.Account.Entries.drop n))
 (⟨s.Desk,s.Cash,s.Register,⟨r.1⟩⟩,r.2)
theorem yW {L:List TPosting} {p:TPosting} (h:(eu L p).2=0):(eu L p).1.length≤400:=by
 have o:=JU h
 rw[o.2.2.2.2.2.1]
 exact (sd o.2.2.2.2.2.2).1
theorem td (b:Int):∀(l:List TEntry) (out:List TPosting),(fV b out l).length≤out.length+l.length
 |[],out=>by simp[fV]
 |e::l,out=>by
  rw[fV]
  refine Nat.le_trans (td b l _) ?_
  split<;>simp<;>omega
set_option maxHeartbeats 2000000 in
theorem Nv {row src:Option Nat} {p:Nat} {day:Int} {H:ab} {s:TState} (h:H[p]?=jv s day) (hd:FitD s.Desk) (hl:s.Ledger.Postings.length≤400) {n:Nat} (hn:n≤s.Desk.Account.Entries.length):
  MFun Tryz.prog row src 24 [.ref p 0 0,iv n] H (qX p day H (sM s n)):=by
 obtain⟨C,hC⟩:∃C,C=qX p day H (sM s n):=⟨_,rfl⟩
 have wit:=nZ h (sM s n)
 have lp:=(gsI h)
 obtain⟨ps,hps⟩:∃ps,ps=fV (s.Ledger.Postings.length:Int) [] (s.Desk.Account.Entries.drop n):=⟨_,rfl⟩
 have pl:ps.length≤100000:=by
  have:=td (s.Ledger.Postings.length:Int) (s.Desk.Account.Entries.drop n) []
  have:=hd.e
  rw[hps]
  simp at*
  omega
 have po:=AF (s.Desk.Account.Entries.drop n) (s.Ledger.Postings.length:Int) (by have:=hd.e;simp;omega) (by omega)
 rw[←hps]at po
 have ie:=fj (s.Desk.Account.Entries.drop n)
 have ip:=eE ps
 have hB:sM s n=(⟨s.Desk,s.Cash,s.Register,⟨(j9 s.Ledger.Postings ps).1⟩⟩,(j9 s.Ledger.Postings ps).2):=by rw[hps];rfl
 have he:=hd.e
 rw[←hC]at wit⊢
 refine al Tryz.func24 rfl (by simp[Tryz.f24]) (by kernel_rfl) (wit) ?_
 intro E hP hr hs hN
 simp -dsimp -implicitDefEqProofs [-getElem?_pos,go_sem,hP]
 refine au (fun _=>true) [] hP (by kernel_rfl) (by kernel_rfl) ?_
 simp -dsimp -implicitDefEqProofs [-getElem?_pos,go_sem,hP,h,lp,ax,aS,aL,af,hn,bV,dw]
 refine ak (po.lift _ _) hP RE (by simp[ie,aP]) ip ?_
 simp -dsimp -implicitDefEqProofs [-getElem?_pos,go_sem,hP]
 obtain⟨S0,hS0⟩:∃S0,S0=s:=⟨_,rfl⟩
 rw[←hS0]at h hB
 obtain⟨L0,hL0⟩:∃L0,L0=S0.Ledger.Postings:=⟨_,rfl⟩
 rw[←hS0,←hL0]at hl
 rw[←hL0]at hB
 obtain⟨I,hI⟩:∃I:Nat→St→Prop,I=fun m s=>∃(k:Nat) (L:List TPosting),k≤ps.length∧m=ps.length-k∧j9 L0 ps=j9 L (ps.drop k)∧L.length≤400∧s.t 0= .ref p 0 0∧s.t 25=dy ps∧s.t 26=iv ps.length∧s.t 27=iv k∧s.H[p]?=jv ⟨S0.Desk,S0.Cash,S0.Register,⟨L⟩⟩ day∧Kept [p] H s.H:=⟨_,rfl⟩
 refine aF I (ps.length) (by rw[hN];rfl) ?_ ?_
 ·rw[hI]
  exact⟨0,L0,by omega,by omega,by simp,hl,by simp -dsimp[-getElem?_pos,go_sem],by simp -dsimp[-getElem?_pos,go_sem],by simp -dsimp[-getElem?_pos,go_sem],by simp -dsimp[-getElem?_pos,go_sem],by rw[hL0];exact h,ai _ _⟩
 intro m s2 hs'
 rw[hI]at hs'
 obtain⟨k,L,hk,hm,hgo,hL,t0,t25,t26,t27,hp2,kp⟩:=hs'
 have lp2:=(gsI hp2)
 simp -dsimp -implicitDefEqProofs [-getElem?_pos,go_sem,hP,t26,t27]
 refine aH (fun hq=>?_) (fun hq=>?_)
 ·have hk:k<ps.length:=by simpa using hq
  obtain⟨q,hq2⟩:∃q,ps[k]?=some q:=⟨_,List.getElem?_eq_getElem hk⟩
  have wk:=ah ((k:Int)+1) (by omega)
  have hdr:ps.drop k=q::ps.drop (k+1):=by
   obtain⟨h2,h3⟩:=List.getElem?_eq_some_iff.1 hq2
   rw[List.drop_eq_getElem_cons h2,h3]
  rw[hdr,j9]at hgo
  have pp:=JL ⟨L⟩ q (by show L.length≤_;omega)
  rw[cL]at pp
  have pp:PFun Tryz.prog none none 67 [.agg [dy L],.agg q.cells] (·= .tup [.agg [dy (eu L q).1],iv (eu L q).2]):=pp
  have fit:=yW (L:=L) (p:=q)
  obtain⟨Ln,e,hpe⟩:∃Ln e,eu L q=(Ln,e):=⟨_,_,rfl⟩
  rw[hpe]at pp hgo fit
  have iL:=eE L
  have iLn:=eE Ln
  have iq:=aO.2 q.imm
  rw[cP]at pp iq
  simp -dsimp -implicitDefEqProofs [-getElem?_pos,go_sem,hP,t25,t27,hq2,cP]
  obtain⟨N,hN0⟩:∃N,N=s2.H.length:=⟨_,rfl⟩
  obtain⟨H1,hH1⟩:∃H1:ab,H1=s2.H++[some ⟨127,8,[[iv q.Number,iv q.Day,iv q.Entity,iv q.Debit,iv q.Credit,iv q.Amount,iv q.Partner,iv q.Ref]]⟩]:=⟨_,rfl⟩
  have k1:Kept [] s2.H H1:=by rw[hH1];exact az _ (ai _ _)
  have h1':=k1 _ _ (by simp) hp2
  have gN:H1[N]?=some (some ⟨127,8,[[iv q.Number,iv q.Day,iv q.Entity,iv q.Debit,iv q.Credit,iv q.Amount,iv q.Partner,iv q.Ref]]⟩):=by rw[hH1,hN0];simp
  have lp':=(List.getElem?_eq_some_iff.1 h1').1
  have lN:=(gsI gN)
  have kp1:Kept [p] H H1:=kp.trans (k1.mono (by simp))
  rw[←hH1,←hN0]
  clear hH1
  refine fJ (fun i=>decide (i<H1.length)) [11] [6] hP (by kernel_rfl) (by kernel_rfl) ?_
  simp -dsimp -implicitDefEqProofs [-getElem?_pos,go_sem,hP,ao,t0,h1',gN,lp',lN]
  refine cY (pp.lift _ _) hP Rl (by simp[iL,iq,aO]) ⟨_,rfl,aE (aO.2 (by simpa using iLn)) .sc⟩ ?_
  rintro r rfl _
  simp -dsimp -implicitDefEqProofs [-getElem?_pos,go_sem,hP,ao]
  refine⟨bS (Nat.le_refl _),?_⟩
  by_cases he:e=0
  ·subst he
   rw[if_pos rfl]at hgo
   simp -dsimp -implicitDefEqProofs [-getElem?_pos,go_sem,hP,t0,h1',lp',List.getElem?_append_left,t27,wk]
   refine⟨ps.length-(k+1),by omega,?_⟩
   rw[hI]
   refine⟨k+1,Ln,by omega,rfl,hgo,fit rfl,by simp -dsimp[-getElem?_pos,go_sem,t0],by simp -dsimp[-getElem?_pos,go_sem,t25],by simp -dsimp[-getElem?_pos,go_sem,t26],by simp -dsimp[-getElem?_pos,go_sem],?_,?_⟩
   ·simp -dsimp -implicitDefEqProofs [-getElem?_pos,go_sem,lp']
   ·exact az _ (ay _ (by simp) kp1)
  ·rw[if_neg he]at hgo
   have de:decide (e=0)=false:=decide_eq_false he
   simp -dsimp -implicitDefEqProofs [-getElem?_pos,go_sem,hP,de]
   rw[hC,←hS0,hB,hgo]
   refine⟨rfl,?_,az _ kp1⟩
   rw[List.getElem?_append_left lp']
   exact h1'
 ·have hk:k=ps.length:=by simp at hq;omega
  subst hk
  rw[List.drop_length,j9]at hgo
  simp -dsimp -implicitDefEqProofs [-getElem?_pos,go_sem,hP]
  rw[hC,←hS0,hB,hgo]
  exact⟨rfl,hp2,kp⟩
open Go.PA
open Go.RowKit
theorem uB {H l l':ab}:Agree (fun i=>decide (i<H.length)) (H++l) (H++l'):=fun i hi=>by
 simp only[decide_eq_true_eq]at hi
 rw[List.getElem?_append_left hi,List.getElem?_append_left hi]
set_option maxHeartbeats 8000000 in
theorem S2 {row src:Option Nat} {p:Nat} {H:ab} {s:TState} {j:Nat} (d:TDeed) (h:H[p]?=jv s d.Day) (hf:FitS j s) (hj:j<400):
  MFun Tryz.prog row src 23 [.ref p 0 0,.agg d.cells] H (qX p d.Day H (doK s d)):=by
 obtain⟨C,hC⟩:∃C,C=qX p d.Day H (doK s d):=⟨_,rfl⟩
 have wit:=nZ h (doK s d)
 have lp:=(gsI h)
 have idd:=dh s.Desk
 have ir:=fW s.Register
 rw[←hC]at wit⊢
 refine al Tryz.func23 rfl (by simp[Tryz.f23]) (by kernel_rfl) (wit) ?_
 intro E hP hr hs hN
 obtain⟨N,hN0⟩:∃N,N=H.length:=⟨_,rfl⟩
 obtain⟨H1,hH1⟩:∃H1:ab,H1=H++[some ⟨64,7,[[iv d.Kind,iv d.Day,iv d.Sub,iv d.Who,iv d.Ref,iv d.Amount,iv d.Due]]⟩]:=⟨_,rfl⟩
 have k1:Kept [p] H H1:=by rw[hH1];exact az _ (ai _ _)
 have h1:H1[p]?=jv s d.Day:=by rw[hH1,List.getElem?_append_left lp];exact h
 have gN:H1[N]?=some (some ⟨64,7,[[iv d.Kind,iv d.Day,iv d.Sub,iv d.Who,iv d.Ref,iv d.Amount,iv d.Due]]⟩):=by rw[hH1,hN0];simp
 have lp':=(gsI h1)
 have lN:=(gsI gN)
 have nNp:¬N=p:=by omega
 have dsk:∀(x:TDesk) (e:Int) (H2:ab),Kept [p] H H2→H2[p]?=jv s d.Day→MFun Tryz.prog E.row E.src 56 [.ref p 0 0,.agg x.cells,iv e] H2 (fun r H3=>r=iv (fM s x e).2∧H3[p]?=jv (fM s x e).1 d.Day∧Kept [p] H H3):=fun x e H2 kx hx=>(Nt hx x e).mono fun r H3 ⟨a1,a2,a3⟩=>⟨a1,a2,kx.trans a3⟩
 by_cases c1:d.Kind=1
 ·have d1:decide (d.Kind=1)=true:=decide_eq_true c1
  have rc:=Fr (row:=E.row) (src:=E.src) d h1 hf.d hf.c (by rw[hf.cl];simp)
  rw[cK]at rc
  have e0:doK s d=ff s d:=by rw[doK,if_pos c1]
  simp -dsimp -implicitDefEqProofs [-getElem?_pos,go_sem,hP,cK,d1]
  rw[←hH1,←hN0]
  try simp -dsimp -implicitDefEqProofs [-getElem?_pos,go_sem,hP,gN,lN]
  refine ar rc hP RW ?_
  rintro q H2 ⟨rfl,h2,k2⟩
  simp -dsimp -implicitDefEqProofs [-getElem?_pos,go_sem,hP]
  rw[hC,e0]
  exact⟨rfl,h2,k1.trans k2⟩
 have n1:decide (d.Kind=1)=false:=decide_eq_false c1
 by_cases c2:d.Kind=2
 ·have d2:decide (d.Kind=2)=true:=decide_eq_true c2
  have od:=Jf s.Desk (zI d) hf.d
  have e0:doK s d=fM s (dK s.Desk (zI d)).1 (dK s.Desk (zI d)).2:=by rw[doK,if_neg c1,if_pos c2]
  obtain⟨x,e,hx⟩:∃x e,dK s.Desk (zI d)=(x,e):=⟨_,_,rfl⟩
  rw[hx]at od e0
  have ix:=dh x
  have hp:(zI d).cells=[iv d.Ref,iv d.Who,iv d.Amount,iv d.Due,iv d.Sub]:=rfl
  have ds:=dsk x e
  rw[hp]at od
  rw[gG]at od idd ix ds
  rw[gG]at od
  simp -dsimp -implicitDefEqProofs [-getElem?_pos,go_sem,hP,cK,n1,d2]
  rw[←hH1,←hN0]
  try simp -dsimp -implicitDefEqProofs [-getElem?_pos,go_sem,hP,gN,lN]
  refine au (fun _=>true) [20] hP (by kernel_rfl) (by kernel_rfl) ?_
  simp -dsimp -implicitDefEqProofs [-getElem?_pos,go_sem,hP,h1,lp',gN,lN]
  refine ak (od.lift _ _) hP Rs (by simp[idd,aO,aP]) (aE ix .sc) ?_
  simp -dsimp -implicitDefEqProofs [-getElem?_pos,go_sem,hP]
  refine ar (ds H1 k1 h1) hP yq ?_
  rintro q H3 ⟨rfl,h3,k3⟩
  simp -dsimp -implicitDefEqProofs [-getElem?_pos,go_sem,hP]
  rw[hC,e0]
  exact⟨rfl,h3,k3⟩
 have n2:decide (d.Kind=2)=false:=decide_eq_false c2
 by_cases c3:d.Kind=3
 ·have d3:decide (d.Kind=3)=true:=decide_eq_true c3
  have od:=Ko s.Desk d.Day hf.d
  have e0:doK s d=fM s (eh s.Desk d.Day).1 (eh s.Desk d.Day).2.2:=by rw[doK,if_neg c1,if_neg c2,if_pos c3]
  obtain⟨x,b,e,hx⟩:∃x b e,eh s.Desk d.Day=(x,b,e):=⟨_,_,_,rfl⟩
  rw[hx]at od e0
  have ix:=dh x
  have ib:Imm (.agg b.cells):=aO.2 b.imm
  have ds:=dsk x e
  have hb:b.cells=[iv b.Number,iv b.Day,aT b.Payments]:=rfl
  rw[gG]at od idd ix ds
  rw[gG]at od
  rw[hb]at od ib
  simp -dsimp -implicitDefEqProofs [-getElem?_pos,go_sem,hP,cK,n1,n2,d3]
  rw[←hH1,←hN0]
  refine EM (fun i=>decide (i<H1.length)) [14,15] [7] 12 hP (by kernel_rfl) (by kernel_rfl) (by simp) ?_
  simp -dsimp -implicitDefEqProofs [-getElem?_pos,go_sem,hP,List.take_succ_cons,List.take_zero,ao,h1,lp',gN,lN]
  refine cY (od.lift _ _) hP RH (by simp[idd,aP]) ⟨_,rfl,qv ix ib .sc⟩ ?_
  rintro r rfl _
  simp -dsimp -implicitDefEqProofs [-getElem?_pos,go_sem,hP,ao]
  refine nL (i:=12) (j:=13) (by kernel_rfl) rfl rfl ?_ ?_
  ·simp -dsimp -implicitDefEqProofs [-getElem?_pos,go_sem,hP,ao]
   refine⟨bS (Nat.le_refl _),?_⟩
   refine bC (i:=13) (by kernel_rfl) rfl ?_
   simp -dsimp -implicitDefEqProofs [-getElem?_pos,go_sem,hP,ao]
   refine⟨uB,?_⟩
   refine bC (i:=14) (by kernel_rfl) rfl ?_
   simp -dsimp -implicitDefEqProofs [-getElem?_pos,go_sem,hP,ao]
   refine bC (i:=15) (by kernel_rfl) rfl ?_
   simp -dsimp -implicitDefEqProofs [-getElem?_pos,go_sem,hP,ao]
   refine bC (i:=16) (by kernel_rfl) rfl ?_
   simp -dsimp -implicitDefEqProofs [-getElem?_pos,go_sem,hP,ao]
   refine iG (by kernel_rfl) ?_
   simp -dsimp -implicitDefEqProofs [-getElem?_pos,go_sem,hP]
   refine ar (ds _ (k1.trans (ap _ _ _)) (by rw[List.getElem?_append_left lp'];exact h1)) hP yq ?_
   rintro q H3 ⟨rfl,h3,k3⟩
   simp -dsimp -implicitDefEqProofs [-getElem?_pos,go_sem,hP]
   rw[hC,e0]
   exact⟨rfl,h3,k3⟩
  ·simp -dsimp -implicitDefEqProofs [-getElem?_pos,go_sem,hP,ao]
   refine⟨bS (Nat.le_refl _),?_⟩
   refine bC (i:=12) (by kernel_rfl) rfl ?_
   simp -dsimp -implicitDefEqProofs [-getElem?_pos,go_sem,hP,ao]
   refine⟨uB,?_⟩
   refine bC (i:=14) (by kernel_rfl) rfl ?_
   simp -dsimp -implicitDefEqProofs [-getElem?_pos,go_sem,hP,ao]
   refine bC (i:=15) (by kernel_rfl) rfl ?_
   simp -dsimp -implicitDefEqProofs [-getElem?_pos,go_sem,hP,ao]
   refine bC (i:=16) (by kernel_rfl) rfl ?_
   simp -dsimp -implicitDefEqProofs [-getElem?_pos,go_sem,hP,ao]
   refine iG (by kernel_rfl) ?_
   simp -dsimp -implicitDefEqProofs [-getElem?_pos,go_sem,hP]
   refine ar (ds _ (k1.trans (ap _ _ _)) (by rw[List.getElem?_append_left lp'];exact h1)) hP yq ?_
   rintro q H3 ⟨rfl,h3,k3⟩
   simp -dsimp -implicitDefEqProofs [-getElem?_pos,go_sem,hP]
   rw[hC,e0]
   exact⟨rfl,h3,k3⟩
 have n3:decide (d.Kind=3)=false:=decide_eq_false c3
 by_cases c4:d.Kind=4
 ·have d4:decide (d.Kind=4)=true:=decide_eq_true c4
  have od:=F1 s.Desk d.Ref hf.d
  have e0:doK s d=fM s (fA s.Desk d.Ref).1 (fA s.Desk d.Ref).2:=by rw[doK,if_neg c1,if_neg c2,if_neg c3,if_pos c4]
  obtain⟨x,e,hx⟩:∃x e,fA s.Desk d.Ref=(x,e):=⟨_,_,rfl⟩
  rw[hx]at od e0
  have ix:=dh x
  have ds:=dsk x e
  rw[gG]at od idd ix ds
  rw[gG]at od
  simp -dsimp -implicitDefEqProofs [-getElem?_pos,go_sem,hP,cK,n1,n2,n3,d4]
  rw[←hH1,←hN0]
  try simp -dsimp -implicitDefEqProofs [-getElem?_pos,go_sem,hP,gN,lN]
  refine au (fun _=>true) [11] hP (by kernel_rfl) (by kernel_rfl) ?_
  simp -dsimp -implicitDefEqProofs [-getElem?_pos,go_sem,hP,h1,lp',gN,lN]
  refine ak (od.lift _ _) hP RA (by simp[idd,aO,aP]) (aE ix .sc) ?_
  simp -dsimp -implicitDefEqProofs [-getElem?_pos,go_sem,hP]
  refine ar (ds H1 k1 h1) hP yq ?_
  rintro q H3 ⟨rfl,h3,k3⟩
  simp -dsimp -implicitDefEqProofs [-getElem?_pos,go_sem,hP]
  rw[hC,e0]
  exact⟨rfl,h3,k3⟩
 have n4:decide (d.Kind=4)=false:=decide_eq_false c4
 by_cases c5:d.Kind=5
 ·have d5:decide (d.Kind=5)=true:=decide_eq_true c5
  have od:=D8 s.Desk d.Ref d.Day hf.d
  have e0:doK s d=fM s (fw s.Desk d.Ref d.Day).1 (fw s.Desk d.Ref d.Day).2:=by rw[doK,if_neg c1,if_neg c2,if_neg c3,if_neg c4,if_pos c5]
  obtain⟨x,e,hx⟩:∃x e,fw s.Desk d.Ref d.Day=(x,e):=⟨_,_,rfl⟩
  rw[hx]at od e0
  have ix:=dh x
  have ds:=dsk x e
  rw[gG]at od idd ix ds
  rw[gG]at od
  simp -dsimp -implicitDefEqProofs [-getElem?_pos,go_sem,hP,cK,n1,n2,n3,n4,d5]
  rw[←hH1,←hN0]
  try simp -dsimp -implicitDefEqProofs [-getElem?_pos,go_sem,hP,gN,lN]
  refine au (fun _=>true) [13] hP (by kernel_rfl) (by kernel_rfl) ?_
  simp -dsimp -implicitDefEqProofs [-getElem?_pos,go_sem,hP,h1,lp',gN,lN]
  refine ak (od.lift _ _) hP Sl (by simp[idd,aO,aP]) (aE ix .sc) ?_
  simp -dsimp -implicitDefEqProofs [-getElem?_pos,go_sem,hP]
  refine ar (ds H1 k1 h1) hP yq ?_
  rintro q H3 ⟨rfl,h3,k3⟩
  simp -dsimp -implicitDefEqProofs [-getElem?_pos,go_sem,hP]
  rw[hC,e0]
  exact⟨rfl,h3,k3⟩
 have n5:decide (d.Kind=5)=false:=decide_eq_false c5
 by_cases c6:d.Kind=6
 ·have d6:decide (d.Kind=6)=true:=decide_eq_true c6
  have od:=FU s.Desk d.Ref hf.d
  have e0:doK s d=fM s (fp s.Desk d.Ref).1 (fp s.Desk d.Ref).2:=by rw[doK,if_neg c1,if_neg c2,if_neg c3,if_neg c4,if_neg c5,if_pos c6]
  obtain⟨x,e,hx⟩:∃x e,fp s.Desk d.Ref=(x,e):=⟨_,_,rfl⟩
  rw[hx]at od e0
  have ix:=dh x
  have ds:=dsk x e
  rw[gG]at od idd ix ds
  rw[gG]at od
  simp -dsimp -implicitDefEqProofs [-getElem?_pos,go_sem,hP,cK,n1,n2,n3,n4,n5,d6]
  rw[←hH1,←hN0]
  try simp -dsimp -implicitDefEqProofs [-getElem?_pos,go_sem,hP,gN,lN]
  refine au (fun _=>true) [11] hP (by kernel_rfl) (by kernel_rfl) ?_
  simp -dsimp -implicitDefEqProofs [-getElem?_pos,go_sem,hP,h1,lp',gN,lN]
  refine ak (od.lift _ _) hP Sk (by simp[idd,aO,aP]) (aE ix .sc) ?_
  simp -dsimp -implicitDefEqProofs [-getElem?_pos,go_sem,hP]
  refine ar (ds H1 k1 h1) hP yq ?_
  rintro q H3 ⟨rfl,h3,k3⟩
  simp -dsimp -implicitDefEqProofs [-getElem?_pos,go_sem,hP]
  rw[hC,e0]
  exact⟨rfl,h3,k3⟩
 have n6:decide (d.Kind=6)=false:=decide_eq_false c6
 by_cases c7:d.Kind=7
 ·have d7:decide (d.Kind=7)=true:=decide_eq_true c7
  have od:=Ip s.Register (dR s.Register) (qe s d) hf.r (by have:=hf.rm;omega) rfl ⟨rfl,rfl⟩
  have ox:=qu s.Register (dR s.Register) (qe s d)
  have e0:doK s d=my s (qe s d) (oX s.Register (qe s d)) 0 1 d.Amount:=by rw[doK,if_neg c1,if_neg c2,if_neg c3,if_neg c4,if_neg c5,if_neg c6,if_pos c7]
  have db:=fun (r':TRegister) (hr':oX s.Register (qe s d)=0→r'=jt s.Register (qe s d)) (H2:ab) (h2:H2[p]?=jv s d.Day)=>Gh (row:=E.row) (src:=E.src) (qe s d) h2 hf.d r' (oX s.Register (qe s d)) 0 1 d.Amount hr'
  rw[ga]at od ir
  have od:PFun Tryz.prog none none 62 [.agg [bf s.Register.Securities,cM s.Register.Holdings,cF s.Register.Moves],iv d.Day,iv d.Ref,iv d.Who,iv d.Amount] (qE s.Register (dR s.Register) (qe s d)):=od
  simp -dsimp -implicitDefEqProofs [-getElem?_pos,go_sem,hP,cK,n1,n2,n3,n4,n5,n6,d7]
  rw[←hH1,←hN0]
  try simp -dsimp -implicitDefEqProofs [-getElem?_pos,go_sem,hP,gN,lN]
  refine fJ (fun i=>decide (i<H1.length)) [18] [13] hP (by kernel_rfl) (by kernel_rfl) ?_
  simp -dsimp -implicitDefEqProofs [-getElem?_pos,go_sem,hP,ao,h1,lp',gN,lN]
  refine cY (od.lift _ _) hP Rh (by simpa[aP]using ir) ox ?_
  rintro r ⟨r',rfl,hr'⟩ _
  have er:bJ s.Register.Securities s.Register.Holdings (dR s.Register) (qe s d)=oX s.Register (qe s d):=rfl
  rw[er]at hr'⊢
  obtain⟨e,he⟩:∃e,e=oX s.Register (qe s d):=⟨_,rfl⟩
  rw[←he]at hr' db e0⊢
  simp -dsimp -implicitDefEqProofs [-getElem?_pos,go_sem,hP,ao,ga]
  refine⟨bS (Nat.le_refl _),?_⟩
  obtain⟨H2,hH2⟩:∃H2:ab,H2=H1++[some ⟨45,3,[[bf r'.Securities,cM r'.Holdings,cF r'.Moves]]⟩]:=⟨_,rfl⟩
  have k2:Kept [p] H1 H2:=by rw[hH2];exact az _ (ai _ _)
  have h2:H2[p]?=jv s d.Day:=by rw[hH2,List.getElem?_append_left lp'];exact h1
  have gN2:H2[N]?=some (some ⟨64,7,[[iv d.Kind,iv d.Day,iv d.Sub,iv d.Who,iv d.Ref,iv d.Amount,iv d.Due]]⟩):=by rw[hH2,List.getElem?_append_left lN];exact gN
  have gR:H2[H1.length]?=some (some ⟨45,3,[[bf r'.Securities,cM r'.Holdings,cF r'.Moves]]⟩):=by rw[hH2];simp
  have lN2:=(gsI gN2)
  have lR:=(gsI gR)
  have db:=db r' hr' H2 h2
  rw[ga]at db
  try rw[←hH2]
  try simp -dsimp -implicitDefEqProofs [-getElem?_pos,go_sem,hP,gN2,lN2,gR,lR]
  refine ar db hP OM ?_
  rintro q H3 ⟨rfl,h3,k3⟩
  simp -dsimp -implicitDefEqProofs [-getElem?_pos,go_sem,hP]
  rw[hC,e0]
  exact⟨rfl,h3,(k1.trans k2).trans k3⟩
 have n7:decide (d.Kind=7)=false:=decide_eq_false c7
 by_cases c8:d.Kind=8
 ·have d8:decide (d.Kind=8)=true:=decide_eq_true c8
  have od:=D5 s.Register (dR s.Register) (qI s d) hf.r (by have:=hf.rm;omega) rfl ⟨rfl,rfl⟩
  have ox:=qu s.Register (dR s.Register) (qI s d)
  have e0:doK s d=my s (qI s d) (oX s.Register (qI s d)) 1 0 d.Amount:=by rw[doK,if_neg c1,if_neg c2,if_neg c3,if_neg c4,if_neg c5,if_neg c6,if_neg c7,if_pos c8]
  have db:=fun (r':TRegister) (hr':oX s.Register (qI s d)=0→r'=jt s.Register (qI s d)) (H2:ab) (h2:H2[p]?=jv s d.Day)=>Gh (row:=E.row) (src:=E.src) (qI s d) h2 hf.d r' (oX s.Register (qI s d)) 1 0 d.Amount hr'
  rw[ga]at od ir
  have od:PFun Tryz.prog none none 64 [.agg [bf s.Register.Securities,cM s.Register.Holdings,cF s.Register.Moves],iv d.Day,iv d.Ref,iv d.Who,iv d.Amount] (qE s.Register (dR s.Register) (qI s d)):=od
  simp -dsimp -implicitDefEqProofs [-getElem?_pos,go_sem,hP,cK,n1,n2,n3,n4,n5,n6,n7,d8]
  rw[←hH1,←hN0]
  try simp -dsimp -implicitDefEqProofs [-getElem?_pos,go_sem,hP,gN,lN]
  refine fJ (fun i=>decide (i<H1.length)) [18] [13] hP (by kernel_rfl) (by kernel_rfl) ?_
  simp -dsimp -implicitDefEqProofs [-getElem?_pos,go_sem,hP,ao,h1,lp',gN,lN]
  refine cY (od.lift _ _) hP Sx (by simpa[aP]using ir) ox ?_
  rintro r ⟨r',rfl,hr'⟩ _
  have er:bJ s.Register.Securities s.Register.Holdings (dR s.Register) (qI s d)=oX s.Register (qI s d):=rfl
  rw[er]at hr'⊢
  obtain⟨e,he⟩:∃e,e=oX s.Register (qI s d):=⟨_,rfl⟩
  rw[←he]at hr' db e0⊢
  simp -dsimp -implicitDefEqProofs [-getElem?_pos,go_sem,hP,ao,ga]
  refine⟨bS (Nat.le_refl _),?_⟩
  obtain⟨H2,hH2⟩:∃H2:ab,H2=H1++[some ⟨45,3,[[bf r'.Securities,cM r'.Holdings,cF r'.Moves]]⟩]:=⟨_,rfl⟩
  have k2:Kept [p] H1 H2:=by rw[hH2];exact az _ (ai _ _)
  have h2:H2[p]?=jv s d.Day:=by rw[hH2,List.getElem?_append_left lp'];exact h1
  have gN2:H2[N]?=some (some ⟨64,7,[[iv d.Kind,iv d.Day,iv d.Sub,iv d.Who,iv d.Ref,iv d.Amount,iv d.Due]]⟩):=by rw[hH2,List.getElem?_append_left lN];exact gN
  have gR:H2[H1.length]?=some (some ⟨45,3,[[bf r'.Securities,cM r'.Holdings,cF r'.Moves]]⟩):=by rw[hH2];simp
  have lN2:=(gsI gN2)
  have lR:=(gsI gR)
  have db:=db r' hr' H2 h2
  rw[ga]at db
  try rw[←hH2]
  try simp -dsimp -implicitDefEqProofs [-getElem?_pos,go_sem,hP,gN2,lN2,gR,lR]
  refine ar db hP OM ?_
  rintro q H3 ⟨rfl,h3,k3⟩
  simp -dsimp -implicitDefEqProofs [-getElem?_pos,go_sem,hP]
  rw[hC,e0]
  exact⟨rfl,h3,(k1.trans k2).trans k3⟩
 have n8:decide (d.Kind=8)=false:=decide_eq_false c8
 by_cases c9:d.Kind=9
 ·have d9:decide (d.Kind=9)=true:=decide_eq_true c9
  have e0:doK s d=if d.Sub=0∨d.Who=0 then (s,60)else kN s d.Day d.Sub d.Who d.Amount:=by rw[doK,if_neg c1,if_neg c2,if_neg c3,if_neg c4,if_neg c5,if_neg c6,if_neg c7,if_neg c8,if_pos c9]
  have mv:=fun (H2:ab) (h2:H2[p]?=jv s d.Day)=>Aa (row:=E.row) (src:=E.src) h2 hf.d d.Sub d.Who d.Amount
  by_cases s1:d.Sub=0
  ·have b1:decide (d.Sub=0)=true:=decide_eq_true s1
   rw[if_pos (.inl s1)]at e0
   simp -dsimp -implicitDefEqProofs [-getElem?_pos,go_sem,hP,cK,n1,n2,n3,n4,n5,n6,n7,n8,d9,b1]
   rw[hC,e0]
   rw[hH1]at h1 k1
   exact⟨rfl,h1,k1⟩
  have b1:decide (d.Sub=0)=false:=decide_eq_false s1
  by_cases s2:d.Who=0
  ·have b2:decide (d.Who=0)=true:=decide_eq_true s2
   rw[if_pos (.inr s2)]at e0
   simp -dsimp -implicitDefEqProofs [-getElem?_pos,go_sem,hP,cK,n1,n2,n3,n4,n5,n6,n7,n8,d9,b1,b2]
   rw[hC,e0]
   rw[hH1]at h1 k1
   exact⟨rfl,h1,k1⟩
  have b2:decide (d.Who=0)=false:=decide_eq_false s2
  rw[if_neg (fun h=>h.elim s1 s2)]at e0
  simp -dsimp -implicitDefEqProofs [-getElem?_pos,go_sem,hP,cK,n1,n2,n3,n4,n5,n6,n7,n8,d9,b1,b2]
  rw[←hH1]
  refine ar (mv H1 h1) hP Gn ?_
  rintro q H3 ⟨rfl,h3,k3⟩
  simp -dsimp -implicitDefEqProofs [-getElem?_pos,go_sem,hP]
  rw[hC,e0]
  exact⟨rfl,h3,k1.trans k3⟩
 have n9:decide (d.Kind=9)=false:=decide_eq_false c9
 have e0:doK s d=(s,91):=by rw[doK,if_neg c1,if_neg c2,if_neg c3,if_neg c4,if_neg c5,if_neg c6,if_neg c7,if_neg c8,if_neg c9]
 simp -dsimp -implicitDefEqProofs [-getElem?_pos,go_sem,hP,cK,n1,n2,n3,n4,n5,n6,n7,n8,n9]
 rw[hC,e0]
 rw[hH1]at h1 k1
 exact⟨rfl,h1,k1⟩
open Go.PA
open Go.RowKit
theorem xt (l:List TSub) (hl:l.length≤1000000):PFun Tryz.prog none none 37 [.list 2 (ac TSub.cells l)] (·= .list 2 (ac TSub.cells l)):=by
 cases l with
 |nil=>
  refine bw fun A c=>?_
  refine ae Tryz.func37 rfl (by simp[Tryz.f37]) (by kernel_rfl) ?_
  intro E hP hr hs hW hN
  cases A with
  |none=>
   simp -dsimp -implicitDefEqProofs [-getElem?_pos,go_sem,hP]
   exact aB .nil (aG.2 (by simp)) (.nil _) rfl
  |some a=>
   simp -dsimp -implicitDefEqProofs [-getElem?_pos,go_sem,hP]
   refine aB (x:= .list 2 []) ?_ (aG.2 (by simp)) ?_ rfl
   ·simp -dsimp -implicitDefEqProofs [-getElem?_pos,go_sem]
   ·simp -dsimp -implicitDefEqProofs [-getElem?_pos,go_sem]
    first|exact .refl _|skip
 |cons a l=>
  refine ae Tryz.func37 rfl (by simp[Tryz.f37]) (by kernel_rfl) ?_
  intro E hP hr hs hW hN
  simp only[List.length_cons]at hl
  have e:ac TSub.cells (a::l)=TSub.cells a::ac TSub.cells l:=rfl
  have im:Imm (.list 2 (TSub.cells a::ac TSub.cells l)):=by rw[←e];exact aC _ TSub.imm _
  have et:(TSub.cells a::ac TSub.cells l).take (l.length+1)=TSub.cells a::ac TSub.cells l:=by
   rw[←e]
   exact cX TSub.cells (a::l) _ (by simp)
  simp -dsimp -implicitDefEqProofs [-getElem?_pos,go_sem,hP,e]
  refine⟨by omega,by omega,?_⟩
  refine aB (x:= .list 2 (TSub.cells a::ac TSub.cells l)) ?_ im ?_ rfl
  ·simp -dsimp -implicitDefEqProofs [-getElem?_pos,go_sem]
   first|exact im|(have h:=aG.1 im;simp only[List.mem_cons,forall_eq_or_imp]at h;exact h)
  ·simp -dsimp -implicitDefEqProofs [-getElem?_pos,go_sem]
   first|exact .refl _|skip
theorem xP (l:List TEntry) (hl:l.length≤1000000):PFun Tryz.prog none none 38 [.list 6 (ac TEntry.cells l)] (·= .list 6 (ac TEntry.cells l)):=by
 cases l with
 |nil=>
  refine bw fun A c=>?_
  refine ae Tryz.func38 rfl (by simp[Tryz.f38]) (by kernel_rfl) ?_
  intro E hP hr hs hW hN
  cases A with
  |none=>
   simp -dsimp -implicitDefEqProofs [-getElem?_pos,go_sem,hP]
   exact aB .nil (aG.2 (by simp)) (.nil _) rfl
  |some a=>
   simp -dsimp -implicitDefEqProofs [-getElem?_pos,go_sem,hP]
   refine aB (x:= .list 6 []) ?_ (aG.2 (by simp)) ?_ rfl
   ·simp -dsimp -implicitDefEqProofs [-getElem?_pos,go_sem]
   ·simp -dsimp -implicitDefEqProofs [-getElem?_pos,go_sem]
    first|exact .refl _|skip
 |cons a l=>
  refine ae Tryz.func38 rfl (by simp[Tryz.f38]) (by kernel_rfl) ?_
  intro E hP hr hs hW hN
  simp only[List.length_cons]at hl
  have e:ac TEntry.cells (a::l)=TEntry.cells a::ac TEntry.cells l:=rfl
  have im:Imm (.list 6 (TEntry.cells a::ac TEntry.cells l)):=by rw[←e];exact aC _ TEntry.imm _
  have et:(TEntry.cells a::ac TEntry.cells l).take (l.length+1)=TEntry.cells a::ac TEntry.cells l:=by
   rw[←e]
   exact cX TEntry.cells (a::l) _ (by simp)
  simp -dsimp -implicitDefEqProofs [-getElem?_pos,go_sem,hP,e]
  refine⟨by omega,by omega,?_⟩
  refine aB (x:= .list 6 (TEntry.cells a::ac TEntry.cells l)) ?_ im ?_ rfl
  ·simp -dsimp -implicitDefEqProofs [-getElem?_pos,go_sem]
   first|exact im|(have h:=aG.1 im;simp only[List.mem_cons,forall_eq_or_imp]at h;exact h)
  ·simp -dsimp -implicitDefEqProofs [-getElem?_pos,go_sem]
   first|exact .refl _|skip
theorem oy (l:List TPayment) (hl:l.length≤1000000):PFun Tryz.prog none none 39 [.list 5 (ac TPayment.cells l)] (·= .list 5 (ac TPayment.cells l)):=by
 cases l with
 |nil=>
  refine bw fun A c=>?_
  refine ae Tryz.func39 rfl (by simp[Tryz.f39]) (by kernel_rfl) ?_
  intro E hP hr hs hW hN
  cases A with
  |none=>
   simp -dsimp -implicitDefEqProofs [-getElem?_pos,go_sem,hP]
   exact aB .nil (aG.2 (by simp)) (.nil _) rfl
  |some a=>
   simp -dsimp -implicitDefEqProofs [-getElem?_pos,go_sem,hP]
   refine aB (x:= .list 5 []) ?_ (aG.2 (by simp)) ?_ rfl
   ·simp -dsimp -implicitDefEqProofs [-getElem?_pos,go_sem]
   ·simp -dsimp -implicitDefEqProofs [-getElem?_pos,go_sem]
    first|exact .refl _|skip
 |cons a l=>
  refine ae Tryz.func39 rfl (by simp[Tryz.f39]) (by kernel_rfl) ?_
  intro E hP hr hs hW hN
  simp only[List.length_cons]at hl
  have e:ac TPayment.cells (a::l)=TPayment.cells a::ac TPayment.cells l:=rfl
  have im:Imm (.list 5 (TPayment.cells a::ac TPayment.cells l)):=by rw[←e];exact aC _ TPayment.imm _
  have et:(TPayment.cells a::ac TPayment.cells l).take (l.length+1)=TPayment.cells a::ac TPayment.cells l:=by
   rw[←e]
   exact cX TPayment.cells (a::l) _ (by simp)
  simp -dsimp -implicitDefEqProofs [-getElem?_pos,go_sem,hP,e]
  refine⟨by omega,by omega,?_⟩
  refine aB (x:= .list 5 (TPayment.cells a::ac TPayment.cells l)) ?_ im ?_ rfl
  ·simp -dsimp -implicitDefEqProofs [-getElem?_pos,go_sem]
   first|exact im|(have h:=aG.1 im;simp only[List.mem_cons,forall_eq_or_imp]at h;exact h)
  ·simp -dsimp -implicitDefEqProofs [-getElem?_pos,go_sem]
   first|exact .refl _|skip
theorem xz (l:List TItem) (hl:l.length≤1000000):PFun Tryz.prog none none 41 [.list 7 (ac TItem.cells l)] (·= .list 7 (ac TItem.cells l)):=by
 cases l with
 |nil=>
  refine bw fun A c=>?_
  refine ae Tryz.func41 rfl (by simp[Tryz.f41]) (by kernel_rfl) ?_
  intro E hP hr hs hW hN
  cases A with
  |none=>
   simp -dsimp -implicitDefEqProofs [-getElem?_pos,go_sem,hP]
   exact aB .nil (aG.2 (by simp)) (.nil _) rfl
  |some a=>
   simp -dsimp -implicitDefEqProofs [-getElem?_pos,go_sem,hP]
   refine aB (x:= .list 7 []) ?_ (aG.2 (by simp)) ?_ rfl
   ·simp -dsimp -implicitDefEqProofs [-getElem?_pos,go_sem]
   ·simp -dsimp -implicitDefEqProofs [-getElem?_pos,go_sem]
    first|exact .refl _|skip
 |cons a l=>
  refine ae Tryz.func41 rfl (by simp[Tryz.f41]) (by kernel_rfl) ?_
  intro E hP hr hs hW hN
  simp only[List.length_cons]at hl
  have e:ac TItem.cells (a::l)=TItem.cells a::ac TItem.cells l:=rfl
  have im:Imm (.list 7 (TItem.cells a::ac TItem.cells l)):=by rw[←e];exact aC _ TItem.imm _
  have et:(TItem.cells a::ac TItem.cells l).take (l.length+1)=TItem.cells a::ac TItem.cells l:=by
   rw[←e]
   exact cX TItem.cells (a::l) _ (by simp)
  simp -dsimp -implicitDefEqProofs [-getElem?_pos,go_sem,hP,e]
  refine⟨by omega,by omega,?_⟩
  refine aB (x:= .list 7 (TItem.cells a::ac TItem.cells l)) ?_ im ?_ rfl
  ·simp -dsimp -implicitDefEqProofs [-getElem?_pos,go_sem]
   first|exact im|(have h:=aG.1 im;simp only[List.mem_cons,forall_eq_or_imp]at h;exact h)
  ·simp -dsimp -implicitDefEqProofs [-getElem?_pos,go_sem]
   first|exact .refl _|skip
theorem xM (l:List TClaim) (hl:l.length≤1000000):PFun Tryz.prog none none 42 [.list 6 (ac TClaim.cells l)] (·= .list 6 (ac TClaim.cells l)):=by
 cases l with
 |nil=>
  refine bw fun A c=>?_
  refine ae Tryz.func42 rfl (by simp[Tryz.f42]) (by kernel_rfl) ?_
  intro E hP hr hs hW hN
  cases A with
  |none=>
   simp -dsimp -implicitDefEqProofs [-getElem?_pos,go_sem,hP]
   exact aB .nil (aG.2 (by simp)) (.nil _) rfl
  |some a=>
   simp -dsimp -implicitDefEqProofs [-getElem?_pos,go_sem,hP]
   refine aB (x:= .list 6 []) ?_ (aG.2 (by simp)) ?_ rfl
   ·simp -dsimp -implicitDefEqProofs [-getElem?_pos,go_sem]
   ·simp -dsimp -implicitDefEqProofs [-getElem?_pos,go_sem]
    first|exact .refl _|skip
 |cons a l=>
  refine ae Tryz.func42 rfl (by simp[Tryz.f42]) (by kernel_rfl) ?_
  intro E hP hr hs hW hN
  simp only[List.length_cons]at hl
  have e:ac TClaim.cells (a::l)=TClaim.cells a::ac TClaim.cells l:=rfl
  have im:Imm (.list 6 (TClaim.cells a::ac TClaim.cells l)):=by rw[←e];exact aC _ TClaim.imm _
  have et:(TClaim.cells a::ac TClaim.cells l).take (l.length+1)=TClaim.cells a::ac TClaim.cells l:=by
   rw[←e]
   exact cX TClaim.cells (a::l) _ (by simp)
  simp -dsimp -implicitDefEqProofs [-getElem?_pos,go_sem,hP,e]
  refine⟨by omega,by omega,?_⟩
  refine aB (x:= .list 6 (TClaim.cells a::ac TClaim.cells l)) ?_ im ?_ rfl
  ·simp -dsimp -implicitDefEqProofs [-getElem?_pos,go_sem]
   first|exact im|(have h:=aG.1 im;simp only[List.mem_cons,forall_eq_or_imp]at h;exact h)
  ·simp -dsimp -implicitDefEqProofs [-getElem?_pos,go_sem]
   first|exact .refl _|skip
theorem xI (l:List TIncome) (hl:l.length≤1000000):PFun Tryz.prog none none 43 [.list 5 (ac TIncome.cells l)] (·= .list 5 (ac TIncome.cells l)):=by
 cases l with
 |nil=>
  refine bw fun A c=>?_
  refine ae Tryz.func43 rfl (by simp[Tryz.f43]) (by kernel_rfl) ?_
  intro E hP hr hs hW hN
  cases A with
  |none=>
   simp -dsimp -implicitDefEqProofs [-getElem?_pos,go_sem,hP]
   exact aB .nil (aG.2 (by simp)) (.nil _) rfl
  |some a=>
   simp -dsimp -implicitDefEqProofs [-getElem?_pos,go_sem,hP]
   refine aB (x:= .list 5 []) ?_ (aG.2 (by simp)) ?_ rfl
   ·simp -dsimp -implicitDefEqProofs [-getElem?_pos,go_sem]
   ·simp -dsimp -implicitDefEqProofs [-getElem?_pos,go_sem]
    first|exact .refl _|skip
 |cons a l=>
  refine ae Tryz.func43 rfl (by simp[Tryz.f43]) (by kernel_rfl) ?_
  intro E hP hr hs hW hN
  simp only[List.length_cons]at hl
  have e:ac TIncome.cells (a::l)=TIncome.cells a::ac TIncome.cells l:=rfl
  have im:Imm (.list 5 (TIncome.cells a::ac TIncome.cells l)):=by rw[←e];exact aC _ TIncome.imm _
  have et:(TIncome.cells a::ac TIncome.cells l).take (l.length+1)=TIncome.cells a::ac TIncome.cells l:=by
   rw[←e]
   exact cX TIncome.cells (a::l) _ (by simp)
  simp -dsimp -implicitDefEqProofs [-getElem?_pos,go_sem,hP,e]
  refine⟨by omega,by omega,?_⟩
  refine aB (x:= .list 5 (TIncome.cells a::ac TIncome.cells l)) ?_ im ?_ rfl
  ·simp -dsimp -implicitDefEqProofs [-getElem?_pos,go_sem]
   first|exact im|(have h:=aG.1 im;simp only[List.mem_cons,forall_eq_or_imp]at h;exact h)
  ·simp -dsimp -implicitDefEqProofs [-getElem?_pos,go_sem]
   first|exact .refl _|skip
theorem xN (l:List TMatch) (hl:l.length≤1000000):PFun Tryz.prog none none 44 [.list 3 (ac TMatch.cells l)] (·= .list 3 (ac TMatch.cells l)):=by
 cases l with
 |nil=>
  refine bw fun A c=>?_
  refine ae Tryz.func44 rfl (by simp[Tryz.f44]) (by kernel_rfl) ?_
  intro E hP hr hs hW hN
  cases A with
  |none=>
   simp -dsimp -implicitDefEqProofs [-getElem?_pos,go_sem,hP]
   exact aB .nil (aG.2 (by simp)) (.nil _) rfl
  |some a=>
   simp -dsimp -implicitDefEqProofs [-getElem?_pos,go_sem,hP]
   refine aB (x:= .list 3 []) ?_ (aG.2 (by simp)) ?_ rfl
   ·simp -dsimp -implicitDefEqProofs [-getElem?_pos,go_sem]
   ·simp -dsimp -implicitDefEqProofs [-getElem?_pos,go_sem]
    first|exact .refl _|skip
 |cons a l=>
  refine ae Tryz.func44 rfl (by simp[Tryz.f44]) (by kernel_rfl) ?_
  intro E hP hr hs hW hN
  simp only[List.length_cons]at hl
  have e:ac TMatch.cells (a::l)=TMatch.cells a::ac TMatch.cells l:=rfl
  have im:Imm (.list 3 (TMatch.cells a::ac TMatch.cells l)):=by rw[←e];exact aC _ TMatch.imm _
  have et:(TMatch.cells a::ac TMatch.cells l).take (l.length+1)=TMatch.cells a::ac TMatch.cells l:=by
   rw[←e]
   exact cX TMatch.cells (a::l) _ (by simp)
  simp -dsimp -implicitDefEqProofs [-getElem?_pos,go_sem,hP,e]
  refine⟨by omega,by omega,?_⟩
  refine aB (x:= .list 3 (TMatch.cells a::ac TMatch.cells l)) ?_ im ?_ rfl
  ·simp -dsimp -implicitDefEqProofs [-getElem?_pos,go_sem]
   first|exact im|(have h:=aG.1 im;simp only[List.mem_cons,forall_eq_or_imp]at h;exact h)
  ·simp -dsimp -implicitDefEqProofs [-getElem?_pos,go_sem]
   first|exact .refl _|skip
theorem Int.imm (n:Int) (c:AV) (h:c∈aJ n):Imm c:=by
 simp[aJ]at h
 subst h
 exact .sc
theorem oF (l:List Int) (hl:l.length≤1000000):PFun Tryz.prog none none 40 [.list 1 (ac aJ l)] (·= .list 1 (ac aJ l)):=by
 cases l with
 |nil=>
  refine bw fun A c=>?_
  refine ae Tryz.func40 rfl (by simp[Tryz.f40]) (by kernel_rfl) ?_
  intro E hP hr hs hW hN
  cases A with
  |none=>
   simp -dsimp -implicitDefEqProofs [-getElem?_pos,go_sem,hP]
   exact aB .nil (aG.2 (by simp)) (.nil _) rfl
  |some a=>
   simp -dsimp -implicitDefEqProofs [-getElem?_pos,go_sem,hP]
   refine aB (x:= .list 1 []) ?_ (aG.2 (by simp)) ?_ rfl
   ·simp -dsimp -implicitDefEqProofs [-getElem?_pos,go_sem]
   ·simp -dsimp -implicitDefEqProofs [-getElem?_pos,go_sem]
    first|exact .refl _|skip
 |cons a l=>
  refine ae Tryz.func40 rfl (by simp[Tryz.f40]) (by kernel_rfl) ?_
  intro E hP hr hs hW hN
  simp only[List.length_cons]at hl
  have e:ac aJ (a::l)=aJ a::ac aJ l:=rfl
  have im:Imm (.list 1 (aJ a::ac aJ l)):=by rw[←e];exact aC _ Int.imm _
  have et:(aJ a::ac aJ l).take (l.length+1)=aJ a::ac aJ l:=by
   rw[←e]
   exact cX aJ (a::l) _ (by simp)
  simp -dsimp -implicitDefEqProofs [-getElem?_pos,go_sem,hP,e]
  refine⟨by omega,by omega,?_⟩
  refine aB (x:= .list 1 (aJ a::ac aJ l)) ?_ im ?_ rfl
  ·simp -dsimp -implicitDefEqProofs [-getElem?_pos,go_sem]
   first|exact im|(have h:=aG.1 im;simp only[List.mem_cons,forall_eq_or_imp]at h;exact h)
  ·simp -dsimp -implicitDefEqProofs [-getElem?_pos,go_sem]
   first|exact .refl _|skip
theorem Hb (r:TRegister) (h1:r.Securities.length≤100000) (h2:r.Holdings.length≤100000) (h3:r.Moves.length≤100000):PFun Tryz.prog none none 32 [.agg r.cells] (·= .agg r.cells):=
 kD (Ge r [] h1 h2 h3) (fW r) fun x H' hc=>by
  obtain⟨i1,i2,i3,rfl,hrc,_⟩:=hc
  exact⟨_,rfl,hrc.cw⟩
theorem N0 {H:ab} {r x:AV} {Q:AV→Prop} {b:Bx Q} (hi:Imm x) (hq:Q x) (hv:dg H r=x):mD H r Q b:=done (by rw[hv];exact hi) hq hv
theorem yC {H:ab} {id:Nat} {o:Option AObj} (ho:H[id]?=some o):H.set id o=H:=by
 apply List.ext_getElem?
 intro j
 rw[List.getElem?_set]
 split
 ·rename_i e
  subst e
  rw[ho,if_pos (gsI ho)]
 ·rfl
set_option maxHeartbeats 8000000 in
theorem uG {z:TState} {j:Nat} (hf:FitS j z) (hj:j<400):PFun Tryz.prog none none 16 [.agg z.cells] (·= .agg z.cells):=by
 have q1:=xt z.Desk.Account.Subs (by have:=hf.d.s;omega)
 have q2:=xP z.Desk.Account.Entries (by have:=hf.d.e;omega)
 have q3:=oy z.Desk.Queue.Waiting (by have:=hf.d.q.w;omega)
 have q4:=oF z.Desk.Queue.Known (by have:=hf.d.q.k;omega)
 have q6:=xz z.Desk.Items (by have:=hf.d.i;omega)
 have q7:=xM z.Cash.Claims (by have:=hf.c.fc;omega)
 have q8:=xI z.Cash.Incomes (by have:=hf.c.fi;omega)
 have q9:=xN z.Cash.Matches (by have:=hf.c.fm;omega)
 have qa:=oF z.Cash.Loose (by have:=hf.c.fl;omega)
 have qb:=Hb z.Register (by have:=hf.r.slen;omega) (by have:=hf.r.hl.len;have:=hf.rm;omega) (by have:=hf.rm;omega)
 have qc:=r7 z.Ledger.Postings (by have:=hf.l;omega)
 have i1:=eU z.Desk.Account.Subs
 have i2:=fj z.Desk.Account.Entries
 have i3:=aV z.Desk.Queue.Waiting
 have i4:Imm (.list 1 (ac aJ z.Desk.Queue.Known)):=aC _ Int.imm _
 have i6:=fK z.Desk.Items
 have i7:=gA z.Cash.Claims
 have i8:=ij z.Cash.Incomes
 have i9:=dF z.Cash.Matches
 have ia:Imm (.list 1 (ac aJ z.Cash.Loose)):=aC _ Int.imm _
 have ib:=fW z.Register
 have ic:=eE z.Ledger.Postings
 have ist:=gz z
 rw[ga]at qb ib
 rw[fI]at ist⊢
 refine ae Tryz.func16 rfl (by simp[Tryz.f16]) (by kernel_rfl) ?_
 intro E hP hr hs hW hN
 simp -dsimp -implicitDefEqProofs [-getElem?_pos,go_sem,hP]
 refine au (fun _=>true) [14,17] hP (by kernel_rfl) (by kernel_rfl) ?_
 simp -dsimp -implicitDefEqProofs [-getElem?_pos,go_sem,hP]
 refine ak (q1.lift _ _) hP Pe (by simpa using i1) i1 ?_
 simp -dsimp -implicitDefEqProofs [-getElem?_pos,go_sem,hP]
 refine ak (q2.lift _ _) hP KY (by simpa using i2) i2 ?_
 simp -dsimp -implicitDefEqProofs [-getElem?_pos,go_sem,hP]
 refine au (fun _=>true) [14,17] hP (by kernel_rfl) (by kernel_rfl) ?_
 simp -dsimp -implicitDefEqProofs [-getElem?_pos,go_sem,hP]
 refine ak (q3.lift _ _) hP sL (by simpa using i3) i3 ?_
 simp -dsimp -implicitDefEqProofs [-getElem?_pos,go_sem,hP]
 refine ak (q4.lift _ _) hP zm (by simpa using i4) i4 ?_
 simp -dsimp -implicitDefEqProofs [-getElem?_pos,go_sem,hP]
 refine oR (o:=0) (ty:=50) (k:=15) (cs:=[iv z.Desk.Account.Credit,cj z.Desk.Account.Subs,b9 z.Desk.Account.Entries,aT z.Desk.Queue.Waiting,.list 1 (ac aJ z.Desk.Queue.Known),.nil,dt z.Desk.Items,bM z.Cash.Claims,bk z.Cash.Incomes,aU z.Cash.Matches,.list 1 (ac aJ z.Cash.Loose),bf z.Register.Securities,cM z.Register.Holdings,cF z.Register.Moves,dy z.Ledger.Postings]) 5 111 3 (by simp) (by decide) (by simp) rfl ?_
 obtain⟨bs,hbs⟩:∃bs,bs=z.Desk.Queue.Batches:=⟨_,rfl⟩
 have hbl:=hf.d.q.b
 have hbe:=hf.d.q.each
 rw[←hbs]at hbl hbe⊢
 obtain⟨I,hI⟩:∃I:Nat→St→Prop,I=fun m s=>∃k id:Nat,k≤bs.length∧m=bs.length-k∧2≤id∧s.t 1= .ref 0 0 0∧s.t 2= .ref 1 0 0∧s.t 4= .ref 0 0 3∧s.t 52=bY bs∧s.t 53=iv bs.length∧s.t 54=iv k∧s.H[0]?=some (some ⟨50,15,[[iv z.Desk.Account.Credit,cj z.Desk.Account.Subs,b9 z.Desk.Account.Entries,aT z.Desk.Queue.Waiting,.list 1 (ac aJ z.Desk.Queue.Known),.sref id 0 k,dt z.Desk.Items,bM z.Cash.Claims,bk z.Cash.Incomes,aU z.Cash.Matches,.list 1 (ac aJ z.Cash.Loose),bf z.Register.Securities,cM z.Register.Holdings,cF z.Register.Moves,dy z.Ledger.Postings]]⟩)∧s.H[1]?=some (some ⟨50,15,[[iv 0,.nil,.nil,.nil,.nil,.nil,.nil,.nil,.nil,.nil,.nil,.nil,.nil,.nil,.nil]]⟩)∧s.H[id]?=some (some ⟨111,3,ac TBatch.cells (bs.take k)⟩):=⟨_,rfl⟩
 refine aF I (bs.length) (by rw[hN];rfl) ?_ ?_
 ·rw[hI]
  refine⟨0,2,by omega,by omega,by omega,by simp -dsimp[-getElem?_pos,go_sem],by simp -dsimp[-getElem?_pos,go_sem],by simp -dsimp[-getElem?_pos,go_sem],by simp -dsimp[-getElem?_pos,go_sem],by simp -dsimp[-getElem?_pos,go_sem],by simp -dsimp[-getElem?_pos,go_sem],?_,by simp -dsimp[-getElem?_pos,go_sem],by simp -dsimp[-getElem?_pos,go_sem,ac]⟩
  simp -dsimp -implicitDefEqProofs [-getElem?_pos,go_sem]
 intro m s hs'
 rw[hI]at hs'
 obtain⟨k,id,hk,hm,hid,t1,t2,t4,t52,t53,t54,g0,g1,gi⟩:=hs'
 have l0:=(gsI g0)
 have l1:=(gsI g1)
 have li:=(gsI gi)
 simp -dsimp -implicitDefEqProofs [-getElem?_pos,go_sem,hP,t53,t54]
 refine aH (fun hq=>?_) (fun hq=>?_)
 ·have hk:k<bs.length:=by simpa using hq
  obtain⟨b,hb⟩:∃b,bs[k]?=some b:=⟨_,List.getElem?_eq_getElem hk⟩
  have wk:=ah ((k:Int)+1) (by omega)
  have hbp:=hbe b (List.mem_of_getElem? hb)
  have qp:=oy b.Payments (by omega)
  have ip:=aV b.Payments
  have e1:bs.take (k+1)=bs.take k++[b]:=by rw[List.take_add_one,hb];rfl
  have hcb:b.cells=[iv b.Number,iv b.Day,aT b.Payments]:=rfl
  have tl:(bs.take k).length=k:=by simp;omega
  obtain⟨bt,hbt⟩:∃bt,bt=bs.take k:=⟨_,rfl⟩
  rw[←hbt]at gi e1 tl
  simp -dsimp -implicitDefEqProofs [-getElem?_pos,go_sem,hP,t52,t54,hb,hcb]
  obtain⟨N,hN0⟩:∃N,N=s.H.length:=⟨_,rfl⟩
  obtain⟨H1,hH1⟩:∃H1:ab,H1=s.H++[some ⟨111,3,[[iv b.Number,iv b.Day,aT b.Payments]]⟩]:=⟨_,rfl⟩
  have k1:Kept [] s.H H1:=by rw[hH1];exact az _ (ai _ _)
  have gN:H1[N]?=some (some ⟨111,3,[[iv b.Number,iv b.Day,aT b.Payments]]⟩):=by rw[hH1,hN0];simp
  have sN:H1.set N (some ⟨111,3,[[iv b.Number,iv b.Day,aT b.Payments]]⟩)=H1:=yC gN
  have g0:=k1 _ _ (by simp) g0
  have g1:=k1 _ _ (by simp) g1
  have gi:=k1 _ _ (by simp) gi
  have lN:=(gsI gN)
  have l0':=(gsI g0)
  have l1':=(gsI g1)
  rw[←hH1,←hN0]
  clear hH1 k1
  refine ak (qp.lift _ _) hP sL (by simpa using ip) ip ?_
  have i0:¬id=0:=by omega
  have i1:¬id=1:=by omega
  have hp2:(H1.set id none)[0]?=some (some ⟨50,15,[[iv z.Desk.Account.Credit,cj z.Desk.Account.Subs,b9 z.Desk.Account.Entries,aT z.Desk.Queue.Waiting,.list 1 (ac aJ z.Desk.Queue.Known),.sref id 0 k,dt z.Desk.Items,bM z.Cash.Claims,bk z.Cash.Incomes,aU z.Cash.Matches,.list 1 (ac aJ z.Cash.Loose),bf z.Register.Securities,cM z.Register.Holdings,cF z.Register.Moves,dy z.Ledger.Postings]]⟩):=by rw[List.getElem?_set_ne i0];exact g0
  have hp3:∀x:Option AObj,(H1.set id none++[x])[0]?=some (some ⟨50,15,[[iv z.Desk.Account.Credit,cj z.Desk.Account.Subs,b9 z.Desk.Account.Entries,aT z.Desk.Queue.Waiting,.list 1 (ac aJ z.Desk.Queue.Known),.sref id 0 k,dt z.Desk.Items,bM z.Cash.Claims,bk z.Cash.Incomes,aU z.Cash.Matches,.list 1 (ac aJ z.Cash.Loose),bf z.Register.Securities,cM z.Register.Holdings,cF z.Register.Moves,dy z.Ledger.Postings]]⟩):=fun x=>by rw[List.getElem?_append_left (by simpa using l0')];exact hp2
  simp -dsimp -implicitDefEqProofs [-getElem?_pos,go_sem,hP,gN,lN,sN]
  refine au (fun _=>true) [7,10] hP (by kernel_rfl) (by kernel_rfl) ?_
  simp -dsimp -implicitDefEqProofs [-getElem?_pos,go_sem,hP,t4,g0,l0',gN,lN,gi,tl,af]
  refine⟨by omega,by omega,?_⟩
  simp -dsimp -implicitDefEqProofs [-getElem?_pos,go_sem,hP,hp2,hp3,l0',t4,t54,wk]
  refine⟨bs.length-(k+1),by omega,?_⟩
  rw[hI]
  refine⟨k+1,H1.length,by omega,rfl,by omega,by simp -dsimp[-getElem?_pos,go_sem,t1],by simp -dsimp[-getElem?_pos,go_sem,t2],by simp -dsimp[-getElem?_pos,go_sem,t4],by simp -dsimp[-getElem?_pos,go_sem,t52],by simp -dsimp[-getElem?_pos,go_sem,t53],by simp -dsimp[-getElem?_pos,go_sem],?_,?_,?_⟩
  ·simp -dsimp -implicitDefEqProofs [-getElem?_pos,go_sem,l0']
  ·dsimp only
   first
    |rw[List.getElem?_set_ne (by omega),List.getElem?_append_left (by simpa using l1'),List.getElem?_set_ne (by omega)]
    |rw[List.getElem?_append_left (by simpa using l1'),List.getElem?_set_ne (by omega),List.getElem?_set_ne (by omega)]
   exact g1
  ·rw[e1,←cJ]
   simp -dsimp -implicitDefEqProofs [-getElem?_pos,go_sem,l0',hcb]
 ·have hk:k=bs.length:=by simp at hq;omega
  subst hk
  rw[List.take_length]at gi
  obtain⟨nb,hnb⟩:∃nb,nb=bs.length:=⟨_,rfl⟩
  rw[←hnb]at g0
  have n10:¬(1:Nat)=0:=by omega
  have ibs:=di bs
  simp -dsimp -implicitDefEqProofs [-getElem?_pos,go_sem,hP,t1,g0,l0]
  refine ak (q6.lift _ _) hP O9 (by simpa using i6) i6 ?_
  have s0:s.H.set 0 (some ⟨50,15,[[iv z.Desk.Account.Credit,cj z.Desk.Account.Subs,b9 z.Desk.Account.Entries,aT z.Desk.Queue.Waiting,.list 1 (ac aJ z.Desk.Queue.Known),.sref id 0 nb,dt z.Desk.Items,bM z.Cash.Claims,bk z.Cash.Incomes,aU z.Cash.Matches,.list 1 (ac aJ z.Cash.Loose),bf z.Register.Securities,cM z.Register.Holdings,cF z.Register.Moves,dy z.Ledger.Postings]]⟩)=s.H:=yC g0
  simp -dsimp -implicitDefEqProofs [-getElem?_pos,go_sem,hP,t1,g0,l0,s0]
  refine au (fun _=>true) [26,29,32,35] hP (by kernel_rfl) (by kernel_rfl) ?_
  simp -dsimp -implicitDefEqProofs [-getElem?_pos,go_sem,hP,g0,l0,s0]
  refine ak (q7.lift _ _) hP OX (by simpa using i7) i7 ?_
  simp -dsimp -implicitDefEqProofs [-getElem?_pos,go_sem,hP,g0,l0,s0]
  refine ak (q8.lift _ _) hP OQ (by simpa using i8) i8 ?_
  simp -dsimp -implicitDefEqProofs [-getElem?_pos,go_sem,hP,g0,l0,s0]
  refine ak (q9.lift _ _) hP Kr (by simpa using i9) i9 ?_
  simp -dsimp -implicitDefEqProofs [-getElem?_pos,go_sem,hP,g0,l0,s0]
  refine ak (qa.lift _ _) hP zm (by simpa using ia) ia ?_
  simp -dsimp -implicitDefEqProofs [-getElem?_pos,go_sem,hP,g0,l0,s0,t1]
  refine au (fun _=>true) [8,11] hP (by kernel_rfl) (by kernel_rfl) ?_
  simp -dsimp -implicitDefEqProofs [-getElem?_pos,go_sem,hP,g0,l0,s0,t1]
  refine ak (qb.lift _ _) hP OD (by simpa using ib) ib ?_
  simp -dsimp -implicitDefEqProofs [-getElem?_pos,go_sem,hP,g0,l0,s0,t1]
  refine ak (qc.lift _ _) hP Pg (by simpa using ic) ic ?_
  simp -dsimp -implicitDefEqProofs [-getElem?_pos,go_sem,hP,g0,l0,s0,t1,t2,g1,l1]
  have gi1:∀y:Option AObj,(s.H.set 1 y)[id]?=some (some ⟨111,3,ac TBatch.cells bs⟩):=fun y=>by rw[List.getElem?_set_ne (by omega)];exact gi
  have ibs':Imm (.list 3 (ac TBatch.cells bs)):=ibs
  have lbs:(ac TBatch.cells bs).take nb=ac TBatch.cells bs:=List.take_of_length_le (by rw[af];omega)
  rw[←hbs]at ist
  refine N0 ist rfl ?_
  simp -dsimp -implicitDefEqProofs [-getElem?_pos,go_sem,gi1,lbs]
open Go.PA
open Go.RowKit
theorem N8 {d:TDesk} (h:DOk d):FitD d:=by
 have c:=rV h.a
 have hk:=congrArg List.length h.k
 have:=h.q.lk
 have:=h.q.lw
 have:=h.q.lb
 rw[List.length_map]at hk
 exact⟨c.1,c.2,⟨by omega,by omega,by omega,fun b hb=>by have:=(fY h.q.bats b hb).2.1;omega⟩,by omega⟩
theorem DM {r:TRegister} {m:TMove} (h:RegOk r (dR r)) (hm:oX r m=0) (hn:m.Number=(r.Moves.length:Int)+1) (hk:1≤m.Kind∧m.Kind≤3) (hl:r.Moves.length<400):RegOk (jt r m) (dR (jt r m)):=by
 have e:dR (jt r m)=m.Day:=by simp[dR,jt]
 rw[e]
 exact⟨h.secs,h.slen,by
  have:=Runs.snoc h.run (m:=m) ⟨hn,hk,hm⟩
  unfold jt
  simp only[sC]at this
  simpa using this,by unfold jt;simp;omega⟩
structure Kp (j:Nat) (s t:TState):Prop where
 f:FitS j t
 e:s.Desk.Account.Entries.length≤t.Desk.Account.Entries.length
theorem wX {j:Nat} {s:TState} {day f t n:Int} (hf:FitS j s) (h:(kN s day f t n).2=0):Kp j s (kN s day f t n).1:=by
 unfold kN at h⊢
 split at h
 ·rename_i hp
  rw[if_pos hp]
  have c:=rV (jH hp)
  have e:=jl hp
  obtain⟨h1,h2,h3,h4,h5,h6⟩:=hf
  refine⟨⟨⟨c.1,c.2,h1.q,h1.i⟩,h2,h3,h4,h5,h6⟩,?_⟩
  show _≤(bL s.Desk.Account (dk s.Desk.Account day f t n 0)).1.Entries.length
  rw[e]
  simp
 ·rename_i hp
  exact absurd h hp
theorem mP {j:Nat} {s:TState} {d:TDesk} {e:Int} (hf:FitS j s) (h:(fM s d e).2=0) (hd:e=0→DOk d∧s.Desk.Account.Entries.length≤d.Account.Entries.length):Kp j s (fM s d e).1:=by
 unfold fM at h⊢
 split at h
 ·rename_i he
  rw[if_pos he]
  obtain⟨h1,h2⟩:=hd he
  exact⟨⟨N8 h1,hf.c,hf.cl,hf.r,hf.rm,hf.l⟩,h2⟩
 ·rename_i he
  exact absurd h he
theorem FitS.mono {j k:Nat} {s:TState} (h:FitS j s) (hk:j≤k):FitS k s:=⟨h.d,h.c,h.cl,h.r,Nat.le_trans h.rm hk,h.l⟩
theorem zh (p:Int):eO [] p=[]:=List.eq_nil_iff_forall_not_mem.2 fun k hk=>by
 obtain⟨x,hx,_⟩:=nX.1 hk
 simp at hx
theorem DV {c:TCash} {x:TIncome} (h:c.Claims=[]):iz c x=⟨[],c.Incomes++[x],c.Matches,c.Loose++[x.Amount]⟩:=by
 have e:∀p n,eZ [] p n=[]:=fun p n=>by simp[eZ,zh,only]
 have pa:mw [] x.Claim=none:=rfl
 unfold iz
 simp only[h,pa,e,zh,meets,List.foldl_nil,ite_self]
theorem Iz {c:TCash} {x:TIncome} (hf:FitC c) (hc:c.Claims=[]) (h:(iD c x).2.2=0):FitC (iD c x).1∧(iD c x).1.Claims=[]:=by
 unfold iD at h⊢
 by_cases h1:j6 c=0
 rotate_left
 ·rw[if_neg h1]at h
  exact absurd h h1
 rw[if_pos h1]at h⊢
 by_cases h2:iJ x=true
 rotate_left
 ·rw[if_neg h2]at h
  simp at h
 rw[if_pos h2]at h⊢
 by_cases h3:oJ c<x.Number
 rotate_left
 ·rw[if_neg h3]at h
  simp at h
 rw[if_pos h3]at h⊢
 by_cases h4:oS c≤x.Day
 rotate_left
 ·rw[if_neg h4]at h
  simp at h
 rw[if_pos h4]at h⊢
 by_cases h5:c.Incomes.length<100
 rotate_left
 ·rw[if_neg h5]at h
  simp at h
 rw[if_pos h5]at h⊢
 by_cases h6:(iz c x).Matches.length≤160
 rotate_left
 ·rw[if_neg h6]at h
  simp at h
 rw[if_pos h6]
 have hl:=hf.fl
 dsimp only
 rw[DV hc]at h6⊢
 exact⟨⟨by simp,by simp;omega,by dsimp only at h6⊢;omega,by simp;have:=(gW.1 h1).2.len;omega,by simp⟩,rfl⟩
theorem DG {j:Nat} {s:TState} {d:TDeed} (hf:FitS j s) (h:(ff s d).2=0):Kp j s (ff s d).1:=by
 unfold ff at h⊢
 split at h
 ·simp at h
 ·rename_i h1
  rw[if_neg h1]
  split at h
  ·rename_i h2
   rw[if_pos h2]
   obtain⟨c1,c2⟩:=Iz hf.c hf.cl h2
   have k:=wX (j:=j) (s:=⟨s.Desk,(iD s.Cash (Bq s d)).1,s.Register,s.Ledger⟩) ⟨hf.d,c1,c2,hf.r,hf.rm,hf.l⟩ h
   exact⟨k.f,k.e⟩
  ·rename_i h2
   exact absurd h h2
theorem BG {j:Nat} {s:TState} {day kind ref f0 t0 n f t n1:Int} (hf:FitS j s) (hj:j<400) (hk:1≤kind∧kind≤3) (h:(my s (EL s.Register day kind ref f0 t0 n) (oX s.Register (EL s.Register day kind ref f0 t0 n)) f t n1).2=0):Kp (j+1) s (my s (EL s.Register day kind ref f0 t0 n) (oX s.Register (EL s.Register day kind ref f0 t0 n)) f t n1).1:=by
 unfold my at h⊢
 split at h
 ·rename_i he
  rw[if_pos he]
  have hm:=hf.rm
  have r2:=DM hf.r he rfl hk (by omega)
  have k:=wX (j:=j+1) (s:=⟨s.Desk,s.Cash,jt s.Register (EL s.Register day kind ref f0 t0 n),s.Ledger⟩) ⟨hf.d,hf.c,hf.cl,r2,by simp[jt];omega,hf.l⟩ h
  exact⟨k.f,k.e⟩
 ·rename_i he
  exact absurd h he
theorem JS {j:Nat} {s:TState} {d:TDeed} (hf:FitS j s) (hj:j<400) (h:(doK s d).2=0):Kp (j+1) s (doK s d).1:=by
 have up:∀{t:TState},Kp j s t→Kp (j+1) s t:=fun k=>⟨k.f.mono (by omega),k.e⟩
 unfold doK at h⊢
 split at h
 ·rename_i c1
  rw[if_pos c1]
  exact up (DG hf h)
 rename_i c1
 rw[if_neg c1]
 split at h
 ·rename_i c2
  rw[if_pos c2]
  refine up (mP hf h fun he=>?_)
  have:=I5 (show dK s.Desk (zI d)=((dK s.Desk (zI d)).1,0)from Prod.ext rfl he)
  refine⟨this.2.2.2.2,?_⟩
  rw[this.2.2.2.1]
  exact Nat.le_refl _
 rename_i c2
 rw[if_neg c2]
 split at h
 ·rename_i c3
  rw[if_pos c3]
  refine up (mP hf h fun he=>?_)
  have:=Mv (show eh s.Desk d.Day=((eh s.Desk d.Day).1,(eh s.Desk d.Day).2.1,0)from Prod.ext rfl (Prod.ext rfl he))
  obtain⟨_,_,_,_,ps,a,_,_,_,_,_,hs,_,hx,hd⟩:=this
  refine⟨hd,?_⟩
  obtain⟨es,he2,_⟩:=hs.ents
  rw[hx]
  show _≤a.Entries.length
  rw[he2]
  simp
 rename_i c3
 rw[if_neg c3]
 split at h
 ·rename_i c4
  rw[if_pos c4]
  refine up (mP hf h fun he=>?_)
  obtain⟨_,⟨k,y,_,_,_,hx⟩,hd⟩:=DZ (show fA s.Desk d.Ref=((fA s.Desk d.Ref).1,0)from Prod.ext rfl he)
  refine⟨hd,?_⟩
  rw[hx]
  exact Nat.le_refl _
 rename_i c4
 rw[if_neg c4]
 split at h
 ·rename_i c5
  rw[if_pos c5]
  refine up (mP hf h fun he=>?_)
  obtain⟨_,⟨k,y,_,_,_,hp,hx⟩,hd⟩:=EQ (show fw s.Desk d.Ref d.Day=((fw s.Desk d.Ref d.Day).1,0)from Prod.ext rfl he)
  refine⟨hd,?_⟩
  rw[hx]
  show _≤(bL s.Desk.Account _).1.Entries.length
  rw[jl hp]
  simp
 rename_i c5
 rw[if_neg c5]
 split at h
 ·rename_i c6
  rw[if_pos c6]
  refine up (mP hf h fun he=>?_)
  obtain⟨_,⟨k,y,_,_,_,hx⟩,hd⟩:=E2 (show fp s.Desk d.Ref=((fp s.Desk d.Ref).1,0)from Prod.ext rfl he)
  refine⟨hd,?_⟩
  rw[hx]
  exact Nat.le_refl _
 rename_i c6
 rw[if_neg c6]
 split at h
 ·rename_i c7
  rw[if_pos c7]
  exact BG hf hj (by omega) h
 rename_i c7
 rw[if_neg c7]
 split at h
 ·rename_i c8
  rw[if_pos c8]
  exact BG hf hj (by omega) h
 rename_i c8
 rw[if_neg c8]
 split at h
 ·rename_i c9
  rw[if_pos c9]
  split at h
  ·simp at h
  ·rename_i c0
   rw[if_neg c0]
   exact up (wX hf h)
 ·simp at h
def doS (s:TState) (d:TDeed):TState×Int:=
 if (doK s d).2=0 then (if (sM (doK s d).1 s.Desk.Account.Entries.length).2=0 then ((sM (doK s d).1 s.Desk.Account.Entries.length).1,0)else (pr,(sM (doK s d).1 s.Desk.Account.Entries.length).2))else (pr,(doK s d).2)
theorem wB:∀(l L:List TPosting),L.length≤400→(j9 L l).1.length≤400
 |[],L,h=>h
 |p::l,L,h=>by
  rw[j9]
  split
  ·rename_i hp
   exact wB l _ (yW hp)
  ·exact h
theorem GA {j:Nat} {s:TState} {d:TDeed} (hf:FitS j s) (hj:j<400) (h:(doS s d).2=0):FitS (j+1) (doS s d).1:=by
 unfold doS at h⊢
 split at h
 ·rename_i h1
  rw[if_pos h1]
  have k:=JS hf hj h1
  split at h
  ·rename_i h2
   rw[if_pos h2]
   obtain⟨f1,f2,f3,f4,f5,f6⟩:=k.f
   exact⟨f1,f2,f3,f4,f5,wB _ _ f6⟩
  ·rename_i h2
   exact absurd h h2
 ·rename_i h1
  exact absurd h h1
open Go.PA
open Go.RowKit
theorem Db {H:ab}:CW H [iv 0,.nil,.nil,.nil,.nil,.nil,.nil,.nil,.nil,.nil,.nil,.nil,.nil,.nil,.nil] pr.cells:=
 pR (bK (bK (bK (bK (bK (bK (bK (bK (bK (bK (bK (bK (bK (bK .nil))))))))))))))
set_option maxHeartbeats 4000000 in
theorem La {s:TState} {d:TDeed} {j:Nat} (hf:FitS j s) (hj:j<399):PFun Tryz.prog none none 12 [.agg s.cells,.agg d.cells] (·= .tup [.agg (doS s d).1.cells,iv (doS s d).2]):=by
 have cc:=uG hf (by omega)
 have ist:=gz s
 have kp:=fun h=>JS (d:=d) hf (by omega) h
 obtain⟨R,hR⟩:∃R,R=doS s d:=⟨_,rfl⟩
 rw[←hR]
 rw[fI]at cc ist
 rw[fI s]
 refine ae Tryz.func12 rfl (by simp[Tryz.f12]) (by kernel_rfl) ?_
 intro E hP hr hs hW hN
 simp -dsimp -implicitDefEqProofs [-getElem?_pos,go_sem,hP,cK]
 refine au (fun _=>true) [5] hP (by kernel_rfl) (by kernel_rfl) ?_
 simp -dsimp -implicitDefEqProofs [-getElem?_pos,go_sem,hP]
 refine ak (cc.lift _ _) hP OR (by simpa using ist) ist ?_
 simp -dsimp -implicitDefEqProofs [-getElem?_pos,go_sem,hP]
 have cd:=fun (H:ab) (h:H[3]?=jv s d.Day)=>S2 (row:=E.row) (src:=E.src) d h hf (by omega)
 rw[cK]at cd
 refine ar (cd _ ?_) hP Sg ?_
 ·rfl
 rintro r H1 ⟨rfl,h1,k1⟩
 have g0:=k1 0 _ (by simp) rfl
 have g2:=k1 2 _ (by simp) rfl
 have l0:=(gsI g0)
 have l2:=(gsI g2)
 have l3:=(gsI h1)
 obtain⟨t,e,hK⟩:∃t e,doK s d=(t,e):=⟨_,_,rfl⟩
 rw[hK]at h1 kp⊢
 by_cases he:e=0
 rotate_left
 ·have de:decide (e=0)=false:=decide_eq_false he
  have hS:R=(pr,e):=by rw[hR,doS,hK,if_neg he]
  simp -dsimp -implicitDefEqProofs [-getElem?_pos,go_sem,hP,de,g2,l2]
  rw[hS]
  exact cZ (cs':=pr.cells) Db rfl
 subst he
 have kf:=kp rfl
 have cb:=fun (H:ab) (h:H[3]?=jv t d.Day)=>Nv (row:=E.row) (src:=E.src) h kf.f.d kf.f.l kf.e
 simp -dsimp -implicitDefEqProofs [-getElem?_pos,go_sem,hP,g0,l0,af]
 refine ar (cb _ h1) hP Rx ?_
 rintro r H2 ⟨rfl,h2,k2⟩
 have g2:=k2 2 _ (by simp) g2
 have l2:=(gsI g2)
 have l3:=(gsI h2)
 obtain⟨u,e,hB⟩:∃u e,sM t s.Desk.Account.Entries.length=(u,e):=⟨_,_,rfl⟩
 rw[hB]at h2⊢
 by_cases he:e=0
 rotate_left
 ·have de:decide (e=0)=false:=decide_eq_false he
  have hS:R=(pr,e):=by rw[hR,doS,hK,if_pos rfl,hB,if_neg he]
  simp -dsimp -implicitDefEqProofs [-getElem?_pos,go_sem,hP,de,g2,l2]
  rw[hS]
  exact cZ (cs':=pr.cells) Db rfl
 subst he
 have hS:R=(u,0):=by rw[hR,doS,hK,if_pos rfl,hB,if_pos rfl]
 have iu:=gz u
 rw[fI]at iu
 simp -dsimp -implicitDefEqProofs [-getElem?_pos,go_sem,hP,h2,l3,g2,l2]
 rw[hS,fI]
 exact aN (aE iu .sc) rfl
def be (i:Nat) (s:TState):List TDeed→TState×Nat×Int
 |[]=>(s,i,0)
 |d::l=>if (doS s d).2=0 then be (i+1) (doS s d).1 l else (s,i,(doS s d).2)
abbrev su (l:List TDeed):AV:= .list 7 (ac TDeed.cells l)
theorem fS (l:List TDeed):Imm (su l):=aC _ TDeed.imm _
theorem gK {cs:List AV} {v u:Value} (h:Imm (.agg cs)):Imm (.tup [.agg cs,.sc v,.sc u]):=Ap.2 fun a ha=>by
 simp at ha
 rcases ha with rfl|rfl|rfl
 ·exact h
 ·exact .sc
 ·exact .sc
set_option maxHeartbeats 4000000 in
theorem pP {s:TState} {l:List TDeed} {j:Nat} (hf:FitS j s) (hj:j+l.length<399) (hl:l.length≤200):PFun Tryz.prog none none 8 [.agg s.cells,su l] (·= .tup [.agg (be 0 s l).1.cells,iv (be 0 s l).2.1,iv (be 0 s l).2.2]):=by
 have cc:=uG hf (by omega)
 have ist:=gz s
 have il:=fS l
 obtain⟨s0,hs0⟩:∃s0,s0=s:=⟨_,rfl⟩
 rw[←hs0]at cc ist hf⊢
 rw[fI]at cc ist
 rw[fI s0]
 obtain⟨R,hR⟩:∃R,R=be 0 s0 l:=⟨_,rfl⟩
 rw[←hR]
 refine ae Tryz.func8 rfl (by simp[Tryz.f8]) (by kernel_rfl) ?_
 intro E hP hr hs hW hN
 simp -dsimp -implicitDefEqProofs [-getElem?_pos,go_sem,hP]
 refine ak (cc.lift _ _) hP OR (by simpa using ist) ist ?_
 have d2:decide ((200:Int)<(l.length:Int))=false:=decide_eq_false (by omega)
 simp -dsimp -implicitDefEqProofs [-getElem?_pos,go_sem,hP,d2,af]
 obtain⟨I,hI⟩:∃I:Nat→St→Prop,I=fun m s=>∃(k:Nat) (x:TState),k≤l.length∧m=l.length-k∧be 0 s0 l=be k x (l.drop k)∧FitS (j+k) x∧s.t 1=su l∧s.t 2= .ref 0 0 0∧s.t 4= .ref 1 0 0∧s.t 17=su l∧s.t 18=iv l.length∧s.t 19=iv k∧s.H[0]?=some (some ⟨50,15,[[iv x.Desk.Account.Credit,cj x.Desk.Account.Subs,b9 x.Desk.Account.Entries,aT x.Desk.Queue.Waiting,.list 1 (ac aJ x.Desk.Queue.Known),bY x.Desk.Queue.Batches,dt x.Desk.Items,bM x.Cash.Claims,bk x.Cash.Incomes,aU x.Cash.Matches,.list 1 (ac aJ x.Cash.Loose),bf x.Register.Securities,cM x.Register.Holdings,cF x.Register.Moves,dy x.Ledger.Postings]]⟩)∧s.H[1]?=some (some ⟨50,15,[[iv 0,.nil,.nil,.nil,.nil,.nil,.nil,.nil,.nil,.nil,.nil,.nil,.nil,.nil,.nil]]⟩):=⟨_,rfl⟩
 refine aF I (l.length) (by rw[hN];rfl) ?_ ?_
 ·rw[hI]
  exact⟨0,s0,by omega,by omega,by simp,hf,by simp -dsimp[-getElem?_pos,go_sem],by simp -dsimp[-getElem?_pos,go_sem],by simp -dsimp[-getElem?_pos,go_sem],by simp -dsimp[-getElem?_pos,go_sem],by simp -dsimp[-getElem?_pos,go_sem],by simp -dsimp[-getElem?_pos,go_sem],by simp -dsimp[-getElem?_pos,go_sem],by simp -dsimp[-getElem?_pos,go_sem]⟩
 intro m s hs'
 rw[hI]at hs'
 obtain⟨k,x,hk,hm,hgo,hfx,t1,t2,t4,t17,t18,t19,g0,g1⟩:=hs'
 have l0:=(gsI g0)
 have l1:=(gsI g1)
 have ix:=gz x
 rw[fI]at ix
 simp -dsimp -implicitDefEqProofs [-getElem?_pos,go_sem,hP,t18,t19]
 refine aH (fun hq=>?_) (fun hq=>?_)
 ·have hk:k<l.length:=by simpa using hq
  obtain⟨d,hd⟩:∃d,l[k]?=some d:=⟨_,List.getElem?_eq_getElem hk⟩
  have wk:=ah ((k:Int)+1) (by omega)
  have hdr:l.drop k=d::l.drop (k+1):=by
   obtain⟨h2,h3⟩:=List.getElem?_eq_some_iff.1 hd
   rw[List.drop_eq_getElem_cons h2,h3]
  rw[hdr,be]at hgo
  have cd:=La (d:=d) hfx (by omega)
  have fx:=fun h=>GA (d:=d) hfx (by omega) h
  obtain⟨y,e,hy⟩:∃y e,doS x d=(y,e):=⟨_,_,rfl⟩
  rw[hy]at cd fx hgo
  have iy:=gz y
  have idd:=aO.2 d.imm
  rw[fI]at cd iy
  rw[fI,cK]at cd
  rw[cK]at idd
  simp -dsimp -implicitDefEqProofs [-getElem?_pos,go_sem,hP,t17,t19,hd,cK]
  have g0':∀Y:List (Option AObj),(s.H++Y)[0]?=some (some ⟨50,15,[[iv x.Desk.Account.Credit,cj x.Desk.Account.Subs,b9 x.Desk.Account.Entries,aT x.Desk.Queue.Waiting,.list 1 (ac aJ x.Desk.Queue.Known),bY x.Desk.Queue.Batches,dt x.Desk.Items,bM x.Cash.Claims,bk x.Cash.Incomes,aU x.Cash.Matches,.list 1 (ac aJ x.Cash.Loose),bf x.Register.Securities,cM x.Register.Holdings,cF x.Register.Moves,dy x.Ledger.Postings]]⟩):=fun Y=>by rw[List.getElem?_append_left l0];exact g0
  have g1':∀Y:List (Option AObj),(s.H++Y)[1]?=some (some ⟨50,15,[[iv 0,.nil,.nil,.nil,.nil,.nil,.nil,.nil,.nil,.nil,.nil,.nil,.nil,.nil,.nil]]⟩):=fun Y=>by rw[List.getElem?_append_left l1];exact g1
  have l00:0<s.H.length+1:=by omega
  simp -dsimp -implicitDefEqProofs [-getElem?_pos,go_sem,hP,t2,g0',l0,l00,t1]
  refine ak (cd.lift _ _) hP O4 (by simp[ix,idd]) (aE iy .sc) ?_
  by_cases he:e=0
  ·subst he
   rw[if_pos rfl]at hgo
   simp -dsimp -implicitDefEqProofs [-getElem?_pos,go_sem,hP,t2,g0',l0,l00,t19,wk]
   refine⟨l.length-(k+1),by omega,?_⟩
   rw[hI]
   refine⟨k+1,y,by omega,rfl,hgo,fx rfl,by simp -dsimp[-getElem?_pos,go_sem,t1],by simp -dsimp[-getElem?_pos,go_sem,t2],by simp -dsimp[-getElem?_pos,go_sem,t4],by simp -dsimp[-getElem?_pos,go_sem,t17],by simp -dsimp[-getElem?_pos,go_sem,t18],by simp -dsimp[-getElem?_pos,go_sem],?_,?_⟩
   ·simp -dsimp -implicitDefEqProofs [-getElem?_pos,go_sem,l0]
   ·dsimp only
    first
     |rw[List.getElem?_set_ne (by omega),List.getElem?_append_left (by simpa using l1)]
     |rw[List.getElem?_append_left (by simpa using l1),List.getElem?_set_ne (by omega)]
    exact g1
  ·rw[if_neg he]at hgo
   have de:decide (e=0)=false:=decide_eq_false he
   simp -dsimp -implicitDefEqProofs [-getElem?_pos,go_sem,hP,de,t2,t4,g0',l0,l00,g1',l1,t1,t19,List.getElem?_append_left]
   rw[hR,hgo,fI]
   exact aN (gK ix) rfl
 ·have hk:k=l.length:=by simp at hq;omega
  subst hk
  rw[List.drop_length,be]at hgo
  simp -dsimp -implicitDefEqProofs [-getElem?_pos,go_sem,hP,t2,t4,g0,l0,g1,l1,t1,af]
  rw[hR,hgo,fI]
  exact aN (gK ix) rfl
open Go.PA
open Go.RowKit
def RQ (lo hi:Int) (x:AV):Prop:=∃m:Int,x=iv m∧lo≤m∧m≤hi
theorem sU {lo hi:Int} (h:lo≤hi):∃r,RQ lo hi r∧Imm r:=⟨_,⟨lo,rfl,by omega,h⟩,.sc⟩
theorem Iu (p:Nat) (src:Option Nat) (lo hi:Int) (h1: -1000000000000000000≤lo∧lo≤hi) (h2:hi≤1000000000000000000):PFun Tryz.prog (some p) src 34 [sp p,iv lo,iv hi] (RQ lo hi):=
 (Kn p src lo hi (by omega) (by omega)).mono fun x h=>by
  obtain⟨m,rfl,h3,_⟩:=h
  exact⟨m,rfl,h3 h1.2⟩
def PQ (xs:List Int) (x:AV):Prop:=∃m:Int,x=iv m∧m∈xs
theorem oA {xs:List Int} (h:xs≠[]):∃r,PQ xs r∧Imm r:=by
 cases xs with
 |nil=>exact absurd rfl h
 |cons a l=>exact⟨_,⟨a,rfl,by simp⟩,.sc⟩
theorem Lr (p:Nat) (src:Option Nat) (xs:List Int) (h:1≤xs.length∧xs.length≤1000):PFun Tryz.prog (some p) src 35 [sp p,aI xs] (PQ xs):=Om p src xs h
open Go.PA
open Go.RowKit
structure GenP (p:TPayment):Prop where
 warrant:1≤p.Warrant∧p.Warrant≤12
 payee:1≤p.Payee∧p.Payee≤5
 amount:1≤p.Amount∧p.Amount≤100
 due:0≤p.Due∧p.Due<20
 sub:1≤p.Sub∧p.Sub≤7
theorem GenP.ok {p:TPayment} (h:GenP p):PayOk p:=⟨by have:=h.warrant;omega,by have:=h.payee;omega,by have:=h.amount;omega,by have:=h.due;omega,by have:=h.sub;omega⟩
def r9 (d:Int):Int:=if d%7=5 then d+2 else if d%7=6 then d+1 else d
theorem Gr (d:Int):d≤r9 d∧r9 d≤d+2:=by
 unfold r9
 repeat' split
 all_goals omega
theorem DE (d:Int) (h:0≤d∧d≤30000):PFun Tryz.prog none none 36 [iv d] (·=iv (r9 d)):=by
 refine ae Tryz.func36 rfl (by simp[Tryz.f36]) (by kernel_rfl) ?_
 intro E hP hr hs hW hN
 simp -dsimp -implicitDefEqProofs [-getElem?_pos,go_sem,hP]
 obtain⟨I,hI⟩:∃I:Nat→St→Prop,I=fun m s=>∃x:Int,d≤x∧r9 d=r9 x∧((m:Nat):Int)+x=d+3∧s.t 0=iv x:=⟨_,rfl⟩
 refine aF I (3) (by rw[hN];rfl) ?_ ?_
 ·rw[hI]
  exact⟨d,by omega,rfl,by omega,by simp -dsimp[-getElem?_pos,go_sem]⟩
 intro m s hs'
 rw[hI]at hs'
 obtain⟨x,hx,hb,hm,t0⟩:=hs'
 have e:x.tmod 7=x%7:=Int.tmod_eq_emod_of_nonneg (by omega)
 have w:=ah (x%7) (by omega)
 have w1:=ah (x+1) (by omega)
 by_cases c:4<x%7
 ·have d1:decide (4<x%7)=true:=decide_eq_true c
  have:=Gr x
  have:=Gr d
  have hne:r9 x≠x:=by
   unfold r9
   repeat' split
   all_goals omega
  have hb':r9 x=r9 (x+1):=by
   unfold r9
   repeat' split
   all_goals omega
  simp -dsimp -implicitDefEqProofs [-getElem?_pos,go_sem,hP,t0,e,w,d1,w1]
  refine⟨m-1,by omega,?_⟩
  rw[hI]
  exact⟨x+1,by omega,hb.trans hb',by omega,by simp -dsimp[-getElem?_pos,go_sem]⟩
 ·have d1:decide (4<x%7)=false:=decide_eq_false c
  have hb':r9 x=x:=by
   unfold r9
   repeat' split
   all_goals omega
  simp -dsimp -implicitDefEqProofs [-getElem?_pos,go_sem,hP,t0,e,w,d1]
  rw[hb,hb']
structure StepB (q:TQueue) (day:Int) (x:TQueue) (d:Int):Prop where
 ok:QOk x
 kn:∀w,w∈q.Known→w∈x.Known
 len:x.Batches.length≤q.Batches.length+1
 day:day≤d∧d≤day+6
theorem StepB.same {q:TQueue} (h:QOk q) (day:Int):StepB q day q day:=⟨h,fun _ h=>h,by omega,by omega⟩
theorem StepB.add {q x:TQueue} {p:TPayment} (day:Int) (h:gp q p=(x,0)):StepB q day x day:=by
 obtain⟨_,_,_,_,_,rfl,h7⟩:=F8 h
 exact⟨h7,fun w hw=>gL.2 (.inr hw),by simp,by omega⟩
theorem StepB.again {q x:TQueue} {p:TPayment} (day:Int) (h:Ed q p=(x,0)):StepB q day x day:=by
 obtain⟨_,_,_,_,_,rfl,h7⟩:=HO h
 exact⟨h7,fun w hw=>hw,by simp,by omega⟩
theorem StepB.drop {q x:TQueue} {w:Int} (day:Int) (h:gY q w=(x,0)):StepB q day x day:=by
 obtain⟨_,_,rfl,h7⟩:=Bc h
 exact⟨h7,fun w hw=>hw,by simp,by omega⟩
theorem StepB.take {q x:TQueue} {b:TBatch} {day d:Int} {ws:List Int} (hd:day≤d∧d≤day+6) (h:cC q d ws=(x,b,0)):StepB q day x d:=by
 obtain⟨_,_,_,_,_,_,rfl,_,h7⟩:=DD h
 exact⟨h7,fun w hw=>hw,by simp,hd⟩
open Go.PA
open Go.RowKit
def yJ:List TSecurity:=[⟨1,100,0,7200,5000,6,false⟩,⟨2,100,90,450,0,0,false⟩]
theorem K1 (p:Nat) (src:Option Nat):PFun Tryz.prog (some p) src 6 [sp p] (·=bf yJ):=by
 refine ae Tryz.func6 rfl (by simp[Tryz.f6]) (by kernel_rfl) ?_
 intro E hP hr hs hW hN
 simp -dsimp -implicitDefEqProofs [-getElem?_pos,go_sem,hP]
 exact aN (gX yJ) rfl
def OY (x:AV):Prop:=∃d:TDeed,x= .agg d.cells
theorem Ku:∃r,OY r∧Imm r:=⟨_,⟨⟨0,0,0,0,0,0,0⟩,rfl⟩,aO.2 (TDeed.imm _)⟩
set_option maxHeartbeats 4000000 in
theorem MK (p:Nat) (src:Option Nat) (day:Int) (hd:0≤day∧day≤30000):PFun Tryz.prog (some p) src 15 [sp p,iv day] OY:=by
 refine ae Tryz.func15 rfl (by simp[Tryz.f15]) (by kernel_rfl) ?_
 intro E hP hr hs hW hN
 have up:∀{f:FuncId} {args:List AV} {Q:AV→Prop},PFun Tryz.prog (some p) src f args Q→PFun Tryz.prog E.row E.src f args Q:=fun h=>hr▸hs▸h
 have fin:∀d:TDeed,Imm (.agg d.cells):=fun d=>aO.2 d.imm
 have am:BQ [iv day,iv 100]=some (iv (max day 100)):=by simp[BQ,gg]
 have RG:∀lo hi:Int, -1000000000000000000≤lo∧lo≤hi→hi≤1000000000000000000→PFun Tryz.prog E.row E.src 34 [sp p,iv lo,iv hi] (RQ lo hi):=fun lo hi h1 h2=>up (Iu p src lo hi h1 h2)
 have PK:∀xs:List Int,1≤xs.length∧xs.length≤1000→PFun Tryz.prog E.row E.src 35 [sp p,aI xs] (PQ xs):=fun xs h=>up (Lr p src xs h)
 simp -dsimp -implicitDefEqProofs [-getElem?_pos,go_sem,hP]
 refine aX (RG 1 8 (by omega) (by omega)) hP s7 (by simp -dsimp[-getElem?_pos,go_sem]) (sU (by omega)) ?_
 rintro r ⟨w,rfl,hw⟩ _
 simp -dsimp -implicitDefEqProofs [-getElem?_pos,go_sem,hP]
 refine aX (RG 1 9 (by omega) (by omega)) hP s7 (by simp -dsimp[-getElem?_pos,go_sem]) (sU (by omega)) ?_
 rintro r ⟨k,rfl,hk⟩ _
 by_cases c1:k=1
 ·subst c1
  simp -dsimp -implicitDefEqProofs [-getElem?_pos,go_sem,hP,am]
  refine aX (PK [2,3,7] (by simp)) hP oD (by simp -dsimp[-getElem?_pos,go_sem]) (oA (by simp)) ?_
  rintro r ⟨_,rfl,_⟩ _
  simp -dsimp -implicitDefEqProofs [-getElem?_pos,go_sem,hP]
  refine aX (RG 1 3 (by omega) (by omega)) hP s7 (by simp -dsimp[-getElem?_pos,go_sem]) (sU (by omega)) ?_
  rintro r ⟨_,rfl,_⟩ _
  simp -dsimp -implicitDefEqProofs [-getElem?_pos,go_sem,hP]
  refine aX (PK [0,0,4] (by simp)) hP oD (by simp -dsimp[-getElem?_pos,go_sem]) (oA (by simp)) ?_
  rintro r ⟨_,rfl,_⟩ _
  simp -dsimp -implicitDefEqProofs [-getElem?_pos,go_sem,hP]
  refine aX (PK [10,100,400] (by simp)) hP oD (by simp -dsimp[-getElem?_pos,go_sem]) (oA (by simp)) ?_
  rintro r ⟨_,rfl,_⟩ _
  simp -dsimp -implicitDefEqProofs [-getElem?_pos,go_sem,hP]
  exact aN (fin ⟨_,_,_,_,_,_,_⟩) ⟨⟨_,_,_,_,_,_,_⟩,rfl⟩
 have d1:decide (k=1)=false:=decide_eq_false c1
 by_cases c2:k=2
 ·subst c2
  simp -dsimp -implicitDefEqProofs [-getElem?_pos,go_sem,hP,am]
  refine aX (RG 1 4 (by omega) (by omega)) hP s7 (by simp -dsimp[-getElem?_pos,go_sem]) (sU (by omega)) ?_
  rintro r ⟨_,rfl,_⟩ _
  simp -dsimp -implicitDefEqProofs [-getElem?_pos,go_sem,hP]
  refine aX (PK [1,2,3,7] (by simp)) hP oD (by simp -dsimp[-getElem?_pos,go_sem]) (oA (by simp)) ?_
  rintro r ⟨_,rfl,_⟩ _
  simp -dsimp -implicitDefEqProofs [-getElem?_pos,go_sem,hP]
  refine aX (PK [5,30,90] (by simp)) hP oD (by simp -dsimp[-getElem?_pos,go_sem]) (oA (by simp)) ?_
  rintro r ⟨_,rfl,_⟩ _
  simp -dsimp -implicitDefEqProofs [-getElem?_pos,go_sem,hP]
  exact aN (fin ⟨_,_,_,_,_,_,_⟩) ⟨⟨_,_,_,_,_,_,_⟩,rfl⟩
 have d2:decide (k=2)=false:=decide_eq_false c2
 by_cases c3:k=3
 ·subst c3
  simp -dsimp -implicitDefEqProofs [-getElem?_pos,go_sem,hP,am]
  refine ak ((DE day hd).lift _ _) hP Ry (by simp -dsimp[-getElem?_pos,go_sem]) .sc ?_
  simp -dsimp -implicitDefEqProofs [-getElem?_pos,go_sem,hP]
  exact aN (fin ⟨_,_,_,_,_,_,_⟩) ⟨⟨_,_,_,_,_,_,_⟩,rfl⟩
 have d3:decide (k=3)=false:=decide_eq_false c3
 by_cases c4:k=4
 ·subst c4
  simp -dsimp -implicitDefEqProofs [-getElem?_pos,go_sem,hP,am]
  exact aN (fin ⟨_,_,_,_,_,_,_⟩) ⟨⟨_,_,_,_,_,_,_⟩,rfl⟩
 have d4:decide (k=4)=false:=decide_eq_false c4
 by_cases c5:k=5
 ·subst c5
  simp -dsimp -implicitDefEqProofs [-getElem?_pos,go_sem,hP,am]
  exact aN (fin ⟨_,_,_,_,_,_,_⟩) ⟨⟨_,_,_,_,_,_,_⟩,rfl⟩
 have d5:decide (k=5)=false:=decide_eq_false c5
 by_cases c6:k=6
 ·subst c6
  simp -dsimp -implicitDefEqProofs [-getElem?_pos,go_sem,hP,am]
  exact aN (fin ⟨_,_,_,_,_,_,_⟩) ⟨⟨_,_,_,_,_,_,_⟩,rfl⟩
 have d6:decide (k=6)=false:=decide_eq_false c6
 by_cases c7:k=7
 ·subst c7
  simp -dsimp -implicitDefEqProofs [-getElem?_pos,go_sem,hP,am]
  refine aX (RG 1 2 (by omega) (by omega)) hP s7 (by simp -dsimp[-getElem?_pos,go_sem]) (sU (by omega)) ?_
  rintro r ⟨_,rfl,_⟩ _
  simp -dsimp -implicitDefEqProofs [-getElem?_pos,go_sem,hP]
  refine aX (RG 1 3 (by omega) (by omega)) hP s7 (by simp -dsimp[-getElem?_pos,go_sem]) (sU (by omega)) ?_
  rintro r ⟨_,rfl,_⟩ _
  simp -dsimp -implicitDefEqProofs [-getElem?_pos,go_sem,hP]
  refine aX (PK [100,1000] (by simp)) hP oD (by simp -dsimp[-getElem?_pos,go_sem]) (oA (by simp)) ?_
  rintro r ⟨_,rfl,_⟩ _
  simp -dsimp -implicitDefEqProofs [-getElem?_pos,go_sem,hP]
  exact aN (fin ⟨_,_,_,_,_,_,_⟩) ⟨⟨_,_,_,_,_,_,_⟩,rfl⟩
 have d7:decide (k=7)=false:=decide_eq_false c7
 by_cases c8:k=8
 ·subst c8
  simp -dsimp -implicitDefEqProofs [-getElem?_pos,go_sem,hP,am]
  refine aX (RG 1 2 (by omega) (by omega)) hP s7 (by simp -dsimp[-getElem?_pos,go_sem]) (sU (by omega)) ?_
  rintro r ⟨_,rfl,_⟩ _
  simp -dsimp -implicitDefEqProofs [-getElem?_pos,go_sem,hP]
  refine aX (RG 1 3 (by omega) (by omega)) hP s7 (by simp -dsimp[-getElem?_pos,go_sem]) (sU (by omega)) ?_
  rintro r ⟨_,rfl,_⟩ _
  simp -dsimp -implicitDefEqProofs [-getElem?_pos,go_sem,hP]
  refine aX (PK [100,1000] (by simp)) hP oD (by simp -dsimp[-getElem?_pos,go_sem]) (oA (by simp)) ?_
  rintro r ⟨_,rfl,_⟩ _
  simp -dsimp -implicitDefEqProofs [-getElem?_pos,go_sem,hP]
  exact aN (fin ⟨_,_,_,_,_,_,_⟩) ⟨⟨_,_,_,_,_,_,_⟩,rfl⟩
 have d8:decide (k=8)=false:=decide_eq_false c8
 simp -dsimp -implicitDefEqProofs [-getElem?_pos,go_sem,hP,d1,d2,d3,d4,d5,d6,d7,d8]
 refine aX (PK [1,2,3] (by simp)) hP oD (by simp -dsimp[-getElem?_pos,go_sem]) (oA (by simp)) ?_
 rintro r ⟨_,rfl,_⟩ _
 simp -dsimp -implicitDefEqProofs [-getElem?_pos,go_sem,hP]
 refine aX (PK [1,2,7] (by simp)) hP oD (by simp -dsimp[-getElem?_pos,go_sem]) (oA (by simp)) ?_
 rintro r ⟨_,rfl,_⟩ _
 simp -dsimp -implicitDefEqProofs [-getElem?_pos,go_sem,hP]
 refine aX (PK [5,50] (by simp)) hP oD (by simp -dsimp[-getElem?_pos,go_sem]) (oA (by simp)) ?_
 rintro r ⟨_,rfl,_⟩ _
 simp -dsimp -implicitDefEqProofs [-getElem?_pos,go_sem,hP]
 exact aN (fin ⟨_,_,_,_,_,_,_⟩) ⟨⟨_,_,_,_,_,_,_⟩,rfl⟩
def MX (n:Nat) (x:AV):Prop:=∃l:List TDeed,x=su l∧l.length≤n
theorem HR (n:Nat):∃r,MX n r∧Imm r:=⟨_,⟨[],rfl,by simp⟩,fS []⟩
set_option maxHeartbeats 2000000 in
theorem HU (p:Nat) (src:Option Nat) (n:Nat) (hn:n≤100):PFun Tryz.prog (some p) src 7 [sp p,iv n] (MX n):=by
 refine ae Tryz.func7 rfl (by simp[Tryz.f7]) (by kernel_rfl) ?_
 intro E hP hr hs hW hN
 have up:∀{f:FuncId} {args:List AV} {Q:AV→Prop},PFun Tryz.prog (some p) src f args Q→PFun Tryz.prog E.row E.src f args Q:=fun h=>hr▸hs▸h
 have w1:=ah ((n:Int)+1) (by omega)
 simp -dsimp -implicitDefEqProofs [-getElem?_pos,go_sem,hP,w1]
 refine dA (up (GX p src ((n:Int)+1) (by omega))) hP Ib (an (by simp -dsimp[-getElem?_pos,go_sem])) (Re _) (NK _) ?_
 rintro r ⟨z,rfl,_,hz⟩
 have hz:=hz (by omega)
 obtain⟨c,rfl⟩:∃c:Nat,z=c:=⟨z.toNat,by omega⟩
 simp -dsimp -implicitDefEqProofs [-getElem?_pos,go_sem,hP]
 refine jh 5 64 7 (by simp -dsimp[-getElem?_pos,go_sem]) ?_
 obtain⟨I,hI⟩:∃I:Nat→St→Prop,I=fun m s=>∃(id:Nat) (l:List TDeed) (day:Int),m≤c∧l.length+m=c∧0≤day∧day≤100+3*l.length∧s.t 0=sp p∧s.t 5= .sref id 0 l.length∧s.t 6=iv day∧s.t 7=iv m∧s.H[id]?=some (some ⟨64,7,ac TDeed.cells l⟩):=⟨_,rfl⟩
 refine aF I (c) (by rw[hN];rfl) ?_ ?_
 ·rw[hI]
  exact⟨0,[],100,by omega,by simp,by omega,by simp,by simp -dsimp[-getElem?_pos,go_sem],by simp -dsimp[-getElem?_pos,go_sem],by simp -dsimp[-getElem?_pos,go_sem],by simp -dsimp[-getElem?_pos,go_sem],by simp -dsimp[-getElem?_pos,go_sem,ac]⟩
 intro m s hs'
 rw[hI]at hs'
 obtain⟨id,l,day,hk,hl,hd0,hd1,t0,t5,t6,t7,hH⟩:=hs'
 have ltH:=(gsI hH)
 simp -dsimp -implicitDefEqProofs [-getElem?_pos,go_sem,hP,t7]
 refine aH (fun h=>?_) (fun h=>?_)
 ·have hm:0<m:=by simpa using h
  have wm:=ah ((m:Int)-1) (by omega)
  simp -dsimp -implicitDefEqProofs [-getElem?_pos,go_sem,hP,t0,t6]
  refine aX (up (GX p src 3 (by omega))) hP Ib (by simp -dsimp[-getElem?_pos,go_sem]) ⟨_,⟨0,rfl,by omega,by omega⟩,.sc⟩ ?_
  rintro r ⟨z,rfl,_,a3⟩ _
  have a3:=a3 (by omega)
  have wd:=ah (day+z) (by omega)
  simp -dsimp -implicitDefEqProofs [-getElem?_pos,go_sem,hP,t5,t0,hH,wd]
  refine aX (up (MK p src (day+z) (by omega))) hP Sy (by simp -dsimp[-getElem?_pos,go_sem]) Ku ?_
  rintro r ⟨d,rfl⟩ _
  have im:=aO.2 d.imm
  rw[cK]at im
  simp -dsimp -implicitDefEqProofs [-getElem?_pos,go_sem,hP,t5,t0,hH,ltH,af,t7,wm,cK]
  refine⟨by omega,by omega,m-1,by omega,?_⟩
  rw[hI]
  refine⟨s.H.length,l++[d],day+z,by omega,by simp;omega,by omega,by simp;omega,by simp -dsimp[-getElem?_pos,go_sem,t0],by simp -dsimp[-getElem?_pos,go_sem],by simp -dsimp[-getElem?_pos,go_sem],?_,by simp -dsimp[-getElem?_pos,go_sem,ac,cK]⟩
  simp -dsimp -implicitDefEqProofs [-getElem?_pos,go_sem,hP]
  omega
 ·have hm:m=0:=by
   have:¬0<m:=by simpa using h
   omega
  simp -dsimp -implicitDefEqProofs [-getElem?_pos,go_sem,hP,t5]
  refine done (x:=su l) ?_ ⟨l,rfl,by omega⟩ ?_<;>rw[go,hH,fG]
  ·rw[List.drop_zero,List.take_of_length_le (by simp[ac])]
   exact fS l
  ·rw[List.drop_zero,List.take_of_length_le (by simp[ac])]
end Go.Proofs.YtmmpcldnpflchaaGreatDoor
