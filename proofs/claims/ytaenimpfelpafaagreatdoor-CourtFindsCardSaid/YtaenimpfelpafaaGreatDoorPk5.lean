/- Several texts of this claim, joined: Acc5 Bat1 BatLaw Rec1 Acc6 Acc7 Acc8 Del Ins BatLib Bat2 Bat3 Bat4 Bat5 Bat6 Bat7 Bat8 Bat9 Bat10 Bat11 Bat12. -/
import Derived.Test.YtaenimpfelpafaaGreatDoorPk4
set_option linter.unusedSimpArgs false
set_option linter.unusedVariables false
set_option maxRecDepth 4000
namespace Go.Proofs.YtaenimpfelpafaaGreatDoor
open Go.PA
open Go.RowKit
theorem jP {n:Nat} {H l:ac} (h:n≤H.length):Agree (fun id=>decide (id<n)) H (H++l):=fun id hid=>List.getElem?_append_left (by simp at hid;omega)
theorem um {a b c:Option AObj} {l l':ac}:Agree (fun id=>decide (id<3)) (a::b::c::l) (a::b::c::l'):=fun id hid=>by
 have:id<3:=by simpa using hid
 rcases id with _|_|_|id
 ·rfl
 ·rfl
 ·rfl
 ·omega
abbrev tt:TAccount:=⟨0,[],[]⟩
def bF (a:TAccount) (e:TEntry):TAccount×Int:=
 if aD a=0 then
  if a.Entries.length=400 then (tt,3)else
  if (aT a.Credit (cG a).Number (cG a).Day a.Subs e).1=0 then (⟨a.Credit,(aT a.Credit (cG a).Number (cG a).Day a.Subs e).2,a.Entries++[e]⟩,0)else (tt,(aT a.Credit (cG a).Number (cG a).Day a.Subs e).1)
 else (tt,aD a)
theorem ye {a:TAccount} (h:a.Entries.length=0):cG a=mJ:=by
 rw[cG,List.eq_nil_of_length_eq_zero h]
 rfl
theorem yx {a:TAccount} {k:Nat} {e:TEntry} (h:a.Entries.length=k+1) (he:a.Entries[k]?=some e):cG a=e:=by
 rw[cG,List.getLast?_eq_getElem?,h]
 simp[he]
theorem cA (a:TAccount):a.cells=[iv a.Credit,aL a.Subs,bu a.Entries]:=rfl
theorem cE (e:TEntry):e.cells=[iv e.Number,iv e.Day,iv e.From,iv e.To,iv e.Amount,iv e.Ref]:=rfl
theorem pP {H:ac} {n:Int} {Q:AV→Prop} {b:Bx Q} (h:Q (.tup [.agg tt.cells,iv n])):jO H (.tup [.agg [iv 0,.nil,.nil],iv n]) Q b:=
 aP (yA (bW (bW .nil))) h
theorem yw (a:TAccount) (he:a.Entries.length≤100000):PFun Tryz.prog none none 269 [.agg a.cells] (·= .agg (cG a).cells):=by
 refine ab Tryz.func269 rfl (by simp[Tryz.f269]) (by kernel_rfl) ?_
 intro E hP hr hs hW hN
 by_cases h0:a.Entries.length=0
 ·have d0:decide (0<a.Entries.length)=false:=decide_eq_false (by omega)
  have:cG a=mJ:=ye h0
  simp -dsimp -implicitDefEqProofs [-getElem?_pos,go_sem,hP,cA,d0]
  refine aw (eC mJ) ?_
  rw[this]
  rfl
 ·obtain⟨k,hk⟩:∃k,a.Entries.length=k+1:=⟨a.Entries.length-1,by omega⟩
  obtain⟨e,hee⟩:∃e,a.Entries[k]?=some e:=⟨_,List.getElem?_eq_getElem (by omega)⟩
  have d0:decide ((0:Int)<(k:Int)+1)=true:=by simp
  have wk:=af ((k:Int)+1-1) (by omega)
  rw[Int.add_sub_cancel]at wk
  have:cG a=e:=yx hk hee
  simp -dsimp -implicitDefEqProofs [-getElem?_pos,go_sem,hP,cA,hk,d0,Int.add_sub_cancel,wk,hee,cE]
  refine aw (eC e) ?_
  rw[this]
  rfl
set_option maxHeartbeats 1000000 in
theorem rT (a:TAccount) (e:TEntry) (hl:a.Subs.length≤100000) (he:a.Entries.length≤100000):PFun Tryz.prog none none 214 [.agg a.cells,.agg e.cells] (·= .tup [.agg (bF a e).1.cells,iv (bF a e).2]):=by
 refine ab Tryz.func214 rfl (by simp[Tryz.f214]) (by kernel_rfl) ?_
 intro E hP hr hs hW hN
 have ck:=pr a hl he
 have la:=yw a he
 rw[cA]at ck la
 have ia:Imm (.agg [iv a.Credit,aL a.Subs,bu a.Entries]):=cV a
 have ie:Imm (.agg [iv e.Number,iv e.Day,iv e.From,iv e.To,iv e.Amount,iv e.Ref]):=eC e
 simp -dsimp -implicitDefEqProofs [-getElem?_pos,go_sem,hP,cA,cE]
 refine ae (ck.lift _ _) hP JH (by simp[ia]) .sc ?_
 by_cases c1:aD a=0
 rotate_left
 ·have:bF a e=(tt,aD a):=by rw[bF,if_neg c1]
  simp -dsimp -implicitDefEqProofs [-getElem?_pos,go_sem,hP,c1]
  refine pP ?_
  rw[this]
 obtain⟨k1,k2,k3,k4,k5⟩:=iT c1
 by_cases c2:a.Entries.length=400
 ·have:bF a e=(tt,3):=by rw[bF,if_pos c1,if_pos c2]
  simp -dsimp -implicitDefEqProofs [-getElem?_pos,go_sem,hP,c1,c2]
  refine pP ?_
  rw[this]
 have d2:decide ((a.Entries.length:Int)=400)=false:=by simp;omega
 obtain⟨hnd,hz0,hhd⟩:=oZ k4
 obtain⟨q1,q2,q3,q4⟩:=tg c1
 have ap:=KK a.Credit a.Subs (cG a) e (by omega) k3 hnd hz0 q1 (by omega) q3
 rw[cE,cE]at ap
 simp -dsimp -implicitDefEqProofs [-getElem?_pos,go_sem,hP,c1,d2]
 refine ao (fun _=>true) [] hP (by kernel_rfl) (by kernel_rfl) ?_
 simp -dsimp -implicitDefEqProofs [-getElem?_pos,go_sem,hP]
 refine ae (la.lift _ _) hP JE (by simp[ia]) (eC _) ?_
 simp -dsimp -implicitDefEqProofs [-getElem?_pos,go_sem,hP,cE]
 refine ae (ap.lift _ _) hP Jt (by simp[aY,ar,ie];exact eC (cG a)) (ak (aY _) .sc) ?_
 by_cases c3:(aT a.Credit (cG a).Number (cG a).Day a.Subs e).1=0
 ·have pA:bF a e=(⟨a.Credit,(aT a.Credit (cG a).Number (cG a).Day a.Subs e).2,a.Entries++[e]⟩,0):=by rw[bF,if_pos c1,if_neg c2,if_pos c3]
  rw[Fy c3]
  simp -dsimp -implicitDefEqProofs [-getElem?_pos,go_sem,hP]
  refine ao (fun id=>decide (id<3)) [7] hP (by kernel_rfl) (by kernel_rfl) ?_
  simp -dsimp -implicitDefEqProofs [-getElem?_pos,go_sem,hP,ax]
  refine⟨by omega,by omega,um,by omega,by omega,um,?_⟩
  have en:aj TEntry.cells a.Entries++[[iv e.Number,iv e.Day,iv e.From,iv e.To,iv e.Amount,iv e.Ref]]=aj TEntry.cells (a.Entries++[e]):=ba TEntry.cells a.Entries e
  refine aP (yA (di (aY _) (da rfl (by simp[aj]) (by rw[en];exact fe _) .nil))) ?_
  rw[pA,en]
  rfl
 ·have pA:bF a e=(tt,(aT a.Credit (cG a).Number (cG a).Day a.Subs e).1):=by rw[bF,if_pos c1,if_neg c2,if_neg c3]
  rw[AE c3]
  simp -dsimp -implicitDefEqProofs [-getElem?_pos,go_sem,hP,c3]
  refine pP ?_
  rw[pA]
def bT (a:TAccount) (day from_ to amount ref:Int):TEntry:=⟨IntKind.i64.wrap ((cG a).Number+1),day,from_,to,amount,ref⟩
theorem rJ (a:TAccount) (day from_ to amount ref:Int) (he:a.Entries.length≤100000):PFun Tryz.prog none none 215 [.agg a.cells,iv day,iv from_,iv to,iv amount,iv ref] (·= .agg (bT a day from_ to amount ref).cells):=by
 refine ab Tryz.func215 rfl (by simp[Tryz.f215]) (by kernel_rfl) ?_
 intro E hP hr hs hW hN
 have la:=yw a he
 rw[cA,cE]at la
 have ia:Imm (.agg [iv a.Credit,aL a.Subs,bu a.Entries]):=cV a
 simp -dsimp -implicitDefEqProofs [-getElem?_pos,go_sem,hP,cA]
 refine ae (la.lift _ _) hP JE (by simp[ia]) (eC (cG a)) ?_
 simp -dsimp -implicitDefEqProofs [-getElem?_pos,go_sem,hP]
 refine aw (eC (bT a day from_ to amount ref)) ?_
 rfl
def bC (a:TAccount) (id:Int):Int×Bool:=
 if aD a=0 then (match a.Subs.find? (fun s=>decide (s.ID=id))with|some s=>(s.Balance,true)|none=>(0,false))else (0,false)
theorem uO {l:List TSub} {id:Int}:(fj l id= -1∧l.find? (fun s=>decide (s.ID=id))=none)∨∃(i:Nat) (s:TSub),fj l id=i∧l[i]?=some s∧l.find? (fun s=>decide (s.ID=id))=some s:=by
 suffices h:∀(l:List TSub) (k:Nat),(bE (fun s=>decide (s.ID=id)) k l= -1∧l.find? (fun s=>decide (s.ID=id))=none)∨∃(i:Nat) (s:TSub),bE (fun s=>decide (s.ID=id)) k l=((k+i:Nat):Int)∧l[i]?=some s∧l.find? (fun s=>decide (s.ID=id))=some s by
  have:=h l 0
  simpa[fj,fA]using this
 intro l
 induction l with
 |nil=>exact fun k=> .inl ⟨rfl,rfl⟩
 |cons a l ih=>
  intro k
  rw[bE,List.find?_cons]
  by_cases h:a.ID=id
  ·simp only[h,decide_true,if_true]
   exact .inr ⟨0,a,by simp,rfl,rfl⟩
  ·simp only[h,decide_false,Bool.false_eq_true,if_false]
   rcases ih (k+1)with h|⟨i,s,h1,h2,h3⟩
   ·exact .inl h
   ·exact .inr ⟨i+1,s,by rw[h1];congr 1;omega,h2,h3⟩
theorem qR (a:TAccount) (id:Int) (hl:a.Subs.length≤100000) (he:a.Entries.length≤100000):PFun Tryz.prog none none 218 [.agg a.cells,iv id] (·= .tup [iv (bC a id).1,bv (bC a id).2]):=by
 refine ab Tryz.func218 rfl (by simp[Tryz.f218]) (by kernel_rfl) ?_
 intro E hP hr hs hW hN
 have ck:=pr a hl he
 rw[cA]at ck
 have ia:Imm (.agg [iv a.Credit,aL a.Subs,bu a.Entries]):=cV a
 simp -dsimp -implicitDefEqProofs [-getElem?_pos,go_sem,hP,cA]
 refine ae (ck.lift _ _) hP JH (by simp[ia]) .sc ?_
 by_cases c1:aD a=0
 rotate_left
 ·have:bC a id=(0,false):=by rw[bC,if_neg c1]
  simp -dsimp -implicitDefEqProofs [-getElem?_pos,go_sem,hP,c1]
  refine aw (ak .sc .sc) ?_
  rw[this]
 simp -dsimp -implicitDefEqProofs [-getElem?_pos,go_sem,hP,c1]
 refine ah (ka a.Subs id hl) hP gp (aH (aY _) (aH .sc (be.2 trivial))) .sc ?_
 rcases uO (l:=a.Subs) (id:=id)with⟨h1,h2⟩|⟨i,s,h1,h2,h3⟩
 ·have:bC a id=(0,false):=by rw[bC,if_pos c1,h2]
  simp -dsimp -implicitDefEqProofs [-getElem?_pos,go_sem,hP,h1]
  refine aw (ak .sc .sc) ?_
  rw[this]
 ·have:bC a id=(s.Balance,true):=by rw[bC,if_pos c1,h3]
  have hi:=(gsI h2)
  have d1:decide ((0:Int)≤(i:Int))=true:=by simp
  simp -dsimp -implicitDefEqProofs [-getElem?_pos,go_sem,hP,h1,d1,h2,TSub.cells]
  refine aw (ak .sc .sc) ?_
  rw[this]
theorem zC {credit:Int} {s:TSub} (hc:0≤credit∧credit≤1000000000000) (h:eK credit s=true): -1000000000000≤s.Balance∧s.Balance≤1000000000000000:=by
 have:=(eO _ _).1 h
 split at this<;>omega
def Ev (f:TEntry→Int) (l:List TEntry):Int:=(l.map f).sum
theorem ta (credit:Int):∀(es:List TEntry) (n d:Int) (l:List TSub) (r:Int×Int×List TSub),bB credit n d l es=some r→∀e,e∈es→0<e.Amount∧e.Amount≤1000000000000∧0≤e.Ref∧e.Ref≤1000000∧e.From≠e.To∧(e.From=0∨e.From∈ids l)∧(e.To=0∨e.To∈ids l)
 |[],n,d,l,r,h,e,he=>by simp at he
 |x::es,n,d,l,r,h,e,he=>by
  rw[bB]at h
  split at h
  ·rename_i hp
   obtain⟨_,_,_,h4,h5,h6,h7,h8,h9,h10,_⟩:=jY hp
   rcases List.mem_cons.1 he with rfl|he
   ·exact⟨h4,h5,h6,h7,h8,h9,h10⟩
   ·have:=ta credit es _ _ _ r h e he
    rw[jH]at this
    exact this
  ·cases h
theorem yZ {a:TAccount} (h:aD a=0):∀e,e∈a.Entries→0<e.Amount∧e.Amount≤1000000000000∧0≤e.Ref∧e.Ref≤1000000∧e.From≠e.To∧(e.From=0∨e.From∈ids a.Subs)∧(e.To=0∨e.To∈ids a.Subs):=by
 obtain⟨_,_,_,_,h5⟩:=iT h
 have:=ta _ _ _ _ _ _ h5
 rw[nW]at this
 exact this
abbrev eU (l:List Int):AV:= .list 1 (aj aS l)
theorem fY (l:List Int):Imm (eU l):=aV _ ql l
open Go.PA
open Go.RowKit
abbrev aC (l:List TPayment):AV:= .list 5 (aj TPayment.cells l)
abbrev aX (l:List TBatch):AV:= .list 3 (aj TBatch.cells l)
theorem cg (l:List TPayment):Imm (aC l):=aV _ TPayment.imm _
theorem jc (l:List TBatch):Imm (aX l):=aV _ TBatch.imm _
theorem cPy (p:TPayment):p.cells=[iv p.Warrant,iv p.Payee,iv p.Amount,iv p.Due,iv p.Sub]:=rfl
theorem cBt (b:TBatch):b.cells=[iv b.Number,iv b.Day,aC b.Payments]:=rfl
theorem cQu (q:TQueue):q.cells=[aC q.Waiting,aF q.Known,aX q.Batches]:=rfl
theorem fq (c:TPayment):Imm (.agg c.cells):=az.2 c.imm
theorem Fz (c:TBatch):Imm (.agg c.cells):=az.2 c.imm
theorem dr (c:TQueue):Imm (.agg c.cells):=az.2 c.imm
theorem cU {α:Type} {l:List α} {k:Nat} {e:α} (h:l[k]?=some e):l.drop k=e::l.drop (k+1):=by
 obtain⟨hk,rfl⟩:=List.getElem?_eq_some_iff.1 h
 exact List.drop_eq_getElem_cons hk
theorem bV {α:Type} {l:List α} {k:Nat} {e:α} (h:l[k]?=some e):l.take (k+1)=l.take k++[e]:=by
 rw[List.take_add_one,h];rfl
def amg (n lo hi:Int):Bool:=decide (lo≤n)&&decide (n≤hi)
theorem dS {n lo hi:Int}:amg n lo hi=true↔lo≤n∧n≤hi:=by simp[amg]
theorem eM {n lo hi:Int} (h:¬(lo≤n∧n≤hi)):amg n lo hi=false:=Bool.eq_false_iff.2 fun e=>h (dS.1 e)
def gz (p:TPayment):Bool:=amg p.Warrant 1 1000000&&(amg p.Payee 1 1000000&&(amg p.Amount 1 1000000000000&&(amg p.Due 0 35990&&amg p.Sub 1 1000)))
structure PayOk (p:TPayment):Prop where
 warrant:1≤p.Warrant∧p.Warrant≤1000000
 payee:1≤p.Payee∧p.Payee≤1000000
 amount:1≤p.Amount∧p.Amount≤1000000000000
 due:0≤p.Due∧p.Due≤35990
 sub:1≤p.Sub∧p.Sub≤1000
theorem g7 (p:TPayment):gz p=true↔PayOk p:=by
 simp only[gz,Bool.and_eq_true,dS]
 exact⟨fun⟨a,b,c,d,e⟩=>⟨a,b,c,d,e⟩,fun⟨a,b,c,d,e⟩=>⟨a,b,c,d,e⟩⟩
def Bef (a b:TPayment):Prop:=a.Due<b.Due∨a.Due=b.Due∧a.Warrant<b.Warrant
instance (a b:TPayment):Decidable (Bef a b):=by unfold Bef;infer_instance
def iX (a b:TPayment):Bool:=decide (Bef a b)
theorem jJ {a b:TPayment}:iX a b=true↔Bef a b:=by simp[iX]
theorem Bef.trans {a b c:TPayment} (h:Bef a b) (k:Bef b c):Bef a c:=by unfold Bef at*;omega
theorem Bef.tot {a b:TPayment} (h:a.Warrant≠b.Warrant):Bef a b∨Bef b a:=by unfold Bef;omega
def tV {α:Type} (o:Option α) (f:α→Bool):Bool:=match o with
 |none=>true
 |some x=>f x
theorem B5 {α:Type} {o:Option α} {f:α→Bool}:tV o f=true↔∀x,o=some x→f x=true:=by
 cases o<;>simp[tV]
def dU:Option TPayment→List TPayment→Bool
 |_,[]=>true
 |o,p::l=>gz p&&(tV o (fun x=>iX x p)&&dU (some p) l)
def cX:List TPayment→List TPayment→Bool
 |_,[]=>true
 |pre,p::l=>!(pre.any fun x=>decide (x.Warrant=p.Warrant))&&cX (pre++[p]) l
def inK (K:List Int) (p:TPayment):Bool:=decide (p.Warrant∈K)
def rZ (K:List Int) (l:List TPayment):Bool:=dU none l&&(l.all (inK K)&&cX [] l)
def gv:Option Int→List Int→Bool
 |_,[]=>true
 |o,n::l=>amg n 1 1000000&&(tV o (fun x=>decide (x<n))&&gv (some n) l)
def gW (d:Int):Bool:=amg d 0 36000&&decide (d%7<5)
def xx (K:List Int) (i d:Int) (b:TBatch):Bool:=decide (b.Number=i+1)&&(decide (d≤b.Day)&&(gW b.Day&&(amg b.Payments.length 1 10&&rZ K b.Payments)))
def bJ (K:List Int):Int→Int→List TBatch→Bool
 |_,_,[]=>true
 |i,d,b::l=>xx K i d b&&bJ K (i+1) b.Day l
def cT (q:TQueue):Int:=
 if 100<q.Waiting.length∨200<q.Known.length∨200<q.Batches.length then 3 else if (gv none q.Known&&(rZ q.Known q.Waiting&&bJ q.Known 0 0 q.Batches))=true then 0 else 64
theorem sO:∀(l:List TPayment) (o:Option TPayment),dU o l=true↔(∀p,p∈l→PayOk p)∧(∀x,o=some x→∀p,p∈l→Bef x p)∧l.Pairwise Bef
 |[],o=>by simp[dU]
 |p::l,o=>by
  rw[dU,Bool.and_eq_true,Bool.and_eq_true,sO l (some p),g7,B5,List.pairwise_cons]
  simp only[jJ,List.mem_cons]
  constructor
  ·rintro⟨h1,h2,h3,h4,h5⟩
   refine⟨?_,?_,h4 p rfl,h5⟩
   ·rintro x (rfl|hx)
    ·exact h1
    ·exact h3 x hx
   ·rintro x hx y (rfl|hy)
    ·exact h2 x hx
    ·exact (h2 x hx).trans (h4 p rfl y hy)
  ·rintro⟨h1,h2,h3,h4⟩
   refine⟨h1 p (.inl rfl),fun x hx=>h2 x hx p (.inl rfl),fun x hx=>h1 x (.inr hx),?_,h4⟩
   rintro x hx y hy
   cases hx
   exact h3 y hy
theorem qI:∀(l pre:List TPayment),cX pre l=true↔(∀p,p∈l→∀x,x∈pre→x.Warrant≠p.Warrant)∧(l.map (·.Warrant)).Nodup
 |[],pre=>by simp[cX]
 |p::l,pre=>by
  rw[cX,Bool.and_eq_true,Bool.not_eq_true',qI l,List.map_cons,List.nodup_cons,List.any_eq_false]
  simp only[decide_eq_true_eq,List.mem_append,List.mem_cons,List.not_mem_nil,or_false,List.mem_map,not_exists,not_and]
  constructor
  ·rintro⟨h1,h2,h3⟩
   refine⟨?_,fun x hx e=>h2 x hx p (.inr rfl) e.symm,h3⟩
   rintro x (rfl|hx) y hy
   ·exact h1 y hy
   ·exact h2 x hx y (.inl hy)
  ·rintro⟨h1,h2,h3⟩
   refine⟨fun y hy=>h1 p (.inl rfl) y hy,?_,h3⟩
   rintro x hx y (hy|rfl)
   ·exact h1 x (.inr hx) y hy
   ·exact fun e=>h2 x hx e.symm
structure AscOk (K:List Int) (l:List TPayment):Prop where
 pay:∀p,p∈l→PayOk p
 ord:l.Pairwise Bef
 kn:∀p,p∈l→p.Warrant∈K
 nd:(l.map (·.Warrant)).Nodup
theorem mY {K:List Int} {l:List TPayment}:rZ K l=true↔AscOk K l:=by
 rw[rZ,Bool.and_eq_true,Bool.and_eq_true,sO,qI,List.all_eq_true]
 simp only[inK,decide_eq_true_eq]
 constructor
 ·rintro⟨⟨h1,_,h2⟩,h3,_,h4⟩
  exact⟨h1,h2,h3,h4⟩
 ·rintro⟨h1,h2,h3,h4⟩
  exact⟨⟨h1,by simp,h2⟩,h3,by simp,h4⟩
theorem pj:∀(l:List Int) (o:Option Int),gv o l=true↔(∀p,p∈l→1≤p∧p≤1000000)∧(∀x,o=some x→∀p,p∈l→x<p)∧l.Pairwise (·<·)
 |[],o=>by simp[gv]
 |p::l,o=>by
  rw[gv,Bool.and_eq_true,Bool.and_eq_true,pj l (some p),dS,B5,List.pairwise_cons]
  simp only[decide_eq_true_eq,List.mem_cons]
  constructor
  ·rintro⟨h1,h2,h3,h4,h5⟩
   refine⟨?_,?_,h4 p rfl,h5⟩
   ·rintro x (rfl|hx)
    ·exact h1
    ·exact h3 x hx
   ·rintro x hx y (rfl|hy)
    ·exact h2 x hx
    ·exact Int.lt_trans (h2 x hx) (h4 p rfl y hy)
  ·rintro⟨h1,h2,h3,h4⟩
   refine⟨h1 p (.inl rfl),fun x hx=>h2 x hx p (.inl rfl),fun x hx=>h1 x (.inr hx),?_,h4⟩
   rintro x hx y hy
   cases hx
   exact h3 y hy
structure QOk (q:TQueue):Prop where
 lw:q.Waiting.length≤100
 lk:q.Known.length≤200
 lb:q.Batches.length≤200
 kn:∀w,w∈q.Known→1≤w∧w≤1000000
 ks:q.Known.Pairwise (·<·)
 asc:AscOk q.Known q.Waiting
 bats:bJ q.Known 0 0 q.Batches=true
theorem dI {q:TQueue}:cT q=0↔QOk q:=by
 unfold cT
 split
 ·rename_i h
  exact⟨fun e=>absurd e (by decide),fun⟨h1,h2,h3,_,_,_,_⟩=>by omega⟩
 ·rename_i h
  split
  ·rename_i h1
   rw[Bool.and_eq_true,Bool.and_eq_true,pj,mY]at h1
   exact⟨fun _=>⟨by omega,by omega,by omega,h1.1.1,h1.1.2.2,h1.2.1,h1.2.2⟩,fun _=>rfl⟩
  ·rename_i h1
   refine⟨fun e=>absurd e (by decide),fun⟨_,_,_,h4,h5,h6,h7⟩=>absurd ?_ h1⟩
   rw[Bool.and_eq_true,Bool.and_eq_true,pj,mY]
   exact⟨⟨h4,by simp,h5⟩,h6,h7⟩
structure FitQ (q:TQueue):Prop where
 w:q.Waiting.length≤100000
 k:q.Known.length≤100000
 b:q.Batches.length≤100000
 each:∀b,b∈q.Batches→b.Payments.length≤100000
theorem jC {K:List Int}:∀{l:List TBatch} {i d:Int},bJ K i d l=true→∀b,b∈l→1≤b.Payments.length∧b.Payments.length≤10∧AscOk K b.Payments∧gW b.Day=true∧d≤b.Day
 |[],_,_,_,b,hb=>by cases hb
 |a::l,i,d,h,b,hb=>by
  rw[bJ,xx]at h
  simp only[Bool.and_eq_true,dS,mY,decide_eq_true_eq]at h
  rcases List.mem_cons.1 hb with rfl|hb
  ·obtain⟨⟨_,h2,h3,h4,h5⟩,_⟩:=h
   exact⟨by omega,by omega,h5,h3,h2⟩
  ·obtain⟨h1,h2,h3,h4,h5⟩:=jC h.2 b hb
   exact⟨h1,h2,h3,h4,by have:=h.1.2.1;omega⟩
abbrev dz:TQueue:=⟨[],[],[]⟩
abbrev dy:TBatch:=⟨0,0,[]⟩
def ins {α:Type} (lt:α→α→Bool) (l:List α) (a:α):List α:=l.takeWhile (fun x=>lt x a)++a::l.dropWhile (fun x=>lt x a)
def ltB (a b:Int):Bool:=decide (a<b)
def ge (q:TQueue) (w:Int):Int:=fA (fun p:TPayment=>decide (p.Warrant=w)) q.Waiting
def jh (q:TQueue) (p:TPayment):TQueue×Int:=
 if cT q=0 then (if gz p=true then (if p.Warrant∈q.Known then (dz,65)else if q.Waiting.length=100∨q.Known.length=200 then (dz,3)else (⟨ins iX q.Waiting p,ins ltB q.Known p.Warrant,q.Batches⟩,0))else (dz,64))else (dz,cT q)
def fR (q:TQueue) (w:Int):TQueue×Int:=
 if cT q=0 then (if ge q w<0 then (dz,6)else (⟨q.Waiting.eraseIdx (ge q w).toNat,q.Known,q.Batches⟩,0))else (dz,cT q)
def fU (q:TQueue) (day:Int):List TPayment:=if cT q=0 then q.Waiting.filter (fun p=>decide (p.Due≤day))else []
def fQ (q:TQueue):Int:=match q.Batches.getLast? with
 |none=>0
 |some b=>b.Day
def bN (ws:List Int) (p:TPayment):Bool:=decide (p.Warrant∈ws)
def zK (q:TQueue) (day:Int) (ws:List Int):Bool:=decide (ws.Nodup)&&ws.all fun w=>q.Waiting.any fun p=>decide (p.Warrant=w)&&decide (p.Due≤day)
def p9 (q:TQueue) (day:Int) (ws:List Int):TBatch:=⟨q.Batches.length+1,day,q.Waiting.filter (bN ws)⟩
def cC (q:TQueue) (day:Int) (ws:List Int):TQueue×TBatch×Int:=
 if cT q=0 then (if gW day=true then (if day<fQ q then (dz,dy,8)else if ws.length=0 then (dz,dy,10)else if 10<ws.length∨200≤q.Batches.length then (dz,dy,3)else if zK q day ws=true then (⟨q.Waiting.filter (fun p=>!bN ws p),q.Known,q.Batches++[p9 q day ws]⟩,p9 q day ws,0)else (dz,dy,6))else (dz,dy,66))else (dz,dy,cT q)
open Go.PA
open Go.RowKit
theorem yz {α:Type} (lt:α→α→Bool) (l:List α) (a:α):∃A B,l=A++B∧ins lt l a=A++a::B∧(∀x,x∈A→lt x a=true)∧∀x,B.head?=some x→lt x a=false:=by
 refine⟨l.takeWhile fun x=>lt x a,l.dropWhile fun x=>lt x a,by rw[List.takeWhile_append_dropWhile],rfl,fun x hx=>?_,fun x hx=>?_⟩
 ·exact List.all_eq_true.1 (List.all_takeWhile (p:=fun x=>lt x a) (l:=l)) x hx
 ·have:=List.head?_dropWhile_not (p:=fun x=>lt x a) (l:=l)
  rw[hx]at this
  simpa using this
theorem vY {α:Type} (lt:α→α→Bool) (l:List α) (a:α):(ins lt l a).Perm (a::l):=by
 obtain⟨A,B,h1,h2,_⟩:=yz lt l a
 rw[h2,h1]
 exact List.perm_middle
theorem qP {α:Type} (lt:α→α→Bool) (l:List α) (a:α):(ins lt l a).length=l.length+1:=by
 rw[(vY lt l a).length_eq];rfl
theorem jt {α:Type} {lt:α→α→Bool} {l:List α} {a x:α}:x∈ins lt l a↔x=a∨x∈l:=by
 rw[(vY lt l a).mem_iff,List.mem_cons]
theorem uX {α:Type} {lt:α→α→Bool} {R:α→α→Prop} (hR:∀x y,lt x y=true↔R x y) (tr:∀{x y z},R x y→R y z→R x z) {l:List α} {a:α} (hl:l.Pairwise R) (tot:∀x,x∈l→R x a∨R a x):(ins lt l a).Pairwise R:=by
 obtain⟨A,B,rfl,h2,h3,h4⟩:=yz lt l a
 rw[h2]
 rw[List.pairwise_append]at hl⊢
 obtain⟨p1,p2,p3⟩:=hl
 have ha:∀x,x∈B→R a x:=by
  cases B with
  |nil=>simp
  |cons b B=>
   have hb:R a b:=(tot b (by simp)).resolve_left fun h=>by
    have:=h4 b rfl
    rw[(hR _ _).2 h]at this
    cases this
   intro x hx
   rcases List.mem_cons.1 hx with rfl|hx
   ·exact hb
   ·exact tr hb (List.rel_of_pairwise_cons p2 hx)
 refine⟨p1,List.pairwise_cons.2 ⟨ha,p2⟩,fun x hx y hy=>?_⟩
 rcases List.mem_cons.1 hy with rfl|hy
 ·exact (hR _ _).1 (h3 x hx)
 ·exact p3 x hx y hy
theorem IB (a b:TPayment):iX a b=true↔Bef a b:=jJ
theorem Kt (a b:Int):ltB a b=true↔a<b:=by simp[ltB]
theorem vj {q:TQueue} {w:Int}:ge q w<0↔∀p,p∈q.Waiting→p.Warrant≠w:=by
 unfold ge
 rcases dY (fun p:TPayment=>decide (p.Warrant=w)) q.Waiting with⟨h1,h2⟩|⟨i,a,h1,h2,h3,h4⟩
 ·rw[h1]
  exact⟨fun _ p hp=>by simpa using h2 p hp,fun _=>by omega⟩
 ·rw[h3]
  exact⟨fun h=>by omega,fun h=>absurd (by simpa using h2) (h a (List.mem_of_getElem? h1))⟩
theorem mm {q:TQueue} {w:Int} (h:¬ge q w<0):∃(i:Nat) (p:TPayment),ge q w=i∧q.Waiting[i]?=some p∧p.Warrant=w∧i<q.Waiting.length:=by
 unfold ge at*
 rcases dY (fun p:TPayment=>decide (p.Warrant=w)) q.Waiting with⟨h1,h2⟩|⟨i,a,h1,h2,h3,h4⟩
 ·omega
 ·exact⟨i,a,h3,h1,by simpa using h2,(gsI h1)⟩
theorem AscOk.mono {K K':List Int} {l:List TPayment} (h:AscOk K l) (hk:∀w,w∈K→w∈K'):AscOk K' l:=⟨h.pay,h.ord,fun p hp=>hk _ (h.kn p hp),h.nd⟩
theorem AscOk.sub {K:List Int} {l l':List TPayment} (h:AscOk K l) (hs:l'.Sublist l):AscOk K l':=⟨fun p hp=>h.pay p (hs.subset hp),h.ord.sublist hs,fun p hp=>h.kn p (hs.subset hp),h.nd.sublist (hs.map _)⟩
theorem HF {K K':List Int} (hk:∀w,w∈K→w∈K') {i d:Int} {b:TBatch} (h:xx K i d b=true):xx K' i d b=true:=by
 unfold xx at*
 simp only[Bool.and_eq_true,mY]at h⊢
 exact⟨h.1,h.2.1,h.2.2.1,h.2.2.2.1,h.2.2.2.2.mono hk⟩
theorem oT {K K':List Int} (hk:∀w,w∈K→w∈K'):∀{l:List TBatch} {i d:Int},bJ K i d l=true→bJ K' i d l=true
 |[],_,_,_=>rfl
 |b::l,i,d,h=>by
  rw[bJ,Bool.and_eq_true]at h⊢
  exact⟨HF hk h.1,oT hk h.2⟩
def lu (d:Int) (l:List TBatch):Int:=match l.getLast? with
 |none=>d
 |some b=>b.Day
theorem xb (d:Int) (b:TBatch) (l:List TBatch):lu d (b::l)=lu b.Day l:=by
 unfold lu
 cases l with
 |nil=>rfl
 |cons c l=>rw[List.getLast?_cons_cons];cases h:(c::l).getLast? with
  |none=>simp at h
  |some x=>rfl
theorem oS {K:List Int} {b:TBatch}:∀{l:List TBatch} {i d:Int},bJ K i d l=true→xx K (i+l.length) (lu d l) b=true→bJ K i d (l++[b])=true
 |[],i,d,_,h=>by
  have:xx K i d b=true:=by simpa[lu]using h
  simp[bJ,this]
 |c::l,i,d,h,k=>by
  rw[bJ,Bool.and_eq_true]at h
  rw[List.cons_append,bJ,Bool.and_eq_true]
  rw[xb,List.length_cons]at k
  exact⟨h.1,oS h.2 (by rw[show i+1+(l.length:Int)=i+((l.length+1:Nat):Int) by omega];exact k)⟩
theorem QOk.nod {q:TQueue} (h:QOk q) {w:Int} (hw:w∉q.Known):∀p,p∈q.Waiting→p.Warrant≠w:=fun p hp e=>hw (e▸h.asc.kn p hp)
theorem AscOk.ins {K:List Int} {l:List TPayment} {p:TPayment} (h:AscOk K l) (hp:PayOk p) (hk:p.Warrant∈K) (hn:∀x,x∈l→x.Warrant≠p.Warrant):AscOk K (ins iX l p):=by
 refine⟨fun x hx=>?_,uX IB Bef.trans h.ord fun x hx=>Bef.tot (hn x hx),fun x hx=>?_,?_⟩
 ·rcases jt.1 hx with rfl|hx
  ·exact hp
  ·exact h.pay x hx
 ·rcases jt.1 hx with rfl|hx
  ·exact hk
  ·exact h.kn x hx
 ·refine (((vY iX l p).map (·.Warrant)).nodup_iff).2 ?_
  rw[List.map_cons,List.nodup_cons]
  refine⟨fun hm=>?_,h.nd⟩
  obtain⟨x,hx,e⟩:=List.mem_map.1 hm
  exact hn x hx e
theorem LR {q x:TQueue} {p:TPayment} (h:jh q p=(x,0)):QOk q∧PayOk p∧p.Warrant∉q.Known∧q.Waiting.length<100∧q.Known.length<200∧x=⟨ins iX q.Waiting p,ins ltB q.Known p.Warrant,q.Batches⟩∧QOk x:=by
 unfold jh at h
 split at h
 ·rename_i c1
  split at h
  ·rename_i c2
   split at h
   ·simp at h
   ·rename_i c3
    split at h
    ·simp at h
    ·rename_i c4
     have hq:=dI.1 c1
     have hp:=(g7 p).1 c2
     have:=hq.lw
     have:=hq.lk
     have hm:∀w,w∈q.Known→w∈ins ltB q.Known p.Warrant:=fun w hw=>jt.2 (.inr hw)
     simp only[Prod.mk.injEq,and_true]at h
     refine⟨hq,hp,c3,by omega,by omega,h.symm,h▸⟨?_,?_,hq.lb,?_,?_,?_,?_⟩⟩
     ·simp only[qP];omega
     ·simp only[qP];omega
     ·intro w hw
      rcases jt.1 hw with rfl|hw
      ·exact hp.warrant
      ·exact hq.kn w hw
     ·refine uX Kt Int.lt_trans hq.ks fun x hx=>?_
      have:x≠p.Warrant:=fun e=>c3 (e▸hx)
      omega
     ·exact (hq.asc.mono hm).ins hp (jt.2 (.inl rfl)) (hq.nod c3)
     ·exact oT hm hq.bats
  ·simp at h
 ·rename_i c1
  simp only[Prod.mk.injEq]at h
  exact absurd h.2 c1
theorem Ls {q x:TQueue} {w:Int} (h:fR q w=(x,0)):QOk q∧(∃p,p∈q.Waiting∧p.Warrant=w)∧x=⟨q.Waiting.eraseIdx (ge q w).toNat,q.Known,q.Batches⟩∧QOk x:=by
 unfold fR at h
 split at h
 ·rename_i c1
  split at h
  ·simp at h
  ·rename_i c2
   have hq:=dI.1 c1
   obtain⟨i,p,h1,h2,h3,h4⟩:=mm c2
   simp only[Prod.mk.injEq,and_true]at h
   refine⟨hq,⟨p,List.mem_of_getElem? h2,h3⟩,h.symm,h▸⟨?_,hq.lk,hq.lb,hq.kn,hq.ks,hq.asc.sub (List.eraseIdx_sublist _ _),hq.bats⟩⟩
   have:=(List.eraseIdx_sublist q.Waiting (ge q w).toNat).length_le
   have:=hq.lw
   simp only
   omega
 ·rename_i c1
  simp only[Prod.mk.injEq]at h
  exact absurd h.2 c1
theorem yM:∀(M ws:List Int),M.Nodup→(∀x,x∈M→x∈ws)→M.length≤ws.length∧(M.length=ws.length→ws.Nodup∧∀x,x∈ws→x∈M)
 |[],ws,_,_=>⟨by simp,fun h=>by
   have:ws=[]:=List.eq_nil_of_length_eq_zero h.symm
   subst this
   simp⟩
 |a::M,ws,hn,hs=>by
  have ha:=hs a (by simp)
  have hp:=List.perm_cons_erase ha
  rw[List.nodup_cons]at hn
  have hl:ws.length=(ws.erase a).length+1:=hp.length_eq
  obtain⟨i1,i2⟩:=yM M (ws.erase a) hn.2 fun x hx=>(List.mem_erase_of_ne (fun e=>hn.1 (by rw[←e];exact hx))).2 (hs x (by simp[hx]))
  refine⟨by simp only[List.length_cons];omega,fun h=>?_⟩
  simp only[List.length_cons]at h
  obtain⟨j1,j2⟩:=i2 (by omega)
  refine⟨hp.nodup_iff.2 (List.nodup_cons.2 ⟨fun hm=>hn.1 (j2 a hm),j1⟩),fun x hx=>?_⟩
  rcases List.mem_cons.1 (hp.mem_iff.1 hx)with rfl|hx
  ·simp
  ·exact List.mem_cons_of_mem _ (j2 x hx)
theorem wF {l:List TPayment} (h:(l.map (·.Warrant)).Nodup) {p p':TPayment} (hp:p∈l) (hp':p'∈l) (e:p.Warrant=p'.Warrant):p=p':=by
 induction l with
 |nil=>cases hp
 |cons a l ih=>
  rw[List.map_cons,List.nodup_cons]at h
  rcases List.mem_cons.1 hp with e1|hp
  ·rcases List.mem_cons.1 hp' with e2|hp'
   ·rw[e1,e2]
   ·exact absurd (List.mem_map.2 ⟨p',hp',by rw[←e,e1]⟩) h.1
  ·rcases List.mem_cons.1 hp' with e2|hp'
   ·exact absurd (List.mem_map.2 ⟨p,hp,by rw[e,e2]⟩) h.1
   ·exact ih h.2 hp hp'
theorem lF {q:TQueue} {day:Int} {ws:List Int}:zK q day ws=true↔ws.Nodup∧∀w,w∈ws→∃p,p∈q.Waiting∧p.Warrant=w∧p.Due≤day:=by
 simp[zK]
theorem Cp {q:TQueue} {day:Int} {ws:List Int} (hn:(q.Waiting.map (·.Warrant)).Nodup) (h:zK q day ws=true):(q.Waiting.filter fun p=>decide (p.Due≤day)).filter (bN ws)=q.Waiting.filter (bN ws):=by
 obtain⟨_,h⟩:=lF.1 h
 rw[List.filter_filter]
 refine List.filter_congr fun p hp=>?_
 cases ht:bN ws p
 ·rfl
 ·obtain⟨p',h1,h2,h3⟩:=h p.Warrant (by simpa[bN]using ht)
  have:=wF hn h1 hp h2
  subst this
  simp[h3]
theorem JQ {q:TQueue} {day:Int} {ws:List Int} (hn:(q.Waiting.map (·.Warrant)).Nodup):((q.Waiting.filter fun p=>decide (p.Due≤day)).filter (bN ws)).length=ws.length↔zK q day ws=true:=by
 have hM:=hn.sublist (((List.filter_sublist (p:=bN ws)).trans (List.filter_sublist (l:=q.Waiting) (p:=fun p=>decide (p.Due≤day)))).map (·.Warrant))
 have hs:∀x,x∈((q.Waiting.filter fun p=>decide (p.Due≤day)).filter (bN ws)).map (·.Warrant)→x∈ws:=fun x hx=>by
  obtain⟨p,hp,rfl⟩:=List.mem_map.1 hx
  simpa[bN]using (List.mem_filter.1 hp).2
 obtain⟨h1,h2⟩:=yM _ ws hM hs
 rw[List.length_map]at h1 h2
 rw[lF]
 constructor
 ·intro h
  obtain⟨h3,h4⟩:=h2 h
  refine⟨h3,fun w hw=>?_⟩
  obtain⟨p,hp,e⟩:=List.mem_map.1 (h4 w hw)
  obtain⟨hp,_⟩:=List.mem_filter.1 hp
  obtain⟨hp,hd⟩:=List.mem_filter.1 hp
  exact⟨p,hp,e,by simpa using hd⟩
 ·rintro⟨h3,h4⟩
  have:=h3.length_le_of_subset (l₂:=((q.Waiting.filter fun p=>decide (p.Due≤day)).filter (bN ws)).map (·.Warrant)) fun w hw=>by
   obtain⟨p,hp,e,hd⟩:=h4 w hw
   exact List.mem_map.2 ⟨p,List.mem_filter.2 ⟨List.mem_filter.2 ⟨hp,by simpa using hd⟩,by simpa[bN,e]using hw⟩,e⟩
  rw[List.length_map]at this
  omega
theorem yK {q:TQueue} {day:Int} {ws:List Int} (hn:(q.Waiting.map (·.Warrant)).Nodup) (h:zK q day ws=true):(q.Waiting.filter (bN ws)).length=ws.length:=by
 rw[←Cp hn h]
 exact (JQ hn).2 h
theorem Kv {q x:TQueue} {b:TBatch} {day:Int} {ws:List Int} (h:cC q day ws=(x,b,0)):QOk q∧gW day=true∧fQ q≤day∧1≤ws.length∧ws.length≤10∧zK q day ws=true∧x=⟨q.Waiting.filter (fun p=>!bN ws p),q.Known,q.Batches++[p9 q day ws]⟩∧b=p9 q day ws∧QOk x:=by
 unfold cC at h
 split at h
 ·rename_i c1
  split at h
  ·rename_i c2
   split at h
   ·simp at h
   ·rename_i c3
    split at h
    ·simp at h
    ·rename_i c4
     split at h
     ·simp at h
     ·rename_i c5
      split at h
      ·rename_i c6
       have hq:=dI.1 c1
       simp only[Prod.mk.injEq,and_true]at h
       refine⟨hq,c2,by omega,by omega,by omega,c6,h.1.symm,h.2.symm,h.1▸⟨?_,hq.lk,?_,hq.kn,hq.ks,hq.asc.sub List.filter_sublist,?_⟩⟩
       ·have:=List.length_filter_le (fun p=>!bN ws p) q.Waiting
        have:=hq.lw
        simp only
        omega
       ·simp only[List.length_append,List.length_cons,List.length_nil]
        omega
       ·refine oS hq.bats ?_
        have:=yK hq.asc.nd c6
        simp only[xx,p9,Bool.and_eq_true,mY,dS]
        refine⟨decide_eq_true (by omega),decide_eq_true ?_,c2,by omega,hq.asc.sub List.filter_sublist⟩
        have:lu 0 q.Batches=fQ q:=rfl
        omega
      ·simp at h
  ·simp at h
 ·rename_i c1
  simp only[Prod.mk.injEq]at h
  exact absurd h.2.2 c1
open Go.PA
open Go.RowKit
abbrev bI (l:List TItem):AV:= .list 7 (aj TItem.cells l)
theorem yJ (l:List TItem):Imm (bI l):=aV _ TItem.imm _
theorem cIt (x:TItem):x.cells=[iv x.Payment.Warrant,iv x.Payment.Payee,iv x.Payment.Amount,iv x.Payment.Due,iv x.Payment.Sub,iv x.State,iv x.Attempts]:=rfl
theorem eS (c:TItem):Imm (.agg c.cells):=az.2 c.imm
theorem dO (c:TDesk):Imm (.agg c.cells):=az.2 c.imm
abbrev cR:TDesk:=⟨tt,dz,[]⟩
def wrt (x:TItem):Int:=x.Payment.Warrant
structure FitD (d:TDesk):Prop where
 s:d.Account.Subs.length≤100000
 e:d.Account.Entries.length≤100000
 q:FitQ d.Queue
 i:d.Items.length≤100000
def eT (p:TPayment) (e:TEntry):Bool:=decide (e.Ref=p.Warrant)&&(decide (e.From=p.Sub)&&decide (e.To=0))
def inE (p:TPayment) (e:TEntry):Bool:=decide (e.Ref=p.Warrant)&&(decide (e.From=0)&&decide (e.To=p.Sub))
def okE (p:TPayment) (e:TEntry):Bool:=!decide (e.Ref=p.Warrant)||(decide (e.Amount=p.Amount)&&(decide (e.From=p.Sub)&&decide (e.To=0)||decide (e.From=0)&&decide (e.To=p.Sub)))
def gO (x:TItem):Bool:=decide (x.State=2)||decide (x.State=3)
def dW (x:TItem):Nat:=if gO x=true then 1 else 0
def kO (a:TAccount) (x:TItem):Bool:=a.Entries.all (okE x.Payment)&&(decide ((a.Entries.countP (eT x.Payment):Int)=x.Attempts)&&decide ((a.Entries.countP (inE x.Payment):Int)+dW x=x.Attempts))
def df (w:Int) (p:TPayment):Bool:=decide (p.Warrant=w)
def wB (q:TQueue) (w:Int):Nat:=q.Batches.countP fun b=>b.Payments.any (df w)
def mQ (q:TQueue) (w:Int):Nat:=(q.Batches.map fun b=>b.Payments.countP (df w)).sum
def js (q:TQueue) (w:Int):Option TPayment:=q.Waiting.find? (df w)
def nh (q:TQueue) (x:TItem):Bool:=match js q x.Payment.Warrant with
 |none=>!decide (x.State=1)
 |some w=>decide (x.State=1)&&decide (w=x.Payment)
def Ai (x:TItem):Bool:=amg x.Attempts 0 5&&(!(decide (x.Attempts=5)&&decide (x.State=1))&&!(decide (x.Attempts=0)&&!(decide (x.State=1)||decide (x.State=5))))
def qz (d:TDesk) (x:TItem):Bool:=gz x.Payment&&((bC d.Account x.Payment.Sub).2&&(amg x.State 1 5&&(Ai x&&(nh d.Queue x&&(decide ((mQ d.Queue x.Payment.Warrant:Int)=x.Attempts)&&kO d.Account x)))))
def yy (d:TDesk):Bool:=decide (d.Items.map wrt=d.Queue.Known)&&d.Items.all (qz d)
def bH (d:TDesk):Int:=if aD d.Account=0 then (if cT d.Queue=0 then (if yy d=true then 0 else 68)else cT d.Queue)else aD d.Account
def qh (x:TItem):Int:=if x.State=1 then 4 else 5
def jT (x:TItem):Int:=if x.State=1 then 0 else if x.State=5 then 0 else 1
def kR (d:TDesk) (x:TItem):Bool:=(bC d.Account x.Payment.Sub).2&&(gz x.Payment&&(amg x.State 1 5&&(amg x.Attempts (jT x) (qh x)&&(decide (decide (x.Payment∈d.Queue.Waiting)=decide (x.State=1))&&(decide ((wB d.Queue x.Payment.Warrant:Int)=x.Attempts)&&kO d.Account x)))))
def bZ (x:TItem):Bool:=decide (x.State=1)
def JU (d:TDesk):Bool:=d.Items.all (kR d)&&(decide (d.Items.map wrt=d.Queue.Known)&&decide (d.Items.countP bZ=d.Queue.Waiting.length))
theorem Me {x:TItem}:amg x.Attempts (jT x) (qh x)=Ai x:=by
 unfold Ai qh jT
 by_cases h1:x.State=1
 ·simp only[h1,if_true,decide_true,Bool.and_true,Bool.true_or,Bool.not_true,Bool.and_false,Bool.not_false,amg]
  rw[Bool.eq_iff_iff]
  simp only[Bool.and_eq_true,decide_eq_true_eq,Bool.not_eq_true',decide_eq_false_iff_not]
  omega
 ·by_cases h5:x.State=5
  ·simp[h5,amg]
  ·simp only[h1,h5,if_false,decide_false,Bool.and_false,Bool.not_false,Bool.true_and,Bool.false_or,Bool.and_true,amg]
   rw[Bool.eq_iff_iff]
   simp only[Bool.and_eq_true,decide_eq_true_eq,Bool.not_eq_true',decide_eq_false_iff_not]
   omega
theorem Mg {q:TQueue} (h:QOk q) (w:Int):mQ q w=wB q w:=by
 have each:∀b,b∈q.Batches→(b.Payments.map (·.Warrant)).Nodup:=fun b hb=>(jC h.bats b hb).2.2.1.nd
 have one:∀l:List TPayment,(l.map (·.Warrant)).Nodup→l.countP (df w)=if l.any (df w)=true then 1 else 0:=by
  intro l
  induction l with
  |nil=>intro _;rfl
  |cons p l ih=>
   intro hn
   rw[List.map_cons,List.nodup_cons]at hn
   rw[List.countP_cons,List.any_cons,ih hn.2]
   by_cases hp:p.Warrant=w
   ·have:l.any (df w)=false:=by
     refine List.any_eq_false.2 fun x hx e=>hn.1 (List.mem_map.2 ⟨x,hx,?_⟩)
     have:x.Warrant=w:=by simpa[df]using e
     omega
    have hw:df w p=true:=by simp[df,hp]
    rw[this,hw]
    rfl
   ·have:df w p=false:=by simp[df,hp]
    rw[this]
    simp
 unfold mQ wB
 revert each
 generalize q.Batches=l
 intro each
 induction l with
 |nil=>rfl
 |cons b l ih=>
  rw[List.map_cons,List.sum_cons,List.countP_cons,ih fun b hb=>each b (List.mem_cons_of_mem _ hb),one _ (each b (by simp))]
  omega
theorem Qe {l:List TItem} (h:(l.map wrt).Nodup) {x y:TItem} (hx:x∈l) (hy:y∈l) (e:x.Payment.Warrant=y.Payment.Warrant):x=y:=by
 induction l with
 |nil=>cases hx
 |cons a l ih=>
  rw[List.map_cons,List.nodup_cons]at h
  rcases List.mem_cons.1 hx with e1|hx
  ·rcases List.mem_cons.1 hy with e2|hy
   ·rw[e1,e2]
   ·exact absurd (List.mem_map.2 ⟨y,hy,by rw[wrt,←e,e1];rfl⟩) h.1
  ·rcases List.mem_cons.1 hy with e2|hy
   ·exact absurd (List.mem_map.2 ⟨x,hx,by rw[wrt,e,e2];rfl⟩) h.1
   ·exact ih h.2 hx hy
theorem lY {q:TQueue} {w:Int}:js q w=none↔∀p,p∈q.Waiting→p.Warrant≠w:=by
 simp[js,df]
theorem mj {q:TQueue} {w:Int} {p:TPayment} (h:js q w=some p):p∈q.Waiting∧p.Warrant=w:=⟨List.mem_of_find?_eq_some h,by simpa[df]using List.find?_some h⟩
theorem F2 {q:TQueue} (hn:(q.Waiting.map (·.Warrant)).Nodup) {p:TPayment} (h:p∈q.Waiting):js q p.Warrant=some p:=by
 cases hw:js q p.Warrant with
 |none=>exact absurd rfl (lY.1 hw p h)
 |some x=>
  obtain⟨h1,h2⟩:=mj hw
  rw[wF hn h1 h h2]
theorem mb {l:List Int} (h:l.Pairwise (·<·)):l.Nodup:=h.imp fun h=>by omega
theorem p7 {l:List TItem} (h:(l.map wrt).Nodup):∀f:TItem→Bool,(((l.filter f).map (·.Payment)).map (·.Warrant)).Nodup:=fun f=>by
 rw[List.map_map]
 exact h.sublist (List.filter_sublist.map _)
theorem mc {α β:Type} {f:α→β} {l:List α} (h:(l.map f).Nodup):l.Nodup:=(List.pairwise_map.1 h).imp fun hab e=>hab (congrArg f e)
theorem BF {q:TQueue} {l:List TItem} (hq:QOk q) (hk:l.map wrt=q.Known) (hw:∀x,x∈l→(x.Payment∈q.Waiting↔x.State=1)) (hc:l.countP bZ=q.Waiting.length):∀p,p∈q.Waiting→∃x,x∈l∧x.State=1∧x.Payment=p:=by
 have hnk:(l.map wrt).Nodup:=hk▸mb hq.ks
 intro p hp
 by_cases h:p∈(l.filter bZ).map (·.Payment)
 ·obtain⟨x,hx,e⟩:=List.mem_map.1 h
  obtain⟨h1,h2⟩:=List.mem_filter.1 hx
  exact⟨x,h1,by simpa[bZ]using h2,e⟩
 ·exfalso
  have hn:(p::(l.filter bZ).map (·.Payment)).Nodup:=List.nodup_cons.2 ⟨h,mc (p7 hnk bZ)⟩
  have:=hn.length_le_of_subset (l₂:=q.Waiting) fun y hy=>by
   rcases List.mem_cons.1 hy with rfl|hy
   ·exact hp
   ·obtain⟨x,hx,rfl⟩:=List.mem_map.1 hy
    obtain⟨h1,h2⟩:=List.mem_filter.1 hx
    exact (hw x h1).2 (by simpa[bZ]using h2)
  rw[List.length_cons,List.length_map,←List.countP_eq_length_filter]at this
  omega
theorem qZ {q:TQueue} {l:List TItem} (hq:QOk q) (hk:l.map wrt=q.Known):((∀x,x∈l→nh q x=true)↔(∀x,x∈l→(x.Payment∈q.Waiting↔x.State=1))∧l.countP bZ=q.Waiting.length):=by
 have hnk:(l.map wrt).Nodup:=hk▸mb hq.ks
 have hnd:=hq.asc.nd
 constructor
 ·intro h
  have h1:∀x,x∈l→(x.Payment∈q.Waiting↔x.State=1):=fun x hx=>by
   have:=h x hx
   unfold nh at this
   cases hw:js q x.Payment.Warrant with
   |none=>
    rw[hw]at this
    have h1:=lY.1 hw
    exact⟨fun hm=>absurd rfl (h1 _ hm),fun e=>by simp[e]at this⟩
   |some w=>
    rw[hw]at this
    simp only[Bool.and_eq_true,decide_eq_true_eq]at this
    exact⟨fun _=>this.1,fun _=>this.2▸(mj hw).1⟩
  refine⟨h1,?_⟩
  rw[List.countP_eq_length_filter]
  have a:=(mc (p7 hnk bZ)).length_le_of_subset (l₂:=q.Waiting) fun y hy=>by
   obtain⟨x,hx,rfl⟩:=List.mem_map.1 hy
   obtain⟨h2,h3⟩:=List.mem_filter.1 hx
   exact (h1 x h2).2 (by simpa[bZ]using h3)
  have b:=(mc hnd).length_le_of_subset (l₂:=(l.filter bZ).map (·.Payment)) fun p hp=>by
   have hw:=hq.asc.kn p hp
   rw[←hk]at hw
   obtain⟨x,hx,e⟩:=List.mem_map.1 hw
   have hb:=h x hx
   have e:x.Payment.Warrant=p.Warrant:=e
   rw[nh,e,F2 hnd hp]at hb
   simp only[Bool.and_eq_true,decide_eq_true_eq]at hb
   exact List.mem_map.2 ⟨x,List.mem_filter.2 ⟨hx,by simp[bZ,hb.1]⟩,hb.2.symm⟩
  rw[List.length_map]at a b
  omega
 ·rintro⟨h,hc⟩ x hx
  have hall:=BF hq hk h hc
  unfold nh
  cases hw:js q x.Payment.Warrant with
  |none=>
   have h1:=lY.1 hw
   simp only[Bool.not_eq_true',decide_eq_false_iff_not]
   exact fun e=>h1 _ ((h x hx).2 e) rfl
  |some w=>
   obtain⟨h1,h2⟩:=mj hw
   obtain⟨y,hy,hs,e⟩:=hall w h1
   have:x=y:=Qe hnk hx hy (by rw[←h2,e])
   subst this
   simp[hs,e]
theorem KQ {d:TDesk} (hq:QOk d.Queue):JU d=yy d:=by
 rw[Bool.eq_iff_iff]
 unfold JU yy kR qz
 simp only[Bool.and_eq_true,List.all_eq_true,decide_eq_true_eq,Me,Mg hq,decide_eq_decide]
 constructor
 ·rintro⟨h1,h2,h3⟩
  have hw:=(qZ hq h2).2 ⟨fun x hx=>(h1 x hx).2.2.2.2.1,h3⟩
  exact⟨h2,fun x hx=>⟨(h1 x hx).2.1,(h1 x hx).1,(h1 x hx).2.2.1,(h1 x hx).2.2.2.1,hw x hx,(h1 x hx).2.2.2.2.2⟩⟩
 ·rintro⟨h2,h1⟩
  obtain⟨hw,hc⟩:=(qZ hq h2).1 fun x hx=>(h1 x hx).2.2.2.2.1
  exact⟨fun x hx=>⟨(h1 x hx).2.1,(h1 x hx).1,(h1 x hx).2.2.1,(h1 x hx).2.2.2.1,hw x hx,(h1 x hx).2.2.2.2.2⟩,h2,hc⟩
def wA (w:Int) (e:TEntry):Bool:=decide (e.Ref=w)
def ltI (x y:TItem):Bool:=decide (x.Payment.Warrant<y.Payment.Warrant)
def qK (l:List TItem) (w:Int):Int:=fA (fun x=>decide (x.Payment.Warrant=w)) l
def dq (d:TDesk) (p:TPayment):TDesk×Int:=
 if bH d=0 then (if (jh d.Queue p).2=0 then (if (bC d.Account p.Sub).2=true then (if d.Account.Entries.any (wA p.Warrant)=true then (cR,65)else (⟨d.Account,(jh d.Queue p).1,ins ltI d.Items ⟨p,1,0⟩⟩,0))else (cR,60))else (cR,(jh d.Queue p).2))else (cR,bH d)
structure Done1 where
 a:TAccount
 q:TQueue
 x:TItem
 e:Int
def gk (d:TDesk) (w st:Int) (f:TDesk→TItem→Done1):TDesk×Int:=
 if bH d=0 then (match d.Items[(qK d.Items w).toNat]? with
  |none=>(cR,6)
  |some x=>if qK d.Items w<0 then (cR,6)else if x.State=st then (if (f d x).e=0 then (⟨(f d x).a,(f d x).q,d.Items.set (qK d.Items w).toNat (f d x).x⟩,0)else (cR,(f d x).e))else (cR,67))else (cR,bH d)
def zR (w:Int) (d:TDesk) (x:TItem):Done1:=⟨d.Account,(fR d.Queue w).1,⟨x.Payment,5,x.Attempts⟩,(fR d.Queue w).2⟩
def MF (d:TDesk) (x:TItem):Done1:=⟨d.Account,d.Queue,⟨x.Payment,3,x.Attempts⟩,0⟩
def uh (w day:Int) (d:TDesk) (x:TItem):Done1:=⟨(bF d.Account (bT d.Account day 0 x.Payment.Sub x.Payment.Amount w)).1,d.Queue,⟨x.Payment,4,x.Attempts⟩,(bF d.Account (bT d.Account day 0 x.Payment.Sub x.Payment.Amount w)).2⟩
def eD (d:TDesk) (w:Int):TDesk×Int:=gk d w 1 (zR w)
def ez (d:TDesk) (w:Int):TDesk×Int:=gk d w 2 MF
def eu (d:TDesk) (w day:Int):TDesk×Int:=gk d w 2 (uh w day)
def eL (day:Int):List TPayment→TAccount→List Int→Bool→TAccount×List Int×Bool
 |[],a,ws,full=>(a,ws,full)
 |p::l,a,ws,full=>if ws.length=10 then (a,ws,full)else
  if (bF a (bT a day p.Sub 0 p.Amount p.Warrant)).2=0 then eL day l (bF a (bT a day p.Sub 0 p.Amount p.Warrant)).1 (ws++[p.Warrant]) full else eL day l a ws (full||decide ((bF a (bT a day p.Sub 0 p.Amount p.Warrant)).2=3))
def fa (ws:List Int) (x:TItem):TItem:=if x.Payment.Warrant∈ws then⟨x.Payment,2,x.Attempts+1⟩else x
def iF (a:TAccount):Int:=(cG a).Day
def goD (d:TDesk) (day:Int):TAccount×List Int×Bool:=eL day (fU d.Queue day) d.Account [] false
def dD (d:TDesk) (day:Int):TDesk×TBatch×Int:=
 if bH d=0 then (if gW day=true then (if day<fQ d.Queue∨day<iF d.Account then (cR,dy,8)else
  if (goD d day).2.1.length=0 then (cR,dy,if (goD d day).2.2=true then 3 else 10)else
  if (cC d.Queue day (goD d day).2.1).2.2=0 then (⟨(goD d day).1,(cC d.Queue day (goD d day).2.1).1,d.Items.map (fa (goD d day).2.1)⟩,(cC d.Queue day (goD d day).2.1).2.1,0)else (cR,dy,(cC d.Queue day (goD d day).2.1).2.2))else (cR,dy,66))else (cR,dy,bH d)
structure DOk (d:TDesk):Prop where
 a:aD d.Account=0
 q:QOk d.Queue
 k:d.Items.map wrt=d.Queue.Known
 i:∀x,x∈d.Items→qz d x=true
theorem dK {d:TDesk}:bH d=0↔DOk d:=by
 unfold bH
 split
 ·rename_i h1
  split
  ·rename_i h2
   split
   ·rename_i h3
    rw[yy,Bool.and_eq_true,decide_eq_true_eq,List.all_eq_true]at h3
    exact⟨fun _=>⟨h1,dI.1 h2,h3.1,h3.2⟩,fun _=>rfl⟩
   ·rename_i h3
    refine⟨fun e=>absurd e (by decide),fun h=>absurd ?_ h3⟩
    rw[yy,Bool.and_eq_true,decide_eq_true_eq,List.all_eq_true]
    exact⟨h.k,h.i⟩
  ·rename_i h2
   exact⟨fun e=>absurd e h2,fun h=>absurd (dI.2 h.q) h2⟩
 ·rename_i h1
  exact⟨fun e=>absurd e h1,fun h=>absurd h.a h1⟩
open Go.PA
open Go.RowKit
theorem BD (n:Int):PFun Tryz.prog none none 50 [iv n] (·=bv (vB n)):=by
 refine ab Tryz.func50 rfl (by simp[Tryz.f50]) (by kernel_rfl) ?_
 intro E hP hr hs hW hN
 by_cases h1:0≤n<;>by_cases h2:n≤1000000000000<;>simp -dsimp -implicitDefEqProofs [-getElem?_pos,go_sem,hP,h1,h2,vB,bn]
theorem mS (n lo hi:Int):PFun Tryz.prog none none 95 [iv n,iv lo,iv hi] (·=bv (bn n lo hi)):=by
 refine ab Tryz.func95 rfl (by simp[Tryz.f95]) (by kernel_rfl) ?_
 intro E hP hr hs hW hN
 by_cases h1:lo≤n<;>by_cases h2:n≤hi<;>simp -dsimp -implicitDefEqProofs [-getElem?_pos,go_sem,hP,h1,h2,bn]
theorem BN (n:Int):PFun Tryz.prog none none 253 [iv n] (·=bv (decide (0<n)&&vB n)):=by
 refine ab Tryz.func253 rfl (by simp[Tryz.f253]) (by kernel_rfl) ?_
 intro E hP hr hs hW hN
 by_cases h1:0<n
 ·have d1:decide (0<n)=true:=decide_eq_true h1
  simp -dsimp -implicitDefEqProofs [-getElem?_pos,go_sem,hP,d1]
  refine ah (BD n) hP CH (ai (by simp -dsimp[-getElem?_pos,go_sem])) .sc ?_
  simp -dsimp -implicitDefEqProofs [-getElem?_pos,go_sem,hP,d1]
 ·simp -dsimp -implicitDefEqProofs [-getElem?_pos,go_sem,hP,h1]
theorem EO (l:List TSub) (hl:l.length≤100000):PFun Tryz.prog none none 131 [aL l] (·=eU (ids l)):=by
 refine ab Tryz.func131 rfl (by simp[Tryz.f131]) (by kernel_rfl) ?_
 intro E hP hr hs hW hN
 simp -dsimp -implicitDefEqProofs [-getElem?_pos,go_sem,hP]
 refine eJ 3 3 1 (by simp -dsimp[-getElem?_pos,go_sem]) ?_
 obtain⟨I,hI⟩:∃I:Nat→St→Prop,I=fun m s=>∃k id:Nat,k≤l.length∧m=l.length-k∧s.t 6=aL l∧s.t 7=iv l.length∧s.t 8=iv k∧s.t 3= .sref id 0 k∧s.H[id]?=some (some ⟨3,1,aj aS (ids (l.take k))⟩):=⟨_,rfl⟩
 refine zQ 3 hW I (l.length) (by rw[hN];rfl) ?_ ?_
 ·rw[hI]
  exact⟨0,0,by omega,by omega,by simp -dsimp[-getElem?_pos,go_sem],by simp -dsimp[-getElem?_pos,go_sem],by simp -dsimp[-getElem?_pos,go_sem],by simp -dsimp[-getElem?_pos,go_sem],by simp -dsimp[-getElem?_pos,go_sem,ids]⟩
 intro m s hs'
 rw[hI]at hs'
 obtain⟨k,id,hk,hm,t6,t7,t8,t3,hH⟩:=hs'
 have hlt:=(gsI hH)
 have hz:(ids (l.take k)).length=k:=by rw[fo];simp;omega
 simp -dsimp -implicitDefEqProofs [-getElem?_pos,go_sem,hP,t7,t8]
 refine aB (fun h=>?_) (fun h=>?_)
 ·have hk:k<l.length:=by simpa using h
  obtain⟨a,ha⟩:∃a,l[k]?=some a:=⟨_,List.getElem?_eq_getElem hk⟩
  have wk:=af ((k:Int)+1) (by omega)
  have e1:ids (l.take (k+1))=ids (l.take k)++[a.ID]:=by rw[List.take_add_one,ha];simp[ids]
  simp -dsimp -implicitDefEqProofs [-getElem?_pos,go_sem,hP,t6,t8,t3,ha,TSub.cells,hH,hz,hlt,wk]
  refine⟨by omega,by omega,?_⟩
  refine⟨l.length-(k+1),by omega,?_⟩
  rw[hI]
  exact⟨k+1,s.H.length+1,by omega,rfl,by simp -dsimp[-getElem?_pos,go_sem,t6],by simp -dsimp[-getElem?_pos,go_sem,t7],by simp -dsimp[-getElem?_pos,go_sem],by simp -dsimp[-getElem?_pos,go_sem],by rw[e1,←ba];simp -dsimp -implicitDefEqProofs [-getElem?_pos,go_sem,aS]⟩
 ·have hk:k=l.length:=by simp at h;omega
  subst hk
  refine frz id _ 3 1 (aj aS (ids l)) t3 (by rw[hH,List.take_length]) (by rw[al,fo]) (fY _) ?_
  simp -dsimp -implicitDefEqProofs [-getElem?_pos,go_sem,hP]
  exact aw (fY _) rfl
set_option maxHeartbeats 1000000 in
theorem CL (l:List Int) (hl:l.length≤100000):PFun Tryz.prog none none 51 [eU l] (·=bv (jb l)):=by
 refine ab Tryz.func51 rfl (by simp[Tryz.f51]) (by kernel_rfl) ?_
 intro E hP hr hs hW hN
 simp -dsimp -implicitDefEqProofs [-getElem?_pos,go_sem,hP]
 obtain⟨I,hI⟩:∃I:Nat→St→Prop,I=fun m s=>∃(k:Nat) (p:Int),k≤l.length∧m=l.length-k∧tU 0 l=tU p (l.drop k)∧(k=0→p=0)∧(∀j x,k=j+1→l[j]?=some x→p=x)∧s.t 0=eU l∧s.t 5=eU l∧s.t 6=iv l.length∧s.t 7=iv k:=⟨_,rfl⟩
 refine ay I (l.length) (by rw[hN];rfl) ?_ ?_
 ·rw[hI]
  exact⟨0,0,by omega,by omega,by simp,by simp,by omega,by simp -dsimp[-getElem?_pos,go_sem],by simp -dsimp[-getElem?_pos,go_sem],by simp -dsimp[-getElem?_pos,go_sem],by simp -dsimp[-getElem?_pos,go_sem]⟩
 intro m s hs'
 rw[hI]at hs'
 obtain⟨k,p,hk,hm,hasc,hp0,hp1,t0,t5,t6,t7⟩:=hs'
 simp -dsimp -implicitDefEqProofs [-getElem?_pos,go_sem,hP,t6,t7]
 refine aB (fun h=>?_) (fun h=>?_)
 ·have hk:k<l.length:=by simpa using h
  obtain⟨x,hx⟩:∃x,l[k]?=some x:=⟨_,List.getElem?_eq_getElem hk⟩
  have wk:=af ((k:Int)+1) (by omega)
  have hdr:l.drop k=x::l.drop (k+1):=by
   obtain⟨h2,h3⟩:=List.getElem?_eq_some_iff.1 hx
   rw[List.drop_eq_getElem_cons h2,h3]
  rw[hdr,tU]at hasc
  have fin:∀s':St,(bn x 1 1000&&decide (p<x))=true→s'.t 0=s.t 0→s'.t 5=s.t 5→s'.t 6=s.t 6→s'.t 7=iv ((k:Int)+1)→∃n',n'<m∧I n' s':=fun s' hc e0 e5 e6 e7=>by
   refine⟨l.length-(k+1),by omega,?_⟩
   rw[hI]
   simp only[Bool.and_eq_true]at hc
   refine⟨k+1,x,by omega,rfl,by rw[hasc,hc.1,hc.2];simp,by omega,fun j y hj hy=>?_,by rw[e0,t0],by rw[e5,t5],by rw[e6,t6],by rw[e7];simp⟩
   have:j=k:=by omega
   subst this
   rw[hx]at hy
   exact Option.some.inj hy
  have bad:(bn x 1 1000&&decide (p<x))=false→jb l=false:=fun h=>by
   rw[jb,hasc,←Bool.and_assoc (bn _ _ _),h];simp
  simp -dsimp -implicitDefEqProofs [-getElem?_pos,go_sem,hP,t5,t7,hx,aS]
  refine ah (mS x 1 1000) hP Bn (ai (by simp -dsimp[-getElem?_pos,go_sem])) .sc ?_
  by_cases c1:bn x 1 1000=true
  rotate_left
  ·have:jb l=false:=bad (by simp[c1])
   simp -dsimp -implicitDefEqProofs [-getElem?_pos,go_sem,hP,c1,this]
  rcases Nat.eq_zero_or_pos k with hk0|hkp
  ·have d1:decide (0<k)=false:=decide_eq_false (by omega)
   simp -dsimp -implicitDefEqProofs [-getElem?_pos,go_sem,hP,c1,d1,t7,wk]
   exact fin _ (by have:=hp0 hk0;have:=gX.1 c1;simp[c1];omega) (by simp -dsimp[-getElem?_pos,go_sem]) (by simp -dsimp[-getElem?_pos,go_sem]) (by simp -dsimp[-getElem?_pos,go_sem]) (by simp -dsimp[-getElem?_pos,go_sem])
  ·obtain⟨j,rfl⟩:∃j,k=j+1:=⟨k-1,by omega⟩
   obtain⟨y,hy⟩:∃y,l[j]?=some y:=⟨_,List.getElem?_eq_getElem (by omega)⟩
   have d1:decide ((0:Int)<(j:Int)+1)=true:=decide_eq_true (by omega)
   have wj:=af ((j:Int)+1-1) (by omega)
   rw[Int.add_sub_cancel]at wj
   have hpy:=hp1 j y rfl hy
   have wk':=af ((j:Int)+1+1) (by omega)
   by_cases c3:x≤y
   ·have:jb l=false:=bad (by simp[c1];omega)
    simp -dsimp -implicitDefEqProofs [-getElem?_pos,go_sem,hP,c1,d1,t0,Int.add_sub_cancel,wj,hy,aS,c3,this]
   ·simp -dsimp -implicitDefEqProofs [-getElem?_pos,go_sem,hP,c1,d1,t0,Int.add_sub_cancel,wj,hy,aS,c3,t7,wk']
    exact fin _ (by simp[c1];omega) (by simp -dsimp[-getElem?_pos,go_sem]) (by simp -dsimp[-getElem?_pos,go_sem]) (by simp -dsimp[-getElem?_pos,go_sem]) (by simp -dsimp[-getElem?_pos,go_sem])
 ·have hk:k=l.length:=by simp at h;omega
  subst hk
  rw[List.drop_length]at hasc
  have hasc:tU 0 l=true:=hasc
  cases l with
  |nil=>simp -dsimp -implicitDefEqProofs [-getElem?_pos,go_sem,hP,t0,jb]
  |cons x l=>
   have:jb (x::l)=decide (x=1):=by rw[jb,hasc];simp
   simp -dsimp -implicitDefEqProofs [-getElem?_pos,go_sem,hP,t0,this,aS]
structure Teller (H:ac) (p q:Nat) (credit n d:Int) (l:List TSub):Prop where
 ne:p≠q
 obj:H[p]?=some (some ⟨216,4,[[iv credit,iv n,iv d,.sref q 0 l.length]]⟩)
 subs:H[q]?=some (some ⟨121,2,aj TSub.cells l⟩)
theorem Teller.kept {H H':ac} {p q:Nat} {credit n d:Int} {l:List TSub} {X:List Nat} (h:Teller H p q credit n d l) (hk:Kept X H H') (hp:p∉X) (hq:q∉X):Teller H' p q credit n d l:=
 ⟨h.ne,hk _ _ hp h.obj,hk _ _ hq h.subs⟩
theorem Teller.ltp {H:ac} {p q:Nat} {credit n d:Int} {l:List TSub} (h:Teller H p q credit n d l):p<H.length:=(List.getElem?_eq_some_iff.1 h.obj).1
theorem Teller.ltq {H:ac} {p q:Nat} {credit n d:Int} {l:List TSub} (h:Teller H p q credit n d l):q<H.length:=(List.getElem?_eq_some_iff.1 h.subs).1
theorem Oj {row src:Option Nat} (g:FuncId) (fn:Func) (hg:True) (a:TSub) (H:ac) (b:Nat) (id:Int) (hb:H[b]?=some (some ⟨3,1,[[iv id]]⟩)):
  MFun Tryz.prog row src 313 [.agg a.cells,.ref b 0 0] H (fun r H'=>r=bv (decide (a.ID=id))∧Kept [] H H'):=by
 refine aI Tryz.func313 rfl (by simp[Tryz.f313]) (by kernel_rfl) (⟨_,H,rfl,au _ _⟩) ?_
 intro E hP hr hs hN
 have hlt:=(gsI hb)
 simp -dsimp -implicitDefEqProofs [-getElem?_pos,go_sem,hP,TSub.cells,hb,hlt]
 exact eQ _ (au _ _)
theorem Fe {row src:Option Nat} {H:ac} {p q:Nat} {credit n d:Int} {l:List TSub} (h:Teller H p q credit n d l) (hl:l.length≤100000) (id:Int):
  MFun Tryz.prog row src 292 [.ref p 0 0,iv id] H (fun r H'=>r=iv (fj l id)∧Kept [] H H'):=by
 refine aI Tryz.func292 rfl (by simp[Tryz.f292]) (by kernel_rfl) (⟨_,H,rfl,au _ _⟩) ?_
 intro E hP hr hs hN
 have ho:=h.obj
 have hlt:=h.ltp
 simp -dsimp -implicitDefEqProofs [-getElem?_pos,go_sem,hP,ho,hlt]
 refine aM (by rw[hr,hs];exact sT l (.sref q 0 l.length) _ 313 [.ref H.length 0 0] (fun s=>decide (s.ID=id)) (.inr (.inr ⟨q,121,by rw[al],by rw[List.getElem?_append_left h.ltq];exact h.subs⟩)) (by omega) Pe (fun a _ H' hk=>Oj 0 default trivial a H' _ id (hk _ _ (by simp) (by simp)))) hP It ?_
 rintro r H' ⟨rfl,hk⟩
 simp -dsimp -implicitDefEqProofs [-getElem?_pos,go_sem,hP]
 exact⟨rfl,(eQ _ (au _ _)).trans hk⟩
theorem FD {row src:Option Nat} {H:ac} {p q:Nat} {credit n d:Int} {l:List TSub} (h:Teller H p q credit n d l) (hl:l.length≤100000) (id:Int):
  MFun Tryz.prog row src 254 [.ref p 0 0,iv id] H (fun r H'=>r=bv (gY l id)∧Kept [] H H'):=by
 refine aI Tryz.func254 rfl (by simp[Tryz.f254]) (by kernel_rfl) (⟨_,H,rfl,au _ _⟩) ?_
 intro E hP hr hs hN
 by_cases h0:id=0
 ·have d0:decide (id=0)=true:=decide_eq_true h0
  simp -dsimp -implicitDefEqProofs [-getElem?_pos,go_sem,hP,d0,gY]
  exact au _ _
 ·simp -dsimp -implicitDefEqProofs [-getElem?_pos,go_sem,hP,h0,gY]
  refine aM (by rw[hr,hs];exact Fe h hl id) hP J5 ?_
  rintro r H' ⟨rfl,hk⟩
  simp -dsimp -implicitDefEqProofs [-getElem?_pos,go_sem,hP,h0,gY]
  exact hk
theorem yN {H H':ac} {X:List Nat} {p q:Nat} {o o':AObj} (hk:Kept X H H') (hp:H[p]?=some (some o)) (hq:H[q]?=some (some o')) (np:p∉X) (nq:q∉X):Agree (fun i=>decide (i=p)||decide (i=q)) H H':=fun i hi=>by
 simp only[Bool.or_eq_true,decide_eq_true_eq]at hi
 rcases hi with rfl|rfl
 ·rw[hp,hk _ _ np hp]
 ·rw[hq,hk _ _ nq hq]
theorem Nl {row src:Option Nat} {H:ac} {p q:Nat} {credit n d:Int} {l:List TSub} (h:Teller H p q credit n d l) (hl:l.length≤100000) (hc:0≤credit∧credit≤1000000000000) (hn:(ids l).Nodup) (h0:0∉ids l) (hok:lJ credit l=true)
  (id amt:Int) (hid:id=0∨id∈ids l) (ham: -1000000000000≤amt∧amt≤1000000000000):
  MFun Tryz.prog row src 255 [.ref p 0 0,iv id,iv amt] H (fun r H'=>r=bv (ek credit (adj l id amt) id)∧Teller H' p q credit n d (adj l id amt)∧Kept [q] H H'):=by
 have hadj:(adj l id amt).length=l.length:=bm _ _ _
 refine aI Tryz.func255 rfl (by simp[Tryz.f255]) (by kernel_rfl) (⟨_,H.set q (some ⟨121,2,aj TSub.cells (adj l id amt)⟩),rfl,⟨h.ne,by rw[List.getElem?_set_ne h.ne.symm,hadj];exact h.obj,by rw[List.getElem?_set_self h.ltq]⟩,bK _ (by simp) (au _ _)⟩) ?_
 intro E hP hr hs hN
 by_cases hz:id=0
 ·subst hz
  have e1:adj l 0 amt=l:=qu h0
  have e2:ek credit l 0=true:=nT h0
  simp -dsimp -implicitDefEqProofs [-getElem?_pos,go_sem,hP,e1,e2]
  exact⟨h,au _ _⟩
 have hm:id∈ids l:=hid.resolve_left hz
 have ho:=h.obj
 have hlt:=h.ltp
 rcases iW l id with⟨_,h2⟩|⟨i,a,hi,ha,hp,_⟩
 ·exact absurd hm h2
 simp -dsimp -implicitDefEqProofs [-getElem?_pos,go_sem,hP,hz,ho,hlt]
 have hq:=h.subs
 refine ao (fun i=>decide (i=p)||decide (i=q)) [] hP (by kernel_rfl) (by kernel_rfl) ?_
 simp -dsimp -implicitDefEqProofs [-getElem?_pos,go_sem,hP,ho,hlt,ax]
 refine aM (by rw[hr,hs];exact Fe h hl id) hP J5 ?_
 rintro r H' ⟨rfl,hk⟩
 simp -dsimp -implicitDefEqProofs [-getElem?_pos,go_sem,hP,hp]
 have h':=h.kept hk (by simp) (by simp)
 have ho':=h'.obj
 have hq':=h'.subs
 have hil:=(gsI hi)
 have hlq:=h'.ltq
 have hlp:=h'.ltp
 have hne:¬q=p:=fun e=>h.ne e.symm
 have bnd:=zC hc (List.all_eq_true.1 hok a (List.mem_of_getElem? hi))
 have wa:=af (a.Balance+amt) (by omega)
 have set1:(aj TSub.cells l).set i [iv a.ID,iv (a.Balance+amt)]=aj TSub.cells (adj l id amt):=by
  rw[←ha,←qF hn hi,←fD]
  rfl
 have g1:(adj l id amt)[i]?=some ⟨a.ID,a.Balance+amt⟩:=by rw[jz,hi,←ha];simp
 have o1:ek credit (adj l id amt) id=eK credit ⟨a.ID,a.Balance+amt⟩:=by
  rw[←ha]at g1⊢
  exact m5 (by rw[fu];exact hn) g1
 have fin:∀H'',Kept [] (H'.set q (some ⟨121,2,aj TSub.cells (adj l id amt)⟩)) H''→Teller H'' p q credit n d (adj l id amt)∧Kept [q] H H'':=fun H'' hk2=>by
  have t:Teller (H'.set q (some ⟨121,2,aj TSub.cells (adj l id amt)⟩)) p q credit n d (adj l id amt):=⟨h.ne,by rw[List.getElem?_set_ne h.ne.symm,hadj];exact ho',by rw[List.getElem?_set_self hlq]⟩
  exact⟨t.kept hk2 (by simp) (by simp),(bK _ (by simp) (hk.mono (by simp))).trans (hk2.mono (by simp))⟩
 simp -dsimp -implicitDefEqProofs [-getElem?_pos,go_sem,hP,hz,ax,hq',hil]
 refine⟨yN hk ho hq (by simp) (by simp),?_⟩
 by_cases h1:id=1
 ·have d1:decide (id=1)=true:=decide_eq_true h1
  have wn:=af (-credit) (by omega)
  simp -dsimp -implicitDefEqProofs [-getElem?_pos,go_sem,hP,hp,hil,hq',hi,TSub.cells,wa,hlq,set1,d1,ho',hne,hlp,wn,g1]
  refine ah (mS (a.Balance+amt) (-credit) 1000000000000000) hP Bn (ai (by simp -dsimp[-getElem?_pos,go_sem])) .sc ?_
  simp -dsimp -implicitDefEqProofs [-getElem?_pos,go_sem,hP]
  refine⟨?_,fin _ (au _ _)⟩
  rw[o1]
  simp[eK,bn,ha,h1]
 ·simp -dsimp -implicitDefEqProofs [-getElem?_pos,go_sem,hP,hp,hil,hq',hi,TSub.cells,wa,hlq,set1,h1,g1]
  refine ah (mS (a.Balance+amt) 0 1000000000000000) hP Bn (ai (by simp -dsimp[-getElem?_pos,go_sem])) .sc ?_
  simp -dsimp -implicitDefEqProofs [-getElem?_pos,go_sem,hP]
  refine⟨?_,fin _ (au _ _)⟩
  rw[o1]
  simp[eK,bn,ha,h1]
set_option maxHeartbeats 1000000 in
theorem MQ {row src:Option Nat} {H:ac} {p q:Nat} {credit n d:Int} {l:List TSub} (h:Teller H p q credit n d l) (hl:l.length≤100000) (hc:0≤credit∧credit≤1000000000000) (hn:(ids l).Nodup) (h0:0∉ids l) (hok:lJ credit l=true)
  (hnn:0≤n∧n≤100000) (e:TEntry):
  MFun Tryz.prog row src 185 [.ref p 0 0,.agg e.cells] H (fun r H'=>r=iv (aT credit n d l e).1∧((aT credit n d l e).1=0→Teller H' p q credit e.Number e.Day (aT credit n d l e).2)∧Kept [p,q] H H'):=by
 have post:∃r H',r=iv (aT credit n d l e).1∧((aT credit n d l e).1=0→Teller H' p q credit e.Number e.Day (aT credit n d l e).2)∧Kept [p,q] H H':=
  ⟨_,(H.set q (some ⟨121,2,aj TSub.cells (aT credit n d l e).2⟩)).set p (some ⟨216,4,[[iv credit,iv e.Number,iv e.Day,.sref q 0 (aT credit n d l e).2.length]]⟩),rfl,fun _=>⟨h.ne,by rw[List.getElem?_set_self (by simp;exact h.ltp)],by rw[List.getElem?_set_ne h.ne,List.getElem?_set_self h.ltq]⟩,bK _ (by simp) (bK _ (by simp) (au _ _))⟩
 obtain⟨C,hC⟩:∃C:AV→ac→Prop,C=fun r H'=>r=iv (aT credit n d l e).1∧((aT credit n d l e).1=0→Teller H' p q credit e.Number e.Day (aT credit n d l e).2)∧Kept [p,q] H H':=⟨_,rfl⟩
 rw[←hC]
 have post:∃r H',C r H':=hC▸post
 refine aI Tryz.func185 rfl (by simp[Tryz.f185]) (by kernel_rfl) (post) ?_
 intro E hP hr hs hN
 have ho:=h.obj
 have hlt:=h.ltp
 have wn:=af (n+1) (by omega)
 have bad:∀(c:Int) (H'':ac),(aT credit n d l e).1=c→c≠0→Kept [p,q] H H''→C (iv c) H'':=fun c H'' h1 h2 h3=>by
  rw[hC]
  exact⟨by rw[h1],fun h4=>absurd (h1.symm.trans h4) h2,h3⟩
 have kb:=eQ (X:=[p,q]) (some ⟨75,6,[[iv e.Number,iv e.Day,iv e.From,iv e.To,iv e.Amount,iv e.Ref]]⟩) (au [p,q] H)
 have hB:Teller (H++[some ⟨75,6,[[iv e.Number,iv e.Day,iv e.From,iv e.To,iv e.Amount,iv e.Ref]]⟩]) p q credit n d l:=h.kept (X:=[]) (eQ _ (au _ _)) (by simp) (by simp)
 simp -dsimp -implicitDefEqProofs [-getElem?_pos,go_sem,hP,cE]
 refine ao (fun _=>true) [] hP (by kernel_rfl) (by kernel_rfl) ?_
 simp -dsimp -implicitDefEqProofs [-getElem?_pos,go_sem,hP,ho,hlt,wn]
 by_cases c1:e.Number=n+1
 rotate_left
 ·have b1:kU n e=true:=by simp[kU,c1]
  simp -dsimp -implicitDefEqProofs [-getElem?_pos,go_sem,hP,c1]
  exact bad 65 _ (by rw[aT,if_pos b1]) (by omega) kb
 have b1:¬kU n e=true:=by simp[kU,c1]
 have d1:decide (e.Number=n+1)=true:=decide_eq_true c1
 simp -dsimp -implicitDefEqProofs [-getElem?_pos,go_sem,hP,d1]
 refine ao (fun _=>true) [] hP (by kernel_rfl) (by kernel_rfl) ?_
 simp -dsimp -implicitDefEqProofs [-getElem?_pos,go_sem,hP,ho,hlt]
 refine ah (mS e.Day d 36000) hP Bn (ai (by simp -dsimp[-getElem?_pos,go_sem])) .sc ?_
 by_cases c2:bn e.Day d 36000=true
 rotate_left
 ·have b2:jk d e=true:=by simp[jk,c2]
  simp -dsimp -implicitDefEqProofs [-getElem?_pos,go_sem,hP,c2,ph]
  exact bad 8 _ (by rw[aT,if_neg b1,if_pos b2]) (by omega) kb
 have b2:¬jk d e=true:=by simp[jk,c2]
 simp -dsimp -implicitDefEqProofs [-getElem?_pos,go_sem,hP,c2,ph]
 refine ah (BN e.Amount) hP NU (ai (by simp -dsimp[-getElem?_pos,go_sem])) .sc ?_
 by_cases c3:(decide (0<e.Amount)&&vB e.Amount)=true
 rotate_left
 ·have b3:jN e=true:=by simp[jN,c3]
  have c3:(decide (0<e.Amount)&&vB e.Amount)=false:=by simpa using c3
  simp -dsimp -implicitDefEqProofs [-getElem?_pos,go_sem,hP,c3]
  exact bad 2 _ (by rw[aT,if_neg b1,if_neg b2,if_pos b3]) (by omega) kb
 simp -dsimp -implicitDefEqProofs [-getElem?_pos,go_sem,hP,c3]
 refine ah (mS e.Ref 0 1000000) hP Bn (ai (by simp -dsimp[-getElem?_pos,go_sem])) .sc ?_
 by_cases c4:bn e.Ref 0 1000000=true
 rotate_left
 ·have b3:jN e=true:=by simp[jN,c4]
  simp -dsimp -implicitDefEqProofs [-getElem?_pos,go_sem,hP,c3,c4]
  exact bad 2 _ (by rw[aT,if_neg b1,if_neg b2,if_pos b3]) (by omega) kb
 have b3:¬jN e=true:=by simp[jN,c3,c4]
 have am:0<e.Amount∧e.Amount≤1000000000000:=by
  simp only[Bool.and_eq_true,decide_eq_true_eq,vB,gX]at c3
  omega
 have p60:dL l e=true→(aT credit n d l e).1=60:=fun h=>by rw[aT,if_neg b1,if_neg b2,if_neg b3,if_pos h]
 simp -dsimp -implicitDefEqProofs [-getElem?_pos,go_sem,hP,c3,c4]
 by_cases c5:e.From=e.To
 ·have d5:decide (e.From=e.To)=true:=decide_eq_true c5
  simp -dsimp -implicitDefEqProofs [-getElem?_pos,go_sem,hP,d5]
  exact bad 60 _ (p60 (by simp[dL,c5])) (by omega) kb
 simp -dsimp -implicitDefEqProofs [-getElem?_pos,go_sem,hP,c5]
 refine aM (by rw[hr,hs];exact FD hB hl e.From) hP IY ?_
 rintro r H1 ⟨rfl,hk1⟩
 have h1:=hB.kept hk1 (by simp) (by simp)
 have o1:=hk1 H.length ⟨75,6,[[iv e.Number,iv e.Day,iv e.From,iv e.To,iv e.Amount,iv e.Ref]]⟩ (by simp) (by simp)
 have l1:=(gsI o1)
 by_cases c6:gY l e.From=true
 rotate_left
 ·simp -dsimp -implicitDefEqProofs [-getElem?_pos,go_sem,hP,c5,c6]
  exact bad 60 _ (p60 (by simp[dL,c6])) (by omega) (kb.trans (hk1.mono (by simp)))
 simp -dsimp -implicitDefEqProofs [-getElem?_pos,go_sem,hP,c5,c6,o1,l1]
 refine aM (by rw[hr,hs];exact FD h1 hl e.To) hP IY ?_
 rintro r H2 ⟨rfl,hk2⟩
 have h2:=h1.kept hk2 (by simp) (by simp)
 have o2:=hk2 _ _ (by simp) o1
 have l2:=(gsI o2)
 have k2:=kb.trans ((hk1.trans hk2).mono (Y:=[p,q]) (by simp))
 by_cases c7:gY l e.To=true
 rotate_left
 ·simp -dsimp -implicitDefEqProofs [-getElem?_pos,go_sem,hP,c5,c6,c7]
  exact bad 60 _ (p60 (by simp[dL,c7])) (by omega) k2
 have b4:¬dL l e=true:=by simp[dL,c5,c6,c7]
 have pS:aT credit n d l e=if ek credit (adj l e.From (-e.Amount)) e.From=false then (61,adj l e.From (-e.Amount))else
   if ek credit (adj (adj l e.From (-e.Amount)) e.To e.Amount) e.To=false then (61,adj (adj l e.From (-e.Amount)) e.To e.Amount)else (0,adj (adj l e.From (-e.Amount)) e.To e.Amount):=by
  rw[aT,if_neg b1,if_neg b2,if_neg b3,if_neg b4]
 have wa:=af (-e.Amount) (by omega)
 simp -dsimp -implicitDefEqProofs [-getElem?_pos,go_sem,hP,c5,c6,c7,o2,l2,wa]
 refine aM (by rw[hr,hs];exact Nl h2 hl hc hn h0 hok e.From (-e.Amount) ((l6 _ _).1 c6) (by omega)) hP JC ?_
 rintro r H3 ⟨rfl,h3,hk3⟩
 have nq:¬H.length=q:=by have:=h.ltq;omega
 have np:¬H.length=p:=by have:=h.ltp;omega
 have o3:=hk3 _ _ (by simp[nq]) o2
 have l3:=(gsI o3)
 have k3:=k2.trans (hk3.mono (Y:=[p,q]) (by simp))
 by_cases c8:ek credit (adj l e.From (-e.Amount)) e.From=true
 rotate_left
 ·have c8:ek credit (adj l e.From (-e.Amount)) e.From=false:=by simpa using c8
  simp -dsimp -implicitDefEqProofs [-getElem?_pos,go_sem,hP,c8]
  exact bad 61 _ (by rw[pS,if_pos c8]) (by omega) k3
 rw[if_neg (by simp[c8])]at pS
 simp -dsimp -implicitDefEqProofs [-getElem?_pos,go_sem,hP,c8,o3,l3]
 refine aM (by rw[hr,hs];exact Nl h3 (by rw[bm];omega) hc (by rw[fu];exact hn) (by rw[fu];exact h0) (r6 hok c8) e.To e.Amount (by rw[fu];exact (l6 _ _).1 c7) (by omega)) hP JC ?_
 rintro r H4 ⟨rfl,h4,hk4⟩
 have o4:=hk4 _ _ (by simp[nq]) o3
 have l4:=(gsI o4)
 have k4:=k3.trans (hk4.mono (Y:=[p,q]) (by simp))
 by_cases c9:ek credit (adj (adj l e.From (-e.Amount)) e.To e.Amount) e.To=true
 rotate_left
 ·have c9:ek credit (adj (adj l e.From (-e.Amount)) e.To e.Amount) e.To=false:=by simpa using c9
  simp -dsimp -implicitDefEqProofs [-getElem?_pos,go_sem,hP,c8,c9]
  exact bad 61 _ (by rw[pS,if_pos c9]) (by omega) k4
 rw[if_neg (by simp[c9])]at pS
 have ho4:=h4.obj
 have hp4:=h4.ltp
 simp -dsimp -implicitDefEqProofs [-getElem?_pos,go_sem,hP,c8,c9]
 refine ao (fun i=>decide (i=H.length)) [6,7,9,10,11] hP (by kernel_rfl) (by kernel_rfl) ?_
 simp -dsimp -implicitDefEqProofs [-getElem?_pos,go_sem,hP,o4,l4,ho4,hp4]
 refine⟨fun i hi=>?_,?_⟩
 ·simp only[decide_eq_true_eq]at hi
  subst hi
  rw[List.getElem?_set_ne (Ne.symm np)]
 rw[hC,pS]
 refine⟨rfl,fun _=>⟨h.ne,by rw[List.getElem?_set_self hp4],by rw[List.getElem?_set_ne h.ne];exact h4.subs⟩,bK _ (by simp) k4⟩
set_option maxHeartbeats 1000000 in
theorem ME {row src:Option Nat} (a:TAccount) (H:ac) (hl:a.Subs.length≤100000) (hne:a.Subs≠[]):
  MFun Tryz.prog row src 194 [.agg a.cells] H (fun r H'=>∃p q,r= .ref p 0 0∧H.length≤p∧H.length≤q∧Teller H' p q a.Credit 0 0 (cv a.Subs)∧Kept [] H H'):=by
 obtain⟨C,hC⟩:∃C:AV→ac→Prop,C=fun r H'=>∃p q,r= .ref p 0 0∧H.length≤p∧H.length≤q∧Teller H' p q a.Credit 0 0 (cv a.Subs)∧Kept [] H H':=⟨_,rfl⟩
 rw[←hC]
 have ex:∃r H',C r H':=⟨.ref H.length 0 0,H++[some ⟨216,4,[[iv a.Credit,iv 0,iv 0,.sref (H.length+1) 0 (cv a.Subs).length]]⟩,some ⟨121,2,aj TSub.cells (cv a.Subs)⟩],by
  rw[hC]
  exact⟨H.length,H.length+1,rfl,Nat.le_refl _,by omega,⟨by omega,by simp,by rw[List.getElem?_append_right (by omega)];simp⟩,aK _ _ _⟩⟩
 refine aI Tryz.func194 rfl (by simp[Tryz.f194]) (by kernel_rfl) (ex) ?_
 intro E hP hr hs hN
 simp -dsimp -implicitDefEqProofs [-getElem?_pos,go_sem,hP,cA]
 obtain⟨I,hI⟩:∃I:Nat→St→Prop,I=fun m s=>∃(k:Nat) (x:AV),k≤a.Subs.length∧m=a.Subs.length-k∧s.t 3= .ref (H.length+1) 0 0∧s.t 11=aL a.Subs∧s.t 12=iv a.Subs.length∧s.t 13=iv k∧s.H[H.length+1]?=some (some ⟨216,4,[[iv a.Credit,iv 0,iv 0,x]]⟩)∧Grown (H.length+2) s.H x 121 2 (aj TSub.cells (cv (a.Subs.take k)))∧Kept [] H s.H:=⟨_,rfl⟩
 refine ay I (a.Subs.length) (by rw[hN];rfl) ?_ ?_
 ·rw[hI]
  exact⟨0,.nil,by omega,by omega,by simp -dsimp[-getElem?_pos,go_sem],by simp -dsimp[-getElem?_pos,go_sem],by simp -dsimp[-getElem?_pos,go_sem],by simp -dsimp[-getElem?_pos,go_sem],by simp -dsimp[-getElem?_pos,go_sem],.inl ⟨rfl,rfl⟩,by simp -dsimp[-getElem?_pos,go_sem];exact aK _ _ _⟩
 intro m s hs'
 rw[hI]at hs'
 obtain⟨k,x,hk,hm,t3,t11,t12,t13,h1,hg,hK⟩:=hs'
 have lt1:=(gsI h1)
 simp -dsimp -implicitDefEqProofs [-getElem?_pos,go_sem,hP,t12,t13]
 refine aB (fun h=>?_) (fun h=>?_)
 ·have hk:k<a.Subs.length:=by simpa using h
  obtain⟨y,hy⟩:∃y,a.Subs[k]?=some y:=⟨_,List.getElem?_eq_getElem hk⟩
  have wk:=af ((k:Int)+1) (by omega)
  have e1:cv (a.Subs.take (k+1))=cv (a.Subs.take k)++[⟨y.ID,0⟩]:=by rw[List.take_add_one,hy];simp[cv]
  have nl:(cv (a.Subs.take k)).length=k:=by rw[lv,List.length_take];omega
  simp -dsimp -implicitDefEqProofs [-getElem?_pos,go_sem,hP,t11,t13,hy,TSub.cells]
  rcases hg with⟨rfl,hg⟩|⟨id,h2,rfl,hg⟩
  ·refine ao (fun i=>decide (i=H.length+1)||decide (i=s.H.length)) [12] hP (by kernel_rfl) (by kernel_rfl) ?_
   simp -dsimp -implicitDefEqProofs [-getElem?_pos,go_sem,hP,t3,h1,lt1,t13,wk]
   refine⟨fun i hi=>?_,a.Subs.length-(k+1),by omega,?_⟩
   ·simp only[Bool.or_eq_true,decide_eq_true_eq]at hi
    rcases hi with rfl|rfl<;>simp[-getElem?_pos,List.getElem?_append,lt1]<;>rfl
   rw[hI]
   refine⟨k+1,.sref (s.H.length+1) 0 1,by omega,rfl,by simp -dsimp[-getElem?_pos,go_sem,t3],by simp -dsimp[-getElem?_pos,go_sem,t11],by simp -dsimp[-getElem?_pos,go_sem,t12],by simp -dsimp[-getElem?_pos,go_sem],by simp -dsimp[-getElem?_pos,go_sem,lt1],.inr ⟨s.H.length+1,by omega,?_,?_⟩,?_⟩
   ·rw[e1,←ba,hg];rfl
   ·rw[e1,←ba,hg]
    simp -dsimp -implicitDefEqProofs [-getElem?_pos,go_sem,TSub.cells]
   ·simp -dsimp -implicitDefEqProofs [-getElem?_pos,go_sem]
    exact (uZ _ (by omega) hK).trans (aK _ _ _)
  ·have ne1:¬id=H.length+1:=by omega
   have lti:=(gsI hg)
   have ne2:¬id=s.H.length:=by omega
   refine ao (fun i=>decide (i=H.length+1)||decide (i=s.H.length)) [12] hP (by kernel_rfl) (by kernel_rfl) ?_
   simp -dsimp -implicitDefEqProofs [-getElem?_pos,go_sem,hP,t3,h1,lt1,t13,wk,hg,lti,ne1,nl]
   refine⟨by omega,by omega,fun i hi=>?_,a.Subs.length-(k+1),by omega,?_⟩
   ·simp only[Bool.or_eq_true,decide_eq_true_eq]at hi
    rcases hi with rfl|rfl<;>simp[-getElem?_pos,List.getElem?_append,List.getElem?_set,lt1,ne1,ne2]<;>rfl
   rw[hI]
   refine⟨k+1,.sref (s.H.length+1) 0 (k+1),by omega,rfl,by simp -dsimp[-getElem?_pos,go_sem,t3],by simp -dsimp[-getElem?_pos,go_sem,t11],by simp -dsimp[-getElem?_pos,go_sem,t12],by simp -dsimp[-getElem?_pos,go_sem],by simp -dsimp[-getElem?_pos,go_sem,lt1,ne1],.inr ⟨s.H.length+1,by omega,?_,?_⟩,?_⟩
   ·rw[al,lv,List.length_take]
    congr 1
    omega
   ·rw[e1,←ba]
    simp -dsimp -implicitDefEqProofs [-getElem?_pos,go_sem,TSub.cells]
   ·simp -dsimp -implicitDefEqProofs [-getElem?_pos,go_sem]
    exact ((uZ _ (by omega) (uZ _ (by omega) hK)).trans (aK _ _ _))
 ·have hk:k=a.Subs.length:=by simp at h;omega
  subst hk
  rw[List.take_length]at hg
  simp -dsimp -implicitDefEqProofs [-getElem?_pos,go_sem,hP,t3]
  rw[hC]
  rcases hg with⟨rfl,hg⟩|⟨id,h2,rfl,hg⟩
  ·exfalso
   apply hne
   have:=congrArg List.length hg
   rw[al,lv]at this
   exact List.eq_nil_of_length_eq_zero this
  ·exact⟨H.length+1,id,rfl,by omega,by omega,⟨by omega,by rw[h1,al],hg⟩,hK⟩
open Go.PA
open Go.RowKit
theorem F4 {H H' H'':ac} {X:List Nat} (h:Kept [] H H') (k:Kept X H' H'') (hX:∀i,i∈X→H.length≤i):Kept [] H H'':=fun j o _ ho=>by
 refine k j o (fun hj=>?_) (h j o (by simp) ho)
 have:=hX j hj
 have:=(gsI ho)
 omega
def jA (a:TAccount) (w:TEntry→Bool):Option (Int×Int×List TSub):=bB a.Credit 0 0 (cv a.Subs) (a.Entries.takeWhile w)
set_option maxHeartbeats 1000000 in
theorem Kl {row src:Option Nat} (a:TAccount) (H:ac) (g:FuncId) (caps:List AV) (w:TEntry→Bool) (hl:a.Subs.length≤100000) (he:a.Entries.length≤100000) (hne:a.Subs≠[]) (hc:0≤a.Credit∧a.Credit≤1000000000000) (hn:(ids a.Subs).Nodup) (h0:0∉ids a.Subs)
  (hen:aa Tryz.prog g=true) (hg:∀e,e∈a.Entries→∀H',Kept [] H H'→MFun Tryz.prog row src g (.agg e.cells::caps) H' (fun r H''=>r=bv (w e)∧Kept [] H' H'')):
  MFun Tryz.prog row src 132 [.agg a.cells,.fn g caps] H (fun r H'=>∃p q,r= .tup [.ref p 0 0,bv (jA a w).isSome]∧H.length≤p∧H.length≤q∧(∀x,jA a w=some x→Teller H' p q a.Credit x.1 x.2.1 x.2.2)∧Kept [] H H'):=by
 obtain⟨C,hC⟩:∃C:AV→ac→Prop,C=fun r H'=>∃p q,r= .tup [.ref p 0 0,bv (jA a w).isSome]∧H.length≤p∧H.length≤q∧(∀x,jA a w=some x→Teller H' p q a.Credit x.1 x.2.1 x.2.2)∧Kept [] H H':=⟨_,rfl⟩
 rw[←hC]
 obtain⟨R,hR⟩:∃R,R=jA a w:=⟨_,rfl⟩
 rw[←hR]at hC
 have ex:∃r H',C r H':=by
  rw[hC]
  cases R with
  |none=>exact⟨_,H,H.length,H.length,rfl,Nat.le_refl _,Nat.le_refl _,by simp,au _ _⟩
  |some x=>exact⟨_,H++[some ⟨216,4,[[iv a.Credit,iv x.1,iv x.2.1,.sref (H.length+1) 0 x.2.2.length]]⟩,some ⟨121,2,aj TSub.cells x.2.2⟩],H.length,H.length+1,rfl,Nat.le_refl _,by omega,fun y hy=>by
    simp only[Option.some.injEq]at hy
    subst hy
    exact⟨by omega,by simp,by rw[List.getElem?_append_right (by omega)];simp⟩,aK _ _ _⟩
 refine aI Tryz.func132 rfl (by simp[Tryz.f132]) (by kernel_rfl) (ex) ?_
 intro E hP hr hs hN
 have ia:Imm (.agg [iv a.Credit,aL a.Subs,bu a.Entries]):=cV a
 have fr:=fun (row src:Option Nat) (H:ac)=>ME (row:=row) (src:=src) a H hl hne
 rw[cA]at fr
 simp -dsimp -implicitDefEqProofs [-getElem?_pos,go_sem,hP,cA]
 refine aM (fr _ _ _) hP Ob ?_
 rintro r H1 ⟨p,q,rfl,hp,hq,ht,hk1⟩
 have ob:=hk1 H.length ⟨28,3,[[iv a.Credit,aL a.Subs,bu a.Entries]]⟩ (by simp) (by simp)
 have lb:=(gsI ob)
 rw[List.length_append,List.length_singleton]at hp hq
 simp -dsimp -implicitDefEqProofs [-getElem?_pos,go_sem,hP,ob,lb]
 obtain⟨I,hI⟩:∃I:Nat→St→Prop,I=fun m s=>∃(k:Nat) (d:Int) (l:List TSub),k≤a.Entries.length∧m=a.Entries.length-k∧R=bB a.Credit k d l ((a.Entries.drop k).takeWhile w)∧lJ a.Credit l=true∧ids l=ids a.Subs∧Teller s.H p q a.Credit k d l∧Kept [] H s.H∧s.t 1= .fn g caps∧s.t 6= .ref p 0 0∧s.t 12=bu a.Entries∧s.t 13=iv a.Entries.length∧s.t 14=iv k:=⟨_,rfl⟩
 refine ay I (a.Entries.length) (by rw[hN];rfl) ?_ ?_
 ·rw[hI]
  exact⟨0,0,cv a.Subs,by omega,by omega,by rw[hR];simp[jA],ln hc.1 _,nW _,by simp -dsimp[-getElem?_pos,go_sem];exact ht,by simp -dsimp[-getElem?_pos,go_sem];exact (aK _ _ _).trans hk1,by simp -dsimp[-getElem?_pos,go_sem],by simp -dsimp[-getElem?_pos,go_sem],by simp -dsimp[-getElem?_pos,go_sem],by simp -dsimp[-getElem?_pos,go_sem],by simp -dsimp[-getElem?_pos,go_sem]⟩
 clear ht hk1 ob lb
 intro m s hs'
 rw[hI]at hs'
 obtain⟨k,d,l,hk,hm,hRr,hok,hids,ht,hK,t1,t6,t12,t13,t14⟩:=hs'
 have fin:∀b:Bool,R.isSome=b→(∀x,R=some x→Teller s.H p q a.Credit x.1 x.2.1 x.2.2)→C (.tup [.ref p 0 0,bv b]) s.H:=fun b hb hx=>by
  rw[hC]
  exact⟨p,q,by rw[hb],by omega,by omega,hx,hK⟩
 simp -dsimp -implicitDefEqProofs [-getElem?_pos,go_sem,hP,t13,t14]
 refine aB (fun h=>?_) (fun h=>?_)
 ·have hk:k<a.Entries.length:=by simpa using h
  obtain⟨e,hee⟩:∃e,a.Entries[k]?=some e:=⟨_,List.getElem?_eq_getElem hk⟩
  have wk:=af ((k:Int)+1) (by omega)
  have hd:a.Entries.drop k=e::a.Entries.drop (k+1):=by
   rw[List.getElem?_eq_getElem hk]at hee
   rw[List.drop_eq_getElem_cons hk,Option.some.inj hee]
  rw[hd]at hRr
  have hge:=hg e (List.mem_of_getElem? hee) _ (hK.trans (eQ (some ⟨75,6,[[iv e.Number,iv e.Day,iv e.From,iv e.To,iv e.Amount,iv e.Ref]]⟩) (au _ s.H)))
  rw[cE]at hge
  simp -dsimp -implicitDefEqProofs [-getElem?_pos,go_sem,hP,t12,t14,hee,cE,t1]
  refine aM (by rw[hr,hs];exact hge) hP hen ?_
  rintro r H2 ⟨rfl,hk2⟩
  have o2:=hk2 s.H.length ⟨75,6,[[iv e.Number,iv e.Day,iv e.From,iv e.To,iv e.Amount,iv e.Ref]]⟩ (by simp) (by simp)
  have l2:=(gsI o2)
  have k2:Kept [] s.H H2:=(aK _ _ _).trans hk2
  by_cases hw:w e=true
  rotate_left
  ·rw[List.takeWhile_cons_of_neg hw]at hRr
   simp -dsimp -implicitDefEqProofs [-getElem?_pos,go_sem,hP,hw,t6]
   rw[hC]
   have hRr:R=some ((k:Int),d,l):=hRr
   refine⟨p,q,by rw[hRr];rfl,by omega,by omega,fun x hx=>?_,hK.trans k2⟩
   rw[hRr]at hx
   simp only[Option.some.injEq]at hx
   subst hx
   exact ht.kept k2 (by simp) (by simp)
  rw[List.takeWhile_cons_of_pos hw,bB]at hRr
  have tp:=MQ (row:=row) (src:=src) (ht.kept k2 (by simp) (by simp)) (by rw[←fo,hids,fo];omega) hc (by rw[hids];exact hn) (by rw[hids];exact h0) hok (by omega) e
  rw[cE]at tp
  simp -dsimp -implicitDefEqProofs [-getElem?_pos,go_sem,hP,hw,t6,o2,l2]
  refine aM (by rw[hr,hs];exact tp) hP Ok ?_
  rintro r H3 ⟨rfl,ht3,hk3⟩
  have K3:Kept [] H H3:=F4 (hK.trans k2) hk3 (fun i hi=>by simp at hi;omega)
  by_cases hp0:(aT a.Credit k d l e).1=0
  ·rw[if_pos hp0]at hRr
   obtain⟨q1,q2,q3,_⟩:=jY hp0
   simp -dsimp -implicitDefEqProofs [-getElem?_pos,go_sem,hP,hp0,t14,wk]
   refine⟨a.Entries.length-(k+1),by omega,?_⟩
   rw[hI]
   rw[q1]at hRr
   refine⟨k+1,e.Day,(aT a.Credit k d l e).2,by omega,rfl,hRr,q8 hp0 hok,(jH _ _ _ _ _).trans hids,?_,by simp -dsimp[-getElem?_pos,go_sem];exact K3,by simp -dsimp[-getElem?_pos,go_sem,t1],by simp -dsimp[-getElem?_pos,go_sem,t6],by simp -dsimp[-getElem?_pos,go_sem,t12],by simp -dsimp[-getElem?_pos,go_sem,t13],by simp -dsimp[-getElem?_pos,go_sem]⟩
   simp -dsimp -implicitDefEqProofs [-getElem?_pos,go_sem]
   have:=ht3 hp0
   rw[q1]at this
   exact this
  ·rw[if_neg hp0]at hRr
   simp -dsimp -implicitDefEqProofs [-getElem?_pos,go_sem,hP,hp0,t6]
   rw[hC]
   exact⟨p,q,by rw[hRr];rfl,by omega,by omega,fun x hx=>(by rw[hRr]at hx;cases hx),K3⟩
 ·have hk:k=a.Entries.length:=by simp at h;omega
  subst hk
  rw[List.drop_length]at hRr
  have hRr:R=some ((a.Entries.length:Int),d,l):=hRr
  simp -dsimp -implicitDefEqProofs [-getElem?_pos,go_sem,hP,t6]
  refine fin true (by rw[hRr];rfl) fun x hx=>?_
  rw[hRr]at hx
  simp only[Option.some.injEq]at hx
  subst hx
  exact ht
theorem Qc {row src:Option Nat} (e:TEntry) (H:ac):MFun Tryz.prog row src 133 [.agg e.cells] H (fun r H'=>r=bv true∧Kept [] H H'):=by
 refine aI Tryz.func133 rfl (by simp[Tryz.f133]) (by kernel_rfl) (⟨_,H,rfl,au _ _⟩) ?_
 intro E hP hr hs hN
 simp -dsimp -implicitDefEqProofs [-getElem?_pos,go_sem,hP,TEntry.cells]
 exact aK _ _ _
theorem uJ {α:Type} (l:List α):l.takeWhile (fun _=>true)=l:=kT _ _ fun _ _=>rfl
theorem EN {a:TAccount} (h1:¬(20<a.Subs.length∨400<a.Entries.length)) (h2:(vB a.Credit&&jb (ids a.Subs))=true):
  aD a=(jA a fun _=>true).elim 62 (fun r=>if r.2.2=a.Subs then 0 else 62):=by
 have h3:¬(!vB a.Credit||!jb (ids a.Subs))=true:=by
  simp only[Bool.and_eq_true]at h2
  simp[h2.1,h2.2]
 rw[aD,if_neg h1,if_neg h3,jA,uJ]
 cases bB a.Credit 0 0 (cv a.Subs) a.Entries<;>rfl
set_option maxHeartbeats 1000000 in
theorem qC (a:TAccount) (hl:a.Subs.length≤100000) (he:a.Entries.length≤100000):PFun Tryz.prog none none 82 [.agg a.cells] (·=iv (aD a)):=by
 refine ab Tryz.func82 rfl (by simp[Tryz.f82]) (by kernel_rfl) ?_
 intro E hP hr hs hW hN
 by_cases c1:20<a.Subs.length
 ·have d1:decide ((20:Int)<a.Subs.length)=true:=decide_eq_true (by omega)
  have:aD a=3:=by rw[aD,if_pos (.inl c1)]
  simp -dsimp -implicitDefEqProofs [-getElem?_pos,go_sem,hP,cA,d1,this]
 have d1:decide ((20:Int)<a.Subs.length)=false:=decide_eq_false (by omega)
 by_cases c2:400<a.Entries.length
 ·have d2:decide ((400:Int)<a.Entries.length)=true:=decide_eq_true (by omega)
  have:aD a=3:=by rw[aD,if_pos (.inr c2)]
  simp -dsimp -implicitDefEqProofs [-getElem?_pos,go_sem,hP,cA,d1,d2,this]
 have d2:decide ((400:Int)<a.Entries.length)=false:=decide_eq_false (by omega)
 simp -dsimp -implicitDefEqProofs [-getElem?_pos,go_sem,hP,cA,d1,d2]
 refine ah (BD a.Credit) hP CH (ai (by simp -dsimp[-getElem?_pos,go_sem])) .sc ?_
 by_cases c3:vB a.Credit=true
 rotate_left
 ·have:aD a=62:=by rw[aD,if_neg (by omega),if_pos (by simp[c3])]
  simp -dsimp -implicitDefEqProofs [-getElem?_pos,go_sem,hP,c3,this]
 simp -dsimp -implicitDefEqProofs [-getElem?_pos,go_sem,hP,c3]
 refine ae ((EO a.Subs hl).lift _ _) hP OQ (by simp[aY]) (fY _) ?_
 simp -dsimp -implicitDefEqProofs [-getElem?_pos,go_sem,hP,c3]
 refine ah (CL (ids a.Subs) (by rw[fo];omega)) hP Pv (aH (fY _) (be.2 trivial)) .sc ?_
 by_cases c4:jb (ids a.Subs)=true
 rotate_left
 ·have:aD a=62:=by rw[aD,if_neg (by omega),if_pos (by simp[c4])]
  simp -dsimp -implicitDefEqProofs [-getElem?_pos,go_sem,hP,c3,c4,this]
 obtain⟨hnd,hz0,hhd⟩:=oZ c4
 have hcr:0≤a.Credit∧a.Credit≤1000000000000:=by simpa[vB,bn]using c3
 have hchk:=EN (a:=a) (by omega) (by simp[c3,c4])
 have hne:a.Subs≠[]:=fun h=>by rw[h]at hhd;simp[ids]at hhd
 have rp:=fun (H:ac)=>Kl (row:=none) (src:=none) a H 133 [] (fun _=>true) hl he hne hcr hnd hz0 Og (fun e _ H' _=>Qc e H')
 rw[cA]at rp
 simp -dsimp -implicitDefEqProofs [-getElem?_pos,go_sem,hP,c3,c4]
 refine aM (by rw[hr,hs];exact rp _) hP NA ?_
 rintro r H1 ⟨p,q,rfl,hp,hq,ht,hk⟩
 have ob:=hk 0 ⟨28,3,[[iv a.Credit,aL a.Subs,bu a.Entries]]⟩ (by simp) (by simp)
 have lb:=(gsI ob)
 cases hR:jA a fun _=>true with
 |none=>
  rw[hR]at hchk
  have hchk:aD a=62:=hchk
  simp -dsimp -implicitDefEqProofs [-getElem?_pos,go_sem,hP,hchk]
  refine ao (fun _=>true) [] hP (by kernel_rfl) (by kernel_rfl) ?_
  simp -dsimp -implicitDefEqProofs [-getElem?_pos,go_sem,hP]
  exact hchk.symm
 |some x=>
  rw[hR]at hchk
  have hchk:aD a=if x.2.2=a.Subs then 0 else 62:=hchk
  have t:=ht x hR
  have t1:=t.obj
  have t2:=t.ltp
  have t3:=t.subs
  have il:x.2.2.length=a.Subs.length:=by
   have:=(iC a.Credit _ 0 0 (cv a.Subs) x (ln hcr.1 _) hR).2.1
   rw[←fo x.2.2,this,fo,lv]
  simp -dsimp -implicitDefEqProofs [-getElem?_pos,go_sem,hP]
  refine ao (fun _=>true) [] hP (by kernel_rfl) (by kernel_rfl) ?_
  simp -dsimp -implicitDefEqProofs [-getElem?_pos,go_sem,hP,t1,t2,ob,lb]
  refine ah (v8 x.2.2 a.Subs (by omega) hl) hP N0 (cY t3 (by rw[al]) (aY _) (aH (aY _) (be.2 trivial))) .sc ?_
  by_cases c5:x.2.2=a.Subs
  ·rw[if_pos c5]at hchk
   have d5:decide (x.2.2=a.Subs)=true:=decide_eq_true c5
   simp -dsimp -implicitDefEqProofs [-getElem?_pos,go_sem,hP,d5,hchk]
  ·rw[if_neg c5]at hchk
   simp -dsimp -implicitDefEqProofs [-getElem?_pos,go_sem,hP,c5,hchk]
open Go.PA
open Go.RowKit
theorem MO {row src:Option Nat} (a:TSub) (H:ac) (b:Nat) (id:Int) (hb:H[b]?=some (some ⟨3,1,[[iv id]]⟩)):
  MFun Tryz.prog row src 176 [.agg a.cells,.ref b 0 0] H (fun r H'=>r=bv (decide (a.ID=id))∧Kept [] H H'):=by
 refine aI Tryz.func176 rfl (by simp[Tryz.f176]) (by kernel_rfl) (⟨_,H,rfl,au _ _⟩) ?_
 intro E hP hr hs hN
 have hlt:=(gsI hb)
 simp -dsimp -implicitDefEqProofs [-getElem?_pos,go_sem,hP,TSub.cells,hb,hlt]
 exact eQ _ (au _ _)
theorem C8 (a:TAccount) (id:Int) (hl:a.Subs.length≤100000) (he:a.Entries.length≤100000):PFun Tryz.prog none none 111 [.agg a.cells,iv id] (·= .tup [iv (bC a id).1,bv (bC a id).2]):=by
 refine ab Tryz.func111 rfl (by simp[Tryz.f111]) (by kernel_rfl) ?_
 intro E hP hr hs hW hN
 have ck:=qC a hl he
 rw[cA]at ck
 have ia:Imm (.agg [iv a.Credit,aL a.Subs,bu a.Entries]):=cV a
 simp -dsimp -implicitDefEqProofs [-getElem?_pos,go_sem,hP,cA]
 refine aM (by rw[hr,hs];exact sT a.Subs (aL a.Subs) _ 176 [.ref 1 0 0] (fun s=>decide (s.ID=id)) (.inl rfl) (by omega) NX (fun a _ H' hk=>MO a H' 1 id (hk _ _ (by simp) (by simp)))) hP It ?_
 rintro r H1 ⟨rfl,hk⟩
 have ob:=hk 0 ⟨28,3,[[iv a.Credit,aL a.Subs,bu a.Entries]]⟩ (by simp) (by simp)
 have lb:=(gsI ob)
 rcases uO (l:=a.Subs) (id:=id)with⟨h1,h2⟩|⟨i,s,h1,h2,h3⟩
 ·have:bC a id=(0,false):=by
   rw[bC,h2]
   split<;>rfl
  have h1:fA (fun s:TSub=>decide (s.ID=id)) a.Subs= -1:=h1
  simp -dsimp -implicitDefEqProofs [-getElem?_pos,go_sem,hP,h1]
  refine aw (ak .sc .sc) ?_
  rw[this]
 ·have h1:fA (fun s:TSub=>decide (s.ID=id)) a.Subs=(i:Int):=h1
  have hi:=(gsI h2)
  have d1:decide ((i:Int)<0)=false:=decide_eq_false (by omega)
  simp -dsimp -implicitDefEqProofs [-getElem?_pos,go_sem,hP,h1,d1,ob,lb]
  refine ae (ck.lift _ _) hP Fa (by simp[ia]) .sc ?_
  by_cases c1:aD a=0
  ·have:bC a id=(s.Balance,true):=by rw[bC,if_pos c1,h3]
   simp -dsimp -implicitDefEqProofs [-getElem?_pos,go_sem,hP,h1,d1,c1,h2,TSub.cells,ob,lb]
   refine aw (ak .sc .sc) ?_
   rw[this]
  ·have:bC a id=(0,false):=by rw[bC,if_neg c1]
   simp -dsimp -implicitDefEqProofs [-getElem?_pos,go_sem,hP,h1,d1,c1]
   refine aw (ak .sc .sc) ?_
   rw[this]
open Go.PA
open Go.RowKit
theorem Ag (l:List TPayment) (g:FuncId) (caps:List AV) (p:TPayment→Bool) (hl:l.length≤1000000) (hen:aa Tryz.prog g=true) (hcap:∀a,a∈caps→Imm a)
  (hg:∀a,a∈l→PFun Tryz.prog none none g (.agg (TPayment.cells a)::caps) (·=bv (p a))):
  PFun Tryz.prog none none 252 [.list 5 (aj TPayment.cells l),.fn g caps] (·=iv (fA p l)):=by
 refine ab Tryz.func252 rfl (by simp[Tryz.f252]) (by kernel_rfl) ?_
 intro E hP hr hs hW hN
 simp -dsimp -implicitDefEqProofs [-getElem?_pos,go_sem,hP]
 obtain⟨I,hI⟩:∃I:Nat→St→Prop,I=fun m s=>∃k:Nat,k≤l.length∧m=l.length-k∧fA p l=bE p k (l.drop k)∧s.t 0= .list 5 (aj TPayment.cells l)∧s.t 1= .fn g caps∧s.t 7=iv l.length∧s.t 8=iv k:=⟨_,rfl⟩
 refine ay I (l.length) (by rw[hN];rfl) ?_ ?_
 ·rw[hI]
  exact⟨0,by omega,by omega,by simp[fA],by simp -dsimp[-getElem?_pos,go_sem],by simp -dsimp[-getElem?_pos,go_sem],by simp -dsimp[-getElem?_pos,go_sem],by simp -dsimp[-getElem?_pos,go_sem]⟩
 intro m s hs'
 rw[hI]at hs'
 obtain⟨k,hk,hm,hi,t0,t1,t7,t8⟩:=hs'
 simp -dsimp -implicitDefEqProofs [-getElem?_pos,go_sem,hP,t7,t8]
 refine aB (fun h=>?_) (fun h=>?_)
 ·have hk:k<l.length:=by simpa using h
  obtain⟨a,ha⟩:∃a,l[k]?=some a:=⟨_,List.getElem?_eq_getElem hk⟩
  have wk:=af ((k:Int)+1) (by omega)
  have hz:(TPayment.cells a).take 5=TPayment.cells a:=List.take_of_length_le (by rw[TPayment.len];omega)
  have hd:l.drop k=a::l.drop (k+1):=by
   rw[List.getElem?_eq_getElem hk]at ha
   rw[List.drop_eq_getElem_cons hk,Option.some.inj ha]
  simp -dsimp -implicitDefEqProofs [-getElem?_pos,go_sem,hP,t8,t1,t0,ha,TPayment.len,hz]
  refine ae ((hg a (List.mem_of_getElem? ha)).lift _ _) hP hen (fun x hx=>?_) .sc ?_
  ·rcases List.mem_cons.1 hx with rfl|hx
   ·exact az.2 (TPayment.imm a)
   ·exact hcap x hx
  rw[hd]at hi
  simp only[bE]at hi
  simp -dsimp -implicitDefEqProofs [-getElem?_pos,go_sem,hP]
  refine aB (fun hp=>?_) (fun hp=>?_)
  ·rw[if_pos hp]at hi
   simp -dsimp -implicitDefEqProofs [-getElem?_pos,go_sem,hP]
   exact hi.symm
  ·rw[hp,if_neg (by simp)]at hi
   simp -dsimp -implicitDefEqProofs [-getElem?_pos,go_sem,hP,t8,wk]
   refine⟨l.length-(k+1),by omega,?_⟩
   rw[hI]
   exact⟨k+1,by omega,rfl,hi,by simp -dsimp[-getElem?_pos,go_sem,t0],by simp -dsimp[-getElem?_pos,go_sem,t1],by simp -dsimp[-getElem?_pos,go_sem,t7],by simp -dsimp[-getElem?_pos,go_sem]⟩
 ·have hk:k=l.length:=by simp at h;omega
  subst hk
  rw[List.drop_length]at hi
  simp -dsimp -implicitDefEqProofs [-getElem?_pos,go_sem,hP]
  exact hi.symm
theorem mD (l:List TPayment) (g:FuncId) (caps:List AV) (p:TPayment→Bool) (hl:l.length≤1000000) (hen:aa Tryz.prog g=true) (hcap:∀a,a∈caps→Imm a)
  (hg:∀a,a∈l→PFun Tryz.prog none none g (.agg (TPayment.cells a)::caps) (·=bv (p a))):
  PFun Tryz.prog none none 258 [.list 5 (aj TPayment.cells l),.fn g caps] (·=bv (l.any p)):=by
 refine ab Tryz.func258 rfl (by simp[Tryz.f258]) (by kernel_rfl) ?_
 intro E hP hr hs hW hN
 obtain⟨w,hw⟩:∃w,w=l.any p:=⟨_,rfl⟩
 rw[←hw]
 have hi:∀a,a∈[AV.list 5 (aj TPayment.cells l),.fn g caps]→Imm a:=fun a ha=>by
  simp only[List.mem_cons,List.not_mem_nil,or_false]at ha
  rcases ha with rfl|rfl
  ·exact aV _ TPayment.imm _
  ·exact eW.2 hcap
 simp -dsimp -implicitDefEqProofs [-getElem?_pos,go_sem,hP]
 refine ae ((Ag l g caps p hl hen hcap hg).lift _ _) hP N6 hi .sc ?_
 rcases dY p l with⟨h1,h2⟩|⟨i,a,h1,h2,h3,_⟩
 ·have:w=false:=by rw[hw];exact List.any_eq_false.2 fun a ha=>by simp[h2 a ha]
  simp -dsimp -implicitDefEqProofs [-getElem?_pos,go_sem,hP,h1,this]
 ·have d:decide ((0:Int)≤(i:Int))=true:=decide_eq_true (by omega)
  have:w=true:=by rw[hw];exact List.any_eq_true.2 ⟨a,List.mem_of_getElem? h1,h2⟩
  simp -dsimp -implicitDefEqProofs [-getElem?_pos,go_sem,hP,h3,d,this]
open Go.PA
open Go.RowKit
open Go.PA
open Go.RowKit
theorem AX (l:List Int) (v:Int) (hl:l.length≤1000000):PFun Tryz.prog none none 256 [aF l,iv v] (·=iv (fA (fun x=>decide (v=x)) l)):=by
 refine ab Tryz.func256 rfl (by simp[Tryz.f256]) (by kernel_rfl) ?_
 intro E hP hr hs hW hN
 simp -dsimp -implicitDefEqProofs [-getElem?_pos,go_sem,hP,aF]
 obtain⟨I,hI⟩:∃I:Nat→St→Prop,I=fun m s=>∃k:Nat,k≤l.length∧m=l.length-k∧fA (fun x=>decide (v=x)) l=bE (fun x=>decide (v=x)) k (l.drop k)∧s.t 0=aF l∧s.t 1=iv v∧s.t 7=iv l.length∧s.t 8=iv k:=⟨_,rfl⟩
 refine ay I (l.length) (by rw[hN];rfl) ?_ ?_
 ·rw[hI]
  exact⟨0,by omega,by omega,by simp[fA],by simp -dsimp[-getElem?_pos,go_sem,aF],by simp -dsimp[-getElem?_pos,go_sem],by simp -dsimp[-getElem?_pos,go_sem],by simp -dsimp[-getElem?_pos,go_sem]⟩
 intro m s hs'
 rw[hI]at hs'
 obtain⟨k,hk,hm,hi,t0,t1,t7,t8⟩:=hs'
 simp -dsimp -implicitDefEqProofs [-getElem?_pos,go_sem,hP,t7,t8]
 refine aB (fun h=>?_) (fun h=>?_)
 ·have hk:k<l.length:=by simpa using h
  obtain⟨a,ha⟩:∃a,l[k]?=some a:=⟨_,List.getElem?_eq_getElem hk⟩
  have wk:=af ((k:Int)+1) (by omega)
  have hd:l.drop k=a::l.drop (k+1):=by
   rw[List.getElem?_eq_getElem hk]at ha
   rw[List.drop_eq_getElem_cons hk,Option.some.inj ha]
  rw[hd]at hi
  simp only[bE]at hi
  simp -dsimp -implicitDefEqProofs [-getElem?_pos,go_sem,hP,t8,t1,t0,ha,aF]
  by_cases hp:v=a
  ·rw[if_pos (by simpa using hp)]at hi
   simp -dsimp -implicitDefEqProofs [-getElem?_pos,go_sem,hP,hp]
   rw[hp]at hi
   exact hi.symm
  ·rw[if_neg (by simpa using hp)]at hi
   simp -dsimp -implicitDefEqProofs [-getElem?_pos,go_sem,hP,t8,wk,hp]
   refine⟨l.length-(k+1),by omega,?_⟩
   rw[hI]
   exact⟨k+1,by omega,rfl,hi,by simp -dsimp[-getElem?_pos,go_sem,t0],by simp -dsimp[-getElem?_pos,go_sem,t1],by simp -dsimp[-getElem?_pos,go_sem,t7],by simp -dsimp[-getElem?_pos,go_sem]⟩
 ·have hk:k=l.length:=by simp at h;omega
  subst hk
  rw[List.drop_length]at hi
  simp -dsimp -implicitDefEqProofs [-getElem?_pos,go_sem,hP]
  exact hi.symm
theorem fG (l:List Int):Imm (aF l):=by simp[go_sem,aF]
theorem vi (l:List Int) (v:Int) (hl:l.length≤1000000):PFun Tryz.prog none none 187 [aF l,iv v] (·=bv (decide (v∈l))):=by
 refine ab Tryz.func187 rfl (by simp[Tryz.f187]) (by kernel_rfl) ?_
 intro E hP hr hs hW hN
 simp -dsimp -implicitDefEqProofs [-getElem?_pos,go_sem,hP]
 refine ae ((AX l v hl).lift _ _) hP NT (by simp[fG,ar]) .sc ?_
 rcases dY (fun x=>decide (v=x)) l with⟨h1,h2⟩|⟨i,a,h1,h2,h3,_⟩
 ·have:decide (v∈l)=false:=decide_eq_false fun hv=>by simpa using h2 v hv
  simp -dsimp -implicitDefEqProofs [-getElem?_pos,go_sem,hP,h1,this]
 ·have d:decide ((0:Int)≤(i:Int))=true:=decide_eq_true (by omega)
  have hva:v=a:=by simpa using h2
  have:decide (v∈l)=true:=decide_eq_true (hva▸List.mem_of_getElem? h1)
  simp -dsimp -implicitDefEqProofs [-getElem?_pos,go_sem,hP,h3,d,this]
open Go.PA
open Go.RowKit
theorem ko {α β:Type} {f:α→β} {l:List α} {k:Nat} {p:α} (hp:l[k]?=some p):∀j x,k+1=j+1→l[j]?=some x→f p=f x:=fun j x hj hx=>by
 cases (show k=j by omega)
 rw[hp]at hx
 cases hx
 rfl
theorem gV (n lo hi:Int):PFun Tryz.prog none none 245 [iv n,iv lo,iv hi] (·=bv (amg n lo hi)):=by
 refine ab Tryz.func245 rfl (by simp[Tryz.f245]) (by kernel_rfl) ?_
 intro E hP hr hs hW hN
 by_cases h1:lo≤n<;>by_cases h2:n≤hi<;>simp -dsimp -implicitDefEqProofs [-getElem?_pos,go_sem,hP,h1,h2,amg]
theorem Fq (p:TPayment):PFun Tryz.prog none none 171 [.agg p.cells] (·=bv (gz p)):=by
 refine ab Tryz.func171 rfl (by simp[Tryz.f171]) (by kernel_rfl) ?_
 intro E hP hr hs hW hN
 simp -dsimp -implicitDefEqProofs [-getElem?_pos,go_sem,hP,cPy]
 refine ah (gV p.Warrant 1 1000000) hP pz (ai (by simp -dsimp[-getElem?_pos,go_sem])) .sc ?_
 cases h1:amg p.Warrant 1 1000000
 ·simp -dsimp -implicitDefEqProofs [-getElem?_pos,go_sem,hP,gz,h1]
 simp -dsimp -implicitDefEqProofs [-getElem?_pos,go_sem,hP]
 refine ah (gV p.Payee 1 1000000) hP pz (ai (by simp -dsimp[-getElem?_pos,go_sem])) .sc ?_
 cases h2:amg p.Payee 1 1000000
 ·simp -dsimp -implicitDefEqProofs [-getElem?_pos,go_sem,hP,gz,h1,h2]
 simp -dsimp -implicitDefEqProofs [-getElem?_pos,go_sem,hP]
 refine ah (gV p.Amount 1 1000000000000) hP pz (ai (by simp -dsimp[-getElem?_pos,go_sem])) .sc ?_
 cases h3:amg p.Amount 1 1000000000000
 ·simp -dsimp -implicitDefEqProofs [-getElem?_pos,go_sem,hP,gz,h1,h2,h3]
 simp -dsimp -implicitDefEqProofs [-getElem?_pos,go_sem,hP]
 refine ah (gV p.Due 0 35990) hP pz (ai (by simp -dsimp[-getElem?_pos,go_sem])) .sc ?_
 cases h4:amg p.Due 0 35990
 ·simp -dsimp -implicitDefEqProofs [-getElem?_pos,go_sem,hP,gz,h1,h2,h3,h4]
 simp -dsimp -implicitDefEqProofs [-getElem?_pos,go_sem,hP]
 refine ah (gV p.Sub 1 1000) hP pz (ai (by simp -dsimp[-getElem?_pos,go_sem])) .sc ?_
 simp -dsimp -implicitDefEqProofs [-getElem?_pos,go_sem,hP,gz,h1,h2,h3,h4]
def Er (a b:TPayment):Int:=orI [o5 a.Due b.Due,o5 a.Warrant b.Warrant]
theorem FL {a b:TPayment}:Er a b<0↔Bef a b:=by
 simp only[Er,orI,o5,Bef]
 repeat' split
 all_goals omega
theorem My {a b:TPayment} (h:¬Bef a b):0≤Er a b:=by
 have:=mt FL.1 h
 omega
theorem Cm (a b:TPayment):PFun Tryz.prog none none 247 [.agg a.cells,.agg b.cells] (·=iv (Er a b)):=by
 refine ab Tryz.func247 rfl (by simp[Tryz.f247]) (by kernel_rfl) ?_
 intro E hP hr hs hW hN
 simp -dsimp -implicitDefEqProofs [-getElem?_pos,go_sem,hP,cPy]
 refine ao (fun _=>true) [] hP (by kernel_rfl) (by kernel_rfl) ?_
 simp -dsimp -implicitDefEqProofs [-getElem?_pos,go_sem,hP]
 refine ah (mu a.Due b.Due) hP Fo (ai (by simp -dsimp[-getElem?_pos,go_sem])) .sc ?_
 simp -dsimp -implicitDefEqProofs [-getElem?_pos,go_sem,hP]
 refine ah (mu a.Warrant b.Warrant) hP Fo (ai (by simp -dsimp[-getElem?_pos,go_sem])) .sc ?_
 simp -dsimp -implicitDefEqProofs [-getElem?_pos,go_sem,hP]
 refine ah (Nh [o5 a.Due b.Due,o5 a.Warrant b.Warrant] (by simp)) hP II (ai (by simp -dsimp[-getElem?_pos,go_sem])) .sc ?_
 simp -dsimp -implicitDefEqProofs [-getElem?_pos,go_sem,hP,Er]
theorem sP (l:List TPayment) (hl:l.length≤1000000):PFun Tryz.prog none none 195 [aC l] (·=bv (dU none l)):=by
 refine ab Tryz.func195 rfl (by simp[Tryz.f195]) (by kernel_rfl) ?_
 intro E hP hr hs hW hN
 obtain⟨R,hR⟩:∃R,R=dU none l:=⟨_,rfl⟩
 rw[←hR]
 simp -dsimp -implicitDefEqProofs [-getElem?_pos,go_sem,hP]
 obtain⟨I,hI⟩:∃I:Nat→St→Prop,I=fun m s=>∃(k:Nat) (o:Option TPayment),k≤l.length∧m=l.length-k∧R=dU o (l.drop k)∧(k=0→o=none)∧(∀j x,k=j+1→l[j]?=some x→o=some x)∧s.t 0=aC l∧s.t 5=aC l∧s.t 6=iv l.length∧s.t 7=iv k:=⟨_,rfl⟩
 refine ay I (l.length) (by rw[hN];rfl) ?_ ?_
 ·rw[hI]
  exact⟨0,none,by omega,by omega,by rw[hR];rfl,by simp,by omega,by simp -dsimp[-getElem?_pos,go_sem],by simp -dsimp[-getElem?_pos,go_sem],by simp -dsimp[-getElem?_pos,go_sem],by simp -dsimp[-getElem?_pos,go_sem]⟩
 intro m s hs'
 rw[hI]at hs'
 obtain⟨k,o,hk,hm,hq,ho0,ho1,t0,t5,t6,t7⟩:=hs'
 simp -dsimp -implicitDefEqProofs [-getElem?_pos,go_sem,hP,t6,t7]
 refine aB (fun h=>?_) (fun h=>?_)
 ·have hk:k<l.length:=by simpa using h
  obtain⟨p,hp⟩:∃p,l[k]?=some p:=⟨_,List.getElem?_eq_getElem hk⟩
  have wk:=af ((k:Int)+1) (by omega)
  have ip:=fq p
  have py:=Fq p
  rw[cPy]at py ip
  rw[cU hp,dU]at hq
  simp -dsimp -implicitDefEqProofs [-getElem?_pos,go_sem,hP,t5,t7,hp,cPy]
  refine ao (fun _=>true) [] hP (by kernel_rfl) (by kernel_rfl) ?_
  simp -dsimp -implicitDefEqProofs [-getElem?_pos,go_sem,hP]
  refine ae (py.lift _ _) hP Ld (by simpa using ip) .sc ?_
  cases h1:gz p
  ·rw[h1,Bool.false_and]at hq
   simp -dsimp -implicitDefEqProofs [-getElem?_pos,go_sem,hP,h1,hq]
  rw[h1,Bool.true_and]at hq
  rcases Nat.eq_zero_or_pos k with k0|k0
  ·rw[ho0 k0,tV,Bool.true_and]at hq
   have k0':¬0<k:=by omega
   have hjk:decide ((0:Int)<(k:Int))=false:=decide_eq_false (by omega)
   simp -dsimp -implicitDefEqProofs [-getElem?_pos,go_sem,hP,h1,t7,k0',hjk,wk]
   refine⟨l.length-(k+1),by omega,?_⟩
   rw[hI]
   exact⟨k+1,some p,by omega,rfl,hq,by omega,ko (f:=some) hp,by simp -dsimp[-getElem?_pos,go_sem,t0],by simp -dsimp[-getElem?_pos,go_sem,t5],by simp -dsimp[-getElem?_pos,go_sem,t6],by simp -dsimp[-getElem?_pos,go_sem]⟩
  ·obtain⟨j,hj⟩:∃j,k=j+1:=⟨k-1,by omega⟩
   obtain⟨x,hx⟩:∃x,l[j]?=some x:=⟨_,List.getElem?_eq_getElem (by omega)⟩
   have hox:=ho1 j x hj hx
   have hjk:decide ((0:Int)<(k:Int))=true:=decide_eq_true (by omega)
   have wj:IntKind.i64.wrap ((k:Int)-1)=(j:Int):=by rw[af _ (by omega)];omega
   have cm:=Cm x p
   have ix:=fq x
   rw[cPy,cPy]at cm
   rw[cPy]at ix
   rw[hox,tV]at hq
   simp -dsimp -implicitDefEqProofs [-getElem?_pos,go_sem,hP,h1,t7,k0,hjk,wj,t0,hx,cPy]
   refine ae (cm.lift _ _) hP OU (by simpa using⟨ix,ip⟩) .sc ?_
   by_cases c:Bef x p
   ·have c1:=FL.2 c
    have d1:decide (0≤Er x p)=false:=decide_eq_false (by omega)
    rw[jJ.2 c,Bool.true_and]at hq
    simp -dsimp -implicitDefEqProofs [-getElem?_pos,go_sem,hP,h1,t7,k0,hjk,wj,t0,hx,cPy,d1,wk]
    refine⟨l.length-(k+1),by omega,?_⟩
    rw[hI]
    exact⟨k+1,some p,by omega,rfl,hq,by omega,ko (f:=some) hp,by simp -dsimp[-getElem?_pos,go_sem,t0],by simp -dsimp[-getElem?_pos,go_sem,t5],by simp -dsimp[-getElem?_pos,go_sem,t6],by simp -dsimp[-getElem?_pos,go_sem]⟩
   ·have c1:=My c
    have d1:decide (0≤Er x p)=true:=decide_eq_true c1
    have cb:iX x p=false:=by simpa[iX]using c
    rw[cb,Bool.false_and]at hq
    simp -dsimp -implicitDefEqProofs [-getElem?_pos,go_sem,hP,h1,t7,k0,hjk,wj,t0,hx,cPy,d1,hq]
 ·have hk:k=l.length:=by simp at h;omega
  subst hk
  rw[List.drop_length,dU]at hq
  simp -dsimp -implicitDefEqProofs [-getElem?_pos,go_sem,hP,hq]
theorem GJ (l:List Int) (hl:l.length≤1000000):PFun Tryz.prog none none 196 [aF l] (·=bv (gv none l)):=by
 refine ab Tryz.func196 rfl (by simp[Tryz.f196]) (by kernel_rfl) ?_
 intro E hP hr hs hW hN
 obtain⟨R,hR⟩:∃R,R=gv none l:=⟨_,rfl⟩
 rw[←hR]
 simp -dsimp -implicitDefEqProofs [-getElem?_pos,go_sem,hP,aF]
 obtain⟨I,hI⟩:∃I:Nat→St→Prop,I=fun m s=>∃(k:Nat) (o:Option Int),k≤l.length∧m=l.length-k∧R=gv o (l.drop k)∧(k=0→o=none)∧(∀j x,k=j+1→l[j]?=some x→o=some x)∧s.t 0=aF l∧s.t 5=aF l∧s.t 6=iv l.length∧s.t 7=iv k:=⟨_,rfl⟩
 refine ay I (l.length) (by rw[hN];rfl) ?_ ?_
 ·rw[hI]
  exact⟨0,none,by omega,by omega,by rw[hR];rfl,by simp,by omega,by simp -dsimp[-getElem?_pos,go_sem,aF],by simp -dsimp[-getElem?_pos,go_sem,aF],by simp -dsimp[-getElem?_pos,go_sem],by simp -dsimp[-getElem?_pos,go_sem]⟩
 intro m s hs'
 rw[hI]at hs'
 obtain⟨k,o,hk,hm,hq,ho0,ho1,t0,t5,t6,t7⟩:=hs'
 simp -dsimp -implicitDefEqProofs [-getElem?_pos,go_sem,hP,t6,t7]
 refine aB (fun h=>?_) (fun h=>?_)
 ·have hk:k<l.length:=by simpa using h
  obtain⟨p,hp⟩:∃p,l[k]?=some p:=⟨_,List.getElem?_eq_getElem hk⟩
  have wk:=af ((k:Int)+1) (by omega)
  rw[cU hp,gv]at hq
  simp -dsimp -implicitDefEqProofs [-getElem?_pos,go_sem,hP,t5,t7,aF,hp]
  refine ah (gV p 1 1000000) hP pz (ai (by simp -dsimp[-getElem?_pos,go_sem])) .sc ?_
  cases h1:amg p 1 1000000
  ·rw[h1,Bool.false_and]at hq
   simp -dsimp -implicitDefEqProofs [-getElem?_pos,go_sem,hP,h1,hq]
  rw[h1,Bool.true_and]at hq
  rcases Nat.eq_zero_or_pos k with k0|k0
  ·rw[ho0 k0,tV,Bool.true_and]at hq
   have k0':¬0<k:=by omega
   have hjk:decide ((0:Int)<(k:Int))=false:=decide_eq_false (by omega)
   simp -dsimp -implicitDefEqProofs [-getElem?_pos,go_sem,hP,h1,t7,k0',hjk,wk]
   refine⟨l.length-(k+1),by omega,?_⟩
   rw[hI]
   exact⟨k+1,some p,by omega,rfl,hq,by omega,ko (f:=some) hp,by simp -dsimp[-getElem?_pos,go_sem,t0],by simp -dsimp[-getElem?_pos,go_sem,t5],by simp -dsimp[-getElem?_pos,go_sem,t6],by simp -dsimp[-getElem?_pos,go_sem]⟩
  ·obtain⟨j,hj⟩:∃j,k=j+1:=⟨k-1,by omega⟩
   obtain⟨x,hx⟩:∃x,l[j]?=some x:=⟨_,List.getElem?_eq_getElem (by omega)⟩
   have hox:=ho1 j x hj hx
   have hjk:decide ((0:Int)<(k:Int))=true:=decide_eq_true (by omega)
   have wj:IntKind.i64.wrap ((k:Int)-1)=(j:Int):=by rw[af _ (by omega)];omega
   rw[hox,tV]at hq
   by_cases c:x<p
   ·have d1:decide (p≤x)=false:=decide_eq_false (by omega)
    rw[decide_eq_true c,Bool.true_and]at hq
    simp -dsimp -implicitDefEqProofs [-getElem?_pos,go_sem,hP,h1,t7,k0,hjk,wj,t0,aF,hx,d1,wk]
    refine⟨l.length-(k+1),by omega,?_⟩
    rw[hI]
    exact⟨k+1,some p,by omega,rfl,hq,by omega,ko (f:=some) hp,by simp -dsimp[-getElem?_pos,go_sem,t0],by simp -dsimp[-getElem?_pos,go_sem,t5],by simp -dsimp[-getElem?_pos,go_sem,t6],by simp -dsimp[-getElem?_pos,go_sem]⟩
   ·have d1:decide (p≤x)=true:=decide_eq_true (by omega)
    rw[decide_eq_false c,Bool.false_and]at hq
    simp -dsimp -implicitDefEqProofs [-getElem?_pos,go_sem,hP,h1,t7,k0,hjk,wj,t0,aF,hx,d1,hq]
 ·have hk:k=l.length:=by simp at h;omega
  subst hk
  rw[List.drop_length,gv]at hq
  simp -dsimp -implicitDefEqProofs [-getElem?_pos,go_sem,hP,hq]
open Go.PA
open Go.RowKit
theorem AY (p:TPayment) (q:TQueue) (hl:q.Known.length≤1000000):PFun Tryz.prog none none 259 [.agg p.cells,.iref q.cells] (·=bv (!inK q.Known p)):=by
 refine ab Tryz.func259 rfl (by simp[Tryz.f259]) (by kernel_rfl) ?_
 intro E hP hr hs hW hN
 simp -dsimp -implicitDefEqProofs [-getElem?_pos,go_sem,hP,cPy,cQu]
 refine ae ((vi q.Known p.Warrant hl).lift _ _) hP NW (by simp[fG,ar]) .sc ?_
 simp -dsimp -implicitDefEqProofs [-getElem?_pos,go_sem,hP,inK]
theorem s9 (q:TQueue) (l:List TPayment) (hq:q.Known.length≤1000000) (hl:l.length≤1000000):PFun Tryz.prog none none 197 [.agg q.cells,aC l] (·=bv (!l.all (inK q.Known))):=by
 refine ab Tryz.func197 rfl (by simp[Tryz.f197]) (by kernel_rfl) ?_
 intro E hP hr hs hW hN
 have iq:=q.imm
 have ip:=cg l
 simp -dsimp -implicitDefEqProofs [-getElem?_pos,go_sem,hP,cQu,aF]
 refine ah (mD l 259 [.iref q.cells] (fun p=>!inK q.Known p) hl N1 (by simp[fN];exact q.imm) fun p _=>AY p q hq) hP I2 (aH ip (nM (cs:=[.ref 0 0 0]) (by simp -dsimp[-getElem?_pos,go_sem,nX,cQu,aF]) (by simp[fN];exact q.imm) (be.2 trivial))) .sc ?_
 have e:l.any (fun p=>!inK q.Known p)=!l.all (inK q.Known):=by rw[List.not_all_eq_any_not]
 simp -dsimp -implicitDefEqProofs [-getElem?_pos,go_sem,hP,e]
theorem Lp {β:Type} (l:List (Int×β)) (k a:Int) (v:β):jl (tK l k v) a=if a=k then some v else jl l a:=by
 induction l with
 |nil=>
  simp only[tK,jl]
  by_cases h:a=k
  ·subst h;simp
  ·rw[if_neg (fun e=>h e.symm),if_neg h]
 |cons e l ih=>
  simp only[tK]
  by_cases h:e.1=k
  ·rw[if_pos h]
   simp only[jl]
   by_cases h':a=k
   ·subst h';simp
   ·rw[if_neg (fun e=>h' e.symm),if_neg h',if_neg (fun e'=>h' (e'.symm.trans h))]
  ·rw[if_neg h]
   simp only[jl,ih]
   by_cases h':e.1=a
   ·rw[if_pos h',if_pos h',if_neg (fun e'=>h (h'.trans e'))]
   ·rw[if_neg h',if_neg h']
def td (l:List TPayment):List (Int×Bool):=l.foldl (fun m p=>tK m p.Warrant true) []
theorem xN (w:Int):∀(l:List TPayment) (m:List (Int×Bool)),(jl (l.foldl (fun m p=>tK m p.Warrant true) m) w).getD false=((jl m w).getD false||l.any fun x=>decide (x.Warrant=w))
 |[],m=>by simp
 |p::l,m=>by
  rw[List.foldl_cons,xN w l,Lp,List.any_cons]
  by_cases h:w=p.Warrant
  ·simp[h]
  ·have h':¬p.Warrant=w:=fun e=>h e.symm
   simp[h,h']
theorem KB (l:List TPayment) (w:Int):(jl (td l) w).getD false=l.any fun x=>decide (x.Warrant=w):=by
 rw[td,xN]
 simp[jl]
theorem F3 (l:List TPayment) (p:TPayment):tK (td l) p.Warrant true=td (l++[p]):=by
 rw[td,td,List.foldl_append]
 rfl
theorem yO (l:List TPayment) (hl:l.length≤1000000):PFun Tryz.prog none none 198 [aC l] (·=bv (!cX [] l)):=by
 refine ab Tryz.func198 rfl (by simp[Tryz.f198]) (by kernel_rfl) ?_
 intro E hP hr hs hW hN
 obtain⟨R,hR⟩:∃R,R=cX [] l:=⟨_,rfl⟩
 rw[←hR]
 simp -dsimp -implicitDefEqProofs [-getElem?_pos,go_sem,hP]
 obtain⟨I,hI⟩:∃I:Nat→St→Prop,I=fun m s=>∃k:Nat,k≤l.length∧m=l.length-k∧R=cX (l.take k) (l.drop k)∧s.t 3= .mref 0∧s.t 7=aC l∧s.t 8=iv l.length∧s.t 9=iv k∧s.H[0]?=some (some ⟨0,2,mP EU (td (l.take k))⟩):=⟨_,rfl⟩
 refine ay I (l.length) (by rw[hN];rfl) ?_ ?_
 ·rw[hI]
  exact⟨0,by omega,by omega,by rw[hR];rfl,by simp -dsimp[-getElem?_pos,go_sem],by simp -dsimp[-getElem?_pos,go_sem],by simp -dsimp[-getElem?_pos,go_sem],by simp -dsimp[-getElem?_pos,go_sem],by simp -dsimp[-getElem?_pos,go_sem];rfl⟩
 intro m s hs'
 rw[hI]at hs'
 obtain⟨k,hk,hm,hq,t3,t7,t8,t9,hH⟩:=hs'
 have lt0:=(gsI hH)
 simp -dsimp -implicitDefEqProofs [-getElem?_pos,go_sem,hP,t8,t9]
 refine aB (fun h=>?_) (fun h=>?_)
 ·have hk:k<l.length:=by simpa using h
  obtain⟨p,hp⟩:∃p,l[k]?=some p:=⟨_,List.getElem?_eq_getElem hk⟩
  have wk:=af ((k:Int)+1) (by omega)
  rw[cU hp,cX]at hq
  have sg:=KB (l.take k) p.Warrant
  have ss:=F3 (l.take k) p
  rw[←bV hp]at ss hq
  generalize td (l.take k)=M at sg ss hH
  generalize (l.take k).any (fun x=>decide (x.Warrant=p.Warrant))=y at sg hq
  cases y
  ·rw[Bool.not_false,Bool.true_and]at hq
   simp -dsimp -implicitDefEqProofs [-getElem?_pos,go_sem,hP,t7,t9,hp,cPy,t3,lt0,hH,sg]
   simp -dsimp -implicitDefEqProofs [-getElem?_pos,go_sem,hP,t3,lt0,hH,wk,t9,ss]
   refine⟨l.length-(k+1),by omega,?_⟩
   rw[hI]
   exact⟨k+1,by omega,rfl,hq,by simp -dsimp[-getElem?_pos,go_sem,t3],by simp -dsimp[-getElem?_pos,go_sem,t7],by simp -dsimp[-getElem?_pos,go_sem,t8],by simp -dsimp[-getElem?_pos,go_sem],by simp -dsimp[-getElem?_pos,go_sem,lt0]⟩
  ·rw[Bool.not_true,Bool.false_and]at hq
   simp -dsimp -implicitDefEqProofs [-getElem?_pos,go_sem,hP,t7,t9,hp,cPy,t3,lt0,hH,sg,hq]
 ·have hk:k=l.length:=by simp at h;omega
  subst hk
  rw[List.drop_length,cX]at hq
  simp -dsimp -implicitDefEqProofs [-getElem?_pos,go_sem,hP,hq]
theorem Gl (d:Int):PFun Tryz.prog none none 182 [iv d] (·=bv (amg d 0 36000)):=by
 refine ab Tryz.func182 rfl (by simp[Tryz.f182]) (by kernel_rfl) ?_
 intro E hP hr hs hW hN
 by_cases h1:0≤d<;>by_cases h2:d≤36000<;>simp -dsimp -implicitDefEqProofs [-getElem?_pos,go_sem,hP,h1,h2,amg]
theorem BX (d:Int):PFun Tryz.prog none none 277 [iv d] (·=bv (amg d 0 36000)):=by
 refine ab Tryz.func277 rfl (by simp[Tryz.f277]) (by kernel_rfl) ?_
 intro E hP hr hs hW hN
 by_cases h1:0≤d<;>by_cases h2:d≤36000<;>simp -dsimp -implicitDefEqProofs [-getElem?_pos,go_sem,hP,h1,h2,amg]
theorem zU (d:Int):PFun Tryz.prog none none 118 [iv d] (·=bv (gW d)):=by
 refine ab Tryz.func118 rfl (by simp[Tryz.f118]) (by kernel_rfl) ?_
 intro E hP hr hs hW hN
 simp -dsimp -implicitDefEqProofs [-getElem?_pos,go_sem,hP]
 refine ah (Gl d) hP O9 (ai (by simp -dsimp[-getElem?_pos,go_sem])) .sc ?_
 cases h:amg d 0 36000
 ·simp -dsimp -implicitDefEqProofs [-getElem?_pos,go_sem,hP,h,gW]
 have hd:=dS.1 h
 have e:d.tmod 7=d%7:=Int.tmod_eq_emod_of_nonneg (by omega)
 have w:=af (d%7) (by omega)
 simp -dsimp -implicitDefEqProofs [-getElem?_pos,go_sem,hP,h,gW,e,w]
theorem j4 (d:Int):PFun Tryz.prog none none 219 [iv d] (·=bv (gW d)):=by
 refine ab Tryz.func219 rfl (by simp[Tryz.f219]) (by kernel_rfl) ?_
 intro E hP hr hs hW hN
 simp -dsimp -implicitDefEqProofs [-getElem?_pos,go_sem,hP]
 refine ah (BX d) hP OG (ai (by simp -dsimp[-getElem?_pos,go_sem])) .sc ?_
 cases h:amg d 0 36000
 ·simp -dsimp -implicitDefEqProofs [-getElem?_pos,go_sem,hP,h,gW]
 have hd:=dS.1 h
 have e:d.tmod 7=d%7:=Int.tmod_eq_emod_of_nonneg (by omega)
 have w:=af (d%7) (by omega)
 simp -dsimp -implicitDefEqProofs [-getElem?_pos,go_sem,hP,h,gW,e,w]
open Go.PA
open Go.RowKit
set_option maxHeartbeats 1000000 in
theorem KZ (q:TQueue) (hf:FitQ q):PFun Tryz.prog none none 199 [.agg q.cells] (·=bv (bJ q.Known 0 0 q.Batches)):=by
 refine ab Tryz.func199 rfl (by simp[Tryz.f199]) (by kernel_rfl) ?_
 intro E hP hr hs hW hN
 have iq:=dr q
 obtain⟨R,hR⟩:∃R,R=bJ q.Known 0 0 q.Batches:=⟨_,rfl⟩
 rw[←hR]
 have str:=s9 q
 rw[cQu]at iq str
 simp only[aF]at iq str
 have hk9:=hf.k
 have hb9:=hf.b
 obtain⟨l,hl⟩:∃l,l=q.Batches:=⟨_,rfl⟩
 have each:∀b,b∈l→b.Payments.length≤100000:=hl▸hf.each
 rw[←hl]at hR hb9 str iq
 simp -dsimp -implicitDefEqProofs [-getElem?_pos,go_sem,hP,cQu,aF,←hl]
 obtain⟨I,hI⟩:∃I:Nat→St→Prop,I=fun m s=>∃(k:Nat) (d:Int),k≤l.length∧m=l.length-k∧R=bJ q.Known k d (l.drop k)∧s.t 1= .ref 0 0 0∧s.t 3=iv d∧s.t 7=aX l∧s.t 8=iv l.length∧s.t 9=iv k∧s.H[0]?=some (some ⟨32,3,[[aC q.Waiting,.list 1 (q.Known.map fun x=>[iv x]),aX l]]⟩):=⟨_,rfl⟩
 refine ay I (l.length) (by rw[hN];rfl) ?_ ?_
 ·rw[hI]
  exact⟨0,0,by omega,by omega,by rw[hR];rfl,by simp -dsimp[-getElem?_pos,go_sem],by simp -dsimp[-getElem?_pos,go_sem],by simp -dsimp[-getElem?_pos,go_sem],by simp -dsimp[-getElem?_pos,go_sem],by simp -dsimp[-getElem?_pos,go_sem],by simp -dsimp[-getElem?_pos,go_sem]⟩
 intro m s hs'
 rw[hI]at hs'
 obtain⟨k,d,hk,hm,hq,t1,t3,t7,t8,t9,h0⟩:=hs'
 have lt0:=(gsI h0)
 simp -dsimp -implicitDefEqProofs [-getElem?_pos,go_sem,hP,t8,t9]
 refine aB (fun h=>?_) (fun h=>?_)
 ·have hk:k<l.length:=by simpa using h
  obtain⟨b,hb⟩:∃b,l[k]?=some b:=⟨_,List.getElem?_eq_getElem hk⟩
  have hbl:=each b (List.mem_of_getElem? hb)
  have wk:=af ((k:Int)+1) (by omega)
  have ip:=cg b.Payments
  rw[cU hb,bJ,xx]at hq
  simp -dsimp -implicitDefEqProofs [-getElem?_pos,go_sem,hP,t7,t9,hb,cBt]
  by_cases c1:b.Number=(k:Int)+1
  rotate_left
  ·rw[decide_eq_false c1,Bool.false_and,Bool.false_and]at hq
   have d1:=decide_eq_false c1
   simp -dsimp -implicitDefEqProofs [-getElem?_pos,go_sem,hP,wk,c1,d1,hq]
  rw[decide_eq_true c1,Bool.true_and]at hq
  by_cases c2:d≤b.Day
  rotate_left
  ·rw[decide_eq_false c2,Bool.false_and,Bool.false_and]at hq
   have d2:decide (b.Day<d)=true:=decide_eq_true (by omega)
   simp -dsimp -implicitDefEqProofs [-getElem?_pos,go_sem,hP,wk,c1,t3,d2,hq]
  rw[decide_eq_true c2,Bool.true_and]at hq
  have d2:decide (b.Day<d)=false:=decide_eq_false (by omega)
  simp -dsimp -implicitDefEqProofs [-getElem?_pos,go_sem,hP,wk,c1,t3,d2]
  refine ah (zU b.Day) hP Oc (ai (by simp -dsimp[-getElem?_pos,go_sem])) .sc ?_
  cases c3:gW b.Day
  ·rw[c3,Bool.false_and,Bool.false_and]at hq
   simp -dsimp -implicitDefEqProofs [-getElem?_pos,go_sem,hP,c3,hq]
  rw[c3,Bool.true_and]at hq
  simp -dsimp -implicitDefEqProofs [-getElem?_pos,go_sem,hP,c3]
  refine ah (gV b.Payments.length 1 10) hP pz (ai (by simp -dsimp[-getElem?_pos,go_sem])) .sc ?_
  cases c4:amg b.Payments.length 1 10
  ·rw[c4,Bool.false_and,Bool.false_and]at hq
   simp -dsimp -implicitDefEqProofs [-getElem?_pos,go_sem,hP,c4,hq]
  rw[c4,Bool.true_and,rZ]at hq
  simp -dsimp -implicitDefEqProofs [-getElem?_pos,go_sem,hP,c4]
  refine ae ((sP b.Payments (by omega)).lift _ _) hP Kg (by simpa using ip) .sc ?_
  cases c5:dU none b.Payments
  ·rw[c5,Bool.false_and,Bool.false_and]at hq
   simp -dsimp -implicitDefEqProofs [-getElem?_pos,go_sem,hP,c5,hq]
  rw[c5,Bool.true_and]at hq
  simp -dsimp -implicitDefEqProofs [-getElem?_pos,go_sem,hP,c5,t1,h0,lt0]
  refine ae ((str b.Payments (by omega) (by omega)).lift _ _) hP Kx (by simpa using⟨iq,ip⟩) .sc ?_
  cases c6:b.Payments.all (inK q.Known)
  ·rw[c6,Bool.false_and,Bool.false_and]at hq
   simp -dsimp -implicitDefEqProofs [-getElem?_pos,go_sem,hP,c6,hq]
  rw[c6,Bool.true_and]at hq
  simp -dsimp -implicitDefEqProofs [-getElem?_pos,go_sem,hP,c6]
  refine ae ((yO b.Payments (by omega)).lift _ _) hP Li (by simpa using ip) .sc ?_
  cases c7:cX [] b.Payments
  ·rw[c7,Bool.false_and]at hq
   simp -dsimp -implicitDefEqProofs [-getElem?_pos,go_sem,hP,c7,hq]
  rw[c7,Bool.true_and]at hq
  simp -dsimp -implicitDefEqProofs [-getElem?_pos,go_sem,hP,c7,t9,wk]
  refine⟨l.length-(k+1),by omega,?_⟩
  rw[hI]
  exact⟨k+1,b.Day,by omega,rfl,hq,by simp -dsimp[-getElem?_pos,go_sem,t1],by simp -dsimp[-getElem?_pos,go_sem],by simp -dsimp[-getElem?_pos,go_sem,t7],by simp -dsimp[-getElem?_pos,go_sem,t8],by simp -dsimp[-getElem?_pos,go_sem],by simp -dsimp[-getElem?_pos,go_sem,lt0,h0]⟩
 ·have hk:k=l.length:=by simp at h;omega
  subst hk
  rw[List.drop_length,bJ]at hq
  simp -dsimp -implicitDefEqProofs [-getElem?_pos,go_sem,hP,hq]
set_option maxHeartbeats 1000000 in
theorem HD (q:TQueue) (hf:FitQ q):PFun Tryz.prog none none 135 [.agg q.cells] (·=iv (cT q)):=by
 refine ab Tryz.func135 rfl (by simp[Tryz.f135]) (by kernel_rfl) ?_
 intro E hP hr hs hW hN
 have iq:=dr q
 have iw:=cg q.Waiting
 have ik:=fG q.Known
 obtain⟨R,hR⟩:∃R,R=cT q:=⟨_,rfl⟩
 rw[←hR]
 have str:=s9 q
 have sen:=KZ q hf
 have knn:=GJ q.Known (by have:=hf.k;omega)
 rw[cQu]at iq str sen
 simp only[aF]at iq str sen knn ik
 have hk9:=hf.k
 have hb9:=hf.b
 have hw9:=hf.w
 rw[cT]at hR
 by_cases c1:100<q.Waiting.length
 ·have d1:decide ((100:Int)<(q.Waiting.length:Int))=true:=decide_eq_true (by omega)
  rw[if_pos (.inl c1)]at hR
  simp -dsimp -implicitDefEqProofs [-getElem?_pos,go_sem,hP,cQu,aF,c1,d1,hR]
 have d1:decide ((100:Int)<(q.Waiting.length:Int))=false:=decide_eq_false (by omega)
 by_cases c2:200<q.Known.length
 ·have d2:decide ((200:Int)<(q.Known.length:Int))=true:=decide_eq_true (by omega)
  rw[if_pos (.inr (.inl c2))]at hR
  simp -dsimp -implicitDefEqProofs [-getElem?_pos,go_sem,hP,cQu,aF,c1,d1,c2,d2,hR]
 have d2:decide ((200:Int)<(q.Known.length:Int))=false:=decide_eq_false (by omega)
 by_cases c3:200<q.Batches.length
 ·have d3:decide ((200:Int)<(q.Batches.length:Int))=true:=decide_eq_true (by omega)
  rw[if_pos (.inr (.inr c3))]at hR
  simp -dsimp -implicitDefEqProofs [-getElem?_pos,go_sem,hP,cQu,aF,c1,d1,c2,d2,c3,d3,hR]
 have d3:decide ((200:Int)<(q.Batches.length:Int))=false:=decide_eq_false (by omega)
 rw[if_neg (by omega),rZ]at hR
 simp -dsimp -implicitDefEqProofs [-getElem?_pos,go_sem,hP,cQu,aF,d1,d2,d3]
 refine ae ((sP q.Waiting (by omega)).lift _ _) hP Kg (by simpa using iw) .sc ?_
 cases c5:dU none q.Waiting
 ·rw[c5,Bool.false_and,Bool.false_and,Bool.and_false,if_neg (by simp)]at hR
  simp -dsimp -implicitDefEqProofs [-getElem?_pos,go_sem,hP,c5,hR]
 rw[c5,Bool.true_and]at hR
 simp -dsimp -implicitDefEqProofs [-getElem?_pos,go_sem,hP,c5]
 refine ae (knn.lift _ _) hP OJ (by simpa using ik) .sc ?_
 cases c4:gv none q.Known
 ·rw[c4,Bool.false_and,if_neg (by simp)]at hR
  simp -dsimp -implicitDefEqProofs [-getElem?_pos,go_sem,hP,c4,hR]
 rw[c4,Bool.true_and]at hR
 simp -dsimp -implicitDefEqProofs [-getElem?_pos,go_sem,hP,c4]
 refine ae ((str q.Waiting (by omega) (by omega)).lift _ _) hP Kx (by simpa using⟨iq,iw⟩) .sc ?_
 cases c6:q.Waiting.all (inK q.Known)
 ·rw[c6,Bool.false_and,Bool.false_and,if_neg (by simp)]at hR
  simp -dsimp -implicitDefEqProofs [-getElem?_pos,go_sem,hP,c6,hR]
 rw[c6,Bool.true_and]at hR
 simp -dsimp -implicitDefEqProofs [-getElem?_pos,go_sem,hP,c6]
 refine ae ((yO q.Waiting (by omega)).lift _ _) hP Li (by simpa using iw) .sc ?_
 cases c7:cX [] q.Waiting
 ·rw[c7,Bool.false_and,if_neg (by simp)]at hR
  simp -dsimp -implicitDefEqProofs [-getElem?_pos,go_sem,hP,c7,hR]
 rw[c7,Bool.true_and]at hR
 simp -dsimp -implicitDefEqProofs [-getElem?_pos,go_sem,hP,c7]
 refine ae (sen.lift _ _) hP On (by simpa using iq) .sc ?_
 cases c8:bJ q.Known 0 0 q.Batches
 ·rw[c8,if_neg (by simp)]at hR
  simp -dsimp -implicitDefEqProofs [-getElem?_pos,go_sem,hP,c8,hR]
 rw[c8,if_pos rfl]at hR
 simp -dsimp -implicitDefEqProofs [-getElem?_pos,go_sem,hP,c8,hR]
open Go.PA
open Go.RowKit
theorem Ab (p:TPayment):PFun Tryz.prog none none 271 [.agg p.cells] (·=bv (gz p)):=by
 refine ab Tryz.func271 rfl (by simp[Tryz.f271]) (by kernel_rfl) ?_
 intro E hP hr hs hW hN
 obtain⟨R,hR⟩:∃R,R=gz p:=⟨_,rfl⟩
 rw[←hR]
 have hiff:=g7 p
 rw[←hR]at hiff
 have no:¬PayOk p→R=false:=fun h=>Bool.eq_false_iff.2 fun e=>h (hiff.1 e)
 have yes:PayOk p→R=true:=hiff.2
 by_cases c1:1≤p.Warrant
 rotate_left
 ·have:=no fun h=>c1 h.warrant.1
  simp -dsimp -implicitDefEqProofs [-getElem?_pos,go_sem,hP,cPy,c1,this]
 by_cases c2:p.Warrant≤1000000
 rotate_left
 ·have:=no fun h=>c2 h.warrant.2
  simp -dsimp -implicitDefEqProofs [-getElem?_pos,go_sem,hP,cPy,c1,c2,this]
 by_cases c3:1≤p.Payee
 rotate_left
 ·have:=no fun h=>c3 h.payee.1
  simp -dsimp -implicitDefEqProofs [-getElem?_pos,go_sem,hP,cPy,c1,c2,c3,this]
 by_cases c4:p.Payee≤1000000
 rotate_left
 ·have:=no fun h=>c4 h.payee.2
  simp -dsimp -implicitDefEqProofs [-getElem?_pos,go_sem,hP,cPy,c1,c2,c3,c4,this]
 by_cases c5:1≤p.Amount
 rotate_left
 ·have:=no fun h=>c5 h.amount.1
  simp -dsimp -implicitDefEqProofs [-getElem?_pos,go_sem,hP,cPy,c1,c2,c3,c4,c5,this]
 by_cases c6:p.Amount≤1000000000000
 rotate_left
 ·have:=no fun h=>c6 h.amount.2
  simp -dsimp -implicitDefEqProofs [-getElem?_pos,go_sem,hP,cPy,c1,c2,c3,c4,c5,c6,this]
 by_cases c7:0≤p.Due
 rotate_left
 ·have:=no fun h=>c7 h.due.1
  simp -dsimp -implicitDefEqProofs [-getElem?_pos,go_sem,hP,cPy,c1,c2,c3,c4,c5,c6,c7,this]
 by_cases c8:p.Due≤35990
 rotate_left
 ·have:=no fun h=>c8 h.due.2
  simp -dsimp -implicitDefEqProofs [-getElem?_pos,go_sem,hP,cPy,c1,c2,c3,c4,c5,c6,c7,c8,this]
 by_cases c9:1≤p.Sub
 rotate_left
 ·have:=no fun h=>c9 h.sub.1
  simp -dsimp -implicitDefEqProofs [-getElem?_pos,go_sem,hP,cPy,c1,c2,c3,c4,c5,c6,c7,c8,c9,this]
 by_cases c10:p.Sub≤1000
 rotate_left
 ·have:=no fun h=>c10 h.sub.2
  simp -dsimp -implicitDefEqProofs [-getElem?_pos,go_sem,hP,cPy,c1,c2,c3,c4,c5,c6,c7,c8,c9,c10,this]
 have:=yes ⟨⟨c1,c2⟩,⟨c3,c4⟩,⟨c5,c6⟩,⟨c7,c8⟩,c9,c10⟩
 simp -dsimp -implicitDefEqProofs [-getElem?_pos,go_sem,hP,cPy,c1,c2,c3,c4,c5,c6,c7,c8,c9,c10,this]
theorem wY (a b:TPayment):PFun Tryz.prog none none 302 [.agg a.cells,.agg b.cells] (·=bv (iX a b)):=by
 refine ab Tryz.func302 rfl (by simp[Tryz.f302]) (by kernel_rfl) ?_
 intro E hP hr hs hW hN
 by_cases c1:a.Due<b.Due
 ·have:iX a b=true:=jJ.2 (.inl c1)
  simp -dsimp -implicitDefEqProofs [-getElem?_pos,go_sem,hP,cPy,c1,this]
 by_cases c2:a.Due=b.Due
 rotate_left
 ·have:iX a b=false:=Bool.eq_false_iff.2 fun e=>by have:=jJ.1 e;unfold Bef at this;omega
  simp -dsimp -implicitDefEqProofs [-getElem?_pos,go_sem,hP,cPy,c1,c2,this]
 have d1:decide (b.Due<b.Due)=false:=decide_eq_false (by omega)
 by_cases c3:a.Warrant<b.Warrant
 ·have:iX a b=true:=jJ.2 (.inr ⟨c2,c3⟩)
  simp -dsimp -implicitDefEqProofs [-getElem?_pos,go_sem,hP,cPy,c1,c2,c3,d1,this]
 ·have:iX a b=false:=Bool.eq_false_iff.2 fun e=>by have:=jJ.1 e;unfold Bef at this;omega
  simp -dsimp -implicitDefEqProofs [-getElem?_pos,go_sem,hP,cPy,c1,c2,c3,d1,this]
theorem xU (q:TQueue) (w:Int) (hl:q.Known.length≤1000000):PFun Tryz.prog none none 275 [.agg q.cells,iv w] (·=bv (decide (w∈q.Known))):=by
 refine ab Tryz.func275 rfl (by simp[Tryz.f275]) (by kernel_rfl) ?_
 intro E hP hr hs hW hN
 obtain⟨R,hR⟩:∃R,R=decide (w∈q.Known):=⟨_,rfl⟩
 rw[←hR]
 obtain⟨l,hll⟩:∃l,l=q.Known:=⟨_,rfl⟩
 rw[←hll]at hR hl
 simp -dsimp -implicitDefEqProofs [-getElem?_pos,go_sem,hP,cQu,aF,←hll]
 obtain⟨I,hI⟩:∃I:Nat→St→Prop,I=fun m s=>∃k:Nat,k≤l.length∧m=l.length-k∧R=decide (w∈l.drop k)∧s.t 1=iv w∧s.t 8=aF l∧s.t 9=iv l.length∧s.t 10=iv k:=⟨_,rfl⟩
 refine ay I (l.length) (by rw[hN];rfl) ?_ ?_
 ·rw[hI]
  exact⟨0,by omega,by omega,by rw[hR];rfl,by simp -dsimp[-getElem?_pos,go_sem],by simp -dsimp[-getElem?_pos,go_sem,aF],by simp -dsimp[-getElem?_pos,go_sem],by simp -dsimp[-getElem?_pos,go_sem]⟩
 intro m s hs'
 rw[hI]at hs'
 obtain⟨k,hk,hm,hq,t1,t8,t9,t10⟩:=hs'
 simp -dsimp -implicitDefEqProofs [-getElem?_pos,go_sem,hP,t9,t10]
 refine aB (fun h=>?_) (fun h=>?_)
 ·have hk:k<l.length:=by simpa using h
  obtain⟨a,ha⟩:∃a,l[k]?=some a:=⟨_,List.getElem?_eq_getElem hk⟩
  have wk:=af ((k:Int)+1) (by omega)
  rw[cU ha]at hq
  simp only[List.mem_cons]at hq
  by_cases c:a=w
  ·have:R=true:=by rw[hq];simp[c]
   simp -dsimp -implicitDefEqProofs [-getElem?_pos,go_sem,hP,t8,t10,aF,ha,t1,c,this]
  ·have c':¬w=a:=fun e=>c e.symm
   have d:=decide_eq_false c
   simp only[c',false_or]at hq
   simp -dsimp -implicitDefEqProofs [-getElem?_pos,go_sem,hP,t8,t10,aF,ha,t1,c,d,wk]
   refine⟨l.length-(k+1),by omega,?_⟩
   rw[hI]
   exact⟨k+1,by omega,rfl,hq,by simp -dsimp[-getElem?_pos,go_sem,t1],by simp -dsimp[-getElem?_pos,go_sem,t8],by simp -dsimp[-getElem?_pos,go_sem,t9],by simp -dsimp[-getElem?_pos,go_sem]⟩
 ·have hk:k=l.length:=by simp at h;omega
  subst hk
  rw[List.drop_length]at hq
  have:R=false:=by rw[hq];simp
  simp -dsimp -implicitDefEqProofs [-getElem?_pos,go_sem,hP,this]
theorem xV (q:TQueue) (w:Int) (hl:q.Waiting.length≤1000000):PFun Tryz.prog none none 278 [.agg q.cells,iv w] (·=iv (ge q w)):=by
 refine ab Tryz.func278 rfl (by simp[Tryz.f278]) (by kernel_rfl) ?_
 intro E hP hr hs hW hN
 obtain⟨R,hR⟩:∃R,R=ge q w:=⟨_,rfl⟩
 rw[←hR]
 rw[ge]at hR
 obtain⟨l,hll⟩:∃l,l=q.Waiting:=⟨_,rfl⟩
 rw[←hll]at hR hl
 simp -dsimp -implicitDefEqProofs [-getElem?_pos,go_sem,hP,cQu,aF,←hll]
 obtain⟨I,hI⟩:∃I:Nat→St→Prop,I=fun m s=>∃k:Nat,k≤l.length∧m=l.length-k∧R=bE (fun p:TPayment=>decide (p.Warrant=w)) k (l.drop k)∧s.t 1=iv w∧s.t 8=aC l∧s.t 9=iv l.length∧s.t 10=iv k:=⟨_,rfl⟩
 refine ay I (l.length) (by rw[hN];rfl) ?_ ?_
 ·rw[hI]
  exact⟨0,by omega,by omega,by rw[hR];rfl,by simp -dsimp[-getElem?_pos,go_sem],by simp -dsimp[-getElem?_pos,go_sem],by simp -dsimp[-getElem?_pos,go_sem],by simp -dsimp[-getElem?_pos,go_sem]⟩
 intro m s hs'
 rw[hI]at hs'
 obtain⟨k,hk,hm,hq,t1,t8,t9,t10⟩:=hs'
 simp -dsimp -implicitDefEqProofs [-getElem?_pos,go_sem,hP,t9,t10]
 refine aB (fun h=>?_) (fun h=>?_)
 ·have hk:k<l.length:=by simpa using h
  obtain⟨a,ha⟩:∃a,l[k]?=some a:=⟨_,List.getElem?_eq_getElem hk⟩
  have wk:=af ((k:Int)+1) (by omega)
  rw[cU ha,bE]at hq
  by_cases c:a.Warrant=w
  ·rw[if_pos (by simpa using c)]at hq
   simp -dsimp -implicitDefEqProofs [-getElem?_pos,go_sem,hP,t8,t10,ha,cPy,t1,c,hq]
  ·rw[if_neg (by simpa using c)]at hq
   have d:=decide_eq_false c
   simp -dsimp -implicitDefEqProofs [-getElem?_pos,go_sem,hP,t8,t10,ha,cPy,t1,c,d,wk]
   refine⟨l.length-(k+1),by omega,?_⟩
   rw[hI]
   exact⟨k+1,by omega,rfl,hq,by simp -dsimp[-getElem?_pos,go_sem,t1],by simp -dsimp[-getElem?_pos,go_sem,t8],by simp -dsimp[-getElem?_pos,go_sem,t9],by simp -dsimp[-getElem?_pos,go_sem]⟩
 ·have hk:k=l.length:=by simp at h;omega
  subst hk
  rw[List.drop_length,bE]at hq
  simp -dsimp -implicitDefEqProofs [-getElem?_pos,go_sem,hP,hq]
set_option maxHeartbeats 1000000 in
theorem xu (q:TQueue) (l:List TPayment) (hk9:q.Known.length≤1000000) (hl:l.length≤1000000):PFun Tryz.prog none none 301 [.agg q.cells,aC l] (·=bv (rZ q.Known l)):=by
 refine ab Tryz.func301 rfl (by simp[Tryz.f301]) (by kernel_rfl) ?_
 intro E hP hr hs hW hN
 have iq:=dr q
 have knn:=fun w=>xU q w hk9
 rw[cQu]at iq
 simp only[cQu]at knn
 simp only[aF]at iq knn
 obtain⟨R,hR⟩:∃R,R=rZ q.Known l:=⟨_,rfl⟩
 rw[←hR]
 simp -dsimp -implicitDefEqProofs [-getElem?_pos,go_sem,hP,cQu,aF]
 obtain⟨I,hI⟩:∃I:Nat→St→Prop,I=fun m s=>∃(k:Nat) (o:Option TPayment),k≤l.length∧m=l.length-k∧R=(dU o (l.drop k)&&((l.drop k).all (inK q.Known)&&cX (l.take k) (l.drop k)))∧(k=0→o=none)∧(∀j x,k=j+1→l[j]?=some x→o=some x)∧s.t 1=aC l∧s.t 2= .ref 0 0 0∧s.t 9=aC l∧s.t 10=iv l.length∧s.t 11=iv k∧s.H[0]?=some (some ⟨32,3,[[aC q.Waiting,.list 1 (q.Known.map fun x=>[iv x]),aX q.Batches]]⟩):=⟨_,rfl⟩
 refine ay I (l.length) (by rw[hN];rfl) ?_ ?_
 ·rw[hI]
  exact⟨0,none,by omega,by omega,by rw[hR];rfl,by simp,by omega,by simp -dsimp[-getElem?_pos,go_sem],by simp -dsimp[-getElem?_pos,go_sem],by simp -dsimp[-getElem?_pos,go_sem],by simp -dsimp[-getElem?_pos,go_sem],by simp -dsimp[-getElem?_pos,go_sem],by simp -dsimp[-getElem?_pos,go_sem]⟩
 intro m s hs'
 rw[hI]at hs'
 obtain⟨k,o,hk,hm,hq,ho0,ho1,t1,t2,t9,t10,t11,h0⟩:=hs'
 have lt0:=(gsI h0)
 simp -dsimp -implicitDefEqProofs [-getElem?_pos,go_sem,hP,t10,t11]
 refine aB (fun h=>?_) (fun h=>?_)
 rotate_left
 ·have hk:k=l.length:=by simp at h;omega
  subst hk
  rw[List.drop_length,dU,cX]at hq
  have:R=true:=by rw[hq];rfl
  simp -dsimp -implicitDefEqProofs [-getElem?_pos,go_sem,hP,this]
 have hk:k<l.length:=by simpa using h
 obtain⟨p,hp⟩:∃p,l[k]?=some p:=⟨_,List.getElem?_eq_getElem hk⟩
 have wk:=af ((k:Int)+1) (by omega)
 have ip:=fq p
 have py:=Ab p
 rw[cPy]at py ip
 rw[cU hp,dU,List.all_cons,cX,←bV hp]at hq
 have g0:∀x:Option AObj,(s.H++[x])[0]?=some (some ⟨32,3,[[aC q.Waiting,.list 1 (q.Known.map fun x=>[iv x]),aX q.Batches]]⟩):=fun x=>by rw[List.getElem?_append_left lt0];exact h0
 obtain⟨n,hn⟩:∃n,n=s.H.length:=⟨_,rfl⟩
 obtain⟨Inv,hInv⟩:∃Inv:St→Prop,Inv=fun s'=>(R=false∧s'.t 39=bv true∨s'.t 39=bv false∧R=(dU (some p) (l.drop (k+1))&&(((l.drop (k+1)).all (inK q.Known))&&(!((l.take k).any fun x=>decide (x.Warrant=p.Warrant))&&cX (l.take (k+1)) (l.drop (k+1))))))∧s'.t 1=aC l∧s'.t 2= .ref 0 0 0∧s'.t 5=iv k∧s'.t 6= .ref n 0 0∧s'.t 9=aC l∧s'.t 10=iv l.length∧s'.t 11=iv k∧s'.H[0]?=some (some ⟨32,3,[[aC q.Waiting,.list 1 (q.Known.map fun x=>[iv x]),aX q.Batches]]⟩)∧s'.H[n]?=some (some ⟨81,5,[[iv p.Warrant,iv p.Payee,iv p.Amount,iv p.Due,iv p.Sub]]⟩):=⟨_,rfl⟩
 have fin:∀s':St,(R=false∧s'.t 39=bv true∨s'.t 39=bv false∧R=(dU (some p) (l.drop (k+1))&&(((l.drop (k+1)).all (inK q.Known))&&(!((l.take k).any fun x=>decide (x.Warrant=p.Warrant))&&cX (l.take (k+1)) (l.drop (k+1))))))→s'.t 1=aC l→s'.t 2= .ref 0 0 0→s'.t 5=iv k→s'.t 6= .ref n 0 0→s'.t 9=aC l→s'.t 10=iv l.length→s'.t 11=iv k→s'.H[0]?=some (some ⟨32,3,[[aC q.Waiting,.list 1 (q.Known.map fun x=>[iv x]),aX q.Batches]]⟩)→s'.H[n]?=some (some ⟨81,5,[[iv p.Warrant,iv p.Payee,iv p.Amount,iv p.Due,iv p.Sub]]⟩)→Inv s':=fun s' a b c d e f g h i j=>by
  rw[hInv]
  exact⟨a,b,c,d,e,f,g,h,i,j⟩
 simp -dsimp -implicitDefEqProofs [-getElem?_pos,go_sem,hP,t9,t11,hp,cPy]
 refine nY Inv ?_ ?_
 ·refine ao (fun _=>true) [] hP (by kernel_rfl) (by kernel_rfl) ?_
  simp -dsimp -implicitDefEqProofs [-getElem?_pos,go_sem,hP]
  refine ae (py.lift _ _) hP C7 (by simpa using ip) .sc ?_
  cases h1:gz p
  ·rw[h1,Bool.false_and,Bool.false_and]at hq
   simp -dsimp -implicitDefEqProofs [-getElem?_pos,go_sem,hP,h1]
   exact fin _ (.inl ⟨hq,by simp -dsimp[-getElem?_pos,go_sem]⟩) (by simp -dsimp[-getElem?_pos,go_sem,t1]) (by simp -dsimp[-getElem?_pos,go_sem,t2]) (by simp -dsimp[-getElem?_pos,go_sem]) (by simp -dsimp[-getElem?_pos,go_sem,hn]) (by simp -dsimp[-getElem?_pos,go_sem,t9]) (by simp -dsimp[-getElem?_pos,go_sem,t10]) (by simp -dsimp[-getElem?_pos,go_sem,t11]) (by simp -dsimp[-getElem?_pos,go_sem,g0]) (by simp -dsimp[-getElem?_pos,go_sem,hn])
  rw[h1,Bool.true_and]at hq
  simp -dsimp -implicitDefEqProofs [-getElem?_pos,go_sem,hP,h1,t2,g0,lt0,h0]
  refine ae ((knn p.Warrant).lift _ _) hP IL (by simpa[ar]using iq) .sc ?_
  cases h2:decide (p.Warrant∈q.Known)
  ·have hq:R=false:=by rw[hq,inK,h2,Bool.false_and,Bool.false_and,Bool.and_false]
   simp -dsimp -implicitDefEqProofs [-getElem?_pos,go_sem,hP,h2]
   exact fin _ (.inl ⟨hq,by simp -dsimp[-getElem?_pos,go_sem]⟩) (by simp -dsimp[-getElem?_pos,go_sem,t1]) (by simp -dsimp[-getElem?_pos,go_sem,t2]) (by simp -dsimp[-getElem?_pos,go_sem]) (by simp -dsimp[-getElem?_pos,go_sem,hn]) (by simp -dsimp[-getElem?_pos,go_sem,t9]) (by simp -dsimp[-getElem?_pos,go_sem,t10]) (by simp -dsimp[-getElem?_pos,go_sem,t11]) (by simp -dsimp[-getElem?_pos,go_sem,g0]) (by simp -dsimp[-getElem?_pos,go_sem,hn])
  rw[inK,h2,Bool.true_and]at hq
  rcases Nat.eq_zero_or_pos k with k0|k0
  ·rw[ho0 k0,tV,Bool.true_and]at hq
   have k0':¬0<k:=by omega
   have hjk:decide ((0:Int)<(k:Int))=false:=decide_eq_false (by omega)
   simp -dsimp -implicitDefEqProofs [-getElem?_pos,go_sem,hP,h2,k0',hjk]
   exact fin _ (.inr ⟨by simp -dsimp[-getElem?_pos,go_sem],hq⟩) (by simp -dsimp[-getElem?_pos,go_sem,t1]) (by simp -dsimp[-getElem?_pos,go_sem,t2]) (by simp -dsimp[-getElem?_pos,go_sem]) (by simp -dsimp[-getElem?_pos,go_sem,hn]) (by simp -dsimp[-getElem?_pos,go_sem,t9]) (by simp -dsimp[-getElem?_pos,go_sem,t10]) (by simp -dsimp[-getElem?_pos,go_sem,t11]) (by simp -dsimp[-getElem?_pos,go_sem,g0]) (by simp -dsimp[-getElem?_pos,go_sem,hn])
  obtain⟨j,hj⟩:∃j,k=j+1:=⟨k-1,by omega⟩
  obtain⟨x,hx⟩:∃x,l[j]?=some x:=⟨_,List.getElem?_eq_getElem (by omega)⟩
  have hox:=ho1 j x hj hx
  have hjk:decide ((0:Int)<(k:Int))=true:=decide_eq_true (by omega)
  have wj:IntKind.i64.wrap ((k:Int)-1)=(j:Int):=by rw[af _ (by omega)];omega
  have cm:=wY x p
  have ix:=fq x
  rw[cPy,cPy]at cm
  rw[cPy]at ix
  rw[hox,tV]at hq
  simp -dsimp -implicitDefEqProofs [-getElem?_pos,go_sem,hP,h2,k0,hjk,wj,t1,hx,cPy]
  refine ae (cm.lift _ _) hP KM (by simpa using⟨ix,ip⟩) .sc ?_
  cases c:iX x p
  ·rw[c,Bool.false_and,Bool.false_and]at hq
   simp -dsimp -implicitDefEqProofs [-getElem?_pos,go_sem,hP,c]
   exact fin _ (.inl ⟨hq,by simp -dsimp[-getElem?_pos,go_sem]⟩) (by simp -dsimp[-getElem?_pos,go_sem,t1]) (by simp -dsimp[-getElem?_pos,go_sem,t2]) (by simp -dsimp[-getElem?_pos,go_sem]) (by simp -dsimp[-getElem?_pos,go_sem,hn]) (by simp -dsimp[-getElem?_pos,go_sem,t9]) (by simp -dsimp[-getElem?_pos,go_sem,t10]) (by simp -dsimp[-getElem?_pos,go_sem,t11]) (by simp -dsimp[-getElem?_pos,go_sem,g0]) (by simp -dsimp[-getElem?_pos,go_sem,hn])
  ·rw[c,Bool.true_and]at hq
   simp -dsimp -implicitDefEqProofs [-getElem?_pos,go_sem,hP,c]
   exact fin _ (.inr ⟨by simp -dsimp[-getElem?_pos,go_sem],hq⟩) (by simp -dsimp[-getElem?_pos,go_sem,t1]) (by simp -dsimp[-getElem?_pos,go_sem,t2]) (by simp -dsimp[-getElem?_pos,go_sem]) (by simp -dsimp[-getElem?_pos,go_sem,hn]) (by simp -dsimp[-getElem?_pos,go_sem,t9]) (by simp -dsimp[-getElem?_pos,go_sem,t10]) (by simp -dsimp[-getElem?_pos,go_sem,t11]) (by simp -dsimp[-getElem?_pos,go_sem,g0]) (by simp -dsimp[-getElem?_pos,go_sem,hn])
 clear hq ho0 ho1 t1 t2 t9 t10 t11 h0 lt0 g0 fin
 rw[hInv]
 rintro s ⟨hR'|⟨t39,hq⟩,t1,t2,t5,t6,t9,t10,t11,h0,hN'⟩
 ·simp -dsimp -implicitDefEqProofs [-getElem?_pos,go_sem,hP,hR'.1,hR'.2]
 have lt0:=(gsI h0)
 have ltn:=(List.getElem?_eq_some_iff.1 hN').1
 have e1:(aj TPayment.cells l).take k=aj TPayment.cells (l.take k):=eX _ _ _
 have e2:(l.take k).length=k:=by simp;omega
 obtain⟨T,hT⟩:∃T,T=l.take k:=⟨_,rfl⟩
 rw[←hT]at e1 e2 hq
 clear hT
 have c1:(0:Int)≤(k:Int)∧(k:Int)≤(l.length:Int):=by omega
 simp -dsimp -implicitDefEqProofs [-getElem?_pos,go_sem,hP,t39,t1,t5,bg,cK,cD,c1,e1]
 obtain⟨J,hJ⟩:∃I:Nat→St→Prop,I=fun m s=>∃(j:Nat),j≤k∧m=k-j∧R=(dU (some p) (l.drop (k+1))&&(((l.drop (k+1)).all (inK q.Known))&&(!((T.drop j).any fun x=>decide (x.Warrant=p.Warrant))&&cX (l.take (k+1)) (l.drop (k+1)))))∧s.t 1=aC l∧s.t 2= .ref 0 0 0∧s.t 6= .ref n 0 0∧s.t 9=aC l∧s.t 10=iv l.length∧s.t 11=iv k∧s.t 42=aC T∧s.t 43=iv k∧s.t 44=iv j∧s.H[0]?=some (some ⟨32,3,[[aC q.Waiting,.list 1 (q.Known.map fun x=>[iv x]),aX q.Batches]]⟩)∧s.H[n]?=some (some ⟨81,5,[[iv p.Warrant,iv p.Payee,iv p.Amount,iv p.Due,iv p.Sub]]⟩):=⟨_,rfl⟩
 refine ay J (k) (by rw[hN];rfl) ?_ ?_
 ·rw[hJ]
  exact⟨0,by omega,by omega,hq,by simp -dsimp[-getElem?_pos,go_sem,t1],by simp -dsimp[-getElem?_pos,go_sem,t2],by simp -dsimp[-getElem?_pos,go_sem,t6],by simp -dsimp[-getElem?_pos,go_sem,t9],by simp -dsimp[-getElem?_pos,go_sem,t10],by simp -dsimp[-getElem?_pos,go_sem,t11],by simp -dsimp[-getElem?_pos,go_sem],by simp -dsimp[-getElem?_pos,go_sem,e2],by simp -dsimp[-getElem?_pos,go_sem],by simp -dsimp[-getElem?_pos,go_sem,h0],by simp -dsimp[-getElem?_pos,go_sem,hN']⟩
 clear t1 t2 t5 t6 t9 t10 t11 t39 h0 lt0 hN' ltn hq hn
 intro m s hs'
 rw[hJ]at hs'
 obtain⟨j,hj,hm2,hq,t1,t2,t6,t9,t10,t11,t42,t43,t44,h0,hN'⟩:=hs'
 have lt0:=(gsI h0)
 have ltn:=(List.getElem?_eq_some_iff.1 hN').1
 simp -dsimp -implicitDefEqProofs [-getElem?_pos,go_sem,hP,t43,t44]
 refine aB (fun hh=>?_) (fun hh=>?_)
 ·have hj:j<k:=by simpa using hh
  obtain⟨x,hx⟩:∃x,T[j]?=some x:=⟨_,List.getElem?_eq_getElem (by omega)⟩
  have wj:=af ((j:Int)+1) (by omega)
  have gn:∀x:Option AObj,(s.H++[x])[n]?=some (some ⟨81,5,[[iv p.Warrant,iv p.Payee,iv p.Amount,iv p.Due,iv p.Sub]]⟩):=fun x=>by rw[List.getElem?_append_left ltn];exact hN'
  rw[cU hx,List.any_cons]at hq
  by_cases c:x.Warrant=p.Warrant
  ·have:R=false:=by rw[hq,decide_eq_true c];simp
   simp -dsimp -implicitDefEqProofs [-getElem?_pos,go_sem,hP,t42,t44,hx,cPy,t6,gn,ltn,hN',c,this]
  ·have d:=decide_eq_false c
   rw[d,Bool.false_or]at hq
   simp -dsimp -implicitDefEqProofs [-getElem?_pos,go_sem,hP,t42,t44,hx,cPy,t6,gn,ltn,hN',d,wj]
   refine⟨k-(j+1),by omega,?_⟩
   rw[hJ]
   exact⟨j+1,by omega,rfl,hq,by simp -dsimp[-getElem?_pos,go_sem,t1],by simp -dsimp[-getElem?_pos,go_sem,t2],by simp -dsimp[-getElem?_pos,go_sem,t6],by simp -dsimp[-getElem?_pos,go_sem,t9],by simp -dsimp[-getElem?_pos,go_sem,t10],by simp -dsimp[-getElem?_pos,go_sem,t11],by simp -dsimp[-getElem?_pos,go_sem,t42],by simp -dsimp[-getElem?_pos,go_sem,t43],by simp -dsimp[-getElem?_pos,go_sem],by simp -dsimp[-getElem?_pos,go_sem,lt0,h0],by simp -dsimp[-getElem?_pos,go_sem,gn]⟩
 ·have hj:j=k:=by simp at hh;omega
  subst hj
  have e3:T.drop j=[]:=List.drop_eq_nil_of_le (by omega)
  rw[e3,List.any_nil,Bool.not_false,Bool.true_and]at hq
  simp -dsimp -implicitDefEqProofs [-getElem?_pos,go_sem,hP,t11,wk]
  refine⟨l.length-(j+1),by omega,?_⟩
  rw[hI]
  exact⟨j+1,some p,by omega,rfl,hq,by omega,ko (f:=some) hp,by simp -dsimp[-getElem?_pos,go_sem,t1],by simp -dsimp[-getElem?_pos,go_sem,t2],by simp -dsimp[-getElem?_pos,go_sem,t9],by simp -dsimp[-getElem?_pos,go_sem,t10],by simp -dsimp[-getElem?_pos,go_sem],by simp -dsimp[-getElem?_pos,go_sem,h0]⟩
set_option maxHeartbeats 2000000 in
theorem jf (q:TQueue) (hf:FitQ q):PFun Tryz.prog none none 270 [.agg q.cells] (·=iv (cT q)):=by
 refine ab Tryz.func270 rfl (by simp[Tryz.f270]) (by kernel_rfl) ?_
 intro E hP hr hs hW hN
 have iq:=dr q
 have iw:=cg q.Waiting
 obtain⟨R,hR⟩:∃R,R=cT q:=⟨_,rfl⟩
 rw[←hR]
 have hk9:=hf.k
 have hb9:=hf.b
 have hw9:=hf.w
 have asc:=fun l hl=>xu q l (by omega) hl
 rw[cQu]at iq
 simp only[cQu]at asc
 simp only[aF]at iq asc
 rw[cT]at hR
 by_cases c1:100<q.Waiting.length
 ·have d1:decide ((100:Int)<(q.Waiting.length:Int))=true:=decide_eq_true (by omega)
  rw[if_pos (.inl c1)]at hR
  simp -dsimp -implicitDefEqProofs [-getElem?_pos,go_sem,hP,cQu,aF,c1,d1,hR]
 have d1:decide ((100:Int)<(q.Waiting.length:Int))=false:=decide_eq_false (by omega)
 by_cases c2:200<q.Known.length
 ·have d2:decide ((200:Int)<(q.Known.length:Int))=true:=decide_eq_true (by omega)
  rw[if_pos (.inr (.inl c2))]at hR
  simp -dsimp -implicitDefEqProofs [-getElem?_pos,go_sem,hP,cQu,aF,c1,d1,c2,d2,hR]
 have d2:decide ((200:Int)<(q.Known.length:Int))=false:=decide_eq_false (by omega)
 by_cases c3:200<q.Batches.length
 ·have d3:decide ((200:Int)<(q.Batches.length:Int))=true:=decide_eq_true (by omega)
  rw[if_pos (.inr (.inr c3))]at hR
  simp -dsimp -implicitDefEqProofs [-getElem?_pos,go_sem,hP,cQu,aF,c1,d1,c2,d2,c3,d3,hR]
 have d3:decide ((200:Int)<(q.Batches.length:Int))=false:=decide_eq_false (by omega)
 rw[if_neg (by omega)]at hR
 obtain⟨K,hK⟩:∃K,K=q.Known:=⟨_,rfl⟩
 obtain⟨W,hWt⟩:∃W,W=q.Waiting:=⟨_,rfl⟩
 obtain⟨l,hl⟩:∃l,l=q.Batches:=⟨_,rfl⟩
 have each:∀b,b∈l→b.Payments.length≤100000:=hl▸hf.each
 rw[←hK,←hWt,←hl]at hR iq asc
 rw[←hK]at hk9 d2
 rw[←hWt]at hw9 d1 iw
 rw[←hl]at hb9 d3
 have h0I:∀(H:ac),H[0]?=some (some ⟨32,3,[[aC W,.list 1 (K.map fun x=>[iv x]),aX l]]⟩)→0<H.length:=fun H h=>(gsI h)
 have bad:∀a b:Bool,R=(if (a&&b)=true then 0 else 64)→(a=false∨b=false)→R=64:=fun a b h e=>by
  rw[h,if_neg]
  rcases e with e|e<;>simp[e]
 simp -dsimp -implicitDefEqProofs [-getElem?_pos,go_sem,hP,cQu,aF,←hK,←hWt,←hl,d1,d2,d3]
 obtain⟨I,hI⟩:∃I:Nat→St→Prop,I=fun m s=>∃(k:Nat) (o:Option Int),k≤K.length∧m=K.length-k∧gv none K=gv o (K.drop k)∧(k=0→o=none)∧(∀j x,k=j+1→K[j]?=some x→o=some x)∧s.t 1= .ref 0 0 0∧s.t 24=aF K∧s.t 25=iv K.length∧s.t 26=iv k∧s.H[0]?=some (some ⟨32,3,[[aC W,.list 1 (K.map fun x=>[iv x]),aX l]]⟩):=⟨_,rfl⟩
 refine ay I (K.length) (by rw[hN];rfl) ?_ ?_
 ·rw[hI]
  exact⟨0,none,by omega,by omega,by rfl,by simp,by omega,by simp -dsimp[-getElem?_pos,go_sem],by simp -dsimp[-getElem?_pos,go_sem,aF],by simp -dsimp[-getElem?_pos,go_sem],by simp -dsimp[-getElem?_pos,go_sem],by simp -dsimp[-getElem?_pos,go_sem]⟩
 intro m s hs'
 rw[hI]at hs'
 obtain⟨k,o,hk,hm,hq,ho0,ho1,t1,t24,t25,t26,h0⟩:=hs'
 have lt0:=h0I _ h0
 simp -dsimp -implicitDefEqProofs [-getElem?_pos,go_sem,hP,t25,t26]
 refine aB (fun hh=>?_) (fun hh=>?_)
 ·have hk:k<K.length:=by simpa using hh
  obtain⟨p,hp⟩:∃p,K[k]?=some p:=⟨_,List.getElem?_eq_getElem hk⟩
  have wk:=af ((k:Int)+1) (by omega)
  rw[cU hp,gv]at hq
  by_cases e1:p<1
  ·rw[eM (by omega),Bool.false_and]at hq
   have:=bad _ _ hR (.inl hq)
   simp -dsimp -implicitDefEqProofs [-getElem?_pos,go_sem,hP,t24,t26,aF,hp,e1,this]
  have f1:decide (p<1)=false:=decide_eq_false e1
  by_cases e2:1000000<p
  ·rw[eM (by omega),Bool.false_and]at hq
   have:=bad _ _ hR (.inl hq)
   simp -dsimp -implicitDefEqProofs [-getElem?_pos,go_sem,hP,t24,t26,aF,hp,f1,e2,this]
  have f2:decide (1000000<p)=false:=decide_eq_false e2
  rw[dS.2 (by omega),Bool.true_and]at hq
  rcases Nat.eq_zero_or_pos k with k0|k0
  ·rw[ho0 k0,tV,Bool.true_and]at hq
   have k0':¬0<k:=by omega
   have hjk:decide ((0:Int)<(k:Int))=false:=decide_eq_false (by omega)
   simp -dsimp -implicitDefEqProofs [-getElem?_pos,go_sem,hP,t24,t26,aF,hp,f1,f2,k0',hjk,wk]
   refine⟨K.length-(k+1),by omega,?_⟩
   rw[hI]
   exact⟨k+1,some p,by omega,rfl,hq,by omega,ko (f:=some) hp,by simp -dsimp[-getElem?_pos,go_sem,t1],by simp -dsimp[-getElem?_pos,go_sem,t24],by simp -dsimp[-getElem?_pos,go_sem,t25],by simp -dsimp[-getElem?_pos,go_sem],by simp -dsimp[-getElem?_pos,go_sem,h0]⟩
  ·obtain⟨j,hj⟩:∃j,k=j+1:=⟨k-1,by omega⟩
   obtain⟨x,hx⟩:∃x,K[j]?=some x:=⟨_,List.getElem?_eq_getElem (by omega)⟩
   have hox:=ho1 j x hj hx
   have hjk:decide ((0:Int)<(k:Int))=true:=decide_eq_true (by omega)
   have wj:IntKind.i64.wrap ((k:Int)-1)=(j:Int):=by rw[af _ (by omega)];omega
   rw[hox,tV]at hq
   by_cases c:x<p
   ·have f3:decide (p≤x)=false:=decide_eq_false (by omega)
    rw[decide_eq_true c,Bool.true_and]at hq
    simp -dsimp -implicitDefEqProofs [-getElem?_pos,go_sem,hP,t24,t26,aF,hp,f1,f2,k0,hjk,wj,t1,lt0,h0,hx,f3,wk]
    refine⟨K.length-(k+1),by omega,?_⟩
    rw[hI]
    exact⟨k+1,some p,by omega,rfl,hq,by omega,ko (f:=some) hp,by simp -dsimp[-getElem?_pos,go_sem,t1],by simp -dsimp[-getElem?_pos,go_sem,t24],by simp -dsimp[-getElem?_pos,go_sem,t25],by simp -dsimp[-getElem?_pos,go_sem],by simp -dsimp[-getElem?_pos,go_sem,h0]⟩
   ·have f3:decide (p≤x)=true:=decide_eq_true (by omega)
    rw[decide_eq_false c,Bool.false_and]at hq
    have:=bad _ _ hR (.inl hq)
    simp -dsimp -implicitDefEqProofs [-getElem?_pos,go_sem,hP,t24,t26,aF,hp,f1,f2,k0,hjk,wj,t1,lt0,h0,hx,f3,this]
 have hk:k=K.length:=by simp at hh;omega
 subst hk
 rw[List.drop_length,gv]at hq
 rw[hq,Bool.true_and]at hR
 clear hq ho0 ho1 t24 t25 t26 hh hI
 simp -dsimp -implicitDefEqProofs [-getElem?_pos,go_sem,hP,t1,h0,lt0]
 refine ae ((asc W (by omega)).lift _ _) hP Dt (by simpa using⟨iq,iw⟩) .sc ?_
 cases b1:rZ K W
 ·have:=bad _ _ hR (.inl b1)
  simp -dsimp -implicitDefEqProofs [-getElem?_pos,go_sem,hP,b1,this]
 rw[b1,Bool.true_and]at hR
 have bad:bJ K 0 0 l=false→R=64:=fun e=>by rw[hR,e];rfl
 simp -dsimp -implicitDefEqProofs [-getElem?_pos,go_sem,hP,b1,t1,h0,lt0]
 obtain⟨J,hJ⟩:∃I:Nat→St→Prop,I=fun m s=>∃(k:Nat) (d:Int),k≤l.length∧m=l.length-k∧bJ K 0 0 l=bJ K k d (l.drop k)∧(k=0→d=0)∧(∀j x,k=j+1→l[j]?=some x→d=x.Day)∧s.t 1= .ref 0 0 0∧s.t 58=aX l∧s.t 59=iv l.length∧s.t 60=iv k∧s.H[0]?=some (some ⟨32,3,[[aC W,.list 1 (K.map fun x=>[iv x]),aX l]]⟩):=⟨_,rfl⟩
 refine ay J (l.length) (by rw[hN];rfl) ?_ ?_
 ·rw[hJ]
  exact⟨0,0,by omega,by omega,by rfl,by simp,by omega,by simp -dsimp[-getElem?_pos,go_sem,t1],by simp -dsimp[-getElem?_pos,go_sem],by simp -dsimp[-getElem?_pos,go_sem],by simp -dsimp[-getElem?_pos,go_sem],by simp -dsimp[-getElem?_pos,go_sem,h0]⟩
 clear t1 h0 lt0 hk hm
 intro m s hs'
 rw[hJ]at hs'
 obtain⟨k,d,hk,hm,hq,hd0,hd1,t1,t58,t59,t60,h0⟩:=hs'
 have lt0:=h0I _ h0
 simp -dsimp -implicitDefEqProofs [-getElem?_pos,go_sem,hP,t59,t60]
 refine aB (fun hh=>?_) (fun hh=>?_)
 rotate_left
 ·have hk:k=l.length:=by simp at hh;omega
  subst hk
  rw[List.drop_length,bJ]at hq
  rw[hq,if_pos rfl]at hR
  simp -dsimp -implicitDefEqProofs [-getElem?_pos,go_sem,hP,hR]
 have hk:k<l.length:=by simpa using hh
 obtain⟨b,hb⟩:∃b,l[k]?=some b:=⟨_,List.getElem?_eq_getElem hk⟩
 have hbl:=each b (List.mem_of_getElem? hb)
 have wk:=af ((k:Int)+1) (by omega)
 have ip:=cg b.Payments
 have g0:∀x:Option AObj,(s.H++[x])[0]?=some (some ⟨32,3,[[aC W,.list 1 (K.map fun x=>[iv x]),aX l]]⟩):=fun x=>by rw[List.getElem?_append_left lt0];exact h0
 rw[cU hb,bJ,xx]at hq
 simp -dsimp -implicitDefEqProofs [-getElem?_pos,go_sem,hP,t58,t60,hb,cBt]
 refine ao (fun _=>true) [] hP (by kernel_rfl) (by kernel_rfl) ?_
 by_cases e1:b.Number=(k:Int)+1
 rotate_left
 ·rw[decide_eq_false e1,Bool.false_and,Bool.false_and]at hq
  have f1:=decide_eq_false e1
  simp -dsimp -implicitDefEqProofs [-getElem?_pos,go_sem,hP,wk,e1,f1,bad hq]
 rw[decide_eq_true e1,Bool.true_and]at hq
 have f1:decide (b.Number=(k:Int)+1)=true:=decide_eq_true e1
 by_cases e2:b.Day<0
 ·have:gW b.Day=false:=by rw[gW,eM (by omega),Bool.false_and]
  rw[this,Bool.false_and,Bool.and_false,Bool.false_and]at hq
  simp -dsimp -implicitDefEqProofs [-getElem?_pos,go_sem,hP,wk,f1,e2,bad hq]
 have f2:decide (b.Day<0)=false:=decide_eq_false e2
 by_cases e3:36000<b.Day
 ·have:gW b.Day=false:=by rw[gW,eM (by omega),Bool.false_and]
  rw[this,Bool.false_and,Bool.and_false,Bool.false_and]at hq
  simp -dsimp -implicitDefEqProofs [-getElem?_pos,go_sem,hP,wk,f1,f2,e3,bad hq]
 have f3:decide (36000<b.Day)=false:=decide_eq_false e3
 simp -dsimp -implicitDefEqProofs [-getElem?_pos,go_sem,hP,wk,f1,f2,f3]
 refine ah (j4 b.Day) hP DP (ai (by simp -dsimp[-getElem?_pos,go_sem])) .sc ?_
 cases c3:gW b.Day
 ·rw[c3,Bool.false_and,Bool.and_false,Bool.false_and]at hq
  simp -dsimp -implicitDefEqProofs [-getElem?_pos,go_sem,hP,c3,bad hq]
 rw[c3,Bool.true_and]at hq
 have rest:d≤b.Day→bJ K 0 0 l=(amg b.Payments.length 1 10&&rZ K b.Payments&&bJ K (k+1) b.Day (l.drop (k+1))):=fun h=>by
  rw[hq,decide_eq_true h,Bool.true_and]
 have done:d≤b.Day→∀s':St,(amg b.Payments.length 1 10&&rZ K b.Payments)=true→s'.t 1= .ref 0 0 0→s'.t 58=aX l→s'.t 59=iv l.length→s'.t 60=iv (k+1)→s'.H[0]?=some (some ⟨32,3,[[aC W,.list 1 (K.map fun x=>[iv x]),aX l]]⟩)→∃m',m'<m∧J m' s':=fun h s' h1 h2 h3 h4 h5 h6=>by
  refine⟨l.length-(k+1),by omega,?_⟩
  rw[hJ]
  exact⟨k+1,b.Day,by omega,rfl,by rw[rest h,h1,Bool.true_and];rfl,by omega,ko (f:=fun b:TBatch=>b.Day) hb,h2,h3,h4,h5,h6⟩
 rcases Nat.eq_zero_or_pos k with k0|k0
 ·have hdd:d≤b.Day:=by rw[hd0 k0];omega
  have k0':¬0<k:=by omega
  have hjk:decide ((0:Int)<(k:Int))=false:=decide_eq_false (by omega)
  simp -dsimp -implicitDefEqProofs [-getElem?_pos,go_sem,hP,c3,k0',hjk]
  have rest':=rest hdd
  by_cases e4:b.Payments.length<1
  ·have f4:decide ((b.Payments.length:Int)<1)=true:=decide_eq_true (by omega)
   rw[eM (n:=(b.Payments.length:Int)) (by omega),Bool.false_and,Bool.false_and]at rest'
   simp -dsimp -implicitDefEqProofs [-getElem?_pos,go_sem,hP,k0',hjk,e4,f4,bad rest']
  have f4:decide ((b.Payments.length:Int)<1)=false:=decide_eq_false (by omega)
  by_cases e5:10<b.Payments.length
  ·have f5:decide ((10:Int)<(b.Payments.length:Int))=true:=decide_eq_true (by omega)
   rw[eM (n:=(b.Payments.length:Int)) (by omega),Bool.false_and,Bool.false_and]at rest'
   simp -dsimp -implicitDefEqProofs [-getElem?_pos,go_sem,hP,k0',hjk,f4,f5,bad rest']
  have f5:decide ((10:Int)<(b.Payments.length:Int))=false:=decide_eq_false (by omega)
  have f45:amg b.Payments.length 1 10=true:=dS.2 (by omega)
  simp -dsimp -implicitDefEqProofs [-getElem?_pos,go_sem,hP,k0',hjk,f4,f5,t1,g0,lt0,h0]
  refine ae ((asc b.Payments (by omega)).lift _ _) hP Dt (by simpa using⟨iq,ip⟩) .sc ?_
  cases c6:rZ K b.Payments
  ·rw[f45,c6,Bool.true_and,Bool.false_and]at rest'
   simp -dsimp -implicitDefEqProofs [-getElem?_pos,go_sem,hP,k0',hjk,c6,bad rest']
  simp -dsimp -implicitDefEqProofs [-getElem?_pos,go_sem,hP,k0',hjk,c6,t60,wk]
  exact done hdd _ (by rw[f45,c6];rfl) (by simp -dsimp[-getElem?_pos,go_sem,t1]) (by simp -dsimp[-getElem?_pos,go_sem,t58]) (by simp -dsimp[-getElem?_pos,go_sem,t59]) (by simp -dsimp[-getElem?_pos,go_sem]) (by simp -dsimp[-getElem?_pos,go_sem,lt0,h0])
 ·obtain⟨j,hj⟩:∃j,k=j+1:=⟨k-1,by omega⟩
  obtain⟨x,hx⟩:∃x,l[j]?=some x:=⟨_,List.getElem?_eq_getElem (by omega)⟩
  have hdx:=hd1 j x hj hx
  have hjk:decide ((0:Int)<(k:Int))=true:=decide_eq_true (by omega)
  have wj:IntKind.i64.wrap ((k:Int)-1)=(j:Int):=by rw[af _ (by omega)];omega
  by_cases c:x.Day≤b.Day
  rotate_left
  ·rw[decide_eq_false (show¬d≤b.Day by omega),Bool.false_and,Bool.false_and]at hq
   have f6:decide (b.Day<x.Day)=true:=decide_eq_true (by omega)
   simp -dsimp -implicitDefEqProofs [-getElem?_pos,go_sem,hP,c3,k0,hjk,wj,t1,g0,lt0,h0,hx,cBt,f6,bad hq]
  have hdd:d≤b.Day:=by omega
  have f6:decide (b.Day<x.Day)=false:=decide_eq_false (by omega)
  simp -dsimp -implicitDefEqProofs [-getElem?_pos,go_sem,hP,c3,k0,hjk,wj,t1,g0,lt0,h0,hx,cBt,f6]
  have rest':=rest hdd
  by_cases e4:b.Payments.length<1
  ·have f4:decide ((b.Payments.length:Int)<1)=true:=decide_eq_true (by omega)
   rw[eM (n:=(b.Payments.length:Int)) (by omega),Bool.false_and,Bool.false_and]at rest'
   simp -dsimp -implicitDefEqProofs [-getElem?_pos,go_sem,hP,k0,hjk,f6,e4,f4,bad rest']
  have f4:decide ((b.Payments.length:Int)<1)=false:=decide_eq_false (by omega)
  by_cases e5:10<b.Payments.length
  ·have f5:decide ((10:Int)<(b.Payments.length:Int))=true:=decide_eq_true (by omega)
   rw[eM (n:=(b.Payments.length:Int)) (by omega),Bool.false_and,Bool.false_and]at rest'
   simp -dsimp -implicitDefEqProofs [-getElem?_pos,go_sem,hP,k0,hjk,f6,f4,f5,bad rest']
  have f5:decide ((10:Int)<(b.Payments.length:Int))=false:=decide_eq_false (by omega)
  have f45:amg b.Payments.length 1 10=true:=dS.2 (by omega)
  simp -dsimp -implicitDefEqProofs [-getElem?_pos,go_sem,hP,k0,hjk,f6,f4,f5,t1,g0,lt0,h0]
  refine ae ((asc b.Payments (by omega)).lift _ _) hP Dt (by simpa using⟨iq,ip⟩) .sc ?_
  cases c6:rZ K b.Payments
  ·rw[f45,c6,Bool.true_and,Bool.false_and]at rest'
   simp -dsimp -implicitDefEqProofs [-getElem?_pos,go_sem,hP,k0,hjk,f6,c6,bad rest']
  simp -dsimp -implicitDefEqProofs [-getElem?_pos,go_sem,hP,k0,hjk,f6,c6,t60,wk]
  exact done hdd _ (by rw[f45,c6];rfl) (by simp -dsimp[-getElem?_pos,go_sem,t1]) (by simp -dsimp[-getElem?_pos,go_sem,t58]) (by simp -dsimp[-getElem?_pos,go_sem,t59]) (by simp -dsimp[-getElem?_pos,go_sem]) (by simp -dsimp[-getElem?_pos,go_sem,lt0,h0])
open Go.PA
open Go.RowKit
abbrev oa (l:List Int):List (List AV):=l.map fun x=>[iv x]
theorem Bw (l:List Int):(oa l).length=l.length:=by simp[oa]
open Go.PA
open Go.RowKit
open Go.PA
open Go.RowKit
open Go.PA
open Go.RowKit
theorem A6 {H:ac}:CW H [.nil,.nil,.nil] dz.cells:=bW (bW (bW .nil))
theorem gx {H:ac} {n:Int} {Q:AV→Prop} {b:Bx Q} (h:Q (.tup [.agg dz.cells,iv n])):jO H (.tup [.agg [.nil,.nil,.nil],iv n]) Q b:=aP A6 h
open Go.PA
open Go.RowKit
theorem gU {H:ac} {id n:Nat} {ty:TypeId} {k:Nat} {es tl:List (List AV)} {Q:AV→Prop} {b:Bx Q} (hH:H[id]?=some (some ⟨ty,k,es++tl⟩)) (hn:n=es.length) (hi:Imm (.list k es)) (hq:Q (.list k es)):jO H (.sref id 0 n) Q b:=by
 have hv:dv H (.sref id 0 n)= .list k es:=by rw[gB,hH,gq];simp[hn]
 exact gy (by rw[hv];exact hi) hi (by rw[hv];exact .refl _) hq
open Go.PA
open Go.RowKit
theorem eP {a b c:AV} (ha:Imm a) (hb:Imm b) (hc:Imm c):Imm (.tup [a,b,c]):=by
 refine .tup fun x hx=>?_
 simp only[List.mem_cons,List.not_mem_nil,or_false]at hx
 rcases hx with rfl|rfl|rfl<;>assumption
theorem G8 {a b c a' b' c':AV} (ha:Weak a a') (hb:Weak b b') (hc:Weak c c'):Weak (.tup [a,b,c]) (.tup [a',b',c']):=by
 refine .tup rfl fun i x y hx hy=>?_
 match i,hx,hy with
 |0,hx,hy=>simp at hx hy;subst hx;subst hy;exact ha
 |1,hx,hy=>simp at hx hy;subst hx;subst hy;exact hb
 |2,hx,hy=>simp at hx hy;subst hx;subst hy;exact hc
 |i+3,hx,hy=>simp at hx
theorem nV {H:ac} {cs cs' ds ds':List AV} {v:Value} {Q:AV→Prop} {b:Bx Q} (h:CW H cs cs') (h2:CW H ds ds') (hq:Q (.tup [.agg cs',.agg ds',.sc v])):jO H (.tup [.agg cs,.agg ds,.sc v]) Q b:=
 gy (eP h.imm h2.imm .sc) (eP h.imm' h2.imm' .sc) (G8 h.weak h2.weak (.refl _)) hq
theorem AZ {H:ac}:CW H [iv 0,iv 0,.nil] dy.cells:=di .sc (di .sc (bW .nil))
theorem cz {H:ac} {n:Int} {Q:AV→Prop} {b:Bx Q} (h:Q (.tup [.agg dz.cells,.agg dy.cells,iv n])):jO H (.tup [.agg [.nil,.nil,.nil],.agg [iv 0,iv 0,.nil],iv n]) Q b:=nV A6 AZ h
theorem uo {H:ac}:∀{cs:List AV},(∀a,a∈cs→Imm a)→CW H cs cs
 |[],_=> .nil
 |a::cs,h=>di (h a (by simp)) (uo fun x hx=>h x (List.mem_cons_of_mem _ hx))
@[go_sem] theorem fsz:aq Tryz.prog 237=1:=by kernel_rfl
@[go_sem] theorem fkn:aA Tryz.prog 237=true:=by kernel_rfl
@[go_sem] theorem fag:bO Tryz.prog 237=false:=by kernel_rfl
open Go.PA
open Go.RowKit
@[go_sem] theorem fze:bP Tryz.prog 237=some [.sc .nilFunc]:=by kernel_rfl
end Go.Proofs.YtaenimpfelpafaaGreatDoor
