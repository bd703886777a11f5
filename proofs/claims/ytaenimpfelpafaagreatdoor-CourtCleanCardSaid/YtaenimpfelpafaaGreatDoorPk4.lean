/- Several texts of this claim, joined: BatLaw Rec1 Acc6 Acc7 Acc8 Cmp PaIns Del Ins. -/
import Derived.Test.YtaenimpfelpafaaGreatDoorPk3
import Derived.Lib.AppendZerosOnto
import Derived.Lib.Overlaps
import Derived.Laws.Externs
set_option linter.unusedSimpArgs false
set_option linter.unusedVariables false
namespace Go.Proofs.YtaenimpfelpafaaGreatDoor
open Go.PA
open Go.RowKit
theorem ins_split {α:Type} (lt:α→α→Bool) (l:List α) (a:α):∃A B,l=A++B∧ins lt l a=A++a::B∧(∀x,x∈A→lt x a=true)∧∀x,B.head?=some x→lt x a=false:=by
 refine⟨l.takeWhile fun x=>lt x a,l.dropWhile fun x=>lt x a,by rw[List.takeWhile_append_dropWhile],rfl,fun x hx=>?_,fun x hx=>?_⟩
 ·exact List.all_eq_true.1 (List.all_takeWhile (p:=fun x=>lt x a) (l:=l)) x hx
 ·have:=List.head?_dropWhile_not (p:=fun x=>lt x a) (l:=l)
  rw[hx]at this
  simpa using this
theorem ins_perm {α:Type} (lt:α→α→Bool) (l:List α) (a:α):(ins lt l a).Perm (a::l):=by
 obtain⟨A,B,h1,h2,_⟩:=ins_split lt l a
 rw[h2,h1]
 exact List.perm_middle
theorem ins_len {α:Type} (lt:α→α→Bool) (l:List α) (a:α):(ins lt l a).length=l.length+1:=by
 rw[(ins_perm lt l a).length_eq];rfl
theorem mem_ins {α:Type} {lt:α→α→Bool} {l:List α} {a x:α}:x∈ins lt l a↔x=a∨x∈l:=by
 rw[(ins_perm lt l a).mem_iff,List.mem_cons]
theorem ins_sorted {α:Type} {lt:α→α→Bool} {R:α→α→Prop} (hR:∀x y,lt x y=true↔R x y) (tr:∀{x y z},R x y→R y z→R x z) {l:List α} {a:α} (hl:l.Pairwise R) (tot:∀x,x∈l→R x a∨R a x):(ins lt l a).Pairwise R:=by
 obtain⟨A,B,rfl,h2,h3,h4⟩:=ins_split lt l a
 rw[h2]
 rw[List.pairwise_append]at hl⊢
 obtain⟨p1,p2,p3⟩:=hl
 have ha:∀x,x∈B→R a x:=by
  cases B with
  |nil=>simp
  |cons b B=>
   have hb:R a b:=(tot b (by simp)).resolve_left fun h=>by
    have:=h4 b rfl
    rw[(hR _ _).2 h]at this
    cases this
   intro x hx
   rcases List.mem_cons.1 hx with rfl|hx
   ·exact hb
   ·exact tr hb (List.rel_of_pairwise_cons p2 hx)
 refine⟨p1,List.pairwise_cons.2 ⟨ha,p2⟩,fun x hx y hy=>?_⟩
 rcases List.mem_cons.1 hy with rfl|hy
 ·exact (hR _ _).1 (h3 x hx)
 ·exact p3 x hx y hy
theorem befB_bef (a b:TPayment):befB a b=true↔Bef a b:=befB_iff
theorem ltB_lt (a b:Int):ltB a b=true↔a<b:=by simp[ltB]
theorem waitQ_none {q:TQueue} {w:Int}:waitQ q w<0↔∀p,p∈q.Waiting→p.Warrant≠w:=by
 unfold waitQ
 rcases idxI_spec (fun p:TPayment=>decide (p.Warrant=w)) q.Waiting with⟨h1,h2⟩|⟨i,a,h1,h2,h3,h4⟩
 ·rw[h1]
  exact⟨fun _ p hp=>by simpa using h2 p hp,fun _=>by omega⟩
 ·rw[h3]
  exact⟨fun h=>by omega,fun h=>absurd (by simpa using h2) (h a (List.mem_of_getElem? h1))⟩
theorem waitQ_some {q:TQueue} {w:Int} (h:¬waitQ q w<0):∃(i:Nat) (p:TPayment),waitQ q w=i∧q.Waiting[i]?=some p∧p.Warrant=w∧i<q.Waiting.length:=by
 unfold waitQ at*
 rcases idxI_spec (fun p:TPayment=>decide (p.Warrant=w)) q.Waiting with⟨h1,h2⟩|⟨i,a,h1,h2,h3,h4⟩
 ·omega
 ·exact⟨i,a,h3,h1,by simpa using h2,(gsI h1)⟩
theorem AscOk.mono {K K':List Int} {l:List TPayment} (h:AscOk K l) (hk:∀w,w∈K→w∈K'):AscOk K' l:=⟨h.pay,h.ord,fun p hp=>hk _ (h.kn p hp),h.nd⟩
theorem AscOk.sub {K:List Int} {l l':List TPayment} (h:AscOk K l) (hs:l'.Sublist l):AscOk K l':=⟨fun p hp=>h.pay p (hs.subset hp),h.ord.sublist hs,fun p hp=>h.kn p (hs.subset hp),h.nd.sublist (hs.map _)⟩
theorem batB_mono {K K':List Int} (hk:∀w,w∈K→w∈K') {i d:Int} {b:TBatch} (h:batB K i d b=true):batB K' i d b=true:=by
 unfold batB at*
 simp only[Bool.and_eq_true,ascB_iff]at h⊢
 exact⟨h.1,h.2.1,h.2.2.1,h.2.2.2.1,h.2.2.2.2.mono hk⟩
theorem batsFrom_mono {K K':List Int} (hk:∀w,w∈K→w∈K'):∀{l:List TBatch} {i d:Int},batsFrom K i d l=true→batsFrom K' i d l=true
 |[],_,_,_=>rfl
 |b::l,i,d,h=>by
  rw[batsFrom,Bool.and_eq_true]at h⊢
  exact⟨batB_mono hk h.1,batsFrom_mono hk h.2⟩
def lastFrom (d:Int) (l:List TBatch):Int:=match l.getLast? with
 |none=>d
 |some b=>b.Day
theorem lastFrom_cons (d:Int) (b:TBatch) (l:List TBatch):lastFrom d (b::l)=lastFrom b.Day l:=by
 unfold lastFrom
 cases l with
 |nil=>rfl
 |cons c l=>rw[List.getLast?_cons_cons];cases h:(c::l).getLast? with
  |none=>simp at h
  |some x=>rfl
theorem batsFrom_snoc {K:List Int} {b:TBatch}:∀{l:List TBatch} {i d:Int},batsFrom K i d l=true→batB K (i+l.length) (lastFrom d l) b=true→batsFrom K i d (l++[b])=true
 |[],i,d,_,h=>by
  have:batB K i d b=true:=by simpa[lastFrom]using h
  simp[batsFrom,this]
 |c::l,i,d,h,k=>by
  rw[batsFrom,Bool.and_eq_true]at h
  rw[List.cons_append,batsFrom,Bool.and_eq_true]
  rw[lastFrom_cons,List.length_cons]at k
  exact⟨h.1,batsFrom_snoc h.2 (by rw[show i+1+(l.length:Int)=i+((l.length+1:Nat):Int) by omega];exact k)⟩
theorem QOk.nod {q:TQueue} (h:QOk q) {w:Int} (hw:w∉q.Known):∀p,p∈q.Waiting→p.Warrant≠w:=fun p hp e=>hw (e▸h.asc.kn p hp)
theorem AscOk.ins {K:List Int} {l:List TPayment} {p:TPayment} (h:AscOk K l) (hp:PayOk p) (hk:p.Warrant∈K) (hn:∀x,x∈l→x.Warrant≠p.Warrant):AscOk K (ins befB l p):=by
 refine⟨fun x hx=>?_,ins_sorted befB_bef Bef.trans h.ord fun x hx=>Bef.tot (hn x hx),fun x hx=>?_,?_⟩
 ·rcases mem_ins.1 hx with rfl|hx
  ·exact hp
  ·exact h.pay x hx
 ·rcases mem_ins.1 hx with rfl|hx
  ·exact hk
  ·exact h.kn x hx
 ·refine (((ins_perm befB l p).map (·.Warrant)).nodup_iff).2 ?_
  rw[List.map_cons,List.nodup_cons]
  refine⟨fun hm=>?_,h.nd⟩
  obtain⟨x,hx,e⟩:=List.mem_map.1 hm
  exact hn x hx e
theorem addQ_ok {q x:TQueue} {p:TPayment} (h:addQ q p=(x,0)):QOk q∧PayOk p∧p.Warrant∉q.Known∧q.Waiting.length<100∧q.Known.length<200∧x=⟨ins befB q.Waiting p,ins ltB q.Known p.Warrant,q.Batches⟩∧QOk x:=by
 unfold addQ at h
 split at h
 ·rename_i c1
  split at h
  ·rename_i c2
   split at h
   ·simp at h
   ·rename_i c3
    split at h
    ·simp at h
    ·rename_i c4
     have hq:=checkQ_iff.1 c1
     have hp:=(payPB_iff p).1 c2
     have:=hq.lw
     have:=hq.lk
     have hm:∀w,w∈q.Known→w∈ins ltB q.Known p.Warrant:=fun w hw=>mem_ins.2 (.inr hw)
     simp only[Prod.mk.injEq,and_true]at h
     refine⟨hq,hp,c3,by omega,by omega,h.symm,h▸⟨?_,?_,hq.lb,?_,?_,?_,?_⟩⟩
     ·simp only[ins_len];omega
     ·simp only[ins_len];omega
     ·intro w hw
      rcases mem_ins.1 hw with rfl|hw
      ·exact hp.warrant
      ·exact hq.kn w hw
     ·refine ins_sorted ltB_lt Int.lt_trans hq.ks fun x hx=>?_
      have:x≠p.Warrant:=fun e=>c3 (e▸hx)
      omega
     ·exact (hq.asc.mono hm).ins hp (mem_ins.2 (.inl rfl)) (hq.nod c3)
     ·exact batsFrom_mono hm hq.bats
  ·simp at h
 ·rename_i c1
  simp only[Prod.mk.injEq]at h
  exact absurd h.2 c1
theorem againQ_ok {q x:TQueue} {p:TPayment} (h:againQ q p=(x,0)):QOk q∧PayOk p∧p.Warrant∈q.Known∧(∀y,y∈q.Waiting→y.Warrant≠p.Warrant)∧q.Waiting.length<100∧x=⟨ins befB q.Waiting p,q.Known,q.Batches⟩∧QOk x:=by
 unfold againQ at h
 split at h
 ·rename_i c1
  split at h
  ·rename_i c2
   split at h
   ·rename_i c3
    split at h
    ·simp at h
    ·rename_i c4
     split at h
     ·simp at h
     ·rename_i c5
      have hq:=checkQ_iff.1 c1
      have hp:=(payPB_iff p).1 c2
      have:=hq.lw
      have hn:=waitQ_none.1 (show waitQ q p.Warrant<0 by omega)
      simp only[Prod.mk.injEq,and_true]at h
      refine⟨hq,hp,c3,hn,by omega,h.symm,h▸⟨?_,hq.lk,hq.lb,hq.kn,hq.ks,?_,hq.bats⟩⟩
      ·simp only[ins_len];omega
      ·exact hq.asc.ins hp c3 hn
   ·simp at h
  ·simp at h
 ·rename_i c1
  simp only[Prod.mk.injEq]at h
  exact absurd h.2 c1
theorem dropQ_ok {q x:TQueue} {w:Int} (h:dropQ q w=(x,0)):QOk q∧(∃p,p∈q.Waiting∧p.Warrant=w)∧x=⟨q.Waiting.eraseIdx (waitQ q w).toNat,q.Known,q.Batches⟩∧QOk x:=by
 unfold dropQ at h
 split at h
 ·rename_i c1
  split at h
  ·simp at h
  ·rename_i c2
   have hq:=checkQ_iff.1 c1
   obtain⟨i,p,h1,h2,h3,h4⟩:=waitQ_some c2
   simp only[Prod.mk.injEq,and_true]at h
   refine⟨hq,⟨p,List.mem_of_getElem? h2,h3⟩,h.symm,h▸⟨?_,hq.lk,hq.lb,hq.kn,hq.ks,hq.asc.sub (List.eraseIdx_sublist _ _),hq.bats⟩⟩
   have:=(List.eraseIdx_sublist q.Waiting (waitQ q w).toNat).length_le
   have:=hq.lw
   simp only
   omega
 ·rename_i c1
  simp only[Prod.mk.injEq]at h
  exact absurd h.2 c1
theorem nodup_sub:∀(M ws:List Int),M.Nodup→(∀x,x∈M→x∈ws)→M.length≤ws.length∧(M.length=ws.length→ws.Nodup∧∀x,x∈ws→x∈M)
 |[],ws,_,_=>⟨by simp,fun h=>by
   have:ws=[]:=List.eq_nil_of_length_eq_zero h.symm
   subst this
   simp⟩
 |a::M,ws,hn,hs=>by
  have ha:=hs a (by simp)
  have hp:=List.perm_cons_erase ha
  rw[List.nodup_cons]at hn
  have hl:ws.length=(ws.erase a).length+1:=hp.length_eq
  obtain⟨i1,i2⟩:=nodup_sub M (ws.erase a) hn.2 fun x hx=>(List.mem_erase_of_ne (fun e=>hn.1 (by rw[←e];exact hx))).2 (hs x (by simp[hx]))
  refine⟨by simp only[List.length_cons];omega,fun h=>?_⟩
  simp only[List.length_cons]at h
  obtain⟨j1,j2⟩:=i2 (by omega)
  refine⟨hp.nodup_iff.2 (List.nodup_cons.2 ⟨fun hm=>hn.1 (j2 a hm),j1⟩),fun x hx=>?_⟩
  rcases List.mem_cons.1 (hp.mem_iff.1 hx)with rfl|hx
  ·simp
  ·exact List.mem_cons_of_mem _ (j2 x hx)
theorem uniqW {l:List TPayment} (h:(l.map (·.Warrant)).Nodup) {p p':TPayment} (hp:p∈l) (hp':p'∈l) (e:p.Warrant=p'.Warrant):p=p':=by
 induction l with
 |nil=>cases hp
 |cons a l ih=>
  rw[List.map_cons,List.nodup_cons]at h
  rcases List.mem_cons.1 hp with e1|hp
  ·rcases List.mem_cons.1 hp' with e2|hp'
   ·rw[e1,e2]
   ·exact absurd (List.mem_map.2 ⟨p',hp',by rw[←e,e1]⟩) h.1
  ·rcases List.mem_cons.1 hp' with e2|hp'
   ·exact absurd (List.mem_map.2 ⟨p,hp,by rw[e,e2]⟩) h.1
   ·exact ih h.2 hp hp'
theorem dueB_iff {q:TQueue} {day:Int} {ws:List Int}:dueB q day ws=true↔ws.Nodup∧∀w,w∈ws→∃p,p∈q.Waiting∧p.Warrant=w∧p.Due≤day:=by
 simp[dueB]
theorem dueB_filter {q:TQueue} {day:Int} {ws:List Int} (hn:(q.Waiting.map (·.Warrant)).Nodup) (h:dueB q day ws=true):(q.Waiting.filter fun p=>decide (p.Due≤day)).filter (takenB ws)=q.Waiting.filter (takenB ws):=by
 obtain⟨_,h⟩:=dueB_iff.1 h
 rw[List.filter_filter]
 refine List.filter_congr fun p hp=>?_
 cases ht:takenB ws p
 ·rfl
 ·obtain⟨p',h1,h2,h3⟩:=h p.Warrant (by simpa[takenB]using ht)
  have:=uniqW hn h1 hp h2
  subst this
  simp[h3]
theorem dueB_len {q:TQueue} {day:Int} {ws:List Int} (hn:(q.Waiting.map (·.Warrant)).Nodup):((q.Waiting.filter fun p=>decide (p.Due≤day)).filter (takenB ws)).length=ws.length↔dueB q day ws=true:=by
 have hM:=hn.sublist (((List.filter_sublist (p:=takenB ws)).trans (List.filter_sublist (l:=q.Waiting) (p:=fun p=>decide (p.Due≤day)))).map (·.Warrant))
 have hs:∀x,x∈((q.Waiting.filter fun p=>decide (p.Due≤day)).filter (takenB ws)).map (·.Warrant)→x∈ws:=fun x hx=>by
  obtain⟨p,hp,rfl⟩:=List.mem_map.1 hx
  simpa[takenB]using (List.mem_filter.1 hp).2
 obtain⟨h1,h2⟩:=nodup_sub _ ws hM hs
 rw[List.length_map]at h1 h2
 rw[dueB_iff]
 constructor
 ·intro h
  obtain⟨h3,h4⟩:=h2 h
  refine⟨h3,fun w hw=>?_⟩
  obtain⟨p,hp,e⟩:=List.mem_map.1 (h4 w hw)
  obtain⟨hp,_⟩:=List.mem_filter.1 hp
  obtain⟨hp,hd⟩:=List.mem_filter.1 hp
  exact⟨p,hp,e,by simpa using hd⟩
 ·rintro⟨h3,h4⟩
  have:=h3.length_le_of_subset (l₂:=((q.Waiting.filter fun p=>decide (p.Due≤day)).filter (takenB ws)).map (·.Warrant)) fun w hw=>by
   obtain⟨p,hp,e,hd⟩:=h4 w hw
   exact List.mem_map.2 ⟨p,List.mem_filter.2 ⟨List.mem_filter.2 ⟨hp,by simpa using hd⟩,by simpa[takenB,e]using hw⟩,e⟩
  rw[List.length_map]at this
  omega
theorem taken_len {q:TQueue} {day:Int} {ws:List Int} (hn:(q.Waiting.map (·.Warrant)).Nodup) (h:dueB q day ws=true):(q.Waiting.filter (takenB ws)).length=ws.length:=by
 rw[←dueB_filter hn h]
 exact (dueB_len hn).2 h
theorem takeQ_ok {q x:TQueue} {b:TBatch} {day:Int} {ws:List Int} (h:takeQ q day ws=(x,b,0)):QOk q∧busB day=true∧lastQ q≤day∧1≤ws.length∧ws.length≤10∧dueB q day ws=true∧x=⟨q.Waiting.filter (fun p=>!takenB ws p),q.Known,q.Batches++[takeB q day ws]⟩∧b=takeB q day ws∧QOk x:=by
 unfold takeQ at h
 split at h
 ·rename_i c1
  split at h
  ·rename_i c2
   split at h
   ·simp at h
   ·rename_i c3
    split at h
    ·simp at h
    ·rename_i c4
     split at h
     ·simp at h
     ·rename_i c5
      split at h
      ·rename_i c6
       have hq:=checkQ_iff.1 c1
       simp only[Prod.mk.injEq,and_true]at h
       refine⟨hq,c2,by omega,by omega,by omega,c6,h.1.symm,h.2.symm,h.1▸⟨?_,hq.lk,?_,hq.kn,hq.ks,hq.asc.sub List.filter_sublist,?_⟩⟩
       ·have:=List.length_filter_le (fun p=>!takenB ws p) q.Waiting
        have:=hq.lw
        simp only
        omega
       ·simp only[List.length_append,List.length_cons,List.length_nil]
        omega
       ·refine batsFrom_snoc hq.bats ?_
        have:=taken_len hq.asc.nd c6
        simp only[batB,takeB,Bool.and_eq_true,ascB_iff,amg_iff]
        refine⟨decide_eq_true (by omega),decide_eq_true ?_,c2,by omega,hq.asc.sub List.filter_sublist⟩
        have:lastFrom 0 q.Batches=lastQ q:=rfl
        omega
      ·simp at h
  ·simp at h
 ·rename_i c1
  simp only[Prod.mk.injEq]at h
  exact absurd h.2.2 c1
open Go.PA
open Go.RowKit
abbrev itemsL (l:List TItem):AV:= .list 7 (encL TItem.cells l)
theorem imm_items (l:List TItem):Imm (itemsL l):=imm_encL _ TItem.imm _
theorem cIt (x:TItem):x.cells=[iv x.Payment.Warrant,iv x.Payment.Payee,iv x.Payment.Amount,iv x.Payment.Due,iv x.Payment.Sub,iv x.State,iv x.Attempts]:=rfl
theorem imm_item (c:TItem):Imm (.agg c.cells):=imm_agg.2 c.imm
theorem imm_desk (c:TDesk):Imm (.agg c.cells):=imm_agg.2 c.imm
abbrev zeroD:TDesk:=⟨zeroA,zeroQ,[]⟩
def wrt (x:TItem):Int:=x.Payment.Warrant
structure FitD (d:TDesk):Prop where
 s:d.Account.Subs.length≤100000
 e:d.Account.Entries.length≤100000
 q:FitQ d.Queue
 i:d.Items.length≤100000
def outE (p:TPayment) (e:TEntry):Bool:=decide (e.Ref=p.Warrant)&&(decide (e.From=p.Sub)&&decide (e.To=0))
def inE (p:TPayment) (e:TEntry):Bool:=decide (e.Ref=p.Warrant)&&(decide (e.From=0)&&decide (e.To=p.Sub))
def okE (p:TPayment) (e:TEntry):Bool:=!decide (e.Ref=p.Warrant)||(decide (e.Amount=p.Amount)&&(decide (e.From=p.Sub)&&decide (e.To=0)||decide (e.From=0)&&decide (e.To=p.Sub)))
def goneB (x:TItem):Bool:=decide (x.State=2)||decide (x.State=3)
def goneN (x:TItem):Nat:=if goneB x=true then 1 else 0
def movedB (a:TAccount) (x:TItem):Bool:=a.Entries.all (okE x.Payment)&&(decide ((a.Entries.countP (outE x.Payment):Int)=x.Attempts)&&decide ((a.Entries.countP (inE x.Payment):Int)+goneN x=x.Attempts))
def hasW (w:Int) (p:TPayment):Bool:=decide (p.Warrant=w)
def sentN (q:TQueue) (w:Int):Nat:=q.Batches.countP fun b=>b.Payments.any (hasW w)
def batN (q:TQueue) (w:Int):Nat:=(q.Batches.map fun b=>b.Payments.countP (hasW w)).sum
def waitO (q:TQueue) (w:Int):Option TPayment:=q.Waiting.find? (hasW w)
def waitB (q:TQueue) (x:TItem):Bool:=match waitO q x.Payment.Warrant with
 |none=>!decide (x.State=1)
 |some w=>decide (x.State=1)&&decide (w=x.Payment)
def attB (x:TItem):Bool:=amg x.Attempts 0 5&&(!(decide (x.Attempts=5)&&decide (x.State=1))&&!(decide (x.Attempts=0)&&!(decide (x.State=1)||decide (x.State=5))))
def itemB (d:TDesk) (x:TItem):Bool:=payPB x.Payment&&((balanceA d.Account x.Payment.Sub).2&&(amg x.State 1 5&&(attB x&&(waitB d.Queue x&&(decide ((batN d.Queue x.Payment.Warrant:Int)=x.Attempts)&&movedB d.Account x)))))
def deskB (d:TDesk):Bool:=decide (d.Items.map wrt=d.Queue.Known)&&d.Items.all (itemB d)
def checkD (d:TDesk):Int:=if checkA d.Account=0 then (if checkQ d.Queue=0 then (if deskB d=true then 0 else 68)else checkQ d.Queue)else checkA d.Account
def mostI (x:TItem):Int:=if x.State=1 then 4 else 5
def leastI (x:TItem):Int:=if x.State=1 then 0 else if x.State=5 then 0 else 1
def rightB (d:TDesk) (x:TItem):Bool:=(balanceA d.Account x.Payment.Sub).2&&(payPB x.Payment&&(amg x.State 1 5&&(amg x.Attempts (leastI x) (mostI x)&&(decide (decide (x.Payment∈d.Queue.Waiting)=decide (x.State=1))&&(decide ((sentN d.Queue x.Payment.Warrant:Int)=x.Attempts)&&movedB d.Account x)))))
def queuedB (x:TItem):Bool:=decide (x.State=1)
def deskP (d:TDesk):Bool:=d.Items.all (rightB d)&&(decide (d.Items.map wrt=d.Queue.Known)&&decide (d.Items.countP queuedB=d.Queue.Waiting.length))
theorem attB_eq {x:TItem}:amg x.Attempts (leastI x) (mostI x)=attB x:=by
 unfold attB mostI leastI
 by_cases h1:x.State=1
 ·simp only[h1,if_true,decide_true,Bool.and_true,Bool.true_or,Bool.not_true,Bool.and_false,Bool.not_false,amg]
  rw[Bool.eq_iff_iff]
  simp only[Bool.and_eq_true,decide_eq_true_eq,Bool.not_eq_true',decide_eq_false_iff_not]
  omega
 ·by_cases h5:x.State=5
  ·simp[h5,amg]
  ·simp only[h1,h5,if_false,decide_false,Bool.and_false,Bool.not_false,Bool.true_and,Bool.false_or,Bool.and_true,amg]
   rw[Bool.eq_iff_iff]
   simp only[Bool.and_eq_true,decide_eq_true_eq,Bool.not_eq_true',decide_eq_false_iff_not]
   omega
theorem batN_eq {q:TQueue} (h:QOk q) (w:Int):batN q w=sentN q w:=by
 have each:∀b,b∈q.Batches→(b.Payments.map (·.Warrant)).Nodup:=fun b hb=>(batsFrom_len h.bats b hb).2.2.1.nd
 have one:∀l:List TPayment,(l.map (·.Warrant)).Nodup→l.countP (hasW w)=if l.any (hasW w)=true then 1 else 0:=by
  intro l
  induction l with
  |nil=>intro _;rfl
  |cons p l ih=>
   intro hn
   rw[List.map_cons,List.nodup_cons]at hn
   rw[List.countP_cons,List.any_cons,ih hn.2]
   by_cases hp:p.Warrant=w
   ·have:l.any (hasW w)=false:=by
     refine List.any_eq_false.2 fun x hx e=>hn.1 (List.mem_map.2 ⟨x,hx,?_⟩)
     have:x.Warrant=w:=by simpa[hasW]using e
     omega
    have hw:hasW w p=true:=by simp[hasW,hp]
    rw[this,hw]
    rfl
   ·have:hasW w p=false:=by simp[hasW,hp]
    rw[this]
    simp
 unfold batN sentN
 revert each
 generalize q.Batches=l
 intro each
 induction l with
 |nil=>rfl
 |cons b l ih=>
  rw[List.map_cons,List.sum_cons,List.countP_cons,ih fun b hb=>each b (List.mem_cons_of_mem _ hb),one _ (each b (by simp))]
  omega
theorem uniqI {l:List TItem} (h:(l.map wrt).Nodup) {x y:TItem} (hx:x∈l) (hy:y∈l) (e:x.Payment.Warrant=y.Payment.Warrant):x=y:=by
 induction l with
 |nil=>cases hx
 |cons a l ih=>
  rw[List.map_cons,List.nodup_cons]at h
  rcases List.mem_cons.1 hx with e1|hx
  ·rcases List.mem_cons.1 hy with e2|hy
   ·rw[e1,e2]
   ·exact absurd (List.mem_map.2 ⟨y,hy,by rw[wrt,←e,e1];rfl⟩) h.1
  ·rcases List.mem_cons.1 hy with e2|hy
   ·exact absurd (List.mem_map.2 ⟨x,hx,by rw[wrt,e,e2];rfl⟩) h.1
   ·exact ih h.2 hx hy
theorem waitO_none {q:TQueue} {w:Int}:waitO q w=none↔∀p,p∈q.Waiting→p.Warrant≠w:=by
 simp[waitO,hasW]
theorem waitO_some {q:TQueue} {w:Int} {p:TPayment} (h:waitO q w=some p):p∈q.Waiting∧p.Warrant=w:=⟨List.mem_of_find?_eq_some h,by simpa[hasW]using List.find?_some h⟩
theorem waitO_mem {q:TQueue} (hn:(q.Waiting.map (·.Warrant)).Nodup) {p:TPayment} (h:p∈q.Waiting):waitO q p.Warrant=some p:=by
 cases hw:waitO q p.Warrant with
 |none=>exact absurd rfl (waitO_none.1 hw p h)
 |some x=>
  obtain⟨h1,h2⟩:=waitO_some hw
  rw[uniqW hn h1 h h2]
theorem sorted_nodup {l:List Int} (h:l.Pairwise (·<·)):l.Nodup:=h.imp fun h=>by omega
theorem nodup_map_of {l:List TItem} (h:(l.map wrt).Nodup):∀f:TItem→Bool,(((l.filter f).map (·.Payment)).map (·.Warrant)).Nodup:=fun f=>by
 rw[List.map_map]
 exact h.sublist (List.filter_sublist.map _)
theorem nodup_of_map {α β:Type} {f:α→β} {l:List α} (h:(l.map f).Nodup):l.Nodup:=(List.pairwise_map.1 h).imp fun hab e=>hab (congrArg f e)
theorem wait_all {q:TQueue} {l:List TItem} (hq:QOk q) (hk:l.map wrt=q.Known) (hw:∀x,x∈l→(x.Payment∈q.Waiting↔x.State=1)) (hc:l.countP queuedB=q.Waiting.length):∀p,p∈q.Waiting→∃x,x∈l∧x.State=1∧x.Payment=p:=by
 have hnk:(l.map wrt).Nodup:=hk▸sorted_nodup hq.ks
 intro p hp
 by_cases h:p∈(l.filter queuedB).map (·.Payment)
 ·obtain⟨x,hx,e⟩:=List.mem_map.1 h
  obtain⟨h1,h2⟩:=List.mem_filter.1 hx
  exact⟨x,h1,by simpa[queuedB]using h2,e⟩
 ·exfalso
  have hn:(p::(l.filter queuedB).map (·.Payment)).Nodup:=List.nodup_cons.2 ⟨h,nodup_of_map (nodup_map_of hnk queuedB)⟩
  have:=hn.length_le_of_subset (l₂:=q.Waiting) fun y hy=>by
   rcases List.mem_cons.1 hy with rfl|hy
   ·exact hp
   ·obtain⟨x,hx,rfl⟩:=List.mem_map.1 hy
    obtain⟨h1,h2⟩:=List.mem_filter.1 hx
    exact (hw x h1).2 (by simpa[queuedB]using h2)
  rw[List.length_cons,List.length_map,←List.countP_eq_length_filter]at this
  omega
theorem waitB_iff {q:TQueue} {l:List TItem} (hq:QOk q) (hk:l.map wrt=q.Known):((∀x,x∈l→waitB q x=true)↔(∀x,x∈l→(x.Payment∈q.Waiting↔x.State=1))∧l.countP queuedB=q.Waiting.length):=by
 have hnk:(l.map wrt).Nodup:=hk▸sorted_nodup hq.ks
 have hnd:=hq.asc.nd
 constructor
 ·intro h
  have h1:∀x,x∈l→(x.Payment∈q.Waiting↔x.State=1):=fun x hx=>by
   have:=h x hx
   unfold waitB at this
   cases hw:waitO q x.Payment.Warrant with
   |none=>
    rw[hw]at this
    have h1:=waitO_none.1 hw
    exact⟨fun hm=>absurd rfl (h1 _ hm),fun e=>by simp[e]at this⟩
   |some w=>
    rw[hw]at this
    simp only[Bool.and_eq_true,decide_eq_true_eq]at this
    exact⟨fun _=>this.1,fun _=>this.2▸(waitO_some hw).1⟩
  refine⟨h1,?_⟩
  rw[List.countP_eq_length_filter]
  have a:=(nodup_of_map (nodup_map_of hnk queuedB)).length_le_of_subset (l₂:=q.Waiting) fun y hy=>by
   obtain⟨x,hx,rfl⟩:=List.mem_map.1 hy
   obtain⟨h2,h3⟩:=List.mem_filter.1 hx
   exact (h1 x h2).2 (by simpa[queuedB]using h3)
  have b:=(nodup_of_map hnd).length_le_of_subset (l₂:=(l.filter queuedB).map (·.Payment)) fun p hp=>by
   have hw:=hq.asc.kn p hp
   rw[←hk]at hw
   obtain⟨x,hx,e⟩:=List.mem_map.1 hw
   have hb:=h x hx
   have e:x.Payment.Warrant=p.Warrant:=e
   rw[waitB,e,waitO_mem hnd hp]at hb
   simp only[Bool.and_eq_true,decide_eq_true_eq]at hb
   exact List.mem_map.2 ⟨x,List.mem_filter.2 ⟨hx,by simp[queuedB,hb.1]⟩,hb.2.symm⟩
  rw[List.length_map]at a b
  omega
 ·rintro⟨h,hc⟩ x hx
  have hall:=wait_all hq hk h hc
  unfold waitB
  cases hw:waitO q x.Payment.Warrant with
  |none=>
   have h1:=waitO_none.1 hw
   simp only[Bool.not_eq_true',decide_eq_false_iff_not]
   exact fun e=>h1 _ ((h x hx).2 e) rfl
  |some w=>
   obtain⟨h1,h2⟩:=waitO_some hw
   obtain⟨y,hy,hs,e⟩:=hall w h1
   have:x=y:=uniqI hnk hx hy (by rw[←h2,e])
   subst this
   simp[hs,e]
theorem deskP_eq {d:TDesk} (hq:QOk d.Queue):deskP d=deskB d:=by
 rw[Bool.eq_iff_iff]
 unfold deskP deskB rightB itemB
 simp only[Bool.and_eq_true,List.all_eq_true,decide_eq_true_eq,attB_eq,batN_eq hq,decide_eq_decide]
 constructor
 ·rintro⟨h1,h2,h3⟩
  have hw:=(waitB_iff hq h2).2 ⟨fun x hx=>(h1 x hx).2.2.2.2.1,h3⟩
  exact⟨h2,fun x hx=>⟨(h1 x hx).2.1,(h1 x hx).1,(h1 x hx).2.2.1,(h1 x hx).2.2.2.1,hw x hx,(h1 x hx).2.2.2.2.2⟩⟩
 ·rintro⟨h2,h1⟩
  obtain⟨hw,hc⟩:=(waitB_iff hq h2).1 fun x hx=>(h1 x hx).2.2.2.2.1
  exact⟨fun x hx=>⟨(h1 x hx).2.1,(h1 x hx).1,(h1 x hx).2.2.1,(h1 x hx).2.2.2.1,hw x hx,(h1 x hx).2.2.2.2.2⟩,h2,hc⟩
def refB (w:Int) (e:TEntry):Bool:=decide (e.Ref=w)
def ltI (x y:TItem):Bool:=decide (x.Payment.Warrant<y.Payment.Warrant)
def posI (l:List TItem) (w:Int):Int:=idxI (fun x=>decide (x.Payment.Warrant=w)) l
def orderD (d:TDesk) (p:TPayment):TDesk×Int:=
 if checkD d=0 then (if (addQ d.Queue p).2=0 then (if (balanceA d.Account p.Sub).2=true then (if d.Account.Entries.any (refB p.Warrant)=true then (zeroD,65)else (⟨d.Account,(addQ d.Queue p).1,ins ltI d.Items ⟨p,1,0⟩⟩,0))else (zeroD,60))else (zeroD,(addQ d.Queue p).2))else (zeroD,checkD d)
structure Done1 where
 a:TAccount
 q:TQueue
 x:TItem
 e:Int
def changeD (d:TDesk) (w st:Int) (f:TDesk→TItem→Done1):TDesk×Int:=
 if checkD d=0 then (match d.Items[(posI d.Items w).toNat]? with
  |none=>(zeroD,6)
  |some x=>if posI d.Items w<0 then (zeroD,6)else if x.State=st then (if (f d x).e=0 then (⟨(f d x).a,(f d x).q,d.Items.set (posI d.Items w).toNat (f d x).x⟩,0)else (zeroD,(f d x).e))else (zeroD,67))else (zeroD,checkD d)
def recallF (w:Int) (d:TDesk) (x:TItem):Done1:=⟨d.Account,(dropQ d.Queue w).1,⟨x.Payment,5,x.Attempts⟩,(dropQ d.Queue w).2⟩
def settleF (d:TDesk) (x:TItem):Done1:=⟨d.Account,d.Queue,⟨x.Payment,3,x.Attempts⟩,0⟩
def returnF (w day:Int) (d:TDesk) (x:TItem):Done1:=⟨(postA d.Account (nextE d.Account day 0 x.Payment.Sub x.Payment.Amount w)).1,d.Queue,⟨x.Payment,4,x.Attempts⟩,(postA d.Account (nextE d.Account day 0 x.Payment.Sub x.Payment.Amount w)).2⟩
def recallD (d:TDesk) (w:Int):TDesk×Int:=changeD d w 1 (recallF w)
def settleD (d:TDesk) (w:Int):TDesk×Int:=changeD d w 2 settleF
def returnD (d:TDesk) (w day:Int):TDesk×Int:=changeD d w 2 (returnF w day)
def sendGo (day:Int):List TPayment→TAccount→List Int→Bool→TAccount×List Int×Bool
 |[],a,ws,full=>(a,ws,full)
 |p::l,a,ws,full=>if ws.length=10 then (a,ws,full)else
  if (postA a (nextE a day p.Sub 0 p.Amount p.Warrant)).2=0 then sendGo day l (postA a (nextE a day p.Sub 0 p.Amount p.Warrant)).1 (ws++[p.Warrant]) full else sendGo day l a ws (full||decide ((postA a (nextE a day p.Sub 0 p.Amount p.Warrant)).2=3))
def sentI (ws:List Int) (x:TItem):TItem:=if x.Payment.Warrant∈ws then⟨x.Payment,2,x.Attempts+1⟩else x
def lastDay (a:TAccount):Int:=(lastE a).Day
def goD (d:TDesk) (day:Int):TAccount×List Int×Bool:=sendGo day (readyQ d.Queue day) d.Account [] false
def sendD (d:TDesk) (day:Int):TDesk×TBatch×Int:=
 if checkD d=0 then (if busB day=true then (if day<lastQ d.Queue∨day<lastDay d.Account then (zeroD,zeroB,8)else
  if (goD d day).2.1.length=0 then (zeroD,zeroB,if (goD d day).2.2=true then 3 else 10)else
  if (takeQ d.Queue day (goD d day).2.1).2.2=0 then (⟨(goD d day).1,(takeQ d.Queue day (goD d day).2.1).1,d.Items.map (sentI (goD d day).2.1)⟩,(takeQ d.Queue day (goD d day).2.1).2.1,0)else (zeroD,zeroB,(takeQ d.Queue day (goD d day).2.1).2.2))else (zeroD,zeroB,66))else (zeroD,zeroB,checkD d)
structure DOk (d:TDesk):Prop where
 a:checkA d.Account=0
 q:QOk d.Queue
 k:d.Items.map wrt=d.Queue.Known
 i:∀x,x∈d.Items→itemB d x=true
theorem checkD_iff {d:TDesk}:checkD d=0↔DOk d:=by
 unfold checkD
 split
 ·rename_i h1
  split
  ·rename_i h2
   split
   ·rename_i h3
    rw[deskB,Bool.and_eq_true,decide_eq_true_eq,List.all_eq_true]at h3
    exact⟨fun _=>⟨h1,checkQ_iff.1 h2,h3.1,h3.2⟩,fun _=>rfl⟩
   ·rename_i h3
    refine⟨fun e=>absurd e (by decide),fun h=>absurd ?_ h3⟩
    rw[deskB,Bool.and_eq_true,decide_eq_true_eq,List.all_eq_true]
    exact⟨h.k,h.i⟩
  ·rename_i h2
   exact⟨fun e=>absurd e h2,fun h=>absurd (checkQ_iff.2 h.q) h2⟩
 ·rename_i h1
  exact⟨fun e=>absurd e h1,fun h=>absurd h.a h1⟩
open Go.PA
open Go.RowKit
theorem valid_pf (n:Int):PFun Tryz.prog none none 50 [iv n] (·=bv (vB n)):=by
 refine pfun_intro Tryz.func50 rfl (by simp[Tryz.f50]) (by kernel_rfl) ?_
 intro E hP hr hs hW hN
 by_cases h1:0≤n<;>by_cases h2:n≤1000000000000<;>simp -dsimp -implicitDefEqProofs [-getElem?_pos,go_sem,hP,h1,h2,vB,amongB]
theorem among_pf (n lo hi:Int):PFun Tryz.prog none none 95 [iv n,iv lo,iv hi] (·=bv (amongB n lo hi)):=by
 refine pfun_intro Tryz.func95 rfl (by simp[Tryz.f95]) (by kernel_rfl) ?_
 intro E hP hr hs hW hN
 by_cases h1:lo≤n<;>by_cases h2:n≤hi<;>simp -dsimp -implicitDefEqProofs [-getElem?_pos,go_sem,hP,h1,h2,amongB]
theorem positive_pf (n:Int):PFun Tryz.prog none none 253 [iv n] (·=bv (decide (0<n)&&vB n)):=by
 refine pfun_intro Tryz.func253 rfl (by simp[Tryz.f253]) (by kernel_rfl) ?_
 intro E hP hr hs hW hN
 by_cases h1:0<n
 ·have d1:decide (0<n)=true:=decide_eq_true h1
  simp -dsimp -implicitDefEqProofs [-getElem?_pos,go_sem,hP,d1]
  refine callB_pure (valid_pf n) hP en_50 (args_same (by simp -dsimp[-getElem?_pos,go_sem])) .sc ?_
  simp -dsimp -implicitDefEqProofs [-getElem?_pos,go_sem,hP,d1]
 ·simp -dsimp -implicitDefEqProofs [-getElem?_pos,go_sem,hP,h1]
theorem numbers_pf (l:List TSub) (hl:l.length≤100000):PFun Tryz.prog none none 131 [subsL l] (·=numsL (ids l)):=by
 refine pfun_intro Tryz.func131 rfl (by simp[Tryz.f131]) (by kernel_rfl) ?_
 intro E hP hr hs hW hN
 simp -dsimp -implicitDefEqProofs [-getElem?_pos,go_sem,hP]
 refine aloop_own 3 3 1 (by simp -dsimp[-getElem?_pos,go_sem]) ?_
 obtain⟨I,hI⟩:∃I:Nat→St→Prop,I=fun m s=>∃k id:Nat,k≤l.length∧m=l.length-k∧s.t 6=subsL l∧s.t 7=iv l.length∧s.t 8=iv k∧s.t 3= .sref id 0 k∧s.H[id]?=some (some ⟨3,1,encL encI (ids (l.take k))⟩):=⟨_,rfl⟩
 refine aloopF 3 hW I (l.length) (by rw[hN];rfl) ?_ ?_
 ·rw[hI]
  exact⟨0,0,by omega,by omega,by simp -dsimp[-getElem?_pos,go_sem],by simp -dsimp[-getElem?_pos,go_sem],by simp -dsimp[-getElem?_pos,go_sem],by simp -dsimp[-getElem?_pos,go_sem],by simp -dsimp[-getElem?_pos,go_sem,ids]⟩
 intro m s hs'
 rw[hI]at hs'
 obtain⟨k,id,hk,hm,t6,t7,t8,t3,hH⟩:=hs'
 have hlt:=(gsI hH)
 have hz:(ids (l.take k)).length=k:=by rw[ids_len];simp;omega
 simp -dsimp -implicitDefEqProofs [-getElem?_pos,go_sem,hP,t7,t8]
 refine condP (fun h=>?_) (fun h=>?_)
 ·have hk:k<l.length:=by simpa using h
  obtain⟨a,ha⟩:∃a,l[k]?=some a:=⟨_,List.getElem?_eq_getElem hk⟩
  have wk:=wrap_in ((k:Int)+1) (by omega)
  have e1:ids (l.take (k+1))=ids (l.take k)++[a.ID]:=by rw[List.take_add_one,ha];simp[ids]
  simp -dsimp -implicitDefEqProofs [-getElem?_pos,go_sem,hP,t6,t8,t3,ha,TSub.cells,hH,hz,hlt,wk]
  refine⟨by omega,by omega,?_⟩
  refine⟨l.length-(k+1),by omega,?_⟩
  rw[hI]
  exact⟨k+1,s.H.length+1,by omega,rfl,by simp -dsimp[-getElem?_pos,go_sem,t6],by simp -dsimp[-getElem?_pos,go_sem,t7],by simp -dsimp[-getElem?_pos,go_sem],by simp -dsimp[-getElem?_pos,go_sem],by rw[e1,←encL_snoc];simp -dsimp -implicitDefEqProofs [-getElem?_pos,go_sem,encI]⟩
 ·have hk:k=l.length:=by simp at h;omega
  subst hk
  refine frz id _ 3 1 (encL encI (ids l)) t3 (by rw[hH,List.take_length]) (by rw[encL_len,ids_len]) (imm_nums _) ?_
  simp -dsimp -implicitDefEqProofs [-getElem?_pos,go_sem,hP]
  exact done_imm (imm_nums _) rfl
set_option maxHeartbeats 1000000 in
theorem numbered_pf (l:List Int) (hl:l.length≤100000):PFun Tryz.prog none none 51 [numsL l] (·=bv (numB l)):=by
 refine pfun_intro Tryz.func51 rfl (by simp[Tryz.f51]) (by kernel_rfl) ?_
 intro E hP hr hs hW hN
 simp -dsimp -implicitDefEqProofs [-getElem?_pos,go_sem,hP]
 obtain⟨I,hI⟩:∃I:Nat→St→Prop,I=fun m s=>∃(k:Nat) (p:Int),k≤l.length∧m=l.length-k∧ascA 0 l=ascA p (l.drop k)∧(k=0→p=0)∧(∀j x,k=j+1→l[j]?=some x→p=x)∧s.t 0=numsL l∧s.t 5=numsL l∧s.t 6=iv l.length∧s.t 7=iv k:=⟨_,rfl⟩
 refine aloop0 I (l.length) (by rw[hN];rfl) ?_ ?_
 ·rw[hI]
  exact⟨0,0,by omega,by omega,by simp,by simp,by omega,by simp -dsimp[-getElem?_pos,go_sem],by simp -dsimp[-getElem?_pos,go_sem],by simp -dsimp[-getElem?_pos,go_sem],by simp -dsimp[-getElem?_pos,go_sem]⟩
 intro m s hs'
 rw[hI]at hs'
 obtain⟨k,p,hk,hm,hasc,hp0,hp1,t0,t5,t6,t7⟩:=hs'
 simp -dsimp -implicitDefEqProofs [-getElem?_pos,go_sem,hP,t6,t7]
 refine condP (fun h=>?_) (fun h=>?_)
 ·have hk:k<l.length:=by simpa using h
  obtain⟨x,hx⟩:∃x,l[k]?=some x:=⟨_,List.getElem?_eq_getElem hk⟩
  have wk:=wrap_in ((k:Int)+1) (by omega)
  have hdr:l.drop k=x::l.drop (k+1):=by
   obtain⟨h2,h3⟩:=List.getElem?_eq_some_iff.1 hx
   rw[List.drop_eq_getElem_cons h2,h3]
  rw[hdr,ascA]at hasc
  have fin:∀s':St,(amongB x 1 1000&&decide (p<x))=true→s'.t 0=s.t 0→s'.t 5=s.t 5→s'.t 6=s.t 6→s'.t 7=iv ((k:Int)+1)→∃n',n'<m∧I n' s':=fun s' hc e0 e5 e6 e7=>by
   refine⟨l.length-(k+1),by omega,?_⟩
   rw[hI]
   simp only[Bool.and_eq_true]at hc
   refine⟨k+1,x,by omega,rfl,by rw[hasc,hc.1,hc.2];simp,by omega,fun j y hj hy=>?_,by rw[e0,t0],by rw[e5,t5],by rw[e6,t6],by rw[e7];simp⟩
   have:j=k:=by omega
   subst this
   rw[hx]at hy
   exact Option.some.inj hy
  have bad:(amongB x 1 1000&&decide (p<x))=false→numB l=false:=fun h=>by
   rw[numB,hasc,←Bool.and_assoc (amongB _ _ _),h];simp
  simp -dsimp -implicitDefEqProofs [-getElem?_pos,go_sem,hP,t5,t7,hx,encI]
  refine callB_pure (among_pf x 1 1000) hP en_95 (args_same (by simp -dsimp[-getElem?_pos,go_sem])) .sc ?_
  by_cases c1:amongB x 1 1000=true
  rotate_left
  ·have:numB l=false:=bad (by simp[c1])
   simp -dsimp -implicitDefEqProofs [-getElem?_pos,go_sem,hP,c1,this]
  rcases Nat.eq_zero_or_pos k with hk0|hkp
  ·have d1:decide (0<k)=false:=decide_eq_false (by omega)
   simp -dsimp -implicitDefEqProofs [-getElem?_pos,go_sem,hP,c1,d1,t7,wk]
   exact fin _ (by have:=hp0 hk0;have:=amongB_iff.1 c1;simp[c1];omega) (by simp -dsimp[-getElem?_pos,go_sem]) (by simp -dsimp[-getElem?_pos,go_sem]) (by simp -dsimp[-getElem?_pos,go_sem]) (by simp -dsimp[-getElem?_pos,go_sem])
  ·obtain⟨j,rfl⟩:∃j,k=j+1:=⟨k-1,by omega⟩
   obtain⟨y,hy⟩:∃y,l[j]?=some y:=⟨_,List.getElem?_eq_getElem (by omega)⟩
   have d1:decide ((0:Int)<(j:Int)+1)=true:=decide_eq_true (by omega)
   have wj:=wrap_in ((j:Int)+1-1) (by omega)
   rw[Int.add_sub_cancel]at wj
   have hpy:=hp1 j y rfl hy
   have wk':=wrap_in ((j:Int)+1+1) (by omega)
   by_cases c3:x≤y
   ·have:numB l=false:=bad (by simp[c1];omega)
    simp -dsimp -implicitDefEqProofs [-getElem?_pos,go_sem,hP,c1,d1,t0,Int.add_sub_cancel,wj,hy,encI,c3,this]
   ·simp -dsimp -implicitDefEqProofs [-getElem?_pos,go_sem,hP,c1,d1,t0,Int.add_sub_cancel,wj,hy,encI,c3,t7,wk']
    exact fin _ (by simp[c1];omega) (by simp -dsimp[-getElem?_pos,go_sem]) (by simp -dsimp[-getElem?_pos,go_sem]) (by simp -dsimp[-getElem?_pos,go_sem]) (by simp -dsimp[-getElem?_pos,go_sem])
 ·have hk:k=l.length:=by simp at h;omega
  subst hk
  rw[List.drop_length]at hasc
  have hasc:ascA 0 l=true:=hasc
  cases l with
  |nil=>simp -dsimp -implicitDefEqProofs [-getElem?_pos,go_sem,hP,t0,numB]
  |cons x l=>
   have:numB (x::l)=decide (x=1):=by rw[numB,hasc];simp
   simp -dsimp -implicitDefEqProofs [-getElem?_pos,go_sem,hP,t0,this,encI]
structure Teller (H:Heap) (p q:Nat) (credit n d:Int) (l:List TSub):Prop where
 ne:p≠q
 obj:H[p]?=some (some ⟨216,4,[[iv credit,iv n,iv d,.sref q 0 l.length]]⟩)
 subs:H[q]?=some (some ⟨121,2,encL TSub.cells l⟩)
theorem Teller.kept {H H':Heap} {p q:Nat} {credit n d:Int} {l:List TSub} {X:List Nat} (h:Teller H p q credit n d l) (hk:Kept X H H') (hp:p∉X) (hq:q∉X):Teller H' p q credit n d l:=
 ⟨h.ne,hk _ _ hp h.obj,hk _ _ hq h.subs⟩
theorem Teller.ltp {H:Heap} {p q:Nat} {credit n d:Int} {l:List TSub} (h:Teller H p q credit n d l):p<H.length:=(List.getElem?_eq_some_iff.1 h.obj).1
theorem Teller.ltq {H:Heap} {p q:Nat} {credit n d:Int} {l:List TSub} (h:Teller H p q credit n d l):q<H.length:=(List.getElem?_eq_some_iff.1 h.subs).1
theorem isid_m {row src:Option Nat} (g:FuncId) (fn:Func) (hg:True) (a:TSub) (H:Heap) (b:Nat) (id:Int) (hb:H[b]?=some (some ⟨3,1,[[iv id]]⟩)):
  MFun Tryz.prog row src 313 [.agg a.cells,.ref b 0 0] H (fun r H'=>r=bv (decide (a.ID=id))∧Kept [] H H'):=by
 refine mfun_intro Tryz.func313 rfl (by simp[Tryz.f313]) (by kernel_rfl) (⟨_,H,rfl,kept_refl _ _⟩) ?_
 intro E hP hr hs hN
 have hlt:=(gsI hb)
 simp -dsimp -implicitDefEqProofs [-getElem?_pos,go_sem,hP,TSub.cells,hb,hlt]
 exact kept_push _ (kept_refl _ _)
theorem place_m {row src:Option Nat} {H:Heap} {p q:Nat} {credit n d:Int} {l:List TSub} (h:Teller H p q credit n d l) (hl:l.length≤100000) (id:Int):
  MFun Tryz.prog row src 292 [.ref p 0 0,iv id] H (fun r H'=>r=iv (placeI l id)∧Kept [] H H'):=by
 refine mfun_intro Tryz.func292 rfl (by simp[Tryz.f292]) (by kernel_rfl) (⟨_,H,rfl,kept_refl _ _⟩) ?_
 intro E hP hr hs hN
 have ho:=h.obj
 have hlt:=h.ltp
 simp -dsimp -implicitDefEqProofs [-getElem?_pos,go_sem,hP,ho,hlt]
 refine callB_m (by rw[hr,hs];exact index_m_sub l (.sref q 0 l.length) _ 313 [.ref H.length 0 0] (fun s=>decide (s.ID=id)) (.inr (.inr ⟨q,121,by rw[encL_len],by rw[List.getElem?_append_left h.ltq];exact h.subs⟩)) (by omega) en_313 (fun a _ H' hk=>isid_m 0 default trivial a H' _ id (hk _ _ (by simp) (by simp)))) hP en_175 ?_
 rintro r H' ⟨rfl,hk⟩
 simp -dsimp -implicitDefEqProofs [-getElem?_pos,go_sem,hP]
 exact⟨rfl,(kept_push _ (kept_refl _ _)).trans hk⟩
theorem known_m {row src:Option Nat} {H:Heap} {p q:Nat} {credit n d:Int} {l:List TSub} (h:Teller H p q credit n d l) (hl:l.length≤100000) (id:Int):
  MFun Tryz.prog row src 254 [.ref p 0 0,iv id] H (fun r H'=>r=bv (knownB l id)∧Kept [] H H'):=by
 refine mfun_intro Tryz.func254 rfl (by simp[Tryz.f254]) (by kernel_rfl) (⟨_,H,rfl,kept_refl _ _⟩) ?_
 intro E hP hr hs hN
 by_cases h0:id=0
 ·have d0:decide (id=0)=true:=decide_eq_true h0
  simp -dsimp -implicitDefEqProofs [-getElem?_pos,go_sem,hP,d0,knownB]
  exact kept_refl _ _
 ·simp -dsimp -implicitDefEqProofs [-getElem?_pos,go_sem,hP,h0,knownB]
  refine callB_m (by rw[hr,hs];exact place_m h hl id) hP en_292 ?_
  rintro r H' ⟨rfl,hk⟩
  simp -dsimp -implicitDefEqProofs [-getElem?_pos,go_sem,hP,h0,knownB]
  exact hk
theorem agree_two {H H':Heap} {X:List Nat} {p q:Nat} {o o':AObj} (hk:Kept X H H') (hp:H[p]?=some (some o)) (hq:H[q]?=some (some o')) (np:p∉X) (nq:q∉X):Agree (fun i=>decide (i=p)||decide (i=q)) H H':=fun i hi=>by
 simp only[Bool.or_eq_true,decide_eq_true_eq]at hi
 rcases hi with rfl|rfl
 ·rw[hp,hk _ _ np hp]
 ·rw[hq,hk _ _ nq hq]
theorem add_m {row src:Option Nat} {H:Heap} {p q:Nat} {credit n d:Int} {l:List TSub} (h:Teller H p q credit n d l) (hl:l.length≤100000) (hc:0≤credit∧credit≤1000000000000) (hn:(ids l).Nodup) (h0:0∉ids l) (hok:okAll credit l=true)
  (id amt:Int) (hid:id=0∨id∈ids l) (ham: -1000000000000≤amt∧amt≤1000000000000):
  MFun Tryz.prog row src 255 [.ref p 0 0,iv id,iv amt] H (fun r H'=>r=bv (okAt credit (adj l id amt) id)∧Teller H' p q credit n d (adj l id amt)∧Kept [q] H H'):=by
 have hadj:(adj l id amt).length=l.length:=adj_len _ _ _
 refine mfun_intro Tryz.func255 rfl (by simp[Tryz.f255]) (by kernel_rfl) (⟨_,H.set q (some ⟨121,2,encL TSub.cells (adj l id amt)⟩),rfl,⟨h.ne,by rw[List.getElem?_set_ne h.ne.symm,hadj];exact h.obj,by rw[List.getElem?_set_self h.ltq]⟩,kept_set _ (by simp) (kept_refl _ _)⟩) ?_
 intro E hP hr hs hN
 by_cases hz:id=0
 ·subst hz
  have e1:adj l 0 amt=l:=adj_none h0
  have e2:okAt credit l 0=true:=okAt_none h0
  simp -dsimp -implicitDefEqProofs [-getElem?_pos,go_sem,hP,e1,e2]
  exact⟨h,kept_refl _ _⟩
 have hm:id∈ids l:=hid.resolve_left hz
 have ho:=h.obj
 have hlt:=h.ltp
 rcases placeI_spec l id with⟨_,h2⟩|⟨i,a,hi,ha,hp,_⟩
 ·exact absurd hm h2
 simp -dsimp -implicitDefEqProofs [-getElem?_pos,go_sem,hP,hz,ho,hlt]
 have hq:=h.subs
 refine adrawB (fun i=>decide (i=p)||decide (i=q)) [] hP (by kernel_rfl) (by kernel_rfl) ?_
 simp -dsimp -implicitDefEqProofs [-getElem?_pos,go_sem,hP,ho,hlt,restr_get]
 refine callB_m (by rw[hr,hs];exact place_m h hl id) hP en_292 ?_
 rintro r H' ⟨rfl,hk⟩
 simp -dsimp -implicitDefEqProofs [-getElem?_pos,go_sem,hP,hp]
 have h':=h.kept hk (by simp) (by simp)
 have ho':=h'.obj
 have hq':=h'.subs
 have hil:=(gsI hi)
 have hlq:=h'.ltq
 have hlp:=h'.ltp
 have hne:¬q=p:=fun e=>h.ne e.symm
 have bnd:=okSub_bounds hc (List.all_eq_true.1 hok a (List.mem_of_getElem? hi))
 have wa:=wrap_in (a.Balance+amt) (by omega)
 have set1:(encL TSub.cells l).set i [iv a.ID,iv (a.Balance+amt)]=encL TSub.cells (adj l id amt):=by
  rw[←ha,←set_adj hn hi,←encL_set]
  rfl
 have g1:(adj l id amt)[i]?=some ⟨a.ID,a.Balance+amt⟩:=by rw[adj_get,hi,←ha];simp
 have o1:okAt credit (adj l id amt) id=okSub credit ⟨a.ID,a.Balance+amt⟩:=by
  rw[←ha]at g1⊢
  exact okAt_get (by rw[adj_ids];exact hn) g1
 have fin:∀H'',Kept [] (H'.set q (some ⟨121,2,encL TSub.cells (adj l id amt)⟩)) H''→Teller H'' p q credit n d (adj l id amt)∧Kept [q] H H'':=fun H'' hk2=>by
  have t:Teller (H'.set q (some ⟨121,2,encL TSub.cells (adj l id amt)⟩)) p q credit n d (adj l id amt):=⟨h.ne,by rw[List.getElem?_set_ne h.ne.symm,hadj];exact ho',by rw[List.getElem?_set_self hlq]⟩
  exact⟨t.kept hk2 (by simp) (by simp),(kept_set _ (by simp) (hk.mono (by simp))).trans (hk2.mono (by simp))⟩
 simp -dsimp -implicitDefEqProofs [-getElem?_pos,go_sem,hP,hz,restr_get,hq',hil]
 refine⟨agree_two hk ho hq (by simp) (by simp),?_⟩
 by_cases h1:id=1
 ·have d1:decide (id=1)=true:=decide_eq_true h1
  have wn:=wrap_in (-credit) (by omega)
  simp -dsimp -implicitDefEqProofs [-getElem?_pos,go_sem,hP,hp,hil,hq',hi,TSub.cells,wa,hlq,set1,d1,ho',hne,hlp,wn,g1]
  refine callB_pure (among_pf (a.Balance+amt) (-credit) 1000000000000000) hP en_95 (args_same (by simp -dsimp[-getElem?_pos,go_sem])) .sc ?_
  simp -dsimp -implicitDefEqProofs [-getElem?_pos,go_sem,hP]
  refine⟨?_,fin _ (kept_refl _ _)⟩
  rw[o1]
  simp[okSub,amongB,ha,h1]
 ·simp -dsimp -implicitDefEqProofs [-getElem?_pos,go_sem,hP,hp,hil,hq',hi,TSub.cells,wa,hlq,set1,h1,g1]
  refine callB_pure (among_pf (a.Balance+amt) 0 1000000000000000) hP en_95 (args_same (by simp -dsimp[-getElem?_pos,go_sem])) .sc ?_
  simp -dsimp -implicitDefEqProofs [-getElem?_pos,go_sem,hP]
  refine⟨?_,fin _ (kept_refl _ _)⟩
  rw[o1]
  simp[okSub,amongB,ha,h1]
set_option maxHeartbeats 1000000 in
theorem tpost_m {row src:Option Nat} {H:Heap} {p q:Nat} {credit n d:Int} {l:List TSub} (h:Teller H p q credit n d l) (hl:l.length≤100000) (hc:0≤credit∧credit≤1000000000000) (hn:(ids l).Nodup) (h0:0∉ids l) (hok:okAll credit l=true)
  (hnn:0≤n∧n≤100000) (e:TEntry):
  MFun Tryz.prog row src 185 [.ref p 0 0,.agg e.cells] H (fun r H'=>r=iv (postS credit n d l e).1∧((postS credit n d l e).1=0→Teller H' p q credit e.Number e.Day (postS credit n d l e).2)∧Kept [p,q] H H'):=by
 have post:∃r H',r=iv (postS credit n d l e).1∧((postS credit n d l e).1=0→Teller H' p q credit e.Number e.Day (postS credit n d l e).2)∧Kept [p,q] H H':=
  ⟨_,(H.set q (some ⟨121,2,encL TSub.cells (postS credit n d l e).2⟩)).set p (some ⟨216,4,[[iv credit,iv e.Number,iv e.Day,.sref q 0 (postS credit n d l e).2.length]]⟩),rfl,fun _=>⟨h.ne,by rw[List.getElem?_set_self (by simp;exact h.ltp)],by rw[List.getElem?_set_ne h.ne,List.getElem?_set_self h.ltq]⟩,kept_set _ (by simp) (kept_set _ (by simp) (kept_refl _ _))⟩
 obtain⟨C,hC⟩:∃C:AV→Heap→Prop,C=fun r H'=>r=iv (postS credit n d l e).1∧((postS credit n d l e).1=0→Teller H' p q credit e.Number e.Day (postS credit n d l e).2)∧Kept [p,q] H H':=⟨_,rfl⟩
 rw[←hC]
 have post:∃r H',C r H':=hC▸post
 refine mfun_intro Tryz.func185 rfl (by simp[Tryz.f185]) (by kernel_rfl) (post) ?_
 intro E hP hr hs hN
 have ho:=h.obj
 have hlt:=h.ltp
 have wn:=wrap_in (n+1) (by omega)
 have bad:∀(c:Int) (H'':Heap),(postS credit n d l e).1=c→c≠0→Kept [p,q] H H''→C (iv c) H'':=fun c H'' h1 h2 h3=>by
  rw[hC]
  exact⟨by rw[h1],fun h4=>absurd (h1.symm.trans h4) h2,h3⟩
 have kb:=kept_push (X:=[p,q]) (some ⟨75,6,[[iv e.Number,iv e.Day,iv e.From,iv e.To,iv e.Amount,iv e.Ref]]⟩) (kept_refl [p,q] H)
 have hB:Teller (H++[some ⟨75,6,[[iv e.Number,iv e.Day,iv e.From,iv e.To,iv e.Amount,iv e.Ref]]⟩]) p q credit n d l:=h.kept (X:=[]) (kept_push _ (kept_refl _ _)) (by simp) (by simp)
 simp -dsimp -implicitDefEqProofs [-getElem?_pos,go_sem,hP,cE]
 refine adrawB (fun _=>true) [] hP (by kernel_rfl) (by kernel_rfl) ?_
 simp -dsimp -implicitDefEqProofs [-getElem?_pos,go_sem,hP,ho,hlt,wn]
 by_cases c1:e.Number=n+1
 rotate_left
 ·have b1:badNum n e=true:=by simp[badNum,c1]
  simp -dsimp -implicitDefEqProofs [-getElem?_pos,go_sem,hP,c1]
  exact bad 65 _ (by rw[postS,if_pos b1]) (by omega) kb
 have b1:¬badNum n e=true:=by simp[badNum,c1]
 have d1:decide (e.Number=n+1)=true:=decide_eq_true c1
 simp -dsimp -implicitDefEqProofs [-getElem?_pos,go_sem,hP,d1]
 refine adrawB (fun _=>true) [] hP (by kernel_rfl) (by kernel_rfl) ?_
 simp -dsimp -implicitDefEqProofs [-getElem?_pos,go_sem,hP,ho,hlt]
 refine callB_pure (among_pf e.Day d 36000) hP en_95 (args_same (by simp -dsimp[-getElem?_pos,go_sem])) .sc ?_
 by_cases c2:amongB e.Day d 36000=true
 rotate_left
 ·have b2:badDay d e=true:=by simp[badDay,c2]
  simp -dsimp -implicitDefEqProofs [-getElem?_pos,go_sem,hP,c2,agree_refl]
  exact bad 8 _ (by rw[postS,if_neg b1,if_pos b2]) (by omega) kb
 have b2:¬badDay d e=true:=by simp[badDay,c2]
 simp -dsimp -implicitDefEqProofs [-getElem?_pos,go_sem,hP,c2,agree_refl]
 refine callB_pure (positive_pf e.Amount) hP en_253 (args_same (by simp -dsimp[-getElem?_pos,go_sem])) .sc ?_
 by_cases c3:(decide (0<e.Amount)&&vB e.Amount)=true
 rotate_left
 ·have b3:badAmt e=true:=by simp[badAmt,c3]
  have c3:(decide (0<e.Amount)&&vB e.Amount)=false:=by simpa using c3
  simp -dsimp -implicitDefEqProofs [-getElem?_pos,go_sem,hP,c3]
  exact bad 2 _ (by rw[postS,if_neg b1,if_neg b2,if_pos b3]) (by omega) kb
 simp -dsimp -implicitDefEqProofs [-getElem?_pos,go_sem,hP,c3]
 refine callB_pure (among_pf e.Ref 0 1000000) hP en_95 (args_same (by simp -dsimp[-getElem?_pos,go_sem])) .sc ?_
 by_cases c4:amongB e.Ref 0 1000000=true
 rotate_left
 ·have b3:badAmt e=true:=by simp[badAmt,c4]
  simp -dsimp -implicitDefEqProofs [-getElem?_pos,go_sem,hP,c3,c4]
  exact bad 2 _ (by rw[postS,if_neg b1,if_neg b2,if_pos b3]) (by omega) kb
 have b3:¬badAmt e=true:=by simp[badAmt,c3,c4]
 have am:0<e.Amount∧e.Amount≤1000000000000:=by
  simp only[Bool.and_eq_true,decide_eq_true_eq,vB,amongB_iff]at c3
  omega
 have p60:badSub l e=true→(postS credit n d l e).1=60:=fun h=>by rw[postS,if_neg b1,if_neg b2,if_neg b3,if_pos h]
 simp -dsimp -implicitDefEqProofs [-getElem?_pos,go_sem,hP,c3,c4]
 by_cases c5:e.From=e.To
 ·have d5:decide (e.From=e.To)=true:=decide_eq_true c5
  simp -dsimp -implicitDefEqProofs [-getElem?_pos,go_sem,hP,d5]
  exact bad 60 _ (p60 (by simp[badSub,c5])) (by omega) kb
 simp -dsimp -implicitDefEqProofs [-getElem?_pos,go_sem,hP,c5]
 refine callB_m (by rw[hr,hs];exact known_m hB hl e.From) hP en_254 ?_
 rintro r H1 ⟨rfl,hk1⟩
 have h1:=hB.kept hk1 (by simp) (by simp)
 have o1:=hk1 H.length ⟨75,6,[[iv e.Number,iv e.Day,iv e.From,iv e.To,iv e.Amount,iv e.Ref]]⟩ (by simp) (by simp)
 have l1:=(gsI o1)
 by_cases c6:knownB l e.From=true
 rotate_left
 ·simp -dsimp -implicitDefEqProofs [-getElem?_pos,go_sem,hP,c5,c6]
  exact bad 60 _ (p60 (by simp[badSub,c6])) (by omega) (kb.trans (hk1.mono (by simp)))
 simp -dsimp -implicitDefEqProofs [-getElem?_pos,go_sem,hP,c5,c6,o1,l1]
 refine callB_m (by rw[hr,hs];exact known_m h1 hl e.To) hP en_254 ?_
 rintro r H2 ⟨rfl,hk2⟩
 have h2:=h1.kept hk2 (by simp) (by simp)
 have o2:=hk2 _ _ (by simp) o1
 have l2:=(gsI o2)
 have k2:=kb.trans ((hk1.trans hk2).mono (Y:=[p,q]) (by simp))
 by_cases c7:knownB l e.To=true
 rotate_left
 ·simp -dsimp -implicitDefEqProofs [-getElem?_pos,go_sem,hP,c5,c6,c7]
  exact bad 60 _ (p60 (by simp[badSub,c7])) (by omega) k2
 have b4:¬badSub l e=true:=by simp[badSub,c5,c6,c7]
 have pS:postS credit n d l e=if okAt credit (adj l e.From (-e.Amount)) e.From=false then (61,adj l e.From (-e.Amount))else
   if okAt credit (adj (adj l e.From (-e.Amount)) e.To e.Amount) e.To=false then (61,adj (adj l e.From (-e.Amount)) e.To e.Amount)else (0,adj (adj l e.From (-e.Amount)) e.To e.Amount):=by
  rw[postS,if_neg b1,if_neg b2,if_neg b3,if_neg b4]
 have wa:=wrap_in (-e.Amount) (by omega)
 simp -dsimp -implicitDefEqProofs [-getElem?_pos,go_sem,hP,c5,c6,c7,o2,l2,wa]
 refine callB_m (by rw[hr,hs];exact add_m h2 hl hc hn h0 hok e.From (-e.Amount) ((knownB_iff _ _).1 c6) (by omega)) hP en_255 ?_
 rintro r H3 ⟨rfl,h3,hk3⟩
 have nq:¬H.length=q:=by have:=h.ltq;omega
 have np:¬H.length=p:=by have:=h.ltp;omega
 have o3:=hk3 _ _ (by simp[nq]) o2
 have l3:=(gsI o3)
 have k3:=k2.trans (hk3.mono (Y:=[p,q]) (by simp))
 by_cases c8:okAt credit (adj l e.From (-e.Amount)) e.From=true
 rotate_left
 ·have c8:okAt credit (adj l e.From (-e.Amount)) e.From=false:=by simpa using c8
  simp -dsimp -implicitDefEqProofs [-getElem?_pos,go_sem,hP,c8]
  exact bad 61 _ (by rw[pS,if_pos c8]) (by omega) k3
 rw[if_neg (by simp[c8])]at pS
 simp -dsimp -implicitDefEqProofs [-getElem?_pos,go_sem,hP,c8,o3,l3]
 refine callB_m (by rw[hr,hs];exact add_m h3 (by rw[adj_len];omega) hc (by rw[adj_ids];exact hn) (by rw[adj_ids];exact h0) (okAll_adj hok c8) e.To e.Amount (by rw[adj_ids];exact (knownB_iff _ _).1 c7) (by omega)) hP en_255 ?_
 rintro r H4 ⟨rfl,h4,hk4⟩
 have o4:=hk4 _ _ (by simp[nq]) o3
 have l4:=(gsI o4)
 have k4:=k3.trans (hk4.mono (Y:=[p,q]) (by simp))
 by_cases c9:okAt credit (adj (adj l e.From (-e.Amount)) e.To e.Amount) e.To=true
 rotate_left
 ·have c9:okAt credit (adj (adj l e.From (-e.Amount)) e.To e.Amount) e.To=false:=by simpa using c9
  simp -dsimp -implicitDefEqProofs [-getElem?_pos,go_sem,hP,c8,c9]
  exact bad 61 _ (by rw[pS,if_pos c9]) (by omega) k4
 rw[if_neg (by simp[c9])]at pS
 have ho4:=h4.obj
 have hp4:=h4.ltp
 simp -dsimp -implicitDefEqProofs [-getElem?_pos,go_sem,hP,c8,c9]
 refine adrawB (fun i=>decide (i=H.length)) [6,7,9,10,11] hP (by kernel_rfl) (by kernel_rfl) ?_
 simp -dsimp -implicitDefEqProofs [-getElem?_pos,go_sem,hP,o4,l4,ho4,hp4]
 refine⟨fun i hi=>?_,?_⟩
 ·simp only[decide_eq_true_eq]at hi
  subst hi
  rw[List.getElem?_set_ne (Ne.symm np)]
 rw[hC,pS]
 refine⟨rfl,fun _=>⟨h.ne,by rw[List.getElem?_set_self hp4],by rw[List.getElem?_set_ne h.ne];exact h4.subs⟩,kept_set _ (by simp) k4⟩
set_option maxHeartbeats 1000000 in
theorem fresh_m {row src:Option Nat} (a:TAccount) (H:Heap) (hl:a.Subs.length≤100000) (hne:a.Subs≠[]):
  MFun Tryz.prog row src 194 [.agg a.cells] H (fun r H'=>∃p q,r= .ref p 0 0∧H.length≤p∧H.length≤q∧Teller H' p q a.Credit 0 0 (zeroS a.Subs)∧Kept [] H H'):=by
 obtain⟨C,hC⟩:∃C:AV→Heap→Prop,C=fun r H'=>∃p q,r= .ref p 0 0∧H.length≤p∧H.length≤q∧Teller H' p q a.Credit 0 0 (zeroS a.Subs)∧Kept [] H H':=⟨_,rfl⟩
 rw[←hC]
 have ex:∃r H',C r H':=⟨.ref H.length 0 0,H++[some ⟨216,4,[[iv a.Credit,iv 0,iv 0,.sref (H.length+1) 0 (zeroS a.Subs).length]]⟩,some ⟨121,2,encL TSub.cells (zeroS a.Subs)⟩],by
  rw[hC]
  exact⟨H.length,H.length+1,rfl,Nat.le_refl _,by omega,⟨by omega,by simp,by rw[List.getElem?_append_right (by omega)];simp⟩,kept_app _ _ _⟩⟩
 refine mfun_intro Tryz.func194 rfl (by simp[Tryz.f194]) (by kernel_rfl) (ex) ?_
 intro E hP hr hs hN
 simp -dsimp -implicitDefEqProofs [-getElem?_pos,go_sem,hP,cA]
 obtain⟨I,hI⟩:∃I:Nat→St→Prop,I=fun m s=>∃(k:Nat) (x:AV),k≤a.Subs.length∧m=a.Subs.length-k∧s.t 3= .ref (H.length+1) 0 0∧s.t 11=subsL a.Subs∧s.t 12=iv a.Subs.length∧s.t 13=iv k∧s.H[H.length+1]?=some (some ⟨216,4,[[iv a.Credit,iv 0,iv 0,x]]⟩)∧Grown (H.length+2) s.H x 121 2 (encL TSub.cells (zeroS (a.Subs.take k)))∧Kept [] H s.H:=⟨_,rfl⟩
 refine aloop0 I (a.Subs.length) (by rw[hN];rfl) ?_ ?_
 ·rw[hI]
  exact⟨0,.nil,by omega,by omega,by simp -dsimp[-getElem?_pos,go_sem],by simp -dsimp[-getElem?_pos,go_sem],by simp -dsimp[-getElem?_pos,go_sem],by simp -dsimp[-getElem?_pos,go_sem],by simp -dsimp[-getElem?_pos,go_sem],.inl ⟨rfl,rfl⟩,by simp -dsimp[-getElem?_pos,go_sem];exact kept_app _ _ _⟩
 intro m s hs'
 rw[hI]at hs'
 obtain⟨k,x,hk,hm,t3,t11,t12,t13,h1,hg,hK⟩:=hs'
 have lt1:=(gsI h1)
 simp -dsimp -implicitDefEqProofs [-getElem?_pos,go_sem,hP,t12,t13]
 refine condP (fun h=>?_) (fun h=>?_)
 ·have hk:k<a.Subs.length:=by simpa using h
  obtain⟨y,hy⟩:∃y,a.Subs[k]?=some y:=⟨_,List.getElem?_eq_getElem hk⟩
  have wk:=wrap_in ((k:Int)+1) (by omega)
  have e1:zeroS (a.Subs.take (k+1))=zeroS (a.Subs.take k)++[⟨y.ID,0⟩]:=by rw[List.take_add_one,hy];simp[zeroS]
  have nl:(zeroS (a.Subs.take k)).length=k:=by rw[zeroS_len,List.length_take];omega
  simp -dsimp -implicitDefEqProofs [-getElem?_pos,go_sem,hP,t11,t13,hy,TSub.cells]
  rcases hg with⟨rfl,hg⟩|⟨id,h2,rfl,hg⟩
  ·refine adrawB (fun i=>decide (i=H.length+1)||decide (i=s.H.length)) [12] hP (by kernel_rfl) (by kernel_rfl) ?_
   simp -dsimp -implicitDefEqProofs [-getElem?_pos,go_sem,hP,t3,h1,lt1,t13,wk]
   refine⟨fun i hi=>?_,a.Subs.length-(k+1),by omega,?_⟩
   ·simp only[Bool.or_eq_true,decide_eq_true_eq]at hi
    rcases hi with rfl|rfl<;>simp[-getElem?_pos,List.getElem?_append,lt1]<;>rfl
   rw[hI]
   refine⟨k+1,.sref (s.H.length+1) 0 1,by omega,rfl,by simp -dsimp[-getElem?_pos,go_sem,t3],by simp -dsimp[-getElem?_pos,go_sem,t11],by simp -dsimp[-getElem?_pos,go_sem,t12],by simp -dsimp[-getElem?_pos,go_sem],by simp -dsimp[-getElem?_pos,go_sem,lt1],.inr ⟨s.H.length+1,by omega,?_,?_⟩,?_⟩
   ·rw[e1,←encL_snoc,hg];rfl
   ·rw[e1,←encL_snoc,hg]
    simp -dsimp -implicitDefEqProofs [-getElem?_pos,go_sem,TSub.cells]
   ·simp -dsimp -implicitDefEqProofs [-getElem?_pos,go_sem]
    exact (kept_new _ (by omega) hK).trans (kept_app _ _ _)
  ·have ne1:¬id=H.length+1:=by omega
   have lti:=(gsI hg)
   have ne2:¬id=s.H.length:=by omega
   refine adrawB (fun i=>decide (i=H.length+1)||decide (i=s.H.length)) [12] hP (by kernel_rfl) (by kernel_rfl) ?_
   simp -dsimp -implicitDefEqProofs [-getElem?_pos,go_sem,hP,t3,h1,lt1,t13,wk,hg,lti,ne1,nl]
   refine⟨by omega,by omega,fun i hi=>?_,a.Subs.length-(k+1),by omega,?_⟩
   ·simp only[Bool.or_eq_true,decide_eq_true_eq]at hi
    rcases hi with rfl|rfl<;>simp[-getElem?_pos,List.getElem?_append,List.getElem?_set,lt1,ne1,ne2]<;>rfl
   rw[hI]
   refine⟨k+1,.sref (s.H.length+1) 0 (k+1),by omega,rfl,by simp -dsimp[-getElem?_pos,go_sem,t3],by simp -dsimp[-getElem?_pos,go_sem,t11],by simp -dsimp[-getElem?_pos,go_sem,t12],by simp -dsimp[-getElem?_pos,go_sem],by simp -dsimp[-getElem?_pos,go_sem,lt1,ne1],.inr ⟨s.H.length+1,by omega,?_,?_⟩,?_⟩
   ·rw[encL_len,zeroS_len,List.length_take]
    congr 1
    omega
   ·rw[e1,←encL_snoc]
    simp -dsimp -implicitDefEqProofs [-getElem?_pos,go_sem,TSub.cells]
   ·simp -dsimp -implicitDefEqProofs [-getElem?_pos,go_sem]
    exact ((kept_new _ (by omega) (kept_new _ (by omega) hK)).trans (kept_app _ _ _))
 ·have hk:k=a.Subs.length:=by simp at h;omega
  subst hk
  rw[List.take_length]at hg
  simp -dsimp -implicitDefEqProofs [-getElem?_pos,go_sem,hP,t3]
  rw[hC]
  rcases hg with⟨rfl,hg⟩|⟨id,h2,rfl,hg⟩
  ·exfalso
   apply hne
   have:=congrArg List.length hg
   rw[encL_len,zeroS_len]at this
   exact List.eq_nil_of_length_eq_zero this
  ·exact⟨H.length+1,id,rfl,by omega,by omega,⟨by omega,by rw[h1,encL_len],hg⟩,hK⟩
open Go.PA
open Go.RowKit
theorem kept_high {H H' H'':Heap} {X:List Nat} (h:Kept [] H H') (k:Kept X H' H'') (hX:∀i,i∈X→H.length≤i):Kept [] H H'':=fun j o _ ho=>by
 refine k j o (fun hj=>?_) (h j o (by simp) ho)
 have:=hX j hj
 have:=(gsI ho)
 omega
def replayW (a:TAccount) (w:TEntry→Bool):Option (Int×Int×List TSub):=replayS a.Credit 0 0 (zeroS a.Subs) (a.Entries.takeWhile w)
set_option maxHeartbeats 1000000 in
theorem replay_m {row src:Option Nat} (a:TAccount) (H:Heap) (g:FuncId) (caps:List AV) (w:TEntry→Bool) (hl:a.Subs.length≤100000) (he:a.Entries.length≤100000) (hne:a.Subs≠[]) (hc:0≤a.Credit∧a.Credit≤1000000000000) (hn:(ids a.Subs).Nodup) (h0:0∉ids a.Subs)
  (hen:enterable Tryz.prog g=true) (hg:∀e,e∈a.Entries→∀H',Kept [] H H'→MFun Tryz.prog row src g (.agg e.cells::caps) H' (fun r H''=>r=bv (w e)∧Kept [] H' H'')):
  MFun Tryz.prog row src 132 [.agg a.cells,.fn g caps] H (fun r H'=>∃p q,r= .tup [.ref p 0 0,bv (replayW a w).isSome]∧H.length≤p∧H.length≤q∧(∀x,replayW a w=some x→Teller H' p q a.Credit x.1 x.2.1 x.2.2)∧Kept [] H H'):=by
 obtain⟨C,hC⟩:∃C:AV→Heap→Prop,C=fun r H'=>∃p q,r= .tup [.ref p 0 0,bv (replayW a w).isSome]∧H.length≤p∧H.length≤q∧(∀x,replayW a w=some x→Teller H' p q a.Credit x.1 x.2.1 x.2.2)∧Kept [] H H':=⟨_,rfl⟩
 rw[←hC]
 obtain⟨R,hR⟩:∃R,R=replayW a w:=⟨_,rfl⟩
 rw[←hR]at hC
 have ex:∃r H',C r H':=by
  rw[hC]
  cases R with
  |none=>exact⟨_,H,H.length,H.length,rfl,Nat.le_refl _,Nat.le_refl _,by simp,kept_refl _ _⟩
  |some x=>exact⟨_,H++[some ⟨216,4,[[iv a.Credit,iv x.1,iv x.2.1,.sref (H.length+1) 0 x.2.2.length]]⟩,some ⟨121,2,encL TSub.cells x.2.2⟩],H.length,H.length+1,rfl,Nat.le_refl _,by omega,fun y hy=>by
    simp only[Option.some.injEq]at hy
    subst hy
    exact⟨by omega,by simp,by rw[List.getElem?_append_right (by omega)];simp⟩,kept_app _ _ _⟩
 refine mfun_intro Tryz.func132 rfl (by simp[Tryz.f132]) (by kernel_rfl) (ex) ?_
 intro E hP hr hs hN
 have ia:Imm (.agg [iv a.Credit,subsL a.Subs,entsL a.Entries]):=imm_acc a
 have fr:=fun (row src:Option Nat) (H:Heap)=>fresh_m (row:=row) (src:=src) a H hl hne
 rw[cA]at fr
 simp -dsimp -implicitDefEqProofs [-getElem?_pos,go_sem,hP,cA]
 refine callB_m (fr _ _ _) hP en_194 ?_
 rintro r H1 ⟨p,q,rfl,hp,hq,ht,hk1⟩
 have ob:=hk1 H.length ⟨28,3,[[iv a.Credit,subsL a.Subs,entsL a.Entries]]⟩ (by simp) (by simp)
 have lb:=(gsI ob)
 rw[List.length_append,List.length_singleton]at hp hq
 simp -dsimp -implicitDefEqProofs [-getElem?_pos,go_sem,hP,ob,lb]
 obtain⟨I,hI⟩:∃I:Nat→St→Prop,I=fun m s=>∃(k:Nat) (d:Int) (l:List TSub),k≤a.Entries.length∧m=a.Entries.length-k∧R=replayS a.Credit k d l ((a.Entries.drop k).takeWhile w)∧okAll a.Credit l=true∧ids l=ids a.Subs∧Teller s.H p q a.Credit k d l∧Kept [] H s.H∧s.t 1= .fn g caps∧s.t 6= .ref p 0 0∧s.t 12=entsL a.Entries∧s.t 13=iv a.Entries.length∧s.t 14=iv k:=⟨_,rfl⟩
 refine aloop0 I (a.Entries.length) (by rw[hN];rfl) ?_ ?_
 ·rw[hI]
  exact⟨0,0,zeroS a.Subs,by omega,by omega,by rw[hR];simp[replayW],zeroS_all hc.1 _,zeroS_ids _,by simp -dsimp[-getElem?_pos,go_sem];exact ht,by simp -dsimp[-getElem?_pos,go_sem];exact (kept_app _ _ _).trans hk1,by simp -dsimp[-getElem?_pos,go_sem],by simp -dsimp[-getElem?_pos,go_sem],by simp -dsimp[-getElem?_pos,go_sem],by simp -dsimp[-getElem?_pos,go_sem],by simp -dsimp[-getElem?_pos,go_sem]⟩
 clear ht hk1 ob lb
 intro m s hs'
 rw[hI]at hs'
 obtain⟨k,d,l,hk,hm,hRr,hok,hids,ht,hK,t1,t6,t12,t13,t14⟩:=hs'
 have fin:∀b:Bool,R.isSome=b→(∀x,R=some x→Teller s.H p q a.Credit x.1 x.2.1 x.2.2)→C (.tup [.ref p 0 0,bv b]) s.H:=fun b hb hx=>by
  rw[hC]
  exact⟨p,q,by rw[hb],by omega,by omega,hx,hK⟩
 simp -dsimp -implicitDefEqProofs [-getElem?_pos,go_sem,hP,t13,t14]
 refine condP (fun h=>?_) (fun h=>?_)
 ·have hk:k<a.Entries.length:=by simpa using h
  obtain⟨e,hee⟩:∃e,a.Entries[k]?=some e:=⟨_,List.getElem?_eq_getElem hk⟩
  have wk:=wrap_in ((k:Int)+1) (by omega)
  have hd:a.Entries.drop k=e::a.Entries.drop (k+1):=by
   rw[List.getElem?_eq_getElem hk]at hee
   rw[List.drop_eq_getElem_cons hk,Option.some.inj hee]
  rw[hd]at hRr
  have hge:=hg e (List.mem_of_getElem? hee) _ (hK.trans (kept_push (some ⟨75,6,[[iv e.Number,iv e.Day,iv e.From,iv e.To,iv e.Amount,iv e.Ref]]⟩) (kept_refl _ s.H)))
  rw[cE]at hge
  simp -dsimp -implicitDefEqProofs [-getElem?_pos,go_sem,hP,t12,t14,hee,cE,t1]
  refine callB_m (by rw[hr,hs];exact hge) hP hen ?_
  rintro r H2 ⟨rfl,hk2⟩
  have o2:=hk2 s.H.length ⟨75,6,[[iv e.Number,iv e.Day,iv e.From,iv e.To,iv e.Amount,iv e.Ref]]⟩ (by simp) (by simp)
  have l2:=(gsI o2)
  have k2:Kept [] s.H H2:=(kept_app _ _ _).trans hk2
  by_cases hw:w e=true
  rotate_left
  ·rw[List.takeWhile_cons_of_neg hw]at hRr
   simp -dsimp -implicitDefEqProofs [-getElem?_pos,go_sem,hP,hw,t6]
   rw[hC]
   have hRr:R=some ((k:Int),d,l):=hRr
   refine⟨p,q,by rw[hRr];rfl,by omega,by omega,fun x hx=>?_,hK.trans k2⟩
   rw[hRr]at hx
   simp only[Option.some.injEq]at hx
   subst hx
   exact ht.kept k2 (by simp) (by simp)
  rw[List.takeWhile_cons_of_pos hw,replayS]at hRr
  have tp:=tpost_m (row:=row) (src:=src) (ht.kept k2 (by simp) (by simp)) (by rw[←ids_len,hids,ids_len];omega) hc (by rw[hids];exact hn) (by rw[hids];exact h0) hok (by omega) e
  rw[cE]at tp
  simp -dsimp -implicitDefEqProofs [-getElem?_pos,go_sem,hP,hw,t6,o2,l2]
  refine callB_m (by rw[hr,hs];exact tp) hP en_185 ?_
  rintro r H3 ⟨rfl,ht3,hk3⟩
  have K3:Kept [] H H3:=kept_high (hK.trans k2) hk3 (fun i hi=>by simp at hi;omega)
  by_cases hp0:(postS a.Credit k d l e).1=0
  ·rw[if_pos hp0]at hRr
   obtain⟨q1,q2,q3,_⟩:=postS_ok hp0
   simp -dsimp -implicitDefEqProofs [-getElem?_pos,go_sem,hP,hp0,t14,wk]
   refine⟨a.Entries.length-(k+1),by omega,?_⟩
   rw[hI]
   rw[q1]at hRr
   refine⟨k+1,e.Day,(postS a.Credit k d l e).2,by omega,rfl,hRr,postS_all hp0 hok,(postS_ids _ _ _ _ _).trans hids,?_,by simp -dsimp[-getElem?_pos,go_sem];exact K3,by simp -dsimp[-getElem?_pos,go_sem,t1],by simp -dsimp[-getElem?_pos,go_sem,t6],by simp -dsimp[-getElem?_pos,go_sem,t12],by simp -dsimp[-getElem?_pos,go_sem,t13],by simp -dsimp[-getElem?_pos,go_sem]⟩
   simp -dsimp -implicitDefEqProofs [-getElem?_pos,go_sem]
   have:=ht3 hp0
   rw[q1]at this
   exact this
  ·rw[if_neg hp0]at hRr
   simp -dsimp -implicitDefEqProofs [-getElem?_pos,go_sem,hP,hp0,t6]
   rw[hC]
   exact⟨p,q,by rw[hRr];rfl,by omega,by omega,fun x hx=>(by rw[hRr]at hx;cases hx),K3⟩
 ·have hk:k=a.Entries.length:=by simp at h;omega
  subst hk
  rw[List.drop_length]at hRr
  have hRr:R=some ((a.Entries.length:Int),d,l):=hRr
  simp -dsimp -implicitDefEqProofs [-getElem?_pos,go_sem,hP,t6]
  refine fin true (by rw[hRr];rfl) fun x hx=>?_
  rw[hRr]at hx
  simp only[Option.some.injEq]at hx
  subst hx
  exact ht
theorem all_m {row src:Option Nat} (e:TEntry) (H:Heap):MFun Tryz.prog row src 133 [.agg e.cells] H (fun r H'=>r=bv true∧Kept [] H H'):=by
 refine mfun_intro Tryz.func133 rfl (by simp[Tryz.f133]) (by kernel_rfl) (⟨_,H,rfl,kept_refl _ _⟩) ?_
 intro E hP hr hs hN
 simp -dsimp -implicitDefEqProofs [-getElem?_pos,go_sem,hP,TEntry.cells]
 exact kept_app _ _ _
theorem takeWhile_true {α:Type} (l:List α):l.takeWhile (fun _=>true)=l:=takeWhile_all _ _ fun _ _=>rfl
theorem check_prog {a:TAccount} (h1:¬(20<a.Subs.length∨400<a.Entries.length)) (h2:(vB a.Credit&&numB (ids a.Subs))=true):
  checkA a=(replayW a fun _=>true).elim 62 (fun r=>if r.2.2=a.Subs then 0 else 62):=by
 have h3:¬(!vB a.Credit||!numB (ids a.Subs))=true:=by
  simp only[Bool.and_eq_true]at h2
  simp[h2.1,h2.2]
 rw[checkA,if_neg h1,if_neg h3,replayW,takeWhile_true]
 cases replayS a.Credit 0 0 (zeroS a.Subs) a.Entries<;>rfl
set_option maxHeartbeats 1000000 in
theorem check_pf (a:TAccount) (hl:a.Subs.length≤100000) (he:a.Entries.length≤100000):PFun Tryz.prog none none 82 [.agg a.cells] (·=iv (checkA a)):=by
 refine pfun_intro Tryz.func82 rfl (by simp[Tryz.f82]) (by kernel_rfl) ?_
 intro E hP hr hs hW hN
 by_cases c1:20<a.Subs.length
 ·have d1:decide ((20:Int)<a.Subs.length)=true:=decide_eq_true (by omega)
  have:checkA a=3:=by rw[checkA,if_pos (.inl c1)]
  simp -dsimp -implicitDefEqProofs [-getElem?_pos,go_sem,hP,cA,d1,this]
 have d1:decide ((20:Int)<a.Subs.length)=false:=decide_eq_false (by omega)
 by_cases c2:400<a.Entries.length
 ·have d2:decide ((400:Int)<a.Entries.length)=true:=decide_eq_true (by omega)
  have:checkA a=3:=by rw[checkA,if_pos (.inr c2)]
  simp -dsimp -implicitDefEqProofs [-getElem?_pos,go_sem,hP,cA,d1,d2,this]
 have d2:decide ((400:Int)<a.Entries.length)=false:=decide_eq_false (by omega)
 simp -dsimp -implicitDefEqProofs [-getElem?_pos,go_sem,hP,cA,d1,d2]
 refine callB_pure (valid_pf a.Credit) hP en_50 (args_same (by simp -dsimp[-getElem?_pos,go_sem])) .sc ?_
 by_cases c3:vB a.Credit=true
 rotate_left
 ·have:checkA a=62:=by rw[checkA,if_neg (by omega),if_pos (by simp[c3])]
  simp -dsimp -implicitDefEqProofs [-getElem?_pos,go_sem,hP,c3,this]
 simp -dsimp -implicitDefEqProofs [-getElem?_pos,go_sem,hP,c3]
 refine callB_is ((numbers_pf a.Subs hl).lift _ _) hP en_131 (by simp[imm_subs]) (imm_nums _) ?_
 simp -dsimp -implicitDefEqProofs [-getElem?_pos,go_sem,hP,c3]
 refine callB_pure (numbered_pf (ids a.Subs) (by rw[ids_len];omega)) hP en_51 (args_imm (imm_nums _) (args_nil.2 trivial)) .sc ?_
 by_cases c4:numB (ids a.Subs)=true
 rotate_left
 ·have:checkA a=62:=by rw[checkA,if_neg (by omega),if_pos (by simp[c4])]
  simp -dsimp -implicitDefEqProofs [-getElem?_pos,go_sem,hP,c3,c4,this]
 obtain⟨hnd,hz0,hhd⟩:=numB_facts c4
 have hcr:0≤a.Credit∧a.Credit≤1000000000000:=by simpa[vB,amongB]using c3
 have hchk:=check_prog (a:=a) (by omega) (by simp[c3,c4])
 have hne:a.Subs≠[]:=fun h=>by rw[h]at hhd;simp[ids]at hhd
 have rp:=fun (H:Heap)=>replay_m (row:=none) (src:=none) a H 133 [] (fun _=>true) hl he hne hcr hnd hz0 en_133 (fun e _ H' _=>all_m e H')
 rw[cA]at rp
 simp -dsimp -implicitDefEqProofs [-getElem?_pos,go_sem,hP,c3,c4]
 refine callB_m (by rw[hr,hs];exact rp _) hP en_132 ?_
 rintro r H1 ⟨p,q,rfl,hp,hq,ht,hk⟩
 have ob:=hk 0 ⟨28,3,[[iv a.Credit,subsL a.Subs,entsL a.Entries]]⟩ (by simp) (by simp)
 have lb:=(gsI ob)
 cases hR:replayW a fun _=>true with
 |none=>
  rw[hR]at hchk
  have hchk:checkA a=62:=hchk
  simp -dsimp -implicitDefEqProofs [-getElem?_pos,go_sem,hP,hchk]
  refine adrawB (fun _=>true) [] hP (by kernel_rfl) (by kernel_rfl) ?_
  simp -dsimp -implicitDefEqProofs [-getElem?_pos,go_sem,hP]
  exact hchk.symm
 |some x=>
  rw[hR]at hchk
  have hchk:checkA a=if x.2.2=a.Subs then 0 else 62:=hchk
  have t:=ht x hR
  have t1:=t.obj
  have t2:=t.ltp
  have t3:=t.subs
  have il:x.2.2.length=a.Subs.length:=by
   have:=(replayS_keeps a.Credit _ 0 0 (zeroS a.Subs) x (zeroS_all hcr.1 _) hR).2.1
   rw[←ids_len x.2.2,this,ids_len,zeroS_len]
  simp -dsimp -implicitDefEqProofs [-getElem?_pos,go_sem,hP]
  refine adrawB (fun _=>true) [] hP (by kernel_rfl) (by kernel_rfl) ?_
  simp -dsimp -implicitDefEqProofs [-getElem?_pos,go_sem,hP,t1,t2,ob,lb]
  refine callB_pure (listEq_pf_subs x.2.2 a.Subs (by omega) hl) hP en_134 (args_sref t3 (by rw[encL_len]) (imm_subs _) (args_imm (imm_subs _) (args_nil.2 trivial))) .sc ?_
  by_cases c5:x.2.2=a.Subs
  ·rw[if_pos c5]at hchk
   have d5:decide (x.2.2=a.Subs)=true:=decide_eq_true c5
   simp -dsimp -implicitDefEqProofs [-getElem?_pos,go_sem,hP,d5,hchk]
  ·rw[if_neg c5]at hchk
   simp -dsimp -implicitDefEqProofs [-getElem?_pos,go_sem,hP,c5,hchk]
open Go.PA
open Go.RowKit
theorem next_pf (a:TAccount) (day from_ to amount ref:Int) (he:a.Entries.length≤100000):PFun Tryz.prog none none 121 [.agg a.cells,iv day,iv from_,iv to,iv amount,iv ref] (·= .agg (nextE a day from_ to amount ref).cells):=by
 refine pfun_intro Tryz.func121 rfl (by simp[Tryz.f121]) (by kernel_rfl) ?_
 intro E hP hr hs hW hN
 by_cases h0:a.Entries.length=0
 ·have d0:decide (0<a.Entries.length)=false:=decide_eq_false (by omega)
  have:nextE a day from_ to amount ref=⟨1,day,from_,to,amount,ref⟩:=by rw[nextE,lastE_nil h0];rfl
  simp -dsimp -implicitDefEqProofs [-getElem?_pos,go_sem,hP,cA,d0]
  refine done_imm (imm_ent ⟨1,day,from_,to,amount,ref⟩) ?_
  rw[this]
  rfl
 ·obtain⟨k,hk⟩:∃k,a.Entries.length=k+1:=⟨a.Entries.length-1,by omega⟩
  obtain⟨e,hee⟩:∃e,a.Entries[k]?=some e:=⟨_,List.getElem?_eq_getElem (by omega)⟩
  have d0:decide ((0:Int)<(k:Int)+1)=true:=decide_eq_true (by omega)
  have wk:=wrap_in ((k:Int)+1-1) (by omega)
  rw[Int.add_sub_cancel]at wk
  have:nextE a day from_ to amount ref=⟨IntKind.i64.wrap (e.Number+1),day,from_,to,amount,ref⟩:=by rw[nextE,lastE_get hk hee]
  simp -dsimp -implicitDefEqProofs [-getElem?_pos,go_sem,hP,cA,hk,d0,Int.add_sub_cancel,wk,hee,cE]
  refine done_imm (imm_ent ⟨IntKind.i64.wrap (e.Number+1),day,from_,to,amount,ref⟩) ?_
  rw[this]
  rfl
theorem isidB_m {row src:Option Nat} (a:TSub) (H:Heap) (b:Nat) (id:Int) (hb:H[b]?=some (some ⟨3,1,[[iv id]]⟩)):
  MFun Tryz.prog row src 176 [.agg a.cells,.ref b 0 0] H (fun r H'=>r=bv (decide (a.ID=id))∧Kept [] H H'):=by
 refine mfun_intro Tryz.func176 rfl (by simp[Tryz.f176]) (by kernel_rfl) (⟨_,H,rfl,kept_refl _ _⟩) ?_
 intro E hP hr hs hN
 have hlt:=(gsI hb)
 simp -dsimp -implicitDefEqProofs [-getElem?_pos,go_sem,hP,TSub.cells,hb,hlt]
 exact kept_push _ (kept_refl _ _)
theorem balance_pf (a:TAccount) (id:Int) (hl:a.Subs.length≤100000) (he:a.Entries.length≤100000):PFun Tryz.prog none none 111 [.agg a.cells,iv id] (·= .tup [iv (balanceA a id).1,bv (balanceA a id).2]):=by
 refine pfun_intro Tryz.func111 rfl (by simp[Tryz.f111]) (by kernel_rfl) ?_
 intro E hP hr hs hW hN
 have ck:=check_pf a hl he
 rw[cA]at ck
 have ia:Imm (.agg [iv a.Credit,subsL a.Subs,entsL a.Entries]):=imm_acc a
 simp -dsimp -implicitDefEqProofs [-getElem?_pos,go_sem,hP,cA]
 refine callB_m (by rw[hr,hs];exact index_m_sub a.Subs (subsL a.Subs) _ 176 [.ref 1 0 0] (fun s=>decide (s.ID=id)) (.inl rfl) (by omega) en_176 (fun a _ H' hk=>isidB_m a H' 1 id (hk _ _ (by simp) (by simp)))) hP en_175 ?_
 rintro r H1 ⟨rfl,hk⟩
 have ob:=hk 0 ⟨28,3,[[iv a.Credit,subsL a.Subs,entsL a.Entries]]⟩ (by simp) (by simp)
 have lb:=(gsI ob)
 rcases find_place (l:=a.Subs) (id:=id)with⟨h1,h2⟩|⟨i,s,h1,h2,h3⟩
 ·have:balanceA a id=(0,false):=by
   rw[balanceA,h2]
   split<;>rfl
  have h1:idxI (fun s:TSub=>decide (s.ID=id)) a.Subs= -1:=h1
  simp -dsimp -implicitDefEqProofs [-getElem?_pos,go_sem,hP,h1]
  refine done_imm (imm_pair .sc .sc) ?_
  rw[this]
 ·have h1:idxI (fun s:TSub=>decide (s.ID=id)) a.Subs=(i:Int):=h1
  have hi:=(gsI h2)
  have d1:decide ((i:Int)<0)=false:=decide_eq_false (by omega)
  simp -dsimp -implicitDefEqProofs [-getElem?_pos,go_sem,hP,h1,d1,ob,lb]
  refine callB_is (ck.lift _ _) hP en_82 (by simp[ia]) .sc ?_
  by_cases c1:checkA a=0
  ·have:balanceA a id=(s.Balance,true):=by rw[balanceA,if_pos c1,h3]
   simp -dsimp -implicitDefEqProofs [-getElem?_pos,go_sem,hP,h1,d1,c1,h2,TSub.cells,ob,lb]
   refine done_imm (imm_pair .sc .sc) ?_
   rw[this]
  ·have:balanceA a id=(0,false):=by rw[balanceA,if_neg c1]
   simp -dsimp -implicitDefEqProofs [-getElem?_pos,go_sem,hP,h1,d1,c1]
   refine done_imm (imm_pair .sc .sc) ?_
   rw[this]
theorem agree_live {D:Nat→Bool} {X:List Nat} {H H':Heap} (hk:Kept X H H') (hD:∀i,D i=true→i∉X∧∃o,H[i]?=some (some o)):Agree D H H':=fun i hi=>by
 obtain⟨h1,o,ho⟩:=hD i hi
 rw[ho,hk i o h1 ho]
set_option maxHeartbeats 1000000 in
theorem post_pf (a:TAccount) (e:TEntry) (hl:a.Subs.length≤100000) (he:a.Entries.length≤100000):PFun Tryz.prog none none 120 [.agg a.cells,.agg e.cells] (·= .tup [.agg (postA a e).1.cells,iv (postA a e).2]):=by
 refine pfun_intro Tryz.func120 rfl (by simp[Tryz.f120]) (by kernel_rfl) ?_
 intro E hP hr hs hW hN
 have ck:=check_pf a hl he
 rw[cA]at ck
 have ia:Imm (.agg [iv a.Credit,subsL a.Subs,entsL a.Entries]):=imm_acc a
 have ie:Imm (.agg [iv e.Number,iv e.Day,iv e.From,iv e.To,iv e.Amount,iv e.Ref]):=imm_ent e
 simp -dsimp -implicitDefEqProofs [-getElem?_pos,go_sem,hP,cA,cE]
 refine callB_is (ck.lift _ _) hP en_82 (by simp[ia]) .sc ?_
 by_cases c1:checkA a=0
 rotate_left
 ·have:postA a e=(zeroA,checkA a):=by rw[postA,if_neg c1]
  simp -dsimp -implicitDefEqProofs [-getElem?_pos,go_sem,hP,c1]
  refine done_zeroA ?_
  rw[this]
 obtain⟨k1,k2,k3,k4,k5⟩:=check_ok c1
 by_cases c2:a.Entries.length=400
 ·have:postA a e=(zeroA,3):=by rw[postA,if_pos c1,if_pos c2]
  simp -dsimp -implicitDefEqProofs [-getElem?_pos,go_sem,hP,c1,c2]
  refine done_zeroA ?_
  rw[this]
 have d2:decide ((a.Entries.length:Int)=400)=false:=decide_eq_false (by omega)
 obtain⟨hnd,hz0,hhd⟩:=numB_facts k4
 obtain⟨q1,q2,q3,q4⟩:=check_keeps c1
 have hne:a.Subs≠[]:=fun h=>by rw[h]at hhd;simp[ids]at hhd
 have hx:replayW a (fun _=>true)=some ((lastE a).Number,(lastE a).Day,a.Subs):=by rw[replayW,takeWhile_true];exact k5
 have rp:=fun (H:Heap)=>replay_m (row:=none) (src:=none) a H 133 [] (fun _=>true) hl he hne k3 hnd hz0 en_133 (fun e _ H' _=>all_m e H')
 rw[cA]at rp
 simp -dsimp -implicitDefEqProofs [-getElem?_pos,go_sem,hP,c1,d2]
 refine callB_m (by rw[hr,hs];exact rp _) hP en_132 ?_
 rintro r H1 ⟨p,q,rfl,hp,hq,ht,hk⟩
 have hp:3≤p:=hp
 have hq:3≤q:=hq
 have t:=ht _ hx
 have ob0:=hk 0 ⟨28,3,[[iv a.Credit,subsL a.Subs,entsL a.Entries]]⟩ (by simp) (by simp)
 have ob1:=hk 1 ⟨75,6,[[iv e.Number,iv e.Day,iv e.From,iv e.To,iv e.Amount,iv e.Ref]]⟩ (by simp) (by simp)
 have ob2:=hk 2 ⟨28,3,[[iv 0,.nil,.nil]]⟩ (by simp) (by simp)
 have l0:=(gsI ob0)
 have l1:=(gsI ob1)
 have l2:=(gsI ob2)
 have tp:=tpost_m (row:=none) (src:=none) t hl k3 hnd hz0 q1 (by dsimp only;omega) e
 rw[cE]at tp
 simp -dsimp -implicitDefEqProofs [-getElem?_pos,go_sem,hP,hx,ob1,l1]
 refine callB_m (by rw[hr,hs];exact tp) hP en_185 ?_
 rintro r H2 ⟨rfl,ht2,hk2⟩
 have np:∀i,i<3→i∉[p,q]:=fun i hi=>by simp;omega
 have b0:=hk2 _ _ (np 0 (by omega)) ob0
 have b1:=hk2 _ _ (np 1 (by omega)) ob1
 have b2:=hk2 _ _ (np 2 (by omega)) ob2
 have m0:=(gsI b0)
 have m1:=(gsI b1)
 have m2:=(gsI b2)
 by_cases c3:(postS a.Credit (lastE a).Number (lastE a).Day a.Subs e).1=0
 rotate_left
 ·have pA:postA a e=(zeroA,(postS a.Credit (lastE a).Number (lastE a).Day a.Subs e).1):=by rw[postA,if_pos c1,if_neg c2,if_neg c3]
  simp -dsimp -implicitDefEqProofs [-getElem?_pos,go_sem,hP,c3,b2,m2]
  refine done_zeroA ?_
  rw[pA]
 have pA:postA a e=(⟨a.Credit,(postS a.Credit (lastE a).Number (lastE a).Day a.Subs e).2,a.Entries++[e]⟩,0):=by rw[postA,if_pos c1,if_neg c2,if_pos c3]
 have u:=ht2 c3
 have u1:=u.obj
 have u2:=u.ltp
 have u3:=u.subs
 simp -dsimp -implicitDefEqProofs [-getElem?_pos,go_sem,hP,c3]
 refine adrawB (fun i=>decide (i<2)||decide (i=p)) [13] hP (by kernel_rfl) (by kernel_rfl) ?_
 simp -dsimp -implicitDefEqProofs [-getElem?_pos,go_sem,hP,b0,m0,u1,u2]
 refine callB_m (by rw[hr,hs];exact clone_m_entry a.Entries H2 (by omega)) hP en_62 ?_
 rintro r H3 ⟨id,rfl,hid,ho3,hk3⟩
 have e1:=hk3 _ _ (by simp) b1
 have e2:=hk3 _ _ (by simp) b2
 have n1:=(gsI e1)
 have n2:=(gsI e2)
 have n3:=(gsI ho3)
 have u':=u.kept hk3 (by simp) (by simp)
 have e3:=u'.subs
 have n4:=u'.ltq
 have ne2:¬id=2:=by omega
 have neq:¬id=q:=by have:=u.ltq;omega
 simp -dsimp -implicitDefEqProofs [-getElem?_pos,go_sem,hP,e1,n1,ho3,n3,e2,n2,ne2]
 have en:encL TEntry.cells a.Entries++[[iv e.Number,iv e.Day,iv e.From,iv e.To,iv e.Amount,iv e.Ref]]=encL TEntry.cells (a.Entries++[e]):=encL_snoc TEntry.cells a.Entries e
 have D:∀i,(decide (i<2)||decide (i=p))=true→i<H2.length∧i≠id:=fun i hi=>by
  simp only[Bool.or_eq_true,decide_eq_true_eq]at hi
  omega
 refine⟨agree_live hk3 fun i hi=>⟨by simp,?_⟩,by omega,by omega,fun i hi=>?_,?_⟩
 ·simp only[Bool.or_eq_true,decide_eq_true_eq]at hi
  rcases hi with hi|rfl
  ·rcases i with _|_|i
   ·exact⟨_,b0⟩
   ·exact⟨_,b1⟩
   ·omega
  ·exact⟨_,u1⟩
 ·obtain⟨h1,h2⟩:=D i hi
  have:=(gsI ho3)
  rw[List.getElem?_append_left (by simp;omega),List.getElem?_set_ne (Ne.symm h2)]
 refine done_agg2 (cs':=[iv a.Credit,subsL (postS a.Credit (lastE a).Number (lastE a).Day a.Subs e).2,entsL (a.Entries++[e])]) (cw_sc (cw_sref (ty:=121) ?_ (by rw[encL_len]) (imm_subs _) (cw_sref (ty:=75) ?_ (by simp[encL]) (imm_ents _) .nil))) ?_
 ·rw[List.getElem?_append_left (by simp;omega),List.getElem?_set_ne (by omega),List.getElem?_set_ne neq]
  exact e3
 ·rw[List.getElem?_append_right (by simp)]
  simp[en]
 ·rw[pA]
  rfl
open Go.PA
open Go.RowKit
theorem isNaN_pf (x:Int):PFun Tryz.prog none none 103 [iv x] (·=bv false):=by
 refine pfun_intro Tryz.func103 rfl (by simp[Tryz.f103]) (by kernel_rfl) ?_
 intro E hP hr hs hW hN
 simp[go_sem,hP]
def cmpI (x y:Int):Int:=if x<y then -1 else if y<x then 1 else 0
theorem compare_pf (x y:Int):PFun Tryz.prog none none 55 [iv x,iv y] (·=iv (cmpI x y)):=by
 refine pfun_intro Tryz.func55 rfl (by simp[Tryz.f55]) (by kernel_rfl) ?_
 intro E hP hr hs hW hN
 simp[go_sem,hP]
 refine callB_pure (isNaN_pf x) hP en_103 (args_same (by simp[go_sem])) .sc ?_
 simp[go_sem,hP]
 refine callB_pure (isNaN_pf y) hP en_103 (args_same (by simp[go_sem])) .sc ?_
 simp[go_sem,hP]
 refine condP (fun h=>?_) (fun h=>?_)
 ·have h:x<y:=by simpa using h
  simp[go_sem,hP,cmpI,h]
 ·have h:¬x<y:=by simpa using h
  simp[go_sem,hP]
  refine condP (fun h'=>?_) (fun h'=>?_)
  ·have h':y<x:=by simpa using h'
   simp[go_sem,hP,cmpI,h,h']
  ·have h':¬y<x:=by simpa using h'
   simp[go_sem,hP,cmpI,h,h']
def orI:List Int→Int
 |[]=>0
 |x::l=>if x=0 then orI l else x
theorem orI_drop (l:List Int) (k:Nat) (h:k<l.length):orI (l.drop k)=if l[k]=0 then orI (l.drop (k+1))else l[k]:=by
 rw[List.drop_eq_getElem_cons h];rfl
theorem or_pf (l:List Int) (hl:l.length≤1000):PFun Tryz.prog none none 287 [intsL l] (·=iv (orI l)):=by
 refine pfun_intro Tryz.func287 rfl (by simp[Tryz.f287]) (by kernel_rfl) ?_
 intro E hP hr hs hW hN
 simp[go_sem,hP,intsL]
 refine aloop0 (fun m s=>∃k:Nat,k≤l.length∧m=l.length-k∧orI l=orI (l.drop k)∧s.t 3=iv 0∧s.t 6=intsL l∧s.t 7=iv l.length∧s.t 8=iv k) l.length (by rw[hN];rfl) ?_ ?_
 ·exact⟨0,by omega,by omega,by simp,by simp[go_sem],by simp[go_sem,intsL],by simp[go_sem],by simp[go_sem]⟩
 rintro m s ⟨k,hk,hm,ho,t3,t6,t7,t8⟩
 simp[go_sem,hP,t7,t8]
 refine condP (fun h=>?_) (fun h=>?_)
 ·have hk:k<l.length:=by simpa using h
  rw[orI_drop l k hk]at ho
  have w:=wrap_in ((k:Int)+1) (by omega)
  simp[go_sem,hP,t3,t6,t7,t8,intsL,hk]
  by_cases h0:l[k]=0
  ·simp[go_sem,hP,h0,t8,w]
   rw[if_pos h0]at ho
   exact⟨l.length-(k+1),by omega,k+1,by omega,rfl,ho,t3,t6,t7,rfl⟩
  ·simp[go_sem,hP,h0]
   rw[if_neg h0]at ho
   exact ho.symm
 ·have hk:l.length≤k:=by simpa using h
  simp[go_sem,hP,t3]
  rw[ho,List.drop_eq_nil_of_le hk]
  rfl
end Go.Proofs.YtaenimpfelpafaaGreatDoor
namespace Go.PA
open Go.RowKit
section
variable {E:Env} {w:World} {ρ:Places} {H:Heap} {ok:Nat→Prop}
theorem patch_get {α:Type} (es news:List α) (p i:Nat) (hp:p≤es.length):
  (es.take p++news++es.drop (p+news.length))[i]?=if i<p then es[i]? else if i<p+news.length then news[i-p]? else es[i]?:=by
 have h1:(es.take p).length=p:=by simp;omega
 split
 ·rw[List.append_assoc,List.getElem?_append_left (by omega),List.getElem?_take,if_pos (by assumption)]
 ·split
  ·rw[List.append_assoc,List.getElem?_append_right (by omega),List.getElem?_append_left (by omega),h1]
  ·rw[List.getElem?_append_right (by simp;omega),List.getElem?_drop]
   congr 1
   simp
   omega
theorem patch_sound (g:Good E w ρ H ok) {id b cap p:Nat} {o:AObj} (ho:H[id]?=some (some o)) (hρ:ρ id=some (b,cap)) (hcap:cap≤maxLen) (hp:p≤o.es.length) (news:List (List AV)) (hm:p+news.length≤cap)
  (hk:∀e,e∈news→e.length=o.k) (xs:List Value) (hxl:xs.length=news.length*o.k) (h1:∀v∈xs,v.oneCell'=true)
  (hx:∀(i:Nat) (e:List AV) (j:Nat) (a:AV),news[i]?=some e→e[j]?=some a→∃c,xs[i*o.k+j]?=some c∧Rep w ρ H ok c a):
  ∃w',(storeCells ⟨b,p*o.k,none⟩ xs).run E.P w= .ok () w'∧Good E w' ρ (H.set id (some {o with es:=o.es.take p++news++o.es.drop (p+news.length)})) ok∧Ext w ρ H ok w' ρ (H.set id (some {o with es:=o.es.take p++news++o.es.drop (p+news.length)})) ok:=by
 have hobj:=g.obj id o ho
 rw[hρ]at hobj
 obtain⟨cur,hb,hs,hl,hmx,hcell⟩:=hobj.cells hcap
 have hle:p*o.k+news.length*o.k≤cur.size:=by
  rw[hs,←Nat.add_mul]
  exact Nat.mul_le_mul_right _ hm
 have hst:=run_storeCells_at E.P b (p*o.k) o.ty xs 0 cur w hb (by rw[hxl];omega) h1
 simp only[Nat.add_zero]at hst
 generalize hnew:(cur.toList.take (p*o.k)++xs++cur.toList.drop (p*o.k+xs.length)).toArray=new at hst
 have hnewget:∀q,new[q]?=if q<p*o.k then cur[q]? else if q<p*o.k+news.length*o.k then xs[q-p*o.k]? else cur[q]?:=fun q=>by
  subst hnew
  have:=splice_get cur.toList xs (p*o.k) q (by simp[hxl];omega)
  rw[hxl]at this
  simpa[hxl]using this
 have hnewsize:new.size=cur.size:=by
  subst hnew
  simp only[List.size_toArray,List.length_append,List.length_take,List.length_drop,Array.length_toList]
  rw[hxl]
  omega
 have hlen':∀e∈o.es.take p++news++o.es.drop (p+news.length),e.length=o.k:=fun e he=>by
  rcases List.mem_append.1 he with he|he
  ·rcases List.mem_append.1 he with he|he
   ·exact g.len id o ho e (List.mem_of_mem_take he)
   ·exact hk e he
  ·exact g.len id o ho e (List.mem_of_mem_drop he)
 obtain⟨g',x'⟩:=g.change (w':=w.setRow b new) ho hρ {o with es:=o.es.take p++news++o.es.drop (p+news.length)} rfl (by simp;omega) hlen' rfl rfl rfl setRow_size (fun b' hb'=>setRow_other hb') fun hxx=> .inl ⟨new,setRow_block hb,hnewsize.trans hs,by simp;omega,hmx,fun i e j a hi hj=>by
  simp only at hi
  have hjk:j<o.k:=by
   have:=hlen' e (List.mem_of_getElem? hi)
   have:=(gsI hj)
   omega
  rw[patch_get _ _ _ _ hp]at hi
  simp only
  rw[hnewget]
  split at hi
  ·rename_i hip
   have:i*o.k+o.k≤p*o.k:=by rw[←Nat.succ_mul];exact Nat.mul_le_mul_right _ hip
   rw[if_pos (by omega)]
   obtain⟨c,c1,c2,c3⟩:=hcell i e j a hi hj
   exact⟨c,c1,c2,c3.ext hxx⟩
  ·split at hi
   ·rename_i hge hlt
    have h3:p*o.k≤i*o.k:=Nat.mul_le_mul_right _ (by omega)
    have h4:i*o.k+o.k≤p*o.k+news.length*o.k:=by rw[←Nat.succ_mul,←Nat.add_mul];exact Nat.mul_le_mul_right _ hlt
    rw[if_neg (by omega),if_pos (by omega)]
    obtain⟨c,c1,c3⟩:=hx (i-p) e j a hi hj
    have e5:i*o.k+j-p*o.k=(i-p)*o.k+j:=by rw[Nat.sub_mul];omega
    rw[e5]
    exact⟨c,c1,h1 c (List.mem_of_getElem? c1),c3.ext hxx⟩
   ·rename_i hge hge2
    have h4:p*o.k+news.length*o.k≤i*o.k:=by rw[←Nat.add_mul];exact Nat.mul_le_mul_right _ (by omega)
    rw[if_neg (by omega),if_neg (by omega)]
    obtain⟨c,c1,c2,c3⟩:=hcell i e j a hi hj
    exact⟨c,c1,c2,c3.ext hxx⟩⟩
 exact⟨_,hst,g',x'⟩
theorem src_flat (g:Good E w ρ H ok) {P:Program} {e:TypeId} {v:Value} {x:AV} {es:List (List AV)} (r:Rep w ρ H ok v x) (h:srcEs P e H x=some es) (hne:es≠[]) (hk:0<szOf P e):
  ∃(ad:Addr) (c:Nat) (xs:List Value),v= .slice (some ad) es.length c∧(∀(e':List AV),e'∈es→e'.length=szOf P e)∧xs.length=es.length*szOf P e∧(∀(j:Nat) (u:Value),xs[j]?=some u→w.cell? (ad.add j)=some u)∧(∀u∈xs,u.oneCell'=true)∧
   ∀(i:Nat) (e':List AV) (j:Nat) (a:AV),es[i]?=some e'→e'[j]?=some a→∃c,xs[i*szOf P e+j]?=some c∧Rep w ρ H ok c a:=by
 obtain⟨A,c,f,hv,hlen,hc⟩:=src_sound g r h
 obtain⟨ad,rfl,hcc⟩:=hc hne
 have hdm:∀p,p<es.length*szOf P e→p / szOf P e<es.length∧p%szOf P e<szOf P e:=fun p hp=>⟨Nat.div_lt_of_lt_mul (by rw[Nat.mul_comm];exact hp),Nat.mod_lt _ hk⟩
 have heq:∀p,p / szOf P e*szOf P e+p%szOf P e=p:=fun p=>Nat.div_add_mod' p _
 have get:∀i j,i<es.length→j<szOf P e→∃e' a,es[i]?=some e'∧e'[j]?=some a:=fun i j hi hj=>by
  have:=hlen _ (List.getElem_mem hi)
  exact⟨_,_,List.getElem?_eq_getElem hi,List.getElem?_eq_getElem (by omega)⟩
 refine⟨ad,c,(List.range (es.length*szOf P e)).map fun p=>f (p / szOf P e) (p%szOf P e),hv,hlen,by simp,fun p u hp=>?_,fun u hu=>?_,fun i e' j a hi hj=>?_⟩
 ·rw[List.getElem?_map,Option.map_eq_some_iff]at hp
  obtain⟨q,hq,rfl⟩:=hp
  obtain⟨hlt,rfl⟩:=List.getElem?_eq_some_iff.1 hq
  simp only[List.length_range,List.getElem_range]at hlt⊢
  obtain⟨e',a,h1,h2⟩:=get _ _ (hdm p hlt).1 (hdm p hlt).2
  have:=(hcc _ _ _ _ h1 h2).1
  rwa[heq]at this
 ·obtain⟨p,hp,rfl⟩:=List.mem_map.1 hu
  have hlt:=List.mem_range.1 hp
  obtain⟨e',a,h1,h2⟩:=get _ _ (hdm p hlt).1 (hdm p hlt).2
  exact (hcc _ _ _ _ h1 h2).2.1
 ·have hil:=(gsI hi)
  have hjl:j<szOf P e:=by rw[←hlen e' (List.mem_of_getElem? hi)];exact (gsI hj)
  have hlt:i*szOf P e+j<es.length*szOf P e:=by
   have:i*szOf P e+szOf P e≤es.length*szOf P e:=by rw[←Nat.succ_mul];exact Nat.mul_le_mul_right _ hil
   omega
  refine⟨f i j,?_,(hcc i e' j a hi hj).2.2⟩
  simp[hlt,(divmod (i:=i) hjl).1,(divmod (i:=i) hjl).2]
theorem dst_rep (g:Good E w ρ H ok) {v:Value} {x:AV} {id lo dn:Nat} {o:AObj} (hx:x= .sref id lo dn∨∃N,x= .full id lo dn N) (ho:H[id]?=some (some o)) (hpos:0<dn) (r:Rep w ρ H ok v x):
  ∃b cap c,v= .slice (some ⟨b,lo*o.k,none⟩) dn c∧ρ id=some (b,cap)∧lo+dn≤cap∧cap≤maxLen:=by
 rcases hx with rfl|⟨N,rfl⟩
 ·cases r with
  |srefDead hd _=>rw[ho]at hd;cases hd
  |srefNil ho' hρ=>omega
  |@sref _ _ _ c o' b cap ho' hρ hn hc hnc hcap=>
   rw[ho]at ho'
   simp only[Option.some.injEq]at ho'
   subst ho'
   have hobj:=g.obj id o ho
   rw[hρ]at hobj
   obtain⟨_,_,_,hl,_,_⟩:=hobj.cells hcap
   exact⟨b,cap,c,rfl,hρ,by omega,hcap⟩
 ·cases r with
  |fullDead hd _=>rw[ho]at hd;cases hd
  |@full _ _ _ _ o' b ho' hρ hn hN=>
   rw[ho]at ho'
   simp only[Option.some.injEq]at ho'
   subst ho'
   exact⟨b,N,_,rfl,hρ,hn,hN⟩
theorem size2 {α:Type} {vs:Array α} (h:vs.size=2):∃a b,vs=#[a,b]:=by
 obtain⟨l⟩:=vs
 match l,h with
 |[a,b],_=>exact⟨a,b,rfl⟩
theorem size1 {α:Type} {vs:Array α} (h:vs.size=1):∃a,vs=#[a]:=by
 obtain⟨l⟩:=vs
 match l,h with
 |[a],_=>exact⟨a,rfl⟩
theorem buiB_copy {t t' e:TypeId} {x y:AV} {id lo dn:Nat} {o:AObj} {news:List (List AV)} {C:AV→Heap→Prop} {b:Bx C} (hx:x= .sref id lo dn∨∃N,x= .full id lo dn N) (ho:H[id]?=some (some o)) (he:elemOf E.P t=some e)
  (hk:o.k=szOf E.P e) (hk0:0<o.k) (hkn:knownT E.P e=true) (hs:srcEs E.P e H y=some news) (hl:news.length≤dn) (hpos:0<news.length) (hp:lo≤o.es.length)
  (hC:C (.sc (goInt news.length)) (H.set id (some {o with es:=o.es.take lo++news++o.es.drop (lo+news.length)}))):BuiB E .copy #[t,t'] [x,y] H C b:=by
 refine⟨⟨_,_,hC⟩,fun w ρ ok ty vs g hsz hr=>?_⟩
 obtain⟨vx,vy,rfl⟩:=size2 hsz
 have rx:=hr 0 vx x rfl rfl
 have ry:=hr 1 vy y rfl rfl
 obtain⟨b',cap,c,rfl,hρ,hcap,hmx⟩:=dst_rep g hx ho (by omega) rx
 obtain⟨ad,c',xs,rfl,hlen,hxl,hcell,h1,hrep⟩:=src_flat g ry hs (by intro e0;simp[e0]at hpos) (by omega)
 obtain⟨w',hst,g',x'⟩:=patch_sound g ho hρ hmx hp news (by omega) (by rw[hk];exact hlen) xs (by rw[hk];exact hxl) h1 (by rw[hk];exact hrep)
 refine⟨.int .i64 news.length,w',_,_,ρ,ok,?_,hC,g',x',.sc⟩
 have hmin:Nat.min news.length dn=news.length:=Nat.min_eq_left hl
 have hld:=run_firstCells_some (P:=E.P) w (szOf E.P e) news.length ad news.length c' xs hxl hcell
 simp[buiRun,Builtin.copy_,run_underlying (elemOf_sound he),Builtin.lenOf,run_sizeOf' hkn,hmin,hld,hst,goInt]
theorem buiB_copy_short {t t' e:TypeId} {x:AV} {id lo dn id2 lo2 m2 N2:Nat} {o:AObj} {news:List (List AV)} {C:AV→Heap→Prop} {b:Bx C} (hx:x= .sref id lo dn∨∃N,x= .full id lo dn N) (ho:H[id]?=some (some o)) (he:elemOf E.P t=some e)
  (hk:o.k=szOf E.P e) (hk0:0<o.k) (hkn:knownT E.P e=true) (hs:srcEs E.P e H (.full id2 lo2 dn N2)=some news) (hnl:news.length=dn) (hm2:dn≤m2) (hpos:0<news.length) (hp:lo≤o.es.length)
  (hC:C (.sc (goInt news.length)) (H.set id (some {o with es:=o.es.take lo++news++o.es.drop (lo+news.length)}))):BuiB E .copy #[t,t'] [x,.full id2 lo2 m2 N2] H C b:=by
 refine⟨⟨_,_,hC⟩,fun w ρ ok ty vs g hsz hr=>?_⟩
 obtain⟨vx,vy,rfl⟩:=size2 hsz
 have rx:=hr 0 vx x rfl rfl
 have ry:=hr 1 vy _ rfl rfl
 obtain⟨b',cap,c,rfl,hρ,hcap,hmx⟩:=dst_rep g hx ho (by omega) rx
 cases ry with
 |fullDead hd _=>simp[srcEs,hd]at hs
 |@full _ _ _ _ o2 b2 ho2 hρ2 hn2 hN2=>
  have ry':Rep w ρ H ok (.slice (some ⟨b2,lo2*o2.k,none⟩) dn (N2-lo2)) (.full id2 lo2 dn N2):= .full ho2 hρ2 (by omega) hN2
  obtain⟨ad,c',xs,hv,hlen,hxl,hcell,h1,hrep⟩:=src_flat g ry' hs (by intro e0;simp[e0]at hpos) (by omega)
  simp only[Value.slice.injEq,Option.some.injEq]at hv
  obtain⟨rfl,_,_⟩:=hv
  obtain⟨w',hst,g',x'⟩:=patch_sound g ho hρ hmx hp news (by omega) (by rw[hk];exact hlen) xs (by rw[hk];exact hxl) h1 (by rw[hk];exact hrep)
  refine⟨.int .i64 news.length,w',_,_,ρ,ok,?_,hC,g',x',.sc⟩
  have hmin:Nat.min m2 dn=news.length:=by rw[hnl];exact Nat.min_eq_right hm2
  have hld:=run_firstCells_some (P:=E.P) w (szOf E.P e) news.length ⟨b2,lo2*o2.k,none⟩ m2 (N2-lo2) xs hxl hcell
  simp[buiRun,Builtin.copy_,run_underlying (elemOf_sound he),Builtin.lenOf,run_sizeOf' hkn,hmin,hld,hst,goInt]
theorem zeroCells_get {z:Value} {k n i j:Nat} (hz:z.cells.size=k) (hi:i<n) (hj:j<k):(Builtin.zeroCells z.cells n)[i*k+j]?=z.cells[j]?:=by
 have hlt:i*k+j<n*k:=by
  have:i*k+k≤n*k:=by rw[←Nat.succ_mul];exact Nat.mul_le_mul_right _ hi
  omega
 unfold Builtin.zeroCells
 rw[hz,Array.getElem?_map,Array.getElem?_range,if_pos hlt]
 simp only[Option.map_some,(divmod (i:=i) hj).2]
 rw[getElem!_pos z.cells j (by omega),Array.getElem?_eq_getElem (by omega)]
theorem zeroCells_size {z:Value} {k n:Nat} (hz:z.cells.size=k):(Builtin.zeroCells z.cells n).size=n*k:=by simp[Builtin.zeroCells,hz]
theorem zeroCells_mem {z:Value} {k n:Nat} (hz:z.cells.size=k) (hk:0<k) {v:Value} (hv:v∈(Builtin.zeroCells z.cells n).toList):v∈z.cells.toList:=by
 obtain⟨q,hq⟩:=List.getElem?_of_mem hv
 have hql:q<n*k:=by have:=(gsI hq);simpa[zeroCells_size (n:=n) hz]using this
 have e:=Nat.div_add_mod' q k
 have h1:q / k<n:=Nat.div_lt_of_lt_mul (by rw[Nat.mul_comm];exact hql)
 have h2:q%k<k:=Nat.mod_lt _ hk
 have:=zeroCells_get (n:=n) hz h1 h2
 rw[e]at this
 rw[Array.getElem?_toList,this]at hq
 exact List.mem_of_getElem? (by simpa using hq)
theorem buiB_clear {t e:TypeId} {x:AV} {id lo dn:Nat} {o:AObj} {zs:List AV} {C:AV→Heap→Prop} {b:Bx C} (hx:x= .sref id lo dn∨∃N,x= .full id lo dn N) (ho:H[id]?=some (some o)) (he:elemOf E.P t=some e)
  (hk:o.k=szOf E.P e) (hk0:0<o.k) (hz:zeros E.P e=some zs) (hpos:0<dn) (hp:lo≤o.es.length)
  (hC:C (.tup []) (H.set id (some {o with es:=o.es.take lo++List.replicate dn zs++o.es.drop (lo+dn)}))):BuiB E .clear #[t] [x] H C b:=by
 refine⟨⟨_,_,hC⟩,fun w ρ ok ty vs g hsz hr=>?_⟩
 obtain⟨vx,rfl⟩:=size1 hsz
 have rx:=hr 0 vx x rfl rfl
 obtain⟨b',cap,c,rfl,hρ,hcap,hmx⟩:=dst_rep g hx ho hpos rx
 obtain⟨i,z,hi,hzz,hzs,_,hzeq,h1⟩:=zeros_sound hz
 have hzl:zs.length=szOf E.P e:=by rw[hzeq];simpa using hzs
 obtain⟨w',hst,g',x'⟩:=patch_sound g ho hρ hmx hp (List.replicate dn zs) (by simp;omega) (fun e' he'=>by rw[List.eq_of_mem_replicate he',hk,hzl]) (Builtin.zeroCells z.cells dn).toList (by simp[zeroCells_size hzs,hk]) (fun v hv=>h1 v (zeroCells_mem hzs (by omega) hv)) (fun i' e' j a hi' hj=>by
  have hil:i'<dn:=by have:=(List.getElem?_eq_some_iff.1 hi').1;simpa using this
  rw[List.eq_of_mem_replicate (List.mem_of_getElem? hi')]at hj
  have hjl:=(gsI hj)
  rw[hzeq,List.getElem?_map,Option.map_eq_some_iff]at hj
  obtain⟨c0,hc0,rfl⟩:=hj
  refine⟨c0,?_,ofCell_rep c0⟩
  rw[Array.getElem?_toList,hk,zeroCells_get hzs hil (by omega)]
  simpa using hc0)
 rw[List.length_replicate]at g' x'
 refine⟨.tuple #[],w',_,_,ρ,ok,?_,hC,g',x',.tup rfl (by simp)⟩
 obtain⟨dn,rfl⟩:∃m,dn=m+1:=⟨dn-1,by omega⟩
 simp[buiRun,Builtin.clear_,run_underlying (elemOf_sound he),run_zeroValue' hi hzz,hst]
theorem buiB_clear_nil {t e:TypeId} {k:Nat} {C:AV→Heap→Prop} {b:Bx C} (he:elemOf E.P t=some e) (hC:C (.tup []) H):BuiB E .clear #[t] [.list k []] H C b:=by
 refine⟨⟨_,_,hC⟩,fun w ρ ok ty vs g hsz hr=>?_⟩
 obtain⟨vx,rfl⟩:=size1 hsz
 have rx:=hr 0 vx _ rfl rfl
 have:∃A c,vx= .slice A 0 c:=by
  cases rx with
  |listNil=>exact⟨_,_,rfl⟩
  |list f hn _ _ _ _ _ _=>subst hn;exact⟨_,_,rfl⟩
 obtain⟨A,c,rfl⟩:=this
 refine⟨.tuple #[],w,_,_,ρ,ok,?_,hC,g,Ext.refl _ _ _ _,.tup rfl (by simp)⟩
 cases A<;>simp[buiRun,Builtin.clear_,run_underlying (elemOf_sound he)]
theorem buiB_append_in {t e:TypeId} {y:AV} {id n N:Nat} {o:AObj} {news:List (List AV)} {C:AV→Heap→Prop} {b:Bx C} (ho:H[id]?=some (some o)) (he:elemOf E.P t=some e)
  (hk:o.k=szOf E.P e) (hk0:0<o.k) (hkn:knownT E.P e=true) (hs:srcEs E.P e H y=some news) (hl:n+news.length≤N) (hpos:0<news.length) (hp:n≤o.es.length)
  (hC:C (.full id 0 (n+news.length) N) (H.set id (some {o with es:=o.es.take n++news++o.es.drop (n+news.length)}))):BuiB E .append #[t,t] [.full id 0 n N,y] H C b:=by
 refine⟨⟨_,_,hC⟩,fun w ρ ok ty vs g hsz hr=>?_⟩
 obtain⟨vx,vy,rfl⟩:=size2 hsz
 have rx:=hr 0 vx _ rfl rfl
 have ry:=hr 1 vy y rfl rfl
 cases rx with
 |fullDead hd _=>rw[ho]at hd;cases hd
 |@full _ _ _ _ o' b' ho' hρ hn hN=>
  rw[ho]at ho'
  simp only[Option.some.injEq]at ho'
  subst ho'
  obtain⟨ad,c',xs,rfl,hlen,hxl,hcell,h1,hrep⟩:=src_flat g ry hs (by intro e0;simp[e0]at hpos) (by omega)
  obtain⟨w',hst,g',x'⟩:=patch_sound g ho hρ hN hp news (by omega) (by rw[hk];exact hlen) xs (by rw[hk];exact hxl) h1 (by rw[hk];exact hrep)
  refine⟨.slice (some ⟨b',0*o.k,none⟩) (n+news.length) (N-0),w',_,_,ρ,ok,?_,hC,g',x',?_⟩
  ·have hld:=run_firstCells_some (P:=E.P) w (szOf E.P e) news.length ad news.length c' xs hxl hcell
   have hle:n+news.length≤N-0:=by omega
   rw[hk]at hst
   simp[buiRun,Builtin.append_,run_underlying (elemOf_sound he),Builtin.lenOf,run_sizeOf' hkn,hl,hld,add_mk,hk,hst]
  ·exact .full (o:={o with es:=o.es.take n++news++o.es.drop (n+news.length)}) (by rw[List.getElem?_set];simp[get_lt ho]) hρ (by omega) hN
theorem good_drew (g:Good E w ρ H ok):Good E w.drew ρ H ok∧Ext w ρ H ok w.drew ρ H ok:=
 g.step (w':=w.drew) (fun _=>False) rfl rfl rfl (Nat.le_refl _) (fun _ _ _=>rfl) (fun _ h=>h.elim) (fun _ h=>h) (fun _ h=> .inl h)
theorem buiB_append_make {t tn e:TypeId} {id n N m:Nat} {o:AObj} {zs:List AV} {kq kn:IntKind} {C:AV→Heap→Prop} {b:Bx C} (ho:H[id]?=some (some o)) (he:elemOf E.P t=some e) (htn:E.P.underlying tn=some (.int kn))
  (hk:o.k=szOf E.P e) (hk0:0<o.k) (hty:o.ty=e) (hz:zeros E.P e=some zs) (hp:n≤o.es.length) (hpos:0<m) (hroom:N<n+m) (h63:n+m≤9223372036854775807) (hb:(n+m)*bytesOf E.P e≤140737488355328)
  (hC:C (.sref H.length 0 (n+m)) (H++[some ⟨e,o.k,o.es.take n++List.replicate m zs⟩])):BuiB E .append #[t,tn] [.full id 0 n N,.sc (.int kq m)] H C b:=by
 refine⟨⟨_,_,hC⟩,fun w ρ ok ty vs g hsz hr=>?_⟩
 obtain⟨vx,vy,rfl⟩:=size2 hsz
 have rx:=hr 0 vx _ rfl rfl
 have ry:=rep_sc (hr 1 vy _ rfl rfl)
 subst ry
 cases rx with
 |fullDead hd _=>rw[ho]at hd;cases hd
 |@full _ _ _ _ o' b' ho' hρ hn hN=>
  rw[ho]at ho'
  simp only[Option.some.injEq]at ho'
  subst ho'
  obtain⟨i,z,hi,hzz,hzs,his,hzeq,h1⟩:=zeros_sound hz
  have hzl:zs.length=szOf E.P e:=by rw[hzeq];simpa using hzs
  have hobj:=g.obj id o ho
  rw[hρ]at hobj
  obtain⟨cur,hbk,hs,hl,hmx,hcell⟩:=hobj.cells hN
  have hcur:n*o.k≤cur.size:=by rw[hs];exact Nat.mul_le_mul_right _ (by omega)
  obtain⟨g0,x0⟩:=good_drew g
  have hold:(Builtin.firstCells i.size n (.slice (some ⟨b',0*o.k,none⟩) n (N-0))).run E.P w.drew= .ok (cur.toList.take (n*o.k)).toArray w.drew:=by
   refine run_firstCells_some (P:=E.P) w.drew i.size n ⟨b',0*o.k,none⟩ n (N-0) (cur.toList.take (n*o.k)) (by simp[his,←hk];omega) (fun j v hj=>?_)
   rw[add_mk,Nat.zero_mul,Nat.zero_add,cell_of_row w.drew b' _ cur o.ty (0,0) hbk]
   rw[List.getElem?_take]at hj
   split at hj
   ·simpa using hj
   ·cases hj
  have hbi:bytesOf E.P e=i.bytes:=by simp[bytesOf,hi]
  rw[hbi]at hb
  have hrun:=Lib.run_append_grow_zeros w t tn ty e i z kq kn (elemOf_sound he) htn hi hzz (some ⟨b',0*o.k,none⟩) n (N-0) _ hold m hpos (by rw[his];omega) (by omega) (by omega) (by
   have:=Nat.mul_le_mul_right i.bytes (show m≤n+m by omega)
   omega) (growslice_fits (by omega) hb)
  obtain⟨G,hG⟩:∃G,G=grownCap w (n+m) (N-0) e:=⟨_,rfl⟩
  have hG1:n+m≤G:=by rw[hG];exact grownCap_ge w _ _ _
  have hG2:G≤maxLen:=by rw[hG];exact grownCap_le_maxLen w _ _ _ (by unfold maxLen;omega)
  rw[←hG]at hrun
  obtain⟨ROW,hROW⟩:∃ROW,ROW=(cur.toList.take (n*o.k)).toArray++Builtin.zeroCells z.cells m++Builtin.zeroCells z.cells (G-(n+m)):=⟨_,rfl⟩
  rw[←hROW]at hrun
  have hl1:(cur.toList.take (n*o.k)).toArray.size=n*o.k:=by simp;omega
  have hl2:(Builtin.zeroCells z.cells m).size=m*o.k:=by rw[zeroCells_size hzs,hk]
  have hRs:ROW.size=G*o.k:=by
   rw[hROW,Array.size_append,Array.size_append,hl1,hl2,zeroCells_size hzs,←hk,←Nat.add_mul,←Nat.add_mul]
   congr 1
   omega
  have hlen':∀e'∈o.es.take n++List.replicate m zs,e'.length=o.k:=fun e' he'=>by
   rcases List.mem_append.1 he' with he'|he'
   ·exact g.len id o ho e' (List.mem_of_mem_take he')
   ·rw[List.eq_of_mem_replicate he',hk,hzl]
  obtain⟨g',x'⟩:=g0.newObj ⟨e,o.k,o.es.take n++List.replicate m zs⟩ G ROW hRs (by simp;omega) hG2 hlen' (fun i' e' j a hi' hj=>by
   simp only at hi'⊢
   have hjk:j<o.k:=by
    have:=hlen' e' (List.mem_of_getElem? hi')
    have:=(gsI hj)
    omega
   rw[hROW]
   rcases Nat.lt_or_ge i' n with hin|hin
   ·rw[List.getElem?_append_left (by simp;omega),List.getElem?_take,if_pos hin]at hi'
    obtain⟨c,c1,c2,c3⟩:=hcell i' e' j a hi' hj
    have hlt:i'*o.k+j<n*o.k:=by
     have:i'*o.k+o.k≤n*o.k:=by rw[←Nat.succ_mul];exact Nat.mul_le_mul_right _ hin
     omega
    refine⟨c,?_,c2,c3.ext x0⟩
    rw[Array.append_assoc,Array.getElem?_append_left (by omega)]
    simp[hlt,c1]
   ·rw[List.getElem?_append_right (by simp;omega)]at hi'
    have hil:i'-n<m:=by
     have:=(List.getElem?_eq_some_iff.1 hi').1
     simp at this
     omega
    rw[List.eq_of_mem_replicate (List.mem_of_getElem? hi')]at hj
    rw[hzeq,List.getElem?_map,Option.map_eq_some_iff]at hj
    obtain⟨c0,hc0,rfl⟩:=hj
    refine⟨c0,?_,h1 c0 (List.mem_of_getElem? hc0),ofCell_rep c0⟩
    have h3:n*o.k≤i'*o.k:=Nat.mul_le_mul_right _ hin
    have h4:(i'-n)*o.k+o.k≤m*o.k:=by rw[←Nat.succ_mul];exact Nat.mul_le_mul_right _ hil
    have h5:i'*o.k+j-n*o.k=(i'-n)*o.k+j:=by rw[Nat.sub_mul];omega
    rw[Array.append_assoc,Array.getElem?_append_right (by omega),hl1,Array.getElem?_append_left (by omega),h5,hk,zeroCells_get hzs hil (by omega)]
    simpa using hc0)
  refine⟨_,_,_,_,_,ok,by simpa[buiRun]using hrun,hC,g',x0.trans x',?_⟩
  have:=Rep.sref (w:=w.drew.alloc (.cells ROW e)) (ρ:=updP ρ H.length (some (w.drew.heap.size,G))) (H:=H++[some ⟨e,o.k,o.es.take n++List.replicate m zs⟩]) (ok:=ok) (id:=H.length) (lo:=0) (n:=n+m) (c:=G) push_new (b:=w.drew.heap.size) (cap:=G) (by simp[updP]) (by simp;omega) (fun _=>rfl) hG1 hG2
  simpa using this
theorem lit0 {x y:Value} {h1:#[x,y].size=2} {h2:0<2}:(#[x,y]:Array Value).getLit 0 h1 h2=x:=rfl
theorem lit1 {x y:Value} {h1:#[x,y].size=2} {h2:1<2}:(#[x,y]:Array Value).getLit 1 h1 h2=y:=rfl
theorem run_overlaps_own {P:Program} (w:World) (tS tR e:TypeId) (ht:P.underlying tS=some (.slice e)) (size:Nat) (hz:∀w,(Go.sizeOf e).run P w= .ok size w)
  (a b:Addr) (la ca lb cb:Nat) (hne:a.block≠b.block) (tA tB:TypeId) (kA kB:Nat) (hsa:w.shape? a.block=some (tA,kA)) (hsb:w.shape? b.block=some (tB,kB)) (hkA:kA≠0)
  (hfb:w.frozen? b=false) (hfe:w.frozen? ⟨b.block,kB,none⟩=false):
  (Extern.SlicesOverlaps.overlaps #[tS,tS] #[tR] #[.slice (some a) la ca,.slice (some b) lb cb]).run P w= .ok (.bool false) w:=by
 have hnb:(a.block !=b.block)=true:=by simpa using hne
 have hnb':(a.block==b.block)=false:=by simpa using hne
 obtain⟨kA,rfl⟩:∃m,kA=m+1:=⟨kA-1,by omega⟩
 delta Extern.SlicesOverlaps.overlaps Extern.SlicesOverlaps.overlaps.match_4 Extern.SlicesOverlaps.overlaps._sparseCasesOn_4
 simp only[List.size_toArray,List.length_cons,List.length_nil,dite_true]
 dsimp only[lit0,lit1]
 by_cases h0:la=0∨lb=0∨size=0
 ·simp[run_underlying ht,hz,h0]
 ·cases hfa:w.frozen? a<;>cases hfa':w.frozen? {block:=a.block,off:=kA+1}<;>simp[run_underlying ht,hz,h0,hnb,hnb',frozen,noView,viewAt,mayBeOne,stringish,shape,Sem.run,hsa,hsb,hfa,hfb,hfe,hfa']
theorem callB_overlapsL {f:FuncId} {fn:Func} {t e tR:TypeId} {y:AV} {e0:List AV} {es:List (List AV)} {k id' lo' dn':Nat} {o':AObj} {C:AV→Heap→Prop} {b:Bx C} (hf:E.P.funcs[f]?=some fn) (hname:(fn.name== "runtime.NumGoroutine")=false) (hb:fn.body.isNone=true)
  (hn:Extern.findNext fn=none) (hfind:Extern.find fn=some (Extern.SlicesOverlaps.overlaps #[t,t] #[tR])) (he:elemOf E.P t=some e) (hkn:knownT E.P e=true)
  (hk0:e0≠[]) (hy:y= .sref id' lo' dn'∨∃N,y= .full id' lo' dn' N) (ho':H[id']?=some (some o')) (hd':0<dn')
  (hC:C (.sc (.bool false)) H):CallB E f [.list k (e0::es),y] H C b:=by
 refine .inr ⟨⟨_,_,hC⟩,fun w ρ ok vs g hsz hr=>?_⟩
 obtain⟨vx,vy,rfl⟩:=size2 hsz
 have rx:=hr 0 vx _ rfl rfl
 obtain⟨b2,cap',c',rfl,hρ',hcap',hmx'⟩:=dst_rep g hy ho' hd' (hr 1 vy _ rfl rfl)
 have hob':=g.obj id' o' ho'
 rw[hρ']at hob'
 obtain⟨cur',hb2,hs',_,_,_⟩:=hob'.cells hmx'
 cases rx with
 |@list ad n c _ _ fv hn' hnc hok hkk hcc h1 hh=>
  obtain⟨a0,e1,rfl⟩:=List.exists_cons_of_ne_nil hk0
  have hc0:=hcc 0 (a0::e1) 0 a0 rfl rfl
  have hne:ad.block≠b2:=fun e'=>(g.own id' o' b2 cap' ho' hρ').1 (e'▸hok)
  obtain⟨tA,kA,hsa,hkA⟩:∃tA kA,w.shape? ad.block=some (tA,kA)∧kA≠0:=by
   unfold World.cell? at hc0
   rw[block_add]at hc0
   unfold World.shape?
   cases hb:w.heap[ad.block]? with
   |none=>simp[hb]at hc0
   |some x=>
    cases x with
    |cells cs el fz=>
     simp only[hb]at hc0
     split at hc0
     ·cases hc0
     ·exact⟨el,cs.size,rfl,fun h0=>by
       have:=(Array.getElem?_eq_some_iff.1 hc0).1
       omega⟩
    |_=>simp[hb]at hc0
  have h1:=run_overlaps_own (P:=E.P) w t tR e (elemOf_sound he) (szOf E.P e) (fun w=>run_sizeOf' hkn w) ad ⟨b2,lo'*o'.k,none⟩ n c dn' c' hne tA o'.ty kA cur'.size hsa (by simp[World.shape?,hb2]) hkA (by simp[World.frozen?,hb2]) (by simp[World.frozen?,hb2])
  refine⟨.bool false,w,_,_,ρ,ok,?_,hC,g,Ext.refl _ _ _ _,.sc⟩
  rw[run_callFunc_extern hf hname hb hn hfind,h1]
  rfl
theorem buiB_copyE {t t' e:TypeId} {x y:AV} {id lo dn ty k m:Nat} {es news es':List (List AV)} {C:AV→Heap→Prop} {b:Bx C} (ho:H[id]?=some (some ⟨ty,k,es⟩)) (hx:x= .sref id lo dn∨∃N,x= .full id lo dn N) (he:elemOf E.P t=some e)
  (hk:k=szOf E.P e) (hk0:0<k) (hkn:knownT E.P e=true) (hs:srcEs E.P e H y=some news) (hnl:news.length=m) (hl:m≤dn) (hpos:0<m) (hp:lo≤es.length) (hes:es.take lo++news++es.drop (lo+m)=es')
  (hC:C (.sc (goInt m)) (H.set id (some ⟨ty,k,es'⟩))):BuiB E .copy #[t,t'] [x,y] H C b:=by
 subst hes;subst hnl
 exact buiB_copy hx ho he hk hk0 hkn hs hl hpos hp hC
theorem buiB_copyS {t t' e:TypeId} {x:AV} {id lo dn id2 lo2 m2 N2 ty k:Nat} {es news es':List (List AV)} {C:AV→Heap→Prop} {b:Bx C} (ho:H[id]?=some (some ⟨ty,k,es⟩)) (hx:x= .sref id lo dn∨∃N,x= .full id lo dn N) (he:elemOf E.P t=some e)
  (hk:k=szOf E.P e) (hk0:0<k) (hkn:knownT E.P e=true) (hs:srcEs E.P e H (.full id2 lo2 dn N2)=some news) (hnl:news.length=dn) (hm2:dn≤m2) (hpos:0<dn) (hp:lo≤es.length) (hes:es.take lo++news++es.drop (lo+dn)=es')
  (hC:C (.sc (goInt dn)) (H.set id (some ⟨ty,k,es'⟩))):BuiB E .copy #[t,t'] [x,.full id2 lo2 m2 N2] H C b:=by
 subst hes;subst hnl
 exact buiB_copy_short hx ho he hk hk0 hkn hs rfl hm2 hpos hp hC
theorem buiB_clearE {t e:TypeId} {x:AV} {id lo dn ty k:Nat} {es es':List (List AV)} {zs:List AV} {C:AV→Heap→Prop} {b:Bx C} (ho:H[id]?=some (some ⟨ty,k,es⟩)) (hx:x= .sref id lo dn∨∃N,x= .full id lo dn N) (he:elemOf E.P t=some e)
  (hk:k=szOf E.P e) (hk0:0<k) (hz:zeros E.P e=some zs) (hpos:0<dn) (hp:lo≤es.length) (hes:es.take lo++List.replicate dn zs++es.drop (lo+dn)=es') (hC:C (.tup []) (H.set id (some ⟨ty,k,es'⟩))):BuiB E .clear #[t] [x] H C b:=by
 subst hes
 exact buiB_clear hx ho he hk hk0 hz hpos hp hC
theorem buiB_appendE {t e:TypeId} {y:AV} {id n N ty k m L:Nat} {es news es':List (List AV)} {C:AV→Heap→Prop} {b:Bx C} (ho:H[id]?=some (some ⟨ty,k,es⟩)) (he:elemOf E.P t=some e)
  (hk:k=szOf E.P e) (hk0:0<k) (hkn:knownT E.P e=true) (hs:srcEs E.P e H y=some news) (hnl:news.length=m) (hl:n+m≤N) (hpos:0<m) (hp:n≤es.length) (hes:es.take n++news++es.drop L=es') (hL:n+m=L)
  (hC:C (.full id 0 L N) (H.set id (some ⟨ty,k,es'⟩))):BuiB E .append #[t,t] [.full id 0 n N,y] H C b:=by
 subst hL;subst hes;subst hnl
 exact buiB_append_in ho he hk hk0 hkn hs hl hpos hp hC
theorem buiB_appendN {t e:TypeId} {id n N k0 L:Nat} {o:AObj} {C:AV→Heap→Prop} {b:Bx C} (ho:H[id]?=some (some o)) (he:elemOf E.P t=some e) (hkn:knownT E.P e=true) (hl:n≤N) (hL:n=L)
  (hC:C (.full id 0 L N) H):BuiB E .append #[t,t] [.full id 0 n N,.list k0 []] H C b:=by
 subst hL
 refine⟨⟨_,_,hC⟩,fun w ρ ok ty vs g hsz hr=>?_⟩
 obtain⟨vx,vy,rfl⟩:=size2 hsz
 have rx:=hr 0 vx _ rfl rfl
 have ry:=hr 1 vy _ rfl rfl
 have:∃A c,vy= .slice A 0 c:=by
  cases ry with
  |listNil=>exact⟨_,_,rfl⟩
  |list f hn _ _ _ _ _ _=>subst hn;exact⟨_,_,rfl⟩
 obtain⟨A,c,rfl⟩:=this
 cases rx with
 |fullDead hd _=>rw[ho]at hd;cases hd
 |@full _ _ _ _ o' b' ho' hρ hn hN=>
  refine⟨.slice (some ⟨b',0*o'.k,none⟩) n (N-0),w,_,_,ρ,ok,?_,hC,g,Ext.refl _ _ _ _,.full ho' hρ (by omega) hN⟩
  cases A<;>simp[buiRun,Builtin.append_,run_underlying (elemOf_sound he),Builtin.lenOf,run_sizeOf' hkn,hl,Builtin.firstCells,loadCells,loadCellsFrom,storeCells]
theorem buiB_makeE {t tn e:TypeId} {id n N m ty k L:Nat} {es:List (List AV)} {zs:List AV} {x:Int} {kq kn:IntKind} {C:AV→Heap→Prop} {b:Bx C} (ho:H[id]?=some (some ⟨ty,k,es⟩)) (he:elemOf E.P t=some e) (htn:E.P.underlying tn=some (.int kn))
  (hk:k=szOf E.P e) (hk0:0<k) (hty:ty=e) (hz:zeros E.P e=some zs) (hp:n≤es.length) (hx:x=(m:Int)) (hpos:0<m) (hL:n+m=L) (hroom:N<L) (h63:L≤9223372036854775807) (hb:L*bytesOf E.P e≤140737488355328)
  (hC:C (.sref H.length 0 L) (H++[some ⟨ty,k,es.take n++List.replicate m zs⟩])):BuiB E .append #[t,tn] [.full id 0 n N,.sc (.int kq x)] H C b:=by
 subst hL;subst hx;subst hty
 exact buiB_append_make ho he htn hk hk0 rfl hz hp hpos hroom h63 hb hC
end
theorem args_fnc {H:Heap} {g:FuncId} {cs cs' xs ys:List AV} (h:cs.map (viewR H)=cs') (hi:∀c,c∈cs'→Imm c) (ht:Args H xs ys):Args H (.fn g cs::xs) (.fn g cs'::ys):=
 args_cons.2 ⟨⟨by rw[view_fn,h];exact .refl _,by rw[view_fn,h];exact imm_fn.2 hi⟩,ht⟩
theorem encL_takeE {α:Type} (enc:α→List AV) (l:List α) (i:Nat):(encL enc l).take i=encL enc (l.take i):=by simp[encL,List.map_take]
theorem encL_dropE {α:Type} (enc:α→List AV) (l:List α) (i:Nat):(encL enc l).drop i=encL enc (l.drop i):=by simp[encL,List.map_drop]
theorem encL_appE {α:Type} (enc:α→List AV) (l m:List α):encL enc l++encL enc m=encL enc (l++m):=by simp[encL]
theorem encL_getE {α:Type} (enc:α→List AV) (l:List α) (i:Nat):(encL enc l)[i]?=(l[i]?).map enc:=by simp[encL]
theorem mfun_full {P:Program} {row src:Option Nat} {f:FuncId} {args:List AV} {id n:Nat} {o:AObj} {H:Heap} {C:AV→Heap→Prop} (ho:H[id]?=some (some o)) (hne:o.es≠[]) (hn:n≤o.es.length)
  (h:∀N,o.es.length≤N→MFun P row src f (.full id 0 n N::args) H C):MFun P row src f (.sref id 0 n::args) H C:=by
 intro E hP hrow hsrc
 refine⟨(h o.es.length (Nat.le_refl _) E hP hrow hsrc).1,fun w ρ ok vs g hs hr=>?_⟩
 have h0:0<vs.size:=by rw[hs];simp
 have hv:=hr 0 vs[0] (.sref id 0 n) (Array.getElem?_eq_getElem h0) rfl
 have key:∃N,o.es.length≤N∧Rep w ρ H ok vs[0] (.full id 0 n N):=by
  have hobj:=g.obj id o ho
  generalize vs[0]=v at hv
  cases hv with
  |srefDead hd _=>rw[ho]at hd;cases hd
  |srefNil ho' hρ=>
   rw[hρ]at hobj
   exact absurd hobj hne
  |@sref _ _ _ c o' b cap ho' hρ hn' hc hnc hcap=>
   rw[ho]at ho'
   simp only[Option.some.injEq]at ho'
   subst ho'
   rw[hρ]at hobj
   obtain⟨_,_,_,hl,_,_⟩:=hobj.cells hcap
   have:=hc rfl
   subst this
   exact⟨c,hl,.full ho hρ (by omega) hcap⟩
 obtain⟨N,hN,hrep⟩:=key
 refine (h N hN E hP hrow hsrc).2 w ρ ok vs g hs fun i v a hv ha=>?_
 match i,hv,ha with
 |0,hv,ha=>
  rw[Array.getElem?_eq_getElem h0]at hv
  simp only[Option.some.injEq]at hv
  subst hv
  simp only[List.getElem?_cons_zero,Option.some.injEq]at ha
  subst ha
  exact hrep
 |i+1,hv,ha=>exact hr (i+1) v a hv ha
theorem mfun_unfull {P:Program} {row src:Option Nat} {f:FuncId} {args:List AV} {H:Heap} {C D:AV→Heap→Prop} (h:MFun P row src f args H C)
  (hd:∀r H',C r H'→D r H'∨∃id n N o,r= .full id 0 n N∧H'[id]?=some (some o)∧n≤o.es.length∧D (.sref id 0 n) H'):MFun P row src f args H D:=by
 intro E hP hrow hsrc
 obtain⟨⟨x0,H0,h0⟩,hw⟩:=h E hP hrow hsrc
 refine⟨?_,fun w ρ ok vs g hs hr=>(hw w ρ ok vs g hs hr).mono ?_⟩
 ·rcases hd _ _ h0 with h1|⟨_,_,_,_,_,_,_,h1⟩<;>exact⟨_,_,h1⟩
 ·rintro e w' ⟨v,x,H',ρ',ok',rfl,hc,g',x',r'⟩
  rcases hd _ _ hc with h1|⟨id,n,N,o,rfl,ho,hn,h1⟩
  ·exact⟨v,x,H',ρ',ok',rfl,h1,g',x',r'⟩
  ·refine⟨v,_,H',ρ',ok',rfl,h1,g',x',?_⟩
   cases r' with
   |fullDead hd' _=>rw[ho]at hd';cases hd'
   |@full _ _ _ _ o' b ho' hρ hn' hN=>
    rw[ho]at ho'
    simp only[Option.some.injEq]at ho'
    subst ho'
    exact .sref ho hρ (by omega) (fun _=>by omega) (by omega) hN
def pickOk (ops:Array Oper) (S T:List Nat) (listed:Array Bool) (i:Nat):Bool:=
 let A:=ancs ops.toList []
 ((List.range ops.size).all fun j=>match ops[j]? with
  |none=>true
  |some o=>!listed.getD j false||o.after.toList.all fun e=>!Region.binds .any e||listed.getD e.on false)&&
 (decide (i∈Region.ready .any ops listed)&&match ops[i]? with
  |none=>false
  |some oi=>(List.range ops.size).all fun j=>match ops[j]? with
   |none=>true
   |some oj=>decide (j=i)||(listed.getD j true||((A.getD j 0).testBit i||(oi.apart ops oj&&swapOk S T i j oi oj))))
theorem xany_pick {E:Env} {ops:Array Oper} {D:Nat→Bool} {S T:List Nat} {K:St→Prop} {n:Nat} (i:Nat) {oi:Oper} {listed:Array Bool} {s:St} (hi:ops[i]?=some oi) (hc:pickOk ops S T listed i=true)
  (h:AXOps D E ops S T [oi] i s (fun s'=>XAny D E ops S T K n (listed.setIfInBounds i true) s')):XAny D E ops S T K (n+1) listed s:=by
 unfold pickOk at hc
 simp only[Bool.and_eq_true,decide_eq_true_eq]at hc
 obtain⟨h1,h2,h3⟩:=hc
 rw[hi]at h3
 refine xany_first hi n listed s (fun j o ho hj e he hb=>?_) (fun j oj hoj hji hun hanc=>?_) h2 h
 ·have:=List.all_eq_true.1 h1 j (List.mem_range.2 (Array.getElem?_eq_some_iff.1 ho).1)
  simp only[ho,hj,Bool.not_true,Bool.false_or]at this
  have:=List.all_eq_true.1 this e (by simpa using he)
  simpa[hb]using this
 ·have:=List.all_eq_true.1 h3 j (List.mem_range.2 (Array.getElem?_eq_some_iff.1 hoj).1)
  simp only[hoj,hji,hun,hanc,decide_false,Bool.false_or,Bool.and_eq_true]at this
  exact this
def SlIsT (H:Heap) (x:AV) (k:Nat) (es:List (List AV)):Prop:=x= .list k es∨(x= .nil∧es=[])∨∃id ty tl,x= .sref id 0 es.length∧H[id]?=some (some ⟨ty,k,es++tl⟩)
theorem SlIsT.kept {H H':Heap} {x:AV} {k:Nat} {es:List (List AV)} (h:SlIsT H x k es) (hk:Kept [] H H'):SlIsT H' x k es:=by
 rcases h with h|h|⟨id,ty,tl,h1,h2⟩
 ·exact .inl h
 ·exact .inr (.inl h)
 ·exact .inr (.inr ⟨id,ty,tl,h1,hk id _ (by simp) h2⟩)
theorem SlIsT.len {H:Heap} {x:AV} {k:Nat} {es:List (List AV)} (h:SlIsT H x k es):alen H x=some (es.length:Int):=by
 rcases h with h|⟨rfl,rfl⟩|⟨id,ty,tl,rfl,h2⟩
 ·subst h;rfl
 ·rfl
 ·simp only[alen,h2]
theorem SlIsT.idx {P:Program} {t e:TypeId} {H:Heap} {x:AV} {k:Nat} {es:List (List AV)} (h:SlIsT H x k es) (ht:Go.PA.elemOf P t=some e) (hk:k=szOf P e) (hn:knownT P e=true) (i:Nat) (hi:i<es.length):
  ∃a,aindexAddr P t H x i=some a∧addrCells H a=some es[i]:=by
 rcases h with h|⟨rfl,rfl⟩|⟨id,ty,tl,rfl,h2⟩
 ·subst h
  refine⟨.iref es[i],?_,rfl⟩
  rw[aix_list ht]
  simp[hk,hn,hi]
 ·simp at hi
 ·have hi':i<es.length+tl.length:=by omega
  refine⟨.ref id i 0,?_,?_⟩
  ·rw[aix_sref ht]
   simp[h2,hk,hn,hi,hi']
  ·rw[addr_ref]
   simp[h2,List.getElem?_append_left hi,hi]
end Go.PA
namespace Go.Proofs.YtaenimpfelpafaaGreatDoor
open Go.PA
open Go.RowKit
set_option maxHeartbeats 2000000 in
theorem delete_m_pay {row src:Option Nat} (es:List (List AV)) (i id:Nat) (H:Heap) (hi:i<es.length) (hl:es.length≤100000) (ho:H[id]?=some (some ⟨81,5,es⟩)):
  MFun Tryz.prog row src 190 [.sref id 0 es.length,iv i,iv ((i:Int)+1)] H (fun r H'=>∃tl,r= .sref id 0 (es.length-1)∧H'[id]?=some (some ⟨81,5,es.take i++es.drop (i+1)++tl⟩)∧Kept [id] H H'):=by
 obtain⟨C,hC⟩:∃C:AV→Heap→Prop,C=fun r H'=>∃tl,r= .sref id 0 (es.length-1)∧H'[id]?=some (some ⟨81,5,es.take i++es.drop (i+1)++tl⟩)∧Kept [id] H H':=⟨_,rfl⟩
 rw[←hC]
 have lid:=(gsI ho)
 have ex:∃r H',C r H':=by
  rw[hC]
  exact⟨.sref id 0 (es.length-1),H.set id (some ⟨81,5,es.take i++es.drop (i+1)++[]⟩),[],rfl,by simp[lid],kept_set _ (by simp) (kept_refl _ _)⟩
 obtain⟨n,hn⟩:∃n,n=es.length:=⟨_,rfl⟩
 rw[←hn]at hi hl hC⊢
 have hesne:es≠[]:=by intro e0;simp[e0]at hn;omega
 refine mfun_unfull (C:=fun r H'=>∃N,r= .full id 0 (n-1) N∧∃o,H'[id]?=some (some o)∧n-1≤o.es.length∧C (.sref id 0 (n-1)) H') ?_ (fun r H' h=>?_)
 rotate_left
 ·obtain⟨N,h1,o,h2,h3,h4⟩:=h
  exact .inr ⟨id,n-1,N,o,h1,h2,h3,h4⟩
 refine mfun_full ho hesne (by dsimp only;omega) fun N hN0=>?_
 dsimp only at hN0
 obtain⟨D,hD⟩:∃D:AV→Heap→Prop,D=fun r H'=>∃N,r= .full id 0 (n-1) N∧∃o,H'[id]?=some (some o)∧n-1≤o.es.length∧C (.sref id 0 (n-1)) H':=⟨_,rfl⟩
 rw[←hD]
 have exD:∃r H',D r H':=by
  rw[hD,hC]
  refine⟨.full id 0 (n-1) n,H.set id (some ⟨81,5,es.take i++es.drop (i+1)++[]⟩),n,rfl,⟨81,5,es.take i++es.drop (i+1)++[]⟩,by simp[lid],by simp;omega,[],rfl,by simp[lid],kept_set _ (by simp) (kept_refl _ _)⟩
 obtain⟨zs,hz⟩:=Option.isSome_iff_exists.1 (show (zeros Tryz.prog 81).isSome=true by kernel_rfl)
 have nN:n≤N:=by omega
 have iN:i≤N:=by omega
 have b1:(0:Int)≤i:=by omega
 have b2:(i:Int)≤(i:Int)+1:=by omega
 have b3:(i:Int)+1≤n:=by omega
 have b4:¬(i:Int)=(i:Int)+1:=by omega
 have b5:(0:Int)≤(i:Int)+1:=by omega
 have b6:¬((i:Int)+1=0):=by omega
 have fin:∀(es1:List (List AV)),es1.take (n-1)=es.take i++es.drop (i+1)→es1.length=n→(H1:Heap)→H1[id]?=some (some ⟨81,5,es1⟩)→Kept [id] H H1→D (.full id 0 (n-1) N) (H1.set id (some ⟨81,5,es.take i++es.drop (i+1)++[zs]⟩)):=fun es1 h1 h2 H1 h3 h4=>by
  have l1:=(gsI h3)
  rw[hD,hC]
  exact⟨N,rfl,⟨81,5,es.take i++es.drop (i+1)++[zs]⟩,by simp[l1],by simp[←hn];omega,[zs],rfl,by simp[l1],kept_set _ (by simp) h4⟩
 refine mfun_intro Tryz.func190 rfl (by simp[Tryz.f190]) (by kernel_rfl) (exD) ?_
 intro E hP hr hs hN
 simp -dsimp -implicitDefEqProofs [-getElem?_pos,go_sem,hP,ho,←hn,asliceOp,bound,aslice,aslice3,b1,b2,b3,b4,b5]
 refine adrawB (fun _=>true) [6] hP (by kernel_rfl) (by kernel_rfl) ?_
 have sx:(if n-1=0 then some (AV.full id 0 n N)else some (AV.full id (n-1) 1 N))=some (.full id (n-1) 1 N):=by
  split
  ·rename_i h0;rw[h0,show n=1 by omega]
  ·rfl
 have n4:¬(((n-1:Nat):Int)=(n:Int)):=by omega
 have n1:n-(n-1)=1:=by omega
 have n2:n-1≤n:=by omega
 have n3:¬(n-1=n):=by omega
 have n0:¬n=0:=by omega
 by_cases hlast:i+1=n
 ·have c1:(i:Int)+1=n:=by omega
  have iN1:i=n-1:=by omega
  simp -dsimp -implicitDefEqProofs [-getElem?_pos,go_sem,hP,ho,←hn,asliceOp,bound,aslice,b1,b2,b3,b4,b5,b6,c1,iN,nN,n0]
  refine buiB_appendN (e:=81) (L:=n-1) (o:=⟨81,5,es⟩) ho (by rw[hP];kernel_rfl) (by rw[hP];kernel_rfl) iN iN1 ?_
  simp -dsimp -implicitDefEqProofs [-getElem?_pos,go_sem,hP,ho,asliceOp,bound,aslice,n1,n2,n3,n4,nN,sx]
  refine buiB_clearE (e:=81) (es':=es.take i++es.drop (i+1)++[zs]) ho (.inr ⟨N,rfl⟩) (by rw[hP];kernel_rfl) (by rw[hP];kernel_rfl) (by omega) (by rw[hP];exact hz) (by omega) (by omega) ?_ ?_
  ·rw[List.drop_of_length_le (show es.length≤n-1+1 by omega),List.drop_of_length_le (show es.length≤i+1 by omega),iN1]
   simp
  simp -dsimp -implicitDefEqProofs [-getElem?_pos,go_sem,hP]
  have:=fin es (by rw[List.drop_of_length_le (show es.length≤i+1 by omega),iN1];simp) hn.symm H ho (kept_refl _ _)
  simpa using this
 ·have c1:¬(i:Int)+1=n:=by omega
  have c2:(n:Int)-((i:Int)+1)=((n-(i+1):Nat):Int):=by omega
  simp -dsimp -implicitDefEqProofs [-getElem?_pos,go_sem,hP,ho,←hn,asliceOp,bound,aslice,b1,b2,b3,b4,b5,b6,c1,c2,iN,nN]
  refine buiB_appendE (e:=81) (L:=n-1) (m:=n-(i+1)) (news:=es.drop (i+1)) (es':=es.take i++es.drop (i+1)++es.drop (n-1)) ho (by rw[hP];kernel_rfl) (by rw[hP];kernel_rfl) (by omega) (by rw[hP];kernel_rfl) ?_ (by simp[←hn]) (by omega) (by omega) (by omega) rfl (by omega) ?_
  ·simp only[srcEs,ho]
   rw[if_pos ⟨by rw[hP];kernel_rfl,by omega⟩,List.take_of_length_le (by simp;omega)]
  simp -dsimp -implicitDefEqProofs [-getElem?_pos,go_sem,hP,lid,asliceOp,bound,aslice,n1,n2,n3,n4,nN,sx]
  have hl2:(es.take i++es.drop (i+1)).length=n-1:=by simp;omega
  refine buiB_clearE (e:=81) (ty:=81) (k:=5) (es:=es.take i++es.drop (i+1)++es.drop (n-1)) (es':=es.take i++es.drop (i+1)++[zs]) (by simp[lid]) (.inr ⟨N,rfl⟩) (by rw[hP];kernel_rfl) (by rw[hP];kernel_rfl) (by omega) (by rw[hP];exact hz) (by omega) (by simp;omega) ?_ ?_
  ·rw[List.take_append_of_le_length (by omega),List.take_of_length_le (by omega),List.drop_of_length_le (show (es.take i++es.drop (i+1)++es.drop (n-1)).length≤n-1+1 by rw[List.length_append,hl2,List.length_drop];omega)]
   simp
  simp -dsimp -implicitDefEqProofs [-getElem?_pos,go_sem,hP]
  have:=fin (es.take i++es.drop (i+1)++es.drop (n-1)) (by rw[List.take_append_of_le_length (by omega),List.take_of_length_le (by omega)]) (by rw[List.length_append,hl2,List.length_drop];omega) (H.set id (some ⟨81,5,es.take i++es.drop (i+1)++es.drop (n-1)⟩)) (by simp[lid]) (kept_set _ (by simp) (kept_refl _ _))
  simpa using this
theorem index_pf_pay (l:List TPayment) (g:FuncId) (caps:List AV) (p:TPayment→Bool) (hl:l.length≤1000000) (hen:enterable Tryz.prog g=true) (hcap:∀a,a∈caps→Imm a)
  (hg:∀a,a∈l→PFun Tryz.prog none none g (.agg (TPayment.cells a)::caps) (·=bv (p a))):
  PFun Tryz.prog none none 252 [.list 5 (encL TPayment.cells l),.fn g caps] (·=iv (idxI p l)):=by
 refine pfun_intro Tryz.func252 rfl (by simp[Tryz.f252]) (by kernel_rfl) ?_
 intro E hP hr hs hW hN
 simp -dsimp -implicitDefEqProofs [-getElem?_pos,go_sem,hP]
 obtain⟨I,hI⟩:∃I:Nat→St→Prop,I=fun m s=>∃k:Nat,k≤l.length∧m=l.length-k∧idxI p l=idxFrom p k (l.drop k)∧s.t 0= .list 5 (encL TPayment.cells l)∧s.t 1= .fn g caps∧s.t 7=iv l.length∧s.t 8=iv k:=⟨_,rfl⟩
 refine aloop0 I (l.length) (by rw[hN];rfl) ?_ ?_
 ·rw[hI]
  exact⟨0,by omega,by omega,by simp[idxI],by simp -dsimp[-getElem?_pos,go_sem],by simp -dsimp[-getElem?_pos,go_sem],by simp -dsimp[-getElem?_pos,go_sem],by simp -dsimp[-getElem?_pos,go_sem]⟩
 intro m s hs'
 rw[hI]at hs'
 obtain⟨k,hk,hm,hi,t0,t1,t7,t8⟩:=hs'
 simp -dsimp -implicitDefEqProofs [-getElem?_pos,go_sem,hP,t7,t8]
 refine condP (fun h=>?_) (fun h=>?_)
 ·have hk:k<l.length:=by simpa using h
  obtain⟨a,ha⟩:∃a,l[k]?=some a:=⟨_,List.getElem?_eq_getElem hk⟩
  have wk:=wrap_in ((k:Int)+1) (by omega)
  have hz:(TPayment.cells a).take 5=TPayment.cells a:=List.take_of_length_le (by rw[TPayment.len];omega)
  have hd:l.drop k=a::l.drop (k+1):=by
   rw[List.getElem?_eq_getElem hk]at ha
   rw[List.drop_eq_getElem_cons hk,Option.some.inj ha]
  simp -dsimp -implicitDefEqProofs [-getElem?_pos,go_sem,hP,t8,t1,t0,ha,TPayment.len,hz]
  refine callB_is ((hg a (List.mem_of_getElem? ha)).lift _ _) hP hen (fun x hx=>?_) .sc ?_
  ·rcases List.mem_cons.1 hx with rfl|hx
   ·exact imm_agg.2 (TPayment.imm a)
   ·exact hcap x hx
  rw[hd]at hi
  simp only[idxFrom]at hi
  simp -dsimp -implicitDefEqProofs [-getElem?_pos,go_sem,hP]
  refine condP (fun hp=>?_) (fun hp=>?_)
  ·rw[if_pos hp]at hi
   simp -dsimp -implicitDefEqProofs [-getElem?_pos,go_sem,hP]
   exact hi.symm
  ·rw[hp,if_neg (by simp)]at hi
   simp -dsimp -implicitDefEqProofs [-getElem?_pos,go_sem,hP,t8,wk]
   refine⟨l.length-(k+1),by omega,?_⟩
   rw[hI]
   exact⟨k+1,by omega,rfl,hi,by simp -dsimp[-getElem?_pos,go_sem,t0],by simp -dsimp[-getElem?_pos,go_sem,t1],by simp -dsimp[-getElem?_pos,go_sem,t7],by simp -dsimp[-getElem?_pos,go_sem]⟩
 ·have hk:k=l.length:=by simp at h;omega
  subst hk
  rw[List.drop_length]at hi
  simp -dsimp -implicitDefEqProofs [-getElem?_pos,go_sem,hP]
  exact hi.symm
theorem contains_pf_pay (l:List TPayment) (g:FuncId) (caps:List AV) (p:TPayment→Bool) (hl:l.length≤1000000) (hen:enterable Tryz.prog g=true) (hcap:∀a,a∈caps→Imm a)
  (hg:∀a,a∈l→PFun Tryz.prog none none g (.agg (TPayment.cells a)::caps) (·=bv (p a))):
  PFun Tryz.prog none none 258 [.list 5 (encL TPayment.cells l),.fn g caps] (·=bv (l.any p)):=by
 refine pfun_intro Tryz.func258 rfl (by simp[Tryz.f258]) (by kernel_rfl) ?_
 intro E hP hr hs hW hN
 obtain⟨w,hw⟩:∃w,w=l.any p:=⟨_,rfl⟩
 rw[←hw]
 have hi:∀a,a∈[AV.list 5 (encL TPayment.cells l),.fn g caps]→Imm a:=fun a ha=>by
  simp only[List.mem_cons,List.not_mem_nil,or_false]at ha
  rcases ha with rfl|rfl
  ·exact imm_encL _ TPayment.imm _
  ·exact imm_fn.2 hcap
 simp -dsimp -implicitDefEqProofs [-getElem?_pos,go_sem,hP]
 refine callB_is ((index_pf_pay l g caps p hl hen hcap hg).lift _ _) hP en_252 hi .sc ?_
 rcases idxI_spec p l with⟨h1,h2⟩|⟨i,a,h1,h2,h3,_⟩
 ·have:w=false:=by rw[hw];exact List.any_eq_false.2 fun a ha=>by simp[h2 a ha]
  simp -dsimp -implicitDefEqProofs [-getElem?_pos,go_sem,hP,h1,this]
 ·have d:decide ((0:Int)≤(i:Int))=true:=decide_eq_true (by omega)
  have:w=true:=by rw[hw];exact List.any_eq_true.2 ⟨a,List.mem_of_getElem? h1,h2⟩
  simp -dsimp -implicitDefEqProofs [-getElem?_pos,go_sem,hP,h3,d,this]
set_option maxHeartbeats 4000000 in
theorem deleteFunc_m_pay {row src:Option Nat} (l:List TPayment) (id:Nat) (H:Heap) (g:FuncId) (caps caps':List AV) (p:TPayment→Bool) (hl:l.length≤100000) (ho:H[id]?=some (some ⟨81,5,encL TPayment.cells l⟩)) (hen:enterable Tryz.prog g=true)
  (hci:∀a,a∈caps'→Imm a) (hca:∀H',Kept [id] H H'→Args H' caps caps'∧caps.map (viewR H')=caps') (hg:∀a,a∈l→PFun Tryz.prog none none g (.agg (TPayment.cells a)::caps') (·=bv (p a))):
  MFun Tryz.prog row src 183 [.sref id 0 l.length,.fn g caps] H (fun r H'=>∃tl,r= .sref id 0 (l.filter fun a=>!p a).length∧H'[id]?=some (some ⟨81,5,encL TPayment.cells (l.filter fun a=>!p a)++tl⟩)∧Kept [id] H H'):=by
 obtain⟨C,hC⟩:∃C:AV→Heap→Prop,C=fun r H'=>∃tl,r= .sref id 0 (l.filter fun a=>!p a).length∧H'[id]?=some (some ⟨81,5,encL TPayment.cells (l.filter fun a=>!p a)++tl⟩)∧Kept [id] H H':=⟨_,rfl⟩
 rw[←hC]
 have lid:=(gsI ho)
 have ex:∃r H',C r H':=by
  rw[hC]
  exact⟨_,H.set id (some ⟨81,5,encL TPayment.cells (l.filter fun a=>!p a)++[]⟩),[],rfl,by simp[lid],kept_set _ (by simp) (kept_refl _ _)⟩
 obtain⟨zs,hz⟩:=Option.isSome_iff_exists.1 (show (zeros Tryz.prog 81).isSome=true by kernel_rfl)
 have imm:Imm (.list 5 (encL TPayment.cells l)):=imm_encL _ TPayment.imm _
 obtain⟨n,hn⟩:∃n,n=l.length:=⟨_,rfl⟩
 refine mfun_intro Tryz.func183 rfl (by simp[Tryz.f183]) (by kernel_rfl) (ex) ?_
 intro E hP hr hs hN
 simp -dsimp -implicitDefEqProofs [-getElem?_pos,go_sem,hP]
 refine callB_flat ((index_pf_pay l g caps' p (by omega) hen hci hg).lift _ _) hP en_252 (args_sref ho (by rw[encL_len]) imm (args_fnc (hca H (kept_refl _ _)).2 hci .nil)) ⟨_,rfl⟩ (by rintro r rfl;exact .sc) ?_
 rintro r rfl
 rcases idxI_spec p l with⟨h1,h2⟩|⟨i,a,ha,hpa,h3,h4⟩
 ·have hf:(l.filter fun a=>!p a)=l:=List.filter_eq_self.2 fun a ha=>by simp[h2 a ha]
  simp -dsimp -implicitDefEqProofs [-getElem?_pos,go_sem,hP,h1]
  rw[hC,hf]
  exact⟨[],rfl,by rw[List.append_nil];exact ho,kept_refl _ _⟩
 have hi1:¬((i:Int)= -1):=by omega
 have hil:=(gsI ha)
 have w1:=wrap_in ((i:Int)+1) (by omega)
 have kept0:(l.take (i+1)).filter (fun a=>!p a)=l.take i:=by
  rw[List.take_add_one,ha,List.filter_append,Option.toList_some,List.filter_cons_of_neg (by simp[hpa]),List.filter_nil,List.append_nil]
  refine List.filter_eq_self.2 fun x hx=>?_
  obtain⟨j,hj⟩:=List.getElem?_of_mem hx
  rw[List.getElem?_take]at hj
  split at hj
  ·simp[h4 j x (by assumption) hj]
  ·cases hj
 simp -dsimp -implicitDefEqProofs [-getElem?_pos,go_sem,hP,h3,hi1,w1]
 obtain⟨I,hI⟩:∃I:Nat→St→Prop,I=fun m s=>∃(j q:Nat) (ks:List TPayment) (rows:List (List AV)),ks=((l.take j).filter fun a=>!p a)∧q=ks.length∧j≤n∧m=n-j∧q<j∧rows.length=n∧(∀e,e∈rows→e.length=5)∧rows.take q=encL TPayment.cells ks∧rows.drop j=encL TPayment.cells (l.drop j)∧s.t 0= .sref id 0 n∧s.t 1= .fn g caps∧s.t 5=iv q∧s.t 6=iv j∧s.H[id]?=some (some ⟨81,5,rows⟩)∧Kept [id] H s.H:=⟨_,rfl⟩
 refine aloop0 I (n-(i+1)) (by rw[hN];rfl) ?_ ?_
 ·rw[hI]
  refine⟨i+1,i,l.take i,encL TPayment.cells l,kept0.symm,by simp;omega,by omega,by omega,by omega,by rw[encL_len];omega,fun e he=>?_,encL_takeE _ _ _,encL_dropE _ _ _,by simp -dsimp[-getElem?_pos,go_sem,hn],by simp -dsimp[-getElem?_pos,go_sem],by simp -dsimp[-getElem?_pos,go_sem],by simp -dsimp[-getElem?_pos,go_sem],by simp -dsimp[-getElem?_pos,go_sem,ho],by simp -dsimp[-getElem?_pos,go_sem];exact kept_refl _ _⟩
  obtain⟨x,_,rfl⟩:=List.mem_map.1 he
  exact TPayment.len x
 intro m s hs'
 rw[hI]at hs'
 obtain⟨j,q,ks,rows,hks,hq,hjn,hm,hqj,hrl,hre,hrt,hrd,t0,t1,t5,t6,h0,hk⟩:=hs'
 have lt0:=(gsI h0)
 simp -dsimp -implicitDefEqProofs [-getElem?_pos,go_sem,hP,t0,t6,h0]
 refine condP (fun hh=>?_) (fun hh=>?_)
 ·have hj:j<n:=by simpa using hh
  obtain⟨x,hx⟩:∃x,l[j]?=some x:=⟨_,List.getElem?_eq_getElem (by omega)⟩
  have wj:=wrap_in ((j:Int)+1) (by omega)
  have wq:=wrap_in ((q:Int)+1) (by omega)
  have hrow:rows[j]?=some (TPayment.cells x):=by
   have:=congrArg (·[0]?) hrd
   simp only[List.getElem?_drop,Nat.add_zero,encL_getE,hx]at this
   simpa using this
  have im:=imm_agg.2 (TPayment.imm x)
  have hcx:=hca (s.H++[some ⟨81,5,[TPayment.cells x]⟩]) (hk.trans (kept_app _ _ _))
  have hgx:=(hg x (List.mem_of_getElem? hx)).lift E.row E.src
  have htk:(l.take (j+1)).filter (fun a=>!p a)=if p x=true then ks else ks++[x]:=by
   rw[List.take_add_one,hx,List.filter_append,Option.toList_some,←hks]
   by_cases hpx:p x=true<;>simp[hpx,List.filter_cons]
  have hxl:=TPayment.len x
  simp -dsimp -implicitDefEqProofs [-getElem?_pos,go_sem,hP,t0,t6,h0,hrow,hj,TPayment.cells]
  simp -dsimp -implicitDefEqProofs [-getElem?_pos,go_sem,hP,t1]
  simp only[TPayment.cells]at im hcx hgx
  refine callB_flat hgx hP hen (args_imm im hcx.1) ⟨_,rfl⟩ (by rintro r rfl;exact .sc) ?_
  rintro r rfl
  simp -dsimp -implicitDefEqProofs [-getElem?_pos,go_sem,hP]
  refine condP (fun hp=>?_) (fun hp=>?_)
  ·rw[if_pos hp]at htk
   simp -dsimp -implicitDefEqProofs [-getElem?_pos,go_sem,hP,t6,wj]
   refine⟨n-(j+1),by omega,?_⟩
   rw[hI]
   refine⟨j+1,q,ks,rows,htk.symm,hq,by omega,rfl,by omega,hrl,hre,hrt,?_,by simp -dsimp[-getElem?_pos,go_sem,t0],by simp -dsimp[-getElem?_pos,go_sem,t1],by simp -dsimp[-getElem?_pos,go_sem,t5],by simp -dsimp[-getElem?_pos,go_sem],by simp -dsimp[-getElem?_pos,go_sem,h0,lt0],by simp -dsimp[-getElem?_pos,go_sem];exact hk.trans (kept_app _ _ _)⟩
   have:=congrArg (List.drop 1) hrd
   rwa[List.drop_drop,encL_dropE,List.drop_drop]at this
  ·rw[if_neg (by simp[hp])]at htk
   obtain⟨r0,hr0⟩:∃r0,rows[q]?=some r0:=⟨_,List.getElem?_eq_getElem (by omega)⟩
   have hr0l:=hre r0 (List.mem_of_getElem? hr0)
   have hr0d:r0.drop 5=[]:=List.drop_of_length_le (by omega)
   have hqn:q<n:=by omega
   simp -dsimp -implicitDefEqProofs [-getElem?_pos,go_sem,hP,t0,t5,t6,h0,lt0,hr0,hr0l,hr0d,hqn,wj,wq]
   refine⟨n-(j+1),by omega,?_⟩
   rw[hI]
   refine⟨j+1,q+1,ks++[x],rows.set q (TPayment.cells x),htk.symm,by simp;omega,by omega,rfl,by omega,by simp;omega,fun e he=>?_,?_,?_,by simp -dsimp[-getElem?_pos,go_sem,t0],by simp -dsimp[-getElem?_pos,go_sem,t1],by simp -dsimp[-getElem?_pos,go_sem],by simp -dsimp[-getElem?_pos,go_sem],by simp -dsimp[-getElem?_pos,go_sem,lt0,TPayment.cells],by simp -dsimp[-getElem?_pos,go_sem];exact (kept_set _ (by simp) hk).trans (kept_app _ _ _)⟩
   ·rcases List.mem_or_eq_of_mem_set he with he|rfl
    ·exact hre e he
    ·exact hxl
   ·rw[List.take_add_one,List.take_set_of_le (by omega),hrt,List.getElem?_set_self (by omega),←encL_appE]
    rfl
   ·have:=congrArg (List.drop 1) hrd
    rw[List.drop_drop,encL_dropE,List.drop_drop]at this
    rw[List.drop_set_of_lt (by omega)]
    exact this
 ·have hj:j=n:=by simp at hh;omega
  subst hj
  have hkl:ks=l.filter fun a=>!p a:=by rw[hks,hn,List.take_length]
  have hqn:q≤j:=by omega
  have hqn1:¬q=j:=by omega
  have hqn2:¬(q:Int)=j:=by omega
  have sx:∀(id n:Nat),(if q=0 then some (AV.sref id 0 n)else some (AV.sref id q (n-q)))=some (.sref id q (n-q)):=fun id n=>by
   split
   ·rename_i h0;rw[h0,Nat.sub_zero]
   ·rfl
  simp -dsimp -implicitDefEqProofs [-getElem?_pos,go_sem,hP,t0,t5,h0,asliceOp,bound,aslice,hqn,hqn1,hqn2,sx]
  refine buiB_clearE (e:=81) (es':=encL TPayment.cells ks++List.replicate (j-q) zs) h0 (.inl rfl) (by rw[hP];kernel_rfl) (by rw[hP];kernel_rfl) (by omega) (by rw[hP];exact hz) (by omega) (by omega) ?_ ?_
  ·rw[hrt,List.drop_of_length_le (by omega),List.append_nil]
  simp -dsimp -implicitDefEqProofs [-getElem?_pos,go_sem,hP,t0,t5,lt0,asliceOp,bound,aslice,hqn,hqn1,hqn2,sx]
  rw[hC,←hkl]
  exact⟨List.replicate (j-q) zs,by rw[hq],by simp[lt0],kept_set _ (by simp) hk⟩
theorem index_mT_pay {row src:Option Nat} (l:List TPayment) (x:AV) (H:Heap) (g:FuncId) (caps:List AV) (p:TPayment→Bool) (hx:SlIsT H x 5 (encL TPayment.cells l)) (hl:l.length≤1000000) (hen:enterable Tryz.prog g=true)
  (hg:∀a,a∈l→∀H',Kept [] H H'→MFun Tryz.prog row src g (.agg (TPayment.cells a)::caps) H' (fun r H''=>r=bv (p a)∧Kept [] H' H'')):
  MFun Tryz.prog row src 252 [x,.fn g caps] H (fun r H'=>r=iv (idxI p l)∧Kept [] H H'):=by
 refine mfun_intro Tryz.func252 rfl (by simp[Tryz.f252]) (by kernel_rfl) ⟨_,H,rfl,kept_refl _ _⟩ ?_
 intro E hP hr hs hN
 have hlen:=hx.len
 rw[encL_len]at hlen
 simp -dsimp -implicitDefEqProofs [-getElem?_pos,go_sem,hP,hlen]
 obtain⟨I,hI⟩:∃I:Nat→St→Prop,I=fun m s=>∃k:Nat,k≤l.length∧m=l.length-k∧idxI p l=idxFrom p k (l.drop k)∧s.t 0=x∧s.t 1= .fn g caps∧s.t 7=iv l.length∧s.t 8=iv k∧Kept [] H s.H:=⟨_,rfl⟩
 refine aloop0 I l.length (by rw[hN];rfl) ?_ ?_
 ·rw[hI]
  exact⟨0,by omega,by omega,by simp[idxI],by simp -dsimp[-getElem?_pos,go_sem],by simp -dsimp[-getElem?_pos,go_sem],by simp -dsimp[-getElem?_pos,go_sem],by simp -dsimp[-getElem?_pos,go_sem],by simp -dsimp[-getElem?_pos,go_sem];exact kept_refl _ _⟩
 intro m s hs'
 rw[hI]at hs'
 obtain⟨k,hk,hm,hi,t0,t1,t7,t8,hKp⟩:=hs'
 simp -dsimp -implicitDefEqProofs [-getElem?_pos,go_sem,hP,t7,t8]
 refine condP (fun h=>?_) (fun h=>?_)
 ·have hk:k<l.length:=by simpa using h
  obtain⟨a,ha⟩:∃a,l[k]?=some a:=⟨_,List.getElem?_eq_getElem hk⟩
  have wk:=wrap_in ((k:Int)+1) (by omega)
  obtain⟨ad,h1,h2⟩:=(hx.kept hKp).idx (P:=Tryz.prog) (t:=29) (e:=81) el_29 (by rw[sz_81]) kn_81 k (by rw[encL_len];exact hk)
  have h2':addrCells s.H ad=some (TPayment.cells a):=by
   rw[h2]
   have:=encL_get TPayment.cells l k
   rw[ha,List.getElem?_eq_getElem (by rw[encL_len];exact hk)]at this
   exact this
  have hz:(TPayment.cells a).take 5=TPayment.cells a:=List.take_of_length_le (by rw[TPayment.len];omega)
  simp -dsimp -implicitDefEqProofs [-getElem?_pos,go_sem,hP,t8,t1,t0,h1,h2',TPayment.len,hz]
  have hd:l.drop k=a::l.drop (k+1):=by
   rw[List.getElem?_eq_getElem hk]at ha
   rw[List.drop_eq_getElem_cons hk,Option.some.inj ha]
  refine callB_m (by rw[hr,hs];exact hg a (List.mem_of_getElem? ha) s.H hKp) hP hen ?_
  rintro r H' ⟨rfl,hK2⟩
  rw[hd]at hi
  simp only[idxFrom]at hi
  simp -dsimp -implicitDefEqProofs [-getElem?_pos,go_sem,hP]
  refine condP (fun hp=>?_) (fun hp=>?_)
  ·rw[if_pos hp]at hi
   simp -dsimp -implicitDefEqProofs [-getElem?_pos,go_sem,hP]
   exact⟨hi.symm,hKp.trans hK2⟩
  ·rw[hp,if_neg (by simp)]at hi
   simp -dsimp -implicitDefEqProofs [-getElem?_pos,go_sem,hP,t8,wk]
   refine⟨l.length-(k+1),by omega,?_⟩
   rw[hI]
   exact⟨k+1,by omega,rfl,hi,by simp -dsimp[-getElem?_pos,go_sem,t0],by simp -dsimp[-getElem?_pos,go_sem,t1],by simp -dsimp[-getElem?_pos,go_sem,t7],by simp -dsimp[-getElem?_pos,go_sem],by simp -dsimp[-getElem?_pos,go_sem];exact hKp.trans hK2⟩
 ·have hk:k=l.length:=by simp at h;omega
  subst hk
  rw[List.drop_length]at hi
  simp -dsimp -implicitDefEqProofs [-getElem?_pos,go_sem,hP]
  exact⟨hi.symm,hKp⟩
set_option maxHeartbeats 4000000 in
theorem deleteFuncM_pay {row src:Option Nat} (l:List TPayment) (tl0:List (List AV)) (id:Nat) (H:Heap) (g:FuncId) (caps:List AV) (p:TPayment→Bool) (hl:l.length≤100000) (ho:H[id]?=some (some ⟨81,5,encL TPayment.cells l++tl0⟩)) (hen:enterable Tryz.prog g=true)
  (hg:∀a,a∈l→∀H',Kept [id] H H'→MFun Tryz.prog row src g (.agg (TPayment.cells a)::caps) H' (fun r H''=>r=bv (p a)∧Kept [] H' H'')):
  MFun Tryz.prog row src 183 [.sref id 0 l.length,.fn g caps] H (fun r H'=>∃tl,r= .sref id 0 (l.filter fun a=>!p a).length∧H'[id]?=some (some ⟨81,5,encL TPayment.cells (l.filter fun a=>!p a)++tl⟩)∧Kept [id] H H'):=by
 obtain⟨C,hC⟩:∃C:AV→Heap→Prop,C=fun r H'=>∃tl,r= .sref id 0 (l.filter fun a=>!p a).length∧H'[id]?=some (some ⟨81,5,encL TPayment.cells (l.filter fun a=>!p a)++tl⟩)∧Kept [id] H H':=⟨_,rfl⟩
 rw[←hC]
 have lid:=(gsI ho)
 have ex:∃r H',C r H':=by
  rw[hC]
  exact⟨_,H.set id (some ⟨81,5,encL TPayment.cells (l.filter fun a=>!p a)++[]⟩),[],rfl,by simp[lid],kept_set _ (by simp) (kept_refl _ _)⟩
 obtain⟨zs,hz⟩:=Option.isSome_iff_exists.1 (show (zeros Tryz.prog 81).isSome=true by kernel_rfl)
 obtain⟨n,hn⟩:∃n,n=l.length:=⟨_,rfl⟩
 refine mfun_intro Tryz.func183 rfl (by simp[Tryz.f183]) (by kernel_rfl) (ex) ?_
 intro E hP hr hs hN
 simp -dsimp -implicitDefEqProofs [-getElem?_pos,go_sem,hP]
 refine callB_m (by rw[hr,hs];exact index_mT_pay l (.sref id 0 l.length) H g caps p (.inr (.inr ⟨id,81,tl0,by rw[encL_len],ho⟩)) (by omega) hen (fun a ha H' hk=>hg a ha H' (hk.mono (by simp)))) hP en_252 ?_
 rintro r H1 ⟨rfl,hk1⟩
 have ho1:=hk1 _ _ (by simp) ho
 have k1:Kept [id] H H1:=hk1.mono (by simp)
 rcases idxI_spec p l with⟨h1,h2⟩|⟨i,a,ha,hpa,h3,h4⟩
 ·have hf:(l.filter fun a=>!p a)=l:=List.filter_eq_self.2 fun a ha=>by simp[h2 a ha]
  simp -dsimp -implicitDefEqProofs [-getElem?_pos,go_sem,hP,h1]
  rw[hC,hf]
  exact⟨tl0,rfl,ho1,k1⟩
 have hi1:¬((i:Int)= -1):=by omega
 have hil:=(gsI ha)
 have w1:=wrap_in ((i:Int)+1) (by omega)
 have kept0:(l.take (i+1)).filter (fun a=>!p a)=l.take i:=by
  rw[List.take_add_one,ha,List.filter_append,Option.toList_some,List.filter_cons_of_neg (by simp[hpa]),List.filter_nil,List.append_nil]
  refine List.filter_eq_self.2 fun x hx=>?_
  obtain⟨j,hj⟩:=List.getElem?_of_mem hx
  rw[List.getElem?_take]at hj
  split at hj
  ·simp[h4 j x (by assumption) hj]
  ·cases hj
 simp -dsimp -implicitDefEqProofs [-getElem?_pos,go_sem,hP,h3,hi1,w1]
 obtain⟨I,hI⟩:∃I:Nat→St→Prop,I=fun m s=>∃(j q:Nat) (ks:List TPayment) (rows:List (List AV)),ks=((l.take j).filter fun a=>!p a)∧q=ks.length∧j≤n∧m=n-j∧q<j∧n≤rows.length∧(∀i e,i<n→rows[i]?=some e→e.length=5)∧rows.take q=encL TPayment.cells ks∧rows.drop j=encL TPayment.cells (l.drop j)++tl0∧s.t 0= .sref id 0 n∧s.t 1= .fn g caps∧s.t 5=iv q∧s.t 6=iv j∧s.H[id]?=some (some ⟨81,5,rows⟩)∧Kept [id] H s.H:=⟨_,rfl⟩
 refine aloop0 I (n-(i+1)) (by rw[hN];rfl) ?_ ?_
 ·rw[hI]
  refine⟨i+1,i,l.take i,encL TPayment.cells l++tl0,kept0.symm,by simp;omega,by omega,by omega,by omega,by rw[List.length_append,encL_len];omega,fun i' e hi' he=>?_,?_,?_,by simp -dsimp[-getElem?_pos,go_sem,hn],by simp -dsimp[-getElem?_pos,go_sem],by simp -dsimp[-getElem?_pos,go_sem],by simp -dsimp[-getElem?_pos,go_sem],by simp -dsimp[-getElem?_pos,go_sem,ho1],by simp -dsimp[-getElem?_pos,go_sem];exact k1⟩
  ·rw[List.getElem?_append_left (by rw[encL_len];omega)]at he
   obtain⟨x,_,rfl⟩:=List.mem_map.1 (List.mem_of_getElem? he)
   exact TPayment.len x
  ·rw[List.take_append_of_le_length (by rw[encL_len];omega),encL_takeE]
  ·rw[List.drop_append_of_le_length (by rw[encL_len];omega),encL_dropE]
 intro m s hs'
 rw[hI]at hs'
 obtain⟨j,q,ks,rows,hks,hq,hjn,hm,hqj,hrl,hre,hrt,hrd,t0,t1,t5,t6,h0,hk⟩:=hs'
 have lt0:=(gsI h0)
 simp -dsimp -implicitDefEqProofs [-getElem?_pos,go_sem,hP,t0,t6,h0]
 refine condP (fun hh=>?_) (fun hh=>?_)
 ·have hj:j<n:=by simpa using hh
  obtain⟨x,hx⟩:∃x,l[j]?=some x:=⟨_,List.getElem?_eq_getElem (by omega)⟩
  have wj:=wrap_in ((j:Int)+1) (by omega)
  have wq:=wrap_in ((q:Int)+1) (by omega)
  have hjr:j<rows.length:=by omega
  have hrow:rows[j]?=some (TPayment.cells x):=by
   have:=congrArg (·[0]?) hrd
   simp only[List.getElem?_drop,Nat.add_zero]at this
   rw[List.getElem?_append_left (by rw[encL_len,List.length_drop];omega),encL_getE,List.getElem?_drop,Nat.add_zero,hx]at this
   simpa using this
  have htk:(l.take (j+1)).filter (fun a=>!p a)=if p x=true then ks else ks++[x]:=by
   rw[List.take_add_one,hx,List.filter_append,Option.toList_some,←hks]
   by_cases hpx:p x=true<;>simp[hpx,List.filter_cons]
  have hxl:=TPayment.len x
  have hgx:=hg x (List.mem_of_getElem? hx) (s.H++[some ⟨81,5,[TPayment.cells x]⟩]) (hk.trans (kept_app _ _ _))
  have hd1:rows.drop (j+1)=encL TPayment.cells (l.drop (j+1))++tl0:=by
   have:=congrArg (List.drop 1) hrd
   rw[List.drop_drop,List.drop_append_of_le_length (by rw[encL_len,List.length_drop];omega),encL_dropE,List.drop_drop]at this
   exact this
  simp -dsimp -implicitDefEqProofs [-getElem?_pos,go_sem,hP,t0,t6,h0,hrow,hj,hjr,TPayment.cells]
  simp -dsimp -implicitDefEqProofs [-getElem?_pos,go_sem,hP,t1]
  simp only[TPayment.cells]at hgx
  refine callB_m (by rw[hr,hs];exact hgx) hP hen ?_
  rintro r H2 ⟨rfl,hk2⟩
  have e0:=hk2 _ _ (by simp) (show (s.H++[some (⟨81,5,[TPayment.cells x]⟩:AObj)])[id]?=some (some ⟨81,5,rows⟩) by rw[List.getElem?_append_left lt0];exact h0)
  have ex0:=hk2 _ _ (by simp) (show (s.H++[some (⟨81,5,[TPayment.cells x]⟩:AObj)])[s.H.length]?=some (some ⟨81,5,[TPayment.cells x]⟩) by simp)
  simp only[TPayment.cells]at ex0
  have lt2:=(gsI e0)
  have ltx:=(gsI ex0)
  have kk2:Kept [id] H H2:=(hk.trans (kept_app _ _ _)).trans (hk2.mono (by simp))
  simp -dsimp -implicitDefEqProofs [-getElem?_pos,go_sem,hP]
  refine condP (fun hp=>?_) (fun hp=>?_)
  ·rw[if_pos hp]at htk
   simp -dsimp -implicitDefEqProofs [-getElem?_pos,go_sem,hP,t6,wj]
   refine⟨n-(j+1),by omega,?_⟩
   rw[hI]
   exact⟨j+1,q,ks,rows,htk.symm,hq,by omega,rfl,by omega,hrl,hre,hrt,hd1,by simp -dsimp[-getElem?_pos,go_sem,t0],by simp -dsimp[-getElem?_pos,go_sem,t1],by simp -dsimp[-getElem?_pos,go_sem,t5],by simp -dsimp[-getElem?_pos,go_sem],by simp -dsimp[-getElem?_pos,go_sem,e0,lt2],by simp -dsimp[-getElem?_pos,go_sem];exact kk2⟩
  ·rw[if_neg (by simp[hp])]at htk
   obtain⟨r0,hr0⟩:∃r0,rows[q]?=some r0:=⟨_,List.getElem?_eq_getElem (by omega)⟩
   have hr0l:=hre q r0 (by omega) hr0
   have hr0d:r0.drop 5=[]:=List.drop_of_length_le (by omega)
   have hqn:q<n:=by omega
   have hqr:q<rows.length:=by omega
   simp -dsimp -implicitDefEqProofs [-getElem?_pos,go_sem,hP,t0,t5,t6,e0,lt2,ex0,ltx,hr0,hr0l,hr0d,hqn,hqr,wj,wq]
   refine⟨n-(j+1),by omega,?_⟩
   rw[hI]
   refine⟨j+1,q+1,ks++[x],rows.set q (TPayment.cells x),htk.symm,by simp;omega,by omega,rfl,by omega,by simp;omega,fun i' e hi' he=>?_,?_,?_,by simp -dsimp[-getElem?_pos,go_sem,t0],by simp -dsimp[-getElem?_pos,go_sem,t1],by simp -dsimp[-getElem?_pos,go_sem],by simp -dsimp[-getElem?_pos,go_sem],by simp -dsimp[-getElem?_pos,go_sem,lt2,TPayment.cells],by simp -dsimp[-getElem?_pos,go_sem];exact kept_set _ (by simp) kk2⟩
   ·rw[List.getElem?_set]at he
    simp only[hqr,if_true]at he
    split at he
    ·cases he
     exact hxl
    ·exact hre i' e hi' he
   ·rw[List.take_add_one,List.take_set_of_le (by omega),hrt,List.getElem?_set_self (by omega),←encL_appE]
    rfl
   ·rw[List.drop_set_of_lt (by omega)]
    exact hd1
 ·have hj:j=n:=by simp at hh;omega
  subst hj
  have hkl:ks=l.filter fun a=>!p a:=by rw[hks,hn,List.take_length]
  have hqn:q≤j:=by omega
  have hqn1:¬q=j:=by omega
  have hqn2:¬(q:Int)=j:=by omega
  have hrd0:rows.drop j=tl0:=by rw[hrd,List.drop_of_length_le (by omega)];rfl
  have sx:∀(id n:Nat),(if q=0 then some (AV.sref id 0 n)else some (AV.sref id q (n-q)))=some (.sref id q (n-q)):=fun id n=>by
   split
   ·rename_i h0;rw[h0,Nat.sub_zero]
   ·rfl
  simp -dsimp -implicitDefEqProofs [-getElem?_pos,go_sem,hP,t0,t5,h0,asliceOp,bound,aslice,hqn,hqn1,hqn2,sx]
  refine buiB_clearE (e:=81) (es':=encL TPayment.cells ks++(List.replicate (j-q) zs++tl0)) h0 (.inl rfl) (by rw[hP];kernel_rfl) (by rw[hP];kernel_rfl) (by omega) (by rw[hP];exact hz) (by omega) (by omega) ?_ ?_
  ·rw[hrt,show q+(j-q)=j by omega,hrd0,List.append_assoc]
  simp -dsimp -implicitDefEqProofs [-getElem?_pos,go_sem,hP,t0,t5,lt0,asliceOp,bound,aslice,hqn,hqn1,hqn2,sx]
  rw[hC,←hkl]
  exact⟨List.replicate (j-q) zs++tl0,by rw[hq],by simp[lt0],kept_set _ (by simp) hk⟩
open Go.PA
open Go.RowKit
set_option maxRecDepth 8000 in
set_option maxHeartbeats 2000000 in
theorem insert_m_int {row src:Option Nat} (es:List (List AV)) (e:List AV) (i id:Nat) (H:Heap) (hi:i≤es.length) (hl:es.length≤100000) (ho:H[id]?=some (some ⟨3,1,es⟩)) (he0:e≠[]):
  MFun Tryz.prog row src 174 [.sref id 0 es.length,iv i,.list 1 [e]] H (fun r H'=>∃jd,r= .sref jd 0 (es.length+1)∧(jd=id∨H.length≤jd)∧H'[jd]?=some (some ⟨3,1,es.take i++e::es.drop i⟩)∧Kept [id] H H'):=by
 obtain⟨C,hC⟩:∃C:AV→Heap→Prop,C=fun r H'=>∃jd,r= .sref jd 0 (es.length+1)∧(jd=id∨H.length≤jd)∧H'[jd]?=some (some ⟨3,1,es.take i++e::es.drop i⟩)∧Kept [id] H H':=⟨_,rfl⟩
 rw[←hC]
 have ex:∃r H',C r H':=by
  rw[hC]
  exact⟨.sref H.length 0 (es.length+1),H++[some ⟨3,1,es.take i++e::es.drop i⟩],H.length,rfl,.inr (Nat.le_refl _),by simp,kept_app _ _ _⟩
 have lid:=(gsI ho)
 obtain⟨n,hn⟩:∃n,n=es.length:=⟨_,rfl⟩
 rw[←hn]at hi hl hC⊢
 by_cases hin:i=n
 ·subst hin
  refine mfun_intro Tryz.func174 rfl (by simp[Tryz.f174]) (by kernel_rfl) (ex) ?_
  intro E hP hr hs hN
  by_cases h0:i=0
  ·subst h0
   simp -dsimp -implicitDefEqProofs [-getElem?_pos,go_sem,hP,ho,←hn,asliceOp,bound,aslice]
   rw[hC]
   exact⟨H.length,rfl,.inr (Nat.le_refl _),by simp -dsimp[-getElem?_pos,go_sem,List.eq_nil_of_length_eq_zero hn.symm],(kept_set none (by simp) (kept_refl _ _)).trans (kept_app _ _ _)⟩
  ·simp -dsimp -implicitDefEqProofs [-getElem?_pos,go_sem,hP,ho,←hn,h0,asliceOp,bound,aslice]
   refine⟨by omega,by omega,?_⟩
   rw[hC]
   exact⟨H.length,rfl,.inr (Nat.le_refl _),by simp -dsimp[-getElem?_pos,go_sem,hn],(kept_set none (by simp) (kept_refl _ _)).trans (kept_app _ _ _)⟩
 ·have hlt:i<n:=by omega
  have hin':¬(i:Int)=n:=by omega
  have w1:=wrap_in ((n:Int)+1) (by omega)
  have w2:=wrap_in ((i:Int)+1) (by omega)
  have w3:=wrap_in ((n:Int)+1-i) (by omega)
  have hesne:es≠[]:=by intro e0;simp[e0]at hn;omega
  refine mfun_unfull (C:=fun r H'=>C r H'∨∃N,r= .full id 0 (n+1) N∧∃o,H'[id]?=some (some o)∧n+1≤o.es.length∧C (.sref id 0 (n+1)) H') ?_ (fun r H' h=>?_)
  rotate_left
  ·rcases h with h|⟨N,h1,o,h2,h3,h4⟩
   ·exact .inl h
   ·exact .inr ⟨id,n+1,N,o,h1,h2,h3,h4⟩
  refine mfun_full ho hesne (by dsimp only;omega) fun N hN0=>?_
  dsimp only at hN0
  obtain⟨D,hD⟩:∃D:AV→Heap→Prop,D=fun r H'=>C r H'∨∃N,r= .full id 0 (n+1) N∧∃o,H'[id]?=some (some o)∧n+1≤o.es.length∧C (.sref id 0 (n+1)) H':=⟨_,rfl⟩
  rw[←hD]
  have exD:∃r H',D r H':=by
   obtain⟨r,H',h⟩:=ex
   rw[hD]
   exact⟨r,H',.inl h⟩
  have fx:∀(id n N:Nat),(if i=0 then some (AV.full id 0 n N)else some (AV.full id i (n-i) N))=some (.full id i (n-i) N):=fun id n N=>by
   split
   ·subst i;rfl
   ·rfl
  have nN:n≤N:=by omega
  have iN:i≤N:=by omega
  have a1:(0:Int)≤(n:Int)+1:=by omega
  have a3:(0:Int)≤(i:Int)+1:=by omega
  have a4:(i:Int)+1≤(n:Int)+1:=by omega
  refine mfun_intro Tryz.func174 rfl (by simp[Tryz.f174]) (by kernel_rfl) (exD) ?_
  intro E hP hr hs hN
  by_cases hroom:N<n+1
  ·have dN:decide ((N:Int)<(n:Int)+1)=true:=decide_eq_true (by omega)
   obtain⟨zs,hz⟩:=Option.isSome_iff_exists.1 (show (zeros Tryz.prog 3).isSome=true by kernel_rfl)
   have hbt:bytesOf Tryz.prog 3=8:=by kernel_rfl
   have hm:(n:Int)+1-i=((n+1-i:Nat):Int):=by omega
   have sx:∀(id n:Nat),(if i=0 then some (AV.sref id 0 n)else some (AV.sref id i (n-i)))=some (.sref id i (n-i)):=fun id n=>by
    split
    ·subst i;rfl
    ·rfl
   simp -dsimp -implicitDefEqProofs [-getElem?_pos,go_sem,hP,dN,ho,←hn,hin,hin',asliceOp,bound,aslice,w1,w2,w3,hroom,hi,nN,iN,a1,a3,a4,fx]
   refine buiB_makeE (e:=3) (m:=n+1-i) (L:=n+1) (kn:= .i64) (zs:=zs) ho (by rw[hP];kernel_rfl) (by rw[hP];kernel_rfl) (by rw[hP];kernel_rfl) (by omega) rfl (by rw[hP];exact hz) (by omega) hm (by omega) (by omega) hroom (by omega) (by rw[hP,hbt];omega) ?_
   have ho2:(H++[some (⟨3,1,es.take i++List.replicate (n+1-i) zs⟩:AObj)])[id]?=some (some ⟨3,1,es⟩):=by rw[List.getElem?_append_left lid];exact ho
   have hl1:(es.take i++List.replicate (n+1-i) zs).length=n+1:=by simp;omega
   have a7:(i:Int)≤(n:Int)+1:=by omega
   have a8:¬((i:Int)=(n:Int)+1):=by omega
   have a9:i≤n+1:=by omega
   have a10:¬i=n+1:=by omega
   have hA:(es.take i).length=i:=by simp;omega
   have d1:(es.take i++List.replicate (n+1-i) zs).drop (i+1)=List.replicate (n-i) zs:=by
    rw[List.drop_append,List.drop_of_length_le (by omega),hA,List.nil_append,List.drop_replicate]
    congr 1
    omega
   simp -dsimp -implicitDefEqProofs [-getElem?_pos,go_sem,hP,ho2,asliceOp,bound,aslice,a7,a8,a9,a10,sx]
   refine buiB_copyE (e:=3) (ty:=3) (k:=1) (lo:=i) (dn:=n+1-i) (m:=1) (es:=es.take i++List.replicate (n+1-i) zs) (news:=[e]) (es':=es.take i++e::List.replicate (n-i) zs) (by simp) (.inl rfl) (by rw[hP];kernel_rfl) (by rw[hP];kernel_rfl) (by omega) (by rw[hP];kernel_rfl) ?_ rfl (by omega) (by omega) (by simp;omega) ?_ ?_
   ·simp only[srcEs]
    rw[if_pos (by rw[hP];kernel_rfl)]
   ·rw[d1,List.take_append_of_le_length (by omega),List.take_of_length_le (by omega)]
    simp
   have ho3:(H++[some (⟨3,1,es.take i++e::List.replicate (n-i) zs⟩:AObj)])[id]?=some (some ⟨3,1,es⟩):=by rw[List.getElem?_append_left lid];exact ho
   have a5:¬((i:Int)+1=0):=by omega
   have a6:((n:Int)+1-((i:Int)+1)).toNat=n-i:=by omega
   have a11:¬((i:Int)+1=(n:Int)+1):=by omega
   simp -dsimp -implicitDefEqProofs [-getElem?_pos,go_sem,hP]
   refine adrawB (fun _=>true) [8] hP (by kernel_rfl) (by kernel_rfl) ?_
   simp -dsimp -implicitDefEqProofs [-getElem?_pos,go_sem,hP,ho3,←hn,hin,hin',asliceOp,bound,aslice,w1,w2,hi,nN,iN,a1,a3,a4,a5,a6,a7,a8,a11,fx,sx]
   refine buiB_copyE (e:=3) (ty:=3) (k:=1) (lo:=i+1) (dn:=n-i) (m:=n-i) (es:=es.take i++e::List.replicate (n-i) zs) (news:=es.drop i) (es':=es.take i++e::es.drop i) (by simp) (.inl rfl) (by rw[hP];kernel_rfl) (by rw[hP];kernel_rfl) (by omega) (by rw[hP];kernel_rfl) ?_ (by simp[←hn]) (by omega) (by omega) (by simp;omega) ?_ ?_
   ·simp only[srcEs,ho3]
    rw[if_pos ⟨by rw[hP];kernel_rfl,by omega⟩,List.take_of_length_le (by simp;omega)]
   ·rw[show es.take i++e::List.replicate (n-i) zs=(es.take i++[e])++List.replicate (n-i) zs from by simp,List.take_append_of_le_length (by simp;omega),List.take_of_length_le (by simp;omega),List.drop_of_length_le (show ((es.take i++[e])++List.replicate (n-i) zs).length≤i+1+(n-i) by simp;omega)]
    simp
   simp -dsimp -implicitDefEqProofs [-getElem?_pos,go_sem,hP]
   rw[hD,hC]
   exact .inl ⟨H.length,rfl,.inr (Nat.le_refl _),by simp,kept_app _ _ _⟩
  ·have dN:decide ((N:Int)<(n:Int)+1)=false:=decide_eq_false (by omega)
   have a2:(n:Int)+1≤N:=by omega
   have a5:¬((i:Int)+1=0):=by omega
   have a6:((n:Int)+1-((i:Int)+1)).toNat=n-i:=by omega
   have a7:(i:Int)≤(n:Int)+1:=by omega
   have a8:¬((i:Int)=(n:Int)+1):=by omega
   simp -dsimp -implicitDefEqProofs [-getElem?_pos,go_sem,hP,dN,ho,←hn,hin,hin',asliceOp,bound,aslice,w1,w2,w3,hroom,hi,nN,iN,a1,a2,a3,a4,a5,a6,a7,a8,fx]
   refine callB_overlapsL (t:=22) (e:=3) (tR:=4) (fn:=Tryz.f249) (id':=id) (lo':=i+1) (dn':=n-i) (by rw[hP];exact Tryz.func249) (by kernel_rfl) (by kernel_rfl) (by kernel_rfl) (by kernel_rfl) (by rw[hP];kernel_rfl) (by rw[hP];kernel_rfl) he0 (.inr ⟨N,rfl⟩) ho (by omega) ?_
   simp -dsimp -implicitDefEqProofs [-getElem?_pos,go_sem,hP]
   refine adrawB (fun _=>true) [8] hP (by kernel_rfl) (by kernel_rfl) ?_
   simp -dsimp -implicitDefEqProofs [-getElem?_pos,go_sem,hP,dN,ho,←hn,hin,hin',asliceOp,bound,aslice,w1,w2,w3,hroom,hi,nN,iN,a1,a2,a3,a4,a5,a6,a7,a8,fx]
   refine buiB_copyS (e:=3) (lo:=i+1) (dn:=n-i) (news:=es.drop i) (es':=es.take (i+1)++es.drop i) ho (.inr ⟨N,rfl⟩) (by rw[hP];kernel_rfl) (by rw[hP];kernel_rfl) (by omega) (by rw[hP];kernel_rfl) ?_ (by simp[←hn]) (by omega) (by omega) (by omega) (by rw[List.drop_of_length_le (show es.length≤i+1+(n-i) by omega),List.append_nil]) ?_
   ·simp only[srcEs,ho]
    rw[if_pos ⟨by rw[hP];kernel_rfl,by omega⟩,List.take_of_length_le (by simp;omega)]
   simp -dsimp -implicitDefEqProofs [-getElem?_pos,go_sem,hP,lid,ho,asliceOp,bound,aslice,a2,a7,a8,fx]
   refine buiB_copyE (e:=3) (ty:=3) (k:=1) (lo:=i) (dn:=n+1-i) (m:=1) (es:=es.take (i+1)++es.drop i) (news:=[e]) (es':=es.take i++e::es.drop i) (by simp[lid]) (.inr ⟨N,rfl⟩) (by rw[hP];kernel_rfl) (by rw[hP];kernel_rfl) (by omega) (by rw[hP];kernel_rfl) ?_ rfl (by omega) (by omega) (by simp[←hn];omega) ?_ ?_
   ·simp only[srcEs]
    rw[if_pos (by rw[hP];kernel_rfl)]
   ·rw[List.take_append_of_le_length (by simp;omega),List.take_take,Nat.min_eq_left (by omega),List.drop_append_of_le_length (by simp;omega),List.drop_of_length_le (by simp;omega)]
    simp
   simp -dsimp -implicitDefEqProofs [-getElem?_pos,go_sem,hP,lid]
   rw[hD,hC]
   simp only[List.set_set]
   exact .inr ⟨N,rfl,⟨3,1,es.take i++e::es.drop i⟩,by simp[lid],by simp[←hn];omega,id,rfl,.inl rfl,by simp[lid],kept_set _ (by simp) (kept_refl _ _)⟩
set_option maxRecDepth 8000 in
set_option maxHeartbeats 2000000 in
theorem insert_m_pay {row src:Option Nat} (es:List (List AV)) (e:List AV) (i id:Nat) (H:Heap) (hi:i≤es.length) (hl:es.length≤100000) (ho:H[id]?=some (some ⟨81,5,es⟩)) (he0:e≠[]):
  MFun Tryz.prog row src 248 [.sref id 0 es.length,iv i,.list 5 [e]] H (fun r H'=>∃jd,r= .sref jd 0 (es.length+1)∧(jd=id∨H.length≤jd)∧H'[jd]?=some (some ⟨81,5,es.take i++e::es.drop i⟩)∧Kept [id] H H'):=by
 obtain⟨C,hC⟩:∃C:AV→Heap→Prop,C=fun r H'=>∃jd,r= .sref jd 0 (es.length+1)∧(jd=id∨H.length≤jd)∧H'[jd]?=some (some ⟨81,5,es.take i++e::es.drop i⟩)∧Kept [id] H H':=⟨_,rfl⟩
 rw[←hC]
 have ex:∃r H',C r H':=by
  rw[hC]
  exact⟨.sref H.length 0 (es.length+1),H++[some ⟨81,5,es.take i++e::es.drop i⟩],H.length,rfl,.inr (Nat.le_refl _),by simp,kept_app _ _ _⟩
 have lid:=(gsI ho)
 obtain⟨n,hn⟩:∃n,n=es.length:=⟨_,rfl⟩
 rw[←hn]at hi hl hC⊢
 by_cases hin:i=n
 ·subst hin
  refine mfun_intro Tryz.func248 rfl (by simp[Tryz.f248]) (by kernel_rfl) (ex) ?_
  intro E hP hr hs hN
  by_cases h0:i=0
  ·subst h0
   simp -dsimp -implicitDefEqProofs [-getElem?_pos,go_sem,hP,ho,←hn,asliceOp,bound,aslice]
   rw[hC]
   exact⟨H.length,rfl,.inr (Nat.le_refl _),by simp -dsimp[-getElem?_pos,go_sem,List.eq_nil_of_length_eq_zero hn.symm],(kept_set none (by simp) (kept_refl _ _)).trans (kept_app _ _ _)⟩
  ·simp -dsimp -implicitDefEqProofs [-getElem?_pos,go_sem,hP,ho,←hn,h0,asliceOp,bound,aslice]
   refine⟨by omega,by omega,?_⟩
   rw[hC]
   exact⟨H.length,rfl,.inr (Nat.le_refl _),by simp -dsimp[-getElem?_pos,go_sem,hn],(kept_set none (by simp) (kept_refl _ _)).trans (kept_app _ _ _)⟩
 ·have hlt:i<n:=by omega
  have hin':¬(i:Int)=n:=by omega
  have w1:=wrap_in ((n:Int)+1) (by omega)
  have w2:=wrap_in ((i:Int)+1) (by omega)
  have w3:=wrap_in ((n:Int)+1-i) (by omega)
  have hesne:es≠[]:=by intro e0;simp[e0]at hn;omega
  refine mfun_unfull (C:=fun r H'=>C r H'∨∃N,r= .full id 0 (n+1) N∧∃o,H'[id]?=some (some o)∧n+1≤o.es.length∧C (.sref id 0 (n+1)) H') ?_ (fun r H' h=>?_)
  rotate_left
  ·rcases h with h|⟨N,h1,o,h2,h3,h4⟩
   ·exact .inl h
   ·exact .inr ⟨id,n+1,N,o,h1,h2,h3,h4⟩
  refine mfun_full ho hesne (by dsimp only;omega) fun N hN0=>?_
  dsimp only at hN0
  obtain⟨D,hD⟩:∃D:AV→Heap→Prop,D=fun r H'=>C r H'∨∃N,r= .full id 0 (n+1) N∧∃o,H'[id]?=some (some o)∧n+1≤o.es.length∧C (.sref id 0 (n+1)) H':=⟨_,rfl⟩
  rw[←hD]
  have exD:∃r H',D r H':=by
   obtain⟨r,H',h⟩:=ex
   rw[hD]
   exact⟨r,H',.inl h⟩
  have fx:∀(id n N:Nat),(if i=0 then some (AV.full id 0 n N)else some (AV.full id i (n-i) N))=some (.full id i (n-i) N):=fun id n N=>by
   split
   ·subst i;rfl
   ·rfl
  have nN:n≤N:=by omega
  have iN:i≤N:=by omega
  have a1:(0:Int)≤(n:Int)+1:=by omega
  have a3:(0:Int)≤(i:Int)+1:=by omega
  have a4:(i:Int)+1≤(n:Int)+1:=by omega
  refine mfun_intro Tryz.func248 rfl (by simp[Tryz.f248]) (by kernel_rfl) (exD) ?_
  intro E hP hr hs hN
  by_cases hroom:N<n+1
  ·have dN:decide ((N:Int)<(n:Int)+1)=true:=decide_eq_true (by omega)
   obtain⟨zs,hz⟩:=Option.isSome_iff_exists.1 (show (zeros Tryz.prog 81).isSome=true by kernel_rfl)
   have hbt:bytesOf Tryz.prog 81=40:=by kernel_rfl
   have hm:(n:Int)+1-i=((n+1-i:Nat):Int):=by omega
   have sx:∀(id n:Nat),(if i=0 then some (AV.sref id 0 n)else some (AV.sref id i (n-i)))=some (.sref id i (n-i)):=fun id n=>by
    split
    ·subst i;rfl
    ·rfl
   simp -dsimp -implicitDefEqProofs [-getElem?_pos,go_sem,hP,dN,ho,←hn,hin,hin',asliceOp,bound,aslice,w1,w2,w3,hroom,hi,nN,iN,a1,a3,a4,fx]
   refine buiB_makeE (e:=81) (m:=n+1-i) (L:=n+1) (kn:= .i64) (zs:=zs) ho (by rw[hP];kernel_rfl) (by rw[hP];kernel_rfl) (by rw[hP];kernel_rfl) (by omega) rfl (by rw[hP];exact hz) (by omega) hm (by omega) (by omega) hroom (by omega) (by rw[hP,hbt];omega) ?_
   have ho2:(H++[some (⟨81,5,es.take i++List.replicate (n+1-i) zs⟩:AObj)])[id]?=some (some ⟨81,5,es⟩):=by rw[List.getElem?_append_left lid];exact ho
   have hl1:(es.take i++List.replicate (n+1-i) zs).length=n+1:=by simp;omega
   have a7:(i:Int)≤(n:Int)+1:=by omega
   have a8:¬((i:Int)=(n:Int)+1):=by omega
   have a9:i≤n+1:=by omega
   have a10:¬i=n+1:=by omega
   have hA:(es.take i).length=i:=by simp;omega
   have d1:(es.take i++List.replicate (n+1-i) zs).drop (i+1)=List.replicate (n-i) zs:=by
    rw[List.drop_append,List.drop_of_length_le (by omega),hA,List.nil_append,List.drop_replicate]
    congr 1
    omega
   simp -dsimp -implicitDefEqProofs [-getElem?_pos,go_sem,hP,ho2,asliceOp,bound,aslice,a7,a8,a9,a10,sx]
   refine buiB_copyE (e:=81) (ty:=81) (k:=5) (lo:=i) (dn:=n+1-i) (m:=1) (es:=es.take i++List.replicate (n+1-i) zs) (news:=[e]) (es':=es.take i++e::List.replicate (n-i) zs) (by simp) (.inl rfl) (by rw[hP];kernel_rfl) (by rw[hP];kernel_rfl) (by omega) (by rw[hP];kernel_rfl) ?_ rfl (by omega) (by omega) (by simp;omega) ?_ ?_
   ·simp only[srcEs]
    rw[if_pos (by rw[hP];kernel_rfl)]
   ·rw[d1,List.take_append_of_le_length (by omega),List.take_of_length_le (by omega)]
    simp
   have ho3:(H++[some (⟨81,5,es.take i++e::List.replicate (n-i) zs⟩:AObj)])[id]?=some (some ⟨81,5,es⟩):=by rw[List.getElem?_append_left lid];exact ho
   have a5:¬((i:Int)+1=0):=by omega
   have a6:((n:Int)+1-((i:Int)+1)).toNat=n-i:=by omega
   have a11:¬((i:Int)+1=(n:Int)+1):=by omega
   simp -dsimp -implicitDefEqProofs [-getElem?_pos,go_sem,hP]
   refine adrawB (fun _=>true) [8] hP (by kernel_rfl) (by kernel_rfl) ?_
   simp -dsimp -implicitDefEqProofs [-getElem?_pos,go_sem,hP,ho3,←hn,hin,hin',asliceOp,bound,aslice,w1,w2,hi,nN,iN,a1,a3,a4,a5,a6,a7,a8,a11,fx,sx]
   refine buiB_copyE (e:=81) (ty:=81) (k:=5) (lo:=i+1) (dn:=n-i) (m:=n-i) (es:=es.take i++e::List.replicate (n-i) zs) (news:=es.drop i) (es':=es.take i++e::es.drop i) (by simp) (.inl rfl) (by rw[hP];kernel_rfl) (by rw[hP];kernel_rfl) (by omega) (by rw[hP];kernel_rfl) ?_ (by simp[←hn]) (by omega) (by omega) (by simp;omega) ?_ ?_
   ·simp only[srcEs,ho3]
    rw[if_pos ⟨by rw[hP];kernel_rfl,by omega⟩,List.take_of_length_le (by simp;omega)]
   ·rw[show es.take i++e::List.replicate (n-i) zs=(es.take i++[e])++List.replicate (n-i) zs from by simp,List.take_append_of_le_length (by simp;omega),List.take_of_length_le (by simp;omega),List.drop_of_length_le (show ((es.take i++[e])++List.replicate (n-i) zs).length≤i+1+(n-i) by simp;omega)]
    simp
   simp -dsimp -implicitDefEqProofs [-getElem?_pos,go_sem,hP]
   rw[hD,hC]
   exact .inl ⟨H.length,rfl,.inr (Nat.le_refl _),by simp,kept_app _ _ _⟩
  ·have dN:decide ((N:Int)<(n:Int)+1)=false:=decide_eq_false (by omega)
   have a2:(n:Int)+1≤N:=by omega
   have a5:¬((i:Int)+1=0):=by omega
   have a6:((n:Int)+1-((i:Int)+1)).toNat=n-i:=by omega
   have a7:(i:Int)≤(n:Int)+1:=by omega
   have a8:¬((i:Int)=(n:Int)+1):=by omega
   simp -dsimp -implicitDefEqProofs [-getElem?_pos,go_sem,hP,dN,ho,←hn,hin,hin',asliceOp,bound,aslice,w1,w2,w3,hroom,hi,nN,iN,a1,a2,a3,a4,a5,a6,a7,a8,fx]
   refine callB_overlapsL (t:=29) (e:=81) (tR:=4) (fn:=Tryz.f288) (id':=id) (lo':=i+1) (dn':=n-i) (by rw[hP];exact Tryz.func288) (by kernel_rfl) (by kernel_rfl) (by kernel_rfl) (by kernel_rfl) (by rw[hP];kernel_rfl) (by rw[hP];kernel_rfl) he0 (.inr ⟨N,rfl⟩) ho (by omega) ?_
   simp -dsimp -implicitDefEqProofs [-getElem?_pos,go_sem,hP]
   refine adrawB (fun _=>true) [8] hP (by kernel_rfl) (by kernel_rfl) ?_
   simp -dsimp -implicitDefEqProofs [-getElem?_pos,go_sem,hP,dN,ho,←hn,hin,hin',asliceOp,bound,aslice,w1,w2,w3,hroom,hi,nN,iN,a1,a2,a3,a4,a5,a6,a7,a8,fx]
   refine buiB_copyS (e:=81) (lo:=i+1) (dn:=n-i) (news:=es.drop i) (es':=es.take (i+1)++es.drop i) ho (.inr ⟨N,rfl⟩) (by rw[hP];kernel_rfl) (by rw[hP];kernel_rfl) (by omega) (by rw[hP];kernel_rfl) ?_ (by simp[←hn]) (by omega) (by omega) (by omega) (by rw[List.drop_of_length_le (show es.length≤i+1+(n-i) by omega),List.append_nil]) ?_
   ·simp only[srcEs,ho]
    rw[if_pos ⟨by rw[hP];kernel_rfl,by omega⟩,List.take_of_length_le (by simp;omega)]
   simp -dsimp -implicitDefEqProofs [-getElem?_pos,go_sem,hP,lid,ho,asliceOp,bound,aslice,a2,a7,a8,fx]
   refine buiB_copyE (e:=81) (ty:=81) (k:=5) (lo:=i) (dn:=n+1-i) (m:=1) (es:=es.take (i+1)++es.drop i) (news:=[e]) (es':=es.take i++e::es.drop i) (by simp[lid]) (.inr ⟨N,rfl⟩) (by rw[hP];kernel_rfl) (by rw[hP];kernel_rfl) (by omega) (by rw[hP];kernel_rfl) ?_ rfl (by omega) (by omega) (by simp[←hn];omega) ?_ ?_
   ·simp only[srcEs]
    rw[if_pos (by rw[hP];kernel_rfl)]
   ·rw[List.take_append_of_le_length (by simp;omega),List.take_take,Nat.min_eq_left (by omega),List.drop_append_of_le_length (by simp;omega),List.drop_of_length_le (by simp;omega)]
    simp
   simp -dsimp -implicitDefEqProofs [-getElem?_pos,go_sem,hP,lid]
   rw[hD,hC]
   simp only[List.set_set]
   exact .inr ⟨N,rfl,⟨81,5,es.take i++e::es.drop i⟩,by simp[lid],by simp[←hn];omega,id,rfl,.inl rfl,by simp[lid],kept_set _ (by simp) (kept_refl _ _)⟩
end Go.Proofs.YtaenimpfelpafaaGreatDoor
