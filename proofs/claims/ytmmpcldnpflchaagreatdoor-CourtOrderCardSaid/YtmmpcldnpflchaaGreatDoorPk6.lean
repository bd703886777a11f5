/- Several texts of this claim, joined: Rec5 Rec6 Rec7 AccNet Rec9 Rec10 Rec8 Shelf Split Parts Code SortFlow Stab0 Pl27 Cash0 Cash1 ClmL RefCode RParts CashM Cash2. -/
import Derived.Test.YtmmpcldnpflchaaGreatDoorPk5
import Derived.Shelf.LaysM
import Derived.Shelf.Strconv.Itoa3
import Derived.Shelf.LaysC
import Derived.Shelf.Strconv.AtoiAll
import Derived.Shelf.Strings.Search2
import Derived.Shelf.Strings.Search3
import Derived.Ground.Names2Prog
import Derived.Ground.SlgnProg
import Derived.Test.YtmmpcldnpflchaaGreatDoorProg
import Derived.RangeFuncBox
import Derived.RangeFuncLeaves
import Derived.Shelf.Abstract
import Derived.WalkKit
import Derived.OwnWalkIn
import Derived.TacticsInMore
import Derived.LoopNIn
import Derived.LoopIn
import Derived.Maps.AppendAt
import Derived.Lib.PathFns
import Derived.Lib.IndexLaws
import Derived.Laws.Rows
import Derived.RangeFuncCalls
set_option linter.unusedSimpArgs false
set_option linter.unusedVariables false
namespace Go.Proofs.YtmmpcldnpflchaaGreatDoor
open Go.PA
open Go.RowKit
theorem Ar (l:List TSub) (hl:l.length≤1000000):PFun Tryz.prog none none 37 [.list 2 (ac TSub.cells l)] (·= .list 2 (ac TSub.cells l)):=by
 cases l with
 |nil=>
  refine bw fun A c=>?_
  refine ae Tryz.func37 rfl (by simp[Tryz.f37]) (by kernel_rfl) ?_
  intro E hP hr hs hW hN
  cases A with
  |none=>
   simp -dsimp -implicitDefEqProofs [-getElem?_pos,go_sem,hP]
   exact aB .nil (aG.2 (by simp)) (.nil _) rfl
  |some a=>
   simp -dsimp -implicitDefEqProofs [-getElem?_pos,go_sem,hP]
   refine aB (x:= .list 2 []) ?_ (aG.2 (by simp)) ?_ rfl
   ·simp -dsimp -implicitDefEqProofs [-getElem?_pos,go_sem]
   ·simp -dsimp -implicitDefEqProofs [-getElem?_pos,go_sem]
    first|exact .refl _|skip
 |cons a l=>
  refine ae Tryz.func37 rfl (by simp[Tryz.f37]) (by kernel_rfl) ?_
  intro E hP hr hs hW hN
  simp only[List.length_cons]at hl
  have e:ac TSub.cells (a::l)=TSub.cells a::ac TSub.cells l:=rfl
  have im:Imm (.list 2 (TSub.cells a::ac TSub.cells l)):=by rw[←e];exact aC _ TSub.imm _
  have et:(TSub.cells a::ac TSub.cells l).take (l.length+1)=TSub.cells a::ac TSub.cells l:=by
   rw[←e]
   exact cX TSub.cells (a::l) _ (by simp)
  simp -dsimp -implicitDefEqProofs [-getElem?_pos,go_sem,hP,e]
  refine⟨by omega,by omega,?_⟩
  refine aB (x:= .list 2 (TSub.cells a::ac TSub.cells l)) ?_ im ?_ rfl
  ·simp -dsimp -implicitDefEqProofs [-getElem?_pos,go_sem]
   first|exact im|(have h:=aG.1 im;simp only[List.mem_cons,forall_eq_or_imp]at h;exact h)
  ·simp -dsimp -implicitDefEqProofs [-getElem?_pos,go_sem]
   first|exact .refl _|skip
theorem wC (l:List TEntry) (hl:l.length≤1000000):PFun Tryz.prog none none 38 [.list 6 (ac TEntry.cells l)] (·= .list 6 (ac TEntry.cells l)):=by
 cases l with
 |nil=>
  refine bw fun A c=>?_
  refine ae Tryz.func38 rfl (by simp[Tryz.f38]) (by kernel_rfl) ?_
  intro E hP hr hs hW hN
  cases A with
  |none=>
   simp -dsimp -implicitDefEqProofs [-getElem?_pos,go_sem,hP]
   exact aB .nil (aG.2 (by simp)) (.nil _) rfl
  |some a=>
   simp -dsimp -implicitDefEqProofs [-getElem?_pos,go_sem,hP]
   refine aB (x:= .list 6 []) ?_ (aG.2 (by simp)) ?_ rfl
   ·simp -dsimp -implicitDefEqProofs [-getElem?_pos,go_sem]
   ·simp -dsimp -implicitDefEqProofs [-getElem?_pos,go_sem]
    first|exact .refl _|skip
 |cons a l=>
  refine ae Tryz.func38 rfl (by simp[Tryz.f38]) (by kernel_rfl) ?_
  intro E hP hr hs hW hN
  simp only[List.length_cons]at hl
  have e:ac TEntry.cells (a::l)=TEntry.cells a::ac TEntry.cells l:=rfl
  have im:Imm (.list 6 (TEntry.cells a::ac TEntry.cells l)):=by rw[←e];exact aC _ TEntry.imm _
  have et:(TEntry.cells a::ac TEntry.cells l).take (l.length+1)=TEntry.cells a::ac TEntry.cells l:=by
   rw[←e]
   exact cX TEntry.cells (a::l) _ (by simp)
  simp -dsimp -implicitDefEqProofs [-getElem?_pos,go_sem,hP,e]
  refine⟨by omega,by omega,?_⟩
  refine aB (x:= .list 6 (TEntry.cells a::ac TEntry.cells l)) ?_ im ?_ rfl
  ·simp -dsimp -implicitDefEqProofs [-getElem?_pos,go_sem]
   first|exact im|(have h:=aG.1 im;simp only[List.mem_cons,forall_eq_or_imp]at h;exact h)
  ·simp -dsimp -implicitDefEqProofs [-getElem?_pos,go_sem]
   first|exact .refl _|skip
theorem Ec (a:TAccount) (hl:a.Subs.length≤100000) (he:a.Entries.length≤100000):PFun Tryz.prog none none 150 [.agg a.cells] (·= .agg a.cells):=by
 refine ae Tryz.func150 rfl (by simp[Tryz.f150]) (by kernel_rfl) ?_
 intro E hP hr hs hW hN
 have i1:=eU a.Subs
 have i2:=fj a.Entries
 simp -dsimp -implicitDefEqProofs [-getElem?_pos,go_sem,hP,cA]
 refine fJ (fun i=>decide (i=0)) [9] [4,7] hP (by kernel_rfl) (by kernel_rfl) ?_
 simp -dsimp -implicitDefEqProofs [-getElem?_pos,go_sem,hP]
 refine fU ((Ar a.Subs (by omega)).lift _ _) hP Pe (by simpa using i1) i1 ?_
 simp -dsimp -implicitDefEqProofs [-getElem?_pos,go_sem,hP]
 refine fU ((wC a.Entries (by omega)).lift _ _) hP KY (by simpa using i2) i2 ?_
 simp -dsimp -implicitDefEqProofs [-getElem?_pos,go_sem,hP]
 exact aN (dQ a) rfl
theorem LN (q:TQueue) (hf:FitQ q):PFun Tryz.prog none none 145 [.agg q.cells] (·= .agg q.cells):=by
 refine kD (uq q [] hf) (dr q) ?_
 rintro r H' ⟨i1,i2,x,rfl,_,_,_,h1,h2,⟨B,_,_,hg⟩,_⟩
 exact⟨_,rfl,cv h1 (by rw[af]) (aV _) (cv h2 (by rw[af]) (dG _) (hg.cw (di _) .nil))⟩
set_option maxHeartbeats 1000000 in
theorem pn {row src:Option Nat} (d:TDesk) (H:ab) (hf:FitD d):
  MFun Tryz.prog row src 103 [.agg d.cells] H (fun r H'=>∃id,r= .agg [iv d.Account.Credit,cj d.Account.Subs,b9 d.Account.Entries,aT d.Queue.Waiting,e9 d.Queue.Known,bY d.Queue.Batches,.sref id 0 d.Items.length]∧H.length≤id∧H'[id]?=some (some ⟨114,7,ac TItem.cells d.Items⟩)∧Kept [] H H'):=by
 obtain⟨C,hC⟩:∃C:AV→ab→Prop,C=fun r H'=>∃id,r= .agg [iv d.Account.Credit,cj d.Account.Subs,b9 d.Account.Entries,aT d.Queue.Waiting,e9 d.Queue.Known,bY d.Queue.Batches,.sref id 0 d.Items.length]∧H.length≤id∧H'[id]?=some (some ⟨114,7,ac TItem.cells d.Items⟩)∧Kept [] H H':=⟨_,rfl⟩
 rw[←hC]
 have ex:∃r H',C r H':=⟨_,H++[some ⟨114,7,ac TItem.cells d.Items⟩],by
  rw[hC]
  exact⟨H.length,rfl,Nat.le_refl _,by simp,ap _ _ _⟩⟩
 refine al Tryz.func103 rfl (by simp[Tryz.f103]) (by kernel_rfl) (ex) ?_
 intro E hP hr hs hN
 have ia:=dQ d.Account
 have iq:=dr d.Queue
 have ca:=Ec d.Account hf.s hf.e
 have cq:=LN d.Queue hf.q
 have li:=hf.i
 rw[cA]at ia ca
 rw[cQn]at iq cq
 simp -dsimp -implicitDefEqProofs [-getElem?_pos,go_sem,hP,cDn]
 obtain⟨H1,hH1⟩:∃H1:ab,H1=H++[some (wv d),some ⟨35,7,[[iv 0,.nil,.nil,.nil,.nil,.nil,.nil]]⟩]:=⟨_,rfl⟩
 have l1:H1.length=H.length+2:=by rw[hH1];simp
 have a0:H1[H.length]?=some (some (wv d)):=by rw[hH1];simp
 have a1:H1[H.length+1]?=some (some ⟨35,7,[[iv 0,.nil,.nil,.nil,.nil,.nil,.nil]]⟩):=by rw[hH1,List.getElem?_append_right (by omega)];simp
 have k1:Kept [] H H1:=by rw[hH1];exact ap _ _ _
 have e1:H++[some (wv d),some ⟨35,7,[[iv 0,.nil,.nil,.nil,.nil,.nil,.nil]]⟩]=H1:=hH1.symm
 simp only[wv]at e1 a0
 simp only[e1]
 refine fJ (fun i=>decide (i=H.length)) [10] [2,5] hP (by kernel_rfl) (by kernel_rfl) ?_
 simp -dsimp -implicitDefEqProofs [-getElem?_pos,go_sem,hP,a0,l1]
 refine fU (ca.lift _ _) hP Pm (by simpa using ia) ia ?_
 simp -dsimp -implicitDefEqProofs [-getElem?_pos,go_sem,hP,a0,l1]
 refine fU (cq.lift _ _) hP AY (by simpa using iq) iq ?_
 simp -dsimp -implicitDefEqProofs [-getElem?_pos,go_sem,hP,a0,l1]
 refine ar (by rw[hr,hs];exact zW d.Items H1 (by omega)) hP O9 ?_
 rintro r H2 ⟨id,rfl,hid,ho,hk⟩
 have b0:=hk _ _ (by simp) a0
 have b1:=hk _ _ (by simp) a1
 have lt1:=(gsI b1)
 have aD:∀(X X':ab),Kept [] X X'→X[H.length]?=some (some (wv d))→Agree (fun i=>decide (i=H.length)) X X':=fun X X' hk e0=>dZ hk fun i hi=>by
  simp only[decide_eq_true_eq]at hi
  subst hi
  exact⟨by simp,_,e0⟩
 simp -dsimp -implicitDefEqProofs [-getElem?_pos,go_sem,hP,b1,lt1]
 refine⟨aD _ _ hk a0,?_⟩
 rw[hC]
 refine⟨id,rfl,by omega,?_,?_⟩
 ·rw[List.getElem?_set_ne (by omega),ho]
 ·exact cG _ (by omega) (k1.trans hk)
open Go.PA
open Go.RowKit
theorem DOk.ks {d:TDesk} (h:DOk d):(d.Items.map wrt).Pairwise (·<·):=by rw[h.k];exact h.q.ks
theorem DOk.nd {d:TDesk} (h:DOk d):(d.Items.map wrt).Nodup:=lP h.ks
theorem rr {l:List TItem} (hs:(l.map wrt).Pairwise (·<·)) (w:Int):∃k,CutI l w k∧((l[k]?).map wrt=some w↔w∈l.map wrt):=by
 obtain⟨k,h1,h2,_,h4⟩:=xl (p:=w) hs
 rw[List.length_map]at h1
 refine⟨k,⟨h1,fun h x hx=>h2 h (wrt x) (by rw[List.getElem?_map,hx];rfl)⟩,?_⟩
 rw[←List.getElem?_map]
 exact h4
theorem N4 {l:List TItem} (hn:(l.map wrt).Nodup) {k:Nat} {x:TItem} (hx:l[k]?=some x):DW l x.Payment.Warrant=k:=by
 unfold DW
 rcases cN (fun y:TItem=>decide (y.Payment.Warrant=x.Payment.Warrant)) l with⟨h1,h2⟩|⟨i,a,h1,h2,h3,_⟩
 ·have:=h2 x (List.mem_of_getElem? hx)
  simp at this
 ·have h2:a.Payment.Warrant=x.Payment.Warrant:=by simpa using h2
  have e1:(l.map wrt)[i]?=some x.Payment.Warrant:=by rw[List.getElem?_map,h1];exact congrArg some h2
  have e2:(l.map wrt)[k]?=some x.Payment.Warrant:=by rw[List.getElem?_map,hx];rfl
  have:=(List.getElem?_inj (gsI e1) hn).1 (e1.trans e2.symm)
  rw[h3,this]
theorem HM {l:List TItem} {w:Int} (h:w∉l.map wrt):DW l w= -1:=by
 unfold DW
 rcases cN (fun y:TItem=>decide (y.Payment.Warrant=w)) l with⟨h1,h2⟩|⟨i,a,h1,h2,h3,_⟩
 ·exact h1
 ·have h2:a.Payment.Warrant=w:=by simpa using h2
  exact absurd (List.mem_map.2 ⟨a,List.mem_of_getElem? h1,h2⟩) h
theorem sJ {d:TDesk} {w st:Int} {f:TDesk→TItem→Done1} (h:¬cI d=0):fo d w st f=(dq,cI d):=by rw[fo,if_neg h]
theorem qC {d:TDesk} {w st:Int} {f:TDesk→TItem→Done1} (h:cI d=0) (hw:w∉d.Items.map wrt):fo d w st f=(dq,6):=by
 rw[fo,if_pos h]
 split
 ·rfl
 ·rw[if_pos (by rw[HM hw];omega)]
theorem vu {d:TDesk} {st:Int} {f:TDesk→TItem→Done1} (h:cI d=0) {k:Nat} {x:TItem} (hx:d.Items[k]?=some x):fo d x.Payment.Warrant st f=if x.State=st then (if (f d x).e=0 then (⟨(f d x).a,(f d x).q,d.Items.set k (f d x).x⟩,0)else (dq,(f d x).e))else (dq,67):=by
 have hp:=N4 (fE.1 h).nd hx
 rw[fo,if_pos h,hp,Int.toNat_natCast,hx]
 simp only
 rw[if_neg (by omega)]
theorem qA (l:List TEntry) (g:FuncId) (caps:List AV) (p:TEntry→Bool) (hl:l.length≤1000000) (hen:aa Tryz.prog g=true) (hcap:∀a,a∈caps→Imm a)
  (hg:∀a,a∈l→PFun Tryz.prog none none g (.agg (TEntry.cells a)::caps) (·=bv (p a))):
  PFun Tryz.prog none none 101 [.list 6 (ac TEntry.cells l),.fn g caps] (·=bv (l.any p)):=by
 refine ae Tryz.func101 rfl (by simp[Tryz.f101]) (by kernel_rfl) ?_
 intro E hP hr hs hW hN
 obtain⟨w,hw⟩:∃w,w=l.any p:=⟨_,rfl⟩
 rw[←hw]
 have hi:∀a,a∈[AV.list 6 (ac TEntry.cells l),.fn g caps]→Imm a:=fun a ha=>by
  simp only[List.mem_cons,List.not_mem_nil,or_false]at ha
  rcases ha with rfl|rfl
  ·exact aC _ TEntry.imm _
  ·exact lr.2 hcap
 simp -dsimp -implicitDefEqProofs [-getElem?_pos,go_sem,hP]
 refine ak ((vU l g caps p hl hen hcap hg).lift _ _) hP Pj hi .sc ?_
 rcases cN p l with⟨h1,h2⟩|⟨i,a,h1,h2,h3,_⟩
 ·have:w=false:=by rw[hw];exact List.any_eq_false.2 fun a ha=>by simp[h2 a ha]
  simp -dsimp -implicitDefEqProofs [-getElem?_pos,go_sem,hP,h1,this]
 ·have d:decide ((0:Int)≤(i:Int))=true:=decide_eq_true (by omega)
  have:w=true:=by rw[hw];exact List.any_eq_true.2 ⟨a,List.mem_of_getElem? h1,h2⟩
  simp -dsimp -implicitDefEqProofs [-getElem?_pos,go_sem,hP,h3,d,this]
theorem C2 {H:ab}:CW H [iv 0,.nil,.nil,.nil,.nil,.nil,.nil] dq.cells:=pR (bK (bK (bK (bK (bK (bK .nil))))))
theorem eJ {H:ab} {n:Int} {Q:AV→Prop} {b:Bx Q} (h:Q (.tup [.agg dq.cells,iv n])):mD H (.tup [.agg [iv 0,.nil,.nil,.nil,.nil,.nil,.nil],iv n]) Q b:=cZ C2 h
open Go.PA
open Go.RowKit
abbrev md (a:TAccount) (q:TQueue) (id n:Nat):AObj:=⟨35,7,[[iv a.Credit,cj a.Subs,b9 a.Entries,aT q.Waiting,e9 q.Known,bY q.Batches,.sref id 0 n]]⟩
abbrev j8 (l:List TItem):AObj:=⟨114,7,ac TItem.cells l⟩
def DoM (g:FuncId) (caps:List AV) (d:TDesk) (f:TDesk→TItem→Done1):Prop:=
 ∀(row src:Option Nat) (x:TItem) (at_ b id:Nat) (H:ab),d.Items[at_]?=some x→b≠id→H[b]?=some (some (md d.Account d.Queue id d.Items.length))→H[id]?=some (some (j8 d.Items))→
  MFun Tryz.prog row src g ([.ref b 0 0,.ref id at_ 0]++caps) H (fun r H'=>r=iv (f d x).e∧((f d x).e=0→H'[b]?=some (some (md (f d x).a (f d x).q id d.Items.length))∧H'[id]?=some (some (j8 (d.Items.set at_ (f d x).x))))∧Kept [b,id] H H')
theorem jD {α:Type} (f:α→List AV) (l:List α) (i:Nat) (x:α):(ac f l).set i (f x)=ac f (l.set i x):=by
 simp[ac,List.map_set]
set_option maxHeartbeats 2000000 in
theorem rK (d:TDesk) (w st:Int) (g:FuncId) (caps:List AV) (f:TDesk→TItem→Done1) (hf:FitD d) (hen:aa Tryz.prog g=true) (hcap:∀c,c∈caps→Imm c) (hg:cI d=0→DoM g caps d f):
  PFun Tryz.prog none none 112 [.agg d.cells,iv w,iv st,.fn g caps] (·= .tup [.agg (fo d w st f).1.cells,iv (fo d w st f).2]):=by
 refine dX Tryz.func112 rfl (by simp[Tryz.f112]) ?_
 intro E hP hr hs hW hN
 have li:=hf.i
 have id':=dh d
 have pl:=wH d w (by omega)
 have ck:=rD d hf
 rw[cDn]at id' pl ck
 refine bE _ _ _ (by rw[hN];kernel_rfl) ?_
 simp -dsimp -implicitDefEqProofs [-getElem?_pos,go_sem,hP,cDn]
 refine ak (ck.lift _ _) hP Ki (by simpa using id') .sc ?_
 by_cases c1:cI d=0
 rotate_left
 ·have:=sJ (w:=w) (st:=st) (f:=f) c1
  simp -dsimp -implicitDefEqProofs [-getElem?_pos,go_sem,hP,c1]
  refine eJ ?_
  rw[this]
 have hd:=fE.1 c1
 simp -dsimp -implicitDefEqProofs [-getElem?_pos,go_sem,hP,c1]
 refine dA (pl.lift _ _) hP Fk (an (by simpa[aP]using id')) (by obtain⟨r,h,_⟩:=nW d.Items w;exact⟨r,h⟩) (fun r h=>h.flat) ?_
 rintro r ⟨i,hi,rfl,hcut⟩
 obtain⟨k,hk,hk2⟩:=rr hd.ks w
 have:=hcut k hk
 subst this
 by_cases c2:w∈d.Items.map wrt
 rotate_left
 ·have:=qC (st:=st) (f:=f) c1 c2
  have d1:decide ((d.Items[i]?).map wrt=some w)=false:=decide_eq_false (mt hk2.1 c2)
  generalize decide ((d.Items[i]?).map wrt=some w)=bb at d1
  subst d1
  simp -dsimp -implicitDefEqProofs [-getElem?_pos,go_sem,hP]
  refine eJ ?_
  rw[this]
 have c2':=hk2.2 c2
 have d1:=decide_eq_true c2'
 generalize decide ((d.Items[i]?).map wrt=some w)=bb at d1
 subst d1
 obtain⟨x,hx,hxw⟩:∃x,d.Items[i]?=some x∧x.Payment.Warrant=w:=by
  cases h:d.Items[i]? with
  |none=>rw[h]at c2';cases c2'
  |some x=>rw[h]at c2';exact⟨x,rfl,by simpa[wrt]using c2'⟩
 have hch:=vu (st:=st) (f:=f) c1 hx
 rw[hxw]at hch
 rw[hch]
 clear hch
 by_cases c3:x.State=st
 rotate_left
 ·have d3:=decide_eq_false c3
  rw[if_neg c3]
  simp -dsimp -implicitDefEqProofs [-getElem?_pos,go_sem,hP,hx,cIt,d3]
  exact eJ rfl
 rw[if_pos c3]
 simp -dsimp -implicitDefEqProofs [-getElem?_pos,go_sem,hP,hx,cIt,c3]
 have cm:=fun {row src:Option Nat} (H:ab)=>pn (row:=row) (src:=src) d H hf
 simp only[cDn]at cm
 refine ar (by rw[hr,hs];exact cm _) hP Em ?_
 rintro r H2 ⟨id,rfl,hid,ho,hk'⟩
 have b0:=hk' 0 _ (by simp) rfl
 have b1:=hk' 1 _ (by simp) rfl
 have lt0:=(gsI b0)
 have lt1:=(gsI b1)
 have lti:=(gsI ho)
 have hid2:2≤id:=by simpa using hid
 have n0:¬0=id:=by omega
 have n0':¬id=0:=by omega
 have hil:=(gsI hx)
 simp -dsimp -implicitDefEqProofs [-getElem?_pos,go_sem,hP,b0,lt0,ho,hil,n0]
 generalize hH3:List.set H2 0 _=H3
 have e0:H3[0]?=some (some (md d.Account d.Queue id d.Items.length)):=by rw[←hH3,List.getElem?_set_self lt0]
 have e1:H3[1]?=H2[1]?:=by rw[←hH3,List.getElem?_set_ne (by omega)]
 have ei:H3[id]?=H2[id]?:=by rw[←hH3,List.getElem?_set_ne (by omega)]
 rw[b1]at e1
 rw[ho]at ei
 refine ar (by rw[hr,hs];exact hg c1 none none x i 0 id H3 hx n0 e0 ei) hP hen ?_
 rintro r H4 ⟨rfl,hdo,hk4⟩
 have f1:=hk4 _ _ (by simp;omega) e1
 have m1:=(gsI f1)
 by_cases c4:(f d x).e=0
 rotate_left
 ·have d4:=decide_eq_false c4
  rw[if_neg c4]
  simp -dsimp -implicitDefEqProofs [-getElem?_pos,go_sem,hP,d4,f1,m1]
  exact eJ rfl
 obtain⟨g0,gi⟩:=hdo c4
 have m0:=(gsI g0)
 have d4:=decide_eq_true c4
 have n01:¬1=id:=by omega
 rw[if_pos c4]
 simp -dsimp -implicitDefEqProofs [-getElem?_pos,go_sem,hP,c4,d4,f1,m1,g0,m0]
 refine cZ (cs':=TDesk.cells ⟨(f d x).a,(f d x).q,d.Items.set i (f d x).x⟩) ?_ rfl
 refine pR (cg (eU _) (cg (fj _) (cg (aV _) (cg (dG _) (cg (di _) (cv (ty:=114) ?_ ?_ (fK _) .nil))))))
 ·rw[List.getElem?_set_ne n01]
  exact gi
 ·rw[af,List.length_set]
theorem Ev (d:TDesk):DoM 113 [] d gT:=by
 intro row src x at_ b id H hx hbi hb hi
 have hil:=(gsI hx)
 have ltb:=(gsI hb)
 have lti:=(gsI hi)
 obtain⟨C,hC⟩:∃C:AV→ab→Prop,C=fun r H'=>r=iv (gT d x).e∧((gT d x).e=0→H'[b]?=some (some (md (gT d x).a (gT d x).q id d.Items.length))∧H'[id]?=some (some (j8 (d.Items.set at_ (gT d x).x))))∧Kept [b,id] H H':=⟨_,rfl⟩
 rw[←hC]
 have es:=jD TItem.cells d.Items at_ (gT d x).x
 have fin:C (iv 0) (H.set id (some ⟨114,7,(ac TItem.cells d.Items).set at_ (gT d x).x.cells⟩)):=by
  rw[hC,es]
  exact⟨rfl,fun _=>⟨by rw[List.getElem?_set_ne (Ne.symm hbi)];exact hb,by rw[List.getElem?_set_self lti]⟩,ay _ (by simp) (ai _ _)⟩
 refine al Tryz.func113 rfl (by simp[Tryz.f113]) (by kernel_rfl) (⟨_,_,fin⟩) ?_
 intro E hP hr hs hN
 simp -dsimp -implicitDefEqProofs [-getElem?_pos,go_sem,hP,hi,hx,hil,lti,cIt]
 exact fin
theorem FX (d:TDesk) (w:Int) (hf:FitD d):DoM 115 [.iref [iv w]] d (dP w):=by
 intro row src x at_ b id H hx hbi hb hi
 have hil:=(gsI hx)
 have ltb:=(gsI hb)
 have lti:=(gsI hi)
 have iq:=dr d.Queue
 have dp:=Ma d.Queue w hf.q
 have io:=dr (gY d.Queue w).1
 simp only[cQn]at iq dp io
 obtain⟨C,hC⟩:∃C:AV→ab→Prop,C=fun r H'=>r=iv (dP w d x).e∧((dP w d x).e=0→H'[b]?=some (some (md (dP w d x).a (dP w d x).q id d.Items.length))∧H'[id]?=some (some (j8 (d.Items.set at_ (dP w d x).x))))∧Kept [b,id] H H':=⟨_,rfl⟩
 rw[←hC]
 have es:=jD TItem.cells d.Items at_ (dP w d x).x
 have fin:C (iv (dP w d x).e) ((H.set id (some ⟨114,7,(ac TItem.cells d.Items).set at_ (dP w d x).x.cells⟩)).set b (some (md (dP w d x).a (dP w d x).q id d.Items.length))):=by
  rw[hC,es]
  exact⟨rfl,fun _=>⟨by rw[List.getElem?_set_self (by simpa using ltb)],by rw[List.getElem?_set_ne hbi,List.getElem?_set_self lti]⟩,ay _ (by simp) (ay _ (by simp) (ai _ _))⟩
 refine al Tryz.func115 rfl (by simp[Tryz.f115]) (by kernel_rfl) (⟨_,_,fin⟩) ?_
 intro E hP hr hs hN
 simp -dsimp -implicitDefEqProofs [-getElem?_pos,go_sem,hP,hi,hx,hil,lti,cIt]
 have hb1:(H.set id (some ⟨114,7,(ac TItem.cells d.Items).set at_ (dP w d x).x.cells⟩))[b]?=H[b]?:=List.getElem?_set_ne (Ne.symm hbi)
 have hl1:(H.set id (some ⟨114,7,(ac TItem.cells d.Items).set at_ (dP w d x).x.cells⟩)).length=H.length:=List.length_set
 rw[hb]at hb1
 simp only[dP,cIt]at hb1 hl1 fin
 generalize hH1:List.set H id _=H1 at hb1 hl1 fin
 rw[←hl1]at ltb
 refine au (fun i=>decide (i=b)) [12] hP (by kernel_rfl) (by kernel_rfl) ?_
 simp -dsimp -implicitDefEqProofs [-getElem?_pos,go_sem,hP,hb1,ltb]
 refine ak (dp.lift _ _) hP Pr (by simpa[aP]using iq) (aE io .sc) ?_
 simp -dsimp -implicitDefEqProofs [-getElem?_pos,go_sem,hP,hb1,ltb]
 exact fin
theorem FY (d:TDesk) (w day:Int) (hf:FitD d):DoM 114 [.iref [iv day],.iref [iv w]] d (da w day):=by
 intro row src x at_ b id H hx hbi hb hi
 have hil:=(gsI hx)
 have ltb:=(gsI hb)
 have lti:=(gsI hi)
 have ia:=dQ d.Account
 have nx:=As d.Account day 0 x.Payment.Sub x.Payment.Amount w hf.e
 have po:=A0 d.Account (dk d.Account day 0 x.Payment.Sub x.Payment.Amount w) hf.s hf.e
 have ie:=jO (dk d.Account day 0 x.Payment.Sub x.Payment.Amount w)
 have io:=dQ (bL d.Account (dk d.Account day 0 x.Payment.Sub x.Payment.Amount w)).1
 simp only[cA]at ia nx po io
 obtain⟨C,hC⟩:∃C:AV→ab→Prop,C=fun r H'=>r=iv (da w day d x).e∧((da w day d x).e=0→H'[b]?=some (some (md (da w day d x).a (da w day d x).q id d.Items.length))∧H'[id]?=some (some (j8 (d.Items.set at_ (da w day d x).x))))∧Kept [b,id] H H':=⟨_,rfl⟩
 rw[←hC]
 have es:=jD TItem.cells d.Items at_ (da w day d x).x
 have fin:C (iv (da w day d x).e) ((H.set id (some ⟨114,7,(ac TItem.cells d.Items).set at_ (da w day d x).x.cells⟩)).set b (some (md (da w day d x).a (da w day d x).q id d.Items.length))):=by
  rw[hC,es]
  exact⟨rfl,fun _=>⟨by rw[List.getElem?_set_self (by simpa using ltb)],by rw[List.getElem?_set_ne hbi,List.getElem?_set_self lti]⟩,ay _ (by simp) (ay _ (by simp) (ai _ _))⟩
 refine al Tryz.func114 rfl (by simp[Tryz.f114]) (by kernel_rfl) (⟨_,_,fin⟩) ?_
 intro E hP hr hs hN
 simp -dsimp -implicitDefEqProofs [-getElem?_pos,go_sem,hP,hi,hx,hil,lti,cIt]
 have hb1:(H.set id (some ⟨114,7,(ac TItem.cells d.Items).set at_ (da w day d x).x.cells⟩))[b]?=H[b]?:=List.getElem?_set_ne (Ne.symm hbi)
 have hi1:(H.set id (some ⟨114,7,(ac TItem.cells d.Items).set at_ (da w day d x).x.cells⟩))[id]?=some (some ⟨114,7,ac TItem.cells (d.Items.set at_ (da w day d x).x)⟩):=by rw[List.getElem?_set_self lti,es]
 have hx1:(d.Items.set at_ (da w day d x).x)[at_]?=some (da w day d x).x:=List.getElem?_set_self hil
 have hl1:(H.set id (some ⟨114,7,(ac TItem.cells d.Items).set at_ (da w day d x).x.cells⟩)).length=H.length:=List.length_set
 rw[hb]at hb1
 simp only[da,cIt]at hb1 hl1 hi1 hx1 fin
 generalize hH1:List.set H id _=H1 at hb1 hl1 hi1 fin
 generalize List.set d.Items at_ _=L1 at hi1 hx1
 have hil1:=(gsI hx1)
 rw[←hl1]at ltb lti
 refine au (fun i=>decide (i=b)||decide (i=id)) [28] hP (by kernel_rfl) (by kernel_rfl) ?_
 simp -dsimp -implicitDefEqProofs [-getElem?_pos,go_sem,hP,hb1,ltb,hi1,hx1,lti,hil1,cIt]
 refine ak (nx.lift _ _) hP FW (by simpa[aP]using ia) ie ?_
 simp -dsimp -implicitDefEqProofs [-getElem?_pos,go_sem,hP,hb1,ltb,hi1,hx1,lti,hil1,cIt]
 refine ak (po.lift _ _) hP Ez (by simpa using⟨ia,ie⟩) (aE io .sc) ?_
 simp -dsimp -implicitDefEqProofs [-getElem?_pos,go_sem,hP,hb1,ltb,hi1,hx1,lti,hil1,cIt]
 exact fin
theorem F1 (d:TDesk) (w:Int) (hf:FitD d):PFun Tryz.prog none none 59 [.agg d.cells,iv w] (·= .tup [.agg (fA d w).1.cells,iv (fA d w).2]):=by
 refine ae Tryz.func59 rfl (by simp[Tryz.f59]) (by kernel_rfl) ?_
 intro E hP hr hs hW hN
 have id':=dh d
 have io:=dh (fA d w).1
 have ch:=rK d w 2 113 [] gT hf PX (by simp) fun _=>Ev d
 rw[←fA]at ch
 simp only[cDn]at id' ch io
 simp -dsimp -implicitDefEqProofs [-getElem?_pos,go_sem,hP,cDn]
 refine ak (ch.lift _ _) hP Fu (by simpa[aP,lr]using id') (aE io .sc) ?_
 simp -dsimp -implicitDefEqProofs [-getElem?_pos,go_sem,hP]
 exact aN (aE io .sc) rfl
theorem FU (d:TDesk) (w:Int) (hf:FitD d):PFun Tryz.prog none none 61 [.agg d.cells,iv w] (·= .tup [.agg (fp d w).1.cells,iv (fp d w).2]):=by
 refine ae Tryz.func61 rfl (by simp[Tryz.f61]) (by kernel_rfl) ?_
 intro E hP hr hs hW hN
 have id':=dh d
 have io:=dh (fp d w).1
 have ch:=rK d w 1 115 [.iref [iv w]] (dP w) hf PP (by simp[bH,aP]) fun _=>FX d w hf
 rw[←fp]at ch
 simp only[cDn]at id' ch io
 simp -dsimp -implicitDefEqProofs [-getElem?_pos,go_sem,hP,cDn]
 refine zA (ch.lift _ _) hP hW Fu (bI id' (bI .sc (bI .sc (eK (cs:=[.ref 1 0 0]) (by simp -dsimp[-getElem?_pos,go_sem,eC]) (by simp[bH,aP]) (cH.2 trivial))))) (aE io .sc) ?_
 simp -dsimp -implicitDefEqProofs [-getElem?_pos,go_sem,hP,nQ,List.flatMap_cons,List.flatMap_nil,List.foldl_cons,List.foldl_nil,List.append_nil,List.cons_append,List.nil_append]
 exact aN (aE io .sc) rfl
theorem D8 (d:TDesk) (w day:Int) (hf:FitD d):PFun Tryz.prog none none 60 [.agg d.cells,iv w,iv day] (·= .tup [.agg (fw d w day).1.cells,iv (fw d w day).2]):=by
 refine ae Tryz.func60 rfl (by simp[Tryz.f60]) (by kernel_rfl) ?_
 intro E hP hr hs hW hN
 have id':=dh d
 have io:=dh (fw d w day).1
 have ch:=rK d w 2 114 [.iref [iv day],.iref [iv w]] (da w day) hf PE (by simp[bH,aP]) fun _=>FY d w day hf
 rw[←fw]at ch
 simp only[cDn]at id' ch io
 simp -dsimp -implicitDefEqProofs [-getElem?_pos,go_sem,hP,cDn]
 refine zA (ch.lift _ _) hP hW Fu (bI id' (bI .sc (bI .sc (eK (cs:=[.ref 2 0 0,.ref 1 0 0]) (by simp -dsimp[-getElem?_pos,go_sem,eC]) (by simp[bH,aP]) (cH.2 trivial))))) (aE io .sc) ?_
 simp -dsimp -implicitDefEqProofs [-getElem?_pos,go_sem,hP,nQ,List.flatMap_cons,List.flatMap_nil,List.foldl_cons,List.foldl_nil,List.append_nil,List.cons_append,List.nil_append]
 exact aN (aE io .sc) rfl
open Go.PA
theorem pK {a:Option AObj} {l l':ab}:Agree (fun id=>decide (id=0)) (a::l) (a::l'):=fun id hid=>by
 have:id=0:=by simpa using hid
 rcases id with _|id
 ·rfl
 ·omega
theorem qH {a:TAccount} {e:TEntry} (h:(bL a e).2=0):bd a=0∧a.Entries.length<400∧(bU a.Credit (bT a).Number (bT a).Day a.Subs e).1=0∧(bL a e).1=⟨a.Credit,(bU a.Credit (bT a).Number (bT a).Day a.Subs e).2,a.Entries++[e]⟩:=by
 unfold bL at h⊢
 by_cases c1:bd a=0
 ·rw[if_pos c1]at h⊢
  by_cases c2:a.Entries.length=400
  ·rw[if_pos c2]at h;simp at h
  ·rw[if_neg c2]at h⊢
   by_cases c3:(bU a.Credit (bT a).Number (bT a).Day a.Subs e).1=0
   ·rw[if_pos c3]
    have:=(nt c1).2.1
    exact⟨c1,by omega,c3,rfl⟩
   ·rw[if_neg c3]at h
    exact absurd h c3
 ·rw[if_neg c1]at h
  exact absurd h c1
theorem jH {a:TAccount} {e:TEntry} (h:(bL a e).2=0):bd (bL a e).1=0:=by
 obtain⟨c1,c2,c3,c4⟩:=qH h
 obtain⟨k1,k2,k3,k4,k5⟩:=nt c1
 rw[c4]
 have hi:=nP a.Credit (bT a).Number (bT a).Day a.Subs e
 have hl:(bU a.Credit (bT a).Number (bT a).Day a.Subs e).2.length=a.Subs.length:=by rw[←gP,hi,gP]
 have hz:dM (bU a.Credit (bT a).Number (bT a).Day a.Subs e).2=dM a.Subs:=by
  have:∀l:List TSub,dM l=(ids l).map fun i=>⟨i,0⟩:=fun l=>by simp[dM,ids,Function.comp_def]
  rw[this,this,hi]
 refine Cw (n:=e.Number) (d:=e.Day) (by dsimp only;omega) (by simp;omega) k3 (by dsimp only;rw[hi];exact k4) ?_
 dsimp only
 rw[hz,sB,k5]
 simp only[Option.bind_some,cO,c3,if_true]
theorem Fo {a:TAccount} {e:TEntry} (h:(bL a e).2=0):bT (bL a e).1=e:=by
 rw[(qH h).2.2.2,bT]
 simp
theorem wM {a:TAccount} {e:TEntry} (h:(bL a e).2=0):ids (bL a e).1.Subs=ids a.Subs:=by
 rw[(qH h).2.2.2]
 exact nP _ _ _ _ _
theorem jl {a:TAccount} {e:TEntry} (h:(bL a e).2=0):(bL a e).1.Entries=a.Entries++[e]:=by rw[(qH h).2.2.2]
theorem tH {a:TAccount} {e:TEntry} (h:(bL a e).2=0):(bL a e).1.Credit=a.Credit:=by rw[(qH h).2.2.2]
structure GenAcc (n:Nat) (a:TAccount):Prop where
 ok:bd a=0
 ids:ids a.Subs=[1,2,3,7]
 len:a.Entries.length≤n
 day:(bT a).Day≤2*(n:Int)
 small:∀e,e∈a.Entries→e.Amount≤500
 cred:a.Credit≤100
theorem GenAcc.post {n:Nat} {a:TAccount} {e:TEntry} (h:GenAcc n a) (hp:(bL a e).2=0) (hd:e.Day≤2*((n:Int)+1)) (ha:e.Amount≤500):GenAcc (n+1) (bL a e).1:=by
 refine⟨jH hp,(wM hp).trans h.ids,?_,?_,?_,by rw[tH hp];exact h.cred⟩
 ·rw[jl hp];have:=h.len;simp;omega
 ·rw[Fo hp];omega
 ·rw[jl hp]
  intro x hx
  rcases List.mem_append.1 hx with hx|hx
  ·exact h.small x hx
  ·simp at hx;subst hx;exact ha
theorem GenAcc.mono {n m:Nat} {a:TAccount} (h:GenAcc n a) (hm:n≤m):GenAcc m a:=⟨h.ok,h.ids,by have:=h.len;omega,by have:=h.day;omega,h.small,h.cred⟩
theorem GenAcc.slen {n:Nat} {a:TAccount} (h:GenAcc n a):a.Subs.length=4:=by rw[←gP,h.ids];rfl
theorem GenAcc.open {c:Int} (hc:0≤c∧c≤100):GenAcc 0 (rI [1,2,3,7] c)∧OT [1,2,3,7] c=(rI [1,2,3,7] c,0):=by
 have hv:vB c=true:=by simp[vB,dB];omega
 have hb:lm [1,2,3,7]=true:=by decide
 refine⟨⟨Cw (n:=0) (d:=0) (by simp[rI,JJ]) (by simp[rI]) (by simp[rI];omega) (by simp only[rI,B5];exact hb) (by simp[rI,JJ,dM,cO]),by simp[rI,B5],by simp[rI],by simp[rI,bT],by simp[rI],by simp[rI];omega⟩,?_⟩
 unfold OT
 rw[if_pos hv,if_neg (by simp),if_pos hb]
open Go.PA
open Go.RowKit
theorem yV (ws:List Int) (x:TItem):(dH ws x).Payment=x.Payment:=by unfold dH;split<;>rfl
theorem yw (ws:List Int) (l:List TItem):(l.map (dH ws)).map wrt=l.map wrt:=by
 rw[List.map_map]
 exact List.map_congr_left fun x _=>by simp[wrt,yV]
theorem Ik (l:List TItem):l.map (dH [])=l:=by
 have:dH []=id:=funext fun x=>by simp[dH]
 rw[this,List.map_id]
theorem Jt {l:List TItem} (hn:(l.map wrt).Nodup) {ws:List Int} {i:Nat} {x:TItem} (hx:l[i]?=some x) (hw:x.Payment.Warrant∉ws):
  (l.map (dH ws))[i]?=some x∧(l.map (dH ws)).set i ⟨x.Payment,2,x.Attempts+1⟩=l.map (dH (ws++[x.Payment.Warrant])):=by
 refine⟨by rw[List.getElem?_map,hx,Option.map_some,dH,if_neg hw],?_⟩
 apply List.ext_getElem?
 intro j
 rw[List.getElem?_set,List.getElem?_map,List.getElem?_map,List.length_map]
 by_cases hij:i=j
 ·subst hij
  rw[if_pos rfl,if_pos (gsI hx),hx,Option.map_some,dH,if_pos (by simp)]
 ·rw[if_neg hij]
  cases hj:l[j]? with
  |none=>rfl
  |some y=>
   have hne:y.Payment.Warrant≠x.Payment.Warrant:=fun e=>by
    have e1:(l.map wrt)[i]?=some x.Payment.Warrant:=by rw[List.getElem?_map,hx];rfl
    have e2:(l.map wrt)[j]?=some x.Payment.Warrant:=by rw[List.getElem?_map,hj,←e];rfl
    exact hij ((List.getElem?_inj (gsI e1) hn).1 (e1.trans e2.symm))
   simp[dH,hne]
theorem lv (q:TQueue) (day:Int):(dJ q day).Sublist q.Waiting:=by
 unfold dJ
 split
 ·exact List.filter_sublist
 ·exact List.nil_sublist _
theorem Io {q:TQueue} (hq:QOk q) (day:Int):((dJ q day).map (·.Warrant)).Nodup:=hq.asc.nd.sublist ((lv q day).map _)
theorem Hc {d:TDesk} (hd:DOk d) {p:TPayment} (hp:p∈d.Queue.Waiting):∃(i:Nat) (x:TItem),d.Items[i]?=some x∧x.Payment=p∧x.State=1:=by
 have hw:∀x,x∈d.Items→pV d.Queue x=true:=fun x hx=>by
  have:=hd.i x hx
  simp only[vE,Bool.and_eq_true]at this
  exact this.2.2.2.2.1
 obtain⟨h1,h2⟩:=(ro hd.q hd.k).1 hw
 obtain⟨x,hx,hs,e⟩:=C9 hd.q hd.k h1 h2 p hp
 obtain⟨i,hi⟩:=List.getElem?_of_mem hx
 exact⟨i,x,hi,e,hs⟩
theorem ED {d:TDesk} (hd:DOk d) {x:TItem} (hx:x∈d.Items):PayOk x.Payment∧(cR d.Account x.Payment.Sub).2=true∧(1≤x.State∧x.State≤5)∧(0≤x.Attempts∧x.Attempts≤5)∧ET x=true∧pV d.Queue x=true∧(tX d.Queue x.Payment.Warrant:Int)=x.Attempts∧pC d.Account x=true:=by
 have:=hd.i x hx
 simp only[vE,Bool.and_eq_true,jf,fu,decide_eq_true_eq]at this
 obtain⟨h1,h2,h3,h4,h5,h6,h7⟩:=this
 refine⟨h1,h2,h3,?_,h4,h5,h6,h7⟩
 simp only[ET,Bool.and_eq_true,fu]at h4
 exact h4.1
theorem Ht {q:TQueue} (h:q.Batches.length=0):eH q=0:=by
 rw[eH,List.eq_nil_of_length_eq_zero h]
 rfl
theorem HP {q:TQueue} {k:Nat} {b:TBatch} (h:q.Batches.length=k+1) (hb:q.Batches[k]?=some b):eH q=b.Day:=by
 rw[eH,List.getLast?_eq_getElem?,h]
 simp[hb]
theorem rV {a:TAccount} (h:bd a=0):a.Subs.length≤100000∧a.Entries.length≤100000:=by
 have:=nt h
 omega
theorem oZ (day:Int):∀(l:List TPayment) (a:TAccount) (ws:List Int) (full:Bool),ws.length≤10→(ge day l a ws full).2.1.length≤10
 |[],a,ws,full,h=>h
 |p::l,a,ws,full,h=>by
  rw[ge]
  split
  ·exact h
  ·split
   ·exact oZ day l _ _ _ (by rw[List.length_append,List.length_singleton];omega)
   ·exact oZ day l _ _ _ h
theorem Bk {a:TAccount} (h:bd a=0):0≤dS a:=(sQ h).2.2.1
open Go.PA
open Go.RowKit
abbrev sq:AObj:=⟨35,7,[[iv 0,.nil,.nil,.nil,.nil,.nil,.nil]]⟩
abbrev yi:AObj:=⟨111,3,[[iv 0,iv 0,.nil]]⟩
theorem fQ {H:ab} {n:Int} {Q:AV→Prop} {b:Bx Q} (h:Q (.tup [.agg dq.cells,.agg dO.cells,iv n])):mD H (.tup [.agg [iv 0,.nil,.nil,.nil,.nil,.nil,.nil],.agg [iv 0,iv 0,.nil],iv n]) Q b:=nR C2 BW h
set_option maxHeartbeats 8000000 in
theorem Ko (d:TDesk) (day:Int) (hf:FitD d):PFun Tryz.prog none none 58 [.agg d.cells,iv day] (·= .tup [.agg (eh d day).1.cells,.agg (eh d day).2.1.cells,iv (eh d day).2.2]):=by
 refine dX Tryz.func58 rfl (by simp[Tryz.f58]) ?_
 intro E hP hr hs hW hN
 have li:=hf.i
 have lb:=hf.q.b
 have id':=dh d
 have ia:=dQ d.Account
 have ck:=rD d hf
 have ld:=Ew d.Account hf.e
 simp only[cDn]at id' ck
 simp only[cA]at ia ld
 obtain⟨R,hR⟩:∃R,R=AV.tup [.agg (eh d day).1.cells,.agg (eh d day).2.1.cells,iv (eh d day).2.2]:=⟨_,rfl⟩
 rw[←hR]
 have zer:∀n,eh d day=(dq,dO,n)→AV.tup [.agg dq.cells,.agg dO.cells,iv n]=R:=fun n h=>by rw[hR,h]
 refine bG (by rw[hN];kernel_rfl) ?_
 simp -dsimp -implicitDefEqProofs [-getElem?_pos,go_sem,hP,cDn]
 refine bG (by rw[hN];kernel_rfl) ?_
 simp -dsimp -implicitDefEqProofs [-getElem?_pos,go_sem,hP]
 refine ak (ck.lift _ _) hP Ki (by simpa using id') .sc ?_
 by_cases c1:cI d=0
 rotate_left
 ·have:eh d day=(dq,dO,cI d):=by rw[eh,if_neg c1]
  simp -dsimp -implicitDefEqProofs [-getElem?_pos,go_sem,hP,c1]
  exact fQ (zer _ this)
 have hd:=fE.1 c1
 simp -dsimp -implicitDefEqProofs [-getElem?_pos,go_sem,hP,c1]
 refine bG (by rw[hN];kernel_rfl) ?_
 simp -dsimp -implicitDefEqProofs [-getElem?_pos,go_sem,hP]
 refine ak (ld.lift _ _) hP Px (by simpa using ia) .sc ?_
 simp -dsimp -implicitDefEqProofs [-getElem?_pos,go_sem,hP]
 obtain⟨Inv,hInv⟩:∃Inv:St→Prop,Inv=fun s=>s.t 1=iv day∧s.t 2= .ref 0 0 0∧s.t 4= .ref 1 0 0∧s.t 5= .ref 2 0 0∧s.t 8=iv (max (dS d.Account) (eH d.Queue))∧s.H=[some (wv d),some sq,some yi]:=⟨_,rfl⟩
 refine fe Inv (by rw[hN];kernel_rfl) ?_ ?_
 ·rcases Nat.eq_zero_or_pos d.Queue.Batches.length with h0|h0
  ·have d0:decide (0<d.Queue.Batches.length)=false:=decide_eq_false (by omega)
   have e0:max (dS d.Account) (eH d.Queue)=dS d.Account:=by
    rw[Ht h0]
    have:=Bk hd.a
    omega
   simp -dsimp -implicitDefEqProofs [-getElem?_pos,go_sem,hP,d0]
   refine⟨_,Weaker.refl _,?_⟩
   rw[hInv,e0]
   exact⟨by simp -dsimp[-getElem?_pos,go_sem],by simp -dsimp[-getElem?_pos,go_sem],by simp -dsimp[-getElem?_pos,go_sem],by simp -dsimp[-getElem?_pos,go_sem],by simp -dsimp[-getElem?_pos,go_sem],rfl⟩
  ·obtain⟨k,hk⟩:∃k,d.Queue.Batches.length=k+1:=⟨_,(Nat.succ_pred_eq_of_pos h0).symm⟩
   obtain⟨b,hb⟩:∃b,d.Queue.Batches[k]?=some b:=⟨_,List.getElem?_eq_getElem (by omega)⟩
   have d0:decide ((0:Int)<(k:Int)+1)=true:=decide_eq_true (by omega)
   have wk:=ah ((k:Int)+1-1) (by omega)
   rw[Int.add_sub_cancel]at wk
   rw[HP hk hb]at hInv
   simp -dsimp -implicitDefEqProofs [-getElem?_pos,go_sem,hP,hk,d0,Int.add_sub_cancel,wk,hb,cBt,BQ,gg]
   refine⟨_,Weaker.refl _,?_⟩
   rw[hInv]
   exact⟨by simp -dsimp[-getElem?_pos,go_sem],by simp -dsimp[-getElem?_pos,go_sem],by simp -dsimp[-getElem?_pos,go_sem],by simp -dsimp[-getElem?_pos,go_sem],by simp -dsimp[-getElem?_pos,go_sem],rfl⟩
 intro s hs'
 rw[hInv]at hs'
 obtain⟨t1,t2,t4,t5,t8,hH⟩:=hs'
 clear hInv Inv
 refine bG (by rw[hN];kernel_rfl) ?_
 simp -dsimp -implicitDefEqProofs [-getElem?_pos,go_sem,hP,t1]
 refine ak ((k9 day).lift _ _) hP Es (by simp[aP]) .sc ?_
 cases c2:rM day
 ·have:eh d day=(dq,dO,66):=by rw[eh,if_pos c1,if_neg (by simp[c2])]
  simp -dsimp -implicitDefEqProofs [-getElem?_pos,go_sem,hP,c2,t4,t5,hH]
  exact fQ (zer _ this)
 by_cases c3:day<max (dS d.Account) (eH d.Queue)
 ·have d3:decide (day<max (dS d.Account) (eH d.Queue))=true:=decide_eq_true c3
  have:eh d day=(dq,dO,8):=by rw[eh,if_pos c1,if_pos c2,if_pos (by omega)]
  simp -dsimp -implicitDefEqProofs [-getElem?_pos,go_sem,hP,c2,t4,t5,hH,t1,t8,d3]
  exact fQ (zer _ this)
 have d3:decide (day<max (dS d.Account) (eH d.Queue))=false:=decide_eq_false c3
 simp -dsimp -implicitDefEqProofs [-getElem?_pos,go_sem,hP,c2,t1,t8,d3]
 refine bG (by rw[hN];kernel_rfl) ?_
 simp -dsimp -implicitDefEqProofs [-getElem?_pos,go_sem,hP,t2,hH]
 have cm:=fun {row src:Option Nat} (H:ab)=>pn (row:=row) (src:=src) d H hf
 simp only[cDn]at cm
 refine ar (by rw[hr,hs];exact cm _) hP Em ?_
 rintro r H2 ⟨id,rfl,hid,ho,hk'⟩
 have b0:=hk' 0 _ (by simp) rfl
 have b1:=hk' 1 _ (by simp) rfl
 have b2:=hk' 2 _ (by simp) rfl
 have lt0:=(gsI b0)
 have hid2:3≤id:=by simpa using hid
 have n0:¬0=id:=by omega
 simp -dsimp -implicitDefEqProofs [-getElem?_pos,go_sem,hP,t2,b0,lt0]
 generalize hH3:List.set H2 0 _=H3
 have e0:H3[0]?=some (some (md d.Account d.Queue id d.Items.length)):=by rw[←hH3,List.getElem?_set_self lt0]
 have e1:H3[1]?=H2[1]?:=by rw[←hH3,List.getElem?_set_ne (by omega)]
 have e2:H3[2]?=H2[2]?:=by rw[←hH3,List.getElem?_set_ne (by omega)]
 have ei:H3[id]?=H2[id]?:=by rw[←hH3,List.getElem?_set_ne (by omega)]
 rw[b1]at e1
 rw[b2]at e2
 rw[ho]at ei
 clear hH3 b0 b1 b2 lt0 hk' ho
 refine bG (by rw[hN];kernel_rfl) ?_
 simp -dsimp -implicitDefEqProofs [-getElem?_pos,go_sem,hP]
 refine bG (by rw[hN];kernel_rfl) ?_
 simp -dsimp -implicitDefEqProofs [-getElem?_pos,go_sem,hP]
 have hg:goD d day=ge day (dJ d.Queue day) d.Account [] false:=rfl
 obtain⟨rl,hrl⟩:∃rl,rl=dJ d.Queue day:=⟨_,rfl⟩
 have hmem:∀p,p∈rl→p∈d.Queue.Waiting:=fun p hp=>(lv d.Queue day).subset (hrl▸hp)
 have hnd:(rl.map (·.Warrant)).Nodup:=hrl▸Io hd.q day
 have hll:rl.length≤100000:=by
  have:=(lv d.Queue day).length_le
  have:=hf.q.w
  rw[hrl]
  omega
 obtain⟨Inv,hInv⟩:∃Inv:St→Prop,Inv=fun s=>s.t 1=iv day∧s.t 2= .ref 0 0 0∧s.t 4= .ref 1 0 0∧s.t 5= .ref 2 0 0∧s.t 10=e9 (goD d day).2.1∧s.t 11=iv (if (goD d day).2.2=true then 3 else 10)∧s.H[0]?=some (some (md (goD d day).1 d.Queue id d.Items.length))∧s.H[1]?=some (some sq)∧s.H[2]?=some (some yi)∧s.H[id]?=some (some (j8 (d.Items.map (dH (goD d day).2.1)))):=⟨_,rfl⟩
 refine fe Inv (by rw[hN];kernel_rfl) ?_ ?_
 ·have rp:=GE d.Queue day hf.q
  have iq:=dr d.Queue
  have irl:=aV rl
  rw[←hrl]at rp hg
  simp only[cQn]at rp iq
  have g0:=(gsI e0)
  have gi:=(gsI ei)
  simp -dsimp -implicitDefEqProofs [-getElem?_pos,go_sem,hP,t2,t1,e0,g0]
  refine ak (rp.lift _ _) hP LG (by simpa[aP]using iq) irl ?_
  simp -dsimp -implicitDefEqProofs [-getElem?_pos,go_sem,hP]
  refine jh 10 3 1 (by simp -dsimp[-getElem?_pos,go_sem]) ?_
  obtain⟨I,hI⟩:∃I:Nat→St→Prop,I=fun m s=>∃(k wid:Nat) (a:TAccount) (ws:List Int) (full:Bool),k≤rl.length∧m=rl.length-k∧goD d day=ge day (rl.drop k) a ws full∧bd a=0∧ws.length≤10∧(∀w,w∈ws→w∈(rl.take k).map (·.Warrant))∧3≤wid∧wid≠id∧s.t 1=iv day∧s.t 2= .ref 0 0 0∧s.t 4= .ref 1 0 0∧s.t 5= .ref 2 0 0∧s.t 10= .sref wid 0 ws.length∧s.t 11=iv (if full=true then 3 else 10)∧s.t 64=aT rl∧s.t 65=iv rl.length∧s.t 66=iv k∧s.H[0]?=some (some (md a d.Queue id d.Items.length))∧s.H[1]?=some (some sq)∧s.H[2]?=some (some yi)∧s.H[id]?=some (some (j8 (d.Items.map (dH ws))))∧s.H[wid]?=some (some ⟨3,1,ac aJ ws⟩):=⟨_,rfl⟩
  refine aF I (rl.length) (by rw[hN];rfl) ?_ ?_
  ·rw[hI]
   refine⟨0,H3.length,d.Account,[],false,by omega,by omega,by rw[hg];rfl,hd.a,by simp,by simp,by omega,by omega,by simp -dsimp[-getElem?_pos,go_sem,t1],by simp -dsimp[-getElem?_pos,go_sem,t2],by simp -dsimp[-getElem?_pos,go_sem,t4],by simp -dsimp[-getElem?_pos,go_sem,t5],by simp -dsimp[-getElem?_pos,go_sem],by simp -dsimp[-getElem?_pos,go_sem],by simp -dsimp[-getElem?_pos,go_sem],by simp -dsimp[-getElem?_pos,go_sem],by simp -dsimp[-getElem?_pos,go_sem],?_,?_,?_,?_,?_⟩
   ·simp -dsimp -implicitDefEqProofs [-getElem?_pos,go_sem,g0,e0]
   ·have:=(gsI e1)
    simp -dsimp -implicitDefEqProofs [-getElem?_pos,go_sem,this,e1]
   ·have:=(gsI e2)
    simp -dsimp -implicitDefEqProofs [-getElem?_pos,go_sem,this,e2]
   ·rw[Ik]
    simp -dsimp -implicitDefEqProofs [-getElem?_pos,go_sem,gi,ei]
   ·simp -dsimp -implicitDefEqProofs [-getElem?_pos,go_sem,ac]
  clear e0 e1 e2 ei g0 gi t1 t2 t4 t5 hg
  intro m s hs'
  rw[hI]at hs'
  obtain⟨k,wid,a,ws,full,hk,hm,hgo,hca,hw10,hws,hwid,hwi,t1,t2,t4,t5,t10,t11,t64,t65,t66,h0,h1,h2,hi,hH⟩:=hs'
  have g0:=(gsI h0)
  have g1:=(gsI h1)
  have g2:=(gsI h2)
  have gi:=(gsI hi)
  have gw:=(gsI hH)
  have fin:goD d day=(a,ws,full)→∀s':St,s'.t 1=iv day→s'.t 2= .ref 0 0 0→s'.t 4= .ref 1 0 0→s'.t 5= .ref 2 0 0→s'.t 10= .sref wid 0 ws.length→s'.t 11=iv (if full=true then 3 else 10)→s'.H[0]?=some (some (md a d.Queue id d.Items.length))→s'.H[1]?=some (some sq)→s'.H[2]?=some (some yi)→s'.H[id]?=some (some (j8 (d.Items.map (dH ws))))→s'.H[wid]?=some (some ⟨3,1,ac aJ ws⟩)→Sp E Inv s':=fun e s' a1 a2 a3 a4 a5 a6 a7 a8 a9 a10 a11=>by
   have lw:((ac aJ ws).drop 0).take ws.length=ac aJ ws:=by rw[List.drop_zero,List.take_of_length_le (by rw[af];exact Nat.le_refl _)]
   refine⟨_,lY hW 10 a5 a11 (by dsimp only;rw[lw];exact dG ws),?_⟩
   rw[hInv,e]
   dsimp only
   rw[lw]
   refine⟨by simp -dsimp[-getElem?_pos,go_sem,a1],by simp -dsimp[-getElem?_pos,go_sem,a2],by simp -dsimp[-getElem?_pos,go_sem,a3],by simp -dsimp[-getElem?_pos,go_sem,a4],by simp -dsimp[-getElem?_pos,go_sem],by simp -dsimp[-getElem?_pos,go_sem,a6],?_,?_,?_,?_⟩
   ·rw[List.getElem?_set_ne (by omega),a7]
   ·rw[List.getElem?_set_ne (by omega),a8]
   ·rw[List.getElem?_set_ne (by omega),a9]
   ·rw[List.getElem?_set_ne hwi,a10]
  simp -dsimp -implicitDefEqProofs [-getElem?_pos,go_sem,hP,t65,t66]
  refine aH (fun hh=>?_) (fun hh=>?_)
  rotate_left
  ·have hk:k=rl.length:=by simp at hh;omega
   subst hk
   rw[List.drop_length,ge]at hgo
   simp -dsimp -implicitDefEqProofs [-getElem?_pos,go_sem,hP]
   exact fin hgo _ (by simp -dsimp[-getElem?_pos,go_sem,t1]) (by simp -dsimp[-getElem?_pos,go_sem,t2]) (by simp -dsimp[-getElem?_pos,go_sem,t4]) (by simp -dsimp[-getElem?_pos,go_sem,t5]) (by simp -dsimp[-getElem?_pos,go_sem,t10]) (by simp -dsimp[-getElem?_pos,go_sem,t11]) (by simp -dsimp[-getElem?_pos,go_sem,h0]) (by simp -dsimp[-getElem?_pos,go_sem,h1]) (by simp -dsimp[-getElem?_pos,go_sem,h2]) (by simp -dsimp[-getElem?_pos,go_sem,hi]) (by simp -dsimp[-getElem?_pos,go_sem,hH])
  have hk:k<rl.length:=by simpa using hh
  obtain⟨p,hp⟩:∃p,rl[k]?=some p:=⟨_,List.getElem?_eq_getElem hk⟩
  have wk:=ah ((k:Int)+1) (by omega)
  rw[mh hp,ge]at hgo
  by_cases c5:ws.length=10
  ·have d5:decide ((ws.length:Int)=10)=true:=decide_eq_true (by omega)
   rw[if_pos c5]at hgo
   simp -dsimp -implicitDefEqProofs [-getElem?_pos,go_sem,hP,t64,t66,hp,cPy,t10,hH,gw,d5,c5]
   exact fin hgo _ (by simp -dsimp[-getElem?_pos,go_sem,t1]) (by simp -dsimp[-getElem?_pos,go_sem,t2]) (by simp -dsimp[-getElem?_pos,go_sem,t4]) (by simp -dsimp[-getElem?_pos,go_sem,t5]) (by simp -dsimp[-getElem?_pos,go_sem,t10]) (by simp -dsimp[-getElem?_pos,go_sem,t11]) (by simp -dsimp[-getElem?_pos,go_sem,h0,g0]) (by simp -dsimp[-getElem?_pos,go_sem,h1,g1]) (by simp -dsimp[-getElem?_pos,go_sem,h2,g2]) (by simp -dsimp[-getElem?_pos,go_sem,hi,gi]) (by simp -dsimp[-getElem?_pos,go_sem,hH,gw])
  have d5:decide ((ws.length:Int)=10)=false:=decide_eq_false (by omega)
  rw[if_neg c5]at hgo
  simp -dsimp -implicitDefEqProofs [-getElem?_pos,go_sem,hP,t64,t66,hp,cPy,t10,hH,gw,d5,c5]
  obtain⟨pb,hpb⟩:∃pb,pb=s.H.length:=⟨_,rfl⟩
  obtain⟨H1,hH1⟩:∃H1,H1=s.H++[some (⟨108,5,[[iv p.Warrant,iv p.Payee,iv p.Amount,iv p.Due,iv p.Sub]]⟩:AObj)]:=⟨_,rfl⟩
  have l1:H1.length=pb+1:=by rw[hH1,hpb];simp
  have k0:H1[0]?=some (some (md a d.Queue id d.Items.length)):=by rw[hH1,List.getElem?_append_left g0];exact h0
  have k1:H1[1]?=some (some sq):=by rw[hH1,List.getElem?_append_left g1];exact h1
  have k2:H1[2]?=some (some yi):=by rw[hH1,List.getElem?_append_left g2];exact h2
  have ki:H1[id]?=some (some (j8 (d.Items.map (dH ws)))):=by rw[hH1,List.getElem?_append_left gi];exact hi
  have kw:H1[wid]?=some (some ⟨3,1,ac aJ ws⟩):=by rw[hH1,List.getElem?_append_left gw];exact hH
  have kp:H1[pb]?=some (some ⟨108,5,[[iv p.Warrant,iv p.Payee,iv p.Amount,iv p.Due,iv p.Sub]]⟩):=by rw[hH1,hpb,List.getElem?_append_right (Nat.le_refl _),Nat.sub_self];rfl
  simp only[←hH1,←hpb]
  have q0:0<H1.length:=by omega
  have q1:1<H1.length:=by omega
  have q2:2<H1.length:=by omega
  have qi:id<H1.length:=by omega
  have qw:wid<H1.length:=by omega
  have qp:pb<H1.length:=by omega
  have sl:=rV hca
  have iac:=dQ a
  have nx:=As a day p.Sub 0 p.Amount p.Warrant sl.2
  obtain⟨e,hee⟩:∃e,e=dk a day p.Sub 0 p.Amount p.Warrant:=⟨_,rfl⟩
  rw[←hee]at nx hgo
  have ie:=jO e
  have po:=A0 a e sl.1 sl.2
  have io:=dQ (bL a e).1
  simp only[cA]at iac nx po io
  refine fJ (fun i=>decide (i=0)||decide (i=pb)) [17] [11,12] hP (by kernel_rfl) (by kernel_rfl) ?_
  simp -dsimp -implicitDefEqProofs [-getElem?_pos,go_sem,hP,t2,t1,k0,q0,kp,qp]
  refine fU (nx.lift _ _) hP FW (by simpa[aP]using iac) ie ?_
  simp -dsimp -implicitDefEqProofs [-getElem?_pos,go_sem,hP,t2,t1,k0,q0,kp,qp]
  refine fU (po.lift _ _) hP Ez (by simpa using⟨iac,ie⟩) (aE io .sc) ?_
  simp -dsimp -implicitDefEqProofs [-getElem?_pos,go_sem,hP,t2,t1,k0,q0,kp,qp]
  refine⟨fun i hi=>?_,?_⟩
  ·simp only[Bool.or_eq_true,decide_eq_true_eq]at hi
   rw[List.getElem?_append_left (by omega)]
  obtain⟨b,hb⟩:∃b,b=(bL a e).1:=⟨_,rfl⟩
  obtain⟨H2',hH2⟩:∃H2',H2'=H1++[some (⟨28,3,[[iv b.Credit,cj b.Subs,b9 b.Entries]]⟩:AObj)]:=⟨_,rfl⟩
  have l2:H2'.length=pb+2:=by rw[hH2];simp;omega
  have j0:H2'[0]?=some (some (md a d.Queue id d.Items.length)):=by rw[hH2,List.getElem?_append_left q0];exact k0
  have j1:H2'[1]?=some (some sq):=by rw[hH2,List.getElem?_append_left q1];exact k1
  have j2:H2'[2]?=some (some yi):=by rw[hH2,List.getElem?_append_left q2];exact k2
  have ji:H2'[id]?=some (some (j8 (d.Items.map (dH ws)))):=by rw[hH2,List.getElem?_append_left qi];exact ki
  have jw:H2'[wid]?=some (some ⟨3,1,ac aJ ws⟩):=by rw[hH2,List.getElem?_append_left qw];exact kw
  have jp:H2'[pb]?=some (some ⟨108,5,[[iv p.Warrant,iv p.Payee,iv p.Amount,iv p.Due,iv p.Sub]]⟩):=by rw[hH2,List.getElem?_append_left qp];exact kp
  have ja:H2'[pb+1]?=some (some ⟨28,3,[[iv b.Credit,cj b.Subs,b9 b.Entries]]⟩):=by rw[hH2,←l1,List.getElem?_append_right (Nat.le_refl _),Nat.sub_self];rfl
  rw[←hb]at hgo
  rw[←hb,←hH2,l1]
  have z0:0<H2'.length:=by omega
  have z1:1<H2'.length:=by omega
  have z2:2<H2'.length:=by omega
  have zi:id<H2'.length:=by omega
  have zw:wid<H2'.length:=by omega
  have zp:pb<H2'.length:=by omega
  have za:pb+1<H2'.length:=by omega
  by_cases c6:(bL a e).2=0
  rotate_left
  ·rw[if_neg c6]at hgo
   have d6:=decide_eq_false c6
   have hws':∀w,w∈ws→w∈(rl.take (k+1)).map (·.Warrant):=fun w hw=>by
    rw[gQ hp,List.map_append,List.mem_append]
    exact .inl (hws w hw)
   by_cases c7:(bL a e).2=3
   ·rw[decide_eq_true c7,Bool.or_true]at hgo
    simp -dsimp -implicitDefEqProofs [-getElem?_pos,go_sem,hP,c7,t66,wk]
    refine⟨rl.length-(k+1),by omega,?_⟩
    rw[hI]
    exact⟨k+1,wid,a,ws,true,by omega,rfl,hgo,hca,hw10,hws',hwid,hwi,by simp -dsimp[-getElem?_pos,go_sem,t1],by simp -dsimp[-getElem?_pos,go_sem,t2],by simp -dsimp[-getElem?_pos,go_sem,t4],by simp -dsimp[-getElem?_pos,go_sem,t5],by simp -dsimp[-getElem?_pos,go_sem,t10],by simp -dsimp[-getElem?_pos,go_sem],by simp -dsimp[-getElem?_pos,go_sem,t64],by simp -dsimp[-getElem?_pos,go_sem,t65],by simp -dsimp[-getElem?_pos,go_sem],by simp -dsimp[-getElem?_pos,go_sem,j0],by simp -dsimp[-getElem?_pos,go_sem,j1],by simp -dsimp[-getElem?_pos,go_sem,j2],by simp -dsimp[-getElem?_pos,go_sem,ji],by simp -dsimp[-getElem?_pos,go_sem,jw]⟩
   ·have d7:=decide_eq_false c7
    rw[d7,Bool.or_false]at hgo
    simp -dsimp -implicitDefEqProofs [-getElem?_pos,go_sem,hP,d6,d7,t66,wk]
    refine⟨rl.length-(k+1),by omega,?_⟩
    rw[hI]
    exact⟨k+1,wid,a,ws,full,by omega,rfl,hgo,hca,hw10,hws',hwid,hwi,by simp -dsimp[-getElem?_pos,go_sem,t1],by simp -dsimp[-getElem?_pos,go_sem,t2],by simp -dsimp[-getElem?_pos,go_sem,t4],by simp -dsimp[-getElem?_pos,go_sem,t5],by simp -dsimp[-getElem?_pos,go_sem,t10],by simp -dsimp[-getElem?_pos,go_sem,t11],by simp -dsimp[-getElem?_pos,go_sem,t64],by simp -dsimp[-getElem?_pos,go_sem,t65],by simp -dsimp[-getElem?_pos,go_sem],by simp -dsimp[-getElem?_pos,go_sem,j0],by simp -dsimp[-getElem?_pos,go_sem,j1],by simp -dsimp[-getElem?_pos,go_sem,j2],by simp -dsimp[-getElem?_pos,go_sem,ji],by simp -dsimp[-getElem?_pos,go_sem,jw]⟩
  rw[if_pos c6]at hgo
  obtain⟨i,x,hx,hxp,hxs⟩:=Hc hd (hmem p (List.mem_of_getElem? hp))
  have hxw:x.Payment.Warrant=p.Warrant:=by rw[hxp]
  have hnw:p.Warrant∉ws:=fun hw=>by
   have h1:=hws _ hw
   have h2:rl.map (·.Warrant)=(rl.take k).map (·.Warrant)++(rl.drop k).map (·.Warrant):=by rw[←List.map_append,List.take_append_drop]
   rw[h2]at hnd
   refine (List.nodup_append.1 hnd).2.2 _ h1 p.Warrant ?_ rfl
   rw[mh hp]
   simp
  obtain⟨hxL,hset⟩:=Jt hd.nd hx (ws:=ws) (by rw[hxw];exact hnw)
  have hxa:=(ED hd (List.mem_of_getElem? hx)).2.2.2.1
  have wa:=ah (x.Attempts+1) (by omega)
  obtain⟨L,hL⟩:∃L,L=d.Items.map (dH ws):=⟨_,rfl⟩
  have lL:L.length=d.Items.length:=by rw[hL,List.length_map]
  have hLw:L.map wrt=d.Items.map wrt:=by rw[hL,yw]
  rw[←hL]at ji hxL hset
  rw[hxw]at hset
  have pl:=wH ⟨a,d.Queue,L⟩ p.Warrant (by simp only;omega)
  simp only[cDn]at pl
  have cw:CW H2' [iv a.Credit,cj a.Subs,b9 a.Entries,aT d.Queue.Waiting,e9 d.Queue.Known,bY d.Queue.Batches,.sref id 0 d.Items.length] [iv a.Credit,cj a.Subs,b9 a.Entries,aT d.Queue.Waiting,e9 d.Queue.Known,bY d.Queue.Batches,dt L]:=pR (cg (eU _) (cg (fj _) (cg (aV _) (cg (dG _) (cg (di _) (cv ji (by rw[af,lL]) (fK _) .nil))))))
  simp -dsimp -implicitDefEqProofs [-getElem?_pos,go_sem,hP,c6,t2,j0,z0,jp,zp]
  refine dA (pl.lift _ _) hP Fk (BX cw (bI .sc (cH.2 trivial))) (by obtain⟨r,h,_⟩:=nW L p.Warrant;exact⟨r,h⟩) (fun r h=>h.flat) ?_
  rintro r ⟨i',hi',rfl,hcut⟩
  obtain⟨k',hk1,hk2⟩:=rr (l:=L) (by rw[hLw];exact hd.ks) p.Warrant
  have:=hcut k' hk1
  subst this
  have hii:i'=i:=by
   have m1:p.Warrant∈L.map wrt:=by
    rw[←hxw]
    exact List.mem_map.2 ⟨x,List.mem_of_getElem? hxL,rfl⟩
   have m2:=hk2.2 m1
   have m3:(L.map wrt)[i']?=some p.Warrant:=by rw[List.getElem?_map];exact m2
   have m4:(L.map wrt)[i]?=some p.Warrant:=by rw[List.getElem?_map,hxL,←hxw];rfl
   exact (List.getElem?_inj (gsI m3) (by rw[hLw];exact hd.nd)).1 (m3.trans m4.symm)
  subst hii
  generalize decide ((L[i']?).map wrt=some p.Warrant)=bb
  simp -dsimp -implicitDefEqProofs [-getElem?_pos,go_sem,hP]
  have lws:(ac aJ ws).length=ws.length:=af _ _
  refine au (fun i=>decide (i=0)||decide (i=pb)||decide (i=pb+1)) [7] hP (by kernel_rfl) (by kernel_rfl) ?_
  have wpb:wid<pb:=by rw[hpb];exact gw
  have nw0:¬wid=0:=by omega
  simp -dsimp -implicitDefEqProofs [-getElem?_pos,go_sem,hP,t2,t10,j0,z0,jp,zp,ja,za,jw,zw,lws,nw0]
  refine⟨by omega,by omega,fun j hj=>?_,?_⟩
  ·simp only[Bool.or_eq_true,decide_eq_true_eq]at hj
   rw[List.getElem?_append_left (by rw[List.length_set];omega),List.getElem?_set_ne (by omega)]
  have en:ac aJ ws++[[AV.sc (.int .i64 p.Warrant)]]=ac aJ (ws++[p.Warrant]):=cJ aJ ws p.Warrant
  rw[en]
  obtain⟨H4,hH4⟩:∃H4,H4=(List.set H2' wid none).set 0 (some (md b d.Queue id d.Items.length))++[some (⟨3,1,ac aJ (ws++[p.Warrant])⟩:AObj)]:=⟨_,rfl⟩
  have l4:H4.length=pb+3:=by rw[hH4];simp;omega
  have old:∀j,j≠wid→j≠0→j<H2'.length→H4[j]?=H2'[j]?:=fun j h1 h3 h2=>by
   rw[hH4,List.getElem?_append_left (by rw[List.length_set,List.length_set];exact h2),List.getElem?_set_ne (Ne.symm h3),List.getElem?_set_ne (Ne.symm h1)]
  have u0:H4[0]?=some (some (md b d.Queue id d.Items.length)):=by rw[hH4,List.getElem?_append_left (by rw[List.length_set,List.length_set];exact z0),List.getElem?_set_self (by rw[List.length_set];exact z0)]
  have u1:=(old 1 (by omega) (by omega) z1).trans j1
  have u2:=(old 2 (by omega) (by omega) z2).trans j2
  have ui:=(old id (Ne.symm hwi) (by omega) zi).trans ji
  have uw:H4[pb+2]?=some (some ⟨3,1,ac aJ (ws++[p.Warrant])⟩):=by rw[hH4,←l2,List.getElem?_append_right (by simp),List.length_set,List.length_set,Nat.sub_self];rfl
  rw[←hH4]
  have v0:0<H4.length:=by omega
  have v1:1<H4.length:=by omega
  have v2:2<H4.length:=by omega
  have vi:id<H4.length:=by omega
  have vw:pb+2<H4.length:=by omega
  have n0i:¬id=0:=by omega
  have hil:i'<d.Items.length:=(gsI hx)
  have hilL:i'<L.length:=by omega
  have e2:(ac TItem.cells L).set i' (TItem.cells ⟨x.Payment,2,x.Attempts⟩)=ac TItem.cells (L.set i' ⟨x.Payment,2,x.Attempts⟩):=jD TItem.cells L i' ⟨x.Payment,2,x.Attempts⟩
  rw[cIt]at e2
  have e3:(ac TItem.cells (L.set i' ⟨x.Payment,2,x.Attempts⟩)).set i' (TItem.cells ⟨x.Payment,2,x.Attempts+1⟩)=ac TItem.cells (d.Items.map (dH (ws++[p.Warrant]))):=by rw[jD,List.set_set,hset]
  rw[cIt]at e3
  have hx2:(L.set i' ⟨x.Payment,2,x.Attempts⟩)[i']?=some ⟨x.Payment,2,x.Attempts⟩:=List.getElem?_set_self hilL
  simp only at e2 e3
  have hil2:i'<(L.set i' ⟨x.Payment,2,x.Attempts⟩).length:=by rw[List.length_set];exact hilL
  generalize L.set i' ⟨x.Payment,2,x.Attempts⟩=L2 at e2 e3 hx2 hil2
  have n10:¬id=1:=by omega
  have n20:¬id=2:=by omega
  have nwi:¬id=pb+2:=by omega
  simp -dsimp -implicitDefEqProofs [-getElem?_pos,go_sem,hP,t2,u0,v0,ui,vi,hil,hilL,hxL,cIt,n0i,e2,hx2,hil2,wa,e3,t66,wk]
  refine⟨rl.length-(k+1),by omega,?_⟩
  rw[hI]
  refine⟨k+1,pb+2,b,ws++[p.Warrant],full,by omega,rfl,hgo,hb▸jH c6,by rw[List.length_append,List.length_singleton];omega,?_,by omega,Ne.symm nwi,by simp -dsimp[-getElem?_pos,go_sem,t1],by simp -dsimp[-getElem?_pos,go_sem,t2],by simp -dsimp[-getElem?_pos,go_sem,t4],by simp -dsimp[-getElem?_pos,go_sem,t5],?_,by simp -dsimp[-getElem?_pos,go_sem,t11],by simp -dsimp[-getElem?_pos,go_sem,t64],by simp -dsimp[-getElem?_pos,go_sem,t65],by simp -dsimp[-getElem?_pos,go_sem],?_,?_,?_,?_,?_⟩
  ·intro w hw
   rw[gQ hp,List.map_append,List.mem_append]
   rcases List.mem_append.1 hw with hw|hw
   ·exact .inl (hws w hw)
   ·rw[List.mem_singleton]at hw
    exact .inr (by simp[hw])
  ·simp -dsimp -implicitDefEqProofs [-getElem?_pos,go_sem,l2]
  ·simp -dsimp -implicitDefEqProofs [-getElem?_pos,go_sem,n0i,u0,v0]
  ·simp -dsimp -implicitDefEqProofs [-getElem?_pos,go_sem,n10,u1,v1]
  ·simp -dsimp -implicitDefEqProofs [-getElem?_pos,go_sem,n20,u2,v2]
  ·simp -dsimp -implicitDefEqProofs [-getElem?_pos,go_sem,ui,vi]
  ·simp -dsimp -implicitDefEqProofs [-getElem?_pos,go_sem,nwi,uw,vw]
 intro s hs'
 rw[hInv]at hs'
 obtain⟨t1,t2,t4,t5,t10,t11,h0,h1,h2,hi⟩:=hs'
 clear hInv Inv e0 e1 e2 ei
 obtain⟨G,hG⟩:∃G,G=goD d day:=⟨_,rfl⟩
 rw[←hG]at t10 t11 h0 hi
 have g0:=(gsI h0)
 have g1:=(gsI h1)
 have g2:=(gsI h2)
 have gi:=(gsI hi)
 have n10:¬1=id:=by omega
 have n20:¬2=id:=by omega
 have c3':¬(day<eH d.Queue∨day<dS d.Account):=by omega
 have hsd:eh d day=if G.2.1.length=0 then (dq,dO,if G.2.2=true then 3 else 10)else if (cC d.Queue day G.2.1).2.2=0 then (⟨G.1,(cC d.Queue day G.2.1).1,d.Items.map (dH G.2.1)⟩,(cC d.Queue day G.2.1).2.1,0)else (dq,dO,(cC d.Queue day G.2.1).2.2):=by
  rw[eh,if_pos c1,if_pos c2,if_neg c3',←hG]
 refine bE _ _ _ (by rw[hN];kernel_rfl) ?_
 by_cases c4:G.2.1.length=0
 ·rw[if_pos c4]at hsd
  have d4:decide ((G.2.1.length:Int)=0)=true:=decide_eq_true (by omega)
  cases hfull:G.2.2
  ·rw[hfull]at t11 hsd
   simp -dsimp -implicitDefEqProofs [-getElem?_pos,go_sem,hP,t10,d4,c4,t4,t5,h1,g1,h2,g2,t11]
   exact fQ (zer _ hsd)
  ·rw[hfull]at t11 hsd
   simp -dsimp -implicitDefEqProofs [-getElem?_pos,go_sem,hP,t10,d4,c4,t4,t5,h1,g1,h2,g2,t11]
   exact fQ (zer _ hsd)
 rw[if_neg c4]at hsd
 have d4:decide ((G.2.1.length:Int)=0)=false:=decide_eq_false (by omega)
 have lG:G.2.1.length≤100000:=by
  have:=oZ day (dJ d.Queue day) d.Account [] false (by simp)
  rw[hG,goD]
  omega
 have tk:=JN d.Queue day G.2.1 hf.q lG
 have iq:=dr d.Queue
 have iqq:=dr (cC d.Queue day G.2.1).1
 have ibb:=Aq (cC d.Queue day G.2.1).2.1
 have iws:=dG G.2.1
 have e1:aI G.2.1=e9 G.2.1:=rfl
 simp only[cQn,cBt,e1]at tk iq iqq ibb
 simp -dsimp -implicitDefEqProofs [-getElem?_pos,go_sem,hP,t10,d4,c4,t1,t2,h0,g0]
 refine ak (tk.lift _ _) hP Py (by simp[aP];exact⟨by simpa using iq,iws⟩) (qv iqq ibb .sc) ?_
 by_cases c5:(cC d.Queue day G.2.1).2.2=0
 rotate_left
 ·rw[if_neg c5]at hsd
  have d5:=decide_eq_false c5
  simp -dsimp -implicitDefEqProofs [-getElem?_pos,go_sem,hP,d5,t4,t5,h1,g1,h2,g2]
  exact fQ (zer _ hsd)
 rw[if_pos c5]at hsd
 obtain⟨q',hq'⟩:∃q',q'=(cC d.Queue day G.2.1).1:=⟨_,rfl⟩
 obtain⟨bt,hbt⟩:∃bt,bt=(cC d.Queue day G.2.1).2.1:=⟨_,rfl⟩
 simp only[←hq',←hbt]at hsd iqq ibb
 simp -dsimp -implicitDefEqProofs [-getElem?_pos,go_sem,hP,c5,t2,h0,g0,←hq',←hbt]
 obtain⟨H5,hH5⟩:∃H5,H5=List.set s.H 0 (some (md G.1 q' id d.Items.length))++[some ⟨32,3,[[aT q'.Waiting,e9 q'.Known,bY q'.Batches]]⟩,some (⟨111,3,[[iv bt.Number,iv bt.Day,aT bt.Payments]]⟩:AObj)]:=⟨_,rfl⟩
 obtain⟨n,hn⟩:∃n,n=s.H.length:=⟨_,rfl⟩
 have l5:H5.length=n+2:=by rw[hH5,hn];simp
 have old:∀j,j≠0→j<s.H.length→H5[j]?=s.H[j]?:=fun j h1 h2=>by
  rw[hH5,List.getElem?_append_left (by rw[List.length_set];exact h2),List.getElem?_set_ne (Ne.symm h1)]
 have u0:H5[0]?=some (some (md G.1 q' id d.Items.length)):=by rw[hH5,List.getElem?_append_left (by rw[List.length_set];exact g0),List.getElem?_set_self g0]
 have u1:=(old 1 (by omega) g1).trans h1
 have u2:=(old 2 (by omega) g2).trans h2
 have ui:=(old id (by omega) gi).trans hi
 have ub:H5[n+1]?=some (some ⟨111,3,[[iv bt.Number,iv bt.Day,aT bt.Payments]]⟩):=by rw[hH5,hn,List.getElem?_append_right (by simp),List.length_set,Nat.add_sub_cancel_left];rfl
 rw[←hn]at gi g2
 rw[←hH5,←hn]
 have v0:0<H5.length:=by omega
 have v1:1<H5.length:=by omega
 have v2:2<H5.length:=by omega
 have vb:n+1<H5.length:=by omega
 have n12:¬1=2:=by omega
 refine au (fun i=>decide (i=0)||decide (i=n+1)) [] hP (by kernel_rfl) (by kernel_rfl) ?_
 simp -dsimp -implicitDefEqProofs [-getElem?_pos,go_sem,hP,t2,t4,t5,u0,v0,u1,v1,u2,v2,ub,vb,n12]
 refine⟨fun j hj=>?_,fun j hj=>?_,?_⟩
 ·simp only[Bool.or_eq_true,decide_eq_true_eq]at hj
  rw[List.getElem?_set_ne (by omega)]
 ·simp only[Bool.or_eq_true,decide_eq_true_eq]at hj
  rw[List.getElem?_set_ne (by omega)]
 refine nR (cs':=TDesk.cells ⟨G.1,q',d.Items.map (dH G.2.1)⟩) (ds':=TBatch.cells bt) ?_ (AP (aO.1 ibb)) ?_
 ·refine pR (cg (eU _) (cg (fj _) (cg (aV _) (cg (dG _) (cg (di _) (cv (ty:=114) ?_ ?_ (fK _) .nil))))))
  ·rw[List.getElem?_set_ne (Ne.symm (Ne.symm n20)),List.getElem?_set_ne n10]
   exact ui
  ·rw[af,List.length_map]
 ·rw[hR,hsd]
open Go.PA
open Go.RowKit
set_option maxRecDepth 8000 in
set_option maxHeartbeats 2000000 in
theorem xv {row src:Option Nat} (es:List (List AV)) (e:List AV) (i id:Nat) (H:ab) (hi:i≤es.length) (hl:es.length≤100000) (ho:H[id]?=some (some ⟨114,7,es⟩)) (he0:e≠[]):
  MFun Tryz.prog row src 105 [.sref id 0 es.length,iv i,.list 7 [e]] H (fun r H'=>∃jd,r= .sref jd 0 (es.length+1)∧(jd=id∨H.length≤jd)∧H'[jd]?=some (some ⟨114,7,es.take i++e::es.drop i⟩)∧Kept [id] H H'):=by
 obtain⟨C,hC⟩:∃C:AV→ab→Prop,C=fun r H'=>∃jd,r= .sref jd 0 (es.length+1)∧(jd=id∨H.length≤jd)∧H'[jd]?=some (some ⟨114,7,es.take i++e::es.drop i⟩)∧Kept [id] H H':=⟨_,rfl⟩
 rw[←hC]
 have ex:∃r H',C r H':=by
  rw[hC]
  exact⟨.sref H.length 0 (es.length+1),H++[some ⟨114,7,es.take i++e::es.drop i⟩],H.length,rfl,.inr (Nat.le_refl _),by simp,ap _ _ _⟩
 have lid:=(gsI ho)
 obtain⟨n,hn⟩:∃n,n=es.length:=⟨_,rfl⟩
 rw[←hn]at hi hl hC⊢
 by_cases hin:i=n
 ·subst hin
  refine al Tryz.func105 rfl (by simp[Tryz.f105]) (by kernel_rfl) (ex) ?_
  intro E hP hr hs hN
  by_cases h0:i=0
  ·subst h0
   simp -dsimp -implicitDefEqProofs [-getElem?_pos,go_sem,hP,ho,←hn,ax,aS,aL]
   rw[hC]
   exact⟨H.length,rfl,.inr (Nat.le_refl _),by simp -dsimp[-getElem?_pos,go_sem,List.eq_nil_of_length_eq_zero hn.symm],(ay none (by simp) (ai _ _)).trans (ap _ _ _)⟩
  ·simp -dsimp -implicitDefEqProofs [-getElem?_pos,go_sem,hP,ho,←hn,h0,ax,aS,aL]
   refine⟨by omega,by omega,?_⟩
   rw[hC]
   exact⟨H.length,rfl,.inr (Nat.le_refl _),by simp -dsimp[-getElem?_pos,go_sem,hn],(ay none (by simp) (ai _ _)).trans (ap _ _ _)⟩
 ·have hlt:i<n:=by omega
  have hin':¬(i:Int)=n:=by omega
  have w1:=ah ((n:Int)+1) (by omega)
  have w2:=ah ((i:Int)+1) (by omega)
  have w3:=ah ((n:Int)+1-i) (by omega)
  have hesne:es≠[]:=by intro e0;simp[e0]at hn;omega
  refine fR (C:=fun r H'=>C r H'∨∃N,r= .full id 0 (n+1) N∧∃o,H'[id]?=some (some o)∧n+1≤o.es.length∧C (.sref id 0 (n+1)) H') ?_ (fun r H' h=>?_)
  rotate_left
  ·rcases h with h|⟨N,h1,o,h2,h3,h4⟩
   ·exact .inl h
   ·exact .inr ⟨id,n+1,N,o,h1,h2,h3,h4⟩
  refine jc ho hesne (by dsimp only;omega) fun N hN0=>?_
  dsimp only at hN0
  obtain⟨D,hD⟩:∃D:AV→ab→Prop,D=fun r H'=>C r H'∨∃N,r= .full id 0 (n+1) N∧∃o,H'[id]?=some (some o)∧n+1≤o.es.length∧C (.sref id 0 (n+1)) H':=⟨_,rfl⟩
  rw[←hD]
  have exD:∃r H',D r H':=by
   obtain⟨r,H',h⟩:=ex
   rw[hD]
   exact⟨r,H',.inl h⟩
  have fx:∀(id n N:Nat),(if i=0 then some (AV.full id 0 n N)else some (AV.full id i (n-i) N))=some (.full id i (n-i) N):=fun id n N=>by
   split
   ·subst i;rfl
   ·rfl
  have nN:n≤N:=by omega
  have iN:i≤N:=by omega
  have a1:(0:Int)≤(n:Int)+1:=by omega
  have a3:(0:Int)≤(i:Int)+1:=by omega
  have a4:(i:Int)+1≤(n:Int)+1:=by omega
  refine al Tryz.func105 rfl (by simp[Tryz.f105]) (by kernel_rfl) (exD) ?_
  intro E hP hr hs hN
  by_cases hroom:N<n+1
  ·have dN:decide ((N:Int)<(n:Int)+1)=true:=decide_eq_true (by omega)
   obtain⟨zs,hz⟩:=Option.isSome_iff_exists.1 (show (bg Tryz.prog 114).isSome=true by kernel_rfl)
   have hbt:bD Tryz.prog 114=56:=by kernel_rfl
   have hm:(n:Int)+1-i=((n+1-i:Nat):Int):=by omega
   have sx:∀(id n:Nat),(if i=0 then some (AV.sref id 0 n)else some (AV.sref id i (n-i)))=some (.sref id i (n-i)):=fun id n=>by
    split
    ·subst i;rfl
    ·rfl
   simp -dsimp -implicitDefEqProofs [-getElem?_pos,go_sem,hP,dN,ho,←hn,hin,hin',ax,aS,aL,w1,w2,w3,hroom,hi,nN,iN,a1,a3,a4,fx]
   refine kZ (e:=114) (m:=n+1-i) (L:=n+1) (kn:= .i64) (zs:=zs) ho (by rw[hP];kernel_rfl) (by rw[hP];kernel_rfl) (by rw[hP];kernel_rfl) (by omega) rfl (by rw[hP];exact hz) (by omega) hm (by omega) (by omega) hroom (by omega) (by rw[hP,hbt];omega) ?_
   have ho2:(H++[some (⟨114,7,es.take i++List.replicate (n+1-i) zs⟩:AObj)])[id]?=some (some ⟨114,7,es⟩):=by rw[List.getElem?_append_left lid];exact ho
   have hl1:(es.take i++List.replicate (n+1-i) zs).length=n+1:=by simp;omega
   have a7:(i:Int)≤(n:Int)+1:=by omega
   have a8:¬((i:Int)=(n:Int)+1):=by omega
   have a9:i≤n+1:=by omega
   have a10:¬i=n+1:=by omega
   have hA:(es.take i).length=i:=by simp;omega
   have d1:(es.take i++List.replicate (n+1-i) zs).drop (i+1)=List.replicate (n-i) zs:=by
    rw[List.drop_append,List.drop_of_length_le (by omega),hA,List.nil_append,List.drop_replicate]
    congr 1
    omega
   simp -dsimp -implicitDefEqProofs [-getElem?_pos,go_sem,hP,ho2,ax,aS,aL,a7,a8,a9,a10,sx]
   refine dc (e:=114) (ty:=114) (k:=7) (lo:=i) (dn:=n+1-i) (m:=1) (es:=es.take i++List.replicate (n+1-i) zs) (news:=[e]) (es':=es.take i++e::List.replicate (n-i) zs) (by simp) (.inl rfl) (by rw[hP];kernel_rfl) (by rw[hP];kernel_rfl) (by omega) (by rw[hP];kernel_rfl) ?_ rfl (by omega) (by omega) (by simp;omega) ?_ ?_
   ·simp only[dE]
    rw[if_pos (by rw[hP];kernel_rfl)]
   ·rw[d1,List.take_append_of_le_length (by omega),List.take_of_length_le (by omega)]
    simp
   have ho3:(H++[some (⟨114,7,es.take i++e::List.replicate (n-i) zs⟩:AObj)])[id]?=some (some ⟨114,7,es⟩):=by rw[List.getElem?_append_left lid];exact ho
   have a5:¬((i:Int)+1=0):=by omega
   have a6:((n:Int)+1-((i:Int)+1)).toNat=n-i:=by omega
   have a11:¬((i:Int)+1=(n:Int)+1):=by omega
   simp -dsimp -implicitDefEqProofs [-getElem?_pos,go_sem,hP]
   refine au (fun _=>true) [8] hP (by kernel_rfl) (by kernel_rfl) ?_
   simp -dsimp -implicitDefEqProofs [-getElem?_pos,go_sem,hP,ho3,←hn,hin,hin',ax,aS,aL,w1,w2,hi,nN,iN,a1,a3,a4,a5,a6,a7,a8,a11,fx,sx]
   refine dc (e:=114) (ty:=114) (k:=7) (lo:=i+1) (dn:=n-i) (m:=n-i) (es:=es.take i++e::List.replicate (n-i) zs) (news:=es.drop i) (es':=es.take i++e::es.drop i) (by simp) (.inl rfl) (by rw[hP];kernel_rfl) (by rw[hP];kernel_rfl) (by omega) (by rw[hP];kernel_rfl) ?_ (by simp[←hn]) (by omega) (by omega) (by simp;omega) ?_ ?_
   ·simp only[dE,ho3]
    rw[if_pos ⟨by rw[hP];kernel_rfl,by omega⟩,List.take_of_length_le (by simp;omega)]
   ·rw[show es.take i++e::List.replicate (n-i) zs=(es.take i++[e])++List.replicate (n-i) zs from by simp,List.take_append_of_le_length (by simp;omega),List.take_of_length_le (by simp;omega),List.drop_of_length_le (show ((es.take i++[e])++List.replicate (n-i) zs).length≤i+1+(n-i) by simp;omega)]
    simp
   simp -dsimp -implicitDefEqProofs [-getElem?_pos,go_sem,hP]
   rw[hD,hC]
   exact .inl ⟨H.length,rfl,.inr (Nat.le_refl _),by simp,ap _ _ _⟩
  ·have dN:decide ((N:Int)<(n:Int)+1)=false:=decide_eq_false (by omega)
   have a2:(n:Int)+1≤N:=by omega
   have a5:¬((i:Int)+1=0):=by omega
   have a6:((n:Int)+1-((i:Int)+1)).toNat=n-i:=by omega
   have a7:(i:Int)≤(n:Int)+1:=by omega
   have a8:¬((i:Int)=(n:Int)+1):=by omega
   simp -dsimp -implicitDefEqProofs [-getElem?_pos,go_sem,hP,dN,ho,←hn,hin,hin',ax,aS,aL,w1,w2,w3,hroom,hi,nN,iN,a1,a2,a3,a4,a5,a6,a7,a8,fx]
   refine fC (t:=33) (e:=114) (tR:=4) (fn:=Tryz.f153) (id':=id) (lo':=i+1) (dn':=n-i) (by rw[hP];exact Tryz.func153) (by kernel_rfl) (by kernel_rfl) (by kernel_rfl) (by kernel_rfl) (by rw[hP];kernel_rfl) (by rw[hP];kernel_rfl) he0 (.inr ⟨N,rfl⟩) ho (by omega) ?_
   simp -dsimp -implicitDefEqProofs [-getElem?_pos,go_sem,hP]
   refine au (fun _=>true) [8] hP (by kernel_rfl) (by kernel_rfl) ?_
   simp -dsimp -implicitDefEqProofs [-getElem?_pos,go_sem,hP,dN,ho,←hn,hin,hin',ax,aS,aL,w1,w2,w3,hroom,hi,nN,iN,a1,a2,a3,a4,a5,a6,a7,a8,fx]
   refine kT (e:=114) (lo:=i+1) (dn:=n-i) (news:=es.drop i) (es':=es.take (i+1)++es.drop i) ho (.inr ⟨N,rfl⟩) (by rw[hP];kernel_rfl) (by rw[hP];kernel_rfl) (by omega) (by rw[hP];kernel_rfl) ?_ (by simp[←hn]) (by omega) (by omega) (by omega) (by rw[List.drop_of_length_le (show es.length≤i+1+(n-i) by omega),List.append_nil]) ?_
   ·simp only[dE,ho]
    rw[if_pos ⟨by rw[hP];kernel_rfl,by omega⟩,List.take_of_length_le (by simp;omega)]
   simp -dsimp -implicitDefEqProofs [-getElem?_pos,go_sem,hP,lid,ho,ax,aS,aL,a2,a7,a8,fx]
   refine dc (e:=114) (ty:=114) (k:=7) (lo:=i) (dn:=n+1-i) (m:=1) (es:=es.take (i+1)++es.drop i) (news:=[e]) (es':=es.take i++e::es.drop i) (by simp[lid]) (.inr ⟨N,rfl⟩) (by rw[hP];kernel_rfl) (by rw[hP];kernel_rfl) (by omega) (by rw[hP];kernel_rfl) ?_ rfl (by omega) (by omega) (by simp[←hn];omega) ?_ ?_
   ·simp only[dE]
    rw[if_pos (by rw[hP];kernel_rfl)]
   ·rw[List.take_append_of_le_length (by simp;omega),List.take_take,Nat.min_eq_left (by omega),List.drop_append_of_le_length (by simp;omega),List.drop_of_length_le (by simp;omega)]
    simp
   simp -dsimp -implicitDefEqProofs [-getElem?_pos,go_sem,hP,lid]
   rw[hD,hC]
   simp only[List.set_set]
   exact .inr ⟨N,rfl,⟨114,7,es.take i++e::es.drop i⟩,by simp[lid],by simp[←hn];omega,id,rfl,.inl rfl,by simp[lid],ay _ (by simp) (ai _ _)⟩
theorem GU (e:TEntry) (p:TPayment):PFun Tryz.prog none none 102 [.agg e.cells,.iref p.cells] (·=bv (Fq p.Warrant e)):=by
 refine ae Tryz.func102 rfl (by simp[Tryz.f102]) (by kernel_rfl) ?_
 intro E hP hr hs hW hN
 simp -dsimp -implicitDefEqProofs [-getElem?_pos,go_sem,hP,cE,cPy,Fq]
theorem OC {l:List TItem} {y:TItem} {k:Nat} (hk:CutI l y.Payment.Warrant k):ins ltI l y=l.take k++y::l.drop k:=by
 obtain⟨A,B,h1,h2,h3,h4⟩:=kJ ltI l y
 have:A.length=k:=by
  refine CutI.uniq (l:=l) (w:=y.Payment.Warrant) ⟨by rw[h1];simp,fun h x hx=>?_⟩ hk
  by_cases c:h<A.length
  ·rw[h1,List.getElem?_append_left c]at hx
   exact⟨fun _=>c,fun _=>by simpa[ltI]using h3 x (List.mem_of_getElem? hx)⟩
  ·refine⟨fun hb=>?_,fun hc=>absurd hc c⟩
   have hAk:=(hk.2 h x hx).1 hb
   have hlt:A.length<l.length:=by have:=hk.1;omega
   obtain⟨z,hz⟩:∃z,l[A.length]?=some z:=⟨_,List.getElem?_eq_getElem hlt⟩
   have hz1:=(hk.2 A.length z hz).2 (by omega)
   have hzB:B.head?=some z:=by
    rw[h1,List.getElem?_append_right (Nat.le_refl _),Nat.sub_self]at hz
    rw[List.head?_eq_getElem?]
    exact hz
   have:=h4 z hzB
   rw[ltI,decide_eq_true hz1]at this
   cases this
 subst this
 rw[h2,h1]
 simp
set_option maxHeartbeats 2000000 in
theorem Jf (d:TDesk) (p:TPayment) (hf:FitD d):PFun Tryz.prog none none 57 [.agg d.cells,.agg p.cells] (·= .tup [.agg (dK d p).1.cells,iv (dK d p).2]):=by
 refine dX Tryz.func57 rfl (by simp[Tryz.f57]) ?_
 intro E hP hr hs hW hN
 have li:=hf.i
 have id':=dh d
 have ia:=dQ d.Account
 have ie:=fj d.Account.Entries
 have iq:=dr d.Queue
 have ip:=gS p
 have ck:=rD d hf
 have ad:=Ok d.Queue p hf.q
 have io:=dr (gp d.Queue p).1
 have bl:=wV d.Account p.Sub hf.s hf.e
 have ct:=qA d.Account.Entries 102 [.iref p.cells] (Fq p.Warrant) (by have:=hf.e;omega) Qd (by simp[bH];exact p.imm) fun e _=>GU e p
 simp only[cDn]at id' ck
 simp only[cA]at ia bl
 simp only[cQn,cPy]at iq ip ad io ct
 refine bE _ _ _ (by rw[hN];kernel_rfl) ?_
 simp -dsimp -implicitDefEqProofs [-getElem?_pos,go_sem,hP,cDn,cPy]
 refine ak (ck.lift _ _) hP Ki (by simpa using id') .sc ?_
 by_cases c1:cI d=0
 rotate_left
 ·have:dK d p=(dq,cI d):=by rw[dK,if_neg c1]
  simp -dsimp -implicitDefEqProofs [-getElem?_pos,go_sem,hP,c1]
  refine eJ ?_
  rw[this]
 have hd:=fE.1 c1
 simp -dsimp -implicitDefEqProofs [-getElem?_pos,go_sem,hP,c1]
 refine ak (ad.lift _ _) hP Sw (by simpa using⟨iq,ip⟩) (aE io .sc) ?_
 by_cases c2:(gp d.Queue p).2=0
 rotate_left
 ·have:dK d p=(dq,(gp d.Queue p).2):=by rw[dK,if_pos c1,if_neg c2]
  have d2:=decide_eq_false c2
  simp -dsimp -implicitDefEqProofs [-getElem?_pos,go_sem,hP,d2]
  refine eJ ?_
  rw[this]
 simp -dsimp -implicitDefEqProofs [-getElem?_pos,go_sem,hP,c2]
 refine ak (bl.lift _ _) hP Lv (by simpa[aP]using ia) (aE .sc .sc) ?_
 cases c3:(cR d.Account p.Sub).2
 ·have:dK d p=(dq,60):=by rw[dK,if_pos c1,if_pos c2,if_neg (by simp[c3])]
  simp -dsimp -implicitDefEqProofs [-getElem?_pos,go_sem,hP,c3]
  refine eJ ?_
  rw[this]
 simp -dsimp -implicitDefEqProofs [-getElem?_pos,go_sem,hP,c3]
 refine aj ct hP Ps (bI ie (eK (cs:=[.ref 1 0 0]) (by simp -dsimp[-getElem?_pos,go_sem,eC]) (by simp[bH,aP]) (cH.2 trivial))) .sc ?_
 cases c4:d.Account.Entries.any (Fq p.Warrant)
 rotate_left
 ·have:dK d p=(dq,65):=by rw[dK,if_pos c1,if_pos c2,if_pos c3,if_pos c4]
  simp -dsimp -implicitDefEqProofs [-getElem?_pos,go_sem,hP,c4]
  refine eJ ?_
  rw[this]
 have hor:dK d p=(⟨d.Account,(gp d.Queue p).1,ins ltI d.Items ⟨p,1,0⟩⟩,0):=by rw[dK,if_pos c1,if_pos c2,if_pos c3,if_neg (by simp[c4])]
 rw[hor]
 simp -dsimp -implicitDefEqProofs [-getElem?_pos,go_sem,hP,c4]
 have cm:=fun {row src:Option Nat} (H:ab)=>pn (row:=row) (src:=src) d H hf
 simp only[cDn]at cm
 refine ar (by rw[hr,hs];exact cm _) hP Em ?_
 rintro r H2 ⟨id,rfl,hid,ho,hk'⟩
 have b0:=hk' 0 _ (by simp) rfl
 have b1:=hk' 1 _ (by simp) rfl
 have b2:=hk' 2 _ (by simp) rfl
 have b3:=hk' 3 _ (by simp) rfl
 have lt0:=(gsI b0)
 have hid2:4≤id:=by simpa using hid
 have n0:¬0=id:=by omega
 have lt1:=(gsI b1)
 simp -dsimp -implicitDefEqProofs [-getElem?_pos,go_sem,hP,b0,lt0,n0,b1,lt1]
 generalize hH3:List.set H2 0 _=H3
 have e0:H3[0]?=some (some (md d.Account d.Queue id d.Items.length)):=by rw[←hH3,List.getElem?_set_self lt0]
 have e1:H3[1]?=H2[1]?:=by rw[←hH3,List.getElem?_set_ne (by omega)]
 have e2:H3[2]?=H2[2]?:=by rw[←hH3,List.getElem?_set_ne (by omega)]
 have e3:H3[3]?=H2[3]?:=by rw[←hH3,List.getElem?_set_ne (by omega)]
 have ei:H3[id]?=H2[id]?:=by rw[←hH3,List.getElem?_set_ne (by omega)]
 rw[b1]at e1
 rw[b2]at e2
 rw[b3]at e3
 rw[ho]at ei
 clear hH3 b0 b1 b2 b3 lt0 lt1 hk'
 have g0:=(gsI e0)
 have g1:=(gsI e1)
 have g2:=(gsI e2)
 have g3:=(gsI e3)
 have pl:=wH d p.Warrant (by omega)
 simp only[cDn]at pl
 have i1:=eU d.Account.Subs
 have i2:=aV d.Queue.Waiting
 have i3:=dG d.Queue.Known
 have i4:=di d.Queue.Batches
 have i5:=fK d.Items
 have cw:CW H3 [iv d.Account.Credit,cj d.Account.Subs,b9 d.Account.Entries,aT d.Queue.Waiting,e9 d.Queue.Known,bY d.Queue.Batches,.sref id 0 d.Items.length] [iv d.Account.Credit,cj d.Account.Subs,b9 d.Account.Entries,aT d.Queue.Waiting,e9 d.Queue.Known,bY d.Queue.Batches,dt d.Items]:=pR (cg i1 (cg ie (cg i2 (cg i3 (cg i4 (cv ei (by rw[af]) i5 .nil))))))
 refine dA (pl.lift _ _) hP Fk (BX cw (bI .sc (cH.2 trivial))) (by obtain⟨r,h,_⟩:=nW d.Items p.Warrant;exact⟨r,h⟩) (fun r h=>h.flat) ?_
 rintro r ⟨k,hk,rfl,hcut⟩
 obtain⟨k',hk1,hk2⟩:=rr hd.ks p.Warrant
 have:=hcut k' hk1
 subst this
 have hins:=OC (y:=⟨p,1,0⟩) hk1
 generalize decide ((d.Items[k]?).map wrt=some p.Warrant)=bb
 simp -dsimp -implicitDefEqProofs [-getElem?_pos,go_sem,hP]
 refine au (fun i=>decide (i=0)||decide (i=1)||decide (i=3)) [9,11] hP (by kernel_rfl) (by kernel_rfl) ?_
 simp -dsimp -implicitDefEqProofs [-getElem?_pos,go_sem,hP,e0,g0,e1,g1,e3,g3]
 have insm:=fun {row src:Option Nat}=>xv (row:=row) (src:=src) (ac TItem.cells d.Items) [iv p.Warrant,iv p.Payee,iv p.Amount,iv p.Due,iv p.Sub,iv 1,iv 0] k id H3 (by rw[af];exact hk) (by rw[af];omega) ei (by simp)
 rw[af]at insm
 refine ar (by rw[hr,hs];exact insm) hP QR ?_
 rintro r H4 ⟨jd,rfl,hjd,hoj,hk4⟩
 have f0:=hk4 0 _ (by simp;omega) e0
 have f1:=hk4 1 _ (by simp;omega) e1
 have f2:=hk4 2 _ (by simp;omega) e2
 have f3:=hk4 3 _ (by simp;omega) e3
 have m0:=(gsI f0)
 have m2:=(gsI f2)
 have eIt:(ac TItem.cells d.Items).take k++[iv p.Warrant,iv p.Payee,iv p.Amount,iv p.Due,iv p.Sub,iv 1,iv 0]::(ac TItem.cells d.Items).drop k=ac TItem.cells (ins ltI d.Items ⟨p,1,0⟩):=by
  rw[hins,dw,bV]
  simp[ac,cIt]
 rw[eIt]at hoj
 have hjd4:4≤jd:=by omega
 have nj0:¬0=jd:=by omega
 have nj2:¬2=jd:=by omega
 have n20:¬2=0:=by omega
 have aD:Agree (fun i=>decide (i=0)||decide (i=1)||decide (i=3)) H3 H4:=dZ hk4 fun i hi=>by
  simp only[Bool.or_eq_true,decide_eq_true_eq]at hi
  refine⟨by simp;omega,?_⟩
  rcases hi with (rfl|rfl)|rfl
  ·exact⟨_,e0⟩
  ·exact⟨_,e1⟩
  ·exact⟨_,e3⟩
 simp -dsimp -implicitDefEqProofs [-getElem?_pos,go_sem,hP,f0,m0]
 refine⟨aD,?_⟩
 simp -dsimp -implicitDefEqProofs [-getElem?_pos,go_sem,hP,f0,m0,f2,m2]
 refine cZ (cs':=TDesk.cells ⟨d.Account,(gp d.Queue p).1,ins ltI d.Items ⟨p,1,0⟩⟩) ?_ rfl
 refine pR (cg i1 (cg ie (cg (aV _) (cg (dG _) (cg (di _) (cv (ty:=114) ?_ ?_ (fK _) .nil))))))
 ·rw[List.getElem?_set_ne nj2,List.getElem?_set_ne nj0]
  exact hoj
 ·rw[af,nS]
open Go.Shelf
def Ct:Go.Shelf.Ren:=⟨fun|171=>249|243=>256|246=>266|283=>272|284=>273|285=>274|286=>275|129=>283|317=>282|318=>284|319=>285|320=>286|337=>289|338=>290|n=>n,fun|3=>3|9=>9|2=>2|4=>4|171=>333|0=>0|53=>326|37=>319|5=>5|173=>336|212=>349|51=>350|20=>20|213=>351|46=>163|232=>356|233=>357|n=>n,fun|17=>5|18=>6|19=>7|n=>n⟩
theorem NT:Go.Proofs.Lays.n171 Tryz.prog Ct:={
 mixed:=by kernel_rfl
 f129:=Tryz.func283.trans (congrArg some (by kernel_rfl))
 f171:=Tryz.func249.trans (congrArg some (by kernel_rfl))
 f243:=Tryz.func256.trans (congrArg some (by kernel_rfl))
 f246:=Tryz.func266.trans (congrArg some (by kernel_rfl))
 f283:=Tryz.func272.trans (congrArg some (by kernel_rfl))
 f284:=Tryz.func273.trans (congrArg some (by kernel_rfl))
 f285:=Tryz.func274.trans (congrArg some (by kernel_rfl))
 f286:=Tryz.func275.trans (congrArg some (by kernel_rfl))
 f317:=Tryz.func282.trans (congrArg some (by kernel_rfl))
 f318:=Tryz.func284.trans (congrArg some (by kernel_rfl))
 f319:=Tryz.func285.trans (congrArg some (by kernel_rfl))
 f320:=Tryz.func286.trans (congrArg some (by kernel_rfl))
 f337:=Tryz.func289.trans (congrArg some (by kernel_rfl))
 f338:=Tryz.func290.trans (congrArg some (by kernel_rfl))
 t0:=Tryz.underlying0
 a0:=Tryz.isAgg0
 z0:=Tryz.sizeOf0
 v0:=Tryz.zeroValue0
 t2:=Tryz.underlying2
 a2:=Tryz.isAgg2
 z2:=Tryz.sizeOf2
 v2:=Tryz.zeroValue2
 t3:=Tryz.underlying3
 a3:=Tryz.isAgg3
 z3:=Tryz.sizeOf3
 v3:=Tryz.zeroValue3
 t4:=Tryz.underlying4
 a4:=Tryz.isAgg4
 z4:=Tryz.sizeOf4
 v4:=Tryz.zeroValue4
 t5:=Tryz.underlying5
 a5:=Tryz.isAgg5
 z5:=Tryz.sizeOf5
 v5:=Tryz.zeroValue5
 t9:=Tryz.underlying9
 a9:=Tryz.isAgg9
 z9:=Tryz.sizeOf9
 v9:=Tryz.zeroValue9
 t20:=Tryz.underlying20
 a20:=Tryz.isAgg20
 z20:=Tryz.sizeOf20
 v20:=Tryz.zeroValue20
 t37:=Tryz.underlying319
 a37:=Tryz.isAgg319
 z37:=Tryz.sizeOf319
 v37:=Tryz.zeroValue319
 t46:=Tryz.underlying163
 a46:=Tryz.isAgg163
 z46:=Tryz.sizeOf163
 v46:=Tryz.zeroValue163
 t51:=Tryz.underlying350
 a51:=Tryz.isAgg350
 z51:=Tryz.sizeOf350
 v51:=Tryz.zeroValue350
 t53:=Tryz.underlying326
 a53:=Tryz.isAgg326
 z53:=Tryz.sizeOf326
 v53:=Tryz.zeroValue326
 t171:=Tryz.underlying333
 a171:=Tryz.isAgg333
 z171:=Tryz.sizeOf333
 v171:=Tryz.zeroValue333
 t173:=Tryz.underlying336
 a173:=Tryz.isAgg336
 z173:=Tryz.sizeOf336
 v173:=Tryz.zeroValue336
 t212:=Tryz.underlying349
 a212:=Tryz.isAgg349
 z212:=Tryz.sizeOf349
 v212:=Tryz.zeroValue349
 t213:=Tryz.underlying351
 a213:=Tryz.isAgg351
 z213:=Tryz.sizeOf351
 t232:=Tryz.underlying356
 a232:=Tryz.isAgg356
 z232:=Tryz.sizeOf356
 v232:=Tryz.zeroValue356
 t233:=Tryz.underlying357
 a233:=Tryz.isAgg357
 z233:=Tryz.sizeOf357
 v233:=Tryz.zeroValue357
 g17:=by kernel_rfl
 g18:=by kernel_rfl
 g19:=by kernel_rfl}
open Go.RowKit Go.Sort Go.Lib in
theorem strconv_Itoa_small (i:Nat) (hi:i<100) (w:World):
  Calls Tryz.prog 249 #[.int .i64 i] w fun e w'=>e= .returned (.string ⟨(Lib.decDigits i).toArray⟩)∧w'=w:=Any.strconv_Itoa_small NT i hi w
def AB:Go.Shelf.Ren:=⟨fun|172=>248|244=>254|245=>255|247=>261|279=>262|280=>263|281=>264|282=>265|287=>269|316=>270|171=>249|205=>271|321=>280|322=>281|243=>256|246=>266|283=>272|284=>273|285=>274|286=>275|129=>283|317=>282|318=>284|319=>285|320=>286|337=>289|338=>290|n=>n,fun|9=>9|3=>3|75=>306|76=>307|4=>4|5=>5|167=>318|37=>319|0=>0|85=>320|2=>2|168=>322|53=>326|175=>327|46=>163|210=>331|127=>344|145=>347|143=>345|21=>21|171=>333|173=>336|212=>349|51=>350|20=>20|213=>351|232=>356|233=>357|80=>358|n=>n,fun|15=>0|16=>1|17=>5|18=>6|19=>7|n=>n⟩
theorem vI:Go.Proofs.LaysC.n172 Tryz.prog AB:={
 mixed:=by kernel_rfl
 f129:=Tryz.func283.trans (congrArg some (by kernel_rfl))
 f171:=Tryz.func249.trans (congrArg some (by kernel_rfl))
 f172:=Tryz.func248.trans (congrArg some (by kernel_rfl))
 f205:=Tryz.func271.trans (congrArg some (by kernel_rfl))
 f243:=Tryz.func256.trans (congrArg some (by kernel_rfl))
 f244:=Tryz.func254.trans (congrArg some (by kernel_rfl))
 f245:=Tryz.func255.trans (congrArg some (by kernel_rfl))
 f246:=Tryz.func266.trans (congrArg some (by kernel_rfl))
 f247:=Tryz.func261.trans (congrArg some (by kernel_rfl))
 f279:=Tryz.func262.trans (congrArg some (by kernel_rfl))
 f280:=Tryz.func263.trans (congrArg some (by kernel_rfl))
 f281:=Tryz.func264.trans (congrArg some (by kernel_rfl))
 f282:=Tryz.func265.trans (congrArg some (by kernel_rfl))
 f283:=Tryz.func272.trans (congrArg some (by kernel_rfl))
 f284:=Tryz.func273.trans (congrArg some (by kernel_rfl))
 f285:=Tryz.func274.trans (congrArg some (by kernel_rfl))
 f286:=Tryz.func275.trans (congrArg some (by kernel_rfl))
 f287:=Tryz.func269.trans (congrArg some (by kernel_rfl))
 f316:=Tryz.func270.trans (congrArg some (by kernel_rfl))
 f317:=Tryz.func282.trans (congrArg some (by kernel_rfl))
 f318:=Tryz.func284.trans (congrArg some (by kernel_rfl))
 f319:=Tryz.func285.trans (congrArg some (by kernel_rfl))
 f320:=Tryz.func286.trans (congrArg some (by kernel_rfl))
 f321:=Tryz.func280.trans (congrArg some (by kernel_rfl))
 f322:=Tryz.func281.trans (congrArg some (by kernel_rfl))
 f337:=Tryz.func289.trans (congrArg some (by kernel_rfl))
 f338:=Tryz.func290.trans (congrArg some (by kernel_rfl))
 t0:=Tryz.underlying0
 a0:=Tryz.isAgg0
 z0:=Tryz.sizeOf0
 v0:=Tryz.zeroValue0
 t2:=Tryz.underlying2
 a2:=Tryz.isAgg2
 z2:=Tryz.sizeOf2
 v2:=Tryz.zeroValue2
 t3:=Tryz.underlying3
 a3:=Tryz.isAgg3
 z3:=Tryz.sizeOf3
 v3:=Tryz.zeroValue3
 t4:=Tryz.underlying4
 a4:=Tryz.isAgg4
 z4:=Tryz.sizeOf4
 v4:=Tryz.zeroValue4
 t5:=Tryz.underlying5
 a5:=Tryz.isAgg5
 z5:=Tryz.sizeOf5
 v5:=Tryz.zeroValue5
 t9:=Tryz.underlying9
 a9:=Tryz.isAgg9
 z9:=Tryz.sizeOf9
 v9:=Tryz.zeroValue9
 t20:=Tryz.underlying20
 a20:=Tryz.isAgg20
 z20:=Tryz.sizeOf20
 v20:=Tryz.zeroValue20
 t21:=Tryz.underlying21
 a21:=Tryz.isAgg21
 z21:=Tryz.sizeOf21
 v21:=Tryz.zeroValue21
 t37:=Tryz.underlying319
 a37:=Tryz.isAgg319
 z37:=Tryz.sizeOf319
 v37:=Tryz.zeroValue319
 t46:=Tryz.underlying163
 a46:=Tryz.isAgg163
 z46:=Tryz.sizeOf163
 v46:=Tryz.zeroValue163
 t51:=Tryz.underlying350
 a51:=Tryz.isAgg350
 z51:=Tryz.sizeOf350
 v51:=Tryz.zeroValue350
 t53:=Tryz.underlying326
 a53:=Tryz.isAgg326
 z53:=Tryz.sizeOf326
 v53:=Tryz.zeroValue326
 t75:=Tryz.underlying306
 a75:=Tryz.isAgg306
 z75:=Tryz.sizeOf306
 v75:=Tryz.zeroValue306
 t76:=Tryz.underlying307
 a76:=Tryz.isAgg307
 z76:=Tryz.sizeOf307
 v76:=Tryz.zeroValue307
 t85:=Tryz.underlying320
 a85:=Tryz.isAgg320
 z85:=Tryz.sizeOf320
 v85:=Tryz.zeroValue320
 t127:=Tryz.underlying344
 a127:=Tryz.isAgg344
 z127:=Tryz.sizeOf344
 v127:=Tryz.zeroValue344
 t143:=Tryz.underlying345
 a143:=Tryz.isAgg345
 z143:=Tryz.sizeOf345
 v143:=Tryz.zeroValue345
 t145:=Tryz.underlying347
 a145:=Tryz.isAgg347
 z145:=Tryz.sizeOf347
 v145:=Tryz.zeroValue347
 t167:=Tryz.underlying318
 a167:=Tryz.isAgg318
 z167:=Tryz.sizeOf318
 v167:=Tryz.zeroValue318
 t168:=Tryz.underlying322
 a168:=Tryz.isAgg322
 z168:=Tryz.sizeOf322
 v168:=Tryz.zeroValue322
 t171:=Tryz.underlying333
 a171:=Tryz.isAgg333
 z171:=Tryz.sizeOf333
 v171:=Tryz.zeroValue333
 t173:=Tryz.underlying336
 a173:=Tryz.isAgg336
 z173:=Tryz.sizeOf336
 v173:=Tryz.zeroValue336
 t175:=Tryz.underlying327
 a175:=Tryz.isAgg327
 z175:=Tryz.sizeOf327
 v175:=Tryz.zeroValue327
 t210:=Tryz.underlying331
 a210:=Tryz.isAgg331
 z210:=Tryz.sizeOf331
 v210:=Tryz.zeroValue331
 t212:=Tryz.underlying349
 a212:=Tryz.isAgg349
 z212:=Tryz.sizeOf349
 v212:=Tryz.zeroValue349
 t213:=Tryz.underlying351
 a213:=Tryz.isAgg351
 z213:=Tryz.sizeOf351
 t232:=Tryz.underlying356
 a232:=Tryz.isAgg356
 z232:=Tryz.sizeOf356
 v232:=Tryz.zeroValue356
 t233:=Tryz.underlying357
 a233:=Tryz.isAgg357
 z233:=Tryz.sizeOf357
 v233:=Tryz.zeroValue357
 g15:=by kernel_rfl
 g16:=by kernel_rfl
 g17:=by kernel_rfl
 g18:=by kernel_rfl
 g19:=by kernel_rfl
 t80:=Tryz.underlying358
 a80:=Tryz.isAgg358
 z80:=Tryz.sizeOf358
 v80:=Tryz.zeroValue358
 i0:=by kernel_rfl
 i2:=by kernel_rfl
 i3:=by kernel_rfl
 i4:=by kernel_rfl
 i5:=by kernel_rfl
 i9:=by kernel_rfl
 i20:=by kernel_rfl
 i21:=by kernel_rfl
 i37:=by kernel_rfl
 i46:=by kernel_rfl
 i51:=by kernel_rfl
 i53:=by kernel_rfl
 i75:=by kernel_rfl
 i76:=by kernel_rfl
 i80:=by kernel_rfl
 i85:=by kernel_rfl
 i127:=by kernel_rfl
 i143:=by kernel_rfl
 i145:=by kernel_rfl
 i167:=by kernel_rfl
 i168:=by kernel_rfl
 i171:=by kernel_rfl
 i173:=by kernel_rfl
 i175:=by kernel_rfl
 i210:=by kernel_rfl
 i212:=by kernel_rfl
 i232:=by kernel_rfl
 i233:=by kernel_rfl
 m15:=by kernel_rfl
 m16:=by kernel_rfl
 m17:=by kernel_rfl
 m18:=by kernel_rfl
 m19:=by kernel_rfl
 c0:=by kernel_rfl
 c2:=by kernel_rfl
 c3:=by kernel_rfl
 c4:=by kernel_rfl
 c5:=by kernel_rfl
 c9:=by kernel_rfl
 c20:=by kernel_rfl
 c21:=by kernel_rfl
 c37:=by kernel_rfl
 c46:=by kernel_rfl
 c51:=by kernel_rfl
 c53:=by kernel_rfl
 c75:=by kernel_rfl
 c76:=by kernel_rfl
 c80:=by kernel_rfl
 c85:=by kernel_rfl
 c127:=by kernel_rfl
 c143:=by kernel_rfl
 c145:=by kernel_rfl
 c167:=by kernel_rfl
 c168:=by kernel_rfl
 c171:=by kernel_rfl
 c173:=by kernel_rfl
 c175:=by kernel_rfl
 c210:=by kernel_rfl
 c212:=by kernel_rfl
 c213:=by kernel_rfl
 c232:=by kernel_rfl
 c233:=by kernel_rfl}
open Go.RowKit in
theorem strconv_Atoi_ok (s:ByteArray) (hmax:s.size≤9223372036854775806) (v:Int) (h:Lib.atoiAll s.data.toList= .ok v) (w:World):
  Calls Tryz.prog 248 #[.string s] w fun e w'=>e= .returned (.tuple #[.int .i64 v,.nilIface])∧(w'=w∨∃t,w'=Lib.bytesWorld w 5 t):=Any.strconv_Atoi_ok vI s hmax v h w
def CM:Go.Shelf.Ren:=⟨fun|143=>260|219=>268|217=>276|225=>277|224=>278|267=>279|266=>287|314=>288|n=>n,fun|9=>9|3=>3|4=>4|5=>5|46=>163|146=>353|51=>350|n=>n,fun|1=>4|n=>n⟩
theorem N9:Go.Proofs.Lays.n143 Tryz.prog CM:={
 mixed:=by kernel_rfl
 f143:=Tryz.func260.trans (congrArg some (by kernel_rfl))
 f217:=Tryz.func276.trans (congrArg some (by kernel_rfl))
 f219:=Tryz.func268.trans (congrArg some (by kernel_rfl))
 f224:=Tryz.func278.trans (congrArg some (by kernel_rfl))
 f225:=Tryz.func277.trans (congrArg some (by kernel_rfl))
 f266:=Tryz.func287.trans (congrArg some (by kernel_rfl))
 f267:=Tryz.func279.trans (congrArg some (by kernel_rfl))
 f314:=Tryz.func288.trans (congrArg some (by kernel_rfl))
 t3:=Tryz.underlying3
 a3:=Tryz.isAgg3
 z3:=Tryz.sizeOf3
 v3:=Tryz.zeroValue3
 t4:=Tryz.underlying4
 a4:=Tryz.isAgg4
 z4:=Tryz.sizeOf4
 v4:=Tryz.zeroValue4
 t5:=Tryz.underlying5
 a5:=Tryz.isAgg5
 z5:=Tryz.sizeOf5
 v5:=Tryz.zeroValue5
 t9:=Tryz.underlying9
 a9:=Tryz.isAgg9
 z9:=Tryz.sizeOf9
 v9:=Tryz.zeroValue9
 t46:=Tryz.underlying163
 a46:=Tryz.isAgg163
 z46:=Tryz.sizeOf163
 v46:=Tryz.zeroValue163
 t51:=Tryz.underlying350
 a51:=Tryz.isAgg350
 z51:=Tryz.sizeOf350
 v51:=Tryz.zeroValue350
 t146:=Tryz.underlying353
 a146:=Tryz.isAgg353
 z146:=Tryz.sizeOf353
 v146:=Tryz.zeroValue353
 g1:=by kernel_rfl}
open Go.RowKit Go.Lib in
theorem strings_Index_one (s:ByteArray) (c:UInt8) (w:World):
  Calls Tryz.prog 260 #[.string s,.string ⟨#[c]⟩] w fun e w'=>e= .returned (.int .i64 (Lib.indexByte s.data.toList c))∧w'=w:=Any.strings_Index_one N9 s c w
open Go.RowKit Go.Shelf
attribute [local go_sem] Oper.semAt_some
def du (c:UInt8):Nat→List UInt8→List (List UInt8)
 |0,l=>[l]
 |n+1,l=>if Lib.indexByte l c<0 then [l]else l.take (Lib.indexByte l c).toNat::du c n (l.drop ((Lib.indexByte l c).toNat+1))
def dot:ByteArray:=⟨#[46]⟩
def bl (s:ByteArray):List UInt8:=s.data.toList
def pH (l:List UInt8):ByteArray:=⟨l.toArray⟩
def EG (W:World) (b:Nat):Nat:=match W.cell? ⟨b,0,none⟩with|some (.string s)=>s.size|_=>0
theorem Oo (s:ByteArray):pH (bl s)=s:=rfl
theorem LA (s:ByteArray) (k:Nat):pH ((bl s).take k)=s.extract 0 k:=(Lib.Pa.extract_upto s k).symm
theorem Dn (s:ByteArray) (k:Nat):bl (s.extract k s.size)=(bl s).drop k:=by rw[Lib.Pa.extract_from];rfl
theorem rY (s:ByteArray) (k:Nat):(s.extract k s.size).size=s.size-k:=by
 have:=congrArg List.length (Dn s k)
 rw[List.length_drop]at this
 exact this
theorem pY {c:UInt8} {n:Nat} {l:List UInt8} (h:Lib.indexByte l c<0):du c n l=[l]:=by cases n<;>simp[du,h]
theorem zu {W:World} {b:Nat} {s:ByteArray} (h:Boxed W b 9 (.string s)):EG W b=s.size:=by rw[EG,h.cell]
theorem yS (s:ByteArray) (w:World):CallsIn Fence.wide 9 Tryz.prog 260 #[.string s,.string dot] w fun e w'=>e= .returned (.int .i64 (Lib.indexByte (bl s) 46))∧w'=w:=callsIn_wide.2 (strings_Index_one s 46 w)
set_option maxRecDepth 100000 in
set_option maxHeartbeats 1000000 in
theorem Hn (l B1 B2 B3:Nat) (s0:ByteArray) (J Jx:List (List UInt8)→World→Prop)
  (hJ:∀pre W (s s':ByteArray),J pre W→Boxed W B2 9 (.string s)→J pre (W.setCell ⟨B2,0,none⟩ (.string s')))
  (hY:∀pre x W,J pre W→pre++[x]<+:du 46 s0.size (bl s0)→YieldAt Fence.wide 9 Tryz.prog l #[.string (pH x)] W fun e W'=>
   (e= .returned (.bool true)∧J (pre++[x]) W'∧(∀b,b=B1∨b=B2∨b=B3→W'.heap[b]?=W.heap[b]?))∨(e= .returned (.bool false)∧Jx (pre++[x]) W'))
  (W:World) (hlim:s0.size≤1000000) (h1:Boxed W B1 9 (.string dot)) (h2:Boxed W B2 9 (.string s0)) (h3:Boxed W B3 3 (.int .i64 0)) (d12:B1≠B2) (d32:B3≠B2) (h0:J [] W):
  CallsIn Fence.wide 10 Tryz.prog 258 #[.func (.yield l) #[] #[],.pointer (some ⟨B1,0,none⟩),.pointer (some ⟨B2,0,none⟩),.pointer (some ⟨B3,0,none⟩)] W fun e W'=>(∃v,e= .returned v)∧
   ((∃ys,ys=du 46 s0.size (bl s0)∧J ys W')∨(∃pre,Jx pre W')):=by
 have hlen:s0.size=(bl s0).length:=rfl
 refine callsIn_of_wp Tryz.func258 rfl trivial ?_ rfl
 simp only[Tryz.ntmps258,List.size_toArray,List.length_cons,List.length_nil,Nat.reduceAdd,Nat.reduceSub,Array.replicate_succ,Array.replicate_zero,List.push_toArray,List.append_toArray,List.nil_append,List.cons_append]
 have c1:=h1.cell
 have c2:=h2.cell
 have c3:=h3.cell
 gi_wp2
 gi_loopw [] (fun wr=>∃(pre:List (List UInt8)) (rest:ByteArray) (n:Nat),du 46 s0.size (bl s0)=pre++du 46 n (bl rest)∧rest.size≤n∧rest.size≤1000000∧J pre wr∧Boxed wr B1 9 (.string dot)∧Boxed wr B2 9 (.string rest)∧Boxed wr B3 3 (.int .i64 0))
  (fun wr=>EG wr B2)
 case atStart=>
  exact⟨[],s0,s0.size,rfl,Nat.le_refl _,hlim,h0,h1,h2,h3⟩
 case round=>
  obtain⟨pre,rest,n,hp,hn,hr,hj,b1,b2,b3⟩:=hrel
  clear c1 c2 c3
  have c1:=b1.cell
  have c2:=b2.cell
  have c3:=b3.cell
  have f2:=b2.frozen
  by_cases hneg:Lib.indexByte (bl rest) 46<0
  ·obtain⟨fn,tmps,assign,body,hy,hR⟩:=hY pre (bl rest) wr hj (by rw[hp,pY hneg];exact List.prefix_rfl)
   rw[pY hneg]at hp
   rw[Oo]at hy
   gi_wp2_with (refine⟨trivial,?_⟩;gi_at_call 260;refine (yS rest _).mono ?_;rintro e w' ⟨rfl,rfl⟩)
   refine hR.mono ?_
   rintro e W3 (⟨rfl,hJ3,hk3⟩|⟨rfl,hJx3⟩)
   ·gi_wp2
    go_end0
    exact⟨⟨_,rfl⟩,.inl ⟨_,hp.symm,hJ3⟩⟩
   ·gi_wp2
    go_end0
    exact⟨⟨_,rfl⟩,.inr ⟨_,hJx3⟩⟩
  ·obtain⟨k,hk⟩:∃k:Nat,Lib.indexByte (bl rest) 46=k:=⟨(Lib.indexByte (bl rest) 46).toNat,by omega⟩
   rw[hk]at hneg
   have hkl:k<rest.size:=by
    have:=(Lib.indexByte_some hk).1
    exact (gsI this)
   have w1:wrap64 (k:Int)=k:=by unfold wrap64;omega
   have w2:wrap64 ((k:Int)+(dot.size:Nat))=((k+1:Nat):Int):=by rw[show dot.size=1 from rfl];unfold wrap64;omega
   have hk1:((k+1:Nat):Int)≤rest.size:=by omega
   have hk0:(0:Int)≤((k+1:Nat):Int):=by omega
   have tn:(((k+1:Nat):Int)).toNat=k+1:=rfl
   obtain⟨q,hq⟩:∃q:Nat,k+1=q:=⟨_,rfl⟩
   rw[hq]at w2 hk1 hk0 tn
   obtain⟨fn,tmps,assign,body,hy,hR⟩:=hY pre ((bl rest).take k) wr hj (by obtain⟨n',rfl⟩:∃n',n=n'+1:=⟨n-1,by omega⟩;rw[hp];simp[du,hk,hneg])
   rw[LA]at hy
   gi_wp2_with (refine⟨trivial,?_⟩;gi_at_call 260;refine (yS rest _).mono ?_;rintro e w' ⟨rfl,rfl⟩;rw[hk])
   refine hR.mono ?_
   have b2:=b2
   rintro e W3 (⟨rfl,hJ3,hk3⟩|⟨rfl,hJx3⟩)
   ·have b1':Boxed W3 B1 9 (.string dot):=(hk3 B1 (.inl rfl)).trans b1
    have b2':Boxed W3 B2 9 (.string rest):=(hk3 B2 (.inr (.inl rfl))).trans b2
    have b3':Boxed W3 B3 3 (.int .i64 0):=(hk3 B3 (.inr (.inr rfl))).trans b3
    have c1:=b1'.cell
    have c2:=b2'.cell
    have f2:=b2'.frozen
    gi_wp2
    refine⟨⟨_,_,_,_,_,_,_,_,_,_,_,_,_,_,_,_,_,_,_,_,_,_,⟨pre++[(bl rest).take k],rest.extract q rest.size,n-1,?_,?_,?_,hJ _ _ _ _ hJ3 b2',b1'.kept (grownBy_setCell' _ _ _) (by simpa using d12),b2'.set _,b3'.kept (grownBy_setCell' _ _ _) (by simpa using d32)⟩,rfl⟩,?_⟩
    ·obtain⟨n',rfl⟩:∃n',n=n'+1:=⟨n-1,by omega⟩
     rw[hp,Dn,←hq]
     simp[du,hk]
     omega
    ·rw[rY];omega
    ·rw[rY];omega
    ·rw[zu b2,zu (b2'.set _),rY]
     omega
   ·gi_wp2
    refine bodyPost_ret (results_none rfl _ _ _) rfl ?_
    exact⟨⟨_,rfl⟩,.inr ⟨_,hJx3⟩⟩
theorem MG {g:Operand} {p:Tmp} {assign body:Code} {Q:Exit→Act→World→Prop} {a:Act} {w:World} {B1 B2 B3:Nat} (s0:ByteArray)
  (hg:a.eval g= .func (.func 258) #[] #[.pointer (some ⟨B1,0,none⟩),.pointer (some ⟨B2,0,none⟩),.pointer (some ⟨B3,0,none⟩)])
  (hlim:s0.size≤1000000) (h1:Boxed w B1 9 (.string dot)) (h2:Boxed w B2 9 (.string s0)) (h3:Boxed w B3 3 (.int .i64 0)) (d12:B1≠B2) (d32:B3≠B2)
  (I Ix:List (List UInt8)→World→Prop)
  (hI:∀pre W W' b,I pre W∨Ix pre W→W.grownBy W' (some b)→((b=B2∧∃s,Boxed W B2 9 (.string s))∨(w.heap.size≤b∧∀o,W.heap[b]?=some o→o.isCells=false))→(I pre W→I pre W')∧(Ix pre W→Ix pre W'))
  (h0:I [] w)
  (hbody:∀l pre x W,I pre W→pre++[x]<+:du 46 s0.size (bl s0)→assign.wpIn (Fence.wide.inRound l) 9 Tryz.prog (Exit.then (fun a₁ w₁=>w₁=W∧∀W1,I pre W1→w.heap.size≤W1.heap.size→
   body.wpIn (Fence.wide.inRound l) 9 Tryz.prog (fun e a3 W3=>match e with
    | .normal=>KeepsOthers W1 W3∧(∀b,b<w.heap.size→b=B1∨b=B2∨b=B3→W3.heap[b]?=W1.heap[b]?)∧I (pre++[x]) W3
    | .ret=>KeepsOthers W1 W3∧Ix (pre++[x]) W3
    |_=>False) a₁ W1) (fun _ _ _=>False)) {tmps:=a.tmps.setIfInBounds p (.string (pH x)),defers:=[]} W)
  (hdone:∀(D:Nat) (W:World),w.heap.size≤D→I (du 46 s0.size (bl s0)) W→W.heap[D]?=some (.deferred (some []))→Q .normal {a with defers:={target:= .collected D,args:=#[]}::a.defers} W)
  (hstop:∀(D:Nat) (pre:List (List UInt8)) (W:World),w.heap.size≤D→Ix pre W→W.heap[D]?=some (.deferred (some []))→Code.ret.wpIn Fence.wide 11 Tryz.prog Q {a with defers:={target:= .collected D,args:=#[]}::a.defers} W):
  (Code.rangeFunc g #[p] assign body).wpIn Fence.wide 11 Tryz.prog Q a w:=by
 refine wpIn_rangeFunc ?_
 intro fn hfn
 obtain⟨rec,hrec⟩:∃rec:LoopState→Option Code→Loop,rec=fun st pe=>{state:=st,pending:=pe,fn,tmps:=a.tmps,params:=#[p],assign,body,defers:=w.heap.size}:=⟨_,rfl⟩
 obtain⟨W1,hW1⟩:∃W1,(w.alloc (.deferred (some []))).alloc (.loop (rec .ready none))=W1:=⟨_,rfl⟩
 obtain⟨L,hL⟩:∃L,L=w.heap.size+1:=⟨_,rfl⟩
 obtain⟨D,hD⟩:∃D,D=w.heap.size:=⟨_,rfl⟩
 have lt1:=h1.lt
 have lt2:=h2.lt
 have lt3:=h3.lt
 have hL1:W1.heap[L]?=some (.loop (rec .ready none)):=by
  rw[←hW1,hL];have:=World.alloc_heap_new (w.alloc (.deferred (some []))) (.loop (rec .ready none));rwa[World.size_alloc]at this
 have hD1:W1.heap[D]?=some (.deferred (some [])):=by
  rw[←hW1,hD];exact (Below.heap_alloc _ _ _ (by simp)).trans (World.alloc_heap_new w _)
 have hsz1:w.heap.size≤W1.heap.size:=by rw[←hW1,World.size_alloc,World.size_alloc];omega
 have alloc1:∀(W:World) (o:Obj),W.grownBy (W.alloc o) (some W.heap.size):=fun W o=>⟨rfl,rfl,rfl,by simp,fun k hk _=>Below.heap_alloc W o k hk⟩
 have hI1:I [] W1:=by
  rw[←hW1]
  refine (hI _ _ _ _ (.inl ?_) (alloc1 _ _) (.inr ⟨by simp,fun o ho=>by simp at ho⟩)).1 ?_<;>
   exact (hI _ _ _ _ (.inl h0) (alloc1 _ _) (.inr ⟨Nat.le_refl _,fun o ho=>by simp at ho⟩)).1 h0
 have old:∀b,b<w.heap.size→W1.heap[b]?=w.heap[b]?:=fun b hb=>by
  rw[←hW1]
  exact (Below.heap_alloc _ _ _ (by simp;omega)).trans (Below.heap_alloc _ _ _ hb)
 refine⟨L,[{target:= .collected D,args:=#[]}],W1,{target:= .fn (.func 258) #[.pointer (some ⟨B1,0,none⟩),.pointer (some ⟨B2,0,none⟩),.pointer (some ⟨B3,0,none⟩)],args:=#[.func (.yield L) #[] #[]]},W1,258,
  #[.func (.yield L) #[] #[],.pointer (some ⟨B1,0,none⟩),.pointer (some ⟨B2,0,none⟩),.pointer (some ⟨B3,0,none⟩)],W1,?_,?_,?_,?_,fun h=>by simp,?_⟩
 ·rw[←hW1,hrec,hL,hD];exact run_enterLoop_outer _ _ _ _ _
 ·simp only[resolve,hg]
  simp[go_sem]
 ·intro f' hf';trivial
 ·simp[invoke,go_sem,callFunc,Tryz.func258,Tryz.f258]
 ·have turn:∀{pre W} (o o':Obj) (b:Nat),I pre W∨Ix pre W→w.heap.size≤b→W.heap[b]?=some o→o.isCells=false→(I pre W→I pre (W.putObj b o'))∧(Ix pre W→Ix pre (W.putObj b o')):=fun {pre W} o o' b h hb ho hc=>
   hI pre W _ b h (grownBy_putObj' W b o') (.inr ⟨hb,fun o2 h2=>by rw[ho]at h2;cases h2;exact hc⟩)
  refine (Hn L B1 B2 B3 s0 (fun pre W=>I pre W∧w.heap.size≤W.heap.size∧W.heap[L]?=some (.loop (rec .ready none))∧W.heap[D]?=some (.deferred (some [])))
   (fun pre W=>Ix pre W∧W.heap[L]?=some (.loop (rec .done (some .ret)))∧W.heap[D]?=some (.deferred (some []))) ?_ ?_ W1 hlim ((old _ lt1).trans h1) ((old _ lt2).trans h2) ((old _ lt3).trans h3) d12 d32 ⟨hI1,hsz1,hL1,hD1⟩).mono ?_
  ·rintro pre W s s' ⟨hi,hsz,hl,hd⟩ hb
   have hg':=grownBy_setCell' W B2 (.string s')
   refine⟨(hI _ _ _ _ (.inl hi) hg' (.inl ⟨rfl,s,hb⟩)).1 hi,Nat.le_trans hsz hg'.size,(hg'.block L (Array.getElem?_eq_some_iff.1 hl).1 (by simp;omega)).trans hl,(hg'.block D (Array.getElem?_eq_some_iff.1 hd).1 (by simp;omega)).trans hd⟩
  ·rintro pre x W ⟨hi,hsz,hl,hd⟩ hpre
   have hlt:=(Array.getElem?_eq_some_iff.1 hl).1
   have hy:=run_yield (P:=Tryz.prog) (args:=#[.string (pH x)]) hl (by rw[hrec];rfl)
   rw[hrec]at hy
   have hy:(Instr.yield L #[.string (pH x)]).run Tryz.prog W= .ok (.round L fn (a.tmps.setIfInBounds p (.string (pH x))) assign body) W:=by
    rw[hy,show (#[p].zip #[Value.string (pH x)])=#[(p,Value.string (pH x))]from by simp]
    simp
   refine⟨fn,_,assign,body,hy,roundIn_of_wpIn hfn (wpIn_mono (hbody L pre x W hi hpre) ?_)⟩
   intro e a₁ w₁ he
   cases e with
   |normal=>
    obtain⟨rfl,hb⟩:=he
    have hl2:(w₁.putObj L (.loop {rec .ready none with state:= .busy})).heap[L]?=some (.loop {rec .ready none with state:= .busy}):=World.putObj_heap_same hlt
    have hd2:(w₁.putObj L (.loop {rec .ready none with state:= .busy})).heap[D]?=some (.deferred (some [])):=(World.putObj_heap_other (by omega)).trans hd
    refine⟨_,run_beginRound hl (by rw[hrec]),wpIn_mono (hb _ ((turn _ _ _ (.inl hi) (by omega) hl rfl).1 hi) (by simpa using hsz)) ?_⟩
    have fin:∀(jump:Option Code) (W3:World),KeepsOthers (w₁.putObj L (.loop {rec .ready none with state:= .busy})) W3→
      (Instr.endRound L jump).run Tryz.prog W3= .ok (.bool jump.isNone) (W3.putObj L (.loop (rec (if jump.isNone then .ready else .done) jump)))∧
      W3.heap[L]?=some (.loop {rec .ready none with state:= .busy})∧
      (W3.putObj L (.loop (rec (if jump.isNone then .ready else .done) jump))).heap[L]?=some (.loop (rec (if jump.isNone then .ready else .done) jump))∧
      (W3.putObj L (.loop (rec (if jump.isNone then .ready else .done) jump))).heap[D]?=some (.deferred (some [])):=fun jump W3 hk3=>by
     have hl3:=hk3.same _ _ hl2 rfl
     have:=run_endRound (P:=Tryz.prog) jump hl3
     rw[hrec]at this⊢
     exact⟨this,by rw[hrec]at hl3;exact hl3,World.putObj_heap_same (Array.getElem?_eq_some_iff.1 hl3).1,(World.putObj_heap_other (by omega)).trans (hk3.same _ _ hd2 rfl)⟩
    intro e3 a3 W3 hp
    cases e3 with
    |normal=>
     obtain⟨hk3,hb3,hi3⟩:=hp
     obtain⟨hr,hl3,hl4,hd4⟩:=fin none W3 hk3
     refine⟨_,_,hr,.inl ⟨rfl,⟨(turn _ _ _ (.inl hi3) (by omega) hl3 rfl).1 hi3,?_,hl4,hd4⟩,fun b hb'=>?_⟩⟩
     ·have:=hk3.size
      simp at this⊢
      omega
     ·have hbl:b<w.heap.size:=by rcases hb' with rfl|rfl|rfl<;>assumption
      exact ((World.putObj_heap_other (by omega)).trans (hb3 b hbl hb')).trans (World.putObj_heap_other (by omega))
    |ret=>
     obtain⟨hk3,hi3⟩:=hp
     obtain⟨hr,hl3,hl4,hd4⟩:=fin (some .ret) W3 hk3
     exact⟨_,_,hr,.inr ⟨rfl,(turn _ _ _ (.inr hi3) (by omega) hl3 rfl).2 hi3,hl4,hd4⟩⟩
    |_=>exact hp.elim
   |_=>exact he.elim
  ·rintro e W2 ⟨⟨v,rfl⟩,(⟨ys,rfl,hi,_,hl,hd⟩|⟨pre,hi,hl,hd⟩)⟩
   ·exact⟨none,_,by have:=run_endLoop (P:=Tryz.prog) hl (by rw[hrec];simp);rw[hrec]at this;exact this,hdone D _ (by omega) ((turn _ _ _ (.inl hi) (by omega) hl rfl).1 hi) ((World.putObj_heap_other (by omega)).trans hd)⟩
   ·exact⟨some .ret,_,by have:=run_endLoop (P:=Tryz.prog) hl (by rw[hrec];simp);rw[hrec]at this;exact this,hstop D pre _ (by omega) ((turn _ _ _ (.inr hi) (by omega) hl rfl).2 hi) ((World.putObj_heap_other (by omega)).trans hd)⟩
open Go.RowKit Go.Shelf
attribute [local go_sem] Oper.semAt_some
def gu (l:List UInt8):Option Int:=match Lib.atoiAll l with
 | .ok n=>if 1≤n∧n≤99∧Lib.decDigits n.toNat=l then some n else none
 |_=>none
def dV (s:ByteArray):List Int:=match (du 46 s.size (bl s)).mapM gu with
 |some ns=>if ns.length≤4 then ns else []
 |none=>[]
theorem wF (c:UInt8):∀(n:Nat) (l x:List UInt8),x∈du c n l→x.length≤l.length
 |0,l,x,h=>by simp[du]at h;simp[h]
 |n+1,l,x,h=>by
  unfold du at h
  split at h
  ·simp at h;simp[h]
  ·rcases List.mem_cons.1 h with rfl|h
   ·rw[List.length_take];omega
   ·have:=wF c n _ _ h
    rw[List.length_drop]at this
    omega
theorem p7 (c:UInt8):∀(n:Nat) (l:List UInt8),(du c n l).length≤n+1
 |0,l=>by simp[du]
 |n+1,l=>by
  unfold du
  split
  ·simp
  ·have:=p7 c n (l.drop ((Lib.indexByte l c).toNat+1))
   simp
   omega
theorem Bt:∀{l:List (List UInt8)} {ns:List Int},l.mapM gu=some ns→ns.length=l.length
 |[],ns,h=>by simp at h;simp[h]
 |x::l,ns,h=>by
  simp only[List.mapM_cons,Option.bind_eq_bind,Option.bind_eq_some_iff,Option.pure_def,Option.some.injEq]at h
  obtain⟨a,_,b,hb,rfl⟩:=h
  simp[Bt hb]
theorem gOf {W W':World} (hb:Below W.heap.size W W'):W.grownBy W' none:=⟨hb.os,hb.tape,hb.output,hb.size,fun k hk _=>hb.block k hk⟩
theorem sa {W:World} {b b':Nat} {e:TypeId} {size k:Nat} {v:Value} {xs:List Value} (h:W.ownsRow b e size v k xs) (hb:b'≤b):W.ownsRow b' e size v k xs:=by
 refine⟨h.1,?_⟩
 rcases h.2 with⟨rfl,h0⟩|⟨g,cap,cur,rfl,h1,h2⟩
 ·exact .inl ⟨rfl,h0⟩
 ·exact .inr ⟨g,cap,cur,rfl,by omega,h2⟩
theorem CH {W:World} {b:Nat} {e:TypeId} {size k:Nat} {v:Value} {xs:List Value} (h:W.ownsRow b e size v k xs) {j:Nat} (hj:j<b):some j≠v.ownBlock:=by
 rcases h.2 with⟨rfl,h0⟩|⟨g,cap,cur,rfl,h1,h2⟩
 ·simp[Value.ownBlock]
 ·simp[Value.ownBlock];omega
theorem l6 (n:Nat) (s:ByteArray) (hlim:s.size≤1000000) (v:Int) (h:Lib.atoiAll (bl s)= .ok v) (w:World):
  CallsIn Fence.wide n Tryz.prog 248 #[.string s] w fun e w'=>e= .returned (.tuple #[.int .i64 v,.nilIface])∧Below w.heap.size w w':=by
 refine callsIn_wide.2 ((strconv_Atoi_ok s (by omega) v h w).mono ?_)
 rintro e w' ⟨rfl,hw⟩
 refine⟨rfl,?_⟩
 rcases hw with rfl|⟨t,rfl⟩
 ·exact Below.refl _ _
 ·exact Lib.bytesWorld_below _ _ _
theorem Dv (n:Nat) (s:ByteArray) (hlim:s.size≤1000000) (h:∀v,Lib.atoiAll (bl s)≠ .ok v) (w:World) (hv:∀g,g∈([0,1]:List Nat)→∃t p,w.cell? ⟨g,0,none⟩=some (.iface t p)):
  CallsIn Fence.wide n Tryz.prog 248 #[.string s] w fun e w'=>∃v t p,e= .returned (.tuple #[.int .i64 v,.iface t p])∧Below w.heap.size w w':=by
 obtain⟨t1,p1,e1⟩:=hv 0 (by simp)
 obtain⟨t2,p2,e2⟩:=hv 1 (by simp)
 refine callsIn_wide.2 ?_
 rcases hh:Lib.atoiAll (bl s)with v|_|_
 ·exact absurd hh (h v)
 ·refine (Any.strconv_Atoi_syntax vI s (by omega) hh _ w e1 (.inr ⟨_,_,rfl⟩)).mono ?_
  rintro e w' ⟨N,rfl,_,_,hb⟩
  exact⟨_,_,_,rfl,hb⟩
 ·refine (Any.strconv_Atoi_range vI s (by omega) hh _ w e2 (.inr ⟨_,_,rfl⟩)).mono ?_
  rintro e w' ⟨N,rfl,_,_,hb⟩
  exact⟨_,_,_,rfl,hb⟩
theorem F3 (n:Nat) (i:Nat) (hi:i<100) (w:World):CallsIn Fence.wide n Tryz.prog 249 #[.int .i64 i] w fun e w'=>e= .returned (.string (pH (Lib.decDigits i)))∧w'=w:=callsIn_wide.2 (strconv_Itoa_small i hi w)
set_option maxHeartbeats 1000000 in
theorem AR (n:Nat) (s:ByteArray) (w:World):
  CallsIn Fence.wide n Tryz.prog 253 #[.string s,.string dot,.int .i64 0] w fun e w'=>e= .returned (.func (.func 258) #[] #[.pointer (some ⟨w.heap.size+1,0,none⟩),.pointer (some ⟨w.heap.size,0,none⟩),.pointer (some ⟨w.heap.size+2,0,none⟩)])∧
   w'=((w.alloc (.cells #[.string s] 9)).alloc (.cells #[.string dot] 9)).alloc (.cells #[.int .i64 0] 3):=by
 refine callsIn_of_wp Tryz.func253 rfl trivial ?_ rfl
 simp only[Tryz.ntmps253,List.size_toArray,List.length_cons,List.length_nil,Nat.reduceAdd,Nat.reduceSub,Array.replicate_succ,Array.replicate_zero,List.push_toArray,List.append_toArray,List.nil_append,List.cons_append]
 gi_wp2
 go_ret
 exact⟨rfl,rfl⟩
set_option maxHeartbeats 1000000 in
theorem Cg (n:Nat) (s:ByteArray) (w:World):
  CallsIn Fence.wide n Tryz.prog 247 #[.string s,.string dot] w fun e w'=>e= .returned (.func (.func 258) #[] #[.pointer (some ⟨w.heap.size+1,0,none⟩),.pointer (some ⟨w.heap.size,0,none⟩),.pointer (some ⟨w.heap.size+2,0,none⟩)])∧
   w'=((w.alloc (.cells #[.string s] 9)).alloc (.cells #[.string dot] 9)).alloc (.cells #[.int .i64 0] 3):=by
 refine callsIn_of_wp Tryz.func247 rfl trivial ?_ rfl
 simp only[Tryz.ntmps247,List.size_toArray,List.length_cons,List.length_nil,Nat.reduceAdd,Nat.reduceSub,Array.replicate_succ,Array.replicate_zero,List.push_toArray,List.append_toArray,List.nil_append,List.cons_append]
 gi_wp2_with (refine⟨trivial,fun h=>(by cases h),?_⟩;gi_at_call 253;refine (AR _ s _).mono ?_;rintro e w' ⟨rfl,rfl⟩)
 go_ret
 exact⟨rfl,rfl⟩
theorem Mp:(Tryz.prog.info? 3).map (fun i=>(i.zero,i.size,i.bytes))=some (some (.int .i64 0),1,8):=by kernel_rfl
theorem MT {tmps:Array Value} {b:Nat} {W:World} {v:Value} (ht:tmps[2]?.getD undef= .pointer (some ⟨b,0,none⟩)) (h:Boxed W b 22 v):(results Tryz.f238 tmps).run Tryz.prog W= .ok v W:=by
 simp[results,Tryz.f238,Sem.run_bind,ht,asAddr,loadVar,Tryz.isAgg22,h.cell,Result.andThen]
theorem rq {tmps:Array Value} {w W:World} {D:Nat} {v:Value} {s:ByteArray} (ht:tmps[2]?.getD undef= .pointer (some ⟨w.heap.size,0,none⟩)) (h:Boxed W w.heap.size 22 v) (h6:Below w.heap.size w W) (hd:W.heap[D]?=some (.deferred (some []))) (hD:w.heap.size<D)
  (ho:W.ownsRow w.heap.size 3 1 v (dV s).length ((dV s).map (Value.int .i64))) (hn:v= .slice none 0 0↔dV s=[]):
  bodyPostM Fence.wide 11 Tryz.prog Tryz.f238 (fun e W'=>∃v,e= .returned v∧W'.ownsRow w.heap.size 3 1 v (dV s).length ((dV s).map (Value.int .i64))∧(v= .slice none 0 0↔dV s=[])∧Below w.heap.size w W')
   .ret {tmps:=tmps,defers:=[{target:= .collected D,args:=#[]}]} W:=by
 refine⟨by simp,.inl ⟨_,_,rfl,run_takeDeferred hd,?_⟩⟩
 exact⟨v,MT ht (h.kept (grownBy_putObj' _ _ _) (by simp;omega)),v,rfl,ownsRow_putObj ho _ hd rfl,hn,h6.grown (grownBy_putObj' _ _ _) (by have:=h.lt;omega) (fun k e=>by cases e;omega)⟩
set_option maxRecDepth 100000 in
set_option maxHeartbeats 4000000 in
theorem L9 (s:ByteArray) (hlim:s.size≤1000000) (w:World) (hv:∀g,g∈([0,1]:List Nat)→g<w.heap.size∧∃t p,w.cell? ⟨g,0,none⟩=some (.iface t p)):
  CallsIn Fence.wide 11 Tryz.prog 238 #[.string s] w fun e W'=>∃v,e= .returned v∧W'.ownsRow w.heap.size 3 1 v (dV s).length ((dV s).map (Value.int .i64))∧(v= .slice none 0 0↔dV s=[])∧Below w.heap.size w W':=by
 obtain⟨i0,hi,hz0,hz1,hz2⟩:=info_parts Mp
 refine callsIn_of_wp_marks Tryz.func238 rfl trivial ?_ rfl
 simp only[Tryz.ntmps238,List.size_toArray,List.length_cons,List.length_nil,Nat.reduceAdd,Nat.reduceSub,Array.replicate_succ,Array.replicate_zero,List.push_toArray,List.append_toArray,List.nil_append,List.cons_append]
 gi_wp2_with (refine⟨trivial,?_⟩;gi_at_call 247;refine (Cg _ s _).mono ?_;rintro e w' ⟨rfl,rfl⟩)
 obtain⟨n0,hn0⟩:∃n0,n0=w.heap.size:=⟨_,rfl⟩
 obtain⟨W0,hW0⟩:∃W0,(((((w.alloc (Obj.cells #[Value.slice none 0 0] 22)).alloc (Obj.cells #[Value.slice none 0 0] 22)).alloc (Obj.cells #[Value.string s] 9)).alloc (Obj.cells #[Value.string dot] 9)).alloc (Obj.cells #[Value.int IntKind.i64 0] 3))=W0:=⟨_,rfl⟩
 have bR:Boxed W0 n0 22 (.slice none 0 0):=by
  rw[←hW0,hn0]
  exact ((((Boxed.new w _ _).alloc _).alloc _).alloc _).alloc _
 have bO:Boxed W0 (n0+1) 22 (.slice none 0 0):=by
  rw[←hW0,hn0]
  have:=Boxed.new (w.alloc (Obj.cells #[Value.slice none 0 0] 22)) 22 (.slice none 0 0)
  rw[World.size_alloc]at this
  exact (((this).alloc _).alloc _).alloc _
 have b2:Boxed W0 (n0+2) 9 (.string s):=by
  rw[←hW0,hn0]
  have:=Boxed.new ((w.alloc (Obj.cells #[Value.slice none 0 0] 22)).alloc (Obj.cells #[Value.slice none 0 0] 22)) 9 (.string s)
  rw[World.size_alloc,World.size_alloc]at this
  exact ((this).alloc _).alloc _
 have b1:Boxed W0 (n0+3) 9 (.string dot):=by
  rw[←hW0,hn0]
  have:=Boxed.new (((w.alloc (Obj.cells #[Value.slice none 0 0] 22)).alloc (Obj.cells #[Value.slice none 0 0] 22)).alloc (Obj.cells #[Value.string s] 9)) 9 (.string dot)
  rw[World.size_alloc,World.size_alloc,World.size_alloc]at this
  exact this.alloc _
 have b3:Boxed W0 (n0+4) 3 (.int .i64 0):=by
  rw[←hW0,hn0]
  have:=Boxed.new ((((w.alloc (Obj.cells #[Value.slice none 0 0] 22)).alloc (Obj.cells #[Value.slice none 0 0] 22)).alloc (Obj.cells #[Value.string s] 9)).alloc (Obj.cells #[Value.string dot] 9)) 3 (.int .i64 0)
  rwa[World.size_alloc,World.size_alloc,World.size_alloc,World.size_alloc]at this
 have sz0:W0.heap.size=n0+5:=by rw[←hW0,hn0];simp[World.size_alloc]
 have hB0:Below n0 w W0:=by
  rw[←hW0]
  exact (((((Below.refl n0 w).alloc (by omega) _).alloc (by simp;omega) _).alloc (by simp;omega) _).alloc (by simp;omega) _).alloc (by simp;omega) _
 rw[hW0]
 clear hW0
 subst hn0
 refine MG (B1:=w.heap.size+3) (B2:=w.heap.size+2) (B3:=w.heap.size+4) s rfl hlim b1 b2 b3 (by omega) (by omega)
  (fun pre W=>∃v ns,pre.mapM gu=some ns∧Boxed W w.heap.size 22 (.slice none 0 0)∧Boxed W (w.heap.size+1) 22 v∧W.ownsRow (w.heap.size+5) 3 1 v ns.length (ns.map (Value.int .i64))∧(v= .slice none 0 0↔ns=[])∧Below w.heap.size w W)
  (fun pre W=>pre.mapM gu=none∧pre<+:du 46 s.size (bl s)∧Boxed W w.heap.size 22 (.slice none 0 0)∧Below w.heap.size w W)
  ?hI ⟨_,[],rfl,bR,bO,World.ownsRow_nil _ _ _ _,by simp,hB0⟩ ?body ?done ?stop
 case hI=>
  rintro pre W W' b _ hg hb
  have h1:some w.heap.size≠some b∧some (w.heap.size+1)≠some b∧w.heap.size≤b:=by
   rcases hb with⟨rfl,_⟩|⟨h,_⟩
   ·simp
   ·simp;omega
  refine⟨?_,?_⟩
  ·rintro⟨v,ns,e1,e2,e3,e4,e5,e6⟩
   refine⟨v,ns,e1,e2.kept hg h1.1,e3.kept hg h1.2.1,e4.kept hg ?_,e5,e6.grown hg (by have:=e2.lt;omega) (fun k e=>by cases e;exact h1.2.2)⟩
   rcases hb with⟨rfl,s',hs'⟩|⟨_,h⟩
   ·exact .inr (hs'.not_row (by decide) e4).symm
   ·rcases e4.2 with⟨rfl,_⟩|⟨g,cap,cur,rfl,_,hgb,_⟩
    ·exact .inl rfl
    ·refine .inr fun e'=>?_
     obtain rfl:g=b:=by simpa[Value.ownBlock]using e'
     have:=h _ hgb
     cases this
  ·rintro⟨e1,e2,e3,e4⟩
   exact⟨e1,e2,e3.kept hg h1.1,e4.grown hg (by have:=e3.lt;omega) (fun k e=>by cases e;exact h1.2.2)⟩
 case body=>
  intro l pre x W hW hpre
  gi_wp2
  refine⟨trivial,?_⟩
  clear hW W
  rintro W ⟨v,ns,e1,e2,e3,e4,e5,e6⟩ hsz
  have c2:=e2.cell
  have f2:=e2.frozen
  have c3:=e3.cell
  have f3:=e3.frozen
  have hlx:(pH x).size≤1000000:=by
   have:=wF 46 s.size (bl s) x (hpre.subset (by simp))
   have e:(pH x).size=x.length:=rfl
   have e2:s.size=(bl s).length:=rfl
   omega
  have hcnt:=p7 46 s.size (bl s)
  have hpl:=hpre.length_le
  rw[List.length_append,List.length_singleton]at hpl
  have hns:=Nat.le_of_eq (Bt e1)
  have bad:gu x=none→(Code.ret).wpIn (Fence.wide.inRound l) 9 Tryz.prog (fun e a3 W3=>True) {tmps:=#[],defers:=[]} W→True:=fun _ _=>trivial
  clear bad
  by_cases hok:∃m,Lib.atoiAll x= .ok m
  ·obtain⟨m,hm⟩:=hok
   by_cases hm1:1≤m∧m≤99
   ·obtain⟨i,rfl⟩:∃i:Nat,m=i:=⟨m.toNat,by omega⟩
    by_cases hd:Lib.decDigits i=x
    ·have hp:gu x=some (i:Int):=by simp[gu,hm,hm1,hd]
     gi_wp2_with (first|(refine⟨trivial,?_⟩;first|(gi_at_call 248;refine (CallsIn.inRound l (l6 _ _ hlx _ hm _)).mono ?_;rintro e W2 ⟨rfl,hb⟩;have g:=gOf hb;have gs:=g.size;have k0:=KeepsOthers.of_grownBy g (fun j o e=>(by cases e));have e6:=e6.grown g (by have:=e2.lt;omega) (fun k e=>(by cases e));have e2:=e2.kept g (by simp);have e3:=e3.kept g (by simp);have e4:=e4.kept g (Classical.em _);have c2:=e2.cell;have f2:=e2.frozen;have c3:=e3.cell;have f3:=e3.frozen)|(gi_at_call 249;refine (CallsIn.inRound l (F3 _ i (by omega) _)).mono ?_;rintro e W3 ⟨rfl,rfl⟩))|(gi_at_builtin;refine wpListIn_append_own _ rfl _ _ 22 rfl (w.heap.size+5) 3 i0 (.int .i64 0) 1 8 Tryz.underlying22 hi hz0 hz1 hz2 rfl (by decide) _ _ _ rfl (e4.alloc _) ⟨W3.heap.size,0,none⟩ 1 1 [.int .i64 i] rfl rfl (cell_one_new _ _ _) (by simp[Value.oneCell']) (by unfold maxLen;omega) (by omega) (by simp;omega) ?_;intro v' w1 hown' hgrow _;obtain⟨g',cap',rfl⟩:=ownsRow_succ hown';obtain⟨hv1,hv2,hr2,hk2,hb2⟩:=e3.appended (n₀:=w.heap.size) (by decide) (sa e4 (by omega)) e6.size (by omega) (sa hown' (by omega)) hgrow;have hc1:=hv1.cell;have hf1:=hv1.frozen))
     have z1:=hgrow.size
     rw[World.size_alloc]at z1
     refine⟨k0.trans hk2,fun b hb5 hb3=>?_,((e2.alloc _).kept hgrow (CH e4 (by omega))).kept (grownBy_setCell' _ _ _) (by simp),_,hv2,hown'.kept (grownBy_setCell' _ _ _) (.inr (hv1.not_row (by decide) hown').symm),by simp,e6.trans hb2⟩
     exact ((grownBy_setCell' _ _ _).block b (by omega) (by simp;omega)).trans ((hgrow.block b (by rw[World.size_alloc];omega) (CH e4 (by omega))).trans ((Below.heap_alloc _ _ _ (by omega)).trans (g.block b (by omega) (by simp))))
    ·have hp:gu x=none:=by simp[gu,hm,hm1,hd]
     have d1:decide ((i:Int)<1)=false:=decide_eq_false (by omega)
     have d2:decide ((99:Int)<i)=false:=decide_eq_false (by omega)
     have hne:((pH (Lib.decDigits i)).toList==(pH x).toList)=false:=by
      rw[beq_eq_false_iff_ne,ByteArray.toList_eq,ByteArray.toList_eq]
      exact hd
     gi_wp2_with (refine⟨trivial,?_⟩;first|(gi_at_call 248;refine (CallsIn.inRound l (l6 _ _ hlx _ hm _)).mono ?_;rintro e W2 ⟨rfl,hb⟩;have g:=gOf hb;have gs:=g.size;have k0:=KeepsOthers.of_grownBy g (fun j o e=>(by cases e));have e6:=e6.grown g (by have:=e2.lt;omega) (fun k e=>(by cases e));have e2:=e2.kept g (by simp);have e3:=e3.kept g (by simp);have e4:=e4.kept g (Classical.em _);have c2:=e2.cell;have f2:=e2.frozen;have c3:=e3.cell;have f3:=e3.frozen)|(gi_at_call 249;refine (CallsIn.inRound l (F3 _ i (by omega) _)).mono ?_;rintro e W3 ⟨rfl,rfl⟩))
     exact⟨k0.trans (KeepsOthers.setCell _ _ _),e2.set _,e6.setCell (p:=⟨w.heap.size,0,none⟩) (Nat.le_refl _) _⟩
   ·have hp:gu x=none:=by simp[gu,hm];intro h1 h2;exact absurd ⟨h1,h2⟩ hm1
    by_cases hlow:m<1
    ·have d1:decide (m<1)=true:=decide_eq_true hlow
     gi_wp2_with (refine⟨trivial,?_⟩;gi_at_call 248;refine (CallsIn.inRound l (l6 _ _ hlx _ hm _)).mono ?_;rintro e W2 ⟨rfl,hb⟩;have g:=gOf hb;have gs:=g.size;have k0:=KeepsOthers.of_grownBy g (fun j o e=>(by cases e));have e6:=e6.grown g (by have:=e2.lt;omega) (fun k e=>(by cases e));have e2:=e2.kept g (by simp);have e3:=e3.kept g (by simp);have e4:=e4.kept g (Classical.em _);have c2:=e2.cell;have f2:=e2.frozen;have c3:=e3.cell;have f3:=e3.frozen)
     refine⟨trivial,?_⟩
     gi_wp2
     exact⟨k0.trans (KeepsOthers.setCell _ _ _),e2.set _,e6.setCell (p:=⟨w.heap.size,0,none⟩) (Nat.le_refl _) _⟩
    ·have d1:decide (m<1)=false:=decide_eq_false hlow
     have d2:decide ((99:Int)<m)=true:=decide_eq_true (by omega)
     gi_wp2_with (refine⟨trivial,?_⟩;gi_at_call 248;refine (CallsIn.inRound l (l6 _ _ hlx _ hm _)).mono ?_;rintro e W2 ⟨rfl,hb⟩;have g:=gOf hb;have gs:=g.size;have k0:=KeepsOthers.of_grownBy g (fun j o e=>(by cases e));have e6:=e6.grown g (by have:=e2.lt;omega) (fun k e=>(by cases e));have e2:=e2.kept g (by simp);have e3:=e3.kept g (by simp);have e4:=e4.kept g (Classical.em _);have c2:=e2.cell;have f2:=e2.frozen;have c3:=e3.cell;have f3:=e3.frozen)
     refine⟨trivial,?_⟩
     gi_wp2
     exact⟨k0.trans (KeepsOthers.setCell _ _ _),e2.set _,e6.setCell (p:=⟨w.heap.size,0,none⟩) (Nat.le_refl _) _⟩
  ·have hbad:∀v,Lib.atoiAll (bl (pH x))≠ .ok v:=fun v h=>hok ⟨v,h⟩
   have hp:gu x=none:=by
    unfold gu
    split
    ·rename_i n h;exact absurd ⟨n,h⟩ hok
    ·rfl
   have hv':∀g,g∈([0,1]:List Nat)→∃t p,W.cell? ⟨g,0,none⟩=some (.iface t p):=fun g hg=>by
    obtain⟨h1,t,p,h2⟩:=hv g hg
    exact⟨t,p,(e6.cell (p:=⟨g,0,none⟩) h1).trans h2⟩
   gi_wp2_with (refine⟨trivial,?_⟩;gi_at_call 248;refine (CallsIn.inRound l (Dv _ _ hlx hbad _ hv')).mono ?_;rintro e W2 ⟨vv,tt,pp,rfl,hb⟩;have g:=gOf hb;have gs:=g.size;have k0:=KeepsOthers.of_grownBy g (fun j o e=>(by cases e));have e6:=e6.grown g (by have:=e2.lt;omega) (fun k e=>(by cases e));have e2:=e2.kept g (by simp);have e3:=e3.kept g (by simp);have e4:=e4.kept g (Classical.em _);have c2:=e2.cell;have f2:=e2.frozen;have c3:=e3.cell;have f3:=e3.frozen)
   refine⟨trivial,?_⟩
   gi_wp2
   exact⟨k0.trans (KeepsOthers.setCell _ _ _),e2.set _,e6.setCell (p:=⟨w.heap.size,0,none⟩) (Nat.le_refl _) _⟩
 case done=>
  rintro D W hD ⟨v,ns,e1,e2,e3,e4,e5,e6⟩ hd
  have c2:=e2.cell
  have f2:=e2.frozen
  have c3:=e3.cell
  have f3:=e3.frozen
  obtain⟨A,c,rfl⟩:∃A c,v= .slice A ns.length c:=by
   rcases e4.2 with⟨rfl,h0⟩|⟨g,cap,cur,rfl,_⟩
   ·exact⟨none,0,by rw[h0]⟩
   ·exact⟨_,_,rfl⟩
  by_cases h4:ns.length≤4
  ·have hp:dV s=ns:=by rw[dV,e1];simp[h4]
   have d4:decide ((4:Int)<(ns.length:Int))=false:=decide_eq_false (by omega)
   gi_wp2
   refine rq rfl (e2.set _) (e6.setCell (p:=⟨w.heap.size,0,none⟩) (Nat.le_refl _) _) ?_ (by omega) ?_ (by rw[hp];exact e5)
   ·exact ((grownBy_setCell' _ _ _).block D (Array.getElem?_eq_some_iff.1 hd).1 (by simp;omega)).trans hd
   ·rw[hp]
    exact sa (e4.kept (grownBy_setCell' _ _ _) (.inr (e2.not_row (by decide) e4).symm)) (by omega)
  ·have hp:dV s=[]:=by rw[dV,e1];simp[h4]
   have d4:decide ((4:Int)<(ns.length:Int))=true:=decide_eq_true (by omega)
   gi_wp2
   refine rq rfl (e2.set _) (e6.setCell (p:=⟨w.heap.size,0,none⟩) (Nat.le_refl _) _) ?_ (by omega) ?_ (by rw[hp];simp)
   ·exact ((grownBy_setCell' _ _ _).block D (Array.getElem?_eq_some_iff.1 hd).1 (by simp;omega)).trans hd
   ·rw[hp]
    exact World.ownsRow_nil _ _ _ _
 case stop=>
  rintro D pre W hD ⟨e1,e2,e3,e4⟩ hd
  have hp:dV s=[]:=by
   obtain⟨t,ht⟩:=e2
   rw[dV,←ht,List.mapM_append,e1]
   rfl
  gi_wp2
  refine rq rfl e3 e4 hd (by omega) ?_ (by rw[hp];simp)
  rw[hp]
  exact World.ownsRow_nil _ _ _ _
open Go.PA
open Go.RowKit
theorem mN {w:World} {ok:Nat→Prop} {base:Nat} {v:Value} {ns:List Int} (h:w.ownsRow base 3 1 v ns.length (ns.map (Value.int .i64))) (hok:∀b,base≤b→b<w.heap.size→ok b):iH w ok v (aI ns):=by
 have hl:=h.lt
 have hc:=fun g hg=>h.cells (g:=g) hg
 rcases h.2 with⟨rfl,h0⟩|⟨g,cap,cur,rfl,hb,hg,hcap,_⟩
 ·rw[List.length_eq_zero_iff.1 h0]
  exact .listNil
 ·obtain⟨_,hlt⟩:=hl g rfl
  refine .list (fun i _=> .int .i64 (ns.getD i 0)) (by simp) hcap (hok g hb hlt) (by simp) ?_ (fun _ _ _ _ _ _=>rfl) ?_<;>
  ·intro i e j a he ha
   rw[List.getElem?_map,Option.map_eq_some_iff]at he
   obtain⟨x,hx,rfl⟩:=he
   have hj:j=0:=by have:=(gsI ha);simpa using this
   subst hj
   have hd:ns.getD i 0=x:=by rw[List.getD_eq_getElem?_getD,hx];rfl
   simp only[List.getElem?_cons_zero,Option.some.injEq]at ha
   subst ha
   simp only[hd]
   first
    |exact .sc
    |exact hc g rfl _ _ (by rw[Nat.mul_one,Nat.add_zero,List.getElem?_map,hx];rfl)
theorem JH (s:ByteArray) (hl:s.size≤1000000):PFun Tryz.prog none none 238 [.sc (.string s)] (·=aI (dV s)):=by
 intro w ok vs h1 h2 h3 h4
 have hv:vs=#[.string s]:=by
  have h0:0<vs.size:=by rw[h3];simp
  have e0:=bX (h4 0 vs[0] _ (Array.getElem?_eq_getElem h0) rfl)
  apply Array.ext
  ·simpa using h3
  ·intro i hi hi'
   have:i=0:=by simp at hi';exact hi'
   subst this
   simpa using e0
 subst hv
 refine (callsIn_wide.1 (L9 s hl w fun g hg=>?_)).mono ?_
 ·have:=h2.1.2 g hg
  exact⟨(h1 g this.1).1,this.2⟩
 ·rintro e W' ⟨v,rfl,ho,hn,hb⟩
  have hg:w.grownBy W' none:=gOf hb
  refine⟨v,_,rfl,rfl,by simp[aI,go_sem],mN ho (fun b h1 h2=> .inr ⟨h1,h2⟩),?_,h2.keep (by simp) (fun _ h=>h) (fun b hb'=>hg.block b (h1 b hb').1 (by simp))⟩
  exact hg
open Go.PA
open Go.RowKit
def o0 {α:Type} (lt:α→α→Bool) (x:α):List α→List α
 |[]=>[x]
 |y::ys=>if lt x y then y::o0 lt x ys else x::y::ys
def kR {α:Type} (lt:α→α→Bool) (l:List α):List α:=l.foldl (fun acc x=>o0 lt x acc) []
def mq {α:Type} (lt:α→α→Bool) (l:List α):List α:=(kR lt l).reverse
theorem C1 {α:Type} (lt:α→α→Bool) (x:α):∀l:List α,(o0 lt x l).length=l.length+1
 |[]=>rfl
 |y::ys=>by
  simp only[o0]
  split
  ·simp[C1 lt x ys]
  ·simp
theorem wG {α:Type} (lt:α→α→Bool) (l:List α) (x:α):kR lt (l++[x])=o0 lt x (kR lt l):=by simp[kR]
theorem ni {α:Type} (lt:α→α→Bool):∀(l acc:List α),(l.foldl (fun acc x=>o0 lt x acc) acc).length=acc.length+l.length
 |[],acc=>by simp
 |x::l,acc=>by rw[List.foldl_cons,ni lt l,C1];simp;omega
theorem yk {α:Type} (lt:α→α→Bool) (l:List α):(kR lt l).length=l.length:=by simp[kR,ni]
theorem HB {α:Type} (lt:α→α→Bool) (l:List α):(mq lt l).length=l.length:=by simp[mq,yk]
theorem Jy {β:Type} (L M:List β) (x y:β) (j:Nat) (hj:j=L.length+1):((L++y::x::M).set j y).set (j-1) x=L++x::y::M:=by
 subst hj
 rw[List.set_append_right _ _ (by omega),List.set_append_right _ _ (by omega)]
 simp
section
variable {α:Type} (enc:α→List AV) (lt:α→α→Bool) (g:FuncId)
end
structure SOrd {α:Type} (lt:α→α→Bool):Prop where
 asym:∀a b,lt a b=true→lt b a=false
 tr:∀a b c,lt a b=false→lt b c=false→lt a c=false
section
variable {α:Type} {lt:α→α→Bool}
def jm (lt:α→α→Bool) (x:α):List α→List α
 |[]=>[x]
 |y::l=>if lt x y then x::y::l else y::jm lt x l
abbrev Srt (lt:α→α→Bool) (l:List α):Prop:=l.Pairwise fun x y=>lt y x=false
theorem nO {P:List α→Prop} (h0:P []) (h1:∀l x,P l→P (l++[x])) (l:List α):P l:=by
 rw[←l.reverse_reverse]
 induction l.reverse with
 |nil=>exact h0
 |cons x r ih=>rw[List.reverse_cons];exact h1 _ _ ih
theorem BM (x:α):∀l:List α,(jm lt x l).length=l.length+1
 |[]=>rfl
 |y::l=>by
  rw[jm]
  split
  ·simp
  ·simp[BM x l]
def kF (lt:α→α→Bool) (l:List α):List α:=l.foldl (fun acc x=>jm lt x acc) []
theorem gC (l:List α) (x:α):kF lt (l++[x])=jm lt x (kF lt l):=by simp[kF]
theorem yN (l:List α):(kF lt l).length=l.length:=by
 induction l using nO with
 |h0=>rfl
 |h1 l x ih=>rw[gC,BM,ih];simp
theorem uK {x y:α}:∀{l:List α},y∈jm lt x l↔y=x∨y∈l
 |[]=>by simp[jm]
 |z::l=>by
  rw[jm]
  split
  ·simp
  ·simp[uK (l:=l)]
   constructor
   ·rintro (h|h|h)<;>simp[h]
   ·rintro (h|h|h)<;>simp[h]
theorem IE {y:α} {l:List α}:y∈kF lt l↔y∈l:=by
 induction l using nO with
 |h0=>rfl
 |h1 l x ih=>rw[gC,uK,ih];simp[or_comm]
theorem Bn (h:SOrd lt) (x:α):∀{l:List α},Srt lt l→Srt lt (jm lt x l)
 |[],_=>by simp[jm]
 |y::l,hs=>by
  rw[jm]
  have hy:=List.pairwise_cons.1 hs
  split
  ·rename_i hx
   refine List.pairwise_cons.2 ⟨fun z hz=>?_,hs⟩
   rcases List.mem_cons.1 hz with rfl|hz
   ·exact h.asym _ _ hx
   ·exact h.tr z y x (hy.1 z hz) (h.asym _ _ hx)
  ·rename_i hx
   refine List.pairwise_cons.2 ⟨fun z hz=>?_,Bn h x hy.2⟩
   rcases uK.1 hz with rfl|hz
   ·simpa using hx
   ·exact hy.1 z hz
theorem G5 (h:SOrd lt) (l:List α):Srt lt (kF lt l):=by
 induction l using nO with
 |h0=>exact .nil
 |h1 l x ih=>rw[gC];exact Bn h x ih
theorem Dz (h:SOrd lt) {x y:α} (hx:lt x y=true):∀l:List α,jm lt x (l++[y])=jm lt x l++[y]
 |[]=>by simp[jm,hx]
 |z::l=>by
  rw[List.cons_append,jm,jm]
  split
  ·rfl
  ·rw[Dz h hx l];rfl
theorem y5 {x:α}:∀{l:List α},(∀z,z∈l→lt x z=false)→jm lt x l=l++[x]
 |[],_=>rfl
 |z::l,hz=>by
  rw[jm,if_neg (by rw[hz z (by simp)];simp),y5 fun w hw=>hz w (by simp[hw])]
  rfl
theorem IG (h:SOrd lt) (x:α) (l:List α) (hs:Srt lt l):(o0 lt x l.reverse).reverse=jm lt x l:=by
 induction l using nO with
 |h0=>rfl
 |h1 l y ih=>
  rw[List.reverse_append,List.reverse_singleton,List.singleton_append,o0]
  have hp:=List.pairwise_append.1 hs
  split
  ·rename_i hx
   rw[List.reverse_cons,ih hp.1,Dz h hx]
  ·rename_i hx
   rw[y5]
   ·simp
   ·intro z hz
    rcases List.mem_append.1 hz with hz|hz
    ·exact h.tr x y z (by simpa using hx) (hp.2.2 z hz y (by simp))
    ·simp at hz;subst hz;simpa using hx
theorem CE (h:SOrd lt) (l:List α):mq lt l=kF lt l:=by
 induction l using nO with
 |h0=>rfl
 |h1 l x ih=>
  have e:kR lt l=(kF lt l).reverse:=by rw[←ih,mq,List.reverse_reverse]
  rw[mq,wG,e,IG h x _ (G5 h l),gC]
def blk (lt:α→α→Bool) (bs:Nat):Nat→List α→List α
 |0,_=>[]
 |f+1,l=>kF lt (l.take bs)++blk lt bs f (l.drop bs)
end
def btw (n lo hi:Int):Bool:=decide (lo≤n)&&decide (n≤hi)
theorem lu {n lo hi:Int}:btw n lo hi=true↔lo≤n∧n≤hi:=by simp[btw]
theorem PW {n lo hi:Int} (h:¬(lo≤n∧n≤hi)):btw n lo hi=false:=by simp[btw];omega
def LE (s:ByteArray):Bool:=decide (0<(dV s).length)
section
variable {α:Type} {lt:α→α→Bool}
end
def mc (c:TClaim):Bool:=btw c.ID 1 1000000&&btw c.Payer 1 1000000&&btw c.Amount 1 1000000000000&&btw c.Open 0 c.Amount&&btw c.Day 0 36000&&LE c.Code
def iJ (x:TIncome):Bool:=btw x.Number 1 1000000&&btw x.Payer 1 1000000&&btw x.Day 0 36000&&btw x.Amount 1 1000000000000&&btw x.Claim 0 1000000
def iP:Int→List TClaim→Bool
 |_,[]=>true
 |p,c::l=>mc c&&decide (p<c.ID)&&iP c.ID l
def iR:Int→Int→List TIncome→Bool
 |_,_,[]=>true
 |n,d,x::l=>iJ x&&decide (n<x.Number)&&decide (d≤x.Day)&&iR x.Number x.Day l
def mw (l:List TClaim) (id:Int):Option Nat:=l.findIdx? fun c=>decide (c.ID=id)
def tu (l:List TIncome) (n:Int):Option Nat:=l.findIdx? fun x=>decide (x.Number=n)
def g9 (ms:List TMatch) (id:Int):Int:=((ms.filter fun m=>decide (m.Claim=id)).map (·.Amount)).sum
def dY (ms:List TMatch) (n:Int):Int:=((ms.filter fun m=>decide (m.Income=n)).map (·.Amount)).sum
def LJ (cs:List TClaim) (xs:List TIncome) (m:TMatch):Bool:=decide (0<m.Amount)&&cs.any fun c=>decide (c.ID=m.Claim)&&xs.any fun x=>decide (x.Number=m.Income)&&decide (x.Payer=c.Payer)
def jC (c:TCash):Bool:=decide (c.Loose.length=c.Incomes.length)&&c.Matches.all (LJ c.Claims c.Incomes)&&(c.Claims.all fun x=>decide (g9 c.Matches x.ID=x.Amount-x.Open))&&((c.Incomes.zip c.Loose).all fun p=>decide (0≤p.2)&&decide (dY c.Matches p.1.Number≤p.1.Amount-p.2))
def j6 (c:TCash):Int:=if c.Claims.length≤60∧c.Incomes.length≤100∧c.Matches.length≤160 then (if iP 0 c.Claims then (if iR 0 0 c.Incomes&&jC c then 0 else 70)else 69)else 3
def meet (c:TCash) (i k:Nat):TCash:=match c.Loose[i]?,c.Claims[k]?,c.Incomes[i]? with
 |some l,some x,some y=>if min l x.Open=0 then c else {c with Loose:=c.Loose.set i (l-min l x.Open),Claims:=c.Claims.set k {x with Open:=x.Open-min l x.Open},Matches:=c.Matches++[⟨y.Number,x.ID,min l x.Open⟩]}
 |_,_,_=>c
def meets (c:TCash) (i:Nat) (ks:List Nat):TCash:=ks.foldl (fun c k=>meet c i k) c
def gV (l:List TClaim) (k:Nat):Int:=(l[k]?.map (·.Day)).getD 0
def eO (l:List TClaim) (payer:Int):List Nat:=kF (fun a b=>decide (gV l a<gV l b)) ((List.range l.length).filter fun k=>match l[k]? with|some x=>decide (x.Payer=payer)&&decide (0<x.Open)|none=>false)
def only (ks:List Nat):List Nat:=match ks with
 |[k]=>[k]
 |_=>[]
def eZ (l:List TClaim) (payer n:Int):List Nat:=only ((eO l payer).filter fun k=>match l[k]? with|some x=>decide (x.Open=n)|none=>false)
theorem nX {l:List TClaim} {k:Nat} {p:Int}:k∈eO l p↔∃x,l[k]?=some x∧x.Payer=p∧0<x.Open:=by
 unfold eO
 rw[IE,List.mem_filter,List.mem_range]
 constructor
 ·rintro⟨h1,h2⟩
  rw[List.getElem?_eq_getElem h1]at h2⊢
  simp only[Bool.and_eq_true,decide_eq_true_eq]at h2
  exact⟨_,rfl,h2⟩
 ·rintro⟨x,hx,h⟩
  refine⟨(gsI hx),?_⟩
  rw[hx]
  simpa using h
theorem ul {c:TCash} {i k:Nat} {lo:Int} {x:TClaim} {y:TIncome} (h1:c.Loose[i]?=some lo) (h2:c.Claims[k]?=some x) (h3:c.Incomes[i]?=some y) (hn:¬min lo x.Open=0):
  meet c i k={c with Loose:=c.Loose.set i (lo-min lo x.Open),Claims:=c.Claims.set k {x with Open:=x.Open-min lo x.Open},Matches:=c.Matches++[⟨y.Number,x.ID,min lo x.Open⟩]}:=by
 unfold meet
 rw[h1,h2,h3]
 simp only
 rw[if_neg hn]
theorem kS:∀(l:List TClaim) (p:Int),iP p l=true↔(∀c,c∈l→mc c=true∧p<c.ID)∧l.Pairwise fun a b=>a.ID<b.ID
 |[],p=>by simp[iP]
 |c::l,p=>by
  rw[iP]
  simp only[Bool.and_eq_true,decide_eq_true_eq,kS l c.ID,List.pairwise_cons,List.forall_mem_cons]
  constructor
  ·rintro⟨⟨h1,h2⟩,h3,h4⟩
   exact⟨⟨⟨h1,h2⟩,fun x hx=>⟨(h3 x hx).1,by have:=(h3 x hx).2;omega⟩⟩,fun x hx=>(h3 x hx).2,h4⟩
  ·rintro⟨⟨⟨h1,h2⟩,h3⟩,h4,h5⟩
   exact⟨⟨h1,h2⟩,fun x hx=>⟨(h3 x hx).1,h4 x hx⟩,h5⟩
theorem kI:∀(l:List TIncome) (n d:Int),iR n d l=true↔(∀x,x∈l→iJ x=true∧n<x.Number∧d≤x.Day)∧l.Pairwise fun a b=>a.Number<b.Number∧a.Day≤b.Day
 |[],n,d=>by simp[iR]
 |x::l,n,d=>by
  rw[iR]
  simp only[Bool.and_eq_true,decide_eq_true_eq,kI l x.Number x.Day,List.pairwise_cons,List.forall_mem_cons]
  constructor
  ·rintro⟨⟨⟨h1,h2⟩,h2'⟩,h3,h4⟩
   exact⟨⟨⟨h1,h2,h2'⟩,fun z hz=>⟨(h3 z hz).1,by have:=(h3 z hz).2;omega,by have:=(h3 z hz).2;omega⟩⟩,fun z hz=>(h3 z hz).2,h4⟩
  ·rintro⟨⟨⟨h1,h2,h2'⟩,h3⟩,h4,h5⟩
   exact⟨⟨⟨h1,h2⟩,h2'⟩,fun z hz=>⟨(h3 z hz).1,h4 z hz⟩,h5⟩
theorem kz {c:TClaim}:mc c=true↔(1≤c.ID∧c.ID≤1000000)∧(1≤c.Payer∧c.Payer≤1000000)∧(1≤c.Amount∧c.Amount≤1000000000000)∧(0≤c.Open∧c.Open≤c.Amount)∧(0≤c.Day∧c.Day≤36000)∧LE c.Code=true:=by
 simp[mc,btw,and_assoc]
theorem yF (ms:List TMatch) (m:TMatch) (id:Int):g9 (ms++[m]) id=g9 ms id+if m.Claim=id then m.Amount else 0:=by
 unfold g9
 rw[List.filter_append,List.map_append,List.sum_append]
 by_cases h:m.Claim=id<;>simp[h]
theorem xf (ms:List TMatch) (m:TMatch) (n:Int):dY (ms++[m]) n=dY ms n+if m.Income=n then m.Amount else 0:=by
 unfold dY
 rw[List.filter_append,List.map_append,List.sum_append]
 by_cases h:m.Income=n<;>simp[h]
structure CashOk (c:TCash):Prop where
 pays:(∀x,x∈c.Claims→mc x=true)∧c.Claims.Pairwise fun a b=>a.ID<b.ID
 incs:(∀x,x∈c.Incomes→iJ x=true)∧c.Incomes.Pairwise fun a b=>a.Number<b.Number∧a.Day≤b.Day
 len:c.Loose.length=c.Incomes.length
 mates:∀m,m∈c.Matches→0<m.Amount∧∃x y,x∈c.Claims∧y∈c.Incomes∧x.ID=m.Claim∧y.Number=m.Income∧y.Payer=x.Payer
 got:∀x,x∈c.Claims→g9 c.Matches x.ID=x.Amount-x.Open
 used:∀(i:Nat) y lo,c.Incomes[i]?=some y→c.Loose[i]?=some lo→0≤lo∧dY c.Matches y.Number≤y.Amount-lo
theorem MH {l:List TClaim} (h:l.Pairwise fun a b=>a.ID<b.ID) {i j:Nat} {x y:TClaim} (hi:l[i]?=some x) (hj:l[j]?=some y) (e:x.ID=y.ID):i=j:=by
 obtain⟨h1,h2⟩:=List.getElem?_eq_some_iff.1 hi
 obtain⟨h3,h4⟩:=List.getElem?_eq_some_iff.1 hj
 rcases Nat.lt_trichotomy i j with hlt|rfl|hlt
 ·have:=List.pairwise_iff_getElem.1 h i j h1 h3 hlt
  rw[h2,h4]at this
  omega
 ·rfl
 ·have:=List.pairwise_iff_getElem.1 h j i h3 h1 hlt
  rw[h2,h4]at this
  omega
theorem Gb {l:List TIncome} (h:l.Pairwise fun a b=>a.Number<b.Number∧a.Day≤b.Day) {i j:Nat} {x y:TIncome} (hi:l[i]?=some x) (hj:l[j]?=some y) (e:x.Number=y.Number):i=j:=by
 obtain⟨h1,h2⟩:=List.getElem?_eq_some_iff.1 hi
 obtain⟨h3,h4⟩:=List.getElem?_eq_some_iff.1 hj
 rcases Nat.lt_trichotomy i j with hlt|rfl|hlt
 ·have:=(List.pairwise_iff_getElem.1 h i j h1 h3 hlt).1
  rw[h2,h4]at this
  omega
 ·rfl
 ·have:=(List.pairwise_iff_getElem.1 h j i h3 h1 hlt).1
  rw[h2,h4]at this
  omega
def iz (c:TCash) (x:TIncome):TCash:=
 let c0:TCash:={c with Incomes:=c.Incomes++[x],Loose:=c.Loose++[x.Amount]}
 let n:=c.Incomes.length
 let c1:=match mw c.Claims x.Claim with
  |some k=>if ((c.Claims[k]?).map (·.Payer))=some x.Payer then meet c0 n k else c0
  |none=>c0
 let c2:=if (c1.Loose[n]?).getD 0=x.Amount then meets c1 n (eZ c1.Claims x.Payer x.Amount)else c1
 meets c2 n (eO c2.Claims x.Payer)
def oJ (c:TCash):Int:=((c.Incomes.getLast?).map (·.Number)).getD 0
def oS (c:TCash):Int:=((c.Incomes.getLast?).map (·.Day)).getD 0
def m8:TCash:=⟨[],[],[],[]⟩
def iD (c:TCash) (x:TIncome):TCash×List TMatch×Int:=
 if j6 c=0 then (if iJ x then (if oJ c<x.Number then (if oS c≤x.Day then (if c.Incomes.length<100 then (if (iz c x).Matches.length≤160 then (iz c x,(iz c x).Matches.drop c.Matches.length,0)else (m8,[],3))else (m8,[],3))else (m8,[],8))else (m8,[],65))else (m8,[],70))else (m8,[],j6 c)
open Go.PA
open Go.RowKit
theorem fN (n lo hi:Int):PFun Tryz.prog none none 179 [iv n,iv lo,iv hi] (·=bv (btw n lo hi)):=by
 refine ae Tryz.func179 rfl (by simp[Tryz.f179]) (by kernel_rfl) ?_
 intro E hP hr hs hW hN
 by_cases h1:lo≤n<;>by_cases h2:n≤hi<;>simp -dsimp -implicitDefEqProofs [-getElem?_pos,go_sem,hP,h1,h2,btw]
theorem DU (n:Int):PFun Tryz.prog none none 25 [iv n] (·=bv (btw n 0 1000000000000)):=by
 refine ae Tryz.func25 rfl (by simp[Tryz.f25]) (by kernel_rfl) ?_
 intro E hP hr hs hW hN
 by_cases h1:0≤n<;>by_cases h2:n≤1000000000000<;>simp -dsimp -implicitDefEqProofs [-getElem?_pos,go_sem,hP,h1,h2,btw]
theorem qk (n:Int):PFun Tryz.prog none none 180 [iv n] (·=bv (btw n 1 1000000000000)):=by
 refine ae Tryz.func180 rfl (by simp[Tryz.f180]) (by kernel_rfl) ?_
 intro E hP hr hs hW hN
 by_cases h1:0<n
 ·have e:btw n 0 1000000000000=btw n 1 1000000000000:=by rw[Bool.eq_iff_iff,lu,lu];omega
  simp -dsimp -implicitDefEqProofs [-getElem?_pos,go_sem,hP,h1]
  refine aj (DU n) hP BB (an (by simp -dsimp[-getElem?_pos,go_sem])) .sc ?_
  rw[e]
  simp -dsimp -implicitDefEqProofs [-getElem?_pos,go_sem,hP]
 ·have e:btw n 1 1000000000000=false:=PW (by omega)
  have d:=decide_eq_false h1
  simp -dsimp -implicitDefEqProofs [-getElem?_pos,go_sem,hP,d,e]
theorem og (x:TClaim):x.cells=[iv x.ID,iv x.Payer,iv x.Amount,iv x.Open,iv x.Day,.sc (.string x.Code)]:=rfl
theorem iC (x:TIncome):x.cells=[iv x.Number,iv x.Day,iv x.Payer,iv x.Amount,iv x.Claim]:=rfl
theorem vG (x:TIncome):PFun Tryz.prog none none 133 [.agg x.cells] (·=bv (iJ x)):=by
 refine ae Tryz.func133 rfl (by simp[Tryz.f133]) (by kernel_rfl) ?_
 intro E hP hr hs hW hN
 simp -dsimp -implicitDefEqProofs [-getElem?_pos,go_sem,hP,iC]
 refine aj (fN x.Number 1 1000000) hP m7 (an (by simp -dsimp[-getElem?_pos,go_sem])) .sc ?_
 cases c1:btw x.Number 1 1000000
 ·have e:iJ x=false:=by simp[iJ,c1]
  simp -dsimp -implicitDefEqProofs [-getElem?_pos,go_sem,hP,e]
 simp -dsimp -implicitDefEqProofs [-getElem?_pos,go_sem,hP]
 refine aj (fN x.Payer 1 1000000) hP m7 (an (by simp -dsimp[-getElem?_pos,go_sem])) .sc ?_
 cases c2:btw x.Payer 1 1000000
 ·have e:iJ x=false:=by simp[iJ,c2]
  simp -dsimp -implicitDefEqProofs [-getElem?_pos,go_sem,hP,e]
 simp -dsimp -implicitDefEqProofs [-getElem?_pos,go_sem,hP]
 refine aj (fN x.Day 0 36000) hP m7 (an (by simp -dsimp[-getElem?_pos,go_sem])) .sc ?_
 cases c3:btw x.Day 0 36000
 ·have e:iJ x=false:=by simp[iJ,c3]
  simp -dsimp -implicitDefEqProofs [-getElem?_pos,go_sem,hP,e]
 simp -dsimp -implicitDefEqProofs [-getElem?_pos,go_sem,hP]
 refine aj (qk x.Amount) hP KV (an (by simp -dsimp[-getElem?_pos,go_sem])) .sc ?_
 cases c4:btw x.Amount 1 1000000000000
 ·have e:iJ x=false:=by simp[iJ,c4]
  simp -dsimp -implicitDefEqProofs [-getElem?_pos,go_sem,hP,e]
 simp -dsimp -implicitDefEqProofs [-getElem?_pos,go_sem,hP]
 refine aj (fN x.Claim 0 1000000) hP m7 (an (by simp -dsimp[-getElem?_pos,go_sem])) .sc ?_
 cases c5:btw x.Claim 0 1000000
 ·have e:iJ x=false:=by simp[iJ,c5]
  simp -dsimp -implicitDefEqProofs [-getElem?_pos,go_sem,hP,e]
 have e:iJ x=true:=by simp[iJ,c1,c2,c3,c4,c5]
 simp -dsimp -implicitDefEqProofs [-getElem?_pos,go_sem,hP,e]
theorem IR (x:TClaim) (hl:x.Code.size≤1000000):PFun Tryz.prog none none 217 [.agg x.cells] (·=bv (mc x)):=by
 refine ae Tryz.func217 rfl (by simp[Tryz.f217]) (by kernel_rfl) ?_
 intro E hP hr hs hW hN
 have ip:Imm (aI (dV x.Code)):=by simp[aI,go_sem]
 obtain⟨n,hn⟩:∃n,n=(dV x.Code).length:=⟨_,rfl⟩
 have hc:LE x.Code=decide (0<n):=by rw[hn];rfl
 have hm:(List.map (fun x=>[iv x]) (dV x.Code)).length=n:=by rw[List.length_map,hn]
 simp -dsimp -implicitDefEqProofs [-getElem?_pos,go_sem,hP,og]
 refine aj (fN x.ID 1 1000000) hP m7 (an (by simp -dsimp[-getElem?_pos,go_sem])) .sc ?_
 cases c1:btw x.ID 1 1000000
 ·have e:mc x=false:=by simp[mc,c1]
  simp -dsimp -implicitDefEqProofs [-getElem?_pos,go_sem,hP,e]
 simp -dsimp -implicitDefEqProofs [-getElem?_pos,go_sem,hP]
 refine aj (fN x.Payer 1 1000000) hP m7 (an (by simp -dsimp[-getElem?_pos,go_sem])) .sc ?_
 cases c2:btw x.Payer 1 1000000
 ·have e:mc x=false:=by simp[mc,c2]
  simp -dsimp -implicitDefEqProofs [-getElem?_pos,go_sem,hP,e]
 simp -dsimp -implicitDefEqProofs [-getElem?_pos,go_sem,hP]
 refine aj (qk x.Amount) hP KV (an (by simp -dsimp[-getElem?_pos,go_sem])) .sc ?_
 cases c3:btw x.Amount 1 1000000000000
 ·have e:mc x=false:=by simp[mc,c3]
  simp -dsimp -implicitDefEqProofs [-getElem?_pos,go_sem,hP,e]
 simp -dsimp -implicitDefEqProofs [-getElem?_pos,go_sem,hP]
 refine aj (fN x.Open 0 x.Amount) hP m7 (an (by simp -dsimp[-getElem?_pos,go_sem])) .sc ?_
 cases c4:btw x.Open 0 x.Amount
 ·have e:mc x=false:=by simp[mc,c4]
  simp -dsimp -implicitDefEqProofs [-getElem?_pos,go_sem,hP,e]
 simp -dsimp -implicitDefEqProofs [-getElem?_pos,go_sem,hP]
 refine aj (fN x.Day 0 36000) hP m7 (an (by simp -dsimp[-getElem?_pos,go_sem])) .sc ?_
 cases c5:btw x.Day 0 36000
 ·have e:mc x=false:=by simp[mc,c5]
  simp -dsimp -implicitDefEqProofs [-getElem?_pos,go_sem,hP,e]
 simp -dsimp -implicitDefEqProofs [-getElem?_pos,go_sem,hP]
 refine ak ((JH x.Code hl).lift _ _) hP Qc (by simp -dsimp[-getElem?_pos,go_sem]) ip ?_
 have e:mc x=decide (0<n):=by simp[mc,c1,c2,c3,c4,c5,hc]
 simp -dsimp -implicitDefEqProofs [-getElem?_pos,go_sem,hP,aI,hm,e]
open Go.PA
open Go.RowKit
abbrev bM (l:List TClaim):AV:= .list 6 (ac TClaim.cells l)
theorem gA (l:List TClaim):Imm (bM l):=aC _ TClaim.imm l
open Go.PA
open Go.RowKit
section
variable {L:List UInt8} {i:Nat} {cur:List UInt8} {out:List Int}
end
theorem vg {α:Type} {l:List α} {f g:α→Int} {k:Nat} {x:α} {v:Int} (hk:l[k]?=some x) (hne:∀j y,l[j]?=some y→¬j=k→g y=f y) (hx:g x=v):l.map g=(l.map f).set k v:=by
 apply List.ext_getElem?
 intro j
 rw[List.getElem?_map]
 by_cases e:k=j
 ·subst e
  rw[hk,List.getElem?_set_self (by rw[List.length_map];exact (gsI hk)),←hx]
  rfl
 ·rw[List.getElem?_set_ne e,List.getElem?_map]
  cases hj:l[j]? with
  |none=>rfl
  |some y=>simp[hne j y hj (fun h=>e h.symm)]
theorem rR {α:Type} {l:List α} {j:Nat} {m:α} (h:l[j]?=some m):l.take (j+1)=l.take j++[m]:=by
 rw[List.take_add_one,h]
 rfl
theorem ww {α:Type} {l:List α} {k:Nat} {e:α} (h:l[k]?=some e):l.drop k=e::l.drop (k+1):=by
 obtain⟨h1,h2⟩:=List.getElem?_eq_some_iff.1 h
 rw[List.drop_eq_getElem_cons h1,h2]
def jy (c:TCash) (ms:List TMatch):List Int:=c.Claims.map fun x=>x.Amount-g9 ms x.ID
def jV (c:TCash) (ms:List TMatch):List Int:=c.Incomes.map fun y=>y.Amount-dY ms y.Number
section
variable {c:TCash} {ms:List TMatch} {m:TMatch} {i k:Nat} {x:TClaim} {y:TIncome}
theorem Ei (hp:c.Claims.Pairwise fun a b=>a.ID<b.ID) (hk:c.Claims[k]?=some x) (e:x.ID=m.Claim):jy c (ms++[m])=(jy c ms).set k (x.Amount-g9 ms x.ID-m.Amount):=
 vg hk (fun j z hj hne=>by rw[yF,if_neg (fun h=>hne (MH hp hj hk (by omega))),Int.add_zero]) (by rw[yF,if_pos e.symm];omega)
theorem FK (hp:c.Incomes.Pairwise fun a b=>a.Number<b.Number∧a.Day≤b.Day) (hi:c.Incomes[i]?=some y) (e:y.Number=m.Income):jV c (ms++[m])=(jV c ms).set i (y.Amount-dY ms y.Number-m.Amount):=
 vg hi (fun j z hj hne=>by rw[xf,if_neg (fun h=>hne (Gb hp hj hi (by omega))),Int.add_zero]) (by rw[xf,if_pos e.symm];omega)
end
theorem mV:∀(ms:List TMatch) (id:Int),(∀m,m∈ms→0<m.Amount)→0≤g9 ms id
 |[],_,_=>by simp[g9]
 |m::ms,id,h=>by
  have ih:=mV ms id fun z hz=>h z (List.mem_cons_of_mem _ hz)
  have:=h m (List.mem_cons_self ..)
  unfold g9 at ih⊢
  by_cases e:m.Claim=id
  ·simp only[List.filter_cons,e,decide_true,if_true,List.map_cons,List.sum_cons];omega
  ·simp only[List.filter_cons,e,decide_false,Bool.false_eq_true,if_false];exact ih
theorem mf:∀(ms:List TMatch) (n:Int),(∀m,m∈ms→0<m.Amount)→0≤dY ms n
 |[],_,_=>by simp[dY]
 |m::ms,n,h=>by
  have ih:=mf ms n fun z hz=>h z (List.mem_cons_of_mem _ hz)
  have:=h m (List.mem_cons_self ..)
  unfold dY at ih⊢
  by_cases e:m.Income=n
  ·simp only[List.filter_cons,e,decide_true,if_true,List.map_cons,List.sum_cons];omega
  ·simp only[List.filter_cons,e,decide_false,Bool.false_eq_true,if_false];exact ih
theorem BN (a b:List TMatch) (id:Int):g9 (a++b) id=g9 a id+g9 b id:=by
 unfold g9
 rw[List.filter_append,List.map_append,List.sum_append]
theorem yT (a b:List TMatch) (n:Int):dY (a++b) n=dY a n+dY b n:=by
 unfold dY
 rw[List.filter_append,List.map_append,List.sum_append]
def vQ (c:TCash) (ms:List TMatch) (m:TMatch):Prop:=∃i k x y,tu c.Incomes m.Income=some i∧mw c.Claims m.Claim=some k∧c.Claims[k]?=some x∧c.Incomes[i]?=some y∧x.ID=m.Claim∧y.Number=m.Income∧y.Payer=x.Payer∧0<m.Amount∧m.Amount≤x.Amount-g9 ms x.ID∧m.Amount≤y.Amount-dY ms y.Number
theorem oV {l:List TClaim} {id:Int} {k:Nat} (h:mw l id=some k):∃x,l[k]?=some x∧x.ID=id:=by
 obtain⟨h1,h2,_⟩:=List.findIdx?_eq_some_iff_getElem.1 h
 exact⟨_,List.getElem?_eq_getElem h1,by simpa using h2⟩
theorem wy {l:List TIncome} {n:Int} {i:Nat} (h:tu l n=some i):∃y,l[i]?=some y∧y.Number=n:=by
 obtain⟨h1,h2,_⟩:=List.findIdx?_eq_some_iff_getElem.1 h
 exact⟨_,List.getElem?_eq_getElem h1,by simpa using h2⟩
theorem EZ {l:List TClaim} {id:Int} (h:mw l id=none):∀x,x∈l→¬x.ID=id:=fun x hx=>by
 have:=List.findIdx?_eq_none_iff.1 h x hx
 simpa using this
theorem ES {l:List TIncome} {n:Int} (h:tu l n=none):∀x,x∈l→¬x.Number=n:=fun x hx=>by
 have:=List.findIdx?_eq_none_iff.1 h x hx
 simpa using this
theorem Jg {l:List TClaim} {x:TClaim} (hx:x∈l):∃k,mw l x.ID=some k:=by
 cases h:mw l x.ID with
 |some k=>exact⟨k,rfl⟩
 |none=>exact absurd rfl (EZ h x hx)
theorem HQ {l:List TIncome} {x:TIncome} (hx:x∈l):∃k,tu l x.Number=some k:=by
 cases h:tu l x.Number with
 |some k=>exact⟨k,rfl⟩
 |none=>exact absurd rfl (ES h x hx)
structure Books (c:TCash):Prop where
 len:c.Loose.length=c.Incomes.length
 mates:∀m,m∈c.Matches→0<m.Amount∧∃x y,x∈c.Claims∧y∈c.Incomes∧x.ID=m.Claim∧y.Number=m.Income∧y.Payer=x.Payer
 got:∀x,x∈c.Claims→g9 c.Matches x.ID=x.Amount-x.Open
 used:∀(i:Nat) y lo,c.Incomes[i]?=some y→c.Loose[i]?=some lo→0≤lo∧dY c.Matches y.Number≤y.Amount-lo
theorem Gk {α β:Type} {l:List α} {r:List β} {p:α×β}:p∈l.zip r↔∃i:Nat,l[i]?=some p.1∧r[i]?=some p.2:=by
 constructor
 ·intro h
  obtain⟨i,hi⟩:=List.getElem?_of_mem h
  exact⟨i,List.getElem?_zip_eq_some.1 hi⟩
 ·rintro⟨i,h⟩
  exact List.mem_of_getElem? (i:=i) (List.getElem?_zip_eq_some.2 h)
theorem jB (c:TCash):jC c=true↔Books c:=by
 unfold jC
 simp only[Bool.and_eq_true,decide_eq_true_eq,List.all_eq_true]
 constructor
 ·rintro⟨⟨⟨h1,h2⟩,h3⟩,h4⟩
  refine⟨h1,fun m hm=>?_,h3,fun i y lo hy hl=>h4 (y,lo) (Gk.2 ⟨i,hy,hl⟩)⟩
  have:=h2 m hm
  simp only[LJ,Bool.and_eq_true,decide_eq_true_eq,List.any_eq_true]at this
  obtain⟨q1,x,q2,q3,y,q4,q5,q6⟩:=this
  exact⟨q1,x,y,q2,q4,q3,q5,q6⟩
 ·intro h
  refine⟨⟨⟨h.len,fun m hm=>?_⟩,h.got⟩,fun p hp=>?_⟩
  ·obtain⟨q1,x,y,q2,q3,q4,q5,q6⟩:=h.mates m hm
   simp only[LJ,Bool.and_eq_true,decide_eq_true_eq,List.any_eq_true]
   exact⟨q1,x,q2,q4,y,q3,q5,q6⟩
  ·obtain⟨i,h1,h2⟩:=Gk.1 hp
   exact h.used i p.1 p.2 h1 h2
theorem tf {y:TIncome} (h:iJ y=true):1≤y.Amount∧y.Amount≤1000000000000:=by
 simp only[iJ,Bool.and_eq_true]at h
 exact lu.1 h.1.2
theorem Books.fits {c:TCash} (h:Books c) (hp:iP 0 c.Claims=true) (hx:iR 0 0 c.Incomes=true) {j:Nat} {m:TMatch} (hm:c.Matches[j]?=some m):vQ c (c.Matches.take j) m:=by
 obtain⟨h1,x,y,h2,h3,h4,h5,h6⟩:=h.mates m (List.mem_of_getElem? hm)
 have hpw:=((kS _ _).1 hp)
 have hiw:=((kI _ _ _).1 hx)
 obtain⟨k,hk⟩:=Jg h2
 obtain⟨i,hi⟩:=HQ h3
 obtain⟨x',hx1,hx2⟩:=oV hk
 obtain⟨y',hy1,hy2⟩:=wy hi
 obtain⟨k2,hk2⟩:=List.getElem?_of_mem h2
 obtain⟨i2,hi2⟩:=List.getElem?_of_mem h3
 have ek:=MH hpw.2 hx1 hk2 hx2
 have ei:=Gb hiw.2 hy1 hi2 hy2
 subst ek;subst ei
 rw[hx1]at hk2;cases hk2
 rw[hy1]at hi2;cases hi2
 have split:c.Matches=c.Matches.take j++(m::c.Matches.drop (j+1)):=by
  have hl:=(List.getElem?_eq_some_iff.1 hm)
  obtain⟨hl1,hl2⟩:=hl
  have e:=List.drop_eq_getElem_cons hl1
  rw[hl2]at e
  rw[←e,List.take_append_drop]
 have pos:∀z,z∈c.Matches.drop (j+1)→0<z.Amount:=fun z hz=>(h.mates z (List.mem_of_mem_drop hz)).1
 have hg:=h.got x h2
 have hc:=kz.1 (hpw.1 x h2).1
 rw[split,BN,←List.singleton_append,BN]at hg
 have g1:g9 [m] x.ID=m.Amount:=by simp[g9,h4]
 have g2:=mV _ x.ID pos
 have hil:=(gsI hy1)
 obtain⟨lo,hlo⟩:∃lo,c.Loose[i]?=some lo:=⟨_,List.getElem?_eq_getElem (by rw[h.len];exact hil)⟩
 have hu:=h.used i y lo hy1 hlo
 rw[split,yT,←List.singleton_append,yT]at hu
 have u1:dY [m] y.Number=m.Amount:=by simp[dY,h5]
 have u2:=mf _ y.Number pos
 refine⟨i,k,x,y,by rw[←h5];exact hi,by rw[←h4];exact hk,hx1,hy1,h4,h5,h6,h1,by omega,by omega⟩
theorem Books.ofFits {c:TCash} (hl:c.Loose.length=c.Incomes.length) (hf:∀j m,c.Matches[j]?=some m→vQ c (c.Matches.take j) m) (hg:∀x,x∈c.Claims→x.Amount-g9 c.Matches x.ID=x.Open) (hu:∀(i:Nat) y lo,c.Incomes[i]?=some y→c.Loose[i]?=some lo→0≤lo∧lo≤y.Amount-dY c.Matches y.Number):Books c:=by
 refine⟨hl,fun m hm=>?_,fun x hx=>by have:=hg x hx;omega,fun i y lo h1 h2=>by have:=hu i y lo h1 h2;omega⟩
 obtain⟨j,hj⟩:=List.getElem?_of_mem hm
 obtain⟨i,k,x,y,h1,h2,h3,h4,h5,h6,h7,h8,_⟩:=hf j m hj
 exact⟨h8,x,y,List.mem_of_getElem? h3,List.mem_of_getElem? h4,h5,h6,h7⟩
open Go.PA
open Go.RowKit
abbrev bk (l:List TIncome):AV:= .list 5 (ac TIncome.cells l)
abbrev aU (l:List TMatch):AV:= .list 3 (ac TMatch.cells l)
theorem ij (l:List TIncome):Imm (bk l):=aC _ TIncome.imm l
theorem dF (l:List TMatch):Imm (aU l):=aC _ TMatch.imm l
theorem UA (m:TMatch):m.cells=[iv m.Income,iv m.Claim,iv m.Amount]:=rfl
theorem jJ (c:TCash):c.cells=[bM c.Claims,bk c.Incomes,aU c.Matches,.list 1 (ac aJ c.Loose)]:=rfl
def Dc (l:List TClaim):Nat→Int
 |0=>0
 |k+1=>((l[k]?).map (·.ID)).getD 0
def B4 (l:List TIncome):Nat→Int
 |0=>0
 |k+1=>((l[k]?).map (·.Number)).getD 0
def Du (l:List TIncome):Nat→Int
 |0=>0
 |k+1=>((l[k]?).map (·.Day)).getD 0
set_option maxHeartbeats 1000000 in
theorem D1 (l:List TClaim) (hl:l.length≤1000000) (hc:∀x,x∈l→x.Code.size≤1000000):PFun Tryz.prog none none 176 [bM l] (·=bv (iP 0 l)):=by
 refine ae Tryz.func176 rfl (by simp[Tryz.f176]) (by kernel_rfl) ?_
 intro E hP hr hs hW hN
 obtain⟨R,hR⟩:∃R,R=iP 0 l:=⟨_,rfl⟩
 rw[←hR]
 simp -dsimp -implicitDefEqProofs [-getElem?_pos,go_sem,hP]
 obtain⟨I,hI⟩:∃I:Nat→St→Prop,I=fun m s=>∃k:Nat,k≤l.length∧m=l.length-k∧R=iP (Dc l k) (l.drop k)∧s.t 0=bM l∧s.t 5=bM l∧s.t 6=iv l.length∧s.t 7=iv k:=⟨_,rfl⟩
 refine aF I (l.length) (by rw[hN];rfl) ?_ ?_
 ·rw[hI]
  exact⟨0,by omega,by omega,hR,by simp -dsimp[-getElem?_pos,go_sem],by simp -dsimp[-getElem?_pos,go_sem],by simp -dsimp[-getElem?_pos,go_sem],by simp -dsimp[-getElem?_pos,go_sem]⟩
 intro m s hs'
 rw[hI]at hs'
 obtain⟨k,hk,hm,hRk,t0,t5,t6,t7⟩:=hs'
 simp -dsimp -implicitDefEqProofs [-getElem?_pos,go_sem,hP,t6,t7]
 refine aH (fun h=>?_) (fun h=>?_)
 ·have hk:k<l.length:=by simpa using h
  obtain⟨x,hx⟩:∃x,l[k]?=some x:=⟨_,List.getElem?_eq_getElem hk⟩
  have wk:=ah ((k:Int)+1) (by omega)
  have px:=IR x (hc x (List.mem_of_getElem? hx))
  have ix:=aO.2 (TClaim.imm x)
  rw[og]at px ix
  rw[ww hx,iP]at hRk
  simp -dsimp -implicitDefEqProofs [-getElem?_pos,go_sem,hP,t5,t7,hx,og]
  refine au (fun _=>true) [] hP (by kernel_rfl) (by kernel_rfl) ?_
  simp -dsimp -implicitDefEqProofs [-getElem?_pos,go_sem,hP]
  refine aj px hP Qn (an (by simpa using ix)) .sc ?_
  cases c1:mc x
  ·rw[c1,Bool.false_and,Bool.false_and]at hRk
   simp -dsimp -implicitDefEqProofs [-getElem?_pos,go_sem,hP,hRk]
  have pos:=(kz.1 c1).1.1
  rw[c1,Bool.true_and]at hRk
  have fin:∀s':St,R=iP x.ID (l.drop (k+1))→s'.t 0=bM l→s'.t 5=bM l→s'.t 6=iv l.length→s'.t 7=iv ((k:Int)+1)→∃m',m'<l.length-k∧I m' s':=fun s' a1 a2 a3 a4 a5=>by
   refine⟨l.length-(k+1),by omega,?_⟩
   rw[hI]
   refine⟨k+1,by omega,rfl,?_,a2,a3,a4,by rw[a5];simp⟩
   rw[a1]
   simp[Dc,hx]
  subst hm
  cases k with
  |zero=>
   have d:decide ((0:Int)<x.ID)=true:=decide_eq_true (by omega)
   rw[Dc,d,Bool.true_and]at hRk
   have w1:IntKind.i64.wrap 1=1:=ah 1 (by omega)
   simp -dsimp -implicitDefEqProofs [-getElem?_pos,go_sem,hP,t7,w1]
   exact fin _ hRk (by simp -dsimp[-getElem?_pos,go_sem,t0]) (by simp -dsimp[-getElem?_pos,go_sem,t5]) (by simp -dsimp[-getElem?_pos,go_sem,t6]) (by simp -dsimp[-getElem?_pos,go_sem,w1])
  |succ j=>
   obtain⟨y,hy⟩:∃y,l[j]?=some y:=⟨_,List.getElem?_eq_getElem (by omega)⟩
   have wj:=ah ((j:Int)+1-1) (by omega)
   rw[Int.add_sub_cancel]at wj
   have ep:Dc l (j+1)=y.ID:=by simp[Dc,hy]
   rw[ep]at hRk
   have d0:decide ((0:Int)<(j:Int)+1)=true:=decide_eq_true (by omega)
   have wk2:=ah ((j:Int)+1+1) (by omega)
   by_cases c2:y.ID<x.ID
   ·have d:decide (x.ID≤y.ID)=false:=decide_eq_false (by omega)
    have d2:decide (y.ID<x.ID)=true:=decide_eq_true c2
    rw[d2,Bool.true_and]at hRk
    simp -dsimp -implicitDefEqProofs [-getElem?_pos,go_sem,hP,t0,t7,d0,Int.add_sub_cancel,wj,hy,og,d,wk2]
    exact fin _ hRk (by simp -dsimp[-getElem?_pos,go_sem,t0]) (by simp -dsimp[-getElem?_pos,go_sem,t5]) (by simp -dsimp[-getElem?_pos,go_sem,t6]) (by simp -dsimp[-getElem?_pos,go_sem])
   ·have d:decide (x.ID≤y.ID)=true:=decide_eq_true (by omega)
    have d2:decide (y.ID<x.ID)=false:=decide_eq_false c2
    rw[d2,Bool.false_and]at hRk
    simp -dsimp -implicitDefEqProofs [-getElem?_pos,go_sem,hP,t0,t7,d0,Int.add_sub_cancel,wj,hy,og,d,wk2,hRk]
 ·have hk:k=l.length:=by simp at h;omega
  subst hk
  rw[List.drop_length,iP]at hRk
  simp -dsimp -implicitDefEqProofs [-getElem?_pos,go_sem,hP,hRk]
theorem MF {x:TIncome} (h:iJ x=true):0<x.Number∧0≤x.Day:=by
 simp only[iJ,Bool.and_eq_true]at h
 have a1:=lu.1 h.1.1.1.1
 have a2:=lu.1 h.1.1.2
 omega
set_option maxHeartbeats 1000000 in
theorem BH (l:List TIncome) (hl:l.length≤1000000):PFun Tryz.prog none none 177 [bk l] (·=bv (iR 0 0 l)):=by
 refine ae Tryz.func177 rfl (by simp[Tryz.f177]) (by kernel_rfl) ?_
 intro E hP hr hs hW hN
 obtain⟨R,hR⟩:∃R,R=iR 0 0 l:=⟨_,rfl⟩
 rw[←hR]
 simp -dsimp -implicitDefEqProofs [-getElem?_pos,go_sem,hP]
 obtain⟨I,hI⟩:∃I:Nat→St→Prop,I=fun m s=>∃k:Nat,k≤l.length∧m=l.length-k∧R=iR (B4 l k) (Du l k) (l.drop k)∧s.t 0=bk l∧s.t 5=bk l∧s.t 6=iv l.length∧s.t 7=iv k:=⟨_,rfl⟩
 refine aF I (l.length) (by rw[hN];rfl) ?_ ?_
 ·rw[hI]
  exact⟨0,by omega,by omega,hR,by simp -dsimp[-getElem?_pos,go_sem],by simp -dsimp[-getElem?_pos,go_sem],by simp -dsimp[-getElem?_pos,go_sem],by simp -dsimp[-getElem?_pos,go_sem]⟩
 intro m s hs'
 rw[hI]at hs'
 obtain⟨k,hk,hm,hRk,t0,t5,t6,t7⟩:=hs'
 simp -dsimp -implicitDefEqProofs [-getElem?_pos,go_sem,hP,t6,t7]
 refine aH (fun h=>?_) (fun h=>?_)
 ·have hk:k<l.length:=by simpa using h
  obtain⟨x,hx⟩:∃x,l[k]?=some x:=⟨_,List.getElem?_eq_getElem hk⟩
  have wk:=ah ((k:Int)+1) (by omega)
  have px:=vG x
  have ix:=aO.2 (TIncome.imm x)
  rw[iC]at px ix
  rw[ww hx,iR]at hRk
  simp -dsimp -implicitDefEqProofs [-getElem?_pos,go_sem,hP,t5,t7,hx,iC]
  refine au (fun _=>true) [] hP (by kernel_rfl) (by kernel_rfl) ?_
  simp -dsimp -implicitDefEqProofs [-getElem?_pos,go_sem,hP]
  refine aj px hP My (an (by simpa using ix)) .sc ?_
  cases c1:iJ x
  ·rw[c1,Bool.false_and,Bool.false_and,Bool.false_and]at hRk
   simp -dsimp -implicitDefEqProofs [-getElem?_pos,go_sem,hP,hRk]
  have pos:=MF c1
  rw[c1,Bool.true_and]at hRk
  have fin:∀s':St,R=iR x.Number x.Day (l.drop (k+1))→s'.t 0=bk l→s'.t 5=bk l→s'.t 6=iv l.length→s'.t 7=iv ((k:Int)+1)→∃m',m'<l.length-k∧I m' s':=fun s' a1 a2 a3 a4 a5=>by
   refine⟨l.length-(k+1),by omega,?_⟩
   rw[hI]
   refine⟨k+1,by omega,rfl,?_,a2,a3,a4,by rw[a5];simp⟩
   rw[a1]
   simp[B4,Du,hx]
  subst hm
  cases k with
  |zero=>
   have d:decide ((0:Int)<x.Number)=true:=decide_eq_true (by omega)
   have d':decide ((0:Int)≤x.Day)=true:=decide_eq_true (by omega)
   rw[B4,Du,d,d',Bool.true_and,Bool.true_and]at hRk
   have w1:IntKind.i64.wrap 1=1:=ah 1 (by omega)
   simp -dsimp -implicitDefEqProofs [-getElem?_pos,go_sem,hP,t7,w1]
   exact fin _ hRk (by simp -dsimp[-getElem?_pos,go_sem,t0]) (by simp -dsimp[-getElem?_pos,go_sem,t5]) (by simp -dsimp[-getElem?_pos,go_sem,t6]) (by simp -dsimp[-getElem?_pos,go_sem,w1])
  |succ j=>
   obtain⟨y,hy⟩:∃y,l[j]?=some y:=⟨_,List.getElem?_eq_getElem (by omega)⟩
   have wj:=ah ((j:Int)+1-1) (by omega)
   rw[Int.add_sub_cancel]at wj
   have ep:B4 l (j+1)=y.Number:=by simp[B4,hy]
   have ep2:Du l (j+1)=y.Day:=by simp[Du,hy]
   rw[ep,ep2]at hRk
   have d0:decide ((0:Int)<(j:Int)+1)=true:=decide_eq_true (by omega)
   have wk2:=ah ((j:Int)+1+1) (by omega)
   by_cases c2:y.Number<x.Number
   ·have d:decide (x.Number≤y.Number)=false:=decide_eq_false (by omega)
    have d2:decide (y.Number<x.Number)=true:=decide_eq_true c2
    rw[d2,Bool.true_and]at hRk
    by_cases c3:y.Day≤x.Day
    ·have d3:decide (x.Day<y.Day)=false:=decide_eq_false (by omega)
     have d4:decide (y.Day≤x.Day)=true:=decide_eq_true c3
     rw[d4,Bool.true_and]at hRk
     simp -dsimp -implicitDefEqProofs [-getElem?_pos,go_sem,hP,t0,t7,d0,Int.add_sub_cancel,wj,hy,iC,d,d3,wk2]
     exact fin _ hRk (by simp -dsimp[-getElem?_pos,go_sem,t0]) (by simp -dsimp[-getElem?_pos,go_sem,t5]) (by simp -dsimp[-getElem?_pos,go_sem,t6]) (by simp -dsimp[-getElem?_pos,go_sem])
    ·have d3:decide (x.Day<y.Day)=true:=decide_eq_true (by omega)
     have d4:decide (y.Day≤x.Day)=false:=decide_eq_false c3
     rw[d4,Bool.false_and]at hRk
     simp -dsimp -implicitDefEqProofs [-getElem?_pos,go_sem,hP,t0,t7,d0,Int.add_sub_cancel,wj,hy,iC,d,d3,wk2,hRk]
   ·have d:decide (x.Number≤y.Number)=true:=decide_eq_true (by omega)
    have d2:decide (y.Number<x.Number)=false:=decide_eq_false c2
    rw[d2,Bool.false_and,Bool.false_and]at hRk
    simp -dsimp -implicitDefEqProofs [-getElem?_pos,go_sem,hP,t0,t7,d0,Int.add_sub_cancel,wj,hy,iC,d,wk2,hRk]
 ·have hk:k=l.length:=by simp at h;omega
  subst hk
  rw[List.drop_length,iR]at hRk
  simp -dsimp -implicitDefEqProofs [-getElem?_pos,go_sem,hP,hRk]
end Go.Proofs.YtmmpcldnpflchaaGreatDoor
