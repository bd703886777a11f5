/- Several texts of this claim, joined: Rec5 Rec6 Rec7 AccNet Rec9 Rec10 Rec8 Shelf Split Parts Code SortFlow Stab0 Pl27 Cash0 Cash1 ClmL RefCode RParts CashM Cash2 Cash3 CsL1 Cash4 Cash5 CashT CashA Cash6 Cash7 SortInt DelInt Cash8 Cash9 CashN CashS Cash10. -/
import Derived.Test.YtaenimpfelpafaaGreatDoorPk5
import Derived.Shelf.LaysM
import Derived.Shelf.Strconv.Itoa3
import Derived.Shelf.LaysC
import Derived.Shelf.Strconv.AtoiAll
import Derived.Shelf.Strings.Search2
import Derived.Shelf.Strings.Search3
import Derived.Test.YtaenimpfelpafaaGreatDoorProg
import Derived.RangeFuncBox
import Derived.RangeFuncLeaves
import Derived.Shelf.Abstract
import Derived.WalkKit
import Derived.OwnWalkIn
import Derived.TacticsInMore
import Derived.LoopNIn
import Derived.LoopIn
import Derived.Maps.AppendAt
import Derived.Lib.PathFns
import Derived.Lib.IndexLaws
import Derived.Laws.Rows
import Derived.RangeFuncCalls
set_option linter.unusedSimpArgs false
set_option linter.unusedVariables false
namespace Go.Proofs.YtaenimpfelpafaaGreatDoor
open Go.PA
open Go.RowKit
theorem clone_pf_sub (l:List TSub) (hl:l.length≤1000000):PFun Tryz.prog none none 61 [.list 2 (encL TSub.cells l)] (·= .list 2 (encL TSub.cells l)):=by
 cases l with
 |nil=>
  refine pfun_list_nil fun A c=>?_
  refine pfun_intro Tryz.func61 rfl (by simp[Tryz.f61]) (by kernel_rfl) ?_
  intro E hP hr hs hW hN
  cases A with
  |none=>
   simp -dsimp -implicitDefEqProofs [-getElem?_pos,go_sem,hP]
   exact done_weak .nil (imm_list.2 (by simp)) (.nil _) rfl
  |some a=>
   simp -dsimp -implicitDefEqProofs [-getElem?_pos,go_sem,hP]
   refine done_weak (x:= .list 2 []) ?_ (imm_list.2 (by simp)) ?_ rfl
   ·simp -dsimp -implicitDefEqProofs [-getElem?_pos,go_sem]
   ·simp -dsimp -implicitDefEqProofs [-getElem?_pos,go_sem]
    first|exact .refl _|skip
 |cons a l=>
  refine pfun_intro Tryz.func61 rfl (by simp[Tryz.f61]) (by kernel_rfl) ?_
  intro E hP hr hs hW hN
  simp only[List.length_cons]at hl
  have e:encL TSub.cells (a::l)=TSub.cells a::encL TSub.cells l:=rfl
  have im:Imm (.list 2 (TSub.cells a::encL TSub.cells l)):=by rw[←e];exact imm_encL _ TSub.imm _
  have et:(TSub.cells a::encL TSub.cells l).take (l.length+1)=TSub.cells a::encL TSub.cells l:=by
   rw[←e]
   exact encL_take TSub.cells (a::l) _ (by simp)
  simp -dsimp -implicitDefEqProofs [-getElem?_pos,go_sem,hP,e]
  refine⟨by omega,by omega,?_⟩
  refine done_weak (x:= .list 2 (TSub.cells a::encL TSub.cells l)) ?_ im ?_ rfl
  ·simp -dsimp -implicitDefEqProofs [-getElem?_pos,go_sem]
   first|exact im|(have h:=imm_list.1 im;simp only[List.mem_cons,forall_eq_or_imp]at h;exact h)
  ·simp -dsimp -implicitDefEqProofs [-getElem?_pos,go_sem]
   first|exact .refl _|skip
theorem clone_pf_entry (l:List TEntry) (hl:l.length≤1000000):PFun Tryz.prog none none 62 [.list 6 (encL TEntry.cells l)] (·= .list 6 (encL TEntry.cells l)):=by
 cases l with
 |nil=>
  refine pfun_list_nil fun A c=>?_
  refine pfun_intro Tryz.func62 rfl (by simp[Tryz.f62]) (by kernel_rfl) ?_
  intro E hP hr hs hW hN
  cases A with
  |none=>
   simp -dsimp -implicitDefEqProofs [-getElem?_pos,go_sem,hP]
   exact done_weak .nil (imm_list.2 (by simp)) (.nil _) rfl
  |some a=>
   simp -dsimp -implicitDefEqProofs [-getElem?_pos,go_sem,hP]
   refine done_weak (x:= .list 6 []) ?_ (imm_list.2 (by simp)) ?_ rfl
   ·simp -dsimp -implicitDefEqProofs [-getElem?_pos,go_sem]
   ·simp -dsimp -implicitDefEqProofs [-getElem?_pos,go_sem]
    first|exact .refl _|skip
 |cons a l=>
  refine pfun_intro Tryz.func62 rfl (by simp[Tryz.f62]) (by kernel_rfl) ?_
  intro E hP hr hs hW hN
  simp only[List.length_cons]at hl
  have e:encL TEntry.cells (a::l)=TEntry.cells a::encL TEntry.cells l:=rfl
  have im:Imm (.list 6 (TEntry.cells a::encL TEntry.cells l)):=by rw[←e];exact imm_encL _ TEntry.imm _
  have et:(TEntry.cells a::encL TEntry.cells l).take (l.length+1)=TEntry.cells a::encL TEntry.cells l:=by
   rw[←e]
   exact encL_take TEntry.cells (a::l) _ (by simp)
  simp -dsimp -implicitDefEqProofs [-getElem?_pos,go_sem,hP,e]
  refine⟨by omega,by omega,?_⟩
  refine done_weak (x:= .list 6 (TEntry.cells a::encL TEntry.cells l)) ?_ im ?_ rfl
  ·simp -dsimp -implicitDefEqProofs [-getElem?_pos,go_sem]
   first|exact im|(have h:=imm_list.1 im;simp only[List.mem_cons,forall_eq_or_imp]at h;exact h)
  ·simp -dsimp -implicitDefEqProofs [-getElem?_pos,go_sem]
   first|exact .refl _|skip
theorem copyAcc_pf (a:TAccount) (hl:a.Subs.length≤100000) (he:a.Entries.length≤100000):PFun Tryz.prog none none 177 [.agg a.cells] (·= .agg a.cells):=by
 refine pfun_intro Tryz.func177 rfl (by simp[Tryz.f177]) (by kernel_rfl) ?_
 intro E hP hr hs hW hN
 have i1:=imm_subs a.Subs
 have i2:=imm_ents a.Entries
 simp -dsimp -implicitDefEqProofs [-getElem?_pos,go_sem,hP,cA]
 refine adrawQ (fun i=>decide (i=0)) [9] [4,7] hP (by kernel_rfl) (by kernel_rfl) ?_
 simp -dsimp -implicitDefEqProofs [-getElem?_pos,go_sem,hP]
 refine callQ_is ((clone_pf_sub a.Subs (by omega)).lift _ _) hP en_61 (by simpa using i1) i1 ?_
 simp -dsimp -implicitDefEqProofs [-getElem?_pos,go_sem,hP]
 refine callQ_is ((clone_pf_entry a.Entries (by omega)).lift _ _) hP en_62 (by simpa using i2) i2 ?_
 simp -dsimp -implicitDefEqProofs [-getElem?_pos,go_sem,hP]
 exact done_imm (imm_acc a) rfl
theorem copyQ_pf (q:TQueue) (hf:FitQ q):PFun Tryz.prog none none 173 [.agg q.cells] (·= .agg q.cells):=by
 refine pfun_of_mfun_agg (bcopy_m q [] hf) (imm_que q) ?_
 rintro r H' ⟨i1,i2,x,rfl,_,_,_,h1,h2,⟨B,_,_,hg⟩,_⟩
 exact⟨_,rfl,cw_sref h1 (by rw[encL_len]) (imm_pays _) (cw_sref h2 (by rw[encL_len]) (imm_nums _) (hg.cw (imm_bats _) .nil))⟩
set_option maxHeartbeats 1000000 in
theorem copied26_m {row src:Option Nat} (d:TDesk) (H:Heap) (hf:FitD d):
  MFun Tryz.prog row src 114 [.agg d.cells] H (fun r H'=>∃id,r= .agg [iv d.Account.Credit,subsL d.Account.Subs,entsL d.Account.Entries,paysL d.Queue.Waiting,numsL d.Queue.Known,batsL d.Queue.Batches,.sref id 0 d.Items.length]∧H.length≤id∧H'[id]?=some (some ⟨83,7,encL TItem.cells d.Items⟩)∧Kept [] H H'):=by
 obtain⟨C,hC⟩:∃C:AV→Heap→Prop,C=fun r H'=>∃id,r= .agg [iv d.Account.Credit,subsL d.Account.Subs,entsL d.Account.Entries,paysL d.Queue.Waiting,numsL d.Queue.Known,batsL d.Queue.Batches,.sref id 0 d.Items.length]∧H.length≤id∧H'[id]?=some (some ⟨83,7,encL TItem.cells d.Items⟩)∧Kept [] H H':=⟨_,rfl⟩
 rw[←hC]
 have ex:∃r H',C r H':=⟨_,H++[some ⟨83,7,encL TItem.cells d.Items⟩],by
  rw[hC]
  exact⟨H.length,rfl,Nat.le_refl _,by simp,kept_app _ _ _⟩⟩
 refine mfun_intro Tryz.func114 rfl (by simp[Tryz.f114]) (by kernel_rfl) (ex) ?_
 intro E hP hr hs hN
 have ia:=imm_acc d.Account
 have iq:=imm_que d.Queue
 have ca:=copyAcc_pf d.Account hf.s hf.e
 have cq:=copyQ_pf d.Queue hf.q
 have li:=hf.i
 rw[cA]at ia ca
 rw[cQn]at iq cq
 simp -dsimp -implicitDefEqProofs [-getElem?_pos,go_sem,hP,cDn]
 obtain⟨H1,hH1⟩:∃H1:Heap,H1=H++[some (deskO d),some ⟨35,7,[[iv 0,.nil,.nil,.nil,.nil,.nil,.nil]]⟩]:=⟨_,rfl⟩
 have l1:H1.length=H.length+2:=by rw[hH1];simp
 have a0:H1[H.length]?=some (some (deskO d)):=by rw[hH1];simp
 have a1:H1[H.length+1]?=some (some ⟨35,7,[[iv 0,.nil,.nil,.nil,.nil,.nil,.nil]]⟩):=by rw[hH1,List.getElem?_append_right (by omega)];simp
 have k1:Kept [] H H1:=by rw[hH1];exact kept_app _ _ _
 have e1:H++[some (deskO d),some ⟨35,7,[[iv 0,.nil,.nil,.nil,.nil,.nil,.nil]]⟩]=H1:=hH1.symm
 simp only[deskO]at e1 a0
 simp only[e1]
 refine adrawQ (fun i=>decide (i=H.length)) [10] [2,5] hP (by kernel_rfl) (by kernel_rfl) ?_
 simp -dsimp -implicitDefEqProofs [-getElem?_pos,go_sem,hP,a0,l1]
 refine callQ_is (ca.lift _ _) hP en_177 (by simpa using ia) ia ?_
 simp -dsimp -implicitDefEqProofs [-getElem?_pos,go_sem,hP,a0,l1]
 refine callQ_is (cq.lift _ _) hP en_173 (by simpa using iq) iq ?_
 simp -dsimp -implicitDefEqProofs [-getElem?_pos,go_sem,hP,a0,l1]
 refine callB_m (by rw[hr,hs];exact clone_m_item d.Items H1 (by omega)) hP en_65 ?_
 rintro r H2 ⟨id,rfl,hid,ho,hk⟩
 have b0:=hk _ _ (by simp) a0
 have b1:=hk _ _ (by simp) a1
 have lt1:=(gsI b1)
 have aD:∀(X X':Heap),Kept [] X X'→X[H.length]?=some (some (deskO d))→Agree (fun i=>decide (i=H.length)) X X':=fun X X' hk e0=>agree_live hk fun i hi=>by
  simp only[decide_eq_true_eq]at hi
  subst hi
  exact⟨by simp,_,e0⟩
 simp -dsimp -implicitDefEqProofs [-getElem?_pos,go_sem,hP,b1,lt1]
 refine⟨aD _ _ hk a0,?_⟩
 rw[hC]
 refine⟨id,rfl,by omega,?_,?_⟩
 ·rw[List.getElem?_set_ne (by omega),ho]
 ·exact kept_new _ (by omega) (k1.trans hk)
open Go.PA
open Go.RowKit
theorem DOk.ks {d:TDesk} (h:DOk d):(d.Items.map wrt).Pairwise (·<·):=by rw[h.k];exact h.q.ks
theorem DOk.nd {d:TDesk} (h:DOk d):(d.Items.map wrt).Nodup:=sorted_nodup h.ks
theorem place_cut {l:List TItem} (hs:(l.map wrt).Pairwise (·<·)) (w:Int):∃k,CutI l w k∧((l[k]?).map wrt=some w↔w∈l.map wrt):=by
 obtain⟨k,h1,h2,_,h4⟩:=ins_placeK (p:=w) hs
 rw[List.length_map]at h1
 refine⟨k,⟨h1,fun h x hx=>h2 h (wrt x) (by rw[List.getElem?_map,hx];rfl)⟩,?_⟩
 rw[←List.getElem?_map]
 exact h4
theorem posI_at {l:List TItem} (hn:(l.map wrt).Nodup) {k:Nat} {x:TItem} (hx:l[k]?=some x):posI l x.Payment.Warrant=k:=by
 unfold posI
 rcases idxI_spec (fun y:TItem=>decide (y.Payment.Warrant=x.Payment.Warrant)) l with⟨h1,h2⟩|⟨i,a,h1,h2,h3,_⟩
 ·have:=h2 x (List.mem_of_getElem? hx)
  simp at this
 ·have h2:a.Payment.Warrant=x.Payment.Warrant:=by simpa using h2
  have e1:(l.map wrt)[i]?=some x.Payment.Warrant:=by rw[List.getElem?_map,h1];exact congrArg some h2
  have e2:(l.map wrt)[k]?=some x.Payment.Warrant:=by rw[List.getElem?_map,hx];rfl
  have:=(List.getElem?_inj (gsI e1) hn).1 (e1.trans e2.symm)
  rw[h3,this]
theorem posI_none {l:List TItem} {w:Int} (h:w∉l.map wrt):posI l w= -1:=by
 unfold posI
 rcases idxI_spec (fun y:TItem=>decide (y.Payment.Warrant=w)) l with⟨h1,h2⟩|⟨i,a,h1,h2,h3,_⟩
 ·exact h1
 ·have h2:a.Payment.Warrant=w:=by simpa using h2
  exact absurd (List.mem_map.2 ⟨a,List.mem_of_getElem? h1,h2⟩) h
theorem changeD_bad {d:TDesk} {w st:Int} {f:TDesk→TItem→Done1} (h:¬checkD d=0):changeD d w st f=(zeroD,checkD d):=by rw[changeD,if_neg h]
theorem changeD_none {d:TDesk} {w st:Int} {f:TDesk→TItem→Done1} (h:checkD d=0) (hw:w∉d.Items.map wrt):changeD d w st f=(zeroD,6):=by
 rw[changeD,if_pos h]
 split
 ·rfl
 ·rw[if_pos (by rw[posI_none hw];omega)]
theorem changeD_at {d:TDesk} {st:Int} {f:TDesk→TItem→Done1} (h:checkD d=0) {k:Nat} {x:TItem} (hx:d.Items[k]?=some x):changeD d x.Payment.Warrant st f=if x.State=st then (if (f d x).e=0 then (⟨(f d x).a,(f d x).q,d.Items.set k (f d x).x⟩,0)else (zeroD,(f d x).e))else (zeroD,67):=by
 have hp:=posI_at (checkD_iff.1 h).nd hx
 rw[changeD,if_pos h,hp,Int.toNat_natCast,hx]
 simp only
 rw[if_neg (by omega)]
theorem contains_pf_entry (l:List TEntry) (g:FuncId) (caps:List AV) (p:TEntry→Bool) (hl:l.length≤1000000) (hen:enterable Tryz.prog g=true) (hcap:∀a,a∈caps→Imm a)
  (hg:∀a,a∈l→PFun Tryz.prog none none g (.agg (TEntry.cells a)::caps) (·=bv (p a))):
  PFun Tryz.prog none none 112 [.list 6 (encL TEntry.cells l),.fn g caps] (·=bv (l.any p)):=by
 refine pfun_intro Tryz.func112 rfl (by simp[Tryz.f112]) (by kernel_rfl) ?_
 intro E hP hr hs hW hN
 obtain⟨w,hw⟩:∃w,w=l.any p:=⟨_,rfl⟩
 rw[←hw]
 have hi:∀a,a∈[AV.list 6 (encL TEntry.cells l),.fn g caps]→Imm a:=fun a ha=>by
  simp only[List.mem_cons,List.not_mem_nil,or_false]at ha
  rcases ha with rfl|rfl
  ·exact imm_encL _ TEntry.imm _
  ·exact imm_fn.2 hcap
 simp -dsimp -implicitDefEqProofs [-getElem?_pos,go_sem,hP]
 refine callB_is ((index_pf_entry l g caps p hl hen hcap hg).lift _ _) hP en_143 hi .sc ?_
 rcases idxI_spec p l with⟨h1,h2⟩|⟨i,a,h1,h2,h3,_⟩
 ·have:w=false:=by rw[hw];exact List.any_eq_false.2 fun a ha=>by simp[h2 a ha]
  simp -dsimp -implicitDefEqProofs [-getElem?_pos,go_sem,hP,h1,this]
 ·have d:decide ((0:Int)≤(i:Int))=true:=decide_eq_true (by omega)
  have:w=true:=by rw[hw];exact List.any_eq_true.2 ⟨a,List.mem_of_getElem? h1,h2⟩
  simp -dsimp -implicitDefEqProofs [-getElem?_pos,go_sem,hP,h3,d,this]
theorem cw_zeroD {H:Heap}:CW H [iv 0,.nil,.nil,.nil,.nil,.nil,.nil] zeroD.cells:=cw_sc (cw_nil (cw_nil (cw_nil (cw_nil (cw_nil (cw_nil .nil))))))
theorem done_zeroD {H:Heap} {n:Int} {Q:AV→Prop} {b:Bx Q} (h:Q (.tup [.agg zeroD.cells,iv n])):Done H (.tup [.agg [iv 0,.nil,.nil,.nil,.nil,.nil,.nil],iv n]) Q b:=done_agg2 cw_zeroD h
open Go.PA
open Go.RowKit
abbrev ownO (a:TAccount) (q:TQueue) (id n:Nat):AObj:=⟨35,7,[[iv a.Credit,subsL a.Subs,entsL a.Entries,paysL q.Waiting,numsL q.Known,batsL q.Batches,.sref id 0 n]]⟩
abbrev itemsO (l:List TItem):AObj:=⟨83,7,encL TItem.cells l⟩
def DoM (g:FuncId) (caps:List AV) (d:TDesk) (f:TDesk→TItem→Done1):Prop:=
 ∀(row src:Option Nat) (x:TItem) (at_ b id:Nat) (H:Heap),d.Items[at_]?=some x→b≠id→H[b]?=some (some (ownO d.Account d.Queue id d.Items.length))→H[id]?=some (some (itemsO d.Items))→
  MFun Tryz.prog row src g ([.ref b 0 0,.ref id at_ 0]++caps) H (fun r H'=>r=iv (f d x).e∧((f d x).e=0→H'[b]?=some (some (ownO (f d x).a (f d x).q id d.Items.length))∧H'[id]?=some (some (itemsO (d.Items.set at_ (f d x).x))))∧Kept [b,id] H H')
theorem encL_set {α:Type} (f:α→List AV) (l:List α) (i:Nat) (x:α):(encL f l).set i (f x)=encL f (l.set i x):=by
 simp[encL,List.map_set]
set_option maxHeartbeats 2000000 in
theorem change_pf (d:TDesk) (w st:Int) (g:FuncId) (caps:List AV) (f:TDesk→TItem→Done1) (hf:FitD d) (hen:enterable Tryz.prog g=true) (hcap:∀c,c∈caps→Imm c) (hg:checkD d=0→DoM g caps d f):
  PFun Tryz.prog none none 123 [.agg d.cells,iv w,iv st,.fn g caps] (·= .tup [.agg (changeD d w st f).1.cells,iv (changeD d w st f).2]):=by
 refine pfun_introA Tryz.func123 rfl (by simp[Tryz.f123]) ?_
 intro E hP hr hs hW hN
 have li:=hf.i
 have id':=imm_desk d
 have pl:=place_pf d w (by omega)
 have ck:=dcheck_pf d hf
 rw[cDn]at id' pl ck
 refine awp_sound _ _ _ (by rw[hN];kernel_rfl) ?_
 simp -dsimp -implicitDefEqProofs [-getElem?_pos,go_sem,hP,cDn]
 refine callB_is (ck.lift _ _) hP en_83 (by simpa using id') .sc ?_
 by_cases c1:checkD d=0
 rotate_left
 ·have:=changeD_bad (w:=w) (st:=st) (f:=f) c1
  simp -dsimp -implicitDefEqProofs [-getElem?_pos,go_sem,hP,c1]
  refine done_zeroD ?_
  rw[this]
 have hd:=checkD_iff.1 c1
 simp -dsimp -implicitDefEqProofs [-getElem?_pos,go_sem,hP,c1]
 refine callB_flat (pl.lift _ _) hP en_115 (args_same (by simpa[imm_sc]using id')) (by obtain⟨r,h,_⟩:=placeQ_ex d.Items w;exact⟨r,h⟩) (fun r h=>h.flat) ?_
 rintro r ⟨i,hi,rfl,hcut⟩
 obtain⟨k,hk,hk2⟩:=place_cut hd.ks w
 have:=hcut k hk
 subst this
 by_cases c2:w∈d.Items.map wrt
 rotate_left
 ·have:=changeD_none (st:=st) (f:=f) c1 c2
  have d1:decide ((d.Items[i]?).map wrt=some w)=false:=decide_eq_false (mt hk2.1 c2)
  generalize decide ((d.Items[i]?).map wrt=some w)=bb at d1
  subst d1
  simp -dsimp -implicitDefEqProofs [-getElem?_pos,go_sem,hP]
  refine done_zeroD ?_
  rw[this]
 have c2':=hk2.2 c2
 have d1:=decide_eq_true c2'
 generalize decide ((d.Items[i]?).map wrt=some w)=bb at d1
 subst d1
 obtain⟨x,hx,hxw⟩:∃x,d.Items[i]?=some x∧x.Payment.Warrant=w:=by
  cases h:d.Items[i]? with
  |none=>rw[h]at c2';cases c2'
  |some x=>rw[h]at c2';exact⟨x,rfl,by simpa[wrt]using c2'⟩
 have hch:=changeD_at (st:=st) (f:=f) c1 hx
 rw[hxw]at hch
 rw[hch]
 clear hch
 by_cases c3:x.State=st
 rotate_left
 ·have d3:=decide_eq_false c3
  rw[if_neg c3]
  simp -dsimp -implicitDefEqProofs [-getElem?_pos,go_sem,hP,hx,cIt,d3]
  exact done_zeroD rfl
 rw[if_pos c3]
 simp -dsimp -implicitDefEqProofs [-getElem?_pos,go_sem,hP,hx,cIt,c3]
 have cm:=fun {row src:Option Nat} (H:Heap)=>copied26_m (row:=row) (src:=src) d H hf
 simp only[cDn]at cm
 refine callB_m (by rw[hr,hs];exact cm _) hP en_114 ?_
 rintro r H2 ⟨id,rfl,hid,ho,hk'⟩
 have b0:=hk' 0 _ (by simp) rfl
 have b1:=hk' 1 _ (by simp) rfl
 have lt0:=(gsI b0)
 have lt1:=(gsI b1)
 have lti:=(gsI ho)
 have hid2:2≤id:=by simpa using hid
 have n0:¬0=id:=by omega
 have n0':¬id=0:=by omega
 have hil:=(gsI hx)
 simp -dsimp -implicitDefEqProofs [-getElem?_pos,go_sem,hP,b0,lt0,ho,hil,n0]
 generalize hH3:List.set H2 0 _=H3
 have e0:H3[0]?=some (some (ownO d.Account d.Queue id d.Items.length)):=by rw[←hH3,List.getElem?_set_self lt0]
 have e1:H3[1]?=H2[1]?:=by rw[←hH3,List.getElem?_set_ne (by omega)]
 have ei:H3[id]?=H2[id]?:=by rw[←hH3,List.getElem?_set_ne (by omega)]
 rw[b1]at e1
 rw[ho]at ei
 refine callB_m (by rw[hr,hs];exact hg c1 none none x i 0 id H3 hx n0 e0 ei) hP hen ?_
 rintro r H4 ⟨rfl,hdo,hk4⟩
 have f1:=hk4 _ _ (by simp;omega) e1
 have m1:=(gsI f1)
 by_cases c4:(f d x).e=0
 rotate_left
 ·have d4:=decide_eq_false c4
  rw[if_neg c4]
  simp -dsimp -implicitDefEqProofs [-getElem?_pos,go_sem,hP,d4,f1,m1]
  exact done_zeroD rfl
 obtain⟨g0,gi⟩:=hdo c4
 have m0:=(gsI g0)
 have d4:=decide_eq_true c4
 have n01:¬1=id:=by omega
 rw[if_pos c4]
 simp -dsimp -implicitDefEqProofs [-getElem?_pos,go_sem,hP,c4,d4,f1,m1,g0,m0]
 refine done_agg2 (cs':=TDesk.cells ⟨(f d x).a,(f d x).q,d.Items.set i (f d x).x⟩) ?_ rfl
 refine cw_sc (cw_imm (imm_subs _) (cw_imm (imm_ents _) (cw_imm (imm_pays _) (cw_imm (imm_nums _) (cw_imm (imm_bats _) (cw_sref (ty:=83) ?_ ?_ (imm_items _) .nil))))))
 ·rw[List.getElem?_set_ne n01]
  exact gi
 ·rw[encL_len,List.length_set]
theorem settle1_do (d:TDesk):DoM 124 [] d settleF:=by
 intro row src x at_ b id H hx hbi hb hi
 have hil:=(gsI hx)
 have ltb:=(gsI hb)
 have lti:=(gsI hi)
 obtain⟨C,hC⟩:∃C:AV→Heap→Prop,C=fun r H'=>r=iv (settleF d x).e∧((settleF d x).e=0→H'[b]?=some (some (ownO (settleF d x).a (settleF d x).q id d.Items.length))∧H'[id]?=some (some (itemsO (d.Items.set at_ (settleF d x).x))))∧Kept [b,id] H H':=⟨_,rfl⟩
 rw[←hC]
 have es:=encL_set TItem.cells d.Items at_ (settleF d x).x
 have fin:C (iv 0) (H.set id (some ⟨83,7,(encL TItem.cells d.Items).set at_ (settleF d x).x.cells⟩)):=by
  rw[hC,es]
  exact⟨rfl,fun _=>⟨by rw[List.getElem?_set_ne (Ne.symm hbi)];exact hb,by rw[List.getElem?_set_self lti]⟩,kept_set _ (by simp) (kept_refl _ _)⟩
 refine mfun_intro Tryz.func124 rfl (by simp[Tryz.f124]) (by kernel_rfl) (⟨_,_,fin⟩) ?_
 intro E hP hr hs hN
 simp -dsimp -implicitDefEqProofs [-getElem?_pos,go_sem,hP,hi,hx,hil,lti,cIt]
 exact fin
theorem recall1_do (d:TDesk) (w:Int) (hf:FitD d):DoM 126 [.iref [iv w]] d (recallF w):=by
 intro row src x at_ b id H hx hbi hb hi
 have hil:=(gsI hx)
 have ltb:=(gsI hb)
 have lti:=(gsI hi)
 have iq:=imm_que d.Queue
 have dp:=bdrop_pf d.Queue w hf.q
 have io:=imm_que (dropQ d.Queue w).1
 simp only[cQn]at iq dp io
 obtain⟨C,hC⟩:∃C:AV→Heap→Prop,C=fun r H'=>r=iv (recallF w d x).e∧((recallF w d x).e=0→H'[b]?=some (some (ownO (recallF w d x).a (recallF w d x).q id d.Items.length))∧H'[id]?=some (some (itemsO (d.Items.set at_ (recallF w d x).x))))∧Kept [b,id] H H':=⟨_,rfl⟩
 rw[←hC]
 have es:=encL_set TItem.cells d.Items at_ (recallF w d x).x
 have fin:C (iv (recallF w d x).e) ((H.set id (some ⟨83,7,(encL TItem.cells d.Items).set at_ (recallF w d x).x.cells⟩)).set b (some (ownO (recallF w d x).a (recallF w d x).q id d.Items.length))):=by
  rw[hC,es]
  exact⟨rfl,fun _=>⟨by rw[List.getElem?_set_self (by simpa using ltb)],by rw[List.getElem?_set_ne hbi,List.getElem?_set_self lti]⟩,kept_set _ (by simp) (kept_set _ (by simp) (kept_refl _ _))⟩
 refine mfun_intro Tryz.func126 rfl (by simp[Tryz.f126]) (by kernel_rfl) (⟨_,_,fin⟩) ?_
 intro E hP hr hs hN
 simp -dsimp -implicitDefEqProofs [-getElem?_pos,go_sem,hP,hi,hx,hil,lti,cIt]
 have hb1:(H.set id (some ⟨83,7,(encL TItem.cells d.Items).set at_ (recallF w d x).x.cells⟩))[b]?=H[b]?:=List.getElem?_set_ne (Ne.symm hbi)
 have hl1:(H.set id (some ⟨83,7,(encL TItem.cells d.Items).set at_ (recallF w d x).x.cells⟩)).length=H.length:=List.length_set
 rw[hb]at hb1
 simp only[recallF,cIt]at hb1 hl1 fin
 generalize hH1:List.set H id _=H1 at hb1 hl1 fin
 rw[←hl1]at ltb
 refine adrawB (fun i=>decide (i=b)) [12] hP (by kernel_rfl) (by kernel_rfl) ?_
 simp -dsimp -implicitDefEqProofs [-getElem?_pos,go_sem,hP,hb1,ltb]
 refine callB_is (dp.lift _ _) hP en_127 (by simpa[imm_sc]using iq) (imm_pair io .sc) ?_
 simp -dsimp -implicitDefEqProofs [-getElem?_pos,go_sem,hP,hb1,ltb]
 exact fin
theorem return1_do (d:TDesk) (w day:Int) (hf:FitD d):DoM 125 [.iref [iv day],.iref [iv w]] d (returnF w day):=by
 intro row src x at_ b id H hx hbi hb hi
 have hil:=(gsI hx)
 have ltb:=(gsI hb)
 have lti:=(gsI hi)
 have ia:=imm_acc d.Account
 have nx:=next_pf d.Account day 0 x.Payment.Sub x.Payment.Amount w hf.e
 have po:=post_pf d.Account (nextE d.Account day 0 x.Payment.Sub x.Payment.Amount w) hf.s hf.e
 have ie:=imm_ent (nextE d.Account day 0 x.Payment.Sub x.Payment.Amount w)
 have io:=imm_acc (postA d.Account (nextE d.Account day 0 x.Payment.Sub x.Payment.Amount w)).1
 simp only[cA]at ia nx po io
 obtain⟨C,hC⟩:∃C:AV→Heap→Prop,C=fun r H'=>r=iv (returnF w day d x).e∧((returnF w day d x).e=0→H'[b]?=some (some (ownO (returnF w day d x).a (returnF w day d x).q id d.Items.length))∧H'[id]?=some (some (itemsO (d.Items.set at_ (returnF w day d x).x))))∧Kept [b,id] H H':=⟨_,rfl⟩
 rw[←hC]
 have es:=encL_set TItem.cells d.Items at_ (returnF w day d x).x
 have fin:C (iv (returnF w day d x).e) ((H.set id (some ⟨83,7,(encL TItem.cells d.Items).set at_ (returnF w day d x).x.cells⟩)).set b (some (ownO (returnF w day d x).a (returnF w day d x).q id d.Items.length))):=by
  rw[hC,es]
  exact⟨rfl,fun _=>⟨by rw[List.getElem?_set_self (by simpa using ltb)],by rw[List.getElem?_set_ne hbi,List.getElem?_set_self lti]⟩,kept_set _ (by simp) (kept_set _ (by simp) (kept_refl _ _))⟩
 refine mfun_intro Tryz.func125 rfl (by simp[Tryz.f125]) (by kernel_rfl) (⟨_,_,fin⟩) ?_
 intro E hP hr hs hN
 simp -dsimp -implicitDefEqProofs [-getElem?_pos,go_sem,hP,hi,hx,hil,lti,cIt]
 have hb1:(H.set id (some ⟨83,7,(encL TItem.cells d.Items).set at_ (returnF w day d x).x.cells⟩))[b]?=H[b]?:=List.getElem?_set_ne (Ne.symm hbi)
 have hi1:(H.set id (some ⟨83,7,(encL TItem.cells d.Items).set at_ (returnF w day d x).x.cells⟩))[id]?=some (some ⟨83,7,encL TItem.cells (d.Items.set at_ (returnF w day d x).x)⟩):=by rw[List.getElem?_set_self lti,es]
 have hx1:(d.Items.set at_ (returnF w day d x).x)[at_]?=some (returnF w day d x).x:=List.getElem?_set_self hil
 have hl1:(H.set id (some ⟨83,7,(encL TItem.cells d.Items).set at_ (returnF w day d x).x.cells⟩)).length=H.length:=List.length_set
 rw[hb]at hb1
 simp only[returnF,cIt]at hb1 hl1 hi1 hx1 fin
 generalize hH1:List.set H id _=H1 at hb1 hl1 hi1 fin
 generalize List.set d.Items at_ _=L1 at hi1 hx1
 have hil1:=(gsI hx1)
 rw[←hl1]at ltb lti
 refine adrawB (fun i=>decide (i=b)||decide (i=id)) [28] hP (by kernel_rfl) (by kernel_rfl) ?_
 simp -dsimp -implicitDefEqProofs [-getElem?_pos,go_sem,hP,hb1,ltb,hi1,hx1,lti,hil1,cIt]
 refine callB_is (nx.lift _ _) hP en_121 (by simpa[imm_sc]using ia) ie ?_
 simp -dsimp -implicitDefEqProofs [-getElem?_pos,go_sem,hP,hb1,ltb,hi1,hx1,lti,hil1,cIt]
 refine callB_is (po.lift _ _) hP en_120 (by simpa using⟨ia,ie⟩) (imm_pair io .sc) ?_
 simp -dsimp -implicitDefEqProofs [-getElem?_pos,go_sem,hP,hb1,ltb,hi1,hx1,lti,hil1,cIt]
 exact fin
theorem rsettle_pf (d:TDesk) (w:Int) (hf:FitD d):PFun Tryz.prog none none 74 [.agg d.cells,iv w] (·= .tup [.agg (settleD d w).1.cells,iv (settleD d w).2]):=by
 refine pfun_intro Tryz.func74 rfl (by simp[Tryz.f74]) (by kernel_rfl) ?_
 intro E hP hr hs hW hN
 have id':=imm_desk d
 have io:=imm_desk (settleD d w).1
 have ch:=change_pf d w 2 124 [] settleF hf en_124 (by simp) fun _=>settle1_do d
 rw[←settleD]at ch
 simp only[cDn]at id' ch io
 simp -dsimp -implicitDefEqProofs [-getElem?_pos,go_sem,hP,cDn]
 refine callB_is (ch.lift _ _) hP en_123 (by simpa[imm_sc,imm_fn]using id') (imm_pair io .sc) ?_
 simp -dsimp -implicitDefEqProofs [-getElem?_pos,go_sem,hP]
 exact done_imm (imm_pair io .sc) rfl
theorem rrecall_pf (d:TDesk) (w:Int) (hf:FitD d):PFun Tryz.prog none none 76 [.agg d.cells,iv w] (·= .tup [.agg (recallD d w).1.cells,iv (recallD d w).2]):=by
 refine pfun_intro Tryz.func76 rfl (by simp[Tryz.f76]) (by kernel_rfl) ?_
 intro E hP hr hs hW hN
 have id':=imm_desk d
 have io:=imm_desk (recallD d w).1
 have ch:=change_pf d w 1 126 [.iref [iv w]] (recallF w) hf en_126 (by simp[imm_iref,imm_sc]) fun _=>recall1_do d w hf
 rw[←recallD]at ch
 simp only[cDn]at id' ch io
 simp -dsimp -implicitDefEqProofs [-getElem?_pos,go_sem,hP,cDn]
 refine callB_frz (ch.lift _ _) hP hW en_123 (args_imm id' (args_imm .sc (args_imm .sc (args_fnc (cs:=[.ref 1 0 0]) (by simp -dsimp[-getElem?_pos,go_sem,viewR_ref]) (by simp[imm_iref,imm_sc]) (args_nil.2 trivial))))) (imm_pair io .sc) ?_
 simp -dsimp -implicitDefEqProofs [-getElem?_pos,go_sem,hP,killAll,List.flatMap_cons,List.flatMap_nil,List.foldl_cons,List.foldl_nil,List.append_nil,List.cons_append,List.nil_append]
 exact done_imm (imm_pair io .sc) rfl
theorem rreturn_pf (d:TDesk) (w day:Int) (hf:FitD d):PFun Tryz.prog none none 75 [.agg d.cells,iv w,iv day] (·= .tup [.agg (returnD d w day).1.cells,iv (returnD d w day).2]):=by
 refine pfun_intro Tryz.func75 rfl (by simp[Tryz.f75]) (by kernel_rfl) ?_
 intro E hP hr hs hW hN
 have id':=imm_desk d
 have io:=imm_desk (returnD d w day).1
 have ch:=change_pf d w 2 125 [.iref [iv day],.iref [iv w]] (returnF w day) hf en_125 (by simp[imm_iref,imm_sc]) fun _=>return1_do d w day hf
 rw[←returnD]at ch
 simp only[cDn]at id' ch io
 simp -dsimp -implicitDefEqProofs [-getElem?_pos,go_sem,hP,cDn]
 refine callB_frz (ch.lift _ _) hP hW en_123 (args_imm id' (args_imm .sc (args_imm .sc (args_fnc (cs:=[.ref 2 0 0,.ref 1 0 0]) (by simp -dsimp[-getElem?_pos,go_sem,viewR_ref]) (by simp[imm_iref,imm_sc]) (args_nil.2 trivial))))) (imm_pair io .sc) ?_
 simp -dsimp -implicitDefEqProofs [-getElem?_pos,go_sem,hP,killAll,List.flatMap_cons,List.flatMap_nil,List.foldl_cons,List.foldl_nil,List.append_nil,List.cons_append,List.nil_append]
 exact done_imm (imm_pair io .sc) rfl
open Go.PA
theorem agree_1 {a:Option AObj} {l l':Heap}:Agree (fun id=>decide (id=0)) (a::l) (a::l'):=fun id hid=>by
 have:id=0:=by simpa using hid
 rcases id with _|id
 ·rfl
 ·omega
theorem post_ok {a:TAccount} {e:TEntry} (h:(postA a e).2=0):checkA a=0∧a.Entries.length<400∧(postS a.Credit (lastE a).Number (lastE a).Day a.Subs e).1=0∧(postA a e).1=⟨a.Credit,(postS a.Credit (lastE a).Number (lastE a).Day a.Subs e).2,a.Entries++[e]⟩:=by
 unfold postA at h⊢
 by_cases c1:checkA a=0
 ·rw[if_pos c1]at h⊢
  by_cases c2:a.Entries.length=400
  ·rw[if_pos c2]at h;simp at h
  ·rw[if_neg c2]at h⊢
   by_cases c3:(postS a.Credit (lastE a).Number (lastE a).Day a.Subs e).1=0
   ·rw[if_pos c3]
    have:=(check_ok c1).2.1
    exact⟨c1,by omega,c3,rfl⟩
   ·rw[if_neg c3]at h
    exact absurd h c3
 ·rw[if_neg c1]at h
  exact absurd h c1
theorem post_check {a:TAccount} {e:TEntry} (h:(postA a e).2=0):checkA (postA a e).1=0:=by
 obtain⟨c1,c2,c3,c4⟩:=post_ok h
 obtain⟨k1,k2,k3,k4,k5⟩:=check_ok c1
 rw[c4]
 have hi:=postS_ids a.Credit (lastE a).Number (lastE a).Day a.Subs e
 have hl:(postS a.Credit (lastE a).Number (lastE a).Day a.Subs e).2.length=a.Subs.length:=by rw[←ids_len,hi,ids_len]
 have hz:zeroS (postS a.Credit (lastE a).Number (lastE a).Day a.Subs e).2=zeroS a.Subs:=by
  have:∀l:List TSub,zeroS l=(ids l).map fun i=>⟨i,0⟩:=fun l=>by simp[zeroS,ids,Function.comp_def]
  rw[this,this,hi]
 refine check_mk (n:=e.Number) (d:=e.Day) (by dsimp only;omega) (by simp;omega) k3 (by dsimp only;rw[hi];exact k4) ?_
 dsimp only
 rw[hz,replayS_app,k5]
 simp only[Option.bind_some,replayS,c3,if_true]
theorem lastE_post {a:TAccount} {e:TEntry} (h:(postA a e).2=0):lastE (postA a e).1=e:=by
 rw[(post_ok h).2.2.2,lastE]
 simp
theorem post_ids {a:TAccount} {e:TEntry} (h:(postA a e).2=0):ids (postA a e).1.Subs=ids a.Subs:=by
 rw[(post_ok h).2.2.2]
 exact postS_ids _ _ _ _ _
theorem post_ents {a:TAccount} {e:TEntry} (h:(postA a e).2=0):(postA a e).1.Entries=a.Entries++[e]:=by rw[(post_ok h).2.2.2]
theorem post_credit {a:TAccount} {e:TEntry} (h:(postA a e).2=0):(postA a e).1.Credit=a.Credit:=by rw[(post_ok h).2.2.2]
structure GenAcc (n:Nat) (a:TAccount):Prop where
 ok:checkA a=0
 ids:ids a.Subs=[1,2,3,7]
 len:a.Entries.length≤n
 day:(lastE a).Day≤2*(n:Int)
 small:∀e,e∈a.Entries→e.Amount≤500
 cred:a.Credit≤100
theorem GenAcc.post {n:Nat} {a:TAccount} {e:TEntry} (h:GenAcc n a) (hp:(postA a e).2=0) (hd:e.Day≤2*((n:Int)+1)) (ha:e.Amount≤500):GenAcc (n+1) (postA a e).1:=by
 refine⟨post_check hp,(post_ids hp).trans h.ids,?_,?_,?_,by rw[post_credit hp];exact h.cred⟩
 ·rw[post_ents hp];have:=h.len;simp;omega
 ·rw[lastE_post hp];omega
 ·rw[post_ents hp]
  intro x hx
  rcases List.mem_append.1 hx with hx|hx
  ·exact h.small x hx
  ·simp at hx;subst hx;exact ha
theorem GenAcc.mono {n m:Nat} {a:TAccount} (h:GenAcc n a) (hm:n≤m):GenAcc m a:=⟨h.ok,h.ids,by have:=h.len;omega,by have:=h.day;omega,h.small,h.cred⟩
theorem GenAcc.slen {n:Nat} {a:TAccount} (h:GenAcc n a):a.Subs.length=4:=by rw[←ids_len,h.ids];rfl
theorem GenAcc.open {c:Int} (hc:0≤c∧c≤100):GenAcc 0 (newA [1,2,3,7] c)∧openA [1,2,3,7] c=(newA [1,2,3,7] c,0):=by
 have hv:vB c=true:=by simp[vB,amongB];omega
 have hb:numB [1,2,3,7]=true:=by decide
 refine⟨⟨check_mk (n:=0) (d:=0) (by simp[newA,newS]) (by simp[newA]) (by simp[newA];omega) (by simp only[newA,newS_ids];exact hb) (by simp[newA,newS,zeroS,replayS]),by simp[newA,newS_ids],by simp[newA],by simp[newA,lastE],by simp[newA],by simp[newA];omega⟩,?_⟩
 unfold openA
 rw[if_pos hv,if_neg (by simp),if_pos hb]
open Go.PA
open Go.RowKit
theorem sentI_pay (ws:List Int) (x:TItem):(sentI ws x).Payment=x.Payment:=by unfold sentI;split<;>rfl
theorem sentI_wrt (ws:List Int) (l:List TItem):(l.map (sentI ws)).map wrt=l.map wrt:=by
 rw[List.map_map]
 exact List.map_congr_left fun x _=>by simp[wrt,sentI_pay]
theorem sentI_nil (l:List TItem):l.map (sentI [])=l:=by
 have:sentI []=id:=funext fun x=>by simp[sentI]
 rw[this,List.map_id]
theorem sentI_set {l:List TItem} (hn:(l.map wrt).Nodup) {ws:List Int} {i:Nat} {x:TItem} (hx:l[i]?=some x) (hw:x.Payment.Warrant∉ws):
  (l.map (sentI ws))[i]?=some x∧(l.map (sentI ws)).set i ⟨x.Payment,2,x.Attempts+1⟩=l.map (sentI (ws++[x.Payment.Warrant])):=by
 refine⟨by rw[List.getElem?_map,hx,Option.map_some,sentI,if_neg hw],?_⟩
 apply List.ext_getElem?
 intro j
 rw[List.getElem?_set,List.getElem?_map,List.getElem?_map,List.length_map]
 by_cases hij:i=j
 ·subst hij
  rw[if_pos rfl,if_pos (gsI hx),hx,Option.map_some,sentI,if_pos (by simp)]
 ·rw[if_neg hij]
  cases hj:l[j]? with
  |none=>rfl
  |some y=>
   have hne:y.Payment.Warrant≠x.Payment.Warrant:=fun e=>by
    have e1:(l.map wrt)[i]?=some x.Payment.Warrant:=by rw[List.getElem?_map,hx];rfl
    have e2:(l.map wrt)[j]?=some x.Payment.Warrant:=by rw[List.getElem?_map,hj,←e];rfl
    exact hij ((List.getElem?_inj (gsI e1) hn).1 (e1.trans e2.symm))
   simp[sentI,hne]
theorem readyQ_sub (q:TQueue) (day:Int):(readyQ q day).Sublist q.Waiting:=by
 unfold readyQ
 split
 ·exact List.filter_sublist
 ·exact List.nil_sublist _
theorem readyQ_nd {q:TQueue} (hq:QOk q) (day:Int):((readyQ q day).map (·.Warrant)).Nodup:=hq.asc.nd.sublist ((readyQ_sub q day).map _)
theorem wait_item {d:TDesk} (hd:DOk d) {p:TPayment} (hp:p∈d.Queue.Waiting):∃(i:Nat) (x:TItem),d.Items[i]?=some x∧x.Payment=p∧x.State=1:=by
 have hw:∀x,x∈d.Items→waitB d.Queue x=true:=fun x hx=>by
  have:=hd.i x hx
  simp only[itemB,Bool.and_eq_true]at this
  exact this.2.2.2.2.1
 obtain⟨h1,h2⟩:=(waitB_iff hd.q hd.k).1 hw
 obtain⟨x,hx,hs,e⟩:=wait_all hd.q hd.k h1 h2 p hp
 obtain⟨i,hi⟩:=List.getElem?_of_mem hx
 exact⟨i,x,hi,e,hs⟩
theorem item_facts {d:TDesk} (hd:DOk d) {x:TItem} (hx:x∈d.Items):PayOk x.Payment∧(balanceA d.Account x.Payment.Sub).2=true∧(1≤x.State∧x.State≤5)∧(0≤x.Attempts∧x.Attempts≤5)∧attB x=true∧waitB d.Queue x=true∧(batN d.Queue x.Payment.Warrant:Int)=x.Attempts∧movedB d.Account x=true:=by
 have:=hd.i x hx
 simp only[itemB,Bool.and_eq_true,payPB_iff,amg_iff,decide_eq_true_eq]at this
 obtain⟨h1,h2,h3,h4,h5,h6,h7⟩:=this
 refine⟨h1,h2,h3,?_,h4,h5,h6,h7⟩
 simp only[attB,Bool.and_eq_true,amg_iff]at h4
 exact h4.1
theorem lastQ_nil {q:TQueue} (h:q.Batches.length=0):lastQ q=0:=by
 rw[lastQ,List.eq_nil_of_length_eq_zero h]
 rfl
theorem lastQ_get {q:TQueue} {k:Nat} {b:TBatch} (h:q.Batches.length=k+1) (hb:q.Batches[k]?=some b):lastQ q=b.Day:=by
 rw[lastQ,List.getLast?_eq_getElem?,h]
 simp[hb]
theorem check_fit {a:TAccount} (h:checkA a=0):a.Subs.length≤100000∧a.Entries.length≤100000:=by
 have:=check_ok h
 omega
theorem sendGo_len (day:Int):∀(l:List TPayment) (a:TAccount) (ws:List Int) (full:Bool),ws.length≤10→(sendGo day l a ws full).2.1.length≤10
 |[],a,ws,full,h=>h
 |p::l,a,ws,full,h=>by
  rw[sendGo]
  split
  ·exact h
  ·split
   ·exact sendGo_len day l _ _ _ (by rw[List.length_append,List.length_singleton];omega)
   ·exact sendGo_len day l _ _ _ h
theorem lastDay_pos {a:TAccount} (h:checkA a=0):0≤lastDay a:=(check_keeps h).2.2.1
open Go.PA
open Go.RowKit
abbrev zDeskO:AObj:=⟨35,7,[[iv 0,.nil,.nil,.nil,.nil,.nil,.nil]]⟩
abbrev zBatO:AObj:=⟨140,3,[[iv 0,iv 0,.nil]]⟩
theorem done_zeroD3 {H:Heap} {n:Int} {Q:AV→Prop} {b:Bx Q} (h:Q (.tup [.agg zeroD.cells,.agg zeroB.cells,iv n])):Done H (.tup [.agg [iv 0,.nil,.nil,.nil,.nil,.nil,.nil],.agg [iv 0,iv 0,.nil],iv n]) Q b:=done_trip cw_zeroD cw_zeroB h
set_option maxHeartbeats 8000000 in
theorem rsend_pf (d:TDesk) (day:Int) (hf:FitD d):PFun Tryz.prog none none 73 [.agg d.cells,iv day] (·= .tup [.agg (sendD d day).1.cells,.agg (sendD d day).2.1.cells,iv (sendD d day).2.2]):=by
 refine pfun_introA Tryz.func73 rfl (by simp[Tryz.f73]) ?_
 intro E hP hr hs hW hN
 have li:=hf.i
 have lb:=hf.q.b
 have id':=imm_desk d
 have ia:=imm_acc d.Account
 have ck:=dcheck_pf d hf
 have ld:=lastDay_pf d.Account hf.e
 simp only[cDn]at id' ck
 simp only[cA]at ia ld
 obtain⟨R,hR⟩:∃R,R=AV.tup [.agg (sendD d day).1.cells,.agg (sendD d day).2.1.cells,iv (sendD d day).2.2]:=⟨_,rfl⟩
 rw[←hR]
 have zer:∀n,sendD d day=(zeroD,zeroB,n)→AV.tup [.agg zeroD.cells,.agg zeroB.cells,iv n]=R:=fun n h=>by rw[hR,h]
 refine awp_cut (by rw[hN];kernel_rfl) ?_
 simp -dsimp -implicitDefEqProofs [-getElem?_pos,go_sem,hP,cDn]
 refine awp_cut (by rw[hN];kernel_rfl) ?_
 simp -dsimp -implicitDefEqProofs [-getElem?_pos,go_sem,hP]
 refine callB_is (ck.lift _ _) hP en_83 (by simpa using id') .sc ?_
 by_cases c1:checkD d=0
 rotate_left
 ·have:sendD d day=(zeroD,zeroB,checkD d):=by rw[sendD,if_neg c1]
  simp -dsimp -implicitDefEqProofs [-getElem?_pos,go_sem,hP,c1]
  exact done_zeroD3 (zer _ this)
 have hd:=checkD_iff.1 c1
 simp -dsimp -implicitDefEqProofs [-getElem?_pos,go_sem,hP,c1]
 refine awp_cut (by rw[hN];kernel_rfl) ?_
 simp -dsimp -implicitDefEqProofs [-getElem?_pos,go_sem,hP]
 refine callB_is (ld.lift _ _) hP en_117 (by simpa using ia) .sc ?_
 simp -dsimp -implicitDefEqProofs [-getElem?_pos,go_sem,hP]
 obtain⟨Inv,hInv⟩:∃Inv:St→Prop,Inv=fun s=>s.t 1=iv day∧s.t 2= .ref 0 0 0∧s.t 4= .ref 1 0 0∧s.t 5= .ref 2 0 0∧s.t 8=iv (max (lastDay d.Account) (lastQ d.Queue))∧s.H=[some (deskO d),some zDeskO,some zBatO]:=⟨_,rfl⟩
 refine awp_join Inv (by rw[hN];kernel_rfl) ?_ ?_
 ·rcases Nat.eq_zero_or_pos d.Queue.Batches.length with h0|h0
  ·have d0:decide (0<d.Queue.Batches.length)=false:=decide_eq_false (by omega)
   have e0:max (lastDay d.Account) (lastQ d.Queue)=lastDay d.Account:=by
    rw[lastQ_nil h0]
    have:=lastDay_pos hd.a
    omega
   simp -dsimp -implicitDefEqProofs [-getElem?_pos,go_sem,hP,d0]
   refine⟨_,Weaker.refl _,?_⟩
   rw[hInv,e0]
   exact⟨by simp -dsimp[-getElem?_pos,go_sem],by simp -dsimp[-getElem?_pos,go_sem],by simp -dsimp[-getElem?_pos,go_sem],by simp -dsimp[-getElem?_pos,go_sem],by simp -dsimp[-getElem?_pos,go_sem],rfl⟩
  ·obtain⟨k,hk⟩:∃k,d.Queue.Batches.length=k+1:=⟨_,(Nat.succ_pred_eq_of_pos h0).symm⟩
   obtain⟨b,hb⟩:∃b,d.Queue.Batches[k]?=some b:=⟨_,List.getElem?_eq_getElem (by omega)⟩
   have d0:decide ((0:Int)<(k:Int)+1)=true:=decide_eq_true (by omega)
   have wk:=wrap_in ((k:Int)+1-1) (by omega)
   rw[Int.add_sub_cancel]at wk
   rw[lastQ_get hk hb]at hInv
   simp -dsimp -implicitDefEqProofs [-getElem?_pos,go_sem,hP,hk,d0,Int.add_sub_cancel,wk,hb,cBt,amax,amaxFrom]
   refine⟨_,Weaker.refl _,?_⟩
   rw[hInv]
   exact⟨by simp -dsimp[-getElem?_pos,go_sem],by simp -dsimp[-getElem?_pos,go_sem],by simp -dsimp[-getElem?_pos,go_sem],by simp -dsimp[-getElem?_pos,go_sem],by simp -dsimp[-getElem?_pos,go_sem],rfl⟩
 intro s hs'
 rw[hInv]at hs'
 obtain⟨t1,t2,t4,t5,t8,hH⟩:=hs'
 clear hInv Inv
 refine awp_cut (by rw[hN];kernel_rfl) ?_
 simp -dsimp -implicitDefEqProofs [-getElem?_pos,go_sem,hP,t1]
 refine callB_is ((cbusiness_pf day).lift _ _) hP en_118 (by simp[imm_sc]) .sc ?_
 cases c2:busB day
 ·have:sendD d day=(zeroD,zeroB,66):=by rw[sendD,if_pos c1,if_neg (by simp[c2])]
  simp -dsimp -implicitDefEqProofs [-getElem?_pos,go_sem,hP,c2,t4,t5,hH]
  exact done_zeroD3 (zer _ this)
 by_cases c3:day<max (lastDay d.Account) (lastQ d.Queue)
 ·have d3:decide (day<max (lastDay d.Account) (lastQ d.Queue))=true:=decide_eq_true c3
  have:sendD d day=(zeroD,zeroB,8):=by rw[sendD,if_pos c1,if_pos c2,if_pos (by omega)]
  simp -dsimp -implicitDefEqProofs [-getElem?_pos,go_sem,hP,c2,t4,t5,hH,t1,t8,d3]
  exact done_zeroD3 (zer _ this)
 have d3:decide (day<max (lastDay d.Account) (lastQ d.Queue))=false:=decide_eq_false c3
 simp -dsimp -implicitDefEqProofs [-getElem?_pos,go_sem,hP,c2,t1,t8,d3]
 refine awp_cut (by rw[hN];kernel_rfl) ?_
 simp -dsimp -implicitDefEqProofs [-getElem?_pos,go_sem,hP,t2,hH]
 have cm:=fun {row src:Option Nat} (H:Heap)=>copied26_m (row:=row) (src:=src) d H hf
 simp only[cDn]at cm
 refine callB_m (by rw[hr,hs];exact cm _) hP en_114 ?_
 rintro r H2 ⟨id,rfl,hid,ho,hk'⟩
 have b0:=hk' 0 _ (by simp) rfl
 have b1:=hk' 1 _ (by simp) rfl
 have b2:=hk' 2 _ (by simp) rfl
 have lt0:=(gsI b0)
 have hid2:3≤id:=by simpa using hid
 have n0:¬0=id:=by omega
 simp -dsimp -implicitDefEqProofs [-getElem?_pos,go_sem,hP,t2,b0,lt0]
 generalize hH3:List.set H2 0 _=H3
 have e0:H3[0]?=some (some (ownO d.Account d.Queue id d.Items.length)):=by rw[←hH3,List.getElem?_set_self lt0]
 have e1:H3[1]?=H2[1]?:=by rw[←hH3,List.getElem?_set_ne (by omega)]
 have e2:H3[2]?=H2[2]?:=by rw[←hH3,List.getElem?_set_ne (by omega)]
 have ei:H3[id]?=H2[id]?:=by rw[←hH3,List.getElem?_set_ne (by omega)]
 rw[b1]at e1
 rw[b2]at e2
 rw[ho]at ei
 clear hH3 b0 b1 b2 lt0 hk' ho
 refine awp_cut (by rw[hN];kernel_rfl) ?_
 simp -dsimp -implicitDefEqProofs [-getElem?_pos,go_sem,hP]
 refine awp_cut (by rw[hN];kernel_rfl) ?_
 simp -dsimp -implicitDefEqProofs [-getElem?_pos,go_sem,hP]
 have hg:goD d day=sendGo day (readyQ d.Queue day) d.Account [] false:=rfl
 obtain⟨rl,hrl⟩:∃rl,rl=readyQ d.Queue day:=⟨_,rfl⟩
 have hmem:∀p,p∈rl→p∈d.Queue.Waiting:=fun p hp=>(readyQ_sub d.Queue day).subset (hrl▸hp)
 have hnd:(rl.map (·.Warrant)).Nodup:=hrl▸readyQ_nd hd.q day
 have hll:rl.length≤100000:=by
  have:=(readyQ_sub d.Queue day).length_le
  have:=hf.q.w
  rw[hrl]
  omega
 obtain⟨Inv,hInv⟩:∃Inv:St→Prop,Inv=fun s=>s.t 1=iv day∧s.t 2= .ref 0 0 0∧s.t 4= .ref 1 0 0∧s.t 5= .ref 2 0 0∧s.t 10=numsL (goD d day).2.1∧s.t 11=iv (if (goD d day).2.2=true then 3 else 10)∧s.H[0]?=some (some (ownO (goD d day).1 d.Queue id d.Items.length))∧s.H[1]?=some (some zDeskO)∧s.H[2]?=some (some zBatO)∧s.H[id]?=some (some (itemsO (d.Items.map (sentI (goD d day).2.1)))):=⟨_,rfl⟩
 refine awp_join Inv (by rw[hN];kernel_rfl) ?_ ?_
 ·have rp:=bready_pf d.Queue day hf.q
  have iq:=imm_que d.Queue
  have irl:=imm_pays rl
  rw[←hrl]at rp hg
  simp only[cQn]at rp iq
  have g0:=(gsI e0)
  have gi:=(gsI ei)
  simp -dsimp -implicitDefEqProofs [-getElem?_pos,go_sem,hP,t2,t1,e0,g0]
  refine callB_is (rp.lift _ _) hP en_119 (by simpa[imm_sc]using iq) irl ?_
  simp -dsimp -implicitDefEqProofs [-getElem?_pos,go_sem,hP]
  refine aloop_own 10 3 1 (by simp -dsimp[-getElem?_pos,go_sem]) ?_
  obtain⟨I,hI⟩:∃I:Nat→St→Prop,I=fun m s=>∃(k wid:Nat) (a:TAccount) (ws:List Int) (full:Bool),k≤rl.length∧m=rl.length-k∧goD d day=sendGo day (rl.drop k) a ws full∧checkA a=0∧ws.length≤10∧(∀w,w∈ws→w∈(rl.take k).map (·.Warrant))∧3≤wid∧wid≠id∧s.t 1=iv day∧s.t 2= .ref 0 0 0∧s.t 4= .ref 1 0 0∧s.t 5= .ref 2 0 0∧s.t 10= .sref wid 0 ws.length∧s.t 11=iv (if full=true then 3 else 10)∧s.t 64=paysL rl∧s.t 65=iv rl.length∧s.t 66=iv k∧s.H[0]?=some (some (ownO a d.Queue id d.Items.length))∧s.H[1]?=some (some zDeskO)∧s.H[2]?=some (some zBatO)∧s.H[id]?=some (some (itemsO (d.Items.map (sentI ws))))∧s.H[wid]?=some (some ⟨3,1,encL encI ws⟩):=⟨_,rfl⟩
  refine aloop0 I (rl.length) (by rw[hN];rfl) ?_ ?_
  ·rw[hI]
   refine⟨0,H3.length,d.Account,[],false,by omega,by omega,by rw[hg];rfl,hd.a,by simp,by simp,by omega,by omega,by simp -dsimp[-getElem?_pos,go_sem,t1],by simp -dsimp[-getElem?_pos,go_sem,t2],by simp -dsimp[-getElem?_pos,go_sem,t4],by simp -dsimp[-getElem?_pos,go_sem,t5],by simp -dsimp[-getElem?_pos,go_sem],by simp -dsimp[-getElem?_pos,go_sem],by simp -dsimp[-getElem?_pos,go_sem],by simp -dsimp[-getElem?_pos,go_sem],by simp -dsimp[-getElem?_pos,go_sem],?_,?_,?_,?_,?_⟩
   ·simp -dsimp -implicitDefEqProofs [-getElem?_pos,go_sem,g0,e0]
   ·have:=(gsI e1)
    simp -dsimp -implicitDefEqProofs [-getElem?_pos,go_sem,this,e1]
   ·have:=(gsI e2)
    simp -dsimp -implicitDefEqProofs [-getElem?_pos,go_sem,this,e2]
   ·rw[sentI_nil]
    simp -dsimp -implicitDefEqProofs [-getElem?_pos,go_sem,gi,ei]
   ·simp -dsimp -implicitDefEqProofs [-getElem?_pos,go_sem,encL]
  clear e0 e1 e2 ei g0 gi t1 t2 t4 t5 hg
  intro m s hs'
  rw[hI]at hs'
  obtain⟨k,wid,a,ws,full,hk,hm,hgo,hca,hw10,hws,hwid,hwi,t1,t2,t4,t5,t10,t11,t64,t65,t66,h0,h1,h2,hi,hH⟩:=hs'
  have g0:=(gsI h0)
  have g1:=(gsI h1)
  have g2:=(gsI h2)
  have gi:=(gsI hi)
  have gw:=(gsI hH)
  have fin:goD d day=(a,ws,full)→∀s':St,s'.t 1=iv day→s'.t 2= .ref 0 0 0→s'.t 4= .ref 1 0 0→s'.t 5= .ref 2 0 0→s'.t 10= .sref wid 0 ws.length→s'.t 11=iv (if full=true then 3 else 10)→s'.H[0]?=some (some (ownO a d.Queue id d.Items.length))→s'.H[1]?=some (some zDeskO)→s'.H[2]?=some (some zBatO)→s'.H[id]?=some (some (itemsO (d.Items.map (sentI ws))))→s'.H[wid]?=some (some ⟨3,1,encL encI ws⟩)→AInv E Inv s':=fun e s' a1 a2 a3 a4 a5 a6 a7 a8 a9 a10 a11=>by
   have lw:((encL encI ws).drop 0).take ws.length=encL encI ws:=by rw[List.drop_zero,List.take_of_length_le (by rw[encL_len];exact Nat.le_refl _)]
   refine⟨_,weaker_frz hW 10 a5 a11 (by dsimp only;rw[lw];exact imm_nums ws),?_⟩
   rw[hInv,e]
   dsimp only
   rw[lw]
   refine⟨by simp -dsimp[-getElem?_pos,go_sem,a1],by simp -dsimp[-getElem?_pos,go_sem,a2],by simp -dsimp[-getElem?_pos,go_sem,a3],by simp -dsimp[-getElem?_pos,go_sem,a4],by simp -dsimp[-getElem?_pos,go_sem],by simp -dsimp[-getElem?_pos,go_sem,a6],?_,?_,?_,?_⟩
   ·rw[List.getElem?_set_ne (by omega),a7]
   ·rw[List.getElem?_set_ne (by omega),a8]
   ·rw[List.getElem?_set_ne (by omega),a9]
   ·rw[List.getElem?_set_ne hwi,a10]
  simp -dsimp -implicitDefEqProofs [-getElem?_pos,go_sem,hP,t65,t66]
  refine condP (fun hh=>?_) (fun hh=>?_)
  rotate_left
  ·have hk:k=rl.length:=by simp at hh;omega
   subst hk
   rw[List.drop_length,sendGo]at hgo
   simp -dsimp -implicitDefEqProofs [-getElem?_pos,go_sem,hP]
   exact fin hgo _ (by simp -dsimp[-getElem?_pos,go_sem,t1]) (by simp -dsimp[-getElem?_pos,go_sem,t2]) (by simp -dsimp[-getElem?_pos,go_sem,t4]) (by simp -dsimp[-getElem?_pos,go_sem,t5]) (by simp -dsimp[-getElem?_pos,go_sem,t10]) (by simp -dsimp[-getElem?_pos,go_sem,t11]) (by simp -dsimp[-getElem?_pos,go_sem,h0]) (by simp -dsimp[-getElem?_pos,go_sem,h1]) (by simp -dsimp[-getElem?_pos,go_sem,h2]) (by simp -dsimp[-getElem?_pos,go_sem,hi]) (by simp -dsimp[-getElem?_pos,go_sem,hH])
  have hk:k<rl.length:=by simpa using hh
  obtain⟨p,hp⟩:∃p,rl[k]?=some p:=⟨_,List.getElem?_eq_getElem hk⟩
  have wk:=wrap_in ((k:Int)+1) (by omega)
  rw[drop_at hp,sendGo]at hgo
  by_cases c5:ws.length=10
  ·have d5:decide ((ws.length:Int)=10)=true:=decide_eq_true (by omega)
   rw[if_pos c5]at hgo
   simp -dsimp -implicitDefEqProofs [-getElem?_pos,go_sem,hP,t64,t66,hp,cPy,t10,hH,gw,d5,c5]
   exact fin hgo _ (by simp -dsimp[-getElem?_pos,go_sem,t1]) (by simp -dsimp[-getElem?_pos,go_sem,t2]) (by simp -dsimp[-getElem?_pos,go_sem,t4]) (by simp -dsimp[-getElem?_pos,go_sem,t5]) (by simp -dsimp[-getElem?_pos,go_sem,t10]) (by simp -dsimp[-getElem?_pos,go_sem,t11]) (by simp -dsimp[-getElem?_pos,go_sem,h0,g0]) (by simp -dsimp[-getElem?_pos,go_sem,h1,g1]) (by simp -dsimp[-getElem?_pos,go_sem,h2,g2]) (by simp -dsimp[-getElem?_pos,go_sem,hi,gi]) (by simp -dsimp[-getElem?_pos,go_sem,hH,gw])
  have d5:decide ((ws.length:Int)=10)=false:=decide_eq_false (by omega)
  rw[if_neg c5]at hgo
  simp -dsimp -implicitDefEqProofs [-getElem?_pos,go_sem,hP,t64,t66,hp,cPy,t10,hH,gw,d5,c5]
  obtain⟨pb,hpb⟩:∃pb,pb=s.H.length:=⟨_,rfl⟩
  obtain⟨H1,hH1⟩:∃H1,H1=s.H++[some (⟨81,5,[[iv p.Warrant,iv p.Payee,iv p.Amount,iv p.Due,iv p.Sub]]⟩:AObj)]:=⟨_,rfl⟩
  have l1:H1.length=pb+1:=by rw[hH1,hpb];simp
  have k0:H1[0]?=some (some (ownO a d.Queue id d.Items.length)):=by rw[hH1,List.getElem?_append_left g0];exact h0
  have k1:H1[1]?=some (some zDeskO):=by rw[hH1,List.getElem?_append_left g1];exact h1
  have k2:H1[2]?=some (some zBatO):=by rw[hH1,List.getElem?_append_left g2];exact h2
  have ki:H1[id]?=some (some (itemsO (d.Items.map (sentI ws)))):=by rw[hH1,List.getElem?_append_left gi];exact hi
  have kw:H1[wid]?=some (some ⟨3,1,encL encI ws⟩):=by rw[hH1,List.getElem?_append_left gw];exact hH
  have kp:H1[pb]?=some (some ⟨81,5,[[iv p.Warrant,iv p.Payee,iv p.Amount,iv p.Due,iv p.Sub]]⟩):=by rw[hH1,hpb,List.getElem?_append_right (Nat.le_refl _),Nat.sub_self];rfl
  simp only[←hH1,←hpb]
  have q0:0<H1.length:=by omega
  have q1:1<H1.length:=by omega
  have q2:2<H1.length:=by omega
  have qi:id<H1.length:=by omega
  have qw:wid<H1.length:=by omega
  have qp:pb<H1.length:=by omega
  have sl:=check_fit hca
  have iac:=imm_acc a
  have nx:=next_pf a day p.Sub 0 p.Amount p.Warrant sl.2
  obtain⟨e,hee⟩:∃e,e=nextE a day p.Sub 0 p.Amount p.Warrant:=⟨_,rfl⟩
  rw[←hee]at nx hgo
  have ie:=imm_ent e
  have po:=post_pf a e sl.1 sl.2
  have io:=imm_acc (postA a e).1
  simp only[cA]at iac nx po io
  refine adrawQ (fun i=>decide (i=0)||decide (i=pb)) [17] [11,12] hP (by kernel_rfl) (by kernel_rfl) ?_
  simp -dsimp -implicitDefEqProofs [-getElem?_pos,go_sem,hP,t2,t1,k0,q0,kp,qp]
  refine callQ_is (nx.lift _ _) hP en_121 (by simpa[imm_sc]using iac) ie ?_
  simp -dsimp -implicitDefEqProofs [-getElem?_pos,go_sem,hP,t2,t1,k0,q0,kp,qp]
  refine callQ_is (po.lift _ _) hP en_120 (by simpa using⟨iac,ie⟩) (imm_pair io .sc) ?_
  simp -dsimp -implicitDefEqProofs [-getElem?_pos,go_sem,hP,t2,t1,k0,q0,kp,qp]
  refine⟨fun i hi=>?_,?_⟩
  ·simp only[Bool.or_eq_true,decide_eq_true_eq]at hi
   rw[List.getElem?_append_left (by omega)]
  obtain⟨b,hb⟩:∃b,b=(postA a e).1:=⟨_,rfl⟩
  obtain⟨H2',hH2⟩:∃H2',H2'=H1++[some (⟨28,3,[[iv b.Credit,subsL b.Subs,entsL b.Entries]]⟩:AObj)]:=⟨_,rfl⟩
  have l2:H2'.length=pb+2:=by rw[hH2];simp;omega
  have j0:H2'[0]?=some (some (ownO a d.Queue id d.Items.length)):=by rw[hH2,List.getElem?_append_left q0];exact k0
  have j1:H2'[1]?=some (some zDeskO):=by rw[hH2,List.getElem?_append_left q1];exact k1
  have j2:H2'[2]?=some (some zBatO):=by rw[hH2,List.getElem?_append_left q2];exact k2
  have ji:H2'[id]?=some (some (itemsO (d.Items.map (sentI ws)))):=by rw[hH2,List.getElem?_append_left qi];exact ki
  have jw:H2'[wid]?=some (some ⟨3,1,encL encI ws⟩):=by rw[hH2,List.getElem?_append_left qw];exact kw
  have jp:H2'[pb]?=some (some ⟨81,5,[[iv p.Warrant,iv p.Payee,iv p.Amount,iv p.Due,iv p.Sub]]⟩):=by rw[hH2,List.getElem?_append_left qp];exact kp
  have ja:H2'[pb+1]?=some (some ⟨28,3,[[iv b.Credit,subsL b.Subs,entsL b.Entries]]⟩):=by rw[hH2,←l1,List.getElem?_append_right (Nat.le_refl _),Nat.sub_self];rfl
  rw[←hb]at hgo
  rw[←hb,←hH2,l1]
  have z0:0<H2'.length:=by omega
  have z1:1<H2'.length:=by omega
  have z2:2<H2'.length:=by omega
  have zi:id<H2'.length:=by omega
  have zw:wid<H2'.length:=by omega
  have zp:pb<H2'.length:=by omega
  have za:pb+1<H2'.length:=by omega
  by_cases c6:(postA a e).2=0
  rotate_left
  ·rw[if_neg c6]at hgo
   have d6:=decide_eq_false c6
   have hws':∀w,w∈ws→w∈(rl.take (k+1)).map (·.Warrant):=fun w hw=>by
    rw[take_at hp,List.map_append,List.mem_append]
    exact .inl (hws w hw)
   by_cases c7:(postA a e).2=3
   ·rw[decide_eq_true c7,Bool.or_true]at hgo
    simp -dsimp -implicitDefEqProofs [-getElem?_pos,go_sem,hP,c7,t66,wk]
    refine⟨rl.length-(k+1),by omega,?_⟩
    rw[hI]
    exact⟨k+1,wid,a,ws,true,by omega,rfl,hgo,hca,hw10,hws',hwid,hwi,by simp -dsimp[-getElem?_pos,go_sem,t1],by simp -dsimp[-getElem?_pos,go_sem,t2],by simp -dsimp[-getElem?_pos,go_sem,t4],by simp -dsimp[-getElem?_pos,go_sem,t5],by simp -dsimp[-getElem?_pos,go_sem,t10],by simp -dsimp[-getElem?_pos,go_sem],by simp -dsimp[-getElem?_pos,go_sem,t64],by simp -dsimp[-getElem?_pos,go_sem,t65],by simp -dsimp[-getElem?_pos,go_sem],by simp -dsimp[-getElem?_pos,go_sem,j0],by simp -dsimp[-getElem?_pos,go_sem,j1],by simp -dsimp[-getElem?_pos,go_sem,j2],by simp -dsimp[-getElem?_pos,go_sem,ji],by simp -dsimp[-getElem?_pos,go_sem,jw]⟩
   ·have d7:=decide_eq_false c7
    rw[d7,Bool.or_false]at hgo
    simp -dsimp -implicitDefEqProofs [-getElem?_pos,go_sem,hP,d6,d7,t66,wk]
    refine⟨rl.length-(k+1),by omega,?_⟩
    rw[hI]
    exact⟨k+1,wid,a,ws,full,by omega,rfl,hgo,hca,hw10,hws',hwid,hwi,by simp -dsimp[-getElem?_pos,go_sem,t1],by simp -dsimp[-getElem?_pos,go_sem,t2],by simp -dsimp[-getElem?_pos,go_sem,t4],by simp -dsimp[-getElem?_pos,go_sem,t5],by simp -dsimp[-getElem?_pos,go_sem,t10],by simp -dsimp[-getElem?_pos,go_sem,t11],by simp -dsimp[-getElem?_pos,go_sem,t64],by simp -dsimp[-getElem?_pos,go_sem,t65],by simp -dsimp[-getElem?_pos,go_sem],by simp -dsimp[-getElem?_pos,go_sem,j0],by simp -dsimp[-getElem?_pos,go_sem,j1],by simp -dsimp[-getElem?_pos,go_sem,j2],by simp -dsimp[-getElem?_pos,go_sem,ji],by simp -dsimp[-getElem?_pos,go_sem,jw]⟩
  rw[if_pos c6]at hgo
  obtain⟨i,x,hx,hxp,hxs⟩:=wait_item hd (hmem p (List.mem_of_getElem? hp))
  have hxw:x.Payment.Warrant=p.Warrant:=by rw[hxp]
  have hnw:p.Warrant∉ws:=fun hw=>by
   have h1:=hws _ hw
   have h2:rl.map (·.Warrant)=(rl.take k).map (·.Warrant)++(rl.drop k).map (·.Warrant):=by rw[←List.map_append,List.take_append_drop]
   rw[h2]at hnd
   refine (List.nodup_append.1 hnd).2.2 _ h1 p.Warrant ?_ rfl
   rw[drop_at hp]
   simp
  obtain⟨hxL,hset⟩:=sentI_set hd.nd hx (ws:=ws) (by rw[hxw];exact hnw)
  have hxa:=(item_facts hd (List.mem_of_getElem? hx)).2.2.2.1
  have wa:=wrap_in (x.Attempts+1) (by omega)
  obtain⟨L,hL⟩:∃L,L=d.Items.map (sentI ws):=⟨_,rfl⟩
  have lL:L.length=d.Items.length:=by rw[hL,List.length_map]
  have hLw:L.map wrt=d.Items.map wrt:=by rw[hL,sentI_wrt]
  rw[←hL]at ji hxL hset
  rw[hxw]at hset
  have pl:=place_pf ⟨a,d.Queue,L⟩ p.Warrant (by simp only;omega)
  simp only[cDn]at pl
  have cw:CW H2' [iv a.Credit,subsL a.Subs,entsL a.Entries,paysL d.Queue.Waiting,numsL d.Queue.Known,batsL d.Queue.Batches,.sref id 0 d.Items.length] [iv a.Credit,subsL a.Subs,entsL a.Entries,paysL d.Queue.Waiting,numsL d.Queue.Known,batsL d.Queue.Batches,itemsL L]:=cw_sc (cw_imm (imm_subs _) (cw_imm (imm_ents _) (cw_imm (imm_pays _) (cw_imm (imm_nums _) (cw_imm (imm_bats _) (cw_sref ji (by rw[encL_len,lL]) (imm_items _) .nil))))))
  simp -dsimp -implicitDefEqProofs [-getElem?_pos,go_sem,hP,c6,t2,j0,z0,jp,zp]
  refine callB_flat (pl.lift _ _) hP en_115 (args_agg cw (args_imm .sc (args_nil.2 trivial))) (by obtain⟨r,h,_⟩:=placeQ_ex L p.Warrant;exact⟨r,h⟩) (fun r h=>h.flat) ?_
  rintro r ⟨i',hi',rfl,hcut⟩
  obtain⟨k',hk1,hk2⟩:=place_cut (l:=L) (by rw[hLw];exact hd.ks) p.Warrant
  have:=hcut k' hk1
  subst this
  have hii:i'=i:=by
   have m1:p.Warrant∈L.map wrt:=by
    rw[←hxw]
    exact List.mem_map.2 ⟨x,List.mem_of_getElem? hxL,rfl⟩
   have m2:=hk2.2 m1
   have m3:(L.map wrt)[i']?=some p.Warrant:=by rw[List.getElem?_map];exact m2
   have m4:(L.map wrt)[i]?=some p.Warrant:=by rw[List.getElem?_map,hxL,←hxw];rfl
   exact (List.getElem?_inj (gsI m3) (by rw[hLw];exact hd.nd)).1 (m3.trans m4.symm)
  subst hii
  generalize decide ((L[i']?).map wrt=some p.Warrant)=bb
  simp -dsimp -implicitDefEqProofs [-getElem?_pos,go_sem,hP]
  have lws:(encL encI ws).length=ws.length:=encL_len _ _
  refine adrawB (fun i=>decide (i=0)||decide (i=pb)||decide (i=pb+1)) [7] hP (by kernel_rfl) (by kernel_rfl) ?_
  have wpb:wid<pb:=by rw[hpb];exact gw
  have nw0:¬wid=0:=by omega
  simp -dsimp -implicitDefEqProofs [-getElem?_pos,go_sem,hP,t2,t10,j0,z0,jp,zp,ja,za,jw,zw,lws,nw0]
  refine⟨by omega,by omega,fun j hj=>?_,?_⟩
  ·simp only[Bool.or_eq_true,decide_eq_true_eq]at hj
   rw[List.getElem?_append_left (by rw[List.length_set];omega),List.getElem?_set_ne (by omega)]
  have en:encL encI ws++[[AV.sc (.int .i64 p.Warrant)]]=encL encI (ws++[p.Warrant]):=encL_snoc encI ws p.Warrant
  rw[en]
  obtain⟨H4,hH4⟩:∃H4,H4=(List.set H2' wid none).set 0 (some (ownO b d.Queue id d.Items.length))++[some (⟨3,1,encL encI (ws++[p.Warrant])⟩:AObj)]:=⟨_,rfl⟩
  have l4:H4.length=pb+3:=by rw[hH4];simp;omega
  have old:∀j,j≠wid→j≠0→j<H2'.length→H4[j]?=H2'[j]?:=fun j h1 h3 h2=>by
   rw[hH4,List.getElem?_append_left (by rw[List.length_set,List.length_set];exact h2),List.getElem?_set_ne (Ne.symm h3),List.getElem?_set_ne (Ne.symm h1)]
  have u0:H4[0]?=some (some (ownO b d.Queue id d.Items.length)):=by rw[hH4,List.getElem?_append_left (by rw[List.length_set,List.length_set];exact z0),List.getElem?_set_self (by rw[List.length_set];exact z0)]
  have u1:=(old 1 (by omega) (by omega) z1).trans j1
  have u2:=(old 2 (by omega) (by omega) z2).trans j2
  have ui:=(old id (Ne.symm hwi) (by omega) zi).trans ji
  have uw:H4[pb+2]?=some (some ⟨3,1,encL encI (ws++[p.Warrant])⟩):=by rw[hH4,←l2,List.getElem?_append_right (by simp),List.length_set,List.length_set,Nat.sub_self];rfl
  rw[←hH4]
  have v0:0<H4.length:=by omega
  have v1:1<H4.length:=by omega
  have v2:2<H4.length:=by omega
  have vi:id<H4.length:=by omega
  have vw:pb+2<H4.length:=by omega
  have n0i:¬id=0:=by omega
  have hil:i'<d.Items.length:=(gsI hx)
  have hilL:i'<L.length:=by omega
  have e2:(encL TItem.cells L).set i' (TItem.cells ⟨x.Payment,2,x.Attempts⟩)=encL TItem.cells (L.set i' ⟨x.Payment,2,x.Attempts⟩):=encL_set TItem.cells L i' ⟨x.Payment,2,x.Attempts⟩
  rw[cIt]at e2
  have e3:(encL TItem.cells (L.set i' ⟨x.Payment,2,x.Attempts⟩)).set i' (TItem.cells ⟨x.Payment,2,x.Attempts+1⟩)=encL TItem.cells (d.Items.map (sentI (ws++[p.Warrant]))):=by rw[encL_set,List.set_set,hset]
  rw[cIt]at e3
  have hx2:(L.set i' ⟨x.Payment,2,x.Attempts⟩)[i']?=some ⟨x.Payment,2,x.Attempts⟩:=List.getElem?_set_self hilL
  simp only at e2 e3
  have hil2:i'<(L.set i' ⟨x.Payment,2,x.Attempts⟩).length:=by rw[List.length_set];exact hilL
  generalize L.set i' ⟨x.Payment,2,x.Attempts⟩=L2 at e2 e3 hx2 hil2
  have n10:¬id=1:=by omega
  have n20:¬id=2:=by omega
  have nwi:¬id=pb+2:=by omega
  simp -dsimp -implicitDefEqProofs [-getElem?_pos,go_sem,hP,t2,u0,v0,ui,vi,hil,hilL,hxL,cIt,n0i,e2,hx2,hil2,wa,e3,t66,wk]
  refine⟨rl.length-(k+1),by omega,?_⟩
  rw[hI]
  refine⟨k+1,pb+2,b,ws++[p.Warrant],full,by omega,rfl,hgo,hb▸post_check c6,by rw[List.length_append,List.length_singleton];omega,?_,by omega,Ne.symm nwi,by simp -dsimp[-getElem?_pos,go_sem,t1],by simp -dsimp[-getElem?_pos,go_sem,t2],by simp -dsimp[-getElem?_pos,go_sem,t4],by simp -dsimp[-getElem?_pos,go_sem,t5],?_,by simp -dsimp[-getElem?_pos,go_sem,t11],by simp -dsimp[-getElem?_pos,go_sem,t64],by simp -dsimp[-getElem?_pos,go_sem,t65],by simp -dsimp[-getElem?_pos,go_sem],?_,?_,?_,?_,?_⟩
  ·intro w hw
   rw[take_at hp,List.map_append,List.mem_append]
   rcases List.mem_append.1 hw with hw|hw
   ·exact .inl (hws w hw)
   ·rw[List.mem_singleton]at hw
    exact .inr (by simp[hw])
  ·simp -dsimp -implicitDefEqProofs [-getElem?_pos,go_sem,l2]
  ·simp -dsimp -implicitDefEqProofs [-getElem?_pos,go_sem,n0i,u0,v0]
  ·simp -dsimp -implicitDefEqProofs [-getElem?_pos,go_sem,n10,u1,v1]
  ·simp -dsimp -implicitDefEqProofs [-getElem?_pos,go_sem,n20,u2,v2]
  ·simp -dsimp -implicitDefEqProofs [-getElem?_pos,go_sem,ui,vi]
  ·simp -dsimp -implicitDefEqProofs [-getElem?_pos,go_sem,nwi,uw,vw]
 intro s hs'
 rw[hInv]at hs'
 obtain⟨t1,t2,t4,t5,t10,t11,h0,h1,h2,hi⟩:=hs'
 clear hInv Inv e0 e1 e2 ei
 obtain⟨G,hG⟩:∃G,G=goD d day:=⟨_,rfl⟩
 rw[←hG]at t10 t11 h0 hi
 have g0:=(gsI h0)
 have g1:=(gsI h1)
 have g2:=(gsI h2)
 have gi:=(gsI hi)
 have n10:¬1=id:=by omega
 have n20:¬2=id:=by omega
 have c3':¬(day<lastQ d.Queue∨day<lastDay d.Account):=by omega
 have hsd:sendD d day=if G.2.1.length=0 then (zeroD,zeroB,if G.2.2=true then 3 else 10)else if (takeQ d.Queue day G.2.1).2.2=0 then (⟨G.1,(takeQ d.Queue day G.2.1).1,d.Items.map (sentI G.2.1)⟩,(takeQ d.Queue day G.2.1).2.1,0)else (zeroD,zeroB,(takeQ d.Queue day G.2.1).2.2):=by
  rw[sendD,if_pos c1,if_pos c2,if_neg c3',←hG]
 refine awp_sound _ _ _ (by rw[hN];kernel_rfl) ?_
 by_cases c4:G.2.1.length=0
 ·rw[if_pos c4]at hsd
  have d4:decide ((G.2.1.length:Int)=0)=true:=decide_eq_true (by omega)
  cases hfull:G.2.2
  ·rw[hfull]at t11 hsd
   simp -dsimp -implicitDefEqProofs [-getElem?_pos,go_sem,hP,t10,d4,c4,t4,t5,h1,g1,h2,g2,t11]
   exact done_zeroD3 (zer _ hsd)
  ·rw[hfull]at t11 hsd
   simp -dsimp -implicitDefEqProofs [-getElem?_pos,go_sem,hP,t10,d4,c4,t4,t5,h1,g1,h2,g2,t11]
   exact done_zeroD3 (zer _ hsd)
 rw[if_neg c4]at hsd
 have d4:decide ((G.2.1.length:Int)=0)=false:=decide_eq_false (by omega)
 have lG:G.2.1.length≤100000:=by
  have:=sendGo_len day (readyQ d.Queue day) d.Account [] false (by simp)
  rw[hG,goD]
  omega
 have tk:=btake_pf d.Queue day G.2.1 hf.q lG
 have iq:=imm_que d.Queue
 have iqq:=imm_que (takeQ d.Queue day G.2.1).1
 have ibb:=imm_bat (takeQ d.Queue day G.2.1).2.1
 have iws:=imm_nums G.2.1
 have e1:intsL G.2.1=numsL G.2.1:=rfl
 simp only[cQn,cBt,e1]at tk iq iqq ibb
 simp -dsimp -implicitDefEqProofs [-getElem?_pos,go_sem,hP,t10,d4,c4,t1,t2,h0,g0]
 refine callB_is (tk.lift _ _) hP en_122 (by simp[imm_sc];exact⟨by simpa using iq,iws⟩) (imm_trip iqq ibb .sc) ?_
 by_cases c5:(takeQ d.Queue day G.2.1).2.2=0
 rotate_left
 ·rw[if_neg c5]at hsd
  have d5:=decide_eq_false c5
  simp -dsimp -implicitDefEqProofs [-getElem?_pos,go_sem,hP,d5,t4,t5,h1,g1,h2,g2]
  exact done_zeroD3 (zer _ hsd)
 rw[if_pos c5]at hsd
 obtain⟨q',hq'⟩:∃q',q'=(takeQ d.Queue day G.2.1).1:=⟨_,rfl⟩
 obtain⟨bt,hbt⟩:∃bt,bt=(takeQ d.Queue day G.2.1).2.1:=⟨_,rfl⟩
 simp only[←hq',←hbt]at hsd iqq ibb
 simp -dsimp -implicitDefEqProofs [-getElem?_pos,go_sem,hP,c5,t2,h0,g0,←hq',←hbt]
 obtain⟨H5,hH5⟩:∃H5,H5=List.set s.H 0 (some (ownO G.1 q' id d.Items.length))++[some ⟨32,3,[[paysL q'.Waiting,numsL q'.Known,batsL q'.Batches]]⟩,some (⟨140,3,[[iv bt.Number,iv bt.Day,paysL bt.Payments]]⟩:AObj)]:=⟨_,rfl⟩
 obtain⟨n,hn⟩:∃n,n=s.H.length:=⟨_,rfl⟩
 have l5:H5.length=n+2:=by rw[hH5,hn];simp
 have old:∀j,j≠0→j<s.H.length→H5[j]?=s.H[j]?:=fun j h1 h2=>by
  rw[hH5,List.getElem?_append_left (by rw[List.length_set];exact h2),List.getElem?_set_ne (Ne.symm h1)]
 have u0:H5[0]?=some (some (ownO G.1 q' id d.Items.length)):=by rw[hH5,List.getElem?_append_left (by rw[List.length_set];exact g0),List.getElem?_set_self g0]
 have u1:=(old 1 (by omega) g1).trans h1
 have u2:=(old 2 (by omega) g2).trans h2
 have ui:=(old id (by omega) gi).trans hi
 have ub:H5[n+1]?=some (some ⟨140,3,[[iv bt.Number,iv bt.Day,paysL bt.Payments]]⟩):=by rw[hH5,hn,List.getElem?_append_right (by simp),List.length_set,Nat.add_sub_cancel_left];rfl
 rw[←hn]at gi g2
 rw[←hH5,←hn]
 have v0:0<H5.length:=by omega
 have v1:1<H5.length:=by omega
 have v2:2<H5.length:=by omega
 have vb:n+1<H5.length:=by omega
 have n12:¬1=2:=by omega
 refine adrawB (fun i=>decide (i=0)||decide (i=n+1)) [] hP (by kernel_rfl) (by kernel_rfl) ?_
 simp -dsimp -implicitDefEqProofs [-getElem?_pos,go_sem,hP,t2,t4,t5,u0,v0,u1,v1,u2,v2,ub,vb,n12]
 refine⟨fun j hj=>?_,fun j hj=>?_,?_⟩
 ·simp only[Bool.or_eq_true,decide_eq_true_eq]at hj
  rw[List.getElem?_set_ne (by omega)]
 ·simp only[Bool.or_eq_true,decide_eq_true_eq]at hj
  rw[List.getElem?_set_ne (by omega)]
 refine done_trip (cs':=TDesk.cells ⟨G.1,q',d.Items.map (sentI G.2.1)⟩) (ds':=TBatch.cells bt) ?_ (cw_immL (imm_agg.1 ibb)) ?_
 ·refine cw_sc (cw_imm (imm_subs _) (cw_imm (imm_ents _) (cw_imm (imm_pays _) (cw_imm (imm_nums _) (cw_imm (imm_bats _) (cw_sref (ty:=83) ?_ ?_ (imm_items _) .nil))))))
  ·rw[List.getElem?_set_ne (Ne.symm (Ne.symm n20)),List.getElem?_set_ne n10]
   exact ui
  ·rw[encL_len,List.length_map]
 ·rw[hR,hsd]
open Go.PA
open Go.RowKit
set_option maxRecDepth 8000 in
set_option maxHeartbeats 2000000 in
theorem insert_m_item {row src:Option Nat} (es:List (List AV)) (e:List AV) (i id:Nat) (H:Heap) (hi:i≤es.length) (hl:es.length≤100000) (ho:H[id]?=some (some ⟨83,7,es⟩)) (he0:e≠[]):
  MFun Tryz.prog row src 116 [.sref id 0 es.length,iv i,.list 7 [e]] H (fun r H'=>∃jd,r= .sref jd 0 (es.length+1)∧(jd=id∨H.length≤jd)∧H'[jd]?=some (some ⟨83,7,es.take i++e::es.drop i⟩)∧Kept [id] H H'):=by
 obtain⟨C,hC⟩:∃C:AV→Heap→Prop,C=fun r H'=>∃jd,r= .sref jd 0 (es.length+1)∧(jd=id∨H.length≤jd)∧H'[jd]?=some (some ⟨83,7,es.take i++e::es.drop i⟩)∧Kept [id] H H':=⟨_,rfl⟩
 rw[←hC]
 have ex:∃r H',C r H':=by
  rw[hC]
  exact⟨.sref H.length 0 (es.length+1),H++[some ⟨83,7,es.take i++e::es.drop i⟩],H.length,rfl,.inr (Nat.le_refl _),by simp,kept_app _ _ _⟩
 have lid:=(gsI ho)
 obtain⟨n,hn⟩:∃n,n=es.length:=⟨_,rfl⟩
 rw[←hn]at hi hl hC⊢
 by_cases hin:i=n
 ·subst hin
  refine mfun_intro Tryz.func116 rfl (by simp[Tryz.f116]) (by kernel_rfl) (ex) ?_
  intro E hP hr hs hN
  by_cases h0:i=0
  ·subst h0
   simp -dsimp -implicitDefEqProofs [-getElem?_pos,go_sem,hP,ho,←hn,asliceOp,bound,aslice]
   rw[hC]
   exact⟨H.length,rfl,.inr (Nat.le_refl _),by simp -dsimp[-getElem?_pos,go_sem,List.eq_nil_of_length_eq_zero hn.symm],(kept_set none (by simp) (kept_refl _ _)).trans (kept_app _ _ _)⟩
  ·simp -dsimp -implicitDefEqProofs [-getElem?_pos,go_sem,hP,ho,←hn,h0,asliceOp,bound,aslice]
   refine⟨by omega,by omega,?_⟩
   rw[hC]
   exact⟨H.length,rfl,.inr (Nat.le_refl _),by simp -dsimp[-getElem?_pos,go_sem,hn],(kept_set none (by simp) (kept_refl _ _)).trans (kept_app _ _ _)⟩
 ·have hlt:i<n:=by omega
  have hin':¬(i:Int)=n:=by omega
  have w1:=wrap_in ((n:Int)+1) (by omega)
  have w2:=wrap_in ((i:Int)+1) (by omega)
  have w3:=wrap_in ((n:Int)+1-i) (by omega)
  have hesne:es≠[]:=by intro e0;simp[e0]at hn;omega
  refine mfun_unfull (C:=fun r H'=>C r H'∨∃N,r= .full id 0 (n+1) N∧∃o,H'[id]?=some (some o)∧n+1≤o.es.length∧C (.sref id 0 (n+1)) H') ?_ (fun r H' h=>?_)
  rotate_left
  ·rcases h with h|⟨N,h1,o,h2,h3,h4⟩
   ·exact .inl h
   ·exact .inr ⟨id,n+1,N,o,h1,h2,h3,h4⟩
  refine mfun_full ho hesne (by dsimp only;omega) fun N hN0=>?_
  dsimp only at hN0
  obtain⟨D,hD⟩:∃D:AV→Heap→Prop,D=fun r H'=>C r H'∨∃N,r= .full id 0 (n+1) N∧∃o,H'[id]?=some (some o)∧n+1≤o.es.length∧C (.sref id 0 (n+1)) H':=⟨_,rfl⟩
  rw[←hD]
  have exD:∃r H',D r H':=by
   obtain⟨r,H',h⟩:=ex
   rw[hD]
   exact⟨r,H',.inl h⟩
  have fx:∀(id n N:Nat),(if i=0 then some (AV.full id 0 n N)else some (AV.full id i (n-i) N))=some (.full id i (n-i) N):=fun id n N=>by
   split
   ·subst i;rfl
   ·rfl
  have nN:n≤N:=by omega
  have iN:i≤N:=by omega
  have a1:(0:Int)≤(n:Int)+1:=by omega
  have a3:(0:Int)≤(i:Int)+1:=by omega
  have a4:(i:Int)+1≤(n:Int)+1:=by omega
  refine mfun_intro Tryz.func116 rfl (by simp[Tryz.f116]) (by kernel_rfl) (exD) ?_
  intro E hP hr hs hN
  by_cases hroom:N<n+1
  ·have dN:decide ((N:Int)<(n:Int)+1)=true:=decide_eq_true (by omega)
   obtain⟨zs,hz⟩:=Option.isSome_iff_exists.1 (show (zeros Tryz.prog 83).isSome=true by kernel_rfl)
   have hbt:bytesOf Tryz.prog 83=56:=by kernel_rfl
   have hm:(n:Int)+1-i=((n+1-i:Nat):Int):=by omega
   have sx:∀(id n:Nat),(if i=0 then some (AV.sref id 0 n)else some (AV.sref id i (n-i)))=some (.sref id i (n-i)):=fun id n=>by
    split
    ·subst i;rfl
    ·rfl
   simp -dsimp -implicitDefEqProofs [-getElem?_pos,go_sem,hP,dN,ho,←hn,hin,hin',asliceOp,bound,aslice,w1,w2,w3,hroom,hi,nN,iN,a1,a3,a4,fx]
   refine buiB_makeE (e:=83) (m:=n+1-i) (L:=n+1) (kn:= .i64) (zs:=zs) ho (by rw[hP];kernel_rfl) (by rw[hP];kernel_rfl) (by rw[hP];kernel_rfl) (by omega) rfl (by rw[hP];exact hz) (by omega) hm (by omega) (by omega) hroom (by omega) (by rw[hP,hbt];omega) ?_
   have ho2:(H++[some (⟨83,7,es.take i++List.replicate (n+1-i) zs⟩:AObj)])[id]?=some (some ⟨83,7,es⟩):=by rw[List.getElem?_append_left lid];exact ho
   have hl1:(es.take i++List.replicate (n+1-i) zs).length=n+1:=by simp;omega
   have a7:(i:Int)≤(n:Int)+1:=by omega
   have a8:¬((i:Int)=(n:Int)+1):=by omega
   have a9:i≤n+1:=by omega
   have a10:¬i=n+1:=by omega
   have hA:(es.take i).length=i:=by simp;omega
   have d1:(es.take i++List.replicate (n+1-i) zs).drop (i+1)=List.replicate (n-i) zs:=by
    rw[List.drop_append,List.drop_of_length_le (by omega),hA,List.nil_append,List.drop_replicate]
    congr 1
    omega
   simp -dsimp -implicitDefEqProofs [-getElem?_pos,go_sem,hP,ho2,asliceOp,bound,aslice,a7,a8,a9,a10,sx]
   refine buiB_copyE (e:=83) (ty:=83) (k:=7) (lo:=i) (dn:=n+1-i) (m:=1) (es:=es.take i++List.replicate (n+1-i) zs) (news:=[e]) (es':=es.take i++e::List.replicate (n-i) zs) (by simp) (.inl rfl) (by rw[hP];kernel_rfl) (by rw[hP];kernel_rfl) (by omega) (by rw[hP];kernel_rfl) ?_ rfl (by omega) (by omega) (by simp;omega) ?_ ?_
   ·simp only[srcEs]
    rw[if_pos (by rw[hP];kernel_rfl)]
   ·rw[d1,List.take_append_of_le_length (by omega),List.take_of_length_le (by omega)]
    simp
   have ho3:(H++[some (⟨83,7,es.take i++e::List.replicate (n-i) zs⟩:AObj)])[id]?=some (some ⟨83,7,es⟩):=by rw[List.getElem?_append_left lid];exact ho
   have a5:¬((i:Int)+1=0):=by omega
   have a6:((n:Int)+1-((i:Int)+1)).toNat=n-i:=by omega
   have a11:¬((i:Int)+1=(n:Int)+1):=by omega
   simp -dsimp -implicitDefEqProofs [-getElem?_pos,go_sem,hP]
   refine adrawB (fun _=>true) [8] hP (by kernel_rfl) (by kernel_rfl) ?_
   simp -dsimp -implicitDefEqProofs [-getElem?_pos,go_sem,hP,ho3,←hn,hin,hin',asliceOp,bound,aslice,w1,w2,hi,nN,iN,a1,a3,a4,a5,a6,a7,a8,a11,fx,sx]
   refine buiB_copyE (e:=83) (ty:=83) (k:=7) (lo:=i+1) (dn:=n-i) (m:=n-i) (es:=es.take i++e::List.replicate (n-i) zs) (news:=es.drop i) (es':=es.take i++e::es.drop i) (by simp) (.inl rfl) (by rw[hP];kernel_rfl) (by rw[hP];kernel_rfl) (by omega) (by rw[hP];kernel_rfl) ?_ (by simp[←hn]) (by omega) (by omega) (by simp;omega) ?_ ?_
   ·simp only[srcEs,ho3]
    rw[if_pos ⟨by rw[hP];kernel_rfl,by omega⟩,List.take_of_length_le (by simp;omega)]
   ·rw[show es.take i++e::List.replicate (n-i) zs=(es.take i++[e])++List.replicate (n-i) zs from by simp,List.take_append_of_le_length (by simp;omega),List.take_of_length_le (by simp;omega),List.drop_of_length_le (show ((es.take i++[e])++List.replicate (n-i) zs).length≤i+1+(n-i) by simp;omega)]
    simp
   simp -dsimp -implicitDefEqProofs [-getElem?_pos,go_sem,hP]
   rw[hD,hC]
   exact .inl ⟨H.length,rfl,.inr (Nat.le_refl _),by simp,kept_app _ _ _⟩
  ·have dN:decide ((N:Int)<(n:Int)+1)=false:=decide_eq_false (by omega)
   have a2:(n:Int)+1≤N:=by omega
   have a5:¬((i:Int)+1=0):=by omega
   have a6:((n:Int)+1-((i:Int)+1)).toNat=n-i:=by omega
   have a7:(i:Int)≤(n:Int)+1:=by omega
   have a8:¬((i:Int)=(n:Int)+1):=by omega
   simp -dsimp -implicitDefEqProofs [-getElem?_pos,go_sem,hP,dN,ho,←hn,hin,hin',asliceOp,bound,aslice,w1,w2,w3,hroom,hi,nN,iN,a1,a2,a3,a4,a5,a6,a7,a8,fx]
   refine callB_overlapsL (t:=33) (e:=83) (tR:=4) (fn:=Tryz.f180) (id':=id) (lo':=i+1) (dn':=n-i) (by rw[hP];exact Tryz.func180) (by kernel_rfl) (by kernel_rfl) (by kernel_rfl) (by kernel_rfl) (by rw[hP];kernel_rfl) (by rw[hP];kernel_rfl) he0 (.inr ⟨N,rfl⟩) ho (by omega) ?_
   simp -dsimp -implicitDefEqProofs [-getElem?_pos,go_sem,hP]
   refine adrawB (fun _=>true) [8] hP (by kernel_rfl) (by kernel_rfl) ?_
   simp -dsimp -implicitDefEqProofs [-getElem?_pos,go_sem,hP,dN,ho,←hn,hin,hin',asliceOp,bound,aslice,w1,w2,w3,hroom,hi,nN,iN,a1,a2,a3,a4,a5,a6,a7,a8,fx]
   refine buiB_copyS (e:=83) (lo:=i+1) (dn:=n-i) (news:=es.drop i) (es':=es.take (i+1)++es.drop i) ho (.inr ⟨N,rfl⟩) (by rw[hP];kernel_rfl) (by rw[hP];kernel_rfl) (by omega) (by rw[hP];kernel_rfl) ?_ (by simp[←hn]) (by omega) (by omega) (by omega) (by rw[List.drop_of_length_le (show es.length≤i+1+(n-i) by omega),List.append_nil]) ?_
   ·simp only[srcEs,ho]
    rw[if_pos ⟨by rw[hP];kernel_rfl,by omega⟩,List.take_of_length_le (by simp;omega)]
   simp -dsimp -implicitDefEqProofs [-getElem?_pos,go_sem,hP,lid,ho,asliceOp,bound,aslice,a2,a7,a8,fx]
   refine buiB_copyE (e:=83) (ty:=83) (k:=7) (lo:=i) (dn:=n+1-i) (m:=1) (es:=es.take (i+1)++es.drop i) (news:=[e]) (es':=es.take i++e::es.drop i) (by simp[lid]) (.inr ⟨N,rfl⟩) (by rw[hP];kernel_rfl) (by rw[hP];kernel_rfl) (by omega) (by rw[hP];kernel_rfl) ?_ rfl (by omega) (by omega) (by simp[←hn];omega) ?_ ?_
   ·simp only[srcEs]
    rw[if_pos (by rw[hP];kernel_rfl)]
   ·rw[List.take_append_of_le_length (by simp;omega),List.take_take,Nat.min_eq_left (by omega),List.drop_append_of_le_length (by simp;omega),List.drop_of_length_le (by simp;omega)]
    simp
   simp -dsimp -implicitDefEqProofs [-getElem?_pos,go_sem,hP,lid]
   rw[hD,hC]
   simp only[List.set_set]
   exact .inr ⟨N,rfl,⟨83,7,es.take i++e::es.drop i⟩,by simp[lid],by simp[←hn];omega,id,rfl,.inl rfl,by simp[lid],kept_set _ (by simp) (kept_refl _ _)⟩
theorem order1_pf (e:TEntry) (p:TPayment):PFun Tryz.prog none none 113 [.agg e.cells,.iref p.cells] (·=bv (refB p.Warrant e)):=by
 refine pfun_intro Tryz.func113 rfl (by simp[Tryz.f113]) (by kernel_rfl) ?_
 intro E hP hr hs hW hN
 simp -dsimp -implicitDefEqProofs [-getElem?_pos,go_sem,hP,cE,cPy,refB]
theorem ltI_cut {l:List TItem} {y:TItem} {k:Nat} (hk:CutI l y.Payment.Warrant k):ins ltI l y=l.take k++y::l.drop k:=by
 obtain⟨A,B,h1,h2,h3,h4⟩:=ins_split ltI l y
 have:A.length=k:=by
  refine CutI.uniq (l:=l) (w:=y.Payment.Warrant) ⟨by rw[h1];simp,fun h x hx=>?_⟩ hk
  by_cases c:h<A.length
  ·rw[h1,List.getElem?_append_left c]at hx
   exact⟨fun _=>c,fun _=>by simpa[ltI]using h3 x (List.mem_of_getElem? hx)⟩
  ·refine⟨fun hb=>?_,fun hc=>absurd hc c⟩
   have hAk:=(hk.2 h x hx).1 hb
   have hlt:A.length<l.length:=by have:=hk.1;omega
   obtain⟨z,hz⟩:∃z,l[A.length]?=some z:=⟨_,List.getElem?_eq_getElem hlt⟩
   have hz1:=(hk.2 A.length z hz).2 (by omega)
   have hzB:B.head?=some z:=by
    rw[h1,List.getElem?_append_right (Nat.le_refl _),Nat.sub_self]at hz
    rw[List.head?_eq_getElem?]
    exact hz
   have:=h4 z hzB
   rw[ltI,decide_eq_true hz1]at this
   cases this
 subst this
 rw[h2,h1]
 simp
set_option maxHeartbeats 2000000 in
theorem rorder_pf (d:TDesk) (p:TPayment) (hf:FitD d):PFun Tryz.prog none none 72 [.agg d.cells,.agg p.cells] (·= .tup [.agg (orderD d p).1.cells,iv (orderD d p).2]):=by
 refine pfun_introA Tryz.func72 rfl (by simp[Tryz.f72]) ?_
 intro E hP hr hs hW hN
 have li:=hf.i
 have id':=imm_desk d
 have ia:=imm_acc d.Account
 have ie:=imm_ents d.Account.Entries
 have iq:=imm_que d.Queue
 have ip:=imm_pay p
 have ck:=dcheck_pf d hf
 have ad:=badd_pf d.Queue p hf.q
 have io:=imm_que (addQ d.Queue p).1
 have bl:=balance_pf d.Account p.Sub hf.s hf.e
 have ct:=contains_pf_entry d.Account.Entries 113 [.iref p.cells] (refB p.Warrant) (by have:=hf.e;omega) en_113 (by simp[imm_iref];exact p.imm) fun e _=>order1_pf e p
 simp only[cDn]at id' ck
 simp only[cA]at ia bl
 simp only[cQn,cPy]at iq ip ad io ct
 refine awp_sound _ _ _ (by rw[hN];kernel_rfl) ?_
 simp -dsimp -implicitDefEqProofs [-getElem?_pos,go_sem,hP,cDn,cPy]
 refine callB_is (ck.lift _ _) hP en_83 (by simpa using id') .sc ?_
 by_cases c1:checkD d=0
 rotate_left
 ·have:orderD d p=(zeroD,checkD d):=by rw[orderD,if_neg c1]
  simp -dsimp -implicitDefEqProofs [-getElem?_pos,go_sem,hP,c1]
  refine done_zeroD ?_
  rw[this]
 have hd:=checkD_iff.1 c1
 simp -dsimp -implicitDefEqProofs [-getElem?_pos,go_sem,hP,c1]
 refine callB_is (ad.lift _ _) hP en_110 (by simpa using⟨iq,ip⟩) (imm_pair io .sc) ?_
 by_cases c2:(addQ d.Queue p).2=0
 rotate_left
 ·have:orderD d p=(zeroD,(addQ d.Queue p).2):=by rw[orderD,if_pos c1,if_neg c2]
  have d2:=decide_eq_false c2
  simp -dsimp -implicitDefEqProofs [-getElem?_pos,go_sem,hP,d2]
  refine done_zeroD ?_
  rw[this]
 simp -dsimp -implicitDefEqProofs [-getElem?_pos,go_sem,hP,c2]
 refine callB_is (bl.lift _ _) hP en_111 (by simpa[imm_sc]using ia) (imm_pair .sc .sc) ?_
 cases c3:(balanceA d.Account p.Sub).2
 ·have:orderD d p=(zeroD,60):=by rw[orderD,if_pos c1,if_pos c2,if_neg (by simp[c3])]
  simp -dsimp -implicitDefEqProofs [-getElem?_pos,go_sem,hP,c3]
  refine done_zeroD ?_
  rw[this]
 simp -dsimp -implicitDefEqProofs [-getElem?_pos,go_sem,hP,c3]
 refine callB_pure ct hP en_112 (args_imm ie (args_fnc (cs:=[.ref 1 0 0]) (by simp -dsimp[-getElem?_pos,go_sem,viewR_ref]) (by simp[imm_iref,imm_sc]) (args_nil.2 trivial))) .sc ?_
 cases c4:d.Account.Entries.any (refB p.Warrant)
 rotate_left
 ·have:orderD d p=(zeroD,65):=by rw[orderD,if_pos c1,if_pos c2,if_pos c3,if_pos c4]
  simp -dsimp -implicitDefEqProofs [-getElem?_pos,go_sem,hP,c4]
  refine done_zeroD ?_
  rw[this]
 have hor:orderD d p=(⟨d.Account,(addQ d.Queue p).1,ins ltI d.Items ⟨p,1,0⟩⟩,0):=by rw[orderD,if_pos c1,if_pos c2,if_pos c3,if_neg (by simp[c4])]
 rw[hor]
 simp -dsimp -implicitDefEqProofs [-getElem?_pos,go_sem,hP,c4]
 have cm:=fun {row src:Option Nat} (H:Heap)=>copied26_m (row:=row) (src:=src) d H hf
 simp only[cDn]at cm
 refine callB_m (by rw[hr,hs];exact cm _) hP en_114 ?_
 rintro r H2 ⟨id,rfl,hid,ho,hk'⟩
 have b0:=hk' 0 _ (by simp) rfl
 have b1:=hk' 1 _ (by simp) rfl
 have b2:=hk' 2 _ (by simp) rfl
 have b3:=hk' 3 _ (by simp) rfl
 have lt0:=(gsI b0)
 have hid2:4≤id:=by simpa using hid
 have n0:¬0=id:=by omega
 have lt1:=(gsI b1)
 simp -dsimp -implicitDefEqProofs [-getElem?_pos,go_sem,hP,b0,lt0,n0,b1,lt1]
 generalize hH3:List.set H2 0 _=H3
 have e0:H3[0]?=some (some (ownO d.Account d.Queue id d.Items.length)):=by rw[←hH3,List.getElem?_set_self lt0]
 have e1:H3[1]?=H2[1]?:=by rw[←hH3,List.getElem?_set_ne (by omega)]
 have e2:H3[2]?=H2[2]?:=by rw[←hH3,List.getElem?_set_ne (by omega)]
 have e3:H3[3]?=H2[3]?:=by rw[←hH3,List.getElem?_set_ne (by omega)]
 have ei:H3[id]?=H2[id]?:=by rw[←hH3,List.getElem?_set_ne (by omega)]
 rw[b1]at e1
 rw[b2]at e2
 rw[b3]at e3
 rw[ho]at ei
 clear hH3 b0 b1 b2 b3 lt0 lt1 hk'
 have g0:=(gsI e0)
 have g1:=(gsI e1)
 have g2:=(gsI e2)
 have g3:=(gsI e3)
 have pl:=place_pf d p.Warrant (by omega)
 simp only[cDn]at pl
 have i1:=imm_subs d.Account.Subs
 have i2:=imm_pays d.Queue.Waiting
 have i3:=imm_nums d.Queue.Known
 have i4:=imm_bats d.Queue.Batches
 have i5:=imm_items d.Items
 have cw:CW H3 [iv d.Account.Credit,subsL d.Account.Subs,entsL d.Account.Entries,paysL d.Queue.Waiting,numsL d.Queue.Known,batsL d.Queue.Batches,.sref id 0 d.Items.length] [iv d.Account.Credit,subsL d.Account.Subs,entsL d.Account.Entries,paysL d.Queue.Waiting,numsL d.Queue.Known,batsL d.Queue.Batches,itemsL d.Items]:=cw_sc (cw_imm i1 (cw_imm ie (cw_imm i2 (cw_imm i3 (cw_imm i4 (cw_sref ei (by rw[encL_len]) i5 .nil))))))
 refine callB_flat (pl.lift _ _) hP en_115 (args_agg cw (args_imm .sc (args_nil.2 trivial))) (by obtain⟨r,h,_⟩:=placeQ_ex d.Items p.Warrant;exact⟨r,h⟩) (fun r h=>h.flat) ?_
 rintro r ⟨k,hk,rfl,hcut⟩
 obtain⟨k',hk1,hk2⟩:=place_cut hd.ks p.Warrant
 have:=hcut k' hk1
 subst this
 have hins:=ltI_cut (y:=⟨p,1,0⟩) hk1
 generalize decide ((d.Items[k]?).map wrt=some p.Warrant)=bb
 simp -dsimp -implicitDefEqProofs [-getElem?_pos,go_sem,hP]
 refine adrawB (fun i=>decide (i=0)||decide (i=1)||decide (i=3)) [9,11] hP (by kernel_rfl) (by kernel_rfl) ?_
 simp -dsimp -implicitDefEqProofs [-getElem?_pos,go_sem,hP,e0,g0,e1,g1,e3,g3]
 have insm:=fun {row src:Option Nat}=>insert_m_item (row:=row) (src:=src) (encL TItem.cells d.Items) [iv p.Warrant,iv p.Payee,iv p.Amount,iv p.Due,iv p.Sub,iv 1,iv 0] k id H3 (by rw[encL_len];exact hk) (by rw[encL_len];omega) ei (by simp)
 rw[encL_len]at insm
 refine callB_m (by rw[hr,hs];exact insm) hP en_116 ?_
 rintro r H4 ⟨jd,rfl,hjd,hoj,hk4⟩
 have f0:=hk4 0 _ (by simp;omega) e0
 have f1:=hk4 1 _ (by simp;omega) e1
 have f2:=hk4 2 _ (by simp;omega) e2
 have f3:=hk4 3 _ (by simp;omega) e3
 have m0:=(gsI f0)
 have m2:=(gsI f2)
 have eIt:(encL TItem.cells d.Items).take k++[iv p.Warrant,iv p.Payee,iv p.Amount,iv p.Due,iv p.Sub,iv 1,iv 0]::(encL TItem.cells d.Items).drop k=encL TItem.cells (ins ltI d.Items ⟨p,1,0⟩):=by
  rw[hins,encL_takeE,encL_dropE]
  simp[encL,cIt]
 rw[eIt]at hoj
 have hjd4:4≤jd:=by omega
 have nj0:¬0=jd:=by omega
 have nj2:¬2=jd:=by omega
 have n20:¬2=0:=by omega
 have aD:Agree (fun i=>decide (i=0)||decide (i=1)||decide (i=3)) H3 H4:=agree_live hk4 fun i hi=>by
  simp only[Bool.or_eq_true,decide_eq_true_eq]at hi
  refine⟨by simp;omega,?_⟩
  rcases hi with (rfl|rfl)|rfl
  ·exact⟨_,e0⟩
  ·exact⟨_,e1⟩
  ·exact⟨_,e3⟩
 simp -dsimp -implicitDefEqProofs [-getElem?_pos,go_sem,hP,f0,m0]
 refine⟨aD,?_⟩
 simp -dsimp -implicitDefEqProofs [-getElem?_pos,go_sem,hP,f0,m0,f2,m2]
 refine done_agg2 (cs':=TDesk.cells ⟨d.Account,(addQ d.Queue p).1,ins ltI d.Items ⟨p,1,0⟩⟩) ?_ rfl
 refine cw_sc (cw_imm i1 (cw_imm ie (cw_imm (imm_pays _) (cw_imm (imm_nums _) (cw_imm (imm_bats _) (cw_sref (ty:=83) ?_ ?_ (imm_items _) .nil))))))
 ·rw[List.getElem?_set_ne nj2,List.getElem?_set_ne nj0]
  exact hoj
 ·rw[encL_len,ins_len]
open Go.Shelf
open Go.RowKit Go.Sort Go.Lib in
open Go.RowKit in
open Go.RowKit Go.Lib in
open Go.RowKit Go.Shelf
attribute [local go_sem] Oper.semAt_some
def piecesF (c:UInt8):Nat→List UInt8→List (List UInt8)
 |0,l=>[l]
 |n+1,l=>if Lib.indexByte l c<0 then [l]else l.take (Lib.indexByte l c).toNat::piecesF c n (l.drop ((Lib.indexByte l c).toNat+1))
def bl (s:ByteArray):List UInt8:=s.data.toList
open Go.RowKit Go.Shelf
attribute [local go_sem] Oper.semAt_some
def partOf (l:List UInt8):Option Int:=match Lib.atoiAll l with
 | .ok n=>if 1≤n∧n≤99∧Lib.decDigits n.toNat=l then some n else none
 |_=>none
def partsD (s:ByteArray):List Int:=match (piecesF 46 s.size (bl s)).mapM partOf with
 |some ns=>if ns.length≤4 then ns else []
 |none=>[]
open Go.PA
open Go.RowKit
theorem rep_ints {w:World} {ok:Nat→Prop} {base:Nat} {v:Value} {ns:List Int} (h:w.ownsRow base 3 1 v ns.length (ns.map (Value.int .i64))) (hok:∀b,base≤b→b<w.heap.size→ok b):RepI w ok v (intsL ns):=by
 have hl:=h.lt
 have hc:=fun g hg=>h.cells (g:=g) hg
 rcases h.2 with⟨rfl,h0⟩|⟨g,cap,cur,rfl,hb,hg,hcap,_⟩
 ·rw[List.length_eq_zero_iff.1 h0]
  exact .listNil
 ·obtain⟨_,hlt⟩:=hl g rfl
  refine .list (fun i _=> .int .i64 (ns.getD i 0)) (by simp) hcap (hok g hb hlt) (by simp) ?_ (fun _ _ _ _ _ _=>rfl) ?_<;>
  ·intro i e j a he ha
   rw[List.getElem?_map,Option.map_eq_some_iff]at he
   obtain⟨x,hx,rfl⟩:=he
   have hj:j=0:=by have:=(gsI ha);simpa using this
   subst hj
   have hd:ns.getD i 0=x:=by rw[List.getD_eq_getElem?_getD,hx];rfl
   simp only[List.getElem?_cons_zero,Option.some.injEq]at ha
   subst ha
   simp only[hd]
   first
    |exact .sc
    |exact hc g rfl _ _ (by rw[Nat.mul_one,Nat.add_zero,List.getElem?_map,hx];rfl)
open Go.PA
open Go.RowKit
section
variable {α:Type} (enc:α→List AV) (lt:α→α→Bool) (g:FuncId)
end
section
variable {α:Type} {lt:α→α→Bool}
def insR (lt:α→α→Bool) (x:α):List α→List α
 |[]=>[x]
 |y::l=>if lt x y then x::y::l else y::insR lt x l
def ssort (lt:α→α→Bool) (l:List α):List α:=l.foldl (fun acc x=>insR lt x acc) []
def blk (lt:α→α→Bool) (bs:Nat):Nat→List α→List α
 |0,_=>[]
 |f+1,l=>ssort lt (l.take bs)++blk lt bs f (l.drop bs)
end
def btw (n lo hi:Int):Bool:=decide (lo≤n)&&decide (n≤hi)
theorem btw_iff {n lo hi:Int}:btw n lo hi=true↔lo≤n∧n≤hi:=by simp[btw]
theorem btw_no {n lo hi:Int} (h:¬(lo≤n∧n≤hi)):btw n lo hi=false:=by simp[btw];omega
def codeB (s:ByteArray):Bool:=decide (0<(partsD s).length)
section
variable {α:Type} {lt:α→α→Bool}
end
def payB (c:TClaim):Bool:=btw c.ID 1 1000000&&btw c.Payer 1 1000000&&btw c.Amount 1 1000000000000&&btw c.Open 0 c.Amount&&btw c.Day 0 36000&&codeB c.Code
def incB (x:TIncome):Bool:=btw x.Number 1 1000000&&btw x.Payer 1 1000000&&btw x.Day 0 36000&&btw x.Amount 1 1000000000000&&btw x.Claim 0 1000000
def paysB:Int→List TClaim→Bool
 |_,[]=>true
 |p,c::l=>payB c&&decide (p<c.ID)&&paysB c.ID l
def incsB:Int→Int→List TIncome→Bool
 |_,_,[]=>true
 |n,d,x::l=>incB x&&decide (n<x.Number)&&decide (d≤x.Day)&&incsB x.Number x.Day l
def payAt (l:List TClaim) (id:Int):Option Nat:=l.findIdx? fun c=>decide (c.ID=id)
def incAt (l:List TIncome) (n:Int):Option Nat:=l.findIdx? fun x=>decide (x.Number=n)
def gotS (ms:List TMatch) (id:Int):Int:=((ms.filter fun m=>decide (m.Claim=id)).map (·.Amount)).sum
def usedS (ms:List TMatch) (n:Int):Int:=((ms.filter fun m=>decide (m.Income=n)).map (·.Amount)).sum
def mateB (cs:List TClaim) (xs:List TIncome) (m:TMatch):Bool:=decide (0<m.Amount)&&cs.any fun c=>decide (c.ID=m.Claim)&&xs.any fun x=>decide (x.Number=m.Income)&&decide (x.Payer=c.Payer)
def booksB (c:TCash):Bool:=decide (c.Loose.length=c.Incomes.length)&&c.Matches.all (mateB c.Claims c.Incomes)&&(c.Claims.all fun x=>decide (gotS c.Matches x.ID=x.Amount-x.Open))&&((c.Incomes.zip c.Loose).all fun p=>decide (0≤p.2)&&decide (usedS c.Matches p.1.Number≤p.1.Amount-p.2))
def cashE (c:TCash):Int:=if c.Claims.length≤60∧c.Incomes.length≤100∧c.Matches.length≤160 then (if paysB 0 c.Claims then (if incsB 0 0 c.Incomes&&booksB c then 0 else 70)else 69)else 3
def only (ks:List Nat):List Nat:=match ks with
 |[k]=>[k]
 |_=>[]
theorem paysB_iff:∀(l:List TClaim) (p:Int),paysB p l=true↔(∀c,c∈l→payB c=true∧p<c.ID)∧l.Pairwise fun a b=>a.ID<b.ID
 |[],p=>by simp[paysB]
 |c::l,p=>by
  rw[paysB]
  simp only[Bool.and_eq_true,decide_eq_true_eq,paysB_iff l c.ID,List.pairwise_cons,List.forall_mem_cons]
  constructor
  ·rintro⟨⟨h1,h2⟩,h3,h4⟩
   exact⟨⟨⟨h1,h2⟩,fun x hx=>⟨(h3 x hx).1,by have:=(h3 x hx).2;omega⟩⟩,fun x hx=>(h3 x hx).2,h4⟩
  ·rintro⟨⟨⟨h1,h2⟩,h3⟩,h4,h5⟩
   exact⟨⟨h1,h2⟩,fun x hx=>⟨(h3 x hx).1,h4 x hx⟩,h5⟩
theorem incsB_iff:∀(l:List TIncome) (n d:Int),incsB n d l=true↔(∀x,x∈l→incB x=true∧n<x.Number∧d≤x.Day)∧l.Pairwise fun a b=>a.Number<b.Number∧a.Day≤b.Day
 |[],n,d=>by simp[incsB]
 |x::l,n,d=>by
  rw[incsB]
  simp only[Bool.and_eq_true,decide_eq_true_eq,incsB_iff l x.Number x.Day,List.pairwise_cons,List.forall_mem_cons]
  constructor
  ·rintro⟨⟨⟨h1,h2⟩,h2'⟩,h3,h4⟩
   exact⟨⟨⟨h1,h2,h2'⟩,fun z hz=>⟨(h3 z hz).1,by have:=(h3 z hz).2;omega,by have:=(h3 z hz).2;omega⟩⟩,fun z hz=>(h3 z hz).2,h4⟩
  ·rintro⟨⟨⟨h1,h2,h2'⟩,h3⟩,h4,h5⟩
   exact⟨⟨⟨h1,h2⟩,h2'⟩,fun z hz=>⟨(h3 z hz).1,h4 z hz⟩,h5⟩
theorem payB_iff {c:TClaim}:payB c=true↔(1≤c.ID∧c.ID≤1000000)∧(1≤c.Payer∧c.Payer≤1000000)∧(1≤c.Amount∧c.Amount≤1000000000000)∧(0≤c.Open∧c.Open≤c.Amount)∧(0≤c.Day∧c.Day≤36000)∧codeB c.Code=true:=by
 simp[payB,btw,and_assoc]
structure CashOk (c:TCash):Prop where
 pays:(∀x,x∈c.Claims→payB x=true)∧c.Claims.Pairwise fun a b=>a.ID<b.ID
 incs:(∀x,x∈c.Incomes→incB x=true)∧c.Incomes.Pairwise fun a b=>a.Number<b.Number∧a.Day≤b.Day
 len:c.Loose.length=c.Incomes.length
 mates:∀m,m∈c.Matches→0<m.Amount∧∃x y,x∈c.Claims∧y∈c.Incomes∧x.ID=m.Claim∧y.Number=m.Income∧y.Payer=x.Payer
 got:∀x,x∈c.Claims→gotS c.Matches x.ID=x.Amount-x.Open
 used:∀(i:Nat) y lo,c.Incomes[i]?=some y→c.Loose[i]?=some lo→0≤lo∧usedS c.Matches y.Number≤y.Amount-lo
theorem id_inj {l:List TClaim} (h:l.Pairwise fun a b=>a.ID<b.ID) {i j:Nat} {x y:TClaim} (hi:l[i]?=some x) (hj:l[j]?=some y) (e:x.ID=y.ID):i=j:=by
 obtain⟨h1,h2⟩:=List.getElem?_eq_some_iff.1 hi
 obtain⟨h3,h4⟩:=List.getElem?_eq_some_iff.1 hj
 rcases Nat.lt_trichotomy i j with hlt|rfl|hlt
 ·have:=List.pairwise_iff_getElem.1 h i j h1 h3 hlt
  rw[h2,h4]at this
  omega
 ·rfl
 ·have:=List.pairwise_iff_getElem.1 h j i h3 h1 hlt
  rw[h2,h4]at this
  omega
theorem num_inj {l:List TIncome} (h:l.Pairwise fun a b=>a.Number<b.Number∧a.Day≤b.Day) {i j:Nat} {x y:TIncome} (hi:l[i]?=some x) (hj:l[j]?=some y) (e:x.Number=y.Number):i=j:=by
 obtain⟨h1,h2⟩:=List.getElem?_eq_some_iff.1 hi
 obtain⟨h3,h4⟩:=List.getElem?_eq_some_iff.1 hj
 rcases Nat.lt_trichotomy i j with hlt|rfl|hlt
 ·have:=(List.pairwise_iff_getElem.1 h i j h1 h3 hlt).1
  rw[h2,h4]at this
  omega
 ·rfl
 ·have:=(List.pairwise_iff_getElem.1 h j i h3 h1 hlt).1
  rw[h2,h4]at this
  omega
def lastN (c:TCash):Int:=((c.Incomes.getLast?).map (·.Number)).getD 0
def lastD (c:TCash):Int:=((c.Incomes.getLast?).map (·.Day)).getD 0
def noCash:TCash:=⟨[],[],[],[]⟩
open Go.PA
open Go.RowKit
theorem camong_pf (n lo hi:Int):PFun Tryz.prog none none 235 [iv n,iv lo,iv hi] (·=bv (btw n lo hi)):=by
 refine pfun_intro Tryz.func235 rfl (by simp[Tryz.f235]) (by kernel_rfl) ?_
 intro E hP hr hs hW hN
 by_cases h1:lo≤n<;>by_cases h2:n≤hi<;>simp -dsimp -implicitDefEqProofs [-getElem?_pos,go_sem,hP,h1,h2,btw]
theorem cmvalid_pf (n:Int):PFun Tryz.prog none none 50 [iv n] (·=bv (btw n 0 1000000000000)):=by
 refine pfun_intro Tryz.func50 rfl (by simp[Tryz.f50]) (by kernel_rfl) ?_
 intro E hP hr hs hW hN
 by_cases h1:0≤n<;>by_cases h2:n≤1000000000000<;>simp -dsimp -implicitDefEqProofs [-getElem?_pos,go_sem,hP,h1,h2,btw]
theorem cpositive_pf (n:Int):PFun Tryz.prog none none 236 [iv n] (·=bv (btw n 1 1000000000000)):=by
 refine pfun_intro Tryz.func236 rfl (by simp[Tryz.f236]) (by kernel_rfl) ?_
 intro E hP hr hs hW hN
 by_cases h1:0<n
 ·have e:btw n 0 1000000000000=btw n 1 1000000000000:=by rw[Bool.eq_iff_iff,btw_iff,btw_iff];omega
  simp -dsimp -implicitDefEqProofs [-getElem?_pos,go_sem,hP,h1]
  refine callB_pure (cmvalid_pf n) hP en_50 (args_same (by simp -dsimp[-getElem?_pos,go_sem])) .sc ?_
  rw[e]
  simp -dsimp -implicitDefEqProofs [-getElem?_pos,go_sem,hP]
 ·have e:btw n 1 1000000000000=false:=btw_no (by omega)
  have d:=decide_eq_false h1
  simp -dsimp -implicitDefEqProofs [-getElem?_pos,go_sem,hP,d,e]
theorem cClm (x:TClaim):x.cells=[iv x.ID,iv x.Payer,iv x.Amount,iv x.Open,iv x.Day,.sc (.string x.Code)]:=rfl
theorem cIncm (x:TIncome):x.cells=[iv x.Number,iv x.Day,iv x.Payer,iv x.Amount,iv x.Claim]:=rfl
theorem cincome_pf (x:TIncome):PFun Tryz.prog none none 164 [.agg x.cells] (·=bv (incB x)):=by
 refine pfun_intro Tryz.func164 rfl (by simp[Tryz.f164]) (by kernel_rfl) ?_
 intro E hP hr hs hW hN
 simp -dsimp -implicitDefEqProofs [-getElem?_pos,go_sem,hP,cIncm]
 refine callB_pure (camong_pf x.Number 1 1000000) hP en_235 (args_same (by simp -dsimp[-getElem?_pos,go_sem])) .sc ?_
 cases c1:btw x.Number 1 1000000
 ·have e:incB x=false:=by simp[incB,c1]
  simp -dsimp -implicitDefEqProofs [-getElem?_pos,go_sem,hP,e]
 simp -dsimp -implicitDefEqProofs [-getElem?_pos,go_sem,hP]
 refine callB_pure (camong_pf x.Payer 1 1000000) hP en_235 (args_same (by simp -dsimp[-getElem?_pos,go_sem])) .sc ?_
 cases c2:btw x.Payer 1 1000000
 ·have e:incB x=false:=by simp[incB,c2]
  simp -dsimp -implicitDefEqProofs [-getElem?_pos,go_sem,hP,e]
 simp -dsimp -implicitDefEqProofs [-getElem?_pos,go_sem,hP]
 refine callB_pure (camong_pf x.Day 0 36000) hP en_235 (args_same (by simp -dsimp[-getElem?_pos,go_sem])) .sc ?_
 cases c3:btw x.Day 0 36000
 ·have e:incB x=false:=by simp[incB,c3]
  simp -dsimp -implicitDefEqProofs [-getElem?_pos,go_sem,hP,e]
 simp -dsimp -implicitDefEqProofs [-getElem?_pos,go_sem,hP]
 refine callB_pure (cpositive_pf x.Amount) hP en_236 (args_same (by simp -dsimp[-getElem?_pos,go_sem])) .sc ?_
 cases c4:btw x.Amount 1 1000000000000
 ·have e:incB x=false:=by simp[incB,c4]
  simp -dsimp -implicitDefEqProofs [-getElem?_pos,go_sem,hP,e]
 simp -dsimp -implicitDefEqProofs [-getElem?_pos,go_sem,hP]
 refine callB_pure (camong_pf x.Claim 0 1000000) hP en_235 (args_same (by simp -dsimp[-getElem?_pos,go_sem])) .sc ?_
 cases c5:btw x.Claim 0 1000000
 ·have e:incB x=false:=by simp[incB,c5]
  simp -dsimp -implicitDefEqProofs [-getElem?_pos,go_sem,hP,e]
 have e:incB x=true:=by simp[incB,c1,c2,c3,c4,c5]
 simp -dsimp -implicitDefEqProofs [-getElem?_pos,go_sem,hP,e]
open Go.PA
open Go.RowKit
abbrev claimsL (l:List TClaim):AV:= .list 6 (encL TClaim.cells l)
theorem imm_claims (l:List TClaim):Imm (claimsL l):=imm_encL _ TClaim.imm l
open Go.PA
open Go.RowKit
section
variable {L:List UInt8} {i:Nat} {cur:List UInt8} {out:List Int}
end
theorem drop_atL {α:Type} {l:List α} {k:Nat} {e:α} (h:l[k]?=some e):l.drop k=e::l.drop (k+1):=by
 obtain⟨h1,h2⟩:=List.getElem?_eq_some_iff.1 h
 rw[List.drop_eq_getElem_cons h1,h2]
section
variable {c:TCash} {ms:List TMatch} {m:TMatch} {i k:Nat} {x:TClaim} {y:TIncome}
end
theorem gotS_nonneg:∀(ms:List TMatch) (id:Int),(∀m,m∈ms→0<m.Amount)→0≤gotS ms id
 |[],_,_=>by simp[gotS]
 |m::ms,id,h=>by
  have ih:=gotS_nonneg ms id fun z hz=>h z (List.mem_cons_of_mem _ hz)
  have:=h m (List.mem_cons_self ..)
  unfold gotS at ih⊢
  by_cases e:m.Claim=id
  ·simp only[List.filter_cons,e,decide_true,if_true,List.map_cons,List.sum_cons];omega
  ·simp only[List.filter_cons,e,decide_false,Bool.false_eq_true,if_false];exact ih
theorem usedS_nonneg:∀(ms:List TMatch) (n:Int),(∀m,m∈ms→0<m.Amount)→0≤usedS ms n
 |[],_,_=>by simp[usedS]
 |m::ms,n,h=>by
  have ih:=usedS_nonneg ms n fun z hz=>h z (List.mem_cons_of_mem _ hz)
  have:=h m (List.mem_cons_self ..)
  unfold usedS at ih⊢
  by_cases e:m.Income=n
  ·simp only[List.filter_cons,e,decide_true,if_true,List.map_cons,List.sum_cons];omega
  ·simp only[List.filter_cons,e,decide_false,Bool.false_eq_true,if_false];exact ih
theorem gotS_app (a b:List TMatch) (id:Int):gotS (a++b) id=gotS a id+gotS b id:=by
 unfold gotS
 rw[List.filter_append,List.map_append,List.sum_append]
theorem usedS_app (a b:List TMatch) (n:Int):usedS (a++b) n=usedS a n+usedS b n:=by
 unfold usedS
 rw[List.filter_append,List.map_append,List.sum_append]
def fitsM (c:TCash) (ms:List TMatch) (m:TMatch):Prop:=∃i k x y,incAt c.Incomes m.Income=some i∧payAt c.Claims m.Claim=some k∧c.Claims[k]?=some x∧c.Incomes[i]?=some y∧x.ID=m.Claim∧y.Number=m.Income∧y.Payer=x.Payer∧0<m.Amount∧m.Amount≤x.Amount-gotS ms x.ID∧m.Amount≤y.Amount-usedS ms y.Number
theorem payAt_some {l:List TClaim} {id:Int} {k:Nat} (h:payAt l id=some k):∃x,l[k]?=some x∧x.ID=id:=by
 obtain⟨h1,h2,_⟩:=List.findIdx?_eq_some_iff_getElem.1 h
 exact⟨_,List.getElem?_eq_getElem h1,by simpa using h2⟩
theorem incAt_some {l:List TIncome} {n:Int} {i:Nat} (h:incAt l n=some i):∃y,l[i]?=some y∧y.Number=n:=by
 obtain⟨h1,h2,_⟩:=List.findIdx?_eq_some_iff_getElem.1 h
 exact⟨_,List.getElem?_eq_getElem h1,by simpa using h2⟩
theorem payAt_none {l:List TClaim} {id:Int} (h:payAt l id=none):∀x,x∈l→¬x.ID=id:=fun x hx=>by
 have:=List.findIdx?_eq_none_iff.1 h x hx
 simpa using this
theorem incAt_none {l:List TIncome} {n:Int} (h:incAt l n=none):∀x,x∈l→¬x.Number=n:=fun x hx=>by
 have:=List.findIdx?_eq_none_iff.1 h x hx
 simpa using this
theorem payAt_mem {l:List TClaim} {x:TClaim} (hx:x∈l):∃k,payAt l x.ID=some k:=by
 cases h:payAt l x.ID with
 |some k=>exact⟨k,rfl⟩
 |none=>exact absurd rfl (payAt_none h x hx)
theorem incAt_mem {l:List TIncome} {x:TIncome} (hx:x∈l):∃k,incAt l x.Number=some k:=by
 cases h:incAt l x.Number with
 |some k=>exact⟨k,rfl⟩
 |none=>exact absurd rfl (incAt_none h x hx)
structure Books (c:TCash):Prop where
 len:c.Loose.length=c.Incomes.length
 mates:∀m,m∈c.Matches→0<m.Amount∧∃x y,x∈c.Claims∧y∈c.Incomes∧x.ID=m.Claim∧y.Number=m.Income∧y.Payer=x.Payer
 got:∀x,x∈c.Claims→gotS c.Matches x.ID=x.Amount-x.Open
 used:∀(i:Nat) y lo,c.Incomes[i]?=some y→c.Loose[i]?=some lo→0≤lo∧usedS c.Matches y.Number≤y.Amount-lo
theorem zip_mem {α β:Type} {l:List α} {r:List β} {p:α×β}:p∈l.zip r↔∃i:Nat,l[i]?=some p.1∧r[i]?=some p.2:=by
 constructor
 ·intro h
  obtain⟨i,hi⟩:=List.getElem?_of_mem h
  exact⟨i,List.getElem?_zip_eq_some.1 hi⟩
 ·rintro⟨i,h⟩
  exact List.mem_of_getElem? (i:=i) (List.getElem?_zip_eq_some.2 h)
theorem booksB_iff (c:TCash):booksB c=true↔Books c:=by
 unfold booksB
 simp only[Bool.and_eq_true,decide_eq_true_eq,List.all_eq_true]
 constructor
 ·rintro⟨⟨⟨h1,h2⟩,h3⟩,h4⟩
  refine⟨h1,fun m hm=>?_,h3,fun i y lo hy hl=>h4 (y,lo) (zip_mem.2 ⟨i,hy,hl⟩)⟩
  have:=h2 m hm
  simp only[mateB,Bool.and_eq_true,decide_eq_true_eq,List.any_eq_true]at this
  obtain⟨q1,x,q2,q3,y,q4,q5,q6⟩:=this
  exact⟨q1,x,y,q2,q4,q3,q5,q6⟩
 ·intro h
  refine⟨⟨⟨h.len,fun m hm=>?_⟩,h.got⟩,fun p hp=>?_⟩
  ·obtain⟨q1,x,y,q2,q3,q4,q5,q6⟩:=h.mates m hm
   simp only[mateB,Bool.and_eq_true,decide_eq_true_eq,List.any_eq_true]
   exact⟨q1,x,q2,q4,y,q3,q5,q6⟩
  ·obtain⟨i,h1,h2⟩:=zip_mem.1 hp
   exact h.used i p.1 p.2 h1 h2
theorem incB_amount {y:TIncome} (h:incB y=true):1≤y.Amount∧y.Amount≤1000000000000:=by
 simp only[incB,Bool.and_eq_true]at h
 exact btw_iff.1 h.1.2
theorem Books.fits {c:TCash} (h:Books c) (hp:paysB 0 c.Claims=true) (hx:incsB 0 0 c.Incomes=true) {j:Nat} {m:TMatch} (hm:c.Matches[j]?=some m):fitsM c (c.Matches.take j) m:=by
 obtain⟨h1,x,y,h2,h3,h4,h5,h6⟩:=h.mates m (List.mem_of_getElem? hm)
 have hpw:=((paysB_iff _ _).1 hp)
 have hiw:=((incsB_iff _ _ _).1 hx)
 obtain⟨k,hk⟩:=payAt_mem h2
 obtain⟨i,hi⟩:=incAt_mem h3
 obtain⟨x',hx1,hx2⟩:=payAt_some hk
 obtain⟨y',hy1,hy2⟩:=incAt_some hi
 obtain⟨k2,hk2⟩:=List.getElem?_of_mem h2
 obtain⟨i2,hi2⟩:=List.getElem?_of_mem h3
 have ek:=id_inj hpw.2 hx1 hk2 hx2
 have ei:=num_inj hiw.2 hy1 hi2 hy2
 subst ek;subst ei
 rw[hx1]at hk2;cases hk2
 rw[hy1]at hi2;cases hi2
 have split:c.Matches=c.Matches.take j++(m::c.Matches.drop (j+1)):=by
  have hl:=(List.getElem?_eq_some_iff.1 hm)
  obtain⟨hl1,hl2⟩:=hl
  have e:=List.drop_eq_getElem_cons hl1
  rw[hl2]at e
  rw[←e,List.take_append_drop]
 have pos:∀z,z∈c.Matches.drop (j+1)→0<z.Amount:=fun z hz=>(h.mates z (List.mem_of_mem_drop hz)).1
 have hg:=h.got x h2
 have hc:=payB_iff.1 (hpw.1 x h2).1
 rw[split,gotS_app,←List.singleton_append,gotS_app]at hg
 have g1:gotS [m] x.ID=m.Amount:=by simp[gotS,h4]
 have g2:=gotS_nonneg _ x.ID pos
 have hil:=(gsI hy1)
 obtain⟨lo,hlo⟩:∃lo,c.Loose[i]?=some lo:=⟨_,List.getElem?_eq_getElem (by rw[h.len];exact hil)⟩
 have hu:=h.used i y lo hy1 hlo
 rw[split,usedS_app,←List.singleton_append,usedS_app]at hu
 have u1:usedS [m] y.Number=m.Amount:=by simp[usedS,h5]
 have u2:=usedS_nonneg _ y.Number pos
 refine⟨i,k,x,y,by rw[←h5];exact hi,by rw[←h4];exact hk,hx1,hy1,h4,h5,h6,h1,by omega,by omega⟩
open Go.PA
open Go.RowKit
abbrev incomesL (l:List TIncome):AV:= .list 5 (encL TIncome.cells l)
abbrev matchesL (l:List TMatch):AV:= .list 3 (encL TMatch.cells l)
theorem imm_incomes (l:List TIncome):Imm (incomesL l):=imm_encL _ TIncome.imm l
theorem imm_matches (l:List TMatch):Imm (matchesL l):=imm_encL _ TMatch.imm l
theorem cCsh (c:TCash):c.cells=[claimsL c.Claims,incomesL c.Incomes,matchesL c.Matches,.list 1 (encL encI c.Loose)]:=rfl
def prevN (l:List TIncome):Nat→Int
 |0=>0
 |k+1=>((l[k]?).map (·.Number)).getD 0
def prevD (l:List TIncome):Nat→Int
 |0=>0
 |k+1=>((l[k]?).map (·.Day)).getD 0
theorem incB_pos {x:TIncome} (h:incB x=true):0<x.Number∧0≤x.Day:=by
 simp only[incB,Bool.and_eq_true]at h
 have a1:=btw_iff.1 h.1.1.1.1
 have a2:=btw_iff.1 h.1.1.2
 omega
set_option maxHeartbeats 1000000 in
theorem cincomes_pf (l:List TIncome) (hl:l.length≤1000000):PFun Tryz.prog none none 139 [incomesL l] (·=bv (incsB 0 0 l)):=by
 refine pfun_intro Tryz.func139 rfl (by simp[Tryz.f139]) (by kernel_rfl) ?_
 intro E hP hr hs hW hN
 obtain⟨R,hR⟩:∃R,R=incsB 0 0 l:=⟨_,rfl⟩
 rw[←hR]
 simp -dsimp -implicitDefEqProofs [-getElem?_pos,go_sem,hP]
 obtain⟨I,hI⟩:∃I:Nat→St→Prop,I=fun m s=>∃k:Nat,k≤l.length∧m=l.length-k∧R=incsB (prevN l k) (prevD l k) (l.drop k)∧s.t 0=incomesL l∧s.t 5=incomesL l∧s.t 6=iv l.length∧s.t 7=iv k:=⟨_,rfl⟩
 refine aloop0 I (l.length) (by rw[hN];rfl) ?_ ?_
 ·rw[hI]
  exact⟨0,by omega,by omega,hR,by simp -dsimp[-getElem?_pos,go_sem],by simp -dsimp[-getElem?_pos,go_sem],by simp -dsimp[-getElem?_pos,go_sem],by simp -dsimp[-getElem?_pos,go_sem]⟩
 intro m s hs'
 rw[hI]at hs'
 obtain⟨k,hk,hm,hRk,t0,t5,t6,t7⟩:=hs'
 simp -dsimp -implicitDefEqProofs [-getElem?_pos,go_sem,hP,t6,t7]
 refine condP (fun h=>?_) (fun h=>?_)
 ·have hk:k<l.length:=by simpa using h
  obtain⟨x,hx⟩:∃x,l[k]?=some x:=⟨_,List.getElem?_eq_getElem hk⟩
  have wk:=wrap_in ((k:Int)+1) (by omega)
  have px:=cincome_pf x
  have ix:=imm_agg.2 (TIncome.imm x)
  rw[cIncm]at px ix
  rw[drop_atL hx,incsB]at hRk
  simp -dsimp -implicitDefEqProofs [-getElem?_pos,go_sem,hP,t5,t7,hx,cIncm]
  refine adrawB (fun _=>true) [] hP (by kernel_rfl) (by kernel_rfl) ?_
  simp -dsimp -implicitDefEqProofs [-getElem?_pos,go_sem,hP]
  refine callB_pure px hP en_164 (args_same (by simpa using ix)) .sc ?_
  cases c1:incB x
  ·rw[c1,Bool.false_and,Bool.false_and,Bool.false_and]at hRk
   simp -dsimp -implicitDefEqProofs [-getElem?_pos,go_sem,hP,hRk]
  have pos:=incB_pos c1
  rw[c1,Bool.true_and]at hRk
  have fin:∀s':St,R=incsB x.Number x.Day (l.drop (k+1))→s'.t 0=incomesL l→s'.t 5=incomesL l→s'.t 6=iv l.length→s'.t 7=iv ((k:Int)+1)→∃m',m'<l.length-k∧I m' s':=fun s' a1 a2 a3 a4 a5=>by
   refine⟨l.length-(k+1),by omega,?_⟩
   rw[hI]
   refine⟨k+1,by omega,rfl,?_,a2,a3,a4,by rw[a5];simp⟩
   rw[a1]
   simp[prevN,prevD,hx]
  subst hm
  cases k with
  |zero=>
   have d:decide ((0:Int)<x.Number)=true:=decide_eq_true (by omega)
   have d':decide ((0:Int)≤x.Day)=true:=decide_eq_true (by omega)
   rw[prevN,prevD,d,d',Bool.true_and,Bool.true_and]at hRk
   have w1:IntKind.i64.wrap 1=1:=wrap_in 1 (by omega)
   simp -dsimp -implicitDefEqProofs [-getElem?_pos,go_sem,hP,t7,w1]
   exact fin _ hRk (by simp -dsimp[-getElem?_pos,go_sem,t0]) (by simp -dsimp[-getElem?_pos,go_sem,t5]) (by simp -dsimp[-getElem?_pos,go_sem,t6]) (by simp -dsimp[-getElem?_pos,go_sem,w1])
  |succ j=>
   obtain⟨y,hy⟩:∃y,l[j]?=some y:=⟨_,List.getElem?_eq_getElem (by omega)⟩
   have wj:=wrap_in ((j:Int)+1-1) (by omega)
   rw[Int.add_sub_cancel]at wj
   have ep:prevN l (j+1)=y.Number:=by simp[prevN,hy]
   have ep2:prevD l (j+1)=y.Day:=by simp[prevD,hy]
   rw[ep,ep2]at hRk
   have d0:decide ((0:Int)<(j:Int)+1)=true:=decide_eq_true (by omega)
   have wk2:=wrap_in ((j:Int)+1+1) (by omega)
   by_cases c2:y.Number<x.Number
   ·have d:decide (x.Number≤y.Number)=false:=decide_eq_false (by omega)
    have d2:decide (y.Number<x.Number)=true:=decide_eq_true c2
    rw[d2,Bool.true_and]at hRk
    by_cases c3:y.Day≤x.Day
    ·have d3:decide (x.Day<y.Day)=false:=decide_eq_false (by omega)
     have d4:decide (y.Day≤x.Day)=true:=decide_eq_true c3
     rw[d4,Bool.true_and]at hRk
     simp -dsimp -implicitDefEqProofs [-getElem?_pos,go_sem,hP,t0,t7,d0,Int.add_sub_cancel,wj,hy,cIncm,d,d3,wk2]
     exact fin _ hRk (by simp -dsimp[-getElem?_pos,go_sem,t0]) (by simp -dsimp[-getElem?_pos,go_sem,t5]) (by simp -dsimp[-getElem?_pos,go_sem,t6]) (by simp -dsimp[-getElem?_pos,go_sem])
    ·have d3:decide (x.Day<y.Day)=true:=decide_eq_true (by omega)
     have d4:decide (y.Day≤x.Day)=false:=decide_eq_false c3
     rw[d4,Bool.false_and]at hRk
     simp -dsimp -implicitDefEqProofs [-getElem?_pos,go_sem,hP,t0,t7,d0,Int.add_sub_cancel,wj,hy,cIncm,d,d3,wk2,hRk]
   ·have d:decide (x.Number≤y.Number)=true:=decide_eq_true (by omega)
    have d2:decide (y.Number<x.Number)=false:=decide_eq_false c2
    rw[d2,Bool.false_and,Bool.false_and]at hRk
    simp -dsimp -implicitDefEqProofs [-getElem?_pos,go_sem,hP,t0,t7,d0,Int.add_sub_cancel,wj,hy,cIncm,d,wk2,hRk]
 ·have hk:k=l.length:=by simp at h;omega
  subst hk
  rw[List.drop_length,incsB]at hRk
  simp -dsimp -implicitDefEqProofs [-getElem?_pos,go_sem,hP,hRk]
open Go.PA
open Go.RowKit
def idxO:Option Nat→Int
 |none=> -1
 |some k=>k
theorem idxI_find {α:Type} (p:α→Bool) (l:List α):idxI p l=idxO (l.findIdx? p):=by
 rcases idxI_spec p l with⟨h1,h2⟩|⟨i,a,h1,h2,h3,h4⟩
 ·rw[h1,List.findIdx?_eq_none_iff.2 h2]
  rfl
 ·obtain⟨h5,h6⟩:=List.getElem?_eq_some_iff.1 h1
  rw[h3,List.findIdx?_eq_some_iff_getElem.2 ⟨h5,by rw[h6];exact h2,fun j hj=>by
   have:=h4 j _ hj (List.getElem?_eq_getElem (by omega))
   simp[this]⟩]
  rfl
theorem index_pf_clm (l:List TClaim) (g:FuncId) (caps:List AV) (p:TClaim→Bool) (hl:l.length≤1000000) (hen:enterable Tryz.prog g=true) (hcap:∀a,a∈caps→Imm a)
  (hg:∀a,a∈l→PFun Tryz.prog none none g (.agg (TClaim.cells a)::caps) (·=bv (p a))):
  PFun Tryz.prog none none 237 [.list 6 (encL TClaim.cells l),.fn g caps] (·=iv (idxI p l)):=by
 refine pfun_intro Tryz.func237 rfl (by simp[Tryz.f237]) (by kernel_rfl) ?_
 intro E hP hr hs hW hN
 simp -dsimp -implicitDefEqProofs [-getElem?_pos,go_sem,hP]
 obtain⟨I,hI⟩:∃I:Nat→St→Prop,I=fun m s=>∃k:Nat,k≤l.length∧m=l.length-k∧idxI p l=idxFrom p k (l.drop k)∧s.t 0= .list 6 (encL TClaim.cells l)∧s.t 1= .fn g caps∧s.t 7=iv l.length∧s.t 8=iv k:=⟨_,rfl⟩
 refine aloop0 I (l.length) (by rw[hN];rfl) ?_ ?_
 ·rw[hI]
  exact⟨0,by omega,by omega,by simp[idxI],by simp -dsimp[-getElem?_pos,go_sem],by simp -dsimp[-getElem?_pos,go_sem],by simp -dsimp[-getElem?_pos,go_sem],by simp -dsimp[-getElem?_pos,go_sem]⟩
 intro m s hs'
 rw[hI]at hs'
 obtain⟨k,hk,hm,hi,t0,t1,t7,t8⟩:=hs'
 simp -dsimp -implicitDefEqProofs [-getElem?_pos,go_sem,hP,t7,t8]
 refine condP (fun h=>?_) (fun h=>?_)
 ·have hk:k<l.length:=by simpa using h
  obtain⟨a,ha⟩:∃a,l[k]?=some a:=⟨_,List.getElem?_eq_getElem hk⟩
  have wk:=wrap_in ((k:Int)+1) (by omega)
  have hz:(TClaim.cells a).take 6=TClaim.cells a:=List.take_of_length_le (by rw[TClaim.len];omega)
  have hd:l.drop k=a::l.drop (k+1):=by
   rw[List.getElem?_eq_getElem hk]at ha
   rw[List.drop_eq_getElem_cons hk,Option.some.inj ha]
  simp -dsimp -implicitDefEqProofs [-getElem?_pos,go_sem,hP,t8,t1,t0,ha,TClaim.len,hz]
  refine callB_is ((hg a (List.mem_of_getElem? ha)).lift _ _) hP hen (fun x hx=>?_) .sc ?_
  ·rcases List.mem_cons.1 hx with rfl|hx
   ·exact imm_agg.2 (TClaim.imm a)
   ·exact hcap x hx
  rw[hd]at hi
  simp only[idxFrom]at hi
  simp -dsimp -implicitDefEqProofs [-getElem?_pos,go_sem,hP]
  refine condP (fun hp=>?_) (fun hp=>?_)
  ·rw[if_pos hp]at hi
   simp -dsimp -implicitDefEqProofs [-getElem?_pos,go_sem,hP]
   exact hi.symm
  ·rw[hp,if_neg (by simp)]at hi
   simp -dsimp -implicitDefEqProofs [-getElem?_pos,go_sem,hP,t8,wk]
   refine⟨l.length-(k+1),by omega,?_⟩
   rw[hI]
   exact⟨k+1,by omega,rfl,hi,by simp -dsimp[-getElem?_pos,go_sem,t0],by simp -dsimp[-getElem?_pos,go_sem,t1],by simp -dsimp[-getElem?_pos,go_sem,t7],by simp -dsimp[-getElem?_pos,go_sem]⟩
 ·have hk:k=l.length:=by simp at h;omega
  subst hk
  rw[List.drop_length]at hi
  simp -dsimp -implicitDefEqProofs [-getElem?_pos,go_sem,hP]
  exact hi.symm
theorem claimAt1_pf (x:TClaim) (id:Int):PFun Tryz.prog none none 238 [.agg x.cells,.iref [iv id]] (·=bv (decide (x.ID=id))):=by
 refine pfun_intro Tryz.func238 rfl (by simp[Tryz.f238]) (by kernel_rfl) ?_
 intro E hP hr hs hW hN
 simp -dsimp -implicitDefEqProofs [-getElem?_pos,go_sem,hP,cClm]
structure FitC (c:TCash):Prop where
 fc:c.Claims.length≤100000
 fi:c.Incomes.length≤100000
 fm:c.Matches.length≤100000
 fl:c.Loose.length≤100000
 code:∀x,x∈c.Claims→x.Code.size≤1000000
theorem claimAt_pf (c:TCash) (id:Int) (hf:FitC c):PFun Tryz.prog none none 166 [.agg c.cells,iv id] (·=iv (idxO (payAt c.Claims id))):=by
 refine pfun_intro Tryz.func166 rfl (by simp[Tryz.f166]) (by kernel_rfl) ?_
 intro E hP hr hs hW hN
 have ip:=imm_claims c.Claims
 have hl:=hf.fc
 have e:idxO (payAt c.Claims id)=idxI (fun x=>decide (x.ID=id)) c.Claims:=(idxI_find _ _).symm
 rw[e]
 simp -dsimp -implicitDefEqProofs [-getElem?_pos,go_sem,hP,cCsh]
 refine callB_pure (index_pf_clm c.Claims 238 [.iref [iv id]] (fun x=>decide (x.ID=id)) (by omega) en_238 (by simp[imm_iref,imm_sc]) fun x _=>claimAt1_pf x id) hP en_237 (args_imm ip (args_fnc (cs:=[.ref 1 0 0]) (by simp -dsimp[-getElem?_pos,go_sem,viewR_ref]) (by simp[imm_iref,imm_sc]) (args_nil.2 trivial))) .sc ?_
 simp -dsimp -implicitDefEqProofs [-getElem?_pos,go_sem,hP]
abbrev rowsI (xs:List Int):List (List AV):=encL encI xs
theorem rowsI_set (xs:List Int) (k:Nat) (v:Int):(rowsI xs).set k [iv v]=rowsI (xs.set k v):=by simp[rowsI,encL,encI]
theorem rowsI_get {xs:List Int} {k:Nat} {v:Int} (h:xs[k]?=some v):(rowsI xs)[k]?=some [iv v]:=by simp[rowsI,encL,encI,h]
theorem rowsI_len (xs:List Int):(rowsI xs).length=xs.length:=by simp[rowsI,encL]
theorem rowsI_zero (n:Nat):List.replicate n [iv 0]=rowsI (List.replicate n 0):=by simp[rowsI,encL,encI]
theorem map_done {α:Type} {l:List α} {f:α→Int} {xs:List Int} (hl:xs.length=l.length) (h:∀(j:Nat) (x:α),j<l.length→l[j]?=some x→xs[j]?=some (f x)):xs=l.map f:=by
 apply List.ext_getElem?
 intro j
 rw[List.getElem?_map]
 by_cases e:j<l.length
 ·rw[h j _ e (List.getElem?_eq_getElem e),List.getElem?_eq_getElem e]
  rfl
 ·rw[List.getElem?_eq_none (by omega),List.getElem?_eq_none (by omega)]
  rfl
open Go.PA
open Go.RowKit
def csh (l:List TIncome):TCash:=⟨[],l,[],l.map (·.Amount)⟩
def CsOk (l:List TIncome):Prop:=incsB 0 0 l=true∧l.length≤100
theorem cshX (l:List TIncome):(csh l).cells=[.list 6 [],incomesL l,.list 3 [],.list 1 (encL encI (l.map (·.Amount)))]:=rfl
theorem imm_cshL (l:List TIncome):Imm (.agg (csh l).cells):=imm_agg.2 (csh l).imm
set_option maxHeartbeats 4000000 in
set_option maxRecDepth 8000 in
theorem matchedL_pf (l:List TIncome) (hx:CsOk l):PFun Tryz.prog none none 140 [.agg (csh l).cells] (·=bv true):=by
 refine pfun_intro Tryz.func140 rfl (by simp[Tryz.f140]) (by kernel_rfl) ?_
 intro E hP hr hs hW hN
 obtain⟨hx,hfi⟩:=hx
 have iw:=((incsB_iff _ _ _).1 hx).1
 obtain⟨nI,hnI⟩:∃n,n=l.length:=⟨_,rfl⟩
 rw[←hnI]at hfi
 obtain⟨ls,hls⟩:∃ls,ls=l.map (·.Amount):=⟨_,rfl⟩
 have lls:ls.length=nI:=by rw[hls,List.length_map,hnI]
 obtain⟨O,hO⟩:∃O:AObj,O=⟨40,4,[[.list 6 [],incomesL l,.list 3 [],.list 1 (encL encI ls)]]⟩:=⟨_,rfl⟩
 obtain⟨Inv,hInv⟩:∃Inv:St→Prop,Inv=fun s=>∃a b,a≠b∧0<a∧0<b∧s.t 1= .ref 0 0 0∧s.t 3= .sref a 0 0∧s.t 4= .sref b 0 nI∧s.H[0]?=some (some O)∧s.H[b]?=some (some ⟨3,1,rowsI (List.replicate nI 0)⟩):=⟨_,rfl⟩
 simp -dsimp -implicitDefEqProofs [-getElem?_pos,go_sem,hP,cshX,←hls]
 simp only[←hO]
 refine adraw_cut Inv ?_ ?_
 ·refine adrawK (fun id=>decide (id=0)) [] [] 3 hP (by kernel_rfl) (by kernel_rfl) (by simp) ?_
  simp -dsimp -implicitDefEqProofs [-getElem?_pos,go_sem,hP,List.take_succ_cons,List.take_zero,hO,restr_get]
  refine xany_pick 4 rfl (by kernel_rfl) ?_
  simp -dsimp -implicitDefEqProofs [-getElem?_pos,go_sem,hP,hO,restr_get]
  refine xany_pick 5 rfl (by kernel_rfl) ?_
  simp -dsimp -implicitDefEqProofs [-getElem?_pos,go_sem,hP,hO,restr_get]
  refine xany_pick 6 rfl (by kernel_rfl) ?_
  simp -dsimp -implicitDefEqProofs [-getElem?_pos,go_sem,hP,hO,←hnI,restr_get]
  refine xany_two (i:=3) (j:=7) (by kernel_rfl) rfl rfl ?_ ?_
  ·simp -dsimp -implicitDefEqProofs [-getElem?_pos,go_sem,hP,rowsI_zero,restr_get]
   refine⟨agree_1,?_⟩
   refine xany_pick 8 rfl (by kernel_rfl) ?_
   simp -dsimp -implicitDefEqProofs [-getElem?_pos,go_sem,hP,restr_get]
   refine xany_one (i:=7) (by kernel_rfl) rfl ?_
   simp -dsimp -implicitDefEqProofs [-getElem?_pos,go_sem,hP,rowsI_zero,restr_get]
   refine⟨by omega,by omega,agree_1,?_⟩
   refine xany_one (i:=9) (by kernel_rfl) rfl ?_
   simp -dsimp -implicitDefEqProofs [-getElem?_pos,go_sem,hP,restr_get]
   refine xany_nil (by kernel_rfl) ?_
   rw[hInv]
   exact⟨1,2,by omega,by omega,by omega,by simp -dsimp[-getElem?_pos,go_sem],by simp -dsimp[-getElem?_pos,go_sem],by simp -dsimp[-getElem?_pos,go_sem],by simp -dsimp[-getElem?_pos,go_sem,hO],by simp -dsimp[-getElem?_pos,go_sem]⟩
  ·simp -dsimp -implicitDefEqProofs [-getElem?_pos,go_sem,hP,rowsI_zero,restr_get]
   refine⟨by omega,by omega,agree_1,?_⟩
   refine xany_one (i:=3) (by kernel_rfl) rfl ?_
   simp -dsimp -implicitDefEqProofs [-getElem?_pos,go_sem,hP,rowsI_zero,restr_get]
   refine⟨agree_1,?_⟩
   refine xany_one (i:=8) (by kernel_rfl) rfl ?_
   simp -dsimp -implicitDefEqProofs [-getElem?_pos,go_sem,hP,restr_get]
   refine xany_one (i:=9) (by kernel_rfl) rfl ?_
   simp -dsimp -implicitDefEqProofs [-getElem?_pos,go_sem,hP,restr_get]
   refine xany_nil (by kernel_rfl) ?_
   rw[hInv]
   exact⟨2,1,by omega,by omega,by omega,by simp -dsimp[-getElem?_pos,go_sem],by simp -dsimp[-getElem?_pos,go_sem],by simp -dsimp[-getElem?_pos,go_sem],by simp -dsimp[-getElem?_pos,go_sem,hO],by simp -dsimp[-getElem?_pos,go_sem]⟩
 rw[hInv]
 rintro s ⟨a,b,nab,pa,pb,t1,t3,t4,h0,hb⟩
 have lt0:=(gsI h0)
 simp -dsimp -implicitDefEqProofs [-getElem?_pos,go_sem,hP,t1,h0,lt0,hO]
 refine aloop0 (fun n s=>n=0∧s=_) 0 (by rw[hN];rfl) ⟨rfl,rfl⟩ ?_
 rintro _ _ ⟨rfl,rfl⟩
 simp -dsimp -implicitDefEqProofs [-getElem?_pos,go_sem,hP,t1,h0,lt0,hO,←hnI]
 obtain⟨I,hI⟩:∃I:Nat→St→Prop,I=fun m s=>∃(k:Nat) (xs:List Int),k≤nI∧m=nI-k∧xs.length=nI∧(∀(j:Nat) (x:TIncome),j<k→l[j]?=some x→xs[j]?=some x.Amount)∧s.t 1= .ref 0 0 0∧s.t 4= .sref b 0 nI∧s.t 40=incomesL l∧s.t 41=iv nI∧s.t 42=iv k∧s.H[0]?=some (some O)∧s.H[b]?=some (some ⟨3,1,rowsI xs⟩):=⟨_,rfl⟩
 refine aloop0 I (nI) (by rw[hN];rfl) ?_ ?_
 ·rw[hI]
  exact⟨0,List.replicate nI 0,by omega,by omega,List.length_replicate,fun j x hj=>by omega,by simp -dsimp[-getElem?_pos,go_sem,t1],by simp -dsimp[-getElem?_pos,go_sem,t4],by simp -dsimp[-getElem?_pos,go_sem],by simp -dsimp[-getElem?_pos,go_sem],by simp -dsimp[-getElem?_pos,go_sem],by simp -dsimp[-getElem?_pos,go_sem,h0,hO],by simp -dsimp[-getElem?_pos,go_sem,hb]⟩
 clear t1 t3 t4 h0 hb lt0
 intro m s hs'
 rw[hI]at hs'
 obtain⟨k,xs,hk,hm,hxl,hxs,t1,t4,t40,t41,t42,h0,hb⟩:=hs'
 have lt0:=(gsI h0)
 have ltb:=(gsI hb)
 simp -dsimp -implicitDefEqProofs [-getElem?_pos,go_sem,hP,t41,t42]
 refine condP (fun h=>?_) (fun h=>?_)
 ·have hk:k<nI:=by simpa using h
  obtain⟨x,hx⟩:∃x,l[k]?=some x:=⟨_,List.getElem?_eq_getElem (by omega)⟩
  obtain⟨v,hv⟩:∃v,xs[k]?=some v:=⟨_,List.getElem?_eq_getElem (by omega)⟩
  have wk:=wrap_in ((k:Int)+1) (by omega)
  have rv:=rowsI_get hv
  have rs:=rowsI_set xs k x.Amount
  have rl:=rowsI_len xs
  obtain⟨rw',hrw⟩:∃r,r=rowsI xs:=⟨_,rfl⟩
  rw[←hrw]at hb rv rs rl
  have nb0:¬b=0:=by omega
  simp -dsimp -implicitDefEqProofs [-getElem?_pos,go_sem,hP,t40,t42,hx,cIncm,t4,hb,ltb,rv,rl,hxl,hk,wk]
  refine⟨nI-(k+1),by omega,?_⟩
  rw[hI]
  refine⟨k+1,xs.set k x.Amount,by omega,rfl,by simp[hxl],fun j y hj hy=>?_,by simp -dsimp[-getElem?_pos,go_sem,t1],by simp -dsimp[-getElem?_pos,go_sem,t4],by simp -dsimp[-getElem?_pos,go_sem,t40],by simp -dsimp[-getElem?_pos,go_sem,t41],by simp -dsimp[-getElem?_pos,go_sem],by simp -dsimp[-getElem?_pos,go_sem,lt0,h0,nb0],by simp -dsimp[-getElem?_pos,go_sem,ltb,rs]⟩
  by_cases e:j=k
  ·subst e
   rw[hx]at hy
   cases hy
   exact List.getElem?_set_self (by omega)
  ·rw[List.getElem?_set_ne (fun h=>e h.symm)]
   exact hxs j y (by omega) hy
 have hk:nI=k:=by
  have:¬k<nI:=by simpa using h
  omega
 subst hk
 have exs:xs=ls:=by
  rw[hls]
  exact map_done (by omega) fun j x hj hx=>hxs j x (by omega) hx
 subst exs
 clear hxs hxl hI h t40 t41 t42
 have rly:=rowsI_len xs
 simp -dsimp -implicitDefEqProofs [-getElem?_pos,go_sem,hP,t1,h0,lt0,hO]
 refine aloop0 (fun n s=>n=0∧s=_) 0 (by rw[hN];rfl) ⟨rfl,rfl⟩ ?_
 rintro _ _ ⟨rfl,rfl⟩
 simp -dsimp -implicitDefEqProofs [-getElem?_pos,go_sem,hP,t1,h0,lt0,hO]
 refine aloop0 (fun n s=>n=0∧s=_) 0 (by rw[hN];rfl) ⟨rfl,rfl⟩ ?_
 rintro _ _ ⟨rfl,rfl⟩
 simp -dsimp -implicitDefEqProofs [-getElem?_pos,go_sem,hP,t1,h0,lt0,hO,lls]
 obtain⟨I,hI⟩:∃I:Nat→St→Prop,I=fun m s=>∃(k:Nat),k≤nI∧m=nI-k∧s.t 4= .sref b 0 nI∧s.t 150= .list 1 (encL encI xs)∧s.t 151=iv nI∧s.t 152=iv k∧s.H[b]?=some (some ⟨3,1,rowsI xs⟩):=⟨_,rfl⟩
 refine aloop0 I (nI) (by rw[hN];rfl) ?_ ?_
 ·rw[hI]
  exact⟨0,by omega,by omega,by simp -dsimp[-getElem?_pos,go_sem,t4],by simp -dsimp[-getElem?_pos,go_sem],by simp -dsimp[-getElem?_pos,go_sem],by simp -dsimp[-getElem?_pos,go_sem],by simp -dsimp[-getElem?_pos,go_sem,hb]⟩
 clear t1 t4 h0 hb lt0
 intro m s hs'
 rw[hI]at hs'
 obtain⟨k,hk,hm,t4,t150,t151,t152,hb⟩:=hs'
 have ltb:=(gsI hb)
 simp -dsimp -implicitDefEqProofs [-getElem?_pos,go_sem,hP,t151,t152]
 refine condP (fun h=>?_) (fun h=>?_)
 ·have hk:k<nI:=by simpa using h
  obtain⟨y,hy1⟩:∃y,l[k]?=some y:=⟨_,List.getElem?_eq_getElem (by omega)⟩
  have hlo:xs[k]?=some y.Amount:=by rw[hls];simp[hy1]
  have am:=incB_amount (iw y (List.mem_of_getElem? hy1)).1
  have rv:=rowsI_get hlo
  have wk:=wrap_in ((k:Int)+1) (by omega)
  have c1:¬y.Amount<0:=by omega
  simp -dsimp -implicitDefEqProofs [-getElem?_pos,go_sem,hP,t150,t152,hlo,encI,c1,t4,hb,ltb,rv,rly,lls,hk,wk]
  refine⟨nI-(k+1),by omega,?_⟩
  rw[hI]
  exact⟨k+1,by omega,rfl,by simp -dsimp[-getElem?_pos,go_sem,t4],by simp -dsimp[-getElem?_pos,go_sem,t150],by simp -dsimp[-getElem?_pos,go_sem,t151],by simp -dsimp[-getElem?_pos,go_sem],by simp -dsimp[-getElem?_pos,go_sem,hb]⟩
 simp -dsimp -implicitDefEqProofs [-getElem?_pos,go_sem,hP]
theorem ccheckL_pf (l:List TIncome) (hx:CsOk l):PFun Tryz.prog none none 84 [.agg (csh l).cells] (·=iv 0):=by
 refine pfun_intro Tryz.func84 rfl (by simp[Tryz.f84]) (by kernel_rfl) ?_
 intro E hP hr hs hW hN
 have ii:=imm_incomes l
 have ic:=imm_cshL l
 have mp:=matchedL_pf l hx
 rw[cshX]at ic mp
 obtain⟨h1,h2⟩:=hx
 have d2:decide ((100:Int)<(l.length:Int))=false:=decide_eq_false (by omega)
 have nc:PFun Tryz.prog none none 138 [.list 6 []] (·=bv true):=by
  refine pfun_intro Tryz.func138 rfl (by simp[Tryz.f138]) (by kernel_rfl) ?_
  intro E hP hr hs hW hN
  simp -dsimp -implicitDefEqProofs [-getElem?_pos,go_sem,hP]
  refine aloop0 (fun n s=>n=0∧s=_) 0 (by rw[hN];rfl) ⟨rfl,rfl⟩ ?_
  rintro _ _ ⟨rfl,rfl⟩
  simp -dsimp -implicitDefEqProofs [-getElem?_pos,go_sem,hP]
 simp -dsimp -implicitDefEqProofs [-getElem?_pos,go_sem,hP,cshX,d2]
 refine callB_pure nc hP en_138 (args_same (by simp -dsimp[-getElem?_pos,go_sem])) .sc ?_
 simp -dsimp -implicitDefEqProofs [-getElem?_pos,go_sem,hP]
 refine callB_pure (cincomes_pf l (by omega)) hP en_139 (args_same (by simpa using ii)) .sc ?_
 simp -dsimp -implicitDefEqProofs [-getElem?_pos,go_sem,hP,h1,encL_len,List.length_map]
 refine callB_pure mp hP en_140 (args_same (by simpa using ic)) .sc ?_
 simp -dsimp -implicitDefEqProofs [-getElem?_pos,go_sem,hP]
open Go.PA
open Go.RowKit
open Go.PA
open Go.RowKit
structure Fall (c d:TCash):Prop where
 inc:d.Incomes=c.Incomes
 cl:∀(k:Nat) (x:TClaim),c.Claims[k]?=some x→∃n:Int,n≤x.Open∧(0≤x.Open→0≤n)∧d.Claims[k]?=some {x with Open:=n}
 cn:d.Claims.length=c.Claims.length
 lo:∀(i:Nat) (l:Int),c.Loose[i]?=some l→∃n:Int,n≤l∧(0≤l→0≤n)∧d.Loose[i]?=some n
 ln:d.Loose.length=c.Loose.length
theorem Fall.refl (c:TCash):Fall c c:=⟨rfl,fun k x h=>⟨x.Open,Int.le_refl _,fun h=>h,h⟩,rfl,fun i l h=>⟨l,Int.le_refl _,fun h=>h,h⟩,rfl⟩
theorem Fall.trans {a b c:TCash} (h:Fall a b) (g:Fall b c):Fall a c:=by
 refine⟨g.inc.trans h.inc,fun k x hx=>?_,g.cn.trans h.cn,fun i l hl=>?_,g.ln.trans h.ln⟩
 ·obtain⟨n,h1,h2,h3⟩:=h.cl k x hx
  obtain⟨n',h4,h5,h6⟩:=g.cl k _ h3
  exact⟨n',by simp only at h4;omega,by simp only at h5;omega,h6⟩
 ·obtain⟨n,h1,h2,h3⟩:=h.lo i l hl
  obtain⟨n',h4,h5,h6⟩:=g.lo i _ h3
  exact⟨n',by omega,by omega,h6⟩
def Pos (c:TCash):Prop:=(∀x,x∈c.Claims→0≤x.Open)∧∀l,l∈c.Loose→0≤l
theorem Fall.pos {c d:TCash} (h:Fall c d) (hp:Pos c):Pos d:=by
 refine⟨fun x hx=>?_,fun l hl=>?_⟩
 ·obtain⟨k,hk⟩:=List.getElem?_of_mem hx
  have lt:=(gsI hk)
  rw[h.cn]at lt
  obtain⟨n,_,h2,h3⟩:=h.cl k _ (List.getElem?_eq_getElem lt)
  rw[hk]at h3
  cases h3
  exact h2 (hp.1 _ (List.getElem_mem lt))
 ·obtain⟨k,hk⟩:=List.getElem?_of_mem hl
  have lt:=(gsI hk)
  rw[h.ln]at lt
  obtain⟨n,_,h2,h3⟩:=h.lo k _ (List.getElem?_eq_getElem lt)
  rw[hk]at h3
  cases h3
  exact h2 (hp.2 _ (List.getElem_mem lt))
theorem CashOk.pos {c:TCash} (h:CashOk c):Pos c:=by
 refine⟨fun x hx=>(payB_iff.1 (h.pays.1 x hx)).2.2.2.1.1,fun l hl=>?_⟩
 obtain⟨i,hi⟩:=List.getElem?_of_mem hl
 have lt:=(gsI hi)
 rw[h.len]at lt
 exact (h.used i _ l (List.getElem?_eq_getElem lt) hi).1
theorem Fall.payer {c d:TCash} (h:Fall c d) (k:Nat):(d.Claims[k]?).map (·.Payer)=(c.Claims[k]?).map (·.Payer):=by
 cases hk:c.Claims[k]? with
 |none=>
  rw[List.getElem?_eq_none (by rw[h.cn];exact List.getElem?_eq_none_iff.1 hk)]
 |some x=>
  obtain⟨n,_,_,h3⟩:=h.cl k x hk
  rw[h3]
  rfl
def pot (c:TCash):Nat:=c.Matches.length+c.Claims.countP (fun x=>decide (0<x.Open))+c.Loose.countP (fun l=>decide (0<l))
def start (c:TCash) (x:TIncome):TCash:={c with Incomes:=c.Incomes++[x],Loose:=c.Loose++[x.Amount]}
theorem cashE_ok {c:TCash}:cashE c=0↔(c.Claims.length≤60∧c.Incomes.length≤100∧c.Matches.length≤160)∧CashOk c:=by
 unfold cashE
 by_cases h1:c.Claims.length≤60∧c.Incomes.length≤100∧c.Matches.length≤160
 ·rw[if_pos h1]
  cases h2:paysB 0 c.Claims
  ·simp only[Bool.false_eq_true,if_false]
   constructor
   ·intro h;omega
   ·rintro⟨_,h⟩
    have:paysB 0 c.Claims=true:=(paysB_iff _ _).2 ⟨fun x hx=>⟨h.pays.1 x hx,by have:=payB_iff.1 (h.pays.1 x hx);omega⟩,h.pays.2⟩
    rw[this]at h2
    cases h2
  ·simp only[if_true]
   cases h3:incsB 0 0 c.Incomes&&booksB c
   ·simp only[Bool.false_eq_true,if_false]
    constructor
    ·intro h;omega
    ·rintro⟨_,h⟩
     have e1:incsB 0 0 c.Incomes=true:=(incsB_iff _ _ _).2 ⟨fun x hx=>by
      have hb:=h.incs.1 x hx
      refine⟨hb,?_⟩
      simp only[incB,Bool.and_eq_true]at hb
      have a1:=btw_iff.1 hb.1.1.1.1
      have a2:=btw_iff.1 hb.1.1.2
      omega,h.incs.2⟩
     have e2:booksB c=true:=(booksB_iff c).2 ⟨h.len,h.mates,h.got,h.used⟩
     rw[e1,e2]at h3
     cases h3
   ·simp only[if_true,true_iff]
    rw[Bool.and_eq_true]at h3
    have p:=(paysB_iff _ _).1 h2
    have q:=(incsB_iff _ _ _).1 h3.1
    have b:=(booksB_iff c).1 h3.2
    exact⟨h1,⟨fun x hx=>(p.1 x hx).1,p.2⟩,⟨fun x hx=>(q.1 x hx).1,q.2⟩,b.len,b.mates,b.got,b.used⟩
 ·rw[if_neg h1]
  constructor
  ·intro h;omega
  ·rintro⟨h,_⟩;exact absurd h h1
open Go.PA
open Go.RowKit
def Own (n0:Nat) (H:Heap) (x:AV) (ty:TypeId) (k:Nat) (es:List (List AV)):Prop:=∃id,n0≤id∧x= .sref id 0 es.length∧H[id]?=some (some ⟨ty,k,es⟩)
structure HC (n0:Nat) (H:Heap) (p:Nat) (c:TCash) (A B D F:AV):Prop where
 len:n0≤H.length
 obj:H[p]?=some (some ⟨40,4,[[A,B,D,F]]⟩)
 a:Own n0 H A 145 6 (encL TClaim.cells c.Claims)
 b:Own n0 H B 79 5 (encL TIncome.cells c.Incomes)
 d:Own n0 H D 149 3 (encL TMatch.cells c.Matches)
 f:Own n0 H F 3 1 (rowsI c.Loose)
def KeptC (n0 p:Nat) (H H':Heap):Prop:=∀j o,j<n0→¬j=p→H[j]?=some (some o)→H'[j]?=some (some o)
theorem KeptC.trans {n0 p:Nat} {H H' H'':Heap} (h:KeptC n0 p H H') (k:KeptC n0 p H' H''):KeptC n0 p H H'':=fun j o hj hp ho=>k j o hj hp (h j o hj hp ho)
theorem KeptC.refl (n0 p:Nat) (H:Heap):KeptC n0 p H H:=fun _ _ _ _ h=>h
theorem KeptC.set {n0 p:Nat} {H H':Heap} {i:Nat} {x:Option AObj} (h:KeptC n0 p H H') (hi:n0≤i∨i=p):KeptC n0 p H (H'.set i x):=fun j o hj hp ho=>by
 have e:¬i=j:=by rcases hi with hi|hi<;>omega
 rw[List.getElem?_set_ne e]
 exact h j o hj hp ho
theorem Grown.own {n:Nat} {H:Heap} {x:AV} {ty:TypeId} {k:Nat} {es:List (List AV)} (h:Grown n H x ty k es) (hne:0<es.length):∃id,n≤id∧x= .sref id 0 es.length∧H[id]?=some (some ⟨ty,k,es⟩):=by
 rcases h with⟨_,rfl⟩|h
 ·simp at hne
 ·exact h
theorem obj_ne {H:Heap} {i j:Nat} {o o':AObj} (hi:H[i]?=some (some o)) (hj:H[j]?=some (some o')) (h:¬o.ty=o'.ty):¬i=j:=fun e=>by
 subst e
 rw[hi]at hj
 cases hj
 exact h rfl
theorem Grown.set {n0:Nat} {H:Heap} {x:AV} {ty:TypeId} {k:Nat} {es:List (List AV)} {i:Nat} {o:AObj} {o':Option AObj} (h:Grown n0 H x ty k es) (hi:H[i]?=some (some o)) (ht:¬o.ty=ty):Grown n0 (H.set i o') x ty k es:=by
 rcases h with h|⟨id,h1,h2,h3⟩
 ·exact .inl h
 ·refine .inr ⟨id,h1,h2,?_⟩
  rw[List.getElem?_set_ne (obj_ne hi h3 ht)]
  exact h3
open Go.PA
open Go.RowKit
def isS (x:AV) (j:Nat):Prop:=∃n,x= .sref j 0 n
def KeptS (p:Nat) (A D F:AV) (H H':Heap):Prop:=∀j o,¬j=p→¬isS A j→¬isS D j→¬isS F j→H[j]?=some (some o)→H'[j]?=some (some o)
theorem KeptS.refl (p:Nat) (A D F:AV) (H:Heap):KeptS p A D F H H:=fun _ _ _ _ _ _ h=>h
theorem KeptS.set {p:Nat} {A D F:AV} {H H':Heap} {i:Nat} {x:Option AObj} (h:KeptS p A D F H H') (hi:i=p∨isS A i∨isS D i∨isS F i):KeptS p A D F H (H'.set i x):=fun j o h1 h2 h3 h4 ho=>by
 have e:¬i=j:=fun e=>by
  subst e
  rcases hi with hi|hi|hi|hi
  ·exact h1 hi
  ·exact h2 hi
  ·exact h3 hi
  ·exact h4 hi
 rw[List.getElem?_set_ne e]
 exact h j o h1 h2 h3 h4 ho
open Go.PA
open Go.RowKit
section
variable {α:Type} (val:α→Int) (lt:α→α→Bool) (g:FuncId) (cap:AV)
end
open Go.PA
open Go.RowKit
open Go.PA
open Go.RowKit
structure Clm (H:Heap) (q p a:Nat) (l:List TClaim):Prop where
 q:H[q]?=some (some ⟨142,1,[[.ref p 0 0]]⟩)
 p:∃B D F,H[p]?=some (some ⟨40,4,[[.sref a 0 l.length,B,D,F]]⟩)
 a:H[a]?=some (some ⟨145,6,encL TClaim.cells l⟩)
theorem Clm.set {H:Heap} {q p a:Nat} {l:List TClaim} (h:Clm H q p a l) {id:Nat} {es:List (List AV)} (hid:H[id]?=some (some ⟨3,1,es⟩)) (o:Option AObj):Clm (H.set id o) q p a l:=by
 obtain⟨B,D,F,hp⟩:=h.p
 exact⟨by rw[List.getElem?_set_ne (obj_ne hid h.q (by simp))];exact h.q,⟨B,D,F,by rw[List.getElem?_set_ne (obj_ne hid hp (by simp))];exact hp⟩,by rw[List.getElem?_set_ne (obj_ne hid h.a (by simp))];exact h.a⟩
open Go.PA
open Go.RowKit
theorem clone_m_clm {row src:Option Nat} (l:List TClaim) (H:Heap) (hl:l.length≤1000000):MFun Tryz.prog row src 66 [.list 6 (encL TClaim.cells l)] H (fun r H'=>∃id,r= .sref id 0 l.length∧H.length≤id∧H'[id]?=some (some ⟨145,6,encL TClaim.cells l⟩)∧Kept [] H H'):=by
 have own:MFun Tryz.prog row src 66 [.list 6 (encL TClaim.cells l)] H (fun r H'=>(r= .nil∧l=[]∧H'=H)∨∃id,r= .sref id 0 l.length∧H.length≤id∧H'[id]?=some (some ⟨145,6,encL TClaim.cells l⟩)∧Kept [] H H'):=by
  cases l with
  |nil=>
   refine mfun_list_nil fun A c=>?_
   refine mfun_intro Tryz.func66 rfl (by simp[Tryz.f66]) (by kernel_rfl) ⟨.nil,H,.inl ⟨rfl,rfl,rfl⟩⟩ ?_
   intro E hP hr hs hN
   cases A with
   |none=>simp -dsimp -implicitDefEqProofs [-getElem?_pos,go_sem,hP]
   |some a=>
    simp -dsimp -implicitDefEqProofs [-getElem?_pos,go_sem,hP]
    exact kept_app _ _ _
  |cons a l=>
   refine mfun_intro Tryz.func66 rfl (by simp[Tryz.f66]) (by kernel_rfl) ⟨_,H++[some ⟨145,6,encL TClaim.cells (a::l)⟩],.inr ⟨H.length,rfl,Nat.le_refl _,by simp,kept_push _ (kept_refl _ _)⟩⟩ ?_
   intro E hP hr hs hN
   simp only[List.length_cons]at hl
   have e:encL TClaim.cells (a::l)=TClaim.cells a::encL TClaim.cells l:=rfl
   simp -dsimp -implicitDefEqProofs [-getElem?_pos,go_sem,hP,e]
   refine⟨by omega,by omega,?_⟩
   exact kept_app _ _ _
 refine (own.ownNil 145 6).mono ?_
 rintro r H' (⟨H0,h0,rfl,rfl⟩|⟨hne,h⟩)
 ·rcases h0 with⟨_,rfl,rfl⟩|⟨id,h,_⟩
  ·exact⟨_,rfl,Nat.le_refl _,by simp[encL],kept_push _ (kept_refl _ _)⟩
  ·cases h
 ·rcases h with⟨h,_⟩|h
  ·exact absurd h hne
  ·exact h
theorem clone_m_inc {row src:Option Nat} (l:List TIncome) (H:Heap) (hl:l.length≤1000000):MFun Tryz.prog row src 67 [.list 5 (encL TIncome.cells l)] H (fun r H'=>∃id,r= .sref id 0 l.length∧H.length≤id∧H'[id]?=some (some ⟨79,5,encL TIncome.cells l⟩)∧Kept [] H H'):=by
 have own:MFun Tryz.prog row src 67 [.list 5 (encL TIncome.cells l)] H (fun r H'=>(r= .nil∧l=[]∧H'=H)∨∃id,r= .sref id 0 l.length∧H.length≤id∧H'[id]?=some (some ⟨79,5,encL TIncome.cells l⟩)∧Kept [] H H'):=by
  cases l with
  |nil=>
   refine mfun_list_nil fun A c=>?_
   refine mfun_intro Tryz.func67 rfl (by simp[Tryz.f67]) (by kernel_rfl) ⟨.nil,H,.inl ⟨rfl,rfl,rfl⟩⟩ ?_
   intro E hP hr hs hN
   cases A with
   |none=>simp -dsimp -implicitDefEqProofs [-getElem?_pos,go_sem,hP]
   |some a=>
    simp -dsimp -implicitDefEqProofs [-getElem?_pos,go_sem,hP]
    exact kept_app _ _ _
  |cons a l=>
   refine mfun_intro Tryz.func67 rfl (by simp[Tryz.f67]) (by kernel_rfl) ⟨_,H++[some ⟨79,5,encL TIncome.cells (a::l)⟩],.inr ⟨H.length,rfl,Nat.le_refl _,by simp,kept_push _ (kept_refl _ _)⟩⟩ ?_
   intro E hP hr hs hN
   simp only[List.length_cons]at hl
   have e:encL TIncome.cells (a::l)=TIncome.cells a::encL TIncome.cells l:=rfl
   simp -dsimp -implicitDefEqProofs [-getElem?_pos,go_sem,hP,e]
   refine⟨by omega,by omega,?_⟩
   exact kept_app _ _ _
 refine (own.ownNil 79 5).mono ?_
 rintro r H' (⟨H0,h0,rfl,rfl⟩|⟨hne,h⟩)
 ·rcases h0 with⟨_,rfl,rfl⟩|⟨id,h,_⟩
  ·exact⟨_,rfl,Nat.le_refl _,by simp[encL],kept_push _ (kept_refl _ _)⟩
  ·cases h
 ·rcases h with⟨h,_⟩|h
  ·exact absurd h hne
  ·exact h
theorem clone_m_mtc {row src:Option Nat} (l:List TMatch) (H:Heap) (hl:l.length≤1000000):MFun Tryz.prog row src 68 [.list 3 (encL TMatch.cells l)] H (fun r H'=>∃id,r= .sref id 0 l.length∧H.length≤id∧H'[id]?=some (some ⟨149,3,encL TMatch.cells l⟩)∧Kept [] H H'):=by
 have own:MFun Tryz.prog row src 68 [.list 3 (encL TMatch.cells l)] H (fun r H'=>(r= .nil∧l=[]∧H'=H)∨∃id,r= .sref id 0 l.length∧H.length≤id∧H'[id]?=some (some ⟨149,3,encL TMatch.cells l⟩)∧Kept [] H H'):=by
  cases l with
  |nil=>
   refine mfun_list_nil fun A c=>?_
   refine mfun_intro Tryz.func68 rfl (by simp[Tryz.f68]) (by kernel_rfl) ⟨.nil,H,.inl ⟨rfl,rfl,rfl⟩⟩ ?_
   intro E hP hr hs hN
   cases A with
   |none=>simp -dsimp -implicitDefEqProofs [-getElem?_pos,go_sem,hP]
   |some a=>
    simp -dsimp -implicitDefEqProofs [-getElem?_pos,go_sem,hP]
    exact kept_app _ _ _
  |cons a l=>
   refine mfun_intro Tryz.func68 rfl (by simp[Tryz.f68]) (by kernel_rfl) ⟨_,H++[some ⟨149,3,encL TMatch.cells (a::l)⟩],.inr ⟨H.length,rfl,Nat.le_refl _,by simp,kept_push _ (kept_refl _ _)⟩⟩ ?_
   intro E hP hr hs hN
   simp only[List.length_cons]at hl
   have e:encL TMatch.cells (a::l)=TMatch.cells a::encL TMatch.cells l:=rfl
   simp -dsimp -implicitDefEqProofs [-getElem?_pos,go_sem,hP,e]
   refine⟨by omega,by omega,?_⟩
   exact kept_app _ _ _
 refine (own.ownNil 149 3).mono ?_
 rintro r H' (⟨H0,h0,rfl,rfl⟩|⟨hne,h⟩)
 ·rcases h0 with⟨_,rfl,rfl⟩|⟨id,h,_⟩
  ·exact⟨_,rfl,Nat.le_refl _,by simp[encL],kept_push _ (kept_refl _ _)⟩
  ·cases h
 ·rcases h with⟨h,_⟩|h
  ·exact absurd h hne
  ·exact h
theorem clone_m_int {row src:Option Nat} (l:List Int) (H:Heap) (hl:l.length≤1000000):MFun Tryz.prog row src 64 [.list 1 (encL encI l)] H (fun r H'=>∃id,r= .sref id 0 l.length∧H.length≤id∧H'[id]?=some (some ⟨3,1,encL encI l⟩)∧Kept [] H H'):=by
 have own:MFun Tryz.prog row src 64 [.list 1 (encL encI l)] H (fun r H'=>(r= .nil∧l=[]∧H'=H)∨∃id,r= .sref id 0 l.length∧H.length≤id∧H'[id]?=some (some ⟨3,1,encL encI l⟩)∧Kept [] H H'):=by
  cases l with
  |nil=>
   refine mfun_list_nil fun A c=>?_
   refine mfun_intro Tryz.func64 rfl (by simp[Tryz.f64]) (by kernel_rfl) ⟨.nil,H,.inl ⟨rfl,rfl,rfl⟩⟩ ?_
   intro E hP hr hs hN
   cases A with
   |none=>simp -dsimp -implicitDefEqProofs [-getElem?_pos,go_sem,hP]
   |some a=>
    simp -dsimp -implicitDefEqProofs [-getElem?_pos,go_sem,hP]
    exact kept_app _ _ _
  |cons a l=>
   refine mfun_intro Tryz.func64 rfl (by simp[Tryz.f64]) (by kernel_rfl) ⟨_,H++[some ⟨3,1,encL encI (a::l)⟩],.inr ⟨H.length,rfl,Nat.le_refl _,by simp,kept_push _ (kept_refl _ _)⟩⟩ ?_
   intro E hP hr hs hN
   simp only[List.length_cons]at hl
   have e:encL encI (a::l)=encI a::encL encI l:=rfl
   simp -dsimp -implicitDefEqProofs [-getElem?_pos,go_sem,hP,e]
   refine⟨by omega,by omega,?_⟩
   exact kept_app _ _ _
 refine (own.ownNil 3 1).mono ?_
 rintro r H' (⟨H0,h0,rfl,rfl⟩|⟨hne,h⟩)
 ·rcases h0 with⟨_,rfl,rfl⟩|⟨id,h,_⟩
  ·exact⟨_,rfl,Nat.le_refl _,by simp[encL],kept_push _ (kept_refl _ _)⟩
  ·cases h
 ·rcases h with⟨h,_⟩|h
  ·exact absurd h hne
  ·exact h
set_option maxHeartbeats 4000000 in
theorem copied_c {row src:Option Nat} (c:TCash) (H:Heap) (hf:FitC c):
  MFun Tryz.prog row src 165 [.agg c.cells] H (fun r H'=>∃p A B D F,r= .ref p 0 0∧H.length≤p∧HC H.length H' p c A B D F∧Kept [] H H'):=by
 obtain⟨C,hC⟩:∃C:AV→Heap→Prop,C=fun r H'=>∃p A B D F,r= .ref p 0 0∧H.length≤p∧HC H.length H' p c A B D F∧Kept [] H H':=⟨_,rfl⟩
 rw[←hC]
 have ex:∃r H',C r H':=by
  obtain⟨H1,hH1⟩:∃H1:Heap,H1=H++[some ⟨40,4,[[.sref (H.length+1) 0 c.Claims.length,.sref (H.length+2) 0 c.Incomes.length,.sref (H.length+3) 0 c.Matches.length,.sref (H.length+4) 0 c.Loose.length]]⟩,some ⟨145,6,encL TClaim.cells c.Claims⟩,some ⟨79,5,encL TIncome.cells c.Incomes⟩,some ⟨149,3,encL TMatch.cells c.Matches⟩,some ⟨3,1,rowsI c.Loose⟩]:=⟨_,rfl⟩
  rw[hC]
  refine⟨_,H1,H.length,_,_,_,_,rfl,Nat.le_refl _,⟨by rw[hH1];simp,by rw[hH1];simp;exact⟨rfl,rfl,rfl,rfl⟩,⟨H.length+1,by omega,by rw[encL_len],?_⟩,⟨H.length+2,by omega,by rw[encL_len],?_⟩,⟨H.length+3,by omega,by rw[encL_len],?_⟩,⟨H.length+4,by omega,by rw[rowsI_len],?_⟩⟩,by rw[hH1];exact kept_app _ _ _⟩
  all_goals
   rw[hH1,List.getElem?_append_right (by omega)]
   simp
 have i1:=imm_claims c.Claims
 have i2:=imm_incomes c.Incomes
 have i3:=imm_matches c.Matches
 have i4:Imm (.list 1 (encL encI c.Loose)):=c.imm _ (by simp[cCsh])
 have f1:=hf.fc
 have f2:=hf.fi
 have f3:=hf.fm
 have f4:=hf.fl
 refine mfun_intro Tryz.func165 rfl (by simp[Tryz.f165]) (by kernel_rfl) (ex) ?_
 intro E hP hr hs hN
 simp -dsimp -implicitDefEqProofs [-getElem?_pos,go_sem,hP,cCsh]
 obtain⟨O,hO⟩:∃O:AObj,O=⟨40,4,[[claimsL c.Claims,incomesL c.Incomes,matchesL c.Matches,.list 1 (encL encI c.Loose)]]⟩:=⟨_,rfl⟩
 obtain⟨H0,hH0⟩:∃H0:Heap,H0=H++[some O]:=⟨_,rfl⟩
 have l0:H0.length=H.length+1:=by rw[hH0];simp
 have a0:H0[H.length]?=some (some O):=by rw[hH0];simp
 have k0:Kept [] H H0:=by rw[hH0];exact kept_app _ _ _
 simp only[←hO,←hH0]
 have ag:∀{X X':Heap},Kept [] X X'→X[H.length]?=some (some O)→Agree (fun i=>decide (i=H.length)) X X':=fun hk e0=>agree_live hk fun i hi=>by
  simp only[decide_eq_true_eq]at hi
  subst hi
  exact⟨by simp,_,e0⟩
 refine adrawB (fun i=>decide (i=H.length)) [] hP (by kernel_rfl) (by kernel_rfl) ?_
 simp -dsimp -implicitDefEqProofs [-getElem?_pos,go_sem,hP,restr_get,a0,hO]
 refine callB_m (by rw[hr,hs];exact clone_m_clm c.Claims H0 (by omega)) hP en_66 ?_
 rintro r H1 ⟨id1,rfl,hid1,ho1,hk1⟩
 have a1:=hk1 _ _ (by simp) a0
 have lt1:=(gsI ho1)
 simp -dsimp -implicitDefEqProofs [-getElem?_pos,go_sem,hP]
 refine⟨ag hk1 a0,?_⟩
 simp -dsimp -implicitDefEqProofs [-getElem?_pos,go_sem,hP,restr_get,a1,hO]
 refine callB_m (by rw[hr,hs];exact clone_m_inc c.Incomes H1 (by omega)) hP en_67 ?_
 rintro r H2 ⟨id2,rfl,hid2,ho2,hk2⟩
 have a2:=hk2 _ _ (by simp) a1
 have b1:=hk2 _ _ (by simp) ho1
 have lt2:=(gsI ho2)
 simp -dsimp -implicitDefEqProofs [-getElem?_pos,go_sem,hP]
 refine⟨ag hk2 a1,?_⟩
 simp -dsimp -implicitDefEqProofs [-getElem?_pos,go_sem,hP,restr_get,a2,hO]
 refine callB_m (by rw[hr,hs];exact clone_m_mtc c.Matches H2 (by omega)) hP en_68 ?_
 rintro r H3 ⟨id3,rfl,hid3,ho3,hk3⟩
 have a3:=hk3 _ _ (by simp) a2
 have b2:=hk3 _ _ (by simp) b1
 have c2:=hk3 _ _ (by simp) ho2
 have lt3:=(gsI ho3)
 simp -dsimp -implicitDefEqProofs [-getElem?_pos,go_sem,hP]
 refine⟨ag hk3 a2,?_⟩
 simp -dsimp -implicitDefEqProofs [-getElem?_pos,go_sem,hP,restr_get,a3,hO]
 refine callB_m (by rw[hr,hs];exact clone_m_int c.Loose H3 (by omega)) hP en_64 ?_
 rintro r H4 ⟨id4,rfl,hid4,ho4,hk4⟩
 have a4:=hk4 _ _ (by simp) a3
 have b3:=hk4 _ _ (by simp) b2
 have c3:=hk4 _ _ (by simp) c2
 have d3:=hk4 _ _ (by simp) ho3
 have lt4:=(gsI ho4)
 have la:=(gsI a4)
 simp -dsimp -implicitDefEqProofs [-getElem?_pos,go_sem,hP]
 refine⟨ag hk4 a3,ag (kept_app _ _ _) a4,?_⟩
 rw[hC]
 refine⟨H4.length,_,_,_,_,rfl,by omega,⟨by simp;omega,by simp;exact⟨rfl,rfl,rfl,rfl⟩,⟨id1,by omega,by rw[encL_len],?_⟩,⟨id2,?_,by rw[encL_len],?_⟩,⟨id3,?_,by rw[encL_len],?_⟩,⟨id4,?_,by rw[rowsI_len],?_⟩⟩,?_⟩
 ·rw[List.getElem?_append_left (gsI b3)];exact b3
 ·have:=(gsI a1);omega
 ·rw[List.getElem?_append_left (gsI c3)];exact c3
 ·have:=(gsI a2);omega
 ·rw[List.getElem?_append_left (gsI d3)];exact d3
 ·have:=(gsI a3);omega
 ·rw[List.getElem?_append_left lt4];exact ho4
 ·exact (((k0.trans hk1).trans hk2).trans hk3).trans hk4 |>.trans (kept_app _ _ _)
def zeroLC (d:TCash) (i:Nat):Prop:=d.Loose[i]?=some 0
theorem Fall.zeroL {c d:TCash} (h:Fall c d) {i:Nat} (hz:zeroLC c i):zeroLC d i:=by
 obtain⟨n,h1,h2,h3⟩:=h.lo i 0 hz
 have:=h2 (Int.le_refl _)
 rw[Go.Proofs.YtaenimpfelpafaaGreatDoor.zeroLC,h3]
 congr 1
 omega
theorem Fall.back {c d:TCash} (h:Fall c d) {k:Nat} {z:TClaim} (hz:d.Claims[k]?=some z):∃x,c.Claims[k]?=some x∧z.Open≤x.Open∧(0≤x.Open→0≤z.Open)∧z={x with Open:=z.Open}:=by
 have lt:=(gsI hz)
 rw[h.cn]at lt
 obtain⟨n,h1,h2,h3⟩:=h.cl k _ (List.getElem?_eq_getElem lt)
 rw[hz]at h3
 cases h3
 exact⟨_,List.getElem?_eq_getElem lt,h1,h2,rfl⟩
open Go.PA
open Go.RowKit
theorem imm_tripC {a b c:AV} (ha:Imm a) (hb:Imm b) (hc:Imm c):Imm (.tup [a,b,c]):=by
 refine .tup fun x hx=>?_
 simp only[List.mem_cons,List.not_mem_nil,or_false]at hx
 rcases hx with rfl|rfl|rfl<;>assumption
theorem weak_tup3C {a b c a' b' c':AV} (ha:Weak a a') (hb:Weak b b') (hc:Weak c c'):Weak (.tup [a,b,c]) (.tup [a',b',c']):=by
 refine .tup rfl fun i x y hx hy=>?_
 match i,hx,hy with
 |0,hx,hy=>simp at hx hy;subst hx;subst hy;exact ha
 |1,hx,hy=>simp at hx hy;subst hx;subst hy;exact hb
 |2,hx,hy=>simp at hx hy;subst hx;subst hy;exact hc
 |i+3,hx,hy=>simp at hx
theorem cw_noCash {H:Heap}:CW H [.nil,.nil,.nil,.nil] noCash.cells:=cw_nil (cw_nil (cw_nil (cw_nil .nil)))
theorem done_noCash3 {H:Heap} {n:Int} {Q:AV→Prop} {b:Bx Q} (h:Q (.tup [.agg noCash.cells,matchesL [],iv n])):Done H (.tup [.agg [.nil,.nil,.nil,.nil],.nil,iv n]) Q b:=
 done_weak (imm_tripC (cw_noCash (H:=H)).imm .nil .sc) (imm_tripC (cw_noCash (H:=H)).imm' (imm_matches []) .sc) (weak_tup3C cw_noCash.weak (.nil 3) (.refl _)) h
theorem agree_gen {D:Nat→Bool} {X X' l l':Heap} (hl:X.length=X'.length) (h:∀i,D i=true→i<X.length∧X'[i]?=X[i]?):Agree D (X++l) (X'++l'):=fun i hi=>by
 obtain⟨h1,h2⟩:=h i hi
 rw[List.getElem?_append_left h1,List.getElem?_append_left (by omega),h2]
theorem agree_gen0 {D:Nat→Bool} {X X' l':Heap} (hl:X.length=X'.length) (h:∀i,D i=true→i<X.length∧X'[i]?=X[i]?):Agree D X (X'++l'):=fun i hi=>by
 obtain⟨h1,h2⟩:=h i hi
 rw[List.getElem?_append_left (by omega),h2]
theorem clone_pf_mtc (l:List TMatch) (hl:l.length≤1000000):PFun Tryz.prog none none 68 [.list 3 (encL TMatch.cells l)] (·= .list 3 (encL TMatch.cells l)):=by
 cases l with
 |nil=>
  refine pfun_list_nil fun A c=>?_
  refine pfun_intro Tryz.func68 rfl (by simp[Tryz.f68]) (by kernel_rfl) ?_
  intro E hP hr hs hW hN
  cases A with
  |none=>
   simp -dsimp -implicitDefEqProofs [-getElem?_pos,go_sem,hP]
   exact done_weak .nil (imm_list.2 (by simp)) (.nil _) rfl
  |some a=>
   simp -dsimp -implicitDefEqProofs [-getElem?_pos,go_sem,hP]
   refine done_weak (x:= .list 3 []) ?_ (imm_list.2 (by simp)) ?_ rfl
   ·simp -dsimp -implicitDefEqProofs [-getElem?_pos,go_sem]
   ·simp -dsimp -implicitDefEqProofs [-getElem?_pos,go_sem]
    first|exact .refl _|skip
 |cons a l=>
  refine pfun_intro Tryz.func68 rfl (by simp[Tryz.f68]) (by kernel_rfl) ?_
  intro E hP hr hs hW hN
  simp only[List.length_cons]at hl
  have e:encL TMatch.cells (a::l)=TMatch.cells a::encL TMatch.cells l:=rfl
  have im:Imm (.list 3 (TMatch.cells a::encL TMatch.cells l)):=by rw[←e];exact imm_encL _ TMatch.imm _
  have et:(TMatch.cells a::encL TMatch.cells l).take (l.length+1)=TMatch.cells a::encL TMatch.cells l:=by
   rw[←e]
   exact encL_take TMatch.cells (a::l) _ (by simp)
  simp -dsimp -implicitDefEqProofs [-getElem?_pos,go_sem,hP,e]
  refine⟨by omega,by omega,?_⟩
  refine done_weak (x:= .list 3 (TMatch.cells a::encL TMatch.cells l)) ?_ im ?_ rfl
  ·simp -dsimp -implicitDefEqProofs [-getElem?_pos,go_sem]
   first|exact im|(have h:=imm_list.1 im;simp only[List.mem_cons,forall_eq_or_imp]at h;exact h)
  ·simp -dsimp -implicitDefEqProofs [-getElem?_pos,go_sem]
   first|exact .refl _|skip
theorem done_cash3 {H:Heap} {cs cs':List AV} {l:AV} {v:Value} {Q:AV→Prop} {b:Bx Q} (h:CW H cs cs') (hi:Imm l) (hq:Q (.tup [.agg cs',l,.sc v])):Done H (.tup [.agg cs,l,.sc v]) Q b:=
 done_weak (imm_tripC h.imm (by rw[view2_imm hi];exact hi) .sc) (imm_tripC h.imm' hi .sc) (weak_tup3C h.weak (by rw[view2_imm hi];exact .refl _) (.refl _)) hq
theorem Own.cw {n:Nat} {H:Heap} {x:AV} {ty:TypeId} {k:Nat} {es:List (List AV)} {xs ys:List AV} (h:Own n H x ty k es) (hi:Imm (.list k es)) (t:CW H xs ys):CW H (x::xs) (.list k es::ys):=by
 obtain⟨id,_,rfl,h⟩:=h
 exact cw_sref h rfl hi t
theorem Own.set {n0:Nat} {H:Heap} {x:AV} {ty:TypeId} {k:Nat} {es:List (List AV)} {i:Nat} {o:AObj} {o':Option AObj} (h:Own n0 H x ty k es) (hi:H[i]?=some (some o)) (ht:¬o.ty=ty):Own n0 (H.set i o') x ty k es:=by
 obtain⟨id,h1,h2,h3⟩:=h
 refine⟨id,h1,h2,?_⟩
 rw[List.getElem?_set_ne (obj_ne hi h3 ht)]
 exact h3
theorem started {c:TCash} {x:TIncome} {H':Heap} {n0 p a b d f:Nat} {la lb ld lf:Nat} (na:n0≤a) (nb:n0≤b) (nd:n0≤d) (nf:n0≤f) (hl:n0≤H'.length) (ea:la=c.Claims.length) (eb:lb=c.Incomes.length+1) (ed:ld=c.Matches.length) (ef:lf=c.Loose.length+1)
  (hp:H'[p]?=some (some ⟨40,4,[[.sref a 0 la,.sref b 0 lb,.sref d 0 ld,.sref f 0 lf]]⟩))
  (ha:H'[a]?=some (some ⟨145,6,encL TClaim.cells c.Claims⟩)) (hb:H'[b]?=some (some ⟨79,5,encL TIncome.cells c.Incomes++[[iv x.Number,iv x.Day,iv x.Payer,iv x.Amount,iv x.Claim]]⟩))
  (hd:H'[d]?=some (some ⟨149,3,encL TMatch.cells c.Matches⟩)) (hf:H'[f]?=some (some ⟨3,1,rowsI c.Loose++[[iv x.Amount]]⟩)):
  HC n0 H' p (start c x) (.sref a 0 la) (.sref b 0 lb) (.sref d 0 ld) (.sref f 0 lf):=by
 subst ea;subst eb;subst ed;subst ef
 refine⟨hl,hp,⟨a,na,by rw[encL_len];rfl,ha⟩,⟨b,nb,by rw[encL_len];simp[start],?_⟩,⟨d,nd,by rw[encL_len];rfl,hd⟩,⟨f,nf,by rw[rowsI_len];simp[start],?_⟩⟩
 ·rw[hb]
  exact congrArg (fun z=>some (some (⟨79,5,z⟩:AObj))) (encL_snoc TIncome.cells c.Incomes x)
 ·rw[hf]
  exact congrArg (fun z=>some (some (⟨3,1,z⟩:AObj))) (encL_snoc encI c.Loose x.Amount)
def TS (O0 O1 O2:AObj) (n p:Nat) (d:TCash) (s:St):Prop:=s.t 2= .ref 0 0 0∧s.t 3= .ref 1 0 0∧s.t 4= .ref 2 0 0∧s.t 10= .ref p 0 0∧s.t 11=iv n∧s.H[0]?=some (some O0)∧s.H[1]?=some (some O1)∧s.H[2]?=some (some O2)∧4≤p∧∃A B D F,HC 4 s.H p d A B D F
theorem Own.kept {n0:Nat} {H H':Heap} {x:AV} {ty:TypeId} {k:Nat} {es:List (List AV)} (h:Own n0 H x ty k es) (hk:Kept [] H H'):Own n0 H' x ty k es:=by
 obtain⟨id,h1,h2,h3⟩:=h
 exact⟨id,h1,h2,hk _ _ (by simp) h3⟩
theorem HC.kept {n0:Nat} {H H':Heap} {p:Nat} {c:TCash} {A B D F:AV} (h:HC n0 H p c A B D F) (hk:Kept [] H H') (hl:n0≤H'.length):HC n0 H' p c A B D F:=
 ⟨hl,hk _ _ (by simp) h.obj,h.a.kept hk,h.b.kept hk,h.d.kept hk,h.f.kept hk⟩
structure GoodD (c:TCash) (x:TIncome) (d:TCash):Prop where
 fall:Fall (start c x) d
 pot:pot d≤400
theorem GoodD.start {c:TCash} {x:TIncome} (h:cashE c=0):GoodD c x (start c x):=by
 have ok:=cashE_ok.1 h
 refine⟨.refl _,?_⟩
 have h1:=List.countP_le_length (p:=fun z:TClaim=>decide (0<z.Open)) (l:=c.Claims)
 have h2:=List.countP_le_length (p:=fun z:Int=>decide (0<z)) (l:=c.Loose++[x.Amount])
 have h3:=ok.2.len
 rw[List.length_append,List.length_singleton]at h2
 unfold Go.Proofs.YtaenimpfelpafaaGreatDoor.pot Go.Proofs.YtaenimpfelpafaaGreatDoor.start
 simp only
 omega
theorem GoodD.lo {c:TCash} {x:TIncome} {d:TCash} (g:GoodD c x d) (h:cashE c=0) (hx:0≤x.Amount):∃lo,d.Loose[c.Incomes.length]?=some lo∧0≤lo∧lo≤x.Amount:=by
 have hl:=(cashE_ok.1 h).2.len
 obtain⟨n,h1,h2,h3⟩:=g.fall.lo c.Incomes.length x.Amount (by simp[Go.Proofs.YtaenimpfelpafaaGreatDoor.start,hl])
 exact⟨n,h3,h2 hx,h1⟩
theorem GoodD.inc {c:TCash} {x:TIncome} {d:TCash} (g:GoodD c x d):d.Incomes[c.Incomes.length]?=some x:=by rw[g.fall.inc];simp[Go.Proofs.YtaenimpfelpafaaGreatDoor.start]
theorem GoodD.cl {c:TCash} {x:TIncome} {d:TCash} (g:GoodD c x d) (h:cashE c=0) {k:Nat} {z:TClaim} (hz:d.Claims[k]?=some z):0≤z.Open∧z.Open≤1000000000000:=by
 obtain⟨y,hy,h1,h2,_⟩:=g.fall.back hz
 have:=payB_iff.1 ((cashE_ok.1 h).2.pays.1 y (List.mem_of_getElem? hy))
 omega
theorem GoodD.len {c:TCash} {x:TIncome} {d:TCash} (g:GoodD c x d):d.Matches.length≤400:=by
 have:=g.pot
 unfold Go.Proofs.YtaenimpfelpafaaGreatDoor.pot at this
 omega
end Go.Proofs.YtaenimpfelpafaaGreatDoor
