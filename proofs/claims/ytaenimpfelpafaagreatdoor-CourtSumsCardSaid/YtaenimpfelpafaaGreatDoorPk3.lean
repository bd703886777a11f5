/- Several texts of this claim, joined: PaC Types Facts PlayAll Frame PaArg Args ArgsUse CardLibCs Shelf Split Parts PaFrz PaPf Code Cmp SortFlow Stab0 Pl27 Cash0 Cash1 ClmL RefCode. -/
import Derived.Test.YtaenimpfelpafaaGreatDoorPk2
import Derived.Test.YtaenimpfelpafaaGreatDoorProg
import Derived.KernelRfl
import Derived.WalkSpells
import Derived.WalkLawsBesides
import Derived.Deep.QuietTactic
import Derived.BigQuiet
import Derived.RegionTactic
import Derived.Lib.Hide
import Derived.Test.YtaenimpfelpafaaGreatDoorRows
import Derived.ProofKit
import Derived.Below
import Derived.Carry
import Derived.ChangeSame
import Derived.ChangeMaps5
import Derived.ShutString
import Derived.Stop.LaidErr
import Derived.LaidMore
import Derived.Lay
import Derived.SevenTiedAt
import Derived.Stop.Joined
import Derived.Test.YtaenimpfelpafaaGreatDoorCards
import Derived.Test.YtaenimpfelpafaaGreatDoorTie
import Derived.Shelf.LaysM
import Derived.Shelf.Strconv.Itoa3
import Derived.Shelf.LaysC
import Derived.Shelf.Strconv.AtoiAll
import Derived.Shelf.Strings.Search2
import Derived.Shelf.Strings.Search3
import Derived.RangeFuncBox
import Derived.RangeFuncLeaves
import Derived.Shelf.Abstract
import Derived.WalkKit
import Derived.OwnWalkIn
import Derived.TacticsInMore
import Derived.LoopNIn
import Derived.LoopIn
import Derived.Maps.AppendAt
import Derived.Lib.PathFns
import Derived.Lib.IndexLaws
import Derived.Laws.Rows
import Derived.RangeFuncCalls
set_option linter.unusedSimpArgs false
set_option linter.unusedVariables false
namespace Go.PA
open Go.RowKit
def POwn (P:Program) (row src:Option Nat) (f:FuncId) (args:List AV) (ty:TypeId) (k:Nat) (Q:List (List AV)→Prop):Prop:=
 ∀(w:World) (ok:Nat→Prop) (vs:Array Value),(∀b,ok b→b<w.heap.size∧some b≠row)→Inv row src ok w→vs.size=args.length→(∀(i:Nat) (v:Value) (a:AV),vs[i]?=some v→args[i]?=some a→RepI w ok v a)→
  Calls P f vs w fun e w'=>∃(b cap:Nat) (es:List (List AV)),e= .returned (.pointer (some ⟨b,0,none⟩))∧Q es∧w.heap.size≤b∧b<w'.heap.size∧(∀e,e∈es→e.length=k)∧
   CellsOk w' (fun _=>none) [] (fun x=>(ok x∨(w.heap.size≤x∧x<w'.heap.size))∧x≠b) ⟨ty,k,es⟩ b cap∧(∀e,e∈es→∀a,a∈e→Imm a)∧w.grownBy w' row∧Inv row src ok w'
def AOwn (P:Program) (rs:List ResultVar) (ty:TypeId) (k:Nat) (Q:List (List AV)→Prop):Exit→St→Prop
 | .normal,s| .ret,s=>∃id es,ares P s rs=some (.ref id 0 0)∧s.H[id]?=some (some ⟨ty,k,es⟩)∧(∀e,e∈es→∀a,a∈e→Imm a)∧Q es
 |_,_=>False
theorem pown_intro {P:Program} {row src:Option Nat} {f:FuncId} {args:List AV} {ty:TypeId} {k:Nat} {Q:List (List AV)→Prop} {fn:Func} {body:Code}
  (hf:P.funcs[f]?=some fn) (hb:fn.body=some body) (hn:args.length≤fn.ntmps) (hc:codeOk fn.ntmps body=true)
  (h:∀E:Env,E.P=P→E.row=row→E.src=src→(∀b,¬E.W b)→E.N=fn.ntmps→awp E body ⟨initT args,[]⟩ (AOwn P fn.results.toList ty k Q)):POwn P row src f args ty k Q:=by
 intro w ok vs h1 h2 h3 h4
 let E:Env:={P:=P,w0:=w,okA:=ok,row:=row,src:=src,N:=fn.ntmps,W:=fun _=>False,ρ0:=fun _=>none,H0:=[]}
 have g:Good E w (fun _=>none) [] ok:=⟨rfl,rfl,rfl,Nat.le_refl _,fun _ _ _ _=>rfl,h2,fun b hb=>⟨(h1 b hb).1,(h1 b hb).2,.inl hb⟩,by simp,by simp,by simp,by simp⟩
 have r:Rel E ⟨initT args,[]⟩ {tmps:=vs++Array.replicate (fn.ntmps-vs.size) undef,defers:=[]} w:=by
  refine⟨fun _=>none,ok,g,Ext.refl _ _ _ _,rfl,by simp[E];omega,fun i=>?_⟩
  simp only[initT]
  rcases Nat.lt_or_ge i args.length with hlt|hge
  ·have e1:args.getD i (.sc undef)=args[i]:=by simp[List.getD,List.getElem?_eq_getElem hlt]
   have hv:vs[i]?=some (vs[i]'(by omega)):=Array.getElem?_eq_getElem (by omega)
   have e2:(vs++Array.replicate (fn.ntmps-vs.size) undef).getD i undef=vs[i]'(by omega):=by
    rw[Array.getD_eq_getD_getElem?,Array.getElem?_append_left (by omega),hv]
    rfl
   rw[e1,e2]
   exact h4 i _ _ hv (List.getElem?_eq_getElem hlt)
  ·have e1:args.getD i (.sc undef)= .sc undef:=by simp[List.getD,List.getElem?_eq_none hge]
   have e2:(vs++Array.replicate (fn.ntmps-vs.size) undef).getD i undef=undef:=by
    rw[Array.getD_eq_getD_getElem?,Array.getElem?_append_right (by omega),Array.getElem?_replicate]
    split<;>rfl
   rw[e1,e2]
   exact .sc
 have hw:=awp_sound (E:=E) body _ _ hc (h E rfl rfl rfl (fun _ h=>h) rfl) _ _ r
 refine calls_of_wp hf hb (wp_mono hw fun e a' w' h'=>?_)
 obtain⟨s',hq,ρ,ok',g',_,hd,_,hr⟩:=h'
 have fin:(∃id es,ares P s' fn.results.toList=some (.ref id 0 0)∧s'.H[id]?=some (some ⟨ty,k,es⟩)∧(∀e,e∈es→∀a,a∈e→Imm a)∧Q es)→a'.defers=[]∧∃v,(results fn a'.tmps).run P w'= .ok v w'∧
   ∃(b cap:Nat) (es:List (List AV)),Ending.returned v= .returned (.pointer (some ⟨b,0,none⟩))∧Q es∧w.heap.size≤b∧b<w'.heap.size∧(∀e,e∈es→e.length=k)∧
   CellsOk w' (fun _=>none) [] (fun x=>(ok x∨(w.heap.size≤x∧x<w'.heap.size))∧x≠b) ⟨ty,k,es⟩ b cap∧(∀e,e∈es→∀a,a∈e→Imm a)∧w.grownBy w' row∧Inv row src ok w':=by
  rintro⟨id,es,hres,ho,hi,hq⟩
  obtain⟨v,hrun,hrep⟩:=ares_sound (E:=E) g' hr hres
  refine⟨hd,v,hrun,?_⟩
  cases hrep with
  |refDead hd' _=>rw[ho]at hd';cases hd'
  |@ref _ _ _ o b cap ho' hρ hcap=>
   rw[ho]at ho'
   simp only[Option.some.injEq]at ho'
   subst ho'
   have hobj:=g'.obj id _ ho
   rw[hρ]at hobj
   obtain⟨a1,a2,a3⟩:=g'.own id _ b cap ho hρ
   have hb1:w.heap.size≤b:=a3.resolve_left (fun h=>h)
   refine⟨b,cap,es,by simp,hq,hb1,hobj.lt,g'.len id _ ho,?_,hi,⟨g'.os,g'.tape,g'.output,g'.size,fun k hk hne=>g'.blk k hk (fun h=>h) hne⟩,⟨h2.1.1,h2.1.2.at g'.inv.1.2⟩,fun p hp=>g'.inv.2 p hp⟩
   obtain⟨cur,c1,c2,c3,c4,c5⟩:=hobj.cells hcap
   refine⟨cur,c1,c2,c3,c4,fun i e j a he ha=>?_⟩
   obtain⟨c,d1,d2,d3⟩:=c5 i e j a he ha
   refine⟨c,d1,d2,d3.imm (fun x hx=>⟨?_,fun e=>a1 (e▸hx)⟩) (hi e (List.mem_of_getElem? he) a (List.mem_of_getElem? ha))⟩
   obtain⟨x1,_,x3⟩:=g'.oks x hx
   exact x3.imp (fun h=>h) fun h=>⟨h,x1⟩
 cases e with
 |normal=>exact fin hq
 |ret=>exact fin hq
 |_=>exact hq.elim
section
variable {E:Env}
theorem callB_own {P:Program} {f:FuncId} {args:List AV} {args':List AV} {H:Heap} {ty:TypeId} {k:Nat} {Q:List (List AV)→Prop} {C:AV→Heap→Prop} {b:Bx C} (h:POwn P E.row E.src f args' ty k Q) (hP:E.P=P) (hen:enterable P f=true) (ha:Args H args args') (hn:∀a,a∈args→srefs a=[])
  (hex:∃es,Q es) (hC:∀es,Q es→C (.ref H.length 0 0) (H++[some ⟨ty,k,es⟩])):CallB E f args H C b:=by
 subst hP
 obtain⟨es0,hq0⟩:=hex
 refine .inl ⟨hen,⟨_,_,hC es0 hq0⟩,fun w ρ ok vs g hs hr=>?_⟩
 have hr':∀(i:Nat) (v:Value) (a:AV),vs[i]?=some v→args'[i]?=some a→RepI w ok v a:=fun i v a' hv ha'=>by
  obtain⟨a,h1,h2,h3⟩:=ha.get i a' ha'
  refine ((view_soundX (fun _=>False) g (hr i v a hv h1) h3 (fun id hid=>?_)).weak h2).ext ⟨by simp,by simp,?_,fun _ _=>rfl⟩
  ·rw[hn a (List.mem_of_getElem? h1)]at hid;cases hid
  ·rintro b (hb|⟨_,_,_,hf,_⟩)
   ·exact hb
   ·exact hf.elim
 refine (h w ok vs (fun b hb=>⟨(g.oks b hb).1,(g.oks b hb).2.1⟩) g.inv (hs.trans ha.len) hr').mono ?_
 rintro e w' ⟨b,cap,es,rfl,hq,hb1,hb2,hlen,hobj,hi,hg,hinv⟩
 obtain⟨g1,x1⟩:=g.call (ok':=fun x=>(ok x∨(w.heap.size≤x∧x<w'.heap.size))∧x≠b) hg hinv (fun x hx=>⟨.inl hx,fun e=>by have:=(g.oks x hx).1;omega⟩) (fun x hx=>hx.1)
 have hcm:cap≤maxLen:=hobj.choose_spec.2.2.2.1
 have hobj':ObjOk w' ρ H (fun x=>(ok x∨(w.heap.size≤x∧x<w'.heap.size))∧x≠b) ⟨ty,k,es⟩ (some (b,cap)):=by
  obtain⟨cur,c1,c2,c3,c4,c5⟩:=hobj
  refine .inl ⟨cur,c1,c2,c3,c4,fun i e j a he ha=>?_⟩
  obtain⟨c,d1,d2,d3⟩:=c5 i e j a he ha
  exact⟨c,d1,d2,d3.imm (fun x hx=>hx) (hi e (List.mem_of_getElem? he) a (List.mem_of_getElem? ha))⟩
 obtain⟨g2,x2⟩:=g1.add ⟨ty,k,es⟩ (some (b,cap)) hobj' hlen (fun b' c' h'=>by
  simp only[Option.some.injEq,Prod.mk.injEq]at h'
  obtain⟨rfl,rfl⟩:=h'
  refine⟨fun hx=>hx.2 rfl,fun id o c ho hρ=>?_,fun hrow=>?_,.inr (Nat.le_trans g.size hb1)⟩
  ·have:=g.obj id o ho
   rw[hρ]at this
   have:=this.lt
   omega
  ·have:=g.row_lt hrow.symm
   omega)
 refine⟨_,.ref H.length 0 0,H++[some ⟨ty,k,es⟩],_,_,rfl,hC es hq,g2,x1.trans x2,?_⟩
 have:=Rep.ref (w:=w') (ρ:=updP ρ H.length (some (b,cap))) (H:=H++[some ⟨ty,k,es⟩]) (ok:=fun x=>(ok x∨(w.heap.size≤x∧x<w'.heap.size))∧x≠b) (id:=H.length) (i:=0) (j:=0) (o:=⟨ty,k,es⟩) (b:=b) (cap:=cap) push_new (by simp[updP]) hcm
 simpa using this
theorem rep_int_list_cell {w:World} {ρ:Places} {H:Heap} {ok:Nat→Prop} {xs:List Int} {v:Value} (r:Rep w ρ H ok v (.list 1 (xs.map fun x=>[.sc (.int .i64 x)]))):
  ∃A c,v= .slice A xs.length c∧∀i,i<xs.length→∃ad,A=some ad∧ok ad.block∧∃x,x∈xs∧w.cell? (ad.add i)=some (.int .i64 x):=by
 generalize hes:xs.map (fun x=>[AV.sc (.int .i64 x)])=es at r
 cases r with
 |listNil=>simp at hes;subst hes;exact⟨_,_,rfl,by simp⟩
 |@list ad n c _ _ f hn hnc hok hk hc h1 hr=>
  subst hes
  refine⟨some ad,c,by simp at hn;rw[hn],fun i hi=>⟨ad,rfl,hok,xs[i],List.getElem_mem hi,?_⟩⟩
  have he:(xs.map (fun x=>[AV.sc (.int .i64 x)]))[i]?=some [.sc (.int .i64 xs[i])]:=by simp[List.getElem?_map,List.getElem?_eq_getElem hi]
  have:=hr i _ 0 _ he rfl
  have e:=rep_sc this
  have h2:=hc i _ 0 _ he rfl
  rw[e]at h2
  simpa using h2
theorem awp_adopt {c:Code} {s:St} {Q:Exit→St→Prop} (j:Nat) {ty:TypeId} {xs:List Int} {at_:Nat} (hrow:E.row=none) (hsrc:E.src=none) (hW:∀b,¬E.W b) (ht:s.t j= .ref 0 0 0) (hH:s.H=[some ⟨ty,2,[[.list 1 (xs.map fun x=>[.sc (.int .i64 x)]),.sc (.int .i64 at_)]]⟩])
  (hat:at_≤xs.length) (hl:xs.length≤900) (hx:∀x,x∈xs→ -9223372036854775808≤x∧x≤9223372036854775807) (hco:codeOk E.N c=true)
  (h:∀(E':Env) (p:Nat),E'.P=E.P→E'.row=some p→E'.N=E.N→(∀b,¬E'.W b)→awp E' c ⟨upd s.t j (.sc (.pointer (some ⟨p,0,none⟩))),[none]⟩ Q):AWp E c s Q:=by
 rintro a w ⟨ρ,ok,g,hx0,hd,hs,hr⟩
 have h0:s.H[0]?=some (some ⟨ty,2,[[.list 1 (xs.map fun x=>[.sc (.int .i64 x)]),.sc (.int .i64 at_)]]⟩):=by rw[hH];rfl
 have hv:=hr j
 rw[ht]at hv
 obtain⟨o,b,cap,ho,hρ,hcap,hve⟩:∃o b cap,s.H[0]?=some (some o)∧ρ 0=some (b,cap)∧cap≤maxLen∧a.tmps.getD j undef= .pointer (some ⟨b,0*o.k+0,none⟩):=by
  generalize hgen:a.tmps.getD j undef=v at hv
  cases hv with
  |ref ho hρ hcap=>exact⟨_,_,_,ho,hρ,hcap,rfl⟩
  |refDead hd _=>rw[h0]at hd;cases hd
 rw[h0]at ho
 simp only[Option.some.injEq]at ho
 subst ho
 have hobj:=g.obj 0 _ h0
 rw[hρ]at hobj
 obtain⟨hb1,_,hb3⟩:=g.own 0 _ b cap h0 hρ
 have hb3:=hb3.resolve_left (hW b)
 have hblt:=hobj.lt
 obtain⟨cur,c1,c2,c3,c4,c5⟩:=hobj.cells hcap
 obtain⟨v0,d1,d2,d3⟩:=c5 0 _ 0 _ rfl rfl
 obtain⟨v1,e1,e2,e3⟩:=c5 0 _ 1 _ rfl rfl
 obtain⟨A,c',rfl,hA⟩:=rep_int_list_cell d3
 have e3:=rep_sc e3
 subst e3
 let src:Option Nat:=if 0<xs.length then A.map (·.block)else none
 let E':Env:={P:=E.P,w0:=w,okA:=ok,row:=some b,src:=src,N:=E.N,W:=fun _=>False,ρ0:=ρ,H0:=[none]}
 have hsok:∀b',src=some b'→ok b':=fun b' hb'=>by
  simp only[src]at hb'
  split at hb'
  ·rename_i h0
   obtain⟨ad,rfl,hk,_⟩:=hA 0 h0
   simp at hb'
   exact hb'▸hk
  ·cases hb'
 have hS:SrcOk src w b:=by
  refine⟨cur,A,xs.length,c',at_,ty,⟨c1,by simpa using d1,by simpa using e1⟩,hat,hl,fun i hi=>?_⟩
  obtain⟨ad,rfl,hk,x,hxm,hc⟩:=hA i hi
  refine⟨ad,x,rfl,?_,fun e=>hb1 (e▸hk),hc,hx x hxm⟩
  simp only[src]
  rw[if_pos (by omega)]
  rfl
 have gE:Good E' w ρ [none] ok:=by
  have hlive:∀(id:Nat) (o:AObj),([none]:Heap)[id]?=some (some o)→False:=fun id o ho=>by
   match id,ho with
   |0,ho=>simp at ho
   |id+1,ho=>simp at ho
  refine⟨rfl,rfl,rfl,Nat.le_refl _,fun _ _ _ _=>rfl,⟨⟨hsok,g.inv.1.2⟩,fun p hp=>?_⟩,fun b' hb'=>⟨(g.oks b' hb').1,fun e=>?_,.inl hb'⟩,fun id o _ _ ho _=>(hlive id o ho).elim,fun id o _ _ _ _ _ ho _ _ _=>(hlive id o ho).elim,fun id o ho=>(hlive id o ho).elim,fun id o ho=>(hlive id o ho).elim⟩
  ·cases hp;exact hS
  ·simp only[E',Option.some.injEq]at e
   subst e
   exact hb1 hb'
 have hext:Ext w ρ s.H ok w ρ [none] ok:=by
  refine⟨fun id o ho=> .inl ?_,fun id ho=>?_,fun _ h=>h,fun _ _=>rfl⟩
  ·rw[hH]at ho
   match id,ho with
   |0,ho=>rfl
   |id+1,ho=>simp at ho
  ·rw[hH]at ho
   match id,ho with
   |0,ho=>simp at ho
   |id+1,ho=>simp at ho
 have rE:Rel E' ⟨upd s.t j (.sc (.pointer (some ⟨b,0,none⟩))),[none]⟩ a w:=by
  refine⟨ρ,ok,gE,Ext.refl _ _ _ _,hd,hs,fun i=>?_⟩
  simp only[upd]
  split
  ·rename_i hi
   subst hi
   rw[hve]
   simp only[Nat.zero_mul,Nat.zero_add]
   exact .sc
  ·exact (hr i).ext hext
 refine wp_mono (awp_sound (E:=E') c _ Q hco (h E' b rfl rfl rfl (fun _ h=>h)) a w rE) fun e a' w' h'=>?_
 obtain⟨s',hq,ρ',ok',g',hx',hd',hs',hr'⟩:=h'
 refine⟨s',hq,ρ',ok',⟨g'.os.trans g.os,g'.tape.trans g.tape,g'.output.trans g.output,Nat.le_trans g.size g'.size,fun b' hb' hW' hr'=>?_,⟨⟨fun b' hb'=>(by rw[hsrc]at hb';cases hb'),g'.inv.1.2⟩,fun p hp=>(by rw[hrow]at hp;cases hp)⟩,fun b' hb'=>?_,fun id o b' c ho hρ=>?_,g'.inj,g'.len,g'.obj⟩,(hx0.trans hext).trans hx',hd',hs',hr'⟩
 ·refine (g'.blk b' (Nat.lt_of_lt_of_le hb' g.size) (fun h=>h) (fun e=>?_)).trans (g.blk b' hb' hW' hr')
  simp only[E',Option.some.injEq]at e
  omega
 ·obtain⟨x1,x2,x3⟩:=g'.oks b' hb'
  refine⟨x1,by rw[hrow];simp,?_⟩
  rcases x3 with x3|x3
  ·exact (g.oks b' x3).2.2
  ·exact .inr (Nat.le_trans g.size x3)
 ·obtain⟨x1,x2,x3⟩:=g'.own id o b' c ho hρ
  exact⟨x1,by rw[hrow];simp,.inr (Nat.le_trans g.size (x3.resolve_left (fun h=>h)))⟩
theorem awp_cut {a b:Code} {s:St} {Q:Exit→St→Prop} (hc:codeOk E.N a=true) (h:awp E a s (Athen (fun s'=>AWp E b s' Q) Q)):AWp E (.seq a b) s Q:=by
 intro x w r
 refine wp_seq (wp_mono (awp_sound a s _ hc h x w r) fun e a' w' h'=>?_)
 obtain⟨s',h1,h2⟩:=h'
 cases e with
 |normal=>exact h1 a' w' h2
 |_=>exact⟨s',h1,h2⟩
end
theorem pfun_introA {P:Program} {row src:Option Nat} {f:FuncId} {args:List AV} {Q:AV→Prop} {fn:Func} {body:Code}
  (hf:P.funcs[f]?=some fn) (hb:fn.body=some body) (hn:args.length≤fn.ntmps)
  (h:∀E:Env,E.P=P→E.row=row→E.src=src→(∀b,¬E.W b)→E.N=fn.ntmps→AWp E body ⟨initT args,[]⟩ (ARet P fn.results.toList Q)):PFun P row src f args Q:=by
 have key:∀E:Env,E.P=P→E.row=row→E.src=src→(∀b,¬E.W b)→E.N=fn.ntmps→AWp E body ⟨initT args,[]⟩ (ARet P fn.results.toList Q):=h
 exact pfun_of_AWp hf hb hn key
open Go.RowKit
def AM (P:Program) (rs:List ResultVar) (C:AV→Heap→Prop):Exit→St→Prop
 | .normal,s| .ret,s=>match ares P s rs with
  |some r=>C r s.H
  |none=>False
 |_,_=>False
def MFun (P:Program) (row src:Option Nat) (f:FuncId) (args:List AV) (H:Heap) (C:AV→Heap→Prop):Prop:=
 ∀E:Env,E.P=P→E.row=row→E.src=src→ACall E f args H C
theorem MFun.mono {P:Program} {row src:Option Nat} {f:FuncId} {args:List AV} {H:Heap} {C D:AV→Heap→Prop} (h:MFun P row src f args H C) (hd:∀x H',C x H'→D x H'):MFun P row src f args H D:=
 fun E h1 h2 h3=>(h E h1 h2 h3).mono hd
theorem mfun_of_AWp {P:Program} {row src:Option Nat} {f:FuncId} {args:List AV} {H:Heap} {C:AV→Heap→Prop} {fn:Func} {body:Code}
  (hf:P.funcs[f]?=some fn) (hb:fn.body=some body) (hn:args.length≤fn.ntmps) (hex:∃x H',C x H')
  (h:∀E:Env,E.P=P→E.row=row→E.src=src→E.N=fn.ntmps→AWp E body ⟨initT args,H⟩ (AM P fn.results.toList C)):MFun P row src f args H C:=by
 intro E hP hrow hsrc
 refine⟨hex,fun w ρ ok vs g hsz hrep=>?_⟩
 subst hP;subst hrow;subst hsrc
 let E':Env:={P:=E.P,w0:=w,okA:=ok,row:=E.row,src:=E.src,N:=fn.ntmps,W:=fun b=>∃id o c,H[id]?=some (some o)∧ρ id=some (b,c),ρ0:=ρ,H0:=H}
 have gE:Good E' w ρ H ok:=⟨rfl,rfl,rfl,Nat.le_refl _,fun _ _ _ _=>rfl,g.inv,fun b hb=>⟨(g.oks b hb).1,(g.oks b hb).2.1,.inl hb⟩,fun id o b c ho hρ=>⟨(g.own id o b c ho hρ).1,(g.own id o b c ho hρ).2.1,.inl ⟨id,o,c,ho,hρ⟩⟩,g.inj,g.len,g.obj⟩
 have r:Rel E' ⟨initT args,H⟩ {tmps:=vs++Array.replicate (fn.ntmps-vs.size) undef,defers:=[]} w:=by
  refine⟨ρ,ok,gE,Ext.refl _ _ _ _,rfl,by simp[E'];omega,fun i=>?_⟩
  simp only[initT]
  rcases Nat.lt_or_ge i args.length with hlt|hge
  ·have e1:args.getD i (.sc undef)=args[i]:=by simp[List.getD,List.getElem?_eq_getElem hlt]
   have hv:vs[i]?=some (vs[i]'(by omega)):=Array.getElem?_eq_getElem (by omega)
   have e2:(vs++Array.replicate (fn.ntmps-vs.size) undef).getD i undef=vs[i]'(by omega):=by
    rw[Array.getD_eq_getD_getElem?,Array.getElem?_append_left (by omega),hv]
    rfl
   rw[e1,e2]
   exact hrep i _ _ hv (List.getElem?_eq_getElem hlt)
  ·have e1:args.getD i (.sc undef)= .sc undef:=by simp[List.getD,List.getElem?_eq_none hge]
   have e2:(vs++Array.replicate (fn.ntmps-vs.size) undef).getD i undef=undef:=by
    rw[Array.getD_eq_getD_getElem?,Array.getElem?_append_right (by omega),Array.getElem?_replicate]
    split<;>rfl
   rw[e1,e2]
   exact .sc
 refine calls_of_wp hf hb (wp_mono (h E' rfl rfl rfl rfl _ _ r) fun e a' w' h'=>?_)
 obtain⟨s',hq,ρ',ok',g',hx',hd,_,hr⟩:=h'
 have gF:Good E w' ρ' s'.H ok':=by
  have hnW:∀b,b<E.w0.heap.size→¬E.W b→¬E'.W b:=fun b hb hW ⟨id,o,c,ho,hρ⟩=>by
   rcases (g.own id o b c ho hρ).2.2 with h|h
   ·exact hW h
   ·omega
  refine⟨g'.os.trans g.os,g'.tape.trans g.tape,g'.output.trans g.output,Nat.le_trans g.size g'.size,fun b hb hW hr'=>(g'.blk b (Nat.lt_of_lt_of_le hb g.size) (hnW b hb hW) hr').trans (g.blk b hb hW hr'),g'.inv,fun b hb=>?_,fun id o b c ho hρ=>?_,g'.inj,g'.len,g'.obj⟩
  ·obtain⟨x1,x2,x3⟩:=g'.oks b hb
   refine⟨x1,x2,?_⟩
   rcases x3 with x3|x3
   ·exact (g.oks b x3).2.2
   ·exact .inr (Nat.le_trans g.size x3)
  ·obtain⟨x1,x2,x3⟩:=g'.own id o b c ho hρ
   refine⟨x1,x2,?_⟩
   rcases x3 with⟨id',o',c',ho',hρ'⟩|x3
   ·exact (g.own id' o' b c' ho' hρ').2.2
   ·exact .inr (Nat.le_trans g.size x3)
 have fin:∀{r:AV},ares E.P s' fn.results.toList=some r→C r s'.H→a'.defers=[]∧∃v,(results fn a'.tmps).run E.P w'= .ok v w'∧
   ∃(v':Value) (x:AV) (H':Heap) (ρ':Places) (ok':Nat→Prop),Ending.returned v= .returned v'∧C x H'∧Good E w' ρ' H' ok'∧Ext w ρ H ok w' ρ' H' ok'∧Rep w' ρ' H' ok' v' x:=by
  intro r hres hc
  obtain⟨v,hrun,hrep'⟩:=ares_sound (E:=E) gF hr hres
  exact⟨hd,v,hrun,v,r,s'.H,ρ',ok',rfl,hc,gF,hx',hrep'⟩
 cases e with
 |normal=>
  simp only[AM]at hq
  split at hq
  ·rename_i r hres;exact fin hres hq
  ·exact hq.elim
 |ret=>
  simp only[AM]at hq
  split at hq
  ·rename_i r hres;exact fin hres hq
  ·exact hq.elim
 |_=>exact hq.elim
theorem mfun_intro {P:Program} {row src:Option Nat} {f:FuncId} {args:List AV} {H:Heap} {C:AV→Heap→Prop} {fn:Func} {body:Code}
  (hf:P.funcs[f]?=some fn) (hb:fn.body=some body) (hn:args.length≤fn.ntmps) (hc:codeOk fn.ntmps body=true) (hex:∃x H',C x H')
  (h:∀E:Env,E.P=P→E.row=row→E.src=src→E.N=fn.ntmps→awp E body ⟨initT args,H⟩ (AM P fn.results.toList C)):MFun P row src f args H C:=
 mfun_of_AWp hf hb hn hex fun E h1 h2 h3 h5=>awp_sound body _ _ (h5▸hc) (h E h1 h2 h3 h5)
theorem am_ret {P:Program} {rs:List ResultVar} {C:AV→Heap→Prop} {s:St}:AM P rs C .ret s=OB (ares P s rs) (fun r=>C r s.H) .mk:=by
 simp only[AM]
 cases ares P s rs<;>rfl
theorem am_normal {P:Program} {rs:List ResultVar} {C:AV→Heap→Prop} {s:St}:AM P rs C .normal s=OB (ares P s rs) (fun r=>C r s.H) .mk:=by
 simp only[AM]
 cases ares P s rs<;>rfl
attribute [go_sem ↓] am_ret am_normal
theorem callB_m {E:Env} {f:FuncId} {args:List AV} {H:Heap} {C C':AV→Heap→Prop} {b:Bx C} {P:Program} (h:MFun P E.row E.src f args H C') (hP:E.P=P) (hen:enterable P f=true) (hC:∀r H',C' r H'→C r H'):CallB E f args H C b:=
 .inl ⟨hP▸hen,(h E hP rfl rfl).mono hC⟩
def Kept (X:List Nat) (H H':Heap):Prop:=∀j o,j∉X→H[j]?=some (some o)→H'[j]?=some (some o)
theorem kept_refl (X:List Nat) (H:Heap):Kept X H H:=fun _ _ _ h=>h
theorem Kept.trans {X:List Nat} {H H' H'':Heap} (h:Kept X H H') (k:Kept X H' H''):Kept X H H'':=fun j o hj ho=>k j o hj (h j o hj ho)
theorem kept_push {X:List Nat} {H H':Heap} (x:Option AObj) (h:Kept X H H'):Kept X H (H'++[x]):=fun j o hj ho=>by
 have:=h j o hj ho
 rw[List.getElem?_append_left (gsI this)]
 exact this
theorem kept_app (X:List Nat) (H l:Heap):Kept X H (H++l):=fun j o _ ho=>by
 rw[List.getElem?_append_left (gsI ho)]
 exact ho
theorem kept_set {X:List Nat} {H H':Heap} {i:Nat} (x:Option AObj) (hi:i∈X) (h:Kept X H H'):Kept X H (H'.set i x):=fun j o hj ho=>by
 rw[List.getElem?_set_ne (by rintro rfl;exact hj hi)]
 exact h j o hj ho
theorem kept_new {X:List Nat} {H H':Heap} {i:Nat} (x:Option AObj) (hi:H.length≤i) (h:Kept X H H'):Kept X H (H'.set i x):=fun j o hj ho=>by
 have:=(gsI ho)
 rw[List.getElem?_set_ne (by omega)]
 exact h j o hj ho
theorem Kept.mono {X Y:List Nat} {H H':Heap} (h:Kept X H H') (hs:∀x,x∈X→x∈Y):Kept Y H H':=fun j o hj ho=>h j o (fun hx=>hj (hs _ hx)) ho
theorem mfun_of_flat {P:Program} {row src:Option Nat} {f:FuncId} {args args':List AV} {Q:AV→Prop} {H:Heap} (h:PFun P row src f args' Q) (ha:Args H args args') (hex:∃r,Q r) (hfl:∀r,Q r→Flat r):MFun P row src f args H (fun r H'=>Q r∧H'=H):=by
 intro E hP hrow hsrc
 subst hrow;subst hsrc
 exact acall_flat args' hP h ha hex hfl fun r hr=>⟨hr,rfl⟩
theorem mfun_list_nil {P:Program} {row src:Option Nat} {f:FuncId} {args:List AV} {k:Nat} {H:Heap} {C:AV→Heap→Prop} (h:∀A c,MFun P row src f (.sc (.slice A 0 c)::args) H C):MFun P row src f (.list k []::args) H C:=by
 intro E hP hrow hsrc
 refine⟨(h none 0 E hP hrow hsrc).1,fun w ρ ok vs g hs hr=>?_⟩
 have h0:0<vs.size:=by rw[hs];simp
 have hv:=hr 0 vs[0] (.list k []) (Array.getElem?_eq_getElem h0) rfl
 have key:∃A c,vs[0]= .slice A 0 c:=by
  generalize vs[0]=v at hv
  cases hv with
  |listNil=>exact⟨_,_,rfl⟩
  |list f hn _ _ _ _ _ _=>subst hn;exact⟨_,_,rfl⟩
 obtain⟨A,c,hA⟩:=key
 refine (h A c E hP hrow hsrc).2 w ρ ok vs g hs fun i v a hv ha=>?_
 match i,hv,ha with
 |0,hv,ha=>
  rw[Array.getElem?_eq_getElem h0,hA]at hv
  simp at hv ha
  subst hv;subst ha
  exact .sc
 |i+1,hv,ha=>exact hr (i+1) v a hv ha
theorem MFun.ownNil {P:Program} {row src:Option Nat} {f:FuncId} {args:List AV} {H:Heap} {C:AV→Heap→Prop} (ty:TypeId) (k:Nat) (h:MFun P row src f args H C):
  MFun P row src f args H (fun r H'=>(∃H0,C .nil H0∧r= .sref H0.length 0 0∧H'=H0++[some ⟨ty,k,[]⟩])∨(r≠ .nil∧C r H')):=by
 intro E hP hrow hsrc
 obtain⟨⟨x0,H0,h0⟩,hw⟩:=h E hP hrow hsrc
 refine⟨?_,fun w ρ ok vs g hs hr=>(hw w ρ ok vs g hs hr).mono ?_⟩
 ·by_cases hx:x0= .nil
  ·subst hx;exact⟨_,_,.inl ⟨H0,h0,rfl,rfl⟩⟩
  ·exact⟨_,_,.inr ⟨hx,h0⟩⟩
 ·rintro e w' ⟨v,x,H',ρ',ok',rfl,hc,g',x',r'⟩
  by_cases hx:x= .nil
  ·subst hx
   obtain⟨g2,x2⟩:=g'.add ⟨ty,k,[]⟩ none rfl (by simp) (by simp)
   refine⟨v,_,_,_,_,rfl,.inl ⟨H',hc,rfl,rfl⟩,g2,x'.trans x2,?_⟩
   cases r'
   exact .srefNil push_new (by simp[updP])
  ·exact⟨v,x,H',ρ',ok',rfl,.inr ⟨hx,hc⟩,g',x',r'⟩
def SlIs (H:Heap) (x:AV) (k:Nat) (es:List (List AV)):Prop:=x= .list k es∨(x= .nil∧es=[])∨∃id ty,x= .sref id 0 es.length∧H[id]?=some (some ⟨ty,k,es⟩)
theorem SlIs.kept {H H':Heap} {x:AV} {k:Nat} {es:List (List AV)} (h:SlIs H x k es) (hk:Kept [] H H'):SlIs H' x k es:=by
 rcases h with h|h|⟨id,ty,h1,h2⟩
 ·exact .inl h
 ·exact .inr (.inl h)
 ·exact .inr (.inr ⟨id,ty,h1,hk id _ (by simp) h2⟩)
theorem SlIs.len {H:Heap} {x:AV} {k:Nat} {es:List (List AV)} (h:SlIs H x k es):alen H x=some (es.length:Int):=by
 rcases h with h|⟨rfl,rfl⟩|⟨id,ty,rfl,h2⟩
 ·subst h;rfl
 ·rfl
 ·simp only[alen,h2]
theorem SlIs.idx {P:Program} {t e:TypeId} {H:Heap} {x:AV} {k:Nat} {es:List (List AV)} (h:SlIs H x k es) (ht:Go.PA.elemOf P t=some e) (hk:k=szOf P e) (hn:knownT P e=true) (i:Nat) (hi:i<es.length):
  ∃a,aindexAddr P t H x i=some a∧addrCells H a=some es[i]:=by
 rcases h with h|⟨rfl,rfl⟩|⟨id,ty,rfl,h2⟩
 ·subst h
  refine⟨.iref es[i],?_,rfl⟩
  rw[aix_list ht]
  simp[hk,hn,hi]
 ·simp at hi
 ·refine⟨.ref id i 0,?_,?_⟩
  ·rw[aix_sref ht]
   simp[h2,hk,hn,hi]
  ·rw[addr_ref]
   simp[h2,hi]
theorem weaker_frz {E:Env} {s:St} (hW:∀b,¬E.W b) (j:Nat) {id lo n:Nat} {o:AObj} (hj:s.t j= .sref id lo n) (ho:s.H[id]?=some (some o)) (hi:Imm (.list o.k ((o.es.drop lo).take n))):
  Weaker E s ⟨upd s.t j (.list o.k ((o.es.drop lo).take n)),s.H.set id none⟩:=by
 rintro a w ⟨ρ,ok,g,hx,hd,hs,hr⟩
 obtain⟨g',x'⟩:=g.kill id (fun b=>ok b∨∃o c,s.H[id]?=some (some o)∧ρ id=some (b,c)) (fun _ h=> .inl h) (fun b hb=>hb.imp (fun h=>h) fun⟨o,c,h1,h2⟩=>⟨o,c,h1,h2,hW b⟩)
 refine⟨ρ,_,g',hx.trans x',hd,hs,fun i=>?_⟩
 simp only[upd]
 split
 ·rename_i hij
  subst hij
  have hv:=hr i
  have hview:view s.H (s.t i)= .list o.k ((o.es.drop lo).take n):=by rw[hj,view_sref,ho,viewS_some]
  have:=view_soundX (fun x=>x=id) g hv (by rw[hview];exact hi) (fun x hx=>by rw[hj]at hx;simpa[srefs,srefs2,srefs1]using hx)
  rw[hview]at this
  refine this.imm (fun b hb=>?_) hi
  rcases hb with hb|⟨x,o',c,rfl,h1,h2⟩
  ·exact .inl hb
  ·exact .inr ⟨o',c,h1,h2⟩
 ·exact (hr i).ext x'
def RoundF (j n:Nat) (I:Nat→St→Prop) (Q:Exit→St→Prop) (_:Bx (I,Q)):Exit→St→Prop
 | .normal,s'=>∃n',n'<n∧I n' s'
 | .exit i,s'=>∃id lo m o,s'.t j= .sref id lo m∧s'.H[id]?=some (some o)∧Imm (.list o.k ((o.es.drop lo).take m))∧Q (.exit i) ⟨upd s'.t j (.list o.k ((o.es.drop lo).take m)),s'.H.set id none⟩
 |x,s'=>Q x s'
theorem roundF_normal {j n:Nat} {I:Nat→St→Prop} {Q:Exit→St→Prop} {b:Bx (I,Q)} {s:St}:RoundF j n I Q b .normal s=(∃n',n'<n∧I n' s):=rfl
theorem roundF_ret {j n:Nat} {I:Nat→St→Prop} {Q:Exit→St→Prop} {b:Bx (I,Q)} {s:St}:RoundF j n I Q b .ret s=Q .ret s:=rfl
def Frz (j:Nat) (s:St) (k:St→Prop):Prop:=∃id lo m o,s.t j= .sref id lo m∧s.H[id]?=some (some o)∧Imm (.list o.k ((o.es.drop lo).take m))∧k ⟨upd s.t j (.list o.k ((o.es.drop lo).take m)),s.H.set id none⟩
theorem roundF_frz {j n i:Nat} {I:Nat→St→Prop} {Q:Exit→St→Prop} {b:Bx (I,Q)} {s:St}:RoundF j n I Q b (.exit i) s=Frz j s (Q (.exit i)):=rfl
theorem frz {j:Nat} {s:St} {k:St→Prop} (id n:Nat) (ty:TypeId) (kk:Nat) (es:List (List AV)) (h1:s.t j= .sref id 0 n) (h2:s.H[id]?=some (some ⟨ty,kk,es⟩)) (hn:n=es.length) (hi:Imm (.list kk es)) (h:k ⟨upd s.t j (.list kk es),s.H.set id none⟩):Frz j s k:=by
 refine⟨id,0,n,_,h1,h2,?_,?_⟩
 ·simpa[hn]using hi
 ·simpa[hn]using h
attribute [go_sem ↓] roundF_normal roundF_frz roundF_ret
theorem aloopF {E:Env} {c:Code} {s0:St} {Q:Exit→St→Prop} {b:Bx (c,Q)} (j:Nat) (hW:∀b,¬E.W b) (I:Nat→St→Prop) (n0:Nat) (hc:codeOk E.N c=true) (h0:I n0 s0)
  (round:∀n s,I n s→awp E c s (RoundF j n I Q .mk)):ALoop E c s0 Q b:=by
 intro a w r
 refine wp_loop_ghost (fun n a w=>∃s,I n s∧Rel E s a w) n0 ⟨_,h0,r⟩ fun n a w hI=>?_
 obtain⟨s,hs,r⟩:=hI
 refine wp_mono (awp_sound c s _ hc (round n s hs) a w r) fun e a' w' h'=>?_
 obtain⟨s',h1,h2⟩:=h'
 cases e with
 |normal=>
  obtain⟨n',hlt,hI'⟩:=h1
  exact⟨n',hlt,_,hI',h2⟩
 |exit i=>
  obtain⟨id,lo,m,o,e1,e2,e3,e4⟩:=h1
  exact⟨_,e4,weaker_frz hW j e1 e2 e3 a' w' h2⟩
 |_=>exact⟨s',h1,h2⟩
def encL {α:Type} (enc:α→List AV) (l:List α):List (List AV):=l.map enc
section
variable {α:Type} (enc:α→List AV)
theorem encL_nil:encL enc []=[]:=rfl
theorem encL_len (l:List α):(encL enc l).length=l.length:=by simp[encL]
theorem encL_snoc (l:List α) (a:α):encL enc l++[enc a]=encL enc (l++[a]):=by simp[encL]
theorem encL_take (l:List α) (n:Nat) (h:n=l.length):(encL enc l).take n=encL enc l:=by subst h;rw[←encL_len enc l,List.take_length]
theorem encL_takeL (l:List α):(encL enc l).take l.length=encL enc l:=encL_take enc l _ rfl
theorem encL_get (l:List α) (i:Nat):(encL enc l)[i]?=(l[i]?).map enc:=by simp[encL]
theorem imm_encL {k:Nat} (h:∀a c,c∈enc a→Imm c) (l:List α):Imm (.list k (encL enc l)):=by
 refine .list fun e he c hc=>?_
 simp only[encL,List.mem_map]at he
 obtain⟨a,_,rfl⟩:=he
 exact h a c hc
theorem encL_set (l:List α) (i:Nat) (a:α):(encL enc l).set i (enc a)=encL enc (l.set i a):=by simp[encL,List.map_set]
attribute [go_sem] encL_nil encL_len encL_takeL encL_get
end
def idxFrom {α:Type} (p:α→Bool):Nat→List α→Int
 |_,[]=> -1
 |k,a::l=>if p a=true then k else idxFrom p (k+1) l
def idxI {α:Type} (p:α→Bool) (l:List α):Int:=idxFrom p 0 l
theorem idxFrom_spec {α:Type} (p:α→Bool):∀(l:List α) (k:Nat),(idxFrom p k l= -1∧∀a,a∈l→p a=false)∨∃(i:Nat) (a:α),l[i]?=some a∧p a=true∧idxFrom p k l=((k+i:Nat):Int)∧∀(j:Nat) (b:α),j<i→l[j]?=some b→p b=false
 |[],k=> .inl ⟨rfl,by simp⟩
 |a::l,k=>by
  simp only[idxFrom]
  by_cases h:p a=true
  ·rw[if_pos h]
   exact .inr ⟨0,a,rfl,h,rfl,fun j b hj=>by omega⟩
  ·rw[if_neg h]
   have h':p a=false:=by simpa using h
   rcases idxFrom_spec p l (k+1)with⟨h1,h2⟩|⟨i,b,h1,h2,h3,h4⟩
   ·refine .inl ⟨h1,fun b hb=>?_⟩
    rcases List.mem_cons.1 hb with rfl|hb
    ·exact h'
    ·exact h2 b hb
   ·refine .inr ⟨i+1,b,by simpa using h1,h2,by rw[h3];congr 1;omega,fun j c hj hc=>?_⟩
    match j,hj,hc with
    |0,hj,hc=>simp at hc;subst hc;exact h'
    |j+1,hj,hc=>exact h4 j c (by omega) (by simpa using hc)
theorem idxI_spec {α:Type} (p:α→Bool) (l:List α):(idxI p l= -1∧∀a,a∈l→p a=false)∨∃(i:Nat) (a:α),l[i]?=some a∧p a=true∧idxI p l=(i:Int)∧∀(j:Nat) (b:α),j<i→l[j]?=some b→p b=false:=by
 have:=idxFrom_spec p l 0
 simpa[idxI]using this
theorem args_sref {H:Heap} {id n:Nat} {ty:TypeId} {k:Nat} {es:List (List AV)} {as0 as':List AV} (hH:H[id]?=some (some ⟨ty,k,es⟩)) (hn:n=es.length) (hi:Imm (.list k es)) (ht:Args H as0 as'):Args H (.sref id 0 n::as0) (.list k es::as'):=by
 have hv:view H (.sref id 0 n)= .list k es:=by rw[view_sref,hH,viewS_some];simp[hn]
 exact .cons (by rw[hv];exact .refl _) (by rw[hv];exact hi) ht
theorem args_imm {H:Heap} {a:AV} {as0 as':List AV} (hi:Imm a) (ht:Args H as0 as'):Args H (a::as0) (a::as'):= .cons (by rw[view_imm hi];exact .refl _) (by rw[view_imm hi];exact hi) ht
theorem args_nilL {H:Heap} {k:Nat} {as0 as':List AV} (ht:Args H as0 as'):Args H (.nil::as0) (.list k []::as'):= .cons (.nil k) .nil ht
inductive CW (H:Heap):List AV→List AV→Prop
 |nil:CW H [] []
 |cons {a a':AV} {as0 as':List AV} (h:Weak (view1 H a) a') (hi:Imm (view1 H a)) (hi':Imm a') (t:CW H as0 as'):CW H (a::as0) (a'::as')
theorem CW.len {H:Heap} {as0 as':List AV} (h:CW H as0 as'):as0.length=as'.length:=by
 induction h with
 |nil=>rfl
 |cons _ _ _ _ ih=>simp[ih]
theorem CW.weak {H:Heap} {as0 as':List AV} (h:CW H as0 as'):Weak (.agg (as0.map (view1 H))) (.agg as'):=by
 refine .agg (by simpa using h.len) ?_
 induction h with
 |nil=>intro i a b h;simp at h
 |cons h _ _ _ ih=>
  intro i a b ha hb
  match i,ha,hb with
  |0,ha,hb=>simp at ha hb;subst ha;subst hb;exact h
  |i+1,ha,hb=>exact ih i a b (by simpa using ha) (by simpa using hb)
theorem CW.imm {H:Heap} {as0 as':List AV} (h:CW H as0 as'):Imm (.agg (as0.map (view1 H))):=by
 refine .agg fun c hc=>?_
 induction h with
 |nil=>simp at hc
 |cons _ h _ _ ih=>
  rcases List.mem_cons.1 hc with rfl|hc
  ·exact h
  ·exact ih hc
theorem CW.imm' {H:Heap} {as0 as':List AV} (h:CW H as0 as'):Imm (.agg as'):=by
 refine .agg fun c hc=>?_
 induction h with
 |nil=>simp at hc
 |cons _ _ h _ ih=>
  rcases List.mem_cons.1 hc with rfl|hc
  ·exact h
  ·exact ih hc
theorem cw_imm {H:Heap} {a:AV} {as0 as':List AV} (hi:Imm a) (t:CW H as0 as'):CW H (a::as0) (a::as'):=by
 refine .cons ?_ ?_ hi t
 ·rw[view1_imm hi];exact .refl a
 ·rw[view1_imm hi];exact hi
theorem cw_sc {H:Heap} {v:Value} {as0 as':List AV} (t:CW H as0 as'):CW H (.sc v::as0) (.sc v::as'):=cw_imm .sc t
theorem cw_nil {H:Heap} {k:Nat} {as0 as':List AV} (t:CW H as0 as'):CW H (.nil::as0) (.list k []::as'):= .cons (.nil k) .nil (imm_list.2 (by simp)) t
theorem cw_sref {H:Heap} {id n:Nat} {ty:TypeId} {k:Nat} {es:List (List AV)} {as0 as':List AV} (hH:H[id]?=some (some ⟨ty,k,es⟩)) (hn:n=es.length) (hi:Imm (.list k es)) (t:CW H as0 as'):CW H (.sref id 0 n::as0) (.list k es::as'):=by
 have hv:view1 H (.sref id 0 n)= .list k es:=by rw[view1_sref,hH,viewS_some];simp[hn]
 exact .cons (by rw[hv];exact .refl _) (by rw[hv];exact hi) hi t
theorem args_agg {H:Heap} {cs cs' as0 as':List AV} (h:CW H cs cs') (ht:Args H as0 as'):Args H (.agg cs::as0) (.agg cs'::as'):= .cons h.weak h.imm ht
theorem done_agg {H:Heap} {cs cs':List AV} {Q:AV→Prop} {b:Bx Q} (h:CW H cs cs') (hq:Q (.agg cs')):Done H (.agg cs) Q b:=done_weak h.imm h.imm' h.weak hq
theorem done_agg2 {H:Heap} {cs cs':List AV} {v:Value} {Q:AV→Prop} {b:Bx Q} (h:CW H cs cs') (hq:Q (.tup [.agg cs',.sc v])):Done H (.tup [.agg cs,.sc v]) Q b:=
 done_weak (imm_pair h.imm .sc) (imm_pair h.imm' .sc) (weak_tup2 h.weak (.refl _)) hq
open Go.RowKit
def valI:Int→Value:=Value.int .i64
def valB:Bool→Value:=Value.bool
def encK {β:Type} (f:β→Value) (l:List (Int×β)):List (List AV):=l.map fun e=>[.sc (.int .i64 e.1),.sc (f e.2)]
def imK {β:Type} (f:β→Value) (l:List (Int×β)):List (Value×Value):=l.map fun e=>(.int .i64 e.1,f e.2)
def getM {β:Type}:List (Int×β)→Int→Option β
 |[],_=>none
 |e::l,k=>if e.1=k then some e.2 else getM l k
def putM {β:Type}:List (Int×β)→Int→β→List (Int×β)
 |[],k,v=>[(k,v)]
 |e::l,k,v=>if e.1=k then (k,v)::l else e::putM l k v
section
variable {β:Type} {f:β→Value}
theorem entsOf_encK (l:List (Int×β)):entsOf (encK f l)=some (l.map fun e=>(.int .i64 e.1,.sc (f e.2))):=by
 induction l with
 |nil=>rfl
 |cons e l ih=>
  simp only[encK,List.map_cons,entsOf]at ih⊢
  rw[ih]
  rfl
theorem ents1_encK (l:List (Int×β)):ents1 (encK f l)=some (imK f l):=by
 induction l with
 |nil=>rfl
 |cons e l ih=>
  simp only[encK,List.map_cons,ents1]at ih⊢
  rw[ih]
  rfl
theorem afind_map (l:List (Int×β)) (n:Int):afind (.int .i64) (.int .i64 n) (l.map fun e=>(.int .i64 e.1,.sc (f e.2)))=some ((getM l n).map fun b=> .sc (f b)):=by
 induction l with
 |nil=>rfl
 |cons e l ih=>
  simp only[List.map_cons,afind,Instr.sameNow,getM,if_true]
  by_cases h:n=e.1
  ·subst h;simp
  ·rw[if_neg (fun q=>h q.symm)]
   have hb:(n==e.1)=false:=by simpa using h
   rw[hb]
   simp only[ih]
theorem aput_encK (l:List (Int×β)) (n:Int) (b:β):aput (.int .i64) (.int .i64 n) (.sc (f b)) (encK f l)=some (encK f (putM l n b)):=by
 induction l with
 |nil=>rfl
 |cons e l ih=>
  simp only[encK,List.map_cons,aput,Instr.sameNow,putM,if_true]at ih⊢
  by_cases h:n=e.1
  ·subst h;simp
  ·rw[if_neg (fun q=>h q.symm)]
   have hb:(n==e.1)=false:=by simpa using h
   rw[hb]
   simp only[ih,Option.map_some,List.map_cons]
end
section
variable {E:Env} {P:Program} {H:Heap}
theorem aeff_makeMap {t:TypeId} {ev:Operand→AV} {C:AV→Heap→Prop}:AEff E (.makeMap t none) ev H C=OV2 (.mref H.length) (H++[some ⟨0,2,[]⟩]) C .mk:=rfl
theorem aeff_mapUpdate {t:TypeId} {x k v:Operand} {ev:Operand→AV} {C:AV→Heap→Prop}:AEff E (.mapUpdate t x k v) ev H C=OB (aupdate E.P t H (ev x) (ev k) (ev v)) (fun H'=>C (.sc undef) H') .mk:=by
 simp only[AEff]
 cases aupdate E.P t H (ev x) (ev k) (ev v)<;>rfl
theorem aeff_lookup {t:TypeId} {x k:Operand} {c:Bool} {ev:Operand→AV} {C:AV→Heap→Prop}:AEff E (.lookup t x k c) ev H C=OB (alookup E.P t H (ev x) (ev k) c) (fun v=>C v H) .mk:=aeff_read rfl
theorem aeff_entry {x:Operand} {ev:Operand→AV} {C:AV→Heap→Prop}:AEff E (.entry x) ev H C=OB (aentry H (ev x)) (fun v=>C v H) .mk:=aeff_read rfl
def rangeV (E:Env) (t:TypeId) (x:AV) (H:Heap) (C:AV→Heap→Prop) (_:Bx C):Prop:=match x with
 | .imap es=>if isMapT E.P t then C (.miter H.length) (H++[some ⟨0,3,[[.junk,.junk,.imap es]]⟩])else False
 |_=>False
theorem aeff_range {t:TypeId} {x:Operand} {ev:Operand→AV} {C:AV→Heap→Prop}:AEff E (.range t x) ev H C=rangeV E t (ev x) H C .mk:=by
 simp only[AEff,rangeV]
 rfl
theorem rangeV_imap {t:TypeId} {es:List (Value×Value)} {C:AV→Heap→Prop} {b:Bx C} (h:isMapT E.P t=true):rangeV E t (.imap es) H C b=OV2 (.miter H.length) (H++[some ⟨0,3,[[.junk,.junk,.imap es]]⟩]) C .mk:=by
 simp only[rangeV,h,if_true,OV2]
def ANext (left:List (Value×Value)) (id:Nat) (o:AObj) (H:Heap) (C:AV→Heap→Prop) (_:Bx C):Prop:=
 (left=[]→C (.tup [.sc (.bool false)]) H)∧∀(i:Nat) (e:Value×Value),left[i]?=some e→C (.tup [.sc (.bool true),.sc e.1,.sc e.2]) (H.set id (some {o with es:=[[.sc e.1,.sc e.2,.imap (left.eraseIdx i)]]}))
def nextV (x:AV) (s:Bool) (H:Heap) (C:AV→Heap→Prop) (b:Bx C):Prop:=match x with
 | .miter id=>match H[id]? with
  |some (some o)=>match o.es with
   |[[_,_,.imap left]]=>s=false∧ANext left id o H C b
   |_=>False
  |_=>False
 |_=>False
def nextO (y:Option (Option AObj)) (id:Nat) (H:Heap) (C:AV→Heap→Prop) (b:Bx C):Prop:=match y with
 |some (some o)=>match o.es with
  |[[_,_,.imap left]]=>ANext left id o H C b
  |_=>False
 |_=>False
theorem aeff_next {x:Operand} {ev:Operand→AV} {C:AV→Heap→Prop}:AEff E (.next x false) ev H C=nextV (ev x) false H C .mk:=by
 simp only[AEff,nextV,ANext]
 rfl
theorem nextV_it {id:Nat} {C:AV→Heap→Prop} {b:Bx C}:nextV (.miter id) false H C b=nextO H[id]? id H C .mk:=by
 simp only[nextV,nextO,true_and]
theorem nextO_some {id ty k:Nat} {a1 a2:AV} {left:List (Value×Value)} {C:AV→Heap→Prop} {b:Bx C}:nextO (some (some ⟨ty,k,[[a1,a2,.imap left]]⟩)) id H C b=ANext left id ⟨ty,k,[[a1,a2,.imap left]]⟩ H C .mk:=rfl
def alookO (P:Program) (t:TypeId) (y:Option (Option AObj)) (k:AV) (c:Bool):Option AV:=match mapOf P t,k,(match y with|some (some o)=>entsOf o.es|_=>none)with
 |some (_,d,et),.sc kv,some es=>if isKeyB d kv then lkR P et c (afind d kv es)else none
 |some (kt,_,et),.agg cs,some es=>match keySig P kt with
  |some ks=>match keyVs ks cs with
   |some vs=>lkR P et c (afindA ks vs es)
   |none=>none
  |none=>none
 |_,_,_=>none
theorem alook_mref {t:TypeId} {id:Nat} {k:AV} {c:Bool}:alookup P t H (.mref id) k c=alookO P t H[id]? k c:=rfl
theorem look_core {β:Type} {f:β→Value} {d:β} {et:TypeId} (hz:azero1 P et=some (.sc (f d))) (l:List (Int×β)) (n:Int) (c:Bool):
  lkR P et c (afind (.int .i64) (.int .i64 n) (l.map fun e=>(.int .i64 e.1,.sc (f e.2))))=some (if c then .tup [.sc (f ((getM l n).getD d)),.sc (.bool (getM l n).isSome)]else .sc (f ((getM l n).getD d))):=by
 rw[afind_map]
 unfold lkR
 cases getM l n with
 |none=>simp[hz]
 |some b=>simp
theorem alookO_enc {β:Type} {f:β→Value} {d:β} {t kt et:TypeId} (hm:mapOf P t=some (kt,.int .i64,et)) (hz:azero1 P et=some (.sc (f d))) {ty k:Nat} {l:List (Int×β)} {n:Int} {c:Bool}:
  alookO P t (some (some ⟨ty,k,encK f l⟩)) (.sc (.int .i64 n)) c=some (if c then .tup [.sc (f ((getM l n).getD d)),.sc (.bool (getM l n).isSome)]else .sc (f ((getM l n).getD d))):=by
 rw[←look_core hz l n c]
 simp only[alookO,hm,entsOf_encK,isKeyB,decide_true,if_true]
theorem alook_imap {β:Type} {f:β→Value} {d:β} {t kt et:TypeId} (hm:mapOf P t=some (kt,.int .i64,et)) (hz:azero1 P et=some (.sc (f d))) {l:List (Int×β)} {n:Int} {c:Bool}:
  alookup P t H (.imap (imK f l)) (.sc (.int .i64 n)) c=some (if c then .tup [.sc (f ((getM l n).getD d)),.sc (.bool (getM l n).isSome)]else .sc (f ((getM l n).getD d))):=by
 rw[←look_core hz l n c]
 simp only[alookup,hm,ents,imK,List.map_map,isKeyB,decide_true,if_true]
 rfl
theorem alookO_I {t:TypeId} (h:IMap P t (.sc (.int .i64 0))) {ty k:Nat} {l:List (Int×Int)} {n:Int}:
  alookO P t (some (some ⟨ty,k,encK valI l⟩)) (.sc (.int .i64 n)) false=some (.sc (.int .i64 ((getM l n).getD 0))):=by
 obtain⟨kt,et,hm,hz⟩:=h
 exact (alookO_enc (f:=valI) (d:=0) hm hz).trans rfl
theorem alook_I {t:TypeId} (h:IMap P t (.sc (.int .i64 0))) {l:List (Int×Int)} {n:Int}:
  alookup P t H (.imap (imK valI l)) (.sc (.int .i64 n)) false=some (.sc (.int .i64 ((getM l n).getD 0))):=by
 obtain⟨kt,et,hm,hz⟩:=h
 exact (alook_imap (f:=valI) (d:=0) hm hz).trans rfl
theorem alookO_B {t:TypeId} (h:IMap P t (.sc (.bool false))) {ty k:Nat} {l:List (Int×Bool)} {n:Int}:
  alookO P t (some (some ⟨ty,k,encK valB l⟩)) (.sc (.int .i64 n)) false=some (.sc (.bool ((getM l n).getD false))):=by
 obtain⟨kt,et,hm,hz⟩:=h
 exact (alookO_enc (f:=valB) (d:=false) hm hz).trans rfl
def aupdO (P:Program) (t:TypeId) (id:Nat) (H:Heap) (y:Option (Option AObj)) (k v:AV):Option Heap:=match mapOf P t,k,y with
 |some (_,d,_),.sc kv,some (some o)=>if isKeyB d kv then (aput d kv v o.es).map fun es=>H.set id (some {o with es:=es})else none
 |some (kt,_,_),.agg cs,some (some o)=>match keySig P kt with
  |some ks=>match keyVs ks cs with
   |some vs=>(aputA ks vs v o.es).map fun es=>H.set id (some {o with es:=es})
   |none=>none
  |none=>none
 |_,_,_=>none
theorem aupd_mref {t:TypeId} {id:Nat} {k v:AV}:aupdate P t H (.mref id) k v=aupdO P t id H H[id]? k v:=by
 unfold aupdate aupdO
 cases mapOf P t with
 |none=>rfl
 |some m=>
  obtain⟨kt,d,et⟩:=m
  cases k<;>first|rfl|skip
  ·simp only
   generalize H[id]?=y
   cases y with
   |none=>simp
   |some y=>cases y with
    |none=>simp
    |some o=>rfl
  ·simp only
   generalize H[id]?=y
   cases y with
   |none=>cases keySig P kt with
    |none=>rfl
    |some ks=>simp only;split<;>rfl
   |some y=>cases y with
    |none=>cases keySig P kt with
     |none=>rfl
     |some ks=>simp only;split<;>rfl
    |some o=>rfl
theorem aupdO_enc {β:Type} {f:β→Value} {t kt et:TypeId} (hm:mapOf P t=some (kt,.int .i64,et)) {id ty k:Nat} {l:List (Int×β)} {n:Int} {b:β}:
  aupdO P t id H (some (some ⟨ty,k,encK f l⟩)) (.sc (.int .i64 n)) (.sc (f b))=some (H.set id (some ⟨ty,k,encK f (putM l n b)⟩)):=by
 simp only[aupdO,hm,isKeyB,decide_true,if_true,aput_encK,Option.map_some]
theorem aupdO_I {t:TypeId} (h:IMap P t (.sc (.int .i64 0))) {id ty k:Nat} {l:List (Int×Int)} {n b:Int}:
  aupdO P t id H (some (some ⟨ty,k,encK valI l⟩)) (.sc (.int .i64 n)) (.sc (.int .i64 b))=some (H.set id (some ⟨ty,k,encK valI (putM l n b)⟩)):=by
 obtain⟨kt,et,hm,hz⟩:=h
 exact aupdO_enc (f:=valI) hm
theorem aupdO_B {t:TypeId} (h:IMap P t (.sc (.bool false))) {id ty k:Nat} {l:List (Int×Bool)} {n:Int} {b:Bool}:
  aupdO P t id H (some (some ⟨ty,k,encK valB l⟩)) (.sc (.int .i64 n)) (.sc (.bool b))=some (H.set id (some ⟨ty,k,encK valB (putM l n b)⟩)):=by
 obtain⟨kt,et,hm,hz⟩:=h
 exact aupdO_enc (f:=valB) hm
def aentryO (y:Option (Option AObj)):Option AV:=match y with
 |some (some o)=>match o.es with
  |[[.sc k,.sc v,_]]=>some (.tup [.sc k,.sc v])
  |_=>none
 |_=>none
theorem aentry_it {id:Nat}:aentry H (.miter id)=aentryO H[id]?:=rfl
theorem aentryO_some {ty k:Nat} {a b:Value} {c:AV}:aentryO (some (some ⟨ty,k,[[.sc a,.sc b,c]]⟩))=some (.tup [.sc a,.sc b]):=rfl
def viewM (y:Option (Option AObj)):AV:=match y with
 |some (some o)=>match ents1 o.es with
  |some es=> .imap es
  |none=> .junk
 |_=> .junk
theorem view_mref {id:Nat}:view H (.mref id)=viewM H[id]?:=rfl
theorem view1_mref {id:Nat}:view1 H (.mref id)=viewM H[id]?:=rfl
theorem view2_mref {id:Nat}:view2 H (.mref id)=viewM H[id]?:=rfl
theorem viewM_enc {β:Type} {f:β→Value} {ty k:Nat} {l:List (Int×β)}:viewM (some (some ⟨ty,k,encK f l⟩))= .imap (imK f l):=by simp only[viewM,ents1_encK]
end
section
variable {E:Env} {ev:Operand→AV} {H:Heap} {k:AV→Prop} {b:Bx k}
theorem ard_lookup {t:TypeId} {x y:Operand} {c:Bool}:ARd E (.lookup t x y c) ev H k b=AEff E (.lookup t x y c) ev H fun v _=>k v:=ard_aeff rfl
theorem ard_entry {x:Operand}:ARd E (.entry x) ev H k b=AEff E (.entry x) ev H fun v _=>k v:=ard_aeff rfl
end
attribute [go_sem ↓] ard_lookup ard_entry
attribute [go_sem ↓] aeff_makeMap aeff_mapUpdate aeff_lookup aeff_entry aeff_range aeff_next
attribute [go_sem] rangeV_imap nextV_it nextO_some alook_mref alookO_I alookO_B alook_I aupd_mref aupdO_I aupdO_B aentry_it aentryO_some view_mref view1_mref view2_mref viewM_enc
section
variable {E:Env}
end
theorem agree_push {n:Nat} {H l:Heap} (h:n≤H.length):Agree (fun id=>decide (id<n)) H (H++l):=fun id hid=>List.getElem?_append_left (by simp at hid;omega)
theorem agree_3 {a b c:Option AObj} {l l':Heap}:Agree (fun id=>decide (id<3)) (a::b::c::l) (a::b::c::l'):=fun id hid=>by
 have:id<3:=by simpa using hid
 rcases id with _|_|_|id
 ·rfl
 ·rfl
 ·rfl
 ·omega
theorem agree_two {H H':Heap} {X:List Nat} {p q:Nat} {o o':AObj} (hk:Kept X H H') (hp:H[p]?=some (some o)) (hq:H[q]?=some (some o')) (np:p∉X) (nq:q∉X):Agree (fun i=>decide (i=p)||decide (i=q)) H H':=fun i hi=>by
 simp only[Bool.or_eq_true,decide_eq_true_eq]at hi
 rcases hi with rfl|rfl
 ·rw[hp,hk _ _ np hp]
 ·rw[hq,hk _ _ nq hq]
theorem agree_2 {a b:Option AObj} {l l':Heap}:Agree (fun id=>decide (id<2)) (a::b::l) (a::b::l'):=fun id hid=>by
 have:id<2:=by simpa using hid
 rcases id with _|_|id
 ·rfl
 ·rfl
 ·omega
theorem heap_set_at {H:Heap} {x:Option AObj} {i:Nat} (h:i<H.length) (y:Option AObj):((H++[x]).set i y)[H.length]?=some x:=by
 rw[List.getElem?_set_ne (by omega)];simp
theorem heap_set_self {H:Heap} {x:Option AObj} {i:Nat} (h:i<H.length) (y:Option AObj):((H++[x]).set i y)[i]?=some y:=List.getElem?_set_self (by simp;omega)
theorem valI_eq (v:Int):valI v=Value.int .i64 v:=rfl
theorem valB_eq (v:Bool):valB v=Value.bool v:=rfl
def aixA (P:Program) (H:Heap) (a:Option (Nat×TypeId)) (id i j:Nat) (n:Int):Option AV:=match a with
 |some (len,e)=>if knownT P e=true∧0≤n∧n<len then (if (addrCells H (.ref id i j)).isSome then some (.ref id i (j+n.toNat*szOf P e))else none)else none
 |none=>none
theorem aix_ref {P:Program} {t:TypeId} {H:Heap} {id i j:Nat} {n:Int} (h:Go.PA.elemOf P t=none):aindexAddr P t H (.ref id i j) n=aixA P H (arrOf P t) id i j n:=by
 simp only[aindexAddr,h,aixA]
 cases arrOf P t<;>rfl
theorem aixA_some {P:Program} {H:Heap} {len:Nat} {e:TypeId} {id i j:Nat} {n:Int}:aixA P H (some (len,e)) id i j n=if knownT P e=true∧0≤n∧n<len then (if (addrCells H (.ref id i j)).isSome then some (.ref id i (j+n.toNat*szOf P e))else none)else none:=rfl
def aixVA (P:Program) (cs:List AV) (n:Int) (a:Option (Nat×TypeId)):Option AV:=match a with
 |some (len,e)=>if knownT P e=true∧0≤n∧n<len then apart P e cs (n.toNat*szOf P e)else none
 |none=>none
theorem aixV_agg {P:Program} {t:TypeId} {cs:List AV} {k:IntKind} {n:Int}:aixV P t (.agg cs) (.sc (.int k n))=aixVA P cs n (arrOf P t):=by
 simp only[aixV,aixVA]
 cases arrOf P t<;>rfl
theorem aixVA_some {P:Program} {cs:List AV} {n:Int} {len:Nat} {e:TypeId}:aixVA P cs n (some (len,e))=if knownT P e=true∧0≤n∧n<len then apart P e cs (n.toNat*szOf P e)else none:=rfl
attribute [go_sem] aix_ref aixA_some aixV_agg aixVA_some valI_eq valB_eq
def arI (xs:List Int):List AV:=xs.map fun x=> .sc (.int .i64 x)
theorem arI_len (xs:List Int):(arI xs).length=xs.length:=by simp[arI]
theorem arI_at (xs:List Int) (j:Nat):((arI xs).drop j).head?=(xs[j]?).map fun x=> .sc (.int .i64 x):=by simp[arI]
theorem arI_dropLen (xs:List Int) (j:Nat):((arI xs).drop j).length=xs.length-j:=by simp[arI]
theorem arI_get (xs:List Int) (j:Nat):(arI xs)[j]?=(xs[j]?).map fun x=> .sc (.int .i64 x):=by simp[arI]
theorem arI_put {xs:List Int} {j:Nat} (v:Int) (h:j<xs.length):(arI xs).take j++ .sc (.int .i64 v)::(arI xs).drop (j+1)=arI (xs.set j v):=by
 simp only[arI,List.map_set]
 rw[List.set_eq_take_append_cons_drop,if_pos (by simpa using h)]
theorem arI_put' {xs:List Int} {j:Nat} (v:Int) (h:j<xs.length):(arI xs).take j++[.sc (.int .i64 v)]++(arI xs).drop (j+1)=arI (xs.set j v):=by
 rw[←arI_put v h];simp
theorem arI_all (xs:List Int):(arI xs).all AV.cellish=true:=by simp[arI,AV.cellish,Value.oneCell']
theorem arI_take {xs:List Int} {n:Nat} (h:n=xs.length):(arI xs).take n=arI xs:=by subst h;rw[←arI_len,List.take_length]
theorem arI_rep (n:Nat):List.replicate n (AV.sc (.int .i64 0))=arI (List.replicate n 0):=by simp[arI]
theorem arI_view1 (H:Heap) (xs:List Int):(arI xs).map (view1 H)=arI xs:=by simp[arI,view1]
theorem arI_imm (xs:List Int):∀a,a∈arI xs→Imm a:=fun a ha=>by
 obtain⟨x,_,rfl⟩:=List.mem_map.1 ha
 exact .sc
theorem arI_drop {xs:List Int} {n:Nat} (h:xs.length≤n):(arI xs).drop n=[]:=List.drop_of_length_le (by rw[arI_len];exact h)
attribute [go_sem] arI_len arI_at arI_dropLen arI_get arI_all arI_view1
section
variable {E:Env} {H:Heap}
end
end Go.PA
namespace Go.Proofs.YtaenimpfelpafaaGreatDoor
open Go.PA
open Go.RowKit
abbrev iv (n:Int):AV:= .sc (.int .i64 n)
abbrev bv (b:Bool):AV:= .sc (.bool b)
def encI (n:Int):List AV:=[iv n]
def encS (s:ByteArray):List AV:=[.sc (.string s)]
theorem imm_encI (n:Int) (c:AV) (h:c∈encI n):Imm c:=by simp[encI]at h;subst h;exact .sc
structure TSub where
 ID:Int
 Balance:Int
deriving DecidableEq,Inhabited
def TSub.cells (x:TSub):List AV:=[iv x.ID,iv x.Balance]
theorem TSub.len (x:TSub):x.cells.length=2:=by simp[TSub.cells]
theorem TSub.imm (x:TSub) (c:AV) (h:c∈x.cells):Imm c:=by
 simp only[TSub.cells,List.mem_cons,List.not_mem_nil,or_false]at h
 rcases h with rfl|rfl
 ·exact .sc
 ·exact .sc
structure TEntry where
 Number:Int
 Day:Int
 From:Int
 To:Int
 Amount:Int
 Ref:Int
deriving DecidableEq,Inhabited
def TEntry.cells (x:TEntry):List AV:=[iv x.Number,iv x.Day,iv x.From,iv x.To,iv x.Amount,iv x.Ref]
theorem TEntry.len (x:TEntry):x.cells.length=6:=by simp[TEntry.cells]
theorem TEntry.imm (x:TEntry) (c:AV) (h:c∈x.cells):Imm c:=by
 simp only[TEntry.cells,List.mem_cons,List.not_mem_nil,or_false]at h
 rcases h with rfl|rfl|rfl|rfl|rfl|rfl
 ·exact .sc
 ·exact .sc
 ·exact .sc
 ·exact .sc
 ·exact .sc
 ·exact .sc
structure TAccount where
 Credit:Int
 Subs:List TSub
 Entries:List TEntry
deriving DecidableEq,Inhabited
def TAccount.cells (x:TAccount):List AV:=[iv x.Credit,.list 2 (encL TSub.cells x.Subs),.list 6 (encL TEntry.cells x.Entries)]
theorem TAccount.len (x:TAccount):x.cells.length=3:=by simp[TAccount.cells]
theorem TAccount.imm (x:TAccount) (c:AV) (h:c∈x.cells):Imm c:=by
 simp only[TAccount.cells,List.mem_cons,List.not_mem_nil,or_false]at h
 rcases h with rfl|rfl|rfl
 ·exact .sc
 ·exact imm_encL _ (TSub.imm) _
 ·exact imm_encL _ (TEntry.imm) _
structure TPayment where
 Warrant:Int
 Payee:Int
 Amount:Int
 Due:Int
 Sub:Int
deriving DecidableEq,Inhabited
def TPayment.cells (x:TPayment):List AV:=[iv x.Warrant,iv x.Payee,iv x.Amount,iv x.Due,iv x.Sub]
theorem TPayment.len (x:TPayment):x.cells.length=5:=by simp[TPayment.cells]
theorem TPayment.imm (x:TPayment) (c:AV) (h:c∈x.cells):Imm c:=by
 simp only[TPayment.cells,List.mem_cons,List.not_mem_nil,or_false]at h
 rcases h with rfl|rfl|rfl|rfl|rfl
 ·exact .sc
 ·exact .sc
 ·exact .sc
 ·exact .sc
 ·exact .sc
structure TBatch where
 Number:Int
 Day:Int
 Payments:List TPayment
deriving DecidableEq,Inhabited
def TBatch.cells (x:TBatch):List AV:=[iv x.Number,iv x.Day,.list 5 (encL TPayment.cells x.Payments)]
theorem TBatch.len (x:TBatch):x.cells.length=3:=by simp[TBatch.cells]
theorem TBatch.imm (x:TBatch) (c:AV) (h:c∈x.cells):Imm c:=by
 simp only[TBatch.cells,List.mem_cons,List.not_mem_nil,or_false]at h
 rcases h with rfl|rfl|rfl
 ·exact .sc
 ·exact .sc
 ·exact imm_encL _ (TPayment.imm) _
structure TQueue where
 Waiting:List TPayment
 Known:List Int
 Batches:List TBatch
deriving DecidableEq,Inhabited
def TQueue.cells (x:TQueue):List AV:=[.list 5 (encL TPayment.cells x.Waiting),.list 1 (encL encI x.Known),.list 3 (encL TBatch.cells x.Batches)]
theorem TQueue.len (x:TQueue):x.cells.length=3:=by simp[TQueue.cells]
theorem TQueue.imm (x:TQueue) (c:AV) (h:c∈x.cells):Imm c:=by
 simp only[TQueue.cells,List.mem_cons,List.not_mem_nil,or_false]at h
 rcases h with rfl|rfl|rfl
 ·exact imm_encL _ (TPayment.imm) _
 ·exact imm_encL _ (imm_encI) _
 ·exact imm_encL _ (TBatch.imm) _
structure TItem where
 Payment:TPayment
 State:Int
 Attempts:Int
deriving DecidableEq,Inhabited
def TItem.cells (x:TItem):List AV:=x.Payment.cells++[iv x.State,iv x.Attempts]
theorem TItem.len (x:TItem):x.cells.length=7:=by simp[TItem.cells,TPayment.len]
theorem TItem.imm (x:TItem) (c:AV) (h:c∈x.cells):Imm c:=by
 simp only[TItem.cells,List.mem_append,List.mem_cons,List.not_mem_nil,or_false]at h
 rcases h with (h)|(rfl|rfl)
 ·exact TPayment.imm _ c h
 ·exact .sc
 ·exact .sc
structure TDesk where
 Account:TAccount
 Queue:TQueue
 Items:List TItem
deriving DecidableEq,Inhabited
def TDesk.cells (x:TDesk):List AV:=x.Account.cells++x.Queue.cells++[.list 7 (encL TItem.cells x.Items)]
theorem TDesk.len (x:TDesk):x.cells.length=7:=by simp[TDesk.cells,TAccount.len,TQueue.len]
theorem TDesk.imm (x:TDesk) (c:AV) (h:c∈x.cells):Imm c:=by
 simp only[TDesk.cells,List.mem_append,List.mem_cons,List.not_mem_nil,or_false]at h
 rcases h with ((h)|(h))|(rfl)
 ·exact TAccount.imm _ c h
 ·exact TQueue.imm _ c h
 ·exact imm_encL _ (TItem.imm) _
structure TClaim where
 ID:Int
 Payer:Int
 Amount:Int
 Open:Int
 Day:Int
 Code:ByteArray
deriving DecidableEq,Inhabited
def TClaim.cells (x:TClaim):List AV:=[iv x.ID,iv x.Payer,iv x.Amount,iv x.Open,iv x.Day,.sc (.string x.Code)]
theorem TClaim.len (x:TClaim):x.cells.length=6:=by simp[TClaim.cells]
theorem TClaim.imm (x:TClaim) (c:AV) (h:c∈x.cells):Imm c:=by
 simp only[TClaim.cells,List.mem_cons,List.not_mem_nil,or_false]at h
 rcases h with rfl|rfl|rfl|rfl|rfl|rfl
 ·exact .sc
 ·exact .sc
 ·exact .sc
 ·exact .sc
 ·exact .sc
 ·exact .sc
structure TIncome where
 Number:Int
 Day:Int
 Payer:Int
 Amount:Int
 Claim:Int
deriving DecidableEq,Inhabited
def TIncome.cells (x:TIncome):List AV:=[iv x.Number,iv x.Day,iv x.Payer,iv x.Amount,iv x.Claim]
theorem TIncome.len (x:TIncome):x.cells.length=5:=by simp[TIncome.cells]
theorem TIncome.imm (x:TIncome) (c:AV) (h:c∈x.cells):Imm c:=by
 simp only[TIncome.cells,List.mem_cons,List.not_mem_nil,or_false]at h
 rcases h with rfl|rfl|rfl|rfl|rfl
 ·exact .sc
 ·exact .sc
 ·exact .sc
 ·exact .sc
 ·exact .sc
structure TMatch where
 Income:Int
 Claim:Int
 Amount:Int
deriving DecidableEq,Inhabited
def TMatch.cells (x:TMatch):List AV:=[iv x.Income,iv x.Claim,iv x.Amount]
theorem TMatch.len (x:TMatch):x.cells.length=3:=by simp[TMatch.cells]
theorem TMatch.imm (x:TMatch) (c:AV) (h:c∈x.cells):Imm c:=by
 simp only[TMatch.cells,List.mem_cons,List.not_mem_nil,or_false]at h
 rcases h with rfl|rfl|rfl
 ·exact .sc
 ·exact .sc
 ·exact .sc
structure TCash where
 Claims:List TClaim
 Incomes:List TIncome
 Matches:List TMatch
 Loose:List Int
deriving DecidableEq,Inhabited
def TCash.cells (x:TCash):List AV:=[.list 6 (encL TClaim.cells x.Claims),.list 5 (encL TIncome.cells x.Incomes),.list 3 (encL TMatch.cells x.Matches),.list 1 (encL encI x.Loose)]
theorem TCash.len (x:TCash):x.cells.length=4:=by simp[TCash.cells]
theorem TCash.imm (x:TCash) (c:AV) (h:c∈x.cells):Imm c:=by
 simp only[TCash.cells,List.mem_cons,List.not_mem_nil,or_false]at h
 rcases h with rfl|rfl|rfl|rfl
 ·exact imm_encL _ (TClaim.imm) _
 ·exact imm_encL _ (TIncome.imm) _
 ·exact imm_encL _ (TMatch.imm) _
 ·exact imm_encL _ (imm_encI) _
structure TSecurity where
 ID:Int
 Unit:Int
 Issued:Int
 Maturity:Int
 Rate:Int
 Every:Int
 Indexed:Bool
deriving DecidableEq,Inhabited
def TSecurity.cells (x:TSecurity):List AV:=[iv x.ID,iv x.Unit,iv x.Issued,iv x.Maturity,iv x.Rate,iv x.Every,bv x.Indexed]
theorem TSecurity.len (x:TSecurity):x.cells.length=7:=by simp[TSecurity.cells]
theorem TSecurity.imm (x:TSecurity) (c:AV) (h:c∈x.cells):Imm c:=by
 simp only[TSecurity.cells,List.mem_cons,List.not_mem_nil,or_false]at h
 rcases h with rfl|rfl|rfl|rfl|rfl|rfl|rfl
 ·exact .sc
 ·exact .sc
 ·exact .sc
 ·exact .sc
 ·exact .sc
 ·exact .sc
 ·exact .sc
structure THolding where
 Security:Int
 Holder:Int
 Amount:Int
deriving DecidableEq,Inhabited
def THolding.cells (x:THolding):List AV:=[iv x.Security,iv x.Holder,iv x.Amount]
theorem THolding.len (x:THolding):x.cells.length=3:=by simp[THolding.cells]
theorem THolding.imm (x:THolding) (c:AV) (h:c∈x.cells):Imm c:=by
 simp only[THolding.cells,List.mem_cons,List.not_mem_nil,or_false]at h
 rcases h with rfl|rfl|rfl
 ·exact .sc
 ·exact .sc
 ·exact .sc
structure TMove where
 Number:Int
 Day:Int
 Kind:Int
 Security:Int
 From:Int
 To:Int
 Amount:Int
deriving DecidableEq,Inhabited
def TMove.cells (x:TMove):List AV:=[iv x.Number,iv x.Day,iv x.Kind,iv x.Security,iv x.From,iv x.To,iv x.Amount]
theorem TMove.len (x:TMove):x.cells.length=7:=by simp[TMove.cells]
theorem TMove.imm (x:TMove) (c:AV) (h:c∈x.cells):Imm c:=by
 simp only[TMove.cells,List.mem_cons,List.not_mem_nil,or_false]at h
 rcases h with rfl|rfl|rfl|rfl|rfl|rfl|rfl
 ·exact .sc
 ·exact .sc
 ·exact .sc
 ·exact .sc
 ·exact .sc
 ·exact .sc
 ·exact .sc
structure TRegister where
 Securities:List TSecurity
 Holdings:List THolding
 Moves:List TMove
deriving DecidableEq,Inhabited
def TRegister.cells (x:TRegister):List AV:=[.list 7 (encL TSecurity.cells x.Securities),.list 3 (encL THolding.cells x.Holdings),.list 7 (encL TMove.cells x.Moves)]
theorem TRegister.len (x:TRegister):x.cells.length=3:=by simp[TRegister.cells]
theorem TRegister.imm (x:TRegister) (c:AV) (h:c∈x.cells):Imm c:=by
 simp only[TRegister.cells,List.mem_cons,List.not_mem_nil,or_false]at h
 rcases h with rfl|rfl|rfl
 ·exact imm_encL _ (TSecurity.imm) _
 ·exact imm_encL _ (THolding.imm) _
 ·exact imm_encL _ (TMove.imm) _
structure TPosting where
 Number:Int
 Day:Int
 Entity:Int
 Debit:Int
 Credit:Int
 Amount:Int
 Partner:Int
 Ref:Int
deriving DecidableEq,Inhabited
def TPosting.cells (x:TPosting):List AV:=[iv x.Number,iv x.Day,iv x.Entity,iv x.Debit,iv x.Credit,iv x.Amount,iv x.Partner,iv x.Ref]
theorem TPosting.len (x:TPosting):x.cells.length=8:=by simp[TPosting.cells]
theorem TPosting.imm (x:TPosting) (c:AV) (h:c∈x.cells):Imm c:=by
 simp only[TPosting.cells,List.mem_cons,List.not_mem_nil,or_false]at h
 rcases h with rfl|rfl|rfl|rfl|rfl|rfl|rfl|rfl
 ·exact .sc
 ·exact .sc
 ·exact .sc
 ·exact .sc
 ·exact .sc
 ·exact .sc
 ·exact .sc
 ·exact .sc
structure TLedger where
 Postings:List TPosting
deriving DecidableEq,Inhabited
def TLedger.cells (x:TLedger):List AV:=[.list 8 (encL TPosting.cells x.Postings)]
theorem TLedger.len (x:TLedger):x.cells.length=1:=by simp[TLedger.cells]
theorem TLedger.imm (x:TLedger) (c:AV) (h:c∈x.cells):Imm c:=by
 simp only[TLedger.cells,List.mem_cons,List.not_mem_nil,or_false]at h
 rcases h with rfl
 ·exact imm_encL _ (TPosting.imm) _
structure TState where
 Desk:TDesk
 Cash:TCash
 Register:TRegister
 Ledger:TLedger
deriving DecidableEq,Inhabited
def TState.cells (x:TState):List AV:=x.Desk.cells++x.Cash.cells++x.Register.cells++x.Ledger.cells
theorem TState.len (x:TState):x.cells.length=15:=by simp[TState.cells,TDesk.len,TCash.len,TRegister.len,TLedger.len]
theorem TState.imm (x:TState) (c:AV) (h:c∈x.cells):Imm c:=by
 simp only[TState.cells,List.mem_append,List.mem_cons,List.not_mem_nil,or_false]at h
 rcases h with (((h)|(h))|(h))|(h)
 ·exact TDesk.imm _ c h
 ·exact TCash.imm _ c h
 ·exact TRegister.imm _ c h
 ·exact TLedger.imm _ c h
structure TDeed where
 Kind:Int
 Day:Int
 Sub:Int
 Who:Int
 Ref:Int
 Amount:Int
 Due:Int
deriving DecidableEq,Inhabited
def TDeed.cells (x:TDeed):List AV:=[iv x.Kind,iv x.Day,iv x.Sub,iv x.Who,iv x.Ref,iv x.Amount,iv x.Due]
theorem TDeed.len (x:TDeed):x.cells.length=7:=by simp[TDeed.cells]
theorem TDeed.imm (x:TDeed) (c:AV) (h:c∈x.cells):Imm c:=by
 simp only[TDeed.cells,List.mem_cons,List.not_mem_nil,or_false]at h
 rcases h with rfl|rfl|rfl|rfl|rfl|rfl|rfl
 ·exact .sc
 ·exact .sc
 ·exact .sc
 ·exact .sc
 ·exact .sc
 ·exact .sc
 ·exact .sc
structure TFinding where
 Layer:Int
 Number:Int
deriving DecidableEq,Inhabited
def TFinding.cells (x:TFinding):List AV:=[iv x.Layer,iv x.Number]
theorem TFinding.len (x:TFinding):x.cells.length=2:=by simp[TFinding.cells]
theorem TFinding.imm (x:TFinding) (c:AV) (h:c∈x.cells):Imm c:=by
 simp only[TFinding.cells,List.mem_cons,List.not_mem_nil,or_false]at h
 rcases h with rfl|rfl
 ·exact .sc
 ·exact .sc
open Go.PA
@[go_sem] theorem sz_3:szOf Tryz.prog 3=1:=by kernel_rfl
@[go_sem] theorem kn_3:knownT Tryz.prog 3=true:=by kernel_rfl
@[go_sem] theorem ag_3:aggOf Tryz.prog 3=false:=by kernel_rfl
@[go_sem] theorem ze_3:zeros Tryz.prog 3=some [.sc (.int .i64 0)]:=by kernel_rfl
@[go_sem] theorem by_3:bytesOf Tryz.prog 3=8:=by kernel_rfl
@[go_sem] theorem sz_22:szOf Tryz.prog 22=1:=by kernel_rfl
@[go_sem] theorem kn_22:knownT Tryz.prog 22=true:=by kernel_rfl
@[go_sem] theorem ag_22:aggOf Tryz.prog 22=false:=by kernel_rfl
@[go_sem] theorem el_22:Go.PA.elemOf Tryz.prog 22=some 3:=by kernel_rfl
@[go_sem] theorem sz_25:szOf Tryz.prog 25=1:=by kernel_rfl
@[go_sem] theorem kn_25:knownT Tryz.prog 25=true:=by kernel_rfl
@[go_sem] theorem ag_25:aggOf Tryz.prog 25=false:=by kernel_rfl
@[go_sem] theorem el_25:Go.PA.elemOf Tryz.prog 25=some 121:=by kernel_rfl
@[go_sem] theorem sz_26:szOf Tryz.prog 26=1:=by kernel_rfl
@[go_sem] theorem kn_26:knownT Tryz.prog 26=true:=by kernel_rfl
@[go_sem] theorem ag_26:aggOf Tryz.prog 26=false:=by kernel_rfl
@[go_sem] theorem el_26:Go.PA.elemOf Tryz.prog 26=some 75:=by kernel_rfl
@[go_sem] theorem sz_28:szOf Tryz.prog 28=3:=by kernel_rfl
@[go_sem] theorem kn_28:knownT Tryz.prog 28=true:=by kernel_rfl
@[go_sem] theorem ag_28:aggOf Tryz.prog 28=true:=by kernel_rfl
@[go_sem] theorem fd_28_0:fieldOf Tryz.prog 28 0=some (0,3):=by kernel_rfl
@[go_sem] theorem fd_28_1:fieldOf Tryz.prog 28 1=some (1,25):=by kernel_rfl
@[go_sem] theorem fd_28_2:fieldOf Tryz.prog 28 2=some (2,26):=by kernel_rfl
@[go_sem] theorem ar_28:arrOf Tryz.prog 28=none:=by kernel_rfl
@[go_sem] theorem fk_28:fieldsKnown Tryz.prog 28=true:=by kernel_rfl
@[go_sem] theorem ze_28:zeros Tryz.prog 28=some [.sc (.int .i64 0),.nil,.nil]:=by kernel_rfl
@[go_sem] theorem sz_29:szOf Tryz.prog 29=1:=by kernel_rfl
@[go_sem] theorem kn_29:knownT Tryz.prog 29=true:=by kernel_rfl
@[go_sem] theorem ag_29:aggOf Tryz.prog 29=false:=by kernel_rfl
@[go_sem] theorem el_29:Go.PA.elemOf Tryz.prog 29=some 81:=by kernel_rfl
@[go_sem] theorem sz_30:szOf Tryz.prog 30=1:=by kernel_rfl
@[go_sem] theorem kn_30:knownT Tryz.prog 30=true:=by kernel_rfl
@[go_sem] theorem ag_30:aggOf Tryz.prog 30=false:=by kernel_rfl
@[go_sem] theorem el_30:Go.PA.elemOf Tryz.prog 30=some 140:=by kernel_rfl
@[go_sem] theorem sz_32:szOf Tryz.prog 32=3:=by kernel_rfl
@[go_sem] theorem kn_32:knownT Tryz.prog 32=true:=by kernel_rfl
@[go_sem] theorem ag_32:aggOf Tryz.prog 32=true:=by kernel_rfl
@[go_sem] theorem fd_32_0:fieldOf Tryz.prog 32 0=some (0,29):=by kernel_rfl
@[go_sem] theorem fd_32_1:fieldOf Tryz.prog 32 1=some (1,22):=by kernel_rfl
@[go_sem] theorem fd_32_2:fieldOf Tryz.prog 32 2=some (2,30):=by kernel_rfl
@[go_sem] theorem ar_32:arrOf Tryz.prog 32=none:=by kernel_rfl
@[go_sem] theorem fk_32:fieldsKnown Tryz.prog 32=true:=by kernel_rfl
@[go_sem] theorem ze_32:zeros Tryz.prog 32=some [.nil,.nil,.nil]:=by kernel_rfl
@[go_sem] theorem sz_33:szOf Tryz.prog 33=1:=by kernel_rfl
@[go_sem] theorem kn_33:knownT Tryz.prog 33=true:=by kernel_rfl
@[go_sem] theorem ag_33:aggOf Tryz.prog 33=false:=by kernel_rfl
@[go_sem] theorem el_33:Go.PA.elemOf Tryz.prog 33=some 83:=by kernel_rfl
@[go_sem] theorem sz_35:szOf Tryz.prog 35=7:=by kernel_rfl
@[go_sem] theorem kn_35:knownT Tryz.prog 35=true:=by kernel_rfl
@[go_sem] theorem ag_35:aggOf Tryz.prog 35=true:=by kernel_rfl
@[go_sem] theorem fd_35_0:fieldOf Tryz.prog 35 0=some (0,28):=by kernel_rfl
@[go_sem] theorem fd_35_1:fieldOf Tryz.prog 35 1=some (3,32):=by kernel_rfl
@[go_sem] theorem fd_35_2:fieldOf Tryz.prog 35 2=some (6,33):=by kernel_rfl
@[go_sem] theorem ar_35:arrOf Tryz.prog 35=none:=by kernel_rfl
@[go_sem] theorem fk_35:fieldsKnown Tryz.prog 35=true:=by kernel_rfl
@[go_sem] theorem ze_35:zeros Tryz.prog 35=some [.sc (.int .i64 0),.nil,.nil,.nil,.nil,.nil,.nil]:=by kernel_rfl
@[go_sem] theorem sz_36:szOf Tryz.prog 36=1:=by kernel_rfl
@[go_sem] theorem kn_36:knownT Tryz.prog 36=true:=by kernel_rfl
@[go_sem] theorem ag_36:aggOf Tryz.prog 36=false:=by kernel_rfl
@[go_sem] theorem el_36:Go.PA.elemOf Tryz.prog 36=some 145:=by kernel_rfl
@[go_sem] theorem sz_37:szOf Tryz.prog 37=1:=by kernel_rfl
@[go_sem] theorem kn_37:knownT Tryz.prog 37=true:=by kernel_rfl
@[go_sem] theorem ag_37:aggOf Tryz.prog 37=false:=by kernel_rfl
@[go_sem] theorem el_37:Go.PA.elemOf Tryz.prog 37=some 79:=by kernel_rfl
@[go_sem] theorem sz_38:szOf Tryz.prog 38=1:=by kernel_rfl
@[go_sem] theorem kn_38:knownT Tryz.prog 38=true:=by kernel_rfl
@[go_sem] theorem ag_38:aggOf Tryz.prog 38=false:=by kernel_rfl
@[go_sem] theorem el_38:Go.PA.elemOf Tryz.prog 38=some 149:=by kernel_rfl
@[go_sem] theorem sz_40:szOf Tryz.prog 40=4:=by kernel_rfl
@[go_sem] theorem kn_40:knownT Tryz.prog 40=true:=by kernel_rfl
@[go_sem] theorem ag_40:aggOf Tryz.prog 40=true:=by kernel_rfl
@[go_sem] theorem fd_40_0:fieldOf Tryz.prog 40 0=some (0,36):=by kernel_rfl
@[go_sem] theorem fd_40_1:fieldOf Tryz.prog 40 1=some (1,37):=by kernel_rfl
@[go_sem] theorem fd_40_2:fieldOf Tryz.prog 40 2=some (2,38):=by kernel_rfl
@[go_sem] theorem fd_40_3:fieldOf Tryz.prog 40 3=some (3,22):=by kernel_rfl
@[go_sem] theorem ar_40:arrOf Tryz.prog 40=none:=by kernel_rfl
@[go_sem] theorem fk_40:fieldsKnown Tryz.prog 40=true:=by kernel_rfl
@[go_sem] theorem ze_40:zeros Tryz.prog 40=some [.nil,.nil,.nil,.nil]:=by kernel_rfl
@[go_sem] theorem sz_41:szOf Tryz.prog 41=1:=by kernel_rfl
@[go_sem] theorem kn_41:knownT Tryz.prog 41=true:=by kernel_rfl
@[go_sem] theorem ag_41:aggOf Tryz.prog 41=false:=by kernel_rfl
@[go_sem] theorem el_41:Go.PA.elemOf Tryz.prog 41=some 89:=by kernel_rfl
@[go_sem] theorem sz_42:szOf Tryz.prog 42=1:=by kernel_rfl
@[go_sem] theorem kn_42:knownT Tryz.prog 42=true:=by kernel_rfl
@[go_sem] theorem ag_42:aggOf Tryz.prog 42=false:=by kernel_rfl
@[go_sem] theorem el_42:Go.PA.elemOf Tryz.prog 42=some 173:=by kernel_rfl
@[go_sem] theorem sz_43:szOf Tryz.prog 43=1:=by kernel_rfl
@[go_sem] theorem kn_43:knownT Tryz.prog 43=true:=by kernel_rfl
@[go_sem] theorem ag_43:aggOf Tryz.prog 43=false:=by kernel_rfl
@[go_sem] theorem el_43:Go.PA.elemOf Tryz.prog 43=some 70:=by kernel_rfl
@[go_sem] theorem sz_45:szOf Tryz.prog 45=3:=by kernel_rfl
@[go_sem] theorem kn_45:knownT Tryz.prog 45=true:=by kernel_rfl
@[go_sem] theorem ag_45:aggOf Tryz.prog 45=true:=by kernel_rfl
@[go_sem] theorem fd_45_0:fieldOf Tryz.prog 45 0=some (0,41):=by kernel_rfl
@[go_sem] theorem fd_45_1:fieldOf Tryz.prog 45 1=some (1,42):=by kernel_rfl
@[go_sem] theorem fd_45_2:fieldOf Tryz.prog 45 2=some (2,43):=by kernel_rfl
@[go_sem] theorem ar_45:arrOf Tryz.prog 45=none:=by kernel_rfl
@[go_sem] theorem fk_45:fieldsKnown Tryz.prog 45=true:=by kernel_rfl
@[go_sem] theorem ze_45:zeros Tryz.prog 45=some [.nil,.nil,.nil]:=by kernel_rfl
@[go_sem] theorem sz_46:szOf Tryz.prog 46=1:=by kernel_rfl
@[go_sem] theorem kn_46:knownT Tryz.prog 46=true:=by kernel_rfl
@[go_sem] theorem ag_46:aggOf Tryz.prog 46=false:=by kernel_rfl
@[go_sem] theorem el_46:Go.PA.elemOf Tryz.prog 46=some 77:=by kernel_rfl
@[go_sem] theorem sz_48:szOf Tryz.prog 48=1:=by kernel_rfl
@[go_sem] theorem kn_48:knownT Tryz.prog 48=true:=by kernel_rfl
@[go_sem] theorem ag_48:aggOf Tryz.prog 48=true:=by kernel_rfl
@[go_sem] theorem fd_48_0:fieldOf Tryz.prog 48 0=some (0,46):=by kernel_rfl
@[go_sem] theorem ar_48:arrOf Tryz.prog 48=none:=by kernel_rfl
@[go_sem] theorem fk_48:fieldsKnown Tryz.prog 48=true:=by kernel_rfl
@[go_sem] theorem ze_48:zeros Tryz.prog 48=some [.nil]:=by kernel_rfl
@[go_sem] theorem sz_50:szOf Tryz.prog 50=15:=by kernel_rfl
@[go_sem] theorem kn_50:knownT Tryz.prog 50=true:=by kernel_rfl
@[go_sem] theorem ag_50:aggOf Tryz.prog 50=true:=by kernel_rfl
@[go_sem] theorem fd_50_0:fieldOf Tryz.prog 50 0=some (0,35):=by kernel_rfl
@[go_sem] theorem fd_50_1:fieldOf Tryz.prog 50 1=some (7,40):=by kernel_rfl
@[go_sem] theorem fd_50_2:fieldOf Tryz.prog 50 2=some (11,45):=by kernel_rfl
@[go_sem] theorem fd_50_3:fieldOf Tryz.prog 50 3=some (14,48):=by kernel_rfl
@[go_sem] theorem fk_50:fieldsKnown Tryz.prog 50=true:=by kernel_rfl
@[go_sem] theorem ze_50:zeros Tryz.prog 50=some [.sc (.int .i64 0),.nil,.nil,.nil,.nil,.nil,.nil,.nil,.nil,.nil,.nil,.nil,.nil,.nil,.nil]:=by kernel_rfl
@[go_sem] theorem sz_51:szOf Tryz.prog 51=1:=by kernel_rfl
@[go_sem] theorem kn_51:knownT Tryz.prog 51=true:=by kernel_rfl
@[go_sem] theorem ag_51:aggOf Tryz.prog 51=false:=by kernel_rfl
@[go_sem] theorem el_56:Go.PA.elemOf Tryz.prog 56=some 59:=by kernel_rfl
@[go_sem] theorem sz_59:szOf Tryz.prog 59=7:=by kernel_rfl
@[go_sem] theorem kn_59:knownT Tryz.prog 59=true:=by kernel_rfl
@[go_sem] theorem ag_59:aggOf Tryz.prog 59=true:=by kernel_rfl
@[go_sem] theorem fd_59_0:fieldOf Tryz.prog 59 0=some (0,3):=by kernel_rfl
@[go_sem] theorem fd_59_1:fieldOf Tryz.prog 59 1=some (1,3):=by kernel_rfl
@[go_sem] theorem fd_59_2:fieldOf Tryz.prog 59 2=some (2,3):=by kernel_rfl
@[go_sem] theorem fd_59_3:fieldOf Tryz.prog 59 3=some (3,3):=by kernel_rfl
@[go_sem] theorem fd_59_4:fieldOf Tryz.prog 59 4=some (4,3):=by kernel_rfl
@[go_sem] theorem fd_59_5:fieldOf Tryz.prog 59 5=some (5,3):=by kernel_rfl
@[go_sem] theorem fd_59_6:fieldOf Tryz.prog 59 6=some (6,3):=by kernel_rfl
@[go_sem] theorem ar_59:arrOf Tryz.prog 59=none:=by kernel_rfl
@[go_sem] theorem fk_59:fieldsKnown Tryz.prog 59=true:=by kernel_rfl
@[go_sem] theorem ze_59:zeros Tryz.prog 59=some [.sc (.int .i64 0),.sc (.int .i64 0),.sc (.int .i64 0),.sc (.int .i64 0),.sc (.int .i64 0),.sc (.int .i64 0),.sc (.int .i64 0)]:=by kernel_rfl
@[go_sem] theorem by_59:bytesOf Tryz.prog 59=56:=by kernel_rfl
@[go_sem] theorem sz_70:szOf Tryz.prog 70=7:=by kernel_rfl
@[go_sem] theorem kn_70:knownT Tryz.prog 70=true:=by kernel_rfl
@[go_sem] theorem ag_70:aggOf Tryz.prog 70=true:=by kernel_rfl
@[go_sem] theorem fd_70_0:fieldOf Tryz.prog 70 0=some (0,3):=by kernel_rfl
@[go_sem] theorem fd_70_1:fieldOf Tryz.prog 70 1=some (1,3):=by kernel_rfl
@[go_sem] theorem fd_70_2:fieldOf Tryz.prog 70 2=some (2,3):=by kernel_rfl
@[go_sem] theorem fd_70_3:fieldOf Tryz.prog 70 3=some (3,3):=by kernel_rfl
@[go_sem] theorem fd_70_4:fieldOf Tryz.prog 70 4=some (4,3):=by kernel_rfl
@[go_sem] theorem fd_70_5:fieldOf Tryz.prog 70 5=some (5,3):=by kernel_rfl
@[go_sem] theorem fd_70_6:fieldOf Tryz.prog 70 6=some (6,3):=by kernel_rfl
@[go_sem] theorem ar_70:arrOf Tryz.prog 70=none:=by kernel_rfl
@[go_sem] theorem fk_70:fieldsKnown Tryz.prog 70=true:=by kernel_rfl
@[go_sem] theorem ze_70:zeros Tryz.prog 70=some [.sc (.int .i64 0),.sc (.int .i64 0),.sc (.int .i64 0),.sc (.int .i64 0),.sc (.int .i64 0),.sc (.int .i64 0),.sc (.int .i64 0)]:=by kernel_rfl
@[go_sem] theorem by_70:bytesOf Tryz.prog 70=56:=by kernel_rfl
@[go_sem] theorem sz_75:szOf Tryz.prog 75=6:=by kernel_rfl
@[go_sem] theorem kn_75:knownT Tryz.prog 75=true:=by kernel_rfl
@[go_sem] theorem ag_75:aggOf Tryz.prog 75=true:=by kernel_rfl
@[go_sem] theorem fd_75_0:fieldOf Tryz.prog 75 0=some (0,3):=by kernel_rfl
@[go_sem] theorem fd_75_1:fieldOf Tryz.prog 75 1=some (1,3):=by kernel_rfl
@[go_sem] theorem fd_75_2:fieldOf Tryz.prog 75 2=some (2,3):=by kernel_rfl
@[go_sem] theorem fd_75_3:fieldOf Tryz.prog 75 3=some (3,3):=by kernel_rfl
@[go_sem] theorem fd_75_4:fieldOf Tryz.prog 75 4=some (4,3):=by kernel_rfl
@[go_sem] theorem fd_75_5:fieldOf Tryz.prog 75 5=some (5,3):=by kernel_rfl
@[go_sem] theorem ar_75:arrOf Tryz.prog 75=none:=by kernel_rfl
@[go_sem] theorem fk_75:fieldsKnown Tryz.prog 75=true:=by kernel_rfl
@[go_sem] theorem ze_75:zeros Tryz.prog 75=some [.sc (.int .i64 0),.sc (.int .i64 0),.sc (.int .i64 0),.sc (.int .i64 0),.sc (.int .i64 0),.sc (.int .i64 0)]:=by kernel_rfl
@[go_sem] theorem by_75:bytesOf Tryz.prog 75=48:=by kernel_rfl
@[go_sem] theorem sz_77:szOf Tryz.prog 77=8:=by kernel_rfl
@[go_sem] theorem kn_77:knownT Tryz.prog 77=true:=by kernel_rfl
@[go_sem] theorem ag_77:aggOf Tryz.prog 77=true:=by kernel_rfl
@[go_sem] theorem fd_77_0:fieldOf Tryz.prog 77 0=some (0,3):=by kernel_rfl
@[go_sem] theorem fd_77_1:fieldOf Tryz.prog 77 1=some (1,3):=by kernel_rfl
@[go_sem] theorem fd_77_2:fieldOf Tryz.prog 77 2=some (2,3):=by kernel_rfl
@[go_sem] theorem fd_77_3:fieldOf Tryz.prog 77 3=some (3,3):=by kernel_rfl
@[go_sem] theorem fd_77_4:fieldOf Tryz.prog 77 4=some (4,3):=by kernel_rfl
@[go_sem] theorem fd_77_5:fieldOf Tryz.prog 77 5=some (5,3):=by kernel_rfl
@[go_sem] theorem fd_77_6:fieldOf Tryz.prog 77 6=some (6,3):=by kernel_rfl
@[go_sem] theorem fd_77_7:fieldOf Tryz.prog 77 7=some (7,3):=by kernel_rfl
@[go_sem] theorem ar_77:arrOf Tryz.prog 77=none:=by kernel_rfl
@[go_sem] theorem fk_77:fieldsKnown Tryz.prog 77=true:=by kernel_rfl
@[go_sem] theorem sg_77:sigOf Tryz.prog 77=some [.int,.int,.int,.int,.int,.int,.int,.int]:=by kernel_rfl
@[go_sem] theorem ze_77:zeros Tryz.prog 77=some [.sc (.int .i64 0),.sc (.int .i64 0),.sc (.int .i64 0),.sc (.int .i64 0),.sc (.int .i64 0),.sc (.int .i64 0),.sc (.int .i64 0),.sc (.int .i64 0)]:=by kernel_rfl
@[go_sem] theorem by_77:bytesOf Tryz.prog 77=64:=by kernel_rfl
@[go_sem] theorem sz_79:szOf Tryz.prog 79=5:=by kernel_rfl
@[go_sem] theorem kn_79:knownT Tryz.prog 79=true:=by kernel_rfl
@[go_sem] theorem ag_79:aggOf Tryz.prog 79=true:=by kernel_rfl
@[go_sem] theorem fd_79_0:fieldOf Tryz.prog 79 0=some (0,3):=by kernel_rfl
@[go_sem] theorem fd_79_1:fieldOf Tryz.prog 79 1=some (1,3):=by kernel_rfl
@[go_sem] theorem fd_79_2:fieldOf Tryz.prog 79 2=some (2,3):=by kernel_rfl
@[go_sem] theorem fd_79_3:fieldOf Tryz.prog 79 3=some (3,3):=by kernel_rfl
@[go_sem] theorem fd_79_4:fieldOf Tryz.prog 79 4=some (4,3):=by kernel_rfl
@[go_sem] theorem ar_79:arrOf Tryz.prog 79=none:=by kernel_rfl
@[go_sem] theorem fk_79:fieldsKnown Tryz.prog 79=true:=by kernel_rfl
@[go_sem] theorem ze_79:zeros Tryz.prog 79=some [.sc (.int .i64 0),.sc (.int .i64 0),.sc (.int .i64 0),.sc (.int .i64 0),.sc (.int .i64 0)]:=by kernel_rfl
@[go_sem] theorem by_79:bytesOf Tryz.prog 79=40:=by kernel_rfl
@[go_sem] theorem sz_81:szOf Tryz.prog 81=5:=by kernel_rfl
@[go_sem] theorem kn_81:knownT Tryz.prog 81=true:=by kernel_rfl
@[go_sem] theorem ag_81:aggOf Tryz.prog 81=true:=by kernel_rfl
@[go_sem] theorem fd_81_0:fieldOf Tryz.prog 81 0=some (0,3):=by kernel_rfl
@[go_sem] theorem fd_81_1:fieldOf Tryz.prog 81 1=some (1,3):=by kernel_rfl
@[go_sem] theorem fd_81_2:fieldOf Tryz.prog 81 2=some (2,3):=by kernel_rfl
@[go_sem] theorem fd_81_3:fieldOf Tryz.prog 81 3=some (3,3):=by kernel_rfl
@[go_sem] theorem fd_81_4:fieldOf Tryz.prog 81 4=some (4,3):=by kernel_rfl
@[go_sem] theorem ar_81:arrOf Tryz.prog 81=none:=by kernel_rfl
@[go_sem] theorem fk_81:fieldsKnown Tryz.prog 81=true:=by kernel_rfl
@[go_sem] theorem sg_81:sigOf Tryz.prog 81=some [.int,.int,.int,.int,.int]:=by kernel_rfl
@[go_sem] theorem ze_81:zeros Tryz.prog 81=some [.sc (.int .i64 0),.sc (.int .i64 0),.sc (.int .i64 0),.sc (.int .i64 0),.sc (.int .i64 0)]:=by kernel_rfl
@[go_sem] theorem by_81:bytesOf Tryz.prog 81=40:=by kernel_rfl
@[go_sem] theorem sz_83:szOf Tryz.prog 83=7:=by kernel_rfl
@[go_sem] theorem kn_83:knownT Tryz.prog 83=true:=by kernel_rfl
@[go_sem] theorem ag_83:aggOf Tryz.prog 83=true:=by kernel_rfl
@[go_sem] theorem fd_83_0:fieldOf Tryz.prog 83 0=some (0,81):=by kernel_rfl
@[go_sem] theorem fd_83_1:fieldOf Tryz.prog 83 1=some (5,3):=by kernel_rfl
@[go_sem] theorem fd_83_2:fieldOf Tryz.prog 83 2=some (6,3):=by kernel_rfl
@[go_sem] theorem ar_83:arrOf Tryz.prog 83=none:=by kernel_rfl
@[go_sem] theorem fk_83:fieldsKnown Tryz.prog 83=true:=by kernel_rfl
@[go_sem] theorem ze_83:zeros Tryz.prog 83=some [.sc (.int .i64 0),.sc (.int .i64 0),.sc (.int .i64 0),.sc (.int .i64 0),.sc (.int .i64 0),.sc (.int .i64 0),.sc (.int .i64 0)]:=by kernel_rfl
@[go_sem] theorem by_83:bytesOf Tryz.prog 83=56:=by kernel_rfl
@[go_sem] theorem fd_85_0:fieldOf Tryz.prog 85 0=some (0,22):=by kernel_rfl
@[go_sem] theorem ar_85:arrOf Tryz.prog 85=none:=by kernel_rfl
@[go_sem] theorem fk_85:fieldsKnown Tryz.prog 85=true:=by kernel_rfl
@[go_sem] theorem ze_85:zeros Tryz.prog 85=some [.nil,.sc (.int .i64 0)]:=by kernel_rfl
@[go_sem] theorem sz_89:szOf Tryz.prog 89=7:=by kernel_rfl
@[go_sem] theorem kn_89:knownT Tryz.prog 89=true:=by kernel_rfl
@[go_sem] theorem ag_89:aggOf Tryz.prog 89=true:=by kernel_rfl
@[go_sem] theorem fd_89_0:fieldOf Tryz.prog 89 0=some (0,3):=by kernel_rfl
@[go_sem] theorem fd_89_1:fieldOf Tryz.prog 89 1=some (1,3):=by kernel_rfl
@[go_sem] theorem fd_89_2:fieldOf Tryz.prog 89 2=some (2,3):=by kernel_rfl
@[go_sem] theorem fd_89_3:fieldOf Tryz.prog 89 3=some (3,3):=by kernel_rfl
@[go_sem] theorem fd_89_4:fieldOf Tryz.prog 89 4=some (4,3):=by kernel_rfl
@[go_sem] theorem fd_89_5:fieldOf Tryz.prog 89 5=some (5,3):=by kernel_rfl
@[go_sem] theorem ar_89:arrOf Tryz.prog 89=none:=by kernel_rfl
@[go_sem] theorem fk_89:fieldsKnown Tryz.prog 89=true:=by kernel_rfl
@[go_sem] theorem ze_89:zeros Tryz.prog 89=some [.sc (.int .i64 0),.sc (.int .i64 0),.sc (.int .i64 0),.sc (.int .i64 0),.sc (.int .i64 0),.sc (.int .i64 0),.sc (.bool false)]:=by kernel_rfl
@[go_sem] theorem by_89:bytesOf Tryz.prog 89=56:=by kernel_rfl
@[go_sem] theorem fd_96_0:fieldOf Tryz.prog 96 0=some (0,50):=by kernel_rfl
@[go_sem] theorem fd_96_1:fieldOf Tryz.prog 96 1=some (15,3):=by kernel_rfl
@[go_sem] theorem ar_96:arrOf Tryz.prog 96=none:=by kernel_rfl
@[go_sem] theorem fk_96:fieldsKnown Tryz.prog 96=true:=by kernel_rfl
@[go_sem] theorem ze_96:zeros Tryz.prog 96=some [.sc (.int .i64 0),.nil,.nil,.nil,.nil,.nil,.nil,.nil,.nil,.nil,.nil,.nil,.nil,.nil,.nil,.sc (.int .i64 0)]:=by kernel_rfl
@[go_sem] theorem sz_121:szOf Tryz.prog 121=2:=by kernel_rfl
@[go_sem] theorem kn_121:knownT Tryz.prog 121=true:=by kernel_rfl
@[go_sem] theorem ag_121:aggOf Tryz.prog 121=true:=by kernel_rfl
@[go_sem] theorem fd_121_0:fieldOf Tryz.prog 121 0=some (0,3):=by kernel_rfl
@[go_sem] theorem fd_121_1:fieldOf Tryz.prog 121 1=some (1,3):=by kernel_rfl
@[go_sem] theorem ar_121:arrOf Tryz.prog 121=none:=by kernel_rfl
@[go_sem] theorem fk_121:fieldsKnown Tryz.prog 121=true:=by kernel_rfl
@[go_sem] theorem sg_121:sigOf Tryz.prog 121=some [.int,.int]:=by kernel_rfl
@[go_sem] theorem ze_121:zeros Tryz.prog 121=some [.sc (.int .i64 0),.sc (.int .i64 0)]:=by kernel_rfl
@[go_sem] theorem by_121:bytesOf Tryz.prog 121=16:=by kernel_rfl
@[go_sem] theorem sz_123:szOf Tryz.prog 123=500:=by kernel_rfl
@[go_sem] theorem kn_123:knownT Tryz.prog 123=true:=by kernel_rfl
@[go_sem] theorem ag_123:aggOf Tryz.prog 123=true:=by kernel_rfl
@[go_sem] theorem el_123:Go.PA.elemOf Tryz.prog 123=none:=by kernel_rfl
@[go_sem] theorem ar_123:arrOf Tryz.prog 123=some (500,3):=by kernel_rfl
theorem ze_123:zeros Tryz.prog 123=some (List.replicate 500 (.sc (.int .i64 0))):=by kernel_rfl
@[go_sem] theorem sz_140:szOf Tryz.prog 140=3:=by kernel_rfl
@[go_sem] theorem kn_140:knownT Tryz.prog 140=true:=by kernel_rfl
@[go_sem] theorem ag_140:aggOf Tryz.prog 140=true:=by kernel_rfl
@[go_sem] theorem fd_140_0:fieldOf Tryz.prog 140 0=some (0,3):=by kernel_rfl
@[go_sem] theorem fd_140_1:fieldOf Tryz.prog 140 1=some (1,3):=by kernel_rfl
@[go_sem] theorem fd_140_2:fieldOf Tryz.prog 140 2=some (2,29):=by kernel_rfl
@[go_sem] theorem ar_140:arrOf Tryz.prog 140=none:=by kernel_rfl
@[go_sem] theorem fk_140:fieldsKnown Tryz.prog 140=true:=by kernel_rfl
@[go_sem] theorem ze_140:zeros Tryz.prog 140=some [.sc (.int .i64 0),.sc (.int .i64 0),.nil]:=by kernel_rfl
@[go_sem] theorem by_140:bytesOf Tryz.prog 140=40:=by kernel_rfl
@[go_sem] theorem kn_142:knownT Tryz.prog 142=true:=by kernel_rfl
@[go_sem] theorem ag_142:aggOf Tryz.prog 142=false:=by kernel_rfl
@[go_sem] theorem sz_145:szOf Tryz.prog 145=6:=by kernel_rfl
@[go_sem] theorem kn_145:knownT Tryz.prog 145=true:=by kernel_rfl
@[go_sem] theorem ag_145:aggOf Tryz.prog 145=true:=by kernel_rfl
@[go_sem] theorem fd_145_0:fieldOf Tryz.prog 145 0=some (0,3):=by kernel_rfl
@[go_sem] theorem ze_145:zeros Tryz.prog 145=some [.sc (.int .i64 0),.sc (.int .i64 0),.sc (.int .i64 0),.sc (.int .i64 0),.sc (.int .i64 0),.sc (.string ByteArray.empty)]:=by kernel_rfl
@[go_sem] theorem by_145:bytesOf Tryz.prog 145=56:=by kernel_rfl
@[go_sem] theorem sz_149:szOf Tryz.prog 149=3:=by kernel_rfl
@[go_sem] theorem kn_149:knownT Tryz.prog 149=true:=by kernel_rfl
@[go_sem] theorem ze_149:zeros Tryz.prog 149=some [.sc (.int .i64 0),.sc (.int .i64 0),.sc (.int .i64 0)]:=by kernel_rfl
@[go_sem] theorem by_149:bytesOf Tryz.prog 149=24:=by kernel_rfl
@[go_sem] theorem sz_163:szOf Tryz.prog 163=2:=by kernel_rfl
@[go_sem] theorem kn_163:knownT Tryz.prog 163=true:=by kernel_rfl
@[go_sem] theorem ag_163:aggOf Tryz.prog 163=true:=by kernel_rfl
@[go_sem] theorem fd_163_0:fieldOf Tryz.prog 163 0=some (0,3):=by kernel_rfl
@[go_sem] theorem fd_163_1:fieldOf Tryz.prog 163 1=some (1,51):=by kernel_rfl
@[go_sem] theorem ar_163:arrOf Tryz.prog 163=none:=by kernel_rfl
@[go_sem] theorem fk_163:fieldsKnown Tryz.prog 163=true:=by kernel_rfl
@[go_sem] theorem ze_163:zeros Tryz.prog 163=some [.sc (.int .i64 0),.sc (.int .i64 0)]:=by kernel_rfl
@[go_sem] theorem el_166:Go.PA.elemOf Tryz.prog 166=some 163:=by kernel_rfl
@[go_sem] theorem sz_173:szOf Tryz.prog 173=3:=by kernel_rfl
@[go_sem] theorem kn_173:knownT Tryz.prog 173=true:=by kernel_rfl
@[go_sem] theorem ag_173:aggOf Tryz.prog 173=true:=by kernel_rfl
@[go_sem] theorem fd_173_0:fieldOf Tryz.prog 173 0=some (0,3):=by kernel_rfl
@[go_sem] theorem fd_173_1:fieldOf Tryz.prog 173 1=some (1,3):=by kernel_rfl
@[go_sem] theorem fd_173_2:fieldOf Tryz.prog 173 2=some (2,3):=by kernel_rfl
@[go_sem] theorem ar_173:arrOf Tryz.prog 173=none:=by kernel_rfl
@[go_sem] theorem fk_173:fieldsKnown Tryz.prog 173=true:=by kernel_rfl
@[go_sem] theorem sg_173:sigOf Tryz.prog 173=some [.int,.int,.int]:=by kernel_rfl
@[go_sem] theorem ze_173:zeros Tryz.prog 173=some [.sc (.int .i64 0),.sc (.int .i64 0),.sc (.int .i64 0)]:=by kernel_rfl
@[go_sem] theorem by_173:bytesOf Tryz.prog 173=24:=by kernel_rfl
@[go_sem] theorem fd_183_0:fieldOf Tryz.prog 183 0=some (0,41):=by kernel_rfl
@[go_sem] theorem fd_183_1:fieldOf Tryz.prog 183 1=some (1,42):=by kernel_rfl
@[go_sem] theorem fd_183_2:fieldOf Tryz.prog 183 2=some (2,3):=by kernel_rfl
@[go_sem] theorem fd_183_3:fieldOf Tryz.prog 183 3=some (3,3):=by kernel_rfl
@[go_sem] theorem ar_183:arrOf Tryz.prog 183=none:=by kernel_rfl
@[go_sem] theorem fk_183:fieldsKnown Tryz.prog 183=true:=by kernel_rfl
@[go_sem] theorem ze_183:zeros Tryz.prog 183=some [.nil,.nil,.sc (.int .i64 0),.sc (.int .i64 0)]:=by kernel_rfl
@[go_sem] theorem fd_216_0:fieldOf Tryz.prog 216 0=some (0,3):=by kernel_rfl
@[go_sem] theorem fd_216_1:fieldOf Tryz.prog 216 1=some (1,3):=by kernel_rfl
@[go_sem] theorem fd_216_2:fieldOf Tryz.prog 216 2=some (2,3):=by kernel_rfl
@[go_sem] theorem fd_216_3:fieldOf Tryz.prog 216 3=some (3,25):=by kernel_rfl
@[go_sem] theorem ar_216:arrOf Tryz.prog 216=none:=by kernel_rfl
@[go_sem] theorem fk_216:fieldsKnown Tryz.prog 216=true:=by kernel_rfl
@[go_sem] theorem ze_216:zeros Tryz.prog 216=some [.sc (.int .i64 0),.sc (.int .i64 0),.sc (.int .i64 0),.nil]:=by kernel_rfl
@[go_sem] theorem mp_285:mapOf Tryz.prog 285=some (3,.int .i64,4):=by kernel_rfl
@[go_sem] theorem mi_285:IMap Tryz.prog 285 (.sc (.bool false)):=⟨_,_,mp_285,by kernel_rfl⟩
@[go_sem] theorem fd_288_0:fieldOf Tryz.prog 288 0=some (0,3):=by kernel_rfl
@[go_sem] theorem fd_288_1:fieldOf Tryz.prog 288 1=some (1,3):=by kernel_rfl
@[go_sem] theorem fd_288_2:fieldOf Tryz.prog 288 2=some (2,3):=by kernel_rfl
@[go_sem] theorem ar_288:arrOf Tryz.prog 288=none:=by kernel_rfl
@[go_sem] theorem fk_288:fieldsKnown Tryz.prog 288=true:=by kernel_rfl
@[go_sem] theorem sg_288:sigOf Tryz.prog 288=some [.int,.int,.int]:=by kernel_rfl
@[go_sem] theorem ze_288:zeros Tryz.prog 288=some [.sc (.int .i64 0),.sc (.int .i64 0),.sc (.int .i64 0)]:=by kernel_rfl
@[go_sem] theorem sz_303:szOf Tryz.prog 303=2:=by kernel_rfl
@[go_sem] theorem kn_303:knownT Tryz.prog 303=true:=by kernel_rfl
@[go_sem] theorem ag_303:aggOf Tryz.prog 303=true:=by kernel_rfl
@[go_sem] theorem fd_303_0:fieldOf Tryz.prog 303 0=some (0,3):=by kernel_rfl
@[go_sem] theorem fd_303_1:fieldOf Tryz.prog 303 1=some (1,3):=by kernel_rfl
@[go_sem] theorem ar_303:arrOf Tryz.prog 303=none:=by kernel_rfl
@[go_sem] theorem fk_303:fieldsKnown Tryz.prog 303=true:=by kernel_rfl
@[go_sem] theorem ze_303:zeros Tryz.prog 303=some [.sc (.int .i64 0),.sc (.int .i64 0)]:=by kernel_rfl
@[go_sem] theorem en_7:enterable Tryz.prog 7=true:=by kernel_rfl
@[go_sem] theorem en_8:enterable Tryz.prog 8=true:=by kernel_rfl
@[go_sem] theorem en_9:enterable Tryz.prog 9=true:=by kernel_rfl
@[go_sem] theorem en_10:enterable Tryz.prog 10=true:=by kernel_rfl
@[go_sem] theorem en_11:enterable Tryz.prog 11=true:=by kernel_rfl
@[go_sem] theorem en_12:enterable Tryz.prog 12=true:=by kernel_rfl
@[go_sem] theorem en_13:enterable Tryz.prog 13=true:=by kernel_rfl
@[go_sem] theorem en_14:enterable Tryz.prog 14=true:=by kernel_rfl
@[go_sem] theorem en_15:enterable Tryz.prog 15=true:=by kernel_rfl
@[go_sem] theorem en_16:enterable Tryz.prog 16=true:=by kernel_rfl
@[go_sem] theorem en_17:enterable Tryz.prog 17=true:=by kernel_rfl
@[go_sem] theorem en_18:enterable Tryz.prog 18=true:=by kernel_rfl
@[go_sem] theorem en_19:enterable Tryz.prog 19=true:=by kernel_rfl
@[go_sem] theorem en_20:enterable Tryz.prog 20=true:=by kernel_rfl
@[go_sem] theorem en_23:enterable Tryz.prog 23=true:=by kernel_rfl
@[go_sem] theorem en_24:enterable Tryz.prog 24=true:=by kernel_rfl
@[go_sem] theorem en_25:enterable Tryz.prog 25=true:=by kernel_rfl
@[go_sem] theorem en_26:enterable Tryz.prog 26=true:=by kernel_rfl
@[go_sem] theorem en_27:enterable Tryz.prog 27=true:=by kernel_rfl
@[go_sem] theorem en_28:enterable Tryz.prog 28=true:=by kernel_rfl
@[go_sem] theorem en_29:enterable Tryz.prog 29=true:=by kernel_rfl
@[go_sem] theorem en_30:enterable Tryz.prog 30=true:=by kernel_rfl
@[go_sem] theorem en_31:enterable Tryz.prog 31=true:=by kernel_rfl
@[go_sem] theorem en_32:enterable Tryz.prog 32=true:=by kernel_rfl
@[go_sem] theorem en_33:enterable Tryz.prog 33=true:=by kernel_rfl
@[go_sem] theorem en_34:enterable Tryz.prog 34=true:=by kernel_rfl
@[go_sem] theorem en_35:enterable Tryz.prog 35=true:=by kernel_rfl
@[go_sem] theorem en_36:enterable Tryz.prog 36=true:=by kernel_rfl
@[go_sem] theorem en_37:enterable Tryz.prog 37=true:=by kernel_rfl
@[go_sem] theorem en_38:enterable Tryz.prog 38=true:=by kernel_rfl
@[go_sem] theorem en_39:enterable Tryz.prog 39=true:=by kernel_rfl
@[go_sem] theorem en_40:enterable Tryz.prog 40=true:=by kernel_rfl
@[go_sem] theorem en_42:enterable Tryz.prog 42=true:=by kernel_rfl
@[go_sem] theorem en_43:enterable Tryz.prog 43=true:=by kernel_rfl
@[go_sem] theorem en_44:enterable Tryz.prog 44=true:=by kernel_rfl
@[go_sem] theorem en_45:enterable Tryz.prog 45=true:=by kernel_rfl
@[go_sem] theorem en_46:enterable Tryz.prog 46=true:=by kernel_rfl
@[go_sem] theorem en_47:enterable Tryz.prog 47=true:=by kernel_rfl
@[go_sem] theorem en_48:enterable Tryz.prog 48=true:=by kernel_rfl
@[go_sem] theorem en_49:enterable Tryz.prog 49=true:=by kernel_rfl
@[go_sem] theorem en_50:enterable Tryz.prog 50=true:=by kernel_rfl
@[go_sem] theorem en_51:enterable Tryz.prog 51=true:=by kernel_rfl
@[go_sem] theorem en_52:enterable Tryz.prog 52=true:=by kernel_rfl
@[go_sem] theorem en_55:enterable Tryz.prog 55=true:=by kernel_rfl
@[go_sem] theorem en_56:enterable Tryz.prog 56=true:=by kernel_rfl
@[go_sem] theorem en_57:enterable Tryz.prog 57=true:=by kernel_rfl
@[go_sem] theorem en_59:enterable Tryz.prog 59=true:=by kernel_rfl
@[go_sem] theorem en_60:enterable Tryz.prog 60=true:=by kernel_rfl
@[go_sem] theorem en_61:enterable Tryz.prog 61=true:=by kernel_rfl
@[go_sem] theorem en_62:enterable Tryz.prog 62=true:=by kernel_rfl
@[go_sem] theorem en_63:enterable Tryz.prog 63=true:=by kernel_rfl
@[go_sem] theorem en_64:enterable Tryz.prog 64=true:=by kernel_rfl
@[go_sem] theorem en_65:enterable Tryz.prog 65=true:=by kernel_rfl
@[go_sem] theorem en_66:enterable Tryz.prog 66=true:=by kernel_rfl
@[go_sem] theorem en_67:enterable Tryz.prog 67=true:=by kernel_rfl
@[go_sem] theorem en_68:enterable Tryz.prog 68=true:=by kernel_rfl
@[go_sem] theorem en_69:enterable Tryz.prog 69=true:=by kernel_rfl
@[go_sem] theorem en_70:enterable Tryz.prog 70=true:=by kernel_rfl
@[go_sem] theorem en_71:enterable Tryz.prog 71=true:=by kernel_rfl
@[go_sem] theorem en_72:enterable Tryz.prog 72=true:=by kernel_rfl
@[go_sem] theorem en_73:enterable Tryz.prog 73=true:=by kernel_rfl
@[go_sem] theorem en_74:enterable Tryz.prog 74=true:=by kernel_rfl
@[go_sem] theorem en_75:enterable Tryz.prog 75=true:=by kernel_rfl
@[go_sem] theorem en_76:enterable Tryz.prog 76=true:=by kernel_rfl
@[go_sem] theorem en_77:enterable Tryz.prog 77=true:=by kernel_rfl
@[go_sem] theorem en_78:enterable Tryz.prog 78=true:=by kernel_rfl
@[go_sem] theorem en_79:enterable Tryz.prog 79=true:=by kernel_rfl
@[go_sem] theorem en_80:enterable Tryz.prog 80=true:=by kernel_rfl
@[go_sem] theorem en_81:enterable Tryz.prog 81=true:=by kernel_rfl
@[go_sem] theorem en_82:enterable Tryz.prog 82=true:=by kernel_rfl
@[go_sem] theorem en_83:enterable Tryz.prog 83=true:=by kernel_rfl
@[go_sem] theorem en_84:enterable Tryz.prog 84=true:=by kernel_rfl
@[go_sem] theorem en_85:enterable Tryz.prog 85=true:=by kernel_rfl
@[go_sem] theorem en_86:enterable Tryz.prog 86=true:=by kernel_rfl
@[go_sem] theorem en_87:enterable Tryz.prog 87=true:=by kernel_rfl
@[go_sem] theorem en_88:enterable Tryz.prog 88=true:=by kernel_rfl
@[go_sem] theorem en_89:enterable Tryz.prog 89=true:=by kernel_rfl
@[go_sem] theorem en_90:enterable Tryz.prog 90=true:=by kernel_rfl
@[go_sem] theorem en_93:enterable Tryz.prog 93=true:=by kernel_rfl
@[go_sem] theorem en_94:enterable Tryz.prog 94=true:=by kernel_rfl
@[go_sem] theorem en_95:enterable Tryz.prog 95=true:=by kernel_rfl
@[go_sem] theorem en_96:enterable Tryz.prog 96=true:=by kernel_rfl
@[go_sem] theorem en_97:enterable Tryz.prog 97=true:=by kernel_rfl
@[go_sem] theorem en_98:enterable Tryz.prog 98=true:=by kernel_rfl
@[go_sem] theorem en_99:enterable Tryz.prog 99=true:=by kernel_rfl
@[go_sem] theorem en_100:enterable Tryz.prog 100=true:=by kernel_rfl
@[go_sem] theorem en_101:enterable Tryz.prog 101=true:=by kernel_rfl
@[go_sem] theorem en_102:enterable Tryz.prog 102=true:=by kernel_rfl
@[go_sem] theorem en_103:enterable Tryz.prog 103=true:=by kernel_rfl
@[go_sem] theorem en_104:enterable Tryz.prog 104=true:=by kernel_rfl
@[go_sem] theorem en_105:enterable Tryz.prog 105=true:=by kernel_rfl
@[go_sem] theorem en_106:enterable Tryz.prog 106=true:=by kernel_rfl
@[go_sem] theorem en_109:enterable Tryz.prog 109=true:=by kernel_rfl
@[go_sem] theorem en_110:enterable Tryz.prog 110=true:=by kernel_rfl
@[go_sem] theorem en_111:enterable Tryz.prog 111=true:=by kernel_rfl
@[go_sem] theorem en_112:enterable Tryz.prog 112=true:=by kernel_rfl
@[go_sem] theorem en_113:enterable Tryz.prog 113=true:=by kernel_rfl
@[go_sem] theorem en_114:enterable Tryz.prog 114=true:=by kernel_rfl
@[go_sem] theorem en_115:enterable Tryz.prog 115=true:=by kernel_rfl
@[go_sem] theorem en_116:enterable Tryz.prog 116=true:=by kernel_rfl
@[go_sem] theorem en_117:enterable Tryz.prog 117=true:=by kernel_rfl
@[go_sem] theorem en_118:enterable Tryz.prog 118=true:=by kernel_rfl
@[go_sem] theorem en_119:enterable Tryz.prog 119=true:=by kernel_rfl
@[go_sem] theorem en_120:enterable Tryz.prog 120=true:=by kernel_rfl
@[go_sem] theorem en_121:enterable Tryz.prog 121=true:=by kernel_rfl
@[go_sem] theorem en_122:enterable Tryz.prog 122=true:=by kernel_rfl
@[go_sem] theorem en_123:enterable Tryz.prog 123=true:=by kernel_rfl
@[go_sem] theorem en_124:enterable Tryz.prog 124=true:=by kernel_rfl
@[go_sem] theorem en_125:enterable Tryz.prog 125=true:=by kernel_rfl
@[go_sem] theorem en_126:enterable Tryz.prog 126=true:=by kernel_rfl
@[go_sem] theorem en_127:enterable Tryz.prog 127=true:=by kernel_rfl
@[go_sem] theorem en_128:enterable Tryz.prog 128=true:=by kernel_rfl
@[go_sem] theorem en_129:enterable Tryz.prog 129=true:=by kernel_rfl
@[go_sem] theorem en_130:enterable Tryz.prog 130=true:=by kernel_rfl
@[go_sem] theorem en_131:enterable Tryz.prog 131=true:=by kernel_rfl
@[go_sem] theorem en_132:enterable Tryz.prog 132=true:=by kernel_rfl
@[go_sem] theorem en_133:enterable Tryz.prog 133=true:=by kernel_rfl
@[go_sem] theorem en_134:enterable Tryz.prog 134=true:=by kernel_rfl
@[go_sem] theorem en_135:enterable Tryz.prog 135=true:=by kernel_rfl
@[go_sem] theorem en_136:enterable Tryz.prog 136=true:=by kernel_rfl
@[go_sem] theorem en_137:enterable Tryz.prog 137=true:=by kernel_rfl
@[go_sem] theorem en_138:enterable Tryz.prog 138=true:=by kernel_rfl
@[go_sem] theorem en_139:enterable Tryz.prog 139=true:=by kernel_rfl
@[go_sem] theorem en_140:enterable Tryz.prog 140=true:=by kernel_rfl
@[go_sem] theorem en_141:enterable Tryz.prog 141=true:=by kernel_rfl
@[go_sem] theorem en_142:enterable Tryz.prog 142=true:=by kernel_rfl
@[go_sem] theorem en_143:enterable Tryz.prog 143=true:=by kernel_rfl
@[go_sem] theorem en_144:enterable Tryz.prog 144=true:=by kernel_rfl
@[go_sem] theorem en_145:enterable Tryz.prog 145=true:=by kernel_rfl
@[go_sem] theorem en_146:enterable Tryz.prog 146=true:=by kernel_rfl
@[go_sem] theorem en_147:enterable Tryz.prog 147=true:=by kernel_rfl
@[go_sem] theorem en_148:enterable Tryz.prog 148=true:=by kernel_rfl
@[go_sem] theorem en_149:enterable Tryz.prog 149=true:=by kernel_rfl
@[go_sem] theorem en_150:enterable Tryz.prog 150=true:=by kernel_rfl
@[go_sem] theorem en_151:enterable Tryz.prog 151=true:=by kernel_rfl
@[go_sem] theorem en_152:enterable Tryz.prog 152=true:=by kernel_rfl
@[go_sem] theorem en_153:enterable Tryz.prog 153=true:=by kernel_rfl
@[go_sem] theorem en_154:enterable Tryz.prog 154=true:=by kernel_rfl
@[go_sem] theorem en_155:enterable Tryz.prog 155=true:=by kernel_rfl
@[go_sem] theorem en_156:enterable Tryz.prog 156=true:=by kernel_rfl
@[go_sem] theorem en_157:enterable Tryz.prog 157=true:=by kernel_rfl
@[go_sem] theorem en_158:enterable Tryz.prog 158=true:=by kernel_rfl
@[go_sem] theorem en_159:enterable Tryz.prog 159=true:=by kernel_rfl
@[go_sem] theorem en_160:enterable Tryz.prog 160=true:=by kernel_rfl
@[go_sem] theorem en_161:enterable Tryz.prog 161=true:=by kernel_rfl
@[go_sem] theorem en_162:enterable Tryz.prog 162=true:=by kernel_rfl
@[go_sem] theorem en_164:enterable Tryz.prog 164=true:=by kernel_rfl
@[go_sem] theorem en_165:enterable Tryz.prog 165=true:=by kernel_rfl
@[go_sem] theorem en_166:enterable Tryz.prog 166=true:=by kernel_rfl
@[go_sem] theorem en_168:enterable Tryz.prog 168=true:=by kernel_rfl
@[go_sem] theorem en_169:enterable Tryz.prog 169=true:=by kernel_rfl
@[go_sem] theorem en_170:enterable Tryz.prog 170=true:=by kernel_rfl
@[go_sem] theorem en_171:enterable Tryz.prog 171=true:=by kernel_rfl
@[go_sem] theorem en_172:enterable Tryz.prog 172=true:=by kernel_rfl
@[go_sem] theorem en_173:enterable Tryz.prog 173=true:=by kernel_rfl
@[go_sem] theorem en_174:enterable Tryz.prog 174=true:=by kernel_rfl
@[go_sem] theorem en_175:enterable Tryz.prog 175=true:=by kernel_rfl
@[go_sem] theorem en_176:enterable Tryz.prog 176=true:=by kernel_rfl
@[go_sem] theorem en_177:enterable Tryz.prog 177=true:=by kernel_rfl
@[go_sem] theorem en_178:enterable Tryz.prog 178=true:=by kernel_rfl
@[go_sem] theorem en_179:enterable Tryz.prog 179=true:=by kernel_rfl
@[go_sem] theorem en_182:enterable Tryz.prog 182=true:=by kernel_rfl
@[go_sem] theorem en_183:enterable Tryz.prog 183=true:=by kernel_rfl
@[go_sem] theorem en_184:enterable Tryz.prog 184=true:=by kernel_rfl
@[go_sem] theorem en_185:enterable Tryz.prog 185=true:=by kernel_rfl
@[go_sem] theorem en_186:enterable Tryz.prog 186=true:=by kernel_rfl
@[go_sem] theorem en_187:enterable Tryz.prog 187=true:=by kernel_rfl
@[go_sem] theorem en_188:enterable Tryz.prog 188=true:=by kernel_rfl
@[go_sem] theorem en_189:enterable Tryz.prog 189=true:=by kernel_rfl
@[go_sem] theorem en_190:enterable Tryz.prog 190=true:=by kernel_rfl
@[go_sem] theorem en_191:enterable Tryz.prog 191=true:=by kernel_rfl
@[go_sem] theorem en_192:enterable Tryz.prog 192=true:=by kernel_rfl
@[go_sem] theorem en_193:enterable Tryz.prog 193=true:=by kernel_rfl
@[go_sem] theorem en_194:enterable Tryz.prog 194=true:=by kernel_rfl
@[go_sem] theorem en_195:enterable Tryz.prog 195=true:=by kernel_rfl
@[go_sem] theorem en_196:enterable Tryz.prog 196=true:=by kernel_rfl
@[go_sem] theorem en_197:enterable Tryz.prog 197=true:=by kernel_rfl
@[go_sem] theorem en_198:enterable Tryz.prog 198=true:=by kernel_rfl
@[go_sem] theorem en_199:enterable Tryz.prog 199=true:=by kernel_rfl
@[go_sem] theorem en_200:enterable Tryz.prog 200=true:=by kernel_rfl
@[go_sem] theorem en_201:enterable Tryz.prog 201=true:=by kernel_rfl
@[go_sem] theorem en_202:enterable Tryz.prog 202=true:=by kernel_rfl
@[go_sem] theorem en_205:enterable Tryz.prog 205=true:=by kernel_rfl
@[go_sem] theorem en_206:enterable Tryz.prog 206=true:=by kernel_rfl
@[go_sem] theorem en_207:enterable Tryz.prog 207=true:=by kernel_rfl
@[go_sem] theorem en_208:enterable Tryz.prog 208=true:=by kernel_rfl
@[go_sem] theorem en_209:enterable Tryz.prog 209=true:=by kernel_rfl
@[go_sem] theorem en_210:enterable Tryz.prog 210=true:=by kernel_rfl
@[go_sem] theorem en_211:enterable Tryz.prog 211=true:=by kernel_rfl
@[go_sem] theorem en_213:enterable Tryz.prog 213=true:=by kernel_rfl
@[go_sem] theorem en_214:enterable Tryz.prog 214=true:=by kernel_rfl
@[go_sem] theorem en_215:enterable Tryz.prog 215=true:=by kernel_rfl
@[go_sem] theorem en_216:enterable Tryz.prog 216=true:=by kernel_rfl
@[go_sem] theorem en_217:enterable Tryz.prog 217=true:=by kernel_rfl
@[go_sem] theorem en_218:enterable Tryz.prog 218=true:=by kernel_rfl
@[go_sem] theorem en_219:enterable Tryz.prog 219=true:=by kernel_rfl
@[go_sem] theorem en_220:enterable Tryz.prog 220=true:=by kernel_rfl
@[go_sem] theorem en_221:enterable Tryz.prog 221=true:=by kernel_rfl
@[go_sem] theorem en_222:enterable Tryz.prog 222=true:=by kernel_rfl
@[go_sem] theorem en_223:enterable Tryz.prog 223=true:=by kernel_rfl
@[go_sem] theorem en_224:enterable Tryz.prog 224=true:=by kernel_rfl
@[go_sem] theorem en_225:enterable Tryz.prog 225=true:=by kernel_rfl
@[go_sem] theorem en_226:enterable Tryz.prog 226=true:=by kernel_rfl
@[go_sem] theorem en_227:enterable Tryz.prog 227=true:=by kernel_rfl
@[go_sem] theorem en_228:enterable Tryz.prog 228=true:=by kernel_rfl
@[go_sem] theorem en_229:enterable Tryz.prog 229=true:=by kernel_rfl
@[go_sem] theorem en_230:enterable Tryz.prog 230=true:=by kernel_rfl
@[go_sem] theorem en_231:enterable Tryz.prog 231=true:=by kernel_rfl
@[go_sem] theorem en_232:enterable Tryz.prog 232=true:=by kernel_rfl
@[go_sem] theorem en_233:enterable Tryz.prog 233=true:=by kernel_rfl
@[go_sem] theorem en_235:enterable Tryz.prog 235=true:=by kernel_rfl
@[go_sem] theorem en_236:enterable Tryz.prog 236=true:=by kernel_rfl
@[go_sem] theorem en_237:enterable Tryz.prog 237=true:=by kernel_rfl
@[go_sem] theorem en_238:enterable Tryz.prog 238=true:=by kernel_rfl
@[go_sem] theorem en_239:enterable Tryz.prog 239=true:=by kernel_rfl
@[go_sem] theorem en_241:enterable Tryz.prog 241=true:=by kernel_rfl
@[go_sem] theorem en_243:enterable Tryz.prog 243=true:=by kernel_rfl
@[go_sem] theorem en_244:enterable Tryz.prog 244=true:=by kernel_rfl
@[go_sem] theorem en_245:enterable Tryz.prog 245=true:=by kernel_rfl
@[go_sem] theorem en_246:enterable Tryz.prog 246=true:=by kernel_rfl
@[go_sem] theorem en_247:enterable Tryz.prog 247=true:=by kernel_rfl
@[go_sem] theorem en_248:enterable Tryz.prog 248=true:=by kernel_rfl
@[go_sem] theorem en_252:enterable Tryz.prog 252=true:=by kernel_rfl
@[go_sem] theorem en_253:enterable Tryz.prog 253=true:=by kernel_rfl
@[go_sem] theorem en_254:enterable Tryz.prog 254=true:=by kernel_rfl
@[go_sem] theorem en_255:enterable Tryz.prog 255=true:=by kernel_rfl
@[go_sem] theorem en_256:enterable Tryz.prog 256=true:=by kernel_rfl
@[go_sem] theorem en_257:enterable Tryz.prog 257=true:=by kernel_rfl
@[go_sem] theorem en_258:enterable Tryz.prog 258=true:=by kernel_rfl
@[go_sem] theorem en_259:enterable Tryz.prog 259=true:=by kernel_rfl
@[go_sem] theorem en_260:enterable Tryz.prog 260=true:=by kernel_rfl
@[go_sem] theorem en_261:enterable Tryz.prog 261=true:=by kernel_rfl
@[go_sem] theorem en_262:enterable Tryz.prog 262=true:=by kernel_rfl
@[go_sem] theorem en_266:enterable Tryz.prog 266=true:=by kernel_rfl
@[go_sem] theorem en_267:enterable Tryz.prog 267=true:=by kernel_rfl
@[go_sem] theorem en_269:enterable Tryz.prog 269=true:=by kernel_rfl
@[go_sem] theorem en_270:enterable Tryz.prog 270=true:=by kernel_rfl
@[go_sem] theorem en_271:enterable Tryz.prog 271=true:=by kernel_rfl
@[go_sem] theorem en_272:enterable Tryz.prog 272=true:=by kernel_rfl
@[go_sem] theorem en_273:enterable Tryz.prog 273=true:=by kernel_rfl
@[go_sem] theorem en_274:enterable Tryz.prog 274=true:=by kernel_rfl
@[go_sem] theorem en_275:enterable Tryz.prog 275=true:=by kernel_rfl
@[go_sem] theorem en_276:enterable Tryz.prog 276=true:=by kernel_rfl
@[go_sem] theorem en_277:enterable Tryz.prog 277=true:=by kernel_rfl
@[go_sem] theorem en_278:enterable Tryz.prog 278=true:=by kernel_rfl
@[go_sem] theorem en_279:enterable Tryz.prog 279=true:=by kernel_rfl
@[go_sem] theorem en_280:enterable Tryz.prog 280=true:=by kernel_rfl
@[go_sem] theorem en_281:enterable Tryz.prog 281=true:=by kernel_rfl
@[go_sem] theorem en_282:enterable Tryz.prog 282=true:=by kernel_rfl
@[go_sem] theorem en_283:enterable Tryz.prog 283=true:=by kernel_rfl
@[go_sem] theorem en_284:enterable Tryz.prog 284=true:=by kernel_rfl
@[go_sem] theorem en_285:enterable Tryz.prog 285=true:=by kernel_rfl
@[go_sem] theorem en_286:enterable Tryz.prog 286=true:=by kernel_rfl
@[go_sem] theorem en_287:enterable Tryz.prog 287=true:=by kernel_rfl
@[go_sem] theorem en_292:enterable Tryz.prog 292=true:=by kernel_rfl
@[go_sem] theorem en_296:enterable Tryz.prog 296=true:=by kernel_rfl
@[go_sem] theorem en_297:enterable Tryz.prog 297=true:=by kernel_rfl
@[go_sem] theorem en_298:enterable Tryz.prog 298=true:=by kernel_rfl
@[go_sem] theorem en_299:enterable Tryz.prog 299=true:=by kernel_rfl
@[go_sem] theorem en_301:enterable Tryz.prog 301=true:=by kernel_rfl
@[go_sem] theorem en_302:enterable Tryz.prog 302=true:=by kernel_rfl
@[go_sem] theorem en_303:enterable Tryz.prog 303=true:=by kernel_rfl
@[go_sem] theorem en_304:enterable Tryz.prog 304=true:=by kernel_rfl
@[go_sem] theorem en_305:enterable Tryz.prog 305=true:=by kernel_rfl
@[go_sem] theorem en_306:enterable Tryz.prog 306=true:=by kernel_rfl
@[go_sem] theorem en_309:enterable Tryz.prog 309=true:=by kernel_rfl
@[go_sem] theorem en_313:enterable Tryz.prog 313=true:=by kernel_rfl
open Go.RowKit
open Go.PA
abbrev sp (p:Nat):AV:= .sc (.pointer (some ⟨p,0,none⟩))
set_option maxHeartbeats 400000 in
theorem N_out (p:Nat) (A:Option Addr) (len c:Nat) (at_:Int) (n:Int) (w:World)
  (h0:w.cell? ⟨p,0,none⟩=some (.slice A len c)) (h1:w.cell? ⟨p,1,none⟩=some (.int .i64 at_))
  (hge:(len:Int)≤at_):
  Calls Tryz.prog 20 #[.pointer (some ⟨p,0,none⟩),.int .i64 n] w fun e w'=>e= .returned (.int .i64 0)∧∃k,w'=w.drewN k:=by
 have hge':decide ((len:Int)≤at_)=true:=by simpa using hge
 go_enter Tryz.func20,Tryz.ntmps20
 go_wp2
 go_quiet (fail)
 go_wp2
 go_ret
 exact⟨rfl,_,rfl⟩
set_option maxHeartbeats 400000 in
theorem N_low (p:Nat) (A:Option Addr) (len c:Nat) (at_:Int) (n:Int) (w:World)
  (h0:w.cell? ⟨p,0,none⟩=some (.slice A len c)) (h1:w.cell? ⟨p,1,none⟩=some (.int .i64 at_))
  (hlt:at_<len) (hn:n<1):
  Calls Tryz.prog 20 #[.pointer (some ⟨p,0,none⟩),.int .i64 n] w fun e w'=>e= .returned (.int .i64 0)∧∃k,w'=w.drewN k:=by
 have hge':decide ((len:Int)≤at_)=false:=by simpa using hlt
 have hn':decide (n<1)=true:=by simpa using hn
 go_enter Tryz.func20,Tryz.ntmps20
 go_wp2
 go_quiet (fail)
 go_wp2
 go_ret
 exact⟨rfl,_,rfl⟩
set_option maxHeartbeats 400000 in
theorem N_in (p:Nat) (ad:Addr) (len c:Nat) (at_:Nat) (n x:Int) (w:World)
  (h0:w.cell? ⟨p,0,none⟩=some (.slice (some ad) len c)) (h1:w.cell? ⟨p,1,none⟩=some (.int .i64 at_))
  (hf:w.frozen? ⟨p,1,none⟩=false)
  (hx:w.cell? (ad.add at_)=some (.int .i64 x)) (hp:ad.block≠p)
  (hlen:len≤900)
  (hlt:(at_:Int)<len) (hn:1≤n) (hn2:n≤4000000000000000000):
  Calls Tryz.prog 20 #[.pointer (some ⟨p,0,none⟩),.int .i64 n] w fun e w'=>e= .returned (.int .i64 ((x.tmod n+n)%n))∧∃j k,w'=((w.drewN j).setCell ⟨p,1,none⟩ (.int .i64 (at_+1))).drewN k:=by
 have hge':decide (len≤at_)=false:=by simp;omega
 have hn':decide (n<1)=false:=by simpa using hn
 have hw1:IntKind.i64.wrap (at_:Int)=at_:=by rw[IntKind.wrap_i64];omega
 have hx':∀nq:Nat,((w.drewN nq).setCell ⟨p,1,none⟩ (.int .i64 (at_+1))).cell? (ad.add at_)=some (.int .i64 x):=fun nq=>by
  have h:(⟨p,1,none⟩:Addr)≠ad.add at_:=fun e=>hp (by rw[←block_add ad at_,←e])
  exact (World.cell?_setCell_other _ _ _ _ h).trans hx
 have hn0:¬n=0:=by omega
 have hb: -n<x.tmod n∧x.tmod n<n:=by
  exact⟨Int.lt_tmod_of_pos x (by omega),Int.tmod_lt_of_pos x (by omega)⟩
 have hw2:IntKind.i64.wrap (x.tmod n+n)=x.tmod n+n:=by rw[IntKind.wrap_i64];omega
 go_enter Tryz.func20,Tryz.ntmps20
 go_wp2
 go_quiet (fail)
 go_wp2
 go_quiet (fail)
 go_wp2
 go_ret
 exact⟨rfl,_,_,rfl⟩
def NQ (n:Int) (x:AV):Prop:=∃m:Int,x=iv m∧(n<1→m=0)∧(1≤n→0≤m∧m<n)
theorem N_pf (p:Nat) (src:Option Nat) (n:Int) (hn2:n≤4000000000000000000):PFun Tryz.prog (some p) src 20 [sp p,iv n] (NQ n):=by
 intro w ok vs hok hinv hsz hrep
 have hv0:=hrep 0 (vs[0]'(by simp at hsz;omega)) (sp p) (Array.getElem?_eq_getElem _) rfl
 have hv1:=hrep 1 (vs[1]'(by simp at hsz;omega)) (iv n) (Array.getElem?_eq_getElem _) rfl
 have e0:=rep_sc hv0
 have e1:=rep_sc hv1
 have hvs:vs=#[.pointer (some ⟨p,0,none⟩),.int .i64 n]:=by
  apply Array.ext
  ·simpa using hsz
  ·intro i h1 h2
   match i with
   |0=>simpa using e0
   |1=>simpa using e1
   |i+2=>simp at h2;omega
 subst hvs
 obtain⟨cur,A,len,c,at_,ty,⟨hb,hc0,hc1⟩,ha,hl,hsrc⟩:=hinv.2 p rfl
 have h0:w.cell? ⟨p,0,none⟩=some (.slice A len c):=by rw[cell_of_row w p _ _ ty (0,0) hb];exact hc0
 have h1:w.cell? ⟨p,1,none⟩=some (.int .i64 at_):=by rw[cell_of_row w p _ _ ty (0,0) hb];exact hc1
 have hf:w.frozen? ⟨p,1,none⟩=false:=by simp[World.frozen?,hb]
 have quiet:∀{e:Ending} {w':World},(e= .returned (.int .i64 0)∧∃k,w'=w.drewN k)→(NQ n (iv 0))→∃(v:Value) (x:AV),e= .returned v∧NQ n x∧Imm x∧RepI w' (fun b=>ok b∨(w.heap.size≤b∧b<w'.heap.size)) v x∧w.grownBy w' (some p)∧Inv (some p) src ok w':=by
  rintro e w' ⟨rfl,k,rfl⟩ hq
  exact⟨_,iv 0,rfl,hq,.sc,.sc,⟨rfl,rfl,rfl,Nat.le_refl _,fun _ _ _=>rfl⟩,hinv⟩
 by_cases hge:(len:Int)≤at_
 ·refine (N_out p A len c at_ n w h0 h1 hge).mono fun e w' h=>quiet h ⟨0,rfl,fun _=>rfl,fun h=>⟨Int.le_refl _,by omega⟩⟩
 by_cases hn:n<1
 ·refine (N_low p A len c at_ n w h0 h1 (by omega) hn).mono fun e w' h=>quiet h ⟨0,rfl,fun _=>rfl,fun h=>⟨Int.le_refl _,by omega⟩⟩
 obtain⟨ad,x,rfl,hs,hp,hx,hxb⟩:=hsrc at_ (by omega)
 refine (N_in p ad len c at_ n x w h0 h1 hf hx hp hl (by omega) (by omega) hn2).mono ?_
 rintro e w' ⟨rfl,j,k,rfl⟩
 refine⟨_,iv ((x.tmod n+n)%n),rfl,⟨_,rfl,fun h=>by omega,fun h=>⟨Int.emod_nonneg _ (by omega),Int.emod_lt_of_pos _ (by omega)⟩⟩,.sc,.sc,⟨rfl,rfl,rfl,by simp[World.setCell,World.drewN],fun q hq hne=>?_⟩,⟨hinv.1.1,fun g hg=>⟨(hinv.1.2 g hg).1,?_⟩⟩,fun q hq=>?_⟩
 ·have:p≠q:=fun e=>hne (by rw[e])
  simp[World.setCell,World.drewN,Array.getElem?_modify,this]
 ·obtain⟨t,v,hc⟩:=(hinv.1.2 g hg).2
  have:p≠g:=fun e=>(hok g (hinv.1.2 g hg).1).2 (by rw[e])
  exact⟨t,v,(World.cell?_of_block (w:=w) (by simp[World.setCell,World.drewN,Array.getElem?_modify,this])).trans hc⟩
 ·cases hq
  have hlt:1<cur.size:=(Array.getElem?_eq_some_iff.1 hc1).1
  refine⟨cur.setIfInBounds 1 (.int .i64 (at_+1)),some ad,len,c,at_+1,ty,⟨?_,?_,?_⟩,by omega,hl,fun i hi=>?_⟩
  ·simp[World.setCell,World.drewN,Array.getElem?_modify,hb]
  ·rw[Array.getElem?_setIfInBounds_ne (by omega)];exact hc0
  ·rw[Array.getElem?_setIfInBounds];simp[hlt]
  ·obtain⟨ad',x',h1',h2',h3',h4',h5'⟩:=hsrc i hi
   cases h1'
   refine⟨ad,x',rfl,hs,hp,?_,h5'⟩
   have h:(⟨p,1,none⟩:Addr)≠ad.add i:=fun e=>hp (by rw[←block_add ad i,←e])
   exact (World.cell?_setCell_other _ _ _ _ h).trans h4'
open Go.PA
open Go.RowKit
def intsL (xs:List Int):AV:= .list 1 (xs.map fun x=>[iv x])
def Small (xs:List Int):Prop:=∀x,x∈xs→ -9223372036854775808≤x∧x≤9223372036854775807
theorem new_pf (xs:List Int) (hl:xs.length≤9223372036854775807):POwn Tryz.prog none none 7 [intsL xs] 85 2 (·=[[intsL (xs.take 900),iv 0]]):=by
 refine pown_intro Tryz.func7 rfl (by simp[Tryz.f7]) (by kernel_rfl) ?_
 intro E hP hr hs hW hN
 simp[go_sem,hP,intsL,amin,aminFrom,asliceOp,bound,aslice]
 have c:0≤min (xs.length:Int) 900∧min (xs.length:Int) 900≤xs.length:=⟨by omega,by omega⟩
 have m:(min (xs.length:Int) 900).toNat=min 900 xs.length:=by omega
 rw[if_pos c,m]
 simp[go_sem,hP,AOwn,Tryz.f7]
 intro e he a ha
 have:=List.mem_of_mem_take he
 simp at this
 obtain⟨x,_,rfl⟩:=this
 simp at ha
 subst ha
 exact .sc
theorem range_pf (p:Nat) (src:Option Nat) (lo hi:Int) (h1: -1000000000000000000≤lo∧lo≤1000000000000000000) (h2: -1000000000000000000≤hi∧hi≤1000000000000000000):
  PFun Tryz.prog (some p) src 59 [sp p,iv lo,iv hi] (fun x=>∃m:Int,x=iv m∧(lo≤hi→lo≤m∧m≤hi)∧(hi<lo→m=lo)):=by
 refine pfun_intro Tryz.func59 rfl (by simp[Tryz.f59]) (by kernel_rfl) ?_
 intro E hP hr hs hW hN
 have w1:=wrap_in (hi-lo) (by omega)
 have w2:=wrap_in (hi-lo+1) (by omega)
 simp[go_sem, *]
 refine callB_flat (hr▸hs▸N_pf p src (hi-lo+1) (by omega)) hP en_20 (by simp[go_sem]) ?_ ?_ ?_
 ·by_cases h:hi-lo+1<1
  ·exact⟨iv 0,0,rfl,fun _=>rfl,fun h'=>by omega⟩
  ·exact⟨iv 0,0,rfl,fun _=>rfl,fun h'=>by omega⟩
 ·rintro r ⟨m,rfl,_⟩;exact .sc
 ·rintro r ⟨m,rfl,a1,a2⟩
  have w3:=wrap_in (lo+m) (by omega)
  simp[go_sem, *,Tryz.f59]
  omega
theorem pick_pf (p:Nat) (src:Option Nat) (xs:List Int) (h:1≤xs.length∧xs.length≤1000):
  PFun Tryz.prog (some p) src 9 [sp p,intsL xs] (fun x=>∃m:Int,x=iv m∧m∈xs):=by
 refine pfun_intro Tryz.func9 rfl (by simp[Tryz.f9]) (by kernel_rfl) ?_
 intro E hP hr hs hW hN
 simp[go_sem,hP,intsL]
 refine callB_flat (hr▸hs▸N_pf p src xs.length (by omega)) hP en_20 (by simp[go_sem]) ?_ ?_ ?_
 ·exact⟨iv 0,0,rfl,fun _=>rfl,fun h'=>by omega⟩
 ·rintro r ⟨m,rfl,_⟩;exact .sc
 ·rintro r ⟨m,rfl,a1,a2⟩
  obtain⟨b1,b2⟩:=a2 (by omega)
  have b3:m.toNat<xs.length:=by omega
  simp[go_sem, *,Tryz.f9]
theorem NQ_ex (n:Int):∃r,NQ n r:=⟨iv 0,0,rfl,fun _=>rfl,fun h=>by omega⟩
theorem NQ_flat (n:Int):∀r,NQ n r→Flat r:=by
 rintro r ⟨m,rfl,_⟩;exact .sc
end Go.Proofs.YtaenimpfelpafaaGreatDoor
set_option maxRecDepth 100000
namespace Go.Proofs.YtaenimpfelpafaaGreatDoor
open Go.RowKit Go.WideShapes Go.ChangeShapes
open Go.PA (RepI PFun AV Rep)
section
variable {H:Type} {enc:TypeId×Value→H} {P:Program}
theorem post_of_below {f:Func} {s:ChangeSpec} {apart fresh handsOn again:Bool} {W W':World} {args:Array Value} {v:Value} {ds gs:List (DataW H)} {before pa pv:List MemPlace}
  (hW:DataW.Whole enc P f.params.toList s.vars apart W args.toList ds gs before)
  (hres:∀(b:Nat) (sp:Nat→Bool) (hd:Bool),DataW.TrodAll enc P W' b sp hd f.resultTypes.toList (v.resultList f.resultTypes.size) (s.fn H (ds++gs)).results [])
  (hargs:∀sp:Nat→Bool,(∀p∈before,sp p.block=true)→DataW.TrodAll enc P W' 0 sp true f.params.toList args.toList (s.fn H (ds++gs)).args pa)
  (hvars:∀sp:Nat→Bool,(∀p∈before,sp p.block=true)→DataW.TrodVars enc P W' sp s.vars (s.fn H (ds++gs)).vars pv)
  (hps:before=pa++pv) (hb:Below W.heap.size W W')
  (hok:∀(j:Nat) (t:TypeId) (r:Value),f.resultTypes[j]?=some t→(v.resultList f.resultTypes.size)[j]?=some r→Value.okWide P W' .any 0 t r):
  s.post enc P f apart fresh handsOn again W args v W':=by
 have hlt:∀p∈before,p.block<W.heap.size:=fun p hp=>hW.lt p hp
 have hold:∀p∈before,(fun b=>decide (b<W.heap.size)) p.block=true:=fun p hp=>by simpa using hlt p hp
 refine⟨ds,gs,before,[],pa,pv,hW,hres _ _ _,hargs _ hold,hvars _ hold,World.keptBut_mono (fun p hp=>⟨hp,?_⟩) (hb.frame (·∈before)),fun _=>?_⟩
 ·rw[hps,List.mem_append]at hp
  exact Or.inr hp
 ·obtain⟨_,_,_,_,_,hz,hn⟩:=hW
  refine⟨hok,_,_,([]++pa)++pv,⟨[]++pa,pv,trodAll_append (hargs _ (fun _ _=>rfl)) (hres _ _ _),hvars _ (fun _ _=>rfl),rfl,?_,?_⟩,?_⟩
  ·intro b off hp
   have hin:MemPlace.cell b off∈before:=by rw[hps];simpa using hp
   rw[hb.frozen (hlt _ hin)]
   exact hz b off hin
  ·intro ha
   have:=hn ha
   rw[hps]at this
   simpa using this
  ·intro p hp _
   rw[hps]
   simpa using hp
end
theorem Tryz.own:ownKnob Tryz.prog.godebug=none:=by kernel_rfl
theorem Tryz.laidOut:laidOutB Tryz.prog=true:=by kernel_rfl
end Go.Proofs.YtaenimpfelpafaaGreatDoor
namespace Go.PA
open Go.RowKit Go.WideShapes Go.ChangeShapes
mutual
inductive Sh where
 |int (k:IntKind)
 |bool
 |str
 |slice (e:Sh)
 |strct (fs:Fs)
inductive Fs where
 |nil
 |cons (s:Sh) (fs:Fs)
end
mutual
def Sh.size:Sh→Nat
 | .int _=>1
 | .bool=>1
 | .str=>1
 | .slice _=>1
 | .strct fs=>fs.size
def Fs.size:Fs→Nat
 | .nil=>0
 | .cons s fs=>s.size+fs.size
end
mutual
def Sh.ok (P:Program):Sh→TypeId→Bool
 | .int k,t=>decide (P.cellsOf t=1)&&(match P.underlying t with|some (.int k')=>decide (k'=k)|_=>false)
 | .bool,t=>decide (P.cellsOf t=1)&&(match P.underlying t with|some .bool=>true|_=>false)
 | .str,t=>decide (P.cellsOf t=1)&&(match P.underlying t with|some .string=>true|_=>false)
 | .slice e,t=>decide (P.cellsOf t=1)&&decide (0<e.size)&&(match P.underlying t with|some (.slice te)=>e.ok P te|_=>false)
 | .strct fs,t=>decide (P.cellsOf t=fs.size)&&(match P.underlying t with|some (.struct fields)=>fs.ok P fields.toList 0|_=>false)
def Fs.ok (P:Program):Fs→List Field→Nat→Bool
 | .nil,[],_=>true
 | .cons s fs,f::l,off=>s.ok P f.type&&decide (f.offset=off)&&fs.ok P l (off+s.size)
 |_,_,_=>false
end
mutual
def Sh.V:Sh→List AV→Prop
 | .int k,as0=>∃n,as0=[.sc (.int k n)]∧(Lit.int k n).wf=true
 | .bool,as0=>∃b,as0=[.sc (.bool b)]
 | .str,as0=>∃s:ByteArray,as0=[.sc (.string s)]∧s.size≤maxLen
 | .slice e,as0=>∃es:List (List AV),as0=[.list e.size es]∧es.length≤maxLen∧∀x,x∈es→e.V x
 | .strct fs,as0=>fs.V as0
def Fs.V:Fs→List AV→Prop
 | .nil,as0=>as0=[]
 | .cons s fs,as0=>∃x y,as0=x++y∧s.V x∧fs.V y
end
theorem Sh.ok_size (P:Program) (s:Sh) (t:TypeId) (h:s.ok P t=true):P.cellsOf t=s.size:=by
 cases s<;>simp only[Sh.ok,Bool.and_eq_true,decide_eq_true_eq]at h<;>simp only[Sh.size]<;>first|exact h.1|exact h.1.1
def Reps (w:World) (cs:List Value) (as0:List AV):Prop:=∀(i:Nat) (c:Value) (a:AV),cs[i]?=some c→as0[i]?=some a→RepI w (fun b=>b<w.heap.size) c a∧c.oneCell'=true
theorem reps_one {w:World} {c:Value} {a:AV} (h:RepI w (fun b=>b<w.heap.size) c a) (h1:c.oneCell'=true):Reps w [c] [a]:=fun i c' a' hc ha=>by
 rcases i with _|i
 ·simp at hc ha
  subst hc;subst ha
  exact⟨h,h1⟩
 ·simp at hc
theorem cell_in {w:World} {a:Addr} {v:Value} (h:w.cell? a=some v):a.block<w.heap.size:=by
 simp only[World.cell?]at h
 split at h
 ·rename_i hb
  exact (Array.getElem?_eq_some_iff.1 hb).1
 ·cases h
theorem list_choice {α:Type} (n:Nat) (p:Nat→α→Prop) (h:∀i,i<n→∃a,p i a):∃l:List α,l.length=n∧∀i a,l[i]?=some a→p i a:=by
 induction n with
 |zero=>exact⟨[],rfl,by simp⟩
 |succ n ih=>
  obtain⟨l,h1,h2⟩:=ih fun i hi=>h i (by omega)
  obtain⟨a,ha⟩:=h n (by omega)
  refine⟨l++[a],by simp[h1],fun i b hb=>?_⟩
  by_cases hi:i<n
  ·rw[List.getElem?_append_left (by omega)]at hb
   exact h2 i b hb
  ·have:i=n:=by
    have:=(gsI hb)
    simp at this
    omega
   subst this
   rw[List.getElem?_append_right (by omega)]at hb
   simp[h1]at hb
   subst hb
   exact ha
section
variable {H:Type} {enc:TypeId×Value→H} {P:Program} {w:World} {base:Nat} {spare:Nat→Bool} {held:Bool}
mutual
theorem Sh.rep:∀(s:Sh) (t:TypeId) (fuel:Nat) (cs:List Value) (x:DataW H×List MemPlace),s.ok P t=true→DataW.trod enc P w base spare held fuel t cs=some x→
  ∃as0,s.V as0∧as0.length=s.size∧cs.length=s.size∧Reps w cs as0
 | .int k,t,fuel,cs,x,hs,h=>by
  simp only[Sh.ok,Bool.and_eq_true,decide_eq_true_eq]at hs
  obtain⟨_,hs⟩:=hs
  split at hs
  ·rename_i k' hu
   have:=of_decide_eq_true hs
   subst this
   obtain⟨n,rfl,_,hw⟩:=DataW.trod_int hu h
   exact⟨[.sc (.int k' n)],⟨n,rfl,hw⟩,rfl,rfl,reps_one .sc rfl⟩
  ·cases hs
 | .bool,t,fuel,cs,x,hs,h=>by
  simp only[Sh.ok,Bool.and_eq_true,decide_eq_true_eq]at hs
  obtain⟨_,hs⟩:=hs
  split at hs
  ·rename_i hu
   obtain⟨b,rfl,_⟩:=DataW.trod_bool hu h
   exact⟨[.sc (.bool b)],⟨b,rfl⟩,rfl,rfl,reps_one .sc rfl⟩
  ·cases hs
 | .str,t,fuel,cs,x,hs,h=>by
  simp only[Sh.ok,Bool.and_eq_true,decide_eq_true_eq]at hs
  obtain⟨_,hs⟩:=hs
  split at hs
  ·rename_i hu
   obtain⟨b,rfl,_,hl⟩:=DataW.trod_string hu h
   exact⟨[.sc (.string b)],⟨b,rfl,hl⟩,rfl,rfl,reps_one .sc rfl⟩
  ·cases hs
 | .slice e,t,fuel,cs,x,hs,h=>by
  simp only[Sh.ok,Bool.and_eq_true,decide_eq_true_eq]at hs
  obtain⟨⟨_,hpos⟩,hs⟩:=hs
  split at hs
  ·rename_i te hu
   have hsz:=Sh.ok_size P e te hs
   rcases DataW.trod_slice hu h with⟨rfl,_⟩|⟨a,len,cap,elems,rest,n,_,rfl,_,hb,hl,hm,hlen,hel,_,_⟩
   ·exact⟨[.list e.size []],⟨[],rfl,by simp,by simp⟩,rfl,rfl,reps_one .listNil rfl⟩
   rcases Nat.eq_zero_or_pos len with h0|h0
   ·subst h0
    exact⟨[.list e.size []],⟨[],rfl,by simp,by simp⟩,rfl,rfl,reps_one .listNil rfl⟩
   obtain⟨es,hes,hp⟩:=list_choice len (fun i (as0:List AV)=>∃cs',w.cells? base (a.add (i*e.size)) e.size=some cs'∧e.V as0∧as0.length=e.size∧Reps w cs' as0) fun i hi=>by
    have hi':i<elems.length:=by omega
    have:=hel i hi
    rw[List.getElem?_eq_getElem hi',Option.bind_eq_some_iff,hsz]at this
    obtain⟨cs',h1,h2⟩:=this
    obtain⟨as0,h3,h4,h5,h6⟩:=Sh.rep e te n cs' _ hs h2
    exact⟨as0,cs',h1,h3,h4,h6⟩
   have cells:∀(i:Nat) (x:List AV) (j:Nat) (b:AV),es[i]?=some x→x[j]?=some b→∃c,w.cell? (a.add (i*e.size+j))=some c∧RepI w (fun b=>b<w.heap.size) c b∧c.oneCell'=true:=fun i x j b hx hj=>by
    obtain⟨cs',h1,h3,h4,h6⟩:=hp i x hx
    obtain⟨_,hl',hc⟩:=World.cells?_some h1
    have hj':=(gsI hj)
    have hcj:cs'[j]?=some (cs'[j]'(by omega)):=List.getElem?_eq_getElem (by omega)
    obtain⟨r1,r2⟩:=h6 j _ b hcj hj
    refine⟨_,?_,r1,r2⟩
    have:=hc j (by omega)
    rw[add_add,hcj]at this
    exact this
   have hblk:a.block<w.heap.size:=by
    obtain⟨cs',h1,h3,h4,h6⟩:=hp 0 (es[0]'(by omega)) (List.getElem?_eq_getElem (by omega))
    obtain⟨_,hl',hc⟩:=World.cells?_some h1
    have:=hc 0 hpos
    rw[List.getElem?_eq_getElem (by omega)]at this
    have:=cell_in this
    rw[block_add,block_add]at this
    exact this
   refine⟨[.list e.size es],⟨es,rfl,by omega,fun x hx=>?_⟩,rfl,rfl,reps_one ?_ rfl⟩
   ·obtain⟨i,hi⟩:=List.getElem?_of_mem hx
    obtain⟨_,_,h3,_⟩:=hp i x hi
    exact h3
   ·refine .list (fun i j=>(w.cell? (a.add (i*e.size+j))).getD undef) hes hl hblk (fun x hx=>?_) ?_ ?_ ?_
    ·obtain⟨i,hi⟩:=List.getElem?_of_mem hx
     obtain⟨_,_,_,h4,_⟩:=hp i x hi
     exact h4
    ·intro i x j b hx hj
     obtain⟨c,h1,_⟩:=cells i x j b hx hj
     rw[h1];rfl
    ·intro i x j b hx hj
     obtain⟨c,h1,_,h3⟩:=cells i x j b hx hj
     rw[h1];exact h3
    ·intro i x j b hx hj
     obtain⟨c,h1,h2,_⟩:=cells i x j b hx hj
     rw[h1];exact h2
  ·cases hs
 | .strct fs,t,fuel,cs,x,hs,h=>by
  simp only[Sh.ok,Bool.and_eq_true,decide_eq_true_eq]at hs
  obtain⟨hc,hs⟩:=hs
  split at hs
  ·rename_i fields hu
   obtain⟨xs,n,_,_,hl,hxl,hf⟩:=DataW.trod_struct hu h
   obtain⟨as0,h1,h2,h3⟩:=Fs.rep fs fields.toList 0 n cs xs hs (by simp[hxl]) (by rw[hl,hc];simp) fun i f hi=>hf i f (by simpa using hi)
   refine⟨as0,h1,h2,by rw[hl,hc];rfl,fun i c a hci ha=>h3 i c a (by simpa using hci) ha⟩
  ·cases hs
theorem Fs.rep:∀(fs:Fs) (fields:List Field) (off n:Nat) (cs:List Value) (xs:List (DataW H×List MemPlace)),fs.ok P fields off=true→xs.length=fields.length→cs.length=off+fs.size→
  (∀(i:Nat) (f:Field),fields[i]?=some f→DataW.trod enc P w base spare held n f.type ((cs.drop f.offset).take (P.cellsOf f.type))=xs[i]?)→
  ∃as0,fs.V as0∧as0.length=fs.size∧∀(i:Nat) (c:Value) (a:AV),cs[off+i]?=some c→as0[i]?=some a→RepI w (fun b=>b<w.heap.size) c a∧c.oneCell'=true
 | .nil,fields,off,n,cs,xs,hs,hxl,hcl,hf=>⟨[],rfl,rfl,fun i c a hc ha=>by simp at ha⟩
 | .cons s fs,[],off,n,cs,xs,hs,hxl,hcl,hf=>by simp[Fs.ok]at hs
 | .cons s fs,f::l,off,n,cs,[],hs,hxl,hcl,hf=>by simp at hxl
 | .cons s fs,f::l,off,n,cs,y::xs,hs,hxl,hcl,hf=>by
  simp only[Fs.ok,Bool.and_eq_true,decide_eq_true_eq]at hs
  obtain⟨⟨h1,h2⟩,h3⟩:=hs
  have hsz:=Sh.ok_size P s f.type h1
  have h0:=hf 0 f rfl
  rw[h2,hsz]at h0
  simp only[List.getElem?_cons_zero]at h0
  obtain⟨as0,a1,a2,a3,a4⟩:=Sh.rep s f.type n _ _ h1 h0
  simp only[Fs.size]at hcl
  obtain⟨bs,b1,b2,b3⟩:=Fs.rep fs l (off+s.size) n cs xs h3 (by simpa using hxl) (by omega) fun i g hi=>by
   have:=hf (i+1) g (by simpa using hi)
   simpa using this
  refine⟨as0++bs,⟨as0,bs,rfl,a1,b1⟩,by simp[a2,b2,Fs.size],fun i c a hc ha=>?_⟩
  by_cases hi:i<s.size
  ·rw[List.getElem?_append_left (by omega)]at ha
   refine a4 i c a ?_ ha
   rw[List.getElem?_take,if_pos hi,List.getElem?_drop]
   exact hc
  ·rw[List.getElem?_append_right (by omega)]at ha
   refine b3 (i-s.size) c a ?_ (by rw[←a2];exact ha)
   rw[←hc]
   congr 1
   omega
end
def Sh.A (s:Sh) (a:AV):Prop:=match s with
 | .strct fs=>∃cs,a= .agg cs∧fs.V cs
 |s=>s.V [a]
theorem arg_rep {s:Sh} {t:TypeId} {r:Reach} {b0:Nat} {v:Value} {d:DataW H} {ps:List MemPlace} (hs:s.ok P t=true) (hval:Value.okWide P w r b0 t v) (h:DataW.Trod enc P w base spare held t v d ps):
  ∃a,s.A a∧RepI w (fun b=>b<w.heap.size) v a:=by
 have h':=h
 obtain⟨fuel,hf⟩:=h
 obtain⟨as0,h1,h2,h3,h4⟩:=Sh.rep s t fuel _ _ hs hf
 have scal:s.size=1→v.cells.toList=[v]→∃a,s.V [a]∧RepI w (fun b=>b<w.heap.size) v a:=fun e hv=>by
  rw[e]at h2
  match as0,h2 with
  |[a],_=>
   rw[hv]at h4
   exact⟨a,h1,(h4 0 _ _ rfl rfl).1⟩
 cases s with
 |strct fs=>
  unfold Value.okWide at hval
  simp only[Sh.ok,Bool.and_eq_true,decide_eq_true_eq]at hs
  obtain⟨_,hs⟩:=hs
  split at hs
  ·rename_i fields hu
   rw[hu]at hval
   obtain⟨cs,rfl,_⟩:=hval
   refine⟨.agg as0,⟨as0,rfl,h1⟩,.agg ?_ fun i c a hc ha=>(h4 i c a ?_ ha).1⟩
   ·simp only[Value.cells,Array.length_toList]at h3
    omega
   ·simpa[Value.cells]using hc
  ·cases hs
 |int k=>
  simp only[Sh.ok,Bool.and_eq_true,decide_eq_true_eq]at hs
  obtain⟨_,hs⟩:=hs
  split at hs
  ·rename_i hu
   obtain⟨m,rfl,_⟩:=open_int hu hval h'
   exact scal rfl rfl
  ·cases hs
 |bool=>
  simp only[Sh.ok,Bool.and_eq_true,decide_eq_true_eq]at hs
  obtain⟨_,hs⟩:=hs
  split at hs
  ·rename_i hu
   obtain⟨m,rfl,_⟩:=open_bool hu hval h'
   exact scal rfl rfl
  ·cases hs
 |str=>
  simp only[Sh.ok,Bool.and_eq_true,decide_eq_true_eq]at hs
  obtain⟨_,hs⟩:=hs
  split at hs
  ·rename_i hu
   obtain⟨s,hv,_⟩:=DataW.trod_string hu hf
   refine scal rfl ?_
   obtain⟨s',rfl⟩:=okWide_string hu hval
   rfl
  ·cases hs
 |slice e=>
  simp only[Sh.ok,Bool.and_eq_true,decide_eq_true_eq]at hs
  obtain⟨_,hs⟩:=hs
  split at hs
  ·rename_i te hu
   obtain⟨A,n,c,rfl⟩:=okWide_slice hu hval
   exact scal rfl rfl
  ·cases hs
def ShsA:List Sh→List AV→Prop
 |[],[]=>True
 |s::ss,a::as0=>s.A a∧ShsA ss as0
 |_,_=>False
theorem shsA_cons {s:Sh} {ss:List Sh} {l:List AV} (h:ShsA (s::ss) l):∃a l',l=a::l'∧s.A a∧ShsA ss l':=by
 cases l with
 |nil=>exact h.elim
 |cons a l=>exact⟨a,l,rfl,h.1,h.2⟩
theorem shsA_nil {l:List AV} (h:ShsA [] l):l=[]:=by
 cases l with
 |nil=>rfl
 |cons a l=>exact h.elim
def ShsOk (P:Program):List Sh→List TypeId→Bool
 |[],[]=>true
 |s::ss,t::ts=>s.ok P t&&(P.readableRec t&&decide (t<P.types.size))&&ShsOk P ss ts
 |_,_=>false
theorem args_rep {r:Reach} {b0:Nat}:∀(ss:List Sh) (ts:List TypeId) (vs:List Value) (ds:List (DataW H)) (ps:List MemPlace),ShsOk P ss ts=true→(∀(j:Nat) (t:TypeId) (v:Value),ts[j]?=some t→vs[j]?=some v→Value.okWide P w r b0 t v)→
  DataW.TrodAll enc P w base spare held ts vs ds ps→∃as0,ShsA ss as0∧as0.length=vs.length∧∀(i:Nat) (v:Value) (a:AV),vs[i]?=some v→as0[i]?=some a→RepI w (fun b=>b<w.heap.size) v a
 |[],[],vs,ds,ps,_,_,h=>by
  obtain⟨rfl,_,_⟩:=trodAll_nil h
  exact⟨[],trivial,rfl,fun i v a hv=>by simp at hv⟩
 |[],t::ts,vs,ds,ps,hs,_,h=>by simp[ShsOk]at hs
 |s::ss,[],vs,ds,ps,hs,_,h=>by simp[ShsOk]at hs
 |s::ss,t::ts,vs,ds,ps,hs,hval,h=>by
  simp only[ShsOk,Bool.and_eq_true,decide_eq_true_eq]at hs
  match vs,ds,h with
  |v::vs,d::ds,⟨p,q,h1,h2,_⟩=>
   obtain⟨a,a1,a2⟩:=arg_rep hs.1.1 (hval 0 t v rfl rfl) h1
   obtain⟨as0,b1,b2,b3⟩:=args_rep ss ts vs ds q hs.2 (fun j t v ht hv=>hval (j+1) t v (by simpa using ht) (by simpa using hv)) h2
   refine⟨a::as0,⟨a1,b1⟩,by simp[b2],fun i v' a' hv ha=>?_⟩
   rcases i with _|i
   ·simp at hv ha
    subst hv;subst ha
    exact a2
   ·exact b3 i v' a' (by simpa using hv) (by simpa using ha)
theorem trodAll_stays (hl:laidOutB P=true) {W W':World} {sp:Nat→Bool}:∀(ss:List Sh) (ts:List TypeId) (vs:List Value) (ds:List (DataW H)) (ps:List MemPlace),ShsOk P ss ts=true→DataW.TrodAll enc P W 0 (fun _=>true) true ts vs ds ps→
  (∀p∈ps,W.sameAt W' p)→(∀p∈ps,sp p.block=true)→DataW.TrodAll enc P W' 0 sp true ts vs ds ps
 |[],[],vs,ds,ps,_,h,_,_=>by
  obtain⟨rfl,rfl,rfl⟩:=trodAll_nil h
  exact rfl
 |[],t::ts,vs,ds,ps,hs,h,_,_=>by simp[ShsOk]at hs
 |s::ss,[],vs,ds,ps,hs,h,_,_=>by simp[ShsOk]at hs
 |s::ss,t::ts,vs,ds,ps,hs,h,hsame,hsp=>by
  simp only[ShsOk,Bool.and_eq_true,decide_eq_true_eq]at hs
  match vs,ds,h with
  |v::vs,d::ds,⟨p,q,h1,h2,hp⟩=>
   subst hp
   exact⟨p,q,WideElems.Trod_stays hl hs.1.2.1 hs.1.2.2 h1 (fun x hx=>hsame x (by simp[hx])) (fun x hx=>hsp x (by simp[hx])),
    trodAll_stays hl ss ts vs ds q hs.2 h2 (fun x hx=>hsame x (by simp[hx])) (fun x hx=>hsp x (by simp[hx])),rfl⟩
theorem trodAll_dlen:∀(ts:List TypeId) (vs:List Value) (ds:List (DataW H)) (ps:List MemPlace),DataW.TrodAll enc P w base spare held ts vs ds ps→ds.length=ts.length
 |[],vs,ds,ps,h=>by
  obtain⟨_,rfl,_⟩:=trodAll_nil h
  rfl
 |t::ts,vs,ds,ps,h=>by
  match vs,ds,h with
  |v::vs,d::ds,⟨p,q,_,h2,_⟩=>simp[trodAll_dlen ts vs ds q h2]
theorem list_len1 {α:Type} {l:List α} (h:l.length=1):∃a0,l=[a0]:=by
 match l,h with
 |[a0],_=>exact⟨a0,rfl⟩
end
end Go.PA
namespace Go.Proofs.YtaenimpfelpafaaGreatDoor
open Go.PA
open Go.RowKit
def fits (n:Int):Prop:= -9223372036854775808≤n∧n≤9223372036854775807
theorem fits_wf {n:Int} (h:(Lit.int .i64 n).wf=true):fits n:=by
 simp only[Lit.wf,Bool.and_eq_true,decide_eq_true_eq]at h
 exact h
theorem of_int (as0:List AV) (h:(Sh.int .i64).V as0):∃x:Int,as0=encI x∧fits x:=by
 obtain⟨n,rfl,h⟩:=h
 exact⟨n,rfl,fits_wf h⟩
theorem of_bool (as0:List AV) (h:Sh.bool.V as0):∃x:Bool,as0=[bv x]∧True:=by
 obtain⟨n,rfl⟩:=h
 exact⟨n,rfl,trivial⟩
theorem of_str (as0:List AV) (h:Sh.str.V as0):∃x:ByteArray,as0=encS x∧x.size≤maxLen:=by
 obtain⟨n,rfl,h⟩:=h
 exact⟨n,rfl,h⟩
theorem of_list {α:Type} {enc:α→List AV} {wf:α→Prop} {s:Sh} (h:∀as0,s.V as0→∃x:α,as0=enc x∧wf x):∀es:List (List AV),(∀x,x∈es→s.V x)→∃l:List α,es=encL enc l∧∀z,z∈l→wf z
 |[],_=>⟨[],rfl,by simp⟩
 |e::es,he=>by
  obtain⟨a,rfl,ha⟩:=h e (he e (by simp))
  obtain⟨l,rfl,hl⟩:=of_list h es fun x hx=>he x (List.mem_cons_of_mem _ hx)
  refine⟨a::l,rfl,fun z hz=>?_⟩
  rcases List.mem_cons.1 hz with rfl|hz
  ·exact ha
  ·exact hl z hz
theorem of_slice {α:Type} {enc:α→List AV} {wf:α→Prop} (s:Sh) (h:∀as0,s.V as0→∃x:α,as0=enc x∧wf x) (as0:List AV) (hs:(Sh.slice s).V as0):∃l:List α,as0=[.list s.size (encL enc l)]∧(l.length≤maxLen∧∀z,z∈l→wf z):=by
 obtain⟨es,rfl,hl,he⟩:=hs
 obtain⟨l,rfl,hw⟩:=of_list h es he
 exact⟨l,rfl,by simpa[encL]using hl,hw⟩
def TSub.shF:Fs:= .cons (.int .i64)<| .cons (.int .i64)<| .nil
def TSub.wf (x:TSub):Prop:=fits x.ID∧fits x.Balance
theorem TSub.of (as0:List AV) (h:(Sh.strct TSub.shF).V as0):∃x:TSub,as0=x.cells∧x.wf:=by
 obtain⟨_,_,rfl,h0,_,_,rfl,h1,rfl⟩:=h
 obtain⟨x0,rfl,w0⟩:=of_int _ h0
 obtain⟨x1,rfl,w1⟩:=of_int _ h1
 exact⟨⟨x0,x1⟩,rfl,w0,w1⟩
def TEntry.shF:Fs:= .cons (.int .i64)<| .cons (.int .i64)<| .cons (.int .i64)<| .cons (.int .i64)<| .cons (.int .i64)<| .cons (.int .i64)<| .nil
def TEntry.wf (x:TEntry):Prop:=fits x.Number∧fits x.Day∧fits x.From∧fits x.To∧fits x.Amount∧fits x.Ref
theorem TEntry.of (as0:List AV) (h:(Sh.strct TEntry.shF).V as0):∃x:TEntry,as0=x.cells∧x.wf:=by
 obtain⟨_,_,rfl,h0,_,_,rfl,h1,_,_,rfl,h2,_,_,rfl,h3,_,_,rfl,h4,_,_,rfl,h5,rfl⟩:=h
 obtain⟨x0,rfl,w0⟩:=of_int _ h0
 obtain⟨x1,rfl,w1⟩:=of_int _ h1
 obtain⟨x2,rfl,w2⟩:=of_int _ h2
 obtain⟨x3,rfl,w3⟩:=of_int _ h3
 obtain⟨x4,rfl,w4⟩:=of_int _ h4
 obtain⟨x5,rfl,w5⟩:=of_int _ h5
 exact⟨⟨x0,x1,x2,x3,x4,x5⟩,rfl,w0,w1,w2,w3,w4,w5⟩
def TAccount.shF:Fs:= .cons (.int .i64)<| .cons (.slice (.strct TSub.shF))<| .cons (.slice (.strct TEntry.shF))<| .nil
def TAccount.wf (x:TAccount):Prop:=fits x.Credit∧(x.Subs.length≤maxLen∧∀z,z∈x.Subs→z.wf)∧(x.Entries.length≤maxLen∧∀z,z∈x.Entries→z.wf)
theorem TAccount.of (as0:List AV) (h:(Sh.strct TAccount.shF).V as0):∃x:TAccount,as0=x.cells∧x.wf:=by
 obtain⟨_,_,rfl,h0,_,_,rfl,h1,_,_,rfl,h2,rfl⟩:=h
 obtain⟨x0,rfl,w0⟩:=of_int _ h0
 obtain⟨x1,rfl,w1⟩:=(of_slice (.strct TSub.shF) TSub.of) _ h1
 obtain⟨x2,rfl,w2⟩:=(of_slice (.strct TEntry.shF) TEntry.of) _ h2
 exact⟨⟨x0,x1,x2⟩,rfl,w0,w1,w2⟩
def TPayment.shF:Fs:= .cons (.int .i64)<| .cons (.int .i64)<| .cons (.int .i64)<| .cons (.int .i64)<| .cons (.int .i64)<| .nil
def TPayment.wf (x:TPayment):Prop:=fits x.Warrant∧fits x.Payee∧fits x.Amount∧fits x.Due∧fits x.Sub
theorem TPayment.of (as0:List AV) (h:(Sh.strct TPayment.shF).V as0):∃x:TPayment,as0=x.cells∧x.wf:=by
 obtain⟨_,_,rfl,h0,_,_,rfl,h1,_,_,rfl,h2,_,_,rfl,h3,_,_,rfl,h4,rfl⟩:=h
 obtain⟨x0,rfl,w0⟩:=of_int _ h0
 obtain⟨x1,rfl,w1⟩:=of_int _ h1
 obtain⟨x2,rfl,w2⟩:=of_int _ h2
 obtain⟨x3,rfl,w3⟩:=of_int _ h3
 obtain⟨x4,rfl,w4⟩:=of_int _ h4
 exact⟨⟨x0,x1,x2,x3,x4⟩,rfl,w0,w1,w2,w3,w4⟩
def TBatch.shF:Fs:= .cons (.int .i64)<| .cons (.int .i64)<| .cons (.slice (.strct TPayment.shF))<| .nil
def TBatch.wf (x:TBatch):Prop:=fits x.Number∧fits x.Day∧(x.Payments.length≤maxLen∧∀z,z∈x.Payments→z.wf)
theorem TBatch.of (as0:List AV) (h:(Sh.strct TBatch.shF).V as0):∃x:TBatch,as0=x.cells∧x.wf:=by
 obtain⟨_,_,rfl,h0,_,_,rfl,h1,_,_,rfl,h2,rfl⟩:=h
 obtain⟨x0,rfl,w0⟩:=of_int _ h0
 obtain⟨x1,rfl,w1⟩:=of_int _ h1
 obtain⟨x2,rfl,w2⟩:=(of_slice (.strct TPayment.shF) TPayment.of) _ h2
 exact⟨⟨x0,x1,x2⟩,rfl,w0,w1,w2⟩
def TQueue.shF:Fs:= .cons (.slice (.strct TPayment.shF))<| .cons (.slice (.int .i64))<| .cons (.slice (.strct TBatch.shF))<| .nil
def TQueue.wf (x:TQueue):Prop:=(x.Waiting.length≤maxLen∧∀z,z∈x.Waiting→z.wf)∧(x.Known.length≤maxLen∧∀z,z∈x.Known→fits z)∧(x.Batches.length≤maxLen∧∀z,z∈x.Batches→z.wf)
theorem TQueue.of (as0:List AV) (h:(Sh.strct TQueue.shF).V as0):∃x:TQueue,as0=x.cells∧x.wf:=by
 obtain⟨_,_,rfl,h0,_,_,rfl,h1,_,_,rfl,h2,rfl⟩:=h
 obtain⟨x0,rfl,w0⟩:=(of_slice (.strct TPayment.shF) TPayment.of) _ h0
 obtain⟨x1,rfl,w1⟩:=(of_slice (.int .i64) of_int) _ h1
 obtain⟨x2,rfl,w2⟩:=(of_slice (.strct TBatch.shF) TBatch.of) _ h2
 exact⟨⟨x0,x1,x2⟩,rfl,w0,w1,w2⟩
def TItem.shF:Fs:= .cons (.strct TPayment.shF)<| .cons (.int .i64)<| .cons (.int .i64)<| .nil
def TItem.wf (x:TItem):Prop:=x.Payment.wf∧fits x.State∧fits x.Attempts
theorem TItem.of (as0:List AV) (h:(Sh.strct TItem.shF).V as0):∃x:TItem,as0=x.cells∧x.wf:=by
 obtain⟨_,_,rfl,h0,_,_,rfl,h1,_,_,rfl,h2,rfl⟩:=h
 obtain⟨x0,rfl,w0⟩:=TPayment.of _ h0
 obtain⟨x1,rfl,w1⟩:=of_int _ h1
 obtain⟨x2,rfl,w2⟩:=of_int _ h2
 exact⟨⟨x0,x1,x2⟩,rfl,w0,w1,w2⟩
def TDesk.shF:Fs:= .cons (.strct TAccount.shF)<| .cons (.strct TQueue.shF)<| .cons (.slice (.strct TItem.shF))<| .nil
def TDesk.wf (x:TDesk):Prop:=x.Account.wf∧x.Queue.wf∧(x.Items.length≤maxLen∧∀z,z∈x.Items→z.wf)
theorem TDesk.of (as0:List AV) (h:(Sh.strct TDesk.shF).V as0):∃x:TDesk,as0=x.cells∧x.wf:=by
 obtain⟨_,_,rfl,h0,_,_,rfl,h1,_,_,rfl,h2,rfl⟩:=h
 obtain⟨x0,rfl,w0⟩:=TAccount.of _ h0
 obtain⟨x1,rfl,w1⟩:=TQueue.of _ h1
 obtain⟨x2,rfl,w2⟩:=(of_slice (.strct TItem.shF) TItem.of) _ h2
 exact⟨⟨x0,x1,x2⟩,rfl,w0,w1,w2⟩
def TClaim.shF:Fs:= .cons (.int .i64)<| .cons (.int .i64)<| .cons (.int .i64)<| .cons (.int .i64)<| .cons (.int .i64)<| .cons (.str)<| .nil
def TClaim.wf (x:TClaim):Prop:=fits x.ID∧fits x.Payer∧fits x.Amount∧fits x.Open∧fits x.Day∧x.Code.size≤maxLen
theorem TClaim.of (as0:List AV) (h:(Sh.strct TClaim.shF).V as0):∃x:TClaim,as0=x.cells∧x.wf:=by
 obtain⟨_,_,rfl,h0,_,_,rfl,h1,_,_,rfl,h2,_,_,rfl,h3,_,_,rfl,h4,_,_,rfl,h5,rfl⟩:=h
 obtain⟨x0,rfl,w0⟩:=of_int _ h0
 obtain⟨x1,rfl,w1⟩:=of_int _ h1
 obtain⟨x2,rfl,w2⟩:=of_int _ h2
 obtain⟨x3,rfl,w3⟩:=of_int _ h3
 obtain⟨x4,rfl,w4⟩:=of_int _ h4
 obtain⟨x5,rfl,w5⟩:=of_str _ h5
 exact⟨⟨x0,x1,x2,x3,x4,x5⟩,rfl,w0,w1,w2,w3,w4,w5⟩
def TIncome.shF:Fs:= .cons (.int .i64)<| .cons (.int .i64)<| .cons (.int .i64)<| .cons (.int .i64)<| .cons (.int .i64)<| .nil
def TIncome.wf (x:TIncome):Prop:=fits x.Number∧fits x.Day∧fits x.Payer∧fits x.Amount∧fits x.Claim
theorem TIncome.of (as0:List AV) (h:(Sh.strct TIncome.shF).V as0):∃x:TIncome,as0=x.cells∧x.wf:=by
 obtain⟨_,_,rfl,h0,_,_,rfl,h1,_,_,rfl,h2,_,_,rfl,h3,_,_,rfl,h4,rfl⟩:=h
 obtain⟨x0,rfl,w0⟩:=of_int _ h0
 obtain⟨x1,rfl,w1⟩:=of_int _ h1
 obtain⟨x2,rfl,w2⟩:=of_int _ h2
 obtain⟨x3,rfl,w3⟩:=of_int _ h3
 obtain⟨x4,rfl,w4⟩:=of_int _ h4
 exact⟨⟨x0,x1,x2,x3,x4⟩,rfl,w0,w1,w2,w3,w4⟩
def TMatch.shF:Fs:= .cons (.int .i64)<| .cons (.int .i64)<| .cons (.int .i64)<| .nil
def TMatch.wf (x:TMatch):Prop:=fits x.Income∧fits x.Claim∧fits x.Amount
theorem TMatch.of (as0:List AV) (h:(Sh.strct TMatch.shF).V as0):∃x:TMatch,as0=x.cells∧x.wf:=by
 obtain⟨_,_,rfl,h0,_,_,rfl,h1,_,_,rfl,h2,rfl⟩:=h
 obtain⟨x0,rfl,w0⟩:=of_int _ h0
 obtain⟨x1,rfl,w1⟩:=of_int _ h1
 obtain⟨x2,rfl,w2⟩:=of_int _ h2
 exact⟨⟨x0,x1,x2⟩,rfl,w0,w1,w2⟩
def TCash.shF:Fs:= .cons (.slice (.strct TClaim.shF))<| .cons (.slice (.strct TIncome.shF))<| .cons (.slice (.strct TMatch.shF))<| .cons (.slice (.int .i64))<| .nil
def TCash.wf (x:TCash):Prop:=(x.Claims.length≤maxLen∧∀z,z∈x.Claims→z.wf)∧(x.Incomes.length≤maxLen∧∀z,z∈x.Incomes→z.wf)∧(x.Matches.length≤maxLen∧∀z,z∈x.Matches→z.wf)∧(x.Loose.length≤maxLen∧∀z,z∈x.Loose→fits z)
theorem TCash.of (as0:List AV) (h:(Sh.strct TCash.shF).V as0):∃x:TCash,as0=x.cells∧x.wf:=by
 obtain⟨_,_,rfl,h0,_,_,rfl,h1,_,_,rfl,h2,_,_,rfl,h3,rfl⟩:=h
 obtain⟨x0,rfl,w0⟩:=(of_slice (.strct TClaim.shF) TClaim.of) _ h0
 obtain⟨x1,rfl,w1⟩:=(of_slice (.strct TIncome.shF) TIncome.of) _ h1
 obtain⟨x2,rfl,w2⟩:=(of_slice (.strct TMatch.shF) TMatch.of) _ h2
 obtain⟨x3,rfl,w3⟩:=(of_slice (.int .i64) of_int) _ h3
 exact⟨⟨x0,x1,x2,x3⟩,rfl,w0,w1,w2,w3⟩
def TSecurity.shF:Fs:= .cons (.int .i64)<| .cons (.int .i64)<| .cons (.int .i64)<| .cons (.int .i64)<| .cons (.int .i64)<| .cons (.int .i64)<| .cons (.bool)<| .nil
def TSecurity.wf (x:TSecurity):Prop:=fits x.ID∧fits x.Unit∧fits x.Issued∧fits x.Maturity∧fits x.Rate∧fits x.Every∧True
theorem TSecurity.of (as0:List AV) (h:(Sh.strct TSecurity.shF).V as0):∃x:TSecurity,as0=x.cells∧x.wf:=by
 obtain⟨_,_,rfl,h0,_,_,rfl,h1,_,_,rfl,h2,_,_,rfl,h3,_,_,rfl,h4,_,_,rfl,h5,_,_,rfl,h6,rfl⟩:=h
 obtain⟨x0,rfl,w0⟩:=of_int _ h0
 obtain⟨x1,rfl,w1⟩:=of_int _ h1
 obtain⟨x2,rfl,w2⟩:=of_int _ h2
 obtain⟨x3,rfl,w3⟩:=of_int _ h3
 obtain⟨x4,rfl,w4⟩:=of_int _ h4
 obtain⟨x5,rfl,w5⟩:=of_int _ h5
 obtain⟨x6,rfl,w6⟩:=of_bool _ h6
 exact⟨⟨x0,x1,x2,x3,x4,x5,x6⟩,rfl,w0,w1,w2,w3,w4,w5,w6⟩
def THolding.shF:Fs:= .cons (.int .i64)<| .cons (.int .i64)<| .cons (.int .i64)<| .nil
def THolding.wf (x:THolding):Prop:=fits x.Security∧fits x.Holder∧fits x.Amount
theorem THolding.of (as0:List AV) (h:(Sh.strct THolding.shF).V as0):∃x:THolding,as0=x.cells∧x.wf:=by
 obtain⟨_,_,rfl,h0,_,_,rfl,h1,_,_,rfl,h2,rfl⟩:=h
 obtain⟨x0,rfl,w0⟩:=of_int _ h0
 obtain⟨x1,rfl,w1⟩:=of_int _ h1
 obtain⟨x2,rfl,w2⟩:=of_int _ h2
 exact⟨⟨x0,x1,x2⟩,rfl,w0,w1,w2⟩
def TMove.shF:Fs:= .cons (.int .i64)<| .cons (.int .i64)<| .cons (.int .i64)<| .cons (.int .i64)<| .cons (.int .i64)<| .cons (.int .i64)<| .cons (.int .i64)<| .nil
def TMove.wf (x:TMove):Prop:=fits x.Number∧fits x.Day∧fits x.Kind∧fits x.Security∧fits x.From∧fits x.To∧fits x.Amount
theorem TMove.of (as0:List AV) (h:(Sh.strct TMove.shF).V as0):∃x:TMove,as0=x.cells∧x.wf:=by
 obtain⟨_,_,rfl,h0,_,_,rfl,h1,_,_,rfl,h2,_,_,rfl,h3,_,_,rfl,h4,_,_,rfl,h5,_,_,rfl,h6,rfl⟩:=h
 obtain⟨x0,rfl,w0⟩:=of_int _ h0
 obtain⟨x1,rfl,w1⟩:=of_int _ h1
 obtain⟨x2,rfl,w2⟩:=of_int _ h2
 obtain⟨x3,rfl,w3⟩:=of_int _ h3
 obtain⟨x4,rfl,w4⟩:=of_int _ h4
 obtain⟨x5,rfl,w5⟩:=of_int _ h5
 obtain⟨x6,rfl,w6⟩:=of_int _ h6
 exact⟨⟨x0,x1,x2,x3,x4,x5,x6⟩,rfl,w0,w1,w2,w3,w4,w5,w6⟩
def TRegister.shF:Fs:= .cons (.slice (.strct TSecurity.shF))<| .cons (.slice (.strct THolding.shF))<| .cons (.slice (.strct TMove.shF))<| .nil
def TRegister.wf (x:TRegister):Prop:=(x.Securities.length≤maxLen∧∀z,z∈x.Securities→z.wf)∧(x.Holdings.length≤maxLen∧∀z,z∈x.Holdings→z.wf)∧(x.Moves.length≤maxLen∧∀z,z∈x.Moves→z.wf)
theorem TRegister.of (as0:List AV) (h:(Sh.strct TRegister.shF).V as0):∃x:TRegister,as0=x.cells∧x.wf:=by
 obtain⟨_,_,rfl,h0,_,_,rfl,h1,_,_,rfl,h2,rfl⟩:=h
 obtain⟨x0,rfl,w0⟩:=(of_slice (.strct TSecurity.shF) TSecurity.of) _ h0
 obtain⟨x1,rfl,w1⟩:=(of_slice (.strct THolding.shF) THolding.of) _ h1
 obtain⟨x2,rfl,w2⟩:=(of_slice (.strct TMove.shF) TMove.of) _ h2
 exact⟨⟨x0,x1,x2⟩,rfl,w0,w1,w2⟩
def TPosting.shF:Fs:= .cons (.int .i64)<| .cons (.int .i64)<| .cons (.int .i64)<| .cons (.int .i64)<| .cons (.int .i64)<| .cons (.int .i64)<| .cons (.int .i64)<| .cons (.int .i64)<| .nil
def TPosting.wf (x:TPosting):Prop:=fits x.Number∧fits x.Day∧fits x.Entity∧fits x.Debit∧fits x.Credit∧fits x.Amount∧fits x.Partner∧fits x.Ref
theorem TPosting.of (as0:List AV) (h:(Sh.strct TPosting.shF).V as0):∃x:TPosting,as0=x.cells∧x.wf:=by
 obtain⟨_,_,rfl,h0,_,_,rfl,h1,_,_,rfl,h2,_,_,rfl,h3,_,_,rfl,h4,_,_,rfl,h5,_,_,rfl,h6,_,_,rfl,h7,rfl⟩:=h
 obtain⟨x0,rfl,w0⟩:=of_int _ h0
 obtain⟨x1,rfl,w1⟩:=of_int _ h1
 obtain⟨x2,rfl,w2⟩:=of_int _ h2
 obtain⟨x3,rfl,w3⟩:=of_int _ h3
 obtain⟨x4,rfl,w4⟩:=of_int _ h4
 obtain⟨x5,rfl,w5⟩:=of_int _ h5
 obtain⟨x6,rfl,w6⟩:=of_int _ h6
 obtain⟨x7,rfl,w7⟩:=of_int _ h7
 exact⟨⟨x0,x1,x2,x3,x4,x5,x6,x7⟩,rfl,w0,w1,w2,w3,w4,w5,w6,w7⟩
def TLedger.shF:Fs:= .cons (.slice (.strct TPosting.shF))<| .nil
def TLedger.wf (x:TLedger):Prop:=(x.Postings.length≤maxLen∧∀z,z∈x.Postings→z.wf)
theorem TLedger.of (as0:List AV) (h:(Sh.strct TLedger.shF).V as0):∃x:TLedger,as0=x.cells∧x.wf:=by
 obtain⟨_,_,rfl,h0,rfl⟩:=h
 obtain⟨x0,rfl,w0⟩:=(of_slice (.strct TPosting.shF) TPosting.of) _ h0
 exact⟨⟨x0⟩,rfl,w0⟩
def TState.shF:Fs:= .cons (.strct TDesk.shF)<| .cons (.strct TCash.shF)<| .cons (.strct TRegister.shF)<| .cons (.strct TLedger.shF)<| .nil
def TState.wf (x:TState):Prop:=x.Desk.wf∧x.Cash.wf∧x.Register.wf∧x.Ledger.wf
theorem TState.of (as0:List AV) (h:(Sh.strct TState.shF).V as0):∃x:TState,as0=x.cells∧x.wf:=by
 obtain⟨_,_,rfl,h0,_,_,rfl,h1,_,_,rfl,h2,_,_,rfl,h3,rfl⟩:=h
 obtain⟨x0,rfl,w0⟩:=TDesk.of _ h0
 obtain⟨x1,rfl,w1⟩:=TCash.of _ h1
 obtain⟨x2,rfl,w2⟩:=TRegister.of _ h2
 obtain⟨x3,rfl,w3⟩:=TLedger.of _ h3
 exact⟨⟨x0,x1,x2,x3⟩,rfl,w0,w1,w2,w3⟩
def TDeed.shF:Fs:= .cons (.int .i64)<| .cons (.int .i64)<| .cons (.int .i64)<| .cons (.int .i64)<| .cons (.int .i64)<| .cons (.int .i64)<| .cons (.int .i64)<| .nil
def TDeed.wf (x:TDeed):Prop:=fits x.Kind∧fits x.Day∧fits x.Sub∧fits x.Who∧fits x.Ref∧fits x.Amount∧fits x.Due
theorem TDeed.of (as0:List AV) (h:(Sh.strct TDeed.shF).V as0):∃x:TDeed,as0=x.cells∧x.wf:=by
 obtain⟨_,_,rfl,h0,_,_,rfl,h1,_,_,rfl,h2,_,_,rfl,h3,_,_,rfl,h4,_,_,rfl,h5,_,_,rfl,h6,rfl⟩:=h
 obtain⟨x0,rfl,w0⟩:=of_int _ h0
 obtain⟨x1,rfl,w1⟩:=of_int _ h1
 obtain⟨x2,rfl,w2⟩:=of_int _ h2
 obtain⟨x3,rfl,w3⟩:=of_int _ h3
 obtain⟨x4,rfl,w4⟩:=of_int _ h4
 obtain⟨x5,rfl,w5⟩:=of_int _ h5
 obtain⟨x6,rfl,w6⟩:=of_int _ h6
 exact⟨⟨x0,x1,x2,x3,x4,x5,x6⟩,rfl,w0,w1,w2,w3,w4,w5,w6⟩
def TFinding.shF:Fs:= .cons (.int .i64)<| .cons (.int .i64)<| .nil
def TFinding.wf (x:TFinding):Prop:=fits x.Layer∧fits x.Number
theorem TFinding.of (as0:List AV) (h:(Sh.strct TFinding.shF).V as0):∃x:TFinding,as0=x.cells∧x.wf:=by
 obtain⟨_,_,rfl,h0,_,_,rfl,h1,rfl⟩:=h
 obtain⟨x0,rfl,w0⟩:=of_int _ h0
 obtain⟨x1,rfl,w1⟩:=of_int _ h1
 exact⟨⟨x0,x1⟩,rfl,w0,w1⟩
open Go.ChangeShapes Go.WideShapes Go.ChangeAt Go.RowKit
open Go.PA (RepI PFun AV Rep Sh ShsA Fs)
theorem arg_ints {a:AV} (h:(Sh.slice (.int .i64)).A a):∃l:List Int,a=intsL l∧Small l∧l.length≤9223372036854775807:=by
 obtain⟨l,e,hl,hw⟩:=of_slice (.int .i64) of_int [a] h
 have hml:maxLen≤9223372036854775807:=by decide
 simp only[List.cons.injEq,and_true]at e
 exact⟨l,e,hw,by omega⟩
end Go.Proofs.YtaenimpfelpafaaGreatDoor
set_option maxRecDepth 100000
namespace Go.Proofs.YtaenimpfelpafaaGreatDoor
open Go.RowKit Go.WideShapes Go.ChangeShapes
open Go.PA (RepI PFun AV Rep GlobOk)
theorem gES:Tryz.prog.globalNamed "strconv.ErrSyntax"=some 0:=by kernel_rfl
theorem gER:Tryz.prog.globalNamed "strconv.ErrRange"=some 1:=by kernel_rfl
theorem gEST:(Tryz.prog.globals[0]?).map (·.type)=some 316:=by kernel_rfl
theorem gERT:(Tryz.prog.globals[1]?).map (·.type)=some 316:=by kernel_rfl
theorem cellsES:Tryz.prog.cellsOf 369=1:=by kernel_rfl
theorem cellsStr:Tryz.prog.cellsOf 9=1:=by kernel_rfl
theorem starES: "*"++ "errors.errorString"= "*errors.errorString":=by decide
theorem rowES (u:TypeId) (h:Tryz.prog.typeName? 3 u=some "*errors.errorString"):u=367:=
 typeName_ptr_named (nm:= "errors.errorString") (by rw[starES];kernel_rfl) (by kernel_rfl) (by decide) u (by rw[starES];exact h)
theorem lt_of_cell {W:World} {g:Nat} {v:Value} (h:W.cell? ⟨g,0,none⟩=some v):g<W.heap.size:=by
 rcases Nat.lt_or_ge g W.heap.size with h'|h'
 ·exact h'
 ·simp[World.cell?,Array.getElem?_eq_none h']at h
theorem glob_ok {W:World} (h:laidMetH Tryz.prog Rows.courtSumsRow.laid W):GlobOk (fun b=>b<W.heap.size) W:=by
 rw[MakeChecks.laidMetH_plain _ _ _ (by kernel_rfl)]at h
 have h4:=h.tail.tail.tail.tail
 obtain⟨a0,s0,hv0, -, -, -⟩:=laid_sentinel h4 gER gERT Tryz.underlying316 rowES Tryz.underlying367 Tryz.underlying369 rfl rfl Tryz.underlying9 cellsES cellsStr
 obtain⟨a1,s1,hv1, -, -, -⟩:=laid_sentinel h4.tail gES gEST Tryz.underlying316 rowES Tryz.underlying367 Tryz.underlying369 rfl rfl Tryz.underlying9 cellsES cellsStr
 have h0:W.cell? ⟨1,0,none⟩=some (.iface 367 (.pointer (some a0))):=by simpa using World.var?_cell gER hv0 0
 have h1:W.cell? ⟨0,0,none⟩=some (.iface 367 (.pointer (some a1))):=by simpa using World.var?_cell gES hv1 0
 intro g hg
 simp only[Go.PA.globs,List.mem_cons,List.not_mem_nil,or_false]at hg
 rcases hg with rfl|rfl
 ·exact⟨lt_of_cell h1,_,_,h1⟩
 ·exact⟨lt_of_cell h0,_,_,h0⟩
open Go.Shelf
open Go.RowKit Go.Sort Go.Lib in
open Go.RowKit in
open Go.RowKit Go.Lib in
open Go.RowKit Go.Shelf
attribute [local go_sem] Oper.semAt_some
def piecesF (c:UInt8):Nat→List UInt8→List (List UInt8)
 |0,l=>[l]
 |n+1,l=>if Lib.indexByte l c<0 then [l]else l.take (Lib.indexByte l c).toNat::piecesF c n (l.drop ((Lib.indexByte l c).toNat+1))
def bl (s:ByteArray):List UInt8:=s.data.toList
open Go.RowKit Go.Shelf
attribute [local go_sem] Oper.semAt_some
def partOf (l:List UInt8):Option Int:=match Lib.atoiAll l with
 | .ok n=>if 1≤n∧n≤99∧Lib.decDigits n.toNat=l then some n else none
 |_=>none
def partsD (s:ByteArray):List Int:=match (piecesF 46 s.size (bl s)).mapM partOf with
 |some ns=>if ns.length≤4 then ns else []
 |none=>[]
end Go.Proofs.YtaenimpfelpafaaGreatDoor
namespace Go.PA
open Go.RowKit
section
variable {E:Env}
theorem weaker_frzcell {s:St} {o id ty k ty' kk n r c:Nat} {es fs:List (List AV)} {e:List AV} (hW:∀b,¬E.W b) (ho:s.H[o]?=some (some ⟨ty,k,es⟩)) (hk:k≠2) (he:es[r]?=some e) (hc:e[c]?=some (.sref id 0 n))
  (hid:s.H[id]?=some (some ⟨ty',kk,fs⟩)) (hn:n=fs.length) (hi:Imm (.list kk fs)) (hne:o≠id):Weaker E s ⟨s.t,(s.H.set id none).set o (some ⟨ty,k,es.set r (e.set c (.list kk fs))⟩)⟩:=by
 rintro a w ⟨ρ,ok,g,hx,hd,hs,hr⟩
 obtain⟨ok',g1,x1,hok⟩:=g.freeze [id] hW
 have g1:Good E w ρ (s.H.set id none) ok':=g1
 have x1:Ext w ρ s.H ok w ρ (s.H.set id none) ok':=x1
 have ho1:(s.H.set id none)[o]?=some (some ⟨ty,k,es⟩):=by rw[List.getElem?_set_ne (Ne.symm hne)];exact ho
 have hobj:=g.obj o _ ho
 have hlen:=g.len o _ ho
 have hmem:=List.mem_of_getElem? he
 have hv:view1 s.H (.sref id 0 n)= .list kk fs:=by
  simp only[view1,hid,List.drop_zero]
  rw[hn,List.take_length]
 cases hρ:ρ o with
 |none=>
  rw[hρ]at hobj
  have:es=[]:=hobj
  rw[this]at he
  cases he
 |some bc=>
  obtain⟨b,cap⟩:=bc
  rw[hρ]at hobj
  rcases hobj with⟨cur,h1,h2,h3,h4,h5⟩|⟨_,hk',_⟩|⟨_,hk',hit⟩
  ·obtain⟨g',x'⟩:=g1.change (w':=w) ho1 hρ ⟨ty,k,es.set r (e.set c (.list kk fs))⟩ rfl (by simp) (fun e' he'=>by
    rcases List.mem_or_eq_of_mem_set he' with he'|rfl
    ·exact hlen e' he'
    ·rw[List.length_set];exact hlen e hmem) rfl rfl rfl rfl (fun _ _=>rfl) fun hx'=> .inl ⟨cur,h1,h2,by simpa using h3,h4,fun i e' j a' hie hja=>by
     by_cases hir:i=r
     ·subst hir
      have hil:=(gsI he)
      rw[List.getElem?_set_self hil,Option.some.injEq]at hie
      subst hie
      by_cases hjc:j=c
      ·subst hjc
       have hjl:=(gsI hc)
       rw[List.getElem?_set_self hjl,Option.some.injEq]at hja
       subst hja
       obtain⟨v,v1,v2,v3⟩:=h5 i e j _ he hc
       refine⟨v,v1,v2,?_⟩
       have hri:=view1_soundX (·∈[id]) g v3 (by rw[hv];exact hi) (by simp[srefs1])
       rw[hv]at hri
       exact (Rep.imm hri hok hi).ext hx'
      ·rw[List.getElem?_set_ne (Ne.symm hjc)]at hja
       obtain⟨v,v1,v2,v3⟩:=h5 i e j _ he hja
       exact⟨v,v1,v2,(v3.ext x1).ext hx'⟩
     ·rw[List.getElem?_set_ne (Ne.symm hir)]at hie
      obtain⟨v,v1,v2,v3⟩:=h5 i e' j _ hie hja
      exact⟨v,v1,v2,(v3.ext x1).ext hx'⟩⟩
   exact⟨ρ,ok',g',hx.trans (x1.trans x'),hd,hs,fun i=>((hr i).ext x1).ext x'⟩
  ·exact absurd hk' hk
  ·exfalso
   rcases hit with⟨hes,_⟩|⟨m,clk,seen,ents,c1,c2,_,_,_,_,hes,hcc⟩
   ·have hes:es=[[.junk,.junk,.imap []]]:=hes
    subst hes
    have:e=[.junk,.junk,.imap []]:=by
     rcases r with _|r
     ·simpa using he.symm
     ·simp at he
    subst this
    rcases c with _|_|_|c<;>simp at hc
   ·have hes:es=[[c1,c2,.imap ((ents.toList.filter fun e=>!seen.contains e.born).map fun e=>(e.key,e.val))]]:=hes
    subst hes
    have:e=[c1,c2,.imap ((ents.toList.filter fun e=>!seen.contains e.born).map fun e=>(e.key,e.val))]:=by
     rcases r with _|r
     ·simpa using he.symm
     ·simp at he
    subst this
    rcases hcc with⟨rfl,rfl⟩|⟨x,_,_,rfl,rfl⟩<;>rcases c with _|_|_|c<;>simp at hc
def AInv (E:Env) (Inv:St→Prop) (s:St):Prop:=∃s',Weaker E s s'∧Inv s'
theorem Weaker.refl (s:St):Weaker E s s:=fun _ _ h=>h
theorem awp_join {a b:Code} {s:St} {Q:Exit→St→Prop} (Inv:St→Prop) (hc:codeOk E.N a=true) (h:awp E a s (Athen (fun s'=>AInv E Inv s') Q)) (hk:∀s',Inv s'→AWp E b s' Q):AWp E (.seq a b) s Q:=by
 intro x w r
 refine wp_seq (wp_mono (awp_sound a s _ hc h x w r) fun e a' w' h'=>?_)
 obtain⟨s',h1,h2⟩:=h'
 cases e with
 |normal=>
  obtain⟨s2,k1,k2⟩:=h1
  exact hk s2 k2 a' w' (k1 a' w' h2)
 |_=>exact⟨s',h1,h2⟩
end
open Go.RowKit
theorem pfun_of_mfun {P:Program} {row src:Option Nat} {f:FuncId} {args:List AV} {C:AV→Heap→Prop} {Q:AV→Prop} (h:MFun P row src f args [] C)
  (hC:∀r H',C r H'→∃x,Weak (view H' r) x∧Imm (view H' r)∧Imm x∧Q x):PFun P row src f args Q:=by
 intro w ok vs h1 h2 h3 h4
 let E:Env:={P:=P,w0:=w,okA:=ok,row:=row,src:=src,N:=0,W:=fun _=>False,ρ0:=fun _=>none,H0:=[]}
 have g:Good E w (fun _=>none) [] ok:=⟨rfl,rfl,rfl,Nat.le_refl _,fun _ _ _ _=>rfl,h2,fun b hb=>⟨(h1 b hb).1,(h1 b hb).2,.inl hb⟩,by simp,by simp,by simp,by simp⟩
 refine ((h E rfl rfl rfl).2 w (fun _=>none) ok vs g h3 h4).mono ?_
 rintro e w' ⟨v,r,H',ρ,ok',rfl,hc,g',_,hrep⟩
 obtain⟨x,hwk,hi,hix,hx⟩:=hC r H' hc
 refine⟨v,x,rfl,hx,hix,?_,⟨g'.os,g'.tape,g'.output,g'.size,fun k hk hne=>g'.blk k hk (fun h=>h) hne⟩,?_⟩
 ·refine Rep.weak hwk ((view_sound g' hrep hi).imm (fun b hb=>?_) hi)
  rcases hb with hb|⟨_,_,_,ho,hρ⟩
  ·obtain⟨b1,_,b3⟩:=g'.oks b hb
   exact b3.imp id fun h=>⟨h,b1⟩
  ·have hobj:=g'.obj _ _ ho
   rw[hρ]at hobj
   obtain⟨_,_,b3⟩:=g'.own _ _ b _ ho hρ
   exact .inr ⟨b3.resolve_left (fun h=>h),hobj.lt⟩
 ·refine⟨⟨h2.1.1,h2.1.2.at g'.inv.1.2⟩,fun p hp=>?_⟩
  exact g'.inv.2 p hp
end Go.PA
namespace Go.Proofs.YtaenimpfelpafaaGreatDoor
open Go.PA
open Go.RowKit
theorem rep_ints {w:World} {ok:Nat→Prop} {base:Nat} {v:Value} {ns:List Int} (h:w.ownsRow base 3 1 v ns.length (ns.map (Value.int .i64))) (hok:∀b,base≤b→b<w.heap.size→ok b):RepI w ok v (intsL ns):=by
 have hl:=h.lt
 have hc:=fun g hg=>h.cells (g:=g) hg
 rcases h.2 with⟨rfl,h0⟩|⟨g,cap,cur,rfl,hb,hg,hcap,_⟩
 ·rw[List.length_eq_zero_iff.1 h0]
  exact .listNil
 ·obtain⟨_,hlt⟩:=hl g rfl
  refine .list (fun i _=> .int .i64 (ns.getD i 0)) (by simp) hcap (hok g hb hlt) (by simp) ?_ (fun _ _ _ _ _ _=>rfl) ?_<;>
  ·intro i e j a he ha
   rw[List.getElem?_map,Option.map_eq_some_iff]at he
   obtain⟨x,hx,rfl⟩:=he
   have hj:j=0:=by have:=(gsI ha);simpa using this
   subst hj
   have hd:ns.getD i 0=x:=by rw[List.getD_eq_getElem?_getD,hx];rfl
   simp only[List.getElem?_cons_zero,Option.some.injEq]at ha
   subst ha
   simp only[hd]
   first
    |exact .sc
    |exact hc g rfl _ _ (by rw[Nat.mul_one,Nat.add_zero,List.getElem?_map,hx];rfl)
open Go.PA
open Go.RowKit
theorem isNaN_pf (x:Int):PFun Tryz.prog none none 103 [iv x] (·=bv false):=by
 refine pfun_intro Tryz.func103 rfl (by simp[Tryz.f103]) (by kernel_rfl) ?_
 intro E hP hr hs hW hN
 simp[go_sem,hP]
def cmpI (x y:Int):Int:=if x<y then -1 else if y<x then 1 else 0
theorem compare_pf (x y:Int):PFun Tryz.prog none none 55 [iv x,iv y] (·=iv (cmpI x y)):=by
 refine pfun_intro Tryz.func55 rfl (by simp[Tryz.f55]) (by kernel_rfl) ?_
 intro E hP hr hs hW hN
 simp[go_sem,hP]
 refine callB_pure (isNaN_pf x) hP en_103 (args_same (by simp[go_sem])) .sc ?_
 simp[go_sem,hP]
 refine callB_pure (isNaN_pf y) hP en_103 (args_same (by simp[go_sem])) .sc ?_
 simp[go_sem,hP]
 refine condP (fun h=>?_) (fun h=>?_)
 ·have h:x<y:=by simpa using h
  simp[go_sem,hP,cmpI,h]
 ·have h:¬x<y:=by simpa using h
  simp[go_sem,hP]
  refine condP (fun h'=>?_) (fun h'=>?_)
  ·have h':y<x:=by simpa using h'
   simp[go_sem,hP,cmpI,h,h']
  ·have h':¬y<x:=by simpa using h'
   simp[go_sem,hP,cmpI,h,h']
def orI:List Int→Int
 |[]=>0
 |x::l=>if x=0 then orI l else x
theorem orI_drop (l:List Int) (k:Nat) (h:k<l.length):orI (l.drop k)=if l[k]=0 then orI (l.drop (k+1))else l[k]:=by
 rw[List.drop_eq_getElem_cons h];rfl
theorem or_pf (l:List Int) (hl:l.length≤1000):PFun Tryz.prog none none 287 [intsL l] (·=iv (orI l)):=by
 refine pfun_intro Tryz.func287 rfl (by simp[Tryz.f287]) (by kernel_rfl) ?_
 intro E hP hr hs hW hN
 simp[go_sem,hP,intsL]
 refine aloop0 (fun m s=>∃k:Nat,k≤l.length∧m=l.length-k∧orI l=orI (l.drop k)∧s.t 3=iv 0∧s.t 6=intsL l∧s.t 7=iv l.length∧s.t 8=iv k) l.length (by rw[hN];rfl) ?_ ?_
 ·exact⟨0,by omega,by omega,by simp,by simp[go_sem],by simp[go_sem,intsL],by simp[go_sem],by simp[go_sem]⟩
 rintro m s ⟨k,hk,hm,ho,t3,t6,t7,t8⟩
 simp[go_sem,hP,t7,t8]
 refine condP (fun h=>?_) (fun h=>?_)
 ·have hk:k<l.length:=by simpa using h
  rw[orI_drop l k hk]at ho
  have w:=wrap_in ((k:Int)+1) (by omega)
  simp[go_sem,hP,t3,t6,t7,t8,intsL,hk]
  by_cases h0:l[k]=0
  ·simp[go_sem,hP,h0,t8,w]
   rw[if_pos h0]at ho
   exact⟨l.length-(k+1),by omega,k+1,by omega,rfl,ho,t3,t6,t7,rfl⟩
  ·simp[go_sem,hP,h0]
   rw[if_neg h0]at ho
   exact ho.symm
 ·have hk:l.length≤k:=by simpa using h
  simp[go_sem,hP,t3]
  rw[ho,List.drop_eq_nil_of_le hk]
  rfl
open Go.PA
open Go.RowKit
section
variable {α:Type} (enc:α→List AV) (lt:α→α→Bool) (g:FuncId)
end
section
variable {α:Type} {lt:α→α→Bool}
def insR (lt:α→α→Bool) (x:α):List α→List α
 |[]=>[x]
 |y::l=>if lt x y then x::y::l else y::insR lt x l
def ssort (lt:α→α→Bool) (l:List α):List α:=l.foldl (fun acc x=>insR lt x acc) []
def blk (lt:α→α→Bool) (bs:Nat):Nat→List α→List α
 |0,_=>[]
 |f+1,l=>ssort lt (l.take bs)++blk lt bs f (l.drop bs)
end
def btw (n lo hi:Int):Bool:=decide (lo≤n)&&decide (n≤hi)
theorem btw_iff {n lo hi:Int}:btw n lo hi=true↔lo≤n∧n≤hi:=by simp[btw]
theorem btw_no {n lo hi:Int} (h:¬(lo≤n∧n≤hi)):btw n lo hi=false:=by simp[btw];omega
def codeB (s:ByteArray):Bool:=decide (0<(partsD s).length)
section
variable {α:Type} {lt:α→α→Bool}
end
def payB (c:TClaim):Bool:=btw c.ID 1 1000000&&btw c.Payer 1 1000000&&btw c.Amount 1 1000000000000&&btw c.Open 0 c.Amount&&btw c.Day 0 36000&&codeB c.Code
def incB (x:TIncome):Bool:=btw x.Number 1 1000000&&btw x.Payer 1 1000000&&btw x.Day 0 36000&&btw x.Amount 1 1000000000000&&btw x.Claim 0 1000000
def paysB:Int→List TClaim→Bool
 |_,[]=>true
 |p,c::l=>payB c&&decide (p<c.ID)&&paysB c.ID l
def incsB:Int→Int→List TIncome→Bool
 |_,_,[]=>true
 |n,d,x::l=>incB x&&decide (n<x.Number)&&decide (d≤x.Day)&&incsB x.Number x.Day l
def payAt (l:List TClaim) (id:Int):Option Nat:=l.findIdx? fun c=>decide (c.ID=id)
def incAt (l:List TIncome) (n:Int):Option Nat:=l.findIdx? fun x=>decide (x.Number=n)
def gotS (ms:List TMatch) (id:Int):Int:=((ms.filter fun m=>decide (m.Claim=id)).map (·.Amount)).sum
def usedS (ms:List TMatch) (n:Int):Int:=((ms.filter fun m=>decide (m.Income=n)).map (·.Amount)).sum
def mateB (cs:List TClaim) (xs:List TIncome) (m:TMatch):Bool:=decide (0<m.Amount)&&cs.any fun c=>decide (c.ID=m.Claim)&&xs.any fun x=>decide (x.Number=m.Income)&&decide (x.Payer=c.Payer)
def booksB (c:TCash):Bool:=decide (c.Loose.length=c.Incomes.length)&&c.Matches.all (mateB c.Claims c.Incomes)&&(c.Claims.all fun x=>decide (gotS c.Matches x.ID=x.Amount-x.Open))&&((c.Incomes.zip c.Loose).all fun p=>decide (0≤p.2)&&decide (usedS c.Matches p.1.Number≤p.1.Amount-p.2))
def cashE (c:TCash):Int:=if c.Claims.length≤60∧c.Incomes.length≤100∧c.Matches.length≤160 then (if paysB 0 c.Claims then (if incsB 0 0 c.Incomes&&booksB c then 0 else 70)else 69)else 3
def only (ks:List Nat):List Nat:=match ks with
 |[k]=>[k]
 |_=>[]
theorem paysB_iff:∀(l:List TClaim) (p:Int),paysB p l=true↔(∀c,c∈l→payB c=true∧p<c.ID)∧l.Pairwise fun a b=>a.ID<b.ID
 |[],p=>by simp[paysB]
 |c::l,p=>by
  rw[paysB]
  simp only[Bool.and_eq_true,decide_eq_true_eq,paysB_iff l c.ID,List.pairwise_cons,List.forall_mem_cons]
  constructor
  ·rintro⟨⟨h1,h2⟩,h3,h4⟩
   exact⟨⟨⟨h1,h2⟩,fun x hx=>⟨(h3 x hx).1,by have:=(h3 x hx).2;omega⟩⟩,fun x hx=>(h3 x hx).2,h4⟩
  ·rintro⟨⟨⟨h1,h2⟩,h3⟩,h4,h5⟩
   exact⟨⟨h1,h2⟩,fun x hx=>⟨(h3 x hx).1,h4 x hx⟩,h5⟩
theorem incsB_iff:∀(l:List TIncome) (n d:Int),incsB n d l=true↔(∀x,x∈l→incB x=true∧n<x.Number∧d≤x.Day)∧l.Pairwise fun a b=>a.Number<b.Number∧a.Day≤b.Day
 |[],n,d=>by simp[incsB]
 |x::l,n,d=>by
  rw[incsB]
  simp only[Bool.and_eq_true,decide_eq_true_eq,incsB_iff l x.Number x.Day,List.pairwise_cons,List.forall_mem_cons]
  constructor
  ·rintro⟨⟨⟨h1,h2⟩,h2'⟩,h3,h4⟩
   exact⟨⟨⟨h1,h2,h2'⟩,fun z hz=>⟨(h3 z hz).1,by have:=(h3 z hz).2;omega,by have:=(h3 z hz).2;omega⟩⟩,fun z hz=>(h3 z hz).2,h4⟩
  ·rintro⟨⟨⟨h1,h2,h2'⟩,h3⟩,h4,h5⟩
   exact⟨⟨⟨h1,h2⟩,h2'⟩,fun z hz=>⟨(h3 z hz).1,h4 z hz⟩,h5⟩
theorem payB_iff {c:TClaim}:payB c=true↔(1≤c.ID∧c.ID≤1000000)∧(1≤c.Payer∧c.Payer≤1000000)∧(1≤c.Amount∧c.Amount≤1000000000000)∧(0≤c.Open∧c.Open≤c.Amount)∧(0≤c.Day∧c.Day≤36000)∧codeB c.Code=true:=by
 simp[payB,btw,and_assoc]
structure CashOk (c:TCash):Prop where
 pays:(∀x,x∈c.Claims→payB x=true)∧c.Claims.Pairwise fun a b=>a.ID<b.ID
 incs:(∀x,x∈c.Incomes→incB x=true)∧c.Incomes.Pairwise fun a b=>a.Number<b.Number∧a.Day≤b.Day
 len:c.Loose.length=c.Incomes.length
 mates:∀m,m∈c.Matches→0<m.Amount∧∃x y,x∈c.Claims∧y∈c.Incomes∧x.ID=m.Claim∧y.Number=m.Income∧y.Payer=x.Payer
 got:∀x,x∈c.Claims→gotS c.Matches x.ID=x.Amount-x.Open
 used:∀(i:Nat) y lo,c.Incomes[i]?=some y→c.Loose[i]?=some lo→0≤lo∧usedS c.Matches y.Number≤y.Amount-lo
theorem id_inj {l:List TClaim} (h:l.Pairwise fun a b=>a.ID<b.ID) {i j:Nat} {x y:TClaim} (hi:l[i]?=some x) (hj:l[j]?=some y) (e:x.ID=y.ID):i=j:=by
 obtain⟨h1,h2⟩:=List.getElem?_eq_some_iff.1 hi
 obtain⟨h3,h4⟩:=List.getElem?_eq_some_iff.1 hj
 rcases Nat.lt_trichotomy i j with hlt|rfl|hlt
 ·have:=List.pairwise_iff_getElem.1 h i j h1 h3 hlt
  rw[h2,h4]at this
  omega
 ·rfl
 ·have:=List.pairwise_iff_getElem.1 h j i h3 h1 hlt
  rw[h2,h4]at this
  omega
theorem num_inj {l:List TIncome} (h:l.Pairwise fun a b=>a.Number<b.Number∧a.Day≤b.Day) {i j:Nat} {x y:TIncome} (hi:l[i]?=some x) (hj:l[j]?=some y) (e:x.Number=y.Number):i=j:=by
 obtain⟨h1,h2⟩:=List.getElem?_eq_some_iff.1 hi
 obtain⟨h3,h4⟩:=List.getElem?_eq_some_iff.1 hj
 rcases Nat.lt_trichotomy i j with hlt|rfl|hlt
 ·have:=(List.pairwise_iff_getElem.1 h i j h1 h3 hlt).1
  rw[h2,h4]at this
  omega
 ·rfl
 ·have:=(List.pairwise_iff_getElem.1 h j i h3 h1 hlt).1
  rw[h2,h4]at this
  omega
def lastN (c:TCash):Int:=((c.Incomes.getLast?).map (·.Number)).getD 0
def lastD (c:TCash):Int:=((c.Incomes.getLast?).map (·.Day)).getD 0
def noCash:TCash:=⟨[],[],[],[]⟩
open Go.PA
open Go.RowKit
theorem cIncm (x:TIncome):x.cells=[iv x.Number,iv x.Day,iv x.Payer,iv x.Amount,iv x.Claim]:=rfl
open Go.PA
open Go.RowKit
abbrev claimsL (l:List TClaim):AV:= .list 6 (encL TClaim.cells l)
theorem imm_claims (l:List TClaim):Imm (claimsL l):=imm_encL _ TClaim.imm l
def digR (c:UInt8):Bool:=decide (48≤c.toNat)&&decide (c.toNat≤57)
def numR (x:List UInt8):Int:=x.foldl (fun n c=>10*n+((c.toNat:Int)-48)) 0
def okR (x:List UInt8):Option Int:=if (x.length=1∨x.length=2)∧x.all digR=true∧¬x.head?=some 48 then some (numR x)else none
end Go.Proofs.YtaenimpfelpafaaGreatDoor
