/- Several texts of this claim, joined: PaC Types Facts PlayAll Frame PaArg Args ArgsUse CardLibCc Acc1 AccLib Acc2 Acc3 Acc4 Grown Acc5 Bat1. -/
import Derived.Test.YtaenimpfelpafaaGreatDoorPk2
import Derived.Test.YtaenimpfelpafaaGreatDoorProg
import Derived.KernelRfl
import Derived.WalkSpells
import Derived.WalkLawsBesides
import Derived.Deep.QuietTactic
import Derived.BigQuiet
import Derived.RegionTactic
import Derived.Lib.Hide
import Derived.Test.YtaenimpfelpafaaGreatDoorRows
import Derived.ProofKit
import Derived.Below
import Derived.Carry
import Derived.ChangeSame
import Derived.ChangeMaps5
import Derived.ShutString
import Derived.Stop.LaidErr
import Derived.LaidMore
import Derived.Lay
import Derived.SevenTiedAt
import Derived.Stop.Joined
import Derived.Test.YtaenimpfelpafaaGreatDoorCards
import Derived.Test.YtaenimpfelpafaaGreatDoorTie
set_option linter.unusedSimpArgs false
set_option linter.unusedVariables false
namespace Go.PA
open Go.RowKit
def POwn (P:Program) (row src:Option Nat) (f:FuncId) (args:List AV) (ty:TypeId) (k:Nat) (Q:List (List AV)→Prop):Prop:=
 ∀(w:World) (ok:Nat→Prop) (vs:Array Value),(∀b,ok b→b<w.heap.size∧some b≠row)→Inv row src ok w→vs.size=args.length→(∀(i:Nat) (v:Value) (a:AV),vs[i]?=some v→args[i]?=some a→RepI w ok v a)→
  Calls P f vs w fun e w'=>∃(b cap:Nat) (es:List (List AV)),e= .returned (.pointer (some ⟨b,0,none⟩))∧Q es∧w.heap.size≤b∧b<w'.heap.size∧(∀e,e∈es→e.length=k)∧
   CellsOk w' (fun _=>none) [] (fun x=>(ok x∨(w.heap.size≤x∧x<w'.heap.size))∧x≠b) ⟨ty,k,es⟩ b cap∧(∀e,e∈es→∀a,a∈e→Imm a)∧w.grownBy w' row∧Inv row src ok w'
def AOwn (P:Program) (rs:List ResultVar) (ty:TypeId) (k:Nat) (Q:List (List AV)→Prop):Exit→St→Prop
 | .normal,s| .ret,s=>∃id es,ares P s rs=some (.ref id 0 0)∧s.H[id]?=some (some ⟨ty,k,es⟩)∧(∀e,e∈es→∀a,a∈e→Imm a)∧Q es
 |_,_=>False
theorem pown_intro {P:Program} {row src:Option Nat} {f:FuncId} {args:List AV} {ty:TypeId} {k:Nat} {Q:List (List AV)→Prop} {fn:Func} {body:Code}
  (hf:P.funcs[f]?=some fn) (hb:fn.body=some body) (hn:args.length≤fn.ntmps) (hc:codeOk fn.ntmps body=true)
  (h:∀E:Env,E.P=P→E.row=row→E.src=src→(∀b,¬E.W b)→E.N=fn.ntmps→awp E body ⟨initT args,[]⟩ (AOwn P fn.results.toList ty k Q)):POwn P row src f args ty k Q:=by
 intro w ok vs h1 h2 h3 h4
 let E:Env:={P:=P,w0:=w,okA:=ok,row:=row,src:=src,N:=fn.ntmps,W:=fun _=>False,ρ0:=fun _=>none,H0:=[]}
 have g:Good E w (fun _=>none) [] ok:=⟨rfl,rfl,rfl,Nat.le_refl _,fun _ _ _ _=>rfl,h2,fun b hb=>⟨(h1 b hb).1,(h1 b hb).2,.inl hb⟩,by simp,by simp,by simp,by simp⟩
 have r:Rel E ⟨initT args,[]⟩ {tmps:=vs++Array.replicate (fn.ntmps-vs.size) undef,defers:=[]} w:=by
  refine⟨fun _=>none,ok,g,Ext.refl _ _ _ _,rfl,by simp[E];omega,fun i=>?_⟩
  simp only[initT]
  rcases Nat.lt_or_ge i args.length with hlt|hge
  ·have e1:args.getD i (.sc undef)=args[i]:=by simp[List.getD,List.getElem?_eq_getElem hlt]
   have hv:vs[i]?=some (vs[i]'(by omega)):=Array.getElem?_eq_getElem (by omega)
   have e2:(vs++Array.replicate (fn.ntmps-vs.size) undef).getD i undef=vs[i]'(by omega):=by
    rw[Array.getD_eq_getD_getElem?,Array.getElem?_append_left (by omega),hv]
    rfl
   rw[e1,e2]
   exact h4 i _ _ hv (List.getElem?_eq_getElem hlt)
  ·have e1:args.getD i (.sc undef)= .sc undef:=by simp[List.getD,List.getElem?_eq_none hge]
   have e2:(vs++Array.replicate (fn.ntmps-vs.size) undef).getD i undef=undef:=by
    rw[Array.getD_eq_getD_getElem?,Array.getElem?_append_right (by omega),Array.getElem?_replicate]
    split<;>rfl
   rw[e1,e2]
   exact .sc
 have hw:=awp_sound (E:=E) body _ _ hc (h E rfl rfl rfl (fun _ h=>h) rfl) _ _ r
 refine calls_of_wp hf hb (wp_mono hw fun e a' w' h'=>?_)
 obtain⟨s',hq,ρ,ok',g',_,hd,_,hr⟩:=h'
 have fin:(∃id es,ares P s' fn.results.toList=some (.ref id 0 0)∧s'.H[id]?=some (some ⟨ty,k,es⟩)∧(∀e,e∈es→∀a,a∈e→Imm a)∧Q es)→a'.defers=[]∧∃v,(results fn a'.tmps).run P w'= .ok v w'∧
   ∃(b cap:Nat) (es:List (List AV)),Ending.returned v= .returned (.pointer (some ⟨b,0,none⟩))∧Q es∧w.heap.size≤b∧b<w'.heap.size∧(∀e,e∈es→e.length=k)∧
   CellsOk w' (fun _=>none) [] (fun x=>(ok x∨(w.heap.size≤x∧x<w'.heap.size))∧x≠b) ⟨ty,k,es⟩ b cap∧(∀e,e∈es→∀a,a∈e→Imm a)∧w.grownBy w' row∧Inv row src ok w':=by
  rintro⟨id,es,hres,ho,hi,hq⟩
  obtain⟨v,hrun,hrep⟩:=ares_sound (E:=E) g' hr hres
  refine⟨hd,v,hrun,?_⟩
  cases hrep with
  |refDead hd' _=>rw[ho]at hd';cases hd'
  |@ref _ _ _ o b cap ho' hρ hcap=>
   rw[ho]at ho'
   simp only[Option.some.injEq]at ho'
   subst ho'
   have hobj:=g'.obj id _ ho
   rw[hρ]at hobj
   obtain⟨a1,a2,a3⟩:=g'.own id _ b cap ho hρ
   have hb1:w.heap.size≤b:=a3.resolve_left (fun h=>h)
   refine⟨b,cap,es,by simp,hq,hb1,hobj.lt,g'.len id _ ho,?_,hi,⟨g'.os,g'.tape,g'.output,g'.size,fun k hk hne=>g'.blk k hk (fun h=>h) hne⟩,⟨h2.1.1,h2.1.2.at g'.inv.1.2⟩,fun p hp=>g'.inv.2 p hp⟩
   obtain⟨cur,c1,c2,c3,c4,c5⟩:=hobj.cells hcap
   refine⟨cur,c1,c2,c3,c4,fun i e j a he ha=>?_⟩
   obtain⟨c,d1,d2,d3⟩:=c5 i e j a he ha
   refine⟨c,d1,d2,d3.imm (fun x hx=>⟨?_,fun e=>a1 (e▸hx)⟩) (hi e (List.mem_of_getElem? he) a (List.mem_of_getElem? ha))⟩
   obtain⟨x1,_,x3⟩:=g'.oks x hx
   exact x3.imp (fun h=>h) fun h=>⟨h,x1⟩
 cases e with
 |normal=>exact fin hq
 |ret=>exact fin hq
 |_=>exact hq.elim
section
variable {E:Env}
theorem callB_own {P:Program} {f:FuncId} {args:List AV} {args':List AV} {H:Heap} {ty:TypeId} {k:Nat} {Q:List (List AV)→Prop} {C:AV→Heap→Prop} {b:Bx C} (h:POwn P E.row E.src f args' ty k Q) (hP:E.P=P) (hen:enterable P f=true) (ha:Args H args args') (hn:∀a,a∈args→srefs a=[])
  (hex:∃es,Q es) (hC:∀es,Q es→C (.ref H.length 0 0) (H++[some ⟨ty,k,es⟩])):CallB E f args H C b:=by
 subst hP
 obtain⟨es0,hq0⟩:=hex
 refine .inl ⟨hen,⟨_,_,hC es0 hq0⟩,fun w ρ ok vs g hs hr=>?_⟩
 have hr':∀(i:Nat) (v:Value) (a:AV),vs[i]?=some v→args'[i]?=some a→RepI w ok v a:=fun i v a' hv ha'=>by
  obtain⟨a,h1,h2,h3⟩:=ha.get i a' ha'
  refine ((view_soundX (fun _=>False) g (hr i v a hv h1) h3 (fun id hid=>?_)).weak h2).ext ⟨by simp,by simp,?_,fun _ _=>rfl⟩
  ·rw[hn a (List.mem_of_getElem? h1)]at hid;cases hid
  ·rintro b (hb|⟨_,_,_,hf,_⟩)
   ·exact hb
   ·exact hf.elim
 refine (h w ok vs (fun b hb=>⟨(g.oks b hb).1,(g.oks b hb).2.1⟩) g.inv (hs.trans ha.len) hr').mono ?_
 rintro e w' ⟨b,cap,es,rfl,hq,hb1,hb2,hlen,hobj,hi,hg,hinv⟩
 obtain⟨g1,x1⟩:=g.call (ok':=fun x=>(ok x∨(w.heap.size≤x∧x<w'.heap.size))∧x≠b) hg hinv (fun x hx=>⟨.inl hx,fun e=>by have:=(g.oks x hx).1;omega⟩) (fun x hx=>hx.1)
 have hcm:cap≤maxLen:=hobj.choose_spec.2.2.2.1
 have hobj':ObjOk w' ρ H (fun x=>(ok x∨(w.heap.size≤x∧x<w'.heap.size))∧x≠b) ⟨ty,k,es⟩ (some (b,cap)):=by
  obtain⟨cur,c1,c2,c3,c4,c5⟩:=hobj
  refine .inl ⟨cur,c1,c2,c3,c4,fun i e j a he ha=>?_⟩
  obtain⟨c,d1,d2,d3⟩:=c5 i e j a he ha
  exact⟨c,d1,d2,d3.imm (fun x hx=>hx) (hi e (List.mem_of_getElem? he) a (List.mem_of_getElem? ha))⟩
 obtain⟨g2,x2⟩:=g1.add ⟨ty,k,es⟩ (some (b,cap)) hobj' hlen (fun b' c' h'=>by
  simp only[Option.some.injEq,Prod.mk.injEq]at h'
  obtain⟨rfl,rfl⟩:=h'
  refine⟨fun hx=>hx.2 rfl,fun id o c ho hρ=>?_,fun hrow=>?_,.inr (Nat.le_trans g.size hb1)⟩
  ·have:=g.obj id o ho
   rw[hρ]at this
   have:=this.lt
   omega
  ·have:=g.row_lt hrow.symm
   omega)
 refine⟨_,.ref H.length 0 0,H++[some ⟨ty,k,es⟩],_,_,rfl,hC es hq,g2,x1.trans x2,?_⟩
 have:=Rep.ref (w:=w') (ρ:=updP ρ H.length (some (b,cap))) (H:=H++[some ⟨ty,k,es⟩]) (ok:=fun x=>(ok x∨(w.heap.size≤x∧x<w'.heap.size))∧x≠b) (id:=H.length) (i:=0) (j:=0) (o:=⟨ty,k,es⟩) (b:=b) (cap:=cap) push_new (by simp[updP]) hcm
 simpa using this
theorem rep_int_list_cell {w:World} {ρ:Places} {H:Heap} {ok:Nat→Prop} {xs:List Int} {v:Value} (r:Rep w ρ H ok v (.list 1 (xs.map fun x=>[.sc (.int .i64 x)]))):
  ∃A c,v= .slice A xs.length c∧∀i,i<xs.length→∃ad,A=some ad∧ok ad.block∧∃x,x∈xs∧w.cell? (ad.add i)=some (.int .i64 x):=by
 generalize hes:xs.map (fun x=>[AV.sc (.int .i64 x)])=es at r
 cases r with
 |listNil=>simp at hes;subst hes;exact⟨_,_,rfl,by simp⟩
 |@list ad n c _ _ f hn hnc hok hk hc h1 hr=>
  subst hes
  refine⟨some ad,c,by simp at hn;rw[hn],fun i hi=>⟨ad,rfl,hok,xs[i],List.getElem_mem hi,?_⟩⟩
  have he:(xs.map (fun x=>[AV.sc (.int .i64 x)]))[i]?=some [.sc (.int .i64 xs[i])]:=by simp[List.getElem?_map,List.getElem?_eq_getElem hi]
  have:=hr i _ 0 _ he rfl
  have e:=rep_sc this
  have h2:=hc i _ 0 _ he rfl
  rw[e]at h2
  simpa using h2
theorem awp_adopt {c:Code} {s:St} {Q:Exit→St→Prop} (j:Nat) {ty:TypeId} {xs:List Int} {at_:Nat} (hrow:E.row=none) (hsrc:E.src=none) (hW:∀b,¬E.W b) (ht:s.t j= .ref 0 0 0) (hH:s.H=[some ⟨ty,2,[[.list 1 (xs.map fun x=>[.sc (.int .i64 x)]),.sc (.int .i64 at_)]]⟩])
  (hat:at_≤xs.length) (hl:xs.length≤900) (hx:∀x,x∈xs→ -9223372036854775808≤x∧x≤9223372036854775807) (hco:codeOk E.N c=true)
  (h:∀(E':Env) (p:Nat),E'.P=E.P→E'.row=some p→E'.N=E.N→(∀b,¬E'.W b)→awp E' c ⟨upd s.t j (.sc (.pointer (some ⟨p,0,none⟩))),[none]⟩ Q):AWp E c s Q:=by
 rintro a w ⟨ρ,ok,g,hx0,hd,hs,hr⟩
 have h0:s.H[0]?=some (some ⟨ty,2,[[.list 1 (xs.map fun x=>[.sc (.int .i64 x)]),.sc (.int .i64 at_)]]⟩):=by rw[hH];rfl
 have hv:=hr j
 rw[ht]at hv
 obtain⟨o,b,cap,ho,hρ,hcap,hve⟩:∃o b cap,s.H[0]?=some (some o)∧ρ 0=some (b,cap)∧cap≤maxLen∧a.tmps.getD j undef= .pointer (some ⟨b,0*o.k+0,none⟩):=by
  generalize hgen:a.tmps.getD j undef=v at hv
  cases hv with
  |ref ho hρ hcap=>exact⟨_,_,_,ho,hρ,hcap,rfl⟩
  |refDead hd _=>rw[h0]at hd;cases hd
 rw[h0]at ho
 simp only[Option.some.injEq]at ho
 subst ho
 have hobj:=g.obj 0 _ h0
 rw[hρ]at hobj
 obtain⟨hb1,_,hb3⟩:=g.own 0 _ b cap h0 hρ
 have hb3:=hb3.resolve_left (hW b)
 have hblt:=hobj.lt
 obtain⟨cur,c1,c2,c3,c4,c5⟩:=hobj.cells hcap
 obtain⟨v0,d1,d2,d3⟩:=c5 0 _ 0 _ rfl rfl
 obtain⟨v1,e1,e2,e3⟩:=c5 0 _ 1 _ rfl rfl
 obtain⟨A,c',rfl,hA⟩:=rep_int_list_cell d3
 have e3:=rep_sc e3
 subst e3
 let src:Option Nat:=if 0<xs.length then A.map (·.block)else none
 let E':Env:={P:=E.P,w0:=w,okA:=ok,row:=some b,src:=src,N:=E.N,W:=fun _=>False,ρ0:=ρ,H0:=[none]}
 have hsok:∀b',src=some b'→ok b':=fun b' hb'=>by
  simp only[src]at hb'
  split at hb'
  ·rename_i h0
   obtain⟨ad,rfl,hk,_⟩:=hA 0 h0
   simp at hb'
   exact hb'▸hk
  ·cases hb'
 have hS:SrcOk src w b:=by
  refine⟨cur,A,xs.length,c',at_,ty,⟨c1,by simpa using d1,by simpa using e1⟩,hat,hl,fun i hi=>?_⟩
  obtain⟨ad,rfl,hk,x,hxm,hc⟩:=hA i hi
  refine⟨ad,x,rfl,?_,fun e=>hb1 (e▸hk),hc,hx x hxm⟩
  simp only[src]
  rw[if_pos (by omega)]
  rfl
 have gE:Good E' w ρ [none] ok:=by
  have hlive:∀(id:Nat) (o:AObj),([none]:Heap)[id]?=some (some o)→False:=fun id o ho=>by
   match id,ho with
   |0,ho=>simp at ho
   |id+1,ho=>simp at ho
  refine⟨rfl,rfl,rfl,Nat.le_refl _,fun _ _ _ _=>rfl,⟨⟨hsok,g.inv.1.2⟩,fun p hp=>?_⟩,fun b' hb'=>⟨(g.oks b' hb').1,fun e=>?_,.inl hb'⟩,fun id o _ _ ho _=>(hlive id o ho).elim,fun id o _ _ _ _ _ ho _ _ _=>(hlive id o ho).elim,fun id o ho=>(hlive id o ho).elim,fun id o ho=>(hlive id o ho).elim⟩
  ·cases hp;exact hS
  ·simp only[E',Option.some.injEq]at e
   subst e
   exact hb1 hb'
 have hext:Ext w ρ s.H ok w ρ [none] ok:=by
  refine⟨fun id o ho=> .inl ?_,fun id ho=>?_,fun _ h=>h,fun _ _=>rfl⟩
  ·rw[hH]at ho
   match id,ho with
   |0,ho=>rfl
   |id+1,ho=>simp at ho
  ·rw[hH]at ho
   match id,ho with
   |0,ho=>simp at ho
   |id+1,ho=>simp at ho
 have rE:Rel E' ⟨upd s.t j (.sc (.pointer (some ⟨b,0,none⟩))),[none]⟩ a w:=by
  refine⟨ρ,ok,gE,Ext.refl _ _ _ _,hd,hs,fun i=>?_⟩
  simp only[upd]
  split
  ·rename_i hi
   subst hi
   rw[hve]
   simp only[Nat.zero_mul,Nat.zero_add]
   exact .sc
  ·exact (hr i).ext hext
 refine wp_mono (awp_sound (E:=E') c _ Q hco (h E' b rfl rfl rfl (fun _ h=>h)) a w rE) fun e a' w' h'=>?_
 obtain⟨s',hq,ρ',ok',g',hx',hd',hs',hr'⟩:=h'
 refine⟨s',hq,ρ',ok',⟨g'.os.trans g.os,g'.tape.trans g.tape,g'.output.trans g.output,Nat.le_trans g.size g'.size,fun b' hb' hW' hr'=>?_,⟨⟨fun b' hb'=>(by rw[hsrc]at hb';cases hb'),g'.inv.1.2⟩,fun p hp=>(by rw[hrow]at hp;cases hp)⟩,fun b' hb'=>?_,fun id o b' c ho hρ=>?_,g'.inj,g'.len,g'.obj⟩,(hx0.trans hext).trans hx',hd',hs',hr'⟩
 ·refine (g'.blk b' (Nat.lt_of_lt_of_le hb' g.size) (fun h=>h) (fun e=>?_)).trans (g.blk b' hb' hW' hr')
  simp only[E',Option.some.injEq]at e
  omega
 ·obtain⟨x1,x2,x3⟩:=g'.oks b' hb'
  refine⟨x1,by rw[hrow];simp,?_⟩
  rcases x3 with x3|x3
  ·exact (g.oks b' x3).2.2
  ·exact .inr (Nat.le_trans g.size x3)
 ·obtain⟨x1,x2,x3⟩:=g'.own id o b' c ho hρ
  exact⟨x1,by rw[hrow];simp,.inr (Nat.le_trans g.size (x3.resolve_left (fun h=>h)))⟩
theorem awp_cut {a b:Code} {s:St} {Q:Exit→St→Prop} (hc:codeOk E.N a=true) (h:awp E a s (Athen (fun s'=>AWp E b s' Q) Q)):AWp E (.seq a b) s Q:=by
 intro x w r
 refine wp_seq (wp_mono (awp_sound a s _ hc h x w r) fun e a' w' h'=>?_)
 obtain⟨s',h1,h2⟩:=h'
 cases e with
 |normal=>exact h1 a' w' h2
 |_=>exact⟨s',h1,h2⟩
end
theorem pfun_introA {P:Program} {row src:Option Nat} {f:FuncId} {args:List AV} {Q:AV→Prop} {fn:Func} {body:Code}
  (hf:P.funcs[f]?=some fn) (hb:fn.body=some body) (hn:args.length≤fn.ntmps)
  (h:∀E:Env,E.P=P→E.row=row→E.src=src→(∀b,¬E.W b)→E.N=fn.ntmps→AWp E body ⟨initT args,[]⟩ (ARet P fn.results.toList Q)):PFun P row src f args Q:=by
 have key:∀E:Env,E.P=P→E.row=row→E.src=src→(∀b,¬E.W b)→E.N=fn.ntmps→AWp E body ⟨initT args,[]⟩ (ARet P fn.results.toList Q):=h
 exact pfun_of_AWp hf hb hn key
open Go.RowKit
def AM (P:Program) (rs:List ResultVar) (C:AV→Heap→Prop):Exit→St→Prop
 | .normal,s| .ret,s=>match ares P s rs with
  |some r=>C r s.H
  |none=>False
 |_,_=>False
def MFun (P:Program) (row src:Option Nat) (f:FuncId) (args:List AV) (H:Heap) (C:AV→Heap→Prop):Prop:=
 ∀E:Env,E.P=P→E.row=row→E.src=src→ACall E f args H C
theorem MFun.mono {P:Program} {row src:Option Nat} {f:FuncId} {args:List AV} {H:Heap} {C D:AV→Heap→Prop} (h:MFun P row src f args H C) (hd:∀x H',C x H'→D x H'):MFun P row src f args H D:=
 fun E h1 h2 h3=>(h E h1 h2 h3).mono hd
theorem mfun_of_AWp {P:Program} {row src:Option Nat} {f:FuncId} {args:List AV} {H:Heap} {C:AV→Heap→Prop} {fn:Func} {body:Code}
  (hf:P.funcs[f]?=some fn) (hb:fn.body=some body) (hn:args.length≤fn.ntmps) (hex:∃x H',C x H')
  (h:∀E:Env,E.P=P→E.row=row→E.src=src→E.N=fn.ntmps→AWp E body ⟨initT args,H⟩ (AM P fn.results.toList C)):MFun P row src f args H C:=by
 intro E hP hrow hsrc
 refine⟨hex,fun w ρ ok vs g hsz hrep=>?_⟩
 subst hP;subst hrow;subst hsrc
 let E':Env:={P:=E.P,w0:=w,okA:=ok,row:=E.row,src:=E.src,N:=fn.ntmps,W:=fun b=>∃id o c,H[id]?=some (some o)∧ρ id=some (b,c),ρ0:=ρ,H0:=H}
 have gE:Good E' w ρ H ok:=⟨rfl,rfl,rfl,Nat.le_refl _,fun _ _ _ _=>rfl,g.inv,fun b hb=>⟨(g.oks b hb).1,(g.oks b hb).2.1,.inl hb⟩,fun id o b c ho hρ=>⟨(g.own id o b c ho hρ).1,(g.own id o b c ho hρ).2.1,.inl ⟨id,o,c,ho,hρ⟩⟩,g.inj,g.len,g.obj⟩
 have r:Rel E' ⟨initT args,H⟩ {tmps:=vs++Array.replicate (fn.ntmps-vs.size) undef,defers:=[]} w:=by
  refine⟨ρ,ok,gE,Ext.refl _ _ _ _,rfl,by simp[E'];omega,fun i=>?_⟩
  simp only[initT]
  rcases Nat.lt_or_ge i args.length with hlt|hge
  ·have e1:args.getD i (.sc undef)=args[i]:=by simp[List.getD,List.getElem?_eq_getElem hlt]
   have hv:vs[i]?=some (vs[i]'(by omega)):=Array.getElem?_eq_getElem (by omega)
   have e2:(vs++Array.replicate (fn.ntmps-vs.size) undef).getD i undef=vs[i]'(by omega):=by
    rw[Array.getD_eq_getD_getElem?,Array.getElem?_append_left (by omega),hv]
    rfl
   rw[e1,e2]
   exact hrep i _ _ hv (List.getElem?_eq_getElem hlt)
  ·have e1:args.getD i (.sc undef)= .sc undef:=by simp[List.getD,List.getElem?_eq_none hge]
   have e2:(vs++Array.replicate (fn.ntmps-vs.size) undef).getD i undef=undef:=by
    rw[Array.getD_eq_getD_getElem?,Array.getElem?_append_right (by omega),Array.getElem?_replicate]
    split<;>rfl
   rw[e1,e2]
   exact .sc
 refine calls_of_wp hf hb (wp_mono (h E' rfl rfl rfl rfl _ _ r) fun e a' w' h'=>?_)
 obtain⟨s',hq,ρ',ok',g',hx',hd,_,hr⟩:=h'
 have gF:Good E w' ρ' s'.H ok':=by
  have hnW:∀b,b<E.w0.heap.size→¬E.W b→¬E'.W b:=fun b hb hW ⟨id,o,c,ho,hρ⟩=>by
   rcases (g.own id o b c ho hρ).2.2 with h|h
   ·exact hW h
   ·omega
  refine⟨g'.os.trans g.os,g'.tape.trans g.tape,g'.output.trans g.output,Nat.le_trans g.size g'.size,fun b hb hW hr'=>(g'.blk b (Nat.lt_of_lt_of_le hb g.size) (hnW b hb hW) hr').trans (g.blk b hb hW hr'),g'.inv,fun b hb=>?_,fun id o b c ho hρ=>?_,g'.inj,g'.len,g'.obj⟩
  ·obtain⟨x1,x2,x3⟩:=g'.oks b hb
   refine⟨x1,x2,?_⟩
   rcases x3 with x3|x3
   ·exact (g.oks b x3).2.2
   ·exact .inr (Nat.le_trans g.size x3)
  ·obtain⟨x1,x2,x3⟩:=g'.own id o b c ho hρ
   refine⟨x1,x2,?_⟩
   rcases x3 with⟨id',o',c',ho',hρ'⟩|x3
   ·exact (g.own id' o' b c' ho' hρ').2.2
   ·exact .inr (Nat.le_trans g.size x3)
 have fin:∀{r:AV},ares E.P s' fn.results.toList=some r→C r s'.H→a'.defers=[]∧∃v,(results fn a'.tmps).run E.P w'= .ok v w'∧
   ∃(v':Value) (x:AV) (H':Heap) (ρ':Places) (ok':Nat→Prop),Ending.returned v= .returned v'∧C x H'∧Good E w' ρ' H' ok'∧Ext w ρ H ok w' ρ' H' ok'∧Rep w' ρ' H' ok' v' x:=by
  intro r hres hc
  obtain⟨v,hrun,hrep'⟩:=ares_sound (E:=E) gF hr hres
  exact⟨hd,v,hrun,v,r,s'.H,ρ',ok',rfl,hc,gF,hx',hrep'⟩
 cases e with
 |normal=>
  simp only[AM]at hq
  split at hq
  ·rename_i r hres;exact fin hres hq
  ·exact hq.elim
 |ret=>
  simp only[AM]at hq
  split at hq
  ·rename_i r hres;exact fin hres hq
  ·exact hq.elim
 |_=>exact hq.elim
theorem mfun_intro {P:Program} {row src:Option Nat} {f:FuncId} {args:List AV} {H:Heap} {C:AV→Heap→Prop} {fn:Func} {body:Code}
  (hf:P.funcs[f]?=some fn) (hb:fn.body=some body) (hn:args.length≤fn.ntmps) (hc:codeOk fn.ntmps body=true) (hex:∃x H',C x H')
  (h:∀E:Env,E.P=P→E.row=row→E.src=src→E.N=fn.ntmps→awp E body ⟨initT args,H⟩ (AM P fn.results.toList C)):MFun P row src f args H C:=
 mfun_of_AWp hf hb hn hex fun E h1 h2 h3 h5=>awp_sound body _ _ (h5▸hc) (h E h1 h2 h3 h5)
theorem am_ret {P:Program} {rs:List ResultVar} {C:AV→Heap→Prop} {s:St}:AM P rs C .ret s=OB (ares P s rs) (fun r=>C r s.H) .mk:=by
 simp only[AM]
 cases ares P s rs<;>rfl
theorem am_normal {P:Program} {rs:List ResultVar} {C:AV→Heap→Prop} {s:St}:AM P rs C .normal s=OB (ares P s rs) (fun r=>C r s.H) .mk:=by
 simp only[AM]
 cases ares P s rs<;>rfl
attribute [go_sem ↓] am_ret am_normal
theorem callB_m {E:Env} {f:FuncId} {args:List AV} {H:Heap} {C C':AV→Heap→Prop} {b:Bx C} {P:Program} (h:MFun P E.row E.src f args H C') (hP:E.P=P) (hen:enterable P f=true) (hC:∀r H',C' r H'→C r H'):CallB E f args H C b:=
 .inl ⟨hP▸hen,(h E hP rfl rfl).mono hC⟩
def Kept (X:List Nat) (H H':Heap):Prop:=∀j o,j∉X→H[j]?=some (some o)→H'[j]?=some (some o)
theorem kept_refl (X:List Nat) (H:Heap):Kept X H H:=fun _ _ _ h=>h
theorem Kept.trans {X:List Nat} {H H' H'':Heap} (h:Kept X H H') (k:Kept X H' H''):Kept X H H'':=fun j o hj ho=>k j o hj (h j o hj ho)
theorem kept_push {X:List Nat} {H H':Heap} (x:Option AObj) (h:Kept X H H'):Kept X H (H'++[x]):=fun j o hj ho=>by
 have:=h j o hj ho
 rw[List.getElem?_append_left (gsI this)]
 exact this
theorem kept_app (X:List Nat) (H l:Heap):Kept X H (H++l):=fun j o _ ho=>by
 rw[List.getElem?_append_left (gsI ho)]
 exact ho
theorem kept_set {X:List Nat} {H H':Heap} {i:Nat} (x:Option AObj) (hi:i∈X) (h:Kept X H H'):Kept X H (H'.set i x):=fun j o hj ho=>by
 rw[List.getElem?_set_ne (by rintro rfl;exact hj hi)]
 exact h j o hj ho
theorem kept_new {X:List Nat} {H H':Heap} {i:Nat} (x:Option AObj) (hi:H.length≤i) (h:Kept X H H'):Kept X H (H'.set i x):=fun j o hj ho=>by
 have:=(gsI ho)
 rw[List.getElem?_set_ne (by omega)]
 exact h j o hj ho
theorem Kept.mono {X Y:List Nat} {H H':Heap} (h:Kept X H H') (hs:∀x,x∈X→x∈Y):Kept Y H H':=fun j o hj ho=>h j o (fun hx=>hj (hs _ hx)) ho
theorem mfun_of_flat {P:Program} {row src:Option Nat} {f:FuncId} {args args':List AV} {Q:AV→Prop} {H:Heap} (h:PFun P row src f args' Q) (ha:Args H args args') (hex:∃r,Q r) (hfl:∀r,Q r→Flat r):MFun P row src f args H (fun r H'=>Q r∧H'=H):=by
 intro E hP hrow hsrc
 subst hrow;subst hsrc
 exact acall_flat args' hP h ha hex hfl fun r hr=>⟨hr,rfl⟩
theorem mfun_list_nil {P:Program} {row src:Option Nat} {f:FuncId} {args:List AV} {k:Nat} {H:Heap} {C:AV→Heap→Prop} (h:∀A c,MFun P row src f (.sc (.slice A 0 c)::args) H C):MFun P row src f (.list k []::args) H C:=by
 intro E hP hrow hsrc
 refine⟨(h none 0 E hP hrow hsrc).1,fun w ρ ok vs g hs hr=>?_⟩
 have h0:0<vs.size:=by rw[hs];simp
 have hv:=hr 0 vs[0] (.list k []) (Array.getElem?_eq_getElem h0) rfl
 have key:∃A c,vs[0]= .slice A 0 c:=by
  generalize vs[0]=v at hv
  cases hv with
  |listNil=>exact⟨_,_,rfl⟩
  |list f hn _ _ _ _ _ _=>subst hn;exact⟨_,_,rfl⟩
 obtain⟨A,c,hA⟩:=key
 refine (h A c E hP hrow hsrc).2 w ρ ok vs g hs fun i v a hv ha=>?_
 match i,hv,ha with
 |0,hv,ha=>
  rw[Array.getElem?_eq_getElem h0,hA]at hv
  simp at hv ha
  subst hv;subst ha
  exact .sc
 |i+1,hv,ha=>exact hr (i+1) v a hv ha
theorem MFun.ownNil {P:Program} {row src:Option Nat} {f:FuncId} {args:List AV} {H:Heap} {C:AV→Heap→Prop} (ty:TypeId) (k:Nat) (h:MFun P row src f args H C):
  MFun P row src f args H (fun r H'=>(∃H0,C .nil H0∧r= .sref H0.length 0 0∧H'=H0++[some ⟨ty,k,[]⟩])∨(r≠ .nil∧C r H')):=by
 intro E hP hrow hsrc
 obtain⟨⟨x0,H0,h0⟩,hw⟩:=h E hP hrow hsrc
 refine⟨?_,fun w ρ ok vs g hs hr=>(hw w ρ ok vs g hs hr).mono ?_⟩
 ·by_cases hx:x0= .nil
  ·subst hx;exact⟨_,_,.inl ⟨H0,h0,rfl,rfl⟩⟩
  ·exact⟨_,_,.inr ⟨hx,h0⟩⟩
 ·rintro e w' ⟨v,x,H',ρ',ok',rfl,hc,g',x',r'⟩
  by_cases hx:x= .nil
  ·subst hx
   obtain⟨g2,x2⟩:=g'.add ⟨ty,k,[]⟩ none rfl (by simp) (by simp)
   refine⟨v,_,_,_,_,rfl,.inl ⟨H',hc,rfl,rfl⟩,g2,x'.trans x2,?_⟩
   cases r'
   exact .srefNil push_new (by simp[updP])
  ·exact⟨v,x,H',ρ',ok',rfl,.inr ⟨hx,hc⟩,g',x',r'⟩
def SlIs (H:Heap) (x:AV) (k:Nat) (es:List (List AV)):Prop:=x= .list k es∨(x= .nil∧es=[])∨∃id ty,x= .sref id 0 es.length∧H[id]?=some (some ⟨ty,k,es⟩)
theorem SlIs.kept {H H':Heap} {x:AV} {k:Nat} {es:List (List AV)} (h:SlIs H x k es) (hk:Kept [] H H'):SlIs H' x k es:=by
 rcases h with h|h|⟨id,ty,h1,h2⟩
 ·exact .inl h
 ·exact .inr (.inl h)
 ·exact .inr (.inr ⟨id,ty,h1,hk id _ (by simp) h2⟩)
theorem SlIs.len {H:Heap} {x:AV} {k:Nat} {es:List (List AV)} (h:SlIs H x k es):alen H x=some (es.length:Int):=by
 rcases h with h|⟨rfl,rfl⟩|⟨id,ty,rfl,h2⟩
 ·subst h;rfl
 ·rfl
 ·simp only[alen,h2]
theorem SlIs.idx {P:Program} {t e:TypeId} {H:Heap} {x:AV} {k:Nat} {es:List (List AV)} (h:SlIs H x k es) (ht:Go.PA.elemOf P t=some e) (hk:k=szOf P e) (hn:knownT P e=true) (i:Nat) (hi:i<es.length):
  ∃a,aindexAddr P t H x i=some a∧addrCells H a=some es[i]:=by
 rcases h with h|⟨rfl,rfl⟩|⟨id,ty,rfl,h2⟩
 ·subst h
  refine⟨.iref es[i],?_,rfl⟩
  rw[aix_list ht]
  simp[hk,hn,hi]
 ·simp at hi
 ·refine⟨.ref id i 0,?_,?_⟩
  ·rw[aix_sref ht]
   simp[h2,hk,hn,hi]
  ·rw[addr_ref]
   simp[h2,hi]
theorem weaker_frz {E:Env} {s:St} (hW:∀b,¬E.W b) (j:Nat) {id lo n:Nat} {o:AObj} (hj:s.t j= .sref id lo n) (ho:s.H[id]?=some (some o)) (hi:Imm (.list o.k ((o.es.drop lo).take n))):
  Weaker E s ⟨upd s.t j (.list o.k ((o.es.drop lo).take n)),s.H.set id none⟩:=by
 rintro a w ⟨ρ,ok,g,hx,hd,hs,hr⟩
 obtain⟨g',x'⟩:=g.kill id (fun b=>ok b∨∃o c,s.H[id]?=some (some o)∧ρ id=some (b,c)) (fun _ h=> .inl h) (fun b hb=>hb.imp (fun h=>h) fun⟨o,c,h1,h2⟩=>⟨o,c,h1,h2,hW b⟩)
 refine⟨ρ,_,g',hx.trans x',hd,hs,fun i=>?_⟩
 simp only[upd]
 split
 ·rename_i hij
  subst hij
  have hv:=hr i
  have hview:view s.H (s.t i)= .list o.k ((o.es.drop lo).take n):=by rw[hj,view_sref,ho,viewS_some]
  have:=view_soundX (fun x=>x=id) g hv (by rw[hview];exact hi) (fun x hx=>by rw[hj]at hx;simpa[srefs,srefs2,srefs1]using hx)
  rw[hview]at this
  refine this.imm (fun b hb=>?_) hi
  rcases hb with hb|⟨x,o',c,rfl,h1,h2⟩
  ·exact .inl hb
  ·exact .inr ⟨o',c,h1,h2⟩
 ·exact (hr i).ext x'
def RoundF (j n:Nat) (I:Nat→St→Prop) (Q:Exit→St→Prop) (_:Bx (I,Q)):Exit→St→Prop
 | .normal,s'=>∃n',n'<n∧I n' s'
 | .exit i,s'=>∃id lo m o,s'.t j= .sref id lo m∧s'.H[id]?=some (some o)∧Imm (.list o.k ((o.es.drop lo).take m))∧Q (.exit i) ⟨upd s'.t j (.list o.k ((o.es.drop lo).take m)),s'.H.set id none⟩
 |x,s'=>Q x s'
theorem roundF_normal {j n:Nat} {I:Nat→St→Prop} {Q:Exit→St→Prop} {b:Bx (I,Q)} {s:St}:RoundF j n I Q b .normal s=(∃n',n'<n∧I n' s):=rfl
theorem roundF_ret {j n:Nat} {I:Nat→St→Prop} {Q:Exit→St→Prop} {b:Bx (I,Q)} {s:St}:RoundF j n I Q b .ret s=Q .ret s:=rfl
def Frz (j:Nat) (s:St) (k:St→Prop):Prop:=∃id lo m o,s.t j= .sref id lo m∧s.H[id]?=some (some o)∧Imm (.list o.k ((o.es.drop lo).take m))∧k ⟨upd s.t j (.list o.k ((o.es.drop lo).take m)),s.H.set id none⟩
theorem roundF_frz {j n i:Nat} {I:Nat→St→Prop} {Q:Exit→St→Prop} {b:Bx (I,Q)} {s:St}:RoundF j n I Q b (.exit i) s=Frz j s (Q (.exit i)):=rfl
theorem frz {j:Nat} {s:St} {k:St→Prop} (id n:Nat) (ty:TypeId) (kk:Nat) (es:List (List AV)) (h1:s.t j= .sref id 0 n) (h2:s.H[id]?=some (some ⟨ty,kk,es⟩)) (hn:n=es.length) (hi:Imm (.list kk es)) (h:k ⟨upd s.t j (.list kk es),s.H.set id none⟩):Frz j s k:=by
 refine⟨id,0,n,_,h1,h2,?_,?_⟩
 ·simpa[hn]using hi
 ·simpa[hn]using h
attribute [go_sem ↓] roundF_normal roundF_frz roundF_ret
theorem aloopF {E:Env} {c:Code} {s0:St} {Q:Exit→St→Prop} {b:Bx (c,Q)} (j:Nat) (hW:∀b,¬E.W b) (I:Nat→St→Prop) (n0:Nat) (hc:codeOk E.N c=true) (h0:I n0 s0)
  (round:∀n s,I n s→awp E c s (RoundF j n I Q .mk)):ALoop E c s0 Q b:=by
 intro a w r
 refine wp_loop_ghost (fun n a w=>∃s,I n s∧Rel E s a w) n0 ⟨_,h0,r⟩ fun n a w hI=>?_
 obtain⟨s,hs,r⟩:=hI
 refine wp_mono (awp_sound c s _ hc (round n s hs) a w r) fun e a' w' h'=>?_
 obtain⟨s',h1,h2⟩:=h'
 cases e with
 |normal=>
  obtain⟨n',hlt,hI'⟩:=h1
  exact⟨n',hlt,_,hI',h2⟩
 |exit i=>
  obtain⟨id,lo,m,o,e1,e2,e3,e4⟩:=h1
  exact⟨_,e4,weaker_frz hW j e1 e2 e3 a' w' h2⟩
 |_=>exact⟨s',h1,h2⟩
def encL {α:Type} (enc:α→List AV) (l:List α):List (List AV):=l.map enc
section
variable {α:Type} (enc:α→List AV)
theorem encL_nil:encL enc []=[]:=rfl
theorem encL_len (l:List α):(encL enc l).length=l.length:=by simp[encL]
theorem encL_snoc (l:List α) (a:α):encL enc l++[enc a]=encL enc (l++[a]):=by simp[encL]
theorem encL_take (l:List α) (n:Nat) (h:n=l.length):(encL enc l).take n=encL enc l:=by subst h;rw[←encL_len enc l,List.take_length]
theorem encL_takeL (l:List α):(encL enc l).take l.length=encL enc l:=encL_take enc l _ rfl
theorem encL_get (l:List α) (i:Nat):(encL enc l)[i]?=(l[i]?).map enc:=by simp[encL]
theorem imm_encL {k:Nat} (h:∀a c,c∈enc a→Imm c) (l:List α):Imm (.list k (encL enc l)):=by
 refine .list fun e he c hc=>?_
 simp only[encL,List.mem_map]at he
 obtain⟨a,_,rfl⟩:=he
 exact h a c hc
theorem encL_set (l:List α) (i:Nat) (a:α):(encL enc l).set i (enc a)=encL enc (l.set i a):=by simp[encL,List.map_set]
attribute [go_sem] encL_nil encL_len encL_takeL encL_get
end
def idxFrom {α:Type} (p:α→Bool):Nat→List α→Int
 |_,[]=> -1
 |k,a::l=>if p a=true then k else idxFrom p (k+1) l
def idxI {α:Type} (p:α→Bool) (l:List α):Int:=idxFrom p 0 l
theorem idxFrom_spec {α:Type} (p:α→Bool):∀(l:List α) (k:Nat),(idxFrom p k l= -1∧∀a,a∈l→p a=false)∨∃(i:Nat) (a:α),l[i]?=some a∧p a=true∧idxFrom p k l=((k+i:Nat):Int)∧∀(j:Nat) (b:α),j<i→l[j]?=some b→p b=false
 |[],k=> .inl ⟨rfl,by simp⟩
 |a::l,k=>by
  simp only[idxFrom]
  by_cases h:p a=true
  ·rw[if_pos h]
   exact .inr ⟨0,a,rfl,h,rfl,fun j b hj=>by omega⟩
  ·rw[if_neg h]
   have h':p a=false:=by simpa using h
   rcases idxFrom_spec p l (k+1)with⟨h1,h2⟩|⟨i,b,h1,h2,h3,h4⟩
   ·refine .inl ⟨h1,fun b hb=>?_⟩
    rcases List.mem_cons.1 hb with rfl|hb
    ·exact h'
    ·exact h2 b hb
   ·refine .inr ⟨i+1,b,by simpa using h1,h2,by rw[h3];congr 1;omega,fun j c hj hc=>?_⟩
    match j,hj,hc with
    |0,hj,hc=>simp at hc;subst hc;exact h'
    |j+1,hj,hc=>exact h4 j c (by omega) (by simpa using hc)
theorem idxI_spec {α:Type} (p:α→Bool) (l:List α):(idxI p l= -1∧∀a,a∈l→p a=false)∨∃(i:Nat) (a:α),l[i]?=some a∧p a=true∧idxI p l=(i:Int)∧∀(j:Nat) (b:α),j<i→l[j]?=some b→p b=false:=by
 have:=idxFrom_spec p l 0
 simpa[idxI]using this
theorem args_sref {H:Heap} {id n:Nat} {ty:TypeId} {k:Nat} {es:List (List AV)} {as0 as':List AV} (hH:H[id]?=some (some ⟨ty,k,es⟩)) (hn:n=es.length) (hi:Imm (.list k es)) (ht:Args H as0 as'):Args H (.sref id 0 n::as0) (.list k es::as'):=by
 have hv:view H (.sref id 0 n)= .list k es:=by rw[view_sref,hH,viewS_some];simp[hn]
 exact .cons (by rw[hv];exact .refl _) (by rw[hv];exact hi) ht
theorem args_imm {H:Heap} {a:AV} {as0 as':List AV} (hi:Imm a) (ht:Args H as0 as'):Args H (a::as0) (a::as'):= .cons (by rw[view_imm hi];exact .refl _) (by rw[view_imm hi];exact hi) ht
theorem args_nilL {H:Heap} {k:Nat} {as0 as':List AV} (ht:Args H as0 as'):Args H (.nil::as0) (.list k []::as'):= .cons (.nil k) .nil ht
inductive CW (H:Heap):List AV→List AV→Prop
 |nil:CW H [] []
 |cons {a a':AV} {as0 as':List AV} (h:Weak (view1 H a) a') (hi:Imm (view1 H a)) (hi':Imm a') (t:CW H as0 as'):CW H (a::as0) (a'::as')
theorem CW.len {H:Heap} {as0 as':List AV} (h:CW H as0 as'):as0.length=as'.length:=by
 induction h with
 |nil=>rfl
 |cons _ _ _ _ ih=>simp[ih]
theorem CW.weak {H:Heap} {as0 as':List AV} (h:CW H as0 as'):Weak (.agg (as0.map (view1 H))) (.agg as'):=by
 refine .agg (by simpa using h.len) ?_
 induction h with
 |nil=>intro i a b h;simp at h
 |cons h _ _ _ ih=>
  intro i a b ha hb
  match i,ha,hb with
  |0,ha,hb=>simp at ha hb;subst ha;subst hb;exact h
  |i+1,ha,hb=>exact ih i a b (by simpa using ha) (by simpa using hb)
theorem CW.imm {H:Heap} {as0 as':List AV} (h:CW H as0 as'):Imm (.agg (as0.map (view1 H))):=by
 refine .agg fun c hc=>?_
 induction h with
 |nil=>simp at hc
 |cons _ h _ _ ih=>
  rcases List.mem_cons.1 hc with rfl|hc
  ·exact h
  ·exact ih hc
theorem CW.imm' {H:Heap} {as0 as':List AV} (h:CW H as0 as'):Imm (.agg as'):=by
 refine .agg fun c hc=>?_
 induction h with
 |nil=>simp at hc
 |cons _ _ h _ ih=>
  rcases List.mem_cons.1 hc with rfl|hc
  ·exact h
  ·exact ih hc
theorem cw_imm {H:Heap} {a:AV} {as0 as':List AV} (hi:Imm a) (t:CW H as0 as'):CW H (a::as0) (a::as'):=by
 refine .cons ?_ ?_ hi t
 ·rw[view1_imm hi];exact .refl a
 ·rw[view1_imm hi];exact hi
theorem cw_sc {H:Heap} {v:Value} {as0 as':List AV} (t:CW H as0 as'):CW H (.sc v::as0) (.sc v::as'):=cw_imm .sc t
theorem cw_nil {H:Heap} {k:Nat} {as0 as':List AV} (t:CW H as0 as'):CW H (.nil::as0) (.list k []::as'):= .cons (.nil k) .nil (imm_list.2 (by simp)) t
theorem cw_sref {H:Heap} {id n:Nat} {ty:TypeId} {k:Nat} {es:List (List AV)} {as0 as':List AV} (hH:H[id]?=some (some ⟨ty,k,es⟩)) (hn:n=es.length) (hi:Imm (.list k es)) (t:CW H as0 as'):CW H (.sref id 0 n::as0) (.list k es::as'):=by
 have hv:view1 H (.sref id 0 n)= .list k es:=by rw[view1_sref,hH,viewS_some];simp[hn]
 exact .cons (by rw[hv];exact .refl _) (by rw[hv];exact hi) hi t
theorem args_agg {H:Heap} {cs cs' as0 as':List AV} (h:CW H cs cs') (ht:Args H as0 as'):Args H (.agg cs::as0) (.agg cs'::as'):= .cons h.weak h.imm ht
theorem done_agg2 {H:Heap} {cs cs':List AV} {v:Value} {Q:AV→Prop} {b:Bx Q} (h:CW H cs cs') (hq:Q (.tup [.agg cs',.sc v])):Done H (.tup [.agg cs,.sc v]) Q b:=
 done_weak (imm_pair h.imm .sc) (imm_pair h.imm' .sc) (weak_tup2 h.weak (.refl _)) hq
open Go.RowKit
def valI:Int→Value:=Value.int .i64
def valB:Bool→Value:=Value.bool
def encK {β:Type} (f:β→Value) (l:List (Int×β)):List (List AV):=l.map fun e=>[.sc (.int .i64 e.1),.sc (f e.2)]
def imK {β:Type} (f:β→Value) (l:List (Int×β)):List (Value×Value):=l.map fun e=>(.int .i64 e.1,f e.2)
def getM {β:Type}:List (Int×β)→Int→Option β
 |[],_=>none
 |e::l,k=>if e.1=k then some e.2 else getM l k
def putM {β:Type}:List (Int×β)→Int→β→List (Int×β)
 |[],k,v=>[(k,v)]
 |e::l,k,v=>if e.1=k then (k,v)::l else e::putM l k v
section
variable {β:Type} {f:β→Value}
theorem entsOf_encK (l:List (Int×β)):entsOf (encK f l)=some (l.map fun e=>(.int .i64 e.1,.sc (f e.2))):=by
 induction l with
 |nil=>rfl
 |cons e l ih=>
  simp only[encK,List.map_cons,entsOf]at ih⊢
  rw[ih]
  rfl
theorem ents1_encK (l:List (Int×β)):ents1 (encK f l)=some (imK f l):=by
 induction l with
 |nil=>rfl
 |cons e l ih=>
  simp only[encK,List.map_cons,ents1]at ih⊢
  rw[ih]
  rfl
theorem afind_map (l:List (Int×β)) (n:Int):afind (.int .i64) (.int .i64 n) (l.map fun e=>(.int .i64 e.1,.sc (f e.2)))=some ((getM l n).map fun b=> .sc (f b)):=by
 induction l with
 |nil=>rfl
 |cons e l ih=>
  simp only[List.map_cons,afind,Instr.sameNow,getM,if_true]
  by_cases h:n=e.1
  ·subst h;simp
  ·rw[if_neg (fun q=>h q.symm)]
   have hb:(n==e.1)=false:=by simpa using h
   rw[hb]
   simp only[ih]
theorem aput_encK (l:List (Int×β)) (n:Int) (b:β):aput (.int .i64) (.int .i64 n) (.sc (f b)) (encK f l)=some (encK f (putM l n b)):=by
 induction l with
 |nil=>rfl
 |cons e l ih=>
  simp only[encK,List.map_cons,aput,Instr.sameNow,putM,if_true]at ih⊢
  by_cases h:n=e.1
  ·subst h;simp
  ·rw[if_neg (fun q=>h q.symm)]
   have hb:(n==e.1)=false:=by simpa using h
   rw[hb]
   simp only[ih,Option.map_some,List.map_cons]
end
section
variable {E:Env} {P:Program} {H:Heap}
theorem aeff_makeMap {t:TypeId} {ev:Operand→AV} {C:AV→Heap→Prop}:AEff E (.makeMap t none) ev H C=OV2 (.mref H.length) (H++[some ⟨0,2,[]⟩]) C .mk:=rfl
theorem aeff_mapUpdate {t:TypeId} {x k v:Operand} {ev:Operand→AV} {C:AV→Heap→Prop}:AEff E (.mapUpdate t x k v) ev H C=OB (aupdate E.P t H (ev x) (ev k) (ev v)) (fun H'=>C (.sc undef) H') .mk:=by
 simp only[AEff]
 cases aupdate E.P t H (ev x) (ev k) (ev v)<;>rfl
theorem aeff_lookup {t:TypeId} {x k:Operand} {c:Bool} {ev:Operand→AV} {C:AV→Heap→Prop}:AEff E (.lookup t x k c) ev H C=OB (alookup E.P t H (ev x) (ev k) c) (fun v=>C v H) .mk:=aeff_read rfl
theorem aeff_entry {x:Operand} {ev:Operand→AV} {C:AV→Heap→Prop}:AEff E (.entry x) ev H C=OB (aentry H (ev x)) (fun v=>C v H) .mk:=aeff_read rfl
def rangeV (E:Env) (t:TypeId) (x:AV) (H:Heap) (C:AV→Heap→Prop) (_:Bx C):Prop:=match x with
 | .imap es=>if isMapT E.P t then C (.miter H.length) (H++[some ⟨0,3,[[.junk,.junk,.imap es]]⟩])else False
 |_=>False
theorem aeff_range {t:TypeId} {x:Operand} {ev:Operand→AV} {C:AV→Heap→Prop}:AEff E (.range t x) ev H C=rangeV E t (ev x) H C .mk:=by
 simp only[AEff,rangeV]
 rfl
theorem rangeV_imap {t:TypeId} {es:List (Value×Value)} {C:AV→Heap→Prop} {b:Bx C} (h:isMapT E.P t=true):rangeV E t (.imap es) H C b=OV2 (.miter H.length) (H++[some ⟨0,3,[[.junk,.junk,.imap es]]⟩]) C .mk:=by
 simp only[rangeV,h,if_true,OV2]
def ANext (left:List (Value×Value)) (id:Nat) (o:AObj) (H:Heap) (C:AV→Heap→Prop) (_:Bx C):Prop:=
 (left=[]→C (.tup [.sc (.bool false)]) H)∧∀(i:Nat) (e:Value×Value),left[i]?=some e→C (.tup [.sc (.bool true),.sc e.1,.sc e.2]) (H.set id (some {o with es:=[[.sc e.1,.sc e.2,.imap (left.eraseIdx i)]]}))
def nextV (x:AV) (s:Bool) (H:Heap) (C:AV→Heap→Prop) (b:Bx C):Prop:=match x with
 | .miter id=>match H[id]? with
  |some (some o)=>match o.es with
   |[[_,_,.imap left]]=>s=false∧ANext left id o H C b
   |_=>False
  |_=>False
 |_=>False
def nextO (y:Option (Option AObj)) (id:Nat) (H:Heap) (C:AV→Heap→Prop) (b:Bx C):Prop:=match y with
 |some (some o)=>match o.es with
  |[[_,_,.imap left]]=>ANext left id o H C b
  |_=>False
 |_=>False
theorem aeff_next {x:Operand} {ev:Operand→AV} {C:AV→Heap→Prop}:AEff E (.next x false) ev H C=nextV (ev x) false H C .mk:=by
 simp only[AEff,nextV,ANext]
 rfl
theorem nextV_it {id:Nat} {C:AV→Heap→Prop} {b:Bx C}:nextV (.miter id) false H C b=nextO H[id]? id H C .mk:=by
 simp only[nextV,nextO,true_and]
theorem nextO_some {id ty k:Nat} {a1 a2:AV} {left:List (Value×Value)} {C:AV→Heap→Prop} {b:Bx C}:nextO (some (some ⟨ty,k,[[a1,a2,.imap left]]⟩)) id H C b=ANext left id ⟨ty,k,[[a1,a2,.imap left]]⟩ H C .mk:=rfl
def alookO (P:Program) (t:TypeId) (y:Option (Option AObj)) (k:AV) (c:Bool):Option AV:=match mapOf P t,k,(match y with|some (some o)=>entsOf o.es|_=>none)with
 |some (_,d,et),.sc kv,some es=>if isKeyB d kv then lkR P et c (afind d kv es)else none
 |some (kt,_,et),.agg cs,some es=>match keySig P kt with
  |some ks=>match keyVs ks cs with
   |some vs=>lkR P et c (afindA ks vs es)
   |none=>none
  |none=>none
 |_,_,_=>none
theorem alook_mref {t:TypeId} {id:Nat} {k:AV} {c:Bool}:alookup P t H (.mref id) k c=alookO P t H[id]? k c:=rfl
theorem look_core {β:Type} {f:β→Value} {d:β} {et:TypeId} (hz:azero1 P et=some (.sc (f d))) (l:List (Int×β)) (n:Int) (c:Bool):
  lkR P et c (afind (.int .i64) (.int .i64 n) (l.map fun e=>(.int .i64 e.1,.sc (f e.2))))=some (if c then .tup [.sc (f ((getM l n).getD d)),.sc (.bool (getM l n).isSome)]else .sc (f ((getM l n).getD d))):=by
 rw[afind_map]
 unfold lkR
 cases getM l n with
 |none=>simp[hz]
 |some b=>simp
theorem alookO_enc {β:Type} {f:β→Value} {d:β} {t kt et:TypeId} (hm:mapOf P t=some (kt,.int .i64,et)) (hz:azero1 P et=some (.sc (f d))) {ty k:Nat} {l:List (Int×β)} {n:Int} {c:Bool}:
  alookO P t (some (some ⟨ty,k,encK f l⟩)) (.sc (.int .i64 n)) c=some (if c then .tup [.sc (f ((getM l n).getD d)),.sc (.bool (getM l n).isSome)]else .sc (f ((getM l n).getD d))):=by
 rw[←look_core hz l n c]
 simp only[alookO,hm,entsOf_encK,isKeyB,decide_true,if_true]
theorem alook_imap {β:Type} {f:β→Value} {d:β} {t kt et:TypeId} (hm:mapOf P t=some (kt,.int .i64,et)) (hz:azero1 P et=some (.sc (f d))) {l:List (Int×β)} {n:Int} {c:Bool}:
  alookup P t H (.imap (imK f l)) (.sc (.int .i64 n)) c=some (if c then .tup [.sc (f ((getM l n).getD d)),.sc (.bool (getM l n).isSome)]else .sc (f ((getM l n).getD d))):=by
 rw[←look_core hz l n c]
 simp only[alookup,hm,ents,imK,List.map_map,isKeyB,decide_true,if_true]
 rfl
theorem alookO_I {t:TypeId} (h:IMap P t (.sc (.int .i64 0))) {ty k:Nat} {l:List (Int×Int)} {n:Int}:
  alookO P t (some (some ⟨ty,k,encK valI l⟩)) (.sc (.int .i64 n)) false=some (.sc (.int .i64 ((getM l n).getD 0))):=by
 obtain⟨kt,et,hm,hz⟩:=h
 exact (alookO_enc (f:=valI) (d:=0) hm hz).trans rfl
theorem alook_I {t:TypeId} (h:IMap P t (.sc (.int .i64 0))) {l:List (Int×Int)} {n:Int}:
  alookup P t H (.imap (imK valI l)) (.sc (.int .i64 n)) false=some (.sc (.int .i64 ((getM l n).getD 0))):=by
 obtain⟨kt,et,hm,hz⟩:=h
 exact (alook_imap (f:=valI) (d:=0) hm hz).trans rfl
theorem alookO_B {t:TypeId} (h:IMap P t (.sc (.bool false))) {ty k:Nat} {l:List (Int×Bool)} {n:Int}:
  alookO P t (some (some ⟨ty,k,encK valB l⟩)) (.sc (.int .i64 n)) false=some (.sc (.bool ((getM l n).getD false))):=by
 obtain⟨kt,et,hm,hz⟩:=h
 exact (alookO_enc (f:=valB) (d:=false) hm hz).trans rfl
def aupdO (P:Program) (t:TypeId) (id:Nat) (H:Heap) (y:Option (Option AObj)) (k v:AV):Option Heap:=match mapOf P t,k,y with
 |some (_,d,_),.sc kv,some (some o)=>if isKeyB d kv then (aput d kv v o.es).map fun es=>H.set id (some {o with es:=es})else none
 |some (kt,_,_),.agg cs,some (some o)=>match keySig P kt with
  |some ks=>match keyVs ks cs with
   |some vs=>(aputA ks vs v o.es).map fun es=>H.set id (some {o with es:=es})
   |none=>none
  |none=>none
 |_,_,_=>none
theorem aupd_mref {t:TypeId} {id:Nat} {k v:AV}:aupdate P t H (.mref id) k v=aupdO P t id H H[id]? k v:=by
 unfold aupdate aupdO
 cases mapOf P t with
 |none=>rfl
 |some m=>
  obtain⟨kt,d,et⟩:=m
  cases k<;>first|rfl|skip
  ·simp only
   generalize H[id]?=y
   cases y with
   |none=>simp
   |some y=>cases y with
    |none=>simp
    |some o=>rfl
  ·simp only
   generalize H[id]?=y
   cases y with
   |none=>cases keySig P kt with
    |none=>rfl
    |some ks=>simp only;split<;>rfl
   |some y=>cases y with
    |none=>cases keySig P kt with
     |none=>rfl
     |some ks=>simp only;split<;>rfl
    |some o=>rfl
theorem aupdO_enc {β:Type} {f:β→Value} {t kt et:TypeId} (hm:mapOf P t=some (kt,.int .i64,et)) {id ty k:Nat} {l:List (Int×β)} {n:Int} {b:β}:
  aupdO P t id H (some (some ⟨ty,k,encK f l⟩)) (.sc (.int .i64 n)) (.sc (f b))=some (H.set id (some ⟨ty,k,encK f (putM l n b)⟩)):=by
 simp only[aupdO,hm,isKeyB,decide_true,if_true,aput_encK,Option.map_some]
theorem aupdO_I {t:TypeId} (h:IMap P t (.sc (.int .i64 0))) {id ty k:Nat} {l:List (Int×Int)} {n b:Int}:
  aupdO P t id H (some (some ⟨ty,k,encK valI l⟩)) (.sc (.int .i64 n)) (.sc (.int .i64 b))=some (H.set id (some ⟨ty,k,encK valI (putM l n b)⟩)):=by
 obtain⟨kt,et,hm,hz⟩:=h
 exact aupdO_enc (f:=valI) hm
theorem aupdO_B {t:TypeId} (h:IMap P t (.sc (.bool false))) {id ty k:Nat} {l:List (Int×Bool)} {n:Int} {b:Bool}:
  aupdO P t id H (some (some ⟨ty,k,encK valB l⟩)) (.sc (.int .i64 n)) (.sc (.bool b))=some (H.set id (some ⟨ty,k,encK valB (putM l n b)⟩)):=by
 obtain⟨kt,et,hm,hz⟩:=h
 exact aupdO_enc (f:=valB) hm
def aentryO (y:Option (Option AObj)):Option AV:=match y with
 |some (some o)=>match o.es with
  |[[.sc k,.sc v,_]]=>some (.tup [.sc k,.sc v])
  |_=>none
 |_=>none
theorem aentry_it {id:Nat}:aentry H (.miter id)=aentryO H[id]?:=rfl
theorem aentryO_some {ty k:Nat} {a b:Value} {c:AV}:aentryO (some (some ⟨ty,k,[[.sc a,.sc b,c]]⟩))=some (.tup [.sc a,.sc b]):=rfl
def viewM (y:Option (Option AObj)):AV:=match y with
 |some (some o)=>match ents1 o.es with
  |some es=> .imap es
  |none=> .junk
 |_=> .junk
theorem view_mref {id:Nat}:view H (.mref id)=viewM H[id]?:=rfl
theorem view1_mref {id:Nat}:view1 H (.mref id)=viewM H[id]?:=rfl
theorem view2_mref {id:Nat}:view2 H (.mref id)=viewM H[id]?:=rfl
theorem viewM_enc {β:Type} {f:β→Value} {ty k:Nat} {l:List (Int×β)}:viewM (some (some ⟨ty,k,encK f l⟩))= .imap (imK f l):=by simp only[viewM,ents1_encK]
end
section
variable {E:Env} {ev:Operand→AV} {H:Heap} {k:AV→Prop} {b:Bx k}
theorem ard_lookup {t:TypeId} {x y:Operand} {c:Bool}:ARd E (.lookup t x y c) ev H k b=AEff E (.lookup t x y c) ev H fun v _=>k v:=ard_aeff rfl
theorem ard_entry {x:Operand}:ARd E (.entry x) ev H k b=AEff E (.entry x) ev H fun v _=>k v:=ard_aeff rfl
end
attribute [go_sem ↓] ard_lookup ard_entry
attribute [go_sem ↓] aeff_makeMap aeff_mapUpdate aeff_lookup aeff_entry aeff_range aeff_next
attribute [go_sem] rangeV_imap nextV_it nextO_some alook_mref alookO_I alookO_B alook_I aupd_mref aupdO_I aupdO_B aentry_it aentryO_some view_mref view1_mref view2_mref viewM_enc
theorem pfun_list_nil {P:Program} {row src:Option Nat} {f:FuncId} {args:List AV} {k:Nat} {Q:AV→Prop} (h:∀A c,PFun P row src f (.sc (.slice A 0 c)::args) Q):PFun P row src f (.list k []::args) Q:=by
 intro w ok vs h1 h2 h3 h4
 have h0:0<vs.size:=by rw[h3];simp
 have hv:=h4 0 vs[0] (.list k []) (Array.getElem?_eq_getElem h0) rfl
 have key:∃A c,vs[0]= .slice A 0 c:=by
  generalize vs[0]=v at hv
  cases hv with
  |listNil=>exact⟨_,_,rfl⟩
  |list f hn _ _ _ _ _ _=>subst hn;exact⟨_,_,rfl⟩
 obtain⟨A,c,hA⟩:=key
 refine h A c w ok vs h1 h2 (by simpa using h3) fun i v a hv ha=>?_
 match i,hv,ha with
 |0,hv,ha=>
  rw[Array.getElem?_eq_getElem h0,hA]at hv
  simp at hv ha
  subst hv;subst ha
  exact .sc
 |i+1,hv,ha=>exact h4 (i+1) v a hv ha
section
variable {E:Env}
end
theorem agree_push {n:Nat} {H l:Heap} (h:n≤H.length):Agree (fun id=>decide (id<n)) H (H++l):=fun id hid=>List.getElem?_append_left (by simp at hid;omega)
theorem agree_two {H H':Heap} {X:List Nat} {p q:Nat} {o o':AObj} (hk:Kept X H H') (hp:H[p]?=some (some o)) (hq:H[q]?=some (some o')) (np:p∉X) (nq:q∉X):Agree (fun i=>decide (i=p)||decide (i=q)) H H':=fun i hi=>by
 simp only[Bool.or_eq_true,decide_eq_true_eq]at hi
 rcases hi with rfl|rfl
 ·rw[hp,hk _ _ np hp]
 ·rw[hq,hk _ _ nq hq]
theorem agree_live {D:Nat→Bool} {X:List Nat} {H H':Heap} (hk:Kept X H H') (hD:∀i,D i=true→i∉X∧∃o,H[i]?=some (some o)):Agree D H H':=fun i hi=>by
 obtain⟨h1,o,ho⟩:=hD i hi
 rw[ho,hk i o h1 ho]
theorem agree_1 {a:Option AObj} {l l':Heap}:Agree (fun id=>decide (id=0)) (a::l) (a::l'):=fun id hid=>by
 have:id=0:=by simpa using hid
 rcases id with _|id
 ·rfl
 ·omega
theorem valI_eq (v:Int):valI v=Value.int .i64 v:=rfl
theorem valB_eq (v:Bool):valB v=Value.bool v:=rfl
def aixA (P:Program) (H:Heap) (a:Option (Nat×TypeId)) (id i j:Nat) (n:Int):Option AV:=match a with
 |some (len,e)=>if knownT P e=true∧0≤n∧n<len then (if (addrCells H (.ref id i j)).isSome then some (.ref id i (j+n.toNat*szOf P e))else none)else none
 |none=>none
theorem aix_ref {P:Program} {t:TypeId} {H:Heap} {id i j:Nat} {n:Int} (h:Go.PA.elemOf P t=none):aindexAddr P t H (.ref id i j) n=aixA P H (arrOf P t) id i j n:=by
 simp only[aindexAddr,h,aixA]
 cases arrOf P t<;>rfl
theorem aixA_some {P:Program} {H:Heap} {len:Nat} {e:TypeId} {id i j:Nat} {n:Int}:aixA P H (some (len,e)) id i j n=if knownT P e=true∧0≤n∧n<len then (if (addrCells H (.ref id i j)).isSome then some (.ref id i (j+n.toNat*szOf P e))else none)else none:=rfl
def aixVA (P:Program) (cs:List AV) (n:Int) (a:Option (Nat×TypeId)):Option AV:=match a with
 |some (len,e)=>if knownT P e=true∧0≤n∧n<len then apart P e cs (n.toNat*szOf P e)else none
 |none=>none
theorem aixV_agg {P:Program} {t:TypeId} {cs:List AV} {k:IntKind} {n:Int}:aixV P t (.agg cs) (.sc (.int k n))=aixVA P cs n (arrOf P t):=by
 simp only[aixV,aixVA]
 cases arrOf P t<;>rfl
theorem aixVA_some {P:Program} {cs:List AV} {n:Int} {len:Nat} {e:TypeId}:aixVA P cs n (some (len,e))=if knownT P e=true∧0≤n∧n<len then apart P e cs (n.toNat*szOf P e)else none:=rfl
attribute [go_sem] aix_ref aixA_some aixV_agg aixVA_some valI_eq valB_eq
def arI (xs:List Int):List AV:=xs.map fun x=> .sc (.int .i64 x)
theorem arI_len (xs:List Int):(arI xs).length=xs.length:=by simp[arI]
theorem arI_at (xs:List Int) (j:Nat):((arI xs).drop j).head?=(xs[j]?).map fun x=> .sc (.int .i64 x):=by simp[arI]
theorem arI_dropLen (xs:List Int) (j:Nat):((arI xs).drop j).length=xs.length-j:=by simp[arI]
theorem arI_get (xs:List Int) (j:Nat):(arI xs)[j]?=(xs[j]?).map fun x=> .sc (.int .i64 x):=by simp[arI]
theorem arI_all (xs:List Int):(arI xs).all AV.cellish=true:=by simp[arI,AV.cellish,Value.oneCell']
theorem arI_view1 (H:Heap) (xs:List Int):(arI xs).map (view1 H)=arI xs:=by simp[arI,view1]
attribute [go_sem] arI_len arI_at arI_dropLen arI_get arI_all arI_view1
section
variable {E:Env} {H:Heap}
end
end Go.PA
namespace Go.Proofs.YtaenimpfelpafaaGreatDoor
open Go.PA
open Go.RowKit
abbrev iv (n:Int):AV:= .sc (.int .i64 n)
abbrev bv (b:Bool):AV:= .sc (.bool b)
def encI (n:Int):List AV:=[iv n]
theorem imm_encI (n:Int) (c:AV) (h:c∈encI n):Imm c:=by simp[encI]at h;subst h;exact .sc
structure TSub where
 ID:Int
 Balance:Int
deriving DecidableEq,Inhabited
def TSub.cells (x:TSub):List AV:=[iv x.ID,iv x.Balance]
theorem TSub.len (x:TSub):x.cells.length=2:=by simp[TSub.cells]
theorem TSub.imm (x:TSub) (c:AV) (h:c∈x.cells):Imm c:=by
 simp only[TSub.cells,List.mem_cons,List.not_mem_nil,or_false]at h
 rcases h with rfl|rfl
 ·exact .sc
 ·exact .sc
structure TEntry where
 Number:Int
 Day:Int
 From:Int
 To:Int
 Amount:Int
 Ref:Int
deriving DecidableEq,Inhabited
def TEntry.cells (x:TEntry):List AV:=[iv x.Number,iv x.Day,iv x.From,iv x.To,iv x.Amount,iv x.Ref]
theorem TEntry.len (x:TEntry):x.cells.length=6:=by simp[TEntry.cells]
theorem TEntry.imm (x:TEntry) (c:AV) (h:c∈x.cells):Imm c:=by
 simp only[TEntry.cells,List.mem_cons,List.not_mem_nil,or_false]at h
 rcases h with rfl|rfl|rfl|rfl|rfl|rfl
 ·exact .sc
 ·exact .sc
 ·exact .sc
 ·exact .sc
 ·exact .sc
 ·exact .sc
structure TAccount where
 Credit:Int
 Subs:List TSub
 Entries:List TEntry
deriving DecidableEq,Inhabited
def TAccount.cells (x:TAccount):List AV:=[iv x.Credit,.list 2 (encL TSub.cells x.Subs),.list 6 (encL TEntry.cells x.Entries)]
theorem TAccount.len (x:TAccount):x.cells.length=3:=by simp[TAccount.cells]
theorem TAccount.imm (x:TAccount) (c:AV) (h:c∈x.cells):Imm c:=by
 simp only[TAccount.cells,List.mem_cons,List.not_mem_nil,or_false]at h
 rcases h with rfl|rfl|rfl
 ·exact .sc
 ·exact imm_encL _ (TSub.imm) _
 ·exact imm_encL _ (TEntry.imm) _
structure TPayment where
 Warrant:Int
 Payee:Int
 Amount:Int
 Due:Int
 Sub:Int
deriving DecidableEq,Inhabited
def TPayment.cells (x:TPayment):List AV:=[iv x.Warrant,iv x.Payee,iv x.Amount,iv x.Due,iv x.Sub]
theorem TPayment.len (x:TPayment):x.cells.length=5:=by simp[TPayment.cells]
theorem TPayment.imm (x:TPayment) (c:AV) (h:c∈x.cells):Imm c:=by
 simp only[TPayment.cells,List.mem_cons,List.not_mem_nil,or_false]at h
 rcases h with rfl|rfl|rfl|rfl|rfl
 ·exact .sc
 ·exact .sc
 ·exact .sc
 ·exact .sc
 ·exact .sc
structure TBatch where
 Number:Int
 Day:Int
 Payments:List TPayment
deriving DecidableEq,Inhabited
def TBatch.cells (x:TBatch):List AV:=[iv x.Number,iv x.Day,.list 5 (encL TPayment.cells x.Payments)]
theorem TBatch.len (x:TBatch):x.cells.length=3:=by simp[TBatch.cells]
theorem TBatch.imm (x:TBatch) (c:AV) (h:c∈x.cells):Imm c:=by
 simp only[TBatch.cells,List.mem_cons,List.not_mem_nil,or_false]at h
 rcases h with rfl|rfl|rfl
 ·exact .sc
 ·exact .sc
 ·exact imm_encL _ (TPayment.imm) _
structure TQueue where
 Waiting:List TPayment
 Known:List Int
 Batches:List TBatch
deriving DecidableEq,Inhabited
def TQueue.cells (x:TQueue):List AV:=[.list 5 (encL TPayment.cells x.Waiting),.list 1 (encL encI x.Known),.list 3 (encL TBatch.cells x.Batches)]
theorem TQueue.len (x:TQueue):x.cells.length=3:=by simp[TQueue.cells]
theorem TQueue.imm (x:TQueue) (c:AV) (h:c∈x.cells):Imm c:=by
 simp only[TQueue.cells,List.mem_cons,List.not_mem_nil,or_false]at h
 rcases h with rfl|rfl|rfl
 ·exact imm_encL _ (TPayment.imm) _
 ·exact imm_encL _ (imm_encI) _
 ·exact imm_encL _ (TBatch.imm) _
structure TItem where
 Payment:TPayment
 State:Int
 Attempts:Int
deriving DecidableEq,Inhabited
def TItem.cells (x:TItem):List AV:=x.Payment.cells++[iv x.State,iv x.Attempts]
theorem TItem.len (x:TItem):x.cells.length=7:=by simp[TItem.cells,TPayment.len]
theorem TItem.imm (x:TItem) (c:AV) (h:c∈x.cells):Imm c:=by
 simp only[TItem.cells,List.mem_append,List.mem_cons,List.not_mem_nil,or_false]at h
 rcases h with (h)|(rfl|rfl)
 ·exact TPayment.imm _ c h
 ·exact .sc
 ·exact .sc
structure TDesk where
 Account:TAccount
 Queue:TQueue
 Items:List TItem
deriving DecidableEq,Inhabited
def TDesk.cells (x:TDesk):List AV:=x.Account.cells++x.Queue.cells++[.list 7 (encL TItem.cells x.Items)]
theorem TDesk.len (x:TDesk):x.cells.length=7:=by simp[TDesk.cells,TAccount.len,TQueue.len]
theorem TDesk.imm (x:TDesk) (c:AV) (h:c∈x.cells):Imm c:=by
 simp only[TDesk.cells,List.mem_append,List.mem_cons,List.not_mem_nil,or_false]at h
 rcases h with ((h)|(h))|(rfl)
 ·exact TAccount.imm _ c h
 ·exact TQueue.imm _ c h
 ·exact imm_encL _ (TItem.imm) _
structure TClaim where
 ID:Int
 Payer:Int
 Amount:Int
 Open:Int
 Day:Int
 Code:ByteArray
deriving DecidableEq,Inhabited
def TClaim.cells (x:TClaim):List AV:=[iv x.ID,iv x.Payer,iv x.Amount,iv x.Open,iv x.Day,.sc (.string x.Code)]
theorem TClaim.len (x:TClaim):x.cells.length=6:=by simp[TClaim.cells]
theorem TClaim.imm (x:TClaim) (c:AV) (h:c∈x.cells):Imm c:=by
 simp only[TClaim.cells,List.mem_cons,List.not_mem_nil,or_false]at h
 rcases h with rfl|rfl|rfl|rfl|rfl|rfl
 ·exact .sc
 ·exact .sc
 ·exact .sc
 ·exact .sc
 ·exact .sc
 ·exact .sc
structure TIncome where
 Number:Int
 Day:Int
 Payer:Int
 Amount:Int
 Claim:Int
deriving DecidableEq,Inhabited
def TIncome.cells (x:TIncome):List AV:=[iv x.Number,iv x.Day,iv x.Payer,iv x.Amount,iv x.Claim]
theorem TIncome.len (x:TIncome):x.cells.length=5:=by simp[TIncome.cells]
theorem TIncome.imm (x:TIncome) (c:AV) (h:c∈x.cells):Imm c:=by
 simp only[TIncome.cells,List.mem_cons,List.not_mem_nil,or_false]at h
 rcases h with rfl|rfl|rfl|rfl|rfl
 ·exact .sc
 ·exact .sc
 ·exact .sc
 ·exact .sc
 ·exact .sc
structure TMatch where
 Income:Int
 Claim:Int
 Amount:Int
deriving DecidableEq,Inhabited
def TMatch.cells (x:TMatch):List AV:=[iv x.Income,iv x.Claim,iv x.Amount]
theorem TMatch.len (x:TMatch):x.cells.length=3:=by simp[TMatch.cells]
theorem TMatch.imm (x:TMatch) (c:AV) (h:c∈x.cells):Imm c:=by
 simp only[TMatch.cells,List.mem_cons,List.not_mem_nil,or_false]at h
 rcases h with rfl|rfl|rfl
 ·exact .sc
 ·exact .sc
 ·exact .sc
structure TCash where
 Claims:List TClaim
 Incomes:List TIncome
 Matches:List TMatch
 Loose:List Int
deriving DecidableEq,Inhabited
def TCash.cells (x:TCash):List AV:=[.list 6 (encL TClaim.cells x.Claims),.list 5 (encL TIncome.cells x.Incomes),.list 3 (encL TMatch.cells x.Matches),.list 1 (encL encI x.Loose)]
theorem TCash.len (x:TCash):x.cells.length=4:=by simp[TCash.cells]
theorem TCash.imm (x:TCash) (c:AV) (h:c∈x.cells):Imm c:=by
 simp only[TCash.cells,List.mem_cons,List.not_mem_nil,or_false]at h
 rcases h with rfl|rfl|rfl|rfl
 ·exact imm_encL _ (TClaim.imm) _
 ·exact imm_encL _ (TIncome.imm) _
 ·exact imm_encL _ (TMatch.imm) _
 ·exact imm_encL _ (imm_encI) _
structure TSecurity where
 ID:Int
 Unit:Int
 Issued:Int
 Maturity:Int
 Rate:Int
 Every:Int
 Indexed:Bool
deriving DecidableEq,Inhabited
def TSecurity.cells (x:TSecurity):List AV:=[iv x.ID,iv x.Unit,iv x.Issued,iv x.Maturity,iv x.Rate,iv x.Every,bv x.Indexed]
theorem TSecurity.len (x:TSecurity):x.cells.length=7:=by simp[TSecurity.cells]
theorem TSecurity.imm (x:TSecurity) (c:AV) (h:c∈x.cells):Imm c:=by
 simp only[TSecurity.cells,List.mem_cons,List.not_mem_nil,or_false]at h
 rcases h with rfl|rfl|rfl|rfl|rfl|rfl|rfl
 ·exact .sc
 ·exact .sc
 ·exact .sc
 ·exact .sc
 ·exact .sc
 ·exact .sc
 ·exact .sc
structure THolding where
 Security:Int
 Holder:Int
 Amount:Int
deriving DecidableEq,Inhabited
def THolding.cells (x:THolding):List AV:=[iv x.Security,iv x.Holder,iv x.Amount]
theorem THolding.len (x:THolding):x.cells.length=3:=by simp[THolding.cells]
theorem THolding.imm (x:THolding) (c:AV) (h:c∈x.cells):Imm c:=by
 simp only[THolding.cells,List.mem_cons,List.not_mem_nil,or_false]at h
 rcases h with rfl|rfl|rfl
 ·exact .sc
 ·exact .sc
 ·exact .sc
structure TMove where
 Number:Int
 Day:Int
 Kind:Int
 Security:Int
 From:Int
 To:Int
 Amount:Int
deriving DecidableEq,Inhabited
def TMove.cells (x:TMove):List AV:=[iv x.Number,iv x.Day,iv x.Kind,iv x.Security,iv x.From,iv x.To,iv x.Amount]
theorem TMove.len (x:TMove):x.cells.length=7:=by simp[TMove.cells]
theorem TMove.imm (x:TMove) (c:AV) (h:c∈x.cells):Imm c:=by
 simp only[TMove.cells,List.mem_cons,List.not_mem_nil,or_false]at h
 rcases h with rfl|rfl|rfl|rfl|rfl|rfl|rfl
 ·exact .sc
 ·exact .sc
 ·exact .sc
 ·exact .sc
 ·exact .sc
 ·exact .sc
 ·exact .sc
structure TRegister where
 Securities:List TSecurity
 Holdings:List THolding
 Moves:List TMove
deriving DecidableEq,Inhabited
def TRegister.cells (x:TRegister):List AV:=[.list 7 (encL TSecurity.cells x.Securities),.list 3 (encL THolding.cells x.Holdings),.list 7 (encL TMove.cells x.Moves)]
theorem TRegister.len (x:TRegister):x.cells.length=3:=by simp[TRegister.cells]
theorem TRegister.imm (x:TRegister) (c:AV) (h:c∈x.cells):Imm c:=by
 simp only[TRegister.cells,List.mem_cons,List.not_mem_nil,or_false]at h
 rcases h with rfl|rfl|rfl
 ·exact imm_encL _ (TSecurity.imm) _
 ·exact imm_encL _ (THolding.imm) _
 ·exact imm_encL _ (TMove.imm) _
structure TPosting where
 Number:Int
 Day:Int
 Entity:Int
 Debit:Int
 Credit:Int
 Amount:Int
 Partner:Int
 Ref:Int
deriving DecidableEq,Inhabited
def TPosting.cells (x:TPosting):List AV:=[iv x.Number,iv x.Day,iv x.Entity,iv x.Debit,iv x.Credit,iv x.Amount,iv x.Partner,iv x.Ref]
theorem TPosting.len (x:TPosting):x.cells.length=8:=by simp[TPosting.cells]
theorem TPosting.imm (x:TPosting) (c:AV) (h:c∈x.cells):Imm c:=by
 simp only[TPosting.cells,List.mem_cons,List.not_mem_nil,or_false]at h
 rcases h with rfl|rfl|rfl|rfl|rfl|rfl|rfl|rfl
 ·exact .sc
 ·exact .sc
 ·exact .sc
 ·exact .sc
 ·exact .sc
 ·exact .sc
 ·exact .sc
 ·exact .sc
structure TLedger where
 Postings:List TPosting
deriving DecidableEq,Inhabited
def TLedger.cells (x:TLedger):List AV:=[.list 8 (encL TPosting.cells x.Postings)]
theorem TLedger.len (x:TLedger):x.cells.length=1:=by simp[TLedger.cells]
theorem TLedger.imm (x:TLedger) (c:AV) (h:c∈x.cells):Imm c:=by
 simp only[TLedger.cells,List.mem_cons,List.not_mem_nil,or_false]at h
 rcases h with rfl
 ·exact imm_encL _ (TPosting.imm) _
structure TState where
 Desk:TDesk
 Cash:TCash
 Register:TRegister
 Ledger:TLedger
deriving DecidableEq,Inhabited
def TState.cells (x:TState):List AV:=x.Desk.cells++x.Cash.cells++x.Register.cells++x.Ledger.cells
theorem TState.len (x:TState):x.cells.length=15:=by simp[TState.cells,TDesk.len,TCash.len,TRegister.len,TLedger.len]
theorem TState.imm (x:TState) (c:AV) (h:c∈x.cells):Imm c:=by
 simp only[TState.cells,List.mem_append,List.mem_cons,List.not_mem_nil,or_false]at h
 rcases h with (((h)|(h))|(h))|(h)
 ·exact TDesk.imm _ c h
 ·exact TCash.imm _ c h
 ·exact TRegister.imm _ c h
 ·exact TLedger.imm _ c h
structure TDeed where
 Kind:Int
 Day:Int
 Sub:Int
 Who:Int
 Ref:Int
 Amount:Int
 Due:Int
deriving DecidableEq,Inhabited
def TDeed.cells (x:TDeed):List AV:=[iv x.Kind,iv x.Day,iv x.Sub,iv x.Who,iv x.Ref,iv x.Amount,iv x.Due]
theorem TDeed.len (x:TDeed):x.cells.length=7:=by simp[TDeed.cells]
theorem TDeed.imm (x:TDeed) (c:AV) (h:c∈x.cells):Imm c:=by
 simp only[TDeed.cells,List.mem_cons,List.not_mem_nil,or_false]at h
 rcases h with rfl|rfl|rfl|rfl|rfl|rfl|rfl
 ·exact .sc
 ·exact .sc
 ·exact .sc
 ·exact .sc
 ·exact .sc
 ·exact .sc
 ·exact .sc
structure TFinding where
 Layer:Int
 Number:Int
deriving DecidableEq,Inhabited
def TFinding.cells (x:TFinding):List AV:=[iv x.Layer,iv x.Number]
theorem TFinding.len (x:TFinding):x.cells.length=2:=by simp[TFinding.cells]
theorem TFinding.imm (x:TFinding) (c:AV) (h:c∈x.cells):Imm c:=by
 simp only[TFinding.cells,List.mem_cons,List.not_mem_nil,or_false]at h
 rcases h with rfl|rfl
 ·exact .sc
 ·exact .sc
open Go.PA
@[go_sem] theorem sz_3:szOf Tryz.prog 3=1:=by kernel_rfl
@[go_sem] theorem kn_3:knownT Tryz.prog 3=true:=by kernel_rfl
@[go_sem] theorem ag_3:aggOf Tryz.prog 3=false:=by kernel_rfl
@[go_sem] theorem ze_3:zeros Tryz.prog 3=some [.sc (.int .i64 0)]:=by kernel_rfl
@[go_sem] theorem by_3:bytesOf Tryz.prog 3=8:=by kernel_rfl
@[go_sem] theorem sz_22:szOf Tryz.prog 22=1:=by kernel_rfl
@[go_sem] theorem kn_22:knownT Tryz.prog 22=true:=by kernel_rfl
@[go_sem] theorem ag_22:aggOf Tryz.prog 22=false:=by kernel_rfl
@[go_sem] theorem el_22:Go.PA.elemOf Tryz.prog 22=some 3:=by kernel_rfl
@[go_sem] theorem sz_25:szOf Tryz.prog 25=1:=by kernel_rfl
@[go_sem] theorem kn_25:knownT Tryz.prog 25=true:=by kernel_rfl
@[go_sem] theorem ag_25:aggOf Tryz.prog 25=false:=by kernel_rfl
@[go_sem] theorem el_25:Go.PA.elemOf Tryz.prog 25=some 121:=by kernel_rfl
@[go_sem] theorem sz_26:szOf Tryz.prog 26=1:=by kernel_rfl
@[go_sem] theorem kn_26:knownT Tryz.prog 26=true:=by kernel_rfl
@[go_sem] theorem ag_26:aggOf Tryz.prog 26=false:=by kernel_rfl
@[go_sem] theorem el_26:Go.PA.elemOf Tryz.prog 26=some 75:=by kernel_rfl
@[go_sem] theorem sz_28:szOf Tryz.prog 28=3:=by kernel_rfl
@[go_sem] theorem kn_28:knownT Tryz.prog 28=true:=by kernel_rfl
@[go_sem] theorem ag_28:aggOf Tryz.prog 28=true:=by kernel_rfl
@[go_sem] theorem fd_28_0:fieldOf Tryz.prog 28 0=some (0,3):=by kernel_rfl
@[go_sem] theorem fd_28_1:fieldOf Tryz.prog 28 1=some (1,25):=by kernel_rfl
@[go_sem] theorem fd_28_2:fieldOf Tryz.prog 28 2=some (2,26):=by kernel_rfl
@[go_sem] theorem ar_28:arrOf Tryz.prog 28=none:=by kernel_rfl
@[go_sem] theorem fk_28:fieldsKnown Tryz.prog 28=true:=by kernel_rfl
@[go_sem] theorem ze_28:zeros Tryz.prog 28=some [.sc (.int .i64 0),.nil,.nil]:=by kernel_rfl
@[go_sem] theorem sz_29:szOf Tryz.prog 29=1:=by kernel_rfl
@[go_sem] theorem kn_29:knownT Tryz.prog 29=true:=by kernel_rfl
@[go_sem] theorem ag_29:aggOf Tryz.prog 29=false:=by kernel_rfl
@[go_sem] theorem el_29:Go.PA.elemOf Tryz.prog 29=some 81:=by kernel_rfl
@[go_sem] theorem sz_30:szOf Tryz.prog 30=1:=by kernel_rfl
@[go_sem] theorem kn_30:knownT Tryz.prog 30=true:=by kernel_rfl
@[go_sem] theorem ag_30:aggOf Tryz.prog 30=false:=by kernel_rfl
@[go_sem] theorem el_30:Go.PA.elemOf Tryz.prog 30=some 140:=by kernel_rfl
@[go_sem] theorem sz_32:szOf Tryz.prog 32=3:=by kernel_rfl
@[go_sem] theorem kn_32:knownT Tryz.prog 32=true:=by kernel_rfl
@[go_sem] theorem ag_32:aggOf Tryz.prog 32=true:=by kernel_rfl
@[go_sem] theorem fd_32_0:fieldOf Tryz.prog 32 0=some (0,29):=by kernel_rfl
@[go_sem] theorem fd_32_1:fieldOf Tryz.prog 32 1=some (1,22):=by kernel_rfl
@[go_sem] theorem fd_32_2:fieldOf Tryz.prog 32 2=some (2,30):=by kernel_rfl
@[go_sem] theorem ar_32:arrOf Tryz.prog 32=none:=by kernel_rfl
@[go_sem] theorem fk_32:fieldsKnown Tryz.prog 32=true:=by kernel_rfl
@[go_sem] theorem ze_32:zeros Tryz.prog 32=some [.nil,.nil,.nil]:=by kernel_rfl
@[go_sem] theorem sz_33:szOf Tryz.prog 33=1:=by kernel_rfl
@[go_sem] theorem kn_33:knownT Tryz.prog 33=true:=by kernel_rfl
@[go_sem] theorem ag_33:aggOf Tryz.prog 33=false:=by kernel_rfl
@[go_sem] theorem el_33:Go.PA.elemOf Tryz.prog 33=some 83:=by kernel_rfl
@[go_sem] theorem sz_35:szOf Tryz.prog 35=7:=by kernel_rfl
@[go_sem] theorem kn_35:knownT Tryz.prog 35=true:=by kernel_rfl
@[go_sem] theorem ag_35:aggOf Tryz.prog 35=true:=by kernel_rfl
@[go_sem] theorem fd_35_0:fieldOf Tryz.prog 35 0=some (0,28):=by kernel_rfl
@[go_sem] theorem fd_35_1:fieldOf Tryz.prog 35 1=some (3,32):=by kernel_rfl
@[go_sem] theorem fd_35_2:fieldOf Tryz.prog 35 2=some (6,33):=by kernel_rfl
@[go_sem] theorem ar_35:arrOf Tryz.prog 35=none:=by kernel_rfl
@[go_sem] theorem fk_35:fieldsKnown Tryz.prog 35=true:=by kernel_rfl
@[go_sem] theorem ze_35:zeros Tryz.prog 35=some [.sc (.int .i64 0),.nil,.nil,.nil,.nil,.nil,.nil]:=by kernel_rfl
@[go_sem] theorem sz_36:szOf Tryz.prog 36=1:=by kernel_rfl
@[go_sem] theorem kn_36:knownT Tryz.prog 36=true:=by kernel_rfl
@[go_sem] theorem ag_36:aggOf Tryz.prog 36=false:=by kernel_rfl
@[go_sem] theorem el_36:Go.PA.elemOf Tryz.prog 36=some 145:=by kernel_rfl
@[go_sem] theorem sz_37:szOf Tryz.prog 37=1:=by kernel_rfl
@[go_sem] theorem kn_37:knownT Tryz.prog 37=true:=by kernel_rfl
@[go_sem] theorem ag_37:aggOf Tryz.prog 37=false:=by kernel_rfl
@[go_sem] theorem el_37:Go.PA.elemOf Tryz.prog 37=some 79:=by kernel_rfl
@[go_sem] theorem sz_38:szOf Tryz.prog 38=1:=by kernel_rfl
@[go_sem] theorem kn_38:knownT Tryz.prog 38=true:=by kernel_rfl
@[go_sem] theorem ag_38:aggOf Tryz.prog 38=false:=by kernel_rfl
@[go_sem] theorem el_38:Go.PA.elemOf Tryz.prog 38=some 149:=by kernel_rfl
@[go_sem] theorem sz_40:szOf Tryz.prog 40=4:=by kernel_rfl
@[go_sem] theorem kn_40:knownT Tryz.prog 40=true:=by kernel_rfl
@[go_sem] theorem ag_40:aggOf Tryz.prog 40=true:=by kernel_rfl
@[go_sem] theorem fd_40_0:fieldOf Tryz.prog 40 0=some (0,36):=by kernel_rfl
@[go_sem] theorem fd_40_1:fieldOf Tryz.prog 40 1=some (1,37):=by kernel_rfl
@[go_sem] theorem fd_40_2:fieldOf Tryz.prog 40 2=some (2,38):=by kernel_rfl
@[go_sem] theorem fd_40_3:fieldOf Tryz.prog 40 3=some (3,22):=by kernel_rfl
@[go_sem] theorem ar_40:arrOf Tryz.prog 40=none:=by kernel_rfl
@[go_sem] theorem fk_40:fieldsKnown Tryz.prog 40=true:=by kernel_rfl
@[go_sem] theorem ze_40:zeros Tryz.prog 40=some [.nil,.nil,.nil,.nil]:=by kernel_rfl
@[go_sem] theorem sz_41:szOf Tryz.prog 41=1:=by kernel_rfl
@[go_sem] theorem kn_41:knownT Tryz.prog 41=true:=by kernel_rfl
@[go_sem] theorem ag_41:aggOf Tryz.prog 41=false:=by kernel_rfl
@[go_sem] theorem el_41:Go.PA.elemOf Tryz.prog 41=some 89:=by kernel_rfl
@[go_sem] theorem sz_42:szOf Tryz.prog 42=1:=by kernel_rfl
@[go_sem] theorem kn_42:knownT Tryz.prog 42=true:=by kernel_rfl
@[go_sem] theorem ag_42:aggOf Tryz.prog 42=false:=by kernel_rfl
@[go_sem] theorem el_42:Go.PA.elemOf Tryz.prog 42=some 173:=by kernel_rfl
@[go_sem] theorem sz_43:szOf Tryz.prog 43=1:=by kernel_rfl
@[go_sem] theorem kn_43:knownT Tryz.prog 43=true:=by kernel_rfl
@[go_sem] theorem ag_43:aggOf Tryz.prog 43=false:=by kernel_rfl
@[go_sem] theorem el_43:Go.PA.elemOf Tryz.prog 43=some 70:=by kernel_rfl
@[go_sem] theorem sz_45:szOf Tryz.prog 45=3:=by kernel_rfl
@[go_sem] theorem kn_45:knownT Tryz.prog 45=true:=by kernel_rfl
@[go_sem] theorem ag_45:aggOf Tryz.prog 45=true:=by kernel_rfl
@[go_sem] theorem fd_45_0:fieldOf Tryz.prog 45 0=some (0,41):=by kernel_rfl
@[go_sem] theorem fd_45_1:fieldOf Tryz.prog 45 1=some (1,42):=by kernel_rfl
@[go_sem] theorem fd_45_2:fieldOf Tryz.prog 45 2=some (2,43):=by kernel_rfl
@[go_sem] theorem ar_45:arrOf Tryz.prog 45=none:=by kernel_rfl
@[go_sem] theorem fk_45:fieldsKnown Tryz.prog 45=true:=by kernel_rfl
@[go_sem] theorem ze_45:zeros Tryz.prog 45=some [.nil,.nil,.nil]:=by kernel_rfl
@[go_sem] theorem sz_46:szOf Tryz.prog 46=1:=by kernel_rfl
@[go_sem] theorem kn_46:knownT Tryz.prog 46=true:=by kernel_rfl
@[go_sem] theorem ag_46:aggOf Tryz.prog 46=false:=by kernel_rfl
@[go_sem] theorem el_46:Go.PA.elemOf Tryz.prog 46=some 77:=by kernel_rfl
@[go_sem] theorem sz_48:szOf Tryz.prog 48=1:=by kernel_rfl
@[go_sem] theorem kn_48:knownT Tryz.prog 48=true:=by kernel_rfl
@[go_sem] theorem ag_48:aggOf Tryz.prog 48=true:=by kernel_rfl
@[go_sem] theorem fd_48_0:fieldOf Tryz.prog 48 0=some (0,46):=by kernel_rfl
@[go_sem] theorem ar_48:arrOf Tryz.prog 48=none:=by kernel_rfl
@[go_sem] theorem fk_48:fieldsKnown Tryz.prog 48=true:=by kernel_rfl
@[go_sem] theorem ze_48:zeros Tryz.prog 48=some [.nil]:=by kernel_rfl
@[go_sem] theorem sz_50:szOf Tryz.prog 50=15:=by kernel_rfl
@[go_sem] theorem kn_50:knownT Tryz.prog 50=true:=by kernel_rfl
@[go_sem] theorem ag_50:aggOf Tryz.prog 50=true:=by kernel_rfl
@[go_sem] theorem fd_50_0:fieldOf Tryz.prog 50 0=some (0,35):=by kernel_rfl
@[go_sem] theorem fd_50_1:fieldOf Tryz.prog 50 1=some (7,40):=by kernel_rfl
@[go_sem] theorem fd_50_2:fieldOf Tryz.prog 50 2=some (11,45):=by kernel_rfl
@[go_sem] theorem fd_50_3:fieldOf Tryz.prog 50 3=some (14,48):=by kernel_rfl
@[go_sem] theorem fk_50:fieldsKnown Tryz.prog 50=true:=by kernel_rfl
@[go_sem] theorem ze_50:zeros Tryz.prog 50=some [.sc (.int .i64 0),.nil,.nil,.nil,.nil,.nil,.nil,.nil,.nil,.nil,.nil,.nil,.nil,.nil,.nil]:=by kernel_rfl
@[go_sem] theorem sz_51:szOf Tryz.prog 51=1:=by kernel_rfl
@[go_sem] theorem kn_51:knownT Tryz.prog 51=true:=by kernel_rfl
@[go_sem] theorem ag_51:aggOf Tryz.prog 51=false:=by kernel_rfl
@[go_sem] theorem el_56:Go.PA.elemOf Tryz.prog 56=some 59:=by kernel_rfl
@[go_sem] theorem sz_59:szOf Tryz.prog 59=7:=by kernel_rfl
@[go_sem] theorem kn_59:knownT Tryz.prog 59=true:=by kernel_rfl
@[go_sem] theorem ag_59:aggOf Tryz.prog 59=true:=by kernel_rfl
@[go_sem] theorem fd_59_0:fieldOf Tryz.prog 59 0=some (0,3):=by kernel_rfl
@[go_sem] theorem fd_59_1:fieldOf Tryz.prog 59 1=some (1,3):=by kernel_rfl
@[go_sem] theorem fd_59_2:fieldOf Tryz.prog 59 2=some (2,3):=by kernel_rfl
@[go_sem] theorem fd_59_3:fieldOf Tryz.prog 59 3=some (3,3):=by kernel_rfl
@[go_sem] theorem fd_59_4:fieldOf Tryz.prog 59 4=some (4,3):=by kernel_rfl
@[go_sem] theorem fd_59_5:fieldOf Tryz.prog 59 5=some (5,3):=by kernel_rfl
@[go_sem] theorem fd_59_6:fieldOf Tryz.prog 59 6=some (6,3):=by kernel_rfl
@[go_sem] theorem ar_59:arrOf Tryz.prog 59=none:=by kernel_rfl
@[go_sem] theorem fk_59:fieldsKnown Tryz.prog 59=true:=by kernel_rfl
@[go_sem] theorem ze_59:zeros Tryz.prog 59=some [.sc (.int .i64 0),.sc (.int .i64 0),.sc (.int .i64 0),.sc (.int .i64 0),.sc (.int .i64 0),.sc (.int .i64 0),.sc (.int .i64 0)]:=by kernel_rfl
@[go_sem] theorem by_59:bytesOf Tryz.prog 59=56:=by kernel_rfl
@[go_sem] theorem sz_70:szOf Tryz.prog 70=7:=by kernel_rfl
@[go_sem] theorem kn_70:knownT Tryz.prog 70=true:=by kernel_rfl
@[go_sem] theorem ag_70:aggOf Tryz.prog 70=true:=by kernel_rfl
@[go_sem] theorem fd_70_0:fieldOf Tryz.prog 70 0=some (0,3):=by kernel_rfl
@[go_sem] theorem fd_70_1:fieldOf Tryz.prog 70 1=some (1,3):=by kernel_rfl
@[go_sem] theorem fd_70_2:fieldOf Tryz.prog 70 2=some (2,3):=by kernel_rfl
@[go_sem] theorem fd_70_3:fieldOf Tryz.prog 70 3=some (3,3):=by kernel_rfl
@[go_sem] theorem fd_70_4:fieldOf Tryz.prog 70 4=some (4,3):=by kernel_rfl
@[go_sem] theorem fd_70_5:fieldOf Tryz.prog 70 5=some (5,3):=by kernel_rfl
@[go_sem] theorem fd_70_6:fieldOf Tryz.prog 70 6=some (6,3):=by kernel_rfl
@[go_sem] theorem ar_70:arrOf Tryz.prog 70=none:=by kernel_rfl
@[go_sem] theorem fk_70:fieldsKnown Tryz.prog 70=true:=by kernel_rfl
@[go_sem] theorem ze_70:zeros Tryz.prog 70=some [.sc (.int .i64 0),.sc (.int .i64 0),.sc (.int .i64 0),.sc (.int .i64 0),.sc (.int .i64 0),.sc (.int .i64 0),.sc (.int .i64 0)]:=by kernel_rfl
@[go_sem] theorem by_70:bytesOf Tryz.prog 70=56:=by kernel_rfl
@[go_sem] theorem sz_75:szOf Tryz.prog 75=6:=by kernel_rfl
@[go_sem] theorem kn_75:knownT Tryz.prog 75=true:=by kernel_rfl
@[go_sem] theorem ag_75:aggOf Tryz.prog 75=true:=by kernel_rfl
@[go_sem] theorem fd_75_0:fieldOf Tryz.prog 75 0=some (0,3):=by kernel_rfl
@[go_sem] theorem fd_75_1:fieldOf Tryz.prog 75 1=some (1,3):=by kernel_rfl
@[go_sem] theorem fd_75_2:fieldOf Tryz.prog 75 2=some (2,3):=by kernel_rfl
@[go_sem] theorem fd_75_3:fieldOf Tryz.prog 75 3=some (3,3):=by kernel_rfl
@[go_sem] theorem fd_75_4:fieldOf Tryz.prog 75 4=some (4,3):=by kernel_rfl
@[go_sem] theorem fd_75_5:fieldOf Tryz.prog 75 5=some (5,3):=by kernel_rfl
@[go_sem] theorem ar_75:arrOf Tryz.prog 75=none:=by kernel_rfl
@[go_sem] theorem fk_75:fieldsKnown Tryz.prog 75=true:=by kernel_rfl
@[go_sem] theorem ze_75:zeros Tryz.prog 75=some [.sc (.int .i64 0),.sc (.int .i64 0),.sc (.int .i64 0),.sc (.int .i64 0),.sc (.int .i64 0),.sc (.int .i64 0)]:=by kernel_rfl
@[go_sem] theorem by_75:bytesOf Tryz.prog 75=48:=by kernel_rfl
@[go_sem] theorem sz_77:szOf Tryz.prog 77=8:=by kernel_rfl
@[go_sem] theorem kn_77:knownT Tryz.prog 77=true:=by kernel_rfl
@[go_sem] theorem ag_77:aggOf Tryz.prog 77=true:=by kernel_rfl
@[go_sem] theorem fd_77_0:fieldOf Tryz.prog 77 0=some (0,3):=by kernel_rfl
@[go_sem] theorem fd_77_1:fieldOf Tryz.prog 77 1=some (1,3):=by kernel_rfl
@[go_sem] theorem fd_77_2:fieldOf Tryz.prog 77 2=some (2,3):=by kernel_rfl
@[go_sem] theorem fd_77_3:fieldOf Tryz.prog 77 3=some (3,3):=by kernel_rfl
@[go_sem] theorem fd_77_4:fieldOf Tryz.prog 77 4=some (4,3):=by kernel_rfl
@[go_sem] theorem fd_77_5:fieldOf Tryz.prog 77 5=some (5,3):=by kernel_rfl
@[go_sem] theorem fd_77_6:fieldOf Tryz.prog 77 6=some (6,3):=by kernel_rfl
@[go_sem] theorem fd_77_7:fieldOf Tryz.prog 77 7=some (7,3):=by kernel_rfl
@[go_sem] theorem ar_77:arrOf Tryz.prog 77=none:=by kernel_rfl
@[go_sem] theorem fk_77:fieldsKnown Tryz.prog 77=true:=by kernel_rfl
@[go_sem] theorem sg_77:sigOf Tryz.prog 77=some [.int,.int,.int,.int,.int,.int,.int,.int]:=by kernel_rfl
@[go_sem] theorem ze_77:zeros Tryz.prog 77=some [.sc (.int .i64 0),.sc (.int .i64 0),.sc (.int .i64 0),.sc (.int .i64 0),.sc (.int .i64 0),.sc (.int .i64 0),.sc (.int .i64 0),.sc (.int .i64 0)]:=by kernel_rfl
@[go_sem] theorem by_77:bytesOf Tryz.prog 77=64:=by kernel_rfl
@[go_sem] theorem sz_79:szOf Tryz.prog 79=5:=by kernel_rfl
@[go_sem] theorem kn_79:knownT Tryz.prog 79=true:=by kernel_rfl
@[go_sem] theorem ag_79:aggOf Tryz.prog 79=true:=by kernel_rfl
@[go_sem] theorem fd_79_0:fieldOf Tryz.prog 79 0=some (0,3):=by kernel_rfl
@[go_sem] theorem fd_79_1:fieldOf Tryz.prog 79 1=some (1,3):=by kernel_rfl
@[go_sem] theorem fd_79_2:fieldOf Tryz.prog 79 2=some (2,3):=by kernel_rfl
@[go_sem] theorem fd_79_3:fieldOf Tryz.prog 79 3=some (3,3):=by kernel_rfl
@[go_sem] theorem fd_79_4:fieldOf Tryz.prog 79 4=some (4,3):=by kernel_rfl
@[go_sem] theorem ar_79:arrOf Tryz.prog 79=none:=by kernel_rfl
@[go_sem] theorem fk_79:fieldsKnown Tryz.prog 79=true:=by kernel_rfl
@[go_sem] theorem ze_79:zeros Tryz.prog 79=some [.sc (.int .i64 0),.sc (.int .i64 0),.sc (.int .i64 0),.sc (.int .i64 0),.sc (.int .i64 0)]:=by kernel_rfl
@[go_sem] theorem by_79:bytesOf Tryz.prog 79=40:=by kernel_rfl
@[go_sem] theorem sz_81:szOf Tryz.prog 81=5:=by kernel_rfl
@[go_sem] theorem kn_81:knownT Tryz.prog 81=true:=by kernel_rfl
@[go_sem] theorem ag_81:aggOf Tryz.prog 81=true:=by kernel_rfl
@[go_sem] theorem fd_81_0:fieldOf Tryz.prog 81 0=some (0,3):=by kernel_rfl
@[go_sem] theorem fd_81_1:fieldOf Tryz.prog 81 1=some (1,3):=by kernel_rfl
@[go_sem] theorem fd_81_2:fieldOf Tryz.prog 81 2=some (2,3):=by kernel_rfl
@[go_sem] theorem fd_81_3:fieldOf Tryz.prog 81 3=some (3,3):=by kernel_rfl
@[go_sem] theorem fd_81_4:fieldOf Tryz.prog 81 4=some (4,3):=by kernel_rfl
@[go_sem] theorem ar_81:arrOf Tryz.prog 81=none:=by kernel_rfl
@[go_sem] theorem fk_81:fieldsKnown Tryz.prog 81=true:=by kernel_rfl
@[go_sem] theorem sg_81:sigOf Tryz.prog 81=some [.int,.int,.int,.int,.int]:=by kernel_rfl
@[go_sem] theorem ze_81:zeros Tryz.prog 81=some [.sc (.int .i64 0),.sc (.int .i64 0),.sc (.int .i64 0),.sc (.int .i64 0),.sc (.int .i64 0)]:=by kernel_rfl
@[go_sem] theorem by_81:bytesOf Tryz.prog 81=40:=by kernel_rfl
@[go_sem] theorem sz_83:szOf Tryz.prog 83=7:=by kernel_rfl
@[go_sem] theorem kn_83:knownT Tryz.prog 83=true:=by kernel_rfl
@[go_sem] theorem ag_83:aggOf Tryz.prog 83=true:=by kernel_rfl
@[go_sem] theorem fd_83_0:fieldOf Tryz.prog 83 0=some (0,81):=by kernel_rfl
@[go_sem] theorem fd_83_1:fieldOf Tryz.prog 83 1=some (5,3):=by kernel_rfl
@[go_sem] theorem fd_83_2:fieldOf Tryz.prog 83 2=some (6,3):=by kernel_rfl
@[go_sem] theorem ar_83:arrOf Tryz.prog 83=none:=by kernel_rfl
@[go_sem] theorem fk_83:fieldsKnown Tryz.prog 83=true:=by kernel_rfl
@[go_sem] theorem ze_83:zeros Tryz.prog 83=some [.sc (.int .i64 0),.sc (.int .i64 0),.sc (.int .i64 0),.sc (.int .i64 0),.sc (.int .i64 0),.sc (.int .i64 0),.sc (.int .i64 0)]:=by kernel_rfl
@[go_sem] theorem by_83:bytesOf Tryz.prog 83=56:=by kernel_rfl
@[go_sem] theorem fd_85_0:fieldOf Tryz.prog 85 0=some (0,22):=by kernel_rfl
@[go_sem] theorem ar_85:arrOf Tryz.prog 85=none:=by kernel_rfl
@[go_sem] theorem fk_85:fieldsKnown Tryz.prog 85=true:=by kernel_rfl
@[go_sem] theorem ze_85:zeros Tryz.prog 85=some [.nil,.sc (.int .i64 0)]:=by kernel_rfl
@[go_sem] theorem sz_89:szOf Tryz.prog 89=7:=by kernel_rfl
@[go_sem] theorem kn_89:knownT Tryz.prog 89=true:=by kernel_rfl
@[go_sem] theorem ag_89:aggOf Tryz.prog 89=true:=by kernel_rfl
@[go_sem] theorem fd_89_0:fieldOf Tryz.prog 89 0=some (0,3):=by kernel_rfl
@[go_sem] theorem fd_89_1:fieldOf Tryz.prog 89 1=some (1,3):=by kernel_rfl
@[go_sem] theorem fd_89_2:fieldOf Tryz.prog 89 2=some (2,3):=by kernel_rfl
@[go_sem] theorem fd_89_3:fieldOf Tryz.prog 89 3=some (3,3):=by kernel_rfl
@[go_sem] theorem fd_89_4:fieldOf Tryz.prog 89 4=some (4,3):=by kernel_rfl
@[go_sem] theorem fd_89_5:fieldOf Tryz.prog 89 5=some (5,3):=by kernel_rfl
@[go_sem] theorem ar_89:arrOf Tryz.prog 89=none:=by kernel_rfl
@[go_sem] theorem fk_89:fieldsKnown Tryz.prog 89=true:=by kernel_rfl
@[go_sem] theorem ze_89:zeros Tryz.prog 89=some [.sc (.int .i64 0),.sc (.int .i64 0),.sc (.int .i64 0),.sc (.int .i64 0),.sc (.int .i64 0),.sc (.int .i64 0),.sc (.bool false)]:=by kernel_rfl
@[go_sem] theorem by_89:bytesOf Tryz.prog 89=56:=by kernel_rfl
@[go_sem] theorem fd_96_0:fieldOf Tryz.prog 96 0=some (0,50):=by kernel_rfl
@[go_sem] theorem fd_96_1:fieldOf Tryz.prog 96 1=some (15,3):=by kernel_rfl
@[go_sem] theorem ar_96:arrOf Tryz.prog 96=none:=by kernel_rfl
@[go_sem] theorem fk_96:fieldsKnown Tryz.prog 96=true:=by kernel_rfl
@[go_sem] theorem ze_96:zeros Tryz.prog 96=some [.sc (.int .i64 0),.nil,.nil,.nil,.nil,.nil,.nil,.nil,.nil,.nil,.nil,.nil,.nil,.nil,.nil,.sc (.int .i64 0)]:=by kernel_rfl
@[go_sem] theorem sz_121:szOf Tryz.prog 121=2:=by kernel_rfl
@[go_sem] theorem kn_121:knownT Tryz.prog 121=true:=by kernel_rfl
@[go_sem] theorem ag_121:aggOf Tryz.prog 121=true:=by kernel_rfl
@[go_sem] theorem fd_121_0:fieldOf Tryz.prog 121 0=some (0,3):=by kernel_rfl
@[go_sem] theorem fd_121_1:fieldOf Tryz.prog 121 1=some (1,3):=by kernel_rfl
@[go_sem] theorem ar_121:arrOf Tryz.prog 121=none:=by kernel_rfl
@[go_sem] theorem fk_121:fieldsKnown Tryz.prog 121=true:=by kernel_rfl
@[go_sem] theorem sg_121:sigOf Tryz.prog 121=some [.int,.int]:=by kernel_rfl
@[go_sem] theorem ze_121:zeros Tryz.prog 121=some [.sc (.int .i64 0),.sc (.int .i64 0)]:=by kernel_rfl
@[go_sem] theorem by_121:bytesOf Tryz.prog 121=16:=by kernel_rfl
@[go_sem] theorem sz_140:szOf Tryz.prog 140=3:=by kernel_rfl
@[go_sem] theorem kn_140:knownT Tryz.prog 140=true:=by kernel_rfl
@[go_sem] theorem ag_140:aggOf Tryz.prog 140=true:=by kernel_rfl
@[go_sem] theorem fd_140_0:fieldOf Tryz.prog 140 0=some (0,3):=by kernel_rfl
@[go_sem] theorem fd_140_1:fieldOf Tryz.prog 140 1=some (1,3):=by kernel_rfl
@[go_sem] theorem fd_140_2:fieldOf Tryz.prog 140 2=some (2,29):=by kernel_rfl
@[go_sem] theorem ar_140:arrOf Tryz.prog 140=none:=by kernel_rfl
@[go_sem] theorem fk_140:fieldsKnown Tryz.prog 140=true:=by kernel_rfl
@[go_sem] theorem ze_140:zeros Tryz.prog 140=some [.sc (.int .i64 0),.sc (.int .i64 0),.nil]:=by kernel_rfl
@[go_sem] theorem by_140:bytesOf Tryz.prog 140=40:=by kernel_rfl
@[go_sem] theorem kn_142:knownT Tryz.prog 142=true:=by kernel_rfl
@[go_sem] theorem ag_142:aggOf Tryz.prog 142=false:=by kernel_rfl
@[go_sem] theorem sz_145:szOf Tryz.prog 145=6:=by kernel_rfl
@[go_sem] theorem kn_145:knownT Tryz.prog 145=true:=by kernel_rfl
@[go_sem] theorem ag_145:aggOf Tryz.prog 145=true:=by kernel_rfl
@[go_sem] theorem fd_145_0:fieldOf Tryz.prog 145 0=some (0,3):=by kernel_rfl
@[go_sem] theorem ze_145:zeros Tryz.prog 145=some [.sc (.int .i64 0),.sc (.int .i64 0),.sc (.int .i64 0),.sc (.int .i64 0),.sc (.int .i64 0),.sc (.string ByteArray.empty)]:=by kernel_rfl
@[go_sem] theorem by_145:bytesOf Tryz.prog 145=56:=by kernel_rfl
@[go_sem] theorem sz_149:szOf Tryz.prog 149=3:=by kernel_rfl
@[go_sem] theorem kn_149:knownT Tryz.prog 149=true:=by kernel_rfl
@[go_sem] theorem ze_149:zeros Tryz.prog 149=some [.sc (.int .i64 0),.sc (.int .i64 0),.sc (.int .i64 0)]:=by kernel_rfl
@[go_sem] theorem by_149:bytesOf Tryz.prog 149=24:=by kernel_rfl
@[go_sem] theorem sz_163:szOf Tryz.prog 163=2:=by kernel_rfl
@[go_sem] theorem kn_163:knownT Tryz.prog 163=true:=by kernel_rfl
@[go_sem] theorem ag_163:aggOf Tryz.prog 163=true:=by kernel_rfl
@[go_sem] theorem fd_163_0:fieldOf Tryz.prog 163 0=some (0,3):=by kernel_rfl
@[go_sem] theorem fd_163_1:fieldOf Tryz.prog 163 1=some (1,51):=by kernel_rfl
@[go_sem] theorem ar_163:arrOf Tryz.prog 163=none:=by kernel_rfl
@[go_sem] theorem fk_163:fieldsKnown Tryz.prog 163=true:=by kernel_rfl
@[go_sem] theorem ze_163:zeros Tryz.prog 163=some [.sc (.int .i64 0),.sc (.int .i64 0)]:=by kernel_rfl
@[go_sem] theorem el_166:Go.PA.elemOf Tryz.prog 166=some 163:=by kernel_rfl
@[go_sem] theorem sz_173:szOf Tryz.prog 173=3:=by kernel_rfl
@[go_sem] theorem kn_173:knownT Tryz.prog 173=true:=by kernel_rfl
@[go_sem] theorem ag_173:aggOf Tryz.prog 173=true:=by kernel_rfl
@[go_sem] theorem fd_173_0:fieldOf Tryz.prog 173 0=some (0,3):=by kernel_rfl
@[go_sem] theorem fd_173_1:fieldOf Tryz.prog 173 1=some (1,3):=by kernel_rfl
@[go_sem] theorem fd_173_2:fieldOf Tryz.prog 173 2=some (2,3):=by kernel_rfl
@[go_sem] theorem ar_173:arrOf Tryz.prog 173=none:=by kernel_rfl
@[go_sem] theorem fk_173:fieldsKnown Tryz.prog 173=true:=by kernel_rfl
@[go_sem] theorem sg_173:sigOf Tryz.prog 173=some [.int,.int,.int]:=by kernel_rfl
@[go_sem] theorem ze_173:zeros Tryz.prog 173=some [.sc (.int .i64 0),.sc (.int .i64 0),.sc (.int .i64 0)]:=by kernel_rfl
@[go_sem] theorem by_173:bytesOf Tryz.prog 173=24:=by kernel_rfl
@[go_sem] theorem fd_183_0:fieldOf Tryz.prog 183 0=some (0,41):=by kernel_rfl
@[go_sem] theorem fd_183_1:fieldOf Tryz.prog 183 1=some (1,42):=by kernel_rfl
@[go_sem] theorem fd_183_2:fieldOf Tryz.prog 183 2=some (2,3):=by kernel_rfl
@[go_sem] theorem fd_183_3:fieldOf Tryz.prog 183 3=some (3,3):=by kernel_rfl
@[go_sem] theorem ar_183:arrOf Tryz.prog 183=none:=by kernel_rfl
@[go_sem] theorem fk_183:fieldsKnown Tryz.prog 183=true:=by kernel_rfl
@[go_sem] theorem ze_183:zeros Tryz.prog 183=some [.nil,.nil,.sc (.int .i64 0),.sc (.int .i64 0)]:=by kernel_rfl
@[go_sem] theorem fd_216_0:fieldOf Tryz.prog 216 0=some (0,3):=by kernel_rfl
@[go_sem] theorem fd_216_1:fieldOf Tryz.prog 216 1=some (1,3):=by kernel_rfl
@[go_sem] theorem fd_216_2:fieldOf Tryz.prog 216 2=some (2,3):=by kernel_rfl
@[go_sem] theorem fd_216_3:fieldOf Tryz.prog 216 3=some (3,25):=by kernel_rfl
@[go_sem] theorem ar_216:arrOf Tryz.prog 216=none:=by kernel_rfl
@[go_sem] theorem fk_216:fieldsKnown Tryz.prog 216=true:=by kernel_rfl
@[go_sem] theorem ze_216:zeros Tryz.prog 216=some [.sc (.int .i64 0),.sc (.int .i64 0),.sc (.int .i64 0),.nil]:=by kernel_rfl
@[go_sem] theorem mp_285:mapOf Tryz.prog 285=some (3,.int .i64,4):=by kernel_rfl
@[go_sem] theorem mi_285:IMap Tryz.prog 285 (.sc (.bool false)):=⟨_,_,mp_285,by kernel_rfl⟩
@[go_sem] theorem fd_288_0:fieldOf Tryz.prog 288 0=some (0,3):=by kernel_rfl
@[go_sem] theorem fd_288_1:fieldOf Tryz.prog 288 1=some (1,3):=by kernel_rfl
@[go_sem] theorem fd_288_2:fieldOf Tryz.prog 288 2=some (2,3):=by kernel_rfl
@[go_sem] theorem ar_288:arrOf Tryz.prog 288=none:=by kernel_rfl
@[go_sem] theorem fk_288:fieldsKnown Tryz.prog 288=true:=by kernel_rfl
@[go_sem] theorem sg_288:sigOf Tryz.prog 288=some [.int,.int,.int]:=by kernel_rfl
@[go_sem] theorem ze_288:zeros Tryz.prog 288=some [.sc (.int .i64 0),.sc (.int .i64 0),.sc (.int .i64 0)]:=by kernel_rfl
@[go_sem] theorem sz_303:szOf Tryz.prog 303=2:=by kernel_rfl
@[go_sem] theorem kn_303:knownT Tryz.prog 303=true:=by kernel_rfl
@[go_sem] theorem ag_303:aggOf Tryz.prog 303=true:=by kernel_rfl
@[go_sem] theorem fd_303_0:fieldOf Tryz.prog 303 0=some (0,3):=by kernel_rfl
@[go_sem] theorem fd_303_1:fieldOf Tryz.prog 303 1=some (1,3):=by kernel_rfl
@[go_sem] theorem ar_303:arrOf Tryz.prog 303=none:=by kernel_rfl
@[go_sem] theorem fk_303:fieldsKnown Tryz.prog 303=true:=by kernel_rfl
@[go_sem] theorem ze_303:zeros Tryz.prog 303=some [.sc (.int .i64 0),.sc (.int .i64 0)]:=by kernel_rfl
@[go_sem] theorem en_7:enterable Tryz.prog 7=true:=by kernel_rfl
@[go_sem] theorem en_8:enterable Tryz.prog 8=true:=by kernel_rfl
@[go_sem] theorem en_9:enterable Tryz.prog 9=true:=by kernel_rfl
@[go_sem] theorem en_10:enterable Tryz.prog 10=true:=by kernel_rfl
@[go_sem] theorem en_11:enterable Tryz.prog 11=true:=by kernel_rfl
@[go_sem] theorem en_12:enterable Tryz.prog 12=true:=by kernel_rfl
@[go_sem] theorem en_13:enterable Tryz.prog 13=true:=by kernel_rfl
@[go_sem] theorem en_14:enterable Tryz.prog 14=true:=by kernel_rfl
@[go_sem] theorem en_15:enterable Tryz.prog 15=true:=by kernel_rfl
@[go_sem] theorem en_20:enterable Tryz.prog 20=true:=by kernel_rfl
@[go_sem] theorem en_23:enterable Tryz.prog 23=true:=by kernel_rfl
@[go_sem] theorem en_24:enterable Tryz.prog 24=true:=by kernel_rfl
@[go_sem] theorem en_25:enterable Tryz.prog 25=true:=by kernel_rfl
@[go_sem] theorem en_26:enterable Tryz.prog 26=true:=by kernel_rfl
@[go_sem] theorem en_27:enterable Tryz.prog 27=true:=by kernel_rfl
@[go_sem] theorem en_28:enterable Tryz.prog 28=true:=by kernel_rfl
@[go_sem] theorem en_29:enterable Tryz.prog 29=true:=by kernel_rfl
@[go_sem] theorem en_30:enterable Tryz.prog 30=true:=by kernel_rfl
@[go_sem] theorem en_31:enterable Tryz.prog 31=true:=by kernel_rfl
@[go_sem] theorem en_32:enterable Tryz.prog 32=true:=by kernel_rfl
@[go_sem] theorem en_33:enterable Tryz.prog 33=true:=by kernel_rfl
@[go_sem] theorem en_34:enterable Tryz.prog 34=true:=by kernel_rfl
@[go_sem] theorem en_35:enterable Tryz.prog 35=true:=by kernel_rfl
@[go_sem] theorem en_36:enterable Tryz.prog 36=true:=by kernel_rfl
@[go_sem] theorem en_37:enterable Tryz.prog 37=true:=by kernel_rfl
@[go_sem] theorem en_38:enterable Tryz.prog 38=true:=by kernel_rfl
@[go_sem] theorem en_39:enterable Tryz.prog 39=true:=by kernel_rfl
@[go_sem] theorem en_40:enterable Tryz.prog 40=true:=by kernel_rfl
@[go_sem] theorem en_50:enterable Tryz.prog 50=true:=by kernel_rfl
@[go_sem] theorem en_51:enterable Tryz.prog 51=true:=by kernel_rfl
@[go_sem] theorem en_52:enterable Tryz.prog 52=true:=by kernel_rfl
@[go_sem] theorem en_55:enterable Tryz.prog 55=true:=by kernel_rfl
@[go_sem] theorem en_56:enterable Tryz.prog 56=true:=by kernel_rfl
@[go_sem] theorem en_57:enterable Tryz.prog 57=true:=by kernel_rfl
@[go_sem] theorem en_59:enterable Tryz.prog 59=true:=by kernel_rfl
@[go_sem] theorem en_60:enterable Tryz.prog 60=true:=by kernel_rfl
@[go_sem] theorem en_61:enterable Tryz.prog 61=true:=by kernel_rfl
@[go_sem] theorem en_62:enterable Tryz.prog 62=true:=by kernel_rfl
@[go_sem] theorem en_63:enterable Tryz.prog 63=true:=by kernel_rfl
@[go_sem] theorem en_64:enterable Tryz.prog 64=true:=by kernel_rfl
@[go_sem] theorem en_65:enterable Tryz.prog 65=true:=by kernel_rfl
@[go_sem] theorem en_66:enterable Tryz.prog 66=true:=by kernel_rfl
@[go_sem] theorem en_67:enterable Tryz.prog 67=true:=by kernel_rfl
@[go_sem] theorem en_68:enterable Tryz.prog 68=true:=by kernel_rfl
@[go_sem] theorem en_69:enterable Tryz.prog 69=true:=by kernel_rfl
@[go_sem] theorem en_70:enterable Tryz.prog 70=true:=by kernel_rfl
@[go_sem] theorem en_71:enterable Tryz.prog 71=true:=by kernel_rfl
@[go_sem] theorem en_72:enterable Tryz.prog 72=true:=by kernel_rfl
@[go_sem] theorem en_73:enterable Tryz.prog 73=true:=by kernel_rfl
@[go_sem] theorem en_74:enterable Tryz.prog 74=true:=by kernel_rfl
@[go_sem] theorem en_75:enterable Tryz.prog 75=true:=by kernel_rfl
@[go_sem] theorem en_76:enterable Tryz.prog 76=true:=by kernel_rfl
@[go_sem] theorem en_77:enterable Tryz.prog 77=true:=by kernel_rfl
@[go_sem] theorem en_78:enterable Tryz.prog 78=true:=by kernel_rfl
@[go_sem] theorem en_79:enterable Tryz.prog 79=true:=by kernel_rfl
@[go_sem] theorem en_80:enterable Tryz.prog 80=true:=by kernel_rfl
@[go_sem] theorem en_81:enterable Tryz.prog 81=true:=by kernel_rfl
@[go_sem] theorem en_82:enterable Tryz.prog 82=true:=by kernel_rfl
@[go_sem] theorem en_83:enterable Tryz.prog 83=true:=by kernel_rfl
@[go_sem] theorem en_84:enterable Tryz.prog 84=true:=by kernel_rfl
@[go_sem] theorem en_85:enterable Tryz.prog 85=true:=by kernel_rfl
@[go_sem] theorem en_86:enterable Tryz.prog 86=true:=by kernel_rfl
@[go_sem] theorem en_87:enterable Tryz.prog 87=true:=by kernel_rfl
@[go_sem] theorem en_88:enterable Tryz.prog 88=true:=by kernel_rfl
@[go_sem] theorem en_89:enterable Tryz.prog 89=true:=by kernel_rfl
@[go_sem] theorem en_90:enterable Tryz.prog 90=true:=by kernel_rfl
@[go_sem] theorem en_95:enterable Tryz.prog 95=true:=by kernel_rfl
@[go_sem] theorem en_100:enterable Tryz.prog 100=true:=by kernel_rfl
@[go_sem] theorem en_101:enterable Tryz.prog 101=true:=by kernel_rfl
@[go_sem] theorem en_102:enterable Tryz.prog 102=true:=by kernel_rfl
@[go_sem] theorem en_103:enterable Tryz.prog 103=true:=by kernel_rfl
@[go_sem] theorem en_104:enterable Tryz.prog 104=true:=by kernel_rfl
@[go_sem] theorem en_105:enterable Tryz.prog 105=true:=by kernel_rfl
@[go_sem] theorem en_106:enterable Tryz.prog 106=true:=by kernel_rfl
@[go_sem] theorem en_109:enterable Tryz.prog 109=true:=by kernel_rfl
@[go_sem] theorem en_110:enterable Tryz.prog 110=true:=by kernel_rfl
@[go_sem] theorem en_111:enterable Tryz.prog 111=true:=by kernel_rfl
@[go_sem] theorem en_112:enterable Tryz.prog 112=true:=by kernel_rfl
@[go_sem] theorem en_113:enterable Tryz.prog 113=true:=by kernel_rfl
@[go_sem] theorem en_114:enterable Tryz.prog 114=true:=by kernel_rfl
@[go_sem] theorem en_115:enterable Tryz.prog 115=true:=by kernel_rfl
@[go_sem] theorem en_116:enterable Tryz.prog 116=true:=by kernel_rfl
@[go_sem] theorem en_117:enterable Tryz.prog 117=true:=by kernel_rfl
@[go_sem] theorem en_118:enterable Tryz.prog 118=true:=by kernel_rfl
@[go_sem] theorem en_119:enterable Tryz.prog 119=true:=by kernel_rfl
@[go_sem] theorem en_120:enterable Tryz.prog 120=true:=by kernel_rfl
@[go_sem] theorem en_121:enterable Tryz.prog 121=true:=by kernel_rfl
@[go_sem] theorem en_122:enterable Tryz.prog 122=true:=by kernel_rfl
@[go_sem] theorem en_123:enterable Tryz.prog 123=true:=by kernel_rfl
@[go_sem] theorem en_124:enterable Tryz.prog 124=true:=by kernel_rfl
@[go_sem] theorem en_125:enterable Tryz.prog 125=true:=by kernel_rfl
@[go_sem] theorem en_126:enterable Tryz.prog 126=true:=by kernel_rfl
@[go_sem] theorem en_127:enterable Tryz.prog 127=true:=by kernel_rfl
@[go_sem] theorem en_128:enterable Tryz.prog 128=true:=by kernel_rfl
@[go_sem] theorem en_129:enterable Tryz.prog 129=true:=by kernel_rfl
@[go_sem] theorem en_130:enterable Tryz.prog 130=true:=by kernel_rfl
@[go_sem] theorem en_131:enterable Tryz.prog 131=true:=by kernel_rfl
@[go_sem] theorem en_132:enterable Tryz.prog 132=true:=by kernel_rfl
@[go_sem] theorem en_133:enterable Tryz.prog 133=true:=by kernel_rfl
@[go_sem] theorem en_134:enterable Tryz.prog 134=true:=by kernel_rfl
@[go_sem] theorem en_135:enterable Tryz.prog 135=true:=by kernel_rfl
@[go_sem] theorem en_136:enterable Tryz.prog 136=true:=by kernel_rfl
@[go_sem] theorem en_137:enterable Tryz.prog 137=true:=by kernel_rfl
@[go_sem] theorem en_138:enterable Tryz.prog 138=true:=by kernel_rfl
@[go_sem] theorem en_139:enterable Tryz.prog 139=true:=by kernel_rfl
@[go_sem] theorem en_140:enterable Tryz.prog 140=true:=by kernel_rfl
@[go_sem] theorem en_141:enterable Tryz.prog 141=true:=by kernel_rfl
@[go_sem] theorem en_142:enterable Tryz.prog 142=true:=by kernel_rfl
@[go_sem] theorem en_143:enterable Tryz.prog 143=true:=by kernel_rfl
@[go_sem] theorem en_162:enterable Tryz.prog 162=true:=by kernel_rfl
@[go_sem] theorem en_164:enterable Tryz.prog 164=true:=by kernel_rfl
@[go_sem] theorem en_165:enterable Tryz.prog 165=true:=by kernel_rfl
@[go_sem] theorem en_166:enterable Tryz.prog 166=true:=by kernel_rfl
@[go_sem] theorem en_168:enterable Tryz.prog 168=true:=by kernel_rfl
@[go_sem] theorem en_169:enterable Tryz.prog 169=true:=by kernel_rfl
@[go_sem] theorem en_170:enterable Tryz.prog 170=true:=by kernel_rfl
@[go_sem] theorem en_171:enterable Tryz.prog 171=true:=by kernel_rfl
@[go_sem] theorem en_172:enterable Tryz.prog 172=true:=by kernel_rfl
@[go_sem] theorem en_173:enterable Tryz.prog 173=true:=by kernel_rfl
@[go_sem] theorem en_174:enterable Tryz.prog 174=true:=by kernel_rfl
@[go_sem] theorem en_175:enterable Tryz.prog 175=true:=by kernel_rfl
@[go_sem] theorem en_176:enterable Tryz.prog 176=true:=by kernel_rfl
@[go_sem] theorem en_177:enterable Tryz.prog 177=true:=by kernel_rfl
@[go_sem] theorem en_178:enterable Tryz.prog 178=true:=by kernel_rfl
@[go_sem] theorem en_179:enterable Tryz.prog 179=true:=by kernel_rfl
@[go_sem] theorem en_182:enterable Tryz.prog 182=true:=by kernel_rfl
@[go_sem] theorem en_183:enterable Tryz.prog 183=true:=by kernel_rfl
@[go_sem] theorem en_184:enterable Tryz.prog 184=true:=by kernel_rfl
@[go_sem] theorem en_185:enterable Tryz.prog 185=true:=by kernel_rfl
@[go_sem] theorem en_186:enterable Tryz.prog 186=true:=by kernel_rfl
@[go_sem] theorem en_187:enterable Tryz.prog 187=true:=by kernel_rfl
@[go_sem] theorem en_188:enterable Tryz.prog 188=true:=by kernel_rfl
@[go_sem] theorem en_189:enterable Tryz.prog 189=true:=by kernel_rfl
@[go_sem] theorem en_190:enterable Tryz.prog 190=true:=by kernel_rfl
@[go_sem] theorem en_191:enterable Tryz.prog 191=true:=by kernel_rfl
@[go_sem] theorem en_192:enterable Tryz.prog 192=true:=by kernel_rfl
@[go_sem] theorem en_193:enterable Tryz.prog 193=true:=by kernel_rfl
@[go_sem] theorem en_194:enterable Tryz.prog 194=true:=by kernel_rfl
@[go_sem] theorem en_195:enterable Tryz.prog 195=true:=by kernel_rfl
@[go_sem] theorem en_196:enterable Tryz.prog 196=true:=by kernel_rfl
@[go_sem] theorem en_197:enterable Tryz.prog 197=true:=by kernel_rfl
@[go_sem] theorem en_198:enterable Tryz.prog 198=true:=by kernel_rfl
@[go_sem] theorem en_199:enterable Tryz.prog 199=true:=by kernel_rfl
@[go_sem] theorem en_200:enterable Tryz.prog 200=true:=by kernel_rfl
@[go_sem] theorem en_201:enterable Tryz.prog 201=true:=by kernel_rfl
@[go_sem] theorem en_202:enterable Tryz.prog 202=true:=by kernel_rfl
@[go_sem] theorem en_205:enterable Tryz.prog 205=true:=by kernel_rfl
@[go_sem] theorem en_229:enterable Tryz.prog 229=true:=by kernel_rfl
@[go_sem] theorem en_230:enterable Tryz.prog 230=true:=by kernel_rfl
@[go_sem] theorem en_231:enterable Tryz.prog 231=true:=by kernel_rfl
@[go_sem] theorem en_232:enterable Tryz.prog 232=true:=by kernel_rfl
@[go_sem] theorem en_233:enterable Tryz.prog 233=true:=by kernel_rfl
@[go_sem] theorem en_235:enterable Tryz.prog 235=true:=by kernel_rfl
@[go_sem] theorem en_236:enterable Tryz.prog 236=true:=by kernel_rfl
@[go_sem] theorem en_237:enterable Tryz.prog 237=true:=by kernel_rfl
@[go_sem] theorem en_238:enterable Tryz.prog 238=true:=by kernel_rfl
@[go_sem] theorem en_239:enterable Tryz.prog 239=true:=by kernel_rfl
@[go_sem] theorem en_241:enterable Tryz.prog 241=true:=by kernel_rfl
@[go_sem] theorem en_243:enterable Tryz.prog 243=true:=by kernel_rfl
@[go_sem] theorem en_244:enterable Tryz.prog 244=true:=by kernel_rfl
@[go_sem] theorem en_245:enterable Tryz.prog 245=true:=by kernel_rfl
@[go_sem] theorem en_246:enterable Tryz.prog 246=true:=by kernel_rfl
@[go_sem] theorem en_247:enterable Tryz.prog 247=true:=by kernel_rfl
@[go_sem] theorem en_248:enterable Tryz.prog 248=true:=by kernel_rfl
@[go_sem] theorem en_252:enterable Tryz.prog 252=true:=by kernel_rfl
@[go_sem] theorem en_253:enterable Tryz.prog 253=true:=by kernel_rfl
@[go_sem] theorem en_254:enterable Tryz.prog 254=true:=by kernel_rfl
@[go_sem] theorem en_255:enterable Tryz.prog 255=true:=by kernel_rfl
@[go_sem] theorem en_256:enterable Tryz.prog 256=true:=by kernel_rfl
@[go_sem] theorem en_257:enterable Tryz.prog 257=true:=by kernel_rfl
@[go_sem] theorem en_258:enterable Tryz.prog 258=true:=by kernel_rfl
@[go_sem] theorem en_259:enterable Tryz.prog 259=true:=by kernel_rfl
@[go_sem] theorem en_260:enterable Tryz.prog 260=true:=by kernel_rfl
@[go_sem] theorem en_261:enterable Tryz.prog 261=true:=by kernel_rfl
@[go_sem] theorem en_262:enterable Tryz.prog 262=true:=by kernel_rfl
@[go_sem] theorem en_279:enterable Tryz.prog 279=true:=by kernel_rfl
@[go_sem] theorem en_280:enterable Tryz.prog 280=true:=by kernel_rfl
@[go_sem] theorem en_281:enterable Tryz.prog 281=true:=by kernel_rfl
@[go_sem] theorem en_282:enterable Tryz.prog 282=true:=by kernel_rfl
@[go_sem] theorem en_283:enterable Tryz.prog 283=true:=by kernel_rfl
@[go_sem] theorem en_284:enterable Tryz.prog 284=true:=by kernel_rfl
@[go_sem] theorem en_285:enterable Tryz.prog 285=true:=by kernel_rfl
@[go_sem] theorem en_286:enterable Tryz.prog 286=true:=by kernel_rfl
@[go_sem] theorem en_287:enterable Tryz.prog 287=true:=by kernel_rfl
@[go_sem] theorem en_292:enterable Tryz.prog 292=true:=by kernel_rfl
@[go_sem] theorem en_303:enterable Tryz.prog 303=true:=by kernel_rfl
@[go_sem] theorem en_304:enterable Tryz.prog 304=true:=by kernel_rfl
@[go_sem] theorem en_305:enterable Tryz.prog 305=true:=by kernel_rfl
@[go_sem] theorem en_306:enterable Tryz.prog 306=true:=by kernel_rfl
@[go_sem] theorem en_309:enterable Tryz.prog 309=true:=by kernel_rfl
@[go_sem] theorem en_313:enterable Tryz.prog 313=true:=by kernel_rfl
open Go.RowKit
open Go.PA
abbrev sp (p:Nat):AV:= .sc (.pointer (some ⟨p,0,none⟩))
set_option maxHeartbeats 400000 in
theorem N_out (p:Nat) (A:Option Addr) (len c:Nat) (at_:Int) (n:Int) (w:World)
  (h0:w.cell? ⟨p,0,none⟩=some (.slice A len c)) (h1:w.cell? ⟨p,1,none⟩=some (.int .i64 at_))
  (hge:(len:Int)≤at_):
  Calls Tryz.prog 20 #[.pointer (some ⟨p,0,none⟩),.int .i64 n] w fun e w'=>e= .returned (.int .i64 0)∧∃k,w'=w.drewN k:=by
 have hge':decide ((len:Int)≤at_)=true:=by simpa using hge
 go_enter Tryz.func20,Tryz.ntmps20
 go_wp2
 go_quiet (fail)
 go_wp2
 go_ret
 exact⟨rfl,_,rfl⟩
set_option maxHeartbeats 400000 in
theorem N_low (p:Nat) (A:Option Addr) (len c:Nat) (at_:Int) (n:Int) (w:World)
  (h0:w.cell? ⟨p,0,none⟩=some (.slice A len c)) (h1:w.cell? ⟨p,1,none⟩=some (.int .i64 at_))
  (hlt:at_<len) (hn:n<1):
  Calls Tryz.prog 20 #[.pointer (some ⟨p,0,none⟩),.int .i64 n] w fun e w'=>e= .returned (.int .i64 0)∧∃k,w'=w.drewN k:=by
 have hge':decide ((len:Int)≤at_)=false:=by simpa using hlt
 have hn':decide (n<1)=true:=by simpa using hn
 go_enter Tryz.func20,Tryz.ntmps20
 go_wp2
 go_quiet (fail)
 go_wp2
 go_ret
 exact⟨rfl,_,rfl⟩
set_option maxHeartbeats 400000 in
theorem N_in (p:Nat) (ad:Addr) (len c:Nat) (at_:Nat) (n x:Int) (w:World)
  (h0:w.cell? ⟨p,0,none⟩=some (.slice (some ad) len c)) (h1:w.cell? ⟨p,1,none⟩=some (.int .i64 at_))
  (hf:w.frozen? ⟨p,1,none⟩=false)
  (hx:w.cell? (ad.add at_)=some (.int .i64 x)) (hp:ad.block≠p)
  (hlen:len≤900)
  (hlt:(at_:Int)<len) (hn:1≤n) (hn2:n≤4000000000000000000):
  Calls Tryz.prog 20 #[.pointer (some ⟨p,0,none⟩),.int .i64 n] w fun e w'=>e= .returned (.int .i64 ((x.tmod n+n)%n))∧∃j k,w'=((w.drewN j).setCell ⟨p,1,none⟩ (.int .i64 (at_+1))).drewN k:=by
 have hge':decide (len≤at_)=false:=by simp;omega
 have hn':decide (n<1)=false:=by simpa using hn
 have hw1:IntKind.i64.wrap (at_:Int)=at_:=by rw[IntKind.wrap_i64];omega
 have hx':∀nq:Nat,((w.drewN nq).setCell ⟨p,1,none⟩ (.int .i64 (at_+1))).cell? (ad.add at_)=some (.int .i64 x):=fun nq=>by
  have h:(⟨p,1,none⟩:Addr)≠ad.add at_:=fun e=>hp (by rw[←block_add ad at_,←e])
  exact (World.cell?_setCell_other _ _ _ _ h).trans hx
 have hn0:¬n=0:=by omega
 have hb: -n<x.tmod n∧x.tmod n<n:=by
  exact⟨Int.lt_tmod_of_pos x (by omega),Int.tmod_lt_of_pos x (by omega)⟩
 have hw2:IntKind.i64.wrap (x.tmod n+n)=x.tmod n+n:=by rw[IntKind.wrap_i64];omega
 go_enter Tryz.func20,Tryz.ntmps20
 go_wp2
 go_quiet (fail)
 go_wp2
 go_quiet (fail)
 go_wp2
 go_ret
 exact⟨rfl,_,_,rfl⟩
def NQ (n:Int) (x:AV):Prop:=∃m:Int,x=iv m∧(n<1→m=0)∧(1≤n→0≤m∧m<n)
theorem N_pf (p:Nat) (src:Option Nat) (n:Int) (hn2:n≤4000000000000000000):PFun Tryz.prog (some p) src 20 [sp p,iv n] (NQ n):=by
 intro w ok vs hok hinv hsz hrep
 have hv0:=hrep 0 (vs[0]'(by simp at hsz;omega)) (sp p) (Array.getElem?_eq_getElem _) rfl
 have hv1:=hrep 1 (vs[1]'(by simp at hsz;omega)) (iv n) (Array.getElem?_eq_getElem _) rfl
 have e0:=rep_sc hv0
 have e1:=rep_sc hv1
 have hvs:vs=#[.pointer (some ⟨p,0,none⟩),.int .i64 n]:=by
  apply Array.ext
  ·simpa using hsz
  ·intro i h1 h2
   match i with
   |0=>simpa using e0
   |1=>simpa using e1
   |i+2=>simp at h2;omega
 subst hvs
 obtain⟨cur,A,len,c,at_,ty,⟨hb,hc0,hc1⟩,ha,hl,hsrc⟩:=hinv.2 p rfl
 have h0:w.cell? ⟨p,0,none⟩=some (.slice A len c):=by rw[cell_of_row w p _ _ ty (0,0) hb];exact hc0
 have h1:w.cell? ⟨p,1,none⟩=some (.int .i64 at_):=by rw[cell_of_row w p _ _ ty (0,0) hb];exact hc1
 have hf:w.frozen? ⟨p,1,none⟩=false:=by simp[World.frozen?,hb]
 have quiet:∀{e:Ending} {w':World},(e= .returned (.int .i64 0)∧∃k,w'=w.drewN k)→(NQ n (iv 0))→∃(v:Value) (x:AV),e= .returned v∧NQ n x∧Imm x∧RepI w' (fun b=>ok b∨(w.heap.size≤b∧b<w'.heap.size)) v x∧w.grownBy w' (some p)∧Inv (some p) src ok w':=by
  rintro e w' ⟨rfl,k,rfl⟩ hq
  exact⟨_,iv 0,rfl,hq,.sc,.sc,⟨rfl,rfl,rfl,Nat.le_refl _,fun _ _ _=>rfl⟩,hinv⟩
 by_cases hge:(len:Int)≤at_
 ·refine (N_out p A len c at_ n w h0 h1 hge).mono fun e w' h=>quiet h ⟨0,rfl,fun _=>rfl,fun h=>⟨Int.le_refl _,by omega⟩⟩
 by_cases hn:n<1
 ·refine (N_low p A len c at_ n w h0 h1 (by omega) hn).mono fun e w' h=>quiet h ⟨0,rfl,fun _=>rfl,fun h=>⟨Int.le_refl _,by omega⟩⟩
 obtain⟨ad,x,rfl,hs,hp,hx,hxb⟩:=hsrc at_ (by omega)
 refine (N_in p ad len c at_ n x w h0 h1 hf hx hp hl (by omega) (by omega) hn2).mono ?_
 rintro e w' ⟨rfl,j,k,rfl⟩
 refine⟨_,iv ((x.tmod n+n)%n),rfl,⟨_,rfl,fun h=>by omega,fun h=>⟨Int.emod_nonneg _ (by omega),Int.emod_lt_of_pos _ (by omega)⟩⟩,.sc,.sc,⟨rfl,rfl,rfl,by simp[World.setCell,World.drewN],fun q hq hne=>?_⟩,⟨hinv.1.1,fun g hg=>⟨(hinv.1.2 g hg).1,?_⟩⟩,fun q hq=>?_⟩
 ·have:p≠q:=fun e=>hne (by rw[e])
  simp[World.setCell,World.drewN,Array.getElem?_modify,this]
 ·obtain⟨t,v,hc⟩:=(hinv.1.2 g hg).2
  have:p≠g:=fun e=>(hok g (hinv.1.2 g hg).1).2 (by rw[e])
  exact⟨t,v,(World.cell?_of_block (w:=w) (by simp[World.setCell,World.drewN,Array.getElem?_modify,this])).trans hc⟩
 ·cases hq
  have hlt:1<cur.size:=(Array.getElem?_eq_some_iff.1 hc1).1
  refine⟨cur.setIfInBounds 1 (.int .i64 (at_+1)),some ad,len,c,at_+1,ty,⟨?_,?_,?_⟩,by omega,hl,fun i hi=>?_⟩
  ·simp[World.setCell,World.drewN,Array.getElem?_modify,hb]
  ·rw[Array.getElem?_setIfInBounds_ne (by omega)];exact hc0
  ·rw[Array.getElem?_setIfInBounds];simp[hlt]
  ·obtain⟨ad',x',h1',h2',h3',h4',h5'⟩:=hsrc i hi
   cases h1'
   refine⟨ad,x',rfl,hs,hp,?_,h5'⟩
   have h:(⟨p,1,none⟩:Addr)≠ad.add i:=fun e=>hp (by rw[←block_add ad i,←e])
   exact (World.cell?_setCell_other _ _ _ _ h).trans h4'
open Go.PA
open Go.RowKit
def intsL (xs:List Int):AV:= .list 1 (xs.map fun x=>[iv x])
def Small (xs:List Int):Prop:=∀x,x∈xs→ -9223372036854775808≤x∧x≤9223372036854775807
theorem new_pf (xs:List Int) (hl:xs.length≤9223372036854775807):POwn Tryz.prog none none 7 [intsL xs] 85 2 (·=[[intsL (xs.take 900),iv 0]]):=by
 refine pown_intro Tryz.func7 rfl (by simp[Tryz.f7]) (by kernel_rfl) ?_
 intro E hP hr hs hW hN
 simp[go_sem,hP,intsL,amin,aminFrom,asliceOp,bound,aslice]
 have c:0≤min (xs.length:Int) 900∧min (xs.length:Int) 900≤xs.length:=⟨by omega,by omega⟩
 have m:(min (xs.length:Int) 900).toNat=min 900 xs.length:=by omega
 rw[if_pos c,m]
 simp[go_sem,hP,AOwn,Tryz.f7]
 intro e he a ha
 have:=List.mem_of_mem_take he
 simp at this
 obtain⟨x,_,rfl⟩:=this
 simp at ha
 subst ha
 exact .sc
theorem range_pf (p:Nat) (src:Option Nat) (lo hi:Int) (h1: -1000000000000000000≤lo∧lo≤1000000000000000000) (h2: -1000000000000000000≤hi∧hi≤1000000000000000000):
  PFun Tryz.prog (some p) src 59 [sp p,iv lo,iv hi] (fun x=>∃m:Int,x=iv m∧(lo≤hi→lo≤m∧m≤hi)∧(hi<lo→m=lo)):=by
 refine pfun_intro Tryz.func59 rfl (by simp[Tryz.f59]) (by kernel_rfl) ?_
 intro E hP hr hs hW hN
 have w1:=wrap_in (hi-lo) (by omega)
 have w2:=wrap_in (hi-lo+1) (by omega)
 simp[go_sem, *]
 refine callB_flat (hr▸hs▸N_pf p src (hi-lo+1) (by omega)) hP en_20 (by simp[go_sem]) ?_ ?_ ?_
 ·by_cases h:hi-lo+1<1
  ·exact⟨iv 0,0,rfl,fun _=>rfl,fun h'=>by omega⟩
  ·exact⟨iv 0,0,rfl,fun _=>rfl,fun h'=>by omega⟩
 ·rintro r ⟨m,rfl,_⟩;exact .sc
 ·rintro r ⟨m,rfl,a1,a2⟩
  have w3:=wrap_in (lo+m) (by omega)
  simp[go_sem, *,Tryz.f59]
  omega
theorem pick_pf (p:Nat) (src:Option Nat) (xs:List Int) (h:1≤xs.length∧xs.length≤1000):
  PFun Tryz.prog (some p) src 9 [sp p,intsL xs] (fun x=>∃m:Int,x=iv m∧m∈xs):=by
 refine pfun_intro Tryz.func9 rfl (by simp[Tryz.f9]) (by kernel_rfl) ?_
 intro E hP hr hs hW hN
 simp[go_sem,hP,intsL]
 refine callB_flat (hr▸hs▸N_pf p src xs.length (by omega)) hP en_20 (by simp[go_sem]) ?_ ?_ ?_
 ·exact⟨iv 0,0,rfl,fun _=>rfl,fun h'=>by omega⟩
 ·rintro r ⟨m,rfl,_⟩;exact .sc
 ·rintro r ⟨m,rfl,a1,a2⟩
  obtain⟨b1,b2⟩:=a2 (by omega)
  have b3:m.toNat<xs.length:=by omega
  simp[go_sem, *,Tryz.f9]
theorem NQ_ex (n:Int):∃r,NQ n r:=⟨iv 0,0,rfl,fun _=>rfl,fun h=>by omega⟩
theorem NQ_flat (n:Int):∀r,NQ n r→Flat r:=by
 rintro r ⟨m,rfl,_⟩;exact .sc
end Go.Proofs.YtaenimpfelpafaaGreatDoor
set_option maxRecDepth 100000
namespace Go.Proofs.YtaenimpfelpafaaGreatDoor
open Go.RowKit Go.WideShapes Go.ChangeShapes
open Go.PA (RepI PFun AV Rep)
section
variable {H:Type} {enc:TypeId×Value→H} {P:Program}
theorem post_of_below {f:Func} {s:ChangeSpec} {apart fresh handsOn again:Bool} {W W':World} {args:Array Value} {v:Value} {ds gs:List (DataW H)} {before pa pv:List MemPlace}
  (hW:DataW.Whole enc P f.params.toList s.vars apart W args.toList ds gs before)
  (hres:∀(b:Nat) (sp:Nat→Bool) (hd:Bool),DataW.TrodAll enc P W' b sp hd f.resultTypes.toList (v.resultList f.resultTypes.size) (s.fn H (ds++gs)).results [])
  (hargs:∀sp:Nat→Bool,(∀p∈before,sp p.block=true)→DataW.TrodAll enc P W' 0 sp true f.params.toList args.toList (s.fn H (ds++gs)).args pa)
  (hvars:∀sp:Nat→Bool,(∀p∈before,sp p.block=true)→DataW.TrodVars enc P W' sp s.vars (s.fn H (ds++gs)).vars pv)
  (hps:before=pa++pv) (hb:Below W.heap.size W W')
  (hok:∀(j:Nat) (t:TypeId) (r:Value),f.resultTypes[j]?=some t→(v.resultList f.resultTypes.size)[j]?=some r→Value.okWide P W' .any 0 t r):
  s.post enc P f apart fresh handsOn again W args v W':=by
 have hlt:∀p∈before,p.block<W.heap.size:=fun p hp=>hW.lt p hp
 have hold:∀p∈before,(fun b=>decide (b<W.heap.size)) p.block=true:=fun p hp=>by simpa using hlt p hp
 refine⟨ds,gs,before,[],pa,pv,hW,hres _ _ _,hargs _ hold,hvars _ hold,World.keptBut_mono (fun p hp=>⟨hp,?_⟩) (hb.frame (·∈before)),fun _=>?_⟩
 ·rw[hps,List.mem_append]at hp
  exact Or.inr hp
 ·obtain⟨_,_,_,_,_,hz,hn⟩:=hW
  refine⟨hok,_,_,([]++pa)++pv,⟨[]++pa,pv,trodAll_append (hargs _ (fun _ _=>rfl)) (hres _ _ _),hvars _ (fun _ _=>rfl),rfl,?_,?_⟩,?_⟩
  ·intro b off hp
   have hin:MemPlace.cell b off∈before:=by rw[hps];simpa using hp
   rw[hb.frozen (hlt _ hin)]
   exact hz b off hin
  ·intro ha
   have:=hn ha
   rw[hps]at this
   simpa using this
  ·intro p hp _
   rw[hps]
   simpa using hp
end
theorem Tryz.own:ownKnob Tryz.prog.godebug=none:=by kernel_rfl
theorem Tryz.laidOut:laidOutB Tryz.prog=true:=by kernel_rfl
end Go.Proofs.YtaenimpfelpafaaGreatDoor
namespace Go.PA
open Go.RowKit Go.WideShapes Go.ChangeShapes
mutual
inductive Sh where
 |int (k:IntKind)
 |bool
 |str
 |slice (e:Sh)
 |strct (fs:Fs)
inductive Fs where
 |nil
 |cons (s:Sh) (fs:Fs)
end
mutual
def Sh.size:Sh→Nat
 | .int _=>1
 | .bool=>1
 | .str=>1
 | .slice _=>1
 | .strct fs=>fs.size
def Fs.size:Fs→Nat
 | .nil=>0
 | .cons s fs=>s.size+fs.size
end
mutual
def Sh.ok (P:Program):Sh→TypeId→Bool
 | .int k,t=>decide (P.cellsOf t=1)&&(match P.underlying t with|some (.int k')=>decide (k'=k)|_=>false)
 | .bool,t=>decide (P.cellsOf t=1)&&(match P.underlying t with|some .bool=>true|_=>false)
 | .str,t=>decide (P.cellsOf t=1)&&(match P.underlying t with|some .string=>true|_=>false)
 | .slice e,t=>decide (P.cellsOf t=1)&&decide (0<e.size)&&(match P.underlying t with|some (.slice te)=>e.ok P te|_=>false)
 | .strct fs,t=>decide (P.cellsOf t=fs.size)&&(match P.underlying t with|some (.struct fields)=>fs.ok P fields.toList 0|_=>false)
def Fs.ok (P:Program):Fs→List Field→Nat→Bool
 | .nil,[],_=>true
 | .cons s fs,f::l,off=>s.ok P f.type&&decide (f.offset=off)&&fs.ok P l (off+s.size)
 |_,_,_=>false
end
mutual
def Sh.V:Sh→List AV→Prop
 | .int k,as0=>∃n,as0=[.sc (.int k n)]∧(Lit.int k n).wf=true
 | .bool,as0=>∃b,as0=[.sc (.bool b)]
 | .str,as0=>∃s:ByteArray,as0=[.sc (.string s)]∧s.size≤maxLen
 | .slice e,as0=>∃es:List (List AV),as0=[.list e.size es]∧es.length≤maxLen∧∀x,x∈es→e.V x
 | .strct fs,as0=>fs.V as0
def Fs.V:Fs→List AV→Prop
 | .nil,as0=>as0=[]
 | .cons s fs,as0=>∃x y,as0=x++y∧s.V x∧fs.V y
end
theorem Sh.ok_size (P:Program) (s:Sh) (t:TypeId) (h:s.ok P t=true):P.cellsOf t=s.size:=by
 cases s<;>simp only[Sh.ok,Bool.and_eq_true,decide_eq_true_eq]at h<;>simp only[Sh.size]<;>first|exact h.1|exact h.1.1
def Reps (w:World) (cs:List Value) (as0:List AV):Prop:=∀(i:Nat) (c:Value) (a:AV),cs[i]?=some c→as0[i]?=some a→RepI w (fun b=>b<w.heap.size) c a∧c.oneCell'=true
theorem reps_one {w:World} {c:Value} {a:AV} (h:RepI w (fun b=>b<w.heap.size) c a) (h1:c.oneCell'=true):Reps w [c] [a]:=fun i c' a' hc ha=>by
 rcases i with _|i
 ·simp at hc ha
  subst hc;subst ha
  exact⟨h,h1⟩
 ·simp at hc
theorem cell_in {w:World} {a:Addr} {v:Value} (h:w.cell? a=some v):a.block<w.heap.size:=by
 simp only[World.cell?]at h
 split at h
 ·rename_i hb
  exact (Array.getElem?_eq_some_iff.1 hb).1
 ·cases h
theorem list_choice {α:Type} (n:Nat) (p:Nat→α→Prop) (h:∀i,i<n→∃a,p i a):∃l:List α,l.length=n∧∀i a,l[i]?=some a→p i a:=by
 induction n with
 |zero=>exact⟨[],rfl,by simp⟩
 |succ n ih=>
  obtain⟨l,h1,h2⟩:=ih fun i hi=>h i (by omega)
  obtain⟨a,ha⟩:=h n (by omega)
  refine⟨l++[a],by simp[h1],fun i b hb=>?_⟩
  by_cases hi:i<n
  ·rw[List.getElem?_append_left (by omega)]at hb
   exact h2 i b hb
  ·have:i=n:=by
    have:=(gsI hb)
    simp at this
    omega
   subst this
   rw[List.getElem?_append_right (by omega)]at hb
   simp[h1]at hb
   subst hb
   exact ha
section
variable {H:Type} {enc:TypeId×Value→H} {P:Program} {w:World} {base:Nat} {spare:Nat→Bool} {held:Bool}
mutual
theorem Sh.rep:∀(s:Sh) (t:TypeId) (fuel:Nat) (cs:List Value) (x:DataW H×List MemPlace),s.ok P t=true→DataW.trod enc P w base spare held fuel t cs=some x→
  ∃as0,s.V as0∧as0.length=s.size∧cs.length=s.size∧Reps w cs as0
 | .int k,t,fuel,cs,x,hs,h=>by
  simp only[Sh.ok,Bool.and_eq_true,decide_eq_true_eq]at hs
  obtain⟨_,hs⟩:=hs
  split at hs
  ·rename_i k' hu
   have:=of_decide_eq_true hs
   subst this
   obtain⟨n,rfl,_,hw⟩:=DataW.trod_int hu h
   exact⟨[.sc (.int k' n)],⟨n,rfl,hw⟩,rfl,rfl,reps_one .sc rfl⟩
  ·cases hs
 | .bool,t,fuel,cs,x,hs,h=>by
  simp only[Sh.ok,Bool.and_eq_true,decide_eq_true_eq]at hs
  obtain⟨_,hs⟩:=hs
  split at hs
  ·rename_i hu
   obtain⟨b,rfl,_⟩:=DataW.trod_bool hu h
   exact⟨[.sc (.bool b)],⟨b,rfl⟩,rfl,rfl,reps_one .sc rfl⟩
  ·cases hs
 | .str,t,fuel,cs,x,hs,h=>by
  simp only[Sh.ok,Bool.and_eq_true,decide_eq_true_eq]at hs
  obtain⟨_,hs⟩:=hs
  split at hs
  ·rename_i hu
   obtain⟨b,rfl,_,hl⟩:=DataW.trod_string hu h
   exact⟨[.sc (.string b)],⟨b,rfl,hl⟩,rfl,rfl,reps_one .sc rfl⟩
  ·cases hs
 | .slice e,t,fuel,cs,x,hs,h=>by
  simp only[Sh.ok,Bool.and_eq_true,decide_eq_true_eq]at hs
  obtain⟨⟨_,hpos⟩,hs⟩:=hs
  split at hs
  ·rename_i te hu
   have hsz:=Sh.ok_size P e te hs
   rcases DataW.trod_slice hu h with⟨rfl,_⟩|⟨a,len,cap,elems,rest,n,_,rfl,_,hb,hl,hm,hlen,hel,_,_⟩
   ·exact⟨[.list e.size []],⟨[],rfl,by simp,by simp⟩,rfl,rfl,reps_one .listNil rfl⟩
   rcases Nat.eq_zero_or_pos len with h0|h0
   ·subst h0
    exact⟨[.list e.size []],⟨[],rfl,by simp,by simp⟩,rfl,rfl,reps_one .listNil rfl⟩
   obtain⟨es,hes,hp⟩:=list_choice len (fun i (as0:List AV)=>∃cs',w.cells? base (a.add (i*e.size)) e.size=some cs'∧e.V as0∧as0.length=e.size∧Reps w cs' as0) fun i hi=>by
    have hi':i<elems.length:=by omega
    have:=hel i hi
    rw[List.getElem?_eq_getElem hi',Option.bind_eq_some_iff,hsz]at this
    obtain⟨cs',h1,h2⟩:=this
    obtain⟨as0,h3,h4,h5,h6⟩:=Sh.rep e te n cs' _ hs h2
    exact⟨as0,cs',h1,h3,h4,h6⟩
   have cells:∀(i:Nat) (x:List AV) (j:Nat) (b:AV),es[i]?=some x→x[j]?=some b→∃c,w.cell? (a.add (i*e.size+j))=some c∧RepI w (fun b=>b<w.heap.size) c b∧c.oneCell'=true:=fun i x j b hx hj=>by
    obtain⟨cs',h1,h3,h4,h6⟩:=hp i x hx
    obtain⟨_,hl',hc⟩:=World.cells?_some h1
    have hj':=(gsI hj)
    have hcj:cs'[j]?=some (cs'[j]'(by omega)):=List.getElem?_eq_getElem (by omega)
    obtain⟨r1,r2⟩:=h6 j _ b hcj hj
    refine⟨_,?_,r1,r2⟩
    have:=hc j (by omega)
    rw[add_add,hcj]at this
    exact this
   have hblk:a.block<w.heap.size:=by
    obtain⟨cs',h1,h3,h4,h6⟩:=hp 0 (es[0]'(by omega)) (List.getElem?_eq_getElem (by omega))
    obtain⟨_,hl',hc⟩:=World.cells?_some h1
    have:=hc 0 hpos
    rw[List.getElem?_eq_getElem (by omega)]at this
    have:=cell_in this
    rw[block_add,block_add]at this
    exact this
   refine⟨[.list e.size es],⟨es,rfl,by omega,fun x hx=>?_⟩,rfl,rfl,reps_one ?_ rfl⟩
   ·obtain⟨i,hi⟩:=List.getElem?_of_mem hx
    obtain⟨_,_,h3,_⟩:=hp i x hi
    exact h3
   ·refine .list (fun i j=>(w.cell? (a.add (i*e.size+j))).getD undef) hes hl hblk (fun x hx=>?_) ?_ ?_ ?_
    ·obtain⟨i,hi⟩:=List.getElem?_of_mem hx
     obtain⟨_,_,_,h4,_⟩:=hp i x hi
     exact h4
    ·intro i x j b hx hj
     obtain⟨c,h1,_⟩:=cells i x j b hx hj
     rw[h1];rfl
    ·intro i x j b hx hj
     obtain⟨c,h1,_,h3⟩:=cells i x j b hx hj
     rw[h1];exact h3
    ·intro i x j b hx hj
     obtain⟨c,h1,h2,_⟩:=cells i x j b hx hj
     rw[h1];exact h2
  ·cases hs
 | .strct fs,t,fuel,cs,x,hs,h=>by
  simp only[Sh.ok,Bool.and_eq_true,decide_eq_true_eq]at hs
  obtain⟨hc,hs⟩:=hs
  split at hs
  ·rename_i fields hu
   obtain⟨xs,n,_,_,hl,hxl,hf⟩:=DataW.trod_struct hu h
   obtain⟨as0,h1,h2,h3⟩:=Fs.rep fs fields.toList 0 n cs xs hs (by simp[hxl]) (by rw[hl,hc];simp) fun i f hi=>hf i f (by simpa using hi)
   refine⟨as0,h1,h2,by rw[hl,hc];rfl,fun i c a hci ha=>h3 i c a (by simpa using hci) ha⟩
  ·cases hs
theorem Fs.rep:∀(fs:Fs) (fields:List Field) (off n:Nat) (cs:List Value) (xs:List (DataW H×List MemPlace)),fs.ok P fields off=true→xs.length=fields.length→cs.length=off+fs.size→
  (∀(i:Nat) (f:Field),fields[i]?=some f→DataW.trod enc P w base spare held n f.type ((cs.drop f.offset).take (P.cellsOf f.type))=xs[i]?)→
  ∃as0,fs.V as0∧as0.length=fs.size∧∀(i:Nat) (c:Value) (a:AV),cs[off+i]?=some c→as0[i]?=some a→RepI w (fun b=>b<w.heap.size) c a∧c.oneCell'=true
 | .nil,fields,off,n,cs,xs,hs,hxl,hcl,hf=>⟨[],rfl,rfl,fun i c a hc ha=>by simp at ha⟩
 | .cons s fs,[],off,n,cs,xs,hs,hxl,hcl,hf=>by simp[Fs.ok]at hs
 | .cons s fs,f::l,off,n,cs,[],hs,hxl,hcl,hf=>by simp at hxl
 | .cons s fs,f::l,off,n,cs,y::xs,hs,hxl,hcl,hf=>by
  simp only[Fs.ok,Bool.and_eq_true,decide_eq_true_eq]at hs
  obtain⟨⟨h1,h2⟩,h3⟩:=hs
  have hsz:=Sh.ok_size P s f.type h1
  have h0:=hf 0 f rfl
  rw[h2,hsz]at h0
  simp only[List.getElem?_cons_zero]at h0
  obtain⟨as0,a1,a2,a3,a4⟩:=Sh.rep s f.type n _ _ h1 h0
  simp only[Fs.size]at hcl
  obtain⟨bs,b1,b2,b3⟩:=Fs.rep fs l (off+s.size) n cs xs h3 (by simpa using hxl) (by omega) fun i g hi=>by
   have:=hf (i+1) g (by simpa using hi)
   simpa using this
  refine⟨as0++bs,⟨as0,bs,rfl,a1,b1⟩,by simp[a2,b2,Fs.size],fun i c a hc ha=>?_⟩
  by_cases hi:i<s.size
  ·rw[List.getElem?_append_left (by omega)]at ha
   refine a4 i c a ?_ ha
   rw[List.getElem?_take,if_pos hi,List.getElem?_drop]
   exact hc
  ·rw[List.getElem?_append_right (by omega)]at ha
   refine b3 (i-s.size) c a ?_ (by rw[←a2];exact ha)
   rw[←hc]
   congr 1
   omega
end
def Sh.A (s:Sh) (a:AV):Prop:=match s with
 | .strct fs=>∃cs,a= .agg cs∧fs.V cs
 |s=>s.V [a]
theorem arg_rep {s:Sh} {t:TypeId} {r:Reach} {b0:Nat} {v:Value} {d:DataW H} {ps:List MemPlace} (hs:s.ok P t=true) (hval:Value.okWide P w r b0 t v) (h:DataW.Trod enc P w base spare held t v d ps):
  ∃a,s.A a∧RepI w (fun b=>b<w.heap.size) v a:=by
 have h':=h
 obtain⟨fuel,hf⟩:=h
 obtain⟨as0,h1,h2,h3,h4⟩:=Sh.rep s t fuel _ _ hs hf
 have scal:s.size=1→v.cells.toList=[v]→∃a,s.V [a]∧RepI w (fun b=>b<w.heap.size) v a:=fun e hv=>by
  rw[e]at h2
  match as0,h2 with
  |[a],_=>
   rw[hv]at h4
   exact⟨a,h1,(h4 0 _ _ rfl rfl).1⟩
 cases s with
 |strct fs=>
  unfold Value.okWide at hval
  simp only[Sh.ok,Bool.and_eq_true,decide_eq_true_eq]at hs
  obtain⟨_,hs⟩:=hs
  split at hs
  ·rename_i fields hu
   rw[hu]at hval
   obtain⟨cs,rfl,_⟩:=hval
   refine⟨.agg as0,⟨as0,rfl,h1⟩,.agg ?_ fun i c a hc ha=>(h4 i c a ?_ ha).1⟩
   ·simp only[Value.cells,Array.length_toList]at h3
    omega
   ·simpa[Value.cells]using hc
  ·cases hs
 |int k=>
  simp only[Sh.ok,Bool.and_eq_true,decide_eq_true_eq]at hs
  obtain⟨_,hs⟩:=hs
  split at hs
  ·rename_i hu
   obtain⟨m,rfl,_⟩:=open_int hu hval h'
   exact scal rfl rfl
  ·cases hs
 |bool=>
  simp only[Sh.ok,Bool.and_eq_true,decide_eq_true_eq]at hs
  obtain⟨_,hs⟩:=hs
  split at hs
  ·rename_i hu
   obtain⟨m,rfl,_⟩:=open_bool hu hval h'
   exact scal rfl rfl
  ·cases hs
 |str=>
  simp only[Sh.ok,Bool.and_eq_true,decide_eq_true_eq]at hs
  obtain⟨_,hs⟩:=hs
  split at hs
  ·rename_i hu
   obtain⟨s,hv,_⟩:=DataW.trod_string hu hf
   refine scal rfl ?_
   obtain⟨s',rfl⟩:=okWide_string hu hval
   rfl
  ·cases hs
 |slice e=>
  simp only[Sh.ok,Bool.and_eq_true,decide_eq_true_eq]at hs
  obtain⟨_,hs⟩:=hs
  split at hs
  ·rename_i te hu
   obtain⟨A,n,c,rfl⟩:=okWide_slice hu hval
   exact scal rfl rfl
  ·cases hs
def ShsA:List Sh→List AV→Prop
 |[],[]=>True
 |s::ss,a::as0=>s.A a∧ShsA ss as0
 |_,_=>False
theorem shsA_cons {s:Sh} {ss:List Sh} {l:List AV} (h:ShsA (s::ss) l):∃a l',l=a::l'∧s.A a∧ShsA ss l':=by
 cases l with
 |nil=>exact h.elim
 |cons a l=>exact⟨a,l,rfl,h.1,h.2⟩
theorem shsA_nil {l:List AV} (h:ShsA [] l):l=[]:=by
 cases l with
 |nil=>rfl
 |cons a l=>exact h.elim
def ShsOk (P:Program):List Sh→List TypeId→Bool
 |[],[]=>true
 |s::ss,t::ts=>s.ok P t&&(P.readableRec t&&decide (t<P.types.size))&&ShsOk P ss ts
 |_,_=>false
theorem args_rep {r:Reach} {b0:Nat}:∀(ss:List Sh) (ts:List TypeId) (vs:List Value) (ds:List (DataW H)) (ps:List MemPlace),ShsOk P ss ts=true→(∀(j:Nat) (t:TypeId) (v:Value),ts[j]?=some t→vs[j]?=some v→Value.okWide P w r b0 t v)→
  DataW.TrodAll enc P w base spare held ts vs ds ps→∃as0,ShsA ss as0∧as0.length=vs.length∧∀(i:Nat) (v:Value) (a:AV),vs[i]?=some v→as0[i]?=some a→RepI w (fun b=>b<w.heap.size) v a
 |[],[],vs,ds,ps,_,_,h=>by
  obtain⟨rfl,_,_⟩:=trodAll_nil h
  exact⟨[],trivial,rfl,fun i v a hv=>by simp at hv⟩
 |[],t::ts,vs,ds,ps,hs,_,h=>by simp[ShsOk]at hs
 |s::ss,[],vs,ds,ps,hs,_,h=>by simp[ShsOk]at hs
 |s::ss,t::ts,vs,ds,ps,hs,hval,h=>by
  simp only[ShsOk,Bool.and_eq_true,decide_eq_true_eq]at hs
  match vs,ds,h with
  |v::vs,d::ds,⟨p,q,h1,h2,_⟩=>
   obtain⟨a,a1,a2⟩:=arg_rep hs.1.1 (hval 0 t v rfl rfl) h1
   obtain⟨as0,b1,b2,b3⟩:=args_rep ss ts vs ds q hs.2 (fun j t v ht hv=>hval (j+1) t v (by simpa using ht) (by simpa using hv)) h2
   refine⟨a::as0,⟨a1,b1⟩,by simp[b2],fun i v' a' hv ha=>?_⟩
   rcases i with _|i
   ·simp at hv ha
    subst hv;subst ha
    exact a2
   ·exact b3 i v' a' (by simpa using hv) (by simpa using ha)
theorem trodAll_stays (hl:laidOutB P=true) {W W':World} {sp:Nat→Bool}:∀(ss:List Sh) (ts:List TypeId) (vs:List Value) (ds:List (DataW H)) (ps:List MemPlace),ShsOk P ss ts=true→DataW.TrodAll enc P W 0 (fun _=>true) true ts vs ds ps→
  (∀p∈ps,W.sameAt W' p)→(∀p∈ps,sp p.block=true)→DataW.TrodAll enc P W' 0 sp true ts vs ds ps
 |[],[],vs,ds,ps,_,h,_,_=>by
  obtain⟨rfl,rfl,rfl⟩:=trodAll_nil h
  exact rfl
 |[],t::ts,vs,ds,ps,hs,h,_,_=>by simp[ShsOk]at hs
 |s::ss,[],vs,ds,ps,hs,h,_,_=>by simp[ShsOk]at hs
 |s::ss,t::ts,vs,ds,ps,hs,h,hsame,hsp=>by
  simp only[ShsOk,Bool.and_eq_true,decide_eq_true_eq]at hs
  match vs,ds,h with
  |v::vs,d::ds,⟨p,q,h1,h2,hp⟩=>
   subst hp
   exact⟨p,q,WideElems.Trod_stays hl hs.1.2.1 hs.1.2.2 h1 (fun x hx=>hsame x (by simp[hx])) (fun x hx=>hsp x (by simp[hx])),
    trodAll_stays hl ss ts vs ds q hs.2 h2 (fun x hx=>hsame x (by simp[hx])) (fun x hx=>hsp x (by simp[hx])),rfl⟩
theorem trodAll_dlen:∀(ts:List TypeId) (vs:List Value) (ds:List (DataW H)) (ps:List MemPlace),DataW.TrodAll enc P w base spare held ts vs ds ps→ds.length=ts.length
 |[],vs,ds,ps,h=>by
  obtain⟨_,rfl,_⟩:=trodAll_nil h
  rfl
 |t::ts,vs,ds,ps,h=>by
  match vs,ds,h with
  |v::vs,d::ds,⟨p,q,_,h2,_⟩=>simp[trodAll_dlen ts vs ds q h2]
theorem list_len1 {α:Type} {l:List α} (h:l.length=1):∃a0,l=[a0]:=by
 match l,h with
 |[a0],_=>exact⟨a0,rfl⟩
end
end Go.PA
namespace Go.Proofs.YtaenimpfelpafaaGreatDoor
open Go.PA
open Go.RowKit
def fits (n:Int):Prop:= -9223372036854775808≤n∧n≤9223372036854775807
theorem fits_wf {n:Int} (h:(Lit.int .i64 n).wf=true):fits n:=by
 simp only[Lit.wf,Bool.and_eq_true,decide_eq_true_eq]at h
 exact h
theorem of_int (as0:List AV) (h:(Sh.int .i64).V as0):∃x:Int,as0=encI x∧fits x:=by
 obtain⟨n,rfl,h⟩:=h
 exact⟨n,rfl,fits_wf h⟩
theorem of_list {α:Type} {enc:α→List AV} {wf:α→Prop} {s:Sh} (h:∀as0,s.V as0→∃x:α,as0=enc x∧wf x):∀es:List (List AV),(∀x,x∈es→s.V x)→∃l:List α,es=encL enc l∧∀z,z∈l→wf z
 |[],_=>⟨[],rfl,by simp⟩
 |e::es,he=>by
  obtain⟨a,rfl,ha⟩:=h e (he e (by simp))
  obtain⟨l,rfl,hl⟩:=of_list h es fun x hx=>he x (List.mem_cons_of_mem _ hx)
  refine⟨a::l,rfl,fun z hz=>?_⟩
  rcases List.mem_cons.1 hz with rfl|hz
  ·exact ha
  ·exact hl z hz
theorem of_slice {α:Type} {enc:α→List AV} {wf:α→Prop} (s:Sh) (h:∀as0,s.V as0→∃x:α,as0=enc x∧wf x) (as0:List AV) (hs:(Sh.slice s).V as0):∃l:List α,as0=[.list s.size (encL enc l)]∧(l.length≤maxLen∧∀z,z∈l→wf z):=by
 obtain⟨es,rfl,hl,he⟩:=hs
 obtain⟨l,rfl,hw⟩:=of_list h es he
 exact⟨l,rfl,by simpa[encL]using hl,hw⟩
def TSub.wf (x:TSub):Prop:=fits x.ID∧fits x.Balance
def TEntry.wf (x:TEntry):Prop:=fits x.Number∧fits x.Day∧fits x.From∧fits x.To∧fits x.Amount∧fits x.Ref
def TAccount.wf (x:TAccount):Prop:=fits x.Credit∧(x.Subs.length≤maxLen∧∀z,z∈x.Subs→z.wf)∧(x.Entries.length≤maxLen∧∀z,z∈x.Entries→z.wf)
def TPayment.wf (x:TPayment):Prop:=fits x.Warrant∧fits x.Payee∧fits x.Amount∧fits x.Due∧fits x.Sub
def TBatch.wf (x:TBatch):Prop:=fits x.Number∧fits x.Day∧(x.Payments.length≤maxLen∧∀z,z∈x.Payments→z.wf)
def TQueue.wf (x:TQueue):Prop:=(x.Waiting.length≤maxLen∧∀z,z∈x.Waiting→z.wf)∧(x.Known.length≤maxLen∧∀z,z∈x.Known→fits z)∧(x.Batches.length≤maxLen∧∀z,z∈x.Batches→z.wf)
def TItem.wf (x:TItem):Prop:=x.Payment.wf∧fits x.State∧fits x.Attempts
def TDesk.wf (x:TDesk):Prop:=x.Account.wf∧x.Queue.wf∧(x.Items.length≤maxLen∧∀z,z∈x.Items→z.wf)
def TClaim.wf (x:TClaim):Prop:=fits x.ID∧fits x.Payer∧fits x.Amount∧fits x.Open∧fits x.Day∧x.Code.size≤maxLen
def TIncome.wf (x:TIncome):Prop:=fits x.Number∧fits x.Day∧fits x.Payer∧fits x.Amount∧fits x.Claim
def TMatch.wf (x:TMatch):Prop:=fits x.Income∧fits x.Claim∧fits x.Amount
def TCash.wf (x:TCash):Prop:=(x.Claims.length≤maxLen∧∀z,z∈x.Claims→z.wf)∧(x.Incomes.length≤maxLen∧∀z,z∈x.Incomes→z.wf)∧(x.Matches.length≤maxLen∧∀z,z∈x.Matches→z.wf)∧(x.Loose.length≤maxLen∧∀z,z∈x.Loose→fits z)
def TSecurity.wf (x:TSecurity):Prop:=fits x.ID∧fits x.Unit∧fits x.Issued∧fits x.Maturity∧fits x.Rate∧fits x.Every∧True
def THolding.wf (x:THolding):Prop:=fits x.Security∧fits x.Holder∧fits x.Amount
def TMove.wf (x:TMove):Prop:=fits x.Number∧fits x.Day∧fits x.Kind∧fits x.Security∧fits x.From∧fits x.To∧fits x.Amount
def TRegister.wf (x:TRegister):Prop:=(x.Securities.length≤maxLen∧∀z,z∈x.Securities→z.wf)∧(x.Holdings.length≤maxLen∧∀z,z∈x.Holdings→z.wf)∧(x.Moves.length≤maxLen∧∀z,z∈x.Moves→z.wf)
def TPosting.wf (x:TPosting):Prop:=fits x.Number∧fits x.Day∧fits x.Entity∧fits x.Debit∧fits x.Credit∧fits x.Amount∧fits x.Partner∧fits x.Ref
def TLedger.wf (x:TLedger):Prop:=(x.Postings.length≤maxLen∧∀z,z∈x.Postings→z.wf)
def TState.wf (x:TState):Prop:=x.Desk.wf∧x.Cash.wf∧x.Register.wf∧x.Ledger.wf
def TDeed.wf (x:TDeed):Prop:=fits x.Kind∧fits x.Day∧fits x.Sub∧fits x.Who∧fits x.Ref∧fits x.Amount∧fits x.Due
def TFinding.wf (x:TFinding):Prop:=fits x.Layer∧fits x.Number
open Go.ChangeShapes Go.WideShapes Go.ChangeAt Go.RowKit
open Go.PA (RepI PFun AV Rep Sh ShsA Fs)
theorem arg_ints {a:AV} (h:(Sh.slice (.int .i64)).A a):∃l:List Int,a=intsL l∧Small l∧l.length≤9223372036854775807:=by
 obtain⟨l,e,hl,hw⟩:=of_slice (.int .i64) of_int [a] h
 have hml:maxLen≤9223372036854775807:=by decide
 simp only[List.cons.injEq,and_true]at e
 exact⟨l,e,hw,by omega⟩
end Go.Proofs.YtaenimpfelpafaaGreatDoor
set_option maxRecDepth 100000
namespace Go.Proofs.YtaenimpfelpafaaGreatDoor
open Go.RowKit Go.WideShapes Go.ChangeShapes
open Go.PA (RepI PFun AV Rep GlobOk)
theorem gES:Tryz.prog.globalNamed "strconv.ErrSyntax"=some 0:=by kernel_rfl
theorem gER:Tryz.prog.globalNamed "strconv.ErrRange"=some 1:=by kernel_rfl
theorem gEST:(Tryz.prog.globals[0]?).map (·.type)=some 316:=by kernel_rfl
theorem gERT:(Tryz.prog.globals[1]?).map (·.type)=some 316:=by kernel_rfl
theorem cellsES:Tryz.prog.cellsOf 369=1:=by kernel_rfl
theorem cellsStr:Tryz.prog.cellsOf 9=1:=by kernel_rfl
theorem starES: "*"++ "errors.errorString"= "*errors.errorString":=by decide
theorem rowES (u:TypeId) (h:Tryz.prog.typeName? 3 u=some "*errors.errorString"):u=367:=
 typeName_ptr_named (nm:= "errors.errorString") (by rw[starES];kernel_rfl) (by kernel_rfl) (by decide) u (by rw[starES];exact h)
theorem lt_of_cell {W:World} {g:Nat} {v:Value} (h:W.cell? ⟨g,0,none⟩=some v):g<W.heap.size:=by
 rcases Nat.lt_or_ge g W.heap.size with h'|h'
 ·exact h'
 ·simp[World.cell?,Array.getElem?_eq_none h']at h
theorem glob_ok {W:World} (h:laidMetH Tryz.prog Rows.courtCleanRow.laid W):GlobOk (fun b=>b<W.heap.size) W:=by
 rw[MakeChecks.laidMetH_plain _ _ _ (by kernel_rfl)]at h
 have h4:=h.tail.tail.tail.tail
 obtain⟨a0,s0,hv0, -, -, -⟩:=laid_sentinel h4 gER gERT Tryz.underlying316 rowES Tryz.underlying367 Tryz.underlying369 rfl rfl Tryz.underlying9 cellsES cellsStr
 obtain⟨a1,s1,hv1, -, -, -⟩:=laid_sentinel h4.tail gES gEST Tryz.underlying316 rowES Tryz.underlying367 Tryz.underlying369 rfl rfl Tryz.underlying9 cellsES cellsStr
 have h0:W.cell? ⟨1,0,none⟩=some (.iface 367 (.pointer (some a0))):=by simpa using World.var?_cell gER hv0 0
 have h1:W.cell? ⟨0,0,none⟩=some (.iface 367 (.pointer (some a1))):=by simpa using World.var?_cell gES hv1 0
 intro g hg
 simp only[Go.PA.globs,List.mem_cons,List.not_mem_nil,or_false]at hg
 rcases hg with rfl|rfl
 ·exact⟨lt_of_cell h1,_,_,h1⟩
 ·exact⟨lt_of_cell h0,_,_,h0⟩
open Go.PA
def amongB (n lo hi:Int):Bool:=decide (lo≤n)&&decide (n≤hi)
theorem amongB_iff {n lo hi:Int}:amongB n lo hi=true↔lo≤n∧n≤hi:=by simp[amongB]
def vB (n:Int):Bool:=amongB n 0 1000000000000
def ascA:Int→List Int→Bool
 |_,[]=>true
 |p,i::l=>amongB i 1 1000&&(decide (p<i)&&ascA i l)
def numB (ids:List Int):Bool:=ascA 0 ids&&decide (ids.head?=some 1)
def ids (l:List TSub):List Int:=l.map (·.ID)
theorem ids_len (l:List TSub):(ids l).length=l.length:=by simp[ids]
theorem ids_get (l:List TSub) (i:Nat):(ids l)[i]?=(l[i]?).map (·.ID):=by simp[ids]
theorem ascA_gt:∀(l:List Int) (p:Int),ascA p l=true→∀i,i∈l→p<i∧1≤i∧i≤1000
 |[],p,_,i,hi=>by simp at hi
 |a::l,p,h,i,hi=>by
  simp only[ascA,Bool.and_eq_true,amongB_iff,decide_eq_true_eq]at h
  rcases List.mem_cons.1 hi with rfl|hi
  ·exact⟨h.2.1,h.1⟩
  ·have:=ascA_gt l a h.2.2 i hi
   omega
theorem ascA_nodup:∀(l:List Int) (p:Int),ascA p l=true→l.Nodup
 |[],p,_=>List.nodup_nil
 |a::l,p,h=>by
  simp only[ascA,Bool.and_eq_true,amongB_iff,decide_eq_true_eq]at h
  refine List.nodup_cons.2 ⟨fun hm=>?_,ascA_nodup l a h.2.2⟩
  have:=ascA_gt l a h.2.2 a hm
  omega
def adj (l:List TSub) (id amt:Int):List TSub:=l.map fun s=>if s.ID=id then⟨s.ID,s.Balance+amt⟩else s
theorem adj_len (l:List TSub) (id amt:Int):(adj l id amt).length=l.length:=by simp[adj]
theorem adj_ids (l:List TSub) (id amt:Int):ids (adj l id amt)=ids l:=by
 simp only[ids,adj,List.map_map]
 apply List.map_congr_left
 intro s _
 simp only[Function.comp]
 split<;>rfl
theorem adj_none {l:List TSub} {id amt:Int} (h:id∉ids l):adj l id amt=l:=by
 have:∀s,s∈l→(if s.ID=id then (⟨s.ID,s.Balance+amt⟩:TSub)else s)=s:=fun s hs=>by
  rw[if_neg]
  intro e
  exact h (List.mem_map.2 ⟨s,hs,e⟩)
 unfold adj
 rw[List.map_congr_left this]
 simp
theorem adj_get (l:List TSub) (id amt:Int) (i:Nat):(adj l id amt)[i]?=(l[i]?).map fun s=>if s.ID=id then⟨s.ID,s.Balance+amt⟩else s:=by simp[adj]
theorem nodup_get {l:List TSub} (h:(ids l).Nodup) {i j:Nat} {a b:TSub} (hi:l[i]?=some a) (hj:l[j]?=some b) (e:a.ID=b.ID):i=j:=by
 have h1:(ids l)[i]?=some a.ID:=by rw[ids_get,hi];rfl
 have h2:(ids l)[j]?=some a.ID:=by rw[ids_get,hj,e];rfl
 exact (List.getElem?_inj (gsI h1) h).1 (h1.trans h2.symm)
theorem set_adj {l:List TSub} (hn:(ids l).Nodup) {i:Nat} {a:TSub} (hi:l[i]?=some a) (amt:Int):l.set i ⟨a.ID,a.Balance+amt⟩=adj l a.ID amt:=by
 apply List.ext_getElem?
 intro j
 rw[adj_get,List.getElem?_set]
 by_cases hij:i=j
 ·subst hij
  have:=(gsI hi)
  simp[-getElem?_pos,this,hi]
 ·rw[if_neg hij]
  cases hj:l[j]? with
  |none=>rfl
  |some b=>
   have:¬b.ID=a.ID:=fun e=>hij (nodup_get hn hi hj e.symm)
   simp[this]
def placeI (l:List TSub) (id:Int):Int:=idxI (fun s=>decide (s.ID=id)) l
theorem placeI_spec (l:List TSub) (id:Int):(placeI l id= -1∧id∉ids l)∨∃(i:Nat) (a:TSub),l[i]?=some a∧a.ID=id∧placeI l id=(i:Int)∧id∈ids l:=by
 rcases idxI_spec (fun s:TSub=>decide (s.ID=id)) l with⟨h1,h2⟩|⟨i,a,h1,h2,h3,_⟩
 ·refine .inl ⟨h1,fun hm=>?_⟩
  obtain⟨s,hs,e⟩:=List.mem_map.1 hm
  have:=h2 s hs
  simp[e]at this
 ·exact .inr ⟨i,a,h1,by simpa using h2,h3,List.mem_map.2 ⟨a,List.mem_of_getElem? h1,by simpa using h2⟩⟩
def okSub (credit:Int) (s:TSub):Bool:=decide ((if s.ID=1 then -credit else 0)≤s.Balance)&&decide (s.Balance≤1000000000000000)
def okAt (credit:Int) (l:List TSub) (id:Int):Bool:=l.all fun s=>!decide (s.ID=id)||okSub credit s
def okAll (credit:Int) (l:List TSub):Bool:=l.all (okSub credit)
theorem okAt_none {credit:Int} {l:List TSub} {id:Int} (h:id∉ids l):okAt credit l id=true:=by
 refine List.all_eq_true.2 fun s hs=>?_
 have:¬s.ID=id:=fun e=>h (List.mem_map.2 ⟨s,hs,e⟩)
 simp[this]
theorem okAt_get {credit:Int} {l:List TSub} (hn:(ids l).Nodup) {i:Nat} {a:TSub} (hi:l[i]?=some a):okAt credit l a.ID=okSub credit a:=by
 rw[Bool.eq_iff_iff,okAt,List.all_eq_true]
 constructor
 ·intro h
  have:=h a (List.mem_of_getElem? hi)
  simpa using this
 ·intro h s hs
  obtain⟨j,hj⟩:=List.getElem?_of_mem hs
  by_cases e:s.ID=a.ID
  ·have:=nodup_get hn hi hj e.symm
   subst this
   rw[hi]at hj
   simp only[Option.some.injEq]at hj
   subst hj
   simp[h]
  ·simp[e]
def badNum (n:Int) (e:TEntry):Bool:=!decide (e.Number=n+1)
def badDay (d:Int) (e:TEntry):Bool:=!amongB e.Day d 36000
def badAmt (e:TEntry):Bool:=!(decide (0<e.Amount)&&vB e.Amount)||!amongB e.Ref 0 1000000
def knownB (l:List TSub) (id:Int):Bool:=decide (id=0)||decide (0≤placeI l id)
theorem knownB_iff (l:List TSub) (id:Int):knownB l id=true↔id=0∨id∈ids l:=by
 unfold knownB
 rcases placeI_spec l id with⟨h1,h2⟩|⟨i,a,_,_,h3,h4⟩
 ·simp[h1,h2]
 ·simp[h3,h4]
def badSub (l:List TSub) (e:TEntry):Bool:=decide (e.From=e.To)||(!knownB l e.From||!knownB l e.To)
def postS (credit n d:Int) (l:List TSub) (e:TEntry):Int×List TSub:=
 if badNum n e=true then (65,l)else if badDay d e=true then (8,l)else if badAmt e=true then (2,l)else if badSub l e=true then (60,l)else
 if okAt credit (adj l e.From (-e.Amount)) e.From=false then (61,adj l e.From (-e.Amount))else
 if okAt credit (adj (adj l e.From (-e.Amount)) e.To e.Amount) e.To=false then (61,adj (adj l e.From (-e.Amount)) e.To e.Amount)else (0,adj (adj l e.From (-e.Amount)) e.To e.Amount)
def replayS (credit:Int):Int→Int→List TSub→List TEntry→Option (Int×Int×List TSub)
 |n,d,l,[]=>some (n,d,l)
 |n,d,l,e::es=>if (postS credit n d l e).1=0 then replayS credit e.Number e.Day (postS credit n d l e).2 es else none
def zeroS (l:List TSub):List TSub:=l.map fun s=>⟨s.ID,0⟩
theorem zeroS_ids (l:List TSub):ids (zeroS l)=ids l:=by simp[ids,zeroS]
theorem zeroS_len (l:List TSub):(zeroS l).length=l.length:=by simp[zeroS]
def checkA (a:TAccount):Int:=
 if 20<a.Subs.length∨400<a.Entries.length then 3 else if (!vB a.Credit||!numB (ids a.Subs))=true then 62 else
 match replayS a.Credit 0 0 (zeroS a.Subs) a.Entries with
 |none=>62
 |some r=>if r.2.2=a.Subs then 0 else 62
theorem postS_ids (credit n d:Int) (l:List TSub) (e:TEntry):ids (postS credit n d l e).2=ids l:=by
 unfold postS
 repeat' split
 all_goals simp[adj_ids]
theorem okAll_adj {credit:Int} {l:List TSub} {id amt:Int} (h:okAll credit l=true) (ha:okAt credit (adj l id amt) id=true):okAll credit (adj l id amt)=true:=by
 refine List.all_eq_true.2 fun s hs=>?_
 by_cases e:s.ID=id
 ·have:=List.all_eq_true.1 ha s hs
  simpa[e]using this
 ·obtain⟨t,ht,hst⟩:=List.mem_map.1 hs
  split at hst
  ·rename_i h'
   subst hst
   exact absurd h' e
  ·subst hst
   exact List.all_eq_true.1 h t ht
theorem postS_ok {credit n d:Int} {l:List TSub} {e:TEntry} (h:(postS credit n d l e).1=0):
  e.Number=n+1∧d≤e.Day∧e.Day≤36000∧0<e.Amount∧e.Amount≤1000000000000∧0≤e.Ref∧e.Ref≤1000000∧e.From≠e.To∧(e.From=0∨e.From∈ids l)∧(e.To=0∨e.To∈ids l)∧
   okAt credit (adj l e.From (-e.Amount)) e.From=true∧okAt credit (adj (adj l e.From (-e.Amount)) e.To e.Amount) e.To=true∧(postS credit n d l e).2=adj (adj l e.From (-e.Amount)) e.To e.Amount:=by
 unfold postS at h⊢
 split at h
 ·simp at h
 rename_i h1
 rw[if_neg h1]
 split at h
 ·simp at h
 rename_i h2
 rw[if_neg h2]
 split at h
 ·simp at h
 rename_i h3
 rw[if_neg h3]
 split at h
 ·simp at h
 rename_i h4
 rw[if_neg h4]
 split at h
 ·simp at h
 rename_i h5
 rw[if_neg h5]
 split at h
 ·simp at h
 rename_i h6
 rw[if_neg h6]
 have h1:e.Number=n+1:=by simpa[badNum]using h1
 have h2:d≤e.Day∧e.Day≤36000:=by simpa[badDay,amongB]using h2
 have h3:(0<e.Amount∧(0≤e.Amount∧e.Amount≤1000000000000))∧(0≤e.Ref∧e.Ref≤1000000):=by simpa[badAmt,vB,amongB]using h3
 have h4:¬e.From=e.To∧(knownB l e.From=true∧knownB l e.To=true):=by simpa[badSub]using h4
 rw[knownB_iff,knownB_iff]at h4
 exact⟨h1,h2.1,h2.2,h3.1.1,h3.1.2.2,h3.2.1,h3.2.2,h4.1,h4.2.1,h4.2.2,by simpa using h5,by simpa using h6,rfl⟩
theorem postS_all {credit n d:Int} {l:List TSub} {e:TEntry} (h:(postS credit n d l e).1=0) (hl:okAll credit l=true):okAll credit (postS credit n d l e).2=true:=by
 obtain⟨_,_,_,_,_,_,_,_,_,_,h1,h2,h3⟩:=postS_ok h
 rw[h3]
 exact okAll_adj (okAll_adj hl h1) h2
theorem zeroS_all {credit:Int} (hc:0≤credit) (l:List TSub):okAll credit (zeroS l)=true:=by
 refine List.all_eq_true.2 fun s hs=>?_
 obtain⟨t,_,rfl⟩:=List.mem_map.1 hs
 simp[okSub]
 split<;>omega
theorem replayS_app (credit:Int):∀(es es':List TEntry) (n d:Int) (l:List TSub),replayS credit n d l (es++es')=(replayS credit n d l es).bind fun r=>replayS credit r.1 r.2.1 r.2.2 es'
 |[],es',n,d,l=>rfl
 |e::es,es',n,d,l=>by
  rw[List.cons_append,replayS,replayS]
  split
  ·exact replayS_app credit es es' _ _ _
  ·rfl
theorem replayS_keeps (credit:Int):∀(es:List TEntry) (n d:Int) (l:List TSub) (r:Int×Int×List TSub),okAll credit l=true→replayS credit n d l es=some r→
  okAll credit r.2.2=true∧ids r.2.2=ids l∧r.1=n+es.length∧d≤r.2.1∧(d≤36000→r.2.1≤36000)
 |[],n,d,l,r,hl,h=>by
  simp only[replayS,Option.some.injEq]at h
  subst h
  exact⟨hl,rfl,by simp,Int.le_refl _,fun h=>h⟩
 |e::es,n,d,l,r,hl,h=>by
  rw[replayS]at h
  split at h
  ·rename_i hp
   obtain⟨h1,h2,h3,_⟩:=postS_ok hp
   obtain⟨a1,a2,a3,a4,a5⟩:=replayS_keeps credit es _ _ _ r (postS_all hp hl) h
   refine⟨a1,a2.trans (postS_ids _ _ _ _ _),by rw[a3,h1,List.length_cons];omega,by omega,fun _=>a5 h3⟩
  ·cases h
open Go.PA
open Go.RowKit
theorem clone_m_entry {row src:Option Nat} (l:List TEntry) (H:Heap) (hl:l.length≤1000000):MFun Tryz.prog row src 62 [.list 6 (encL TEntry.cells l)] H (fun r H'=>∃id,r= .sref id 0 l.length∧H.length≤id∧H'[id]?=some (some ⟨75,6,encL TEntry.cells l⟩)∧Kept [] H H'):=by
 have own:MFun Tryz.prog row src 62 [.list 6 (encL TEntry.cells l)] H (fun r H'=>(r= .nil∧l=[]∧H'=H)∨∃id,r= .sref id 0 l.length∧H.length≤id∧H'[id]?=some (some ⟨75,6,encL TEntry.cells l⟩)∧Kept [] H H'):=by
  cases l with
  |nil=>
   refine mfun_list_nil fun A c=>?_
   refine mfun_intro Tryz.func62 rfl (by simp[Tryz.f62]) (by kernel_rfl) ⟨.nil,H,.inl ⟨rfl,rfl,rfl⟩⟩ ?_
   intro E hP hr hs hN
   cases A with
   |none=>simp -dsimp -implicitDefEqProofs [-getElem?_pos,go_sem,hP]
   |some a=>
    simp -dsimp -implicitDefEqProofs [-getElem?_pos,go_sem,hP]
    exact kept_app _ _ _
  |cons a l=>
   refine mfun_intro Tryz.func62 rfl (by simp[Tryz.f62]) (by kernel_rfl) ⟨_,H++[some ⟨75,6,encL TEntry.cells (a::l)⟩],.inr ⟨H.length,rfl,Nat.le_refl _,by simp,kept_push _ (kept_refl _ _)⟩⟩ ?_
   intro E hP hr hs hN
   simp only[List.length_cons]at hl
   have e:encL TEntry.cells (a::l)=TEntry.cells a::encL TEntry.cells l:=rfl
   simp -dsimp -implicitDefEqProofs [-getElem?_pos,go_sem,hP,e]
   refine⟨by omega,by omega,?_⟩
   exact kept_app _ _ _
 refine (own.ownNil 75 6).mono ?_
 rintro r H' (⟨H0,h0,rfl,rfl⟩|⟨hne,h⟩)
 ·rcases h0 with⟨_,rfl,rfl⟩|⟨id,h,_⟩
  ·exact⟨_,rfl,Nat.le_refl _,by simp[encL],kept_push _ (kept_refl _ _)⟩
  ·cases h
 ·rcases h with⟨h,_⟩|h
  ·exact absurd h hne
  ·exact h
theorem index_m_sub {row src:Option Nat} (l:List TSub) (x:AV) (H:Heap) (g:FuncId) (caps:List AV) (p:TSub→Bool) (hx:SlIs H x 2 (encL TSub.cells l)) (hl:l.length≤1000000) (hen:enterable Tryz.prog g=true)
  (hg:∀a,a∈l→∀H',Kept [] H H'→MFun Tryz.prog row src g (.agg (TSub.cells a)::caps) H' (fun r H''=>r=bv (p a)∧Kept [] H' H'')):
  MFun Tryz.prog row src 175 [x,.fn g caps] H (fun r H'=>r=iv (idxI p l)∧Kept [] H H'):=by
 refine mfun_intro Tryz.func175 rfl (by simp[Tryz.f175]) (by kernel_rfl) ⟨_,H,rfl,kept_refl _ _⟩ ?_
 intro E hP hr hs hN
 have hlen:=hx.len
 rw[encL_len]at hlen
 simp -dsimp -implicitDefEqProofs [-getElem?_pos,go_sem,hP,hlen]
 obtain⟨I,hI⟩:∃I:Nat→St→Prop,I=fun m s=>∃k:Nat,k≤l.length∧m=l.length-k∧idxI p l=idxFrom p k (l.drop k)∧s.t 0=x∧s.t 1= .fn g caps∧s.t 7=iv l.length∧s.t 8=iv k∧Kept [] H s.H:=⟨_,rfl⟩
 refine aloop0 I l.length (by rw[hN];rfl) ?_ ?_
 ·rw[hI]
  exact⟨0,by omega,by omega,by simp[idxI],by simp -dsimp[-getElem?_pos,go_sem],by simp -dsimp[-getElem?_pos,go_sem],by simp -dsimp[-getElem?_pos,go_sem],by simp -dsimp[-getElem?_pos,go_sem],by simp -dsimp[-getElem?_pos,go_sem];exact kept_refl _ _⟩
 intro m s hs'
 rw[hI]at hs'
 obtain⟨k,hk,hm,hi,t0,t1,t7,t8,hKp⟩:=hs'
 simp -dsimp -implicitDefEqProofs [-getElem?_pos,go_sem,hP,t7,t8]
 refine condP (fun h=>?_) (fun h=>?_)
 ·have hk:k<l.length:=by simpa using h
  obtain⟨a,ha⟩:∃a,l[k]?=some a:=⟨_,List.getElem?_eq_getElem hk⟩
  have wk:=wrap_in ((k:Int)+1) (by omega)
  obtain⟨ad,h1,h2⟩:=(hx.kept hKp).idx (P:=Tryz.prog) (t:=25) (e:=121) el_25 (by rw[sz_121]) kn_121 k (by rw[encL_len];exact hk)
  have h2':addrCells s.H ad=some (TSub.cells a):=by
   rw[h2]
   have:=encL_get TSub.cells l k
   rw[ha,List.getElem?_eq_getElem (by rw[encL_len];exact hk)]at this
   exact this
  have hz:(TSub.cells a).take 2=TSub.cells a:=List.take_of_length_le (by rw[TSub.len];omega)
  simp -dsimp -implicitDefEqProofs [-getElem?_pos,go_sem,hP,t8,t1,t0,h1,h2',TSub.len,hz]
  have hd:l.drop k=a::l.drop (k+1):=by
   rw[List.getElem?_eq_getElem hk]at ha
   rw[List.drop_eq_getElem_cons hk,Option.some.inj ha]
  refine callB_m (by rw[hr,hs];exact hg a (List.mem_of_getElem? ha) s.H hKp) hP hen ?_
  rintro r H' ⟨rfl,hK2⟩
  rw[hd]at hi
  simp only[idxFrom]at hi
  simp -dsimp -implicitDefEqProofs [-getElem?_pos,go_sem,hP]
  refine condP (fun hp=>?_) (fun hp=>?_)
  ·rw[if_pos hp]at hi
   simp -dsimp -implicitDefEqProofs [-getElem?_pos,go_sem,hP]
   exact⟨hi.symm,hKp.trans hK2⟩
  ·rw[hp,if_neg (by simp)]at hi
   simp -dsimp -implicitDefEqProofs [-getElem?_pos,go_sem,hP,t8,wk]
   refine⟨l.length-(k+1),by omega,?_⟩
   rw[hI]
   exact⟨k+1,by omega,rfl,hi,by simp -dsimp[-getElem?_pos,go_sem,t0],by simp -dsimp[-getElem?_pos,go_sem,t1],by simp -dsimp[-getElem?_pos,go_sem,t7],by simp -dsimp[-getElem?_pos,go_sem],by simp -dsimp[-getElem?_pos,go_sem];exact hKp.trans hK2⟩
 ·have hk:k=l.length:=by simp at h;omega
  subst hk
  rw[List.drop_length]at hi
  simp -dsimp -implicitDefEqProofs [-getElem?_pos,go_sem,hP]
  exact⟨hi.symm,hKp⟩
open Go.PA
open Go.RowKit
abbrev subsL (l:List TSub):AV:= .list 2 (encL TSub.cells l)
abbrev entsL (l:List TEntry):AV:= .list 6 (encL TEntry.cells l)
theorem imm_subs (l:List TSub):Imm (subsL l):=imm_encL _ TSub.imm l
theorem imm_ents (l:List TEntry):Imm (entsL l):=imm_encL _ TEntry.imm l
theorem imm_acc (a:TAccount):Imm (.agg a.cells):= .agg fun c hc=>a.imm c hc
theorem imm_ent (e:TEntry):Imm (.agg e.cells):= .agg fun c hc=>e.imm c hc
theorem okSub_iff (credit:Int) (s:TSub):okSub credit s=true↔(if s.ID=1 then -credit else 0)≤s.Balance∧s.Balance≤1000000000000000:=by simp[okSub]
open Go.PA
open Go.RowKit
abbrev zeroE:TEntry:=⟨0,0,0,0,0,0⟩
theorem listEq_pf_subs (a b:List TSub) (ha:a.length≤100000) (hb:b.length≤100000):
  PFun Tryz.prog none none 134 [.list 2 (encL TSub.cells a),.list 2 (encL TSub.cells b)] (·=bv (decide (a=b))):=by
 refine pfun_intro Tryz.func134 rfl (by simp[Tryz.f134]) (by kernel_rfl) ?_
 intro E hP hr hs hW hN
 by_cases hlen:a.length=b.length
 rotate_left
 ·have hne:¬a=b:=fun h=>hlen (by rw[h])
  have hl:decide ((a.length:Int)=(b.length:Int))=false:=by simp;omega
  simp -dsimp -implicitDefEqProofs [-getElem?_pos,go_sem,hP,hl,hne]
 have hl:decide ((a.length:Int)=(b.length:Int))=true:=by simp;omega
 simp -dsimp -implicitDefEqProofs [-getElem?_pos,go_sem,hP,hl]
 obtain⟨I,hI⟩:∃I:Nat→St→Prop,I=fun m s=>∃k:Nat,k≤a.length∧m=a.length-k∧s.t 0= .list 2 (encL TSub.cells a)∧s.t 1= .list 2 (encL TSub.cells b)∧s.t 12=iv a.length∧s.t 13=iv k∧a.take k=b.take k:=⟨_,rfl⟩
 refine aloop0 I (a.length) (by rw[hN];rfl) ?_ ?_
 ·rw[hI]
  exact⟨0,by omega,by omega,by simp -dsimp[-getElem?_pos,go_sem],by simp -dsimp[-getElem?_pos,go_sem],by simp -dsimp[-getElem?_pos,go_sem],by simp -dsimp[-getElem?_pos,go_sem],by simp⟩
 intro m s hs'
 rw[hI]at hs'
 obtain⟨k,hk,hm,t0,t1,t12,t13,heq⟩:=hs'
 simp -dsimp -implicitDefEqProofs [-getElem?_pos,go_sem,hP,t12,t13]
 refine condP (fun h=>?_) (fun h=>?_)
 ·have hk:k<a.length:=by simpa using h
  obtain⟨x,hx⟩:∃x,a[k]?=some x:=⟨_,List.getElem?_eq_getElem hk⟩
  obtain⟨y,hy⟩:∃y,b[k]?=some y:=⟨_,List.getElem?_eq_getElem (by omega)⟩
  have wk:=wrap_in ((k:Int)+1) (by omega)
  have tx:a.take (k+1)=a.take k++[x]:=by rw[List.take_add_one,hx];rfl
  have ty:b.take (k+1)=b.take k++[y]:=by rw[List.take_add_one,hy];rfl
  simp -dsimp -implicitDefEqProofs [-getElem?_pos,go_sem,hP,t13]
  refine adrawB (fun _=>true) [] hP (by kernel_rfl) (by kernel_rfl) ?_
  by_cases hxy:x=y
  ·subst hxy
   simp -dsimp -implicitDefEqProofs [-getElem?_pos,go_sem,hP,t0,t1,hx,hy,TSub.cells,t13,wk]
   refine⟨a.length-(k+1),by omega,?_⟩
   rw[hI]
   exact⟨k+1,by omega,rfl,by simp -dsimp[-getElem?_pos,go_sem,t0],by simp -dsimp[-getElem?_pos,go_sem,t1],by simp -dsimp[-getElem?_pos,go_sem,t12],by simp -dsimp[-getElem?_pos,go_sem],by rw[tx,ty,heq]⟩
  ·have hne:¬a=b:=fun h=>by
    subst h
    rw[hx]at hy
    exact hxy (Option.some.inj hy)
   simp -dsimp -implicitDefEqProofs [-getElem?_pos,go_sem,hP,t0,t1,hx,hy,TSub.cells,t13,wk]
   refine condP (fun h=>?_) (fun h=>?_)
   ·simp -dsimp -implicitDefEqProofs [-getElem?_pos,go_sem,hP,hne]
   ·exact absurd (by cases x;cases y;simp at h;simp[h]) hxy
 ·have hk:k=a.length:=by simp at h;omega
  subst hk
  rw[List.take_length]at heq
  rw[hlen,List.take_length]at heq
  simp -dsimp -implicitDefEqProofs [-getElem?_pos,go_sem,hP,heq]
open Go.PA
open Go.RowKit
theorem replayS_last (credit:Int):∀(es:List TEntry) (last:TEntry) (l:List TSub) (r:Int×Int×List TSub),replayS credit last.Number last.Day l es=some r→r.1=((es.getLast?).getD last).Number∧r.2.1=((es.getLast?).getD last).Day
 |[],last,l,r,h=>by
  simp only[replayS,Option.some.injEq]at h
  subst h
  exact⟨rfl,rfl⟩
 |e::es,last,l,r,h=>by
  rw[replayS]at h
  split at h
  ·have:=replayS_last credit es e _ r h
   cases es with
   |nil=>exact this
   |cons x es=>
    have e1:(e::x::es).getLast?=(x::es).getLast?:=by rw[List.getLast?_cons_cons]
    rw[e1]
    have e2:∀y,((x::es).getLast?).getD y=((x::es).getLast?).getD e:=fun y=>by
     rw[List.getLast?_eq_some_getLast (by simp)];rfl
    rw[e2 last]
    exact this
  ·cases h
theorem takeWhile_all {α:Type} (p:α→Bool):∀l:List α,(∀x,x∈l→p x=true)→l.takeWhile p=l
 |[],_=>rfl
 |a::l,h=>by
  rw[List.takeWhile_cons_of_pos (h a (by simp)),takeWhile_all p l fun x hx=>h x (List.mem_cons_of_mem _ hx)]
def lastE (a:TAccount):TEntry:=(a.Entries.getLast?).getD zeroE
theorem check_ok {a:TAccount} (h:checkA a=0):a.Subs.length≤20∧a.Entries.length≤400∧(0≤a.Credit∧a.Credit≤1000000000000)∧numB (ids a.Subs)=true∧replayS a.Credit 0 0 (zeroS a.Subs) a.Entries=some ((lastE a).Number,(lastE a).Day,a.Subs):=by
 unfold checkA at h
 split at h
 ·simp at h
 rename_i h1
 split at h
 ·simp at h
 rename_i h2
 split at h
 ·simp at h
 rename_i r hr
 split at h
 ·rename_i he
  have h2:vB a.Credit=true∧numB (ids a.Subs)=true:=by simpa using h2
  have h3:0≤a.Credit∧a.Credit≤1000000000000:=by simpa[vB,amongB]using h2.1
  have:=replayS_last a.Credit a.Entries zeroE (zeroS a.Subs) r hr
  refine⟨by omega,by omega,h3,h2.2,?_⟩
  rw[hr]
  congr 1
  exact Prod.ext this.1 (Prod.ext this.2 he)
 ·simp at h
theorem check_mk {a:TAccount} (h1:a.Subs.length≤20) (h2:a.Entries.length≤400) (h3:0≤a.Credit∧a.Credit≤1000000000000) (h4:numB (ids a.Subs)=true) {n d:Int} (h5:replayS a.Credit 0 0 (zeroS a.Subs) a.Entries=some (n,d,a.Subs)):checkA a=0:=by
 unfold checkA
 have hv:vB a.Credit=true:=by simpa[vB,amongB]using h3
 rw[if_neg (by omega),if_neg (by simp[hv,h4]),h5]
 simp
theorem numB_facts {l:List Int} (h:numB l=true):l.Nodup∧0∉l∧l.head?=some 1:=by
 simp only[numB,Bool.and_eq_true,decide_eq_true_eq]at h
 refine⟨ascA_nodup l 0 h.1,fun h0=>?_,h.2⟩
 have:=ascA_gt l 0 h.1 0 h0
 omega
theorem check_keeps {a:TAccount} (h:checkA a=0):okAll a.Credit a.Subs=true∧(lastE a).Number=a.Entries.length∧0≤(lastE a).Day∧(lastE a).Day≤36000:=by
 obtain⟨_,_,h3,_,h5⟩:=check_ok h
 obtain⟨a1,_,a3,a4,a5⟩:=replayS_keeps a.Credit a.Entries 0 0 (zeroS a.Subs) _ (zeroS_all h3.1 _) h5
 exact⟨a1,by simpa using a3,a4,a5 (by omega)⟩
open Go.PA
open Go.RowKit
def Grown (n:Nat) (H:Heap) (x:AV) (ty:TypeId) (k:Nat) (es:List (List AV)):Prop:=(x= .nil∧es=[])∨∃id,n≤id∧x= .sref id 0 es.length∧H[id]?=some (some ⟨ty,k,es⟩)
theorem Grown.cw {n:Nat} {H:Heap} {x:AV} {ty:TypeId} {k:Nat} {es:List (List AV)} {xs ys:List AV} (h:Grown n H x ty k es) (hi:Imm (.list k es)) (t:CW H xs ys):CW H (x::xs) (.list k es::ys):=by
 rcases h with⟨rfl,rfl⟩|⟨id,_,rfl,h⟩
 ·exact cw_nil t
 ·exact cw_sref h rfl hi t
theorem Grown.cellish {n:Nat} {H:Heap} {x:AV} {ty:TypeId} {k:Nat} {es:List (List AV)} (h:Grown n H x ty k es):x.cellish=true:=by
 rcases h with⟨rfl,rfl⟩|⟨id,_,rfl,h⟩<;>rfl
theorem Grown.kept {n:Nat} {H H':Heap} {x:AV} {ty:TypeId} {k:Nat} {es:List (List AV)} {X:List Nat} (h:Grown n H x ty k es) (hk:Kept X H H') (hX:∀i,i∈X→i<n):Grown n H' x ty k es:=by
 rcases h with⟨rfl,rfl⟩|⟨id,hn,rfl,h⟩
 ·exact .inl ⟨rfl,rfl⟩
 ·refine .inr ⟨id,hn,rfl,hk _ _ (fun hi=>?_) h⟩
  have:=hX id hi
  omega
open Go.PA
open Go.RowKit
theorem agree_push {n:Nat} {H l:Heap} (h:n≤H.length):Agree (fun id=>decide (id<n)) H (H++l):=fun id hid=>List.getElem?_append_left (by simp at hid;omega)
abbrev zeroA:TAccount:=⟨0,[],[]⟩
def postA (a:TAccount) (e:TEntry):TAccount×Int:=
 if checkA a=0 then
  if a.Entries.length=400 then (zeroA,3)else
  if (postS a.Credit (lastE a).Number (lastE a).Day a.Subs e).1=0 then (⟨a.Credit,(postS a.Credit (lastE a).Number (lastE a).Day a.Subs e).2,a.Entries++[e]⟩,0)else (zeroA,(postS a.Credit (lastE a).Number (lastE a).Day a.Subs e).1)
 else (zeroA,checkA a)
theorem lastE_nil {a:TAccount} (h:a.Entries.length=0):lastE a=zeroE:=by
 rw[lastE,List.eq_nil_of_length_eq_zero h]
 rfl
theorem lastE_get {a:TAccount} {k:Nat} {e:TEntry} (h:a.Entries.length=k+1) (he:a.Entries[k]?=some e):lastE a=e:=by
 rw[lastE,List.getLast?_eq_getElem?,h]
 simp[he]
theorem cA (a:TAccount):a.cells=[iv a.Credit,subsL a.Subs,entsL a.Entries]:=rfl
theorem cE (e:TEntry):e.cells=[iv e.Number,iv e.Day,iv e.From,iv e.To,iv e.Amount,iv e.Ref]:=rfl
theorem done_zeroA {H:Heap} {n:Int} {Q:AV→Prop} {b:Bx Q} (h:Q (.tup [.agg zeroA.cells,iv n])):Done H (.tup [.agg [iv 0,.nil,.nil],iv n]) Q b:=
 done_agg2 (cw_sc (cw_nil (cw_nil .nil))) h
def nextE (a:TAccount) (day from_ to amount ref:Int):TEntry:=⟨IntKind.i64.wrap ((lastE a).Number+1),day,from_,to,amount,ref⟩
def balanceA (a:TAccount) (id:Int):Int×Bool:=
 if checkA a=0 then (match a.Subs.find? (fun s=>decide (s.ID=id))with|some s=>(s.Balance,true)|none=>(0,false))else (0,false)
theorem find_place {l:List TSub} {id:Int}:(placeI l id= -1∧l.find? (fun s=>decide (s.ID=id))=none)∨∃(i:Nat) (s:TSub),placeI l id=i∧l[i]?=some s∧l.find? (fun s=>decide (s.ID=id))=some s:=by
 suffices h:∀(l:List TSub) (k:Nat),(idxFrom (fun s=>decide (s.ID=id)) k l= -1∧l.find? (fun s=>decide (s.ID=id))=none)∨∃(i:Nat) (s:TSub),idxFrom (fun s=>decide (s.ID=id)) k l=((k+i:Nat):Int)∧l[i]?=some s∧l.find? (fun s=>decide (s.ID=id))=some s by
  have:=h l 0
  simpa[placeI,idxI]using this
 intro l
 induction l with
 |nil=>exact fun k=> .inl ⟨rfl,rfl⟩
 |cons a l ih=>
  intro k
  rw[idxFrom,List.find?_cons]
  by_cases h:a.ID=id
  ·simp only[h,decide_true,if_true]
   exact .inr ⟨0,a,by simp,rfl,rfl⟩
  ·simp only[h,decide_false,Bool.false_eq_true,if_false]
   rcases ih (k+1)with h|⟨i,s,h1,h2,h3⟩
   ·exact .inl h
   ·exact .inr ⟨i+1,s,by rw[h1];congr 1;omega,h2,h3⟩
theorem okSub_bounds {credit:Int} {s:TSub} (hc:0≤credit∧credit≤1000000000000) (h:okSub credit s=true): -1000000000000≤s.Balance∧s.Balance≤1000000000000000:=by
 have:=(okSub_iff _ _).1 h
 split at this<;>omega
abbrev numsL (l:List Int):AV:= .list 1 (encL encI l)
theorem imm_nums (l:List Int):Imm (numsL l):=imm_encL _ imm_encI l
def newS (l:List Int):List TSub:=l.map fun i=>⟨i,0⟩
def newA (l:List Int) (credit:Int):TAccount:=⟨credit,newS l,[]⟩
theorem newS_ids (l:List Int):ids (newS l)=l:=by simp[ids,newS,Function.comp_def]
def openA (ids:List Int) (credit:Int):TAccount×Int:=
 if vB credit=true then if 20<ids.length then (zeroA,3)else if numB ids=true then (newA ids credit,0)else (zeroA,60)else (zeroA,2)
open Go.PA
open Go.RowKit
abbrev paysL (l:List TPayment):AV:= .list 5 (encL TPayment.cells l)
abbrev batsL (l:List TBatch):AV:= .list 3 (encL TBatch.cells l)
theorem imm_pays (l:List TPayment):Imm (paysL l):=imm_encL _ TPayment.imm _
theorem imm_bats (l:List TBatch):Imm (batsL l):=imm_encL _ TBatch.imm _
theorem cPy (p:TPayment):p.cells=[iv p.Warrant,iv p.Payee,iv p.Amount,iv p.Due,iv p.Sub]:=rfl
theorem cBt (b:TBatch):b.cells=[iv b.Number,iv b.Day,paysL b.Payments]:=rfl
theorem cQu (q:TQueue):q.cells=[paysL q.Waiting,intsL q.Known,batsL q.Batches]:=rfl
theorem imm_pay (c:TPayment):Imm (.agg c.cells):=imm_agg.2 c.imm
theorem imm_bat (c:TBatch):Imm (.agg c.cells):=imm_agg.2 c.imm
theorem imm_que (c:TQueue):Imm (.agg c.cells):=imm_agg.2 c.imm
theorem drop_at {α:Type} {l:List α} {k:Nat} {e:α} (h:l[k]?=some e):l.drop k=e::l.drop (k+1):=by
 obtain⟨hk,rfl⟩:=List.getElem?_eq_some_iff.1 h
 exact List.drop_eq_getElem_cons hk
theorem take_at {α:Type} {l:List α} {k:Nat} {e:α} (h:l[k]?=some e):l.take (k+1)=l.take k++[e]:=by
 rw[List.take_add_one,h];rfl
def amg (n lo hi:Int):Bool:=decide (lo≤n)&&decide (n≤hi)
theorem amg_iff {n lo hi:Int}:amg n lo hi=true↔lo≤n∧n≤hi:=by simp[amg]
theorem amg_no {n lo hi:Int} (h:¬(lo≤n∧n≤hi)):amg n lo hi=false:=Bool.eq_false_iff.2 fun e=>h (amg_iff.1 e)
def payPB (p:TPayment):Bool:=amg p.Warrant 1 1000000&&(amg p.Payee 1 1000000&&(amg p.Amount 1 1000000000000&&(amg p.Due 0 35990&&amg p.Sub 1 1000)))
structure PayOk (p:TPayment):Prop where
 warrant:1≤p.Warrant∧p.Warrant≤1000000
 payee:1≤p.Payee∧p.Payee≤1000000
 amount:1≤p.Amount∧p.Amount≤1000000000000
 due:0≤p.Due∧p.Due≤35990
 sub:1≤p.Sub∧p.Sub≤1000
theorem payPB_iff (p:TPayment):payPB p=true↔PayOk p:=by
 simp only[payPB,Bool.and_eq_true,amg_iff]
 exact⟨fun⟨a,b,c,d,e⟩=>⟨a,b,c,d,e⟩,fun⟨a,b,c,d,e⟩=>⟨a,b,c,d,e⟩⟩
def Bef (a b:TPayment):Prop:=a.Due<b.Due∨a.Due=b.Due∧a.Warrant<b.Warrant
instance (a b:TPayment):Decidable (Bef a b):=by unfold Bef;infer_instance
def befB (a b:TPayment):Bool:=decide (Bef a b)
theorem befB_iff {a b:TPayment}:befB a b=true↔Bef a b:=by simp[befB]
theorem Bef.trans {a b c:TPayment} (h:Bef a b) (k:Bef b c):Bef a c:=by unfold Bef at*;omega
theorem Bef.tot {a b:TPayment} (h:a.Warrant≠b.Warrant):Bef a b∨Bef b a:=by unfold Bef;omega
def allO {α:Type} (o:Option α) (f:α→Bool):Bool:=match o with
 |none=>true
 |some x=>f x
theorem allO_iff {α:Type} {o:Option α} {f:α→Bool}:allO o f=true↔∀x,o=some x→f x=true:=by
 cases o<;>simp[allO]
def ordFrom:Option TPayment→List TPayment→Bool
 |_,[]=>true
 |o,p::l=>payPB p&&(allO o (fun x=>befB x p)&&ordFrom (some p) l)
def distFrom:List TPayment→List TPayment→Bool
 |_,[]=>true
 |pre,p::l=>!(pre.any fun x=>decide (x.Warrant=p.Warrant))&&distFrom (pre++[p]) l
def inK (K:List Int) (p:TPayment):Bool:=decide (p.Warrant∈K)
def ascB (K:List Int) (l:List TPayment):Bool:=ordFrom none l&&(l.all (inK K)&&distFrom [] l)
def knFrom:Option Int→List Int→Bool
 |_,[]=>true
 |o,n::l=>amg n 1 1000000&&(allO o (fun x=>decide (x<n))&&knFrom (some n) l)
def busB (d:Int):Bool:=amg d 0 36000&&decide (d%7<5)
def batB (K:List Int) (i d:Int) (b:TBatch):Bool:=decide (b.Number=i+1)&&(decide (d≤b.Day)&&(busB b.Day&&(amg b.Payments.length 1 10&&ascB K b.Payments)))
def batsFrom (K:List Int):Int→Int→List TBatch→Bool
 |_,_,[]=>true
 |i,d,b::l=>batB K i d b&&batsFrom K (i+1) b.Day l
def checkQ (q:TQueue):Int:=
 if 100<q.Waiting.length∨200<q.Known.length∨200<q.Batches.length then 3 else if (knFrom none q.Known&&(ascB q.Known q.Waiting&&batsFrom q.Known 0 0 q.Batches))=true then 0 else 64
theorem ordFrom_iff:∀(l:List TPayment) (o:Option TPayment),ordFrom o l=true↔(∀p,p∈l→PayOk p)∧(∀x,o=some x→∀p,p∈l→Bef x p)∧l.Pairwise Bef
 |[],o=>by simp[ordFrom]
 |p::l,o=>by
  rw[ordFrom,Bool.and_eq_true,Bool.and_eq_true,ordFrom_iff l (some p),payPB_iff,allO_iff,List.pairwise_cons]
  simp only[befB_iff,List.mem_cons]
  constructor
  ·rintro⟨h1,h2,h3,h4,h5⟩
   refine⟨?_,?_,h4 p rfl,h5⟩
   ·rintro x (rfl|hx)
    ·exact h1
    ·exact h3 x hx
   ·rintro x hx y (rfl|hy)
    ·exact h2 x hx
    ·exact (h2 x hx).trans (h4 p rfl y hy)
  ·rintro⟨h1,h2,h3,h4⟩
   refine⟨h1 p (.inl rfl),fun x hx=>h2 x hx p (.inl rfl),fun x hx=>h1 x (.inr hx),?_,h4⟩
   rintro x hx y hy
   cases hx
   exact h3 y hy
theorem distFrom_iff:∀(l pre:List TPayment),distFrom pre l=true↔(∀p,p∈l→∀x,x∈pre→x.Warrant≠p.Warrant)∧(l.map (·.Warrant)).Nodup
 |[],pre=>by simp[distFrom]
 |p::l,pre=>by
  rw[distFrom,Bool.and_eq_true,Bool.not_eq_true',distFrom_iff l,List.map_cons,List.nodup_cons,List.any_eq_false]
  simp only[decide_eq_true_eq,List.mem_append,List.mem_cons,List.not_mem_nil,or_false,List.mem_map,not_exists,not_and]
  constructor
  ·rintro⟨h1,h2,h3⟩
   refine⟨?_,fun x hx e=>h2 x hx p (.inr rfl) e.symm,h3⟩
   rintro x (rfl|hx) y hy
   ·exact h1 y hy
   ·exact h2 x hx y (.inl hy)
  ·rintro⟨h1,h2,h3⟩
   refine⟨fun y hy=>h1 p (.inl rfl) y hy,?_,h3⟩
   rintro x hx y (hy|rfl)
   ·exact h1 x (.inr hx) y hy
   ·exact fun e=>h2 x hx e.symm
structure AscOk (K:List Int) (l:List TPayment):Prop where
 pay:∀p,p∈l→PayOk p
 ord:l.Pairwise Bef
 kn:∀p,p∈l→p.Warrant∈K
 nd:(l.map (·.Warrant)).Nodup
theorem ascB_iff {K:List Int} {l:List TPayment}:ascB K l=true↔AscOk K l:=by
 rw[ascB,Bool.and_eq_true,Bool.and_eq_true,ordFrom_iff,distFrom_iff,List.all_eq_true]
 simp only[inK,decide_eq_true_eq]
 constructor
 ·rintro⟨⟨h1,_,h2⟩,h3,_,h4⟩
  exact⟨h1,h2,h3,h4⟩
 ·rintro⟨h1,h2,h3,h4⟩
  exact⟨⟨h1,by simp,h2⟩,h3,by simp,h4⟩
theorem knFrom_iff:∀(l:List Int) (o:Option Int),knFrom o l=true↔(∀p,p∈l→1≤p∧p≤1000000)∧(∀x,o=some x→∀p,p∈l→x<p)∧l.Pairwise (·<·)
 |[],o=>by simp[knFrom]
 |p::l,o=>by
  rw[knFrom,Bool.and_eq_true,Bool.and_eq_true,knFrom_iff l (some p),amg_iff,allO_iff,List.pairwise_cons]
  simp only[decide_eq_true_eq,List.mem_cons]
  constructor
  ·rintro⟨h1,h2,h3,h4,h5⟩
   refine⟨?_,?_,h4 p rfl,h5⟩
   ·rintro x (rfl|hx)
    ·exact h1
    ·exact h3 x hx
   ·rintro x hx y (rfl|hy)
    ·exact h2 x hx
    ·exact Int.lt_trans (h2 x hx) (h4 p rfl y hy)
  ·rintro⟨h1,h2,h3,h4⟩
   refine⟨h1 p (.inl rfl),fun x hx=>h2 x hx p (.inl rfl),fun x hx=>h1 x (.inr hx),?_,h4⟩
   rintro x hx y hy
   cases hx
   exact h3 y hy
structure QOk (q:TQueue):Prop where
 lw:q.Waiting.length≤100
 lk:q.Known.length≤200
 lb:q.Batches.length≤200
 kn:∀w,w∈q.Known→1≤w∧w≤1000000
 ks:q.Known.Pairwise (·<·)
 asc:AscOk q.Known q.Waiting
 bats:batsFrom q.Known 0 0 q.Batches=true
theorem checkQ_iff {q:TQueue}:checkQ q=0↔QOk q:=by
 unfold checkQ
 split
 ·rename_i h
  exact⟨fun e=>absurd e (by decide),fun⟨h1,h2,h3,_,_,_,_⟩=>by omega⟩
 ·rename_i h
  split
  ·rename_i h1
   rw[Bool.and_eq_true,Bool.and_eq_true,knFrom_iff,ascB_iff]at h1
   exact⟨fun _=>⟨by omega,by omega,by omega,h1.1.1,h1.1.2.2,h1.2.1,h1.2.2⟩,fun _=>rfl⟩
  ·rename_i h1
   refine⟨fun e=>absurd e (by decide),fun⟨_,_,_,h4,h5,h6,h7⟩=>absurd ?_ h1⟩
   rw[Bool.and_eq_true,Bool.and_eq_true,knFrom_iff,ascB_iff]
   exact⟨⟨h4,by simp,h5⟩,h6,h7⟩
structure FitQ (q:TQueue):Prop where
 w:q.Waiting.length≤100000
 k:q.Known.length≤100000
 b:q.Batches.length≤100000
 each:∀b,b∈q.Batches→b.Payments.length≤100000
theorem batsFrom_len {K:List Int}:∀{l:List TBatch} {i d:Int},batsFrom K i d l=true→∀b,b∈l→1≤b.Payments.length∧b.Payments.length≤10∧AscOk K b.Payments∧busB b.Day=true∧d≤b.Day
 |[],_,_,_,b,hb=>by cases hb
 |a::l,i,d,h,b,hb=>by
  rw[batsFrom,batB]at h
  simp only[Bool.and_eq_true,amg_iff,ascB_iff,decide_eq_true_eq]at h
  rcases List.mem_cons.1 hb with rfl|hb
  ·obtain⟨⟨_,h2,h3,h4,h5⟩,_⟩:=h
   exact⟨by omega,by omega,h5,h3,h2⟩
  ·obtain⟨h1,h2,h3,h4,h5⟩:=batsFrom_len h.2 b hb
   exact⟨h1,h2,h3,h4,by have:=h.1.2.1;omega⟩
theorem QOk.fit {q:TQueue} (h:QOk q):FitQ q:=⟨by have:=h.lw;omega,by have:=h.lk;omega,by have:=h.lb;omega,fun b hb=>by have:=batsFrom_len h.bats b hb;omega⟩
abbrev zeroQ:TQueue:=⟨[],[],[]⟩
abbrev zeroB:TBatch:=⟨0,0,[]⟩
def ins {α:Type} (lt:α→α→Bool) (l:List α) (a:α):List α:=l.takeWhile (fun x=>lt x a)++a::l.dropWhile (fun x=>lt x a)
def ltB (a b:Int):Bool:=decide (a<b)
def waitQ (q:TQueue) (w:Int):Int:=idxI (fun p:TPayment=>decide (p.Warrant=w)) q.Waiting
def addQ (q:TQueue) (p:TPayment):TQueue×Int:=
 if checkQ q=0 then (if payPB p=true then (if p.Warrant∈q.Known then (zeroQ,65)else if q.Waiting.length=100∨q.Known.length=200 then (zeroQ,3)else (⟨ins befB q.Waiting p,ins ltB q.Known p.Warrant,q.Batches⟩,0))else (zeroQ,64))else (zeroQ,checkQ q)
def againQ (q:TQueue) (p:TPayment):TQueue×Int:=
 if checkQ q=0 then (if payPB p=true then (if p.Warrant∈q.Known then (if 0≤waitQ q p.Warrant then (zeroQ,65)else if q.Waiting.length=100 then (zeroQ,3)else (⟨ins befB q.Waiting p,q.Known,q.Batches⟩,0))else (zeroQ,6))else (zeroQ,64))else (zeroQ,checkQ q)
def dropQ (q:TQueue) (w:Int):TQueue×Int:=
 if checkQ q=0 then (if waitQ q w<0 then (zeroQ,6)else (⟨q.Waiting.eraseIdx (waitQ q w).toNat,q.Known,q.Batches⟩,0))else (zeroQ,checkQ q)
def readyQ (q:TQueue) (day:Int):List TPayment:=if checkQ q=0 then q.Waiting.filter (fun p=>decide (p.Due≤day))else []
def lastQ (q:TQueue):Int:=match q.Batches.getLast? with
 |none=>0
 |some b=>b.Day
def takenB (ws:List Int) (p:TPayment):Bool:=decide (p.Warrant∈ws)
def dueB (q:TQueue) (day:Int) (ws:List Int):Bool:=decide (ws.Nodup)&&ws.all fun w=>q.Waiting.any fun p=>decide (p.Warrant=w)&&decide (p.Due≤day)
def takeB (q:TQueue) (day:Int) (ws:List Int):TBatch:=⟨q.Batches.length+1,day,q.Waiting.filter (takenB ws)⟩
def takeQ (q:TQueue) (day:Int) (ws:List Int):TQueue×TBatch×Int:=
 if checkQ q=0 then (if busB day=true then (if day<lastQ q then (zeroQ,zeroB,8)else if ws.length=0 then (zeroQ,zeroB,10)else if 10<ws.length∨200≤q.Batches.length then (zeroQ,zeroB,3)else if dueB q day ws=true then (⟨q.Waiting.filter (fun p=>!takenB ws p),q.Known,q.Batches++[takeB q day ws]⟩,takeB q day ws,0)else (zeroQ,zeroB,6))else (zeroQ,zeroB,66))else (zeroQ,zeroB,checkQ q)
end Go.Proofs.YtaenimpfelpafaaGreatDoor
