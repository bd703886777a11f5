/- Several texts of this claim, joined: PaC Types Facts PlayAll Frame PaArg Args ArgsUse CardLibCo Acc1 AccLib Acc2 Acc3 Acc4 Grown Acc5 Bat1. -/
import Derived.Test.YtmmpcldnpflchaaGreatDoorPk2
import Derived.Test.YtmmpcldnpflchaaGreatDoorProg
import Derived.KernelRfl
import Derived.WalkSpells
import Derived.WalkLawsBesides
import Derived.Deep.QuietTactic
import Derived.BigQuiet
import Derived.RegionTactic
import Derived.Lib.Hide
import Derived.Test.YtmmpcldnpflchaaGreatDoorRows
import Derived.ProofKit
import Derived.Below
import Derived.Carry
import Derived.ChangeSame
import Derived.ChangeMaps5
import Derived.ShutString
import Derived.Stop.LaidErr
import Derived.LaidMore
import Derived.Lay
import Derived.SevenTiedAt
import Derived.Stop.Joined
import Derived.Test.YtmmpcldnpflchaaGreatDoorCards
import Derived.Test.YtmmpcldnpflchaaGreatDoorTie
set_option linter.unusedSimpArgs false
set_option linter.unusedVariables false
namespace Go.PA
open Go.RowKit
def NO (P:Program) (row src:Option Nat) (f:FuncId) (args:List AV) (ty:TypeId) (k:Nat) (Q:List (List AV)→Prop):Prop:=
 ∀(w:World) (ok:Nat→Prop) (vs:Array Value),(∀b,ok b→b<w.heap.size∧some b≠row)→Inv row src ok w→vs.size=args.length→(∀(i:Nat) (v:Value) (a:AV),vs[i]?=some v→args[i]?=some a→iH w ok v a)→
  Calls P f vs w fun e w'=>∃(b cap:Nat) (es:List (List AV)),e= .returned (.pointer (some ⟨b,0,none⟩))∧Q es∧w.heap.size≤b∧b<w'.heap.size∧(∀e,e∈es→e.length=k)∧
   ur w' (fun _=>none) [] (fun x=>(ok x∨(w.heap.size≤x∧x<w'.heap.size))∧x≠b) ⟨ty,k,es⟩ b cap∧(∀e,e∈es→∀a,a∈e→Imm a)∧w.grownBy w' row∧Inv row src ok w'
def S3 (P:Program) (rs:List ResultVar) (ty:TypeId) (k:Nat) (Q:List (List AV)→Prop):Exit→St→Prop
 | .normal,s| .ret,s=>∃id es,km P s rs=some (.ref id 0 0)∧s.H[id]?=some (some ⟨ty,k,es⟩)∧(∀e,e∈es→∀a,a∈e→Imm a)∧Q es
 |_,_=>False
theorem FG {P:Program} {row src:Option Nat} {f:FuncId} {args:List AV} {ty:TypeId} {k:Nat} {Q:List (List AV)→Prop} {fn:Func} {body:Code}
  (hf:P.funcs[f]?=some fn) (hb:fn.body=some body) (hn:args.length≤fn.ntmps) (hc:e8 fn.ntmps body=true)
  (h:∀E:Env,E.P=P→E.row=row→E.src=src→(∀b,¬E.W b)→E.N=fn.ntmps→awp E body ⟨bz args,[]⟩ (S3 P fn.results.toList ty k Q)):NO P row src f args ty k Q:=by
 intro w ok vs h1 h2 h3 h4
 let E:Env:={P:=P,w0:=w,okA:=ok,row:=row,src:=src,N:=fn.ntmps,W:=fun _=>False,ρ0:=fun _=>none,H0:=[]}
 have g:Good E w (fun _=>none) [] ok:=⟨rfl,rfl,rfl,Nat.le_refl _,fun _ _ _ _=>rfl,h2,fun b hb=>⟨(h1 b hb).1,(h1 b hb).2,.inl hb⟩,by simp,by simp,by simp,by simp⟩
 have r:Rel E ⟨bz args,[]⟩ {tmps:=vs++Array.replicate (fn.ntmps-vs.size) undef,defers:=[]} w:=by
  refine⟨fun _=>none,ok,g,Ext.refl _ _ _ _,rfl,by simp[E];omega,fun i=>?_⟩
  simp only[bz]
  rcases Nat.lt_or_ge i args.length with hlt|hge
  ·have e1:args.getD i (.sc undef)=args[i]:=by simp[List.getD,List.getElem?_eq_getElem hlt]
   have hv:vs[i]?=some (vs[i]'(by omega)):=Array.getElem?_eq_getElem (by omega)
   have e2:(vs++Array.replicate (fn.ntmps-vs.size) undef).getD i undef=vs[i]'(by omega):=by
    rw[Array.getD_eq_getD_getElem?,Array.getElem?_append_left (by omega),hv]
    rfl
   rw[e1,e2]
   exact h4 i _ _ hv (List.getElem?_eq_getElem hlt)
  ·have e1:args.getD i (.sc undef)= .sc undef:=by simp[List.getD,List.getElem?_eq_none hge]
   have e2:(vs++Array.replicate (fn.ntmps-vs.size) undef).getD i undef=undef:=by
    rw[Array.getD_eq_getD_getElem?,Array.getElem?_append_right (by omega),Array.getElem?_replicate]
    split<;>rfl
   rw[e1,e2]
   exact .sc
 have hw:=bE (E:=E) body _ _ hc (h E rfl rfl rfl (fun _ h=>h) rfl) _ _ r
 refine calls_of_wp hf hb (wp_mono hw fun e a' w' h'=>?_)
 obtain⟨s',hq,ρ,ok',g',_,hd,_,hr⟩:=h'
 have fin:(∃id es,km P s' fn.results.toList=some (.ref id 0 0)∧s'.H[id]?=some (some ⟨ty,k,es⟩)∧(∀e,e∈es→∀a,a∈e→Imm a)∧Q es)→a'.defers=[]∧∃v,(results fn a'.tmps).run P w'= .ok v w'∧
   ∃(b cap:Nat) (es:List (List AV)),Ending.returned v= .returned (.pointer (some ⟨b,0,none⟩))∧Q es∧w.heap.size≤b∧b<w'.heap.size∧(∀e,e∈es→e.length=k)∧
   ur w' (fun _=>none) [] (fun x=>(ok x∨(w.heap.size≤x∧x<w'.heap.size))∧x≠b) ⟨ty,k,es⟩ b cap∧(∀e,e∈es→∀a,a∈e→Imm a)∧w.grownBy w' row∧Inv row src ok w':=by
  rintro⟨id,es,hres,ho,hi,hq⟩
  obtain⟨v,hrun,hrep⟩:=pq (E:=E) g' hr hres
  refine⟨hd,v,hrun,?_⟩
  cases hrep with
  |refDead hd' _=>rw[ho]at hd';cases hd'
  |@ref _ _ _ o b cap ho' hρ hcap=>
   rw[ho]at ho'
   simp only[Option.some.injEq]at ho'
   subst ho'
   have hobj:=g'.obj id _ ho
   rw[hρ]at hobj
   obtain⟨a1,a2,a3⟩:=g'.own id _ b cap ho hρ
   have hb1:w.heap.size≤b:=a3.resolve_left (fun h=>h)
   refine⟨b,cap,es,by simp,hq,hb1,hobj.lt,g'.len id _ ho,?_,hi,⟨g'.os,g'.tape,g'.output,g'.size,fun k hk hne=>g'.blk k hk (fun h=>h) hne⟩,⟨h2.1.1,h2.1.2.at g'.inv.1.2⟩,fun p hp=>g'.inv.2 p hp⟩
   obtain⟨cur,c1,c2,c3,c4,c5⟩:=hobj.cells hcap
   refine⟨cur,c1,c2,c3,c4,fun i e j a he ha=>?_⟩
   obtain⟨c,d1,d2,d3⟩:=c5 i e j a he ha
   refine⟨c,d1,d2,d3.imm (fun x hx=>⟨?_,fun e=>a1 (e▸hx)⟩) (hi e (List.mem_of_getElem? he) a (List.mem_of_getElem? ha))⟩
   obtain⟨x1,_,x3⟩:=g'.oks x hx
   exact x3.imp (fun h=>h) fun h=>⟨h,x1⟩
 cases e with
 |normal=>exact fin hq
 |ret=>exact fin hq
 |_=>exact hq.elim
section
variable {E:Env}
theorem Ha {P:Program} {f:FuncId} {args:List AV} {args':List AV} {H:ab} {ty:TypeId} {k:Nat} {Q:List (List AV)→Prop} {C:AV→ab→Prop} {b:Bx C} (h:NO P E.row E.src f args' ty k Q) (hP:E.P=P) (hen:aa P f=true) (ha:Args H args args') (hn:∀a,a∈args→jM a=[])
  (hex:∃es,Q es) (hC:∀es,Q es→C (.ref H.length 0 0) (H++[some ⟨ty,k,es⟩])):kK E f args H C b:=by
 subst hP
 obtain⟨es0,hq0⟩:=hex
 refine .inl ⟨hen,⟨_,_,hC es0 hq0⟩,fun w ρ ok vs g hs hr=>?_⟩
 have hr':∀(i:Nat) (v:Value) (a:AV),vs[i]?=some v→args'[i]?=some a→iH w ok v a:=fun i v a' hv ha'=>by
  obtain⟨a,h1,h2,h3⟩:=ha.get i a' ha'
  refine ((jY (fun _=>False) g (hr i v a hv h1) h3 (fun id hid=>?_)).weak h2).ext ⟨by simp,by simp,?_,fun _ _=>rfl⟩
  ·rw[hn a (List.mem_of_getElem? h1)]at hid;cases hid
  ·rintro b (hb|⟨_,_,_,hf,_⟩)
   ·exact hb
   ·exact hf.elim
 refine (h w ok vs (fun b hb=>⟨(g.oks b hb).1,(g.oks b hb).2.1⟩) g.inv (hs.trans ha.len) hr').mono ?_
 rintro e w' ⟨b,cap,es,rfl,hq,hb1,hb2,hlen,hobj,hi,hg,hinv⟩
 obtain⟨g1,x1⟩:=g.call (ok':=fun x=>(ok x∨(w.heap.size≤x∧x<w'.heap.size))∧x≠b) hg hinv (fun x hx=>⟨.inl hx,fun e=>by have:=(g.oks x hx).1;omega⟩) (fun x hx=>hx.1)
 have hcm:cap≤maxLen:=hobj.choose_spec.2.2.2.1
 have hobj':ObjOk w' ρ H (fun x=>(ok x∨(w.heap.size≤x∧x<w'.heap.size))∧x≠b) ⟨ty,k,es⟩ (some (b,cap)):=by
  obtain⟨cur,c1,c2,c3,c4,c5⟩:=hobj
  refine .inl ⟨cur,c1,c2,c3,c4,fun i e j a he ha=>?_⟩
  obtain⟨c,d1,d2,d3⟩:=c5 i e j a he ha
  exact⟨c,d1,d2,d3.imm (fun x hx=>hx) (hi e (List.mem_of_getElem? he) a (List.mem_of_getElem? ha))⟩
 obtain⟨g2,x2⟩:=g1.add ⟨ty,k,es⟩ (some (b,cap)) hobj' hlen (fun b' c' h'=>by
  simp only[Option.some.injEq,Prod.mk.injEq]at h'
  obtain⟨rfl,rfl⟩:=h'
  refine⟨fun hx=>hx.2 rfl,fun id o c ho hρ=>?_,fun hrow=>?_,.inr (Nat.le_trans g.size hb1)⟩
  ·have:=g.obj id o ho
   rw[hρ]at this
   have:=this.lt
   omega
  ·have:=g.row_lt hrow.symm
   omega)
 refine⟨_,.ref H.length 0 0,H++[some ⟨ty,k,es⟩],_,_,rfl,hC es hq,g2,x1.trans x2,?_⟩
 have:=Rep.ref (w:=w') (ρ:=eT ρ H.length (some (b,cap))) (H:=H++[some ⟨ty,k,es⟩]) (ok:=fun x=>(ok x∨(w.heap.size≤x∧x<w'.heap.size))∧x≠b) (id:=H.length) (i:=0) (j:=0) (o:=⟨ty,k,es⟩) (b:=b) (cap:=cap) cx (by simp[eT]) hcm
 simpa using this
theorem qN {w:World} {ρ:aR} {H:ab} {ok:Nat→Prop} {xs:List Int} {v:Value} (r:Rep w ρ H ok v (.list 1 (xs.map fun x=>[.sc (.int .i64 x)]))):
  ∃A c,v= .slice A xs.length c∧∀i,i<xs.length→∃ad,A=some ad∧ok ad.block∧∃x,x∈xs∧w.cell? (ad.add i)=some (.int .i64 x):=by
 generalize hes:xs.map (fun x=>[AV.sc (.int .i64 x)])=es at r
 cases r with
 |listNil=>simp at hes;subst hes;exact⟨_,_,rfl,by simp⟩
 |@list ad n c _ _ f hn hnc hok hk hc h1 hr=>
  subst hes
  refine⟨some ad,c,by simp at hn;rw[hn],fun i hi=>⟨ad,rfl,hok,xs[i],List.getElem_mem hi,?_⟩⟩
  have he:(xs.map (fun x=>[AV.sc (.int .i64 x)]))[i]?=some [.sc (.int .i64 xs[i])]:=by simp[List.getElem?_map,List.getElem?_eq_getElem hi]
  have:=hr i _ 0 _ he rfl
  have e:=bX this
  have h2:=hc i _ 0 _ he rfl
  rw[e]at h2
  simpa using h2
theorem Hq {c:Code} {s:St} {Q:Exit→St→Prop} (j:Nat) {ty:TypeId} {xs:List Int} {at_:Nat} (hrow:E.row=none) (hsrc:E.src=none) (hW:∀b,¬E.W b) (ht:s.t j= .ref 0 0 0) (hH:s.H=[some ⟨ty,2,[[.list 1 (xs.map fun x=>[.sc (.int .i64 x)]),.sc (.int .i64 at_)]]⟩])
  (hat:at_≤xs.length) (hl:xs.length≤900) (hx:∀x,x∈xs→ -9223372036854775808≤x∧x≤9223372036854775807) (hco:e8 E.N c=true)
  (h:∀(E':Env) (p:Nat),E'.P=E.P→E'.row=some p→E'.N=E.N→(∀b,¬E'.W b)→awp E' c ⟨upd s.t j (.sc (.pointer (some ⟨p,0,none⟩))),[none]⟩ Q):AWp E c s Q:=by
 rintro a w ⟨ρ,ok,g,hx0,hd,hs,hr⟩
 have h0:s.H[0]?=some (some ⟨ty,2,[[.list 1 (xs.map fun x=>[.sc (.int .i64 x)]),.sc (.int .i64 at_)]]⟩):=by rw[hH];rfl
 have hv:=hr j
 rw[ht]at hv
 obtain⟨o,b,cap,ho,hρ,hcap,hve⟩:∃o b cap,s.H[0]?=some (some o)∧ρ 0=some (b,cap)∧cap≤maxLen∧a.tmps.getD j undef= .pointer (some ⟨b,0*o.k+0,none⟩):=by
  generalize hgen:a.tmps.getD j undef=v at hv
  cases hv with
  |ref ho hρ hcap=>exact⟨_,_,_,ho,hρ,hcap,rfl⟩
  |refDead hd _=>rw[h0]at hd;cases hd
 rw[h0]at ho
 simp only[Option.some.injEq]at ho
 subst ho
 have hobj:=g.obj 0 _ h0
 rw[hρ]at hobj
 obtain⟨hb1,_,hb3⟩:=g.own 0 _ b cap h0 hρ
 have hb3:=hb3.resolve_left (hW b)
 have hblt:=hobj.lt
 obtain⟨cur,c1,c2,c3,c4,c5⟩:=hobj.cells hcap
 obtain⟨v0,d1,d2,d3⟩:=c5 0 _ 0 _ rfl rfl
 obtain⟨v1,e1,e2,e3⟩:=c5 0 _ 1 _ rfl rfl
 obtain⟨A,c',rfl,hA⟩:=qN d3
 have e3:=bX e3
 subst e3
 let src:Option Nat:=if 0<xs.length then A.map (·.block)else none
 let E':Env:={P:=E.P,w0:=w,okA:=ok,row:=some b,src:=src,N:=E.N,W:=fun _=>False,ρ0:=ρ,H0:=[none]}
 have hsok:∀b',src=some b'→ok b':=fun b' hb'=>by
  simp only[src]at hb'
  split at hb'
  ·rename_i h0
   obtain⟨ad,rfl,hk,_⟩:=hA 0 h0
   simp at hb'
   exact hb'▸hk
  ·cases hb'
 have hS:OK src w b:=by
  refine⟨cur,A,xs.length,c',at_,ty,⟨c1,by simpa using d1,by simpa using e1⟩,hat,hl,fun i hi=>?_⟩
  obtain⟨ad,rfl,hk,x,hxm,hc⟩:=hA i hi
  refine⟨ad,x,rfl,?_,fun e=>hb1 (e▸hk),hc,hx x hxm⟩
  simp only[src]
  rw[if_pos (by omega)]
  rfl
 have gE:Good E' w ρ [none] ok:=by
  have hlive:∀(id:Nat) (o:AObj),([none]:ab)[id]?=some (some o)→False:=fun id o ho=>by
   match id,ho with
   |0,ho=>simp at ho
   |id+1,ho=>simp at ho
  refine⟨rfl,rfl,rfl,Nat.le_refl _,fun _ _ _ _=>rfl,⟨⟨hsok,g.inv.1.2⟩,fun p hp=>?_⟩,fun b' hb'=>⟨(g.oks b' hb').1,fun e=>?_,.inl hb'⟩,fun id o _ _ ho _=>(hlive id o ho).elim,fun id o _ _ _ _ _ ho _ _ _=>(hlive id o ho).elim,fun id o ho=>(hlive id o ho).elim,fun id o ho=>(hlive id o ho).elim⟩
  ·cases hp;exact hS
  ·simp only[E',Option.some.injEq]at e
   subst e
   exact hb1 hb'
 have hext:Ext w ρ s.H ok w ρ [none] ok:=by
  refine⟨fun id o ho=> .inl ?_,fun id ho=>?_,fun _ h=>h,fun _ _=>rfl⟩
  ·rw[hH]at ho
   match id,ho with
   |0,ho=>rfl
   |id+1,ho=>simp at ho
  ·rw[hH]at ho
   match id,ho with
   |0,ho=>simp at ho
   |id+1,ho=>simp at ho
 have rE:Rel E' ⟨upd s.t j (.sc (.pointer (some ⟨b,0,none⟩))),[none]⟩ a w:=by
  refine⟨ρ,ok,gE,Ext.refl _ _ _ _,hd,hs,fun i=>?_⟩
  simp only[upd]
  split
  ·rename_i hi
   subst hi
   rw[hve]
   simp only[Nat.zero_mul,Nat.zero_add]
   exact .sc
  ·exact (hr i).ext hext
 refine wp_mono (bE (E:=E') c _ Q hco (h E' b rfl rfl rfl (fun _ h=>h)) a w rE) fun e a' w' h'=>?_
 obtain⟨s',hq,ρ',ok',g',hx',hd',hs',hr'⟩:=h'
 refine⟨s',hq,ρ',ok',⟨g'.os.trans g.os,g'.tape.trans g.tape,g'.output.trans g.output,Nat.le_trans g.size g'.size,fun b' hb' hW' hr'=>?_,⟨⟨fun b' hb'=>(by rw[hsrc]at hb';cases hb'),g'.inv.1.2⟩,fun p hp=>(by rw[hrow]at hp;cases hp)⟩,fun b' hb'=>?_,fun id o b' c ho hρ=>?_,g'.inj,g'.len,g'.obj⟩,(hx0.trans hext).trans hx',hd',hs',hr'⟩
 ·refine (g'.blk b' (Nat.lt_of_lt_of_le hb' g.size) (fun h=>h) (fun e=>?_)).trans (g.blk b' hb' hW' hr')
  simp only[E',Option.some.injEq]at e
  omega
 ·obtain⟨x1,x2,x3⟩:=g'.oks b' hb'
  refine⟨x1,by rw[hrow];simp,?_⟩
  rcases x3 with x3|x3
  ·exact (g.oks b' x3).2.2
  ·exact .inr (Nat.le_trans g.size x3)
 ·obtain⟨x1,x2,x3⟩:=g'.own id o b' c ho hρ
  exact⟨x1,by rw[hrow];simp,.inr (Nat.le_trans g.size (x3.resolve_left (fun h=>h)))⟩
theorem bG {a b:Code} {s:St} {Q:Exit→St→Prop} (hc:e8 E.N a=true) (h:awp E a s (vH (fun s'=>AWp E b s' Q) Q)):AWp E (.seq a b) s Q:=by
 intro x w r
 refine wp_seq (wp_mono (bE a s _ hc h x w r) fun e a' w' h'=>?_)
 obtain⟨s',h1,h2⟩:=h'
 cases e with
 |normal=>exact h1 a' w' h2
 |_=>exact⟨s',h1,h2⟩
end
theorem dX {P:Program} {row src:Option Nat} {f:FuncId} {args:List AV} {Q:AV→Prop} {fn:Func} {body:Code}
  (hf:P.funcs[f]?=some fn) (hb:fn.body=some body) (hn:args.length≤fn.ntmps)
  (h:∀E:Env,E.P=P→E.row=row→E.src=src→(∀b,¬E.W b)→E.N=fn.ntmps→AWp E body ⟨bz args,[]⟩ (xU P fn.results.toList Q)):PFun P row src f args Q:=by
 have key:∀E:Env,E.P=P→E.row=row→E.src=src→(∀b,¬E.W b)→E.N=fn.ntmps→AWp E body ⟨bz args,[]⟩ (xU P fn.results.toList Q):=h
 exact tF hf hb hn key
open Go.RowKit
def AM (P:Program) (rs:List ResultVar) (C:AV→ab→Prop):Exit→St→Prop
 | .normal,s| .ret,s=>match km P s rs with
  |some r=>C r s.H
  |none=>False
 |_,_=>False
def MFun (P:Program) (row src:Option Nat) (f:FuncId) (args:List AV) (H:ab) (C:AV→ab→Prop):Prop:=
 ∀E:Env,E.P=P→E.row=row→E.src=src→ACall E f args H C
theorem MFun.mono {P:Program} {row src:Option Nat} {f:FuncId} {args:List AV} {H:ab} {C D:AV→ab→Prop} (h:MFun P row src f args H C) (hd:∀x H',C x H'→D x H'):MFun P row src f args H D:=
 fun E h1 h2 h3=>(h E h1 h2 h3).mono hd
theorem sX {P:Program} {row src:Option Nat} {f:FuncId} {args:List AV} {H:ab} {C:AV→ab→Prop} {fn:Func} {body:Code}
  (hf:P.funcs[f]?=some fn) (hb:fn.body=some body) (hn:args.length≤fn.ntmps) (hex:∃x H',C x H')
  (h:∀E:Env,E.P=P→E.row=row→E.src=src→E.N=fn.ntmps→AWp E body ⟨bz args,H⟩ (AM P fn.results.toList C)):MFun P row src f args H C:=by
 intro E hP hrow hsrc
 refine⟨hex,fun w ρ ok vs g hsz hrep=>?_⟩
 subst hP;subst hrow;subst hsrc
 let E':Env:={P:=E.P,w0:=w,okA:=ok,row:=E.row,src:=E.src,N:=fn.ntmps,W:=fun b=>∃id o c,H[id]?=some (some o)∧ρ id=some (b,c),ρ0:=ρ,H0:=H}
 have gE:Good E' w ρ H ok:=⟨rfl,rfl,rfl,Nat.le_refl _,fun _ _ _ _=>rfl,g.inv,fun b hb=>⟨(g.oks b hb).1,(g.oks b hb).2.1,.inl hb⟩,fun id o b c ho hρ=>⟨(g.own id o b c ho hρ).1,(g.own id o b c ho hρ).2.1,.inl ⟨id,o,c,ho,hρ⟩⟩,g.inj,g.len,g.obj⟩
 have r:Rel E' ⟨bz args,H⟩ {tmps:=vs++Array.replicate (fn.ntmps-vs.size) undef,defers:=[]} w:=by
  refine⟨ρ,ok,gE,Ext.refl _ _ _ _,rfl,by simp[E'];omega,fun i=>?_⟩
  simp only[bz]
  rcases Nat.lt_or_ge i args.length with hlt|hge
  ·have e1:args.getD i (.sc undef)=args[i]:=by simp[List.getD,List.getElem?_eq_getElem hlt]
   have hv:vs[i]?=some (vs[i]'(by omega)):=Array.getElem?_eq_getElem (by omega)
   have e2:(vs++Array.replicate (fn.ntmps-vs.size) undef).getD i undef=vs[i]'(by omega):=by
    rw[Array.getD_eq_getD_getElem?,Array.getElem?_append_left (by omega),hv]
    rfl
   rw[e1,e2]
   exact hrep i _ _ hv (List.getElem?_eq_getElem hlt)
  ·have e1:args.getD i (.sc undef)= .sc undef:=by simp[List.getD,List.getElem?_eq_none hge]
   have e2:(vs++Array.replicate (fn.ntmps-vs.size) undef).getD i undef=undef:=by
    rw[Array.getD_eq_getD_getElem?,Array.getElem?_append_right (by omega),Array.getElem?_replicate]
    split<;>rfl
   rw[e1,e2]
   exact .sc
 refine calls_of_wp hf hb (wp_mono (h E' rfl rfl rfl rfl _ _ r) fun e a' w' h'=>?_)
 obtain⟨s',hq,ρ',ok',g',hx',hd,_,hr⟩:=h'
 have gF:Good E w' ρ' s'.H ok':=by
  have hnW:∀b,b<E.w0.heap.size→¬E.W b→¬E'.W b:=fun b hb hW ⟨id,o,c,ho,hρ⟩=>by
   rcases (g.own id o b c ho hρ).2.2 with h|h
   ·exact hW h
   ·omega
  refine⟨g'.os.trans g.os,g'.tape.trans g.tape,g'.output.trans g.output,Nat.le_trans g.size g'.size,fun b hb hW hr'=>(g'.blk b (Nat.lt_of_lt_of_le hb g.size) (hnW b hb hW) hr').trans (g.blk b hb hW hr'),g'.inv,fun b hb=>?_,fun id o b c ho hρ=>?_,g'.inj,g'.len,g'.obj⟩
  ·obtain⟨x1,x2,x3⟩:=g'.oks b hb
   refine⟨x1,x2,?_⟩
   rcases x3 with x3|x3
   ·exact (g.oks b x3).2.2
   ·exact .inr (Nat.le_trans g.size x3)
  ·obtain⟨x1,x2,x3⟩:=g'.own id o b c ho hρ
   refine⟨x1,x2,?_⟩
   rcases x3 with⟨id',o',c',ho',hρ'⟩|x3
   ·exact (g.own id' o' b c' ho' hρ').2.2
   ·exact .inr (Nat.le_trans g.size x3)
 have fin:∀{r:AV},km E.P s' fn.results.toList=some r→C r s'.H→a'.defers=[]∧∃v,(results fn a'.tmps).run E.P w'= .ok v w'∧
   ∃(v':Value) (x:AV) (H':ab) (ρ':aR) (ok':Nat→Prop),Ending.returned v= .returned v'∧C x H'∧Good E w' ρ' H' ok'∧Ext w ρ H ok w' ρ' H' ok'∧Rep w' ρ' H' ok' v' x:=by
  intro r hres hc
  obtain⟨v,hrun,hrep'⟩:=pq (E:=E) gF hr hres
  exact⟨hd,v,hrun,v,r,s'.H,ρ',ok',rfl,hc,gF,hx',hrep'⟩
 cases e with
 |normal=>
  simp only[AM]at hq
  split at hq
  ·rename_i r hres;exact fin hres hq
  ·exact hq.elim
 |ret=>
  simp only[AM]at hq
  split at hq
  ·rename_i r hres;exact fin hres hq
  ·exact hq.elim
 |_=>exact hq.elim
theorem al {P:Program} {row src:Option Nat} {f:FuncId} {args:List AV} {H:ab} {C:AV→ab→Prop} {fn:Func} {body:Code}
  (hf:P.funcs[f]?=some fn) (hb:fn.body=some body) (hn:args.length≤fn.ntmps) (hc:e8 fn.ntmps body=true) (hex:∃x H',C x H')
  (h:∀E:Env,E.P=P→E.row=row→E.src=src→E.N=fn.ntmps→awp E body ⟨bz args,H⟩ (AM P fn.results.toList C)):MFun P row src f args H C:=
 sX hf hb hn hex fun E h1 h2 h3 h5=>bE body _ _ (h5▸hc) (h E h1 h2 h3 h5)
theorem QS {P:Program} {rs:List ResultVar} {C:AV→ab→Prop} {s:St}:AM P rs C .ret s=OB (km P s rs) (fun r=>C r s.H) .mk:=by
 simp only[AM]
 cases km P s rs<;>rfl
theorem Ic {P:Program} {rs:List ResultVar} {C:AV→ab→Prop} {s:St}:AM P rs C .normal s=OB (km P s rs) (fun r=>C r s.H) .mk:=by
 simp only[AM]
 cases km P s rs<;>rfl
attribute [go_sem ↓] QS Ic
theorem ar {E:Env} {f:FuncId} {args:List AV} {H:ab} {C C':AV→ab→Prop} {b:Bx C} {P:Program} (h:MFun P E.row E.src f args H C') (hP:E.P=P) (hen:aa P f=true) (hC:∀r H',C' r H'→C r H'):kK E f args H C b:=
 .inl ⟨hP▸hen,(h E hP rfl rfl).mono hC⟩
def Kept (X:List Nat) (H H':ab):Prop:=∀j o,j∉X→H[j]?=some (some o)→H'[j]?=some (some o)
theorem ai (X:List Nat) (H:ab):Kept X H H:=fun _ _ _ h=>h
theorem Kept.trans {X:List Nat} {H H' H'':ab} (h:Kept X H H') (k:Kept X H' H''):Kept X H H'':=fun j o hj ho=>k j o hj (h j o hj ho)
theorem az {X:List Nat} {H H':ab} (x:Option AObj) (h:Kept X H H'):Kept X H (H'++[x]):=fun j o hj ho=>by
 have:=h j o hj ho
 rw[List.getElem?_append_left (gsI this)]
 exact this
theorem ap (X:List Nat) (H l:ab):Kept X H (H++l):=fun j o _ ho=>by
 rw[List.getElem?_append_left (gsI ho)]
 exact ho
theorem ay {X:List Nat} {H H':ab} {i:Nat} (x:Option AObj) (hi:i∈X) (h:Kept X H H'):Kept X H (H'.set i x):=fun j o hj ho=>by
 rw[List.getElem?_set_ne (by rintro rfl;exact hj hi)]
 exact h j o hj ho
theorem cG {X:List Nat} {H H':ab} {i:Nat} (x:Option AObj) (hi:H.length≤i) (h:Kept X H H'):Kept X H (H'.set i x):=fun j o hj ho=>by
 have:=(gsI ho)
 rw[List.getElem?_set_ne (by omega)]
 exact h j o hj ho
theorem Kept.mono {X Y:List Nat} {H H':ab} (h:Kept X H H') (hs:∀x,x∈X→x∈Y):Kept Y H H':=fun j o hj ho=>h j o (fun hx=>hj (hs _ hx)) ho
theorem qh {P:Program} {row src:Option Nat} {f:FuncId} {args args':List AV} {Q:AV→Prop} {H:ab} (h:PFun P row src f args' Q) (ha:Args H args args') (hex:∃r,Q r) (hfl:∀r,Q r→Flat r):MFun P row src f args H (fun r H'=>Q r∧H'=H):=by
 intro E hP hrow hsrc
 subst hrow;subst hsrc
 exact lF args' hP h ha hex hfl fun r hr=>⟨hr,rfl⟩
theorem bu {P:Program} {row src:Option Nat} {f:FuncId} {args:List AV} {k:Nat} {H:ab} {C:AV→ab→Prop} (h:∀A c,MFun P row src f (.sc (.slice A 0 c)::args) H C):MFun P row src f (.list k []::args) H C:=by
 intro E hP hrow hsrc
 refine⟨(h none 0 E hP hrow hsrc).1,fun w ρ ok vs g hs hr=>?_⟩
 have h0:0<vs.size:=by rw[hs];simp
 have hv:=hr 0 vs[0] (.list k []) (Array.getElem?_eq_getElem h0) rfl
 have key:∃A c,vs[0]= .slice A 0 c:=by
  generalize vs[0]=v at hv
  cases hv with
  |listNil=>exact⟨_,_,rfl⟩
  |list f hn _ _ _ _ _ _=>subst hn;exact⟨_,_,rfl⟩
 obtain⟨A,c,hA⟩:=key
 refine (h A c E hP hrow hsrc).2 w ρ ok vs g hs fun i v a hv ha=>?_
 match i,hv,ha with
 |0,hv,ha=>
  rw[Array.getElem?_eq_getElem h0,hA]at hv
  simp at hv ha
  subst hv;subst ha
  exact .sc
 |i+1,hv,ha=>exact hr (i+1) v a hv ha
theorem MFun.ownNil {P:Program} {row src:Option Nat} {f:FuncId} {args:List AV} {H:ab} {C:AV→ab→Prop} (ty:TypeId) (k:Nat) (h:MFun P row src f args H C):
  MFun P row src f args H (fun r H'=>(∃H0,C .nil H0∧r= .sref H0.length 0 0∧H'=H0++[some ⟨ty,k,[]⟩])∨(r≠ .nil∧C r H')):=by
 intro E hP hrow hsrc
 obtain⟨⟨x0,H0,h0⟩,hw⟩:=h E hP hrow hsrc
 refine⟨?_,fun w ρ ok vs g hs hr=>(hw w ρ ok vs g hs hr).mono ?_⟩
 ·by_cases hx:x0= .nil
  ·subst hx;exact⟨_,_,.inl ⟨H0,h0,rfl,rfl⟩⟩
  ·exact⟨_,_,.inr ⟨hx,h0⟩⟩
 ·rintro e w' ⟨v,x,H',ρ',ok',rfl,hc,g',x',r'⟩
  by_cases hx:x= .nil
  ·subst hx
   obtain⟨g2,x2⟩:=g'.add ⟨ty,k,[]⟩ none rfl (by simp) (by simp)
   refine⟨v,_,_,_,_,rfl,.inl ⟨H',hc,rfl,rfl⟩,g2,x'.trans x2,?_⟩
   cases r'
   exact .srefNil cx (by simp[eT])
  ·exact⟨v,x,H',ρ',ok',rfl,.inr ⟨hx,hc⟩,g',x',r'⟩
def SlIs (H:ab) (x:AV) (k:Nat) (es:List (List AV)):Prop:=x= .list k es∨(x= .nil∧es=[])∨∃id ty,x= .sref id 0 es.length∧H[id]?=some (some ⟨ty,k,es⟩)
theorem SlIs.kept {H H':ab} {x:AV} {k:Nat} {es:List (List AV)} (h:SlIs H x k es) (hk:Kept [] H H'):SlIs H' x k es:=by
 rcases h with h|h|⟨id,ty,h1,h2⟩
 ·exact .inl h
 ·exact .inr (.inl h)
 ·exact .inr (.inr ⟨id,ty,h1,hk id _ (by simp) h2⟩)
theorem SlIs.len {H:ab} {x:AV} {k:Nat} {es:List (List AV)} (h:SlIs H x k es):jL H x=some (es.length:Int):=by
 rcases h with h|⟨rfl,rfl⟩|⟨id,ty,rfl,h2⟩
 ·subst h;rfl
 ·rfl
 ·simp only[jL,h2]
theorem SlIs.idx {P:Program} {t e:TypeId} {H:ab} {x:AV} {k:Nat} {es:List (List AV)} (h:SlIs H x k es) (ht:Go.PA.aQ P t=some e) (hk:k=aw P e) (hn:aA P e=true) (i:Nat) (hi:i<es.length):
  ∃a,bm P t H x i=some a∧aM H a=some es[i]:=by
 rcases h with h|⟨rfl,rfl⟩|⟨id,ty,rfl,h2⟩
 ·subst h
  refine⟨.iref es[i],?_,rfl⟩
  rw[uP ht]
  simp[hk,hn,hi]
 ·simp at hi
 ·refine⟨.ref id i 0,?_,?_⟩
  ·rw[vD ht]
   simp[h2,hk,hn,hi]
  ·rw[uS]
   simp[h2,hi]
theorem lY {E:Env} {s:St} (hW:∀b,¬E.W b) (j:Nat) {id lo n:Nat} {o:AObj} (hj:s.t j= .sref id lo n) (ho:s.H[id]?=some (some o)) (hi:Imm (.list o.k ((o.es.drop lo).take n))):
  Weaker E s ⟨upd s.t j (.list o.k ((o.es.drop lo).take n)),s.H.set id none⟩:=by
 rintro a w ⟨ρ,ok,g,hx,hd,hs,hr⟩
 obtain⟨g',x'⟩:=g.kill id (fun b=>ok b∨∃o c,s.H[id]?=some (some o)∧ρ id=some (b,c)) (fun _ h=> .inl h) (fun b hb=>hb.imp (fun h=>h) fun⟨o,c,h1,h2⟩=>⟨o,c,h1,h2,hW b⟩)
 refine⟨ρ,_,g',hx.trans x',hd,hs,fun i=>?_⟩
 simp only[upd]
 split
 ·rename_i hij
  subst hij
  have hv:=hr i
  have hview:dg s.H (s.t i)= .list o.k ((o.es.drop lo).take n):=by rw[hj,go,ho,fG]
  have:=jY (fun x=>x=id) g hv (by rw[hview];exact hi) (fun x hx=>by rw[hj]at hx;simpa[jM,rC,kj]using hx)
  rw[hview]at this
  refine this.imm (fun b hb=>?_) hi
  rcases hb with hb|⟨x,o',c,rfl,h1,h2⟩
  ·exact .inl hb
  ·exact .inr ⟨o',c,h1,h2⟩
 ·exact (hr i).ext x'
def AC (j n:Nat) (I:Nat→St→Prop) (Q:Exit→St→Prop) (_:Bx (I,Q)):Exit→St→Prop
 | .normal,s'=>∃n',n'<n∧I n' s'
 | .exit i,s'=>∃id lo m o,s'.t j= .sref id lo m∧s'.H[id]?=some (some o)∧Imm (.list o.k ((o.es.drop lo).take m))∧Q (.exit i) ⟨upd s'.t j (.list o.k ((o.es.drop lo).take m)),s'.H.set id none⟩
 |x,s'=>Q x s'
theorem xJ {j n:Nat} {I:Nat→St→Prop} {Q:Exit→St→Prop} {b:Bx (I,Q)} {s:St}:AC j n I Q b .normal s=(∃n',n'<n∧I n' s):=rfl
theorem EX {j n:Nat} {I:Nat→St→Prop} {Q:Exit→St→Prop} {b:Bx (I,Q)} {s:St}:AC j n I Q b .ret s=Q .ret s:=rfl
def Frz (j:Nat) (s:St) (k:St→Prop):Prop:=∃id lo m o,s.t j= .sref id lo m∧s.H[id]?=some (some o)∧Imm (.list o.k ((o.es.drop lo).take m))∧k ⟨upd s.t j (.list o.k ((o.es.drop lo).take m)),s.H.set id none⟩
theorem EC {j n i:Nat} {I:Nat→St→Prop} {Q:Exit→St→Prop} {b:Bx (I,Q)} {s:St}:AC j n I Q b (.exit i) s=Frz j s (Q (.exit i)):=rfl
theorem frz {j:Nat} {s:St} {k:St→Prop} (id n:Nat) (ty:TypeId) (kk:Nat) (es:List (List AV)) (h1:s.t j= .sref id 0 n) (h2:s.H[id]?=some (some ⟨ty,kk,es⟩)) (hn:n=es.length) (hi:Imm (.list kk es)) (h:k ⟨upd s.t j (.list kk es),s.H.set id none⟩):Frz j s k:=by
 refine⟨id,0,n,_,h1,h2,?_,?_⟩
 ·simpa[hn]using hi
 ·simpa[hn]using h
attribute [go_sem ↓] xJ EC EX
theorem Ky {E:Env} {c:Code} {s0:St} {Q:Exit→St→Prop} {b:Bx (c,Q)} (j:Nat) (hW:∀b,¬E.W b) (I:Nat→St→Prop) (n0:Nat) (hc:e8 E.N c=true) (h0:I n0 s0)
  (round:∀n s,I n s→awp E c s (AC j n I Q .mk)):pT E c s0 Q b:=by
 intro a w r
 refine wp_loop_ghost (fun n a w=>∃s,I n s∧Rel E s a w) n0 ⟨_,h0,r⟩ fun n a w hI=>?_
 obtain⟨s,hs,r⟩:=hI
 refine wp_mono (bE c s _ hc (round n s hs) a w r) fun e a' w' h'=>?_
 obtain⟨s',h1,h2⟩:=h'
 cases e with
 |normal=>
  obtain⟨n',hlt,hI'⟩:=h1
  exact⟨n',hlt,_,hI',h2⟩
 |exit i=>
  obtain⟨id,lo,m,o,e1,e2,e3,e4⟩:=h1
  exact⟨_,e4,lY hW j e1 e2 e3 a' w' h2⟩
 |_=>exact⟨s',h1,h2⟩
def ac {α:Type} (enc:α→List AV) (l:List α):List (List AV):=l.map enc
section
variable {α:Type} (enc:α→List AV)
theorem JI:ac enc []=[]:=rfl
theorem af (l:List α):(ac enc l).length=l.length:=by simp[ac]
theorem cJ (l:List α) (a:α):ac enc l++[enc a]=ac enc (l++[a]):=by simp[ac]
theorem cX (l:List α) (n:Nat) (h:n=l.length):(ac enc l).take n=ac enc l:=by subst h;rw[←af enc l,List.take_length]
theorem vn (l:List α):(ac enc l).take l.length=ac enc l:=cX enc l _ rfl
theorem qy (l:List α) (i:Nat):(ac enc l)[i]?=(l[i]?).map enc:=by simp[ac]
theorem aC {k:Nat} (h:∀a c,c∈enc a→Imm c) (l:List α):Imm (.list k (ac enc l)):=by
 refine .list fun e he c hc=>?_
 simp only[ac,List.mem_map]at he
 obtain⟨a,_,rfl⟩:=he
 exact h a c hc
theorem jD (l:List α) (i:Nat) (a:α):(ac enc l).set i (enc a)=ac enc (l.set i a):=by simp[ac,List.map_set]
attribute [go_sem] JI af vn qy
end
def br {α:Type} (p:α→Bool):Nat→List α→Int
 |_,[]=> -1
 |k,a::l=>if p a=true then k else br p (k+1) l
def dC {α:Type} (p:α→Bool) (l:List α):Int:=br p 0 l
theorem qP {α:Type} (p:α→Bool):∀(l:List α) (k:Nat),(br p k l= -1∧∀a,a∈l→p a=false)∨∃(i:Nat) (a:α),l[i]?=some a∧p a=true∧br p k l=((k+i:Nat):Int)∧∀(j:Nat) (b:α),j<i→l[j]?=some b→p b=false
 |[],k=> .inl ⟨rfl,by simp⟩
 |a::l,k=>by
  simp only[br]
  by_cases h:p a=true
  ·rw[if_pos h]
   exact .inr ⟨0,a,rfl,h,rfl,fun j b hj=>by omega⟩
  ·rw[if_neg h]
   have h':p a=false:=by simpa using h
   rcases qP p l (k+1)with⟨h1,h2⟩|⟨i,b,h1,h2,h3,h4⟩
   ·refine .inl ⟨h1,fun b hb=>?_⟩
    rcases List.mem_cons.1 hb with rfl|hb
    ·exact h'
    ·exact h2 b hb
   ·refine .inr ⟨i+1,b,by simpa using h1,h2,by rw[h3];congr 1;omega,fun j c hj hc=>?_⟩
    match j,hj,hc with
    |0,hj,hc=>simp at hc;subst hc;exact h'
    |j+1,hj,hc=>exact h4 j c (by omega) (by simpa using hc)
theorem cN {α:Type} (p:α→Bool) (l:List α):(dC p l= -1∧∀a,a∈l→p a=false)∨∃(i:Nat) (a:α),l[i]?=some a∧p a=true∧dC p l=(i:Int)∧∀(j:Nat) (b:α),j<i→l[j]?=some b→p b=false:=by
 have:=qP p l 0
 simpa[dC]using this
theorem iY {H:ab} {id n:Nat} {ty:TypeId} {k:Nat} {es:List (List AV)} {as0 as':List AV} (hH:H[id]?=some (some ⟨ty,k,es⟩)) (hn:n=es.length) (hi:Imm (.list k es)) (ht:Args H as0 as'):Args H (.sref id 0 n::as0) (.list k es::as'):=by
 have hv:dg H (.sref id 0 n)= .list k es:=by rw[go,hH,fG];simp[hn]
 exact .cons (by rw[hv];exact .refl _) (by rw[hv];exact hi) ht
theorem bI {H:ab} {a:AV} {as0 as':List AV} (hi:Imm a) (ht:Args H as0 as'):Args H (a::as0) (a::as'):= .cons (by rw[kQ hi];exact .refl _) (by rw[kQ hi];exact hi) ht
theorem GH {H:ab} {k:Nat} {as0 as':List AV} (ht:Args H as0 as'):Args H (.nil::as0) (.list k []::as'):= .cons (.nil k) .nil ht
inductive CW (H:ab):List AV→List AV→Prop
 |nil:CW H [] []
 |cons {a a':AV} {as0 as':List AV} (h:Weak (cD H a) a') (hi:Imm (cD H a)) (hi':Imm a') (t:CW H as0 as'):CW H (a::as0) (a'::as')
theorem CW.len {H:ab} {as0 as':List AV} (h:CW H as0 as'):as0.length=as'.length:=by
 induction h with
 |nil=>rfl
 |cons _ _ _ _ ih=>simp[ih]
theorem CW.weak {H:ab} {as0 as':List AV} (h:CW H as0 as'):Weak (.agg (as0.map (cD H))) (.agg as'):=by
 refine .agg (by simpa using h.len) ?_
 induction h with
 |nil=>intro i a b h;simp at h
 |cons h _ _ _ ih=>
  intro i a b ha hb
  match i,ha,hb with
  |0,ha,hb=>simp at ha hb;subst ha;subst hb;exact h
  |i+1,ha,hb=>exact ih i a b (by simpa using ha) (by simpa using hb)
theorem CW.imm {H:ab} {as0 as':List AV} (h:CW H as0 as'):Imm (.agg (as0.map (cD H))):=by
 refine .agg fun c hc=>?_
 induction h with
 |nil=>simp at hc
 |cons _ h _ _ ih=>
  rcases List.mem_cons.1 hc with rfl|hc
  ·exact h
  ·exact ih hc
theorem CW.imm' {H:ab} {as0 as':List AV} (h:CW H as0 as'):Imm (.agg as'):=by
 refine .agg fun c hc=>?_
 induction h with
 |nil=>simp at hc
 |cons _ _ h _ ih=>
  rcases List.mem_cons.1 hc with rfl|hc
  ·exact h
  ·exact ih hc
theorem cg {H:ab} {a:AV} {as0 as':List AV} (hi:Imm a) (t:CW H as0 as'):CW H (a::as0) (a::as'):=by
 refine .cons ?_ ?_ hi t
 ·rw[iZ hi];exact .refl a
 ·rw[iZ hi];exact hi
theorem pR {H:ab} {v:Value} {as0 as':List AV} (t:CW H as0 as'):CW H (.sc v::as0) (.sc v::as'):=cg .sc t
theorem bK {H:ab} {k:Nat} {as0 as':List AV} (t:CW H as0 as'):CW H (.nil::as0) (.list k []::as'):= .cons (.nil k) .nil (aG.2 (by simp)) t
theorem cv {H:ab} {id n:Nat} {ty:TypeId} {k:Nat} {es:List (List AV)} {as0 as':List AV} (hH:H[id]?=some (some ⟨ty,k,es⟩)) (hn:n=es.length) (hi:Imm (.list k es)) (t:CW H as0 as'):CW H (.sref id 0 n::as0) (.list k es::as'):=by
 have hv:cD H (.sref id 0 n)= .list k es:=by rw[o6,hH,fG];simp[hn]
 exact .cons (by rw[hv];exact .refl _) (by rw[hv];exact hi) hi t
theorem BX {H:ab} {cs cs' as0 as':List AV} (h:CW H cs cs') (ht:Args H as0 as'):Args H (.agg cs::as0) (.agg cs'::as'):= .cons h.weak h.imm ht
theorem cZ {H:ab} {cs cs':List AV} {v:Value} {Q:AV→Prop} {b:Bx Q} (h:CW H cs cs') (hq:Q (.tup [.agg cs',.sc v])):mD H (.tup [.agg cs,.sc v]) Q b:=
 aB (aE h.imm .sc) (aE h.imm' .sc) (yu h.weak (.refl _)) hq
open Go.RowKit
def Br:Int→Value:=Value.int .i64
def FB:Bool→Value:=Value.bool
def mz {β:Type} (f:β→Value) (l:List (Int×β)):List (List AV):=l.map fun e=>[.sc (.int .i64 e.1),.sc (f e.2)]
def imK {β:Type} (f:β→Value) (l:List (Int×β)):List (Value×Value):=l.map fun e=>(.int .i64 e.1,f e.2)
def iM {β:Type}:List (Int×β)→Int→Option β
 |[],_=>none
 |e::l,k=>if e.1=k then some e.2 else iM l k
def tY {β:Type}:List (Int×β)→Int→β→List (Int×β)
 |[],k,v=>[(k,v)]
 |e::l,k,v=>if e.1=k then (k,v)::l else e::tY l k v
section
variable {β:Type} {f:β→Value}
theorem Bl (l:List (Int×β)):nE (mz f l)=some (l.map fun e=>(.int .i64 e.1,.sc (f e.2))):=by
 induction l with
 |nil=>rfl
 |cons e l ih=>
  simp only[mz,List.map_cons,nE]at ih⊢
  rw[ih]
  rfl
theorem ER (l:List (Int×β)):s6 (mz f l)=some (imK f l):=by
 induction l with
 |nil=>rfl
 |cons e l ih=>
  simp only[mz,List.map_cons,s6]at ih⊢
  rw[ih]
  rfl
theorem GW (l:List (Int×β)) (n:Int):qx (.int .i64) (.int .i64 n) (l.map fun e=>(.int .i64 e.1,.sc (f e.2)))=some ((iM l n).map fun b=> .sc (f b)):=by
 induction l with
 |nil=>rfl
 |cons e l ih=>
  simp only[List.map_cons,qx,Instr.sameNow,iM,if_true]
  by_cases h:n=e.1
  ·subst h;simp
  ·rw[if_neg (fun q=>h q.symm)]
   have hb:(n==e.1)=false:=by simpa using h
   rw[hb]
   simp only[ih]
theorem HL (l:List (Int×β)) (n:Int) (b:β):BU (.int .i64) (.int .i64 n) (.sc (f b)) (mz f l)=some (mz f (tY l n b)):=by
 induction l with
 |nil=>rfl
 |cons e l ih=>
  simp only[mz,List.map_cons,BU,Instr.sameNow,tY,if_true]at ih⊢
  by_cases h:n=e.1
  ·subst h;simp
  ·rw[if_neg (fun q=>h q.symm)]
   have hb:(n==e.1)=false:=by simpa using h
   rw[hb]
   simp only[ih,Option.map_some,List.map_cons]
end
section
variable {E:Env} {P:Program} {H:ab}
theorem AK {t:TypeId} {ev:Operand→AV} {C:AV→ab→Prop}:AEff E (.makeMap t none) ev H C=OV2 (.mref H.length) (H++[some ⟨0,2,[]⟩]) C .mk:=rfl
theorem xd {t:TypeId} {x k v:Operand} {ev:Operand→AV} {C:AV→ab→Prop}:AEff E (.mapUpdate t x k v) ev H C=OB (gh E.P t H (ev x) (ev k) (ev v)) (fun H'=>C (.sc undef) H') .mk:=by
 simp only[AEff]
 cases gh E.P t H (ev x) (ev k) (ev v)<;>rfl
theorem DP {t:TypeId} {x k:Operand} {c:Bool} {ev:Operand→AV} {C:AV→ab→Prop}:AEff E (.lookup t x k c) ev H C=OB (fT E.P t H (ev x) (ev k) c) (fun v=>C v H) .mk:=aY rfl
theorem EE {x:Operand} {ev:Operand→AV} {C:AV→ab→Prop}:AEff E (.entry x) ev H C=OB (rN H (ev x)) (fun v=>C v H) .mk:=aY rfl
def Ai (E:Env) (t:TypeId) (x:AV) (H:ab) (C:AV→ab→Prop) (_:Bx C):Prop:=match x with
 | .imap es=>if uF E.P t then C (.miter H.length) (H++[some ⟨0,3,[[.junk,.junk,.imap es]]⟩])else False
 |_=>False
theorem Fx {t:TypeId} {x:Operand} {ev:Operand→AV} {C:AV→ab→Prop}:AEff E (.range t x) ev H C=Ai E t (ev x) H C .mk:=by
 simp only[AEff,Ai]
 rfl
theorem Bo {t:TypeId} {es:List (Value×Value)} {C:AV→ab→Prop} {b:Bx C} (h:uF E.P t=true):Ai E t (.imap es) H C b=OV2 (.miter H.length) (H++[some ⟨0,3,[[.junk,.junk,.imap es]]⟩]) C .mk:=by
 simp only[Ai,h,if_true,OV2]
def GC (left:List (Value×Value)) (id:Nat) (o:AObj) (H:ab) (C:AV→ab→Prop) (_:Bx C):Prop:=
 (left=[]→C (.tup [.sc (.bool false)]) H)∧∀(i:Nat) (e:Value×Value),left[i]?=some e→C (.tup [.sc (.bool true),.sc e.1,.sc e.2]) (H.set id (some {o with es:=[[.sc e.1,.sc e.2,.imap (left.eraseIdx i)]]}))
def Gc (x:AV) (s:Bool) (H:ab) (C:AV→ab→Prop) (b:Bx C):Prop:=match x with
 | .miter id=>match H[id]? with
  |some (some o)=>match o.es with
   |[[_,_,.imap left]]=>s=false∧GC left id o H C b
   |_=>False
  |_=>False
 |_=>False
def Kb (y:Option (Option AObj)) (id:Nat) (H:ab) (C:AV→ab→Prop) (b:Bx C):Prop:=match y with
 |some (some o)=>match o.es with
  |[[_,_,.imap left]]=>GC left id o H C b
  |_=>False
 |_=>False
theorem G4 {x:Operand} {ev:Operand→AV} {C:AV→ab→Prop}:AEff E (.next x false) ev H C=Gc (ev x) false H C .mk:=by
 simp only[AEff,Gc,GC]
 rfl
theorem Mh {id:Nat} {C:AV→ab→Prop} {b:Bx C}:Gc (.miter id) false H C b=Kb H[id]? id H C .mk:=by
 simp only[Gc,Kb,true_and]
theorem E9 {id ty k:Nat} {a1 a2:AV} {left:List (Value×Value)} {C:AV→ab→Prop} {b:Bx C}:Kb (some (some ⟨ty,k,[[a1,a2,.imap left]]⟩)) id H C b=GC left id ⟨ty,k,[[a1,a2,.imap left]]⟩ H C .mk:=rfl
def vR (P:Program) (t:TypeId) (y:Option (Option AObj)) (k:AV) (c:Bool):Option AV:=match mn P t,k,(match y with|some (some o)=>nE o.es|_=>none)with
 |some (_,d,et),.sc kv,some es=>if lZ d kv then lkR P et c (qx d kv es)else none
 |some (kt,_,et),.agg cs,some es=>match mQ P kt with
  |some ks=>match zx ks cs with
   |some vs=>lkR P et c (sb ks vs es)
   |none=>none
  |none=>none
 |_,_,_=>none
theorem EJ {t:TypeId} {id:Nat} {k:AV} {c:Bool}:fT P t H (.mref id) k c=vR P t H[id]? k c:=rfl
theorem yQ {β:Type} {f:β→Value} {d:β} {et:TypeId} (hz:pi P et=some (.sc (f d))) (l:List (Int×β)) (n:Int) (c:Bool):
  lkR P et c (qx (.int .i64) (.int .i64 n) (l.map fun e=>(.int .i64 e.1,.sc (f e.2))))=some (if c then .tup [.sc (f ((iM l n).getD d)),.sc (.bool (iM l n).isSome)]else .sc (f ((iM l n).getD d))):=by
 rw[GW]
 unfold lkR
 cases iM l n with
 |none=>simp[hz]
 |some b=>simp
theorem uM {β:Type} {f:β→Value} {d:β} {t kt et:TypeId} (hm:mn P t=some (kt,.int .i64,et)) (hz:pi P et=some (.sc (f d))) {ty k:Nat} {l:List (Int×β)} {n:Int} {c:Bool}:
  vR P t (some (some ⟨ty,k,mz f l⟩)) (.sc (.int .i64 n)) c=some (if c then .tup [.sc (f ((iM l n).getD d)),.sc (.bool (iM l n).isSome)]else .sc (f ((iM l n).getD d))):=by
 rw[←yQ hz l n c]
 simp only[vR,hm,Bl,lZ,decide_true,if_true]
theorem DS {β:Type} {f:β→Value} {d:β} {t kt et:TypeId} (hm:mn P t=some (kt,.int .i64,et)) (hz:pi P et=some (.sc (f d))) {l:List (Int×β)} {n:Int} {c:Bool}:
  fT P t H (.imap (imK f l)) (.sc (.int .i64 n)) c=some (if c then .tup [.sc (f ((iM l n).getD d)),.sc (.bool (iM l n).isSome)]else .sc (f ((iM l n).getD d))):=by
 rw[←yQ hz l n c]
 simp only[fT,hm,ents,imK,List.map_map,lZ,decide_true,if_true]
 rfl
theorem Lb {t:TypeId} (h:Iy P t (.sc (.int .i64 0))) {ty k:Nat} {l:List (Int×Int)} {n:Int}:
  vR P t (some (some ⟨ty,k,mz Br l⟩)) (.sc (.int .i64 n)) false=some (.sc (.int .i64 ((iM l n).getD 0))):=by
 obtain⟨kt,et,hm,hz⟩:=h
 exact (uM (f:=Br) (d:=0) hm hz).trans rfl
theorem N5 {t:TypeId} (h:Iy P t (.sc (.int .i64 0))) {l:List (Int×Int)} {n:Int}:
  fT P t H (.imap (imK Br l)) (.sc (.int .i64 n)) false=some (.sc (.int .i64 ((iM l n).getD 0))):=by
 obtain⟨kt,et,hm,hz⟩:=h
 exact (DS (f:=Br) (d:=0) hm hz).trans rfl
theorem KO {t:TypeId} (h:Iy P t (.sc (.bool false))) {ty k:Nat} {l:List (Int×Bool)} {n:Int}:
  vR P t (some (some ⟨ty,k,mz FB l⟩)) (.sc (.int .i64 n)) false=some (.sc (.bool ((iM l n).getD false))):=by
 obtain⟨kt,et,hm,hz⟩:=h
 exact (uM (f:=FB) (d:=false) hm hz).trans rfl
def yD (P:Program) (t:TypeId) (id:Nat) (H:ab) (y:Option (Option AObj)) (k v:AV):Option ab:=match mn P t,k,y with
 |some (_,d,_),.sc kv,some (some o)=>if lZ d kv then (BU d kv v o.es).map fun es=>H.set id (some {o with es:=es})else none
 |some (kt,_,_),.agg cs,some (some o)=>match mQ P kt with
  |some ks=>match zx ks cs with
   |some vs=>(y3 ks vs v o.es).map fun es=>H.set id (some {o with es:=es})
   |none=>none
  |none=>none
 |_,_,_=>none
theorem HS {t:TypeId} {id:Nat} {k v:AV}:gh P t H (.mref id) k v=yD P t id H H[id]? k v:=by
 unfold gh yD
 cases mn P t with
 |none=>rfl
 |some m=>
  obtain⟨kt,d,et⟩:=m
  cases k<;>first|rfl|skip
  ·simp only
   generalize H[id]?=y
   cases y with
   |none=>simp
   |some y=>cases y with
    |none=>simp
    |some o=>rfl
  ·simp only
   generalize H[id]?=y
   cases y with
   |none=>cases mQ P kt with
    |none=>rfl
    |some ks=>simp only;split<;>rfl
   |some y=>cases y with
    |none=>cases mQ P kt with
     |none=>rfl
     |some ks=>simp only;split<;>rfl
    |some o=>rfl
theorem yH {β:Type} {f:β→Value} {t kt et:TypeId} (hm:mn P t=some (kt,.int .i64,et)) {id ty k:Nat} {l:List (Int×β)} {n:Int} {b:β}:
  yD P t id H (some (some ⟨ty,k,mz f l⟩)) (.sc (.int .i64 n)) (.sc (f b))=some (H.set id (some ⟨ty,k,mz f (tY l n b)⟩)):=by
 simp only[yD,hm,lZ,decide_true,if_true,HL,Option.map_some]
theorem Na {t:TypeId} (h:Iy P t (.sc (.int .i64 0))) {id ty k:Nat} {l:List (Int×Int)} {n b:Int}:
  yD P t id H (some (some ⟨ty,k,mz Br l⟩)) (.sc (.int .i64 n)) (.sc (.int .i64 b))=some (H.set id (some ⟨ty,k,mz Br (tY l n b)⟩)):=by
 obtain⟨kt,et,hm,hz⟩:=h
 exact yH (f:=Br) hm
theorem N7 {t:TypeId} (h:Iy P t (.sc (.bool false))) {id ty k:Nat} {l:List (Int×Bool)} {n:Int} {b:Bool}:
  yD P t id H (some (some ⟨ty,k,mz FB l⟩)) (.sc (.int .i64 n)) (.sc (.bool b))=some (H.set id (some ⟨ty,k,mz FB (tY l n b)⟩)):=by
 obtain⟨kt,et,hm,hz⟩:=h
 exact yH (f:=FB) hm
def Gl (y:Option (Option AObj)):Option AV:=match y with
 |some (some o)=>match o.es with
  |[[.sc k,.sc v,_]]=>some (.tup [.sc k,.sc v])
  |_=>none
 |_=>none
theorem Im {id:Nat}:rN H (.miter id)=Gl H[id]?:=rfl
theorem AJ {ty k:Nat} {a b:Value} {c:AV}:Gl (some (some ⟨ty,k,[[.sc a,.sc b,c]]⟩))=some (.tup [.sc a,.sc b]):=rfl
def Ch (y:Option (Option AObj)):AV:=match y with
 |some (some o)=>match s6 o.es with
  |some es=> .imap es
  |none=> .junk
 |_=> .junk
theorem Jn {id:Nat}:dg H (.mref id)=Ch H[id]?:=rfl
theorem E1 {id:Nat}:cD H (.mref id)=Ch H[id]?:=rfl
theorem Fm {id:Nat}:gn H (.mref id)=Ch H[id]?:=rfl
theorem GQ {β:Type} {f:β→Value} {ty k:Nat} {l:List (Int×β)}:Ch (some (some ⟨ty,k,mz f l⟩))= .imap (imK f l):=by simp only[Ch,ER]
end
section
variable {E:Env} {ev:Operand→AV} {H:ab} {k:AV→Prop} {b:Bx k}
theorem Fv {t:TypeId} {x y:Operand} {c:Bool}:ARd E (.lookup t x y c) ev H k b=AEff E (.lookup t x y c) ev H fun v _=>k v:=bQ rfl
theorem IQ {x:Operand}:ARd E (.entry x) ev H k b=AEff E (.entry x) ev H fun v _=>k v:=bQ rfl
end
attribute [go_sem ↓] Fv IQ
attribute [go_sem ↓] AK xd DP EE Fx G4
attribute [go_sem] Bo Mh E9 EJ Lb KO N5 HS Na N7 Im AJ Jn E1 Fm GQ
theorem bw {P:Program} {row src:Option Nat} {f:FuncId} {args:List AV} {k:Nat} {Q:AV→Prop} (h:∀A c,PFun P row src f (.sc (.slice A 0 c)::args) Q):PFun P row src f (.list k []::args) Q:=by
 intro w ok vs h1 h2 h3 h4
 have h0:0<vs.size:=by rw[h3];simp
 have hv:=h4 0 vs[0] (.list k []) (Array.getElem?_eq_getElem h0) rfl
 have key:∃A c,vs[0]= .slice A 0 c:=by
  generalize vs[0]=v at hv
  cases hv with
  |listNil=>exact⟨_,_,rfl⟩
  |list f hn _ _ _ _ _ _=>subst hn;exact⟨_,_,rfl⟩
 obtain⟨A,c,hA⟩:=key
 refine h A c w ok vs h1 h2 (by simpa using h3) fun i v a hv ha=>?_
 match i,hv,ha with
 |0,hv,ha=>
  rw[Array.getElem?_eq_getElem h0,hA]at hv
  simp at hv ha
  subst hv;subst ha
  exact .sc
 |i+1,hv,ha=>exact h4 (i+1) v a hv ha
section
variable {E:Env}
end
theorem bS {n:Nat} {H l:ab} (h:n≤H.length):Agree (fun id=>decide (id<n)) H (H++l):=fun id hid=>List.getElem?_append_left (by simp at hid;omega)
theorem yG {H H':ab} {X:List Nat} {p q:Nat} {o o':AObj} (hk:Kept X H H') (hp:H[p]?=some (some o)) (hq:H[q]?=some (some o')) (np:p∉X) (nq:q∉X):Agree (fun i=>decide (i=p)||decide (i=q)) H H':=fun i hi=>by
 simp only[Bool.or_eq_true,decide_eq_true_eq]at hi
 rcases hi with rfl|rfl
 ·rw[hp,hk _ _ np hp]
 ·rw[hq,hk _ _ nq hq]
theorem dZ {D:Nat→Bool} {X:List Nat} {H H':ab} (hk:Kept X H H') (hD:∀i,D i=true→i∉X∧∃o,H[i]?=some (some o)):Agree D H H':=fun i hi=>by
 obtain⟨h1,o,ho⟩:=hD i hi
 rw[ho,hk i o h1 ho]
theorem pK {a:Option AObj} {l l':ab}:Agree (fun id=>decide (id=0)) (a::l) (a::l'):=fun id hid=>by
 have:id=0:=by simpa using hid
 rcases id with _|id
 ·rfl
 ·omega
theorem N3 (v:Int):Br v=Value.int .i64 v:=rfl
theorem Nm (v:Bool):FB v=Value.bool v:=rfl
def Qj (P:Program) (H:ab) (a:Option (Nat×TypeId)) (id i j:Nat) (n:Int):Option AV:=match a with
 |some (len,e)=>if aA P e=true∧0≤n∧n<len then (if (aM H (.ref id i j)).isSome then some (.ref id i (j+n.toNat*aw P e))else none)else none
 |none=>none
theorem Ol {P:Program} {t:TypeId} {H:ab} {id i j:Nat} {n:Int} (h:Go.PA.aQ P t=none):bm P t H (.ref id i j) n=Qj P H (cu P t) id i j n:=by
 simp only[bm,h,Qj]
 cases cu P t<;>rfl
theorem HV {P:Program} {H:ab} {len:Nat} {e:TypeId} {id i j:Nat} {n:Int}:Qj P H (some (len,e)) id i j n=if aA P e=true∧0≤n∧n<len then (if (aM H (.ref id i j)).isSome then some (.ref id i (j+n.toNat*aw P e))else none)else none:=rfl
def JF (P:Program) (cs:List AV) (n:Int) (a:Option (Nat×TypeId)):Option AV:=match a with
 |some (len,e)=>if aA P e=true∧0≤n∧n<len then apart P e cs (n.toNat*aw P e)else none
 |none=>none
theorem Le {P:Program} {t:TypeId} {cs:List AV} {k:IntKind} {n:Int}:E3 P t (.agg cs) (.sc (.int k n))=JF P cs n (cu P t):=by
 simp only[E3,JF]
 cases cu P t<;>rfl
theorem FP {P:Program} {cs:List AV} {n:Int} {len:Nat} {e:TypeId}:JF P cs n (some (len,e))=if aA P e=true∧0≤n∧n<len then apart P e cs (n.toNat*aw P e)else none:=rfl
attribute [go_sem] Ol HV Le FP N3 Nm
def arI (xs:List Int):List AV:=xs.map fun x=> .sc (.int .i64 x)
theorem Nd (xs:List Int):(arI xs).length=xs.length:=by simp[arI]
theorem Qq (xs:List Int) (j:Nat):((arI xs).drop j).head?=(xs[j]?).map fun x=> .sc (.int .i64 x):=by simp[arI]
theorem DO (xs:List Int) (j:Nat):((arI xs).drop j).length=xs.length-j:=by simp[arI]
theorem Ny (xs:List Int) (j:Nat):(arI xs)[j]?=(xs[j]?).map fun x=> .sc (.int .i64 x):=by simp[arI]
theorem Nr (xs:List Int):(arI xs).all AV.cellish=true:=by simp[arI,AV.cellish,Value.oneCell']
theorem Id (H:ab) (xs:List Int):(arI xs).map (cD H)=arI xs:=by simp[arI,cD]
attribute [go_sem] Nd Qq DO Ny Nr Id
section
variable {E:Env} {H:ab}
end
end Go.PA
namespace Go.Proofs.YtmmpcldnpflchaaGreatDoor
open Go.PA
open Go.RowKit
abbrev iv (n:Int):AV:= .sc (.int .i64 n)
abbrev bv (b:Bool):AV:= .sc (.bool b)
def aJ (n:Int):List AV:=[iv n]
theorem qB (n:Int) (c:AV) (h:c∈aJ n):Imm c:=by simp[aJ]at h;subst h;exact .sc
structure TSub where
 ID:Int
 Balance:Int
deriving DecidableEq,Inhabited
def TSub.cells (x:TSub):List AV:=[iv x.ID,iv x.Balance]
theorem TSub.len (x:TSub):x.cells.length=2:=by simp[TSub.cells]
theorem TSub.imm (x:TSub) (c:AV) (h:c∈x.cells):Imm c:=by
 simp only[TSub.cells,List.mem_cons,List.not_mem_nil,or_false]at h
 rcases h with rfl|rfl
 ·exact .sc
 ·exact .sc
structure TEntry where
 Number:Int
 Day:Int
 From:Int
 To:Int
 Amount:Int
 Ref:Int
deriving DecidableEq,Inhabited
def TEntry.cells (x:TEntry):List AV:=[iv x.Number,iv x.Day,iv x.From,iv x.To,iv x.Amount,iv x.Ref]
theorem TEntry.len (x:TEntry):x.cells.length=6:=by simp[TEntry.cells]
theorem TEntry.imm (x:TEntry) (c:AV) (h:c∈x.cells):Imm c:=by
 simp only[TEntry.cells,List.mem_cons,List.not_mem_nil,or_false]at h
 rcases h with rfl|rfl|rfl|rfl|rfl|rfl
 ·exact .sc
 ·exact .sc
 ·exact .sc
 ·exact .sc
 ·exact .sc
 ·exact .sc
structure TAccount where
 Credit:Int
 Subs:List TSub
 Entries:List TEntry
deriving DecidableEq,Inhabited
def TAccount.cells (x:TAccount):List AV:=[iv x.Credit,.list 2 (ac TSub.cells x.Subs),.list 6 (ac TEntry.cells x.Entries)]
theorem TAccount.len (x:TAccount):x.cells.length=3:=by simp[TAccount.cells]
theorem TAccount.imm (x:TAccount) (c:AV) (h:c∈x.cells):Imm c:=by
 simp only[TAccount.cells,List.mem_cons,List.not_mem_nil,or_false]at h
 rcases h with rfl|rfl|rfl
 ·exact .sc
 ·exact aC _ (TSub.imm) _
 ·exact aC _ (TEntry.imm) _
structure TPayment where
 Warrant:Int
 Payee:Int
 Amount:Int
 Due:Int
 Sub:Int
deriving DecidableEq,Inhabited
def TPayment.cells (x:TPayment):List AV:=[iv x.Warrant,iv x.Payee,iv x.Amount,iv x.Due,iv x.Sub]
theorem TPayment.len (x:TPayment):x.cells.length=5:=by simp[TPayment.cells]
theorem TPayment.imm (x:TPayment) (c:AV) (h:c∈x.cells):Imm c:=by
 simp only[TPayment.cells,List.mem_cons,List.not_mem_nil,or_false]at h
 rcases h with rfl|rfl|rfl|rfl|rfl
 ·exact .sc
 ·exact .sc
 ·exact .sc
 ·exact .sc
 ·exact .sc
structure TBatch where
 Number:Int
 Day:Int
 Payments:List TPayment
deriving DecidableEq,Inhabited
def TBatch.cells (x:TBatch):List AV:=[iv x.Number,iv x.Day,.list 5 (ac TPayment.cells x.Payments)]
theorem TBatch.len (x:TBatch):x.cells.length=3:=by simp[TBatch.cells]
theorem TBatch.imm (x:TBatch) (c:AV) (h:c∈x.cells):Imm c:=by
 simp only[TBatch.cells,List.mem_cons,List.not_mem_nil,or_false]at h
 rcases h with rfl|rfl|rfl
 ·exact .sc
 ·exact .sc
 ·exact aC _ (TPayment.imm) _
structure TQueue where
 Waiting:List TPayment
 Known:List Int
 Batches:List TBatch
deriving DecidableEq,Inhabited
def TQueue.cells (x:TQueue):List AV:=[.list 5 (ac TPayment.cells x.Waiting),.list 1 (ac aJ x.Known),.list 3 (ac TBatch.cells x.Batches)]
theorem TQueue.len (x:TQueue):x.cells.length=3:=by simp[TQueue.cells]
theorem TQueue.imm (x:TQueue) (c:AV) (h:c∈x.cells):Imm c:=by
 simp only[TQueue.cells,List.mem_cons,List.not_mem_nil,or_false]at h
 rcases h with rfl|rfl|rfl
 ·exact aC _ (TPayment.imm) _
 ·exact aC _ (qB) _
 ·exact aC _ (TBatch.imm) _
structure TItem where
 Payment:TPayment
 State:Int
 Attempts:Int
deriving DecidableEq,Inhabited
def TItem.cells (x:TItem):List AV:=x.Payment.cells++[iv x.State,iv x.Attempts]
theorem TItem.len (x:TItem):x.cells.length=7:=by simp[TItem.cells,TPayment.len]
theorem TItem.imm (x:TItem) (c:AV) (h:c∈x.cells):Imm c:=by
 simp only[TItem.cells,List.mem_append,List.mem_cons,List.not_mem_nil,or_false]at h
 rcases h with (h)|(rfl|rfl)
 ·exact TPayment.imm _ c h
 ·exact .sc
 ·exact .sc
structure TDesk where
 Account:TAccount
 Queue:TQueue
 Items:List TItem
deriving DecidableEq,Inhabited
def TDesk.cells (x:TDesk):List AV:=x.Account.cells++x.Queue.cells++[.list 7 (ac TItem.cells x.Items)]
theorem TDesk.len (x:TDesk):x.cells.length=7:=by simp[TDesk.cells,TAccount.len,TQueue.len]
theorem TDesk.imm (x:TDesk) (c:AV) (h:c∈x.cells):Imm c:=by
 simp only[TDesk.cells,List.mem_append,List.mem_cons,List.not_mem_nil,or_false]at h
 rcases h with ((h)|(h))|(rfl)
 ·exact TAccount.imm _ c h
 ·exact TQueue.imm _ c h
 ·exact aC _ (TItem.imm) _
structure TClaim where
 ID:Int
 Payer:Int
 Amount:Int
 Open:Int
 Day:Int
 Code:ByteArray
deriving DecidableEq,Inhabited
def TClaim.cells (x:TClaim):List AV:=[iv x.ID,iv x.Payer,iv x.Amount,iv x.Open,iv x.Day,.sc (.string x.Code)]
theorem TClaim.len (x:TClaim):x.cells.length=6:=by simp[TClaim.cells]
theorem TClaim.imm (x:TClaim) (c:AV) (h:c∈x.cells):Imm c:=by
 simp only[TClaim.cells,List.mem_cons,List.not_mem_nil,or_false]at h
 rcases h with rfl|rfl|rfl|rfl|rfl|rfl
 ·exact .sc
 ·exact .sc
 ·exact .sc
 ·exact .sc
 ·exact .sc
 ·exact .sc
structure TIncome where
 Number:Int
 Day:Int
 Payer:Int
 Amount:Int
 Claim:Int
deriving DecidableEq,Inhabited
def TIncome.cells (x:TIncome):List AV:=[iv x.Number,iv x.Day,iv x.Payer,iv x.Amount,iv x.Claim]
theorem TIncome.len (x:TIncome):x.cells.length=5:=by simp[TIncome.cells]
theorem TIncome.imm (x:TIncome) (c:AV) (h:c∈x.cells):Imm c:=by
 simp only[TIncome.cells,List.mem_cons,List.not_mem_nil,or_false]at h
 rcases h with rfl|rfl|rfl|rfl|rfl
 ·exact .sc
 ·exact .sc
 ·exact .sc
 ·exact .sc
 ·exact .sc
structure TMatch where
 Income:Int
 Claim:Int
 Amount:Int
deriving DecidableEq,Inhabited
def TMatch.cells (x:TMatch):List AV:=[iv x.Income,iv x.Claim,iv x.Amount]
theorem TMatch.len (x:TMatch):x.cells.length=3:=by simp[TMatch.cells]
theorem TMatch.imm (x:TMatch) (c:AV) (h:c∈x.cells):Imm c:=by
 simp only[TMatch.cells,List.mem_cons,List.not_mem_nil,or_false]at h
 rcases h with rfl|rfl|rfl
 ·exact .sc
 ·exact .sc
 ·exact .sc
structure TCash where
 Claims:List TClaim
 Incomes:List TIncome
 Matches:List TMatch
 Loose:List Int
deriving DecidableEq,Inhabited
def TCash.cells (x:TCash):List AV:=[.list 6 (ac TClaim.cells x.Claims),.list 5 (ac TIncome.cells x.Incomes),.list 3 (ac TMatch.cells x.Matches),.list 1 (ac aJ x.Loose)]
theorem TCash.len (x:TCash):x.cells.length=4:=by simp[TCash.cells]
theorem TCash.imm (x:TCash) (c:AV) (h:c∈x.cells):Imm c:=by
 simp only[TCash.cells,List.mem_cons,List.not_mem_nil,or_false]at h
 rcases h with rfl|rfl|rfl|rfl
 ·exact aC _ (TClaim.imm) _
 ·exact aC _ (TIncome.imm) _
 ·exact aC _ (TMatch.imm) _
 ·exact aC _ (qB) _
structure TSecurity where
 ID:Int
 Unit:Int
 Issued:Int
 Maturity:Int
 Rate:Int
 Every:Int
 Indexed:Bool
deriving DecidableEq,Inhabited
def TSecurity.cells (x:TSecurity):List AV:=[iv x.ID,iv x.Unit,iv x.Issued,iv x.Maturity,iv x.Rate,iv x.Every,bv x.Indexed]
theorem TSecurity.len (x:TSecurity):x.cells.length=7:=by simp[TSecurity.cells]
theorem TSecurity.imm (x:TSecurity) (c:AV) (h:c∈x.cells):Imm c:=by
 simp only[TSecurity.cells,List.mem_cons,List.not_mem_nil,or_false]at h
 rcases h with rfl|rfl|rfl|rfl|rfl|rfl|rfl
 ·exact .sc
 ·exact .sc
 ·exact .sc
 ·exact .sc
 ·exact .sc
 ·exact .sc
 ·exact .sc
structure THolding where
 Security:Int
 Holder:Int
 Amount:Int
deriving DecidableEq,Inhabited
def THolding.cells (x:THolding):List AV:=[iv x.Security,iv x.Holder,iv x.Amount]
theorem THolding.len (x:THolding):x.cells.length=3:=by simp[THolding.cells]
theorem THolding.imm (x:THolding) (c:AV) (h:c∈x.cells):Imm c:=by
 simp only[THolding.cells,List.mem_cons,List.not_mem_nil,or_false]at h
 rcases h with rfl|rfl|rfl
 ·exact .sc
 ·exact .sc
 ·exact .sc
structure TMove where
 Number:Int
 Day:Int
 Kind:Int
 Security:Int
 From:Int
 To:Int
 Amount:Int
deriving DecidableEq,Inhabited
def TMove.cells (x:TMove):List AV:=[iv x.Number,iv x.Day,iv x.Kind,iv x.Security,iv x.From,iv x.To,iv x.Amount]
theorem TMove.len (x:TMove):x.cells.length=7:=by simp[TMove.cells]
theorem TMove.imm (x:TMove) (c:AV) (h:c∈x.cells):Imm c:=by
 simp only[TMove.cells,List.mem_cons,List.not_mem_nil,or_false]at h
 rcases h with rfl|rfl|rfl|rfl|rfl|rfl|rfl
 ·exact .sc
 ·exact .sc
 ·exact .sc
 ·exact .sc
 ·exact .sc
 ·exact .sc
 ·exact .sc
structure TRegister where
 Securities:List TSecurity
 Holdings:List THolding
 Moves:List TMove
deriving DecidableEq,Inhabited
def TRegister.cells (x:TRegister):List AV:=[.list 7 (ac TSecurity.cells x.Securities),.list 3 (ac THolding.cells x.Holdings),.list 7 (ac TMove.cells x.Moves)]
theorem TRegister.len (x:TRegister):x.cells.length=3:=by simp[TRegister.cells]
theorem TRegister.imm (x:TRegister) (c:AV) (h:c∈x.cells):Imm c:=by
 simp only[TRegister.cells,List.mem_cons,List.not_mem_nil,or_false]at h
 rcases h with rfl|rfl|rfl
 ·exact aC _ (TSecurity.imm) _
 ·exact aC _ (THolding.imm) _
 ·exact aC _ (TMove.imm) _
structure TPosting where
 Number:Int
 Day:Int
 Entity:Int
 Debit:Int
 Credit:Int
 Amount:Int
 Partner:Int
 Ref:Int
deriving DecidableEq,Inhabited
def TPosting.cells (x:TPosting):List AV:=[iv x.Number,iv x.Day,iv x.Entity,iv x.Debit,iv x.Credit,iv x.Amount,iv x.Partner,iv x.Ref]
theorem TPosting.len (x:TPosting):x.cells.length=8:=by simp[TPosting.cells]
theorem TPosting.imm (x:TPosting) (c:AV) (h:c∈x.cells):Imm c:=by
 simp only[TPosting.cells,List.mem_cons,List.not_mem_nil,or_false]at h
 rcases h with rfl|rfl|rfl|rfl|rfl|rfl|rfl|rfl
 ·exact .sc
 ·exact .sc
 ·exact .sc
 ·exact .sc
 ·exact .sc
 ·exact .sc
 ·exact .sc
 ·exact .sc
structure TLedger where
 Postings:List TPosting
deriving DecidableEq,Inhabited
def TLedger.cells (x:TLedger):List AV:=[.list 8 (ac TPosting.cells x.Postings)]
theorem TLedger.len (x:TLedger):x.cells.length=1:=by simp[TLedger.cells]
theorem TLedger.imm (x:TLedger) (c:AV) (h:c∈x.cells):Imm c:=by
 simp only[TLedger.cells,List.mem_cons,List.not_mem_nil,or_false]at h
 rcases h with rfl
 ·exact aC _ (TPosting.imm) _
structure TState where
 Desk:TDesk
 Cash:TCash
 Register:TRegister
 Ledger:TLedger
deriving DecidableEq,Inhabited
def TState.cells (x:TState):List AV:=x.Desk.cells++x.Cash.cells++x.Register.cells++x.Ledger.cells
theorem TState.len (x:TState):x.cells.length=15:=by simp[TState.cells,TDesk.len,TCash.len,TRegister.len,TLedger.len]
theorem TState.imm (x:TState) (c:AV) (h:c∈x.cells):Imm c:=by
 simp only[TState.cells,List.mem_append,List.mem_cons,List.not_mem_nil,or_false]at h
 rcases h with (((h)|(h))|(h))|(h)
 ·exact TDesk.imm _ c h
 ·exact TCash.imm _ c h
 ·exact TRegister.imm _ c h
 ·exact TLedger.imm _ c h
structure TDeed where
 Kind:Int
 Day:Int
 Sub:Int
 Who:Int
 Ref:Int
 Amount:Int
 Due:Int
deriving DecidableEq,Inhabited
def TDeed.cells (x:TDeed):List AV:=[iv x.Kind,iv x.Day,iv x.Sub,iv x.Who,iv x.Ref,iv x.Amount,iv x.Due]
theorem TDeed.len (x:TDeed):x.cells.length=7:=by simp[TDeed.cells]
theorem TDeed.imm (x:TDeed) (c:AV) (h:c∈x.cells):Imm c:=by
 simp only[TDeed.cells,List.mem_cons,List.not_mem_nil,or_false]at h
 rcases h with rfl|rfl|rfl|rfl|rfl|rfl|rfl
 ·exact .sc
 ·exact .sc
 ·exact .sc
 ·exact .sc
 ·exact .sc
 ·exact .sc
 ·exact .sc
structure TFinding where
 Layer:Int
 Number:Int
deriving DecidableEq,Inhabited
def TFinding.cells (x:TFinding):List AV:=[iv x.Layer,iv x.Number]
theorem TFinding.len (x:TFinding):x.cells.length=2:=by simp[TFinding.cells]
theorem TFinding.imm (x:TFinding) (c:AV) (h:c∈x.cells):Imm c:=by
 simp only[TFinding.cells,List.mem_cons,List.not_mem_nil,or_false]at h
 rcases h with rfl|rfl
 ·exact .sc
 ·exact .sc
open Go.PA
@[go_sem] theorem XK:aw Tryz.prog 3=1:=by kernel_rfl
@[go_sem] theorem XL:aA Tryz.prog 3=true:=by kernel_rfl
@[go_sem] theorem XN:bA Tryz.prog 3=false:=by kernel_rfl
@[go_sem] theorem XJ:bg Tryz.prog 3=some [.sc (.int .i64 0)]:=by kernel_rfl
@[go_sem] theorem XM:bD Tryz.prog 3=8:=by kernel_rfl
@[go_sem] theorem XI:aA Tryz.prog 9=true:=by kernel_rfl
@[go_sem] theorem XO:bA Tryz.prog 9=false:=by kernel_rfl
@[go_sem] theorem XH:aw Tryz.prog 22=1:=by kernel_rfl
@[go_sem] theorem WJ:aA Tryz.prog 22=true:=by kernel_rfl
@[go_sem] theorem WF:bA Tryz.prog 22=false:=by kernel_rfl
@[go_sem] theorem Xt:Go.PA.aQ Tryz.prog 22=some 3:=by kernel_rfl
@[go_sem] theorem WP:aw Tryz.prog 25=1:=by kernel_rfl
@[go_sem] theorem WC:aA Tryz.prog 25=true:=by kernel_rfl
@[go_sem] theorem W4:bA Tryz.prog 25=false:=by kernel_rfl
@[go_sem] theorem RC:Go.PA.aQ Tryz.prog 25=some 90:=by kernel_rfl
@[go_sem] theorem Wv:aw Tryz.prog 26=1:=by kernel_rfl
@[go_sem] theorem Xr:aA Tryz.prog 26=true:=by kernel_rfl
@[go_sem] theorem VQ:bA Tryz.prog 26=false:=by kernel_rfl
@[go_sem] theorem Xu:Go.PA.aQ Tryz.prog 26=some 105:=by kernel_rfl
@[go_sem] theorem WV:aw Tryz.prog 28=3:=by kernel_rfl
@[go_sem] theorem V3:aA Tryz.prog 28=true:=by kernel_rfl
@[go_sem] theorem Wj:bA Tryz.prog 28=true:=by kernel_rfl
@[go_sem] theorem TF:aq Tryz.prog 28 0=some (0,3):=by kernel_rfl
@[go_sem] theorem Tf:aq Tryz.prog 28 1=some (1,25):=by kernel_rfl
@[go_sem] theorem Ts:aq Tryz.prog 28 2=some (2,26):=by kernel_rfl
@[go_sem] theorem Wu:cu Tryz.prog 28=none:=by kernel_rfl
@[go_sem] theorem Wo:aK Tryz.prog 28=true:=by kernel_rfl
@[go_sem] theorem WB:bg Tryz.prog 28=some [.sc (.int .i64 0),.nil,.nil]:=by kernel_rfl
@[go_sem] theorem VS:aw Tryz.prog 29=1:=by kernel_rfl
@[go_sem] theorem Xo:aA Tryz.prog 29=true:=by kernel_rfl
@[go_sem] theorem Xe:bA Tryz.prog 29=false:=by kernel_rfl
@[go_sem] theorem Sz:Go.PA.aQ Tryz.prog 29=some 108:=by kernel_rfl
@[go_sem] theorem Wb:aw Tryz.prog 30=1:=by kernel_rfl
@[go_sem] theorem Wk:aA Tryz.prog 30=true:=by kernel_rfl
@[go_sem] theorem W9:bA Tryz.prog 30=false:=by kernel_rfl
@[go_sem] theorem WD:Go.PA.aQ Tryz.prog 30=some 111:=by kernel_rfl
@[go_sem] theorem WE:aw Tryz.prog 32=3:=by kernel_rfl
@[go_sem] theorem VO:aA Tryz.prog 32=true:=by kernel_rfl
@[go_sem] theorem Xx:bA Tryz.prog 32=true:=by kernel_rfl
@[go_sem] theorem Ti:aq Tryz.prog 32 0=some (0,29):=by kernel_rfl
@[go_sem] theorem Tw:aq Tryz.prog 32 1=some (1,22):=by kernel_rfl
@[go_sem] theorem TE:aq Tryz.prog 32 2=some (2,30):=by kernel_rfl
@[go_sem] theorem VT:cu Tryz.prog 32=none:=by kernel_rfl
@[go_sem] theorem WH:aK Tryz.prog 32=true:=by kernel_rfl
@[go_sem] theorem Wn:bg Tryz.prog 32=some [.nil,.nil,.nil]:=by kernel_rfl
@[go_sem] theorem XE:aw Tryz.prog 33=1:=by kernel_rfl
@[go_sem] theorem V8:aA Tryz.prog 33=true:=by kernel_rfl
@[go_sem] theorem WT:bA Tryz.prog 33=false:=by kernel_rfl
@[go_sem] theorem VR:Go.PA.aQ Tryz.prog 33=some 114:=by kernel_rfl
@[go_sem] theorem Wg:aw Tryz.prog 35=7:=by kernel_rfl
@[go_sem] theorem Xh:aA Tryz.prog 35=true:=by kernel_rfl
@[go_sem] theorem Wh:bA Tryz.prog 35=true:=by kernel_rfl
@[go_sem] theorem Tk:aq Tryz.prog 35 0=some (0,28):=by kernel_rfl
@[go_sem] theorem Te:aq Tryz.prog 35 1=some (3,32):=by kernel_rfl
@[go_sem] theorem Tl:aq Tryz.prog 35 2=some (6,33):=by kernel_rfl
@[go_sem] theorem V2:cu Tryz.prog 35=none:=by kernel_rfl
@[go_sem] theorem Wm:aK Tryz.prog 35=true:=by kernel_rfl
@[go_sem] theorem Xg:bg Tryz.prog 35=some [.sc (.int .i64 0),.nil,.nil,.nil,.nil,.nil,.nil]:=by kernel_rfl
@[go_sem] theorem Wc:aw Tryz.prog 36=1:=by kernel_rfl
@[go_sem] theorem V7:aA Tryz.prog 36=true:=by kernel_rfl
@[go_sem] theorem Xj:bA Tryz.prog 36=false:=by kernel_rfl
@[go_sem] theorem Xd:Go.PA.aQ Tryz.prog 36=some 118:=by kernel_rfl
@[go_sem] theorem Xp:aw Tryz.prog 37=1:=by kernel_rfl
@[go_sem] theorem We:aA Tryz.prog 37=true:=by kernel_rfl
@[go_sem] theorem Xl:bA Tryz.prog 37=false:=by kernel_rfl
@[go_sem] theorem Xa:Go.PA.aQ Tryz.prog 37=some 121:=by kernel_rfl
@[go_sem] theorem VW:aw Tryz.prog 38=1:=by kernel_rfl
@[go_sem] theorem Wa:aA Tryz.prog 38=true:=by kernel_rfl
@[go_sem] theorem Wy:bA Tryz.prog 38=false:=by kernel_rfl
@[go_sem] theorem WN:Go.PA.aQ Tryz.prog 38=some 124:=by kernel_rfl
@[go_sem] theorem XG:aw Tryz.prog 40=4:=by kernel_rfl
@[go_sem] theorem WG:aA Tryz.prog 40=true:=by kernel_rfl
@[go_sem] theorem Xn:bA Tryz.prog 40=true:=by kernel_rfl
@[go_sem] theorem Tz:aq Tryz.prog 40 0=some (0,36):=by kernel_rfl
@[go_sem] theorem Tp:aq Tryz.prog 40 1=some (1,37):=by kernel_rfl
@[go_sem] theorem Tx:aq Tryz.prog 40 2=some (2,38):=by kernel_rfl
@[go_sem] theorem TM:aq Tryz.prog 40 3=some (3,22):=by kernel_rfl
@[go_sem] theorem VL:cu Tryz.prog 40=none:=by kernel_rfl
@[go_sem] theorem Wx:aK Tryz.prog 40=true:=by kernel_rfl
@[go_sem] theorem Ws:bg Tryz.prog 40=some [.nil,.nil,.nil,.nil]:=by kernel_rfl
@[go_sem] theorem V4:aw Tryz.prog 41=1:=by kernel_rfl
@[go_sem] theorem XB:aA Tryz.prog 41=true:=by kernel_rfl
@[go_sem] theorem WZ:bA Tryz.prog 41=false:=by kernel_rfl
@[go_sem] theorem Wd:Go.PA.aQ Tryz.prog 41=some 71:=by kernel_rfl
@[go_sem] theorem V6:aw Tryz.prog 42=1:=by kernel_rfl
@[go_sem] theorem Xf:aA Tryz.prog 42=true:=by kernel_rfl
@[go_sem] theorem Xs:bA Tryz.prog 42=false:=by kernel_rfl
@[go_sem] theorem Q8:Go.PA.aQ Tryz.prog 42=some 160:=by kernel_rfl
@[go_sem] theorem V0:aw Tryz.prog 43=1:=by kernel_rfl
@[go_sem] theorem VM:aA Tryz.prog 43=true:=by kernel_rfl
@[go_sem] theorem Xc:bA Tryz.prog 43=false:=by kernel_rfl
@[go_sem] theorem XD:Go.PA.aQ Tryz.prog 43=some 135:=by kernel_rfl
@[go_sem] theorem Xy:aw Tryz.prog 45=3:=by kernel_rfl
@[go_sem] theorem Xi:aA Tryz.prog 45=true:=by kernel_rfl
@[go_sem] theorem W7:bA Tryz.prog 45=true:=by kernel_rfl
@[go_sem] theorem TN:aq Tryz.prog 45 0=some (0,41):=by kernel_rfl
@[go_sem] theorem Td:aq Tryz.prog 45 1=some (1,42):=by kernel_rfl
@[go_sem] theorem TG:aq Tryz.prog 45 2=some (2,43):=by kernel_rfl
@[go_sem] theorem Wz:cu Tryz.prog 45=none:=by kernel_rfl
@[go_sem] theorem Wi:aK Tryz.prog 45=true:=by kernel_rfl
@[go_sem] theorem WK:bg Tryz.prog 45=some [.nil,.nil,.nil]:=by kernel_rfl
@[go_sem] theorem WA:aw Tryz.prog 46=1:=by kernel_rfl
@[go_sem] theorem Xm:aA Tryz.prog 46=true:=by kernel_rfl
@[go_sem] theorem W5:bA Tryz.prog 46=false:=by kernel_rfl
@[go_sem] theorem WI:Go.PA.aQ Tryz.prog 46=some 127:=by kernel_rfl
@[go_sem] theorem VV:aw Tryz.prog 48=1:=by kernel_rfl
@[go_sem] theorem Xk:aA Tryz.prog 48=true:=by kernel_rfl
@[go_sem] theorem V5:bA Tryz.prog 48=true:=by kernel_rfl
@[go_sem] theorem Tm:aq Tryz.prog 48 0=some (0,46):=by kernel_rfl
@[go_sem] theorem Xb:cu Tryz.prog 48=none:=by kernel_rfl
@[go_sem] theorem VU:aK Tryz.prog 48=true:=by kernel_rfl
@[go_sem] theorem XF:bg Tryz.prog 48=some [.nil]:=by kernel_rfl
@[go_sem] theorem WM:aw Tryz.prog 50=15:=by kernel_rfl
@[go_sem] theorem XA:aA Tryz.prog 50=true:=by kernel_rfl
@[go_sem] theorem Wq:bA Tryz.prog 50=true:=by kernel_rfl
@[go_sem] theorem TK:aq Tryz.prog 50 0=some (0,35):=by kernel_rfl
@[go_sem] theorem TI:aq Tryz.prog 50 1=some (7,40):=by kernel_rfl
@[go_sem] theorem Ty:aq Tryz.prog 50 2=some (11,45):=by kernel_rfl
@[go_sem] theorem Tc:aq Tryz.prog 50 3=some (14,48):=by kernel_rfl
@[go_sem] theorem WS:aK Tryz.prog 50=true:=by kernel_rfl
@[go_sem] theorem VZ:bg Tryz.prog 50=some [.sc (.int .i64 0),.nil,.nil,.nil,.nil,.nil,.nil,.nil,.nil,.nil,.nil,.nil,.nil,.nil,.nil]:=by kernel_rfl
@[go_sem] theorem V1:Go.PA.aQ Tryz.prog 55=some 64:=by kernel_rfl
@[go_sem] theorem Wt:aw Tryz.prog 64=7:=by kernel_rfl
@[go_sem] theorem Xv:aA Tryz.prog 64=true:=by kernel_rfl
@[go_sem] theorem WU:bA Tryz.prog 64=true:=by kernel_rfl
@[go_sem] theorem TH:aq Tryz.prog 64 0=some (0,3):=by kernel_rfl
@[go_sem] theorem TJ:aq Tryz.prog 64 1=some (1,3):=by kernel_rfl
@[go_sem] theorem Tq:aq Tryz.prog 64 2=some (2,3):=by kernel_rfl
@[go_sem] theorem Tj:aq Tryz.prog 64 3=some (3,3):=by kernel_rfl
@[go_sem] theorem Tr:aq Tryz.prog 64 4=some (4,3):=by kernel_rfl
@[go_sem] theorem TA:aq Tryz.prog 64 5=some (5,3):=by kernel_rfl
@[go_sem] theorem TD:aq Tryz.prog 64 6=some (6,3):=by kernel_rfl
@[go_sem] theorem Xw:cu Tryz.prog 64=none:=by kernel_rfl
@[go_sem] theorem Wp:aK Tryz.prog 64=true:=by kernel_rfl
@[go_sem] theorem Xq:bg Tryz.prog 64=some [.sc (.int .i64 0),.sc (.int .i64 0),.sc (.int .i64 0),.sc (.int .i64 0),.sc (.int .i64 0),.sc (.int .i64 0),.sc (.int .i64 0)]:=by kernel_rfl
@[go_sem] theorem VP:bD Tryz.prog 64=56:=by kernel_rfl
@[go_sem] theorem Tg:aq Tryz.prog 67 0=some (0,22):=by kernel_rfl
@[go_sem] theorem Ww:cu Tryz.prog 67=none:=by kernel_rfl
@[go_sem] theorem VN:aK Tryz.prog 67=true:=by kernel_rfl
@[go_sem] theorem VK:bg Tryz.prog 67=some [.nil,.sc (.int .i64 0)]:=by kernel_rfl
@[go_sem] theorem Xz:aw Tryz.prog 71=7:=by kernel_rfl
@[go_sem] theorem WR:aA Tryz.prog 71=true:=by kernel_rfl
@[go_sem] theorem W8:bA Tryz.prog 71=true:=by kernel_rfl
@[go_sem] theorem TO:aq Tryz.prog 71 0=some (0,3):=by kernel_rfl
@[go_sem] theorem Th:aq Tryz.prog 71 1=some (1,3):=by kernel_rfl
@[go_sem] theorem Tv:aq Tryz.prog 71 2=some (2,3):=by kernel_rfl
@[go_sem] theorem Tu:aq Tryz.prog 71 3=some (3,3):=by kernel_rfl
@[go_sem] theorem Tb:aq Tryz.prog 71 4=some (4,3):=by kernel_rfl
@[go_sem] theorem TB:aq Tryz.prog 71 5=some (5,3):=by kernel_rfl
@[go_sem] theorem WX:cu Tryz.prog 71=none:=by kernel_rfl
@[go_sem] theorem WO:aK Tryz.prog 71=true:=by kernel_rfl
@[go_sem] theorem WY:eY Tryz.prog 71=some [.int,.int,.int,.int,.int,.int,.bool]:=by kernel_rfl
@[go_sem] theorem WQ:bg Tryz.prog 71=some [.sc (.int .i64 0),.sc (.int .i64 0),.sc (.int .i64 0),.sc (.int .i64 0),.sc (.int .i64 0),.sc (.int .i64 0),.sc (.bool false)]:=by kernel_rfl
@[go_sem] theorem XC:bD Tryz.prog 71=56:=by kernel_rfl
@[go_sem] theorem Tn:aq Tryz.prog 85 0=some (0,50):=by kernel_rfl
@[go_sem] theorem Tt:aq Tryz.prog 85 1=some (15,3):=by kernel_rfl
@[go_sem] theorem WL:cu Tryz.prog 85=none:=by kernel_rfl
@[go_sem] theorem VY:aK Tryz.prog 85=true:=by kernel_rfl
@[go_sem] theorem W6:bg Tryz.prog 85=some [.sc (.int .i64 0),.nil,.nil,.nil,.nil,.nil,.nil,.nil,.nil,.nil,.nil,.nil,.nil,.nil,.nil,.sc (.int .i64 0)]:=by kernel_rfl
@[go_sem] theorem R3:aw Tryz.prog 90=2:=by kernel_rfl
@[go_sem] theorem R0:aA Tryz.prog 90=true:=by kernel_rfl
@[go_sem] theorem V9:bA Tryz.prog 90=true:=by kernel_rfl
@[go_sem] theorem TL:aq Tryz.prog 90 0=some (0,3):=by kernel_rfl
@[go_sem] theorem TC:aq Tryz.prog 90 1=some (1,3):=by kernel_rfl
@[go_sem] theorem Wf:cu Tryz.prog 90=none:=by kernel_rfl
@[go_sem] theorem WW:aK Tryz.prog 90=true:=by kernel_rfl
@[go_sem] theorem VX:eY Tryz.prog 90=some [.int,.int]:=by kernel_rfl
@[go_sem] theorem Wl:bg Tryz.prog 90=some [.sc (.int .i64 0),.sc (.int .i64 0)]:=by kernel_rfl
@[go_sem] theorem Wr:bD Tryz.prog 90=16:=by kernel_rfl
@[go_sem] theorem T5:aw Tryz.prog 105=6:=by kernel_rfl
@[go_sem] theorem VH:aA Tryz.prog 105=true:=by kernel_rfl
@[go_sem] theorem TZ:bA Tryz.prog 105=true:=by kernel_rfl
@[go_sem] theorem SW:aq Tryz.prog 105 0=some (0,3):=by kernel_rfl
@[go_sem] theorem Rv:aq Tryz.prog 105 1=some (1,3):=by kernel_rfl
@[go_sem] theorem Sa:aq Tryz.prog 105 2=some (2,3):=by kernel_rfl
@[go_sem] theorem RN:aq Tryz.prog 105 3=some (3,3):=by kernel_rfl
@[go_sem] theorem R1:aq Tryz.prog 105 4=some (4,3):=by kernel_rfl
@[go_sem] theorem SX:aq Tryz.prog 105 5=some (5,3):=by kernel_rfl
@[go_sem] theorem Uz:cu Tryz.prog 105=none:=by kernel_rfl
@[go_sem] theorem US:aK Tryz.prog 105=true:=by kernel_rfl
@[go_sem] theorem Um:eY Tryz.prog 105=some [.int,.int,.int,.int,.int,.int]:=by kernel_rfl
@[go_sem] theorem UJ:bg Tryz.prog 105=some [.sc (.int .i64 0),.sc (.int .i64 0),.sc (.int .i64 0),.sc (.int .i64 0),.sc (.int .i64 0),.sc (.int .i64 0)]:=by kernel_rfl
@[go_sem] theorem Vs:bD Tryz.prog 105=48:=by kernel_rfl
@[go_sem] theorem Qv:aw Tryz.prog 108=5:=by kernel_rfl
@[go_sem] theorem QK:aA Tryz.prog 108=true:=by kernel_rfl
@[go_sem] theorem U8:bA Tryz.prog 108=true:=by kernel_rfl
@[go_sem] theorem Rk:aq Tryz.prog 108 0=some (0,3):=by kernel_rfl
@[go_sem] theorem Ta:aq Tryz.prog 108 1=some (1,3):=by kernel_rfl
@[go_sem] theorem SP:aq Tryz.prog 108 2=some (2,3):=by kernel_rfl
@[go_sem] theorem ST:aq Tryz.prog 108 3=some (3,3):=by kernel_rfl
@[go_sem] theorem RU:aq Tryz.prog 108 4=some (4,3):=by kernel_rfl
@[go_sem] theorem TQ:cu Tryz.prog 108=none:=by kernel_rfl
@[go_sem] theorem Vi:aK Tryz.prog 108=true:=by kernel_rfl
@[go_sem] theorem U9:eY Tryz.prog 108=some [.int,.int,.int,.int,.int]:=by kernel_rfl
@[go_sem] theorem UW:bg Tryz.prog 108=some [.sc (.int .i64 0),.sc (.int .i64 0),.sc (.int .i64 0),.sc (.int .i64 0),.sc (.int .i64 0)]:=by kernel_rfl
@[go_sem] theorem T4:bD Tryz.prog 108=40:=by kernel_rfl
@[go_sem] theorem Ul:aw Tryz.prog 111=3:=by kernel_rfl
@[go_sem] theorem Uh:aA Tryz.prog 111=true:=by kernel_rfl
@[go_sem] theorem UI:bA Tryz.prog 111=true:=by kernel_rfl
@[go_sem] theorem SM:aq Tryz.prog 111 0=some (0,3):=by kernel_rfl
@[go_sem] theorem Sd:aq Tryz.prog 111 1=some (1,3):=by kernel_rfl
@[go_sem] theorem S6:aq Tryz.prog 111 2=some (2,29):=by kernel_rfl
@[go_sem] theorem VG:cu Tryz.prog 111=none:=by kernel_rfl
@[go_sem] theorem VI:aK Tryz.prog 111=true:=by kernel_rfl
@[go_sem] theorem UP:bg Tryz.prog 111=some [.sc (.int .i64 0),.sc (.int .i64 0),.nil]:=by kernel_rfl
@[go_sem] theorem T7:bD Tryz.prog 111=40:=by kernel_rfl
@[go_sem] theorem VJ:aw Tryz.prog 114=7:=by kernel_rfl
@[go_sem] theorem Uq:aA Tryz.prog 114=true:=by kernel_rfl
@[go_sem] theorem T0:bA Tryz.prog 114=true:=by kernel_rfl
@[go_sem] theorem Q7:aq Tryz.prog 114 0=some (0,108):=by kernel_rfl
@[go_sem] theorem Se:aq Tryz.prog 114 1=some (5,3):=by kernel_rfl
@[go_sem] theorem RB:aq Tryz.prog 114 2=some (6,3):=by kernel_rfl
@[go_sem] theorem Ui:cu Tryz.prog 114=none:=by kernel_rfl
@[go_sem] theorem Vy:aK Tryz.prog 114=true:=by kernel_rfl
@[go_sem] theorem Vz:eY Tryz.prog 114=some [.int,.int,.int,.int,.int,.int,.int]:=by kernel_rfl
@[go_sem] theorem UV:bg Tryz.prog 114=some [.sc (.int .i64 0),.sc (.int .i64 0),.sc (.int .i64 0),.sc (.int .i64 0),.sc (.int .i64 0),.sc (.int .i64 0),.sc (.int .i64 0)]:=by kernel_rfl
@[go_sem] theorem Uv:bD Tryz.prog 114=56:=by kernel_rfl
@[go_sem] theorem UT:aA Tryz.prog 115=true:=by kernel_rfl
@[go_sem] theorem Ud:bA Tryz.prog 115=false:=by kernel_rfl
@[go_sem] theorem TU:aw Tryz.prog 118=6:=by kernel_rfl
@[go_sem] theorem TP:aA Tryz.prog 118=true:=by kernel_rfl
@[go_sem] theorem UE:bA Tryz.prog 118=true:=by kernel_rfl
@[go_sem] theorem Sb:aq Tryz.prog 118 0=some (0,3):=by kernel_rfl
@[go_sem] theorem SJ:aq Tryz.prog 118 1=some (1,3):=by kernel_rfl
@[go_sem] theorem SN:aq Tryz.prog 118 2=some (2,3):=by kernel_rfl
@[go_sem] theorem Rc:aq Tryz.prog 118 3=some (3,3):=by kernel_rfl
@[go_sem] theorem Rm:aq Tryz.prog 118 4=some (4,3):=by kernel_rfl
@[go_sem] theorem SZ:aq Tryz.prog 118 5=some (5,9):=by kernel_rfl
@[go_sem] theorem U3:eY Tryz.prog 118=some [.int,.int,.int,.int,.int,.str]:=by kernel_rfl
@[go_sem] theorem T3:bg Tryz.prog 118=some [.sc (.int .i64 0),.sc (.int .i64 0),.sc (.int .i64 0),.sc (.int .i64 0),.sc (.int .i64 0),.sc (.string ByteArray.empty)]:=by kernel_rfl
@[go_sem] theorem Uk:bD Tryz.prog 118=56:=by kernel_rfl
@[go_sem] theorem Vm:aw Tryz.prog 121=5:=by kernel_rfl
@[go_sem] theorem Ut:aA Tryz.prog 121=true:=by kernel_rfl
@[go_sem] theorem U2:bA Tryz.prog 121=true:=by kernel_rfl
@[go_sem] theorem RJ:aq Tryz.prog 121 0=some (0,3):=by kernel_rfl
@[go_sem] theorem Ss:aq Tryz.prog 121 1=some (1,3):=by kernel_rfl
@[go_sem] theorem Rf:aq Tryz.prog 121 2=some (2,3):=by kernel_rfl
@[go_sem] theorem SH:aq Tryz.prog 121 3=some (3,3):=by kernel_rfl
@[go_sem] theorem Ro:aq Tryz.prog 121 4=some (4,3):=by kernel_rfl
@[go_sem] theorem Vj:cu Tryz.prog 121=none:=by kernel_rfl
@[go_sem] theorem Ug:aK Tryz.prog 121=true:=by kernel_rfl
@[go_sem] theorem VB:eY Tryz.prog 121=some [.int,.int,.int,.int,.int]:=by kernel_rfl
@[go_sem] theorem Vo:bg Tryz.prog 121=some [.sc (.int .i64 0),.sc (.int .i64 0),.sc (.int .i64 0),.sc (.int .i64 0),.sc (.int .i64 0)]:=by kernel_rfl
@[go_sem] theorem Uj:bD Tryz.prog 121=40:=by kernel_rfl
@[go_sem] theorem Ua:aw Tryz.prog 124=3:=by kernel_rfl
@[go_sem] theorem T9:aA Tryz.prog 124=true:=by kernel_rfl
@[go_sem] theorem Vc:bA Tryz.prog 124=true:=by kernel_rfl
@[go_sem] theorem RM:aq Tryz.prog 124 0=some (0,3):=by kernel_rfl
@[go_sem] theorem SR:aq Tryz.prog 124 1=some (1,3):=by kernel_rfl
@[go_sem] theorem SA:aq Tryz.prog 124 2=some (2,3):=by kernel_rfl
@[go_sem] theorem TW:cu Tryz.prog 124=none:=by kernel_rfl
@[go_sem] theorem Vn:aK Tryz.prog 124=true:=by kernel_rfl
@[go_sem] theorem UH:eY Tryz.prog 124=some [.int,.int,.int]:=by kernel_rfl
@[go_sem] theorem Vp:bg Tryz.prog 124=some [.sc (.int .i64 0),.sc (.int .i64 0),.sc (.int .i64 0)]:=by kernel_rfl
@[go_sem] theorem Ve:bD Tryz.prog 124=24:=by kernel_rfl
@[go_sem] theorem Uf:aw Tryz.prog 127=8:=by kernel_rfl
@[go_sem] theorem UO:aA Tryz.prog 127=true:=by kernel_rfl
@[go_sem] theorem VF:bA Tryz.prog 127=true:=by kernel_rfl
@[go_sem] theorem Sm:aq Tryz.prog 127 0=some (0,3):=by kernel_rfl
@[go_sem] theorem SE:aq Tryz.prog 127 1=some (1,3):=by kernel_rfl
@[go_sem] theorem Rt:aq Tryz.prog 127 2=some (2,3):=by kernel_rfl
@[go_sem] theorem RX:aq Tryz.prog 127 3=some (3,3):=by kernel_rfl
@[go_sem] theorem RV:aq Tryz.prog 127 4=some (4,3):=by kernel_rfl
@[go_sem] theorem SC:aq Tryz.prog 127 5=some (5,3):=by kernel_rfl
@[go_sem] theorem RI:aq Tryz.prog 127 6=some (6,3):=by kernel_rfl
@[go_sem] theorem RP:aq Tryz.prog 127 7=some (7,3):=by kernel_rfl
@[go_sem] theorem Vx:cu Tryz.prog 127=none:=by kernel_rfl
@[go_sem] theorem Vq:aK Tryz.prog 127=true:=by kernel_rfl
@[go_sem] theorem Ue:eY Tryz.prog 127=some [.int,.int,.int,.int,.int,.int,.int,.int]:=by kernel_rfl
@[go_sem] theorem Uo:bg Tryz.prog 127=some [.sc (.int .i64 0),.sc (.int .i64 0),.sc (.int .i64 0),.sc (.int .i64 0),.sc (.int .i64 0),.sc (.int .i64 0),.sc (.int .i64 0),.sc (.int .i64 0)]:=by kernel_rfl
@[go_sem] theorem Ub:bD Tryz.prog 127=64:=by kernel_rfl
@[go_sem] theorem TV:aw Tryz.prog 135=7:=by kernel_rfl
@[go_sem] theorem Uw:aA Tryz.prog 135=true:=by kernel_rfl
@[go_sem] theorem Vt:bA Tryz.prog 135=true:=by kernel_rfl
@[go_sem] theorem R9:aq Tryz.prog 135 0=some (0,3):=by kernel_rfl
@[go_sem] theorem Sn:aq Tryz.prog 135 1=some (1,3):=by kernel_rfl
@[go_sem] theorem Sj:aq Tryz.prog 135 2=some (2,3):=by kernel_rfl
@[go_sem] theorem RZ:aq Tryz.prog 135 3=some (3,3):=by kernel_rfl
@[go_sem] theorem S1:aq Tryz.prog 135 4=some (4,3):=by kernel_rfl
@[go_sem] theorem RD:aq Tryz.prog 135 5=some (5,3):=by kernel_rfl
@[go_sem] theorem Q5:aq Tryz.prog 135 6=some (6,3):=by kernel_rfl
@[go_sem] theorem Ur:cu Tryz.prog 135=none:=by kernel_rfl
@[go_sem] theorem Vf:aK Tryz.prog 135=true:=by kernel_rfl
@[go_sem] theorem Vr:eY Tryz.prog 135=some [.int,.int,.int,.int,.int,.int,.int]:=by kernel_rfl
@[go_sem] theorem UX:bg Tryz.prog 135=some [.sc (.int .i64 0),.sc (.int .i64 0),.sc (.int .i64 0),.sc (.int .i64 0),.sc (.int .i64 0),.sc (.int .i64 0),.sc (.int .i64 0)]:=by kernel_rfl
@[go_sem] theorem UZ:bD Tryz.prog 135=56:=by kernel_rfl
@[go_sem] theorem Pk:aw Tryz.prog 160=3:=by kernel_rfl
@[go_sem] theorem QV:aA Tryz.prog 160=true:=by kernel_rfl
@[go_sem] theorem VE:bA Tryz.prog 160=true:=by kernel_rfl
@[go_sem] theorem Rb:aq Tryz.prog 160 0=some (0,3):=by kernel_rfl
@[go_sem] theorem Ri:aq Tryz.prog 160 1=some (1,3):=by kernel_rfl
@[go_sem] theorem R2:aq Tryz.prog 160 2=some (2,3):=by kernel_rfl
@[go_sem] theorem VD:cu Tryz.prog 160=none:=by kernel_rfl
@[go_sem] theorem Vu:aK Tryz.prog 160=true:=by kernel_rfl
@[go_sem] theorem UB:eY Tryz.prog 160=some [.int,.int,.int]:=by kernel_rfl
@[go_sem] theorem U4:bg Tryz.prog 160=some [.sc (.int .i64 0),.sc (.int .i64 0),.sc (.int .i64 0)]:=by kernel_rfl
@[go_sem] theorem U0:bD Tryz.prog 160=24:=by kernel_rfl
@[go_sem] theorem Rn:aq Tryz.prog 162 0=some (0,41):=by kernel_rfl
@[go_sem] theorem RY:aq Tryz.prog 162 1=some (1,42):=by kernel_rfl
@[go_sem] theorem SQ:aq Tryz.prog 162 2=some (2,3):=by kernel_rfl
@[go_sem] theorem SY:aq Tryz.prog 162 3=some (3,3):=by kernel_rfl
@[go_sem] theorem Vd:cu Tryz.prog 162=none:=by kernel_rfl
@[go_sem] theorem U1:aK Tryz.prog 162=true:=by kernel_rfl
@[go_sem] theorem U6:bg Tryz.prog 162=some [.nil,.nil,.sc (.int .i64 0),.sc (.int .i64 0)]:=by kernel_rfl
@[go_sem] theorem Sc:aq Tryz.prog 218 0=some (0,3):=by kernel_rfl
@[go_sem] theorem Q6:aq Tryz.prog 218 1=some (1,3):=by kernel_rfl
@[go_sem] theorem SS:aq Tryz.prog 218 2=some (2,3):=by kernel_rfl
@[go_sem] theorem SB:aq Tryz.prog 218 3=some (3,25):=by kernel_rfl
@[go_sem] theorem Uc:cu Tryz.prog 218=none:=by kernel_rfl
@[go_sem] theorem U5:aK Tryz.prog 218=true:=by kernel_rfl
@[go_sem] theorem VA:bg Tryz.prog 218=some [.sc (.int .i64 0),.sc (.int .i64 0),.sc (.int .i64 0),.nil]:=by kernel_rfl
@[go_sem] theorem UC:aw Tryz.prog 278=2:=by kernel_rfl
@[go_sem] theorem TR:aA Tryz.prog 278=true:=by kernel_rfl
@[go_sem] theorem Ux:bA Tryz.prog 278=true:=by kernel_rfl
@[go_sem] theorem R8:aq Tryz.prog 278 0=some (0,3):=by kernel_rfl
@[go_sem] theorem RK:aq Tryz.prog 278 1=some (1,3):=by kernel_rfl
@[go_sem] theorem Vk:cu Tryz.prog 278=none:=by kernel_rfl
@[go_sem] theorem U7:aK Tryz.prog 278=true:=by kernel_rfl
@[go_sem] theorem Uu:bg Tryz.prog 278=some [.sc (.int .i64 0),.sc (.int .i64 0)]:=by kernel_rfl
@[go_sem] theorem Qb:mn Tryz.prog 284=some (3,.int .i64,4):=by kernel_rfl
@[go_sem] theorem UU:Iy Tryz.prog 284 (.sc (.bool false)):=⟨_,_,Qb,by kernel_rfl⟩
@[go_sem] theorem Rz:aq Tryz.prog 287 0=some (0,3):=by kernel_rfl
@[go_sem] theorem Q9:aq Tryz.prog 287 1=some (1,3):=by kernel_rfl
@[go_sem] theorem S9:aq Tryz.prog 287 2=some (2,3):=by kernel_rfl
@[go_sem] theorem Vw:cu Tryz.prog 287=none:=by kernel_rfl
@[go_sem] theorem TX:aK Tryz.prog 287=true:=by kernel_rfl
@[go_sem] theorem Un:eY Tryz.prog 287=some [.int,.int,.int]:=by kernel_rfl
@[go_sem] theorem UR:bg Tryz.prog 287=some [.sc (.int .i64 0),.sc (.int .i64 0),.sc (.int .i64 0)]:=by kernel_rfl
@[go_sem] theorem Us:aa Tryz.prog 4=true:=by kernel_rfl
@[go_sem] theorem TY:aa Tryz.prog 5=true:=by kernel_rfl
@[go_sem] theorem VC:aa Tryz.prog 6=true:=by kernel_rfl
@[go_sem] theorem UD:aa Tryz.prog 7=true:=by kernel_rfl
@[go_sem] theorem Mb:aa Tryz.prog 8=true:=by kernel_rfl
@[go_sem] theorem Ib:aa Tryz.prog 9=true:=by kernel_rfl
@[go_sem] theorem O5:aa Tryz.prog 10=true:=by kernel_rfl
@[go_sem] theorem OZ:aa Tryz.prog 11=true:=by kernel_rfl
@[go_sem] theorem O4:aa Tryz.prog 12=true:=by kernel_rfl
@[go_sem] theorem Sy:aa Tryz.prog 15=true:=by kernel_rfl
@[go_sem] theorem OR:aa Tryz.prog 16=true:=by kernel_rfl
@[go_sem] theorem RR:aa Tryz.prog 17=true:=by kernel_rfl
@[go_sem] theorem SI:aa Tryz.prog 18=true:=by kernel_rfl
@[go_sem] theorem Rw:aa Tryz.prog 19=true:=by kernel_rfl
@[go_sem] theorem RT:aa Tryz.prog 20=true:=by kernel_rfl
@[go_sem] theorem Sg:aa Tryz.prog 23=true:=by kernel_rfl
@[go_sem] theorem Rx:aa Tryz.prog 24=true:=by kernel_rfl
@[go_sem] theorem BB:aa Tryz.prog 25=true:=by kernel_rfl
@[go_sem] theorem S8:aa Tryz.prog 26=true:=by kernel_rfl
@[go_sem] theorem R6:aa Tryz.prog 27=true:=by kernel_rfl
@[go_sem] theorem yI:aa Tryz.prog 30=true:=by kernel_rfl
@[go_sem] theorem SK:aa Tryz.prog 31=true:=by kernel_rfl
@[go_sem] theorem OD:aa Tryz.prog 32=true:=by kernel_rfl
@[go_sem] theorem s7:aa Tryz.prog 34=true:=by kernel_rfl
@[go_sem] theorem oD:aa Tryz.prog 35=true:=by kernel_rfl
@[go_sem] theorem Ry:aa Tryz.prog 36=true:=by kernel_rfl
@[go_sem] theorem Pe:aa Tryz.prog 37=true:=by kernel_rfl
@[go_sem] theorem KY:aa Tryz.prog 38=true:=by kernel_rfl
@[go_sem] theorem sL:aa Tryz.prog 39=true:=by kernel_rfl
@[go_sem] theorem zm:aa Tryz.prog 40=true:=by kernel_rfl
@[go_sem] theorem O9:aa Tryz.prog 41=true:=by kernel_rfl
@[go_sem] theorem OX:aa Tryz.prog 42=true:=by kernel_rfl
@[go_sem] theorem OQ:aa Tryz.prog 43=true:=by kernel_rfl
@[go_sem] theorem Kr:aa Tryz.prog 44=true:=by kernel_rfl
@[go_sem] theorem Pg:aa Tryz.prog 45=true:=by kernel_rfl
@[go_sem] theorem S4:aa Tryz.prog 46=true:=by kernel_rfl
@[go_sem] theorem Rr:aa Tryz.prog 47=true:=by kernel_rfl
@[go_sem] theorem Si:aa Tryz.prog 48=true:=by kernel_rfl
@[go_sem] theorem SD:aa Tryz.prog 49=true:=by kernel_rfl
@[go_sem] theorem Rd:aa Tryz.prog 50=true:=by kernel_rfl
@[go_sem] theorem R4:aa Tryz.prog 51=true:=by kernel_rfl
@[go_sem] theorem RW:aa Tryz.prog 55=true:=by kernel_rfl
@[go_sem] theorem yq:aa Tryz.prog 56=true:=by kernel_rfl
@[go_sem] theorem Rs:aa Tryz.prog 57=true:=by kernel_rfl
@[go_sem] theorem RH:aa Tryz.prog 58=true:=by kernel_rfl
@[go_sem] theorem RA:aa Tryz.prog 59=true:=by kernel_rfl
@[go_sem] theorem Sl:aa Tryz.prog 60=true:=by kernel_rfl
@[go_sem] theorem Sk:aa Tryz.prog 61=true:=by kernel_rfl
@[go_sem] theorem Rh:aa Tryz.prog 62=true:=by kernel_rfl
@[go_sem] theorem OM:aa Tryz.prog 63=true:=by kernel_rfl
@[go_sem] theorem Sx:aa Tryz.prog 64=true:=by kernel_rfl
@[go_sem] theorem Gn:aa Tryz.prog 65=true:=by kernel_rfl
@[go_sem] theorem RE:aa Tryz.prog 66=true:=by kernel_rfl
@[go_sem] theorem Rl:aa Tryz.prog 67=true:=by kernel_rfl
@[go_sem] theorem CG:aa Tryz.prog 68=true:=by kernel_rfl
@[go_sem] theorem OH:aa Tryz.prog 69=true:=by kernel_rfl
@[go_sem] theorem Pc:aa Tryz.prog 70=true:=by kernel_rfl
@[go_sem] theorem Sf:aa Tryz.prog 71=true:=by kernel_rfl
@[go_sem] theorem L8:aa Tryz.prog 72=true:=by kernel_rfl
@[go_sem] theorem nK:aa Tryz.prog 73=true:=by kernel_rfl
@[go_sem] theorem Q4:aa Tryz.prog 74=true:=by kernel_rfl
@[go_sem] theorem SU:aa Tryz.prog 75=true:=by kernel_rfl
@[go_sem] theorem S5:aa Tryz.prog 76=true:=by kernel_rfl
@[go_sem] theorem Rj:aa Tryz.prog 79=true:=by kernel_rfl
@[go_sem] theorem Sq:aa Tryz.prog 80=true:=by kernel_rfl
@[go_sem] theorem OO:aa Tryz.prog 81=true:=by kernel_rfl
@[go_sem] theorem Sr:aa Tryz.prog 82=true:=by kernel_rfl
@[go_sem] theorem Rg:aa Tryz.prog 83=true:=by kernel_rfl
@[go_sem] theorem MP:aa Tryz.prog 84=true:=by kernel_rfl
@[go_sem] theorem Pd:aa Tryz.prog 94=true:=by kernel_rfl
@[go_sem] theorem O3:aa Tryz.prog 97=true:=by kernel_rfl
@[go_sem] theorem Ki:aa Tryz.prog 98=true:=by kernel_rfl
@[go_sem] theorem Sw:aa Tryz.prog 99=true:=by kernel_rfl
@[go_sem] theorem Lv:aa Tryz.prog 100=true:=by kernel_rfl
@[go_sem] theorem Ps:aa Tryz.prog 101=true:=by kernel_rfl
@[go_sem] theorem Qd:aa Tryz.prog 102=true:=by kernel_rfl
@[go_sem] theorem Em:aa Tryz.prog 103=true:=by kernel_rfl
@[go_sem] theorem Fk:aa Tryz.prog 104=true:=by kernel_rfl
@[go_sem] theorem QR:aa Tryz.prog 105=true:=by kernel_rfl
@[go_sem] theorem Px:aa Tryz.prog 106=true:=by kernel_rfl
@[go_sem] theorem Es:aa Tryz.prog 107=true:=by kernel_rfl
@[go_sem] theorem LG:aa Tryz.prog 108=true:=by kernel_rfl
@[go_sem] theorem Ez:aa Tryz.prog 109=true:=by kernel_rfl
@[go_sem] theorem FW:aa Tryz.prog 110=true:=by kernel_rfl
@[go_sem] theorem Py:aa Tryz.prog 111=true:=by kernel_rfl
@[go_sem] theorem Fu:aa Tryz.prog 112=true:=by kernel_rfl
@[go_sem] theorem PX:aa Tryz.prog 113=true:=by kernel_rfl
@[go_sem] theorem PE:aa Tryz.prog 114=true:=by kernel_rfl
@[go_sem] theorem PP:aa Tryz.prog 115=true:=by kernel_rfl
@[go_sem] theorem Pr:aa Tryz.prog 116=true:=by kernel_rfl
@[go_sem] theorem K2:aa Tryz.prog 117=true:=by kernel_rfl
@[go_sem] theorem Qp:aa Tryz.prog 118=true:=by kernel_rfl
@[go_sem] theorem Qu:aa Tryz.prog 119=true:=by kernel_rfl
@[go_sem] theorem Qy:aa Tryz.prog 120=true:=by kernel_rfl
@[go_sem] theorem Kl:aa Tryz.prog 121=true:=by kernel_rfl
@[go_sem] theorem PO:aa Tryz.prog 122=true:=by kernel_rfl
@[go_sem] theorem M2:aa Tryz.prog 123=true:=by kernel_rfl
@[go_sem] theorem QN:aa Tryz.prog 125=true:=by kernel_rfl
@[go_sem] theorem K6:aa Tryz.prog 126=true:=by kernel_rfl
@[go_sem] theorem MB:aa Tryz.prog 127=true:=by kernel_rfl
@[go_sem] theorem PV:aa Tryz.prog 128=true:=by kernel_rfl
@[go_sem] theorem QX:aa Tryz.prog 129=true:=by kernel_rfl
@[go_sem] theorem My:aa Tryz.prog 133=true:=by kernel_rfl
@[go_sem] theorem QA:aa Tryz.prog 134=true:=by kernel_rfl
@[go_sem] theorem J4:aa Tryz.prog 135=true:=by kernel_rfl
@[go_sem] theorem Eq:aa Tryz.prog 136=true:=by kernel_rfl
@[go_sem] theorem PZ:aa Tryz.prog 137=true:=by kernel_rfl
@[go_sem] theorem Ld:aa Tryz.prog 138=true:=by kernel_rfl
@[go_sem] theorem rF:aa Tryz.prog 139=true:=by kernel_rfl
@[go_sem] theorem Qe:aa Tryz.prog 140=true:=by kernel_rfl
@[go_sem] theorem QD:aa Tryz.prog 141=true:=by kernel_rfl
@[go_sem] theorem Qg:aa Tryz.prog 142=true:=by kernel_rfl
@[go_sem] theorem Ej:aa Tryz.prog 143=true:=by kernel_rfl
@[go_sem] theorem PL:aa Tryz.prog 144=true:=by kernel_rfl
@[go_sem] theorem AY:aa Tryz.prog 145=true:=by kernel_rfl
@[go_sem] theorem QC:aa Tryz.prog 146=true:=by kernel_rfl
@[go_sem] theorem JR:aa Tryz.prog 147=true:=by kernel_rfl
@[go_sem] theorem PS:aa Tryz.prog 148=true:=by kernel_rfl
@[go_sem] theorem Pj:aa Tryz.prog 149=true:=by kernel_rfl
@[go_sem] theorem Pm:aa Tryz.prog 150=true:=by kernel_rfl
@[go_sem] theorem Ph:aa Tryz.prog 151=true:=by kernel_rfl
@[go_sem] theorem Ll:aa Tryz.prog 152=true:=by kernel_rfl
@[go_sem] theorem PC:aa Tryz.prog 155=true:=by kernel_rfl
@[go_sem] theorem AE:aa Tryz.prog 156=true:=by kernel_rfl
@[go_sem] theorem JX:aa Tryz.prog 157=true:=by kernel_rfl
@[go_sem] theorem Lu:aa Tryz.prog 158=true:=by kernel_rfl
@[go_sem] theorem Mx:aa Tryz.prog 159=true:=by kernel_rfl
@[go_sem] theorem LW:aa Tryz.prog 160=true:=by kernel_rfl
@[go_sem] theorem PI:aa Tryz.prog 161=true:=by kernel_rfl
@[go_sem] theorem Qm:aa Tryz.prog 162=true:=by kernel_rfl
@[go_sem] theorem Qa:aa Tryz.prog 163=true:=by kernel_rfl
@[go_sem] theorem Pv:aa Tryz.prog 164=true:=by kernel_rfl
@[go_sem] theorem Qs:aa Tryz.prog 165=true:=by kernel_rfl
@[go_sem] theorem pg:aa Tryz.prog 166=true:=by kernel_rfl
@[go_sem] theorem P4:aa Tryz.prog 167=true:=by kernel_rfl
@[go_sem] theorem KU:aa Tryz.prog 168=true:=by kernel_rfl
@[go_sem] theorem Ms:aa Tryz.prog 169=true:=by kernel_rfl
@[go_sem] theorem LP:aa Tryz.prog 170=true:=by kernel_rfl
@[go_sem] theorem Ka:aa Tryz.prog 171=true:=by kernel_rfl
@[go_sem] theorem J7:aa Tryz.prog 172=true:=by kernel_rfl
@[go_sem] theorem mF:aa Tryz.prog 173=true:=by kernel_rfl
@[go_sem] theorem QW:aa Tryz.prog 175=true:=by kernel_rfl
@[go_sem] theorem PY:aa Tryz.prog 176=true:=by kernel_rfl
@[go_sem] theorem Qo:aa Tryz.prog 177=true:=by kernel_rfl
@[go_sem] theorem P1:aa Tryz.prog 178=true:=by kernel_rfl
@[go_sem] theorem m7:aa Tryz.prog 179=true:=by kernel_rfl
@[go_sem] theorem KV:aa Tryz.prog 180=true:=by kernel_rfl
@[go_sem] theorem Q1:aa Tryz.prog 181=true:=by kernel_rfl
@[go_sem] theorem Qw:aa Tryz.prog 182=true:=by kernel_rfl
@[go_sem] theorem QL:aa Tryz.prog 183=true:=by kernel_rfl
@[go_sem] theorem P8:aa Tryz.prog 184=true:=by kernel_rfl
@[go_sem] theorem Q0:aa Tryz.prog 185=true:=by kernel_rfl
@[go_sem] theorem Q2:aa Tryz.prog 186=true:=by kernel_rfl
@[go_sem] theorem KN:aa Tryz.prog 187=true:=by kernel_rfl
@[go_sem] theorem PH:aa Tryz.prog 188=true:=by kernel_rfl
@[go_sem] theorem Kx:aa Tryz.prog 189=true:=by kernel_rfl
@[go_sem] theorem J8:aa Tryz.prog 190=true:=by kernel_rfl
@[go_sem] theorem QP:aa Tryz.prog 191=true:=by kernel_rfl
@[go_sem] theorem QJ:aa Tryz.prog 192=true:=by kernel_rfl
@[go_sem] theorem Pu:aa Tryz.prog 193=true:=by kernel_rfl
@[go_sem] theorem Pn:aa Tryz.prog 194=true:=by kernel_rfl
@[go_sem] theorem Pl:aa Tryz.prog 195=true:=by kernel_rfl
@[go_sem] theorem PU:aa Tryz.prog 196=true:=by kernel_rfl
@[go_sem] theorem ph:aa Tryz.prog 197=true:=by kernel_rfl
@[go_sem] theorem Qt:aa Tryz.prog 198=true:=by kernel_rfl
@[go_sem] theorem Fd:aa Tryz.prog 199=true:=by kernel_rfl
@[go_sem] theorem Qk:aa Tryz.prog 200=true:=by kernel_rfl
@[go_sem] theorem Am:aa Tryz.prog 204=true:=by kernel_rfl
@[go_sem] theorem Qx:aa Tryz.prog 205=true:=by kernel_rfl
@[go_sem] theorem K7:aa Tryz.prog 206=true:=by kernel_rfl
@[go_sem] theorem Lh:aa Tryz.prog 207=true:=by kernel_rfl
@[go_sem] theorem QO:aa Tryz.prog 208=true:=by kernel_rfl
@[go_sem] theorem Pp:aa Tryz.prog 209=true:=by kernel_rfl
@[go_sem] theorem QE:aa Tryz.prog 210=true:=by kernel_rfl
@[go_sem] theorem Pi:aa Tryz.prog 211=true:=by kernel_rfl
@[go_sem] theorem Qh:aa Tryz.prog 212=true:=by kernel_rfl
@[go_sem] theorem JA:aa Tryz.prog 213=true:=by kernel_rfl
@[go_sem] theorem zH:aa Tryz.prog 214=true:=by kernel_rfl
@[go_sem] theorem Qr:aa Tryz.prog 215=true:=by kernel_rfl
@[go_sem] theorem PJ:aa Tryz.prog 216=true:=by kernel_rfl
@[go_sem] theorem Qn:aa Tryz.prog 217=true:=by kernel_rfl
@[go_sem] theorem PT:aa Tryz.prog 218=true:=by kernel_rfl
@[go_sem] theorem Pq:aa Tryz.prog 219=true:=by kernel_rfl
@[go_sem] theorem Kw:aa Tryz.prog 221=true:=by kernel_rfl
@[go_sem] theorem PM:aa Tryz.prog 222=true:=by kernel_rfl
@[go_sem] theorem P9:aa Tryz.prog 223=true:=by kernel_rfl
@[go_sem] theorem Pz:aa Tryz.prog 224=true:=by kernel_rfl
@[go_sem] theorem Qf:aa Tryz.prog 225=true:=by kernel_rfl
@[go_sem] theorem LO:aa Tryz.prog 226=true:=by kernel_rfl
@[go_sem] theorem K5:aa Tryz.prog 231=true:=by kernel_rfl
@[go_sem] theorem QG:aa Tryz.prog 232=true:=by kernel_rfl
@[go_sem] theorem P2:aa Tryz.prog 233=true:=by kernel_rfl
@[go_sem] theorem QH:aa Tryz.prog 234=true:=by kernel_rfl
@[go_sem] theorem Pw:aa Tryz.prog 235=true:=by kernel_rfl
@[go_sem] theorem Qc:aa Tryz.prog 238=true:=by kernel_rfl
@[go_sem] theorem QZ:aa Tryz.prog 239=true:=by kernel_rfl
@[go_sem] theorem Po:aa Tryz.prog 240=true:=by kernel_rfl
@[go_sem] theorem QT:aa Tryz.prog 245=true:=by kernel_rfl
open Go.RowKit
open Go.PA
abbrev sp (p:Nat):AV:= .sc (.pointer (some ⟨p,0,none⟩))
set_option maxHeartbeats 400000 in
theorem Su (p:Nat) (A:Option Addr) (len c:Nat) (at_:Int) (n:Int) (w:World)
  (h0:w.cell? ⟨p,0,none⟩=some (.slice A len c)) (h1:w.cell? ⟨p,1,none⟩=some (.int .i64 at_))
  (hge:(len:Int)≤at_):
  Calls Tryz.prog 9 #[.pointer (some ⟨p,0,none⟩),.int .i64 n] w fun e w'=>e= .returned (.int .i64 0)∧∃k,w'=w.drewN k:=by
 have hge':decide ((len:Int)≤at_)=true:=by simpa using hge
 go_enter Tryz.func9,Tryz.ntmps9
 go_wp2
 go_quiet (fail)
 go_wp2
 go_ret
 exact⟨rfl,_,rfl⟩
set_option maxHeartbeats 400000 in
theorem Ra (p:Nat) (A:Option Addr) (len c:Nat) (at_:Int) (n:Int) (w:World)
  (h0:w.cell? ⟨p,0,none⟩=some (.slice A len c)) (h1:w.cell? ⟨p,1,none⟩=some (.int .i64 at_))
  (hlt:at_<len) (hn:n<1):
  Calls Tryz.prog 9 #[.pointer (some ⟨p,0,none⟩),.int .i64 n] w fun e w'=>e= .returned (.int .i64 0)∧∃k,w'=w.drewN k:=by
 have hge':decide ((len:Int)≤at_)=false:=by simpa using hlt
 have hn':decide (n<1)=true:=by simpa using hn
 go_enter Tryz.func9,Tryz.ntmps9
 go_wp2
 go_quiet (fail)
 go_wp2
 go_ret
 exact⟨rfl,_,rfl⟩
set_option maxHeartbeats 400000 in
theorem TT (p:Nat) (ad:Addr) (len c:Nat) (at_:Nat) (n x:Int) (w:World)
  (h0:w.cell? ⟨p,0,none⟩=some (.slice (some ad) len c)) (h1:w.cell? ⟨p,1,none⟩=some (.int .i64 at_))
  (hf:w.frozen? ⟨p,1,none⟩=false)
  (hx:w.cell? (ad.add at_)=some (.int .i64 x)) (hp:ad.block≠p)
  (hlen:len≤900)
  (hlt:(at_:Int)<len) (hn:1≤n) (hn2:n≤4000000000000000000):
  Calls Tryz.prog 9 #[.pointer (some ⟨p,0,none⟩),.int .i64 n] w fun e w'=>e= .returned (.int .i64 ((x.tmod n+n)%n))∧∃j k,w'=((w.drewN j).setCell ⟨p,1,none⟩ (.int .i64 (at_+1))).drewN k:=by
 have hge':decide (len≤at_)=false:=by simp;omega
 have hn':decide (n<1)=false:=by simpa using hn
 have hw1:IntKind.i64.wrap (at_:Int)=at_:=by rw[IntKind.wrap_i64];omega
 have hx':∀nq:Nat,((w.drewN nq).setCell ⟨p,1,none⟩ (.int .i64 (at_+1))).cell? (ad.add at_)=some (.int .i64 x):=fun nq=>by
  have h:(⟨p,1,none⟩:Addr)≠ad.add at_:=fun e=>hp (by rw[←dT ad at_,←e])
  exact (World.cell?_setCell_other _ _ _ _ h).trans hx
 have hn0:¬n=0:=by omega
 have hb: -n<x.tmod n∧x.tmod n<n:=by
  exact⟨Int.lt_tmod_of_pos x (by omega),Int.tmod_lt_of_pos x (by omega)⟩
 have hw2:IntKind.i64.wrap (x.tmod n+n)=x.tmod n+n:=by rw[IntKind.wrap_i64];omega
 go_enter Tryz.func9,Tryz.ntmps9
 go_wp2
 go_quiet (fail)
 go_wp2
 go_quiet (fail)
 go_wp2
 go_ret
 exact⟨rfl,_,_,rfl⟩
def NQ (n:Int) (x:AV):Prop:=∃m:Int,x=iv m∧(n<1→m=0)∧(1≤n→0≤m∧m<n)
theorem GX (p:Nat) (src:Option Nat) (n:Int) (hn2:n≤4000000000000000000):PFun Tryz.prog (some p) src 9 [sp p,iv n] (NQ n):=by
 intro w ok vs hok hinv hsz hrep
 have hv0:=hrep 0 (vs[0]'(by simp at hsz;omega)) (sp p) (Array.getElem?_eq_getElem _) rfl
 have hv1:=hrep 1 (vs[1]'(by simp at hsz;omega)) (iv n) (Array.getElem?_eq_getElem _) rfl
 have e0:=bX hv0
 have e1:=bX hv1
 have hvs:vs=#[.pointer (some ⟨p,0,none⟩),.int .i64 n]:=by
  apply Array.ext
  ·simpa using hsz
  ·intro i h1 h2
   match i with
   |0=>simpa using e0
   |1=>simpa using e1
   |i+2=>simp at h2;omega
 subst hvs
 obtain⟨cur,A,len,c,at_,ty,⟨hb,hc0,hc1⟩,ha,hl,hsrc⟩:=hinv.2 p rfl
 have h0:w.cell? ⟨p,0,none⟩=some (.slice A len c):=by rw[cell_of_row w p _ _ ty (0,0) hb];exact hc0
 have h1:w.cell? ⟨p,1,none⟩=some (.int .i64 at_):=by rw[cell_of_row w p _ _ ty (0,0) hb];exact hc1
 have hf:w.frozen? ⟨p,1,none⟩=false:=by simp[World.frozen?,hb]
 have quiet:∀{e:Ending} {w':World},(e= .returned (.int .i64 0)∧∃k,w'=w.drewN k)→(NQ n (iv 0))→∃(v:Value) (x:AV),e= .returned v∧NQ n x∧Imm x∧iH w' (fun b=>ok b∨(w.heap.size≤b∧b<w'.heap.size)) v x∧w.grownBy w' (some p)∧Inv (some p) src ok w':=by
  rintro e w' ⟨rfl,k,rfl⟩ hq
  exact⟨_,iv 0,rfl,hq,.sc,.sc,⟨rfl,rfl,rfl,Nat.le_refl _,fun _ _ _=>rfl⟩,hinv⟩
 by_cases hge:(len:Int)≤at_
 ·refine (Su p A len c at_ n w h0 h1 hge).mono fun e w' h=>quiet h ⟨0,rfl,fun _=>rfl,fun h=>⟨Int.le_refl _,by omega⟩⟩
 by_cases hn:n<1
 ·refine (Ra p A len c at_ n w h0 h1 (by omega) hn).mono fun e w' h=>quiet h ⟨0,rfl,fun _=>rfl,fun h=>⟨Int.le_refl _,by omega⟩⟩
 obtain⟨ad,x,rfl,hs,hp,hx,hxb⟩:=hsrc at_ (by omega)
 refine (TT p ad len c at_ n x w h0 h1 hf hx hp hl (by omega) (by omega) hn2).mono ?_
 rintro e w' ⟨rfl,j,k,rfl⟩
 refine⟨_,iv ((x.tmod n+n)%n),rfl,⟨_,rfl,fun h=>by omega,fun h=>⟨Int.emod_nonneg _ (by omega),Int.emod_lt_of_pos _ (by omega)⟩⟩,.sc,.sc,⟨rfl,rfl,rfl,by simp[World.setCell,World.drewN],fun q hq hne=>?_⟩,⟨hinv.1.1,fun g hg=>⟨(hinv.1.2 g hg).1,?_⟩⟩,fun q hq=>?_⟩
 ·have:p≠q:=fun e=>hne (by rw[e])
  simp[World.setCell,World.drewN,Array.getElem?_modify,this]
 ·obtain⟨t,v,hc⟩:=(hinv.1.2 g hg).2
  have:p≠g:=fun e=>(hok g (hinv.1.2 g hg).1).2 (by rw[e])
  exact⟨t,v,(World.cell?_of_block (w:=w) (by simp[World.setCell,World.drewN,Array.getElem?_modify,this])).trans hc⟩
 ·cases hq
  have hlt:1<cur.size:=(Array.getElem?_eq_some_iff.1 hc1).1
  refine⟨cur.setIfInBounds 1 (.int .i64 (at_+1)),some ad,len,c,at_+1,ty,⟨?_,?_,?_⟩,by omega,hl,fun i hi=>?_⟩
  ·simp[World.setCell,World.drewN,Array.getElem?_modify,hb]
  ·rw[Array.getElem?_setIfInBounds_ne (by omega)];exact hc0
  ·rw[Array.getElem?_setIfInBounds];simp[hlt]
  ·obtain⟨ad',x',h1',h2',h3',h4',h5'⟩:=hsrc i hi
   cases h1'
   refine⟨ad,x',rfl,hs,hp,?_,h5'⟩
   have h:(⟨p,1,none⟩:Addr)≠ad.add i:=fun e=>hp (by rw[←dT ad i,←e])
   exact (World.cell?_setCell_other _ _ _ _ h).trans h4'
open Go.PA
open Go.RowKit
def aI (xs:List Int):AV:= .list 1 (xs.map fun x=>[iv x])
def OS (xs:List Int):Prop:=∀x,x∈xs→ -9223372036854775808≤x∧x≤9223372036854775807
theorem P6 (xs:List Int) (hl:xs.length≤9223372036854775807):NO Tryz.prog none none 4 [aI xs] 67 2 (·=[[aI (xs.take 900),iv 0]]):=by
 refine FG Tryz.func4 rfl (by simp[Tryz.f4]) (by kernel_rfl) ?_
 intro E hP hr hs hW hN
 simp[go_sem,hP,aI,x6,fd,ax,aS,aL]
 have c:0≤min (xs.length:Int) 900∧min (xs.length:Int) 900≤xs.length:=⟨by omega,by omega⟩
 have m:(min (xs.length:Int) 900).toNat=min 900 xs.length:=by omega
 rw[if_pos c,m]
 simp[go_sem,hP,S3,Tryz.f4]
 intro e he a ha
 have:=List.mem_of_mem_take he
 simp at this
 obtain⟨x,_,rfl⟩:=this
 simp at ha
 subst ha
 exact .sc
theorem Kn (p:Nat) (src:Option Nat) (lo hi:Int) (h1: -1000000000000000000≤lo∧lo≤1000000000000000000) (h2: -1000000000000000000≤hi∧hi≤1000000000000000000):
  PFun Tryz.prog (some p) src 34 [sp p,iv lo,iv hi] (fun x=>∃m:Int,x=iv m∧(lo≤hi→lo≤m∧m≤hi)∧(hi<lo→m=lo)):=by
 refine ae Tryz.func34 rfl (by simp[Tryz.f34]) (by kernel_rfl) ?_
 intro E hP hr hs hW hN
 have w1:=ah (hi-lo) (by omega)
 have w2:=ah (hi-lo+1) (by omega)
 simp[go_sem, *]
 refine dA (hr▸hs▸GX p src (hi-lo+1) (by omega)) hP Ib (by simp[go_sem]) ?_ ?_ ?_
 ·by_cases h:hi-lo+1<1
  ·exact⟨iv 0,0,rfl,fun _=>rfl,fun h'=>by omega⟩
  ·exact⟨iv 0,0,rfl,fun _=>rfl,fun h'=>by omega⟩
 ·rintro r ⟨m,rfl,_⟩;exact .sc
 ·rintro r ⟨m,rfl,a1,a2⟩
  have w3:=ah (lo+m) (by omega)
  simp[go_sem, *,Tryz.f34]
  omega
theorem Om (p:Nat) (src:Option Nat) (xs:List Int) (h:1≤xs.length∧xs.length≤1000):
  PFun Tryz.prog (some p) src 35 [sp p,aI xs] (fun x=>∃m:Int,x=iv m∧m∈xs):=by
 refine ae Tryz.func35 rfl (by simp[Tryz.f35]) (by kernel_rfl) ?_
 intro E hP hr hs hW hN
 simp[go_sem,hP,aI]
 refine dA (hr▸hs▸GX p src xs.length (by omega)) hP Ib (by simp[go_sem]) ?_ ?_ ?_
 ·exact⟨iv 0,0,rfl,fun _=>rfl,fun h'=>by omega⟩
 ·rintro r ⟨m,rfl,_⟩;exact .sc
 ·rintro r ⟨m,rfl,a1,a2⟩
  obtain⟨b1,b2⟩:=a2 (by omega)
  have b3:m.toNat<xs.length:=by omega
  simp[go_sem, *,Tryz.f35]
theorem Re (n:Int):∃r,NQ n r:=⟨iv 0,0,rfl,fun _=>rfl,fun h=>by omega⟩
theorem NK (n:Int):∀r,NQ n r→Flat r:=by
 rintro r ⟨m,rfl,_⟩;exact .sc
end Go.Proofs.YtmmpcldnpflchaaGreatDoor
set_option maxRecDepth 100000
namespace Go.Proofs.YtmmpcldnpflchaaGreatDoor
open Go.RowKit Go.WideShapes Go.ChangeShapes
open Go.PA (iH PFun AV Rep)
section
variable {H:Type} {enc:TypeId×Value→H} {P:Program}
theorem xx {f:Func} {s:ChangeSpec} {apart fresh handsOn again:Bool} {W W':World} {args:Array Value} {v:Value} {ds gs:List (DataW H)} {before pa pv:List MemPlace}
  (hW:DataW.Whole enc P f.params.toList s.vars apart W args.toList ds gs before)
  (hres:∀(b:Nat) (sp:Nat→Bool) (hd:Bool),DataW.TrodAll enc P W' b sp hd f.resultTypes.toList (v.resultList f.resultTypes.size) (s.fn H (ds++gs)).results [])
  (hargs:∀sp:Nat→Bool,(∀p∈before,sp p.block=true)→DataW.TrodAll enc P W' 0 sp true f.params.toList args.toList (s.fn H (ds++gs)).args pa)
  (hvars:∀sp:Nat→Bool,(∀p∈before,sp p.block=true)→DataW.TrodVars enc P W' sp s.vars (s.fn H (ds++gs)).vars pv)
  (hps:before=pa++pv) (hb:Below W.heap.size W W')
  (hok:∀(j:Nat) (t:TypeId) (r:Value),f.resultTypes[j]?=some t→(v.resultList f.resultTypes.size)[j]?=some r→Value.okWide P W' .any 0 t r):
  s.post enc P f apart fresh handsOn again W args v W':=by
 have hlt:∀p∈before,p.block<W.heap.size:=fun p hp=>hW.lt p hp
 have hold:∀p∈before,(fun b=>decide (b<W.heap.size)) p.block=true:=fun p hp=>by simpa using hlt p hp
 refine⟨ds,gs,before,[],pa,pv,hW,hres _ _ _,hargs _ hold,hvars _ hold,World.keptBut_mono (fun p hp=>⟨hp,?_⟩) (hb.frame (·∈before)),fun _=>?_⟩
 ·rw[hps,List.mem_append]at hp
  exact Or.inr hp
 ·obtain⟨_,_,_,_,_,hz,hn⟩:=hW
  refine⟨hok,_,_,([]++pa)++pv,⟨[]++pa,pv,trodAll_append (hargs _ (fun _ _=>rfl)) (hres _ _ _),hvars _ (fun _ _=>rfl),rfl,?_,?_⟩,?_⟩
  ·intro b off hp
   have hin:MemPlace.cell b off∈before:=by rw[hps];simpa using hp
   rw[hb.frozen (hlt _ hin)]
   exact hz b off hin
  ·intro ha
   have:=hn ha
   rw[hps]at this
   simpa using this
  ·intro p hp _
   rw[hps]
   simpa using hp
end
theorem Tryz.own:ownKnob Tryz.prog.godebug=none:=by kernel_rfl
theorem Tryz.laidOut:laidOutB Tryz.prog=true:=by kernel_rfl
end Go.Proofs.YtmmpcldnpflchaaGreatDoor
namespace Go.PA
open Go.RowKit Go.WideShapes Go.ChangeShapes
mutual
inductive Sh where
 |int (k:IntKind)
 |bool
 |str
 |slice (e:Sh)
 |strct (fs:Fs)
inductive Fs where
 |nil
 |cons (s:Sh) (fs:Fs)
end
mutual
def Sh.size:Sh→Nat
 | .int _=>1
 | .bool=>1
 | .str=>1
 | .slice _=>1
 | .strct fs=>fs.size
def Fs.size:Fs→Nat
 | .nil=>0
 | .cons s fs=>s.size+fs.size
end
mutual
def Sh.ok (P:Program):Sh→TypeId→Bool
 | .int k,t=>decide (P.cellsOf t=1)&&(match P.underlying t with|some (.int k')=>decide (k'=k)|_=>false)
 | .bool,t=>decide (P.cellsOf t=1)&&(match P.underlying t with|some .bool=>true|_=>false)
 | .str,t=>decide (P.cellsOf t=1)&&(match P.underlying t with|some .string=>true|_=>false)
 | .slice e,t=>decide (P.cellsOf t=1)&&decide (0<e.size)&&(match P.underlying t with|some (.slice te)=>e.ok P te|_=>false)
 | .strct fs,t=>decide (P.cellsOf t=fs.size)&&(match P.underlying t with|some (.struct fields)=>fs.ok P fields.toList 0|_=>false)
def Fs.ok (P:Program):Fs→List Field→Nat→Bool
 | .nil,[],_=>true
 | .cons s fs,f::l,off=>s.ok P f.type&&decide (f.offset=off)&&fs.ok P l (off+s.size)
 |_,_,_=>false
end
mutual
def Sh.V:Sh→List AV→Prop
 | .int k,as0=>∃n,as0=[.sc (.int k n)]∧(Lit.int k n).wf=true
 | .bool,as0=>∃b,as0=[.sc (.bool b)]
 | .str,as0=>∃s:ByteArray,as0=[.sc (.string s)]∧s.size≤maxLen
 | .slice e,as0=>∃es:List (List AV),as0=[.list e.size es]∧es.length≤maxLen∧∀x,x∈es→e.V x
 | .strct fs,as0=>fs.V as0
def Fs.V:Fs→List AV→Prop
 | .nil,as0=>as0=[]
 | .cons s fs,as0=>∃x y,as0=x++y∧s.V x∧fs.V y
end
theorem Sh.ok_size (P:Program) (s:Sh) (t:TypeId) (h:s.ok P t=true):P.cellsOf t=s.size:=by
 cases s<;>simp only[Sh.ok,Bool.and_eq_true,decide_eq_true_eq]at h<;>simp only[Sh.size]<;>first|exact h.1|exact h.1.1
def QF (w:World) (cs:List Value) (as0:List AV):Prop:=∀(i:Nat) (c:Value) (a:AV),cs[i]?=some c→as0[i]?=some a→iH w (fun b=>b<w.heap.size) c a∧c.oneCell'=true
theorem kH {w:World} {c:Value} {a:AV} (h:iH w (fun b=>b<w.heap.size) c a) (h1:c.oneCell'=true):QF w [c] [a]:=fun i c' a' hc ha=>by
 rcases i with _|i
 ·simp at hc ha
  subst hc;subst ha
  exact⟨h,h1⟩
 ·simp at hc
theorem Nx {w:World} {a:Addr} {v:Value} (h:w.cell? a=some v):a.block<w.heap.size:=by
 simp only[World.cell?]at h
 split at h
 ·rename_i hb
  exact (Array.getElem?_eq_some_iff.1 hb).1
 ·cases h
theorem Bh {α:Type} (n:Nat) (p:Nat→α→Prop) (h:∀i,i<n→∃a,p i a):∃l:List α,l.length=n∧∀i a,l[i]?=some a→p i a:=by
 induction n with
 |zero=>exact⟨[],rfl,by simp⟩
 |succ n ih=>
  obtain⟨l,h1,h2⟩:=ih fun i hi=>h i (by omega)
  obtain⟨a,ha⟩:=h n (by omega)
  refine⟨l++[a],by simp[h1],fun i b hb=>?_⟩
  by_cases hi:i<n
  ·rw[List.getElem?_append_left (by omega)]at hb
   exact h2 i b hb
  ·have:i=n:=by
    have:=(gsI hb)
    simp at this
    omega
   subst this
   rw[List.getElem?_append_right (by omega)]at hb
   simp[h1]at hb
   subst hb
   exact ha
section
variable {H:Type} {enc:TypeId×Value→H} {P:Program} {w:World} {base:Nat} {spare:Nat→Bool} {held:Bool}
mutual
theorem Sh.rep:∀(s:Sh) (t:TypeId) (fuel:Nat) (cs:List Value) (x:DataW H×List MemPlace),s.ok P t=true→DataW.trod enc P w base spare held fuel t cs=some x→
  ∃as0,s.V as0∧as0.length=s.size∧cs.length=s.size∧QF w cs as0
 | .int k,t,fuel,cs,x,hs,h=>by
  simp only[Sh.ok,Bool.and_eq_true,decide_eq_true_eq]at hs
  obtain⟨_,hs⟩:=hs
  split at hs
  ·rename_i k' hu
   have:=of_decide_eq_true hs
   subst this
   obtain⟨n,rfl,_,hw⟩:=DataW.trod_int hu h
   exact⟨[.sc (.int k' n)],⟨n,rfl,hw⟩,rfl,rfl,kH .sc rfl⟩
  ·cases hs
 | .bool,t,fuel,cs,x,hs,h=>by
  simp only[Sh.ok,Bool.and_eq_true,decide_eq_true_eq]at hs
  obtain⟨_,hs⟩:=hs
  split at hs
  ·rename_i hu
   obtain⟨b,rfl,_⟩:=DataW.trod_bool hu h
   exact⟨[.sc (.bool b)],⟨b,rfl⟩,rfl,rfl,kH .sc rfl⟩
  ·cases hs
 | .str,t,fuel,cs,x,hs,h=>by
  simp only[Sh.ok,Bool.and_eq_true,decide_eq_true_eq]at hs
  obtain⟨_,hs⟩:=hs
  split at hs
  ·rename_i hu
   obtain⟨b,rfl,_,hl⟩:=DataW.trod_string hu h
   exact⟨[.sc (.string b)],⟨b,rfl,hl⟩,rfl,rfl,kH .sc rfl⟩
  ·cases hs
 | .slice e,t,fuel,cs,x,hs,h=>by
  simp only[Sh.ok,Bool.and_eq_true,decide_eq_true_eq]at hs
  obtain⟨⟨_,hpos⟩,hs⟩:=hs
  split at hs
  ·rename_i te hu
   have hsz:=Sh.ok_size P e te hs
   rcases DataW.trod_slice hu h with⟨rfl,_⟩|⟨a,len,cap,elems,rest,n,_,rfl,_,hb,hl,hm,hlen,hel,_,_⟩
   ·exact⟨[.list e.size []],⟨[],rfl,by simp,by simp⟩,rfl,rfl,kH .listNil rfl⟩
   rcases Nat.eq_zero_or_pos len with h0|h0
   ·subst h0
    exact⟨[.list e.size []],⟨[],rfl,by simp,by simp⟩,rfl,rfl,kH .listNil rfl⟩
   obtain⟨es,hes,hp⟩:=Bh len (fun i (as0:List AV)=>∃cs',w.cells? base (a.add (i*e.size)) e.size=some cs'∧e.V as0∧as0.length=e.size∧QF w cs' as0) fun i hi=>by
    have hi':i<elems.length:=by omega
    have:=hel i hi
    rw[List.getElem?_eq_getElem hi',Option.bind_eq_some_iff,hsz]at this
    obtain⟨cs',h1,h2⟩:=this
    obtain⟨as0,h3,h4,h5,h6⟩:=Sh.rep e te n cs' _ hs h2
    exact⟨as0,cs',h1,h3,h4,h6⟩
   have cells:∀(i:Nat) (x:List AV) (j:Nat) (b:AV),es[i]?=some x→x[j]?=some b→∃c,w.cell? (a.add (i*e.size+j))=some c∧iH w (fun b=>b<w.heap.size) c b∧c.oneCell'=true:=fun i x j b hx hj=>by
    obtain⟨cs',h1,h3,h4,h6⟩:=hp i x hx
    obtain⟨_,hl',hc⟩:=World.cells?_some h1
    have hj':=(gsI hj)
    have hcj:cs'[j]?=some (cs'[j]'(by omega)):=List.getElem?_eq_getElem (by omega)
    obtain⟨r1,r2⟩:=h6 j _ b hcj hj
    refine⟨_,?_,r1,r2⟩
    have:=hc j (by omega)
    rw[pM,hcj]at this
    exact this
   have hblk:a.block<w.heap.size:=by
    obtain⟨cs',h1,h3,h4,h6⟩:=hp 0 (es[0]'(by omega)) (List.getElem?_eq_getElem (by omega))
    obtain⟨_,hl',hc⟩:=World.cells?_some h1
    have:=hc 0 hpos
    rw[List.getElem?_eq_getElem (by omega)]at this
    have:=Nx this
    rw[dT,dT]at this
    exact this
   refine⟨[.list e.size es],⟨es,rfl,by omega,fun x hx=>?_⟩,rfl,rfl,kH ?_ rfl⟩
   ·obtain⟨i,hi⟩:=List.getElem?_of_mem hx
    obtain⟨_,_,h3,_⟩:=hp i x hi
    exact h3
   ·refine .list (fun i j=>(w.cell? (a.add (i*e.size+j))).getD undef) hes hl hblk (fun x hx=>?_) ?_ ?_ ?_
    ·obtain⟨i,hi⟩:=List.getElem?_of_mem hx
     obtain⟨_,_,_,h4,_⟩:=hp i x hi
     exact h4
    ·intro i x j b hx hj
     obtain⟨c,h1,_⟩:=cells i x j b hx hj
     rw[h1];rfl
    ·intro i x j b hx hj
     obtain⟨c,h1,_,h3⟩:=cells i x j b hx hj
     rw[h1];exact h3
    ·intro i x j b hx hj
     obtain⟨c,h1,h2,_⟩:=cells i x j b hx hj
     rw[h1];exact h2
  ·cases hs
 | .strct fs,t,fuel,cs,x,hs,h=>by
  simp only[Sh.ok,Bool.and_eq_true,decide_eq_true_eq]at hs
  obtain⟨hc,hs⟩:=hs
  split at hs
  ·rename_i fields hu
   obtain⟨xs,n,_,_,hl,hxl,hf⟩:=DataW.trod_struct hu h
   obtain⟨as0,h1,h2,h3⟩:=Fs.rep fs fields.toList 0 n cs xs hs (by simp[hxl]) (by rw[hl,hc];simp) fun i f hi=>hf i f (by simpa using hi)
   refine⟨as0,h1,h2,by rw[hl,hc];rfl,fun i c a hci ha=>h3 i c a (by simpa using hci) ha⟩
  ·cases hs
theorem Fs.rep:∀(fs:Fs) (fields:List Field) (off n:Nat) (cs:List Value) (xs:List (DataW H×List MemPlace)),fs.ok P fields off=true→xs.length=fields.length→cs.length=off+fs.size→
  (∀(i:Nat) (f:Field),fields[i]?=some f→DataW.trod enc P w base spare held n f.type ((cs.drop f.offset).take (P.cellsOf f.type))=xs[i]?)→
  ∃as0,fs.V as0∧as0.length=fs.size∧∀(i:Nat) (c:Value) (a:AV),cs[off+i]?=some c→as0[i]?=some a→iH w (fun b=>b<w.heap.size) c a∧c.oneCell'=true
 | .nil,fields,off,n,cs,xs,hs,hxl,hcl,hf=>⟨[],rfl,rfl,fun i c a hc ha=>by simp at ha⟩
 | .cons s fs,[],off,n,cs,xs,hs,hxl,hcl,hf=>by simp[Fs.ok]at hs
 | .cons s fs,f::l,off,n,cs,[],hs,hxl,hcl,hf=>by simp at hxl
 | .cons s fs,f::l,off,n,cs,y::xs,hs,hxl,hcl,hf=>by
  simp only[Fs.ok,Bool.and_eq_true,decide_eq_true_eq]at hs
  obtain⟨⟨h1,h2⟩,h3⟩:=hs
  have hsz:=Sh.ok_size P s f.type h1
  have h0:=hf 0 f rfl
  rw[h2,hsz]at h0
  simp only[List.getElem?_cons_zero]at h0
  obtain⟨as0,a1,a2,a3,a4⟩:=Sh.rep s f.type n _ _ h1 h0
  simp only[Fs.size]at hcl
  obtain⟨bs,b1,b2,b3⟩:=Fs.rep fs l (off+s.size) n cs xs h3 (by simpa using hxl) (by omega) fun i g hi=>by
   have:=hf (i+1) g (by simpa using hi)
   simpa using this
  refine⟨as0++bs,⟨as0,bs,rfl,a1,b1⟩,by simp[a2,b2,Fs.size],fun i c a hc ha=>?_⟩
  by_cases hi:i<s.size
  ·rw[List.getElem?_append_left (by omega)]at ha
   refine a4 i c a ?_ ha
   rw[List.getElem?_take,if_pos hi,List.getElem?_drop]
   exact hc
  ·rw[List.getElem?_append_right (by omega)]at ha
   refine b3 (i-s.size) c a ?_ (by rw[←a2];exact ha)
   rw[←hc]
   congr 1
   omega
end
def Sh.A (s:Sh) (a:AV):Prop:=match s with
 | .strct fs=>∃cs,a= .agg cs∧fs.V cs
 |s=>s.V [a]
theorem NZ {s:Sh} {t:TypeId} {r:Reach} {b0:Nat} {v:Value} {d:DataW H} {ps:List MemPlace} (hs:s.ok P t=true) (hval:Value.okWide P w r b0 t v) (h:DataW.Trod enc P w base spare held t v d ps):
  ∃a,s.A a∧iH w (fun b=>b<w.heap.size) v a:=by
 have h':=h
 obtain⟨fuel,hf⟩:=h
 obtain⟨as0,h1,h2,h3,h4⟩:=Sh.rep s t fuel _ _ hs hf
 have scal:s.size=1→v.cells.toList=[v]→∃a,s.V [a]∧iH w (fun b=>b<w.heap.size) v a:=fun e hv=>by
  rw[e]at h2
  match as0,h2 with
  |[a],_=>
   rw[hv]at h4
   exact⟨a,h1,(h4 0 _ _ rfl rfl).1⟩
 cases s with
 |strct fs=>
  unfold Value.okWide at hval
  simp only[Sh.ok,Bool.and_eq_true,decide_eq_true_eq]at hs
  obtain⟨_,hs⟩:=hs
  split at hs
  ·rename_i fields hu
   rw[hu]at hval
   obtain⟨cs,rfl,_⟩:=hval
   refine⟨.agg as0,⟨as0,rfl,h1⟩,.agg ?_ fun i c a hc ha=>(h4 i c a ?_ ha).1⟩
   ·simp only[Value.cells,Array.length_toList]at h3
    omega
   ·simpa[Value.cells]using hc
  ·cases hs
 |int k=>
  simp only[Sh.ok,Bool.and_eq_true,decide_eq_true_eq]at hs
  obtain⟨_,hs⟩:=hs
  split at hs
  ·rename_i hu
   obtain⟨m,rfl,_⟩:=open_int hu hval h'
   exact scal rfl rfl
  ·cases hs
 |bool=>
  simp only[Sh.ok,Bool.and_eq_true,decide_eq_true_eq]at hs
  obtain⟨_,hs⟩:=hs
  split at hs
  ·rename_i hu
   obtain⟨m,rfl,_⟩:=open_bool hu hval h'
   exact scal rfl rfl
  ·cases hs
 |str=>
  simp only[Sh.ok,Bool.and_eq_true,decide_eq_true_eq]at hs
  obtain⟨_,hs⟩:=hs
  split at hs
  ·rename_i hu
   obtain⟨s,hv,_⟩:=DataW.trod_string hu hf
   refine scal rfl ?_
   obtain⟨s',rfl⟩:=okWide_string hu hval
   rfl
  ·cases hs
 |slice e=>
  simp only[Sh.ok,Bool.and_eq_true,decide_eq_true_eq]at hs
  obtain⟨_,hs⟩:=hs
  split at hs
  ·rename_i te hu
   obtain⟨A,n,c,rfl⟩:=okWide_slice hu hval
   exact scal rfl rfl
  ·cases hs
def Cj:List Sh→List AV→Prop
 |[],[]=>True
 |s::ss,a::as0=>s.A a∧Cj ss as0
 |_,_=>False
theorem Jq {s:Sh} {ss:List Sh} {l:List AV} (h:Cj (s::ss) l):∃a l',l=a::l'∧s.A a∧Cj ss l':=by
 cases l with
 |nil=>exact h.elim
 |cons a l=>exact⟨a,l,rfl,h.1,h.2⟩
theorem LY {l:List AV} (h:Cj [] l):l=[]:=by
 cases l with
 |nil=>rfl
 |cons a l=>exact h.elim
def qK (P:Program):List Sh→List TypeId→Bool
 |[],[]=>true
 |s::ss,t::ts=>s.ok P t&&(P.readableRec t&&decide (t<P.types.size))&&qK P ss ts
 |_,_=>false
theorem CV {r:Reach} {b0:Nat}:∀(ss:List Sh) (ts:List TypeId) (vs:List Value) (ds:List (DataW H)) (ps:List MemPlace),qK P ss ts=true→(∀(j:Nat) (t:TypeId) (v:Value),ts[j]?=some t→vs[j]?=some v→Value.okWide P w r b0 t v)→
  DataW.TrodAll enc P w base spare held ts vs ds ps→∃as0,Cj ss as0∧as0.length=vs.length∧∀(i:Nat) (v:Value) (a:AV),vs[i]?=some v→as0[i]?=some a→iH w (fun b=>b<w.heap.size) v a
 |[],[],vs,ds,ps,_,_,h=>by
  obtain⟨rfl,_,_⟩:=trodAll_nil h
  exact⟨[],trivial,rfl,fun i v a hv=>by simp at hv⟩
 |[],t::ts,vs,ds,ps,hs,_,h=>by simp[qK]at hs
 |s::ss,[],vs,ds,ps,hs,_,h=>by simp[qK]at hs
 |s::ss,t::ts,vs,ds,ps,hs,hval,h=>by
  simp only[qK,Bool.and_eq_true,decide_eq_true_eq]at hs
  match vs,ds,h with
  |v::vs,d::ds,⟨p,q,h1,h2,_⟩=>
   obtain⟨a,a1,a2⟩:=NZ hs.1.1 (hval 0 t v rfl rfl) h1
   obtain⟨as0,b1,b2,b3⟩:=CV ss ts vs ds q hs.2 (fun j t v ht hv=>hval (j+1) t v (by simpa using ht) (by simpa using hv)) h2
   refine⟨a::as0,⟨a1,b1⟩,by simp[b2],fun i v' a' hv ha=>?_⟩
   rcases i with _|i
   ·simp at hv ha
    subst hv;subst ha
    exact a2
   ·exact b3 i v' a' (by simpa using hv) (by simpa using ha)
theorem oI (hl:laidOutB P=true) {W W':World} {sp:Nat→Bool}:∀(ss:List Sh) (ts:List TypeId) (vs:List Value) (ds:List (DataW H)) (ps:List MemPlace),qK P ss ts=true→DataW.TrodAll enc P W 0 (fun _=>true) true ts vs ds ps→
  (∀p∈ps,W.sameAt W' p)→(∀p∈ps,sp p.block=true)→DataW.TrodAll enc P W' 0 sp true ts vs ds ps
 |[],[],vs,ds,ps,_,h,_,_=>by
  obtain⟨rfl,rfl,rfl⟩:=trodAll_nil h
  exact rfl
 |[],t::ts,vs,ds,ps,hs,h,_,_=>by simp[qK]at hs
 |s::ss,[],vs,ds,ps,hs,h,_,_=>by simp[qK]at hs
 |s::ss,t::ts,vs,ds,ps,hs,h,hsame,hsp=>by
  simp only[qK,Bool.and_eq_true,decide_eq_true_eq]at hs
  match vs,ds,h with
  |v::vs,d::ds,⟨p,q,h1,h2,hp⟩=>
   subst hp
   exact⟨p,q,WideElems.Trod_stays hl hs.1.2.1 hs.1.2.2 h1 (fun x hx=>hsame x (by simp[hx])) (fun x hx=>hsp x (by simp[hx])),
    oI hl ss ts vs ds q hs.2 h2 (fun x hx=>hsame x (by simp[hx])) (fun x hx=>hsp x (by simp[hx])),rfl⟩
theorem p6:∀(ts:List TypeId) (vs:List Value) (ds:List (DataW H)) (ps:List MemPlace),DataW.TrodAll enc P w base spare held ts vs ds ps→ds.length=ts.length
 |[],vs,ds,ps,h=>by
  obtain⟨_,rfl,_⟩:=trodAll_nil h
  rfl
 |t::ts,vs,ds,ps,h=>by
  match vs,ds,h with
  |v::vs,d::ds,⟨p,q,_,h2,_⟩=>simp[p6 ts vs ds q h2]
theorem Hz {α:Type} {l:List α} (h:l.length=1):∃a0,l=[a0]:=by
 match l,h with
 |[a0],_=>exact⟨a0,rfl⟩
end
end Go.PA
namespace Go.Proofs.YtmmpcldnpflchaaGreatDoor
open Go.PA
open Go.RowKit
def fits (n:Int):Prop:= -9223372036854775808≤n∧n≤9223372036854775807
theorem M7 {n:Int} (h:(Lit.int .i64 n).wf=true):fits n:=by
 simp only[Lit.wf,Bool.and_eq_true,decide_eq_true_eq]at h
 exact h
theorem QU (as0:List AV) (h:(Sh.int .i64).V as0):∃x:Int,as0=aJ x∧fits x:=by
 obtain⟨n,rfl,h⟩:=h
 exact⟨n,rfl,M7 h⟩
theorem Gp {α:Type} {enc:α→List AV} {wf:α→Prop} {s:Sh} (h:∀as0,s.V as0→∃x:α,as0=enc x∧wf x):∀es:List (List AV),(∀x,x∈es→s.V x)→∃l:List α,es=ac enc l∧∀z,z∈l→wf z
 |[],_=>⟨[],rfl,by simp⟩
 |e::es,he=>by
  obtain⟨a,rfl,ha⟩:=h e (he e (by simp))
  obtain⟨l,rfl,hl⟩:=Gp h es fun x hx=>he x (List.mem_cons_of_mem _ hx)
  refine⟨a::l,rfl,fun z hz=>?_⟩
  rcases List.mem_cons.1 hz with rfl|hz
  ·exact ha
  ·exact hl z hz
theorem L4 {α:Type} {enc:α→List AV} {wf:α→Prop} (s:Sh) (h:∀as0,s.V as0→∃x:α,as0=enc x∧wf x) (as0:List AV) (hs:(Sh.slice s).V as0):∃l:List α,as0=[.list s.size (ac enc l)]∧(l.length≤maxLen∧∀z,z∈l→wf z):=by
 obtain⟨es,rfl,hl,he⟩:=hs
 obtain⟨l,rfl,hw⟩:=Gp h es he
 exact⟨l,rfl,by simpa[ac]using hl,hw⟩
def TSub.wf (x:TSub):Prop:=fits x.ID∧fits x.Balance
def TEntry.wf (x:TEntry):Prop:=fits x.Number∧fits x.Day∧fits x.From∧fits x.To∧fits x.Amount∧fits x.Ref
def TAccount.wf (x:TAccount):Prop:=fits x.Credit∧(x.Subs.length≤maxLen∧∀z,z∈x.Subs→z.wf)∧(x.Entries.length≤maxLen∧∀z,z∈x.Entries→z.wf)
def TPayment.wf (x:TPayment):Prop:=fits x.Warrant∧fits x.Payee∧fits x.Amount∧fits x.Due∧fits x.Sub
def TBatch.wf (x:TBatch):Prop:=fits x.Number∧fits x.Day∧(x.Payments.length≤maxLen∧∀z,z∈x.Payments→z.wf)
def TQueue.wf (x:TQueue):Prop:=(x.Waiting.length≤maxLen∧∀z,z∈x.Waiting→z.wf)∧(x.Known.length≤maxLen∧∀z,z∈x.Known→fits z)∧(x.Batches.length≤maxLen∧∀z,z∈x.Batches→z.wf)
def TItem.wf (x:TItem):Prop:=x.Payment.wf∧fits x.State∧fits x.Attempts
def TDesk.wf (x:TDesk):Prop:=x.Account.wf∧x.Queue.wf∧(x.Items.length≤maxLen∧∀z,z∈x.Items→z.wf)
def TClaim.wf (x:TClaim):Prop:=fits x.ID∧fits x.Payer∧fits x.Amount∧fits x.Open∧fits x.Day∧x.Code.size≤maxLen
def TIncome.wf (x:TIncome):Prop:=fits x.Number∧fits x.Day∧fits x.Payer∧fits x.Amount∧fits x.Claim
def TMatch.wf (x:TMatch):Prop:=fits x.Income∧fits x.Claim∧fits x.Amount
def TCash.wf (x:TCash):Prop:=(x.Claims.length≤maxLen∧∀z,z∈x.Claims→z.wf)∧(x.Incomes.length≤maxLen∧∀z,z∈x.Incomes→z.wf)∧(x.Matches.length≤maxLen∧∀z,z∈x.Matches→z.wf)∧(x.Loose.length≤maxLen∧∀z,z∈x.Loose→fits z)
def TSecurity.wf (x:TSecurity):Prop:=fits x.ID∧fits x.Unit∧fits x.Issued∧fits x.Maturity∧fits x.Rate∧fits x.Every∧True
def THolding.wf (x:THolding):Prop:=fits x.Security∧fits x.Holder∧fits x.Amount
def TMove.wf (x:TMove):Prop:=fits x.Number∧fits x.Day∧fits x.Kind∧fits x.Security∧fits x.From∧fits x.To∧fits x.Amount
def TRegister.wf (x:TRegister):Prop:=(x.Securities.length≤maxLen∧∀z,z∈x.Securities→z.wf)∧(x.Holdings.length≤maxLen∧∀z,z∈x.Holdings→z.wf)∧(x.Moves.length≤maxLen∧∀z,z∈x.Moves→z.wf)
def TPosting.wf (x:TPosting):Prop:=fits x.Number∧fits x.Day∧fits x.Entity∧fits x.Debit∧fits x.Credit∧fits x.Amount∧fits x.Partner∧fits x.Ref
def TLedger.wf (x:TLedger):Prop:=(x.Postings.length≤maxLen∧∀z,z∈x.Postings→z.wf)
def TState.wf (x:TState):Prop:=x.Desk.wf∧x.Cash.wf∧x.Register.wf∧x.Ledger.wf
def TDeed.wf (x:TDeed):Prop:=fits x.Kind∧fits x.Day∧fits x.Sub∧fits x.Who∧fits x.Ref∧fits x.Amount∧fits x.Due
def TFinding.wf (x:TFinding):Prop:=fits x.Layer∧fits x.Number
open Go.ChangeShapes Go.WideShapes Go.ChangeAt Go.RowKit
open Go.PA (iH PFun AV Rep Sh Cj Fs)
theorem J2 {a:AV} (h:(Sh.slice (.int .i64)).A a):∃l:List Int,a=aI l∧OS l∧l.length≤9223372036854775807:=by
 obtain⟨l,e,hl,hw⟩:=L4 (.int .i64) QU [a] h
 have hml:maxLen≤9223372036854775807:=by decide
 simp only[List.cons.injEq,and_true]at e
 exact⟨l,e,hw,by omega⟩
end Go.Proofs.YtmmpcldnpflchaaGreatDoor
set_option maxRecDepth 100000
namespace Go.Proofs.YtmmpcldnpflchaaGreatDoor
open Go.RowKit Go.WideShapes Go.ChangeShapes
open Go.PA (iH PFun AV Rep GlobOk)
theorem gES:Tryz.prog.globalNamed "strconv.ErrSyntax"=some 0:=by kernel_rfl
theorem gER:Tryz.prog.globalNamed "strconv.ErrRange"=some 1:=by kernel_rfl
theorem Vv:(Tryz.prog.globals[0]?).map (·.type)=some 306:=by kernel_rfl
theorem Vh:(Tryz.prog.globals[1]?).map (·.type)=some 306:=by kernel_rfl
theorem Gm:Tryz.prog.cellsOf 347=1:=by kernel_rfl
theorem Cv:Tryz.prog.cellsOf 9=1:=by kernel_rfl
theorem MD: "*"++ "errors.errorString"= "*errors.errorString":=by decide
theorem O8 (u:TypeId) (h:Tryz.prog.typeName? 3 u=some "*errors.errorString"):u=345:=
 typeName_ptr_named (nm:= "errors.errorString") (by rw[MD];kernel_rfl) (by kernel_rfl) (by decide) u (by rw[MD];exact h)
theorem xa {W:World} {g:Nat} {v:Value} (h:W.cell? ⟨g,0,none⟩=some v):g<W.heap.size:=by
 rcases Nat.lt_or_ge g W.heap.size with h'|h'
 ·exact h'
 ·simp[World.cell?,Array.getElem?_eq_none h']at h
theorem Oc {W:World} (h:laidMetH Tryz.prog Rows.courtOrderRow.laid W):GlobOk (fun b=>b<W.heap.size) W:=by
 rw[MakeChecks.laidMetH_plain _ _ _ (by kernel_rfl)]at h
 have h4:=h.tail.tail.tail.tail
 obtain⟨a0,s0,hv0, -, -, -⟩:=laid_sentinel h4 gER Vh Tryz.underlying306 O8 Tryz.underlying345 Tryz.underlying347 rfl rfl Tryz.underlying9 Gm Cv
 obtain⟨a1,s1,hv1, -, -, -⟩:=laid_sentinel h4.tail gES Vv Tryz.underlying306 O8 Tryz.underlying345 Tryz.underlying347 rfl rfl Tryz.underlying9 Gm Cv
 have h0:W.cell? ⟨1,0,none⟩=some (.iface 345 (.pointer (some a0))):=by simpa using World.var?_cell gER hv0 0
 have h1:W.cell? ⟨0,0,none⟩=some (.iface 345 (.pointer (some a1))):=by simpa using World.var?_cell gES hv1 0
 intro g hg
 simp only[Go.PA.OP,List.mem_cons,List.not_mem_nil,or_false]at hg
 rcases hg with rfl|rfl
 ·exact⟨xa h1,_,_,h1⟩
 ·exact⟨xa h0,_,_,h0⟩
open Go.PA
def dB (n lo hi:Int):Bool:=decide (lo≤n)&&decide (n≤hi)
theorem mb {n lo hi:Int}:dB n lo hi=true↔lo≤n∧n≤hi:=by simp[dB]
def vB (n:Int):Bool:=dB n 0 1000000000000
def x9:Int→List Int→Bool
 |_,[]=>true
 |p,i::l=>dB i 1 1000&&(decide (p<i)&&x9 i l)
def lm (ids:List Int):Bool:=x9 0 ids&&decide (ids.head?=some 1)
def ids (l:List TSub):List Int:=l.map (·.ID)
theorem gP (l:List TSub):(ids l).length=l.length:=by simp[ids]
theorem Gx (l:List TSub) (i:Nat):(ids l)[i]?=(l[i]?).map (·.ID):=by simp[ids]
theorem Ay:∀(l:List Int) (p:Int),x9 p l=true→∀i,i∈l→p<i∧1≤i∧i≤1000
 |[],p,_,i,hi=>by simp at hi
 |a::l,p,h,i,hi=>by
  simp only[x9,Bool.and_eq_true,mb,decide_eq_true_eq]at h
  rcases List.mem_cons.1 hi with rfl|hi
  ·exact⟨h.2.1,h.1⟩
  ·have:=Ay l a h.2.2 i hi
   omega
theorem uI:∀(l:List Int) (p:Int),x9 p l=true→l.Nodup
 |[],p,_=>List.nodup_nil
 |a::l,p,h=>by
  simp only[x9,Bool.and_eq_true,mb,decide_eq_true_eq]at h
  refine List.nodup_cons.2 ⟨fun hm=>?_,uI l a h.2.2⟩
  have:=Ay l a h.2.2 a hm
  omega
def adj (l:List TSub) (id amt:Int):List TSub:=l.map fun s=>if s.ID=id then⟨s.ID,s.Balance+amt⟩else s
theorem Gy (l:List TSub) (id amt:Int):(adj l id amt).length=l.length:=by simp[adj]
theorem p5 (l:List TSub) (id amt:Int):ids (adj l id amt)=ids l:=by
 simp only[ids,adj,List.map_map]
 apply List.map_congr_left
 intro s _
 simp only[Function.comp]
 split<;>rfl
theorem MA {l:List TSub} {id amt:Int} (h:id∉ids l):adj l id amt=l:=by
 have:∀s,s∈l→(if s.ID=id then (⟨s.ID,s.Balance+amt⟩:TSub)else s)=s:=fun s hs=>by
  rw[if_neg]
  intro e
  exact h (List.mem_map.2 ⟨s,hs,e⟩)
 unfold adj
 rw[List.map_congr_left this]
 simp
theorem Gj (l:List TSub) (id amt:Int) (i:Nat):(adj l id amt)[i]?=(l[i]?).map fun s=>if s.ID=id then⟨s.ID,s.Balance+amt⟩else s:=by simp[adj]
theorem yZ {l:List TSub} (h:(ids l).Nodup) {i j:Nat} {a b:TSub} (hi:l[i]?=some a) (hj:l[j]?=some b) (e:a.ID=b.ID):i=j:=by
 have h1:(ids l)[i]?=some a.ID:=by rw[Gx,hi];rfl
 have h2:(ids l)[j]?=some a.ID:=by rw[Gx,hj,e];rfl
 exact (List.getElem?_inj (gsI h1) h).1 (h1.trans h2.symm)
theorem Nw {l:List TSub} (hn:(ids l).Nodup) {i:Nat} {a:TSub} (hi:l[i]?=some a) (amt:Int):l.set i ⟨a.ID,a.Balance+amt⟩=adj l a.ID amt:=by
 apply List.ext_getElem?
 intro j
 rw[Gj,List.getElem?_set]
 by_cases hij:i=j
 ·subst hij
  have:=(gsI hi)
  simp[-getElem?_pos,this,hi]
 ·rw[if_neg hij]
  cases hj:l[j]? with
  |none=>rfl
  |some b=>
   have:¬b.ID=a.ID:=fun e=>hij (yZ hn hi hj e.symm)
   simp[this]
def o8 (l:List TSub) (id:Int):Int:=dC (fun s=>decide (s.ID=id)) l
theorem sE (l:List TSub) (id:Int):(o8 l id= -1∧id∉ids l)∨∃(i:Nat) (a:TSub),l[i]?=some a∧a.ID=id∧o8 l id=(i:Int)∧id∈ids l:=by
 rcases cN (fun s:TSub=>decide (s.ID=id)) l with⟨h1,h2⟩|⟨i,a,h1,h2,h3,_⟩
 ·refine .inl ⟨h1,fun hm=>?_⟩
  obtain⟨s,hs,e⟩:=List.mem_map.1 hm
  have:=h2 s hs
  simp[e]at this
 ·exact .inr ⟨i,a,h1,by simpa using h2,h3,List.mem_map.2 ⟨a,List.mem_of_getElem? h1,by simpa using h2⟩⟩
def oQ (credit:Int) (s:TSub):Bool:=decide ((if s.ID=1 then -credit else 0)≤s.Balance)&&decide (s.Balance≤1000000000000000)
def nu (credit:Int) (l:List TSub) (id:Int):Bool:=l.all fun s=>!decide (s.ID=id)||oQ credit s
def mO (credit:Int) (l:List TSub):Bool:=l.all (oQ credit)
theorem I8 {credit:Int} {l:List TSub} {id:Int} (h:id∉ids l):nu credit l id=true:=by
 refine List.all_eq_true.2 fun s hs=>?_
 have:¬s.ID=id:=fun e=>h (List.mem_map.2 ⟨s,hs,e⟩)
 simp[this]
theorem MS {credit:Int} {l:List TSub} (hn:(ids l).Nodup) {i:Nat} {a:TSub} (hi:l[i]?=some a):nu credit l a.ID=oQ credit a:=by
 rw[Bool.eq_iff_iff,nu,List.all_eq_true]
 constructor
 ·intro h
  have:=h a (List.mem_of_getElem? hi)
  simpa using this
 ·intro h s hs
  obtain⟨j,hj⟩:=List.getElem?_of_mem hs
  by_cases e:s.ID=a.ID
  ·have:=yZ hn hi hj e.symm
   subst this
   rw[hi]at hj
   simp only[Option.some.injEq]at hj
   subst hj
   simp[h]
  ·simp[e]
def rU (n:Int) (e:TEntry):Bool:=!decide (e.Number=n+1)
def rO (d:Int) (e:TEntry):Bool:=!dB e.Day d 36000
def nk (e:TEntry):Bool:=!(decide (0<e.Amount)&&vB e.Amount)||!dB e.Ref 0 1000000
def iO (l:List TSub) (id:Int):Bool:=decide (id=0)||decide (0≤o8 l id)
theorem lI (l:List TSub) (id:Int):iO l id=true↔id=0∨id∈ids l:=by
 unfold iO
 rcases sE l id with⟨h1,h2⟩|⟨i,a,_,_,h3,h4⟩
 ·simp[h1,h2]
 ·simp[h3,h4]
def m9 (l:List TSub) (e:TEntry):Bool:=decide (e.From=e.To)||(!iO l e.From||!iO l e.To)
def bU (credit n d:Int) (l:List TSub) (e:TEntry):Int×List TSub:=
 if rU n e=true then (65,l)else if rO d e=true then (8,l)else if nk e=true then (2,l)else if m9 l e=true then (60,l)else
 if nu credit (adj l e.From (-e.Amount)) e.From=false then (61,adj l e.From (-e.Amount))else
 if nu credit (adj (adj l e.From (-e.Amount)) e.To e.Amount) e.To=false then (61,adj (adj l e.From (-e.Amount)) e.To e.Amount)else (0,adj (adj l e.From (-e.Amount)) e.To e.Amount)
def cO (credit:Int):Int→Int→List TSub→List TEntry→Option (Int×Int×List TSub)
 |n,d,l,[]=>some (n,d,l)
 |n,d,l,e::es=>if (bU credit n d l e).1=0 then cO credit e.Number e.Day (bU credit n d l e).2 es else none
def dM (l:List TSub):List TSub:=l.map fun s=>⟨s.ID,0⟩
theorem Iq (l:List TSub):ids (dM l)=ids l:=by simp[ids,dM]
theorem nV (l:List TSub):(dM l).length=l.length:=by simp[dM]
def bd (a:TAccount):Int:=
 if 20<a.Subs.length∨400<a.Entries.length then 3 else if (!vB a.Credit||!lm (ids a.Subs))=true then 62 else
 match cO a.Credit 0 0 (dM a.Subs) a.Entries with
 |none=>62
 |some r=>if r.2.2=a.Subs then 0 else 62
theorem nP (credit n d:Int) (l:List TSub) (e:TEntry):ids (bU credit n d l e).2=ids l:=by
 unfold bU
 repeat' split
 all_goals simp[p5]
theorem sf {credit:Int} {l:List TSub} {id amt:Int} (h:mO credit l=true) (ha:nu credit (adj l id amt) id=true):mO credit (adj l id amt)=true:=by
 refine List.all_eq_true.2 fun s hs=>?_
 by_cases e:s.ID=id
 ·have:=List.all_eq_true.1 ha s hs
  simpa[e]using this
 ·obtain⟨t,ht,hst⟩:=List.mem_map.1 hs
  split at hst
  ·rename_i h'
   subst hst
   exact absurd h' e
  ·subst hst
   exact List.all_eq_true.1 h t ht
theorem uR {credit n d:Int} {l:List TSub} {e:TEntry} (h:(bU credit n d l e).1=0):
  e.Number=n+1∧d≤e.Day∧e.Day≤36000∧0<e.Amount∧e.Amount≤1000000000000∧0≤e.Ref∧e.Ref≤1000000∧e.From≠e.To∧(e.From=0∨e.From∈ids l)∧(e.To=0∨e.To∈ids l)∧
   nu credit (adj l e.From (-e.Amount)) e.From=true∧nu credit (adj (adj l e.From (-e.Amount)) e.To e.Amount) e.To=true∧(bU credit n d l e).2=adj (adj l e.From (-e.Amount)) e.To e.Amount:=by
 unfold bU at h⊢
 split at h
 ·simp at h
 rename_i h1
 rw[if_neg h1]
 split at h
 ·simp at h
 rename_i h2
 rw[if_neg h2]
 split at h
 ·simp at h
 rename_i h3
 rw[if_neg h3]
 split at h
 ·simp at h
 rename_i h4
 rw[if_neg h4]
 split at h
 ·simp at h
 rename_i h5
 rw[if_neg h5]
 split at h
 ·simp at h
 rename_i h6
 rw[if_neg h6]
 have h1:e.Number=n+1:=by simpa[rU]using h1
 have h2:d≤e.Day∧e.Day≤36000:=by simpa[rO,dB]using h2
 have h3:(0<e.Amount∧(0≤e.Amount∧e.Amount≤1000000000000))∧(0≤e.Ref∧e.Ref≤1000000):=by simpa[nk,vB,dB]using h3
 have h4:¬e.From=e.To∧(iO l e.From=true∧iO l e.To=true):=by simpa[m9]using h4
 rw[lI,lI]at h4
 exact⟨h1,h2.1,h2.2,h3.1.1,h3.1.2.2,h3.2.1,h3.2.2,h4.1,h4.2.1,h4.2.2,by simpa using h5,by simpa using h6,rfl⟩
theorem yX {credit n d:Int} {l:List TSub} {e:TEntry} (h:(bU credit n d l e).1=0) (hl:mO credit l=true):mO credit (bU credit n d l e).2=true:=by
 obtain⟨_,_,_,_,_,_,_,_,_,_,h1,h2,h3⟩:=uR h
 rw[h3]
 exact sf (sf hl h1) h2
theorem rL {credit:Int} (hc:0≤credit) (l:List TSub):mO credit (dM l)=true:=by
 refine List.all_eq_true.2 fun s hs=>?_
 obtain⟨t,_,rfl⟩:=List.mem_map.1 hs
 simp[oQ]
 split<;>omega
theorem sB (credit:Int):∀(es es':List TEntry) (n d:Int) (l:List TSub),cO credit n d l (es++es')=(cO credit n d l es).bind fun r=>cO credit r.1 r.2.1 r.2.2 es'
 |[],es',n,d,l=>rfl
 |e::es,es',n,d,l=>by
  rw[List.cons_append,cO,cO]
  split
  ·exact sB credit es es' _ _ _
  ·rfl
theorem ka (credit:Int):∀(es:List TEntry) (n d:Int) (l:List TSub) (r:Int×Int×List TSub),mO credit l=true→cO credit n d l es=some r→
  mO credit r.2.2=true∧ids r.2.2=ids l∧r.1=n+es.length∧d≤r.2.1∧(d≤36000→r.2.1≤36000)
 |[],n,d,l,r,hl,h=>by
  simp only[cO,Option.some.injEq]at h
  subst h
  exact⟨hl,rfl,by simp,Int.le_refl _,fun h=>h⟩
 |e::es,n,d,l,r,hl,h=>by
  rw[cO]at h
  split at h
  ·rename_i hp
   obtain⟨h1,h2,h3,_⟩:=uR hp
   obtain⟨a1,a2,a3,a4,a5⟩:=ka credit es _ _ _ r (yX hp hl) h
   refine⟨a1,a2.trans (nP _ _ _ _ _),by rw[a3,h1,List.length_cons];omega,by omega,fun _=>a5 h3⟩
  ·cases h
open Go.PA
open Go.RowKit
theorem xD {row src:Option Nat} (l:List TEntry) (H:ab) (hl:l.length≤1000000):MFun Tryz.prog row src 38 [.list 6 (ac TEntry.cells l)] H (fun r H'=>∃id,r= .sref id 0 l.length∧H.length≤id∧H'[id]?=some (some ⟨105,6,ac TEntry.cells l⟩)∧Kept [] H H'):=by
 have own:MFun Tryz.prog row src 38 [.list 6 (ac TEntry.cells l)] H (fun r H'=>(r= .nil∧l=[]∧H'=H)∨∃id,r= .sref id 0 l.length∧H.length≤id∧H'[id]?=some (some ⟨105,6,ac TEntry.cells l⟩)∧Kept [] H H'):=by
  cases l with
  |nil=>
   refine bu fun A c=>?_
   refine al Tryz.func38 rfl (by simp[Tryz.f38]) (by kernel_rfl) ⟨.nil,H,.inl ⟨rfl,rfl,rfl⟩⟩ ?_
   intro E hP hr hs hN
   cases A with
   |none=>simp -dsimp -implicitDefEqProofs [-getElem?_pos,go_sem,hP]
   |some a=>
    simp -dsimp -implicitDefEqProofs [-getElem?_pos,go_sem,hP]
    exact ap _ _ _
  |cons a l=>
   refine al Tryz.func38 rfl (by simp[Tryz.f38]) (by kernel_rfl) ⟨_,H++[some ⟨105,6,ac TEntry.cells (a::l)⟩],.inr ⟨H.length,rfl,Nat.le_refl _,by simp,az _ (ai _ _)⟩⟩ ?_
   intro E hP hr hs hN
   simp only[List.length_cons]at hl
   have e:ac TEntry.cells (a::l)=TEntry.cells a::ac TEntry.cells l:=rfl
   simp -dsimp -implicitDefEqProofs [-getElem?_pos,go_sem,hP,e]
   refine⟨by omega,by omega,?_⟩
   exact ap _ _ _
 refine (own.ownNil 105 6).mono ?_
 rintro r H' (⟨H0,h0,rfl,rfl⟩|⟨hne,h⟩)
 ·rcases h0 with⟨_,rfl,rfl⟩|⟨id,h,_⟩
  ·exact⟨_,rfl,Nat.le_refl _,by simp[ac],az _ (ai _ _)⟩
  ·cases h
 ·rcases h with⟨h,_⟩|h
  ·exact absurd h hne
  ·exact h
theorem tI {row src:Option Nat} (l:List TSub) (x:AV) (H:ab) (g:FuncId) (caps:List AV) (p:TSub→Bool) (hx:SlIs H x 2 (ac TSub.cells l)) (hl:l.length≤1000000) (hen:aa Tryz.prog g=true)
  (hg:∀a,a∈l→∀H',Kept [] H H'→MFun Tryz.prog row src g (.agg (TSub.cells a)::caps) H' (fun r H''=>r=bv (p a)∧Kept [] H' H'')):
  MFun Tryz.prog row src 147 [x,.fn g caps] H (fun r H'=>r=iv (dC p l)∧Kept [] H H'):=by
 refine al Tryz.func147 rfl (by simp[Tryz.f147]) (by kernel_rfl) ⟨_,H,rfl,ai _ _⟩ ?_
 intro E hP hr hs hN
 have hlen:=hx.len
 rw[af]at hlen
 simp -dsimp -implicitDefEqProofs [-getElem?_pos,go_sem,hP,hlen]
 obtain⟨I,hI⟩:∃I:Nat→St→Prop,I=fun m s=>∃k:Nat,k≤l.length∧m=l.length-k∧dC p l=br p k (l.drop k)∧s.t 0=x∧s.t 1= .fn g caps∧s.t 7=iv l.length∧s.t 8=iv k∧Kept [] H s.H:=⟨_,rfl⟩
 refine aF I l.length (by rw[hN];rfl) ?_ ?_
 ·rw[hI]
  exact⟨0,by omega,by omega,by simp[dC],by simp -dsimp[-getElem?_pos,go_sem],by simp -dsimp[-getElem?_pos,go_sem],by simp -dsimp[-getElem?_pos,go_sem],by simp -dsimp[-getElem?_pos,go_sem],by simp -dsimp[-getElem?_pos,go_sem];exact ai _ _⟩
 intro m s hs'
 rw[hI]at hs'
 obtain⟨k,hk,hm,hi,t0,t1,t7,t8,hKp⟩:=hs'
 simp -dsimp -implicitDefEqProofs [-getElem?_pos,go_sem,hP,t7,t8]
 refine aH (fun h=>?_) (fun h=>?_)
 ·have hk:k<l.length:=by simpa using h
  obtain⟨a,ha⟩:∃a,l[k]?=some a:=⟨_,List.getElem?_eq_getElem hk⟩
  have wk:=ah ((k:Int)+1) (by omega)
  obtain⟨ad,h1,h2⟩:=(hx.kept hKp).idx (P:=Tryz.prog) (t:=25) (e:=90) RC (by rw[R3]) R0 k (by rw[af];exact hk)
  have h2':aM s.H ad=some (TSub.cells a):=by
   rw[h2]
   have:=qy TSub.cells l k
   rw[ha,List.getElem?_eq_getElem (by rw[af];exact hk)]at this
   exact this
  have hz:(TSub.cells a).take 2=TSub.cells a:=List.take_of_length_le (by rw[TSub.len];omega)
  simp -dsimp -implicitDefEqProofs [-getElem?_pos,go_sem,hP,t8,t1,t0,h1,h2',TSub.len,hz]
  have hd:l.drop k=a::l.drop (k+1):=by
   rw[List.getElem?_eq_getElem hk]at ha
   rw[List.drop_eq_getElem_cons hk,Option.some.inj ha]
  refine ar (by rw[hr,hs];exact hg a (List.mem_of_getElem? ha) s.H hKp) hP hen ?_
  rintro r H' ⟨rfl,hK2⟩
  rw[hd]at hi
  simp only[br]at hi
  simp -dsimp -implicitDefEqProofs [-getElem?_pos,go_sem,hP]
  refine aH (fun hp=>?_) (fun hp=>?_)
  ·rw[if_pos hp]at hi
   simp -dsimp -implicitDefEqProofs [-getElem?_pos,go_sem,hP]
   exact⟨hi.symm,hKp.trans hK2⟩
  ·rw[hp,if_neg (by simp)]at hi
   simp -dsimp -implicitDefEqProofs [-getElem?_pos,go_sem,hP,t8,wk]
   refine⟨l.length-(k+1),by omega,?_⟩
   rw[hI]
   exact⟨k+1,by omega,rfl,hi,by simp -dsimp[-getElem?_pos,go_sem,t0],by simp -dsimp[-getElem?_pos,go_sem,t1],by simp -dsimp[-getElem?_pos,go_sem,t7],by simp -dsimp[-getElem?_pos,go_sem],by simp -dsimp[-getElem?_pos,go_sem];exact hKp.trans hK2⟩
 ·have hk:k=l.length:=by simp at h;omega
  subst hk
  rw[List.drop_length]at hi
  simp -dsimp -implicitDefEqProofs [-getElem?_pos,go_sem,hP]
  exact⟨hi.symm,hKp⟩
open Go.PA
open Go.RowKit
abbrev cj (l:List TSub):AV:= .list 2 (ac TSub.cells l)
abbrev b9 (l:List TEntry):AV:= .list 6 (ac TEntry.cells l)
theorem eU (l:List TSub):Imm (cj l):=aC _ TSub.imm l
theorem fj (l:List TEntry):Imm (b9 l):=aC _ TEntry.imm l
theorem dQ (a:TAccount):Imm (.agg a.cells):= .agg fun c hc=>a.imm c hc
theorem jO (e:TEntry):Imm (.agg e.cells):= .agg fun c hc=>e.imm c hc
theorem Hf (credit:Int) (s:TSub):oQ credit s=true↔(if s.ID=1 then -credit else 0)≤s.Balance∧s.Balance≤1000000000000000:=by simp[oQ]
open Go.PA
open Go.RowKit
abbrev Kk:TEntry:=⟨0,0,0,0,0,0⟩
theorem wz (a b:List TSub) (ha:a.length≤100000) (hb:b.length≤100000):
  PFun Tryz.prog none none 128 [.list 2 (ac TSub.cells a),.list 2 (ac TSub.cells b)] (·=bv (decide (a=b))):=by
 refine ae Tryz.func128 rfl (by simp[Tryz.f128]) (by kernel_rfl) ?_
 intro E hP hr hs hW hN
 by_cases hlen:a.length=b.length
 rotate_left
 ·have hne:¬a=b:=fun h=>hlen (by rw[h])
  have hl:decide ((a.length:Int)=(b.length:Int))=false:=by simp;omega
  simp -dsimp -implicitDefEqProofs [-getElem?_pos,go_sem,hP,hl,hne]
 have hl:decide ((a.length:Int)=(b.length:Int))=true:=by simp;omega
 simp -dsimp -implicitDefEqProofs [-getElem?_pos,go_sem,hP,hl]
 obtain⟨I,hI⟩:∃I:Nat→St→Prop,I=fun m s=>∃k:Nat,k≤a.length∧m=a.length-k∧s.t 0= .list 2 (ac TSub.cells a)∧s.t 1= .list 2 (ac TSub.cells b)∧s.t 12=iv a.length∧s.t 13=iv k∧a.take k=b.take k:=⟨_,rfl⟩
 refine aF I (a.length) (by rw[hN];rfl) ?_ ?_
 ·rw[hI]
  exact⟨0,by omega,by omega,by simp -dsimp[-getElem?_pos,go_sem],by simp -dsimp[-getElem?_pos,go_sem],by simp -dsimp[-getElem?_pos,go_sem],by simp -dsimp[-getElem?_pos,go_sem],by simp⟩
 intro m s hs'
 rw[hI]at hs'
 obtain⟨k,hk,hm,t0,t1,t12,t13,heq⟩:=hs'
 simp -dsimp -implicitDefEqProofs [-getElem?_pos,go_sem,hP,t12,t13]
 refine aH (fun h=>?_) (fun h=>?_)
 ·have hk:k<a.length:=by simpa using h
  obtain⟨x,hx⟩:∃x,a[k]?=some x:=⟨_,List.getElem?_eq_getElem hk⟩
  obtain⟨y,hy⟩:∃y,b[k]?=some y:=⟨_,List.getElem?_eq_getElem (by omega)⟩
  have wk:=ah ((k:Int)+1) (by omega)
  have tx:a.take (k+1)=a.take k++[x]:=by rw[List.take_add_one,hx];rfl
  have ty:b.take (k+1)=b.take k++[y]:=by rw[List.take_add_one,hy];rfl
  simp -dsimp -implicitDefEqProofs [-getElem?_pos,go_sem,hP,t13]
  refine au (fun _=>true) [] hP (by kernel_rfl) (by kernel_rfl) ?_
  by_cases hxy:x=y
  ·subst hxy
   simp -dsimp -implicitDefEqProofs [-getElem?_pos,go_sem,hP,t0,t1,hx,hy,TSub.cells,t13,wk]
   refine⟨a.length-(k+1),by omega,?_⟩
   rw[hI]
   exact⟨k+1,by omega,rfl,by simp -dsimp[-getElem?_pos,go_sem,t0],by simp -dsimp[-getElem?_pos,go_sem,t1],by simp -dsimp[-getElem?_pos,go_sem,t12],by simp -dsimp[-getElem?_pos,go_sem],by rw[tx,ty,heq]⟩
  ·have hne:¬a=b:=fun h=>by
    subst h
    rw[hx]at hy
    exact hxy (Option.some.inj hy)
   simp -dsimp -implicitDefEqProofs [-getElem?_pos,go_sem,hP,t0,t1,hx,hy,TSub.cells,t13,wk]
   refine aH (fun h=>?_) (fun h=>?_)
   ·simp -dsimp -implicitDefEqProofs [-getElem?_pos,go_sem,hP,hne]
   ·exact absurd (by cases x;cases y;simp at h;simp[h]) hxy
 ·have hk:k=a.length:=by simp at h;omega
  subst hk
  rw[List.take_length]at heq
  rw[hlen,List.take_length]at heq
  simp -dsimp -implicitDefEqProofs [-getElem?_pos,go_sem,hP,heq]
open Go.PA
open Go.RowKit
theorem pO (credit:Int):∀(es:List TEntry) (last:TEntry) (l:List TSub) (r:Int×Int×List TSub),cO credit last.Number last.Day l es=some r→r.1=((es.getLast?).getD last).Number∧r.2.1=((es.getLast?).getD last).Day
 |[],last,l,r,h=>by
  simp only[cO,Option.some.injEq]at h
  subst h
  exact⟨rfl,rfl⟩
 |e::es,last,l,r,h=>by
  rw[cO]at h
  split at h
  ·have:=pO credit es e _ r h
   cases es with
   |nil=>exact this
   |cons x es=>
    have e1:(e::x::es).getLast?=(x::es).getLast?:=by rw[List.getLast?_cons_cons]
    rw[e1]
    have e2:∀y,((x::es).getLast?).getD y=((x::es).getLast?).getD e:=fun y=>by
     rw[List.getLast?_eq_some_getLast (by simp)];rfl
    rw[e2 last]
    exact this
  ·cases h
theorem oE {α:Type} (p:α→Bool):∀l:List α,(∀x,x∈l→p x=true)→l.takeWhile p=l
 |[],_=>rfl
 |a::l,h=>by
  rw[List.takeWhile_cons_of_pos (h a (by simp)),oE p l fun x hx=>h x (List.mem_cons_of_mem _ hx)]
def bT (a:TAccount):TEntry:=(a.Entries.getLast?).getD Kk
theorem nt {a:TAccount} (h:bd a=0):a.Subs.length≤20∧a.Entries.length≤400∧(0≤a.Credit∧a.Credit≤1000000000000)∧lm (ids a.Subs)=true∧cO a.Credit 0 0 (dM a.Subs) a.Entries=some ((bT a).Number,(bT a).Day,a.Subs):=by
 unfold bd at h
 split at h
 ·simp at h
 rename_i h1
 split at h
 ·simp at h
 rename_i h2
 split at h
 ·simp at h
 rename_i r hr
 split at h
 ·rename_i he
  have h2:vB a.Credit=true∧lm (ids a.Subs)=true:=by simpa using h2
  have h3:0≤a.Credit∧a.Credit≤1000000000000:=by simpa[vB,dB]using h2.1
  have:=pO a.Credit a.Entries Kk (dM a.Subs) r hr
  refine⟨by omega,by omega,h3,h2.2,?_⟩
  rw[hr]
  congr 1
  exact Prod.ext this.1 (Prod.ext this.2 he)
 ·simp at h
theorem Cw {a:TAccount} (h1:a.Subs.length≤20) (h2:a.Entries.length≤400) (h3:0≤a.Credit∧a.Credit≤1000000000000) (h4:lm (ids a.Subs)=true) {n d:Int} (h5:cO a.Credit 0 0 (dM a.Subs) a.Entries=some (n,d,a.Subs)):bd a=0:=by
 unfold bd
 have hv:vB a.Credit=true:=by simpa[vB,dB]using h3
 rw[if_neg (by omega),if_neg (by simp[hv,h4]),h5]
 simp
theorem w6 {l:List Int} (h:lm l=true):l.Nodup∧0∉l∧l.head?=some 1:=by
 simp only[lm,Bool.and_eq_true,decide_eq_true_eq]at h
 refine⟨uI l 0 h.1,fun h0=>?_,h.2⟩
 have:=Ay l 0 h.1 0 h0
 omega
theorem sQ {a:TAccount} (h:bd a=0):mO a.Credit a.Subs=true∧(bT a).Number=a.Entries.length∧0≤(bT a).Day∧(bT a).Day≤36000:=by
 obtain⟨_,_,h3,_,h5⟩:=nt h
 obtain⟨a1,_,a3,a4,a5⟩:=ka a.Credit a.Entries 0 0 (dM a.Subs) _ (rL h3.1 _) h5
 exact⟨a1,by simpa using a3,a4,a5 (by omega)⟩
open Go.PA
open Go.RowKit
def Grown (n:Nat) (H:ab) (x:AV) (ty:TypeId) (k:Nat) (es:List (List AV)):Prop:=(x= .nil∧es=[])∨∃id,n≤id∧x= .sref id 0 es.length∧H[id]?=some (some ⟨ty,k,es⟩)
theorem Grown.cw {n:Nat} {H:ab} {x:AV} {ty:TypeId} {k:Nat} {es:List (List AV)} {xs ys:List AV} (h:Grown n H x ty k es) (hi:Imm (.list k es)) (t:CW H xs ys):CW H (x::xs) (.list k es::ys):=by
 rcases h with⟨rfl,rfl⟩|⟨id,_,rfl,h⟩
 ·exact bK t
 ·exact cv h rfl hi t
theorem Grown.cellish {n:Nat} {H:ab} {x:AV} {ty:TypeId} {k:Nat} {es:List (List AV)} (h:Grown n H x ty k es):x.cellish=true:=by
 rcases h with⟨rfl,rfl⟩|⟨id,_,rfl,h⟩<;>rfl
theorem Grown.kept {n:Nat} {H H':ab} {x:AV} {ty:TypeId} {k:Nat} {es:List (List AV)} {X:List Nat} (h:Grown n H x ty k es) (hk:Kept X H H') (hX:∀i,i∈X→i<n):Grown n H' x ty k es:=by
 rcases h with⟨rfl,rfl⟩|⟨id,hn,rfl,h⟩
 ·exact .inl ⟨rfl,rfl⟩
 ·refine .inr ⟨id,hn,rfl,hk _ _ (fun hi=>?_) h⟩
  have:=hX id hi
  omega
open Go.PA
open Go.RowKit
theorem bS {n:Nat} {H l:ab} (h:n≤H.length):Agree (fun id=>decide (id<n)) H (H++l):=fun id hid=>List.getElem?_append_left (by simp at hid;omega)
abbrev nv:TAccount:=⟨0,[],[]⟩
def bL (a:TAccount) (e:TEntry):TAccount×Int:=
 if bd a=0 then
  if a.Entries.length=400 then (nv,3)else
  if (bU a.Credit (bT a).Number (bT a).Day a.Subs e).1=0 then (⟨a.Credit,(bU a.Credit (bT a).Number (bT a).Day a.Subs e).2,a.Entries++[e]⟩,0)else (nv,(bU a.Credit (bT a).Number (bT a).Day a.Subs e).1)
 else (nv,bd a)
theorem yE {a:TAccount} (h:a.Entries.length=0):bT a=Kk:=by
 rw[bT,List.eq_nil_of_length_eq_zero h]
 rfl
theorem yx {a:TAccount} {k:Nat} {e:TEntry} (h:a.Entries.length=k+1) (he:a.Entries[k]?=some e):bT a=e:=by
 rw[bT,List.getLast?_eq_getElem?,h]
 simp[he]
theorem cA (a:TAccount):a.cells=[iv a.Credit,cj a.Subs,b9 a.Entries]:=rfl
theorem cE (e:TEntry):e.cells=[iv e.Number,iv e.Day,iv e.From,iv e.To,iv e.Amount,iv e.Ref]:=rfl
theorem pD {H:ab} {n:Int} {Q:AV→Prop} {b:Bx Q} (h:Q (.tup [.agg nv.cells,iv n])):mD H (.tup [.agg [iv 0,.nil,.nil],iv n]) Q b:=
 cZ (pR (bK (bK .nil))) h
def dk (a:TAccount) (day from_ to amount ref:Int):TEntry:=⟨IntKind.i64.wrap ((bT a).Number+1),day,from_,to,amount,ref⟩
def cR (a:TAccount) (id:Int):Int×Bool:=
 if bd a=0 then (match a.Subs.find? (fun s=>decide (s.ID=id))with|some s=>(s.Balance,true)|none=>(0,false))else (0,false)
theorem Ex {l:List TSub} {id:Int}:(o8 l id= -1∧l.find? (fun s=>decide (s.ID=id))=none)∨∃(i:Nat) (s:TSub),o8 l id=i∧l[i]?=some s∧l.find? (fun s=>decide (s.ID=id))=some s:=by
 suffices h:∀(l:List TSub) (k:Nat),(br (fun s=>decide (s.ID=id)) k l= -1∧l.find? (fun s=>decide (s.ID=id))=none)∨∃(i:Nat) (s:TSub),br (fun s=>decide (s.ID=id)) k l=((k+i:Nat):Int)∧l[i]?=some s∧l.find? (fun s=>decide (s.ID=id))=some s by
  have:=h l 0
  simpa[o8,dC]using this
 intro l
 induction l with
 |nil=>exact fun k=> .inl ⟨rfl,rfl⟩
 |cons a l ih=>
  intro k
  rw[br,List.find?_cons]
  by_cases h:a.ID=id
  ·simp only[h,decide_true,if_true]
   exact .inr ⟨0,a,by simp,rfl,rfl⟩
  ·simp only[h,decide_false,Bool.false_eq_true,if_false]
   rcases ih (k+1)with h|⟨i,s,h1,h2,h3⟩
   ·exact .inl h
   ·exact .inr ⟨i+1,s,by rw[h1];congr 1;omega,h2,h3⟩
theorem zT {credit:Int} {s:TSub} (hc:0≤credit∧credit≤1000000000000) (h:oQ credit s=true): -1000000000000≤s.Balance∧s.Balance≤1000000000000000:=by
 have:=(Hf _ _).1 h
 split at this<;>omega
abbrev e9 (l:List Int):AV:= .list 1 (ac aJ l)
theorem dG (l:List Int):Imm (e9 l):=aC _ qB l
def JJ (l:List Int):List TSub:=l.map fun i=>⟨i,0⟩
def rI (l:List Int) (credit:Int):TAccount:=⟨credit,JJ l,[]⟩
theorem B5 (l:List Int):ids (JJ l)=l:=by simp[ids,JJ,Function.comp_def]
def OT (ids:List Int) (credit:Int):TAccount×Int:=
 if vB credit=true then if 20<ids.length then (nv,3)else if lm ids=true then (rI ids credit,0)else (nv,60)else (nv,2)
open Go.PA
open Go.RowKit
abbrev aT (l:List TPayment):AV:= .list 5 (ac TPayment.cells l)
abbrev bY (l:List TBatch):AV:= .list 3 (ac TBatch.cells l)
theorem aV (l:List TPayment):Imm (aT l):=aC _ TPayment.imm _
theorem di (l:List TBatch):Imm (bY l):=aC _ TBatch.imm _
theorem cPy (p:TPayment):p.cells=[iv p.Warrant,iv p.Payee,iv p.Amount,iv p.Due,iv p.Sub]:=rfl
theorem cBt (b:TBatch):b.cells=[iv b.Number,iv b.Day,aT b.Payments]:=rfl
theorem cQu (q:TQueue):q.cells=[aT q.Waiting,aI q.Known,bY q.Batches]:=rfl
theorem gS (c:TPayment):Imm (.agg c.cells):=aO.2 c.imm
theorem Aq (c:TBatch):Imm (.agg c.cells):=aO.2 c.imm
theorem dr (c:TQueue):Imm (.agg c.cells):=aO.2 c.imm
theorem mh {α:Type} {l:List α} {k:Nat} {e:α} (h:l[k]?=some e):l.drop k=e::l.drop (k+1):=by
 obtain⟨hk,rfl⟩:=List.getElem?_eq_some_iff.1 h
 exact List.drop_eq_getElem_cons hk
theorem gQ {α:Type} {l:List α} {k:Nat} {e:α} (h:l[k]?=some e):l.take (k+1)=l.take k++[e]:=by
 rw[List.take_add_one,h];rfl
def amg (n lo hi:Int):Bool:=decide (lo≤n)&&decide (n≤hi)
theorem fu {n lo hi:Int}:amg n lo hi=true↔lo≤n∧n≤hi:=by simp[amg]
theorem AU {n lo hi:Int} (h:¬(lo≤n∧n≤hi)):amg n lo hi=false:=Bool.eq_false_iff.2 fun e=>h (fu.1 e)
def iQ (p:TPayment):Bool:=amg p.Warrant 1 1000000&&(amg p.Payee 1 1000000&&(amg p.Amount 1 1000000000000&&(amg p.Due 0 35990&&amg p.Sub 1 1000)))
structure PayOk (p:TPayment):Prop where
 warrant:1≤p.Warrant∧p.Warrant≤1000000
 payee:1≤p.Payee∧p.Payee≤1000000
 amount:1≤p.Amount∧p.Amount≤1000000000000
 due:0≤p.Due∧p.Due≤35990
 sub:1≤p.Sub∧p.Sub≤1000
theorem jf (p:TPayment):iQ p=true↔PayOk p:=by
 simp only[iQ,Bool.and_eq_true,fu]
 exact⟨fun⟨a,b,c,d,e⟩=>⟨a,b,c,d,e⟩,fun⟨a,b,c,d,e⟩=>⟨a,b,c,d,e⟩⟩
def Bef (a b:TPayment):Prop:=a.Due<b.Due∨a.Due=b.Due∧a.Warrant<b.Warrant
instance (a b:TPayment):Decidable (Bef a b):=by unfold Bef;infer_instance
def ke (a b:TPayment):Bool:=decide (Bef a b)
theorem mK {a b:TPayment}:ke a b=true↔Bef a b:=by simp[ke]
theorem Bef.trans {a b c:TPayment} (h:Bef a b) (k:Bef b c):Bef a c:=by unfold Bef at*;omega
theorem Bef.tot {a b:TPayment} (h:a.Warrant≠b.Warrant):Bef a b∨Bef b a:=by unfold Bef;omega
def DK {α:Type} (o:Option α) (f:α→Bool):Bool:=match o with
 |none=>true
 |some x=>f x
theorem C8 {α:Type} {o:Option α} {f:α→Bool}:DK o f=true↔∀x,o=some x→f x=true:=by
 cases o<;>simp[DK]
def fk:Option TPayment→List TPayment→Bool
 |_,[]=>true
 |o,p::l=>iQ p&&(DK o (fun x=>ke x p)&&fk (some p) l)
def eA:List TPayment→List TPayment→Bool
 |_,[]=>true
 |pre,p::l=>!(pre.any fun x=>decide (x.Warrant=p.Warrant))&&eA (pre++[p]) l
def inK (K:List Int) (p:TPayment):Bool:=decide (p.Warrant∈K)
def G0 (K:List Int) (l:List TPayment):Bool:=fk none l&&(l.all (inK K)&&eA [] l)
def jI:Option Int→List Int→Bool
 |_,[]=>true
 |o,n::l=>amg n 1 1000000&&(DK o (fun x=>decide (x<n))&&jI (some n) l)
def rM (d:Int):Bool:=amg d 0 36000&&decide (d%7<5)
def z6 (K:List Int) (i d:Int) (b:TBatch):Bool:=decide (b.Number=i+1)&&(decide (d≤b.Day)&&(rM b.Day&&(amg b.Payments.length 1 10&&G0 K b.Payments)))
def cr (K:List Int):Int→Int→List TBatch→Bool
 |_,_,[]=>true
 |i,d,b::l=>z6 K i d b&&cr K (i+1) b.Day l
def cT (q:TQueue):Int:=
 if 100<q.Waiting.length∨200<q.Known.length∨200<q.Batches.length then 3 else if (jI none q.Known&&(G0 q.Known q.Waiting&&cr q.Known 0 0 q.Batches))=true then 0 else 64
theorem sI:∀(l:List TPayment) (o:Option TPayment),fk o l=true↔(∀p,p∈l→PayOk p)∧(∀x,o=some x→∀p,p∈l→Bef x p)∧l.Pairwise Bef
 |[],o=>by simp[fk]
 |p::l,o=>by
  rw[fk,Bool.and_eq_true,Bool.and_eq_true,sI l (some p),jf,C8,List.pairwise_cons]
  simp only[mK,List.mem_cons]
  constructor
  ·rintro⟨h1,h2,h3,h4,h5⟩
   refine⟨?_,?_,h4 p rfl,h5⟩
   ·rintro x (rfl|hx)
    ·exact h1
    ·exact h3 x hx
   ·rintro x hx y (rfl|hy)
    ·exact h2 x hx
    ·exact (h2 x hx).trans (h4 p rfl y hy)
  ·rintro⟨h1,h2,h3,h4⟩
   refine⟨h1 p (.inl rfl),fun x hx=>h2 x hx p (.inl rfl),fun x hx=>h1 x (.inr hx),?_,h4⟩
   rintro x hx y hy
   cases hx
   exact h3 y hy
theorem qQ:∀(l pre:List TPayment),eA pre l=true↔(∀p,p∈l→∀x,x∈pre→x.Warrant≠p.Warrant)∧(l.map (·.Warrant)).Nodup
 |[],pre=>by simp[eA]
 |p::l,pre=>by
  rw[eA,Bool.and_eq_true,Bool.not_eq_true',qQ l,List.map_cons,List.nodup_cons,List.any_eq_false]
  simp only[decide_eq_true_eq,List.mem_append,List.mem_cons,List.not_mem_nil,or_false,List.mem_map,not_exists,not_and]
  constructor
  ·rintro⟨h1,h2,h3⟩
   refine⟨?_,fun x hx e=>h2 x hx p (.inr rfl) e.symm,h3⟩
   rintro x (rfl|hx) y hy
   ·exact h1 y hy
   ·exact h2 x hx y (.inl hy)
  ·rintro⟨h1,h2,h3⟩
   refine⟨fun y hy=>h1 p (.inl rfl) y hy,?_,h3⟩
   rintro x hx y (hy|rfl)
   ·exact h1 x (.inr hx) y hy
   ·exact fun e=>h2 x hx e.symm
structure AscOk (K:List Int) (l:List TPayment):Prop where
 pay:∀p,p∈l→PayOk p
 ord:l.Pairwise Bef
 kn:∀p,p∈l→p.Warrant∈K
 nd:(l.map (·.Warrant)).Nodup
theorem m5 {K:List Int} {l:List TPayment}:G0 K l=true↔AscOk K l:=by
 rw[G0,Bool.and_eq_true,Bool.and_eq_true,sI,qQ,List.all_eq_true]
 simp only[inK,decide_eq_true_eq]
 constructor
 ·rintro⟨⟨h1,_,h2⟩,h3,_,h4⟩
  exact⟨h1,h2,h3,h4⟩
 ·rintro⟨h1,h2,h3,h4⟩
  exact⟨⟨h1,by simp,h2⟩,h3,by simp,h4⟩
theorem pj:∀(l:List Int) (o:Option Int),jI o l=true↔(∀p,p∈l→1≤p∧p≤1000000)∧(∀x,o=some x→∀p,p∈l→x<p)∧l.Pairwise (·<·)
 |[],o=>by simp[jI]
 |p::l,o=>by
  rw[jI,Bool.and_eq_true,Bool.and_eq_true,pj l (some p),fu,C8,List.pairwise_cons]
  simp only[decide_eq_true_eq,List.mem_cons]
  constructor
  ·rintro⟨h1,h2,h3,h4,h5⟩
   refine⟨?_,?_,h4 p rfl,h5⟩
   ·rintro x (rfl|hx)
    ·exact h1
    ·exact h3 x hx
   ·rintro x hx y (rfl|hy)
    ·exact h2 x hx
    ·exact Int.lt_trans (h2 x hx) (h4 p rfl y hy)
  ·rintro⟨h1,h2,h3,h4⟩
   refine⟨h1 p (.inl rfl),fun x hx=>h2 x hx p (.inl rfl),fun x hx=>h1 x (.inr hx),?_,h4⟩
   rintro x hx y hy
   cases hx
   exact h3 y hy
structure QOk (q:TQueue):Prop where
 lw:q.Waiting.length≤100
 lk:q.Known.length≤200
 lb:q.Batches.length≤200
 kn:∀w,w∈q.Known→1≤w∧w≤1000000
 ks:q.Known.Pairwise (·<·)
 asc:AscOk q.Known q.Waiting
 bats:cr q.Known 0 0 q.Batches=true
theorem dx {q:TQueue}:cT q=0↔QOk q:=by
 unfold cT
 split
 ·rename_i h
  exact⟨fun e=>absurd e (by decide),fun⟨h1,h2,h3,_,_,_,_⟩=>by omega⟩
 ·rename_i h
  split
  ·rename_i h1
   rw[Bool.and_eq_true,Bool.and_eq_true,pj,m5]at h1
   exact⟨fun _=>⟨by omega,by omega,by omega,h1.1.1,h1.1.2.2,h1.2.1,h1.2.2⟩,fun _=>rfl⟩
  ·rename_i h1
   refine⟨fun e=>absurd e (by decide),fun⟨_,_,_,h4,h5,h6,h7⟩=>absurd ?_ h1⟩
   rw[Bool.and_eq_true,Bool.and_eq_true,pj,m5]
   exact⟨⟨h4,by simp,h5⟩,h6,h7⟩
structure FitQ (q:TQueue):Prop where
 w:q.Waiting.length≤100000
 k:q.Known.length≤100000
 b:q.Batches.length≤100000
 each:∀b,b∈q.Batches→b.Payments.length≤100000
theorem fY {K:List Int}:∀{l:List TBatch} {i d:Int},cr K i d l=true→∀b,b∈l→1≤b.Payments.length∧b.Payments.length≤10∧AscOk K b.Payments∧rM b.Day=true∧d≤b.Day
 |[],_,_,_,b,hb=>by cases hb
 |a::l,i,d,h,b,hb=>by
  rw[cr,z6]at h
  simp only[Bool.and_eq_true,fu,m5,decide_eq_true_eq]at h
  rcases List.mem_cons.1 hb with rfl|hb
  ·obtain⟨⟨_,h2,h3,h4,h5⟩,_⟩:=h
   exact⟨by omega,by omega,h5,h3,h2⟩
  ·obtain⟨h1,h2,h3,h4,h5⟩:=fY h.2 b hb
   exact⟨h1,h2,h3,h4,by have:=h.1.2.1;omega⟩
theorem QOk.fit {q:TQueue} (h:QOk q):FitQ q:=⟨by have:=h.lw;omega,by have:=h.lk;omega,by have:=h.lb;omega,fun b hb=>by have:=fY h.bats b hb;omega⟩
abbrev cS:TQueue:=⟨[],[],[]⟩
abbrev dO:TBatch:=⟨0,0,[]⟩
def ins {α:Type} (lt:α→α→Bool) (l:List α) (a:α):List α:=l.takeWhile (fun x=>lt x a)++a::l.dropWhile (fun x=>lt x a)
def ltB (a b:Int):Bool:=decide (a<b)
def gl (q:TQueue) (w:Int):Int:=dC (fun p:TPayment=>decide (p.Warrant=w)) q.Waiting
def gp (q:TQueue) (p:TPayment):TQueue×Int:=
 if cT q=0 then (if iQ p=true then (if p.Warrant∈q.Known then (cS,65)else if q.Waiting.length=100∨q.Known.length=200 then (cS,3)else (⟨ins ke q.Waiting p,ins ltB q.Known p.Warrant,q.Batches⟩,0))else (cS,64))else (cS,cT q)
def Ed (q:TQueue) (p:TPayment):TQueue×Int:=
 if cT q=0 then (if iQ p=true then (if p.Warrant∈q.Known then (if 0≤gl q p.Warrant then (cS,65)else if q.Waiting.length=100 then (cS,3)else (⟨ins ke q.Waiting p,q.Known,q.Batches⟩,0))else (cS,6))else (cS,64))else (cS,cT q)
def gY (q:TQueue) (w:Int):TQueue×Int:=
 if cT q=0 then (if gl q w<0 then (cS,6)else (⟨q.Waiting.eraseIdx (gl q w).toNat,q.Known,q.Batches⟩,0))else (cS,cT q)
def dJ (q:TQueue) (day:Int):List TPayment:=if cT q=0 then q.Waiting.filter (fun p=>decide (p.Due≤day))else []
def eH (q:TQueue):Int:=match q.Batches.getLast? with
 |none=>0
 |some b=>b.Day
def bP (ws:List Int) (p:TPayment):Bool:=decide (p.Warrant∈ws)
def DB (q:TQueue) (day:Int) (ws:List Int):Bool:=decide (ws.Nodup)&&ws.all fun w=>q.Waiting.any fun p=>decide (p.Warrant=w)&&decide (p.Due≤day)
def oO (q:TQueue) (day:Int) (ws:List Int):TBatch:=⟨q.Batches.length+1,day,q.Waiting.filter (bP ws)⟩
def cC (q:TQueue) (day:Int) (ws:List Int):TQueue×TBatch×Int:=
 if cT q=0 then (if rM day=true then (if day<eH q then (cS,dO,8)else if ws.length=0 then (cS,dO,10)else if 10<ws.length∨200≤q.Batches.length then (cS,dO,3)else if DB q day ws=true then (⟨q.Waiting.filter (fun p=>!bP ws p),q.Known,q.Batches++[oO q day ws]⟩,oO q day ws,0)else (cS,dO,6))else (cS,dO,66))else (cS,dO,cT q)
end Go.Proofs.YtmmpcldnpflchaaGreatDoor
