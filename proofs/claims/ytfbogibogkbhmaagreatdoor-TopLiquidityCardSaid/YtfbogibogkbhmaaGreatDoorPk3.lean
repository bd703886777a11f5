/- Several texts of this claim, joined: PaC Types Facts PlayAll Frame PaArg Args ArgsUse CardLibTl Key1 Reg1 Cmp Shelf Reg2. -/
import Derived.Test.YtfbogibogkbhmaaGreatDoorPk2
import Derived.Test.YtfbogibogkbhmaaGreatDoorProg
import Derived.KernelRfl
import Derived.WalkSpells
import Derived.WalkLawsBesides
import Derived.Deep.QuietTactic
import Derived.BigQuiet
import Derived.RegionTactic
import Derived.Lib.Hide
import Derived.Test.YtfbogibogkbhmaaGreatDoorRows
import Derived.ProofKit
import Derived.Below
import Derived.Carry
import Derived.ChangeSame
import Derived.ChangeMaps5
import Derived.ShutString
import Derived.Stop.LaidErr
import Derived.LaidMore
import Derived.Lay
import Derived.SevenTiedAt
import Derived.Stop.Joined
import Derived.Test.YtfbogibogkbhmaaGreatDoorCards
import Derived.Test.YtfbogibogkbhmaaGreatDoorTie
import Derived.Shelf.LaysM
import Derived.Shelf.Strconv.Itoa3
import Derived.Shelf.LaysC
import Derived.Shelf.Strconv.AtoiAll
import Derived.Shelf.Strings.Search2
import Derived.Shelf.Strings.Search3
set_option linter.unusedSimpArgs false
set_option linter.unusedVariables false
set_option maxRecDepth 4000
namespace Go.PA
open Go.RowKit
def Sm (P:Program) (row src:Option Nat) (f:FuncId) (args:List AV) (ty:TypeId) (k:Nat) (Q:List (List AV)→Prop):Prop:=
 ∀(w:World) (ok:Nat→Prop) (vs:Array Value),(∀b,ok b→b<w.heap.size∧some b≠row)→Inv row src ok w→vs.size=args.length→(∀(i:Nat) (v:Value) (a:AV),vs[i]?=some v→args[i]?=some a→jY w ok v a)→
  Calls P f vs w fun e w'=>∃(b cap:Nat) (es:List (List AV)),e= .returned (.pointer (some ⟨b,0,none⟩))∧Q es∧w.heap.size≤b∧b<w'.heap.size∧(∀e,e∈es→e.length=k)∧
   yL w' (fun _=>none) [] (fun x=>(ok x∨(w.heap.size≤x∧x<w'.heap.size))∧x≠b) ⟨ty,k,es⟩ b cap∧(∀e,e∈es→∀a,a∈e→Imm a)∧w.grownBy w' row∧Inv row src ok w'
def Xd (P:Program) (rs:List ResultVar) (ty:TypeId) (k:Nat) (Q:List (List AV)→Prop):Exit→St→Prop
 | .normal,s| .ret,s=>∃id es,mh P s rs=some (.ref id 0 0)∧s.H[id]?=some (some ⟨ty,k,es⟩)∧(∀e,e∈es→∀a,a∈e→Imm a)∧Q es
 |_,_=>False
theorem Kh {P:Program} {row src:Option Nat} {f:FuncId} {args:List AV} {ty:TypeId} {k:Nat} {Q:List (List AV)→Prop} {fn:Func} {body:Code}
  (hf:P.funcs[f]?=some fn) (hb:fn.body=some body) (hn:args.length≤fn.ntmps) (hc:gD fn.ntmps body=true)
  (h:∀E:Env,E.P=P→E.row=row→E.src=src→(∀b,¬E.W b)→E.N=fn.ntmps→awp E body ⟨bW args,[]⟩ (Xd P fn.results.toList ty k Q)):Sm P row src f args ty k Q:=by
 intro w ok vs h1 h2 h3 h4
 let E:Env:={P:=P,w0:=w,okA:=ok,row:=row,src:=src,N:=fn.ntmps,W:=fun _=>False,ρ0:=fun _=>none,H0:=[]}
 have g:Good E w (fun _=>none) [] ok:=⟨rfl,rfl,rfl,zZ _,fun _ _ _ _=>rfl,h2,fun b hb=>⟨(h1 b hb).1,(h1 b hb).2,.inl hb⟩,by simp,by simp,by simp,by simp⟩
 have r:Rel E ⟨bW args,[]⟩ {tmps:=vs++Array.replicate (fn.ntmps-vs.size) undef,defers:=[]} w:=by
  refine⟨fun _=>none,ok,g,Ext.refl _ _ _ _,rfl,by simp[E];omega,fun i=>?_⟩
  simp only[bW]
  rcases Nat.lt_or_ge i args.length with hlt|hge
  ·have e1:args.getD i (.sc undef)=args[i]:=by simp[List.getD,zF hlt]
   have hv:vs[i]?=some (vs[i]'(by omega)):=zX (by omega)
   have e2:(vs++Array.replicate (fn.ntmps-vs.size) undef).getD i undef=vs[i]'(by omega):=by
    rw[wW,Array.getElem?_append_left (by omega),hv]
    rfl
   rw[e1,e2]
   exact h4 i _ _ hv (zF hlt)
  ·have e1:args.getD i (.sc undef)= .sc undef:=by simp[List.getD,List.getElem?_eq_none hge]
   have e2:(vs++Array.replicate (fn.ntmps-vs.size) undef).getD i undef=undef:=by
    rw[wW,Array.getElem?_append_right (by omega),Array.getElem?_replicate]
    split<;>rfl
   rw[e1,e2]
   exact .sc
 have hw:=be (E:=E) body _ _ hc (h E rfl rfl rfl (fun _ h=>h) rfl) _ _ r
 refine calls_of_wp hf hb (wp_mono hw fun e a' w' h'=>?_)
 obtain⟨s',hq,ρ,ok',g',_,hd,_,hr⟩:=h'
 have fin:(∃id es,mh P s' fn.results.toList=some (.ref id 0 0)∧s'.H[id]?=some (some ⟨ty,k,es⟩)∧(∀e,e∈es→∀a,a∈e→Imm a)∧Q es)→a'.defers=[]∧∃v,(results fn a'.tmps).run P w'= .ok v w'∧
   ∃(b cap:Nat) (es:List (List AV)),Ending.returned v= .returned (.pointer (some ⟨b,0,none⟩))∧Q es∧w.heap.size≤b∧b<w'.heap.size∧(∀e,e∈es→e.length=k)∧
   yL w' (fun _=>none) [] (fun x=>(ok x∨(w.heap.size≤x∧x<w'.heap.size))∧x≠b) ⟨ty,k,es⟩ b cap∧(∀e,e∈es→∀a,a∈e→Imm a)∧w.grownBy w' row∧Inv row src ok w':=by
  rintro⟨id,es,hres,ho,hi,hq⟩
  obtain⟨v,hrun,hrep⟩:=rI (E:=E) g' hr hres
  refine⟨hd,v,hrun,?_⟩
  cases hrep with
  |refDead hd' _=>rw[ho]at hd';cases hd'
  |@ref _ _ _ o b cap ho' hρ hcap=>
   rw[ho]at ho'
   simp only[zB]at ho'
   subst ho'
   have hobj:=g'.obj id _ ho
   rw[hρ]at hobj
   obtain⟨a1,a2,a3⟩:=g'.own id _ b cap ho hρ
   have hb1:w.heap.size≤b:=a3.resolve_left (fun h=>h)
   refine⟨b,cap,es,by simp,hq,hb1,hobj.lt,g'.len id _ ho,?_,hi,⟨g'.os,g'.tape,g'.output,g'.size,fun k hk hne=>g'.blk k hk (fun h=>h) hne⟩,⟨h2.1.1,h2.1.2.at g'.inv.1.2⟩,fun p hp=>g'.inv.2 p hp⟩
   obtain⟨cur,c1,c2,c3,c4,c5⟩:=hobj.cells hcap
   refine⟨cur,c1,c2,c3,c4,fun i e j a he ha=>?_⟩
   obtain⟨c,d1,d2,d3⟩:=c5 i e j a he ha
   refine⟨c,d1,d2,d3.imm (fun x hx=>⟨?_,fun e=>a1 (e▸hx)⟩) (hi e (zE he) a (zE ha))⟩
   obtain⟨x1,_,x3⟩:=g'.oks x hx
   exact x3.imp (fun h=>h) fun h=>⟨h,x1⟩
 cases e with
 |normal=>exact fin hq
 |ret=>exact fin hq
 |_=>exact hq.elim
section
variable {E:Env}
theorem M5 {P:Program} {f:FuncId} {args:List AV} {args':List AV} {H:ah} {ty:TypeId} {k:Nat} {Q:List (List AV)→Prop} {C:AV→ah→Prop} {b:Bx C} (h:Sm P E.row E.src f args' ty k Q) (hP:E.P=P) (hen:aa P f=true) (ha:Args H args args') (hn:∀a,a∈args→lg a=[])
  (hex:∃es,Q es) (hC:∀es,Q es→C (.ref H.length 0 0) (H++[some ⟨ty,k,es⟩])):lW E f args H C b:=by
 subst hP
 obtain⟨es0,hq0⟩:=hex
 refine .inl ⟨hen,⟨_,_,hC es0 hq0⟩,fun w ρ ok vs g hs hr=>?_⟩
 have hr':∀(i:Nat) (v:Value) (a:AV),vs[i]?=some v→args'[i]?=some a→jY w ok v a:=fun i v a' hv ha'=>by
  obtain⟨a,h1,h2,h3⟩:=ha.get i a' ha'
  refine ((lU (fun _=>False) g (hr i v a hv h1) h3 (fun id hid=>?_)).weak h2).ext ⟨by simp,by simp,?_,fun _ _=>rfl⟩
  ·rw[hn a (zE h1)]at hid;cases hid
  ·rintro b (hb|⟨_,_,_,hf,_⟩)
   ·exact hb
   ·exact hf.elim
 refine (h w ok vs (fun b hb=>⟨(g.oks b hb).1,(g.oks b hb).2.1⟩) g.inv (hs.trans ha.len) hr').mono ?_
 rintro e w' ⟨b,cap,es,rfl,hq,hb1,hb2,hlen,hobj,hi,hg,hinv⟩
 obtain⟨g1,x1⟩:=g.call (ok':=fun x=>(ok x∨(w.heap.size≤x∧x<w'.heap.size))∧x≠b) hg hinv (fun x hx=>⟨.inl hx,fun e=>by have:=(g.oks x hx).1;omega⟩) (fun x hx=>hx.1)
 have hcm:cap≤maxLen:=hobj.choose_spec.2.2.2.1
 have hobj':ObjOk w' ρ H (fun x=>(ok x∨(w.heap.size≤x∧x<w'.heap.size))∧x≠b) ⟨ty,k,es⟩ (some (b,cap)):=by
  obtain⟨cur,c1,c2,c3,c4,c5⟩:=hobj
  refine .inl ⟨cur,c1,c2,c3,c4,fun i e j a he ha=>?_⟩
  obtain⟨c,d1,d2,d3⟩:=c5 i e j a he ha
  exact⟨c,d1,d2,d3.imm (fun x hx=>hx) (hi e (zE he) a (zE ha))⟩
 obtain⟨g2,x2⟩:=g1.add ⟨ty,k,es⟩ (some (b,cap)) hobj' hlen (fun b' c' h'=>by
  simp only[zB,Prod.mk.injEq]at h'
  obtain⟨rfl,rfl⟩:=h'
  refine⟨fun hx=>hx.2 rfl,fun id o c ho hρ=>?_,fun hrow=>?_,.inr (Nat.le_trans g.size hb1)⟩
  ·have:=g.obj id o ho
   rw[hρ]at this
   have:=this.lt
   omega
  ·have:=g.row_lt hrow.symm
   omega)
 refine⟨_,.ref H.length 0 0,H++[some ⟨ty,k,es⟩],_,_,rfl,hC es hq,g2,x1.trans x2,?_⟩
 have:=Rep.ref (w:=w') (ρ:=fK ρ H.length (some (b,cap))) (H:=H++[some ⟨ty,k,es⟩]) (ok:=fun x=>(ok x∨(w.heap.size≤x∧x<w'.heap.size))∧x≠b) (id:=H.length) (i:=0) (j:=0) (o:=⟨ty,k,es⟩) (b:=b) (cap:=cap) cO (by simp[fK]) hcm
 simpa using this
theorem sm {w:World} {ρ:aW} {H:ah} {ok:Nat→Prop} {xs:List Int} {v:Value} (r:Rep w ρ H ok v (.list 1 (xs.map fun x=>[.sc (.int .i64 x)]))):
  ∃A c,v= .slice A xs.length c∧∀i,i<xs.length→∃ad,A=some ad∧ok ad.block∧∃x,x∈xs∧w.cell? (ad.add i)=some (.int .i64 x):=by
 generalize hes:xs.map (fun x=>[AV.sc (.int .i64 x)])=es at r
 cases r with
 |listNil=>simp at hes;subst hes;exact⟨_,_,rfl,by simp⟩
 |@list ad n c _ _ f hn hnc hok hk hc h1 hr=>
  subst hes
  refine⟨some ad,c,by simp at hn;rw[hn],fun i hi=>⟨ad,rfl,hok,xs[i],List.getElem_mem hi,?_⟩⟩
  have he:(xs.map (fun x=>[AV.sc (.int .i64 x)]))[i]?=some [.sc (.int .i64 xs[i])]:=by simp[zR,zF hi]
  have:=hr i _ 0 _ he rfl
  have e:=cM this
  have h2:=hc i _ 0 _ he rfl
  rw[e]at h2
  simpa using h2
theorem K6 {c:Code} {s:St} {Q:Exit→St→Prop} (j:Nat) {ty:TypeId} {xs:List Int} {at_:Nat} (hrow:E.row=none) (hsrc:E.src=none) (hW:∀b,¬E.W b) (ht:s.t j= .ref 0 0 0) (hH:s.H=[some ⟨ty,2,[[.list 1 (xs.map fun x=>[.sc (.int .i64 x)]),.sc (.int .i64 at_)]]⟩])
  (hat:at_≤xs.length) (hl:xs.length≤900) (hx:∀x,x∈xs→ -9223372036854775808≤x∧x≤9223372036854775807) (hco:gD E.N c=true)
  (h:∀(E':Env) (p:Nat),E'.P=E.P→E'.row=some p→E'.N=E.N→(∀b,¬E'.W b)→awp E' c ⟨upd s.t j (.sc (.pointer (some ⟨p,0,none⟩))),[none]⟩ Q):AWp E c s Q:=by
 rintro a w ⟨ρ,ok,g,hx0,hd,hs,hr⟩
 have h0:s.H[0]?=some (some ⟨ty,2,[[.list 1 (xs.map fun x=>[.sc (.int .i64 x)]),.sc (.int .i64 at_)]]⟩):=by rw[hH];rfl
 have hv:=hr j
 rw[ht]at hv
 obtain⟨o,b,cap,ho,hρ,hcap,hve⟩:∃o b cap,s.H[0]?=some (some o)∧ρ 0=some (b,cap)∧cap≤maxLen∧a.tmps.getD j undef= .pointer (some ⟨b,0*o.k+0,none⟩):=by
  generalize hgen:a.tmps.getD j undef=v at hv
  cases hv with
  |ref ho hρ hcap=>exact⟨_,_,_,ho,hρ,hcap,rfl⟩
  |refDead hd _=>rw[h0]at hd;cases hd
 rw[h0]at ho
 simp only[zB]at ho
 subst ho
 have hobj:=g.obj 0 _ h0
 rw[hρ]at hobj
 obtain⟨hb1,_,hb3⟩:=g.own 0 _ b cap h0 hρ
 have hb3:=hb3.resolve_left (hW b)
 have hblt:=hobj.lt
 obtain⟨cur,c1,c2,c3,c4,c5⟩:=hobj.cells hcap
 obtain⟨v0,d1,d2,d3⟩:=c5 0 _ 0 _ rfl rfl
 obtain⟨v1,e1,e2,e3⟩:=c5 0 _ 1 _ rfl rfl
 obtain⟨A,c',rfl,hA⟩:=sm d3
 have e3:=cM e3
 subst e3
 let src:Option Nat:=if 0<xs.length then A.map (·.block)else none
 let E':Env:={P:=E.P,w0:=w,okA:=ok,row:=some b,src:=src,N:=E.N,W:=fun _=>False,ρ0:=ρ,H0:=[none]}
 have hsok:∀b',src=some b'→ok b':=fun b' hb'=>by
  simp only[src]at hb'
  split at hb'
  ·rename_i h0
   obtain⟨ad,rfl,hk,_⟩:=hA 0 h0
   simp at hb'
   exact hb'▸hk
  ·cases hb'
 have hS:TC src w b:=by
  refine⟨cur,A,xs.length,c',at_,ty,⟨c1,by simpa using d1,by simpa using e1⟩,hat,hl,fun i hi=>?_⟩
  obtain⟨ad,rfl,hk,x,hxm,hc⟩:=hA i hi
  refine⟨ad,x,rfl,?_,fun e=>hb1 (e▸hk),hc,hx x hxm⟩
  simp only[src]
  rw[if_pos (by omega)]
  rfl
 have gE:Good E' w ρ [none] ok:=by
  have hlive:∀(id:Nat) (o:AObj),([none]:ah)[id]?=some (some o)→False:=fun id o ho=>by
   match id,ho with
   |0,ho=>simp at ho
   |id+1,ho=>simp at ho
  refine⟨rfl,rfl,rfl,zZ _,fun _ _ _ _=>rfl,⟨⟨hsok,g.inv.1.2⟩,fun p hp=>?_⟩,fun b' hb'=>⟨(g.oks b' hb').1,fun e=>?_,.inl hb'⟩,fun id o _ _ ho _=>(hlive id o ho).elim,fun id o _ _ _ _ _ ho _ _ _=>(hlive id o ho).elim,fun id o ho=>(hlive id o ho).elim,fun id o ho=>(hlive id o ho).elim⟩
  ·cases hp;exact hS
  ·simp only[E',zB]at e
   subst e
   exact hb1 hb'
 have hext:Ext w ρ s.H ok w ρ [none] ok:=by
  refine⟨fun id o ho=> .inl ?_,fun id ho=>?_,fun _ h=>h,fun _ _=>rfl⟩
  ·rw[hH]at ho
   match id,ho with
   |0,ho=>rfl
   |id+1,ho=>simp at ho
  ·rw[hH]at ho
   match id,ho with
   |0,ho=>simp at ho
   |id+1,ho=>simp at ho
 have rE:Rel E' ⟨upd s.t j (.sc (.pointer (some ⟨b,0,none⟩))),[none]⟩ a w:=by
  refine⟨ρ,ok,gE,Ext.refl _ _ _ _,hd,hs,fun i=>?_⟩
  simp only[upd]
  split
  ·rename_i hi
   subst hi
   rw[hve]
   simp only[Nat.zero_mul,vR]
   exact .sc
  ·exact (hr i).ext hext
 refine wp_mono (be (E:=E') c _ Q hco (h E' b rfl rfl rfl (fun _ h=>h)) a w rE) fun e a' w' h'=>?_
 obtain⟨s',hq,ρ',ok',g',hx',hd',hs',hr'⟩:=h'
 refine⟨s',hq,ρ',ok',⟨g'.os.trans g.os,g'.tape.trans g.tape,g'.output.trans g.output,Nat.le_trans g.size g'.size,fun b' hb' hW' hr'=>?_,⟨⟨fun b' hb'=>(by rw[hsrc]at hb';cases hb'),g'.inv.1.2⟩,fun p hp=>(by rw[hrow]at hp;cases hp)⟩,fun b' hb'=>?_,fun id o b' c ho hρ=>?_,g'.inj,g'.len,g'.obj⟩,(hx0.trans hext).trans hx',hd',hs',hr'⟩
 ·refine (g'.blk b' (Nat.lt_of_lt_of_le hb' g.size) (fun h=>h) (fun e=>?_)).trans (g.blk b' hb' hW' hr')
  simp only[E',zB]at e
  omega
 ·obtain⟨x1,x2,x3⟩:=g'.oks b' hb'
  refine⟨x1,by rw[hrow];simp,?_⟩
  rcases x3 with x3|x3
  ·exact (g.oks b' x3).2.2
  ·exact .inr (Nat.le_trans g.size x3)
 ·obtain⟨x1,x2,x3⟩:=g'.own id o b' c ho hρ
  exact⟨x1,by rw[hrow];simp,.inr (Nat.le_trans g.size (x3.resolve_left (fun h=>h)))⟩
theorem aM {a b:Code} {s:St} {Q:Exit→St→Prop} (hc:gD E.N a=true) (h:awp E a s (xI (fun s'=>AWp E b s' Q) Q)):AWp E (.seq a b) s Q:=by
 intro x w r
 refine wp_seq (wp_mono (be a s _ hc h x w r) fun e a' w' h'=>?_)
 obtain⟨s',h1,h2⟩:=h'
 cases e with
 |normal=>exact h1 a' w' h2
 |_=>exact⟨s',h1,h2⟩
end
theorem ee {P:Program} {row src:Option Nat} {f:FuncId} {args:List AV} {Q:AV→Prop} {fn:Func} {body:Code}
  (hf:P.funcs[f]?=some fn) (hb:fn.body=some body) (hn:args.length≤fn.ntmps)
  (h:∀E:Env,E.P=P→E.row=row→E.src=src→(∀b,¬E.W b)→E.N=fn.ntmps→AWp E body ⟨bW args,[]⟩ (Cf P fn.results.toList Q)):PFun P row src f args Q:=by
 have key:∀E:Env,E.P=P→E.row=row→E.src=src→(∀b,¬E.W b)→E.N=fn.ntmps→AWp E body ⟨bW args,[]⟩ (Cf P fn.results.toList Q):=h
 exact xT hf hb hn key
open Go.RowKit
def AM (P:Program) (rs:List ResultVar) (C:AV→ah→Prop):Exit→St→Prop
 | .normal,s| .ret,s=>match mh P s rs with
  |some r=>C r s.H
  |none=>False
 |_,_=>False
def MFun (P:Program) (row src:Option Nat) (f:FuncId) (args:List AV) (H:ah) (C:AV→ah→Prop):Prop:=
 ∀E:Env,E.P=P→E.row=row→E.src=src→ACall E f args H C
theorem MFun.mono {P:Program} {row src:Option Nat} {f:FuncId} {args:List AV} {H:ah} {C D:AV→ah→Prop} (h:MFun P row src f args H C) (hd:∀x H',C x H'→D x H'):MFun P row src f args H D:=
 fun E h1 h2 h3=>(h E h1 h2 h3).mono hd
theorem o6 {P:Program} {row src:Option Nat} {f:FuncId} {args:List AV} {H:ah} {C:AV→ah→Prop} {fn:Func} {body:Code}
  (hf:P.funcs[f]?=some fn) (hb:fn.body=some body) (hn:args.length≤fn.ntmps) (hex:∃x H',C x H')
  (h:∀E:Env,E.P=P→E.row=row→E.src=src→E.N=fn.ntmps→AWp E body ⟨bW args,H⟩ (AM P fn.results.toList C)):MFun P row src f args H C:=by
 intro E hP hrow hsrc
 refine⟨hex,fun w ρ ok vs g hsz hrep=>?_⟩
 subst hP;subst hrow;subst hsrc
 let E':Env:={P:=E.P,w0:=w,okA:=ok,row:=E.row,src:=E.src,N:=fn.ntmps,W:=fun b=>∃id o c,H[id]?=some (some o)∧ρ id=some (b,c),ρ0:=ρ,H0:=H}
 have gE:Good E' w ρ H ok:=⟨rfl,rfl,rfl,zZ _,fun _ _ _ _=>rfl,g.inv,fun b hb=>⟨(g.oks b hb).1,(g.oks b hb).2.1,.inl hb⟩,fun id o b c ho hρ=>⟨(g.own id o b c ho hρ).1,(g.own id o b c ho hρ).2.1,.inl ⟨id,o,c,ho,hρ⟩⟩,g.inj,g.len,g.obj⟩
 have r:Rel E' ⟨bW args,H⟩ {tmps:=vs++Array.replicate (fn.ntmps-vs.size) undef,defers:=[]} w:=by
  refine⟨ρ,ok,gE,Ext.refl _ _ _ _,rfl,by simp[E'];omega,fun i=>?_⟩
  simp only[bW]
  rcases Nat.lt_or_ge i args.length with hlt|hge
  ·have e1:args.getD i (.sc undef)=args[i]:=by simp[List.getD,zF hlt]
   have hv:vs[i]?=some (vs[i]'(by omega)):=zX (by omega)
   have e2:(vs++Array.replicate (fn.ntmps-vs.size) undef).getD i undef=vs[i]'(by omega):=by
    rw[wW,Array.getElem?_append_left (by omega),hv]
    rfl
   rw[e1,e2]
   exact hrep i _ _ hv (zF hlt)
  ·have e1:args.getD i (.sc undef)= .sc undef:=by simp[List.getD,List.getElem?_eq_none hge]
   have e2:(vs++Array.replicate (fn.ntmps-vs.size) undef).getD i undef=undef:=by
    rw[wW,Array.getElem?_append_right (by omega),Array.getElem?_replicate]
    split<;>rfl
   rw[e1,e2]
   exact .sc
 refine calls_of_wp hf hb (wp_mono (h E' rfl rfl rfl rfl _ _ r) fun e a' w' h'=>?_)
 obtain⟨s',hq,ρ',ok',g',hx',hd,_,hr⟩:=h'
 have gF:Good E w' ρ' s'.H ok':=by
  have hnW:∀b,b<E.w0.heap.size→¬E.W b→¬E'.W b:=fun b hb hW ⟨id,o,c,ho,hρ⟩=>by
   rcases (g.own id o b c ho hρ).2.2 with h|h
   ·exact hW h
   ·omega
  refine⟨g'.os.trans g.os,g'.tape.trans g.tape,g'.output.trans g.output,Nat.le_trans g.size g'.size,fun b hb hW hr'=>(g'.blk b (Nat.lt_of_lt_of_le hb g.size) (hnW b hb hW) hr').trans (g.blk b hb hW hr'),g'.inv,fun b hb=>?_,fun id o b c ho hρ=>?_,g'.inj,g'.len,g'.obj⟩
  ·obtain⟨x1,x2,x3⟩:=g'.oks b hb
   refine⟨x1,x2,?_⟩
   rcases x3 with x3|x3
   ·exact (g.oks b x3).2.2
   ·exact .inr (Nat.le_trans g.size x3)
  ·obtain⟨x1,x2,x3⟩:=g'.own id o b c ho hρ
   refine⟨x1,x2,?_⟩
   rcases x3 with⟨id',o',c',ho',hρ'⟩|x3
   ·exact (g.own id' o' b c' ho' hρ').2.2
   ·exact .inr (Nat.le_trans g.size x3)
 have fin:∀{r:AV},mh E.P s' fn.results.toList=some r→C r s'.H→a'.defers=[]∧∃v,(results fn a'.tmps).run E.P w'= .ok v w'∧
   ∃(v':Value) (x:AV) (H':ah) (ρ':aW) (ok':Nat→Prop),Ending.returned v= .returned v'∧C x H'∧Good E w' ρ' H' ok'∧Ext w ρ H ok w' ρ' H' ok'∧Rep w' ρ' H' ok' v' x:=by
  intro r hres hc
  obtain⟨v,hrun,hrep'⟩:=rI (E:=E) gF hr hres
  exact⟨hd,v,hrun,v,r,s'.H,ρ',ok',rfl,hc,gF,hx',hrep'⟩
 cases e with
 |normal=>
  simp only[AM]at hq
  split at hq
  ·rename_i r hres;exact fin hres hq
  ·exact hq.elim
 |ret=>
  simp only[AM]at hq
  split at hq
  ·rename_i r hres;exact fin hres hq
  ·exact hq.elim
 |_=>exact hq.elim
theorem aG {P:Program} {row src:Option Nat} {f:FuncId} {args:List AV} {H:ah} {C:AV→ah→Prop} {fn:Func} {body:Code}
  (hf:P.funcs[f]?=some fn) (hb:fn.body=some body) (hn:args.length≤fn.ntmps) (hc:gD fn.ntmps body=true) (hex:∃x H',C x H')
  (h:∀E:Env,E.P=P→E.row=row→E.src=src→E.N=fn.ntmps→awp E body ⟨bW args,H⟩ (AM P fn.results.toList C)):MFun P row src f args H C:=
 o6 hf hb hn hex fun E h1 h2 h3 h5=>be body _ _ (h5▸hc) (h E h1 h2 h3 h5)
theorem VB {P:Program} {rs:List ResultVar} {C:AV→ah→Prop} {s:St}:AM P rs C .ret s=OB (mh P s rs) (fun r=>C r s.H) .mk:=by
 simp only[AM]
 cases mh P s rs<;>rfl
theorem Ms {P:Program} {rs:List ResultVar} {C:AV→ah→Prop} {s:St}:AM P rs C .normal s=OB (mh P s rs) (fun r=>C r s.H) .mk:=by
 simp only[AM]
 cases mh P s rs<;>rfl
attribute [go_sem ↓] VB Ms
theorem aI {E:Env} {f:FuncId} {args:List AV} {H:ah} {C C':AV→ah→Prop} {b:Bx C} {P:Program} (h:MFun P E.row E.src f args H C') (hP:E.P=P) (hen:aa P f=true) (hC:∀r H',C' r H'→C r H'):lW E f args H C b:=
 .inl ⟨hP▸hen,(h E hP rfl rfl).mono hC⟩
def Kept (X:List Nat) (H H':ah):Prop:=∀j o,j∉X→H[j]?=some (some o)→H'[j]?=some (some o)
theorem aD (X:List Nat) (H:ah):Kept X H H:=fun _ _ _ h=>h
theorem Kept.trans {X:List Nat} {H H' H'':ah} (h:Kept X H H') (k:Kept X H' H''):Kept X H H'':=fun j o hj ho=>k j o hj (h j o hj ho)
theorem fB {X:List Nat} {H H':ah} (x:Option AObj) (h:Kept X H H'):Kept X H (H'++[x]):=fun j o hj ho=>by
 have:=h j o hj ho
 rw[zD (gsI this)]
 exact this
theorem bN (X:List Nat) (H l:ah):Kept X H (H++l):=fun j o _ ho=>by
 rw[zD (gsI ho)]
 exact ho
theorem cL {X:List Nat} {H H':ah} {i:Nat} (x:Option AObj) (hi:i∈X) (h:Kept X H H'):Kept X H (H'.set i x):=fun j o hj ho=>by
 rw[zH (by rintro rfl;exact hj hi)]
 exact h j o hj ho
theorem tJ {X:List Nat} {H H':ah} {i:Nat} (x:Option AObj) (hi:H.length≤i) (h:Kept X H H'):Kept X H (H'.set i x):=fun j o hj ho=>by
 have:=(gsI ho)
 rw[zH (by omega)]
 exact h j o hj ho
theorem Kept.mono {X Y:List Nat} {H H':ah} (h:Kept X H H') (hs:∀x,x∈X→x∈Y):Kept Y H H':=fun j o hj ho=>h j o (fun hx=>hj (hs _ hx)) ho
theorem DX {P:Program} {row src:Option Nat} {f:FuncId} {args args':List AV} {Q:AV→Prop} {H:ah} (h:PFun P row src f args' Q) (ha:Args H args args') (hex:∃r,Q r) (hfl:∀r,Q r→Flat r):MFun P row src f args H (fun r H'=>Q r∧H'=H):=by
 intro E hP hrow hsrc
 subst hrow;subst hsrc
 exact oe args' hP h ha hex hfl fun r hr=>⟨hr,rfl⟩
theorem qU {P:Program} {row src:Option Nat} {f:FuncId} {args:List AV} {k:Nat} {H:ah} {C:AV→ah→Prop} (h:∀A c,MFun P row src f (.sc (.slice A 0 c)::args) H C):MFun P row src f (.list k []::args) H C:=by
 intro E hP hrow hsrc
 refine⟨(h none 0 E hP hrow hsrc).1,fun w ρ ok vs g hs hr=>?_⟩
 have h0:0<vs.size:=by rw[hs];simp
 have hv:=hr 0 vs[0] (.list k []) (zX h0) rfl
 have key:∃A c,vs[0]= .slice A 0 c:=by
  generalize vs[0]=v at hv
  cases hv with
  |listNil=>exact⟨_,_,rfl⟩
  |list f hn _ _ _ _ _ _=>subst hn;exact⟨_,_,rfl⟩
 obtain⟨A,c,hA⟩:=key
 refine (h A c E hP hrow hsrc).2 w ρ ok vs g hs fun i v a hv ha=>?_
 match i,hv,ha with
 |0,hv,ha=>
  rw[zX h0,hA]at hv
  simp at hv ha
  subst hv;subst ha
  exact .sc
 |i+1,hv,ha=>exact hr (i+1) v a hv ha
theorem MFun.ownNil {P:Program} {row src:Option Nat} {f:FuncId} {args:List AV} {H:ah} {C:AV→ah→Prop} (ty:TypeId) (k:Nat) (h:MFun P row src f args H C):
  MFun P row src f args H (fun r H'=>(∃H0,C .nil H0∧r= .sref H0.length 0 0∧H'=H0++[some ⟨ty,k,[]⟩])∨(r≠ .nil∧C r H')):=by
 intro E hP hrow hsrc
 obtain⟨⟨x0,H0,h0⟩,hw⟩:=h E hP hrow hsrc
 refine⟨?_,fun w ρ ok vs g hs hr=>(hw w ρ ok vs g hs hr).mono ?_⟩
 ·by_cases hx:x0= .nil
  ·subst hx;exact⟨_,_,.inl ⟨H0,h0,rfl,rfl⟩⟩
  ·exact⟨_,_,.inr ⟨hx,h0⟩⟩
 ·rintro e w' ⟨v,x,H',ρ',ok',rfl,hc,g',x',r'⟩
  by_cases hx:x= .nil
  ·subst hx
   obtain⟨g2,x2⟩:=g'.add ⟨ty,k,[]⟩ none rfl (by simp) (by simp)
   refine⟨v,_,_,_,_,rfl,.inl ⟨H',hc,rfl,rfl⟩,g2,x'.trans x2,?_⟩
   cases r'
   exact .srefNil cO (by simp[fK])
  ·exact⟨v,x,H',ρ',ok',rfl,.inr ⟨hx,hc⟩,g',x',r'⟩
def SlIs (H:ah) (x:AV) (k:Nat) (es:List (List AV)):Prop:=x= .list k es∨(x= .nil∧es=[])∨∃id ty,x= .sref id 0 es.length∧H[id]?=some (some ⟨ty,k,es⟩)
theorem SlIs.kept {H H':ah} {x:AV} {k:Nat} {es:List (List AV)} (h:SlIs H x k es) (hk:Kept [] H H'):SlIs H' x k es:=by
 rcases h with h|h|⟨id,ty,h1,h2⟩
 ·exact .inl h
 ·exact .inr (.inl h)
 ·exact .inr (.inr ⟨id,ty,h1,hk id _ (by simp) h2⟩)
theorem SlIs.len {H:ah} {x:AV} {k:Nat} {es:List (List AV)} (h:SlIs H x k es):lu H x=some (es.length:Int):=by
 rcases h with h|⟨rfl,rfl⟩|⟨id,ty,rfl,h2⟩
 ·subst h;rfl
 ·rfl
 ·simp only[lu,h2]
theorem SlIs.idx {P:Program} {t e:TypeId} {H:ah} {x:AV} {k:Nat} {es:List (List AV)} (h:SlIs H x k es) (ht:Go.PA.aT P t=some e) (hk:k=ay P e) (hn:aE P e=true) (i:Nat) (hi:i<es.length):
  ∃a,bQ P t H x i=some a∧aO H a=some es[i]:=by
 rcases h with h|⟨rfl,rfl⟩|⟨id,ty,rfl,h2⟩
 ·subst h
  refine⟨.iref es[i],?_,rfl⟩
  rw[Bq ht]
  simp[hk,hn,hi]
 ·simp at hi
 ·refine⟨.ref id i 0,?_,?_⟩
  ·rw[Ar ht]
   simp[h2,hk,hn,hi]
  ·rw[AD]
   simp[h2,hi]
theorem Ae {E:Env} {s:St} (hW:∀b,¬E.W b) (j:Nat) {id lo n:Nat} {o:AObj} (hj:s.t j= .sref id lo n) (ho:s.H[id]?=some (some o)) (hi:Imm (.list o.k ((o.es.drop lo).take n))):
  Weaker E s ⟨upd s.t j (.list o.k ((o.es.drop lo).take n)),s.H.set id none⟩:=by
 rintro a w ⟨ρ,ok,g,hx,hd,hs,hr⟩
 obtain⟨g',x'⟩:=g.kill id (fun b=>ok b∨∃o c,s.H[id]?=some (some o)∧ρ id=some (b,c)) (fun _ h=> .inl h) (fun b hb=>hb.imp (fun h=>h) fun⟨o,c,h1,h2⟩=>⟨o,c,h1,h2,hW b⟩)
 refine⟨ρ,_,g',hx.trans x',hd,hs,fun i=>?_⟩
 simp only[upd]
 split
 ·rename_i hij
  subst hij
  have hv:=hr i
  have hview:dR s.H (s.t i)= .list o.k ((o.es.drop lo).take n):=by rw[hj,fo,ho,dQ]
  have:=lU (fun x=>x=id) g hv (by rw[hview];exact hi) (fun x hx=>by rw[hj]at hx;simpa[lg,ua,mA]using hx)
  rw[hview]at this
  refine this.imm (fun b hb=>?_) hi
  rcases hb with hb|⟨x,o',c,rfl,h1,h2⟩
  ·exact .inl hb
  ·exact .inr ⟨o',c,h1,h2⟩
 ·exact (hr i).ext x'
def Ey (j n:Nat) (I:Nat→St→Prop) (Q:Exit→St→Prop) (_:Bx (I,Q)):Exit→St→Prop
 | .normal,s'=>∃n',n'<n∧I n' s'
 | .exit i,s'=>∃id lo m o,s'.t j= .sref id lo m∧s'.H[id]?=some (some o)∧Imm (.list o.k ((o.es.drop lo).take m))∧Q (.exit i) ⟨upd s'.t j (.list o.k ((o.es.drop lo).take m)),s'.H.set id none⟩
 |x,s'=>Q x s'
theorem Cx {j n:Nat} {I:Nat→St→Prop} {Q:Exit→St→Prop} {b:Bx (I,Q)} {s:St}:Ey j n I Q b .normal s=(∃n',n'<n∧I n' s):=rfl
theorem J0 {j n:Nat} {I:Nat→St→Prop} {Q:Exit→St→Prop} {b:Bx (I,Q)} {s:St}:Ey j n I Q b .ret s=Q .ret s:=rfl
def Frz (j:Nat) (s:St) (k:St→Prop):Prop:=∃id lo m o,s.t j= .sref id lo m∧s.H[id]?=some (some o)∧Imm (.list o.k ((o.es.drop lo).take m))∧k ⟨upd s.t j (.list o.k ((o.es.drop lo).take m)),s.H.set id none⟩
theorem JO {j n i:Nat} {I:Nat→St→Prop} {Q:Exit→St→Prop} {b:Bx (I,Q)} {s:St}:Ey j n I Q b (.exit i) s=Frz j s (Q (.exit i)):=rfl
theorem frz {j:Nat} {s:St} {k:St→Prop} (id n:Nat) (ty:TypeId) (kk:Nat) (es:List (List AV)) (h1:s.t j= .sref id 0 n) (h2:s.H[id]?=some (some ⟨ty,kk,es⟩)) (hn:n=es.length) (hi:Imm (.list kk es)) (h:k ⟨upd s.t j (.list kk es),s.H.set id none⟩):Frz j s k:=by
 refine⟨id,0,n,_,h1,h2,?_,?_⟩
 ·simpa[hn]using hi
 ·simpa[hn]using h
attribute [go_sem ↓] Cx JO J0
theorem E4 {E:Env} {c:Code} {s0:St} {Q:Exit→St→Prop} {b:Bx (c,Q)} (j:Nat) (hW:∀b,¬E.W b) (I:Nat→St→Prop) (n0:Nat) (hc:gD E.N c=true) (h0:I n0 s0)
  (round:∀n s,I n s→awp E c s (Ey j n I Q .mk)):qK E c s0 Q b:=by
 intro a w r
 refine wp_loop_ghost (fun n a w=>∃s,I n s∧Rel E s a w) n0 ⟨_,h0,r⟩ fun n a w hI=>?_
 obtain⟨s,hs,r⟩:=hI
 refine wp_mono (be c s _ hc (round n s hs) a w r) fun e a' w' h'=>?_
 obtain⟨s',h1,h2⟩:=h'
 cases e with
 |normal=>
  obtain⟨n',hlt,hI'⟩:=h1
  exact⟨n',hlt,_,hI',h2⟩
 |exit i=>
  obtain⟨id,lo,m,o,e1,e2,e3,e4⟩:=h1
  exact⟨_,e4,Ae hW j e1 e2 e3 a' w' h2⟩
 |_=>exact⟨s',h1,h2⟩
def ao {α:Type} (enc:α→List AV) (l:List α):List (List AV):=l.map enc
section
variable {α:Type} (enc:α→List AV)
theorem PV:ao enc []=[]:=rfl
theorem ar (l:List α):(ao enc l).length=l.length:=by simp[ao]
theorem aX (l:List α) (a:α):ao enc l++[enc a]=ao enc (l++[a]):=by simp[ao]
theorem On (l m:List α):ao enc l++ao enc m=ao enc (l++m):=by simp[ao]
theorem fL (l:List α) (n:Nat) (h:n=l.length):(ao enc l).take n=ao enc l:=by subst h;rw[←ar enc l,zT]
theorem Kb (l:List α):(ao enc l).take l.length=ao enc l:=fL enc l _ rfl
theorem eW (l:List α) (i:Nat):(ao enc l)[i]?=(l[i]?).map enc:=by simp[ao]
theorem aY {k:Nat} (h:∀a c,c∈enc a→Imm c) (l:List α):Imm (.list k (ao enc l)):=by
 refine .list fun e he c hc=>?_
 simp only[ao,zV]at he
 obtain⟨a,_,rfl⟩:=he
 exact h a c hc
theorem kR (l:List α) (i:Nat) (a:α):(ao enc l).set i (enc a)=ao enc (l.set i a):=by simp[ao,List.map_set]
attribute [go_sem] PV ar Kb eW
end
def bE {α:Type} (p:α→Bool):Nat→List α→Int
 |_,[]=> -1
 |k,a::l=>if p a=true then k else bE p (k+1) l
def fD {α:Type} (p:α→Bool) (l:List α):Int:=bE p 0 l
theorem s6 {α:Type} (p:α→Bool):∀(l:List α) (k:Nat),(bE p k l= -1∧∀a,a∈l→p a=false)∨∃(i:Nat) (a:α),l[i]?=some a∧p a=true∧bE p k l=((k+i:Nat):Int)∧∀(j:Nat) (b:α),j<i→l[j]?=some b→p b=false
 |[],k=> .inl ⟨rfl,by simp⟩
 |a::l,k=>by
  simp only[bE]
  by_cases h:p a=true
  ·rw[if_pos h]
   exact .inr ⟨0,a,rfl,h,rfl,fun j b hj=>by omega⟩
  ·rw[if_neg h]
   have h':p a=false:=by simpa using h
   rcases s6 p l (k+1)with⟨h1,h2⟩|⟨i,b,h1,h2,h3,h4⟩
   ·refine .inl ⟨h1,fun b hb=>?_⟩
    rcases zO.1 hb with rfl|hb
    ·exact h'
    ·exact h2 b hb
   ·refine .inr ⟨i+1,b,by simpa using h1,h2,by rw[h3];congr 1;omega,fun j c hj hc=>?_⟩
    match j,hj,hc with
    |0,hj,hc=>simp at hc;subst hc;exact h'
    |j+1,hj,hc=>exact h4 j c (by omega) (by simpa using hc)
theorem dF {α:Type} (p:α→Bool) (l:List α):(fD p l= -1∧∀a,a∈l→p a=false)∨∃(i:Nat) (a:α),l[i]?=some a∧p a=true∧fD p l=(i:Int)∧∀(j:Nat) (b:α),j<i→l[j]?=some b→p b=false:=by
 have:=s6 p l 0
 simpa[fD]using this
theorem ez {H:ah} {id n:Nat} {ty:TypeId} {k:Nat} {es:List (List AV)} {as0 as':List AV} (hH:H[id]?=some (some ⟨ty,k,es⟩)) (hn:n=es.length) (hi:Imm (.list k es)) (ht:Args H as0 as'):Args H (.sref id 0 n::as0) (.list k es::as'):=by
 have hv:dR H (.sref id 0 n)= .list k es:=by rw[fo,hH,dQ];simp[hn]
 exact .cons (by rw[hv];exact .refl _) (by rw[hv];exact hi) ht
theorem aL {H:ah} {a:AV} {as0 as':List AV} (hi:Imm a) (ht:Args H as0 as'):Args H (a::as0) (a::as'):= .cons (by rw[mV hi];exact .refl _) (by rw[mV hi];exact hi) ht
theorem CH {H:ah} {k:Nat} {as0 as':List AV} (ht:Args H as0 as'):Args H (.nil::as0) (.list k []::as'):= .cons (.nil k) .nil ht
inductive CW (H:ah):List AV→List AV→Prop
 |nil:CW H [] []
 |cons {a a':AV} {as0 as':List AV} (h:Weak (dB H a) a') (hi:Imm (dB H a)) (hi':Imm a') (t:CW H as0 as'):CW H (a::as0) (a'::as')
theorem CW.len {H:ah} {as0 as':List AV} (h:CW H as0 as'):as0.length=as'.length:=by
 induction h with
 |nil=>rfl
 |cons _ _ _ _ ih=>simp[ih]
theorem CW.weak {H:ah} {as0 as':List AV} (h:CW H as0 as'):Weak (.agg (as0.map (dB H))) (.agg as'):=by
 refine .agg (by simpa using h.len) ?_
 induction h with
 |nil=>intro i a b h;simp at h
 |cons h _ _ _ ih=>
  intro i a b ha hb
  match i,ha,hb with
  |0,ha,hb=>simp at ha hb;subst ha;subst hb;exact h
  |i+1,ha,hb=>exact ih i a b (by simpa using ha) (by simpa using hb)
theorem CW.imm {H:ah} {as0 as':List AV} (h:CW H as0 as'):Imm (.agg (as0.map (dB H))):=by
 refine .agg fun c hc=>?_
 induction h with
 |nil=>simp at hc
 |cons _ h _ _ ih=>
  rcases zO.1 hc with rfl|hc
  ·exact h
  ·exact ih hc
theorem CW.imm' {H:ah} {as0 as':List AV} (h:CW H as0 as'):Imm (.agg as'):=by
 refine .agg fun c hc=>?_
 induction h with
 |nil=>simp at hc
 |cons _ _ h _ ih=>
  rcases zO.1 hc with rfl|hc
  ·exact h
  ·exact ih hc
theorem dg {H:ah} {a:AV} {as0 as':List AV} (hi:Imm a) (t:CW H as0 as'):CW H (a::as0) (a::as'):=by
 refine .cons ?_ ?_ hi t
 ·rw[km hi];exact .refl a
 ·rw[km hi];exact hi
theorem xA {H:ah} {v:Value} {as0 as':List AV} (t:CW H as0 as'):CW H (.sc v::as0) (.sc v::as'):=dg .sc t
theorem eS {H:ah} {k:Nat} {as0 as':List AV} (t:CW H as0 as'):CW H (.nil::as0) (.list k []::as'):= .cons (.nil k) .nil (dv.2 (by simp)) t
theorem gP {H:ah} {id n:Nat} {ty:TypeId} {k:Nat} {es:List (List AV)} {as0 as':List AV} (hH:H[id]?=some (some ⟨ty,k,es⟩)) (hn:n=es.length) (hi:Imm (.list k es)) (t:CW H as0 as'):CW H (.sref id 0 n::as0) (.list k es::as'):=by
 have hv:dB H (.sref id 0 n)= .list k es:=by rw[Af,hH,dQ];simp[hn]
 exact .cons (by rw[hv];exact .refl _) (by rw[hv];exact hi) hi t
theorem GY {H:ah} {cs cs' as0 as':List AV} (h:CW H cs cs') (ht:Args H as0 as'):Args H (.agg cs::as0) (.agg cs'::as'):= .cons h.weak h.imm ht
theorem FO {H:ah} {cs cs':List AV} {Q:AV→Prop} {b:Bx Q} (h:CW H cs cs') (hq:Q (.agg cs')):jh H (.agg cs) Q b:=eU h.imm h.imm' h.weak hq
theorem dO {H:ah} {cs cs':List AV} {v:Value} {Q:AV→Prop} {b:Bx Q} (h:CW H cs cs') (hq:Q (.tup [.agg cs',.sc v])):jh H (.tup [.agg cs,.sc v]) Q b:=
 eU (aj h.imm .sc) (aj h.imm' .sc) (p6 h.weak (.refl _)) hq
open Go.RowKit
def F4:Int→Value:=Value.int .i64
def Ir:Bool→Value:=Value.bool
def oK {β:Type} (f:β→Value) (l:List (Int×β)):List (List AV):=l.map fun e=>[.sc (.int .i64 e.1),.sc (f e.2)]
def imK {β:Type} (f:β→Value) (l:List (Int×β)):List (Value×Value):=l.map fun e=>(.int .i64 e.1,f e.2)
def j6 {β:Type}:List (Int×β)→Int→Option β
 |[],_=>none
 |e::l,k=>if e.1=k then some e.2 else j6 l k
def yj {β:Type}:List (Int×β)→Int→β→List (Int×β)
 |[],k,v=>[(k,v)]
 |e::l,k,v=>if e.1=k then (k,v)::l else e::yj l k v
section
variable {β:Type} {f:β→Value}
theorem Gf (l:List (Int×β)):pr (oK f l)=some (l.map fun e=>(.int .i64 e.1,.sc (f e.2))):=by
 induction l with
 |nil=>rfl
 |cons e l ih=>
  simp only[oK,wD,pr]at ih⊢
  rw[ih]
  rfl
theorem IX (l:List (Int×β)):xL (oK f l)=some (imK f l):=by
 induction l with
 |nil=>rfl
 |cons e l ih=>
  simp only[oK,wD,xL]at ih⊢
  rw[ih]
  rfl
theorem Nu (l:List (Int×β)) (n:Int):sq (.int .i64) (.int .i64 n) (l.map fun e=>(.int .i64 e.1,.sc (f e.2)))=some ((j6 l n).map fun b=> .sc (f b)):=by
 induction l with
 |nil=>rfl
 |cons e l ih=>
  simp only[wD,sq,Instr.sameNow,j6,if_true]
  by_cases h:n=e.1
  ·subst h;simp
  ·rw[if_neg (fun q=>h q.symm)]
   have hb:(n==e.1)=false:=by simpa using h
   rw[hb]
   simp only[ih]
theorem M8 (l:List (Int×β)) (n:Int) (b:β):Hz (.int .i64) (.int .i64 n) (.sc (f b)) (oK f l)=some (oK f (yj l n b)):=by
 induction l with
 |nil=>rfl
 |cons e l ih=>
  simp only[oK,wD,Hz,Instr.sameNow,yj,if_true]at ih⊢
  by_cases h:n=e.1
  ·subst h;simp
  ·rw[if_neg (fun q=>h q.symm)]
   have hb:(n==e.1)=false:=by simpa using h
   rw[hb]
   simp only[ih,vI,wD]
end
section
variable {E:Env} {P:Program} {H:ah}
theorem EE {t:TypeId} {ev:Operand→AV} {C:AV→ah→Prop}:AEff E (.makeMap t none) ev H C=OV2 (.mref H.length) (H++[some ⟨0,2,[]⟩]) C .mk:=rfl
theorem ze {t:TypeId} {x k v:Operand} {ev:Operand→AV} {C:AV→ah→Prop}:AEff E (.mapUpdate t x k v) ev H C=OB (jf E.P t H (ev x) (ev k) (ev v)) (fun H'=>C (.sc undef) H') .mk:=by
 simp only[AEff]
 cases jf E.P t H (ev x) (ev k) (ev v)<;>rfl
theorem Fu {t:TypeId} {x k:Operand} {c:Bool} {ev:Operand→AV} {C:AV→ah→Prop}:AEff E (.lookup t x k c) ev H C=OB (iK E.P t H (ev x) (ev k) c) (fun v=>C v H) .mk:=bz rfl
theorem II {x:Operand} {ev:Operand→AV} {C:AV→ah→Prop}:AEff E (.entry x) ev H C=OB (ug H (ev x)) (fun v=>C v H) .mk:=bz rfl
def DY (E:Env) (t:TypeId) (x:AV) (H:ah) (C:AV→ah→Prop) (_:Bx C):Prop:=match x with
 | .imap es=>if Bs E.P t then C (.miter H.length) (H++[some ⟨0,3,[[.junk,.junk,.imap es]]⟩])else False
 |_=>False
theorem IP {t:TypeId} {x:Operand} {ev:Operand→AV} {C:AV→ah→Prop}:AEff E (.range t x) ev H C=DY E t (ev x) H C .mk:=by
 simp only[AEff,DY]
 rfl
theorem Fx {t:TypeId} {es:List (Value×Value)} {C:AV→ah→Prop} {b:Bx C} (h:Bs E.P t=true):DY E t (.imap es) H C b=OV2 (.miter H.length) (H++[some ⟨0,3,[[.junk,.junk,.imap es]]⟩]) C .mk:=by
 simp only[DY,h,if_true,OV2]
def KE (left:List (Value×Value)) (id:Nat) (o:AObj) (H:ah) (C:AV→ah→Prop) (_:Bx C):Prop:=
 (left=[]→C (.tup [.sc (.bool false)]) H)∧∀(i:Nat) (e:Value×Value),left[i]?=some e→C (.tup [.sc (.bool true),.sc e.1,.sc e.2]) (H.set id (some {o with es:=[[.sc e.1,.sc e.2,.imap (left.eraseIdx i)]]}))
def KU (x:AV) (s:Bool) (H:ah) (C:AV→ah→Prop) (b:Bx C):Prop:=match x with
 | .miter id=>match H[id]? with
  |some (some o)=>match o.es with
   |[[_,_,.imap left]]=>s=false∧KE left id o H C b
   |_=>False
  |_=>False
 |_=>False
def OQ (y:Option (Option AObj)) (id:Nat) (H:ah) (C:AV→ah→Prop) (b:Bx C):Prop:=match y with
 |some (some o)=>match o.es with
  |[[_,_,.imap left]]=>KE left id o H C b
  |_=>False
 |_=>False
theorem Lf {x:Operand} {ev:Operand→AV} {C:AV→ah→Prop}:AEff E (.next x false) ev H C=KU (ev x) false H C .mk:=by
 simp only[AEff,KU,KE]
 rfl
theorem Rx {id:Nat} {C:AV→ah→Prop} {b:Bx C}:KU (.miter id) false H C b=OQ H[id]? id H C .mk:=by
 simp only[KU,OQ,true_and]
theorem IC {id ty k:Nat} {a1 a2:AV} {left:List (Value×Value)} {C:AV→ah→Prop} {b:Bx C}:OQ (some (some ⟨ty,k,[[a1,a2,.imap left]]⟩)) id H C b=KE left id ⟨ty,k,[[a1,a2,.imap left]]⟩ H C .mk:=rfl
def zl (P:Program) (t:TypeId) (y:Option (Option AObj)) (k:AV) (c:Bool):Option AV:=match oo P t,k,(match y with|some (some o)=>pr o.es|_=>none)with
 |some (_,d,et),.sc kv,some es=>if n9 d kv then lkR P et c (sq d kv es)else none
 |some (kt,_,et),.agg cs,some es=>match oW P kt with
  |some ks=>match CZ ks cs with
   |some vs=>lkR P et c (uJ ks vs es)
   |none=>none
  |none=>none
 |_,_,_=>none
theorem Jh {t:TypeId} {id:Nat} {k:AV} {c:Bool}:iK P t H (.mref id) k c=zl P t H[id]? k c:=rfl
theorem DE {β:Type} {f:β→Value} {d:β} {et:TypeId} (hz:rV P et=some (.sc (f d))) (l:List (Int×β)) (n:Int) (c:Bool):
  lkR P et c (sq (.int .i64) (.int .i64 n) (l.map fun e=>(.int .i64 e.1,.sc (f e.2))))=some (if c then .tup [.sc (f ((j6 l n).getD d)),.sc (.bool (j6 l n).isSome)]else .sc (f ((j6 l n).getD d))):=by
 rw[Nu]
 unfold lkR
 cases j6 l n with
 |none=>simp[hz]
 |some b=>simp
theorem zx {β:Type} {f:β→Value} {d:β} {t kt et:TypeId} (hm:oo P t=some (kt,.int .i64,et)) (hz:rV P et=some (.sc (f d))) {ty k:Nat} {l:List (Int×β)} {n:Int} {c:Bool}:
  zl P t (some (some ⟨ty,k,oK f l⟩)) (.sc (.int .i64 n)) c=some (if c then .tup [.sc (f ((j6 l n).getD d)),.sc (.bool (j6 l n).isSome)]else .sc (f ((j6 l n).getD d))):=by
 rw[←DE hz l n c]
 simp only[zl,hm,Gf,n9,decide_true,if_true]
theorem Iz {β:Type} {f:β→Value} {d:β} {t kt et:TypeId} (hm:oo P t=some (kt,.int .i64,et)) (hz:rV P et=some (.sc (f d))) {l:List (Int×β)} {n:Int} {c:Bool}:
  iK P t H (.imap (imK f l)) (.sc (.int .i64 n)) c=some (if c then .tup [.sc (f ((j6 l n).getD d)),.sc (.bool (j6 l n).isSome)]else .sc (f ((j6 l n).getD d))):=by
 rw[←DE hz l n c]
 simp only[iK,hm,ents,imK,List.map_map,n9,decide_true,if_true]
 rfl
theorem QS {t:TypeId} (h:NA P t (.sc (.int .i64 0))) {ty k:Nat} {l:List (Int×Int)} {n:Int}:
  zl P t (some (some ⟨ty,k,oK F4 l⟩)) (.sc (.int .i64 n)) false=some (.sc (.int .i64 ((j6 l n).getD 0))):=by
 obtain⟨kt,et,hm,hz⟩:=h
 exact (zx (f:=F4) (d:=0) hm hz).trans rfl
theorem SV {t:TypeId} (h:NA P t (.sc (.int .i64 0))) {l:List (Int×Int)} {n:Int}:
  iK P t H (.imap (imK F4 l)) (.sc (.int .i64 n)) false=some (.sc (.int .i64 ((j6 l n).getD 0))):=by
 obtain⟨kt,et,hm,hz⟩:=h
 exact (Iz (f:=F4) (d:=0) hm hz).trans rfl
theorem Rc {t:TypeId} (h:NA P t (.sc (.bool false))) {ty k:Nat} {l:List (Int×Bool)} {n:Int}:
  zl P t (some (some ⟨ty,k,oK Ir l⟩)) (.sc (.int .i64 n)) false=some (.sc (.bool ((j6 l n).getD false))):=by
 obtain⟨kt,et,hm,hz⟩:=h
 exact (zx (f:=Ir) (d:=false) hm hz).trans rfl
def De (P:Program) (t:TypeId) (id:Nat) (H:ah) (y:Option (Option AObj)) (k v:AV):Option ah:=match oo P t,k,y with
 |some (_,d,_),.sc kv,some (some o)=>if n9 d kv then (Hz d kv v o.es).map fun es=>H.set id (some {o with es:=es})else none
 |some (kt,_,_),.agg cs,some (some o)=>match oW P kt with
  |some ks=>match CZ ks cs with
   |some vs=>(CI ks vs v o.es).map fun es=>H.set id (some {o with es:=es})
   |none=>none
  |none=>none
 |_,_,_=>none
theorem Nx {t:TypeId} {id:Nat} {k v:AV}:jf P t H (.mref id) k v=De P t id H H[id]? k v:=by
 unfold jf De
 cases oo P t with
 |none=>rfl
 |some m=>
  obtain⟨kt,d,et⟩:=m
  cases k<;>first|rfl|skip
  ·simp only
   generalize H[id]?=y
   cases y with
   |none=>simp
   |some y=>cases y with
    |none=>simp
    |some o=>rfl
  ·simp only
   generalize H[id]?=y
   cases y with
   |none=>cases oW P kt with
    |none=>rfl
    |some ks=>simp only;split<;>rfl
   |some y=>cases y with
    |none=>cases oW P kt with
     |none=>rfl
     |some ks=>simp only;split<;>rfl
    |some o=>rfl
theorem DB {β:Type} {f:β→Value} {t kt et:TypeId} (hm:oo P t=some (kt,.int .i64,et)) {id ty k:Nat} {l:List (Int×β)} {n:Int} {b:β}:
  De P t id H (some (some ⟨ty,k,oK f l⟩)) (.sc (.int .i64 n)) (.sc (f b))=some (H.set id (some ⟨ty,k,oK f (yj l n b)⟩)):=by
 simp only[De,hm,n9,decide_true,if_true,M8,vI]
theorem SI {t:TypeId} (h:NA P t (.sc (.int .i64 0))) {id ty k:Nat} {l:List (Int×Int)} {n b:Int}:
  De P t id H (some (some ⟨ty,k,oK F4 l⟩)) (.sc (.int .i64 n)) (.sc (.int .i64 b))=some (H.set id (some ⟨ty,k,oK F4 (yj l n b)⟩)):=by
 obtain⟨kt,et,hm,hz⟩:=h
 exact DB (f:=F4) hm
theorem Tc {t:TypeId} (h:NA P t (.sc (.bool false))) {id ty k:Nat} {l:List (Int×Bool)} {n:Int} {b:Bool}:
  De P t id H (some (some ⟨ty,k,oK Ir l⟩)) (.sc (.int .i64 n)) (.sc (.bool b))=some (H.set id (some ⟨ty,k,oK Ir (yj l n b)⟩)):=by
 obtain⟨kt,et,hm,hz⟩:=h
 exact DB (f:=Ir) hm
def KH (y:Option (Option AObj)):Option AV:=match y with
 |some (some o)=>match o.es with
  |[[.sc k,.sc v,_]]=>some (.tup [.sc k,.sc v])
  |_=>none
 |_=>none
theorem MA {id:Nat}:ug H (.miter id)=KH H[id]?:=rfl
theorem E5 {ty k:Nat} {a b:Value} {c:AV}:KH (some (some ⟨ty,k,[[.sc a,.sc b,c]]⟩))=some (.tup [.sc a,.sc b]):=rfl
def GP (y:Option (Option AObj)):AV:=match y with
 |some (some o)=>match xL o.es with
  |some es=> .imap es
  |none=> .junk
 |_=> .junk
theorem Ll {id:Nat}:dR H (.mref id)=GP H[id]?:=rfl
theorem Jm {id:Nat}:dB H (.mref id)=GP H[id]?:=rfl
theorem Im {id:Nat}:iC H (.mref id)=GP H[id]?:=rfl
theorem Lv {β:Type} {f:β→Value} {ty k:Nat} {l:List (Int×β)}:GP (some (some ⟨ty,k,oK f l⟩))= .imap (imK f l):=by simp only[GP,IX]
end
section
variable {E:Env} {ev:Operand→AV} {H:ah} {k:AV→Prop} {b:Bx k}
theorem JT {t:TypeId} {x y:Operand} {c:Bool}:ARd E (.lookup t x y c) ev H k b=AEff E (.lookup t x y c) ev H fun v _=>k v:=cG rfl
theorem LO {x:Operand}:ARd E (.entry x) ev H k b=AEff E (.entry x) ev H fun v _=>k v:=cG rfl
end
attribute [go_sem ↓] JT LO
attribute [go_sem ↓] EE ze Fu II IP Lf
attribute [go_sem] Fx Rx IC Jh QS Rc SV Nx SI Tc MA E5 Ll Jm Im Lv
section
variable {E:Env}
theorem DN {s:St} {id ty k:Nat} {cs cs':List AV} (h:s.H[id]?=some (some ⟨ty,k,[cs]⟩)) (hk:k≠2) (hi:∀es,cs[2]?≠some (.imap es)) (hl:cs'.length=cs.length) (hw:∀(j:Nat) (a b:AV),cs[j]?=some a→cs'[j]?=some b→Weak a b):Weaker E s ⟨s.t,s.H.set id (some ⟨ty,k,[cs']⟩)⟩:=by
 rintro a w ⟨ρ,ok,g,hx,hd,hs,hr⟩
 have hobj:=g.obj id _ h
 have hlen:=g.len id _ h cs (by simp)
 cases hρ:ρ id with
 |none=>rw[hρ]at hobj;cases hobj
 |some bc=>
  obtain⟨b,cap⟩:=bc
  rw[hρ]at hobj
  obtain⟨g',x'⟩:=g.change (w':=w) h hρ ⟨ty,k,[cs']⟩ rfl (zZ _) (by simpa[hl]using hlen) rfl rfl rfl rfl (fun _ _=>rfl) fun hx'=>by
   rcases hobj with⟨cur,h1,h2,h3,h4,h5⟩|⟨_,hk',_⟩|⟨_,hk',he⟩
   ·refine .inl ⟨cur,h1,h2,h3,h4,fun i e j a he ha=>?_⟩
    match i,he with
    |0,he=>
     simp only[wQ,zB]at he
     subst he
     have hj:=(gsI ha)
     obtain⟨a0,ha0⟩:∃a0,cs[j]?=some a0:=⟨_,zF (by omega)⟩
     obtain⟨c,c1,c2,c3⟩:=h5 0 cs j a0 rfl ha0
     exact⟨c,c1,c2,(c3.ext hx').weak (hw j a0 a ha0 ha)⟩
   ·exact absurd hk' hk
   ·exfalso
    rcases he with⟨he,_⟩|⟨m,clk,seen,ents,c1,c2,_,_,_,_,he,_⟩
    ·simp only[vZ,and_true]at he
     exact hi [] (by rw[he];rfl)
    ·simp only[vZ,and_true]at he
     exact hi _ (by rw[he];rfl)
  exact⟨ρ,ok,g',hx.trans x',hd,hs,fun i=>(hr i).ext x'⟩
theorem He {c:Code} {s:St} {Q:Exit→St→Prop} {b:Bx (c,Q)} (id:Nat) {ty k:Nat} (cs cs':List AV) (h:s.H[id]?=some (some ⟨ty,k,[cs]⟩)) (hk:k≠2) (hi:∀es,cs[2]?≠some (.imap es)) (hl:cs'.length=cs.length) (hw:∀(j:Nat) (a b:AV),cs[j]?=some a→cs'[j]?=some b→Weak a b) (hll:qK E c ⟨s.t,s.H.set id (some ⟨ty,k,[cs']⟩)⟩ Q .mk):qK E c s Q b:=
 AWp.weaken (DN h hk hi hl hw) hll
end
theorem jv {n:Nat} {H l:ah} (h:n≤H.length):Agree (fun id=>decide (id<n)) H (H++l):=fun id hid=>zD (by simp at hid;omega)
theorem yR {a b c:Option AObj} {l l':ah}:Agree (fun id=>decide (id<3)) (a::b::c::l) (a::b::c::l'):=fun id hid=>by
 have:id<3:=by simpa using hid
 rcases id with _|_|_|id
 ·rfl
 ·rfl
 ·rfl
 ·omega
theorem Dj {H H':ah} {X:List Nat} {p q:Nat} {o o':AObj} (hk:Kept X H H') (hp:H[p]?=some (some o)) (hq:H[q]?=some (some o')) (np:p∉X) (nq:q∉X):Agree (fun i=>decide (i=p)||decide (i=q)) H H':=fun i hi=>by
 simp only[wZ,zI]at hi
 rcases hi with rfl|rfl
 ·rw[hp,hk _ _ np hp]
 ·rw[hq,hk _ _ nq hq]
theorem lH {a b:Option AObj} {l l':ah}:Agree (fun id=>decide (id<2)) (a::b::l) (a::b::l'):=fun id hid=>by
 have:id<2:=by simpa using hid
 rcases id with _|_|id
 ·rfl
 ·rfl
 ·omega
theorem So (v:Int):F4 v=Value.int .i64 v:=rfl
theorem SU (v:Bool):Ir v=Value.bool v:=rfl
def U6 (P:Program) (H:ah) (a:Option (Nat×TypeId)) (id i j:Nat) (n:Int):Option AV:=match a with
 |some (len,e)=>if aE P e=true∧0≤n∧n<len then (if (aO H (.ref id i j)).isSome then some (.ref id i (j+n.toNat*ay P e))else none)else none
 |none=>none
theorem S2 {P:Program} {t:TypeId} {H:ah} {id i j:Nat} {n:Int} (h:Go.PA.aT P t=none):bQ P t H (.ref id i j) n=U6 P H (dG P t) id i j n:=by
 simp only[bQ,h,U6]
 cases dG P t<;>rfl
theorem NL {P:Program} {H:ah} {len:Nat} {e:TypeId} {id i j:Nat} {n:Int}:U6 P H (some (len,e)) id i j n=if aE P e=true∧0≤n∧n<len then (if (aO H (.ref id i j)).isSome then some (.ref id i (j+n.toNat*ay P e))else none)else none:=rfl
def NW (P:Program) (cs:List AV) (n:Int) (a:Option (Nat×TypeId)):Option AV:=match a with
 |some (len,e)=>if aE P e=true∧0≤n∧n<len then apart P e cs (n.toNat*ay P e)else none
 |none=>none
theorem QV {P:Program} {t:TypeId} {cs:List AV} {k:IntKind} {n:Int}:HP P t (.agg cs) (.sc (.int k n))=NW P cs n (dG P t):=by
 simp only[HP,NW]
 cases dG P t<;>rfl
theorem JN {P:Program} {cs:List AV} {n:Int} {len:Nat} {e:TypeId}:NW P cs n (some (len,e))=if aE P e=true∧0≤n∧n<len then apart P e cs (n.toNat*ay P e)else none:=rfl
attribute [go_sem] S2 NL QV JN So SU
def arI (xs:List Int):List AV:=xs.map fun x=> .sc (.int .i64 x)
theorem Sz (xs:List Int):(arI xs).length=xs.length:=by simp[arI]
theorem VE (xs:List Int) (j:Nat):((arI xs).drop j).head?=(xs[j]?).map fun x=> .sc (.int .i64 x):=by simp[arI]
theorem GS (xs:List Int) (j:Nat):((arI xs).drop j).length=xs.length-j:=by simp[arI]
theorem SR (xs:List Int) (j:Nat):(arI xs)[j]?=(xs[j]?).map fun x=> .sc (.int .i64 x):=by simp[arI]
theorem Ss (xs:List Int):(arI xs).all AV.cellish=true:=by simp[arI,AV.cellish,Value.oneCell']
theorem L5 (H:ah) (xs:List Int):(arI xs).map (dB H)=arI xs:=by simp[arI,dB]
attribute [go_sem] Sz VE GS SR Ss L5
section
variable {E:Env} {H:ah}
end
end Go.PA
namespace Go.Proofs.YtfbogibogkbhmaaGreatDoor
open Go.PA
open Go.RowKit
abbrev iv (n:Int):AV:= .sc (.int .i64 n)
abbrev bv (b:Bool):AV:= .sc (.bool b)
def eE (n:Int):List AV:=[iv n]
theorem Fw (n:Int) (c:AV) (h:c∈eE n):Imm c:=by simp[eE]at h;subst h;exact .sc
structure TSub where
 ID:Int
 Balance:Int
deriving DecidableEq,Inhabited
def TSub.cells (x:TSub):List AV:=[iv x.ID,iv x.Balance]
theorem TSub.len (x:TSub):x.cells.length=2:=by simp[TSub.cells]
theorem TSub.imm (x:TSub) (c:AV) (h:c∈x.cells):Imm c:=by
 simp only[TSub.cells,zO,wC,or_false]at h
 rcases h with rfl|rfl
 ·exact .sc
 ·exact .sc
structure TEntry where
 Number:Int
 Day:Int
 From:Int
 To:Int
 Amount:Int
 Ref:Int
deriving DecidableEq,Inhabited
def TEntry.cells (x:TEntry):List AV:=[iv x.Number,iv x.Day,iv x.From,iv x.To,iv x.Amount,iv x.Ref]
theorem TEntry.len (x:TEntry):x.cells.length=6:=by simp[TEntry.cells]
theorem TEntry.imm (x:TEntry) (c:AV) (h:c∈x.cells):Imm c:=by
 simp only[TEntry.cells,zO,wC,or_false]at h
 rcases h with rfl|rfl|rfl|rfl|rfl|rfl
 ·exact .sc
 ·exact .sc
 ·exact .sc
 ·exact .sc
 ·exact .sc
 ·exact .sc
structure TAccount where
 Credit:Int
 Subs:List TSub
 Entries:List TEntry
deriving DecidableEq,Inhabited
def TAccount.cells (x:TAccount):List AV:=[iv x.Credit,.list 2 (ao TSub.cells x.Subs),.list 6 (ao TEntry.cells x.Entries)]
theorem TAccount.imm (x:TAccount) (c:AV) (h:c∈x.cells):Imm c:=by
 simp only[TAccount.cells,zO,wC,or_false]at h
 rcases h with rfl|rfl|rfl
 ·exact .sc
 ·exact aY _ (TSub.imm) _
 ·exact aY _ (TEntry.imm) _
structure TPayment where
 Warrant:Int
 Payee:Int
 Amount:Int
 Due:Int
 Sub:Int
deriving DecidableEq,Inhabited
def TPayment.cells (x:TPayment):List AV:=[iv x.Warrant,iv x.Payee,iv x.Amount,iv x.Due,iv x.Sub]
theorem TPayment.len (x:TPayment):x.cells.length=5:=by simp[TPayment.cells]
theorem TPayment.imm (x:TPayment) (c:AV) (h:c∈x.cells):Imm c:=by
 simp only[TPayment.cells,zO,wC,or_false]at h
 rcases h with rfl|rfl|rfl|rfl|rfl
 ·exact .sc
 ·exact .sc
 ·exact .sc
 ·exact .sc
 ·exact .sc
structure TBatch where
 Number:Int
 Day:Int
 Payments:List TPayment
deriving DecidableEq,Inhabited
def TBatch.cells (x:TBatch):List AV:=[iv x.Number,iv x.Day,.list 5 (ao TPayment.cells x.Payments)]
theorem TBatch.imm (x:TBatch) (c:AV) (h:c∈x.cells):Imm c:=by
 simp only[TBatch.cells,zO,wC,or_false]at h
 rcases h with rfl|rfl|rfl
 ·exact .sc
 ·exact .sc
 ·exact aY _ (TPayment.imm) _
structure TQueue where
 Waiting:List TPayment
 Known:List Int
 Batches:List TBatch
deriving DecidableEq,Inhabited
def TQueue.cells (x:TQueue):List AV:=[.list 5 (ao TPayment.cells x.Waiting),.list 1 (ao eE x.Known),.list 3 (ao TBatch.cells x.Batches)]
theorem TQueue.imm (x:TQueue) (c:AV) (h:c∈x.cells):Imm c:=by
 simp only[TQueue.cells,zO,wC,or_false]at h
 rcases h with rfl|rfl|rfl
 ·exact aY _ (TPayment.imm) _
 ·exact aY _ (Fw) _
 ·exact aY _ (TBatch.imm) _
structure TItem where
 Payment:TPayment
 State:Int
 Attempts:Int
deriving DecidableEq,Inhabited
def TItem.cells (x:TItem):List AV:=x.Payment.cells++[iv x.State,iv x.Attempts]
theorem TItem.imm (x:TItem) (c:AV) (h:c∈x.cells):Imm c:=by
 simp only[TItem.cells,wA,zO,wC,or_false]at h
 rcases h with (h)|(rfl|rfl)
 ·exact TPayment.imm _ c h
 ·exact .sc
 ·exact .sc
structure TDesk where
 Account:TAccount
 Queue:TQueue
 Items:List TItem
deriving DecidableEq,Inhabited
def TDesk.cells (x:TDesk):List AV:=x.Account.cells++x.Queue.cells++[.list 7 (ao TItem.cells x.Items)]
theorem TDesk.imm (x:TDesk) (c:AV) (h:c∈x.cells):Imm c:=by
 simp only[TDesk.cells,wA,zO,wC,or_false]at h
 rcases h with ((h)|(h))|(rfl)
 ·exact TAccount.imm _ c h
 ·exact TQueue.imm _ c h
 ·exact aY _ (TItem.imm) _
structure TSecurity where
 ID:Int
 Unit:Int
 Issued:Int
 Maturity:Int
 Rate:Int
 Every:Int
 Indexed:Bool
deriving DecidableEq,Inhabited
def TSecurity.cells (x:TSecurity):List AV:=[iv x.ID,iv x.Unit,iv x.Issued,iv x.Maturity,iv x.Rate,iv x.Every,bv x.Indexed]
theorem TSecurity.len (x:TSecurity):x.cells.length=7:=by simp[TSecurity.cells]
theorem TSecurity.imm (x:TSecurity) (c:AV) (h:c∈x.cells):Imm c:=by
 simp only[TSecurity.cells,zO,wC,or_false]at h
 rcases h with rfl|rfl|rfl|rfl|rfl|rfl|rfl
 ·exact .sc
 ·exact .sc
 ·exact .sc
 ·exact .sc
 ·exact .sc
 ·exact .sc
 ·exact .sc
structure THolding where
 Security:Int
 Holder:Int
 Amount:Int
deriving DecidableEq,Inhabited
def THolding.cells (x:THolding):List AV:=[iv x.Security,iv x.Holder,iv x.Amount]
theorem THolding.imm (x:THolding) (c:AV) (h:c∈x.cells):Imm c:=by
 simp only[THolding.cells,zO,wC,or_false]at h
 rcases h with rfl|rfl|rfl
 ·exact .sc
 ·exact .sc
 ·exact .sc
structure TMove where
 Number:Int
 Day:Int
 Kind:Int
 Security:Int
 From:Int
 To:Int
 Amount:Int
deriving DecidableEq,Inhabited
def TMove.cells (x:TMove):List AV:=[iv x.Number,iv x.Day,iv x.Kind,iv x.Security,iv x.From,iv x.To,iv x.Amount]
theorem TMove.imm (x:TMove) (c:AV) (h:c∈x.cells):Imm c:=by
 simp only[TMove.cells,zO,wC,or_false]at h
 rcases h with rfl|rfl|rfl|rfl|rfl|rfl|rfl
 ·exact .sc
 ·exact .sc
 ·exact .sc
 ·exact .sc
 ·exact .sc
 ·exact .sc
 ·exact .sc
structure TRegister where
 Securities:List TSecurity
 Holdings:List THolding
 Moves:List TMove
deriving DecidableEq,Inhabited
def TRegister.cells (x:TRegister):List AV:=[.list 7 (ao TSecurity.cells x.Securities),.list 3 (ao THolding.cells x.Holdings),.list 7 (ao TMove.cells x.Moves)]
theorem TRegister.imm (x:TRegister) (c:AV) (h:c∈x.cells):Imm c:=by
 simp only[TRegister.cells,zO,wC,or_false]at h
 rcases h with rfl|rfl|rfl
 ·exact aY _ (TSecurity.imm) _
 ·exact aY _ (THolding.imm) _
 ·exact aY _ (TMove.imm) _
structure TBand where
 Low:Int
 High:Int
 Lot:Int
 MaxRaise:Int
 MaxPlace:Int
deriving DecidableEq,Inhabited
def TBand.cells (x:TBand):List AV:=[iv x.Low,iv x.High,iv x.Lot,iv x.MaxRaise,iv x.MaxPlace]
structure TPosition where
 Day:Int
 Amount:Int
deriving DecidableEq,Inhabited
def TPosition.cells (x:TPosition):List AV:=[iv x.Day,iv x.Amount]
structure TFlow where
 Day:Int
 Amount:Int
 Kind:Int
 Ref:Int
deriving DecidableEq,Inhabited
def TFlow.cells (x:TFlow):List AV:=[iv x.Day,iv x.Amount,iv x.Kind,iv x.Ref]
theorem TFlow.len (x:TFlow):x.cells.length=4:=by simp[TFlow.cells]
theorem TFlow.imm (x:TFlow) (c:AV) (h:c∈x.cells):Imm c:=by
 simp only[TFlow.cells,zO,wC,or_false]at h
 rcases h with rfl|rfl|rfl|rfl
 ·exact .sc
 ·exact .sc
 ·exact .sc
 ·exact .sc
theorem TFlow.cel (x:TFlow):x.cells.all AV.cellish=true:=by simp[TFlow.cells,go_sem]
structure TTax where
 Code:ByteArray
 Payer:Int
 Base:Int
 Num:Int
 Den:Int
 First:Int
 Every:Int
 Times:Int
deriving DecidableEq,Inhabited
def TTax.cells (x:TTax):List AV:=[.sc (.string x.Code),iv x.Payer,iv x.Base,iv x.Num,iv x.Den,iv x.First,iv x.Every,iv x.Times]
theorem TTax.len (x:TTax):x.cells.length=8:=by simp[TTax.cells]
theorem TTax.imm (x:TTax) (c:AV) (h:c∈x.cells):Imm c:=by
 simp only[TTax.cells,zO,wC,or_false]at h
 rcases h with rfl|rfl|rfl|rfl|rfl|rfl|rfl|rfl
 ·exact .sc
 ·exact .sc
 ·exact .sc
 ·exact .sc
 ·exact .sc
 ·exact .sc
 ·exact .sc
 ·exact .sc
structure TPlan where
 Day:Int
 Raise:Int
 Place:Int
deriving DecidableEq,Inhabited
def TPlan.cells (x:TPlan):List AV:=[iv x.Day,iv x.Raise,iv x.Place]
structure TClaim where
 ID:Int
 Payer:Int
 Amount:Int
 Open:Int
 Day:Int
 Code:ByteArray
deriving DecidableEq,Inhabited
def TClaim.cells (x:TClaim):List AV:=[iv x.ID,iv x.Payer,iv x.Amount,iv x.Open,iv x.Day,.sc (.string x.Code)]
structure TIncome where
 Number:Int
 Day:Int
 Payer:Int
 Amount:Int
 Claim:Int
deriving DecidableEq,Inhabited
def TIncome.cells (x:TIncome):List AV:=[iv x.Number,iv x.Day,iv x.Payer,iv x.Amount,iv x.Claim]
structure TMatch where
 Income:Int
 Claim:Int
 Amount:Int
deriving DecidableEq,Inhabited
def TMatch.cells (x:TMatch):List AV:=[iv x.Income,iv x.Claim,iv x.Amount]
structure TCash where
 Claims:List TClaim
 Incomes:List TIncome
 Matches:List TMatch
 Loose:List Int
deriving DecidableEq,Inhabited
def TCash.cells (x:TCash):List AV:=[.list 6 (ao TClaim.cells x.Claims),.list 5 (ao TIncome.cells x.Incomes),.list 3 (ao TMatch.cells x.Matches),.list 1 (ao eE x.Loose)]
structure TPosting where
 Number:Int
 Day:Int
 Entity:Int
 Debit:Int
 Credit:Int
 Amount:Int
 Partner:Int
 Ref:Int
deriving DecidableEq,Inhabited
def TPosting.cells (x:TPosting):List AV:=[iv x.Number,iv x.Day,iv x.Entity,iv x.Debit,iv x.Credit,iv x.Amount,iv x.Partner,iv x.Ref]
structure TLedger where
 Postings:List TPosting
deriving DecidableEq,Inhabited
def TLedger.cells (x:TLedger):List AV:=[.list 8 (ao TPosting.cells x.Postings)]
structure TState where
 Desk:TDesk
 Cash:TCash
 Register:TRegister
 Ledger:TLedger
deriving DecidableEq,Inhabited
def TState.cells (x:TState):List AV:=x.Desk.cells++x.Cash.cells++x.Register.cells++x.Ledger.cells
structure TDeed where
 Kind:Int
 Day:Int
 Sub:Int
 Who:Int
 Ref:Int
 Amount:Int
 Due:Int
deriving DecidableEq,Inhabited
def TDeed.cells (x:TDeed):List AV:=[iv x.Kind,iv x.Day,iv x.Sub,iv x.Who,iv x.Ref,iv x.Amount,iv x.Due]
structure TDue where
 Day:Int
 Security:Int
 Holder:Int
 Kind:Int
 Amount:Int
deriving DecidableEq,Inhabited
def TDue.cells (x:TDue):List AV:=[iv x.Day,iv x.Security,iv x.Holder,iv x.Kind,iv x.Amount]
theorem TDue.imm (x:TDue) (c:AV) (h:c∈x.cells):Imm c:=by
 simp only[TDue.cells,zO,wC,or_false]at h
 rcases h with rfl|rfl|rfl|rfl|rfl
 ·exact .sc
 ·exact .sc
 ·exact .sc
 ·exact .sc
 ·exact .sc
structure TFinding where
 Layer:Int
 Number:Int
deriving DecidableEq,Inhabited
def TFinding.cells (x:TFinding):List AV:=[iv x.Layer,iv x.Number]
open Go.PA
@[go_sem] theorem abS:ay Tryz.prog 3=1:=by kernel_rfl
@[go_sem] theorem abM:aE Tryz.prog 3=true:=by kernel_rfl
@[go_sem] theorem abU:cF Tryz.prog 3=false:=by kernel_rfl
@[go_sem] theorem abQ:cv Tryz.prog 3=some [.sc (.int .i64 0)]:=by kernel_rfl
@[go_sem] theorem abT:cI Tryz.prog 3=8:=by kernel_rfl
@[go_sem] theorem abR:ay Tryz.prog 4=1:=by kernel_rfl
@[go_sem] theorem abO:ay Tryz.prog 9=1:=by kernel_rfl
@[go_sem] theorem abP:aE Tryz.prog 9=true:=by kernel_rfl
@[go_sem] theorem abN:cF Tryz.prog 9=false:=by kernel_rfl
@[go_sem] theorem abV:cv Tryz.prog 9=some [.sc (.string ByteArray.empty)]:=by kernel_rfl
@[go_sem] theorem aaD:ay Tryz.prog 22=1:=by kernel_rfl
@[go_sem] theorem aa1:aE Tryz.prog 22=true:=by kernel_rfl
@[go_sem] theorem aaz:cF Tryz.prog 22=false:=by kernel_rfl
@[go_sem] theorem aak:Go.PA.aT Tryz.prog 22=some 3:=by kernel_rfl
@[go_sem] theorem aaR:ay Tryz.prog 25=1:=by kernel_rfl
@[go_sem] theorem aaY:aE Tryz.prog 25=true:=by kernel_rfl
@[go_sem] theorem aaf:cF Tryz.prog 25=false:=by kernel_rfl
@[go_sem] theorem Wi:Go.PA.aT Tryz.prog 25=some 117:=by kernel_rfl
@[go_sem] theorem aa6:ay Tryz.prog 26=1:=by kernel_rfl
@[go_sem] theorem aap:aE Tryz.prog 26=true:=by kernel_rfl
@[go_sem] theorem abG:cF Tryz.prog 26=false:=by kernel_rfl
@[go_sem] theorem abi:Go.PA.aT Tryz.prog 26=some 79:=by kernel_rfl
@[go_sem] theorem abn:ay Tryz.prog 28=3:=by kernel_rfl
@[go_sem] theorem aaE:aE Tryz.prog 28=true:=by kernel_rfl
@[go_sem] theorem abB:cF Tryz.prog 28=true:=by kernel_rfl
@[go_sem] theorem Yn:au Tryz.prog 28 0=some (0,3):=by kernel_rfl
@[go_sem] theorem Ya:au Tryz.prog 28 1=some (1,25):=by kernel_rfl
@[go_sem] theorem X7:au Tryz.prog 28 2=some (2,26):=by kernel_rfl
@[go_sem] theorem aat:dG Tryz.prog 28=none:=by kernel_rfl
@[go_sem] theorem abm:aR Tryz.prog 28=true:=by kernel_rfl
@[go_sem] theorem abq:cv Tryz.prog 28=some [.sc (.int .i64 0),.nil,.nil]:=by kernel_rfl
@[go_sem] theorem abx:ay Tryz.prog 29=1:=by kernel_rfl
@[go_sem] theorem aa9:aE Tryz.prog 29=true:=by kernel_rfl
@[go_sem] theorem aae:cF Tryz.prog 29=false:=by kernel_rfl
@[go_sem] theorem abk:Go.PA.aT Tryz.prog 29=some 111:=by kernel_rfl
@[go_sem] theorem aa0:ay Tryz.prog 30=1:=by kernel_rfl
@[go_sem] theorem aam:aE Tryz.prog 30=true:=by kernel_rfl
@[go_sem] theorem Z7:cF Tryz.prog 30=false:=by kernel_rfl
@[go_sem] theorem aaH:Go.PA.aT Tryz.prog 30=some 161:=by kernel_rfl
@[go_sem] theorem aaW:ay Tryz.prog 32=3:=by kernel_rfl
@[go_sem] theorem abK:aE Tryz.prog 32=true:=by kernel_rfl
@[go_sem] theorem aaw:cF Tryz.prog 32=true:=by kernel_rfl
@[go_sem] theorem Ye:au Tryz.prog 32 0=some (0,29):=by kernel_rfl
@[go_sem] theorem XU:au Tryz.prog 32 1=some (1,22):=by kernel_rfl
@[go_sem] theorem X9:au Tryz.prog 32 2=some (2,30):=by kernel_rfl
@[go_sem] theorem aag:aR Tryz.prog 32=true:=by kernel_rfl
@[go_sem] theorem aaS:cv Tryz.prog 32=some [.nil,.nil,.nil]:=by kernel_rfl
@[go_sem] theorem aaa:ay Tryz.prog 33=1:=by kernel_rfl
@[go_sem] theorem abo:aE Tryz.prog 33=true:=by kernel_rfl
@[go_sem] theorem abb:cF Tryz.prog 33=false:=by kernel_rfl
@[go_sem] theorem aai:Go.PA.aT Tryz.prog 33=some 195:=by kernel_rfl
@[go_sem] theorem aan:ay Tryz.prog 35=7:=by kernel_rfl
@[go_sem] theorem aa8:aE Tryz.prog 35=true:=by kernel_rfl
@[go_sem] theorem Z6:cF Tryz.prog 35=true:=by kernel_rfl
@[go_sem] theorem Yk:au Tryz.prog 35 0=some (0,28):=by kernel_rfl
@[go_sem] theorem XR:au Tryz.prog 35 1=some (3,32):=by kernel_rfl
@[go_sem] theorem XN:au Tryz.prog 35 2=some (6,33):=by kernel_rfl
@[go_sem] theorem abp:dG Tryz.prog 35=none:=by kernel_rfl
@[go_sem] theorem aby:aR Tryz.prog 35=true:=by kernel_rfl
@[go_sem] theorem abe:cv Tryz.prog 35=some [.sc (.int .i64 0),.nil,.nil,.nil,.nil,.nil,.nil]:=by kernel_rfl
@[go_sem] theorem aba:ay Tryz.prog 38=1:=by kernel_rfl
@[go_sem] theorem abr:aE Tryz.prog 38=true:=by kernel_rfl
@[go_sem] theorem aad:cF Tryz.prog 38=false:=by kernel_rfl
@[go_sem] theorem abs:Go.PA.aT Tryz.prog 38=some 86:=by kernel_rfl
@[go_sem] theorem aaK:ay Tryz.prog 39=1:=by kernel_rfl
@[go_sem] theorem aaI:aE Tryz.prog 39=true:=by kernel_rfl
@[go_sem] theorem abz:cF Tryz.prog 39=false:=by kernel_rfl
@[go_sem] theorem WS:Go.PA.aT Tryz.prog 39=some 177:=by kernel_rfl
@[go_sem] theorem aaX:ay Tryz.prog 40=1:=by kernel_rfl
@[go_sem] theorem abE:aE Tryz.prog 40=true:=by kernel_rfl
@[go_sem] theorem aaN:cF Tryz.prog 40=false:=by kernel_rfl
@[go_sem] theorem aaP:Go.PA.aT Tryz.prog 40=some 235:=by kernel_rfl
@[go_sem] theorem aab:ay Tryz.prog 42=3:=by kernel_rfl
@[go_sem] theorem abL:aE Tryz.prog 42=true:=by kernel_rfl
@[go_sem] theorem Z8:cF Tryz.prog 42=true:=by kernel_rfl
@[go_sem] theorem XK:au Tryz.prog 42 0=some (0,38):=by kernel_rfl
@[go_sem] theorem X6:au Tryz.prog 42 1=some (1,39):=by kernel_rfl
@[go_sem] theorem XY:au Tryz.prog 42 2=some (2,40):=by kernel_rfl
@[go_sem] theorem aaF:aR Tryz.prog 42=true:=by kernel_rfl
@[go_sem] theorem abt:cv Tryz.prog 42=some [.nil,.nil,.nil]:=by kernel_rfl
@[go_sem] theorem aaj:ay Tryz.prog 45=1:=by kernel_rfl
@[go_sem] theorem aaJ:aE Tryz.prog 45=true:=by kernel_rfl
@[go_sem] theorem abC:cF Tryz.prog 45=false:=by kernel_rfl
@[go_sem] theorem aal:Go.PA.aT Tryz.prog 45=some 97:=by kernel_rfl
@[go_sem] theorem aac:cv Tryz.prog 45=some [.nil]:=by kernel_rfl
@[go_sem] theorem aav:Go.PA.aT Tryz.prog 50=some 103:=by kernel_rfl
@[go_sem] theorem abh:Go.PA.aT Tryz.prog 54=some 45:=by kernel_rfl
@[go_sem] theorem aa4:aE Tryz.prog 55=true:=by kernel_rfl
@[go_sem] theorem aah:cF Tryz.prog 55=false:=by kernel_rfl
@[go_sem] theorem abI:Go.PA.aT Tryz.prog 55=some 66:=by kernel_rfl
@[go_sem] theorem aaB:ay Tryz.prog 61=5:=by kernel_rfl
@[go_sem] theorem aaM:aE Tryz.prog 61=true:=by kernel_rfl
@[go_sem] theorem abd:cF Tryz.prog 61=true:=by kernel_rfl
@[go_sem] theorem X0:au Tryz.prog 61 0=some (0,3):=by kernel_rfl
@[go_sem] theorem Yh:au Tryz.prog 61 1=some (1,3):=by kernel_rfl
@[go_sem] theorem XQ:au Tryz.prog 61 2=some (2,3):=by kernel_rfl
@[go_sem] theorem Yd:au Tryz.prog 61 3=some (3,3):=by kernel_rfl
@[go_sem] theorem Yj:au Tryz.prog 61 4=some (4,3):=by kernel_rfl
@[go_sem] theorem aaT:dG Tryz.prog 61=none:=by kernel_rfl
@[go_sem] theorem abD:aR Tryz.prog 61=true:=by kernel_rfl
@[go_sem] theorem abg:cv Tryz.prog 61=some [.sc (.int .i64 0),.sc (.int .i64 0),.sc (.int .i64 0),.sc (.int .i64 0),.sc (.int .i64 0)]:=by kernel_rfl
@[go_sem] theorem aaG:Go.PA.aT Tryz.prog 62=some 120:=by kernel_rfl
@[go_sem] theorem aaU:ay Tryz.prog 66=2:=by kernel_rfl
@[go_sem] theorem aa2:aE Tryz.prog 66=true:=by kernel_rfl
@[go_sem] theorem aax:cF Tryz.prog 66=true:=by kernel_rfl
@[go_sem] theorem XZ:au Tryz.prog 66 0=some (0,3):=by kernel_rfl
@[go_sem] theorem Yf:au Tryz.prog 66 1=some (1,3):=by kernel_rfl
@[go_sem] theorem aaQ:dG Tryz.prog 66=none:=by kernel_rfl
@[go_sem] theorem abl:aR Tryz.prog 66=true:=by kernel_rfl
@[go_sem] theorem aaZ:cv Tryz.prog 66=some [.sc (.int .i64 0),.sc (.int .i64 0)]:=by kernel_rfl
@[go_sem] theorem aa3:cI Tryz.prog 66=16:=by kernel_rfl
@[go_sem] theorem XM:au Tryz.prog 74 0=some (0,22):=by kernel_rfl
@[go_sem] theorem aay:dG Tryz.prog 74=none:=by kernel_rfl
@[go_sem] theorem aas:aR Tryz.prog 74=true:=by kernel_rfl
@[go_sem] theorem abu:cv Tryz.prog 74=some [.nil,.sc (.int .i64 0)]:=by kernel_rfl
@[go_sem] theorem aar:ay Tryz.prog 79=6:=by kernel_rfl
@[go_sem] theorem aa7:aE Tryz.prog 79=true:=by kernel_rfl
@[go_sem] theorem aaC:cF Tryz.prog 79=true:=by kernel_rfl
@[go_sem] theorem XS:au Tryz.prog 79 0=some (0,3):=by kernel_rfl
@[go_sem] theorem XV:au Tryz.prog 79 1=some (1,3):=by kernel_rfl
@[go_sem] theorem X5:au Tryz.prog 79 2=some (2,3):=by kernel_rfl
@[go_sem] theorem Ym:au Tryz.prog 79 3=some (3,3):=by kernel_rfl
@[go_sem] theorem XX:au Tryz.prog 79 4=some (4,3):=by kernel_rfl
@[go_sem] theorem Yb:au Tryz.prog 79 5=some (5,3):=by kernel_rfl
@[go_sem] theorem abF:dG Tryz.prog 79=none:=by kernel_rfl
@[go_sem] theorem abj:aR Tryz.prog 79=true:=by kernel_rfl
@[go_sem] theorem aau:cv Tryz.prog 79=some [.sc (.int .i64 0),.sc (.int .i64 0),.sc (.int .i64 0),.sc (.int .i64 0),.sc (.int .i64 0),.sc (.int .i64 0)]:=by kernel_rfl
@[go_sem] theorem aaA:cI Tryz.prog 79=48:=by kernel_rfl
@[go_sem] theorem abf:ay Tryz.prog 86=7:=by kernel_rfl
@[go_sem] theorem Z9:aE Tryz.prog 86=true:=by kernel_rfl
@[go_sem] theorem abc:cF Tryz.prog 86=true:=by kernel_rfl
@[go_sem] theorem XL:au Tryz.prog 86 0=some (0,3):=by kernel_rfl
@[go_sem] theorem Yc:au Tryz.prog 86 1=some (1,3):=by kernel_rfl
@[go_sem] theorem XW:au Tryz.prog 86 2=some (2,3):=by kernel_rfl
@[go_sem] theorem XP:au Tryz.prog 86 3=some (3,3):=by kernel_rfl
@[go_sem] theorem XO:au Tryz.prog 86 4=some (4,3):=by kernel_rfl
@[go_sem] theorem X4:au Tryz.prog 86 5=some (5,3):=by kernel_rfl
@[go_sem] theorem Yl:au Tryz.prog 86 6=some (6,4):=by kernel_rfl
@[go_sem] theorem abw:dG Tryz.prog 86=none:=by kernel_rfl
@[go_sem] theorem abJ:aR Tryz.prog 86=true:=by kernel_rfl
@[go_sem] theorem abv:cv Tryz.prog 86=some [.sc (.int .i64 0),.sc (.int .i64 0),.sc (.int .i64 0),.sc (.int .i64 0),.sc (.int .i64 0),.sc (.int .i64 0),.sc (.bool false)]:=by kernel_rfl
@[go_sem] theorem aa5:cI Tryz.prog 86=56:=by kernel_rfl
@[go_sem] theorem aaO:ay Tryz.prog 97=4:=by kernel_rfl
@[go_sem] theorem aaV:aE Tryz.prog 97=true:=by kernel_rfl
@[go_sem] theorem aaL:cF Tryz.prog 97=true:=by kernel_rfl
@[go_sem] theorem Yg:au Tryz.prog 97 0=some (0,3):=by kernel_rfl
@[go_sem] theorem X8:au Tryz.prog 97 1=some (1,3):=by kernel_rfl
@[go_sem] theorem Yi:au Tryz.prog 97 2=some (2,3):=by kernel_rfl
@[go_sem] theorem XT:au Tryz.prog 97 3=some (3,3):=by kernel_rfl
@[go_sem] theorem aao:dG Tryz.prog 97=none:=by kernel_rfl
@[go_sem] theorem abA:aR Tryz.prog 97=true:=by kernel_rfl
@[go_sem] theorem aaq:cv Tryz.prog 97=some [.sc (.int .i64 0),.sc (.int .i64 0),.sc (.int .i64 0),.sc (.int .i64 0)]:=by kernel_rfl
@[go_sem] theorem abH:cI Tryz.prog 97=32:=by kernel_rfl
@[go_sem] theorem Y6:ay Tryz.prog 103=8:=by kernel_rfl
@[go_sem] theorem Zu:aE Tryz.prog 103=true:=by kernel_rfl
@[go_sem] theorem Y7:cF Tryz.prog 103=true:=by kernel_rfl
@[go_sem] theorem Xj:au Tryz.prog 103 0=some (0,9):=by kernel_rfl
@[go_sem] theorem Xt:au Tryz.prog 103 1=some (1,3):=by kernel_rfl
@[go_sem] theorem Wr:au Tryz.prog 103 2=some (2,3):=by kernel_rfl
@[go_sem] theorem Wg:au Tryz.prog 103 3=some (3,3):=by kernel_rfl
@[go_sem] theorem WW:au Tryz.prog 103 4=some (4,3):=by kernel_rfl
@[go_sem] theorem W5:au Tryz.prog 103 5=some (5,3):=by kernel_rfl
@[go_sem] theorem WT:au Tryz.prog 103 6=some (6,3):=by kernel_rfl
@[go_sem] theorem W6:au Tryz.prog 103 7=some (7,3):=by kernel_rfl
@[go_sem] theorem YA:dG Tryz.prog 103=none:=by kernel_rfl
@[go_sem] theorem YH:aR Tryz.prog 103=true:=by kernel_rfl
@[go_sem] theorem Zf:cv Tryz.prog 103=some [.sc (.string ByteArray.empty),.sc (.int .i64 0),.sc (.int .i64 0),.sc (.int .i64 0),.sc (.int .i64 0),.sc (.int .i64 0),.sc (.int .i64 0),.sc (.int .i64 0)]:=by kernel_rfl
@[go_sem] theorem Y8:cI Tryz.prog 103=72:=by kernel_rfl
@[go_sem] theorem Zj:ay Tryz.prog 111=5:=by kernel_rfl
@[go_sem] theorem Zs:aE Tryz.prog 111=true:=by kernel_rfl
@[go_sem] theorem YC:cF Tryz.prog 111=true:=by kernel_rfl
@[go_sem] theorem Xn:au Tryz.prog 111 0=some (0,3):=by kernel_rfl
@[go_sem] theorem XA:au Tryz.prog 111 1=some (1,3):=by kernel_rfl
@[go_sem] theorem Ws:au Tryz.prog 111 2=some (2,3):=by kernel_rfl
@[go_sem] theorem XJ:au Tryz.prog 111 3=some (3,3):=by kernel_rfl
@[go_sem] theorem WR:au Tryz.prog 111 4=some (4,3):=by kernel_rfl
@[go_sem] theorem YZ:dG Tryz.prog 111=none:=by kernel_rfl
@[go_sem] theorem YL:aR Tryz.prog 111=true:=by kernel_rfl
@[go_sem] theorem Yv:lO Tryz.prog 111=some [.int,.int,.int,.int,.int]:=by kernel_rfl
@[go_sem] theorem ZV:cv Tryz.prog 111=some [.sc (.int .i64 0),.sc (.int .i64 0),.sc (.int .i64 0),.sc (.int .i64 0),.sc (.int .i64 0)]:=by kernel_rfl
@[go_sem] theorem YB:cI Tryz.prog 111=40:=by kernel_rfl
@[go_sem] theorem UM:ay Tryz.prog 117=2:=by kernel_rfl
@[go_sem] theorem Uk:aE Tryz.prog 117=true:=by kernel_rfl
@[go_sem] theorem ZD:cF Tryz.prog 117=true:=by kernel_rfl
@[go_sem] theorem WF:au Tryz.prog 117 0=some (0,3):=by kernel_rfl
@[go_sem] theorem Xp:au Tryz.prog 117 1=some (1,3):=by kernel_rfl
@[go_sem] theorem YX:dG Tryz.prog 117=none:=by kernel_rfl
@[go_sem] theorem Zq:aR Tryz.prog 117=true:=by kernel_rfl
@[go_sem] theorem ZI:lO Tryz.prog 117=some [.int,.int]:=by kernel_rfl
@[go_sem] theorem ZO:cv Tryz.prog 117=some [.sc (.int .i64 0),.sc (.int .i64 0)]:=by kernel_rfl
@[go_sem] theorem YI:cI Tryz.prog 117=16:=by kernel_rfl
@[go_sem] theorem Y9:ay Tryz.prog 120=3:=by kernel_rfl
@[go_sem] theorem Zz:aE Tryz.prog 120=true:=by kernel_rfl
@[go_sem] theorem ZC:cF Tryz.prog 120=true:=by kernel_rfl
@[go_sem] theorem Wb:au Tryz.prog 120 0=some (0,3):=by kernel_rfl
@[go_sem] theorem Xb:au Tryz.prog 120 1=some (1,3):=by kernel_rfl
@[go_sem] theorem Xl:au Tryz.prog 120 2=some (2,3):=by kernel_rfl
@[go_sem] theorem Yy:dG Tryz.prog 120=none:=by kernel_rfl
@[go_sem] theorem YW:aR Tryz.prog 120=true:=by kernel_rfl
@[go_sem] theorem Yu:cv Tryz.prog 120=some [.sc (.int .i64 0),.sc (.int .i64 0),.sc (.int .i64 0)]:=by kernel_rfl
@[go_sem] theorem Yx:cI Tryz.prog 120=24:=by kernel_rfl
@[go_sem] theorem YM:ay Tryz.prog 161=3:=by kernel_rfl
@[go_sem] theorem ZW:aE Tryz.prog 161=true:=by kernel_rfl
@[go_sem] theorem YF:cF Tryz.prog 161=true:=by kernel_rfl
@[go_sem] theorem Wd:au Tryz.prog 161 0=some (0,3):=by kernel_rfl
@[go_sem] theorem WC:au Tryz.prog 161 1=some (1,3):=by kernel_rfl
@[go_sem] theorem Wz:au Tryz.prog 161 2=some (2,29):=by kernel_rfl
@[go_sem] theorem YG:dG Tryz.prog 161=none:=by kernel_rfl
@[go_sem] theorem Yq:aR Tryz.prog 161=true:=by kernel_rfl
@[go_sem] theorem ZB:cv Tryz.prog 161=some [.sc (.int .i64 0),.sc (.int .i64 0),.nil]:=by kernel_rfl
@[go_sem] theorem ZM:cI Tryz.prog 161=40:=by kernel_rfl
@[go_sem] theorem Uh:ay Tryz.prog 177=3:=by kernel_rfl
@[go_sem] theorem VI:aE Tryz.prog 177=true:=by kernel_rfl
@[go_sem] theorem YQ:cF Tryz.prog 177=true:=by kernel_rfl
@[go_sem] theorem V5:au Tryz.prog 177 0=some (0,3):=by kernel_rfl
@[go_sem] theorem XH:au Tryz.prog 177 1=some (1,3):=by kernel_rfl
@[go_sem] theorem WJ:au Tryz.prog 177 2=some (2,3):=by kernel_rfl
@[go_sem] theorem Zb:dG Tryz.prog 177=none:=by kernel_rfl
@[go_sem] theorem Z0:aR Tryz.prog 177=true:=by kernel_rfl
@[go_sem] theorem ZK:lO Tryz.prog 177=some [.int,.int,.int]:=by kernel_rfl
@[go_sem] theorem Zy:cv Tryz.prog 177=some [.sc (.int .i64 0),.sc (.int .i64 0),.sc (.int .i64 0)]:=by kernel_rfl
@[go_sem] theorem Zl:cI Tryz.prog 177=24:=by kernel_rfl
@[go_sem] theorem Xi:au Tryz.prog 179 0=some (0,38):=by kernel_rfl
@[go_sem] theorem Xc:au Tryz.prog 179 1=some (1,39):=by kernel_rfl
@[go_sem] theorem WP:au Tryz.prog 179 2=some (2,3):=by kernel_rfl
@[go_sem] theorem WD:au Tryz.prog 179 3=some (3,3):=by kernel_rfl
@[go_sem] theorem Zw:dG Tryz.prog 179=none:=by kernel_rfl
@[go_sem] theorem Zp:aR Tryz.prog 179=true:=by kernel_rfl
@[go_sem] theorem Zm:cv Tryz.prog 179=some [.nil,.nil,.sc (.int .i64 0),.sc (.int .i64 0)]:=by kernel_rfl
@[go_sem] theorem ZJ:ay Tryz.prog 180=1:=by kernel_rfl
@[go_sem] theorem Yt:aE Tryz.prog 180=true:=by kernel_rfl
@[go_sem] theorem ZZ:cF Tryz.prog 180=false:=by kernel_rfl
@[go_sem] theorem YE:Go.PA.aT Tryz.prog 180=some 183:=by kernel_rfl
@[go_sem] theorem YD:cv Tryz.prog 180=some [.nil]:=by kernel_rfl
@[go_sem] theorem Zc:ay Tryz.prog 183=5:=by kernel_rfl
@[go_sem] theorem Y5:aE Tryz.prog 183=true:=by kernel_rfl
@[go_sem] theorem Yo:cF Tryz.prog 183=true:=by kernel_rfl
@[go_sem] theorem Xo:au Tryz.prog 183 0=some (0,3):=by kernel_rfl
@[go_sem] theorem Xs:au Tryz.prog 183 1=some (1,3):=by kernel_rfl
@[go_sem] theorem VM:au Tryz.prog 183 2=some (2,3):=by kernel_rfl
@[go_sem] theorem VT:au Tryz.prog 183 3=some (3,3):=by kernel_rfl
@[go_sem] theorem Wx:au Tryz.prog 183 4=some (4,3):=by kernel_rfl
@[go_sem] theorem Z4:dG Tryz.prog 183=none:=by kernel_rfl
@[go_sem] theorem YN:aR Tryz.prog 183=true:=by kernel_rfl
@[go_sem] theorem Z5:cv Tryz.prog 183=some [.sc (.int .i64 0),.sc (.int .i64 0),.sc (.int .i64 0),.sc (.int .i64 0),.sc (.int .i64 0)]:=by kernel_rfl
@[go_sem] theorem Z2:cI Tryz.prog 183=40:=by kernel_rfl
@[go_sem] theorem Y4:ay Tryz.prog 195=7:=by kernel_rfl
@[go_sem] theorem ZS:aE Tryz.prog 195=true:=by kernel_rfl
@[go_sem] theorem ZX:cF Tryz.prog 195=true:=by kernel_rfl
@[go_sem] theorem XE:au Tryz.prog 195 0=some (0,111):=by kernel_rfl
@[go_sem] theorem XG:au Tryz.prog 195 1=some (5,3):=by kernel_rfl
@[go_sem] theorem VR:au Tryz.prog 195 2=some (6,3):=by kernel_rfl
@[go_sem] theorem YY:dG Tryz.prog 195=none:=by kernel_rfl
@[go_sem] theorem Yw:aR Tryz.prog 195=true:=by kernel_rfl
@[go_sem] theorem Z3:cv Tryz.prog 195=some [.sc (.int .i64 0),.sc (.int .i64 0),.sc (.int .i64 0),.sc (.int .i64 0),.sc (.int .i64 0),.sc (.int .i64 0),.sc (.int .i64 0)]:=by kernel_rfl
@[go_sem] theorem Zd:cI Tryz.prog 195=56:=by kernel_rfl
@[go_sem] theorem WN:au Tryz.prog 205 0=some (0,3):=by kernel_rfl
@[go_sem] theorem Wh:au Tryz.prog 205 1=some (1,3):=by kernel_rfl
@[go_sem] theorem Wt:au Tryz.prog 205 2=some (2,3):=by kernel_rfl
@[go_sem] theorem W9:au Tryz.prog 205 3=some (3,25):=by kernel_rfl
@[go_sem] theorem Yp:dG Tryz.prog 205=none:=by kernel_rfl
@[go_sem] theorem Ze:aR Tryz.prog 205=true:=by kernel_rfl
@[go_sem] theorem Zn:cv Tryz.prog 205=some [.sc (.int .i64 0),.sc (.int .i64 0),.sc (.int .i64 0),.nil]:=by kernel_rfl
@[go_sem] theorem ZP:ay Tryz.prog 235=7:=by kernel_rfl
@[go_sem] theorem ZF:aE Tryz.prog 235=true:=by kernel_rfl
@[go_sem] theorem Y0:cF Tryz.prog 235=true:=by kernel_rfl
@[go_sem] theorem XD:au Tryz.prog 235 0=some (0,3):=by kernel_rfl
@[go_sem] theorem W7:au Tryz.prog 235 1=some (1,3):=by kernel_rfl
@[go_sem] theorem Xr:au Tryz.prog 235 2=some (2,3):=by kernel_rfl
@[go_sem] theorem WA:au Tryz.prog 235 3=some (3,3):=by kernel_rfl
@[go_sem] theorem WZ:au Tryz.prog 235 4=some (4,3):=by kernel_rfl
@[go_sem] theorem VN:au Tryz.prog 235 5=some (5,3):=by kernel_rfl
@[go_sem] theorem VO:au Tryz.prog 235 6=some (6,3):=by kernel_rfl
@[go_sem] theorem YT:dG Tryz.prog 235=none:=by kernel_rfl
@[go_sem] theorem YV:aR Tryz.prog 235=true:=by kernel_rfl
@[go_sem] theorem ZY:cv Tryz.prog 235=some [.sc (.int .i64 0),.sc (.int .i64 0),.sc (.int .i64 0),.sc (.int .i64 0),.sc (.int .i64 0),.sc (.int .i64 0),.sc (.int .i64 0)]:=by kernel_rfl
@[go_sem] theorem ZQ:cI Tryz.prog 235=56:=by kernel_rfl
@[go_sem] theorem ZL:Go.PA.aT Tryz.prog 323=some 9:=by kernel_rfl
@[go_sem] theorem UX:oo Tryz.prog 326=some (3,.int .i64,4):=by kernel_rfl
@[go_sem] theorem YP:NA Tryz.prog 326 (.sc (.bool false)):=⟨_,_,UX,by kernel_rfl⟩
@[go_sem] theorem Xy:au Tryz.prog 331 0=some (0,3):=by kernel_rfl
@[go_sem] theorem XB:au Tryz.prog 331 1=some (1,3):=by kernel_rfl
@[go_sem] theorem V2:au Tryz.prog 331 2=some (2,3):=by kernel_rfl
@[go_sem] theorem Yr:dG Tryz.prog 331=none:=by kernel_rfl
@[go_sem] theorem ZE:aR Tryz.prog 331=true:=by kernel_rfl
@[go_sem] theorem Zk:lO Tryz.prog 331=some [.int,.int,.int]:=by kernel_rfl
@[go_sem] theorem YU:cv Tryz.prog 331=some [.sc (.int .i64 0),.sc (.int .i64 0),.sc (.int .i64 0)]:=by kernel_rfl
@[go_sem] theorem Z1:ay Tryz.prog 357=2:=by kernel_rfl
@[go_sem] theorem YO:aE Tryz.prog 357=true:=by kernel_rfl
@[go_sem] theorem Zx:cF Tryz.prog 357=true:=by kernel_rfl
@[go_sem] theorem V7:au Tryz.prog 357 0=some (0,3):=by kernel_rfl
@[go_sem] theorem VP:au Tryz.prog 357 1=some (1,3):=by kernel_rfl
@[go_sem] theorem ZG:dG Tryz.prog 357=none:=by kernel_rfl
@[go_sem] theorem YK:aR Tryz.prog 357=true:=by kernel_rfl
@[go_sem] theorem Zg:cv Tryz.prog 357=some [.sc (.int .i64 0),.sc (.int .i64 0)]:=by kernel_rfl
@[go_sem] theorem Zi:aa Tryz.prog 4=true:=by kernel_rfl
@[go_sem] theorem ZU:aa Tryz.prog 5=true:=by kernel_rfl
@[go_sem] theorem YS:aa Tryz.prog 6=true:=by kernel_rfl
@[go_sem] theorem ZR:aa Tryz.prog 7=true:=by kernel_rfl
@[go_sem] theorem Zh:aa Tryz.prog 8=true:=by kernel_rfl
@[go_sem] theorem Za:aa Tryz.prog 9=true:=by kernel_rfl
@[go_sem] theorem VX:aa Tryz.prog 10=true:=by kernel_rfl
@[go_sem] theorem Xz:aa Tryz.prog 11=true:=by kernel_rfl
@[go_sem] theorem Xx:aa Tryz.prog 12=true:=by kernel_rfl
@[go_sem] theorem Xq:aa Tryz.prog 13=true:=by kernel_rfl
@[go_sem] theorem i7:aa Tryz.prog 14=true:=by kernel_rfl
@[go_sem] theorem TI:aa Tryz.prog 15=true:=by kernel_rfl
@[go_sem] theorem KD:aa Tryz.prog 16=true:=by kernel_rfl
@[go_sem] theorem Tw:aa Tryz.prog 17=true:=by kernel_rfl
@[go_sem] theorem V4:aa Tryz.prog 18=true:=by kernel_rfl
@[go_sem] theorem V6:aa Tryz.prog 19=true:=by kernel_rfl
@[go_sem] theorem V0:aa Tryz.prog 20=true:=by kernel_rfl
@[go_sem] theorem V8:aa Tryz.prog 21=true:=by kernel_rfl
@[go_sem] theorem kH:aa Tryz.prog 22=true:=by kernel_rfl
@[go_sem] theorem V3:aa Tryz.prog 23=true:=by kernel_rfl
@[go_sem] theorem lK:aa Tryz.prog 24=true:=by kernel_rfl
@[go_sem] theorem Wn:aa Tryz.prog 25=true:=by kernel_rfl
@[go_sem] theorem WH:aa Tryz.prog 26=true:=by kernel_rfl
@[go_sem] theorem Xv:aa Tryz.prog 27=true:=by kernel_rfl
@[go_sem] theorem Wy:aa Tryz.prog 28=true:=by kernel_rfl
@[go_sem] theorem N0:aa Tryz.prog 29=true:=by kernel_rfl
@[go_sem] theorem WM:aa Tryz.prog 30=true:=by kernel_rfl
@[go_sem] theorem OZ:aa Tryz.prog 31=true:=by kernel_rfl
@[go_sem] theorem Wk:aa Tryz.prog 32=true:=by kernel_rfl
@[go_sem] theorem Xg:aa Tryz.prog 33=true:=by kernel_rfl
@[go_sem] theorem Xa:aa Tryz.prog 34=true:=by kernel_rfl
@[go_sem] theorem Kw:aa Tryz.prog 35=true:=by kernel_rfl
@[go_sem] theorem rj:aa Tryz.prog 36=true:=by kernel_rfl
@[go_sem] theorem WB:aa Tryz.prog 37=true:=by kernel_rfl
@[go_sem] theorem Wj:aa Tryz.prog 38=true:=by kernel_rfl
@[go_sem] theorem Xf:aa Tryz.prog 39=true:=by kernel_rfl
@[go_sem] theorem CL:aa Tryz.prog 40=true:=by kernel_rfl
@[go_sem] theorem VU:aa Tryz.prog 41=true:=by kernel_rfl
@[go_sem] theorem Tx:aa Tryz.prog 43=true:=by kernel_rfl
@[go_sem] theorem TL:aa Tryz.prog 44=true:=by kernel_rfl
@[go_sem] theorem VQ:aa Tryz.prog 45=true:=by kernel_rfl
@[go_sem] theorem HC:aa Tryz.prog 46=true:=by kernel_rfl
@[go_sem] theorem XF:aa Tryz.prog 47=true:=by kernel_rfl
@[go_sem] theorem KC:aa Tryz.prog 48=true:=by kernel_rfl
@[go_sem] theorem s8:aa Tryz.prog 49=true:=by kernel_rfl
@[go_sem] theorem PY:aa Tryz.prog 50=true:=by kernel_rfl
@[go_sem] theorem TG:aa Tryz.prog 51=true:=by kernel_rfl
@[go_sem] theorem Tz:aa Tryz.prog 52=true:=by kernel_rfl
@[go_sem] theorem TQ:aa Tryz.prog 53=true:=by kernel_rfl
@[go_sem] theorem QT:aa Tryz.prog 54=true:=by kernel_rfl
@[go_sem] theorem Ty:aa Tryz.prog 59=true:=by kernel_rfl
@[go_sem] theorem Xm:aa Tryz.prog 60=true:=by kernel_rfl
@[go_sem] theorem NV:aa Tryz.prog 61=true:=by kernel_rfl
@[go_sem] theorem TD:aa Tryz.prog 62=true:=by kernel_rfl
@[go_sem] theorem Xk:aa Tryz.prog 63=true:=by kernel_rfl
@[go_sem] theorem WG:aa Tryz.prog 64=true:=by kernel_rfl
@[go_sem] theorem OS:aa Tryz.prog 65=true:=by kernel_rfl
@[go_sem] theorem TU:aa Tryz.prog 66=true:=by kernel_rfl
@[go_sem] theorem Ww:aa Tryz.prog 67=true:=by kernel_rfl
@[go_sem] theorem TP:aa Tryz.prog 68=true:=by kernel_rfl
@[go_sem] theorem TN:aa Tryz.prog 70=true:=by kernel_rfl
@[go_sem] theorem Px:aa Tryz.prog 71=true:=by kernel_rfl
@[go_sem] theorem WV:aa Tryz.prog 72=true:=by kernel_rfl
@[go_sem] theorem XI:aa Tryz.prog 73=true:=by kernel_rfl
@[go_sem] theorem WK:aa Tryz.prog 74=true:=by kernel_rfl
@[go_sem] theorem Qc:aa Tryz.prog 75=true:=by kernel_rfl
@[go_sem] theorem Pr:aa Tryz.prog 76=true:=by kernel_rfl
@[go_sem] theorem KR:aa Tryz.prog 77=true:=by kernel_rfl
@[go_sem] theorem Wq:aa Tryz.prog 78=true:=by kernel_rfl
@[go_sem] theorem Wf:aa Tryz.prog 79=true:=by kernel_rfl
@[go_sem] theorem Wc:aa Tryz.prog 80=true:=by kernel_rfl
@[go_sem] theorem WY:aa Tryz.prog 81=true:=by kernel_rfl
@[go_sem] theorem Xu:aa Tryz.prog 82=true:=by kernel_rfl
@[go_sem] theorem WU:aa Tryz.prog 83=true:=by kernel_rfl
@[go_sem] theorem WX:aa Tryz.prog 84=true:=by kernel_rfl
@[go_sem] theorem Wp:aa Tryz.prog 85=true:=by kernel_rfl
@[go_sem] theorem Tt:aa Tryz.prog 86=true:=by kernel_rfl
@[go_sem] theorem dS:aa Tryz.prog 87=true:=by kernel_rfl
@[go_sem] theorem TO:aa Tryz.prog 88=true:=by kernel_rfl
@[go_sem] theorem WL:aa Tryz.prog 89=true:=by kernel_rfl
@[go_sem] theorem Wv:aa Tryz.prog 90=true:=by kernel_rfl
@[go_sem] theorem WQ:aa Tryz.prog 91=true:=by kernel_rfl
@[go_sem] theorem Ks:aa Tryz.prog 92=true:=by kernel_rfl
@[go_sem] theorem V1:aa Tryz.prog 93=true:=by kernel_rfl
@[go_sem] theorem W8:aa Tryz.prog 94=true:=by kernel_rfl
@[go_sem] theorem VY:aa Tryz.prog 95=true:=by kernel_rfl
@[go_sem] theorem TT:aa Tryz.prog 96=true:=by kernel_rfl
@[go_sem] theorem PW:aa Tryz.prog 97=true:=by kernel_rfl
@[go_sem] theorem We:aa Tryz.prog 98=true:=by kernel_rfl
@[go_sem] theorem RK:aa Tryz.prog 100=true:=by kernel_rfl
@[go_sem] theorem U4:aa Tryz.prog 101=true:=by kernel_rfl
@[go_sem] theorem TV:aa Tryz.prog 102=true:=by kernel_rfl
@[go_sem] theorem I4:aa Tryz.prog 103=true:=by kernel_rfl
@[go_sem] theorem Uf:aa Tryz.prog 104=true:=by kernel_rfl
@[go_sem] theorem TW:aa Tryz.prog 105=true:=by kernel_rfl
@[go_sem] theorem UR:aa Tryz.prog 106=true:=by kernel_rfl
@[go_sem] theorem US:aa Tryz.prog 107=true:=by kernel_rfl
@[go_sem] theorem Ub:aa Tryz.prog 109=true:=by kernel_rfl
@[go_sem] theorem Vz:aa Tryz.prog 110=true:=by kernel_rfl
@[go_sem] theorem Vi:aa Tryz.prog 111=true:=by kernel_rfl
@[go_sem] theorem Vs:aa Tryz.prog 112=true:=by kernel_rfl
@[go_sem] theorem Vx:aa Tryz.prog 113=true:=by kernel_rfl
@[go_sem] theorem T9:aa Tryz.prog 114=true:=by kernel_rfl
@[go_sem] theorem TX:aa Tryz.prog 115=true:=by kernel_rfl
@[go_sem] theorem jZ:aa Tryz.prog 116=true:=by kernel_rfl
@[go_sem] theorem Uu:aa Tryz.prog 117=true:=by kernel_rfl
@[go_sem] theorem UY:aa Tryz.prog 118=true:=by kernel_rfl
@[go_sem] theorem UK:aa Tryz.prog 119=true:=by kernel_rfl
@[go_sem] theorem UG:aa Tryz.prog 120=true:=by kernel_rfl
@[go_sem] theorem Vp:aa Tryz.prog 121=true:=by kernel_rfl
@[go_sem] theorem Va:aa Tryz.prog 122=true:=by kernel_rfl
@[go_sem] theorem AA:aa Tryz.prog 123=true:=by kernel_rfl
@[go_sem] theorem Qd:aa Tryz.prog 132=true:=by kernel_rfl
@[go_sem] theorem Vk:aa Tryz.prog 133=true:=by kernel_rfl
@[go_sem] theorem Vf:aa Tryz.prog 134=true:=by kernel_rfl
@[go_sem] theorem Ud:aa Tryz.prog 135=true:=by kernel_rfl
@[go_sem] theorem VD:aa Tryz.prog 136=true:=by kernel_rfl
@[go_sem] theorem HZ:aa Tryz.prog 137=true:=by kernel_rfl
@[go_sem] theorem QY:aa Tryz.prog 138=true:=by kernel_rfl
@[go_sem] theorem Pz:aa Tryz.prog 139=true:=by kernel_rfl
@[go_sem] theorem Oz:aa Tryz.prog 140=true:=by kernel_rfl
@[go_sem] theorem PF:aa Tryz.prog 141=true:=by kernel_rfl
@[go_sem] theorem T6:aa Tryz.prog 142=true:=by kernel_rfl
@[go_sem] theorem Jv:aa Tryz.prog 143=true:=by kernel_rfl
@[go_sem] theorem TZ:aa Tryz.prog 144=true:=by kernel_rfl
@[go_sem] theorem Pj:aa Tryz.prog 145=true:=by kernel_rfl
@[go_sem] theorem Kf:aa Tryz.prog 146=true:=by kernel_rfl
@[go_sem] theorem Ux:aa Tryz.prog 147=true:=by kernel_rfl
@[go_sem] theorem T5:aa Tryz.prog 148=true:=by kernel_rfl
@[go_sem] theorem Pc:aa Tryz.prog 149=true:=by kernel_rfl
@[go_sem] theorem AB:aa Tryz.prog 150=true:=by kernel_rfl
@[go_sem] theorem EF:aa Tryz.prog 151=true:=by kernel_rfl
@[go_sem] theorem Un:aa Tryz.prog 152=true:=by kernel_rfl
@[go_sem] theorem Uq:aa Tryz.prog 153=true:=by kernel_rfl
@[go_sem] theorem UO:aa Tryz.prog 154=true:=by kernel_rfl
@[go_sem] theorem U1:aa Tryz.prog 155=true:=by kernel_rfl
@[go_sem] theorem Il:aa Tryz.prog 156=true:=by kernel_rfl
@[go_sem] theorem kS:aa Tryz.prog 157=true:=by kernel_rfl
@[go_sem] theorem UF:aa Tryz.prog 158=true:=by kernel_rfl
@[go_sem] theorem VL:aa Tryz.prog 159=true:=by kernel_rfl
@[go_sem] theorem UB:aa Tryz.prog 160=true:=by kernel_rfl
@[go_sem] theorem Uv:aa Tryz.prog 161=true:=by kernel_rfl
@[go_sem] theorem Vn:aa Tryz.prog 162=true:=by kernel_rfl
@[go_sem] theorem O5:aa Tryz.prog 164=true:=by kernel_rfl
@[go_sem] theorem Vb:aa Tryz.prog 165=true:=by kernel_rfl
@[go_sem] theorem Vv:aa Tryz.prog 166=true:=by kernel_rfl
@[go_sem] theorem Vu:aa Tryz.prog 167=true:=by kernel_rfl
@[go_sem] theorem TY:aa Tryz.prog 168=true:=by kernel_rfl
@[go_sem] theorem Up:aa Tryz.prog 169=true:=by kernel_rfl
@[go_sem] theorem Qz:aa Tryz.prog 170=true:=by kernel_rfl
@[go_sem] theorem U9:aa Tryz.prog 171=true:=by kernel_rfl
@[go_sem] theorem Ow:aa Tryz.prog 172=true:=by kernel_rfl
@[go_sem] theorem QA:aa Tryz.prog 173=true:=by kernel_rfl
@[go_sem] theorem T3:aa Tryz.prog 174=true:=by kernel_rfl
@[go_sem] theorem Ul:aa Tryz.prog 175=true:=by kernel_rfl
@[go_sem] theorem Vg:aa Tryz.prog 176=true:=by kernel_rfl
@[go_sem] theorem Oh:aa Tryz.prog 177=true:=by kernel_rfl
@[go_sem] theorem Vh:aa Tryz.prog 178=true:=by kernel_rfl
@[go_sem] theorem Uw:aa Tryz.prog 179=true:=by kernel_rfl
@[go_sem] theorem AQ:aa Tryz.prog 180=true:=by kernel_rfl
@[go_sem] theorem VC:aa Tryz.prog 181=true:=by kernel_rfl
@[go_sem] theorem Vd:aa Tryz.prog 182=true:=by kernel_rfl
@[go_sem] theorem gU:aa Tryz.prog 217=true:=by kernel_rfl
@[go_sem] theorem Uc:aa Tryz.prog 218=true:=by kernel_rfl
@[go_sem] theorem tY:aa Tryz.prog 219=true:=by kernel_rfl
@[go_sem] theorem D7:aa Tryz.prog 220=true:=by kernel_rfl
@[go_sem] theorem Vc:aa Tryz.prog 221=true:=by kernel_rfl
@[go_sem] theorem Pb:aa Tryz.prog 222=true:=by kernel_rfl
@[go_sem] theorem EL:aa Tryz.prog 223=true:=by kernel_rfl
@[go_sem] theorem Ib:aa Tryz.prog 224=true:=by kernel_rfl
@[go_sem] theorem PI:aa Tryz.prog 225=true:=by kernel_rfl
@[go_sem] theorem Ut:aa Tryz.prog 226=true:=by kernel_rfl
@[go_sem] theorem J9:aa Tryz.prog 227=true:=by kernel_rfl
@[go_sem] theorem Ax:aa Tryz.prog 228=true:=by kernel_rfl
@[go_sem] theorem QF:aa Tryz.prog 229=true:=by kernel_rfl
@[go_sem] theorem Rz:aa Tryz.prog 230=true:=by kernel_rfl
@[go_sem] theorem Rl:aa Tryz.prog 231=true:=by kernel_rfl
@[go_sem] theorem Qa:aa Tryz.prog 232=true:=by kernel_rfl
@[go_sem] theorem pI:aa Tryz.prog 233=true:=by kernel_rfl
@[go_sem] theorem Ih:aa Tryz.prog 234=true:=by kernel_rfl
@[go_sem] theorem Qo:aa Tryz.prog 235=true:=by kernel_rfl
@[go_sem] theorem UJ:aa Tryz.prog 236=true:=by kernel_rfl
@[go_sem] theorem Ua:aa Tryz.prog 237=true:=by kernel_rfl
@[go_sem] theorem Vr:aa Tryz.prog 238=true:=by kernel_rfl
@[go_sem] theorem Ri:aa Tryz.prog 242=true:=by kernel_rfl
@[go_sem] theorem QE:aa Tryz.prog 243=true:=by kernel_rfl
@[go_sem] theorem UE:aa Tryz.prog 244=true:=by kernel_rfl
@[go_sem] theorem rS:aa Tryz.prog 245=true:=by kernel_rfl
@[go_sem] theorem Pn:aa Tryz.prog 246=true:=by kernel_rfl
@[go_sem] theorem Um:aa Tryz.prog 247=true:=by kernel_rfl
@[go_sem] theorem Vq:aa Tryz.prog 248=true:=by kernel_rfl
@[go_sem] theorem QJ:aa Tryz.prog 249=true:=by kernel_rfl
@[go_sem] theorem Ui:aa Tryz.prog 250=true:=by kernel_rfl
@[go_sem] theorem Vo:aa Tryz.prog 251=true:=by kernel_rfl
@[go_sem] theorem Uj:aa Tryz.prog 252=true:=by kernel_rfl
@[go_sem] theorem Ur:aa Tryz.prog 253=true:=by kernel_rfl
@[go_sem] theorem Po:aa Tryz.prog 254=true:=by kernel_rfl
@[go_sem] theorem Rf:aa Tryz.prog 255=true:=by kernel_rfl
@[go_sem] theorem Jf:aa Tryz.prog 281=true:=by kernel_rfl
@[go_sem] theorem Ol:aa Tryz.prog 282=true:=by kernel_rfl
@[go_sem] theorem gZ:aa Tryz.prog 283=true:=by kernel_rfl
@[go_sem] theorem Bl:aa Tryz.prog 284=true:=by kernel_rfl
@[go_sem] theorem PG:aa Tryz.prog 285=true:=by kernel_rfl
@[go_sem] theorem Em:aa Tryz.prog 286=true:=by kernel_rfl
@[go_sem] theorem Ug:aa Tryz.prog 287=true:=by kernel_rfl
@[go_sem] theorem Us:aa Tryz.prog 288=true:=by kernel_rfl
@[go_sem] theorem O1:aa Tryz.prog 289=true:=by kernel_rfl
@[go_sem] theorem Eb:aa Tryz.prog 290=true:=by kernel_rfl
@[go_sem] theorem T4:aa Tryz.prog 291=true:=by kernel_rfl
@[go_sem] theorem UP:aa Tryz.prog 292=true:=by kernel_rfl
@[go_sem] theorem Qu:aa Tryz.prog 293=true:=by kernel_rfl
@[go_sem] theorem Ik:aa Tryz.prog 294=true:=by kernel_rfl
@[go_sem] theorem U2:aa Tryz.prog 299=true:=by kernel_rfl
@[go_sem] theorem OC:aa Tryz.prog 300=true:=by kernel_rfl
@[go_sem] theorem T7:aa Tryz.prog 325=true:=by kernel_rfl
@[go_sem] theorem UI:aa Tryz.prog 326=true:=by kernel_rfl
@[go_sem] theorem UQ:aa Tryz.prog 327=true:=by kernel_rfl
@[go_sem] theorem UN:aa Tryz.prog 328=true:=by kernel_rfl
@[go_sem] theorem UC:aa Tryz.prog 340=true:=by kernel_rfl
open Go.RowKit
open Go.PA
abbrev sp (p:Nat):AV:= .sc (.pointer (some ⟨p,0,none⟩))
set_option maxHeartbeats 400000 in
theorem WE (p:Nat) (A:Option Addr) (len c:Nat) (at_:Int) (n:Int) (w:World)
  (h0:w.cell? ⟨p,0,none⟩=some (.slice A len c)) (h1:w.cell? ⟨p,1,none⟩=some (.int .i64 at_))
  (hge:(len:Int)≤at_):
  Calls Tryz.prog 22 #[.pointer (some ⟨p,0,none⟩),.int .i64 n] w fun e w'=>e= .returned (.int .i64 0)∧∃k,w'=w.drewN k:=by
 have hge':decide ((len:Int)≤at_)=true:=by simpa using hge
 go_enter Tryz.func22,Tryz.ntmps22
 go_wp2
 go_quiet (fail)
 go_wp2
 go_ret
 exact⟨rfl,_,rfl⟩
set_option maxHeartbeats 400000 in
theorem VZ (p:Nat) (A:Option Addr) (len c:Nat) (at_:Int) (n:Int) (w:World)
  (h0:w.cell? ⟨p,0,none⟩=some (.slice A len c)) (h1:w.cell? ⟨p,1,none⟩=some (.int .i64 at_))
  (hlt:at_<len) (hn:n<1):
  Calls Tryz.prog 22 #[.pointer (some ⟨p,0,none⟩),.int .i64 n] w fun e w'=>e= .returned (.int .i64 0)∧∃k,w'=w.drewN k:=by
 have hge':decide ((len:Int)≤at_)=false:=by simpa using hlt
 have hn':decide (n<1)=true:=by simpa using hn
 go_enter Tryz.func22,Tryz.ntmps22
 go_wp2
 go_quiet (fail)
 go_wp2
 go_ret
 exact⟨rfl,_,rfl⟩
set_option maxHeartbeats 400000 in
theorem Zo (p:Nat) (ad:Addr) (len c:Nat) (at_:Nat) (n x:Int) (w:World)
  (h0:w.cell? ⟨p,0,none⟩=some (.slice (some ad) len c)) (h1:w.cell? ⟨p,1,none⟩=some (.int .i64 at_))
  (hf:w.frozen? ⟨p,1,none⟩=false)
  (hx:w.cell? (ad.add at_)=some (.int .i64 x)) (hp:ad.block≠p)
  (hlen:len≤900)
  (hlt:(at_:Int)<len) (hn:1≤n) (hn2:n≤4000000000000000000):
  Calls Tryz.prog 22 #[.pointer (some ⟨p,0,none⟩),.int .i64 n] w fun e w'=>e= .returned (.int .i64 ((x.tmod n+n)%n))∧∃j k,w'=((w.drewN j).setCell ⟨p,1,none⟩ (.int .i64 (at_+1))).drewN k:=by
 have hge':decide (len≤at_)=false:=by simp;omega
 have hn':decide (n<1)=false:=by simpa using hn
 have hw1:IntKind.i64.wrap (at_:Int)=at_:=by rw[IntKind.wrap_i64];omega
 have hx':∀nq:Nat,((w.drewN nq).setCell ⟨p,1,none⟩ (.int .i64 (at_+1))).cell? (ad.add at_)=some (.int .i64 x):=fun nq=>by
  have h:(⟨p,1,none⟩:Addr)≠ad.add at_:=fun e=>hp (by rw[←fq ad at_,←e])
  exact (World.cell?_setCell_other _ _ _ _ h).trans hx
 have hn0:¬n=0:=by omega
 have hb: -n<x.tmod n∧x.tmod n<n:=by
  exact⟨Int.lt_tmod_of_pos x (by omega),Int.tmod_lt_of_pos x (by omega)⟩
 have hw2:IntKind.i64.wrap (x.tmod n+n)=x.tmod n+n:=by rw[IntKind.wrap_i64];omega
 go_enter Tryz.func22,Tryz.ntmps22
 go_wp2
 go_quiet (fail)
 go_wp2
 go_quiet (fail)
 go_wp2
 go_ret
 exact⟨rfl,_,_,rfl⟩
def NQ (n:Int) (x:AV):Prop:=∃m:Int,x=iv m∧(n<1→m=0)∧(1≤n→0≤m∧m<n)
theorem sT (p:Nat) (src:Option Nat) (n:Int) (hn2:n≤4000000000000000000):PFun Tryz.prog (some p) src 22 [sp p,iv n] (NQ n):=by
 intro w ok vs hok hinv hsz hrep
 have hv0:=hrep 0 (vs[0]'(by simp at hsz;omega)) (sp p) (zX _) rfl
 have hv1:=hrep 1 (vs[1]'(by simp at hsz;omega)) (iv n) (zX _) rfl
 have e0:=cM hv0
 have e1:=cM hv1
 have hvs:vs=#[.pointer (some ⟨p,0,none⟩),.int .i64 n]:=by
  apply Array.ext
  ·simpa using hsz
  ·intro i h1 h2
   match i with
   |0=>simpa using e0
   |1=>simpa using e1
   |i+2=>simp at h2;omega
 subst hvs
 obtain⟨cur,A,len,c,at_,ty,⟨hb,hc0,hc1⟩,ha,hl,hsrc⟩:=hinv.2 p rfl
 have h0:w.cell? ⟨p,0,none⟩=some (.slice A len c):=by rw[cell_of_row w p _ _ ty (0,0) hb];exact hc0
 have h1:w.cell? ⟨p,1,none⟩=some (.int .i64 at_):=by rw[cell_of_row w p _ _ ty (0,0) hb];exact hc1
 have hf:w.frozen? ⟨p,1,none⟩=false:=by simp[World.frozen?,hb]
 have quiet:∀{e:Ending} {w':World},(e= .returned (.int .i64 0)∧∃k,w'=w.drewN k)→(NQ n (iv 0))→∃(v:Value) (x:AV),e= .returned v∧NQ n x∧Imm x∧jY w' (fun b=>ok b∨(w.heap.size≤b∧b<w'.heap.size)) v x∧w.grownBy w' (some p)∧Inv (some p) src ok w':=by
  rintro e w' ⟨rfl,k,rfl⟩ hq
  exact⟨_,iv 0,rfl,hq,.sc,.sc,⟨rfl,rfl,rfl,zZ _,fun _ _ _=>rfl⟩,hinv⟩
 by_cases hge:(len:Int)≤at_
 ·refine (WE p A len c at_ n w h0 h1 hge).mono fun e w' h=>quiet h ⟨0,rfl,fun _=>rfl,fun h=>⟨Int.le_refl _,by omega⟩⟩
 by_cases hn:n<1
 ·refine (VZ p A len c at_ n w h0 h1 (by omega) hn).mono fun e w' h=>quiet h ⟨0,rfl,fun _=>rfl,fun h=>⟨Int.le_refl _,by omega⟩⟩
 obtain⟨ad,x,rfl,hs,hp,hx,hxb⟩:=hsrc at_ (by omega)
 refine (Zo p ad len c at_ n x w h0 h1 hf hx hp hl (by omega) (by omega) hn2).mono ?_
 rintro e w' ⟨rfl,j,k,rfl⟩
 refine⟨_,iv ((x.tmod n+n)%n),rfl,⟨_,rfl,fun h=>by omega,fun h=>⟨Int.emod_nonneg _ (by omega),Int.emod_lt_of_pos _ (by omega)⟩⟩,.sc,.sc,⟨rfl,rfl,rfl,by simp[World.setCell,World.drewN],fun q hq hne=>?_⟩,⟨hinv.1.1,fun g hg=>⟨(hinv.1.2 g hg).1,?_⟩⟩,fun q hq=>?_⟩
 ·have:p≠q:=fun e=>hne (by rw[e])
  simp[World.setCell,World.drewN,Array.getElem?_modify,this]
 ·obtain⟨t,v,hc⟩:=(hinv.1.2 g hg).2
  have:p≠g:=fun e=>(hok g (hinv.1.2 g hg).1).2 (by rw[e])
  exact⟨t,v,(World.cell?_of_block (w:=w) (by simp[World.setCell,World.drewN,Array.getElem?_modify,this])).trans hc⟩
 ·cases hq
  have hlt:1<cur.size:=(zW.1 hc1).1
  refine⟨cur.setIfInBounds 1 (.int .i64 (at_+1)),some ad,len,c,at_+1,ty,⟨?_,?_,?_⟩,by omega,hl,fun i hi=>?_⟩
  ·simp[World.setCell,World.drewN,Array.getElem?_modify,hb]
  ·rw[Array.getElem?_setIfInBounds_ne (by omega)];exact hc0
  ·rw[Array.getElem?_setIfInBounds];simp[hlt]
  ·obtain⟨ad',x',h1',h2',h3',h4',h5'⟩:=hsrc i hi
   cases h1'
   refine⟨ad,x',rfl,hs,hp,?_,h5'⟩
   have h:(⟨p,1,none⟩:Addr)≠ad.add i:=fun e=>hp (by rw[←fq ad i,←e])
   exact (World.cell?_setCell_other _ _ _ _ h).trans h4'
open Go.PA
open Go.RowKit
def aA (xs:List Int):AV:= .list 1 (xs.map fun x=>[iv x])
def TF (xs:List Int):Prop:=∀x,x∈xs→ -9223372036854775808≤x∧x≤9223372036854775807
theorem Vw (xs:List Int) (hl:xs.length≤9223372036854775807):Sm Tryz.prog none none 4 [aA xs] 74 2 (·=[[aA (xs.take 900),iv 0]]):=by
 refine Kh Tryz.func4 rfl (by simp[Tryz.f4]) (by kernel_rfl) ?_
 intro E hP hr hs hW hN
 simp[go_sem,hP,aA,LB,jV,bL,dL,dD]
 have c:0≤min (xs.length:Int) 900∧min (xs.length:Int) 900≤xs.length:=⟨by omega,by omega⟩
 have m:(min (xs.length:Int) 900).toNat=min 900 xs.length:=by omega
 rw[if_pos c,m]
 simp[go_sem,hP,Xd,Tryz.f4]
 intro e he a ha
 have:=wV he
 simp at this
 obtain⟨x,_,rfl⟩:=this
 simp at ha
 subst ha
 exact .sc
theorem Fc (p:Nat) (src:Option Nat) (lo hi:Int) (h1: -1000000000000000000≤lo∧lo≤1000000000000000000) (h2: -1000000000000000000≤hi∧hi≤1000000000000000000):
  PFun Tryz.prog (some p) src 24 [sp p,iv lo,iv hi] (fun x=>∃m:Int,x=iv m∧(lo≤hi→lo≤m∧m≤hi)∧(hi<lo→m=lo)):=by
 refine ab Tryz.func24 rfl (by simp[Tryz.f24]) (by kernel_rfl) ?_
 intro E hP hr hs hW hN
 have w1:=ae (hi-lo) (by omega)
 have w2:=ae (hi-lo+1) (by omega)
 simp[go_sem, *]
 refine cn (hr▸hs▸sT p src (hi-lo+1) (by omega)) hP kH (by simp[go_sem]) ?_ ?_ ?_
 ·by_cases h:hi-lo+1<1
  ·exact⟨iv 0,0,rfl,fun _=>rfl,fun h'=>by omega⟩
  ·exact⟨iv 0,0,rfl,fun _=>rfl,fun h'=>by omega⟩
 ·rintro r ⟨m,rfl,_⟩;exact .sc
 ·rintro r ⟨m,rfl,a1,a2⟩
  have w3:=ae (lo+m) (by omega)
  simp[go_sem, *,Tryz.f24]
  omega
theorem qd (p:Nat) (src:Option Nat) (xs:List Int) (h:1≤xs.length∧xs.length≤1000):
  PFun Tryz.prog (some p) src 14 [sp p,aA xs] (fun x=>∃m:Int,x=iv m∧m∈xs):=by
 refine ab Tryz.func14 rfl (by simp[Tryz.f14]) (by kernel_rfl) ?_
 intro E hP hr hs hW hN
 simp[go_sem,hP,aA]
 refine cn (hr▸hs▸sT p src xs.length (by omega)) hP kH (by simp[go_sem]) ?_ ?_ ?_
 ·exact⟨iv 0,0,rfl,fun _=>rfl,fun h'=>by omega⟩
 ·rintro r ⟨m,rfl,_⟩;exact .sc
 ·rintro r ⟨m,rfl,a1,a2⟩
  obtain⟨b1,b2⟩:=a2 (by omega)
  have b3:m.toNat<xs.length:=by omega
  simp[go_sem, *,Tryz.f14]
theorem Fl (n:Int):∃r,NQ n r:=⟨iv 0,0,rfl,fun _=>rfl,fun h=>by omega⟩
theorem sY (n:Int):∀r,NQ n r→Flat r:=by
 rintro r ⟨m,rfl,_⟩;exact .sc
end Go.Proofs.YtfbogibogkbhmaaGreatDoor
set_option maxRecDepth 100000
namespace Go.Proofs.YtfbogibogkbhmaaGreatDoor
open Go.RowKit Go.WideShapes Go.ChangeShapes
open Go.PA (jY PFun AV Rep)
section
variable {H:Type} {enc:TypeId×Value→H} {P:Program}
theorem BZ {f:Func} {s:ChangeSpec} {apart fresh handsOn again:Bool} {W W':World} {args:Array Value} {v:Value} {ds gs:List (DataW H)} {before pa pv:List MemPlace}
  (hW:DataW.Whole enc P f.params.toList s.vars apart W args.toList ds gs before)
  (hres:∀(b:Nat) (sp:Nat→Bool) (hd:Bool),DataW.TrodAll enc P W' b sp hd f.resultTypes.toList (v.resultList f.resultTypes.size) (s.fn H (ds++gs)).results [])
  (hargs:∀sp:Nat→Bool,(∀p∈before,sp p.block=true)→DataW.TrodAll enc P W' 0 sp true f.params.toList args.toList (s.fn H (ds++gs)).args pa)
  (hvars:∀sp:Nat→Bool,(∀p∈before,sp p.block=true)→DataW.TrodVars enc P W' sp s.vars (s.fn H (ds++gs)).vars pv)
  (hps:before=pa++pv) (hb:Below W.heap.size W W')
  (hok:∀(j:Nat) (t:TypeId) (r:Value),f.resultTypes[j]?=some t→(v.resultList f.resultTypes.size)[j]?=some r→Value.okWide P W' .any 0 t r):
  s.post enc P f apart fresh handsOn again W args v W':=by
 have hlt:∀p∈before,p.block<W.heap.size:=fun p hp=>hW.lt p hp
 have hold:∀p∈before,(fun b=>decide (b<W.heap.size)) p.block=true:=fun p hp=>by simpa using hlt p hp
 refine⟨ds,gs,before,[],pa,pv,hW,hres _ _ _,hargs _ hold,hvars _ hold,World.keptBut_mono (fun p hp=>⟨hp,?_⟩) (hb.frame (·∈before)),fun _=>?_⟩
 ·rw[hps,wA]at hp
  exact Or.inr hp
 ·obtain⟨_,_,_,_,_,hz,hn⟩:=hW
  refine⟨hok,_,_,([]++pa)++pv,⟨[]++pa,pv,trodAll_append (hargs _ (fun _ _=>rfl)) (hres _ _ _),hvars _ (fun _ _=>rfl),rfl,?_,?_⟩,?_⟩
  ·intro b off hp
   have hin:MemPlace.cell b off∈before:=by rw[hps];simpa using hp
   rw[hb.frozen (hlt _ hin)]
   exact hz b off hin
  ·intro ha
   have:=hn ha
   rw[hps]at this
   simpa using this
  ·intro p hp _
   rw[hps]
   simpa using hp
end
theorem Tryz.own:ownKnob Tryz.prog.godebug=none:=by kernel_rfl
theorem Tryz.laidOut:laidOutB Tryz.prog=true:=by kernel_rfl
end Go.Proofs.YtfbogibogkbhmaaGreatDoor
namespace Go.PA
open Go.RowKit Go.WideShapes Go.ChangeShapes
mutual
inductive Sh where
 |int (k:IntKind)
 |bool
 |str
 |slice (e:Sh)
 |strct (fs:Fs)
inductive Fs where
 |nil
 |cons (s:Sh) (fs:Fs)
end
mutual
def Sh.size:Sh→Nat
 | .int _=>1
 | .bool=>1
 | .str=>1
 | .slice _=>1
 | .strct fs=>fs.size
def Fs.size:Fs→Nat
 | .nil=>0
 | .cons s fs=>s.size+fs.size
end
mutual
def Sh.ok (P:Program):Sh→TypeId→Bool
 | .int k,t=>decide (P.cellsOf t=1)&&(match P.underlying t with|some (.int k')=>decide (k'=k)|_=>false)
 | .bool,t=>decide (P.cellsOf t=1)&&(match P.underlying t with|some .bool=>true|_=>false)
 | .str,t=>decide (P.cellsOf t=1)&&(match P.underlying t with|some .string=>true|_=>false)
 | .slice e,t=>decide (P.cellsOf t=1)&&decide (0<e.size)&&(match P.underlying t with|some (.slice te)=>e.ok P te|_=>false)
 | .strct fs,t=>decide (P.cellsOf t=fs.size)&&(match P.underlying t with|some (.struct fields)=>fs.ok P fields.toList 0|_=>false)
def Fs.ok (P:Program):Fs→List Field→Nat→Bool
 | .nil,[],_=>true
 | .cons s fs,f::l,off=>s.ok P f.type&&decide (f.offset=off)&&fs.ok P l (off+s.size)
 |_,_,_=>false
end
mutual
def Sh.V:Sh→List AV→Prop
 | .int k,as0=>∃n,as0=[.sc (.int k n)]∧(Lit.int k n).wf=true
 | .bool,as0=>∃b,as0=[.sc (.bool b)]
 | .str,as0=>∃s:ByteArray,as0=[.sc (.string s)]∧s.size≤maxLen
 | .slice e,as0=>∃es:List (List AV),as0=[.list e.size es]∧es.length≤maxLen∧∀x,x∈es→e.V x
 | .strct fs,as0=>fs.V as0
def Fs.V:Fs→List AV→Prop
 | .nil,as0=>as0=[]
 | .cons s fs,as0=>∃x y,as0=x++y∧s.V x∧fs.V y
end
theorem Sh.ok_size (P:Program) (s:Sh) (t:TypeId) (h:s.ok P t=true):P.cellsOf t=s.size:=by
 cases s<;>simp only[Sh.ok,zG,zI]at h<;>simp only[Sh.size]<;>first|exact h.1|exact h.1.1
def U7 (w:World) (cs:List Value) (as0:List AV):Prop:=∀(i:Nat) (c:Value) (a:AV),cs[i]?=some c→as0[i]?=some a→jY w (fun b=>b<w.heap.size) c a∧c.oneCell'=true
theorem mP {w:World} {c:Value} {a:AV} (h:jY w (fun b=>b<w.heap.size) c a) (h1:c.oneCell'=true):U7 w [c] [a]:=fun i c' a' hc ha=>by
 rcases i with _|i
 ·simp at hc ha
  subst hc;subst ha
  exact⟨h,h1⟩
 ·simp at hc
theorem Td {w:World} {a:Addr} {v:Value} (h:w.cell? a=some v):a.block<w.heap.size:=by
 simp only[World.cell?]at h
 split at h
 ·rename_i hb
  exact (zW.1 hb).1
 ·cases h
theorem Hj {α:Type} (n:Nat) (p:Nat→α→Prop) (h:∀i,i<n→∃a,p i a):∃l:List α,l.length=n∧∀i a,l[i]?=some a→p i a:=by
 induction n with
 |zero=>exact⟨[],rfl,by simp⟩
 |succ n ih=>
  obtain⟨l,h1,h2⟩:=ih fun i hi=>h i (by omega)
  obtain⟨a,ha⟩:=h n (by omega)
  refine⟨l++[a],by simp[h1],fun i b hb=>?_⟩
  by_cases hi:i<n
  ·rw[zD (by omega)]at hb
   exact h2 i b hb
  ·have:i=n:=by
    have:=(gsI hb)
    simp at this
    omega
   subst this
   rw[zN (by omega)]at hb
   simp[h1]at hb
   subst hb
   exact ha
section
variable {H:Type} {enc:TypeId×Value→H} {P:Program} {w:World} {base:Nat} {spare:Nat→Bool} {held:Bool}
mutual
theorem Sh.rep:∀(s:Sh) (t:TypeId) (fuel:Nat) (cs:List Value) (x:DataW H×List MemPlace),s.ok P t=true→DataW.trod enc P w base spare held fuel t cs=some x→
  ∃as0,s.V as0∧as0.length=s.size∧cs.length=s.size∧U7 w cs as0
 | .int k,t,fuel,cs,x,hs,h=>by
  simp only[Sh.ok,zG,zI]at hs
  obtain⟨_,hs⟩:=hs
  split at hs
  ·rename_i k' hu
   have:=of_decide_eq_true hs
   subst this
   obtain⟨n,rfl,_,hw⟩:=DataW.trod_int hu h
   exact⟨[.sc (.int k' n)],⟨n,rfl,hw⟩,rfl,rfl,mP .sc rfl⟩
  ·cases hs
 | .bool,t,fuel,cs,x,hs,h=>by
  simp only[Sh.ok,zG,zI]at hs
  obtain⟨_,hs⟩:=hs
  split at hs
  ·rename_i hu
   obtain⟨b,rfl,_⟩:=DataW.trod_bool hu h
   exact⟨[.sc (.bool b)],⟨b,rfl⟩,rfl,rfl,mP .sc rfl⟩
  ·cases hs
 | .str,t,fuel,cs,x,hs,h=>by
  simp only[Sh.ok,zG,zI]at hs
  obtain⟨_,hs⟩:=hs
  split at hs
  ·rename_i hu
   obtain⟨b,rfl,_,hl⟩:=DataW.trod_string hu h
   exact⟨[.sc (.string b)],⟨b,rfl,hl⟩,rfl,rfl,mP .sc rfl⟩
  ·cases hs
 | .slice e,t,fuel,cs,x,hs,h=>by
  simp only[Sh.ok,zG,zI]at hs
  obtain⟨⟨_,hpos⟩,hs⟩:=hs
  split at hs
  ·rename_i te hu
   have hsz:=Sh.ok_size P e te hs
   rcases DataW.trod_slice hu h with⟨rfl,_⟩|⟨a,len,cap,elems,rest,n,_,rfl,_,hb,hl,hm,hlen,hel,_,_⟩
   ·exact⟨[.list e.size []],⟨[],rfl,by simp,by simp⟩,rfl,rfl,mP .listNil rfl⟩
   rcases wR len with h0|h0
   ·subst h0
    exact⟨[.list e.size []],⟨[],rfl,by simp,by simp⟩,rfl,rfl,mP .listNil rfl⟩
   obtain⟨es,hes,hp⟩:=Hj len (fun i (as0:List AV)=>∃cs',w.cells? base (a.add (i*e.size)) e.size=some cs'∧e.V as0∧as0.length=e.size∧U7 w cs' as0) fun i hi=>by
    have hi':i<elems.length:=by omega
    have:=hel i hi
    rw[zF hi',vK,hsz]at this
    obtain⟨cs',h1,h2⟩:=this
    obtain⟨as0,h3,h4,h5,h6⟩:=Sh.rep e te n cs' _ hs h2
    exact⟨as0,cs',h1,h3,h4,h6⟩
   have cells:∀(i:Nat) (x:List AV) (j:Nat) (b:AV),es[i]?=some x→x[j]?=some b→∃c,w.cell? (a.add (i*e.size+j))=some c∧jY w (fun b=>b<w.heap.size) c b∧c.oneCell'=true:=fun i x j b hx hj=>by
    obtain⟨cs',h1,h3,h4,h6⟩:=hp i x hx
    obtain⟨_,hl',hc⟩:=World.cells?_some h1
    have hj':=(gsI hj)
    have hcj:cs'[j]?=some (cs'[j]'(by omega)):=zF (by omega)
    obtain⟨r1,r2⟩:=h6 j _ b hcj hj
    refine⟨_,?_,r1,r2⟩
    have:=hc j (by omega)
    rw[tC,hcj]at this
    exact this
   have hblk:a.block<w.heap.size:=by
    obtain⟨cs',h1,h3,h4,h6⟩:=hp 0 (es[0]'(by omega)) (zF (by omega))
    obtain⟨_,hl',hc⟩:=World.cells?_some h1
    have:=hc 0 hpos
    rw[zF (by omega)]at this
    have:=Td this
    rw[fq,fq]at this
    exact this
   refine⟨[.list e.size es],⟨es,rfl,by omega,fun x hx=>?_⟩,rfl,rfl,mP ?_ rfl⟩
   ·obtain⟨i,hi⟩:=wN hx
    obtain⟨_,_,h3,_⟩:=hp i x hi
    exact h3
   ·refine .list (fun i j=>(w.cell? (a.add (i*e.size+j))).getD undef) hes hl hblk (fun x hx=>?_) ?_ ?_ ?_
    ·obtain⟨i,hi⟩:=wN hx
     obtain⟨_,_,_,h4,_⟩:=hp i x hi
     exact h4
    ·intro i x j b hx hj
     obtain⟨c,h1,_⟩:=cells i x j b hx hj
     rw[h1];rfl
    ·intro i x j b hx hj
     obtain⟨c,h1,_,h3⟩:=cells i x j b hx hj
     rw[h1];exact h3
    ·intro i x j b hx hj
     obtain⟨c,h1,h2,_⟩:=cells i x j b hx hj
     rw[h1];exact h2
  ·cases hs
 | .strct fs,t,fuel,cs,x,hs,h=>by
  simp only[Sh.ok,zG,zI]at hs
  obtain⟨hc,hs⟩:=hs
  split at hs
  ·rename_i fields hu
   obtain⟨xs,n,_,_,hl,hxl,hf⟩:=DataW.trod_struct hu h
   obtain⟨as0,h1,h2,h3⟩:=Fs.rep fs fields.toList 0 n cs xs hs (by simp[hxl]) (by rw[hl,hc];simp) fun i f hi=>hf i f (by simpa using hi)
   refine⟨as0,h1,h2,by rw[hl,hc];rfl,fun i c a hci ha=>h3 i c a (by simpa using hci) ha⟩
  ·cases hs
theorem Fs.rep:∀(fs:Fs) (fields:List Field) (off n:Nat) (cs:List Value) (xs:List (DataW H×List MemPlace)),fs.ok P fields off=true→xs.length=fields.length→cs.length=off+fs.size→
  (∀(i:Nat) (f:Field),fields[i]?=some f→DataW.trod enc P w base spare held n f.type ((cs.drop f.offset).take (P.cellsOf f.type))=xs[i]?)→
  ∃as0,fs.V as0∧as0.length=fs.size∧∀(i:Nat) (c:Value) (a:AV),cs[off+i]?=some c→as0[i]?=some a→jY w (fun b=>b<w.heap.size) c a∧c.oneCell'=true
 | .nil,fields,off,n,cs,xs,hs,hxl,hcl,hf=>⟨[],rfl,rfl,fun i c a hc ha=>by simp at ha⟩
 | .cons s fs,[],off,n,cs,xs,hs,hxl,hcl,hf=>by simp[Fs.ok]at hs
 | .cons s fs,f::l,off,n,cs,[],hs,hxl,hcl,hf=>by simp at hxl
 | .cons s fs,f::l,off,n,cs,y::xs,hs,hxl,hcl,hf=>by
  simp only[Fs.ok,zG,zI]at hs
  obtain⟨⟨h1,h2⟩,h3⟩:=hs
  have hsz:=Sh.ok_size P s f.type h1
  have h0:=hf 0 f rfl
  rw[h2,hsz]at h0
  simp only[wQ]at h0
  obtain⟨as0,a1,a2,a3,a4⟩:=Sh.rep s f.type n _ _ h1 h0
  simp only[Fs.size]at hcl
  obtain⟨bs,b1,b2,b3⟩:=Fs.rep fs l (off+s.size) n cs xs h3 (by simpa using hxl) (by omega) fun i g hi=>by
   have:=hf (i+1) g (by simpa using hi)
   simpa using this
  refine⟨as0++bs,⟨as0,bs,rfl,a1,b1⟩,by simp[a2,b2,Fs.size],fun i c a hc ha=>?_⟩
  by_cases hi:i<s.size
  ·rw[zD (by omega)]at ha
   refine a4 i c a ?_ ha
   rw[vE,if_pos hi,uG]
   exact hc
  ·rw[zN (by omega)]at ha
   refine b3 (i-s.size) c a ?_ (by rw[←a2];exact ha)
   rw[←hc]
   congr 1
   omega
end
def Sh.A (s:Sh) (a:AV):Prop:=match s with
 | .strct fs=>∃cs,a= .agg cs∧fs.V cs
 |s=>s.V [a]
theorem RR {s:Sh} {t:TypeId} {r:Reach} {b0:Nat} {v:Value} {d:DataW H} {ps:List MemPlace} (hs:s.ok P t=true) (hval:Value.okWide P w r b0 t v) (h:DataW.Trod enc P w base spare held t v d ps):
  ∃a,s.A a∧jY w (fun b=>b<w.heap.size) v a:=by
 have h':=h
 obtain⟨fuel,hf⟩:=h
 obtain⟨as0,h1,h2,h3,h4⟩:=Sh.rep s t fuel _ _ hs hf
 have scal:s.size=1→v.cells.toList=[v]→∃a,s.V [a]∧jY w (fun b=>b<w.heap.size) v a:=fun e hv=>by
  rw[e]at h2
  match as0,h2 with
  |[a],_=>
   rw[hv]at h4
   exact⟨a,h1,(h4 0 _ _ rfl rfl).1⟩
 cases s with
 |strct fs=>
  unfold Value.okWide at hval
  simp only[Sh.ok,zG,zI]at hs
  obtain⟨_,hs⟩:=hs
  split at hs
  ·rename_i fields hu
   rw[hu]at hval
   obtain⟨cs,rfl,_⟩:=hval
   refine⟨.agg as0,⟨as0,rfl,h1⟩,.agg ?_ fun i c a hc ha=>(h4 i c a ?_ ha).1⟩
   ·simp only[Value.cells,Array.length_toList]at h3
    omega
   ·simpa[Value.cells]using hc
  ·cases hs
 |int k=>
  simp only[Sh.ok,zG,zI]at hs
  obtain⟨_,hs⟩:=hs
  split at hs
  ·rename_i hu
   obtain⟨m,rfl,_⟩:=open_int hu hval h'
   exact scal rfl rfl
  ·cases hs
 |bool=>
  simp only[Sh.ok,zG,zI]at hs
  obtain⟨_,hs⟩:=hs
  split at hs
  ·rename_i hu
   obtain⟨m,rfl,_⟩:=open_bool hu hval h'
   exact scal rfl rfl
  ·cases hs
 |str=>
  simp only[Sh.ok,zG,zI]at hs
  obtain⟨_,hs⟩:=hs
  split at hs
  ·rename_i hu
   obtain⟨s,hv,_⟩:=DataW.trod_string hu hf
   refine scal rfl ?_
   obtain⟨s',rfl⟩:=okWide_string hu hval
   rfl
  ·cases hs
 |slice e=>
  simp only[Sh.ok,zG,zI]at hs
  obtain⟨_,hs⟩:=hs
  split at hs
  ·rename_i te hu
   obtain⟨A,n,c,rfl⟩:=okWide_slice hu hval
   exact scal rfl rfl
  ·cases hs
def Fj:List Sh→List AV→Prop
 |[],[]=>True
 |s::ss,a::as0=>s.A a∧Fj ss as0
 |_,_=>False
theorem M9 {s:Sh} {ss:List Sh} {l:List AV} (h:Fj (s::ss) l):∃a l',l=a::l'∧s.A a∧Fj ss l':=by
 cases l with
 |nil=>exact h.elim
 |cons a l=>exact⟨a,l,rfl,h.1,h.2⟩
theorem OK {l:List AV} (h:Fj [] l):l=[]:=by
 cases l with
 |nil=>rfl
 |cons a l=>exact h.elim
def sL (P:Program):List Sh→List TypeId→Bool
 |[],[]=>true
 |s::ss,t::ts=>s.ok P t&&(P.readableRec t&&decide (t<P.types.size))&&sL P ss ts
 |_,_=>false
theorem GO {r:Reach} {b0:Nat}:∀(ss:List Sh) (ts:List TypeId) (vs:List Value) (ds:List (DataW H)) (ps:List MemPlace),sL P ss ts=true→(∀(j:Nat) (t:TypeId) (v:Value),ts[j]?=some t→vs[j]?=some v→Value.okWide P w r b0 t v)→
  DataW.TrodAll enc P w base spare held ts vs ds ps→∃as0,Fj ss as0∧as0.length=vs.length∧∀(i:Nat) (v:Value) (a:AV),vs[i]?=some v→as0[i]?=some a→jY w (fun b=>b<w.heap.size) v a
 |[],[],vs,ds,ps,_,_,h=>by
  obtain⟨rfl,_,_⟩:=trodAll_nil h
  exact⟨[],trivial,rfl,fun i v a hv=>by simp at hv⟩
 |[],t::ts,vs,ds,ps,hs,_,h=>by simp[sL]at hs
 |s::ss,[],vs,ds,ps,hs,_,h=>by simp[sL]at hs
 |s::ss,t::ts,vs,ds,ps,hs,hval,h=>by
  simp only[sL,zG,zI]at hs
  match vs,ds,h with
  |v::vs,d::ds,⟨p,q,h1,h2,_⟩=>
   obtain⟨a,a1,a2⟩:=RR hs.1.1 (hval 0 t v rfl rfl) h1
   obtain⟨as0,b1,b2,b3⟩:=GO ss ts vs ds q hs.2 (fun j t v ht hv=>hval (j+1) t v (by simpa using ht) (by simpa using hv)) h2
   refine⟨a::as0,⟨a1,b1⟩,by simp[b2],fun i v' a' hv ha=>?_⟩
   rcases i with _|i
   ·simp at hv ha
    subst hv;subst ha
    exact a2
   ·exact b3 i v' a' (by simpa using hv) (by simpa using ha)
theorem qP (hl:laidOutB P=true) {W W':World} {sp:Nat→Bool}:∀(ss:List Sh) (ts:List TypeId) (vs:List Value) (ds:List (DataW H)) (ps:List MemPlace),sL P ss ts=true→DataW.TrodAll enc P W 0 (fun _=>true) true ts vs ds ps→
  (∀p∈ps,W.sameAt W' p)→(∀p∈ps,sp p.block=true)→DataW.TrodAll enc P W' 0 sp true ts vs ds ps
 |[],[],vs,ds,ps,_,h,_,_=>by
  obtain⟨rfl,rfl,rfl⟩:=trodAll_nil h
  exact rfl
 |[],t::ts,vs,ds,ps,hs,h,_,_=>by simp[sL]at hs
 |s::ss,[],vs,ds,ps,hs,h,_,_=>by simp[sL]at hs
 |s::ss,t::ts,vs,ds,ps,hs,h,hsame,hsp=>by
  simp only[sL,zG,zI]at hs
  match vs,ds,h with
  |v::vs,d::ds,⟨p,q,h1,h2,hp⟩=>
   subst hp
   exact⟨p,q,WideElems.Trod_stays hl hs.1.2.1 hs.1.2.2 h1 (fun x hx=>hsame x (by simp[hx])) (fun x hx=>hsp x (by simp[hx])),
    qP hl ss ts vs ds q hs.2 h2 (fun x hx=>hsame x (by simp[hx])) (fun x hx=>hsp x (by simp[hx])),rfl⟩
theorem r9:∀(ts:List TypeId) (vs:List Value) (ds:List (DataW H)) (ps:List MemPlace),DataW.TrodAll enc P w base spare held ts vs ds ps→ds.length=ts.length
 |[],vs,ds,ps,h=>by
  obtain⟨_,rfl,_⟩:=trodAll_nil h
  rfl
 |t::ts,vs,ds,ps,h=>by
  match vs,ds,h with
  |v::vs,d::ds,⟨p,q,_,h2,_⟩=>simp[r9 ts vs ds q h2]
theorem LE {α:Type} {l:List α} (h:l.length=1):∃a0,l=[a0]:=by
 match l,h with
 |[a0],_=>exact⟨a0,rfl⟩
end
end Go.PA
namespace Go.Proofs.YtfbogibogkbhmaaGreatDoor
open Go.PA
open Go.RowKit
def VS (n:Int):Prop:= -9223372036854775808≤n∧n≤9223372036854775807
theorem R8 {n:Int} (h:(Lit.int .i64 n).wf=true):VS n:=by
 simp only[Lit.wf,zG,zI]at h
 exact h
theorem VH (as0:List AV) (h:(Sh.int .i64).V as0):∃x:Int,as0=eE x∧VS x:=by
 obtain⟨n,rfl,h⟩:=h
 exact⟨n,rfl,R8 h⟩
theorem KB {α:Type} {enc:α→List AV} {wf:α→Prop} {s:Sh} (h:∀as0,s.V as0→∃x:α,as0=enc x∧wf x):∀es:List (List AV),(∀x,x∈es→s.V x)→∃l:List α,es=ao enc l∧∀z,z∈l→wf z
 |[],_=>⟨[],rfl,by simp⟩
 |e::es,he=>by
  obtain⟨a,rfl,ha⟩:=h e (he e (by simp))
  obtain⟨l,rfl,hl⟩:=KB h es fun x hx=>he x (uC _ hx)
  refine⟨a::l,rfl,fun z hz=>?_⟩
  rcases zO.1 hz with rfl|hz
  ·exact ha
  ·exact hl z hz
theorem Qe {α:Type} {enc:α→List AV} {wf:α→Prop} (s:Sh) (h:∀as0,s.V as0→∃x:α,as0=enc x∧wf x) (as0:List AV) (hs:(Sh.slice s).V as0):∃l:List α,as0=[.list s.size (ao enc l)]∧(l.length≤maxLen∧∀z,z∈l→wf z):=by
 obtain⟨es,rfl,hl,he⟩:=hs
 obtain⟨l,rfl,hw⟩:=KB h es he
 exact⟨l,rfl,by simpa[ao]using hl,hw⟩
open Go.ChangeShapes Go.WideShapes Go.ChangeAt Go.RowKit
open Go.PA (jY PFun AV Rep Sh Fj Fs)
theorem RJ {a:AV} (h:(Sh.slice (.int .i64)).A a):∃l:List Int,a=aA l∧TF l∧l.length≤9223372036854775807:=by
 obtain⟨l,e,hl,hw⟩:=Qe (.int .i64) VH [a] h
 have hml:maxLen≤9223372036854775807:=by decide
 simp only[vZ,and_true]at e
 exact⟨l,e,hw,by omega⟩
end Go.Proofs.YtfbogibogkbhmaaGreatDoor
set_option maxRecDepth 100000
namespace Go.Proofs.YtfbogibogkbhmaaGreatDoor
open Go.RowKit Go.WideShapes Go.ChangeShapes
open Go.PA (jY PFun AV Rep GlobOk)
theorem gES:Tryz.prog.globalNamed "strconv.ErrSyntax"=some 0:=by kernel_rfl
theorem gER:Tryz.prog.globalNamed "strconv.ErrRange"=some 1:=by kernel_rfl
theorem Zt:(Tryz.prog.globals[0]?).map (·.type)=some 319:=by kernel_rfl
theorem Zv:(Tryz.prog.globals[1]?).map (·.type)=some 319:=by kernel_rfl
theorem KI:Tryz.prog.cellsOf 444=1:=by kernel_rfl
theorem Hi:Tryz.prog.cellsOf 9=1:=by kernel_rfl
theorem Q2: "*"++ "errors.errorString"= "*errors.errorString":=by decide
theorem TR (u:TypeId) (h:Tryz.prog.typeName? 3 u=some "*errors.errorString"):u=442:=
 typeName_ptr_named (nm:= "errors.errorString") (by rw[Q2];kernel_rfl) (by kernel_rfl) (by decide) u (by rw[Q2];exact h)
theorem AW {W:World} {g:Nat} {v:Value} (h:W.cell? ⟨g,0,none⟩=some v):g<W.heap.size:=by
 rcases Nat.lt_or_ge g W.heap.size with h'|h'
 ·exact h'
 ·simp[World.cell?,Array.getElem?_eq_none h']at h
theorem Tq {W:World} (h:laidMetH Tryz.prog Rows.topLiquidityRow.laid W):GlobOk (fun b=>b<W.heap.size) W:=by
 rw[MakeChecks.laidMetH_plain _ _ _ (by kernel_rfl)]at h
 have h4:=h.tail.tail.tail.tail
 obtain⟨a0,s0,hv0, -, -, -⟩:=laid_sentinel h4 gER Zv Tryz.underlying319 TR Tryz.underlying442 Tryz.underlying444 rfl rfl Tryz.underlying9 KI Hi
 obtain⟨a1,s1,hv1, -, -, -⟩:=laid_sentinel h4.tail gES Zt Tryz.underlying319 TR Tryz.underlying442 Tryz.underlying444 rfl rfl Tryz.underlying9 KI Hi
 have h0:W.cell? ⟨1,0,none⟩=some (.iface 442 (.pointer (some a0))):=by simpa using World.var?_cell gER hv0 0
 have h1:W.cell? ⟨0,0,none⟩=some (.iface 442 (.pointer (some a1))):=by simpa using World.var?_cell gES hv1 0
 intro g hg
 simp only[Go.PA.Ts,zO,wC,or_false]at hg
 rcases hg with rfl|rfl
 ·exact⟨AW h1,_,_,h1⟩
 ·exact⟨AW h0,_,_,h0⟩
def mE {α:Type} (q:α→Bool) (am:α→Int) (l:List α):Int:=((l.filter q).map am).sum
def GA {α:Type} (q:α→Bool) (l:List α):Nat:=(l.filter q).length
theorem tg {α:Type} (q:α→Bool) (am:α→Int):mE q am []=0:=rfl
theorem dC {α:Type} (q:α→Bool) (am:α→Int) (x:α) (l:List α):mE q am (x::l)=(if q x=true then am x else 0)+mE q am l:=by
 unfold mE
 by_cases h:q x=true
 ·simp[h]
 ·simp[h]
theorem ma {α:Type} (q:α→Bool) (am:α→Int) (a b:List α):mE q am (a++b)=mE q am a+mE q am b:=by
 unfold mE
 simp
theorem jt {α:Type} (q:α→Bool) (x:α) (l:List α):GA q (x::l)=(if q x=true then 1 else 0)+GA q l:=by
 unfold GA
 by_cases h:q x=true
 ·simp[h];omega
 ·simp[h]
theorem gr {α:Type} (q:α→Bool) (am:α→Int):∀l:List α,(∀x,x∈l→0<am x)→0≤mE q am l∧∀x,x∈l→q x=true→am x≤mE q am l
 |[],_=>⟨Int.le_refl _,fun x h=>by cases h⟩
 |y::l,h=>by
  obtain⟨h1,h2⟩:=gr q am l fun x hx=>h x (by simp[hx])
  have hy:=h y (by simp)
  rw[dC]
  refine⟨by split<;>omega,fun x hx hq=>?_⟩
  rcases zO.1 hx with rfl|hx
  ·rw[if_pos hq];omega
  ·have:=h2 x hx hq
   split<;>omega
theorem uv {α:Type} (q:α→Bool) (am:α→Int) (l:List α) (h:∀x,x∈l→q x=false):mE q am l=0:=by
 unfold mE
 rw[List.filter_eq_nil_iff.2 fun x hx=>by simp[h x hx]]
 rfl
def kc {α:Type} (lt is:α→Bool) (mk:Int→α) (am:α→Int):List α→Int→List α
 |[],n=>if n=0 then []else [mk n]
 |x::l,n=>if lt x=true then x::kc lt is mk am l n else if is x=true then (if am x+n=0 then l else mk (am x+n)::l)else if n=0 then x::l else mk n::x::l
structure KeyOk {α:Type} (R:α→α→Prop) (lt is:α→Bool) (mk:Int→α) (am:α→Int):Prop where
 am:∀a,am (mk a)=a
 trans:∀x y z,R x y→R y z→R x z
 ltMk:∀x a,lt x=true→R x (mk a)
 isR:∀x y a,is x=true→R x y→R (mk a) y
 tri:∀x a,lt x=false→is x=false→R (mk a) x
 mono:∀x y,R x y→lt y=true→lt x=true
 irr:∀x y,is x=true→R x y→is y=false
 dis:∀x,lt x=true→is x=false
 aft:∀x y,lt x=false→is x=false→R x y→is y=false
section
variable {α:Type} {R:α→α→Prop} {lt is:α→Bool} {mk:Int→α} {am:α→Int}
theorem wx (q:α→Bool) (hm:∀a,am (mk a)=a) (c:Bool) (hq:∀a,q (mk a)=c) (hi:∀x,is x=true→q x=c):∀(l:List α) (n:Int),mE q am (kc lt is mk am l n)=mE q am l+if c=true then n else 0
 |[],n=>by
  unfold kc
  by_cases h:n=0
  ·subst h;simp[tg]
  ·rw[if_neg h,dC,hq,hm,tg];omega
 |x::l,n=>by
  have ih:=wx q hm c hq hi l n
  unfold kc
  split
  ·rw[dC,dC,ih];omega
  ·split
   ·rename_i h1 h2
    have:=hi x h2
    split
    ·rename_i h3
     rw[dC,this]
     split<;>omega
    ·rw[dC,dC,hq,hm,this]
     split<;>omega
   ·split
    ·rename_i h
     subst h
     simp
    ·rw[dC,hq,hm];omega
theorem C2 (q:α→Bool) (c:Bool) (hq:∀a,q (mk a)=c) (hi:∀x,is x=true→q x=c):∀(l:List α) (n:Int),GA q (kc lt is mk am l n)≤GA q l+if c=true then 1 else 0
 |[],n=>by
  unfold kc
  by_cases h:n=0
  ·subst h;simp[GA]
  ·rw[if_neg h,jt,hq];simp[GA]
 |x::l,n=>by
  have ih:=C2 q c hq hi l n
  unfold kc
  split
  ·rw[jt,jt];omega
  ·split
   ·rename_i h1 h2
    have:=hi x h2
    split
    ·rw[jt,this];omega
    ·rw[jt,jt,hq,this];omega
   ·split
    ·omega
    ·rw[jt,hq];omega
theorem BL (l:List α) (n:Int):(kc lt is mk am l n).length≤l.length+1:=by
 have:=C2 (lt:=lt) (is:=is) (mk:=mk) (am:=am) (fun _=>true) true (fun _=>rfl) (fun _ _=>rfl) l n
 have e:∀l:List α,l.filter (fun _=>true)=l:=fun l=>List.filter_eq_self.2 (by simp)
 unfold GA at this
 rw[e,e]at this
 simpa using this
theorem FE:∀{l:List α} {n:Int} {x:α},x∈kc lt is mk am l n→x∈l∨(n≠0∧x=mk n)∨∃y,y∈l∧is y=true∧am y+n≠0∧x=mk (am y+n)
 |[],n,x,h=>by
  unfold kc at h
  split at h
  ·cases h
  ·rename_i h0
   exact .inr (.inl ⟨h0,by simpa using h⟩)
 |y::l,n,x,h=>by
  unfold kc at h
  split at h
  ·rcases zO.1 h with rfl|h
   ·exact .inl (by simp)
   ·rcases FE h with h|h|⟨z,h1,h2⟩
    ·exact .inl (by simp[h])
    ·exact .inr (.inl h)
    ·exact .inr (.inr ⟨z,by simp[h1],h2⟩)
  ·split at h
   ·rename_i h1 h2
    split at h
    ·exact .inl (by simp[h])
    ·rename_i h3
     rcases zO.1 h with rfl|h
     ·exact .inr (.inr ⟨y,by simp,h2,h3,rfl⟩)
     ·exact .inl (by simp[h])
   ·split at h
    ·exact .inl h
    ·rename_i h3
     rcases zO.1 h with rfl|h
     ·exact .inr (.inl ⟨h3,rfl⟩)
     ·exact .inl h
theorem pV (ok:KeyOk R lt is mk am):∀{l:List α} (n:Int),l.Pairwise R→(kc lt is mk am l n).Pairwise R
 |[],n,_=>by
  unfold kc
  split<;>simp
 |x::l,n,h=>by
  obtain⟨h1,h2⟩:=vD.1 h
  unfold kc
  split
  ·rename_i hl
   refine vD.2 ⟨fun y hy=>?_,pV ok n h2⟩
   rcases FE hy with hy|⟨_,rfl⟩|⟨_,_,_,_,rfl⟩
   ·exact h1 y hy
   ·exact ok.ltMk _ _ hl
   ·exact ok.ltMk _ _ hl
  ·split
   ·rename_i hl hi
    split
    ·exact h2
    ·exact vD.2 ⟨fun y hy=>ok.isR x y _ hi (h1 y hy),h2⟩
   ·rename_i hl hi
    split
    ·exact h
    ·have ht:=ok.tri x n (by simpa using hl) (by simpa using hi)
     refine vD.2 ⟨fun y hy=>?_,h⟩
     rcases zO.1 hy with rfl|hy
     ·exact ht
     ·exact ok.trans _ _ _ ht (h1 y hy)
theorem n5 (ok:KeyOk R lt is mk am):∀{l:List α},l.Pairwise R→∃k,k≤l.length∧(∀h x,l[h]?=some x→(lt x=true↔h<k))∧
  ((∃x,l[k]?=some x∧is x=true∧mE is am l=am x∧∀n,kc lt is mk am l n=if am x+n=0 then l.take k++l.drop (k+1)else l.take k++mk (am x+n)::l.drop (k+1))∨
   ((∀x,l[k]?=some x→is x=false)∧mE is am l=0∧∀n,kc lt is mk am l n=if n=0 then l else l.take k++mk n::l.drop k))
 |[],_=>⟨0,by simp,by simp,.inr ⟨by simp,rfl,fun n=>by unfold kc;simp⟩⟩
 |x::l,h=>by
  obtain⟨h1,h2⟩:=vD.1 h
  by_cases hl:lt x=true
  ·obtain⟨k,hk,hm,hc⟩:=n5 ok h2
   have hd:=ok.dis x hl
   refine⟨k+1,by simp;omega,fun j y hy=>?_,?_⟩
   ·cases j with
    |zero=>
     simp only[wQ,zB]at hy
     subst hy
     simp[hl]
    |succ j=>
     rw[uI]at hy
     rw[hm j y hy]
     omega
   ·rcases hc with⟨y,c1,c2,c3,c4⟩|⟨c1,c3,c4⟩
    ·refine .inl ⟨y,by simpa using c1,c2,by rw[dC,hd,c3];simp,fun n=>?_⟩
     unfold kc
     rw[if_pos hl,c4]
     split<;>simp
    ·refine .inr ⟨fun y hy=>c1 y (by simpa using hy),by rw[dC,hd,c3];simp,fun n=>?_⟩
     unfold kc
     rw[if_pos hl,c4]
     split<;>simp
  ·have hl':lt x=false:=by simpa using hl
   have hm:∀(j:Nat) (y:α),(x::l)[j]?=some y→(lt y=true↔j<0):=fun j y hy=>by
    refine⟨fun e=>?_,fun e=>by omega⟩
    rcases zO.1 (zE hy)with rfl|hy
    ·exact absurd e hl
    ·exact absurd (ok.mono x y (h1 y hy) e) hl
   refine⟨0,by simp,hm,?_⟩
   by_cases hi:is x=true
   ·refine .inl ⟨x,rfl,hi,?_,fun n=>?_⟩
    ·rw[dC,if_pos hi,uv is am l fun y hy=>ok.irr x y hi (h1 y hy)]
     omega
    ·unfold kc
     rw[if_neg hl,if_pos hi]
     simp
   ·have hi':is x=false:=by simpa using hi
    refine .inr ⟨fun y hy=>?_,?_,fun n=>?_⟩
    ·simp only[wQ,zB]at hy
     subst hy
     exact hi'
    ·rw[dC,if_neg hi,uv is am l fun y hy=>ok.aft x y hl' hi' (h1 y hy)]
     omega
    ·unfold kc
     rw[if_neg hl,if_neg hi]
     simp
end
open Go.PA
open Go.RowKit
def fP (s:TSecurity):Bool:=
 decide ((1≤s.ID∧s.ID≤1000)∧(1≤s.Unit∧s.Unit≤1000000000)∧(0≤s.Issued∧s.Issued≤36000)∧(s.Issued+30≤s.Maturity∧s.Maturity≤min (s.Issued+18000) 35990)∧(0≤s.Rate∧s.Rate≤20000))&&
  (if s.Every=0 then decide ((s.Maturity-s.Issued)%30=0)&&decide (s.Rate=0)else if s.Every=1∨s.Every=3∨s.Every=6∨s.Every=12 then decide ((s.Maturity-s.Issued)%(30*s.Every)=0)else false)
def i6 (l:List TSecurity) (id:Int):Option TSecurity:=l.find? fun s=>decide (s.ID=id)
def hLt (id h:Int) (x:THolding):Bool:=decide (x.Security<id)||(decide (x.Security=id)&&decide (x.Holder<h))
def hIs (id h:Int) (x:THolding):Bool:=decide (x.Security=id)&&decide (x.Holder=h)
def hMk (id h a:Int):THolding:=⟨id,h,a⟩
def hAm (x:THolding):Int:=x.Amount
def hR (x y:THolding):Prop:=x.Security<y.Security∨(x.Security=y.Security∧x.Holder<y.Holder)
theorem tQ {id h:Int} {x:THolding}:hLt id h x=true↔(x.Security<id∨(x.Security=id∧x.Holder<h)):=by simp[hLt]
theorem gN {id h:Int} {x:THolding}:hIs id h x=true↔(x.Security=id∧x.Holder=h):=by simp[hIs]
theorem qt {id h:Int} {x:THolding}:hLt id h x=false↔¬(x.Security<id∨(x.Security=id∧x.Holder<h)):=by rw[←tQ];simp
theorem yQ {id h:Int} {x:THolding}:hIs id h x=false↔¬(x.Security=id∧x.Holder=h):=by rw[←gN];simp
theorem hOk (id h:Int):KeyOk hR (hLt id h) (hIs id h) (hMk id h) hAm where
 am a:=rfl
 trans x y z h1 h2:=by unfold hR at*;omega
 ltMk x a h1:=by rw[tQ]at h1;unfold hR hMk;dsimp only;omega
 isR x y a h1 h2:=by rw[gN]at h1;unfold hR hMk at*;dsimp only at*;omega
 tri x a h1 h2:=by rw[qt]at h1;rw[yQ]at h2;unfold hR hMk;dsimp only;omega
 mono x y h1 h2:=by rw[tQ]at*;unfold hR at h1;omega
 irr x y h1 h2:=by rw[gN]at h1;rw[yQ];unfold hR at h2;omega
 dis x h1:=by rw[tQ]at h1;rw[yQ];omega
 aft x y h1 h2 h3:=by rw[qt]at h1;rw[yQ]at*;unfold hR at h3;omega
def kD (l:List THolding) (id h n:Int):List THolding:=kc (hLt id h) (hIs id h) (hMk id h) hAm l n
def dY (l:List THolding) (id h:Int):Int:=mE (hIs id h) hAm l
def rJ (id:Int) (x:THolding):Bool:=decide (x.Security=id)
def eY (l:List THolding) (id:Int):Int:=mE (rJ id) hAm l
theorem ul (l:List THolding) (id h n id':Int):eY (kD l id h n) id'=eY l id'+if id=id' then n else 0:=by
 have:=wx (lt:=hLt id h) (is:=hIs id h) (mk:=hMk id h) (am:=hAm) (rJ id') (fun _=>rfl) (decide (id=id')) (fun _=>rfl) (fun x hx=>by rw[gN]at hx;unfold rJ;rw[hx.1]) l n
 unfold eY kD
 rw[this]
 simp
theorem FC {l:List THolding} {id h n:Int} (hs:l.Pairwise hR) (hp:∀x,x∈l→0<x.Amount) (hn:0≤dY l id h+n):∀x,x∈kD l id h n→0<x.Amount:=by
 intro x hx
 obtain⟨k,hk,hm,⟨y,c1,c2,c3,c4⟩|⟨c1,c3,c4⟩⟩:=n5 (hOk id h) hs
 all_goals
  unfold kD at hx
  unfold dY at hn
  rw[c4]at hx
  rw[c3]at hn
  split at hx
 ·rcases wA.1 hx with hx|hx
  ·exact hp x (wV hx)
  ·exact hp x (uB hx)
 ·rcases wA.1 hx with hx|hx
  ·exact hp x (wV hx)
  ·rcases zO.1 hx with rfl|hx
   ·unfold hMk;dsimp only;omega
   ·exact hp x (uB hx)
 ·exact hp x hx
 ·rcases wA.1 hx with hx|hx
  ·exact hp x (wV hx)
  ·rcases zO.1 hx with rfl|hx
   ·unfold hMk;dsimp only;omega
   ·exact hp x (uB hx)
def cP (n:Int):Bool:=decide (1≤n)&&decide (n≤1000)
def cD (m:TMove):Bool:=
 if m.Kind=1 then !decide (m.From=0)||!cP m.To else if m.Kind=2 then !cP m.From||!cP m.To||decide (m.From=m.To)else !cP m.From||!decide (m.To=0)
def goH (l:List THolding) (m:TMove):List THolding:=
 let l1:=if m.From=0 then l else kD l m.Security m.From (-m.Amount)
 if m.To=0 then l1 else kD l1 m.Security m.To m.Amount
def bC (secs:List TSecurity) (l:List THolding) (day:Int) (m:TMove):Int:=
 match i6 secs m.Security with
 |none=>76
 |some s=>
  if¬(max day s.Issued≤m.Day∧m.Day≤if m.Kind=3 then 36000 else s.Maturity)then 8
  else if m.Amount≤0∨1000000000000<m.Amount∨m.Amount%s.Unit≠0 then 79
  else if cD m=true then 6
  else if m.From≠0∧dY l m.Security m.From<m.Amount then 77
  else if m.From=0∧1000000000000<eY l m.Security+m.Amount then 2
  else 0
structure HoldOk (l:List THolding) (N:Nat):Prop where
 srt:l.Pairwise hR
 pos:∀x,x∈l→0<x.Amount
 tot:∀id,eY l id≤1000000000000
 len:l.length≤N
theorem HoldOk.am {l:List THolding} {N:Nat} (h:HoldOk l N) {x:THolding} (hx:x∈l):0<x.Amount∧x.Amount≤1000000000000:=by
 have h1:=(gr (rJ x.Security) hAm l h.pos).2 x hx (by simp[rJ])
 have h2:=h.tot x.Security
 have h3:=h.pos x hx
 unfold eY at h2
 unfold hAm at h1 h2
 omega
structure MoveOk (secs:List TSecurity) (l:List THolding) (day:Int) (m:TMove) (s:TSecurity):Prop where
 sec:i6 secs m.Security=some s
 day:max day s.Issued≤m.Day∧m.Day≤if m.Kind=3 then 36000 else s.Maturity
 am:0<m.Amount∧m.Amount≤1000000000000∧m.Amount%s.Unit=0
 str:cD m=false
 held:m.From≠0→m.Amount≤dY l m.Security m.From
 out:m.From=0→eY l m.Security+m.Amount≤1000000000000
theorem mY {secs:List TSecurity} {l:List THolding} {day:Int} {m:TMove} (h:bC secs l day m=0):∃s,MoveOk secs l day m s:=by
 unfold bC at h
 cases hs:i6 secs m.Security with
 |none=>rw[hs]at h;cases h
 |some s=>
  rw[hs]at h
  dsimp only at h
  by_cases h1:max day s.Issued≤m.Day∧m.Day≤if m.Kind=3 then 36000 else s.Maturity
  ·rw[if_neg (by simpa using h1)]at h
   by_cases h2:m.Amount≤0∨1000000000000<m.Amount∨m.Amount%s.Unit≠0
   ·rw[if_pos h2]at h;cases h
   ·rw[if_neg h2]at h
    by_cases h3:cD m=true
    ·rw[if_pos h3]at h;cases h
    ·rw[if_neg h3]at h
     by_cases h4:m.From≠0∧dY l m.Security m.From<m.Amount
     ·rw[if_pos h4]at h;cases h
     ·rw[if_neg h4]at h
      by_cases h5:m.From=0∧1000000000000<eY l m.Security+m.Amount
      ·rw[if_pos h5]at h;cases h
      ·exact⟨s,hs,h1,by omega,by simpa using h3,fun e=>by have:=fun c=>h4 ⟨e,c⟩;omega,fun e=>by have:=fun c=>h5 ⟨e,c⟩;omega⟩
  ·rw[if_pos h1]at h;cases h
theorem kV {secs:List TSecurity} {l:List THolding} {day:Int} {m:TMove} {s:TSecurity} (h:MoveOk secs l day m s):bC secs l day m=0:=by
 unfold bC
 rw[h.sec]
 dsimp only
 have h2:=h.am
 rw[if_neg (by simpa using h.day),if_neg (by omega),if_neg (by simp[h.str]),if_neg (fun c=>by have:=h.held c.1;omega),if_neg (fun c=>by have:=h.out c.1;omega)]
def n6 (l:List THolding) (id h n:Int):List THolding:=if h=0 then l else kD l id h n
theorem qu {secs:List TSecurity} {l:List THolding} {day:Int} {m:TMove} {s:TSecurity} {N:Nat} (h:HoldOk l N) (hm:MoveOk secs l day m s):HoldOk (n6 l m.Security m.From (-m.Amount)) (N+1)∧(n6 l m.Security m.From (-m.Amount)).length≤l.length+1:=by
 have h0:=h.len
 have am:=hm.am
 unfold n6
 split
 ·exact⟨⟨h.srt,h.pos,h.tot,by omega⟩,by omega⟩
 ·rename_i hf
  have:=hm.held hf
  refine⟨⟨pV (hOk _ _) _ h.srt,FC h.srt h.pos (by omega),fun id=>?_,Nat.le_trans (BL _ _) (by omega)⟩,BL _ _⟩
  rw[ul]
  have:=h.tot id
  split<;>omega
theorem T0 (l:List THolding) (m:TMove):goH l m=n6 (n6 l m.Security m.From (-m.Amount)) m.Security m.To m.Amount:=rfl
theorem UA {secs:List TSecurity} {l:List THolding} {day:Int} {m:TMove} {s:TSecurity} {N:Nat} (h:HoldOk l N) (hm:MoveOk secs l day m s):HoldOk (goH l m) (N+2):=by
 have am:=hm.am
 obtain⟨k1,_⟩:=qu h hm
 rw[T0]
 obtain⟨l1,h1⟩:∃l1,l1=n6 l m.Security m.From (-m.Amount):=⟨_,rfl⟩
 rw[←h1]at k1⊢
 rw[n6]
 split
 ·exact⟨k1.srt,k1.pos,k1.tot,by have:=k1.len;omega⟩
 ·have hh:0≤dY l1 m.Security m.To:=(gr _ hAm l1 k1.pos).1
  refine⟨pV (hOk _ _) _ k1.srt,FC k1.srt k1.pos (by omega),fun id=>?_,Nat.le_trans (BL _ _) (by have:=k1.len;omega)⟩
  rw[ul]
  have ht:=h.tot id
  by_cases hid:m.Security=id
  ·subst hid
   rw[if_pos rfl,h1,n6]
   split
   ·rename_i hf;have:=hm.out hf;omega
   ·rw[ul,if_pos rfl];omega
  ·rw[if_neg hid]
   have:=k1.tot id
   omega
structure RepSt where
 l:List THolding
 n:Nat
 d:Int
def Jj (secs:List TSecurity) (t:RepSt) (m:TMove):Prop:=m.Number=t.n+1∧(1≤m.Kind∧m.Kind≤3)∧bC secs t.l t.d m=0
def tf (t:RepSt) (m:TMove):RepSt:=⟨goH t.l m,t.n+1,m.Day⟩
inductive Runs (secs:List TSecurity):RepSt→List TMove→RepSt→Prop
 |nil {t}:Runs secs t [] t
 |snoc {t u ms m}:Runs secs t ms u→Jj secs u m→Runs secs t (ms++[m]) (tf u m)
def mi:RepSt:=⟨[],0,0⟩
theorem Runs.n {secs:List TSecurity} {t u:RepSt} {ms:List TMove} (h:Runs secs t ms u):u.n=t.n+ms.length:=by
 induction h with
 |nil=>rfl
 |snoc _ _ ih=>simp[tf,ih];omega
theorem Runs.take {secs:List TSecurity} {t u:RepSt} {ms:List TMove} (h:Runs secs t ms u):∀k,∃v,Runs secs t (ms.take k) v∧∀m,ms[k]?=some m→Jj secs v m∧Runs secs t (ms.take (k+1)) (tf v m):=by
 induction h with
 |nil=>exact fun k=>⟨t,by simpa using Runs.nil,fun m hm=>by simp at hm⟩
 |@snoc u ms m hr hs ih=>
  intro k
  rcases Nat.lt_trichotomy k ms.length with hk|hk|hk
  ·obtain⟨v,h1,h2⟩:=ih k
   refine⟨v,by rw[vO (by omega)];exact h1,fun x hx=>?_⟩
   rw[zD hk]at hx
   rw[vO (by omega)]
   exact h2 x hx
  ·subst hk
   refine⟨u,by simpa using hr,fun x hx=>?_⟩
   simp only[zN (zZ _),Nat.sub_self,wQ,zB]at hx
   subst hx
   exact⟨hs,by rw[zQ (by simp)];exact .snoc hr hs⟩
  ·exact⟨_,by rw[zQ (by simp;omega)];exact .snoc hr hs,fun x hx=>by rw[List.getElem?_eq_none (by simp;omega)]at hx;cases hx⟩
theorem Runs.det {secs:List TSecurity} {t u:RepSt} {ms:List TMove} (h:Runs secs t ms u):u=ms.foldl tf t:=by
 induction h with
 |nil=>rfl
 |snoc _ _ ih=>rw[List.foldl_append,←ih];rfl
theorem Runs.ok {secs:List TSecurity} {u:RepSt} {ms:List TMove} (h:Runs secs mi ms u):HoldOk u.l (2*ms.length):=by
 induction h with
 |nil=>
  exact⟨by simp[mi],by simp[mi],fun id=>by simp[mi,eY,mE],by simp[mi]⟩
 |snoc _ hs ih=>
  obtain⟨s,hm⟩:=mY hs.2.2
  have:=UA ih hm
  simpa[tf,Nat.mul_add]using this
def qY:Int→List TSecurity→Bool
 |_,[]=>true
 |p,s::l=>fP s&&decide (p<s.ID)&&qY s.ID l
structure RegOk (r:TRegister) (d:Int):Prop where
 secs:qY 0 r.Securities=true
 slen:r.Securities.length≤20
 run:Runs r.Securities mi r.Moves ⟨r.Holdings,r.Moves.length,d⟩
 mlen:r.Moves.length≤400
def oT (r:TRegister) (m:TMove):TRegister:=⟨r.Securities,goH r.Holdings m,r.Moves++[m]⟩
theorem IZ {r:TRegister} {d:Int} {m:TMove} {s:TSecurity} (h:RegOk r d) (hm:MoveOk r.Securities r.Holdings d m s) (hn:m.Number=(r.Moves.length:Int)+1) (hk:1≤m.Kind∧m.Kind≤3) (hl:r.Moves.length<400):RegOk (oT r m) m.Day where
 secs:=h.secs
 slen:=h.slen
 run:=by
  have:=Runs.snoc h.run (m:=m) ⟨hn,hk,kV hm⟩
  unfold oT
  simp only[tf]at this
  simpa using this
 mlen:=by unfold oT;simp;omega
open Go.PA
open Go.RowKit
theorem Ff (x:Int):PFun Tryz.prog none none 100 [iv x] (·=bv false):=by
 refine ab Tryz.func100 rfl (by simp[Tryz.f100]) (by kernel_rfl) ?_
 intro E hP hr hs hW hN
 simp[go_sem,hP]
def jg (x y:Int):Int:=if x<y then -1 else if y<x then 1 else 0
theorem fe (x y:Int):PFun Tryz.prog none none 36 [iv x,iv y] (·=iv (jg x y)):=by
 refine ab Tryz.func36 rfl (by simp[Tryz.f36]) (by kernel_rfl) ?_
 intro E hP hr hs hW hN
 simp[go_sem,hP]
 refine ai (Ff x) hP RK (ak (by simp[go_sem])) .sc ?_
 simp[go_sem,hP]
 refine ai (Ff y) hP RK (ak (by simp[go_sem])) .sc ?_
 simp[go_sem,hP]
 refine aB ?_ ?_<;>intro h
 ·have h:x<y:=by simpa using h
  simp[go_sem,hP,jg,h]
 ·have h:¬x<y:=by simpa using h
  simp[go_sem,hP]
  refine aB ?_ ?_<;>intro h'
  ·have h':y<x:=by simpa using h'
   simp[go_sem,hP,jg,h,h']
  ·have h':¬y<x:=by simpa using h'
   simp[go_sem,hP,jg,h,h']
def orI:List Int→Int
 |[]=>0
 |x::l=>if x=0 then orI l else x
theorem PC (l:List Int) (k:Nat) (h:k<l.length):orI (l.drop k)=if l[k]=0 then orI (l.drop (k+1))else l[k]:=by
 rw[wE h];rfl
theorem K0 (l:List Int) (hl:l.length≤1000):PFun Tryz.prog none none 35 [aA l] (·=iv (orI l)):=by
 refine ab Tryz.func35 rfl (by simp[Tryz.f35]) (by kernel_rfl) ?_
 intro E hP hr hs hW hN
 simp[go_sem,hP,aA]
 refine az (fun m s=>∃k:Nat,k≤l.length∧m=l.length-k∧orI l=orI (l.drop k)∧s.t 3=iv 0∧s.t 6=aA l∧s.t 7=iv l.length∧s.t 8=iv k) l.length (by rw[hN];rfl) ?_ ?_
 ·exact⟨0,by omega,by omega,by simp,by simp[go_sem],by simp[go_sem,aA],by simp[go_sem],by simp[go_sem]⟩
 rintro m s ⟨k,hk,hm,ho,t3,t6,t7,t8⟩
 simp[go_sem,hP,t7,t8]
 refine aB ?_ ?_<;>intro h
 ·have hk:k<l.length:=by simpa using h
  rw[PC l k hk]at ho
  have w:=ae ((k:Int)+1) (by omega)
  simp[go_sem,hP,t3,t6,t7,t8,aA,hk]
  by_cases h0:l[k]=0
  ·simp[go_sem,hP,h0,t8,w]
   rw[if_pos h0]at ho
   exact⟨l.length-(k+1),by omega,k+1,by omega,rfl,ho,t3,t6,t7,rfl⟩
  ·simp[go_sem,hP,h0]
   rw[if_neg h0]at ho
   exact ho.symm
 ·have hk:l.length≤k:=by simpa using h
  simp[go_sem,hP,t3]
  rw[ho,vH hk]
  rfl
open Go.Shelf
def Fe:Go.Shelf.Ren:=⟨fun|171=>241|243=>298|246=>339|283=>371|284=>372|285=>373|286=>374|129=>401|317=>400|318=>402|319=>403|320=>404|337=>413|338=>414|n=>n,fun|3=>3|9=>9|2=>2|4=>4|171=>422|0=>0|53=>415|37=>390|5=>5|173=>425|212=>446|51=>447|20=>20|213=>448|46=>314|232=>461|233=>462|n=>n,fun|17=>5|18=>6|19=>7|n=>n⟩
theorem S7:Go.Proofs.Lays.n171 Tryz.prog Fe:={
 mixed:=by kernel_rfl
 f129:=Tryz.func401.trans (congrArg some (by kernel_rfl))
 f171:=Tryz.func241.trans (congrArg some (by kernel_rfl))
 f243:=Tryz.func298.trans (congrArg some (by kernel_rfl))
 f246:=Tryz.func339.trans (congrArg some (by kernel_rfl))
 f283:=Tryz.func371.trans (congrArg some (by kernel_rfl))
 f284:=Tryz.func372.trans (congrArg some (by kernel_rfl))
 f285:=Tryz.func373.trans (congrArg some (by kernel_rfl))
 f286:=Tryz.func374.trans (congrArg some (by kernel_rfl))
 f317:=Tryz.func400.trans (congrArg some (by kernel_rfl))
 f318:=Tryz.func402.trans (congrArg some (by kernel_rfl))
 f319:=Tryz.func403.trans (congrArg some (by kernel_rfl))
 f320:=Tryz.func404.trans (congrArg some (by kernel_rfl))
 f337:=Tryz.func413.trans (congrArg some (by kernel_rfl))
 f338:=Tryz.func414.trans (congrArg some (by kernel_rfl))
 t0:=Tryz.underlying0
 a0:=Tryz.isAgg0
 z0:=Tryz.sizeOf0
 v0:=Tryz.zeroValue0
 t2:=Tryz.underlying2
 a2:=Tryz.isAgg2
 z2:=Tryz.sizeOf2
 v2:=Tryz.zeroValue2
 t3:=Tryz.underlying3
 a3:=Tryz.isAgg3
 z3:=Tryz.sizeOf3
 v3:=Tryz.zeroValue3
 t4:=Tryz.underlying4
 a4:=Tryz.isAgg4
 z4:=Tryz.sizeOf4
 v4:=Tryz.zeroValue4
 t5:=Tryz.underlying5
 a5:=Tryz.isAgg5
 z5:=Tryz.sizeOf5
 v5:=Tryz.zeroValue5
 t9:=Tryz.underlying9
 a9:=Tryz.isAgg9
 z9:=Tryz.sizeOf9
 v9:=Tryz.zeroValue9
 t20:=Tryz.underlying20
 a20:=Tryz.isAgg20
 z20:=Tryz.sizeOf20
 v20:=Tryz.zeroValue20
 t37:=Tryz.underlying390
 a37:=Tryz.isAgg390
 z37:=Tryz.sizeOf390
 v37:=Tryz.zeroValue390
 t46:=Tryz.underlying314
 a46:=Tryz.isAgg314
 z46:=Tryz.sizeOf314
 v46:=Tryz.zeroValue314
 t51:=Tryz.underlying447
 a51:=Tryz.isAgg447
 z51:=Tryz.sizeOf447
 v51:=Tryz.zeroValue447
 t53:=Tryz.underlying415
 a53:=Tryz.isAgg415
 z53:=Tryz.sizeOf415
 v53:=Tryz.zeroValue415
 t171:=Tryz.underlying422
 a171:=Tryz.isAgg422
 z171:=Tryz.sizeOf422
 v171:=Tryz.zeroValue422
 t173:=Tryz.underlying425
 a173:=Tryz.isAgg425
 z173:=Tryz.sizeOf425
 v173:=Tryz.zeroValue425
 t212:=Tryz.underlying446
 a212:=Tryz.isAgg446
 z212:=Tryz.sizeOf446
 v212:=Tryz.zeroValue446
 t213:=Tryz.underlying448
 a213:=Tryz.isAgg448
 z213:=Tryz.sizeOf448
 t232:=Tryz.underlying461
 a232:=Tryz.isAgg461
 z232:=Tryz.sizeOf461
 v232:=Tryz.zeroValue461
 t233:=Tryz.underlying462
 a233:=Tryz.isAgg462
 z233:=Tryz.sizeOf462
 v233:=Tryz.zeroValue462
 g17:=by kernel_rfl
 g18:=by kernel_rfl
 g19:=by kernel_rfl}
open Go.RowKit Go.Sort Go.Lib in
theorem strconv_Itoa_small (i:Nat) (hi:i<100) (w:World):
  Calls Tryz.prog 241 #[.int .i64 i] w fun e w'=>e= .returned (.string ⟨(Lib.decDigits i).toArray⟩)∧w'=w:=Any.strconv_Itoa_small S7 i hi w
def ED:Go.Shelf.Ren:=⟨fun|172=>240|244=>296|245=>297|247=>334|279=>335|280=>336|281=>337|282=>338|287=>368|316=>369|171=>241|205=>370|321=>398|322=>399|243=>298|246=>339|283=>371|284=>372|285=>373|286=>374|129=>401|317=>400|318=>402|319=>403|320=>404|337=>413|338=>414|n=>n,fun|9=>9|3=>3|75=>319|76=>320|4=>4|5=>5|167=>389|37=>390|0=>0|85=>391|2=>2|168=>393|53=>415|175=>416|46=>314|210=>420|127=>441|145=>444|143=>442|21=>21|171=>422|173=>425|212=>446|51=>447|20=>20|213=>448|232=>461|233=>462|80=>189|n=>n,fun|15=>0|16=>1|17=>5|18=>6|19=>7|n=>n⟩
theorem Bi:Go.Proofs.LaysC.n172 Tryz.prog ED:={
 mixed:=by kernel_rfl
 f129:=Tryz.func401.trans (congrArg some (by kernel_rfl))
 f171:=Tryz.func241.trans (congrArg some (by kernel_rfl))
 f172:=Tryz.func240.trans (congrArg some (by kernel_rfl))
 f205:=Tryz.func370.trans (congrArg some (by kernel_rfl))
 f243:=Tryz.func298.trans (congrArg some (by kernel_rfl))
 f244:=Tryz.func296.trans (congrArg some (by kernel_rfl))
 f245:=Tryz.func297.trans (congrArg some (by kernel_rfl))
 f246:=Tryz.func339.trans (congrArg some (by kernel_rfl))
 f247:=Tryz.func334.trans (congrArg some (by kernel_rfl))
 f279:=Tryz.func335.trans (congrArg some (by kernel_rfl))
 f280:=Tryz.func336.trans (congrArg some (by kernel_rfl))
 f281:=Tryz.func337.trans (congrArg some (by kernel_rfl))
 f282:=Tryz.func338.trans (congrArg some (by kernel_rfl))
 f283:=Tryz.func371.trans (congrArg some (by kernel_rfl))
 f284:=Tryz.func372.trans (congrArg some (by kernel_rfl))
 f285:=Tryz.func373.trans (congrArg some (by kernel_rfl))
 f286:=Tryz.func374.trans (congrArg some (by kernel_rfl))
 f287:=Tryz.func368.trans (congrArg some (by kernel_rfl))
 f316:=Tryz.func369.trans (congrArg some (by kernel_rfl))
 f317:=Tryz.func400.trans (congrArg some (by kernel_rfl))
 f318:=Tryz.func402.trans (congrArg some (by kernel_rfl))
 f319:=Tryz.func403.trans (congrArg some (by kernel_rfl))
 f320:=Tryz.func404.trans (congrArg some (by kernel_rfl))
 f321:=Tryz.func398.trans (congrArg some (by kernel_rfl))
 f322:=Tryz.func399.trans (congrArg some (by kernel_rfl))
 f337:=Tryz.func413.trans (congrArg some (by kernel_rfl))
 f338:=Tryz.func414.trans (congrArg some (by kernel_rfl))
 t0:=Tryz.underlying0
 a0:=Tryz.isAgg0
 z0:=Tryz.sizeOf0
 v0:=Tryz.zeroValue0
 t2:=Tryz.underlying2
 a2:=Tryz.isAgg2
 z2:=Tryz.sizeOf2
 v2:=Tryz.zeroValue2
 t3:=Tryz.underlying3
 a3:=Tryz.isAgg3
 z3:=Tryz.sizeOf3
 v3:=Tryz.zeroValue3
 t4:=Tryz.underlying4
 a4:=Tryz.isAgg4
 z4:=Tryz.sizeOf4
 v4:=Tryz.zeroValue4
 t5:=Tryz.underlying5
 a5:=Tryz.isAgg5
 z5:=Tryz.sizeOf5
 v5:=Tryz.zeroValue5
 t9:=Tryz.underlying9
 a9:=Tryz.isAgg9
 z9:=Tryz.sizeOf9
 v9:=Tryz.zeroValue9
 t20:=Tryz.underlying20
 a20:=Tryz.isAgg20
 z20:=Tryz.sizeOf20
 v20:=Tryz.zeroValue20
 t21:=Tryz.underlying21
 a21:=Tryz.isAgg21
 z21:=Tryz.sizeOf21
 v21:=Tryz.zeroValue21
 t37:=Tryz.underlying390
 a37:=Tryz.isAgg390
 z37:=Tryz.sizeOf390
 v37:=Tryz.zeroValue390
 t46:=Tryz.underlying314
 a46:=Tryz.isAgg314
 z46:=Tryz.sizeOf314
 v46:=Tryz.zeroValue314
 t51:=Tryz.underlying447
 a51:=Tryz.isAgg447
 z51:=Tryz.sizeOf447
 v51:=Tryz.zeroValue447
 t53:=Tryz.underlying415
 a53:=Tryz.isAgg415
 z53:=Tryz.sizeOf415
 v53:=Tryz.zeroValue415
 t75:=Tryz.underlying319
 a75:=Tryz.isAgg319
 z75:=Tryz.sizeOf319
 v75:=Tryz.zeroValue319
 t76:=Tryz.underlying320
 a76:=Tryz.isAgg320
 z76:=Tryz.sizeOf320
 v76:=Tryz.zeroValue320
 t85:=Tryz.underlying391
 a85:=Tryz.isAgg391
 z85:=Tryz.sizeOf391
 v85:=Tryz.zeroValue391
 t127:=Tryz.underlying441
 a127:=Tryz.isAgg441
 z127:=Tryz.sizeOf441
 v127:=Tryz.zeroValue441
 t143:=Tryz.underlying442
 a143:=Tryz.isAgg442
 z143:=Tryz.sizeOf442
 v143:=Tryz.zeroValue442
 t145:=Tryz.underlying444
 a145:=Tryz.isAgg444
 z145:=Tryz.sizeOf444
 v145:=Tryz.zeroValue444
 t167:=Tryz.underlying389
 a167:=Tryz.isAgg389
 z167:=Tryz.sizeOf389
 v167:=Tryz.zeroValue389
 t168:=Tryz.underlying393
 a168:=Tryz.isAgg393
 z168:=Tryz.sizeOf393
 v168:=Tryz.zeroValue393
 t171:=Tryz.underlying422
 a171:=Tryz.isAgg422
 z171:=Tryz.sizeOf422
 v171:=Tryz.zeroValue422
 t173:=Tryz.underlying425
 a173:=Tryz.isAgg425
 z173:=Tryz.sizeOf425
 v173:=Tryz.zeroValue425
 t175:=Tryz.underlying416
 a175:=Tryz.isAgg416
 z175:=Tryz.sizeOf416
 v175:=Tryz.zeroValue416
 t210:=Tryz.underlying420
 a210:=Tryz.isAgg420
 z210:=Tryz.sizeOf420
 v210:=Tryz.zeroValue420
 t212:=Tryz.underlying446
 a212:=Tryz.isAgg446
 z212:=Tryz.sizeOf446
 v212:=Tryz.zeroValue446
 t213:=Tryz.underlying448
 a213:=Tryz.isAgg448
 z213:=Tryz.sizeOf448
 t232:=Tryz.underlying461
 a232:=Tryz.isAgg461
 z232:=Tryz.sizeOf461
 v232:=Tryz.zeroValue461
 t233:=Tryz.underlying462
 a233:=Tryz.isAgg462
 z233:=Tryz.sizeOf462
 v233:=Tryz.zeroValue462
 g15:=by kernel_rfl
 g16:=by kernel_rfl
 g17:=by kernel_rfl
 g18:=by kernel_rfl
 g19:=by kernel_rfl
 t80:=Tryz.underlying189
 a80:=Tryz.isAgg189
 z80:=Tryz.sizeOf189
 v80:=Tryz.zeroValue189
 i0:=by kernel_rfl
 i2:=by kernel_rfl
 i3:=by kernel_rfl
 i4:=by kernel_rfl
 i5:=by kernel_rfl
 i9:=by kernel_rfl
 i20:=by kernel_rfl
 i21:=by kernel_rfl
 i37:=by kernel_rfl
 i46:=by kernel_rfl
 i51:=by kernel_rfl
 i53:=by kernel_rfl
 i75:=by kernel_rfl
 i76:=by kernel_rfl
 i80:=by kernel_rfl
 i85:=by kernel_rfl
 i127:=by kernel_rfl
 i143:=by kernel_rfl
 i145:=by kernel_rfl
 i167:=by kernel_rfl
 i168:=by kernel_rfl
 i171:=by kernel_rfl
 i173:=by kernel_rfl
 i175:=by kernel_rfl
 i210:=by kernel_rfl
 i212:=by kernel_rfl
 i232:=by kernel_rfl
 i233:=by kernel_rfl
 m15:=by kernel_rfl
 m16:=by kernel_rfl
 m17:=by kernel_rfl
 m18:=by kernel_rfl
 m19:=by kernel_rfl
 c0:=by kernel_rfl
 c2:=by kernel_rfl
 c3:=by kernel_rfl
 c4:=by kernel_rfl
 c5:=by kernel_rfl
 c9:=by kernel_rfl
 c20:=by kernel_rfl
 c21:=by kernel_rfl
 c37:=by kernel_rfl
 c46:=by kernel_rfl
 c51:=by kernel_rfl
 c53:=by kernel_rfl
 c75:=by kernel_rfl
 c76:=by kernel_rfl
 c80:=by kernel_rfl
 c85:=by kernel_rfl
 c127:=by kernel_rfl
 c143:=by kernel_rfl
 c145:=by kernel_rfl
 c167:=by kernel_rfl
 c168:=by kernel_rfl
 c171:=by kernel_rfl
 c173:=by kernel_rfl
 c175:=by kernel_rfl
 c210:=by kernel_rfl
 c212:=by kernel_rfl
 c213:=by kernel_rfl
 c232:=by kernel_rfl
 c233:=by kernel_rfl}
open Go.RowKit in
theorem strconv_Atoi_ok (s:ByteArray) (hmax:s.size≤9223372036854775806) (v:Int) (h:Lib.atoiAll s.data.toList= .ok v) (w:World):
  Calls Tryz.prog 240 #[.string s] w fun e w'=>e= .returned (.tuple #[.int .i64 v,.nilIface])∧(w'=w∨∃t,w'=Lib.bytesWorld w 5 t):=Any.strconv_Atoi_ok Bi s hmax v h w
def GM:Go.Shelf.Ren:=⟨fun|143=>333|219=>367|217=>394|225=>395|224=>396|267=>397|266=>411|314=>412|n=>n,fun|9=>9|3=>3|4=>4|5=>5|46=>314|146=>455|51=>447|n=>n,fun|1=>4|n=>n⟩
theorem Sx:Go.Proofs.Lays.n143 Tryz.prog GM:={
 mixed:=by kernel_rfl
 f143:=Tryz.func333.trans (congrArg some (by kernel_rfl))
 f217:=Tryz.func394.trans (congrArg some (by kernel_rfl))
 f219:=Tryz.func367.trans (congrArg some (by kernel_rfl))
 f224:=Tryz.func396.trans (congrArg some (by kernel_rfl))
 f225:=Tryz.func395.trans (congrArg some (by kernel_rfl))
 f266:=Tryz.func411.trans (congrArg some (by kernel_rfl))
 f267:=Tryz.func397.trans (congrArg some (by kernel_rfl))
 f314:=Tryz.func412.trans (congrArg some (by kernel_rfl))
 t3:=Tryz.underlying3
 a3:=Tryz.isAgg3
 z3:=Tryz.sizeOf3
 v3:=Tryz.zeroValue3
 t4:=Tryz.underlying4
 a4:=Tryz.isAgg4
 z4:=Tryz.sizeOf4
 v4:=Tryz.zeroValue4
 t5:=Tryz.underlying5
 a5:=Tryz.isAgg5
 z5:=Tryz.sizeOf5
 v5:=Tryz.zeroValue5
 t9:=Tryz.underlying9
 a9:=Tryz.isAgg9
 z9:=Tryz.sizeOf9
 v9:=Tryz.zeroValue9
 t46:=Tryz.underlying314
 a46:=Tryz.isAgg314
 z46:=Tryz.sizeOf314
 v46:=Tryz.zeroValue314
 t51:=Tryz.underlying447
 a51:=Tryz.isAgg447
 z51:=Tryz.sizeOf447
 v51:=Tryz.zeroValue447
 t146:=Tryz.underlying455
 a146:=Tryz.isAgg455
 z146:=Tryz.sizeOf455
 v146:=Tryz.zeroValue455
 g1:=by kernel_rfl}
open Go.RowKit Go.Lib in
theorem strings_Index_one (s:ByteArray) (c:UInt8) (w:World):
  Calls Tryz.prog 333 #[.string s,.string ⟨#[c]⟩] w fun e w'=>e= .returned (.int .i64 (Lib.indexByte s.data.toList c))∧w'=w:=Any.strings_Index_one Sx s c w
open Go.PA
open Go.RowKit
abbrev bZ (l:List TSecurity):AV:= .list 7 (ao TSecurity.cells l)
abbrev bn (l:List THolding):AV:= .list 3 (ao THolding.cells l)
abbrev fQ (l:List TMove):AV:= .list 7 (ao TMove.cells l)
theorem cc (x:TSecurity):x.cells=[iv x.ID,iv x.Unit,iv x.Issued,iv x.Maturity,iv x.Rate,iv x.Every,bv x.Indexed]:=rfl
theorem eX (x:THolding):x.cells=[iv x.Security,iv x.Holder,iv x.Amount]:=rfl
theorem eK (x:TMove):x.cells=[iv x.Number,iv x.Day,iv x.Kind,iv x.Security,iv x.From,iv x.To,iv x.Amount]:=rfl
theorem bP (x:TRegister):x.cells=[bZ x.Securities,bn x.Holdings,fQ x.Moves]:=rfl
theorem nc (l:List TSecurity):Imm (bZ l):=aY _ TSecurity.imm _
theorem bg (l:List THolding):Imm (bn l):=aY _ THolding.imm _
theorem tT (l:List TMove):Imm (fQ l):=aY _ TMove.imm _
theorem fh (x:TSecurity):Imm (.agg x.cells):= .agg fun c hc=>x.imm c hc
theorem Ez (x:THolding):Imm (.agg x.cells):= .agg fun c hc=>x.imm c hc
theorem qc (x:TMove):Imm (.agg x.cells):= .agg fun c hc=>x.imm c hc
theorem dI (x:TRegister):Imm (.agg x.cells):= .agg fun c hc=>x.imm c hc
def bet (n lo hi:Int):Bool:=decide (lo≤n)&&decide (n≤hi)
theorem eZ {n lo hi:Int} (h:lo≤n∧n≤hi):bet n lo hi=true:=by simp[bet,h]
theorem El {n lo hi:Int} (h:¬(lo≤n∧n≤hi)):bet n lo hi=false:=by simp[bet];omega
theorem fy (n lo hi:Int):PFun Tryz.prog none none 157 [iv n,iv lo,iv hi] (·=bv (bet n lo hi)):=by
 refine ab Tryz.func157 rfl (by simp[Tryz.f157]) (by kernel_rfl) ?_
 intro E hP hr hs hW hN
 by_cases h1:lo≤n<;>by_cases h2:n≤hi<;>simp[go_sem,hP,h1,h2,bet]
theorem zi (n:Int):PFun Tryz.prog none none 289 [iv n] (·=bv (cP n)):=by
 refine ab Tryz.func289 rfl (by simp[Tryz.f289]) (by kernel_rfl) ?_
 intro E hP hr hs hW hN
 simp[go_sem,hP]
 refine ai (fy n 1 1000) hP kS (ak (by simp[go_sem])) .sc ?_
 simp[go_sem,hP,cP,bet]
theorem jz (n:Int):PFun Tryz.prog none none 116 [iv n] (·=bv (bet n 0 1000000000000)):=by
 refine ab Tryz.func116 rfl (by simp[Tryz.f116]) (by kernel_rfl) ?_
 intro E hP hr hs hW hN
 by_cases h1:0≤n<;>by_cases h2:n≤1000000000000<;>simp[go_sem,hP,h1,h2,bet]
structure SecOk (s:TSecurity):Prop where
 id:1≤s.ID∧s.ID≤1000
 unit:1≤s.Unit∧s.Unit≤1000000000
 iss:0≤s.Issued∧s.Issued≤36000
 mat:s.Issued+30≤s.Maturity∧s.Maturity≤min (s.Issued+18000) 35990
 rate:0≤s.Rate∧s.Rate≤20000
 every:(s.Every=0∧(s.Maturity-s.Issued)%30=0∧s.Rate=0)∨((s.Every=1∨s.Every=3∨s.Every=6∨s.Every=12)∧(s.Maturity-s.Issued)%(30*s.Every)=0)
theorem nh {s:TSecurity} (h:fP s=true):SecOk s:=by
 unfold fP at h
 rw[zG,zI]at h
 obtain⟨⟨h1,h2,h3,h4,h5⟩,h6⟩:=h
 refine⟨h1,h2,h3,h4,h5,?_⟩
 by_cases e:s.Every=0
 ·rw[if_pos e,zG,zI,zI]at h6
  exact .inl ⟨e,h6⟩
 ·rw[if_neg e]at h6
  by_cases e2:s.Every=1∨s.Every=3∨s.Every=6∨s.Every=12
  ·rw[if_pos e2,zI]at h6
   exact .inr ⟨e2,h6⟩
  ·rw[if_neg e2]at h6
   cases h6
theorem yV (s:TSecurity) (h:fP s=true):PFun Tryz.prog none none 92 [.agg s.cells] (·=bv true):=by
 obtain⟨h1,h2,h3,h4,h5,h6⟩:=nh h
 refine ab Tryz.func92 rfl (by simp[Tryz.f92]) (by kernel_rfl) ?_
 intro E hP hr hs hW hN
 have c1:=eZ h1
 have c2:=eZ h2
 have c3:=eZ h3
 have c4:=eZ h4
 have c5:=eZ h5
 have w1:=ae (s.Issued+30) (by omega)
 have w2:=ae (s.Issued+18000) (by omega)
 have w3:=ae (s.Maturity-s.Issued) (by omega)
 have am:LB [iv (s.Issued+18000),iv 35990]=some (iv (min (s.Issued+18000) 35990)):=by simp[LB,jV]
 simp -dsimp -implicitDefEqProofs [go_sem,hP,cc]
 refine ai (fy s.ID 1 1000) hP kS (ak (by simp -dsimp[go_sem])) .sc ?_
 simp -dsimp -implicitDefEqProofs [go_sem,hP,c1]
 refine ai (fy s.Unit 1 1000000000) hP kS (ak (by simp -dsimp[go_sem])) .sc ?_
 simp -dsimp -implicitDefEqProofs [go_sem,hP,c2]
 refine ai (fy s.Issued 0 36000) hP kS (ak (by simp -dsimp[go_sem])) .sc ?_
 simp -dsimp -implicitDefEqProofs [go_sem,hP,c3,w1,w2,am]
 refine ai (fy s.Maturity (s.Issued+30) (min (s.Issued+18000) 35990)) hP kS (ak (by simp -dsimp[go_sem])) .sc ?_
 simp -dsimp -implicitDefEqProofs [go_sem,hP,c4]
 refine ai (fy s.Rate 0 20000) hP kS (ak (by simp -dsimp[go_sem])) .sc ?_
 simp -dsimp -implicitDefEqProofs [go_sem,hP,c5,w3]
 rcases h6 with⟨e,e2,e3⟩|⟨e,e2⟩
 ·have t:(s.Maturity-s.Issued).tmod 30=0:=by rw[wB (by omega)];exact e2
  simp -dsimp -implicitDefEqProofs [go_sem,hP,e,e3,t]
 ·rcases e with e|e|e|e
  ·rw[e]at e2
   have t:(s.Maturity-s.Issued).tmod 30=0:=(wB (by omega)).trans e2
   have w5:IntKind.i64.wrap 30=30:=by decide
   simp -dsimp -implicitDefEqProofs [go_sem,hP,e,t,w5]
  ·rw[e]at e2
   have t:(s.Maturity-s.Issued).tmod 90=0:=(wB (by omega)).trans e2
   have w5:IntKind.i64.wrap 90=90:=by decide
   simp -dsimp -implicitDefEqProofs [go_sem,hP,e,t,w5]
  ·rw[e]at e2
   have t:(s.Maturity-s.Issued).tmod 180=0:=(wB (by omega)).trans e2
   have w5:IntKind.i64.wrap 180=180:=by decide
   simp -dsimp -implicitDefEqProofs [go_sem,hP,e,t,w5]
  ·rw[e]at e2
   have t:(s.Maturity-s.Issued).tmod 360=0:=(wB (by omega)).trans e2
   have w5:IntKind.i64.wrap 360=360:=by decide
   simp -dsimp -implicitDefEqProofs [go_sem,hP,e,t,w5]
end Go.Proofs.YtfbogibogkbhmaaGreatDoor
