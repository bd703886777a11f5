/- Several texts of this claim, joined: PaC Types Facts PlayAll Frame PaArg Args ArgsUse CardLibCf Shelf Split Parts PaFrz PaPf Code Cmp SortFlow Stab0 Pl27 Cash0 Cash1 ClmL RefCode. -/
import Derived.Test.YtaenimpfelpafaaGreatDoorPk2
import Derived.Test.YtaenimpfelpafaaGreatDoorProg
import Derived.KernelRfl
import Derived.WalkSpells
import Derived.WalkLawsBesides
import Derived.Deep.QuietTactic
import Derived.BigQuiet
import Derived.RegionTactic
import Derived.Lib.Hide
import Derived.Test.YtaenimpfelpafaaGreatDoorRows
import Derived.ProofKit
import Derived.Below
import Derived.Carry
import Derived.ChangeSame
import Derived.ChangeMaps5
import Derived.ShutString
import Derived.Stop.LaidErr
import Derived.LaidMore
import Derived.Lay
import Derived.SevenTiedAt
import Derived.Stop.Joined
import Derived.Test.YtaenimpfelpafaaGreatDoorCards
import Derived.Test.YtaenimpfelpafaaGreatDoorTie
import Derived.Shelf.LaysM
import Derived.Shelf.Strconv.Itoa3
import Derived.Shelf.LaysC
import Derived.Shelf.Strconv.AtoiAll
import Derived.Shelf.Strings.Search2
import Derived.Shelf.Strings.Search3
import Derived.RangeFuncBox
import Derived.RangeFuncLeaves
import Derived.Shelf.Abstract
import Derived.WalkKit
import Derived.OwnWalkIn
import Derived.TacticsInMore
import Derived.LoopNIn
import Derived.LoopIn
import Derived.Maps.AppendAt
import Derived.Lib.PathFns
import Derived.Lib.IndexLaws
import Derived.Laws.Rows
import Derived.RangeFuncCalls
set_option linter.unusedSimpArgs false
set_option linter.unusedVariables false
set_option maxRecDepth 4000
namespace Go.PA
open Go.RowKit
def Ml (P:Program) (row src:Option Nat) (f:FuncId) (args:List AV) (ty:TypeId) (k:Nat) (Q:List (List AV)→Prop):Prop:=
 ∀(w:World) (ok:Nat→Prop) (vs:Array Value),(∀b,ok b→b<w.heap.size∧some b≠row)→Inv row src ok w→vs.size=args.length→(∀(i:Nat) (v:Value) (a:AV),vs[i]?=some v→args[i]?=some a→jj w ok v a)→
  Calls P f vs w fun e w'=>∃(b cap:Nat) (es:List (List AV)),e= .returned (.pointer (some ⟨b,0,none⟩))∧Q es∧w.heap.size≤b∧b<w'.heap.size∧(∀e,e∈es→e.length=k)∧
   ua w' (fun _=>none) [] (fun x=>(ok x∨(w.heap.size≤x∧x<w'.heap.size))∧x≠b) ⟨ty,k,es⟩ b cap∧(∀e,e∈es→∀a,a∈e→Imm a)∧w.grownBy w' row∧Inv row src ok w'
def P2 (P:Program) (rs:List ResultVar) (ty:TypeId) (k:Nat) (Q:List (List AV)→Prop):Exit→St→Prop
 | .normal,s| .ret,s=>∃id es,kN P s rs=some (.ref id 0 0)∧s.H[id]?=some (some ⟨ty,k,es⟩)∧(∀e,e∈es→∀a,a∈e→Imm a)∧Q es
 |_,_=>False
theorem DQ {P:Program} {row src:Option Nat} {f:FuncId} {args:List AV} {ty:TypeId} {k:Nat} {Q:List (List AV)→Prop} {fn:Func} {body:Code}
  (hf:P.funcs[f]?=some fn) (hb:fn.body=some body) (hn:args.length≤fn.ntmps) (hc:fW fn.ntmps body=true)
  (h:∀E:Env,E.P=P→E.row=row→E.src=src→(∀b,¬E.W b)→E.N=fn.ntmps→awp E body ⟨bR args,[]⟩ (P2 P fn.results.toList ty k Q)):Ml P row src f args ty k Q:=by
 intro w ok vs h1 h2 h3 h4
 let E:Env:={P:=P,w0:=w,okA:=ok,row:=row,src:=src,N:=fn.ntmps,W:=fun _=>False,ρ0:=fun _=>none,H0:=[]}
 have g:Good E w (fun _=>none) [] ok:=⟨rfl,rfl,rfl,Nat.le_refl _,fun _ _ _ _=>rfl,h2,fun b hb=>⟨(h1 b hb).1,(h1 b hb).2,.inl hb⟩,by simp,by simp,by simp,by simp⟩
 have r:Rel E ⟨bR args,[]⟩ {tmps:=vs++Array.replicate (fn.ntmps-vs.size) undef,defers:=[]} w:=by
  refine⟨fun _=>none,ok,g,Ext.refl _ _ _ _,rfl,by simp[E];omega,fun i=>?_⟩
  simp only[bR]
  rcases Nat.lt_or_ge i args.length with hlt|hge
  ·have e1:args.getD i (.sc undef)=args[i]:=by simp[List.getD,List.getElem?_eq_getElem hlt]
   have hv:vs[i]?=some (vs[i]'(by omega)):=Array.getElem?_eq_getElem (by omega)
   have e2:(vs++Array.replicate (fn.ntmps-vs.size) undef).getD i undef=vs[i]'(by omega):=by
    rw[Array.getD_eq_getD_getElem?,Array.getElem?_append_left (by omega),hv]
    rfl
   rw[e1,e2]
   exact h4 i _ _ hv (List.getElem?_eq_getElem hlt)
  ·have e1:args.getD i (.sc undef)= .sc undef:=by simp[List.getD,List.getElem?_eq_none hge]
   have e2:(vs++Array.replicate (fn.ntmps-vs.size) undef).getD i undef=undef:=by
    rw[Array.getD_eq_getD_getElem?,Array.getElem?_append_right (by omega),Array.getElem?_replicate]
    split<;>rfl
   rw[e1,e2]
   exact .sc
 have hw:=bU (E:=E) body _ _ hc (h E rfl rfl rfl (fun _ h=>h) rfl) _ _ r
 refine calls_of_wp hf hb (wp_mono hw fun e a' w' h'=>?_)
 obtain⟨s',hq,ρ,ok',g',_,hd,_,hr⟩:=h'
 have fin:(∃id es,kN P s' fn.results.toList=some (.ref id 0 0)∧s'.H[id]?=some (some ⟨ty,k,es⟩)∧(∀e,e∈es→∀a,a∈e→Imm a)∧Q es)→a'.defers=[]∧∃v,(results fn a'.tmps).run P w'= .ok v w'∧
   ∃(b cap:Nat) (es:List (List AV)),Ending.returned v= .returned (.pointer (some ⟨b,0,none⟩))∧Q es∧w.heap.size≤b∧b<w'.heap.size∧(∀e,e∈es→e.length=k)∧
   ua w' (fun _=>none) [] (fun x=>(ok x∨(w.heap.size≤x∧x<w'.heap.size))∧x≠b) ⟨ty,k,es⟩ b cap∧(∀e,e∈es→∀a,a∈e→Imm a)∧w.grownBy w' row∧Inv row src ok w':=by
  rintro⟨id,es,hres,ho,hi,hq⟩
  obtain⟨v,hrun,hrep⟩:=pC (E:=E) g' hr hres
  refine⟨hd,v,hrun,?_⟩
  cases hrep with
  |refDead hd' _=>rw[ho]at hd';cases hd'
  |@ref _ _ _ o b cap ho' hρ hcap=>
   rw[ho]at ho'
   simp only[Option.some.injEq]at ho'
   subst ho'
   have hobj:=g'.obj id _ ho
   rw[hρ]at hobj
   obtain⟨a1,a2,a3⟩:=g'.own id _ b cap ho hρ
   have hb1:w.heap.size≤b:=a3.resolve_left (fun h=>h)
   refine⟨b,cap,es,by simp,hq,hb1,hobj.lt,g'.len id _ ho,?_,hi,⟨g'.os,g'.tape,g'.output,g'.size,fun k hk hne=>g'.blk k hk (fun h=>h) hne⟩,⟨h2.1.1,h2.1.2.at g'.inv.1.2⟩,fun p hp=>g'.inv.2 p hp⟩
   obtain⟨cur,c1,c2,c3,c4,c5⟩:=hobj.cells hcap
   refine⟨cur,c1,c2,c3,c4,fun i e j a he ha=>?_⟩
   obtain⟨c,d1,d2,d3⟩:=c5 i e j a he ha
   refine⟨c,d1,d2,d3.imm (fun x hx=>⟨?_,fun e=>a1 (e▸hx)⟩) (hi e (List.mem_of_getElem? he) a (List.mem_of_getElem? ha))⟩
   obtain⟨x1,_,x3⟩:=g'.oks x hx
   exact x3.imp (fun h=>h) fun h=>⟨h,x1⟩
 cases e with
 |normal=>exact fin hq
 |ret=>exact fin hq
 |_=>exact hq.elim
section
variable {E:Env}
theorem G7 {P:Program} {f:FuncId} {args:List AV} {args':List AV} {H:ac} {ty:TypeId} {k:Nat} {Q:List (List AV)→Prop} {C:AV→ac→Prop} {b:Bx C} (h:Ml P E.row E.src f args' ty k Q) (hP:E.P=P) (hen:aa P f=true) (ha:Args H args args') (hn:∀a,a∈args→j7 a=[])
  (hex:∃es,Q es) (hC:∀es,Q es→C (.ref H.length 0 0) (H++[some ⟨ty,k,es⟩])):lR E f args H C b:=by
 subst hP
 obtain⟨es0,hq0⟩:=hex
 refine .inl ⟨hen,⟨_,_,hC es0 hq0⟩,fun w ρ ok vs g hs hr=>?_⟩
 have hr':∀(i:Nat) (v:Value) (a:AV),vs[i]?=some v→args'[i]?=some a→jj w ok v a:=fun i v a' hv ha'=>by
  obtain⟨a,h1,h2,h3⟩:=ha.get i a' ha'
  refine ((kl (fun _=>False) g (hr i v a hv h1) h3 (fun id hid=>?_)).weak h2).ext ⟨by simp,by simp,?_,fun _ _=>rfl⟩
  ·rw[hn a (List.mem_of_getElem? h1)]at hid;cases hid
  ·rintro b (hb|⟨_,_,_,hf,_⟩)
   ·exact hb
   ·exact hf.elim
 refine (h w ok vs (fun b hb=>⟨(g.oks b hb).1,(g.oks b hb).2.1⟩) g.inv (hs.trans ha.len) hr').mono ?_
 rintro e w' ⟨b,cap,es,rfl,hq,hb1,hb2,hlen,hobj,hi,hg,hinv⟩
 obtain⟨g1,x1⟩:=g.call (ok':=fun x=>(ok x∨(w.heap.size≤x∧x<w'.heap.size))∧x≠b) hg hinv (fun x hx=>⟨.inl hx,fun e=>by have:=(g.oks x hx).1;omega⟩) (fun x hx=>hx.1)
 have hcm:cap≤maxLen:=hobj.choose_spec.2.2.2.1
 have hobj':ObjOk w' ρ H (fun x=>(ok x∨(w.heap.size≤x∧x<w'.heap.size))∧x≠b) ⟨ty,k,es⟩ (some (b,cap)):=by
  obtain⟨cur,c1,c2,c3,c4,c5⟩:=hobj
  refine .inl ⟨cur,c1,c2,c3,c4,fun i e j a he ha=>?_⟩
  obtain⟨c,d1,d2,d3⟩:=c5 i e j a he ha
  exact⟨c,d1,d2,d3.imm (fun x hx=>hx) (hi e (List.mem_of_getElem? he) a (List.mem_of_getElem? ha))⟩
 obtain⟨g2,x2⟩:=g1.add ⟨ty,k,es⟩ (some (b,cap)) hobj' hlen (fun b' c' h'=>by
  simp only[Option.some.injEq,Prod.mk.injEq]at h'
  obtain⟨rfl,rfl⟩:=h'
  refine⟨fun hx=>hx.2 rfl,fun id o c ho hρ=>?_,fun hrow=>?_,.inr (Nat.le_trans g.size hb1)⟩
  ·have:=g.obj id o ho
   rw[hρ]at this
   have:=this.lt
   omega
  ·have:=g.row_lt hrow.symm
   omega)
 refine⟨_,.ref H.length 0 0,H++[some ⟨ty,k,es⟩],_,_,rfl,hC es hq,g2,x1.trans x2,?_⟩
 have:=Rep.ref (w:=w') (ρ:=fH ρ H.length (some (b,cap))) (H:=H++[some ⟨ty,k,es⟩]) (ok:=fun x=>(ok x∨(w.heap.size≤x∧x<w'.heap.size))∧x≠b) (id:=H.length) (i:=0) (j:=0) (o:=⟨ty,k,es⟩) (b:=b) (cap:=cap) cS (by simp[fH]) hcm
 simpa using this
theorem pY {w:World} {ρ:aU} {H:ac} {ok:Nat→Prop} {xs:List Int} {v:Value} (r:Rep w ρ H ok v (.list 1 (xs.map fun x=>[.sc (.int .i64 x)]))):
  ∃A c,v= .slice A xs.length c∧∀i,i<xs.length→∃ad,A=some ad∧ok ad.block∧∃x,x∈xs∧w.cell? (ad.add i)=some (.int .i64 x):=by
 generalize hes:xs.map (fun x=>[AV.sc (.int .i64 x)])=es at r
 cases r with
 |listNil=>simp at hes;subst hes;exact⟨_,_,rfl,by simp⟩
 |@list ad n c _ _ f hn hnc hok hk hc h1 hr=>
  subst hes
  refine⟨some ad,c,by simp at hn;rw[hn],fun i hi=>⟨ad,rfl,hok,xs[i],List.getElem_mem hi,?_⟩⟩
  have he:(xs.map (fun x=>[AV.sc (.int .i64 x)]))[i]?=some [.sc (.int .i64 xs[i])]:=by simp[List.getElem?_map,List.getElem?_eq_getElem hi]
  have:=hr i _ 0 _ he rfl
  have e:=cI this
  have h2:=hc i _ 0 _ he rfl
  rw[e]at h2
  simpa using h2
theorem Dl {c:Code} {s:St} {Q:Exit→St→Prop} (j id0:Nat) {ty:TypeId} {xs:List Int} {at_:Nat} (hrow:E.row=none) (hsrc:E.src=none) (ht:s.t j= .ref id0 0 0) (h0:s.H[id0]?=some (some ⟨ty,2,[[.list 1 (xs.map fun x=>[.sc (.int .i64 x)]),.sc (.int .i64 at_)]]⟩))
  (hat:at_≤xs.length) (hl:xs.length≤900) (hx:∀x,x∈xs→ -9223372036854775808≤x∧x≤9223372036854775807)
  (h:∀(E':Env) (p:Nat),E'.P=E.P→E'.row=some p→E'.N=E.N→(∀b',E'.W b'→∃(id:Nat) (o:AObj),(s.H.set id0 none)[id]?=some (some o))→AWp E' c ⟨upd s.t j (.sc (.pointer (some ⟨p,0,none⟩))),s.H.set id0 none⟩ Q):AWp E c s Q:=by
 rintro a w ⟨ρ,ok,g,hx0,hd,hs,hr⟩
 have hv:=hr j
 rw[ht]at hv
 obtain⟨o,b,cap,ho,hρ,hcap,hve⟩:∃o b cap,s.H[id0]?=some (some o)∧ρ id0=some (b,cap)∧cap≤maxLen∧a.tmps.getD j undef= .pointer (some ⟨b,0*o.k+0,none⟩):=by
  generalize hgen:a.tmps.getD j undef=v at hv
  cases hv with
  |ref ho hρ hcap=>exact⟨_,_,_,ho,hρ,hcap,rfl⟩
  |refDead hd _=>rw[h0]at hd;cases hd
 rw[h0]at ho
 simp only[Option.some.injEq]at ho
 subst ho
 have hobj:=g.obj id0 _ h0
 rw[hρ]at hobj
 obtain⟨hb1,_,hb3⟩:=g.own id0 _ b cap h0 hρ
 have hblt:=hobj.lt
 obtain⟨cur,c1,c2,c3,c4,c5⟩:=hobj.cells hcap
 obtain⟨v0,d1,d2,d3⟩:=c5 0 _ 0 _ rfl rfl
 obtain⟨v1,e1,e2,e3⟩:=c5 0 _ 1 _ rfl rfl
 obtain⟨A,c',rfl,hA⟩:=pY d3
 have e3:=cI e3
 subst e3
 have hlt0:id0<s.H.length:=(gsI h0)
 have old:∀(id:Nat) (o:AObj),(s.H.set id0 none)[id]?=some (some o)→¬id0=id∧s.H[id]?=some (some o):=fun id o ho=>by
  rw[List.getElem?_set]at ho
  split at ho
  ·rename_i he
   first|(cases ho;done)|(split at ho<;>cases ho)
  ·rename_i he
   exact⟨he,ho⟩
 let src:Option Nat:=if 0<xs.length then A.map (·.block)else none
 let E':Env:={P:=E.P,w0:=w,okA:=ok,row:=some b,src:=src,N:=E.N,W:=fun b'=>∃id o c,(s.H.set id0 none)[id]?=some (some o)∧ρ id=some (b',c),ρ0:=ρ,H0:=s.H.set id0 none}
 have hsok:∀b',src=some b'→ok b':=fun b' hb'=>by
  simp only[src]at hb'
  split at hb'
  ·rename_i h0
   obtain⟨ad,rfl,hk,_⟩:=hA 0 h0
   simp at hb'
   exact hb'▸hk
  ·cases hb'
 have hS:M1 src w b:=by
  refine⟨cur,A,xs.length,c',at_,ty,⟨c1,by simpa using d1,by simpa using e1⟩,hat,hl,fun i hi=>?_⟩
  obtain⟨ad,rfl,hk,x,hxm,hc⟩:=hA i hi
  refine⟨ad,x,rfl,?_,fun e=>hb1 (e▸hk),hc,hx x hxm⟩
  simp only[src]
  rw[if_pos (by omega)]
  rfl
 have hext:Ext w ρ s.H ok w ρ (s.H.set id0 none) ok:=by
  refine⟨fun id o ho=>?_,fun id ho=>?_,fun _ h=>h,fun _ _=>rfl⟩
  ·by_cases he:id0=id
   ·subst he
    exact .inl (List.getElem?_set_self hlt0)
   ·exact .inr ⟨o,by rw[List.getElem?_set_ne he];exact ho,rfl,rfl,Nat.le_refl _⟩
  ·by_cases he:id0=id
   ·subst he
    exact List.getElem?_set_self hlt0
   ·rw[List.getElem?_set_ne he];exact ho
 have gE:Good E' w ρ (s.H.set id0 none) ok:=by
  refine⟨rfl,rfl,rfl,Nat.le_refl _,fun _ _ _ _=>rfl,⟨⟨hsok,g.inv.1.2⟩,fun p hp=>?_⟩,fun b' hb'=>⟨(g.oks b' hb').1,fun e=>?_,.inl hb'⟩,fun id o b' c ho hρ'=>?_,fun id o b' c id' o' c' ho hρ1 ho' hρ2=>?_,fun id o ho=>g.len id o (old id o ho).2,fun id o ho=>?_⟩
  ·cases hp;exact hS
  ·simp only[E',Option.some.injEq]at e
   subst e
   exact hb1 hb'
  ·obtain⟨hne,ho1⟩:=old id o ho
   refine⟨(g.own id o b' c ho1 hρ').1,fun e=>?_,.inl ⟨id,o,c,ho,hρ'⟩⟩
   simp only[E',Option.some.injEq]at e
   subst e
   exact hne (g.inj id0 _ b' cap id o c h0 hρ ho1 hρ')
  ·exact g.inj id o b' c id' o' c' (old id o ho).2 hρ1 (old id' o' ho').2 hρ2
  ·exact (g.obj id o (old id o ho).2).ext hext (fun _ _ _=>rfl)
 have rE:Rel E' ⟨upd s.t j (.sc (.pointer (some ⟨b,0,none⟩))),s.H.set id0 none⟩ a w:=by
  refine⟨ρ,ok,gE,Ext.refl _ _ _ _,hd,hs,fun i=>?_⟩
  simp only[upd]
  split
  ·rename_i hi
   subst hi
   rw[hve]
   simp only[Nat.zero_mul,Nat.zero_add]
   exact .sc
  ·exact (hr i).ext hext
 have wold:∀b',E'.W b'→E.W b'∨E.w0.heap.size≤b':=fun b' ⟨id,o,c,ho,hρ'⟩=>(g.own id o b' c (old id o ho).2 hρ').2.2
 refine wp_mono (h E' b rfl rfl rfl (fun _ hb'=>hb'.imp fun _ h1=>h1.imp fun _ h2=>h2.choose_spec.1) a w rE) fun e a' w' h'=>?_
 obtain⟨s',hq,ρ',ok',g',hx',hd',hs',hr'⟩:=h'
 refine⟨s',hq,ρ',ok',⟨g'.os.trans g.os,g'.tape.trans g.tape,g'.output.trans g.output,Nat.le_trans g.size g'.size,fun b' hb' hW' hr'=>?_,⟨⟨fun b' hb'=>(by rw[hsrc]at hb';cases hb'),g'.inv.1.2⟩,fun p hp=>(by rw[hrow]at hp;cases hp)⟩,fun b' hb'=>?_,fun id o b' c ho hρ=>?_,g'.inj,g'.len,g'.obj⟩,(hx0.trans hext).trans hx',hd',hs',hr'⟩
 ·refine (g'.blk b' (Nat.lt_of_lt_of_le hb' g.size) (fun h=>?_) (fun e=>?_)).trans (g.blk b' hb' hW' hr')
  ·rcases wold b' h with h|h
   ·exact hW' h
   ·omega
  ·simp only[E',Option.some.injEq]at e
   subst e
   rcases hb3 with h|h
   ·exact hW' h
   ·omega
 ·obtain⟨x1,x2,x3⟩:=g'.oks b' hb'
  refine⟨x1,by rw[hrow];simp,?_⟩
  rcases x3 with x3|x3
  ·exact (g.oks b' x3).2.2
  ·exact .inr (Nat.le_trans g.size x3)
 ·obtain⟨x1,x2,x3⟩:=g'.own id o b' c ho hρ
  refine⟨x1,by rw[hrow];simp,?_⟩
  rcases x3 with x3|x3
  ·exact wold b' x3
  ·exact .inr (Nat.le_trans g.size x3)
theorem bG {a b:Code} {s:St} {Q:Exit→St→Prop} (hc:fW E.N a=true) (h:awp E a s (wK (fun s'=>AWp E b s' Q) Q)):AWp E (.seq a b) s Q:=by
 intro x w r
 refine wp_seq (wp_mono (bU a s _ hc h x w r) fun e a' w' h'=>?_)
 obtain⟨s',h1,h2⟩:=h'
 cases e with
 |normal=>exact h1 a' w' h2
 |_=>exact⟨s',h1,h2⟩
end
theorem eV {P:Program} {row src:Option Nat} {f:FuncId} {args:List AV} {Q:AV→Prop} {fn:Func} {body:Code}
  (hf:P.funcs[f]?=some fn) (hb:fn.body=some body) (hn:args.length≤fn.ntmps)
  (h:∀E:Env,E.P=P→E.row=row→E.src=src→(∀b,¬E.W b)→E.N=fn.ntmps→AWp E body ⟨bR args,[]⟩ (xA P fn.results.toList Q)):PFun P row src f args Q:=by
 have key:∀E:Env,E.P=P→E.row=row→E.src=src→(∀b,¬E.W b)→E.N=fn.ntmps→AWp E body ⟨bR args,[]⟩ (xA P fn.results.toList Q):=h
 exact sX hf hb hn key
open Go.RowKit
def AM (P:Program) (rs:List ResultVar) (C:AV→ac→Prop):Exit→St→Prop
 | .normal,s| .ret,s=>match kN P s rs with
  |some r=>C r s.H
  |none=>False
 |_,_=>False
def MFun (P:Program) (row src:Option Nat) (f:FuncId) (args:List AV) (H:ac) (C:AV→ac→Prop):Prop:=
 ∀E:Env,E.P=P→E.row=row→E.src=src→ACall E f args H C
theorem MFun.mono {P:Program} {row src:Option Nat} {f:FuncId} {args:List AV} {H:ac} {C D:AV→ac→Prop} (h:MFun P row src f args H C) (hd:∀x H',C x H'→D x H'):MFun P row src f args H D:=
 fun E h1 h2 h3=>(h E h1 h2 h3).mono hd
theorem sR {P:Program} {row src:Option Nat} {f:FuncId} {args:List AV} {H:ac} {C:AV→ac→Prop} {fn:Func} {body:Code}
  (hf:P.funcs[f]?=some fn) (hb:fn.body=some body) (hn:args.length≤fn.ntmps) (hex:∃x H',C x H')
  (h:∀E:Env,E.P=P→E.row=row→E.src=src→E.N=fn.ntmps→AWp E body ⟨bR args,H⟩ (AM P fn.results.toList C)):MFun P row src f args H C:=by
 intro E hP hrow hsrc
 refine⟨hex,fun w ρ ok vs g hsz hrep=>?_⟩
 subst hP;subst hrow;subst hsrc
 let E':Env:={P:=E.P,w0:=w,okA:=ok,row:=E.row,src:=E.src,N:=fn.ntmps,W:=fun b=>∃id o c,H[id]?=some (some o)∧ρ id=some (b,c),ρ0:=ρ,H0:=H}
 have gE:Good E' w ρ H ok:=⟨rfl,rfl,rfl,Nat.le_refl _,fun _ _ _ _=>rfl,g.inv,fun b hb=>⟨(g.oks b hb).1,(g.oks b hb).2.1,.inl hb⟩,fun id o b c ho hρ=>⟨(g.own id o b c ho hρ).1,(g.own id o b c ho hρ).2.1,.inl ⟨id,o,c,ho,hρ⟩⟩,g.inj,g.len,g.obj⟩
 have r:Rel E' ⟨bR args,H⟩ {tmps:=vs++Array.replicate (fn.ntmps-vs.size) undef,defers:=[]} w:=by
  refine⟨ρ,ok,gE,Ext.refl _ _ _ _,rfl,by simp[E'];omega,fun i=>?_⟩
  simp only[bR]
  rcases Nat.lt_or_ge i args.length with hlt|hge
  ·have e1:args.getD i (.sc undef)=args[i]:=by simp[List.getD,List.getElem?_eq_getElem hlt]
   have hv:vs[i]?=some (vs[i]'(by omega)):=Array.getElem?_eq_getElem (by omega)
   have e2:(vs++Array.replicate (fn.ntmps-vs.size) undef).getD i undef=vs[i]'(by omega):=by
    rw[Array.getD_eq_getD_getElem?,Array.getElem?_append_left (by omega),hv]
    rfl
   rw[e1,e2]
   exact hrep i _ _ hv (List.getElem?_eq_getElem hlt)
  ·have e1:args.getD i (.sc undef)= .sc undef:=by simp[List.getD,List.getElem?_eq_none hge]
   have e2:(vs++Array.replicate (fn.ntmps-vs.size) undef).getD i undef=undef:=by
    rw[Array.getD_eq_getD_getElem?,Array.getElem?_append_right (by omega),Array.getElem?_replicate]
    split<;>rfl
   rw[e1,e2]
   exact .sc
 refine calls_of_wp hf hb (wp_mono (h E' rfl rfl rfl rfl _ _ r) fun e a' w' h'=>?_)
 obtain⟨s',hq,ρ',ok',g',hx',hd,_,hr⟩:=h'
 have gF:Good E w' ρ' s'.H ok':=by
  have hnW:∀b,b<E.w0.heap.size→¬E.W b→¬E'.W b:=fun b hb hW ⟨id,o,c,ho,hρ⟩=>by
   rcases (g.own id o b c ho hρ).2.2 with h|h
   ·exact hW h
   ·omega
  refine⟨g'.os.trans g.os,g'.tape.trans g.tape,g'.output.trans g.output,Nat.le_trans g.size g'.size,fun b hb hW hr'=>(g'.blk b (Nat.lt_of_lt_of_le hb g.size) (hnW b hb hW) hr').trans (g.blk b hb hW hr'),g'.inv,fun b hb=>?_,fun id o b c ho hρ=>?_,g'.inj,g'.len,g'.obj⟩
  ·obtain⟨x1,x2,x3⟩:=g'.oks b hb
   refine⟨x1,x2,?_⟩
   rcases x3 with x3|x3
   ·exact (g.oks b x3).2.2
   ·exact .inr (Nat.le_trans g.size x3)
  ·obtain⟨x1,x2,x3⟩:=g'.own id o b c ho hρ
   refine⟨x1,x2,?_⟩
   rcases x3 with⟨id',o',c',ho',hρ'⟩|x3
   ·exact (g.own id' o' b c' ho' hρ').2.2
   ·exact .inr (Nat.le_trans g.size x3)
 have fin:∀{r:AV},kN E.P s' fn.results.toList=some r→C r s'.H→a'.defers=[]∧∃v,(results fn a'.tmps).run E.P w'= .ok v w'∧
   ∃(v':Value) (x:AV) (H':ac) (ρ':aU) (ok':Nat→Prop),Ending.returned v= .returned v'∧C x H'∧Good E w' ρ' H' ok'∧Ext w ρ H ok w' ρ' H' ok'∧Rep w' ρ' H' ok' v' x:=by
  intro r hres hc
  obtain⟨v,hrun,hrep'⟩:=pC (E:=E) gF hr hres
  exact⟨hd,v,hrun,v,r,s'.H,ρ',ok',rfl,hc,gF,hx',hrep'⟩
 cases e with
 |normal=>
  simp only[AM]at hq
  split at hq
  ·rename_i r hres;exact fin hres hq
  ·exact hq.elim
 |ret=>
  simp only[AM]at hq
  split at hq
  ·rename_i r hres;exact fin hres hq
  ·exact hq.elim
 |_=>exact hq.elim
theorem aI {P:Program} {row src:Option Nat} {f:FuncId} {args:List AV} {H:ac} {C:AV→ac→Prop} {fn:Func} {body:Code}
  (hf:P.funcs[f]?=some fn) (hb:fn.body=some body) (hn:args.length≤fn.ntmps) (hc:fW fn.ntmps body=true) (hex:∃x H',C x H')
  (h:∀E:Env,E.P=P→E.row=row→E.src=src→E.N=fn.ntmps→awp E body ⟨bR args,H⟩ (AM P fn.results.toList C)):MFun P row src f args H C:=
 sR hf hb hn hex fun E h1 h2 h3 h5=>bU body _ _ (h5▸hc) (h E h1 h2 h3 h5)
theorem Oh {P:Program} {rs:List ResultVar} {C:AV→ac→Prop} {s:St}:AM P rs C .ret s=OB (kN P s rs) (fun r=>C r s.H) .mk:=by
 simp only[AM]
 cases kN P s rs<;>rfl
theorem G2 {P:Program} {rs:List ResultVar} {C:AV→ac→Prop} {s:St}:AM P rs C .normal s=OB (kN P s rs) (fun r=>C r s.H) .mk:=by
 simp only[AM]
 cases kN P s rs<;>rfl
attribute [go_sem ↓] Oh G2
theorem aM {E:Env} {f:FuncId} {args:List AV} {H:ac} {C C':AV→ac→Prop} {b:Bx C} {P:Program} (h:MFun P E.row E.src f args H C') (hP:E.P=P) (hen:aa P f=true) (hC:∀r H',C' r H'→C r H'):lR E f args H C b:=
 .inl ⟨hP▸hen,(h E hP rfl rfl).mono hC⟩
def Kept (X:List Nat) (H H':ac):Prop:=∀j o,j∉X→H[j]?=some (some o)→H'[j]?=some (some o)
theorem au (X:List Nat) (H:ac):Kept X H H:=fun _ _ _ h=>h
theorem Kept.trans {X:List Nat} {H H' H'':ac} (h:Kept X H H') (k:Kept X H' H''):Kept X H H'':=fun j o hj ho=>k j o hj (h j o hj ho)
theorem eQ {X:List Nat} {H H':ac} (x:Option AObj) (h:Kept X H H'):Kept X H (H'++[x]):=fun j o hj ho=>by
 have:=h j o hj ho
 rw[List.getElem?_append_left (gsI this)]
 exact this
theorem aK (X:List Nat) (H l:ac):Kept X H (H++l):=fun j o _ ho=>by
 rw[List.getElem?_append_left (gsI ho)]
 exact ho
theorem bK {X:List Nat} {H H':ac} {i:Nat} (x:Option AObj) (hi:i∈X) (h:Kept X H H'):Kept X H (H'.set i x):=fun j o hj ho=>by
 rw[List.getElem?_set_ne (by rintro rfl;exact hj hi)]
 exact h j o hj ho
theorem uZ {X:List Nat} {H H':ac} {i:Nat} (x:Option AObj) (hi:H.length≤i) (h:Kept X H H'):Kept X H (H'.set i x):=fun j o hj ho=>by
 have:=(gsI ho)
 rw[List.getElem?_set_ne (by omega)]
 exact h j o hj ho
theorem Kept.mono {X Y:List Nat} {H H':ac} (h:Kept X H H') (hs:∀x,x∈X→x∈Y):Kept Y H H':=fun j o hj ho=>h j o (fun hx=>hj (hs _ hx)) ho
theorem qm {P:Program} {row src:Option Nat} {f:FuncId} {args args':List AV} {Q:AV→Prop} {H:ac} (h:PFun P row src f args' Q) (ha:Args H args args') (hex:∃r,Q r) (hfl:∀r,Q r→Flat r):MFun P row src f args H (fun r H'=>Q r∧H'=H):=by
 intro E hP hrow hsrc
 subst hrow;subst hsrc
 exact my args' hP h ha hex hfl fun r hr=>⟨hr,rfl⟩
theorem kY {P:Program} {row src:Option Nat} {f:FuncId} {args:List AV} {k:Nat} {H:ac} {C:AV→ac→Prop} (h:∀A c,MFun P row src f (.sc (.slice A 0 c)::args) H C):MFun P row src f (.list k []::args) H C:=by
 intro E hP hrow hsrc
 refine⟨(h none 0 E hP hrow hsrc).1,fun w ρ ok vs g hs hr=>?_⟩
 have h0:0<vs.size:=by rw[hs];simp
 have hv:=hr 0 vs[0] (.list k []) (Array.getElem?_eq_getElem h0) rfl
 have key:∃A c,vs[0]= .slice A 0 c:=by
  generalize vs[0]=v at hv
  cases hv with
  |listNil=>exact⟨_,_,rfl⟩
  |list f hn _ _ _ _ _ _=>subst hn;exact⟨_,_,rfl⟩
 obtain⟨A,c,hA⟩:=key
 refine (h A c E hP hrow hsrc).2 w ρ ok vs g hs fun i v a hv ha=>?_
 match i,hv,ha with
 |0,hv,ha=>
  rw[Array.getElem?_eq_getElem h0,hA]at hv
  simp at hv ha
  subst hv;subst ha
  exact .sc
 |i+1,hv,ha=>exact hr (i+1) v a hv ha
theorem MFun.ownNil {P:Program} {row src:Option Nat} {f:FuncId} {args:List AV} {H:ac} {C:AV→ac→Prop} (ty:TypeId) (k:Nat) (h:MFun P row src f args H C):
  MFun P row src f args H (fun r H'=>(∃H0,C .nil H0∧r= .sref H0.length 0 0∧H'=H0++[some ⟨ty,k,[]⟩])∨(r≠ .nil∧C r H')):=by
 intro E hP hrow hsrc
 obtain⟨⟨x0,H0,h0⟩,hw⟩:=h E hP hrow hsrc
 refine⟨?_,fun w ρ ok vs g hs hr=>(hw w ρ ok vs g hs hr).mono ?_⟩
 ·by_cases hx:x0= .nil
  ·subst hx;exact⟨_,_,.inl ⟨H0,h0,rfl,rfl⟩⟩
  ·exact⟨_,_,.inr ⟨hx,h0⟩⟩
 ·rintro e w' ⟨v,x,H',ρ',ok',rfl,hc,g',x',r'⟩
  by_cases hx:x= .nil
  ·subst hx
   obtain⟨g2,x2⟩:=g'.add ⟨ty,k,[]⟩ none rfl (by simp) (by simp)
   refine⟨v,_,_,_,_,rfl,.inl ⟨H',hc,rfl,rfl⟩,g2,x'.trans x2,?_⟩
   cases r'
   exact .srefNil cS (by simp[fH])
  ·exact⟨v,x,H',ρ',ok',rfl,.inr ⟨hx,hc⟩,g',x',r'⟩
def SlIs (H:ac) (x:AV) (k:Nat) (es:List (List AV)):Prop:=x= .list k es∨(x= .nil∧es=[])∨∃id ty,x= .sref id 0 es.length∧H[id]?=some (some ⟨ty,k,es⟩)
theorem SlIs.kept {H H':ac} {x:AV} {k:Nat} {es:List (List AV)} (h:SlIs H x k es) (hk:Kept [] H H'):SlIs H' x k es:=by
 rcases h with h|h|⟨id,ty,h1,h2⟩
 ·exact .inl h
 ·exact .inr (.inl h)
 ·exact .inr (.inr ⟨id,ty,h1,hk id _ (by simp) h2⟩)
theorem SlIs.len {H:ac} {x:AV} {k:Nat} {es:List (List AV)} (h:SlIs H x k es):kg H x=some (es.length:Int):=by
 rcases h with h|⟨rfl,rfl⟩|⟨id,ty,rfl,h2⟩
 ·subst h;rfl
 ·rfl
 ·simp only[kg,h2]
theorem SlIs.idx {P:Program} {t e:TypeId} {H:ac} {x:AV} {k:Nat} {es:List (List AV)} (h:SlIs H x k es) (ht:Go.PA.aN P t=some e) (hk:k=aq P e) (hn:aA P e=true) (i:Nat) (hi:i<es.length):
  ∃a,bL P t H x i=some a∧aJ H a=some es[i]:=by
 rcases h with h|⟨rfl,rfl⟩|⟨id,ty,rfl,h2⟩
 ·subst h
  refine⟨.iref es[i],?_,rfl⟩
  rw[wv ht]
  simp[hk,hn,hi]
 ·simp at hi
 ·refine⟨.ref id i 0,?_,?_⟩
  ·rw[vH ht]
   simp[h2,hk,hn,hi]
  ·rw[u4]
   simp[h2,hi]
theorem w4 {E:Env} {s:St} (hW:∀b,¬E.W b) (j:Nat) {id lo n:Nat} {o:AObj} (hj:s.t j= .sref id lo n) (ho:s.H[id]?=some (some o)) (hi:Imm (.list o.k ((o.es.drop lo).take n))):
  Weaker E s ⟨upd s.t j (.list o.k ((o.es.drop lo).take n)),s.H.set id none⟩:=by
 rintro a w ⟨ρ,ok,g,hx,hd,hs,hr⟩
 obtain⟨g',x'⟩:=g.kill id (fun b=>ok b∨∃o c,s.H[id]?=some (some o)∧ρ id=some (b,c)) (fun _ h=> .inl h) (fun b hb=>hb.imp (fun h=>h) fun⟨o,c,h1,h2⟩=>⟨o,c,h1,h2,hW b⟩)
 refine⟨ρ,_,g',hx.trans x',hd,hs,fun i=>?_⟩
 simp only[upd]
 split
 ·rename_i hij
  subst hij
  have hv:=hr i
  have hview:dv s.H (s.t i)= .list o.k ((o.es.drop lo).take n):=by rw[hj,gB,ho,gq]
  have:=kl (fun x=>x=id) g hv (by rw[hview];exact hi) (fun x hx=>by rw[hj]at hx;simpa[j7,rL,kP]using hx)
  rw[hview]at this
  refine this.imm (fun b hb=>?_) hi
  rcases hb with hb|⟨x,o',c,rfl,h1,h2⟩
  ·exact .inl hb
  ·exact .inr ⟨o',c,h1,h2⟩
 ·exact (hr i).ext x'
def zB (j n:Nat) (I:Nat→St→Prop) (Q:Exit→St→Prop) (_:Bx (I,Q)):Exit→St→Prop
 | .normal,s'=>∃n',n'<n∧I n' s'
 | .exit i,s'=>∃id lo m o,s'.t j= .sref id lo m∧s'.H[id]?=some (some o)∧Imm (.list o.k ((o.es.drop lo).take m))∧Q (.exit i) ⟨upd s'.t j (.list o.k ((o.es.drop lo).take m)),s'.H.set id none⟩
 |x,s'=>Q x s'
theorem w6 {j n:Nat} {I:Nat→St→Prop} {Q:Exit→St→Prop} {b:Bx (I,Q)} {s:St}:zB j n I Q b .normal s=(∃n',n'<n∧I n' s):=rfl
theorem Eq {j n:Nat} {I:Nat→St→Prop} {Q:Exit→St→Prop} {b:Bx (I,Q)} {s:St}:zB j n I Q b .ret s=Q .ret s:=rfl
def Frz (j:Nat) (s:St) (k:St→Prop):Prop:=∃id lo m o,s.t j= .sref id lo m∧s.H[id]?=some (some o)∧Imm (.list o.k ((o.es.drop lo).take m))∧k ⟨upd s.t j (.list o.k ((o.es.drop lo).take m)),s.H.set id none⟩
theorem C4 {j n i:Nat} {I:Nat→St→Prop} {Q:Exit→St→Prop} {b:Bx (I,Q)} {s:St}:zB j n I Q b (.exit i) s=Frz j s (Q (.exit i)):=rfl
theorem frz {j:Nat} {s:St} {k:St→Prop} (id n:Nat) (ty:TypeId) (kk:Nat) (es:List (List AV)) (h1:s.t j= .sref id 0 n) (h2:s.H[id]?=some (some ⟨ty,kk,es⟩)) (hn:n=es.length) (hi:Imm (.list kk es)) (h:k ⟨upd s.t j (.list kk es),s.H.set id none⟩):Frz j s k:=by
 refine⟨id,0,n,_,h1,h2,?_,?_⟩
 ·simpa[hn]using hi
 ·simpa[hn]using h
attribute [go_sem ↓] w6 C4 Eq
theorem zQ {E:Env} {c:Code} {s0:St} {Q:Exit→St→Prop} {b:Bx (c,Q)} (j:Nat) (hW:∀b,¬E.W b) (I:Nat→St→Prop) (n0:Nat) (hc:fW E.N c=true) (h0:I n0 s0)
  (round:∀n s,I n s→awp E c s (zB j n I Q .mk)):sj E c s0 Q b:=by
 intro a w r
 refine wp_loop_ghost (fun n a w=>∃s,I n s∧Rel E s a w) n0 ⟨_,h0,r⟩ fun n a w hI=>?_
 obtain⟨s,hs,r⟩:=hI
 refine wp_mono (bU c s _ hc (round n s hs) a w r) fun e a' w' h'=>?_
 obtain⟨s',h1,h2⟩:=h'
 cases e with
 |normal=>
  obtain⟨n',hlt,hI'⟩:=h1
  exact⟨n',hlt,_,hI',h2⟩
 |exit i=>
  obtain⟨id,lo,m,o,e1,e2,e3,e4⟩:=h1
  exact⟨_,e4,w4 hW j e1 e2 e3 a' w' h2⟩
 |_=>exact⟨s',h1,h2⟩
def aj {α:Type} (enc:α→List AV) (l:List α):List (List AV):=l.map enc
section
variable {α:Type} (enc:α→List AV)
theorem KG:aj enc []=[]:=rfl
theorem al (l:List α):(aj enc l).length=l.length:=by simp[aj]
theorem ba (l:List α) (a:α):aj enc l++[enc a]=aj enc (l++[a]):=by simp[aj]
theorem gZ (l:List α) (n:Nat) (h:n=l.length):(aj enc l).take n=aj enc l:=by subst h;rw[←al enc l,List.take_length]
theorem Et (l:List α):(aj enc l).take l.length=aj enc l:=gZ enc l _ rfl
theorem wr (l:List α) (i:Nat):(aj enc l)[i]?=(l[i]?).map enc:=by simp[aj]
theorem aV {k:Nat} (h:∀a c,c∈enc a→Imm c) (l:List α):Imm (.list k (aj enc l)):=by
 refine .list fun e he c hc=>?_
 simp only[aj,List.mem_map]at he
 obtain⟨a,_,rfl⟩:=he
 exact h a c hc
theorem fD (l:List α) (i:Nat) (a:α):(aj enc l).set i (enc a)=aj enc (l.set i a):=by simp[aj,List.map_set]
attribute [go_sem] KG al Et wr
end
def bE {α:Type} (p:α→Bool):Nat→List α→Int
 |_,[]=> -1
 |k,a::l=>if p a=true then k else bE p (k+1) l
def fA {α:Type} (p:α→Bool) (l:List α):Int:=bE p 0 l
theorem pT {α:Type} (p:α→Bool):∀(l:List α) (k:Nat),(bE p k l= -1∧∀a,a∈l→p a=false)∨∃(i:Nat) (a:α),l[i]?=some a∧p a=true∧bE p k l=((k+i:Nat):Int)∧∀(j:Nat) (b:α),j<i→l[j]?=some b→p b=false
 |[],k=> .inl ⟨rfl,by simp⟩
 |a::l,k=>by
  simp only[bE]
  by_cases h:p a=true
  ·rw[if_pos h]
   exact .inr ⟨0,a,rfl,h,rfl,fun j b hj=>by omega⟩
  ·rw[if_neg h]
   have h':p a=false:=by simpa using h
   rcases pT p l (k+1)with⟨h1,h2⟩|⟨i,b,h1,h2,h3,h4⟩
   ·refine .inl ⟨h1,fun b hb=>?_⟩
    rcases List.mem_cons.1 hb with rfl|hb
    ·exact h'
    ·exact h2 b hb
   ·refine .inr ⟨i+1,b,by simpa using h1,h2,by rw[h3];congr 1;omega,fun j c hj hc=>?_⟩
    match j,hj,hc with
    |0,hj,hc=>simp at hc;subst hc;exact h'
    |j+1,hj,hc=>exact h4 j c (by omega) (by simpa using hc)
theorem dY {α:Type} (p:α→Bool) (l:List α):(fA p l= -1∧∀a,a∈l→p a=false)∨∃(i:Nat) (a:α),l[i]?=some a∧p a=true∧fA p l=(i:Int)∧∀(j:Nat) (b:α),j<i→l[j]?=some b→p b=false:=by
 have:=pT p l 0
 simpa[fA]using this
theorem cY {H:ac} {id n:Nat} {ty:TypeId} {k:Nat} {es:List (List AV)} {as0 as':List AV} (hH:H[id]?=some (some ⟨ty,k,es⟩)) (hn:n=es.length) (hi:Imm (.list k es)) (ht:Args H as0 as'):Args H (.sref id 0 n::as0) (.list k es::as'):=by
 have hv:dv H (.sref id 0 n)= .list k es:=by rw[gB,hH,gq];simp[hn]
 exact .cons (by rw[hv];exact .refl _) (by rw[hv];exact hi) ht
theorem aH {H:ac} {a:AV} {as0 as':List AV} (hi:Imm a) (ht:Args H as0 as'):Args H (a::as0) (a::as'):= .cons (by rw[lD hi];exact .refl _) (by rw[lD hi];exact hi) ht
theorem yp {H:ac} {k:Nat} {as0 as':List AV} (ht:Args H as0 as'):Args H (.nil::as0) (.list k []::as'):= .cons (.nil k) .nil ht
inductive CW (H:ac):List AV→List AV→Prop
 |nil:CW H [] []
 |cons {a a':AV} {as0 as':List AV} (h:Weak (cW H a) a') (hi:Imm (cW H a)) (hi':Imm a') (t:CW H as0 as'):CW H (a::as0) (a'::as')
theorem CW.len {H:ac} {as0 as':List AV} (h:CW H as0 as'):as0.length=as'.length:=by
 induction h with
 |nil=>rfl
 |cons _ _ _ _ ih=>simp[ih]
theorem CW.weak {H:ac} {as0 as':List AV} (h:CW H as0 as'):Weak (.agg (as0.map (cW H))) (.agg as'):=by
 refine .agg (by simpa using h.len) ?_
 induction h with
 |nil=>intro i a b h;simp at h
 |cons h _ _ _ ih=>
  intro i a b ha hb
  match i,ha,hb with
  |0,ha,hb=>simp at ha hb;subst ha;subst hb;exact h
  |i+1,ha,hb=>exact ih i a b (by simpa using ha) (by simpa using hb)
theorem CW.imm {H:ac} {as0 as':List AV} (h:CW H as0 as'):Imm (.agg (as0.map (cW H))):=by
 refine .agg fun c hc=>?_
 induction h with
 |nil=>simp at hc
 |cons _ h _ _ ih=>
  rcases List.mem_cons.1 hc with rfl|hc
  ·exact h
  ·exact ih hc
theorem CW.imm' {H:ac} {as0 as':List AV} (h:CW H as0 as'):Imm (.agg as'):=by
 refine .agg fun c hc=>?_
 induction h with
 |nil=>simp at hc
 |cons _ _ h _ ih=>
  rcases List.mem_cons.1 hc with rfl|hc
  ·exact h
  ·exact ih hc
theorem di {H:ac} {a:AV} {as0 as':List AV} (hi:Imm a) (t:CW H as0 as'):CW H (a::as0) (a::as'):=by
 refine .cons ?_ ?_ hi t
 ·rw[jG hi];exact .refl a
 ·rw[jG hi];exact hi
theorem yA {H:ac} {v:Value} {as0 as':List AV} (t:CW H as0 as'):CW H (.sc v::as0) (.sc v::as'):=di .sc t
theorem bW {H:ac} {k:Nat} {as0 as':List AV} (t:CW H as0 as'):CW H (.nil::as0) (.list k []::as'):= .cons (.nil k) .nil (cN.2 (by simp)) t
theorem da {H:ac} {id n:Nat} {ty:TypeId} {k:Nat} {es:List (List AV)} {as0 as':List AV} (hH:H[id]?=some (some ⟨ty,k,es⟩)) (hn:n=es.length) (hi:Imm (.list k es)) (t:CW H as0 as'):CW H (.sref id 0 n::as0) (.list k es::as'):=by
 have hv:cW H (.sref id 0 n)= .list k es:=by rw[wZ,hH,gq];simp[hn]
 exact .cons (by rw[hv];exact .refl _) (by rw[hv];exact hi) hi t
theorem wI {H:ac} {cs cs' as0 as':List AV} (h:CW H cs cs') (ht:Args H as0 as'):Args H (.agg cs::as0) (.agg cs'::as'):= .cons h.weak h.imm ht
theorem AQ {H:ac} {cs cs':List AV} {Q:AV→Prop} {b:Bx Q} (h:CW H cs cs') (hq:Q (.agg cs')):jO H (.agg cs) Q b:=gy h.imm h.imm' h.weak hq
theorem aP {H:ac} {cs cs':List AV} {v:Value} {Q:AV→Prop} {b:Bx Q} (h:CW H cs cs') (hq:Q (.tup [.agg cs',.sc v])):jO H (.tup [.agg cs,.sc v]) Q b:=
 gy (ak h.imm .sc) (ak h.imm' .sc) (qW h.weak (.refl _)) hq
open Go.RowKit
def Cf:Int→Value:=Value.int .i64
def EU:Bool→Value:=Value.bool
def mP {β:Type} (f:β→Value) (l:List (Int×β)):List (List AV):=l.map fun e=>[.sc (.int .i64 e.1),.sc (f e.2)]
def imK {β:Type} (f:β→Value) (l:List (Int×β)):List (Value×Value):=l.map fun e=>(.int .i64 e.1,f e.2)
def jl {β:Type}:List (Int×β)→Int→Option β
 |[],_=>none
 |e::l,k=>if e.1=k then some e.2 else jl l k
def tK {β:Type}:List (Int×β)→Int→β→List (Int×β)
 |[],k,v=>[(k,v)]
 |e::l,k,v=>if e.1=k then (k,v)::l else e::tK l k v
section
variable {β:Type} {f:β→Value}
theorem AO (l:List (Int×β)):nA (mP f l)=some (l.map fun e=>(.int .i64 e.1,.sc (f e.2))):=by
 induction l with
 |nil=>rfl
 |cons e l ih=>
  simp only[mP,List.map_cons,nA]at ih⊢
  rw[ih]
  rfl
theorem Dy (l:List (Int×β)):th (mP f l)=some (imK f l):=by
 induction l with
 |nil=>rfl
 |cons e l ih=>
  simp only[mP,List.map_cons,th]at ih⊢
  rw[ih]
  rfl
theorem Hf (l:List (Int×β)) (n:Int):qa (.int .i64) (.int .i64 n) (l.map fun e=>(.int .i64 e.1,.sc (f e.2)))=some ((jl l n).map fun b=> .sc (f b)):=by
 induction l with
 |nil=>rfl
 |cons e l ih=>
  simp only[List.map_cons,qa,Instr.sameNow,jl,if_true]
  by_cases h:n=e.1
  ·subst h;simp
  ·rw[if_neg (fun q=>h q.symm)]
   have hb:(n==e.1)=false:=by simpa using h
   rw[hb]
   simp only[ih]
theorem HW (l:List (Int×β)) (n:Int) (b:β):CU (.int .i64) (.int .i64 n) (.sc (f b)) (mP f l)=some (mP f (tK l n b)):=by
 induction l with
 |nil=>rfl
 |cons e l ih=>
  simp only[mP,List.map_cons,CU,Instr.sameNow,tK,if_true]at ih⊢
  by_cases h:n=e.1
  ·subst h;simp
  ·rw[if_neg (fun q=>h q.symm)]
   have hb:(n==e.1)=false:=by simpa using h
   rw[hb]
   simp only[ih,Option.map_some,List.map_cons]
end
section
variable {E:Env} {P:Program} {H:ac}
theorem zG {t:TypeId} {ev:Operand→AV} {C:AV→ac→Prop}:AEff E (.makeMap t none) ev H C=OV2 (.mref H.length) (H++[some ⟨0,2,[]⟩]) C .mk:=rfl
theorem wR {t:TypeId} {x k v:Operand} {ev:Operand→AV} {C:AV→ac→Prop}:AEff E (.mapUpdate t x k v) ev H C=OB (gI E.P t H (ev x) (ev k) (ev v)) (fun H'=>C (.sc undef) H') .mk:=by
 simp only[AEff]
 cases gI E.P t H (ev x) (ev k) (ev v)<;>rfl
theorem Bo {t:TypeId} {x k:Operand} {c:Bool} {ev:Operand→AV} {C:AV→ac→Prop}:AEff E (.lookup t x k c) ev H C=OB (gC E.P t H (ev x) (ev k) c) (fun v=>C v H) .mk:=br rfl
theorem D4 {x:Operand} {ev:Operand→AV} {C:AV→ac→Prop}:AEff E (.entry x) ev H C=OB (rP H (ev x)) (fun v=>C v H) .mk:=br rfl
def zL (E:Env) (t:TypeId) (x:AV) (H:ac) (C:AV→ac→Prop) (_:Bx C):Prop:=match x with
 | .imap es=>if vd E.P t then C (.miter H.length) (H++[some ⟨0,3,[[.junk,.junk,.imap es]]⟩])else False
 |_=>False
theorem Ea {t:TypeId} {x:Operand} {ev:Operand→AV} {C:AV→ac→Prop}:AEff E (.range t x) ev H C=zL E t (ev x) H C .mk:=by
 simp only[AEff,zL]
 rfl
theorem Ci {t:TypeId} {es:List (Value×Value)} {C:AV→ac→Prop} {b:Bx C} (h:vd E.P t=true):zL E t (.imap es) H C b=OV2 (.miter H.length) (H++[some ⟨0,3,[[.junk,.junk,.imap es]]⟩]) C .mk:=by
 simp only[zL,h,if_true,OV2]
def FA (left:List (Value×Value)) (id:Nat) (o:AObj) (H:ac) (C:AV→ac→Prop) (_:Bx C):Prop:=
 (left=[]→C (.tup [.sc (.bool false)]) H)∧∀(i:Nat) (e:Value×Value),left[i]?=some e→C (.tup [.sc (.bool true),.sc e.1,.sc e.2]) (H.set id (some {o with es:=[[.sc e.1,.sc e.2,.imap (left.eraseIdx i)]]}))
def Fp (x:AV) (s:Bool) (H:ac) (C:AV→ac→Prop) (b:Bx C):Prop:=match x with
 | .miter id=>match H[id]? with
  |some (some o)=>match o.es with
   |[[_,_,.imap left]]=>s=false∧FA left id o H C b
   |_=>False
  |_=>False
 |_=>False
def IQ (y:Option (Option AObj)) (id:Nat) (H:ac) (C:AV→ac→Prop) (b:Bx C):Prop:=match y with
 |some (some o)=>match o.es with
  |[[_,_,.imap left]]=>FA left id o H C b
  |_=>False
 |_=>False
theorem GU {x:Operand} {ev:Operand→AV} {C:AV→ac→Prop}:AEff E (.next x false) ev H C=Fp (ev x) false H C .mk:=by
 simp only[AEff,Fp,FA]
 rfl
theorem LB {id:Nat} {C:AV→ac→Prop} {b:Bx C}:Fp (.miter id) false H C b=IQ H[id]? id H C .mk:=by
 simp only[Fp,IQ,true_and]
theorem D6 {id ty k:Nat} {a1 a2:AV} {left:List (Value×Value)} {C:AV→ac→Prop} {b:Bx C}:IQ (some (some ⟨ty,k,[[a1,a2,.imap left]]⟩)) id H C b=FA left id ⟨ty,k,[[a1,a2,.imap left]]⟩ H C .mk:=rfl
def uU (P:Program) (t:TypeId) (y:Option (Option AObj)) (k:AV) (c:Bool):Option AV:=match mE P t,k,(match y with|some (some o)=>nA o.es|_=>none)with
 |some (_,d,et),.sc kv,some es=>if lZ d kv then lkR P et c (qa d kv es)else none
 |some (kt,_,et),.agg cs,some es=>match nF P kt with
  |some ks=>match xR ks cs with
   |some vs=>lkR P et c (rN ks vs es)
   |none=>none
  |none=>none
 |_,_,_=>none
theorem Eh {t:TypeId} {id:Nat} {k:AV} {c:Bool}:gC P t H (.mref id) k c=uU P t H[id]? k c:=rfl
theorem xO {β:Type} {f:β→Value} {d:β} {et:TypeId} (hz:pw P et=some (.sc (f d))) (l:List (Int×β)) (n:Int) (c:Bool):
  lkR P et c (qa (.int .i64) (.int .i64 n) (l.map fun e=>(.int .i64 e.1,.sc (f e.2))))=some (if c then .tup [.sc (f ((jl l n).getD d)),.sc (.bool (jl l n).isSome)]else .sc (f ((jl l n).getD d))):=by
 rw[Hf]
 unfold lkR
 cases jl l n with
 |none=>simp[hz]
 |some b=>simp
theorem wx {β:Type} {f:β→Value} {d:β} {t kt et:TypeId} (hm:mE P t=some (kt,.int .i64,et)) (hz:pw P et=some (.sc (f d))) {ty k:Nat} {l:List (Int×β)} {n:Int} {c:Bool}:
  uU P t (some (some ⟨ty,k,mP f l⟩)) (.sc (.int .i64 n)) c=some (if c then .tup [.sc (f ((jl l n).getD d)),.sc (.bool (jl l n).isSome)]else .sc (f ((jl l n).getD d))):=by
 rw[←xO hz l n c]
 simp only[uU,hm,AO,lZ,decide_true,if_true]
theorem Ek {β:Type} {f:β→Value} {d:β} {t kt et:TypeId} (hm:mE P t=some (kt,.int .i64,et)) (hz:pw P et=some (.sc (f d))) {l:List (Int×β)} {n:Int} {c:Bool}:
  gC P t H (.imap (imK f l)) (.sc (.int .i64 n)) c=some (if c then .tup [.sc (f ((jl l n).getD d)),.sc (.bool (jl l n).isSome)]else .sc (f ((jl l n).getD d))):=by
 rw[←xO hz l n c]
 simp only[gC,hm,ents,imK,List.map_map,lZ,decide_true,if_true]
 rfl
theorem JM {t:TypeId} (h:F5 P t (.sc (.int .i64 0))) {ty k:Nat} {l:List (Int×Int)} {n:Int}:
  uU P t (some (some ⟨ty,k,mP Cf l⟩)) (.sc (.int .i64 n)) false=some (.sc (.int .i64 ((jl l n).getD 0))):=by
 obtain⟨kt,et,hm,hz⟩:=h
 exact (wx (f:=Cf) (d:=0) hm hz).trans rfl
theorem MZ {t:TypeId} (h:F5 P t (.sc (.int .i64 0))) {l:List (Int×Int)} {n:Int}:
  gC P t H (.imap (imK Cf l)) (.sc (.int .i64 n)) false=some (.sc (.int .i64 ((jl l n).getD 0))):=by
 obtain⟨kt,et,hm,hz⟩:=h
 exact (Ek (f:=Cf) (d:=0) hm hz).trans rfl
theorem Je {t:TypeId} (h:F5 P t (.sc (.bool false))) {ty k:Nat} {l:List (Int×Bool)} {n:Int}:
  uU P t (some (some ⟨ty,k,mP EU l⟩)) (.sc (.int .i64 n)) false=some (.sc (.bool ((jl l n).getD false))):=by
 obtain⟨kt,et,hm,hz⟩:=h
 exact (wx (f:=EU) (d:=false) hm hz).trans rfl
def ym (P:Program) (t:TypeId) (id:Nat) (H:ac) (y:Option (Option AObj)) (k v:AV):Option ac:=match mE P t,k,y with
 |some (_,d,_),.sc kv,some (some o)=>if lZ d kv then (CU d kv v o.es).map fun es=>H.set id (some {o with es:=es})else none
 |some (kt,_,_),.agg cs,some (some o)=>match nF P kt with
  |some ks=>match xR ks cs with
   |some vs=>(yq ks vs v o.es).map fun es=>H.set id (some {o with es:=es})
   |none=>none
  |none=>none
 |_,_,_=>none
theorem HG {t:TypeId} {id:Nat} {k v:AV}:gI P t H (.mref id) k v=ym P t id H H[id]? k v:=by
 unfold gI ym
 cases mE P t with
 |none=>rfl
 |some m=>
  obtain⟨kt,d,et⟩:=m
  cases k<;>first|rfl|skip
  ·simp only
   generalize H[id]?=y
   cases y with
   |none=>simp
   |some y=>cases y with
    |none=>simp
    |some o=>rfl
  ·simp only
   generalize H[id]?=y
   cases y with
   |none=>cases nF P kt with
    |none=>rfl
    |some ks=>simp only;split<;>rfl
   |some y=>cases y with
    |none=>cases nF P kt with
     |none=>rfl
     |some ks=>simp only;split<;>rfl
    |some o=>rfl
theorem yr {β:Type} {f:β→Value} {t kt et:TypeId} (hm:mE P t=some (kt,.int .i64,et)) {id ty k:Nat} {l:List (Int×β)} {n:Int} {b:β}:
  ym P t id H (some (some ⟨ty,k,mP f l⟩)) (.sc (.int .i64 n)) (.sc (f b))=some (H.set id (some ⟨ty,k,mP f (tK l n b)⟩)):=by
 simp only[ym,hm,lZ,decide_true,if_true,HW,Option.map_some]
theorem Mi {t:TypeId} (h:F5 P t (.sc (.int .i64 0))) {id ty k:Nat} {l:List (Int×Int)} {n b:Int}:
  ym P t id H (some (some ⟨ty,k,mP Cf l⟩)) (.sc (.int .i64 n)) (.sc (.int .i64 b))=some (H.set id (some ⟨ty,k,mP Cf (tK l n b)⟩)):=by
 obtain⟨kt,et,hm,hz⟩:=h
 exact yr (f:=Cf) hm
theorem Mn {t:TypeId} (h:F5 P t (.sc (.bool false))) {id ty k:Nat} {l:List (Int×Bool)} {n:Int} {b:Bool}:
  ym P t id H (some (some ⟨ty,k,mP EU l⟩)) (.sc (.int .i64 n)) (.sc (.bool b))=some (H.set id (some ⟨ty,k,mP EU (tK l n b)⟩)):=by
 obtain⟨kt,et,hm,hz⟩:=h
 exact yr (f:=EU) hm
def Fw (y:Option (Option AObj)):Option AV:=match y with
 |some (some o)=>match o.es with
  |[[.sc k,.sc v,_]]=>some (.tup [.sc k,.sc v])
  |_=>none
 |_=>none
theorem Gj {id:Nat}:rP H (.miter id)=Fw H[id]?:=rfl
theorem zV {ty k:Nat} {a b:Value} {c:AV}:Fw (some (some ⟨ty,k,[[.sc a,.sc b,c]]⟩))=some (.tup [.sc a,.sc b]):=rfl
def Ct (y:Option (Option AObj)):AV:=match y with
 |some (some o)=>match th o.es with
  |some es=> .imap es
  |none=> .junk
 |_=> .junk
theorem Id {id:Nat}:dv H (.mref id)=Ct H[id]?:=rfl
theorem Ef {id:Nat}:cW H (.mref id)=Ct H[id]?:=rfl
theorem DF {id:Nat}:gP H (.mref id)=Ct H[id]?:=rfl
theorem Hq {β:Type} {f:β→Value} {ty k:Nat} {l:List (Int×β)}:Ct (some (some ⟨ty,k,mP f l⟩))= .imap (imK f l):=by simp only[Ct,Dy]
end
section
variable {E:Env} {ev:Operand→AV} {H:ac} {k:AV→Prop} {b:Bx k}
theorem ET {t:TypeId} {x y:Operand} {c:Bool}:ARd E (.lookup t x y c) ev H k b=AEff E (.lookup t x y c) ev H fun v _=>k v:=cr rfl
theorem HU {x:Operand}:ARd E (.entry x) ev H k b=AEff E (.entry x) ev H fun v _=>k v:=cr rfl
end
attribute [go_sem ↓] ET HU
attribute [go_sem ↓] zG wR Bo D4 Ea GU
attribute [go_sem] Ci LB D6 Eh JM Je MZ HG Mi Mn Gj zV Id Ef DF Hq
section
variable {E:Env}
end
theorem jP {n:Nat} {H l:ac} (h:n≤H.length):Agree (fun id=>decide (id<n)) H (H++l):=fun id hid=>List.getElem?_append_left (by simp at hid;omega)
theorem um {a b c:Option AObj} {l l':ac}:Agree (fun id=>decide (id<3)) (a::b::c::l) (a::b::c::l'):=fun id hid=>by
 have:id<3:=by simpa using hid
 rcases id with _|_|_|id
 ·rfl
 ·rfl
 ·rfl
 ·omega
theorem yN {H H':ac} {X:List Nat} {p q:Nat} {o o':AObj} (hk:Kept X H H') (hp:H[p]?=some (some o)) (hq:H[q]?=some (some o')) (np:p∉X) (nq:q∉X):Agree (fun i=>decide (i=p)||decide (i=q)) H H':=fun i hi=>by
 simp only[Bool.or_eq_true,decide_eq_true_eq]at hi
 rcases hi with rfl|rfl
 ·rw[hp,hk _ _ np hp]
 ·rw[hq,hk _ _ nq hq]
theorem qc {a:Option AObj} {l l':ac}:Agree (fun id=>decide (id=0)) (a::l) (a::l'):=fun id hid=>by
 have:id=0:=by simpa using hid
 rcases id with _|id
 ·rfl
 ·omega
theorem iA {a b:Option AObj} {l l':ac}:Agree (fun id=>decide (id<2)) (a::b::l) (a::b::l'):=fun id hid=>by
 have:id<2:=by simpa using hid
 rcases id with _|_|id
 ·rfl
 ·rfl
 ·omega
theorem L9 (v:Int):Cf v=Value.int .i64 v:=rfl
theorem Mf (v:Bool):EU v=Value.bool v:=rfl
def OD (P:Program) (H:ac) (a:Option (Nat×TypeId)) (id i j:Nat) (n:Int):Option AV:=match a with
 |some (len,e)=>if aA P e=true∧0≤n∧n<len then (if (aJ H (.ref id i j)).isSome then some (.ref id i (j+n.toNat*aq P e))else none)else none
 |none=>none
theorem MB {P:Program} {t:TypeId} {H:ac} {id i j:Nat} {n:Int} (h:Go.PA.aN P t=none):bL P t H (.ref id i j) n=OD P H (cJ P t) id i j n:=by
 simp only[bL,h,OD]
 cases cJ P t<;>rfl
theorem HQ {P:Program} {H:ac} {len:Nat} {e:TypeId} {id i j:Nat} {n:Int}:OD P H (some (len,e)) id i j n=if aA P e=true∧0≤n∧n<len then (if (aJ H (.ref id i j)).isSome then some (.ref id i (j+n.toNat*aq P e))else none)else none:=rfl
def Kr (P:Program) (cs:List AV) (n:Int) (a:Option (Nat×TypeId)):Option AV:=match a with
 |some (len,e)=>if aA P e=true∧0≤n∧n<len then apart P e cs (n.toNat*aq P e)else none
 |none=>none
theorem Km {P:Program} {t:TypeId} {cs:List AV} {k:IntKind} {n:Int}:E0 P t (.agg cs) (.sc (.int k n))=Kr P cs n (cJ P t):=by
 simp only[E0,Kr]
 cases cJ P t<;>rfl
theorem Dh {P:Program} {cs:List AV} {n:Int} {len:Nat} {e:TypeId}:Kr P cs n (some (len,e))=if aA P e=true∧0≤n∧n<len then apart P e cs (n.toNat*aq P e)else none:=rfl
attribute [go_sem] MB HQ Km Dh L9 Mf
def arI (xs:List Int):List AV:=xs.map fun x=> .sc (.int .i64 x)
theorem Mk (xs:List Int):(arI xs).length=xs.length:=by simp[arI]
theorem O8 (xs:List Int) (j:Nat):((arI xs).drop j).head?=(xs[j]?).map fun x=> .sc (.int .i64 x):=by simp[arI]
theorem BT (xs:List Int) (j:Nat):((arI xs).drop j).length=xs.length-j:=by simp[arI]
theorem Mc (xs:List Int) (j:Nat):(arI xs)[j]?=(xs[j]?).map fun x=> .sc (.int .i64 x):=by simp[arI]
theorem MD (xs:List Int):(arI xs).all AV.cellish=true:=by simp[arI,AV.cellish,Value.oneCell']
theorem G9 (H:ac) (xs:List Int):(arI xs).map (cW H)=arI xs:=by simp[arI,cW]
attribute [go_sem] Mk O8 BT Mc MD G9
section
variable {E:Env} {H:ac}
end
end Go.PA
namespace Go.Proofs.YtaenimpfelpafaaGreatDoor
open Go.PA
open Go.RowKit
abbrev iv (n:Int):AV:= .sc (.int .i64 n)
abbrev bv (b:Bool):AV:= .sc (.bool b)
def aS (n:Int):List AV:=[iv n]
theorem ql (n:Int) (c:AV) (h:c∈aS n):Imm c:=by simp[aS]at h;subst h;exact .sc
structure TSub where
 ID:Int
 Balance:Int
deriving DecidableEq,Inhabited
def TSub.cells (x:TSub):List AV:=[iv x.ID,iv x.Balance]
theorem TSub.len (x:TSub):x.cells.length=2:=by simp[TSub.cells]
theorem TSub.imm (x:TSub) (c:AV) (h:c∈x.cells):Imm c:=by
 simp only[TSub.cells,List.mem_cons,List.not_mem_nil,or_false]at h
 rcases h with rfl|rfl
 ·exact .sc
 ·exact .sc
structure TEntry where
 Number:Int
 Day:Int
 From:Int
 To:Int
 Amount:Int
 Ref:Int
deriving DecidableEq,Inhabited
def TEntry.cells (x:TEntry):List AV:=[iv x.Number,iv x.Day,iv x.From,iv x.To,iv x.Amount,iv x.Ref]
theorem TEntry.len (x:TEntry):x.cells.length=6:=by simp[TEntry.cells]
theorem TEntry.imm (x:TEntry) (c:AV) (h:c∈x.cells):Imm c:=by
 simp only[TEntry.cells,List.mem_cons,List.not_mem_nil,or_false]at h
 rcases h with rfl|rfl|rfl|rfl|rfl|rfl
 ·exact .sc
 ·exact .sc
 ·exact .sc
 ·exact .sc
 ·exact .sc
 ·exact .sc
structure TAccount where
 Credit:Int
 Subs:List TSub
 Entries:List TEntry
deriving DecidableEq,Inhabited
def TAccount.cells (x:TAccount):List AV:=[iv x.Credit,.list 2 (aj TSub.cells x.Subs),.list 6 (aj TEntry.cells x.Entries)]
theorem TAccount.imm (x:TAccount) (c:AV) (h:c∈x.cells):Imm c:=by
 simp only[TAccount.cells,List.mem_cons,List.not_mem_nil,or_false]at h
 rcases h with rfl|rfl|rfl
 ·exact .sc
 ·exact aV _ (TSub.imm) _
 ·exact aV _ (TEntry.imm) _
structure TPayment where
 Warrant:Int
 Payee:Int
 Amount:Int
 Due:Int
 Sub:Int
deriving DecidableEq,Inhabited
def TPayment.cells (x:TPayment):List AV:=[iv x.Warrant,iv x.Payee,iv x.Amount,iv x.Due,iv x.Sub]
theorem TPayment.len (x:TPayment):x.cells.length=5:=by simp[TPayment.cells]
theorem TPayment.imm (x:TPayment) (c:AV) (h:c∈x.cells):Imm c:=by
 simp only[TPayment.cells,List.mem_cons,List.not_mem_nil,or_false]at h
 rcases h with rfl|rfl|rfl|rfl|rfl
 ·exact .sc
 ·exact .sc
 ·exact .sc
 ·exact .sc
 ·exact .sc
structure TBatch where
 Number:Int
 Day:Int
 Payments:List TPayment
deriving DecidableEq,Inhabited
def TBatch.cells (x:TBatch):List AV:=[iv x.Number,iv x.Day,.list 5 (aj TPayment.cells x.Payments)]
theorem TBatch.imm (x:TBatch) (c:AV) (h:c∈x.cells):Imm c:=by
 simp only[TBatch.cells,List.mem_cons,List.not_mem_nil,or_false]at h
 rcases h with rfl|rfl|rfl
 ·exact .sc
 ·exact .sc
 ·exact aV _ (TPayment.imm) _
structure TQueue where
 Waiting:List TPayment
 Known:List Int
 Batches:List TBatch
deriving DecidableEq,Inhabited
def TQueue.cells (x:TQueue):List AV:=[.list 5 (aj TPayment.cells x.Waiting),.list 1 (aj aS x.Known),.list 3 (aj TBatch.cells x.Batches)]
theorem TQueue.imm (x:TQueue) (c:AV) (h:c∈x.cells):Imm c:=by
 simp only[TQueue.cells,List.mem_cons,List.not_mem_nil,or_false]at h
 rcases h with rfl|rfl|rfl
 ·exact aV _ (TPayment.imm) _
 ·exact aV _ (ql) _
 ·exact aV _ (TBatch.imm) _
structure TItem where
 Payment:TPayment
 State:Int
 Attempts:Int
deriving DecidableEq,Inhabited
def TItem.cells (x:TItem):List AV:=x.Payment.cells++[iv x.State,iv x.Attempts]
theorem TItem.imm (x:TItem) (c:AV) (h:c∈x.cells):Imm c:=by
 simp only[TItem.cells,List.mem_append,List.mem_cons,List.not_mem_nil,or_false]at h
 rcases h with (h)|(rfl|rfl)
 ·exact TPayment.imm _ c h
 ·exact .sc
 ·exact .sc
structure TDesk where
 Account:TAccount
 Queue:TQueue
 Items:List TItem
deriving DecidableEq,Inhabited
def TDesk.cells (x:TDesk):List AV:=x.Account.cells++x.Queue.cells++[.list 7 (aj TItem.cells x.Items)]
theorem TDesk.imm (x:TDesk) (c:AV) (h:c∈x.cells):Imm c:=by
 simp only[TDesk.cells,List.mem_append,List.mem_cons,List.not_mem_nil,or_false]at h
 rcases h with ((h)|(h))|(rfl)
 ·exact TAccount.imm _ c h
 ·exact TQueue.imm _ c h
 ·exact aV _ (TItem.imm) _
structure TClaim where
 ID:Int
 Payer:Int
 Amount:Int
 Open:Int
 Day:Int
 Code:ByteArray
deriving DecidableEq,Inhabited
def TClaim.cells (x:TClaim):List AV:=[iv x.ID,iv x.Payer,iv x.Amount,iv x.Open,iv x.Day,.sc (.string x.Code)]
theorem TClaim.len (x:TClaim):x.cells.length=6:=by simp[TClaim.cells]
theorem TClaim.imm (x:TClaim) (c:AV) (h:c∈x.cells):Imm c:=by
 simp only[TClaim.cells,List.mem_cons,List.not_mem_nil,or_false]at h
 rcases h with rfl|rfl|rfl|rfl|rfl|rfl
 ·exact .sc
 ·exact .sc
 ·exact .sc
 ·exact .sc
 ·exact .sc
 ·exact .sc
structure TIncome where
 Number:Int
 Day:Int
 Payer:Int
 Amount:Int
 Claim:Int
deriving DecidableEq,Inhabited
def TIncome.cells (x:TIncome):List AV:=[iv x.Number,iv x.Day,iv x.Payer,iv x.Amount,iv x.Claim]
theorem TIncome.imm (x:TIncome) (c:AV) (h:c∈x.cells):Imm c:=by
 simp only[TIncome.cells,List.mem_cons,List.not_mem_nil,or_false]at h
 rcases h with rfl|rfl|rfl|rfl|rfl
 ·exact .sc
 ·exact .sc
 ·exact .sc
 ·exact .sc
 ·exact .sc
structure TMatch where
 Income:Int
 Claim:Int
 Amount:Int
deriving DecidableEq,Inhabited
def TMatch.cells (x:TMatch):List AV:=[iv x.Income,iv x.Claim,iv x.Amount]
theorem TMatch.imm (x:TMatch) (c:AV) (h:c∈x.cells):Imm c:=by
 simp only[TMatch.cells,List.mem_cons,List.not_mem_nil,or_false]at h
 rcases h with rfl|rfl|rfl
 ·exact .sc
 ·exact .sc
 ·exact .sc
structure TCash where
 Claims:List TClaim
 Incomes:List TIncome
 Matches:List TMatch
 Loose:List Int
deriving DecidableEq,Inhabited
def TCash.cells (x:TCash):List AV:=[.list 6 (aj TClaim.cells x.Claims),.list 5 (aj TIncome.cells x.Incomes),.list 3 (aj TMatch.cells x.Matches),.list 1 (aj aS x.Loose)]
theorem TCash.imm (x:TCash) (c:AV) (h:c∈x.cells):Imm c:=by
 simp only[TCash.cells,List.mem_cons,List.not_mem_nil,or_false]at h
 rcases h with rfl|rfl|rfl|rfl
 ·exact aV _ (TClaim.imm) _
 ·exact aV _ (TIncome.imm) _
 ·exact aV _ (TMatch.imm) _
 ·exact aV _ (ql) _
structure TSecurity where
 ID:Int
 Unit:Int
 Issued:Int
 Maturity:Int
 Rate:Int
 Every:Int
 Indexed:Bool
deriving DecidableEq,Inhabited
def TSecurity.cells (x:TSecurity):List AV:=[iv x.ID,iv x.Unit,iv x.Issued,iv x.Maturity,iv x.Rate,iv x.Every,bv x.Indexed]
theorem TSecurity.len (x:TSecurity):x.cells.length=7:=by simp[TSecurity.cells]
theorem TSecurity.imm (x:TSecurity) (c:AV) (h:c∈x.cells):Imm c:=by
 simp only[TSecurity.cells,List.mem_cons,List.not_mem_nil,or_false]at h
 rcases h with rfl|rfl|rfl|rfl|rfl|rfl|rfl
 ·exact .sc
 ·exact .sc
 ·exact .sc
 ·exact .sc
 ·exact .sc
 ·exact .sc
 ·exact .sc
structure THolding where
 Security:Int
 Holder:Int
 Amount:Int
deriving DecidableEq,Inhabited
def THolding.cells (x:THolding):List AV:=[iv x.Security,iv x.Holder,iv x.Amount]
theorem THolding.imm (x:THolding) (c:AV) (h:c∈x.cells):Imm c:=by
 simp only[THolding.cells,List.mem_cons,List.not_mem_nil,or_false]at h
 rcases h with rfl|rfl|rfl
 ·exact .sc
 ·exact .sc
 ·exact .sc
structure TMove where
 Number:Int
 Day:Int
 Kind:Int
 Security:Int
 From:Int
 To:Int
 Amount:Int
deriving DecidableEq,Inhabited
def TMove.cells (x:TMove):List AV:=[iv x.Number,iv x.Day,iv x.Kind,iv x.Security,iv x.From,iv x.To,iv x.Amount]
theorem TMove.len (x:TMove):x.cells.length=7:=by simp[TMove.cells]
theorem TMove.imm (x:TMove) (c:AV) (h:c∈x.cells):Imm c:=by
 simp only[TMove.cells,List.mem_cons,List.not_mem_nil,or_false]at h
 rcases h with rfl|rfl|rfl|rfl|rfl|rfl|rfl
 ·exact .sc
 ·exact .sc
 ·exact .sc
 ·exact .sc
 ·exact .sc
 ·exact .sc
 ·exact .sc
structure TRegister where
 Securities:List TSecurity
 Holdings:List THolding
 Moves:List TMove
deriving DecidableEq,Inhabited
def TRegister.cells (x:TRegister):List AV:=[.list 7 (aj TSecurity.cells x.Securities),.list 3 (aj THolding.cells x.Holdings),.list 7 (aj TMove.cells x.Moves)]
theorem TRegister.imm (x:TRegister) (c:AV) (h:c∈x.cells):Imm c:=by
 simp only[TRegister.cells,List.mem_cons,List.not_mem_nil,or_false]at h
 rcases h with rfl|rfl|rfl
 ·exact aV _ (TSecurity.imm) _
 ·exact aV _ (THolding.imm) _
 ·exact aV _ (TMove.imm) _
structure TPosting where
 Number:Int
 Day:Int
 Entity:Int
 Debit:Int
 Credit:Int
 Amount:Int
 Partner:Int
 Ref:Int
deriving DecidableEq,Inhabited
def TPosting.cells (x:TPosting):List AV:=[iv x.Number,iv x.Day,iv x.Entity,iv x.Debit,iv x.Credit,iv x.Amount,iv x.Partner,iv x.Ref]
theorem TPosting.len (x:TPosting):x.cells.length=8:=by simp[TPosting.cells]
theorem TPosting.imm (x:TPosting) (c:AV) (h:c∈x.cells):Imm c:=by
 simp only[TPosting.cells,List.mem_cons,List.not_mem_nil,or_false]at h
 rcases h with rfl|rfl|rfl|rfl|rfl|rfl|rfl|rfl
 ·exact .sc
 ·exact .sc
 ·exact .sc
 ·exact .sc
 ·exact .sc
 ·exact .sc
 ·exact .sc
 ·exact .sc
structure TLedger where
 Postings:List TPosting
deriving DecidableEq,Inhabited
def TLedger.cells (x:TLedger):List AV:=[.list 8 (aj TPosting.cells x.Postings)]
theorem TLedger.imm (x:TLedger) (c:AV) (h:c∈x.cells):Imm c:=by
 simp only[TLedger.cells,List.mem_cons,List.not_mem_nil,or_false]at h
 rcases h with rfl
 ·exact aV _ (TPosting.imm) _
structure TState where
 Desk:TDesk
 Cash:TCash
 Register:TRegister
 Ledger:TLedger
deriving DecidableEq,Inhabited
def TState.cells (x:TState):List AV:=x.Desk.cells++x.Cash.cells++x.Register.cells++x.Ledger.cells
theorem TState.imm (x:TState) (c:AV) (h:c∈x.cells):Imm c:=by
 simp only[TState.cells,List.mem_append,List.mem_cons,List.not_mem_nil,or_false]at h
 rcases h with (((h)|(h))|(h))|(h)
 ·exact TDesk.imm _ c h
 ·exact TCash.imm _ c h
 ·exact TRegister.imm _ c h
 ·exact TLedger.imm _ c h
structure TDeed where
 Kind:Int
 Day:Int
 Sub:Int
 Who:Int
 Ref:Int
 Amount:Int
 Due:Int
deriving DecidableEq,Inhabited
def TDeed.cells (x:TDeed):List AV:=[iv x.Kind,iv x.Day,iv x.Sub,iv x.Who,iv x.Ref,iv x.Amount,iv x.Due]
theorem TDeed.imm (x:TDeed) (c:AV) (h:c∈x.cells):Imm c:=by
 simp only[TDeed.cells,List.mem_cons,List.not_mem_nil,or_false]at h
 rcases h with rfl|rfl|rfl|rfl|rfl|rfl|rfl
 ·exact .sc
 ·exact .sc
 ·exact .sc
 ·exact .sc
 ·exact .sc
 ·exact .sc
 ·exact .sc
structure TFinding where
 Layer:Int
 Number:Int
deriving DecidableEq,Inhabited
def TFinding.cells (x:TFinding):List AV:=[iv x.Layer,iv x.Number]
open Go.PA
@[go_sem] theorem W6:aq Tryz.prog 3=1:=by kernel_rfl
@[go_sem] theorem W7:aA Tryz.prog 3=true:=by kernel_rfl
@[go_sem] theorem W8:bO Tryz.prog 3=false:=by kernel_rfl
@[go_sem] theorem W4:bP Tryz.prog 3=some [.sc (.int .i64 0)]:=by kernel_rfl
@[go_sem] theorem W5:bX Tryz.prog 3=8:=by kernel_rfl
@[go_sem] theorem U1:aq Tryz.prog 22=1:=by kernel_rfl
@[go_sem] theorem UC:aA Tryz.prog 22=true:=by kernel_rfl
@[go_sem] theorem Va:bO Tryz.prog 22=false:=by kernel_rfl
@[go_sem] theorem WY:Go.PA.aN Tryz.prog 22=some 3:=by kernel_rfl
@[go_sem] theorem WO:aq Tryz.prog 25=1:=by kernel_rfl
@[go_sem] theorem VW:aA Tryz.prog 25=true:=by kernel_rfl
@[go_sem] theorem T8:bO Tryz.prog 25=false:=by kernel_rfl
@[go_sem] theorem P8:Go.PA.aN Tryz.prog 25=some 121:=by kernel_rfl
@[go_sem] theorem VJ:aq Tryz.prog 26=1:=by kernel_rfl
@[go_sem] theorem Wm:aA Tryz.prog 26=true:=by kernel_rfl
@[go_sem] theorem Ut:bO Tryz.prog 26=false:=by kernel_rfl
@[go_sem] theorem Um:Go.PA.aN Tryz.prog 26=some 75:=by kernel_rfl
@[go_sem] theorem Us:aq Tryz.prog 28=3:=by kernel_rfl
@[go_sem] theorem V2:aA Tryz.prog 28=true:=by kernel_rfl
@[go_sem] theorem Uz:bO Tryz.prog 28=true:=by kernel_rfl
@[go_sem] theorem RB:an Tryz.prog 28 0=some (0,3):=by kernel_rfl
@[go_sem] theorem RD:an Tryz.prog 28 1=some (1,25):=by kernel_rfl
@[go_sem] theorem Rs:an Tryz.prog 28 2=some (2,26):=by kernel_rfl
@[go_sem] theorem U6:cJ Tryz.prog 28=none:=by kernel_rfl
@[go_sem] theorem Ww:aE Tryz.prog 28=true:=by kernel_rfl
@[go_sem] theorem Vs:bP Tryz.prog 28=some [.sc (.int .i64 0),.nil,.nil]:=by kernel_rfl
@[go_sem] theorem Vu:aq Tryz.prog 29=1:=by kernel_rfl
@[go_sem] theorem UY:aA Tryz.prog 29=true:=by kernel_rfl
@[go_sem] theorem Wt:bO Tryz.prog 29=false:=by kernel_rfl
@[go_sem] theorem UU:Go.PA.aN Tryz.prog 29=some 81:=by kernel_rfl
@[go_sem] theorem VI:aq Tryz.prog 30=1:=by kernel_rfl
@[go_sem] theorem Wz:aA Tryz.prog 30=true:=by kernel_rfl
@[go_sem] theorem Ur:bO Tryz.prog 30=false:=by kernel_rfl
@[go_sem] theorem U4:Go.PA.aN Tryz.prog 30=some 140:=by kernel_rfl
@[go_sem] theorem VE:aq Tryz.prog 32=3:=by kernel_rfl
@[go_sem] theorem U8:aA Tryz.prog 32=true:=by kernel_rfl
@[go_sem] theorem Vq:bO Tryz.prog 32=true:=by kernel_rfl
@[go_sem] theorem RE:an Tryz.prog 32 0=some (0,29):=by kernel_rfl
@[go_sem] theorem Rh:an Tryz.prog 32 1=some (1,22):=by kernel_rfl
@[go_sem] theorem Ra:an Tryz.prog 32 2=some (2,30):=by kernel_rfl
@[go_sem] theorem WI:cJ Tryz.prog 32=none:=by kernel_rfl
@[go_sem] theorem WB:aE Tryz.prog 32=true:=by kernel_rfl
@[go_sem] theorem U7:bP Tryz.prog 32=some [.nil,.nil,.nil]:=by kernel_rfl
@[go_sem] theorem Wy:aq Tryz.prog 33=1:=by kernel_rfl
@[go_sem] theorem WS:aA Tryz.prog 33=true:=by kernel_rfl
@[go_sem] theorem UT:bO Tryz.prog 33=false:=by kernel_rfl
@[go_sem] theorem Wv:Go.PA.aN Tryz.prog 33=some 83:=by kernel_rfl
@[go_sem] theorem Vn:aq Tryz.prog 35=7:=by kernel_rfl
@[go_sem] theorem V7:aA Tryz.prog 35=true:=by kernel_rfl
@[go_sem] theorem UR:bO Tryz.prog 35=true:=by kernel_rfl
@[go_sem] theorem RH:an Tryz.prog 35 0=some (0,28):=by kernel_rfl
@[go_sem] theorem Ru:an Tryz.prog 35 1=some (3,32):=by kernel_rfl
@[go_sem] theorem QS:an Tryz.prog 35 2=some (6,33):=by kernel_rfl
@[go_sem] theorem Uv:cJ Tryz.prog 35=none:=by kernel_rfl
@[go_sem] theorem VV:aE Tryz.prog 35=true:=by kernel_rfl
@[go_sem] theorem Ub:bP Tryz.prog 35=some [.sc (.int .i64 0),.nil,.nil,.nil,.nil,.nil,.nil]:=by kernel_rfl
@[go_sem] theorem UH:aq Tryz.prog 36=1:=by kernel_rfl
@[go_sem] theorem WV:aA Tryz.prog 36=true:=by kernel_rfl
@[go_sem] theorem Vm:bO Tryz.prog 36=false:=by kernel_rfl
@[go_sem] theorem UG:Go.PA.aN Tryz.prog 36=some 145:=by kernel_rfl
@[go_sem] theorem V1:aq Tryz.prog 37=1:=by kernel_rfl
@[go_sem] theorem Vw:aA Tryz.prog 37=true:=by kernel_rfl
@[go_sem] theorem V3:bO Tryz.prog 37=false:=by kernel_rfl
@[go_sem] theorem V4:Go.PA.aN Tryz.prog 37=some 79:=by kernel_rfl
@[go_sem] theorem VP:aq Tryz.prog 38=1:=by kernel_rfl
@[go_sem] theorem VF:aA Tryz.prog 38=true:=by kernel_rfl
@[go_sem] theorem UF:bO Tryz.prog 38=false:=by kernel_rfl
@[go_sem] theorem V9:Go.PA.aN Tryz.prog 38=some 149:=by kernel_rfl
@[go_sem] theorem V5:aq Tryz.prog 40=4:=by kernel_rfl
@[go_sem] theorem Vd:aA Tryz.prog 40=true:=by kernel_rfl
@[go_sem] theorem UE:bO Tryz.prog 40=true:=by kernel_rfl
@[go_sem] theorem Rq:an Tryz.prog 40 0=some (0,36):=by kernel_rfl
@[go_sem] theorem Ry:an Tryz.prog 40 1=some (1,37):=by kernel_rfl
@[go_sem] theorem Rd:an Tryz.prog 40 2=some (2,38):=by kernel_rfl
@[go_sem] theorem Rl:an Tryz.prog 40 3=some (3,22):=by kernel_rfl
@[go_sem] theorem VX:cJ Tryz.prog 40=none:=by kernel_rfl
@[go_sem] theorem US:aE Tryz.prog 40=true:=by kernel_rfl
@[go_sem] theorem Ui:bP Tryz.prog 40=some [.nil,.nil,.nil,.nil]:=by kernel_rfl
@[go_sem] theorem Wg:aq Tryz.prog 41=1:=by kernel_rfl
@[go_sem] theorem Wo:aA Tryz.prog 41=true:=by kernel_rfl
@[go_sem] theorem V8:bO Tryz.prog 41=false:=by kernel_rfl
@[go_sem] theorem Vi:Go.PA.aN Tryz.prog 41=some 89:=by kernel_rfl
@[go_sem] theorem Uk:aq Tryz.prog 42=1:=by kernel_rfl
@[go_sem] theorem Uw:aA Tryz.prog 42=true:=by kernel_rfl
@[go_sem] theorem VO:bO Tryz.prog 42=false:=by kernel_rfl
@[go_sem] theorem PP:Go.PA.aN Tryz.prog 42=some 173:=by kernel_rfl
@[go_sem] theorem Vt:aq Tryz.prog 43=1:=by kernel_rfl
@[go_sem] theorem Ua:aA Tryz.prog 43=true:=by kernel_rfl
@[go_sem] theorem Vf:bO Tryz.prog 43=false:=by kernel_rfl
@[go_sem] theorem Vk:Go.PA.aN Tryz.prog 43=some 70:=by kernel_rfl
@[go_sem] theorem Vb:aq Tryz.prog 45=3:=by kernel_rfl
@[go_sem] theorem Uq:aA Tryz.prog 45=true:=by kernel_rfl
@[go_sem] theorem VG:bO Tryz.prog 45=true:=by kernel_rfl
@[go_sem] theorem RP:an Tryz.prog 45 0=some (0,41):=by kernel_rfl
@[go_sem] theorem Rk:an Tryz.prog 45 1=some (1,42):=by kernel_rfl
@[go_sem] theorem Q8:an Tryz.prog 45 2=some (2,43):=by kernel_rfl
@[go_sem] theorem Vx:cJ Tryz.prog 45=none:=by kernel_rfl
@[go_sem] theorem UV:aE Tryz.prog 45=true:=by kernel_rfl
@[go_sem] theorem Wk:bP Tryz.prog 45=some [.nil,.nil,.nil]:=by kernel_rfl
@[go_sem] theorem T5:aq Tryz.prog 46=1:=by kernel_rfl
@[go_sem] theorem U9:aA Tryz.prog 46=true:=by kernel_rfl
@[go_sem] theorem Uc:bO Tryz.prog 46=false:=by kernel_rfl
@[go_sem] theorem Wf:Go.PA.aN Tryz.prog 46=some 77:=by kernel_rfl
@[go_sem] theorem UP:aq Tryz.prog 48=1:=by kernel_rfl
@[go_sem] theorem T9:aA Tryz.prog 48=true:=by kernel_rfl
@[go_sem] theorem Vc:bO Tryz.prog 48=true:=by kernel_rfl
@[go_sem] theorem Q4:an Tryz.prog 48 0=some (0,46):=by kernel_rfl
@[go_sem] theorem VQ:cJ Tryz.prog 48=none:=by kernel_rfl
@[go_sem] theorem V6:aE Tryz.prog 48=true:=by kernel_rfl
@[go_sem] theorem VB:bP Tryz.prog 48=some [.nil]:=by kernel_rfl
@[go_sem] theorem V0:aq Tryz.prog 50=15:=by kernel_rfl
@[go_sem] theorem WL:aA Tryz.prog 50=true:=by kernel_rfl
@[go_sem] theorem Uy:bO Tryz.prog 50=true:=by kernel_rfl
@[go_sem] theorem QI:an Tryz.prog 50 0=some (0,35):=by kernel_rfl
@[go_sem] theorem Ri:an Tryz.prog 50 1=some (7,40):=by kernel_rfl
@[go_sem] theorem QP:an Tryz.prog 50 2=some (11,45):=by kernel_rfl
@[go_sem] theorem QQ:an Tryz.prog 50 3=some (14,48):=by kernel_rfl
@[go_sem] theorem Wh:aE Tryz.prog 50=true:=by kernel_rfl
@[go_sem] theorem Vp:bP Tryz.prog 50=some [.sc (.int .i64 0),.nil,.nil,.nil,.nil,.nil,.nil,.nil,.nil,.nil,.nil,.nil,.nil,.nil,.nil]:=by kernel_rfl
@[go_sem] theorem WR:aq Tryz.prog 51=1:=by kernel_rfl
@[go_sem] theorem Vh:aA Tryz.prog 51=true:=by kernel_rfl
@[go_sem] theorem Wd:bO Tryz.prog 51=false:=by kernel_rfl
@[go_sem] theorem Wq:Go.PA.aN Tryz.prog 56=some 59:=by kernel_rfl
@[go_sem] theorem VC:aq Tryz.prog 59=7:=by kernel_rfl
@[go_sem] theorem Wj:aA Tryz.prog 59=true:=by kernel_rfl
@[go_sem] theorem WG:bO Tryz.prog 59=true:=by kernel_rfl
@[go_sem] theorem QO:an Tryz.prog 59 0=some (0,3):=by kernel_rfl
@[go_sem] theorem QR:an Tryz.prog 59 1=some (1,3):=by kernel_rfl
@[go_sem] theorem RO:an Tryz.prog 59 2=some (2,3):=by kernel_rfl
@[go_sem] theorem Re:an Tryz.prog 59 3=some (3,3):=by kernel_rfl
@[go_sem] theorem Q9:an Tryz.prog 59 4=some (4,3):=by kernel_rfl
@[go_sem] theorem QV:an Tryz.prog 59 5=some (5,3):=by kernel_rfl
@[go_sem] theorem Rg:an Tryz.prog 59 6=some (6,3):=by kernel_rfl
@[go_sem] theorem WM:cJ Tryz.prog 59=none:=by kernel_rfl
@[go_sem] theorem Vo:aE Tryz.prog 59=true:=by kernel_rfl
@[go_sem] theorem Ul:bP Tryz.prog 59=some [.sc (.int .i64 0),.sc (.int .i64 0),.sc (.int .i64 0),.sc (.int .i64 0),.sc (.int .i64 0),.sc (.int .i64 0),.sc (.int .i64 0)]:=by kernel_rfl
@[go_sem] theorem T7:bX Tryz.prog 59=56:=by kernel_rfl
@[go_sem] theorem Uj:Go.PA.aN Tryz.prog 62=some 105:=by kernel_rfl
@[go_sem] theorem WU:aq Tryz.prog 70=7:=by kernel_rfl
@[go_sem] theorem UB:aA Tryz.prog 70=true:=by kernel_rfl
@[go_sem] theorem VL:bO Tryz.prog 70=true:=by kernel_rfl
@[go_sem] theorem Rz:an Tryz.prog 70 0=some (0,3):=by kernel_rfl
@[go_sem] theorem QL:an Tryz.prog 70 1=some (1,3):=by kernel_rfl
@[go_sem] theorem Rp:an Tryz.prog 70 2=some (2,3):=by kernel_rfl
@[go_sem] theorem Rv:an Tryz.prog 70 3=some (3,3):=by kernel_rfl
@[go_sem] theorem RK:an Tryz.prog 70 4=some (4,3):=by kernel_rfl
@[go_sem] theorem RL:an Tryz.prog 70 5=some (5,3):=by kernel_rfl
@[go_sem] theorem QX:an Tryz.prog 70 6=some (6,3):=by kernel_rfl
@[go_sem] theorem Vz:cJ Tryz.prog 70=none:=by kernel_rfl
@[go_sem] theorem Ue:aE Tryz.prog 70=true:=by kernel_rfl
@[go_sem] theorem UZ:bP Tryz.prog 70=some [.sc (.int .i64 0),.sc (.int .i64 0),.sc (.int .i64 0),.sc (.int .i64 0),.sc (.int .i64 0),.sc (.int .i64 0),.sc (.int .i64 0)]:=by kernel_rfl
@[go_sem] theorem WZ:bX Tryz.prog 70=56:=by kernel_rfl
@[go_sem] theorem Ux:aq Tryz.prog 75=6:=by kernel_rfl
@[go_sem] theorem UW:aA Tryz.prog 75=true:=by kernel_rfl
@[go_sem] theorem W0:bO Tryz.prog 75=true:=by kernel_rfl
@[go_sem] theorem RC:an Tryz.prog 75 0=some (0,3):=by kernel_rfl
@[go_sem] theorem Q1:an Tryz.prog 75 1=some (1,3):=by kernel_rfl
@[go_sem] theorem RR:an Tryz.prog 75 2=some (2,3):=by kernel_rfl
@[go_sem] theorem QY:an Tryz.prog 75 3=some (3,3):=by kernel_rfl
@[go_sem] theorem Q7:an Tryz.prog 75 4=some (4,3):=by kernel_rfl
@[go_sem] theorem RM:an Tryz.prog 75 5=some (5,3):=by kernel_rfl
@[go_sem] theorem UX:cJ Tryz.prog 75=none:=by kernel_rfl
@[go_sem] theorem WN:aE Tryz.prog 75=true:=by kernel_rfl
@[go_sem] theorem Wb:bP Tryz.prog 75=some [.sc (.int .i64 0),.sc (.int .i64 0),.sc (.int .i64 0),.sc (.int .i64 0),.sc (.int .i64 0),.sc (.int .i64 0)]:=by kernel_rfl
@[go_sem] theorem Ug:bX Tryz.prog 75=48:=by kernel_rfl
@[go_sem] theorem WD:aq Tryz.prog 77=8:=by kernel_rfl
@[go_sem] theorem Un:aA Tryz.prog 77=true:=by kernel_rfl
@[go_sem] theorem T4:bO Tryz.prog 77=true:=by kernel_rfl
@[go_sem] theorem RJ:an Tryz.prog 77 0=some (0,3):=by kernel_rfl
@[go_sem] theorem Q2:an Tryz.prog 77 1=some (1,3):=by kernel_rfl
@[go_sem] theorem Q3:an Tryz.prog 77 2=some (2,3):=by kernel_rfl
@[go_sem] theorem Rf:an Tryz.prog 77 3=some (3,3):=by kernel_rfl
@[go_sem] theorem RN:an Tryz.prog 77 4=some (4,3):=by kernel_rfl
@[go_sem] theorem Rr:an Tryz.prog 77 5=some (5,3):=by kernel_rfl
@[go_sem] theorem Ro:an Tryz.prog 77 6=some (6,3):=by kernel_rfl
@[go_sem] theorem QW:an Tryz.prog 77 7=some (7,3):=by kernel_rfl
@[go_sem] theorem Vy:cJ Tryz.prog 77=none:=by kernel_rfl
@[go_sem] theorem VY:aE Tryz.prog 77=true:=by kernel_rfl
@[go_sem] theorem Wr:j8 Tryz.prog 77=some [.int,.int,.int,.int,.int,.int,.int,.int]:=by kernel_rfl
@[go_sem] theorem UQ:bP Tryz.prog 77=some [.sc (.int .i64 0),.sc (.int .i64 0),.sc (.int .i64 0),.sc (.int .i64 0),.sc (.int .i64 0),.sc (.int .i64 0),.sc (.int .i64 0),.sc (.int .i64 0)]:=by kernel_rfl
@[go_sem] theorem WF:bX Tryz.prog 77=64:=by kernel_rfl
@[go_sem] theorem UO:aq Tryz.prog 79=5:=by kernel_rfl
@[go_sem] theorem VZ:aA Tryz.prog 79=true:=by kernel_rfl
@[go_sem] theorem Wc:bO Tryz.prog 79=true:=by kernel_rfl
@[go_sem] theorem QN:an Tryz.prog 79 0=some (0,3):=by kernel_rfl
@[go_sem] theorem Rm:an Tryz.prog 79 1=some (1,3):=by kernel_rfl
@[go_sem] theorem Rb:an Tryz.prog 79 2=some (2,3):=by kernel_rfl
@[go_sem] theorem Q6:an Tryz.prog 79 3=some (3,3):=by kernel_rfl
@[go_sem] theorem RA:an Tryz.prog 79 4=some (4,3):=by kernel_rfl
@[go_sem] theorem U2:cJ Tryz.prog 79=none:=by kernel_rfl
@[go_sem] theorem U5:aE Tryz.prog 79=true:=by kernel_rfl
@[go_sem] theorem Wp:bP Tryz.prog 79=some [.sc (.int .i64 0),.sc (.int .i64 0),.sc (.int .i64 0),.sc (.int .i64 0),.sc (.int .i64 0)]:=by kernel_rfl
@[go_sem] theorem Uu:bX Tryz.prog 79=40:=by kernel_rfl
@[go_sem] theorem Vg:aq Tryz.prog 81=5:=by kernel_rfl
@[go_sem] theorem Ws:aA Tryz.prog 81=true:=by kernel_rfl
@[go_sem] theorem VT:bO Tryz.prog 81=true:=by kernel_rfl
@[go_sem] theorem RI:an Tryz.prog 81 0=some (0,3):=by kernel_rfl
@[go_sem] theorem QZ:an Tryz.prog 81 1=some (1,3):=by kernel_rfl
@[go_sem] theorem RF:an Tryz.prog 81 2=some (2,3):=by kernel_rfl
@[go_sem] theorem Q5:an Tryz.prog 81 3=some (3,3):=by kernel_rfl
@[go_sem] theorem Rc:an Tryz.prog 81 4=some (4,3):=by kernel_rfl
@[go_sem] theorem WC:cJ Tryz.prog 81=none:=by kernel_rfl
@[go_sem] theorem WX:aE Tryz.prog 81=true:=by kernel_rfl
@[go_sem] theorem VD:j8 Tryz.prog 81=some [.int,.int,.int,.int,.int]:=by kernel_rfl
@[go_sem] theorem Wu:bP Tryz.prog 81=some [.sc (.int .i64 0),.sc (.int .i64 0),.sc (.int .i64 0),.sc (.int .i64 0),.sc (.int .i64 0)]:=by kernel_rfl
@[go_sem] theorem UM:bX Tryz.prog 81=40:=by kernel_rfl
@[go_sem] theorem T6:aq Tryz.prog 83=7:=by kernel_rfl
@[go_sem] theorem Wa:aA Tryz.prog 83=true:=by kernel_rfl
@[go_sem] theorem WW:bO Tryz.prog 83=true:=by kernel_rfl
@[go_sem] theorem Rw:an Tryz.prog 83 0=some (0,81):=by kernel_rfl
@[go_sem] theorem QU:an Tryz.prog 83 1=some (5,3):=by kernel_rfl
@[go_sem] theorem Rx:an Tryz.prog 83 2=some (6,3):=by kernel_rfl
@[go_sem] theorem WA:cJ Tryz.prog 83=none:=by kernel_rfl
@[go_sem] theorem UA:aE Tryz.prog 83=true:=by kernel_rfl
@[go_sem] theorem Wx:bP Tryz.prog 83=some [.sc (.int .i64 0),.sc (.int .i64 0),.sc (.int .i64 0),.sc (.int .i64 0),.sc (.int .i64 0),.sc (.int .i64 0),.sc (.int .i64 0)]:=by kernel_rfl
@[go_sem] theorem We:bX Tryz.prog 83=56:=by kernel_rfl
@[go_sem] theorem QK:an Tryz.prog 85 0=some (0,22):=by kernel_rfl
@[go_sem] theorem WP:cJ Tryz.prog 85=none:=by kernel_rfl
@[go_sem] theorem Wi:aE Tryz.prog 85=true:=by kernel_rfl
@[go_sem] theorem VH:bP Tryz.prog 85=some [.nil,.sc (.int .i64 0)]:=by kernel_rfl
@[go_sem] theorem Vv:aq Tryz.prog 89=7:=by kernel_rfl
@[go_sem] theorem VU:aA Tryz.prog 89=true:=by kernel_rfl
@[go_sem] theorem Wn:bO Tryz.prog 89=true:=by kernel_rfl
@[go_sem] theorem Rn:an Tryz.prog 89 0=some (0,3):=by kernel_rfl
@[go_sem] theorem QT:an Tryz.prog 89 1=some (1,3):=by kernel_rfl
@[go_sem] theorem Rj:an Tryz.prog 89 2=some (2,3):=by kernel_rfl
@[go_sem] theorem QJ:an Tryz.prog 89 3=some (3,3):=by kernel_rfl
@[go_sem] theorem Rt:an Tryz.prog 89 4=some (4,3):=by kernel_rfl
@[go_sem] theorem QH:an Tryz.prog 89 5=some (5,3):=by kernel_rfl
@[go_sem] theorem Up:cJ Tryz.prog 89=none:=by kernel_rfl
@[go_sem] theorem WJ:aE Tryz.prog 89=true:=by kernel_rfl
@[go_sem] theorem W1:bP Tryz.prog 89=some [.sc (.int .i64 0),.sc (.int .i64 0),.sc (.int .i64 0),.sc (.int .i64 0),.sc (.int .i64 0),.sc (.int .i64 0),.sc (.bool false)]:=by kernel_rfl
@[go_sem] theorem Ve:bX Tryz.prog 89=56:=by kernel_rfl
@[go_sem] theorem QM:an Tryz.prog 96 0=some (0,50):=by kernel_rfl
@[go_sem] theorem Q0:an Tryz.prog 96 1=some (15,3):=by kernel_rfl
@[go_sem] theorem Vj:cJ Tryz.prog 96=none:=by kernel_rfl
@[go_sem] theorem Uo:aE Tryz.prog 96=true:=by kernel_rfl
@[go_sem] theorem U3:bP Tryz.prog 96=some [.sc (.int .i64 0),.nil,.nil,.nil,.nil,.nil,.nil,.nil,.nil,.nil,.nil,.nil,.nil,.nil,.nil,.sc (.int .i64 0)]:=by kernel_rfl
@[go_sem] theorem S5:aq Tryz.prog 105=2:=by kernel_rfl
@[go_sem] theorem PG:an Tryz.prog 105 0=some (0,3):=by kernel_rfl
@[go_sem] theorem PZ:an Tryz.prog 105 1=some (1,3):=by kernel_rfl
@[go_sem] theorem TZ:cJ Tryz.prog 105=none:=by kernel_rfl
@[go_sem] theorem Sv:aE Tryz.prog 105=true:=by kernel_rfl
@[go_sem] theorem R6:bP Tryz.prog 105=some [.sc (.int .i64 0),.sc (.int .i64 0)]:=by kernel_rfl
@[go_sem] theorem Te:bX Tryz.prog 105=16:=by kernel_rfl
@[go_sem] theorem Oo:aq Tryz.prog 121=2:=by kernel_rfl
@[go_sem] theorem O7:aA Tryz.prog 121=true:=by kernel_rfl
@[go_sem] theorem R0:bO Tryz.prog 121=true:=by kernel_rfl
@[go_sem] theorem P7:an Tryz.prog 121 0=some (0,3):=by kernel_rfl
@[go_sem] theorem PR:an Tryz.prog 121 1=some (1,3):=by kernel_rfl
@[go_sem] theorem Tz:cJ Tryz.prog 121=none:=by kernel_rfl
@[go_sem] theorem Tn:aE Tryz.prog 121=true:=by kernel_rfl
@[go_sem] theorem R9:j8 Tryz.prog 121=some [.int,.int]:=by kernel_rfl
@[go_sem] theorem SZ:bP Tryz.prog 121=some [.sc (.int .i64 0),.sc (.int .i64 0)]:=by kernel_rfl
@[go_sem] theorem TX:bX Tryz.prog 121=16:=by kernel_rfl
@[go_sem] theorem Sf:aq Tryz.prog 140=3:=by kernel_rfl
@[go_sem] theorem Sl:aA Tryz.prog 140=true:=by kernel_rfl
@[go_sem] theorem Tf:bO Tryz.prog 140=true:=by kernel_rfl
@[go_sem] theorem Pt:an Tryz.prog 140 0=some (0,3):=by kernel_rfl
@[go_sem] theorem Pr:an Tryz.prog 140 1=some (1,3):=by kernel_rfl
@[go_sem] theorem PX:an Tryz.prog 140 2=some (2,29):=by kernel_rfl
@[go_sem] theorem Tv:cJ Tryz.prog 140=none:=by kernel_rfl
@[go_sem] theorem Tb:aE Tryz.prog 140=true:=by kernel_rfl
@[go_sem] theorem Tl:bP Tryz.prog 140=some [.sc (.int .i64 0),.sc (.int .i64 0),.nil]:=by kernel_rfl
@[go_sem] theorem Sz:bX Tryz.prog 140=40:=by kernel_rfl
@[go_sem] theorem R5:aA Tryz.prog 142=true:=by kernel_rfl
@[go_sem] theorem ST:bO Tryz.prog 142=false:=by kernel_rfl
@[go_sem] theorem TV:aq Tryz.prog 145=6:=by kernel_rfl
@[go_sem] theorem Ti:aA Tryz.prog 145=true:=by kernel_rfl
@[go_sem] theorem R8:bO Tryz.prog 145=true:=by kernel_rfl
@[go_sem] theorem PV:an Tryz.prog 145 0=some (0,3):=by kernel_rfl
@[go_sem] theorem SK:bP Tryz.prog 145=some [.sc (.int .i64 0),.sc (.int .i64 0),.sc (.int .i64 0),.sc (.int .i64 0),.sc (.int .i64 0),.sc (.string ByteArray.empty)]:=by kernel_rfl
@[go_sem] theorem SM:bX Tryz.prog 145=56:=by kernel_rfl
@[go_sem] theorem Sr:aq Tryz.prog 149=3:=by kernel_rfl
@[go_sem] theorem SR:aA Tryz.prog 149=true:=by kernel_rfl
@[go_sem] theorem Ta:bP Tryz.prog 149=some [.sc (.int .i64 0),.sc (.int .i64 0),.sc (.int .i64 0)]:=by kernel_rfl
@[go_sem] theorem TR:bX Tryz.prog 149=24:=by kernel_rfl
@[go_sem] theorem Sk:aq Tryz.prog 163=2:=by kernel_rfl
@[go_sem] theorem Sb:aA Tryz.prog 163=true:=by kernel_rfl
@[go_sem] theorem S1:bO Tryz.prog 163=true:=by kernel_rfl
@[go_sem] theorem P3:an Tryz.prog 163 0=some (0,3):=by kernel_rfl
@[go_sem] theorem PE:an Tryz.prog 163 1=some (1,51):=by kernel_rfl
@[go_sem] theorem Sd:cJ Tryz.prog 163=none:=by kernel_rfl
@[go_sem] theorem SO:aE Tryz.prog 163=true:=by kernel_rfl
@[go_sem] theorem S4:bP Tryz.prog 163=some [.sc (.int .i64 0),.sc (.int .i64 0)]:=by kernel_rfl
@[go_sem] theorem SW:Go.PA.aN Tryz.prog 166=some 163:=by kernel_rfl
@[go_sem] theorem Oy:aq Tryz.prog 173=3:=by kernel_rfl
@[go_sem] theorem Pi:aA Tryz.prog 173=true:=by kernel_rfl
@[go_sem] theorem Tj:bO Tryz.prog 173=true:=by kernel_rfl
@[go_sem] theorem Qh:an Tryz.prog 173 0=some (0,3):=by kernel_rfl
@[go_sem] theorem Qr:an Tryz.prog 173 1=some (1,3):=by kernel_rfl
@[go_sem] theorem Qq:an Tryz.prog 173 2=some (2,3):=by kernel_rfl
@[go_sem] theorem SH:cJ Tryz.prog 173=none:=by kernel_rfl
@[go_sem] theorem Tq:aE Tryz.prog 173=true:=by kernel_rfl
@[go_sem] theorem RV:j8 Tryz.prog 173=some [.int,.int,.int]:=by kernel_rfl
@[go_sem] theorem TI:bP Tryz.prog 173=some [.sc (.int .i64 0),.sc (.int .i64 0),.sc (.int .i64 0)]:=by kernel_rfl
@[go_sem] theorem Se:bX Tryz.prog 173=24:=by kernel_rfl
@[go_sem] theorem Pw:an Tryz.prog 183 0=some (0,41):=by kernel_rfl
@[go_sem] theorem Qs:an Tryz.prog 183 1=some (1,42):=by kernel_rfl
@[go_sem] theorem QD:an Tryz.prog 183 2=some (2,3):=by kernel_rfl
@[go_sem] theorem Qv:an Tryz.prog 183 3=some (3,3):=by kernel_rfl
@[go_sem] theorem Sa:cJ Tryz.prog 183=none:=by kernel_rfl
@[go_sem] theorem TK:aE Tryz.prog 183=true:=by kernel_rfl
@[go_sem] theorem RT:bP Tryz.prog 183=some [.nil,.nil,.sc (.int .i64 0),.sc (.int .i64 0)]:=by kernel_rfl
@[go_sem] theorem Pu:an Tryz.prog 216 0=some (0,3):=by kernel_rfl
@[go_sem] theorem PL:an Tryz.prog 216 1=some (1,3):=by kernel_rfl
@[go_sem] theorem Pz:an Tryz.prog 216 2=some (2,3):=by kernel_rfl
@[go_sem] theorem Qo:an Tryz.prog 216 3=some (3,25):=by kernel_rfl
@[go_sem] theorem TJ:cJ Tryz.prog 216=none:=by kernel_rfl
@[go_sem] theorem TC:aE Tryz.prog 216=true:=by kernel_rfl
@[go_sem] theorem S6:bP Tryz.prog 216=some [.sc (.int .i64 0),.sc (.int .i64 0),.sc (.int .i64 0),.nil]:=by kernel_rfl
@[go_sem] theorem Ou:mE Tryz.prog 285=some (3,.int .i64,4):=by kernel_rfl
@[go_sem] theorem Tu:F5 Tryz.prog 285 (.sc (.bool false)):=⟨_,_,Ou,by kernel_rfl⟩
@[go_sem] theorem Qa:an Tryz.prog 288 0=some (0,3):=by kernel_rfl
@[go_sem] theorem PW:an Tryz.prog 288 1=some (1,3):=by kernel_rfl
@[go_sem] theorem PO:an Tryz.prog 288 2=some (2,3):=by kernel_rfl
@[go_sem] theorem Tx:cJ Tryz.prog 288=none:=by kernel_rfl
@[go_sem] theorem SC:aE Tryz.prog 288=true:=by kernel_rfl
@[go_sem] theorem SD:j8 Tryz.prog 288=some [.int,.int,.int]:=by kernel_rfl
@[go_sem] theorem Th:bP Tryz.prog 288=some [.sc (.int .i64 0),.sc (.int .i64 0),.sc (.int .i64 0)]:=by kernel_rfl
@[go_sem] theorem R4:aq Tryz.prog 303=2:=by kernel_rfl
@[go_sem] theorem TS:aA Tryz.prog 303=true:=by kernel_rfl
@[go_sem] theorem R7:bO Tryz.prog 303=true:=by kernel_rfl
@[go_sem] theorem PJ:an Tryz.prog 303 0=some (0,3):=by kernel_rfl
@[go_sem] theorem Px:an Tryz.prog 303 1=some (1,3):=by kernel_rfl
@[go_sem] theorem Sj:cJ Tryz.prog 303=none:=by kernel_rfl
@[go_sem] theorem Su:aE Tryz.prog 303=true:=by kernel_rfl
@[go_sem] theorem S3:bP Tryz.prog 303=some [.sc (.int .i64 0),.sc (.int .i64 0)]:=by kernel_rfl
@[go_sem] theorem TG:aa Tryz.prog 7=true:=by kernel_rfl
@[go_sem] theorem W3:aa Tryz.prog 8=true:=by kernel_rfl
@[go_sem] theorem we:aa Tryz.prog 9=true:=by kernel_rfl
@[go_sem] theorem Py:aa Tryz.prog 10=true:=by kernel_rfl
@[go_sem] theorem QG:aa Tryz.prog 11=true:=by kernel_rfl
@[go_sem] theorem VS:aa Tryz.prog 12=true:=by kernel_rfl
@[go_sem] theorem Qx:aa Tryz.prog 13=true:=by kernel_rfl
@[go_sem] theorem Na:aa Tryz.prog 14=true:=by kernel_rfl
@[go_sem] theorem A9:aa Tryz.prog 15=true:=by kernel_rfl
@[go_sem] theorem Qm:aa Tryz.prog 16=true:=by kernel_rfl
@[go_sem] theorem p8:aa Tryz.prog 20=true:=by kernel_rfl
@[go_sem] theorem PI:aa Tryz.prog 23=true:=by kernel_rfl
@[go_sem] theorem WQ:aa Tryz.prog 24=true:=by kernel_rfl
@[go_sem] theorem UK:aa Tryz.prog 25=true:=by kernel_rfl
@[go_sem] theorem Ud:aa Tryz.prog 26=true:=by kernel_rfl
@[go_sem] theorem Ly:aa Tryz.prog 27=true:=by kernel_rfl
@[go_sem] theorem Nf:aa Tryz.prog 28=true:=by kernel_rfl
@[go_sem] theorem E8:aa Tryz.prog 29=true:=by kernel_rfl
@[go_sem] theorem M3:aa Tryz.prog 30=true:=by kernel_rfl
@[go_sem] theorem M5:aa Tryz.prog 31=true:=by kernel_rfl
@[go_sem] theorem Nc:aa Tryz.prog 32=true:=by kernel_rfl
@[go_sem] theorem Nn:aa Tryz.prog 33=true:=by kernel_rfl
@[go_sem] theorem Nq:aa Tryz.prog 34=true:=by kernel_rfl
@[go_sem] theorem Nk:aa Tryz.prog 35=true:=by kernel_rfl
@[go_sem] theorem Np:aa Tryz.prog 36=true:=by kernel_rfl
@[go_sem] theorem Fj:aa Tryz.prog 37=true:=by kernel_rfl
@[go_sem] theorem M8:aa Tryz.prog 38=true:=by kernel_rfl
@[go_sem] theorem M4:aa Tryz.prog 39=true:=by kernel_rfl
@[go_sem] theorem Nb:aa Tryz.prog 40=true:=by kernel_rfl
@[go_sem] theorem Qu:aa Tryz.prog 42=true:=by kernel_rfl
@[go_sem] theorem QA:aa Tryz.prog 43=true:=by kernel_rfl
@[go_sem] theorem JH:aa Tryz.prog 46=true:=by kernel_rfl
@[go_sem] theorem PS:aa Tryz.prog 47=true:=by kernel_rfl
@[go_sem] theorem Nr:aa Tryz.prog 48=true:=by kernel_rfl
@[go_sem] theorem CH:aa Tryz.prog 50=true:=by kernel_rfl
@[go_sem] theorem Pv:aa Tryz.prog 51=true:=by kernel_rfl
@[go_sem] theorem M7:aa Tryz.prog 52=true:=by kernel_rfl
@[go_sem] theorem Fo:aa Tryz.prog 55=true:=by kernel_rfl
@[go_sem] theorem M0:aa Tryz.prog 56=true:=by kernel_rfl
@[go_sem] theorem Uh:aa Tryz.prog 57=true:=by kernel_rfl
@[go_sem] theorem sN:aa Tryz.prog 59=true:=by kernel_rfl
@[go_sem] theorem Ps:aa Tryz.prog 60=true:=by kernel_rfl
@[go_sem] theorem Vl:aa Tryz.prog 61=true:=by kernel_rfl
@[go_sem] theorem Qy:aa Tryz.prog 62=true:=by kernel_rfl
@[go_sem] theorem VK:aa Tryz.prog 63=true:=by kernel_rfl
@[go_sem] theorem U0:aa Tryz.prog 64=true:=by kernel_rfl
@[go_sem] theorem UD:aa Tryz.prog 65=true:=by kernel_rfl
@[go_sem] theorem VA:aa Tryz.prog 66=true:=by kernel_rfl
@[go_sem] theorem WE:aa Tryz.prog 67=true:=by kernel_rfl
@[go_sem] theorem W2:aa Tryz.prog 68=true:=by kernel_rfl
@[go_sem] theorem VR:aa Tryz.prog 69=true:=by kernel_rfl
@[go_sem] theorem UJ:aa Tryz.prog 70=true:=by kernel_rfl
@[go_sem] theorem UI:aa Tryz.prog 71=true:=by kernel_rfl
@[go_sem] theorem VN:aa Tryz.prog 72=true:=by kernel_rfl
@[go_sem] theorem VM:aa Tryz.prog 73=true:=by kernel_rfl
@[go_sem] theorem Uf:aa Tryz.prog 74=true:=by kernel_rfl
@[go_sem] theorem Vr:aa Tryz.prog 75=true:=by kernel_rfl
@[go_sem] theorem Wl:aa Tryz.prog 76=true:=by kernel_rfl
@[go_sem] theorem WK:aa Tryz.prog 77=true:=by kernel_rfl
@[go_sem] theorem UN:aa Tryz.prog 78=true:=by kernel_rfl
@[go_sem] theorem UL:aa Tryz.prog 79=true:=by kernel_rfl
@[go_sem] theorem WH:aa Tryz.prog 80=true:=by kernel_rfl
@[go_sem] theorem WT:aa Tryz.prog 81=true:=by kernel_rfl
@[go_sem] theorem Fa:aa Tryz.prog 82=true:=by kernel_rfl
@[go_sem] theorem Nt:aa Tryz.prog 83=true:=by kernel_rfl
@[go_sem] theorem M6:aa Tryz.prog 84=true:=by kernel_rfl
@[go_sem] theorem Ns:aa Tryz.prog 85=true:=by kernel_rfl
@[go_sem] theorem PD:aa Tryz.prog 86=true:=by kernel_rfl
@[go_sem] theorem PY:aa Tryz.prog 87=true:=by kernel_rfl
@[go_sem] theorem PN:aa Tryz.prog 88=true:=by kernel_rfl
@[go_sem] theorem Qz:aa Tryz.prog 89=true:=by kernel_rfl
@[go_sem] theorem P4:aa Tryz.prog 90=true:=by kernel_rfl
@[go_sem] theorem Nz:aa Tryz.prog 93=true:=by kernel_rfl
@[go_sem] theorem P9:aa Tryz.prog 94=true:=by kernel_rfl
@[go_sem] theorem Bn:aa Tryz.prog 95=true:=by kernel_rfl
@[go_sem] theorem P6:aa Tryz.prog 96=true:=by kernel_rfl
@[go_sem] theorem M9:aa Tryz.prog 97=true:=by kernel_rfl
@[go_sem] theorem Qd:aa Tryz.prog 98=true:=by kernel_rfl
@[go_sem] theorem Ni:aa Tryz.prog 99=true:=by kernel_rfl
@[go_sem] theorem Ed:aa Tryz.prog 100=true:=by kernel_rfl
@[go_sem] theorem Em:aa Tryz.prog 101=true:=by kernel_rfl
@[go_sem] theorem Lu:aa Tryz.prog 102=true:=by kernel_rfl
@[go_sem] theorem LA:aa Tryz.prog 103=true:=by kernel_rfl
@[go_sem] theorem ji:aa Tryz.prog 104=true:=by kernel_rfl
@[go_sem] theorem S9:aa Tryz.prog 105=true:=by kernel_rfl
@[go_sem] theorem RX:aa Tryz.prog 106=true:=by kernel_rfl
@[go_sem] theorem SE:aa Tryz.prog 109=true:=by kernel_rfl
@[go_sem] theorem Sy:aa Tryz.prog 110=true:=by kernel_rfl
@[go_sem] theorem OM:aa Tryz.prog 111=true:=by kernel_rfl
@[go_sem] theorem Sw:aa Tryz.prog 112=true:=by kernel_rfl
@[go_sem] theorem SN:aa Tryz.prog 113=true:=by kernel_rfl
@[go_sem] theorem S7:aa Tryz.prog 114=true:=by kernel_rfl
@[go_sem] theorem Sn:aa Tryz.prog 115=true:=by kernel_rfl
@[go_sem] theorem T0:aa Tryz.prog 116=true:=by kernel_rfl
@[go_sem] theorem SP:aa Tryz.prog 117=true:=by kernel_rfl
@[go_sem] theorem Oc:aa Tryz.prog 118=true:=by kernel_rfl
@[go_sem] theorem T2:aa Tryz.prog 119=true:=by kernel_rfl
@[go_sem] theorem RY:aa Tryz.prog 120=true:=by kernel_rfl
@[go_sem] theorem R1:aa Tryz.prog 121=true:=by kernel_rfl
@[go_sem] theorem Tp:aa Tryz.prog 122=true:=by kernel_rfl
@[go_sem] theorem Tm:aa Tryz.prog 123=true:=by kernel_rfl
@[go_sem] theorem SX:aa Tryz.prog 124=true:=by kernel_rfl
@[go_sem] theorem TB:aa Tryz.prog 125=true:=by kernel_rfl
@[go_sem] theorem Tt:aa Tryz.prog 126=true:=by kernel_rfl
@[go_sem] theorem Sg:aa Tryz.prog 127=true:=by kernel_rfl
@[go_sem] theorem TP:aa Tryz.prog 128=true:=by kernel_rfl
@[go_sem] theorem N4:aa Tryz.prog 129=true:=by kernel_rfl
@[go_sem] theorem Sp:aa Tryz.prog 130=true:=by kernel_rfl
@[go_sem] theorem OQ:aa Tryz.prog 131=true:=by kernel_rfl
@[go_sem] theorem NA:aa Tryz.prog 132=true:=by kernel_rfl
@[go_sem] theorem Og:aa Tryz.prog 133=true:=by kernel_rfl
@[go_sem] theorem N0:aa Tryz.prog 134=true:=by kernel_rfl
@[go_sem] theorem NZ:aa Tryz.prog 135=true:=by kernel_rfl
@[go_sem] theorem Oa:aa Tryz.prog 136=true:=by kernel_rfl
@[go_sem] theorem OK:aa Tryz.prog 137=true:=by kernel_rfl
@[go_sem] theorem Lq:aa Tryz.prog 138=true:=by kernel_rfl
@[go_sem] theorem JA:aa Tryz.prog 139=true:=by kernel_rfl
@[go_sem] theorem NM:aa Tryz.prog 140=true:=by kernel_rfl
@[go_sem] theorem NI:aa Tryz.prog 141=true:=by kernel_rfl
@[go_sem] theorem Pg:aa Tryz.prog 142=true:=by kernel_rfl
@[go_sem] theorem Od:aa Tryz.prog 143=true:=by kernel_rfl
@[go_sem] theorem Lf:aa Tryz.prog 144=true:=by kernel_rfl
@[go_sem] theorem Oe:aa Tryz.prog 145=true:=by kernel_rfl
@[go_sem] theorem eR:aa Tryz.prog 146=true:=by kernel_rfl
@[go_sem] theorem Oi:aa Tryz.prog 147=true:=by kernel_rfl
@[go_sem] theorem LC:aa Tryz.prog 148=true:=by kernel_rfl
@[go_sem] theorem v6:aa Tryz.prog 149=true:=by kernel_rfl
@[go_sem] theorem OX:aa Tryz.prog 150=true:=by kernel_rfl
@[go_sem] theorem N3:aa Tryz.prog 151=true:=by kernel_rfl
@[go_sem] theorem NJ:aa Tryz.prog 152=true:=by kernel_rfl
@[go_sem] theorem OS:aa Tryz.prog 153=true:=by kernel_rfl
@[go_sem] theorem NB:aa Tryz.prog 154=true:=by kernel_rfl
@[go_sem] theorem Pm:aa Tryz.prog 155=true:=by kernel_rfl
@[go_sem] theorem OR:aa Tryz.prog 156=true:=by kernel_rfl
@[go_sem] theorem Jo:aa Tryz.prog 157=true:=by kernel_rfl
@[go_sem] theorem KO:aa Tryz.prog 158=true:=by kernel_rfl
@[go_sem] theorem NS:aa Tryz.prog 159=true:=by kernel_rfl
@[go_sem] theorem Jt:aa Tryz.prog 160=true:=by kernel_rfl
@[go_sem] theorem NY:aa Tryz.prog 161=true:=by kernel_rfl
@[go_sem] theorem KI:aa Tryz.prog 162=true:=by kernel_rfl
@[go_sem] theorem NV:aa Tryz.prog 164=true:=by kernel_rfl
@[go_sem] theorem Sq:aa Tryz.prog 165=true:=by kernel_rfl
@[go_sem] theorem Si:aa Tryz.prog 166=true:=by kernel_rfl
@[go_sem] theorem R3:aa Tryz.prog 168=true:=by kernel_rfl
@[go_sem] theorem RS:aa Tryz.prog 169=true:=by kernel_rfl
@[go_sem] theorem SI:aa Tryz.prog 170=true:=by kernel_rfl
@[go_sem] theorem Ld:aa Tryz.prog 171=true:=by kernel_rfl
@[go_sem] theorem R2:aa Tryz.prog 172=true:=by kernel_rfl
@[go_sem] theorem RZ:aa Tryz.prog 173=true:=by kernel_rfl
@[go_sem] theorem S2:aa Tryz.prog 174=true:=by kernel_rfl
@[go_sem] theorem It:aa Tryz.prog 175=true:=by kernel_rfl
@[go_sem] theorem NX:aa Tryz.prog 176=true:=by kernel_rfl
@[go_sem] theorem TE:aa Tryz.prog 177=true:=by kernel_rfl
@[go_sem] theorem SF:aa Tryz.prog 178=true:=by kernel_rfl
@[go_sem] theorem RW:aa Tryz.prog 179=true:=by kernel_rfl
@[go_sem] theorem O9:aa Tryz.prog 182=true:=by kernel_rfl
@[go_sem] theorem TN:aa Tryz.prog 183=true:=by kernel_rfl
@[go_sem] theorem Tg:aa Tryz.prog 184=true:=by kernel_rfl
@[go_sem] theorem Ok:aa Tryz.prog 185=true:=by kernel_rfl
@[go_sem] theorem Tw:aa Tryz.prog 186=true:=by kernel_rfl
@[go_sem] theorem NW:aa Tryz.prog 187=true:=by kernel_rfl
@[go_sem] theorem SU:aa Tryz.prog 188=true:=by kernel_rfl
@[go_sem] theorem TA:aa Tryz.prog 189=true:=by kernel_rfl
@[go_sem] theorem Ty:aa Tryz.prog 190=true:=by kernel_rfl
@[go_sem] theorem pG:aa Tryz.prog 191=true:=by kernel_rfl
@[go_sem] theorem Pk:aa Tryz.prog 192=true:=by kernel_rfl
@[go_sem] theorem IK:aa Tryz.prog 193=true:=by kernel_rfl
@[go_sem] theorem Ob:aa Tryz.prog 194=true:=by kernel_rfl
@[go_sem] theorem Kg:aa Tryz.prog 195=true:=by kernel_rfl
@[go_sem] theorem OJ:aa Tryz.prog 196=true:=by kernel_rfl
@[go_sem] theorem Kx:aa Tryz.prog 197=true:=by kernel_rfl
@[go_sem] theorem Li:aa Tryz.prog 198=true:=by kernel_rfl
@[go_sem] theorem On:aa Tryz.prog 199=true:=by kernel_rfl
@[go_sem] theorem Ox:aa Tryz.prog 200=true:=by kernel_rfl
@[go_sem] theorem O4:aa Tryz.prog 201=true:=by kernel_rfl
@[go_sem] theorem Pl:aa Tryz.prog 202=true:=by kernel_rfl
@[go_sem] theorem Pd:aa Tryz.prog 205=true:=by kernel_rfl
@[go_sem] theorem OH:aa Tryz.prog 206=true:=by kernel_rfl
@[go_sem] theorem Ow:aa Tryz.prog 207=true:=by kernel_rfl
@[go_sem] theorem NH:aa Tryz.prog 208=true:=by kernel_rfl
@[go_sem] theorem rC:aa Tryz.prog 209=true:=by kernel_rfl
@[go_sem] theorem Oq:aa Tryz.prog 210=true:=by kernel_rfl
@[go_sem] theorem OY:aa Tryz.prog 211=true:=by kernel_rfl
@[go_sem] theorem OC:aa Tryz.prog 213=true:=by kernel_rfl
@[go_sem] theorem EK:aa Tryz.prog 214=true:=by kernel_rfl
@[go_sem] theorem Dx:aa Tryz.prog 215=true:=by kernel_rfl
@[go_sem] theorem En:aa Tryz.prog 216=true:=by kernel_rfl
@[go_sem] theorem Pf:aa Tryz.prog 217=true:=by kernel_rfl
@[go_sem] theorem La:aa Tryz.prog 218=true:=by kernel_rfl
@[go_sem] theorem DP:aa Tryz.prog 219=true:=by kernel_rfl
@[go_sem] theorem N5:aa Tryz.prog 220=true:=by kernel_rfl
@[go_sem] theorem NR:aa Tryz.prog 221=true:=by kernel_rfl
@[go_sem] theorem IW:aa Tryz.prog 222=true:=by kernel_rfl
@[go_sem] theorem zg:aa Tryz.prog 223=true:=by kernel_rfl
@[go_sem] theorem EM:aa Tryz.prog 224=true:=by kernel_rfl
@[go_sem] theorem Pp:aa Tryz.prog 225=true:=by kernel_rfl
@[go_sem] theorem Jn:aa Tryz.prog 226=true:=by kernel_rfl
@[go_sem] theorem Jv:aa Tryz.prog 227=true:=by kernel_rfl
@[go_sem] theorem gp:aa Tryz.prog 228=true:=by kernel_rfl
@[go_sem] theorem IX:aa Tryz.prog 229=true:=by kernel_rfl
@[go_sem] theorem IU:aa Tryz.prog 230=true:=by kernel_rfl
@[go_sem] theorem Iz:aa Tryz.prog 231=true:=by kernel_rfl
@[go_sem] theorem IR:aa Tryz.prog 232=true:=by kernel_rfl
@[go_sem] theorem mW:aa Tryz.prog 233=true:=by kernel_rfl
@[go_sem] theorem An:aa Tryz.prog 235=true:=by kernel_rfl
@[go_sem] theorem NF:aa Tryz.prog 236=true:=by kernel_rfl
@[go_sem] theorem Td:aa Tryz.prog 237=true:=by kernel_rfl
@[go_sem] theorem TO:aa Tryz.prog 238=true:=by kernel_rfl
@[go_sem] theorem SG:aa Tryz.prog 239=true:=by kernel_rfl
@[go_sem] theorem TU:aa Tryz.prog 241=true:=by kernel_rfl
@[go_sem] theorem SB:aa Tryz.prog 243=true:=by kernel_rfl
@[go_sem] theorem RU:aa Tryz.prog 244=true:=by kernel_rfl
@[go_sem] theorem pz:aa Tryz.prog 245=true:=by kernel_rfl
@[go_sem] theorem T3:aa Tryz.prog 246=true:=by kernel_rfl
@[go_sem] theorem OU:aa Tryz.prog 247=true:=by kernel_rfl
@[go_sem] theorem TT:aa Tryz.prog 248=true:=by kernel_rfl
@[go_sem] theorem N6:aa Tryz.prog 252=true:=by kernel_rfl
@[go_sem] theorem NU:aa Tryz.prog 253=true:=by kernel_rfl
@[go_sem] theorem IY:aa Tryz.prog 254=true:=by kernel_rfl
@[go_sem] theorem JC:aa Tryz.prog 255=true:=by kernel_rfl
@[go_sem] theorem NT:aa Tryz.prog 256=true:=by kernel_rfl
@[go_sem] theorem SV:aa Tryz.prog 257=true:=by kernel_rfl
@[go_sem] theorem I2:aa Tryz.prog 258=true:=by kernel_rfl
@[go_sem] theorem N1:aa Tryz.prog 259=true:=by kernel_rfl
@[go_sem] theorem Oz:aa Tryz.prog 260=true:=by kernel_rfl
@[go_sem] theorem Po:aa Tryz.prog 261=true:=by kernel_rfl
@[go_sem] theorem NO:aa Tryz.prog 262=true:=by kernel_rfl
@[go_sem] theorem Ac:aa Tryz.prog 266=true:=by kernel_rfl
@[go_sem] theorem Ph:aa Tryz.prog 267=true:=by kernel_rfl
@[go_sem] theorem JE:aa Tryz.prog 269=true:=by kernel_rfl
@[go_sem] theorem vU:aa Tryz.prog 270=true:=by kernel_rfl
@[go_sem] theorem C7:aa Tryz.prog 271=true:=by kernel_rfl
@[go_sem] theorem Of:aa Tryz.prog 272=true:=by kernel_rfl
@[go_sem] theorem JI:aa Tryz.prog 273=true:=by kernel_rfl
@[go_sem] theorem zh:aa Tryz.prog 274=true:=by kernel_rfl
@[go_sem] theorem IL:aa Tryz.prog 275=true:=by kernel_rfl
@[go_sem] theorem NP:aa Tryz.prog 276=true:=by kernel_rfl
@[go_sem] theorem OG:aa Tryz.prog 277=true:=by kernel_rfl
@[go_sem] theorem JG:aa Tryz.prog 278=true:=by kernel_rfl
@[go_sem] theorem NN:aa Tryz.prog 279=true:=by kernel_rfl
@[go_sem] theorem Ot:aa Tryz.prog 280=true:=by kernel_rfl
@[go_sem] theorem IZ:aa Tryz.prog 281=true:=by kernel_rfl
@[go_sem] theorem zI:aa Tryz.prog 282=true:=by kernel_rfl
@[go_sem] theorem Pn:aa Tryz.prog 283=true:=by kernel_rfl
@[go_sem] theorem Pj:aa Tryz.prog 284=true:=by kernel_rfl
@[go_sem] theorem TY:aa Tryz.prog 285=true:=by kernel_rfl
@[go_sem] theorem SA:aa Tryz.prog 286=true:=by kernel_rfl
@[go_sem] theorem II:aa Tryz.prog 287=true:=by kernel_rfl
@[go_sem] theorem J5:aa Tryz.prog 292=true:=by kernel_rfl
@[go_sem] theorem rr:aa Tryz.prog 296=true:=by kernel_rfl
@[go_sem] theorem ER:aa Tryz.prog 297=true:=by kernel_rfl
@[go_sem] theorem KP:aa Tryz.prog 298=true:=by kernel_rfl
@[go_sem] theorem I4:aa Tryz.prog 299=true:=by kernel_rfl
@[go_sem] theorem Dt:aa Tryz.prog 301=true:=by kernel_rfl
@[go_sem] theorem KM:aa Tryz.prog 302=true:=by kernel_rfl
@[go_sem] theorem OA:aa Tryz.prog 303=true:=by kernel_rfl
@[go_sem] theorem NG:aa Tryz.prog 304=true:=by kernel_rfl
@[go_sem] theorem OZ:aa Tryz.prog 305=true:=by kernel_rfl
@[go_sem] theorem Ov:aa Tryz.prog 306=true:=by kernel_rfl
@[go_sem] theorem S8:aa Tryz.prog 309=true:=by kernel_rfl
@[go_sem] theorem Pe:aa Tryz.prog 313=true:=by kernel_rfl
open Go.RowKit
open Go.PA
abbrev sp (p:Nat):AV:= .sc (.pointer (some ⟨p,0,none⟩))
set_option maxHeartbeats 400000 in
theorem Qb (p:Nat) (A:Option Addr) (len c:Nat) (at_:Int) (n:Int) (w:World)
  (h0:w.cell? ⟨p,0,none⟩=some (.slice A len c)) (h1:w.cell? ⟨p,1,none⟩=some (.int .i64 at_))
  (hge:(len:Int)≤at_):
  Calls Tryz.prog 20 #[.pointer (some ⟨p,0,none⟩),.int .i64 n] w fun e w'=>e= .returned (.int .i64 0)∧∃k,w'=w.drewN k:=by
 have hge':decide ((len:Int)≤at_)=true:=by simpa using hge
 go_enter Tryz.func20,Tryz.ntmps20
 go_wp2
 go_quiet (fail)
 go_wp2
 go_ret
 exact⟨rfl,_,rfl⟩
set_option maxHeartbeats 400000 in
theorem Qg (p:Nat) (A:Option Addr) (len c:Nat) (at_:Int) (n:Int) (w:World)
  (h0:w.cell? ⟨p,0,none⟩=some (.slice A len c)) (h1:w.cell? ⟨p,1,none⟩=some (.int .i64 at_))
  (hlt:at_<len) (hn:n<1):
  Calls Tryz.prog 20 #[.pointer (some ⟨p,0,none⟩),.int .i64 n] w fun e w'=>e= .returned (.int .i64 0)∧∃k,w'=w.drewN k:=by
 have hge':decide ((len:Int)≤at_)=false:=by simpa using hlt
 have hn':decide (n<1)=true:=by simpa using hn
 go_enter Tryz.func20,Tryz.ntmps20
 go_wp2
 go_quiet (fail)
 go_wp2
 go_ret
 exact⟨rfl,_,rfl⟩
set_option maxHeartbeats 400000 in
theorem Sx (p:Nat) (ad:Addr) (len c:Nat) (at_:Nat) (n x:Int) (w:World)
  (h0:w.cell? ⟨p,0,none⟩=some (.slice (some ad) len c)) (h1:w.cell? ⟨p,1,none⟩=some (.int .i64 at_))
  (hf:w.frozen? ⟨p,1,none⟩=false)
  (hx:w.cell? (ad.add at_)=some (.int .i64 x)) (hp:ad.block≠p)
  (hlen:len≤900)
  (hlt:(at_:Int)<len) (hn:1≤n) (hn2:n≤4000000000000000000):
  Calls Tryz.prog 20 #[.pointer (some ⟨p,0,none⟩),.int .i64 n] w fun e w'=>e= .returned (.int .i64 ((x.tmod n+n)%n))∧∃j k,w'=((w.drewN j).setCell ⟨p,1,none⟩ (.int .i64 (at_+1))).drewN k:=by
 have hge':decide (len≤at_)=false:=by simp;omega
 have hn':decide (n<1)=false:=by simpa using hn
 have hw1:IntKind.i64.wrap (at_:Int)=at_:=by rw[IntKind.wrap_i64];omega
 have hx':∀nq:Nat,((w.drewN nq).setCell ⟨p,1,none⟩ (.int .i64 (at_+1))).cell? (ad.add at_)=some (.int .i64 x):=fun nq=>by
  have h:(⟨p,1,none⟩:Addr)≠ad.add at_:=fun e=>hp (by rw[←eN ad at_,←e])
  exact (World.cell?_setCell_other _ _ _ _ h).trans hx
 have hn0:¬n=0:=by omega
 have hb: -n<x.tmod n∧x.tmod n<n:=by
  exact⟨Int.lt_tmod_of_pos x (by omega),Int.tmod_lt_of_pos x (by omega)⟩
 have hw2:IntKind.i64.wrap (x.tmod n+n)=x.tmod n+n:=by rw[IntKind.wrap_i64];omega
 go_enter Tryz.func20,Tryz.ntmps20
 go_wp2
 go_quiet (fail)
 go_wp2
 go_quiet (fail)
 go_wp2
 go_ret
 exact⟨rfl,_,_,rfl⟩
def NQ (n:Int) (x:AV):Prop:=∃m:Int,x=iv m∧(n<1→m=0)∧(1≤n→0≤m∧m<n)
theorem zm (p:Nat) (src:Option Nat) (n:Int) (hn2:n≤4000000000000000000):PFun Tryz.prog (some p) src 20 [sp p,iv n] (NQ n):=by
 intro w ok vs hok hinv hsz hrep
 have hv0:=hrep 0 (vs[0]'(by simp at hsz;omega)) (sp p) (Array.getElem?_eq_getElem _) rfl
 have hv1:=hrep 1 (vs[1]'(by simp at hsz;omega)) (iv n) (Array.getElem?_eq_getElem _) rfl
 have e0:=cI hv0
 have e1:=cI hv1
 have hvs:vs=#[.pointer (some ⟨p,0,none⟩),.int .i64 n]:=by
  apply Array.ext
  ·simpa using hsz
  ·intro i h1 h2
   match i with
   |0=>simpa using e0
   |1=>simpa using e1
   |i+2=>simp at h2;omega
 subst hvs
 obtain⟨cur,A,len,c,at_,ty,⟨hb,hc0,hc1⟩,ha,hl,hsrc⟩:=hinv.2 p rfl
 have h0:w.cell? ⟨p,0,none⟩=some (.slice A len c):=by rw[cell_of_row w p _ _ ty (0,0) hb];exact hc0
 have h1:w.cell? ⟨p,1,none⟩=some (.int .i64 at_):=by rw[cell_of_row w p _ _ ty (0,0) hb];exact hc1
 have hf:w.frozen? ⟨p,1,none⟩=false:=by simp[World.frozen?,hb]
 have quiet:∀{e:Ending} {w':World},(e= .returned (.int .i64 0)∧∃k,w'=w.drewN k)→(NQ n (iv 0))→∃(v:Value) (x:AV),e= .returned v∧NQ n x∧Imm x∧jj w' (fun b=>ok b∨(w.heap.size≤b∧b<w'.heap.size)) v x∧w.grownBy w' (some p)∧Inv (some p) src ok w':=by
  rintro e w' ⟨rfl,k,rfl⟩ hq
  exact⟨_,iv 0,rfl,hq,.sc,.sc,⟨rfl,rfl,rfl,Nat.le_refl _,fun _ _ _=>rfl⟩,hinv⟩
 by_cases hge:(len:Int)≤at_
 ·refine (Qb p A len c at_ n w h0 h1 hge).mono fun e w' h=>quiet h ⟨0,rfl,fun _=>rfl,fun h=>⟨Int.le_refl _,by omega⟩⟩
 by_cases hn:n<1
 ·refine (Qg p A len c at_ n w h0 h1 (by omega) hn).mono fun e w' h=>quiet h ⟨0,rfl,fun _=>rfl,fun h=>⟨Int.le_refl _,by omega⟩⟩
 obtain⟨ad,x,rfl,hs,hp,hx,hxb⟩:=hsrc at_ (by omega)
 refine (Sx p ad len c at_ n x w h0 h1 hf hx hp hl (by omega) (by omega) hn2).mono ?_
 rintro e w' ⟨rfl,j,k,rfl⟩
 refine⟨_,iv ((x.tmod n+n)%n),rfl,⟨_,rfl,fun h=>by omega,fun h=>⟨Int.emod_nonneg _ (by omega),Int.emod_lt_of_pos _ (by omega)⟩⟩,.sc,.sc,⟨rfl,rfl,rfl,by simp[World.setCell,World.drewN],fun q hq hne=>?_⟩,⟨hinv.1.1,fun g hg=>⟨(hinv.1.2 g hg).1,?_⟩⟩,fun q hq=>?_⟩
 ·have:p≠q:=fun e=>hne (by rw[e])
  simp[World.setCell,World.drewN,Array.getElem?_modify,this]
 ·obtain⟨t,v,hc⟩:=(hinv.1.2 g hg).2
  have:p≠g:=fun e=>(hok g (hinv.1.2 g hg).1).2 (by rw[e])
  exact⟨t,v,(World.cell?_of_block (w:=w) (by simp[World.setCell,World.drewN,Array.getElem?_modify,this])).trans hc⟩
 ·cases hq
  have hlt:1<cur.size:=(Array.getElem?_eq_some_iff.1 hc1).1
  refine⟨cur.setIfInBounds 1 (.int .i64 (at_+1)),some ad,len,c,at_+1,ty,⟨?_,?_,?_⟩,by omega,hl,fun i hi=>?_⟩
  ·simp[World.setCell,World.drewN,Array.getElem?_modify,hb]
  ·rw[Array.getElem?_setIfInBounds_ne (by omega)];exact hc0
  ·rw[Array.getElem?_setIfInBounds];simp[hlt]
  ·obtain⟨ad',x',h1',h2',h3',h4',h5'⟩:=hsrc i hi
   cases h1'
   refine⟨ad,x',rfl,hs,hp,?_,h5'⟩
   have h:(⟨p,1,none⟩:Addr)≠ad.add i:=fun e=>hp (by rw[←eN ad i,←e])
   exact (World.cell?_setCell_other _ _ _ _ h).trans h4'
open Go.PA
open Go.RowKit
def aF (xs:List Int):AV:= .list 1 (xs.map fun x=>[iv x])
def Ng (xs:List Int):Prop:=∀x,x∈xs→ -9223372036854775808≤x∧x≤9223372036854775807
theorem OT (xs:List Int) (hl:xs.length≤9223372036854775807):Ml Tryz.prog none none 7 [aF xs] 85 2 (·=[[aF (xs.take 900),iv 0]]):=by
 refine DQ Tryz.func7 rfl (by simp[Tryz.f7]) (by kernel_rfl) ?_
 intro E hP hr hs hW hN
 simp[go_sem,hP,aF,F6,iP,bg,cK,cD]
 have c:0≤min (xs.length:Int) 900∧min (xs.length:Int) 900≤xs.length:=⟨by omega,by omega⟩
 have m:(min (xs.length:Int) 900).toNat=min 900 xs.length:=by omega
 rw[if_pos c,m]
 simp[go_sem,hP,P2,Tryz.f7]
 intro e he a ha
 have:=List.mem_of_mem_take he
 simp at this
 obtain⟨x,_,rfl⟩:=this
 simp at ha
 subst ha
 exact .sc
theorem Kb (p:Nat) (src:Option Nat) (lo hi:Int) (h1: -1000000000000000000≤lo∧lo≤1000000000000000000) (h2: -1000000000000000000≤hi∧hi≤1000000000000000000):
  PFun Tryz.prog (some p) src 59 [sp p,iv lo,iv hi] (fun x=>∃m:Int,x=iv m∧(lo≤hi→lo≤m∧m≤hi)∧(hi<lo→m=lo)):=by
 refine ab Tryz.func59 rfl (by simp[Tryz.f59]) (by kernel_rfl) ?_
 intro E hP hr hs hW hN
 have w1:=af (hi-lo) (by omega)
 have w2:=af (hi-lo+1) (by omega)
 simp[go_sem, *]
 refine bM (hr▸hs▸zm p src (hi-lo+1) (by omega)) hP p8 (by simp[go_sem]) ?_ ?_ ?_
 ·by_cases h:hi-lo+1<1
  ·exact⟨iv 0,0,rfl,fun _=>rfl,fun h'=>by omega⟩
  ·exact⟨iv 0,0,rfl,fun _=>rfl,fun h'=>by omega⟩
 ·rintro r ⟨m,rfl,_⟩;exact .sc
 ·rintro r ⟨m,rfl,a1,a2⟩
  have w3:=af (lo+m) (by omega)
  simp[go_sem, *,Tryz.f59]
  omega
theorem LX (p:Nat) (src:Option Nat) (xs:List Int) (h:1≤xs.length∧xs.length≤1000):
  PFun Tryz.prog (some p) src 9 [sp p,aF xs] (fun x=>∃m:Int,x=iv m∧m∈xs):=by
 refine ab Tryz.func9 rfl (by simp[Tryz.f9]) (by kernel_rfl) ?_
 intro E hP hr hs hW hN
 simp[go_sem,hP,aF]
 refine bM (hr▸hs▸zm p src xs.length (by omega)) hP p8 (by simp[go_sem]) ?_ ?_ ?_
 ·exact⟨iv 0,0,rfl,fun _=>rfl,fun h'=>by omega⟩
 ·rintro r ⟨m,rfl,_⟩;exact .sc
 ·rintro r ⟨m,rfl,a1,a2⟩
  obtain⟨b1,b2⟩:=a2 (by omega)
  have b3:m.toNat<xs.length:=by omega
  simp[go_sem, *,Tryz.f9]
theorem yX (n:Int):∃r,NQ n r:=⟨iv 0,0,rfl,fun _=>rfl,fun h=>by omega⟩
theorem nO (n:Int):∀r,NQ n r→Flat r:=by
 rintro r ⟨m,rfl,_⟩;exact .sc
end Go.Proofs.YtaenimpfelpafaaGreatDoor
set_option maxRecDepth 100000
namespace Go.Proofs.YtaenimpfelpafaaGreatDoor
open Go.RowKit Go.WideShapes Go.ChangeShapes
open Go.PA (jj PFun AV Rep)
section
variable {H:Type} {enc:TypeId×Value→H} {P:Program}
theorem w8 {f:Func} {s:ChangeSpec} {apart fresh handsOn again:Bool} {W W':World} {args:Array Value} {v:Value} {ds gs:List (DataW H)} {before pa pv:List MemPlace}
  (hW:DataW.Whole enc P f.params.toList s.vars apart W args.toList ds gs before)
  (hres:∀(b:Nat) (sp:Nat→Bool) (hd:Bool),DataW.TrodAll enc P W' b sp hd f.resultTypes.toList (v.resultList f.resultTypes.size) (s.fn H (ds++gs)).results [])
  (hargs:∀sp:Nat→Bool,(∀p∈before,sp p.block=true)→DataW.TrodAll enc P W' 0 sp true f.params.toList args.toList (s.fn H (ds++gs)).args pa)
  (hvars:∀sp:Nat→Bool,(∀p∈before,sp p.block=true)→DataW.TrodVars enc P W' sp s.vars (s.fn H (ds++gs)).vars pv)
  (hps:before=pa++pv) (hb:Below W.heap.size W W')
  (hok:∀(j:Nat) (t:TypeId) (r:Value),f.resultTypes[j]?=some t→(v.resultList f.resultTypes.size)[j]?=some r→Value.okWide P W' .any 0 t r):
  s.post enc P f apart fresh handsOn again W args v W':=by
 have hlt:∀p∈before,p.block<W.heap.size:=fun p hp=>hW.lt p hp
 have hold:∀p∈before,(fun b=>decide (b<W.heap.size)) p.block=true:=fun p hp=>by simpa using hlt p hp
 refine⟨ds,gs,before,[],pa,pv,hW,hres _ _ _,hargs _ hold,hvars _ hold,World.keptBut_mono (fun p hp=>⟨hp,?_⟩) (hb.frame (·∈before)),fun _=>?_⟩
 ·rw[hps,List.mem_append]at hp
  exact Or.inr hp
 ·obtain⟨_,_,_,_,_,hz,hn⟩:=hW
  refine⟨hok,_,_,([]++pa)++pv,⟨[]++pa,pv,trodAll_append (hargs _ (fun _ _=>rfl)) (hres _ _ _),hvars _ (fun _ _=>rfl),rfl,?_,?_⟩,?_⟩
  ·intro b off hp
   have hin:MemPlace.cell b off∈before:=by rw[hps];simpa using hp
   rw[hb.frozen (hlt _ hin)]
   exact hz b off hin
  ·intro ha
   have:=hn ha
   rw[hps]at this
   simpa using this
  ·intro p hp _
   rw[hps]
   simpa using hp
end
theorem Tryz.own:ownKnob Tryz.prog.godebug=none:=by kernel_rfl
theorem Tryz.laidOut:laidOutB Tryz.prog=true:=by kernel_rfl
end Go.Proofs.YtaenimpfelpafaaGreatDoor
namespace Go.PA
open Go.RowKit Go.WideShapes Go.ChangeShapes
mutual
inductive Sh where
 |int (k:IntKind)
 |bool
 |str
 |slice (e:Sh)
 |strct (fs:Fs)
inductive Fs where
 |nil
 |cons (s:Sh) (fs:Fs)
end
mutual
def Sh.size:Sh→Nat
 | .int _=>1
 | .bool=>1
 | .str=>1
 | .slice _=>1
 | .strct fs=>fs.size
def Fs.size:Fs→Nat
 | .nil=>0
 | .cons s fs=>s.size+fs.size
end
mutual
def Sh.ok (P:Program):Sh→TypeId→Bool
 | .int k,t=>decide (P.cellsOf t=1)&&(match P.underlying t with|some (.int k')=>decide (k'=k)|_=>false)
 | .bool,t=>decide (P.cellsOf t=1)&&(match P.underlying t with|some .bool=>true|_=>false)
 | .str,t=>decide (P.cellsOf t=1)&&(match P.underlying t with|some .string=>true|_=>false)
 | .slice e,t=>decide (P.cellsOf t=1)&&decide (0<e.size)&&(match P.underlying t with|some (.slice te)=>e.ok P te|_=>false)
 | .strct fs,t=>decide (P.cellsOf t=fs.size)&&(match P.underlying t with|some (.struct fields)=>fs.ok P fields.toList 0|_=>false)
def Fs.ok (P:Program):Fs→List Field→Nat→Bool
 | .nil,[],_=>true
 | .cons s fs,f::l,off=>s.ok P f.type&&decide (f.offset=off)&&fs.ok P l (off+s.size)
 |_,_,_=>false
end
mutual
def Sh.V:Sh→List AV→Prop
 | .int k,as0=>∃n,as0=[.sc (.int k n)]∧(Lit.int k n).wf=true
 | .bool,as0=>∃b,as0=[.sc (.bool b)]
 | .str,as0=>∃s:ByteArray,as0=[.sc (.string s)]∧s.size≤maxLen
 | .slice e,as0=>∃es:List (List AV),as0=[.list e.size es]∧es.length≤maxLen∧∀x,x∈es→e.V x
 | .strct fs,as0=>fs.V as0
def Fs.V:Fs→List AV→Prop
 | .nil,as0=>as0=[]
 | .cons s fs,as0=>∃x y,as0=x++y∧s.V x∧fs.V y
end
theorem Sh.ok_size (P:Program) (s:Sh) (t:TypeId) (h:s.ok P t=true):P.cellsOf t=s.size:=by
 cases s<;>simp only[Sh.ok,Bool.and_eq_true,decide_eq_true_eq]at h<;>simp only[Sh.size]<;>first|exact h.1|exact h.1.1
def O6 (w:World) (cs:List Value) (as0:List AV):Prop:=∀(i:Nat) (c:Value) (a:AV),cs[i]?=some c→as0[i]?=some a→jj w (fun b=>b<w.heap.size) c a∧c.oneCell'=true
theorem lg {w:World} {c:Value} {a:AV} (h:jj w (fun b=>b<w.heap.size) c a) (h1:c.oneCell'=true):O6 w [c] [a]:=fun i c' a' hc ha=>by
 rcases i with _|i
 ·simp at hc ha
  subst hc;subst ha
  exact⟨h,h1⟩
 ·simp at hc
theorem MH {w:World} {a:Addr} {v:Value} (h:w.cell? a=some v):a.block<w.heap.size:=by
 simp only[World.cell?]at h
 split at h
 ·rename_i hb
  exact (Array.getElem?_eq_some_iff.1 hb).1
 ·cases h
theorem BV {α:Type} (n:Nat) (p:Nat→α→Prop) (h:∀i,i<n→∃a,p i a):∃l:List α,l.length=n∧∀i a,l[i]?=some a→p i a:=by
 induction n with
 |zero=>exact⟨[],rfl,by simp⟩
 |succ n ih=>
  obtain⟨l,h1,h2⟩:=ih fun i hi=>h i (by omega)
  obtain⟨a,ha⟩:=h n (by omega)
  refine⟨l++[a],by simp[h1],fun i b hb=>?_⟩
  by_cases hi:i<n
  ·rw[List.getElem?_append_left (by omega)]at hb
   exact h2 i b hb
  ·have:i=n:=by
    have:=(gsI hb)
    simp at this
    omega
   subst this
   rw[List.getElem?_append_right (by omega)]at hb
   simp[h1]at hb
   subst hb
   exact ha
section
variable {H:Type} {enc:TypeId×Value→H} {P:Program} {w:World} {base:Nat} {spare:Nat→Bool} {held:Bool}
mutual
theorem Sh.rep:∀(s:Sh) (t:TypeId) (fuel:Nat) (cs:List Value) (x:DataW H×List MemPlace),s.ok P t=true→DataW.trod enc P w base spare held fuel t cs=some x→
  ∃as0,s.V as0∧as0.length=s.size∧cs.length=s.size∧O6 w cs as0
 | .int k,t,fuel,cs,x,hs,h=>by
  simp only[Sh.ok,Bool.and_eq_true,decide_eq_true_eq]at hs
  obtain⟨_,hs⟩:=hs
  split at hs
  ·rename_i k' hu
   have:=of_decide_eq_true hs
   subst this
   obtain⟨n,rfl,_,hw⟩:=DataW.trod_int hu h
   exact⟨[.sc (.int k' n)],⟨n,rfl,hw⟩,rfl,rfl,lg .sc rfl⟩
  ·cases hs
 | .bool,t,fuel,cs,x,hs,h=>by
  simp only[Sh.ok,Bool.and_eq_true,decide_eq_true_eq]at hs
  obtain⟨_,hs⟩:=hs
  split at hs
  ·rename_i hu
   obtain⟨b,rfl,_⟩:=DataW.trod_bool hu h
   exact⟨[.sc (.bool b)],⟨b,rfl⟩,rfl,rfl,lg .sc rfl⟩
  ·cases hs
 | .str,t,fuel,cs,x,hs,h=>by
  simp only[Sh.ok,Bool.and_eq_true,decide_eq_true_eq]at hs
  obtain⟨_,hs⟩:=hs
  split at hs
  ·rename_i hu
   obtain⟨b,rfl,_,hl⟩:=DataW.trod_string hu h
   exact⟨[.sc (.string b)],⟨b,rfl,hl⟩,rfl,rfl,lg .sc rfl⟩
  ·cases hs
 | .slice e,t,fuel,cs,x,hs,h=>by
  simp only[Sh.ok,Bool.and_eq_true,decide_eq_true_eq]at hs
  obtain⟨⟨_,hpos⟩,hs⟩:=hs
  split at hs
  ·rename_i te hu
   have hsz:=Sh.ok_size P e te hs
   rcases DataW.trod_slice hu h with⟨rfl,_⟩|⟨a,len,cap,elems,rest,n,_,rfl,_,hb,hl,hm,hlen,hel,_,_⟩
   ·exact⟨[.list e.size []],⟨[],rfl,by simp,by simp⟩,rfl,rfl,lg .listNil rfl⟩
   rcases Nat.eq_zero_or_pos len with h0|h0
   ·subst h0
    exact⟨[.list e.size []],⟨[],rfl,by simp,by simp⟩,rfl,rfl,lg .listNil rfl⟩
   obtain⟨es,hes,hp⟩:=BV len (fun i (as0:List AV)=>∃cs',w.cells? base (a.add (i*e.size)) e.size=some cs'∧e.V as0∧as0.length=e.size∧O6 w cs' as0) fun i hi=>by
    have hi':i<elems.length:=by omega
    have:=hel i hi
    rw[List.getElem?_eq_getElem hi',Option.bind_eq_some_iff,hsz]at this
    obtain⟨cs',h1,h2⟩:=this
    obtain⟨as0,h3,h4,h5,h6⟩:=Sh.rep e te n cs' _ hs h2
    exact⟨as0,cs',h1,h3,h4,h6⟩
   have cells:∀(i:Nat) (x:List AV) (j:Nat) (b:AV),es[i]?=some x→x[j]?=some b→∃c,w.cell? (a.add (i*e.size+j))=some c∧jj w (fun b=>b<w.heap.size) c b∧c.oneCell'=true:=fun i x j b hx hj=>by
    obtain⟨cs',h1,h3,h4,h6⟩:=hp i x hx
    obtain⟨_,hl',hc⟩:=World.cells?_some h1
    have hj':=(gsI hj)
    have hcj:cs'[j]?=some (cs'[j]'(by omega)):=List.getElem?_eq_getElem (by omega)
    obtain⟨r1,r2⟩:=h6 j _ b hcj hj
    refine⟨_,?_,r1,r2⟩
    have:=hc j (by omega)
    rw[p6,hcj]at this
    exact this
   have hblk:a.block<w.heap.size:=by
    obtain⟨cs',h1,h3,h4,h6⟩:=hp 0 (es[0]'(by omega)) (List.getElem?_eq_getElem (by omega))
    obtain⟨_,hl',hc⟩:=World.cells?_some h1
    have:=hc 0 hpos
    rw[List.getElem?_eq_getElem (by omega)]at this
    have:=MH this
    rw[eN,eN]at this
    exact this
   refine⟨[.list e.size es],⟨es,rfl,by omega,fun x hx=>?_⟩,rfl,rfl,lg ?_ rfl⟩
   ·obtain⟨i,hi⟩:=List.getElem?_of_mem hx
    obtain⟨_,_,h3,_⟩:=hp i x hi
    exact h3
   ·refine .list (fun i j=>(w.cell? (a.add (i*e.size+j))).getD undef) hes hl hblk (fun x hx=>?_) ?_ ?_ ?_
    ·obtain⟨i,hi⟩:=List.getElem?_of_mem hx
     obtain⟨_,_,_,h4,_⟩:=hp i x hi
     exact h4
    ·intro i x j b hx hj
     obtain⟨c,h1,_⟩:=cells i x j b hx hj
     rw[h1];rfl
    ·intro i x j b hx hj
     obtain⟨c,h1,_,h3⟩:=cells i x j b hx hj
     rw[h1];exact h3
    ·intro i x j b hx hj
     obtain⟨c,h1,h2,_⟩:=cells i x j b hx hj
     rw[h1];exact h2
  ·cases hs
 | .strct fs,t,fuel,cs,x,hs,h=>by
  simp only[Sh.ok,Bool.and_eq_true,decide_eq_true_eq]at hs
  obtain⟨hc,hs⟩:=hs
  split at hs
  ·rename_i fields hu
   obtain⟨xs,n,_,_,hl,hxl,hf⟩:=DataW.trod_struct hu h
   obtain⟨as0,h1,h2,h3⟩:=Fs.rep fs fields.toList 0 n cs xs hs (by simp[hxl]) (by rw[hl,hc];simp) fun i f hi=>hf i f (by simpa using hi)
   refine⟨as0,h1,h2,by rw[hl,hc];rfl,fun i c a hci ha=>h3 i c a (by simpa using hci) ha⟩
  ·cases hs
theorem Fs.rep:∀(fs:Fs) (fields:List Field) (off n:Nat) (cs:List Value) (xs:List (DataW H×List MemPlace)),fs.ok P fields off=true→xs.length=fields.length→cs.length=off+fs.size→
  (∀(i:Nat) (f:Field),fields[i]?=some f→DataW.trod enc P w base spare held n f.type ((cs.drop f.offset).take (P.cellsOf f.type))=xs[i]?)→
  ∃as0,fs.V as0∧as0.length=fs.size∧∀(i:Nat) (c:Value) (a:AV),cs[off+i]?=some c→as0[i]?=some a→jj w (fun b=>b<w.heap.size) c a∧c.oneCell'=true
 | .nil,fields,off,n,cs,xs,hs,hxl,hcl,hf=>⟨[],rfl,rfl,fun i c a hc ha=>by simp at ha⟩
 | .cons s fs,[],off,n,cs,xs,hs,hxl,hcl,hf=>by simp[Fs.ok]at hs
 | .cons s fs,f::l,off,n,cs,[],hs,hxl,hcl,hf=>by simp at hxl
 | .cons s fs,f::l,off,n,cs,y::xs,hs,hxl,hcl,hf=>by
  simp only[Fs.ok,Bool.and_eq_true,decide_eq_true_eq]at hs
  obtain⟨⟨h1,h2⟩,h3⟩:=hs
  have hsz:=Sh.ok_size P s f.type h1
  have h0:=hf 0 f rfl
  rw[h2,hsz]at h0
  simp only[List.getElem?_cons_zero]at h0
  obtain⟨as0,a1,a2,a3,a4⟩:=Sh.rep s f.type n _ _ h1 h0
  simp only[Fs.size]at hcl
  obtain⟨bs,b1,b2,b3⟩:=Fs.rep fs l (off+s.size) n cs xs h3 (by simpa using hxl) (by omega) fun i g hi=>by
   have:=hf (i+1) g (by simpa using hi)
   simpa using this
  refine⟨as0++bs,⟨as0,bs,rfl,a1,b1⟩,by simp[a2,b2,Fs.size],fun i c a hc ha=>?_⟩
  by_cases hi:i<s.size
  ·rw[List.getElem?_append_left (by omega)]at ha
   refine a4 i c a ?_ ha
   rw[List.getElem?_take,if_pos hi,List.getElem?_drop]
   exact hc
  ·rw[List.getElem?_append_right (by omega)]at ha
   refine b3 (i-s.size) c a ?_ (by rw[←a2];exact ha)
   rw[←hc]
   congr 1
   omega
end
def Sh.A (s:Sh) (a:AV):Prop:=match s with
 | .strct fs=>∃cs,a= .agg cs∧fs.V cs
 |s=>s.V [a]
theorem Mt {s:Sh} {t:TypeId} {r:Reach} {b0:Nat} {v:Value} {d:DataW H} {ps:List MemPlace} (hs:s.ok P t=true) (hval:Value.okWide P w r b0 t v) (h:DataW.Trod enc P w base spare held t v d ps):
  ∃a,s.A a∧jj w (fun b=>b<w.heap.size) v a:=by
 have h':=h
 obtain⟨fuel,hf⟩:=h
 obtain⟨as0,h1,h2,h3,h4⟩:=Sh.rep s t fuel _ _ hs hf
 have scal:s.size=1→v.cells.toList=[v]→∃a,s.V [a]∧jj w (fun b=>b<w.heap.size) v a:=fun e hv=>by
  rw[e]at h2
  match as0,h2 with
  |[a],_=>
   rw[hv]at h4
   exact⟨a,h1,(h4 0 _ _ rfl rfl).1⟩
 cases s with
 |strct fs=>
  unfold Value.okWide at hval
  simp only[Sh.ok,Bool.and_eq_true,decide_eq_true_eq]at hs
  obtain⟨_,hs⟩:=hs
  split at hs
  ·rename_i fields hu
   rw[hu]at hval
   obtain⟨cs,rfl,_⟩:=hval
   refine⟨.agg as0,⟨as0,rfl,h1⟩,.agg ?_ fun i c a hc ha=>(h4 i c a ?_ ha).1⟩
   ·simp only[Value.cells,Array.length_toList]at h3
    omega
   ·simpa[Value.cells]using hc
  ·cases hs
 |int k=>
  simp only[Sh.ok,Bool.and_eq_true,decide_eq_true_eq]at hs
  obtain⟨_,hs⟩:=hs
  split at hs
  ·rename_i hu
   obtain⟨m,rfl,_⟩:=open_int hu hval h'
   exact scal rfl rfl
  ·cases hs
 |bool=>
  simp only[Sh.ok,Bool.and_eq_true,decide_eq_true_eq]at hs
  obtain⟨_,hs⟩:=hs
  split at hs
  ·rename_i hu
   obtain⟨m,rfl,_⟩:=open_bool hu hval h'
   exact scal rfl rfl
  ·cases hs
 |str=>
  simp only[Sh.ok,Bool.and_eq_true,decide_eq_true_eq]at hs
  obtain⟨_,hs⟩:=hs
  split at hs
  ·rename_i hu
   obtain⟨s,hv,_⟩:=DataW.trod_string hu hf
   refine scal rfl ?_
   obtain⟨s',rfl⟩:=okWide_string hu hval
   rfl
  ·cases hs
 |slice e=>
  simp only[Sh.ok,Bool.and_eq_true,decide_eq_true_eq]at hs
  obtain⟨_,hs⟩:=hs
  split at hs
  ·rename_i te hu
   obtain⟨A,n,c,rfl⟩:=okWide_slice hu hval
   exact scal rfl rfl
  ·cases hs
def CN:List Sh→List AV→Prop
 |[],[]=>True
 |s::ss,a::as0=>s.A a∧CN ss as0
 |_,_=>False
theorem Hb {s:Sh} {ss:List Sh} {l:List AV} (h:CN (s::ss) l):∃a l',l=a::l'∧s.A a∧CN ss l':=by
 cases l with
 |nil=>exact h.elim
 |cons a l=>exact⟨a,l,rfl,h.1,h.2⟩
theorem Ir {l:List AV} (h:CN [] l):l=[]:=by
 cases l with
 |nil=>rfl
 |cons a l=>exact h.elim
def qx (P:Program):List Sh→List TypeId→Bool
 |[],[]=>true
 |s::ss,t::ts=>s.ok P t&&(P.readableRec t&&decide (t<P.types.size))&&qx P ss ts
 |_,_=>false
theorem Cw {r:Reach} {b0:Nat}:∀(ss:List Sh) (ts:List TypeId) (vs:List Value) (ds:List (DataW H)) (ps:List MemPlace),qx P ss ts=true→(∀(j:Nat) (t:TypeId) (v:Value),ts[j]?=some t→vs[j]?=some v→Value.okWide P w r b0 t v)→
  DataW.TrodAll enc P w base spare held ts vs ds ps→∃as0,CN ss as0∧as0.length=vs.length∧∀(i:Nat) (v:Value) (a:AV),vs[i]?=some v→as0[i]?=some a→jj w (fun b=>b<w.heap.size) v a
 |[],[],vs,ds,ps,_,_,h=>by
  obtain⟨rfl,_,_⟩:=trodAll_nil h
  exact⟨[],trivial,rfl,fun i v a hv=>by simp at hv⟩
 |[],t::ts,vs,ds,ps,hs,_,h=>by simp[qx]at hs
 |s::ss,[],vs,ds,ps,hs,_,h=>by simp[qx]at hs
 |s::ss,t::ts,vs,ds,ps,hs,hval,h=>by
  simp only[qx,Bool.and_eq_true,decide_eq_true_eq]at hs
  match vs,ds,h with
  |v::vs,d::ds,⟨p,q,h1,h2,_⟩=>
   obtain⟨a,a1,a2⟩:=Mt hs.1.1 (hval 0 t v rfl rfl) h1
   obtain⟨as0,b1,b2,b3⟩:=Cw ss ts vs ds q hs.2 (fun j t v ht hv=>hval (j+1) t v (by simpa using ht) (by simpa using hv)) h2
   refine⟨a::as0,⟨a1,b1⟩,by simp[b2],fun i v' a' hv ha=>?_⟩
   rcases i with _|i
   ·simp at hv ha
    subst hv;subst ha
    exact a2
   ·exact b3 i v' a' (by simpa using hv) (by simpa using ha)
theorem oJ (hl:laidOutB P=true) {W W':World} {sp:Nat→Bool}:∀(ss:List Sh) (ts:List TypeId) (vs:List Value) (ds:List (DataW H)) (ps:List MemPlace),qx P ss ts=true→DataW.TrodAll enc P W 0 (fun _=>true) true ts vs ds ps→
  (∀p∈ps,W.sameAt W' p)→(∀p∈ps,sp p.block=true)→DataW.TrodAll enc P W' 0 sp true ts vs ds ps
 |[],[],vs,ds,ps,_,h,_,_=>by
  obtain⟨rfl,rfl,rfl⟩:=trodAll_nil h
  exact rfl
 |[],t::ts,vs,ds,ps,hs,h,_,_=>by simp[qx]at hs
 |s::ss,[],vs,ds,ps,hs,h,_,_=>by simp[qx]at hs
 |s::ss,t::ts,vs,ds,ps,hs,h,hsame,hsp=>by
  simp only[qx,Bool.and_eq_true,decide_eq_true_eq]at hs
  match vs,ds,h with
  |v::vs,d::ds,⟨p,q,h1,h2,hp⟩=>
   subst hp
   exact⟨p,q,WideElems.Trod_stays hl hs.1.2.1 hs.1.2.2 h1 (fun x hx=>hsame x (by simp[hx])) (fun x hx=>hsp x (by simp[hx])),
    oJ hl ss ts vs ds q hs.2 h2 (fun x hx=>hsame x (by simp[hx])) (fun x hx=>hsp x (by simp[hx])),rfl⟩
theorem qv:∀(ts:List TypeId) (vs:List Value) (ds:List (DataW H)) (ps:List MemPlace),DataW.TrodAll enc P w base spare held ts vs ds ps→ds.length=ts.length
 |[],vs,ds,ps,h=>by
  obtain⟨_,rfl,_⟩:=trodAll_nil h
  rfl
 |t::ts,vs,ds,ps,h=>by
  match vs,ds,h with
  |v::vs,d::ds,⟨p,q,_,h2,_⟩=>simp[qv ts vs ds q h2]
theorem HN {α:Type} {l:List α} (h:l.length=1):∃a0,l=[a0]:=by
 match l,h with
 |[a0],_=>exact⟨a0,rfl⟩
end
end Go.PA
namespace Go.Proofs.YtaenimpfelpafaaGreatDoor
open Go.PA
open Go.RowKit
def P0 (n:Int):Prop:= -9223372036854775808≤n∧n≤9223372036854775807
theorem LT {n:Int} (h:(Lit.int .i64 n).wf=true):P0 n:=by
 simp only[Lit.wf,Bool.and_eq_true,decide_eq_true_eq]at h
 exact h
theorem N8 (as0:List AV) (h:(Sh.int .i64).V as0):∃x:Int,as0=aS x∧P0 x:=by
 obtain⟨n,rfl,h⟩:=h
 exact⟨n,rfl,LT h⟩
theorem FP {α:Type} {enc:α→List AV} {wf:α→Prop} {s:Sh} (h:∀as0,s.V as0→∃x:α,as0=enc x∧wf x):∀es:List (List AV),(∀x,x∈es→s.V x)→∃l:List α,es=aj enc l∧∀z,z∈l→wf z
 |[],_=>⟨[],rfl,by simp⟩
 |e::es,he=>by
  obtain⟨a,rfl,ha⟩:=h e (he e (by simp))
  obtain⟨l,rfl,hl⟩:=FP h es fun x hx=>he x (List.mem_cons_of_mem _ hx)
  refine⟨a::l,rfl,fun z hz=>?_⟩
  rcases List.mem_cons.1 hz with rfl|hz
  ·exact ha
  ·exact hl z hz
theorem Iw {α:Type} {enc:α→List AV} {wf:α→Prop} (s:Sh) (h:∀as0,s.V as0→∃x:α,as0=enc x∧wf x) (as0:List AV) (hs:(Sh.slice s).V as0):∃l:List α,as0=[.list s.size (aj enc l)]∧(l.length≤maxLen∧∀z,z∈l→wf z):=by
 obtain⟨es,rfl,hl,he⟩:=hs
 obtain⟨l,rfl,hw⟩:=FP h es he
 exact⟨l,rfl,by simpa[aj]using hl,hw⟩
open Go.ChangeShapes Go.WideShapes Go.ChangeAt Go.RowKit
open Go.PA (jj PFun AV Rep Sh CN Fs)
theorem KW {a:AV} (h:(Sh.slice (.int .i64)).A a):∃l:List Int,a=aF l∧Ng l∧l.length≤9223372036854775807:=by
 obtain⟨l,e,hl,hw⟩:=Iw (.int .i64) N8 [a] h
 have hml:maxLen≤9223372036854775807:=by decide
 simp only[List.cons.injEq,and_true]at e
 exact⟨l,e,hw,by omega⟩
end Go.Proofs.YtaenimpfelpafaaGreatDoor
set_option maxRecDepth 100000
namespace Go.Proofs.YtaenimpfelpafaaGreatDoor
open Go.RowKit Go.WideShapes Go.ChangeShapes
open Go.PA (jj PFun AV Rep GlobOk)
theorem gES:Tryz.prog.globalNamed "strconv.ErrSyntax"=some 0:=by kernel_rfl
theorem gER:Tryz.prog.globalNamed "strconv.ErrRange"=some 1:=by kernel_rfl
theorem Sc:(Tryz.prog.globals[0]?).map (·.type)=some 316:=by kernel_rfl
theorem TD:(Tryz.prog.globals[1]?).map (·.type)=some 316:=by kernel_rfl
theorem FO:Tryz.prog.cellsOf 369=1:=by kernel_rfl
theorem CA:Tryz.prog.cellsOf 9=1:=by kernel_rfl
theorem Ja: "*"++ "errors.errorString"= "*errors.errorString":=by decide
theorem Nu (u:TypeId) (h:Tryz.prog.typeName? 3 u=some "*errors.errorString"):u=367:=
 typeName_ptr_named (nm:= "errors.errorString") (by rw[Ja];kernel_rfl) (by kernel_rfl) (by decide) u (by rw[Ja];exact h)
theorem uB {W:World} {g:Nat} {v:Value} (h:W.cell? ⟨g,0,none⟩=some v):g<W.heap.size:=by
 rcases Nat.lt_or_ge g W.heap.size with h'|h'
 ·exact h'
 ·simp[World.cell?,Array.getElem?_eq_none h']at h
theorem Mp {W:World} (h:laidMetH Tryz.prog Rows.courtFindsRow.laid W):GlobOk (fun b=>b<W.heap.size) W:=by
 rw[MakeChecks.laidMetH_plain _ _ _ (by kernel_rfl)]at h
 have h4:=h.tail.tail.tail.tail
 obtain⟨a0,s0,hv0, -, -, -⟩:=laid_sentinel h4 gER TD Tryz.underlying316 Nu Tryz.underlying367 Tryz.underlying369 rfl rfl Tryz.underlying9 FO CA
 obtain⟨a1,s1,hv1, -, -, -⟩:=laid_sentinel h4.tail gES Sc Tryz.underlying316 Nu Tryz.underlying367 Tryz.underlying369 rfl rfl Tryz.underlying9 FO CA
 have h0:W.cell? ⟨1,0,none⟩=some (.iface 367 (.pointer (some a0))):=by simpa using World.var?_cell gER hv0 0
 have h1:W.cell? ⟨0,0,none⟩=some (.iface 367 (.pointer (some a1))):=by simpa using World.var?_cell gES hv1 0
 intro g hg
 simp only[Go.PA.Nj,List.mem_cons,List.not_mem_nil,or_false]at hg
 rcases hg with rfl|rfl
 ·exact⟨uB h1,_,_,h1⟩
 ·exact⟨uB h0,_,_,h0⟩
open Go.Shelf
open Go.RowKit Go.Sort Go.Lib in
open Go.RowKit in
open Go.RowKit Go.Lib in
open Go.RowKit Go.Shelf
attribute [local go_sem] Oper.semAt_some
def bl (s:ByteArray):List UInt8:=s.data.toList
open Go.RowKit Go.Shelf
attribute [local go_sem] Oper.semAt_some
end Go.Proofs.YtaenimpfelpafaaGreatDoor
namespace Go.PA
open Go.RowKit
section
variable {E:Env}
theorem Dk {w:World} {ρ:aU} {H:ac} {ok:Nat→Prop} (X:Nat→Prop) (g:Good E w ρ H ok) {v:Value} {id i j:Nat} {cs:List AV} (hra:Rep w ρ H ok v (.ref id i j)) (has:aJ H (.ref id i j)=some cs) (him:∀c,c∈cs→Imm c) (hX:X id):jj w (okX X ρ H ok) v (.iref cs):=by
 obtain⟨o,b,cap,ho,hρ,hcap,rfl⟩:=mB hra has
 obtain⟨ad,he,f',hf⟩:=j6 g hra has
 simp only[Value.pointer.injEq,Option.some.injEq]at he
 subst he
 exact .iref f' (.inr ⟨id,o,cap,hX,ho,hρ⟩) (fun j a hj=>(hf j a hj).1) (fun j a hj=>(hf j a hj).2.1) (fun j a hj=>(hf j a hj).2.2.imm (fun _ h=> .inl h) (him a (List.mem_of_getElem? hj)))
theorem CB {s:St} (j:Nat) {id:Nat} {cs:List AV} (hW:∀b,¬E.W b) (ht:s.t j= .ref id 0 0) (has:aJ s.H (.ref id 0 0)=some cs) (him:∀c,c∈cs→Imm c):Weaker E s ⟨upd s.t j (.iref cs),s.H.set id none⟩:=by
 rintro a w ⟨ρ,ok,g,hx,hd,hs,hr⟩
 obtain⟨ok',g1,x1,hok⟩:=g.freeze [id] hW
 refine⟨ρ,ok',g1,hx.trans x1,hd,hs,fun i=>?_⟩
 simp only[upd]
 split
 ·rename_i hi
  have hri:=hr i
  rw[hi,ht]at hri
  rw[hi]
  exact Rep.imm (Dk (·∈[id]) g hri has him (by simp)) hok (fN.2 him)
 ·exact (hr i).ext x1
theorem fE {s:St} {o id ty k ty' kk n r c:Nat} {es fs:List (List AV)} {e:List AV} (hW:∀b,¬E.W b) (ho:s.H[o]?=some (some ⟨ty,k,es⟩)) (hk:k≠2) (he:es[r]?=some e) (hc:e[c]?=some (.sref id 0 n))
  (hid:s.H[id]?=some (some ⟨ty',kk,fs⟩)) (hn:n=fs.length) (hi:Imm (.list kk fs)) (hne:o≠id):Weaker E s ⟨s.t,(s.H.set id none).set o (some ⟨ty,k,es.set r (e.set c (.list kk fs))⟩)⟩:=by
 rintro a w ⟨ρ,ok,g,hx,hd,hs,hr⟩
 obtain⟨ok',g1,x1,hok⟩:=g.freeze [id] hW
 have g1:Good E w ρ (s.H.set id none) ok':=g1
 have x1:Ext w ρ s.H ok w ρ (s.H.set id none) ok':=x1
 have ho1:(s.H.set id none)[o]?=some (some ⟨ty,k,es⟩):=by rw[List.getElem?_set_ne (Ne.symm hne)];exact ho
 have hobj:=g.obj o _ ho
 have hlen:=g.len o _ ho
 have hmem:=List.mem_of_getElem? he
 have hv:cW s.H (.sref id 0 n)= .list kk fs:=by
  simp only[cW,hid,List.drop_zero]
  rw[hn,List.take_length]
 cases hρ:ρ o with
 |none=>
  rw[hρ]at hobj
  have:es=[]:=hobj
  rw[this]at he
  cases he
 |some bc=>
  obtain⟨b,cap⟩:=bc
  rw[hρ]at hobj
  rcases hobj with⟨cur,h1,h2,h3,h4,h5⟩|⟨_,hk',_⟩|⟨_,hk',hit⟩
  ·obtain⟨g',x'⟩:=g1.change (w':=w) ho1 hρ ⟨ty,k,es.set r (e.set c (.list kk fs))⟩ rfl (by simp) (fun e' he'=>by
    rcases List.mem_or_eq_of_mem_set he' with he'|rfl
    ·exact hlen e' he'
    ·rw[List.length_set];exact hlen e hmem) rfl rfl rfl rfl (fun _ _=>rfl) fun hx'=> .inl ⟨cur,h1,h2,by simpa using h3,h4,fun i e' j a' hie hja=>by
     by_cases hir:i=r
     ·subst hir
      have hil:=(gsI he)
      rw[List.getElem?_set_self hil,Option.some.injEq]at hie
      subst hie
      by_cases hjc:j=c
      ·subst hjc
       have hjl:=(gsI hc)
       rw[List.getElem?_set_self hjl,Option.some.injEq]at hja
       subst hja
       obtain⟨v,v1,v2,v3⟩:=h5 i e j _ he hc
       refine⟨v,v1,v2,?_⟩
       have hri:=jv (·∈[id]) g v3 (by rw[hv];exact hi) (by simp[kP])
       rw[hv]at hri
       exact (Rep.imm hri hok hi).ext hx'
      ·rw[List.getElem?_set_ne (Ne.symm hjc)]at hja
       obtain⟨v,v1,v2,v3⟩:=h5 i e j _ he hja
       exact⟨v,v1,v2,(v3.ext x1).ext hx'⟩
     ·rw[List.getElem?_set_ne (Ne.symm hir)]at hie
      obtain⟨v,v1,v2,v3⟩:=h5 i e' j _ hie hja
      exact⟨v,v1,v2,(v3.ext x1).ext hx'⟩⟩
   exact⟨ρ,ok',g',hx.trans (x1.trans x'),hd,hs,fun i=>((hr i).ext x1).ext x'⟩
  ·exact absurd hk' hk
  ·exfalso
   rcases hit with⟨hes,_⟩|⟨m,clk,seen,ents,c1,c2,_,_,_,_,hes,hcc⟩
   ·have hes:es=[[.junk,.junk,.imap []]]:=hes
    subst hes
    have:e=[.junk,.junk,.imap []]:=by
     rcases r with _|r
     ·simpa using he.symm
     ·simp at he
    subst this
    rcases c with _|_|_|c<;>simp at hc
   ·have hes:es=[[c1,c2,.imap ((ents.toList.filter fun e=>!seen.contains e.born).map fun e=>(e.key,e.val))]]:=hes
    subst hes
    have:e=[c1,c2,.imap ((ents.toList.filter fun e=>!seen.contains e.born).map fun e=>(e.key,e.val))]:=by
     rcases r with _|r
     ·simpa using he.symm
     ·simp at he
    subst this
    rcases hcc with⟨rfl,rfl⟩|⟨x,_,_,rfl,rfl⟩<;>rcases c with _|_|_|c<;>simp at hc
def QF (E:Env) (Inv:St→Prop) (s:St):Prop:=∃s',Weaker E s s'∧Inv s'
theorem Weaker.refl (s:St):Weaker E s s:=fun _ _ h=>h
theorem fI {a b:Code} {s:St} {Q:Exit→St→Prop} (Inv:St→Prop) (hc:fW E.N a=true) (h:awp E a s (wK (fun s'=>QF E Inv s') Q)) (hk:∀s',Inv s'→AWp E b s' Q):AWp E (.seq a b) s Q:=by
 intro x w r
 refine wp_seq (wp_mono (bU a s _ hc h x w r) fun e a' w' h'=>?_)
 obtain⟨s',h1,h2⟩:=h'
 cases e with
 |normal=>
  obtain⟨s2,k1,k2⟩:=h1
  exact hk s2 k2 a' w' (k1 a' w' h2)
 |_=>exact⟨s',h1,h2⟩
end
open Go.RowKit
theorem qQ {P:Program} {row src:Option Nat} {f:FuncId} {args:List AV} {C:AV→ac→Prop} {Q:AV→Prop} (h:MFun P row src f args [] C)
  (hC:∀r H',C r H'→∃x,Weak (dv H' r) x∧Imm (dv H' r)∧Imm x∧Q x):PFun P row src f args Q:=by
 intro w ok vs h1 h2 h3 h4
 let E:Env:={P:=P,w0:=w,okA:=ok,row:=row,src:=src,N:=0,W:=fun _=>False,ρ0:=fun _=>none,H0:=[]}
 have g:Good E w (fun _=>none) [] ok:=⟨rfl,rfl,rfl,Nat.le_refl _,fun _ _ _ _=>rfl,h2,fun b hb=>⟨(h1 b hb).1,(h1 b hb).2,.inl hb⟩,by simp,by simp,by simp,by simp⟩
 refine ((h E rfl rfl rfl).2 w (fun _=>none) ok vs g h3 h4).mono ?_
 rintro e w' ⟨v,r,H',ρ,ok',rfl,hc,g',_,hrep⟩
 obtain⟨x,hwk,hi,hix,hx⟩:=hC r H' hc
 refine⟨v,x,rfl,hx,hix,?_,⟨g'.os,g'.tape,g'.output,g'.size,fun k hk hne=>g'.blk k hk (fun h=>h) hne⟩,?_⟩
 ·refine Rep.weak hwk ((vK g' hrep hi).imm (fun b hb=>?_) hi)
  rcases hb with hb|⟨_,_,_,ho,hρ⟩
  ·obtain⟨b1,_,b3⟩:=g'.oks b hb
   exact b3.imp id fun h=>⟨h,b1⟩
  ·have hobj:=g'.obj _ _ ho
   rw[hρ]at hobj
   obtain⟨_,_,b3⟩:=g'.own _ _ b _ ho hρ
   exact .inr ⟨b3.resolve_left (fun h=>h),hobj.lt⟩
 ·refine⟨⟨h2.1.1,h2.1.2.at g'.inv.1.2⟩,fun p hp=>?_⟩
  exact g'.inv.2 p hp
end Go.PA
namespace Go.Proofs.YtaenimpfelpafaaGreatDoor
open Go.PA
open Go.RowKit
theorem qV {w:World} {ok:Nat→Prop} {base:Nat} {v:Value} {ns:List Int} (h:w.ownsRow base 3 1 v ns.length (ns.map (Value.int .i64))) (hok:∀b,base≤b→b<w.heap.size→ok b):jj w ok v (aF ns):=by
 have hl:=h.lt
 have hc:=fun g hg=>h.cells (g:=g) hg
 rcases h.2 with⟨rfl,h0⟩|⟨g,cap,cur,rfl,hb,hg,hcap,_⟩
 ·rw[List.length_eq_zero_iff.1 h0]
  exact .listNil
 ·obtain⟨_,hlt⟩:=hl g rfl
  refine .list (fun i _=> .int .i64 (ns.getD i 0)) (by simp) hcap (hok g hb hlt) (by simp) ?_ (fun _ _ _ _ _ _=>rfl) ?_<;>
  ·intro i e j a he ha
   rw[List.getElem?_map,Option.map_eq_some_iff]at he
   obtain⟨x,hx,rfl⟩:=he
   have hj:j=0:=by have:=(gsI ha);simpa using this
   subst hj
   have hd:ns.getD i 0=x:=by rw[List.getD_eq_getElem?_getD,hx];rfl
   simp only[List.getElem?_cons_zero,Option.some.injEq]at ha
   subst ha
   simp only[hd]
   first
    |exact .sc
    |exact hc g rfl _ _ (by rw[Nat.mul_one,Nat.add_zero,List.getElem?_map,hx];rfl)
open Go.PA
open Go.RowKit
theorem B3 (x:Int):PFun Tryz.prog none none 103 [iv x] (·=bv false):=by
 refine ab Tryz.func103 rfl (by simp[Tryz.f103]) (by kernel_rfl) ?_
 intro E hP hr hs hW hN
 simp[go_sem,hP]
def o5 (x y:Int):Int:=if x<y then -1 else if y<x then 1 else 0
theorem mu (x y:Int):PFun Tryz.prog none none 55 [iv x,iv y] (·=iv (o5 x y)):=by
 refine ab Tryz.func55 rfl (by simp[Tryz.f55]) (by kernel_rfl) ?_
 intro E hP hr hs hW hN
 simp[go_sem,hP]
 refine ah (B3 x) hP LA (ai (by simp[go_sem])) .sc ?_
 simp[go_sem,hP]
 refine ah (B3 y) hP LA (ai (by simp[go_sem])) .sc ?_
 simp[go_sem,hP]
 refine aB (fun h=>?_) (fun h=>?_)
 ·have h:x<y:=by simpa using h
  simp[go_sem,hP,o5,h]
 ·have h:¬x<y:=by simpa using h
  simp[go_sem,hP]
  refine aB (fun h'=>?_) (fun h'=>?_)
  ·have h':y<x:=by simpa using h'
   simp[go_sem,hP,o5,h,h']
  ·have h':¬y<x:=by simpa using h'
   simp[go_sem,hP,o5,h,h']
def orI:List Int→Int
 |[]=>0
 |x::l=>if x=0 then orI l else x
theorem KS (l:List Int) (k:Nat) (h:k<l.length):orI (l.drop k)=if l[k]=0 then orI (l.drop (k+1))else l[k]:=by
 rw[List.drop_eq_getElem_cons h];rfl
theorem Nh (l:List Int) (hl:l.length≤1000):PFun Tryz.prog none none 287 [aF l] (·=iv (orI l)):=by
 refine ab Tryz.func287 rfl (by simp[Tryz.f287]) (by kernel_rfl) ?_
 intro E hP hr hs hW hN
 simp[go_sem,hP,aF]
 refine ay (fun m s=>∃k:Nat,k≤l.length∧m=l.length-k∧orI l=orI (l.drop k)∧s.t 3=iv 0∧s.t 6=aF l∧s.t 7=iv l.length∧s.t 8=iv k) l.length (by rw[hN];rfl) ?_ ?_
 ·exact⟨0,by omega,by omega,by simp,by simp[go_sem],by simp[go_sem,aF],by simp[go_sem],by simp[go_sem]⟩
 rintro m s ⟨k,hk,hm,ho,t3,t6,t7,t8⟩
 simp[go_sem,hP,t7,t8]
 refine aB (fun h=>?_) (fun h=>?_)
 ·have hk:k<l.length:=by simpa using h
  rw[KS l k hk]at ho
  have w:=af ((k:Int)+1) (by omega)
  simp[go_sem,hP,t3,t6,t7,t8,aF,hk]
  by_cases h0:l[k]=0
  ·simp[go_sem,hP,h0,t8,w]
   rw[if_pos h0]at ho
   exact⟨l.length-(k+1),by omega,k+1,by omega,rfl,ho,t3,t6,t7,rfl⟩
  ·simp[go_sem,hP,h0]
   rw[if_neg h0]at ho
   exact ho.symm
 ·have hk:l.length≤k:=by simpa using h
  simp[go_sem,hP,t3]
  rw[ho,List.drop_eq_nil_of_le hk]
  rfl
open Go.PA
open Go.RowKit
section
variable {α:Type} (enc:α→List AV) (lt:α→α→Bool) (g:FuncId)
end
section
variable {α:Type} {lt:α→α→Bool}
def Qn (lt:α→α→Bool) (x:α):List α→List α
 |[]=>[x]
 |y::l=>if lt x y then x::y::l else y::Qn lt x l
def Qw (lt:α→α→Bool) (l:List α):List α:=l.foldl (fun acc x=>Qn lt x acc) []
def blk (lt:α→α→Bool) (bs:Nat):Nat→List α→List α
 |0,_=>[]
 |f+1,l=>Qw lt (l.take bs)++blk lt bs f (l.drop bs)
end
def btw (n lo hi:Int):Bool:=decide (lo≤n)&&decide (n≤hi)
theorem iE {n lo hi:Int}:btw n lo hi=true↔lo≤n∧n≤hi:=by simp[btw]
theorem kd {n lo hi:Int} (h:¬(lo≤n∧n≤hi)):btw n lo hi=false:=by simp[btw];omega
section
variable {α:Type} {lt:α→α→Bool}
end
def iK (x:TIncome):Bool:=btw x.Number 1 1000000&&btw x.Payer 1 1000000&&btw x.Day 0 36000&&btw x.Amount 1 1000000000000&&btw x.Claim 0 1000000
def kr:Int→Int→List TIncome→Bool
 |_,_,[]=>true
 |n,d,x::l=>iK x&&decide (n<x.Number)&&decide (d≤x.Day)&&kr x.Number x.Day l
def only (ks:List Nat):List Nat:=match ks with
 |[k]=>[k]
 |_=>[]
theorem ij:∀(l:List TIncome) (n d:Int),kr n d l=true↔(∀x,x∈l→iK x=true∧n<x.Number∧d≤x.Day)∧l.Pairwise fun a b=>a.Number<b.Number∧a.Day≤b.Day
 |[],n,d=>by simp[kr]
 |x::l,n,d=>by
  rw[kr]
  simp only[Bool.and_eq_true,decide_eq_true_eq,ij l x.Number x.Day,List.pairwise_cons,List.forall_mem_cons]
  constructor
  ·rintro⟨⟨⟨h1,h2⟩,h2'⟩,h3,h4⟩
   exact⟨⟨⟨h1,h2,h2'⟩,fun z hz=>⟨(h3 z hz).1,by have:=(h3 z hz).2;omega,by have:=(h3 z hz).2;omega⟩⟩,fun z hz=>(h3 z hz).2,h4⟩
  ·rintro⟨⟨⟨h1,h2,h2'⟩,h3⟩,h4,h5⟩
   exact⟨⟨⟨h1,h2⟩,h2'⟩,fun z hz=>⟨(h3 z hz).1,h4 z hz⟩,h5⟩
def p5 (c:TCash):Int:=((c.Incomes.getLast?).map (·.Number)).getD 0
def qi (c:TCash):Int:=((c.Incomes.getLast?).map (·.Day)).getD 0
def Aj:TCash:=⟨[],[],[],[]⟩
open Go.PA
open Go.RowKit
theorem ox (n lo hi:Int):PFun Tryz.prog none none 235 [iv n,iv lo,iv hi] (·=bv (btw n lo hi)):=by
 refine ab Tryz.func235 rfl (by simp[Tryz.f235]) (by kernel_rfl) ?_
 intro E hP hr hs hW hN
 by_cases h1:lo≤n<;>by_cases h2:n≤hi<;>simp -dsimp -implicitDefEqProofs [-getElem?_pos,go_sem,hP,h1,h2,btw]
theorem C9 (n:Int):PFun Tryz.prog none none 50 [iv n] (·=bv (btw n 0 1000000000000)):=by
 refine ab Tryz.func50 rfl (by simp[Tryz.f50]) (by kernel_rfl) ?_
 intro E hP hr hs hW hN
 by_cases h1:0≤n<;>by_cases h2:n≤1000000000000<;>simp -dsimp -implicitDefEqProofs [-getElem?_pos,go_sem,hP,h1,h2,btw]
theorem zD (n:Int):PFun Tryz.prog none none 236 [iv n] (·=bv (btw n 1 1000000000000)):=by
 refine ab Tryz.func236 rfl (by simp[Tryz.f236]) (by kernel_rfl) ?_
 intro E hP hr hs hW hN
 by_cases h1:0<n
 ·have e:btw n 0 1000000000000=btw n 1 1000000000000:=by rw[Bool.eq_iff_iff,iE,iE];omega
  simp -dsimp -implicitDefEqProofs [-getElem?_pos,go_sem,hP,h1]
  refine ah (C9 n) hP CH (ai (by simp -dsimp[-getElem?_pos,go_sem])) .sc ?_
  rw[e]
  simp -dsimp -implicitDefEqProofs [-getElem?_pos,go_sem,hP]
 ·have e:btw n 1 1000000000000=false:=kd (by omega)
  have d:=decide_eq_false h1
  simp -dsimp -implicitDefEqProofs [-getElem?_pos,go_sem,hP,d,e]
theorem eg (x:TIncome):x.cells=[iv x.Number,iv x.Day,iv x.Payer,iv x.Amount,iv x.Claim]:=rfl
theorem EL (x:TIncome):PFun Tryz.prog none none 164 [.agg x.cells] (·=bv (iK x)):=by
 refine ab Tryz.func164 rfl (by simp[Tryz.f164]) (by kernel_rfl) ?_
 intro E hP hr hs hW hN
 simp -dsimp -implicitDefEqProofs [-getElem?_pos,go_sem,hP,eg]
 refine ah (ox x.Number 1 1000000) hP An (ai (by simp -dsimp[-getElem?_pos,go_sem])) .sc ?_
 cases c1:btw x.Number 1 1000000
 ·have e:iK x=false:=by simp[iK,c1]
  simp -dsimp -implicitDefEqProofs [-getElem?_pos,go_sem,hP,e]
 simp -dsimp -implicitDefEqProofs [-getElem?_pos,go_sem,hP]
 refine ah (ox x.Payer 1 1000000) hP An (ai (by simp -dsimp[-getElem?_pos,go_sem])) .sc ?_
 cases c2:btw x.Payer 1 1000000
 ·have e:iK x=false:=by simp[iK,c2]
  simp -dsimp -implicitDefEqProofs [-getElem?_pos,go_sem,hP,e]
 simp -dsimp -implicitDefEqProofs [-getElem?_pos,go_sem,hP]
 refine ah (ox x.Day 0 36000) hP An (ai (by simp -dsimp[-getElem?_pos,go_sem])) .sc ?_
 cases c3:btw x.Day 0 36000
 ·have e:iK x=false:=by simp[iK,c3]
  simp -dsimp -implicitDefEqProofs [-getElem?_pos,go_sem,hP,e]
 simp -dsimp -implicitDefEqProofs [-getElem?_pos,go_sem,hP]
 refine ah (zD x.Amount) hP NF (ai (by simp -dsimp[-getElem?_pos,go_sem])) .sc ?_
 cases c4:btw x.Amount 1 1000000000000
 ·have e:iK x=false:=by simp[iK,c4]
  simp -dsimp -implicitDefEqProofs [-getElem?_pos,go_sem,hP,e]
 simp -dsimp -implicitDefEqProofs [-getElem?_pos,go_sem,hP]
 refine ah (ox x.Claim 0 1000000) hP An (ai (by simp -dsimp[-getElem?_pos,go_sem])) .sc ?_
 cases c5:btw x.Claim 0 1000000
 ·have e:iK x=false:=by simp[iK,c5]
  simp -dsimp -implicitDefEqProofs [-getElem?_pos,go_sem,hP,e]
 have e:iK x=true:=by simp[iK,c1,c2,c3,c4,c5]
 simp -dsimp -implicitDefEqProofs [-getElem?_pos,go_sem,hP,e]
open Go.PA
open Go.RowKit
abbrev dt (l:List TClaim):AV:= .list 6 (aj TClaim.cells l)
theorem wW (l:List TClaim):Imm (dt l):=aV _ TClaim.imm l
def TH (c:UInt8):Bool:=decide (48≤c.toNat)&&decide (c.toNat≤57)
def SY (x:List UInt8):Int:=x.foldl (fun n c=>10*n+((c.toNat:Int)-48)) 0
def okR (x:List UInt8):Option Int:=if (x.length=1∨x.length=2)∧x.all TH=true∧¬x.head?=some 48 then some (SY x)else none
end Go.Proofs.YtaenimpfelpafaaGreatDoor
