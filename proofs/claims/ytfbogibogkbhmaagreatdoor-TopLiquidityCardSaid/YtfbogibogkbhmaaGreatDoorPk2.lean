/- Several texts of this claim, joined: PaB. -/
import Derived.Test.YtfbogibogkbhmaaGreatDoorPk1
import Derived.Deep.LoopGhost
import Derived.IntWalk
set_option linter.unusedSimpArgs false
set_option linter.unusedVariables false
set_option maxRecDepth 4000
namespace Go.PA
open Go.RowKit
def bb (P:Program) (op:Op) (ev:Operand→AV) (H:ah):Option AV:=
 match op with
 | .build t parts=>Be P t (parts.toList.map fun p=>(p.1,ev p.2))
 | .buildSlice t n parts=>jM P t n (parts.toList.map fun p=>(p.1,ev p.2))
 |op=>fY P op ev H
def ACall (E:Env) (f:FuncId) (args:List AV) (H:ah) (C:AV→ah→Prop):Prop:=
 (∃x H',C x H')∧∀(w:World) (ρ:aW) (ok:Nat→Prop) (vs:Array Value),Good E w ρ H ok→vs.size=args.length→(∀(i:Nat) (v:Value) (a:AV),vs[i]?=some v→args[i]?=some a→Rep w ρ H ok v a)→
  Calls E.P f vs w fun e w'=>∃(v:Value) (x:AV) (H':ah) (ρ':aW) (ok':Nat→Prop),e= .returned v∧C x H'∧Good E w' ρ' H' ok'∧Ext w ρ H ok w' ρ' H' ok'∧Rep w' ρ' H' ok' v x
theorem ACall.mono {E:Env} {f:FuncId} {args:List AV} {H:ah} {C D:AV→ah→Prop} (h:ACall E f args H C) (hd:∀x H',C x H'→D x H'):ACall E f args H D:=
 ⟨h.1.imp fun _ h1=>h1.imp fun _ h2=>hd _ _ h2,fun w ρ ok vs g hs hr=>(h.2 w ρ ok vs g hs hr).mono fun _ _ ⟨v,x,H',ρ',ok',e,hc,rest⟩=>⟨v,x,H',ρ',ok',e,hd _ _ hc,rest⟩⟩
def kY (b:Builtin) (tys:Array TypeId) (ty:TypeId) (vs:Array Value):Sem Value:=match b with
 | .append=>Builtin.append_ tys ty vs
 | .copy=>Builtin.copy_ tys ty vs
 | .clear=>Builtin.clear_ tys ty vs
 |_=>stuck "none"
def ABui (E:Env) (b:Builtin) (tys:Array TypeId) (args:List AV) (H:ah) (C:AV→ah→Prop):Prop:=
 (∃x H',C x H')∧∀(w:World) (ρ:aW) (ok:Nat→Prop) (ty:TypeId) (vs:Array Value),Good E w ρ H ok→vs.size=args.length→(∀(i:Nat) (v:Value) (a:AV),vs[i]?=some v→args[i]?=some a→Rep w ρ H ok v a)→
  ∃(v:Value) (w':World) (x:AV) (H':ah) (ρ':aW) (ok':Nat→Prop),(kY b tys ty vs).run E.P w= .ok v w'∧C x H'∧Good E w' ρ' H' ok'∧Ext w ρ H ok w' ρ' H' ok'∧Rep w' ρ' H' ok' v x
theorem ABui.mono {E:Env} {b:Builtin} {tys:Array TypeId} {args:List AV} {H:ah} {C D:AV→ah→Prop} (h:ABui E b tys args H C) (hd:∀x H',C x H'→D x H'):ABui E b tys args H D:=
 ⟨h.1.imp fun _ h1=>h1.imp fun _ h2=>hd _ _ h2,fun w ρ ok ty vs g hs hr=>let⟨v,w',x,H',ρ',ok',e,hc,rest⟩:=h.2 w ρ ok ty vs g hs hr;⟨v,w',x,H',ρ',ok',e,hd _ _ hc,rest⟩⟩
def AExt (E:Env) (f:FuncId) (args:List AV) (H:ah) (C:AV→ah→Prop):Prop:=
 (∃x H',C x H')∧∀(w:World) (ρ:aW) (ok:Nat→Prop) (vs:Array Value),Good E w ρ H ok→vs.size=args.length→(∀(i:Nat) (v:Value) (a:AV),vs[i]?=some v→args[i]?=some a→Rep w ρ H ok v a)→
  ∃(v:Value) (w':World) (x:AV) (H':ah) (ρ':aW) (ok':Nat→Prop),(callFunc f vs).run E.P w= .ok (.value v) w'∧C x H'∧Good E w' ρ' H' ok'∧Ext w ρ H ok w' ρ' H' ok'∧Rep w' ρ' H' ok' v x
theorem AExt.mono {E:Env} {f:FuncId} {args:List AV} {H:ah} {C D:AV→ah→Prop} (h:AExt E f args H C) (hd:∀x H',C x H'→D x H'):AExt E f args H D:=
 ⟨h.1.imp fun _ h1=>h1.imp fun _ h2=>hd _ _ h2,fun w ρ ok vs g hs hr=>let⟨v,w',x,H',ρ',ok',e,hc,rest⟩:=h.2 w ρ ok vs g hs hr;⟨v,w',x,H',ρ',ok',e,hd _ _ hc,rest⟩⟩
def uV:AV→Bool
 | .full _ _ _ _=>true
 |_=>false
def se:List AV→Bool
 |a::_=>uV a
 |[]=>false
def aa (P:Program) (f:FuncId):Bool:=match P.funcs[f]? with
 |some fn=>fn.body.isSome&&!(fn.name== "runtime.NumGoroutine")
 |none=>false
def Uy (E:Env) (t:TypeId) (x k:AV) (H:ah) (C:AV→ah→Prop):Prop:=
 ∃(id:Nat) (v0:AV) (H':ah) (kv:Value),x= .mref id∧iK E.P t H (.mref id) k false=some v0∧jf E.P t H (.mref id) k v0=some H'∧RS k=some kv∧(∃j,QN H' id j kv v0)∧∀j,QN H' id j kv v0→C (.tup [v0,.sc (.int .i64 ((j:Nat):Int))]) H'
def SX (x st v:AV) (H:ah) (C:AV→ah→Prop):Prop:=
 ∃(id j:Nat) (o:AObj) (kv:Value) (v1:AV),x= .mref id∧st= .sc (.int .i64 ((j:Nat):Int))∧H[id]?=some (some o)∧o.es[j]?=some [.sc kv,v1]∧C (.sc undef) (H.set id (some {o with es:=o.es.set j [.sc kv,v]}))
def AEff (E:Env) (op:Op) (ev:Operand→AV) (H:ah) (C:AV→ah→Prop):Prop:=
 match op with
 | .store t a x=>match pW E.P t H (ev a) (ev x)with
  |some H'=>C (.sc undef) H'
  |none=>False
 | .alloc t=>match cv E.P t with
  |some zs=>C (.ref H.length 0 0) (H++[some ⟨t,ay E.P t,[zs]⟩])
  |none=>False
 | .box t x=>match (ev x).cells? with
  |some xs=>C (.ref H.length 0 0) (H++[some ⟨t,xs.length,[xs]⟩])
  |none=>False
 | .makeSlice t l c=>match xg E.P t H (ev l) (ev c)with
  |some (r,H',m,B)=>(B:Int)*m≤281474976710656∧m≤9223372036854775807∧C r H'
  |none=>False
 | .buildSlice t 0 parts=>match aT E.P t with
  |some e=>if aE E.P e=true∧parts.size=0 then C (.sref H.length 0 0) (H++[some ⟨e,ay E.P e,[]⟩])else False
  |none=>False
 | .makeMap _ none=>C (.mref H.length) (H++[some ⟨0,2,[]⟩])
 | .mapUpdate t x k v=>match jf E.P t H (ev x) (ev k) (ev v)with
  |some H'=>C (.sc undef) H'
  |none=>False
 | .mapEntry t x k=>Uy E t (ev x) (ev k) H C
 | .entryStore _ x st v=>SX (ev x) (ev st) (ev v) H C
 | .range t x=>match ev x with
  | .imap es=>if Bs E.P t then C (.miter H.length) (H++[some ⟨0,3,[[.junk,.junk,.imap es]]⟩])else False
  |_=>False
 | .next x s=>match ev x with
  | .miter id=>match H[id]? with
   |some (some o)=>match o.es with
    |[[_,_,.imap left]]=>s=false∧(left=[]→C (.tup [.sc (.bool false)]) H)∧∀(i:Nat) (e:Value×Value),left[i]?=some e→C (.tup [.sc (.bool true),.sc e.1,.sc e.2]) (H.set id (some {o with es:=[[.sc e.1,.sc e.2,.imap (left.eraseIdx i)]]}))
    |_=>False
   |_=>False
  |_=>False
 | .call c=>match c.callee with
  | .builtin .append=>if se (c.args.toList.map ev)=true then ABui E .append c.argTypes (c.args.toList.map ev) H C else match c.args.toList,c.argTypes.toList with
   |[s,x],[t,t']=>t=t'∧match me E.P t H (ev s) (ev x)with
    |some (r,H',N,B)=>N≤9223372036854775807∧N*B≤140737488355328∧C r H'
    |none=>False
   |_,_=>False
  | .builtin .copy=>ABui E .copy c.argTypes (c.args.toList.map ev) H C
  | .builtin .clear=>ABui E .clear c.argTypes (c.args.toList.map ev) H C
  | .value f=>match ev f with
   | .fn g caps=>(aa E.P g=true∧ACall E g (c.args.toList.map ev++caps) H C)∨AExt E g (c.args.toList.map ev++caps) H C
   |_=>False
  |_=>match bb E.P op ev H with
   |some v=>C v H
   |none=>False
 |_=>match bb E.P op ev H with
  |some v=>C v H
  |none=>False
theorem AEff.has {E:Env} {op:Op} {ev:Operand→AV} {H:ah} {C:AV→ah→Prop} (h:AEff E op ev H C):∃x H',C x H':=by
 have rd:∀{r:Option AV},(match r with|some v=>C v H|none=>False)→∃x H',C x H':=fun {r} h=>by
  cases r with
  |none=>exact h.elim
  |some v=>exact⟨_,_,h⟩
 unfold AEff at h
 split at h
 ·split at h
  ·exact⟨_,_,h⟩
  ·exact h.elim
 ·split at h
  ·exact⟨_,_,h⟩
  ·exact h.elim
 ·split at h
  ·exact⟨_,_,h⟩
  ·exact h.elim
 ·split at h
  ·exact⟨_,_,h.2.2⟩
  ·exact h.elim
 ·split at h
  ·split at h
   ·exact⟨_,_,h⟩
   ·exact h.elim
  ·exact h.elim
 ·exact⟨_,_,h⟩
 ·split at h
  ·exact⟨_,_,h⟩
  ·exact h.elim
 ·obtain⟨id,v0,H',kv,_,_,_,_,⟨j,hj⟩,h⟩:=h
  exact⟨_,_,h j hj⟩
 ·obtain⟨id,j,o,kv,v1,_,_,_,_,h⟩:=h
  exact⟨_,_,h⟩
 ·split at h
  ·split at h
   ·exact⟨_,_,h⟩
   ·exact h.elim
  ·exact h.elim
 ·split at h
  ·split at h
   ·split at h
    ·rename_i left _
     obtain⟨_,h1,h2⟩:=h
     cases left with
     |nil=>exact⟨_,_,h1 rfl⟩
     |cons e l=>exact⟨_,_,h2 0 e rfl⟩
    ·exact h.elim
   ·exact h.elim
  ·exact h.elim
 ·split at h
  ·split at h
   ·exact h.1
   ·split at h
    ·have h:=h.2
     split at h
     ·exact⟨_,_,h.2.2⟩
     ·exact h.elim
    ·exact h.elim
  ·exact h.1
  ·exact h.1
  ·split at h
   ·rcases h with h|h
    ·exact h.2.1
    ·exact h.1
   ·exact h.elim
  ·exact rd h
 ·exact rd h
theorem AEff.mono {E:Env} {op:Op} {ev:Operand→AV} {H:ah} {C D:AV→ah→Prop} (h:AEff E op ev H C) (hd:∀x H',C x H'→D x H'):AEff E op ev H D:=by
 have rd:∀{r:Option AV},(match r with|some v=>C v H|none=>False)→(match r with|some v=>D v H|none=>False):=fun {r} h=>by
  cases r with
  |none=>exact h
  |some v=>exact hd _ _ h
 unfold AEff at h⊢
 split at h
 ·split at h
  ·exact hd _ _ h
  ·exact h
 ·split at h
  ·exact hd _ _ h
  ·exact h
 ·split at h
  ·exact hd _ _ h
  ·exact h
 ·split at h
  ·exact⟨h.1,h.2.1,hd _ _ h.2.2⟩
  ·exact h
 ·split at h
  ·split at h
   ·rename_i hc
    rw[if_pos hc]
    exact hd _ _ h
   ·exact h.elim
  ·exact h
 ·exact hd _ _ h
 ·split at h
  ·exact hd _ _ h
  ·exact h
 ·obtain⟨id,v0,H',kv,h1,h2,h3,h4,h5,h⟩:=h
  exact⟨id,v0,H',kv,h1,h2,h3,h4,h5,fun j hj=>hd _ _ (h j hj)⟩
 ·obtain⟨id,j,o,kv,v1,h1,h2,h3,h4,h⟩:=h
  exact⟨id,j,o,kv,v1,h1,h2,h3,h4,hd _ _ h⟩
 ·split at h
  ·split at h
   ·rename_i hc
    rw[if_pos hc]
    exact hd _ _ h
   ·exact h.elim
  ·exact h
 ·split at h
  ·split at h
   ·split at h
    ·exact⟨h.1,fun e=>hd _ _ (h.2.1 e),fun i e he=>hd _ _ (h.2.2 i e he)⟩
    ·exact h.elim
   ·exact h.elim
  ·exact h
 ·split at h
  ·split at h
   ·rename_i hc
    rw[if_pos hc]
    exact h.mono hd
   ·rename_i hc
    rw[if_neg hc]
    split at h
    ·refine⟨h.1,?_⟩
     have h:=h.2
     split at h
     ·exact⟨h.1,h.2.1,hd _ _ h.2.2⟩
     ·exact h
    ·exact h
  ·exact h.mono hd
  ·exact h.mono hd
  ·split at h
   ·exact h.imp (fun h=>⟨h.1,h.2.mono hd⟩) (fun h=>h.mono hd)
   ·exact h
  ·exact rd h
 ·exact rd h
section
variable {E:Env} {w:World} {ρ:aW} {H:ah} {ok:Nat→Prop}
theorem Dw {rho:Operand→Value} {ev:Operand→AV} (hev:∀x,Rep w ρ H ok (rho x) (ev x)) (parts:Array (Nat×Operand)):
  (parts.map fun (i,x)=>(i,rho x)).size=(parts.toList.map fun p=>(p.1,ev p.2)).length∧
  ∀(i:Nat) (p:Nat×AV) (q:Nat×Value),(parts.toList.map fun p=>(p.1,ev p.2))[i]?=some p→(parts.map fun (i,x)=>(i,rho x))[i]?=some q→q.1=p.1∧Rep w ρ H ok q.2 p.2:=by
 refine⟨by simp,fun i p q hp hq=>?_⟩
 rw[zR,zL]at hp
 rw[Array.getElem?_map,zL]at hq
 obtain⟨a,ha,rfl⟩:=hp
 obtain⟨b,hb,rfl⟩:=hq
 rw[vF,hb]at ha
 simp only[zB]at ha
 subst ha
 exact⟨rfl,hev _⟩
theorem HK (g:Good E w ρ H ok) {rho:Operand→Value} {ev:Operand→AV} (hev:∀x,Rep w ρ H ok (rho x) (ev x)) {o:Oper} {x:AV} (h:bb E.P o.op ev H=some x):
  ∃v w' ok',(execOp rho o).run E.P w= .ok (.value v) w'∧Good E w' ρ H ok'∧Ext w ρ H ok w' ρ H ok'∧Rep w' ρ H ok' v x:=by
 unfold bb at h
 split at h
 ·rename_i t parts hop
  obtain⟨hl,hr⟩:=Dw hev parts
  obtain⟨v,h1,h2⟩:=GB (P:=E.P) (w:=w) hl hr h
  refine⟨v,w,ok,?_,g,Ext.refl _ _ _ _,h2⟩
  unfold execOp
  simp only[hop,Sem.run_bind,h1,Result.andThen_ok,Sem.run_pure]
 ·rename_i t n parts hop
  obtain⟨hl,hr⟩:=Dw hev parts
  obtain⟨v,w',ok',h1,g',x',h2⟩:=tU g hl hr h
  refine⟨v,w',ok',?_,g',x',h2⟩
  unfold execOp
  simp only[hop,Sem.run_bind,h1,Result.andThen_ok,Sem.run_pure]
 ·obtain⟨v,h1,h2⟩:=Ip g hev h
  exact⟨v,w,ok,h1,g,Ext.refl _ _ _ _,h2⟩
theorem D3 {P:Program} {f:FuncId} (h:aa P f=true) (args:Array Value) (w:World):(callFunc f args).run P w= .ok (.enter f args) w:=by
 unfold aa at h
 split at h
 ·rename_i fn hf
  simp only[zG,vQ]at h
  obtain⟨h1,h2⟩:=h
  obtain⟨c,hc⟩:=wU.1 h1
  have h3:¬fn.name= "runtime.NumGoroutine":=by simpa using h2
  simp[callFunc,hf,hc,h3]
 ·cases h
theorem Mk (g:Good E w ρ H ok) {a:Act} {ev:Operand→AV} (hev:∀x,Rep w ρ H ok (a.eval x) (ev x)) {o:Oper} {C:AV→ah→Prop} (h:AEff E o.op ev H C) {K:Act→World→Prop} {Q:Exit→Act→World→Prop}
  (hK:∀v w' x H' ρ' ok',C x H'→Good E w' ρ' H' ok'→Ext w ρ H ok w' ρ' H' ok'→Rep w' ρ' H' ok' v x→K (a.put o.dst v) w'):o.wp E.P a w K Q:=by
 have rd:(match bb E.P o.op ev H with|some v=>C v H|none=>False)→o.wp E.P a w K Q:=fun h=>by
  split at h
  ·rename_i x hx
   obtain⟨v,w',ok',h1,g',x',r'⟩:=HK g hev hx
   unfold Oper.wp
   rw[h1]
   exact hK v w' x H ρ ok' h g' x' r'
  ·exact h.elim
 obtain⟨dst,op,ty,pos,after,gd⟩:=o
 simp only at h rd hK⊢
 unfold AEff at h
 split at h
 ·split at h
  ·rename_i t pa px _ H' hH'
   obtain⟨w',h1,g',x'⟩:=Fv g (hev pa) (hev px) hH'
   unfold Oper.wp execOp
   simp only[Sem.run_bind,h1,Result.andThen_ok,Sem.run_pure]
   exact hK undef w' _ H' ρ ok h g' x' .sc
  ·exact h.elim
 ·split at h
  ·rename_i t _ zs hz
   obtain⟨v,w',ρ',h1,g',x',r'⟩:=Gm g hz
   unfold Oper.wp execOp
   simp only[Sem.run_bind,h1,Result.andThen_ok,Sem.run_pure]
   exact hK v w' _ _ ρ' ok h g' x' r'
  ·exact h.elim
 ·split at h
  ·rename_i t px _ xs hx
   obtain⟨v,w',ρ',h1,g',x',r'⟩:=NK (t:=t) g (hev px) hx
   unfold Oper.wp execOp
   simp only[Sem.run_bind,h1,Result.andThen_ok,Sem.run_pure]
   exact hK v w' _ _ ρ' ok h g' x' r'
  ·exact h.elim
 ·split at h
  ·rename_i t pl pc _ r H' m B hm
   obtain⟨v,w',ρ',h1,g',x',r'⟩:=Kl g (hev pl) (hev pc) hm h.1 h.2.1
   unfold Oper.wp execOp
   simp only[Sem.run_bind,h1,Result.andThen_ok,Sem.run_pure]
   exact hK v w' _ _ ρ' ok h.2.2 g' x' r'
  ·exact h.elim
 ·split at h
  ·rename_i t parts _ e he
   split at h
   ·rename_i hc
    obtain⟨hkn,hp⟩:=hc
    have hp':parts=#[]:=uE hp
    subst hp'
    obtain⟨g',x'⟩:=g.newObj ⟨e,ay E.P e,[]⟩ 0 #[] (by simp) (by simp) (by unfold maxLen;omega) (by simp) (by simp)
    have h0:Array.map (fun _=>(default:Value)) (Array.range 0)=#[]:=uE (by simp)
    have hrun:(Instr.buildSlice t 0 #[]).run E.P w= .ok (.slice (some ⟨w.heap.size,0,none⟩) 0 0) (w.alloc (.cells #[] e)):=by
     simp only[Instr.buildSlice,Sem.run_bind,run_underlying (bA he),Result.andThen_ok,bB hkn]
     rw[Sem.run_ite,if_neg (by simp),Sem.run_ite,if_pos (by simp)]
     simp[Instr.fill,newRow,h0]
    unfold Oper.wp execOp
    simp only[Sem.run_bind,List.map_toArray,List.map_nil,hrun,Result.andThen_ok,Sem.run_pure]
    refine hK _ _ _ _ _ _ h g' x' ?_
    have:=Rep.sref (w:=w.alloc (.cells #[] e)) (ρ:=fK ρ H.length (some (w.heap.size,0))) (H:=H++[some ⟨e,ay E.P e,[]⟩]) (ok:=ok) (id:=H.length) (lo:=0) (n:=0) (c:=0) cO (b:=w.heap.size) (cap:=0) (by simp[fK]) (by simp) (fun _=>rfl) (zZ _) (by simp[maxLen])
    simpa using this
   ·exact h.elim
  ·exact h.elim
 ·rename_i t
  obtain⟨v,w',ρ',h1,g',x',r'⟩:=Cl g t
  unfold Oper.wp execOp
  simp only[Option.map_none,Sem.run_bind,h1,Result.andThen_ok,Sem.run_pure]
  exact hK v w' _ _ ρ' ok h g' x' r'
 ·split at h
  ·rename_i t px pk pv _ H' hH'
   obtain⟨w',h1,g',x'⟩:=En g (hev px) (hev pk) (hev pv) hH'
   unfold Oper.wp execOp
   simp only[Sem.run_bind,h1,Result.andThen_ok,Sem.run_pure]
   exact hK undef w' _ H' ρ ok h g' x' .sc
  ·exact h.elim
 ·rename_i t px pk
  obtain⟨id,v0,H',kv,e1,e2,e3,e4,_,h⟩:=h
  have hr:=hev px
  rw[e1]at hr
  obtain⟨vz,w',j,h1,g',x',r',hj⟩:=BV g hr (hev pk) e2 e3 e4
  unfold Oper.wp execOp
  simp only[Sem.run_bind,h1,Result.andThen_ok,Sem.run_pure]
  exact hK _ w' _ H' ρ ok (h j hj) g' x' (.tup rfl fun i u q hu hq=>by
   match i,hu,hq with
   |0,hu,hq=>simp at hu hq;subst hu;subst hq;exact r'
   |1,hu,hq=>simp at hu hq;subst hu;subst hq;exact .sc
   |i+2,hu,hq=>simp at hu)
 ·rename_i t px ps pv
  obtain⟨id,j,o,kv,v1,e1,e2,e3,e4,h⟩:=h
  have hr:=hev px
  have hs:=hev ps
  rw[e1]at hr
  rw[e2]at hs
  obtain⟨w',h1,g',x'⟩:=vu (t:=t) g hr (hev pv) e3 e4
  unfold Oper.wp execOp
  simp only[Sem.run_bind,cM hs,h1,Result.andThen_ok,Sem.run_pure]
  exact hK undef w' _ _ ρ ok h g' x' .sc
 ·split at h
  ·rename_i t px _ es hes
   split at h
   ·rename_i hm
    have hr:=hev px
    rw[hes]at hr
    obtain⟨v,w',ρ',h1,g',x',r'⟩:=FR g hr hm
    unfold Oper.wp execOp
    simp only[Sem.run_bind,h1,Result.andThen_ok,Sem.run_pure]
    exact hK v w' _ _ ρ' ok h g' x' r'
   ·exact h.elim
  ·exact h.elim
 ·split at h
  ·rename_i px s _ id hid
   split at h
   ·rename_i o ho
    split at h
    ·rename_i a1 a2 left hes
     obtain⟨rfl,hn,hs⟩:=h
     have hr:=hev px
     rw[hid]at hr
     unfold Oper.wp execOp
     rcases HO (ty:=ty) g hr ho hes with⟨h0,hrun⟩|⟨i,e,w',hi,hrun,g',x'⟩
     ·simp only[Sem.run_bind,hrun,Result.andThen_ok,Sem.run_pure]
      exact hK _ w _ H ρ ok (hn h0) g (Ext.refl _ _ _ _) (.tup rfl fun i u q hu hq=>by
       match i,hu,hq with
       |0,hu,hq=>simp at hu hq;subst hu;subst hq;exact .sc
       |i+1,hu,hq=>simp at hu)
     ·simp only[Sem.run_bind,hrun,Result.andThen_ok,Sem.run_pure]
      exact hK _ w' _ _ ρ ok (hs i e hi) g' x' (.tup rfl fun i u q hu hq=>by
       match i,hu,hq with
       |0,hu,hq=>simp at hu hq;subst hu;subst hq;exact .sc
       |1,hu,hq=>simp at hu hq;subst hu;subst hq;exact .sc
       |2,hu,hq=>simp at hu hq;subst hu;subst hq;exact .sc
       |i+3,hu,hq=>simp at hu)
    ·exact h.elim
   ·exact h.elim
  ·exact h.elim
 ·rename_i c
  obtain⟨callee,args,argTypes⟩:=c
  simp only at h rd
  have hsz:(args.map a.eval).size=(args.toList.map ev).length:=by simp
  have hrp:∀(i:Nat) (v:Value) (b:AV),(args.map a.eval)[i]?=some v→(args.toList.map ev)[i]?=some b→Rep w ρ H ok v b:=fun i v b hv hb=>by
   rw[Array.getElem?_map,zL]at hv
   rw[zR,zL]at hb
   obtain⟨p,hp,rfl⟩:=hv
   obtain⟨q,hq,rfl⟩:=hb
   rw[vF,hp]at hq
   simp only[zB]at hq
   subst hq
   exact hev _
  split at h
  ·split at h
   ·obtain⟨v,w',x,H',ρ',ok',h1,hc,g',x',r'⟩:=h.2 w ρ ok ty (args.map a.eval) g hsz hrp
    unfold Oper.wp execOp
    simp only[kY]at h1
    simp only[resolve,invoke,builtin,Sem.run_bind,Sem.run_pure,Result.andThen_ok,h1]
    exact hK v w' _ _ ρ' ok' hc g' x' r'
   split at h
   ·rename_i s x t t' ha hT
    obtain⟨rfl,h⟩:=h
    have ha':args=#[s,x]:=by rw[←Array.toList_inj,ha]
    have hT':argTypes=#[t,t]:=by rw[←Array.toList_inj,hT]
    subst ha';subst hT'
    split at h
    ·rename_i r H' N B hr
     obtain⟨v,w',ρ',h1,g',x',r'⟩:=E2 (ty:=ty) g (hev s) (hev x) hr (by unfold maxLen;exact h.1) h.2.1
     unfold Oper.wp execOp
     simp only[resolve,invoke,builtin,Sem.run_bind,Sem.run_pure,Result.andThen_ok,List.map_toArray,wD,List.map_nil,h1]
     exact hK v w' _ _ ρ' ok h.2.2 g' x' r'
    ·exact h.elim
   ·exact h.elim
  ·obtain⟨v,w',x,H',ρ',ok',h1,hc,g',x',r'⟩:=h.2 w ρ ok ty (args.map a.eval) g hsz hrp
   unfold Oper.wp execOp
   simp only[kY]at h1
   simp only[resolve,invoke,builtin,Sem.run_bind,Sem.run_pure,Result.andThen_ok,h1]
   exact hK v w' _ _ ρ' ok' hc g' x' r'
  ·obtain⟨v,w',x,H',ρ',ok',h1,hc,g',x',r'⟩:=h.2 w ρ ok ty (args.map a.eval) g hsz hrp
   unfold Oper.wp execOp
   simp only[kY]at h1
   simp only[resolve,invoke,builtin,Sem.run_bind,Sem.run_pure,Result.andThen_ok,h1]
   exact hK v w' _ _ ρ' ok' hc g' x' r'
  ·rename_i f
   split at h
   ·rename_i fid caps hf
    have hr:=hev f
    rw[hf]at hr
    unfold Oper.wp execOp
    simp only[resolve]
    generalize hvf:a.eval f=vf at hr
    cases hr with
    |@fn _ cs _ hn hcs=>
     have hall:∀(i:Nat) (v:Value) (b:AV),(#[]++args.map a.eval++cs)[i]?=some v→(args.toList.map ev++caps)[i]?=some b→Rep w ρ H ok v b:=fun i v b hv hb=>?_
     rcases h with⟨hen,hc⟩|hx
     ·simp only[Deferred.ofValue,Sem.run_bind,Sem.run_pure,Result.andThen_ok,invoke,D3 hen]
      refine (hc.2 w ρ ok (#[]++args.map a.eval++cs) g (by simp[hn]) hall).mono ?_
      rintro e w' ⟨v,x,H',ρ',ok',rfl,h1,g',x',r'⟩
      exact hK v w' x H' ρ' ok' h1 g' x' r'
     ·obtain⟨v,w',x,H',ρ',ok',h1,hc,g',x',r'⟩:=hx.2 w ρ ok (#[]++args.map a.eval++cs) g (by simp[hn]) hall
      simp only[Deferred.ofValue,Sem.run_bind,Sem.run_pure,Result.andThen_ok,invoke,h1]
      exact hK v w' _ _ ρ' ok' hc g' x' r'
     ·simp only[Array.empty_append]at hv
      rcases Nat.lt_or_ge i args.size with hlt|hge
      ·rw[Array.getElem?_append_left (by simpa using hlt),Array.getElem?_map,zL]at hv
       rw[zD (by simpa using hlt),zR,zL]at hb
       obtain⟨p,hp,rfl⟩:=hv
       obtain⟨q,hq,rfl⟩:=hb
       rw[vF,hp]at hq
       simp only[zB]at hq
       subst hq
       exact hev _
      ·rw[Array.getElem?_append_right (by simpa using hge)]at hv
       rw[zN (by simpa using hge)]at hb
       exact hcs _ v b (by simpa using hv) (by simpa using hb)
   ·exact h.elim
  ·exact rd h
 ·exact rd h
end
open Go.RowKit
def dM (ops:Array Oper) (o:Oper) (t:Nat→AV):Option Bool:=
 match o.guard with
 |none=>some true
 |some (j,want)=>match (ops[j]?).bind (·.dst)with
  |none=>some false
  |some d=>match t d with
   | .sc (.bool b)=>some (b==want)
   | .sc _=>some false
   |_=>none
def dK (t:Nat→AV) (d:Option Tmp) (x:AV):Nat→AV:=match d with
 |some d=>upd t d x
 |none=>t
theorem WI (s:St) (d:Option Tmp) (x:AV):(s.put d x).t=dK s.t d x:=by cases d<;>rfl
def AStep (E:Env) (ops:Array Oper) (o:Oper) (s:St) (K:St→Prop):Prop:=
 match dM ops o s.t with
 |some true=>AEff E o.op s.eval s.H fun x H'=>K ⟨dK s.t o.dst x,H'⟩
 |some false=>K ⟨dK s.t o.dst (.sc undef),s.H⟩
 |none=>False
def AOps (E:Env) (ops:Array Oper):List Oper→St→(St→Prop)→Prop
 |[],s,K=>K s
 |o::l,s,K=>AStep E ops o s fun s'=>AOps E ops l s' K
def Dz (N:Nat) (o:Oper):Bool:=match o.dst with
 |some d=>decide (d<N)
 |none=>true
section
variable {E:Env} {ops:Array Oper}
theorem yc {w:World} {ρ:aW} {H:ah} {ok:Nat→Prop} {a:Act} {t:Nat→AV} (ht:∀i,Rep w ρ H ok (a.tmps.getD i undef) (t i)) {o:Oper} {b:Bool} (h:dM ops o t=some b):
  Region.wanted o (yielded ops a.tmps)=b:=by
 unfold dM at h
 unfold Region.wanted
 split at h
 ·rename_i hg
  simp only[zB]at h
  simp[hg,h]
 ·rename_i j want hg
  simp only[hg]
  split at h
  ·rename_i hd
   simp only[zB]at h
   subst h
   simp[yielded,hd]
  ·rename_i d hd
   have hr:=ht d
   split at h
   ·rename_i b' hb
    rw[hb]at hr
    have hv:=cM hr
    simp only[zB]at h
    subst h
    have hsome:a.tmps[d]?=some (.bool b'):=by
     rcases Nat.lt_or_ge d a.tmps.size with hlt|hge
     ·simp only[wW,zX hlt,Option.getD_some]at hv⊢
      rw[hv]
     ·simp only[wW,Array.getElem?_eq_none hge,Option.getD_none]at hv
      cases hv
    simp only[yielded,hd,Option.bind_some,hsome]
    cases b'<;>cases want<;>rfl
   ·rename_i v hne hb
    rw[hb]at hr
    have hv:=cM hr
    simp only[zB]at h
    subst h
    simp only[yielded,hd,Option.bind_some]
    cases hs:a.tmps[d]? with
    |none=>rfl
    |some u=>
     have:u=v:=by
      rw[←hv]
      simp[wW,hs]
     subst this
     cases u<;>first|rfl|(rename_i b';exact absurd rfl (hne b'))
   ·cases h
theorem KX {s:St} {a:Act} {w w':World} {ρ ρ':aW} {H':ah} {ok ok':Nat→Prop} {o:Oper} {v:Value} {x:AV} (hd:a.defers=[]) (hs:a.tmps.size=E.N) (hb:Dz E.N o=true)
  (hx:Ext E.w0 E.ρ0 E.H0 E.okA w ρ s.H ok) (hr:∀i,Rep w ρ s.H ok (a.tmps.getD i undef) (s.t i)) (g':Good E w' ρ' H' ok') (x':Ext w ρ s.H ok w' ρ' H' ok') (r':Rep w' ρ' H' ok' v x):Rel E ⟨dK s.t o.dst x,H'⟩ (a.put o.dst v) w':=by
 rw[←WI]
 have:=Sc (s:=s) (d:=o.dst) (v:=v) (x:=x) hs (fun i hi=>by simpa[Dz,hi]using hb) (fun i=>(hr i).ext x') r'
 refine⟨ρ',ok',g',hx.trans x',?_,this.1,this.2⟩
 cases h:o.dst<;>simpa[Act.put]using hd
theorem zr {i:Nat} {o:Oper} (hi:ops[i]?=some o) (hb:Dz E.N o=true) {s:St} {a:Act} {w:World} {K:St→Prop} (h:AStep E ops o s K) (r:Rel E s a w) {K':Act→World→Prop} {Q:Exit→Act→World→Prop}
  (hK:∀s' a' w',K s'→Rel E s' a' w'→K' a' w'):wpOp E.P ops Q i K' a w:=by
 obtain⟨ρ,ok,g,hx,hd,hs,hr⟩:=r
 unfold AStep at h
 unfold wpOp
 simp only[hi]
 split at h
 ·rename_i hg
  rw[yc hr hg]
  simp only[if_true]
  exact .inl (Mk g (BT hr) h fun v w' x H' ρ' ok' hc g' x' r'=>hK _ _ _ hc (KX hd hs hb hx hr g' x' r'))
 ·rename_i hg
  rw[yc hr hg]
  simp only[wS,if_false]
  exact hK _ _ _ h (KX (o:=o) (v:=undef) (x:= .sc undef) hd hs hb hx hr g (Ext.refl _ _ _ _) .sc)
 ·exact h.elim
theorem C0:∀(l:List Oper) (k:Nat),(∀j:Nat,l[j]?=ops[k+j]?)→(∀o∈l,Dz E.N o=true)→∀{s:St} {a:Act} {w:World} {K:St→Prop} {Q:Exit→Act→World→Prop},
  (∀s' a' w',K s'→Rel E s' a' w'→Q .normal a' w')→AOps E ops l s K→Rel E s a w→wpOps E.P ops Q (List.range' k l.length) a w
 |[],k,_,_,s,a,w,K,Q,hQ,h,r=>hQ _ _ _ h r
 |o::l,k,hl,hb,s,a,w,K,Q,hQ,h,r=>by
  have h0:ops[k]?=some o:=by simpa using (hl 0).symm
  rw[wI,List.range'_succ,wpOps_cons]
  refine zr h0 (hb o (by simp)) h r fun s' a' w' h' r'=>?_
  exact C0 l (k+1) (fun j=>by have:=hl (j+1);simpa[uD,Nat.add_comm 1 j]using this) (fun o' ho=>hb o' (by simp[ho])) hQ h' r'
end
open Go.RowKit
def bY:Op→Bool
 | .store ..| .alloc _| .box ..| .makeSlice ..| .buildSlice _ 0 _| .makeMap ..| .mapUpdate ..| .mapEntry ..| .entryStore ..| .range ..| .next ..=>false
 | .call c=>match c.callee with
  | .builtin .append| .builtin .copy| .builtin .clear| .value _=>false
  |_=>true
 |_=>true
def jP (D:Nat→Bool) (H:ah):ah:=H.mapIdx fun i x=>if D i then x else none
def Agree (D:Nat→Bool) (H H':ah):Prop:=∀id,D id=true→H'[id]?=H[id]?
def Sub (H H':ah):Prop:=∀(id:Nat) (o:AObj),H[id]?=some (some o)→H'[id]?=some (some o)
def rdH:Bool→(Nat→Bool)→ah→ah
 |true,D,H=>jP D H
 |false,_,H=>H
def DEff (strict:Bool) (D:Nat→Bool) (E:Env) (op:Op) (ev:Operand→AV) (H:ah) (C:AV→ah→Prop):Prop:=
 if bY op then match bb E.P op ev (rdH strict D H)with
  |some v=>C v H
  |none=>False
 else AEff E op ev H fun x H'=>(strict=true→Agree D H H')∧C x H'
def DStep (strict:Bool) (D:Nat→Bool) (E:Env) (ops:Array Oper) (o:Oper) (s:St) (K:St→Prop):Prop:=
 match dM ops o s.t with
 |some true=>DEff strict D E o.op s.eval s.H fun x H'=>K ⟨dK s.t o.dst x,H'⟩
 |some false=>K ⟨dK s.t o.dst (.sc undef),s.H⟩
 |none=>False
theorem Nc (D:Nat→Bool) (H:ah):Sub (jP D H) H:=by
 intro id o h
 simp only[jP,List.getElem?_mapIdx,zL]at h
 obtain⟨x,hx,h⟩:=h
 split at h
 ·rw[hx,h]
 ·cases h
theorem SN (b:Bool) (D:Nat→Bool) (H:ah):Sub (rdH b D H) H:=by
 cases b
 ·exact fun _ _ h=>h
 ·exact Nc D H
theorem xw {D:Nat→Bool} {H H':ah} (h:Agree D H H'):Sub (jP D H) (jP D H'):=by
 intro id o hx
 simp only[jP,List.getElem?_mapIdx,zL]at hx⊢
 obtain⟨x,hx,hy⟩:=hx
 split at hy
 ·rename_i hd
  exact⟨x,by rw[h id hd];exact hx,by rw[if_pos hd];exact hy⟩
 ·cases hy
theorem Agree.symm {D:Nat→Bool} {H H':ah} (h:Agree D H H'):Agree D H' H:=fun id hd=>(h id hd).symm
theorem qT {H H':ah} (h:Sub H H') {x:AV} {as0:List AV} (ha:aO H x=some as0):aO H' x=some as0:=by
 unfold aO at ha⊢
 split at ha
 ·split at ha
  ·rename_i o ho
   rw[h _ _ ho]
   exact ha
  ·cases ha
 ·exact ha
 ·cases ha
theorem nY {H H':ah} (h:Sub H H') {x:AV} (ha:(aO H x).isSome=true):(aO H' x).isSome=true:=by
 obtain⟨as0,has⟩:=wU.1 ha
 rw[qT h has];rfl
theorem AN {P:Program} {H H':ah} (h:Sub H H') {t:TypeId} {x y:AV} {n:Int} (ha:bQ P t H x n=some y):bQ P t H' x n=some y:=by
 unfold bQ at ha⊢
 split at ha
 ·split at ha
  ·exact ha
  ·split at ha
   ·rename_i o ho
    rw[h _ _ ho]
    exact ha
   ·cases ha
  ·cases ha
 ·split at ha
  ·rename_i hc
   rw[if_pos hc]
   split at ha
   ·split at ha
    ·rename_i hs
     rw[if_pos (nY h hs)]
     exact ha
    ·cases ha
   ·exact ha
   ·cases ha
  ·cases ha
 ·cases ha
theorem Ox {H H':ah} (h:Sub H H') {x:AV} {n:Int} (ha:lu H x=some n):lu H' x=some n:=by
 unfold lu at ha⊢
 split at ha
 ·exact ha
 ·exact ha
 ·split at ha
  ·rename_i o ho
   rw[h _ _ ho]
   exact ha
  ·cases ha
 ·split at ha
  ·rename_i o ho
   rw[h _ _ ho]
   exact ha
  ·cases ha
 ·cases ha
theorem PJ {H H':ah} (h:Sub H H') {x:AV} {n:Int} (ha:Ec H x=some n):Ec H' x=some n:=by
 unfold Ec at ha⊢
 split at ha
 ·split at ha
  ·rename_i o ho
   rw[h _ _ ho]
   exact ha
  ·cases ha
 ·cases ha
theorem Hn {H H':ah} (h:Sub H H') {x:AV} {es:List (Value×AV)} (ha:ents H x=some es):ents H' x=some es:=by
 unfold ents at ha⊢
 split at ha
 ·exact ha
 ·split at ha
  ·rename_i o ho
   rw[h _ _ ho]
   exact ha
  ·cases ha
 ·cases ha
theorem Kr {P:Program} {H H':ah} (h:Sub H H') {t:TypeId} {x y:AV} {lo hi:Option Int} (ha:dD P t H x lo hi=some y):dD P t H' x lo hi=some y:=by
 unfold dD at ha⊢
 split at ha
 ·cases ha
 ·split at ha
  ·cases ha
  ·rename_i hk
   rw[if_neg hk]
   split at ha
   ·exact ha
   ·exact ha
   ·split at ha
    ·rename_i o ho
     rw[h _ _ ho]
     exact ha
    ·cases ha
   ·split at ha
    ·rename_i o ho
     rw[h _ _ ho]
     exact ha
    ·cases ha
   ·cases ha
theorem uQ {P:Program} {H H':ah} (h:Sub H H') {op:Op} {ev:Operand→AV} {x:AV} (ha:bb P op ev H=some x):bb P op ev H'=some x:=by
 cases op with
 |load t a=>
  simp only[bb,fY,vK]at ha⊢
  obtain⟨as0,h1,h2⟩:=ha
  exact⟨as0,qT h h1,h2⟩
 |nilCheck y=>
  simp only[bb,fY,GV]at ha⊢
  split at ha
  ·exact ha
  ·exact ha
  ·split at ha
   ·rename_i hs
    rw[if_pos (nY h hs)]
    exact ha
   ·cases ha
 |fieldAddr s y f=>
  simp only[bb,fY,BP]at ha⊢
  split at ha
  ·cases ha
  ·split at ha
   ·split at ha
    ·rename_i hs
     rw[if_pos (nY h hs)]
     exact ha
    ·cases ha
   ·exact ha
   ·cases ha
 |indexAddr t y i=>
  simp only[bb,fY,y8]at ha⊢
  split at ha
  ·exact AN h ha
  ·cases ha
 |slice t y lo hi mx=>
  cases mx with
  |some m=>
   cases lo with
   |none=>exact ha
   |some lo=>
    cases hi with
    |none=>exact ha
    |some hi=>
     simp only[bb,fY,ql]at ha⊢
     split at ha
     ·rename_i id b n N hy
      cases hid:H[id]? with
      |none=>simp[hid]at ha
      |some q=>
       cases q with
       |none=>simp[hid]at ha
       |some o=>
        rw[h id o hid]
        rw[hid]at ha
        exact ha
     ·cases ha
  |none=>
   simp only[bb,fY,bL]at ha⊢
   split at ha
   ·exact ha
   ·split at ha
    ·exact Kr h ha
    ·cases ha
 |call c=>
  obtain⟨callee,args,tys⟩:=c
  cases callee with
  |value f=>exact ha
  |invoke r m=>exact ha
  |builtin b=>
   cases b<;>first|exact ha|skip
   ·simp only[bb,fY]at ha⊢
    split at ha
    ·simp only[y6]at ha⊢
     split at ha
     ·rw[zL]at ha⊢
      obtain⟨n,h1,h2⟩:=ha
      exact⟨n,PJ h h1,h2⟩
     ·cases ha
    ·cases ha
   simp only[bb,fY]at ha⊢
   split at ha
   ·simp only[BF]at ha⊢
    split at ha
    ·rw[zL]at ha⊢
     obtain⟨n,h1,h2⟩:=ha
     exact⟨n,Ox h h1,h2⟩
    ·exact ha
    ·cases ha
   ·cases ha
 |lookup t y k c=>
  simp only[bb,fY,iK]at ha⊢
  split at ha
  ·rename_i kt d et kv es h1 h2 h3
   rw[h1,h2,Hn h h3]
   exact ha
  ·rename_i kt d et kv es h1 h2 h3
   rw[h1,h2,Hn h h3]
   exact ha
  ·cases ha
 |entry y=>
  simp only[bb,fY,ug]at ha⊢
  split at ha
  ·split at ha
   ·rename_i o ho
    rw[h _ _ ho]
    exact ha
   ·cases ha
  ·cases ha
 |makeFunc fn first caps=>cases fn<;>exact ha
 |_=>exact ha
theorem Lr {E:Env} {op:Op} {ev:Operand→AV} {H:ah} {C:AV→ah→Prop} {v:AV} (hr:bY op=true) (h:bb E.P op ev H=some v) (hc:C v H):AEff E op ev H C:=by
 have fin:(match bb E.P op ev H with|some v=>C v H|none=>False):=by rw[h];exact hc
 cases op<;>first
  |exact fin
  |(simp only[bY,wS]at hr;done)
  |skip
 case buildSlice t n ps=>cases n with
  |zero=>simp[bY]at hr
  |succ n=>exact fin
 rename_i c
 obtain⟨callee,args,tys⟩:=c
 cases callee with
 |value f=>exact absurd hr (by simp[bY])
 |invoke r m=>exact fin
 |builtin b=>cases b<;>first|exact fin|(simp only[bY,wS]at hr;done)
theorem Py {t:Nat→AV} {H H':ah} {d:Option Tmp} {v:AV} {x:Operand} (h:∀i,d=some i→x≠ .tmp i):St.eval ⟨dK t d v,H'⟩ x=St.eval ⟨t,H⟩ x:=by
 cases x with
 |tmp j=>
  cases d with
  |none=>rfl
  |some i=>
   have:i≠j:=fun e=>h i rfl (by rw[e])
   simp only[St.eval,dK,upd]
   rw[if_neg (fun e=>this e.symm)]
 |const v=>rfl
 |global g=>rfl
 |func f=>rfl
theorem xB {ev ev':Operand→AV} {parts:Array (Nat×Operand)} (h:∀x∈(parts.toList.map (·.2)).toArray,ev x=ev' x):(parts.toList.map fun p=>(p.1,ev p.2))=parts.toList.map fun p=>(p.1,ev' p.2):=by
 apply vA
 intro p hp
 rw[h p.2 (by simp;exact⟨p.1,by simpa using hp⟩)]
theorem xt {ev ev':Operand→AV} {d:Int} {o:Option Operand} (h:∀x,o=some x→ev x=ev' x):dL ev d o=dL ev' d o:=by
 cases o with
 |none=>rfl
 |some x=>simp only[dL,h x rfl]
theorem lC {P:Program} {op:Op} {ev ev':Operand→AV} {H:ah} (h:∀x∈op.operands,ev x=ev' x):bb P op ev H=bb P op ev' H:=by
 cases op with
 |build t parts=>simp only[bb];rw[xB h]
 |buildSlice t n parts=>simp only[bb];rw[xB h]
 |move x=>simp only[bb,fY];rw[h x (by simp[Op.operands])]
 |assign x=>simp only[bb,fY];rw[h x (by simp[Op.operands])]
 |pick c a b=>simp only[bb,fY];rw[h c (by simp[Op.operands]),h a (by simp[Op.operands]),h b (by simp[Op.operands])]
 |load t a=>simp only[bb,fY];rw[h a (by simp[Op.operands])]
 |nilCheck x=>simp only[bb,fY];rw[h x (by simp[Op.operands])]
 |binOp op t x y yt=>simp only[bb,fY];rw[h x (by simp[Op.operands]),h y (by simp[Op.operands])]
 |unOp op t x=>simp only[bb,fY];rw[h x (by simp[Op.operands])]
 |convert s d x=>simp only[bb,fY];rw[h x (by simp[Op.operands])]
 |fieldAddr s x f=>simp only[bb,fY];rw[h x (by simp[Op.operands])]
 |field s x f=>simp only[bb,fY];rw[h x (by simp[Op.operands])]
 |indexAddr t x i=>simp only[bb,fY];rw[h x (by simp[Op.operands]),h i (by simp[Op.operands])]
 |index t x i=>simp only[bb,fY];rw[h x (by simp[Op.operands]),h i (by simp[Op.operands])]
 |extract x i=>simp only[bb,fY];rw[h x (by simp[Op.operands])]
 |lookup t x k c=>simp only[bb,fY];rw[h x (by simp[Op.operands]),h k (by simp[Op.operands])]
 |entry x=>simp only[bb,fY];rw[h x (by simp[Op.operands])]
 |makeFunc fn first caps=>
  cases fn<;>simp only[bb,fY]
  have:caps.toList.map ev=caps.toList.map ev':=vA fun x hx=>h x (by simp[Op.operands];exact .inr (by simpa using hx))
  rw[this]
 |slice t x lo hi mx=>
  cases mx with
  |some m=>
   cases lo with
   |none=>rfl
   |some lo=>
    cases hi with
    |none=>rfl
    |some hi=>
     simp only[bb,fY]
     rw[h x (by simp[Op.operands]),h lo (by simp[Op.operands]),h hi (by simp[Op.operands]),h m (by simp[Op.operands])]
  |none=>
   have e1:∀d,dL ev d lo=dL ev' d lo:=fun d=>xt fun y hy=>h y (by simp[Op.operands,hy])
   have e2:∀d,dL ev d hi=dL ev' d hi:=fun d=>xt fun y hy=>h y (by simp[Op.operands,hy])
   simp only[bb,fY]
   rw[h x (by simp[Op.operands])]
   simp only[bL,e1,e2]
 |call c=>
  obtain⟨callee,args,tys⟩:=c
  have e1:args.toList.map ev=args.toList.map ev':=vA fun x hx=>h x (by simp[Op.operands,Call.operands];exact .inr (by simpa using hx))
  cases callee with
  |value f=>rfl
  |invoke r m=>rfl
  |builtin b=>
   cases b<;>first|rfl|skip
   ·simp only[bb,fY]
    split
    ·rename_i x t hx ht
     rw[h x (by simp[Op.operands,Call.operands];have:x∈args.toList:=(by rw[hx];simp);simpa using this)]
    ·rfl
   ·simp only[bb,fY]
    split
    ·rename_i x t hx ht
     rw[h x (by simp[Op.operands,Call.operands];have:x∈args.toList:=(by rw[hx];simp);simpa using this)]
    ·rfl
   ·simp only[bb,fY,e1]
   ·simp only[bb,fY,e1]
 |_=>rfl
theorem HL {E:Env} {op:Op} {ev ev':Operand→AV} {H:ah} {C:AV→ah→Prop} (h:∀x∈op.operands,ev x=ev' x):AEff E op ev H C=AEff E op ev' H C:=by
 cases op with
 |store t a x=>simp only[AEff];rw[h a (by simp[Op.operands]),h x (by simp[Op.operands])]
 |alloc t=>rfl
 |makeMap t r=>cases r<;>rfl
 |mapUpdate t x k v=>simp only[AEff];rw[h x (by simp[Op.operands]),h k (by simp[Op.operands]),h v (by simp[Op.operands])]
 |mapEntry t x k=>simp only[AEff];rw[h x (by simp[Op.operands]),h k (by simp[Op.operands])]
 |entryStore t x k v=>simp only[AEff];rw[h x (by simp[Op.operands]),h k (by simp[Op.operands]),h v (by simp[Op.operands])]
 |range t x=>simp only[AEff];rw[h x (by simp[Op.operands])]
 |next x s=>simp only[AEff];rw[h x (by simp[Op.operands])]
 |box t x=>simp only[AEff];rw[h x (by simp[Op.operands])]
 |makeSlice t l c=>simp only[AEff];rw[h l (by simp[Op.operands]),h c (by simp[Op.operands])]
 |buildSlice t n parts=>
  have hcall:=lC (P:=E.P) (H:=H) h
  cases n with
  |zero=>rfl
  |succ n=>simp only[AEff];rw[hcall]
 |call c=>
  have hcall:=lC (P:=E.P) (H:=H) h
  obtain⟨callee,args,tys⟩:=c
  have e1:args.toList.map ev=args.toList.map ev':=vA fun x hx=>h x (by simp[Op.operands,Call.operands];exact .inr (by simpa using hx))
  cases callee with
  |value f=>simp only[AEff];rw[e1,h f (by simp[Op.operands,Call.operands])]
  |invoke r m=>simp only[AEff];rw[hcall]
  |builtin b=>
   cases b<;>simp only[AEff]<;>first|(rw[hcall];done)|(rw[e1];done)|skip
   rw[e1]
   split
   ·rfl
   split
   ·rename_i s x t t' hx ht
    have hm:∀y,y∈args.toList→ev y=ev' y:=fun y hy=>h y (by simp[Op.operands,Call.operands];simpa using hy)
    rw[hm s (by rw[hx];simp),hm x (by rw[hx];simp)]
   ·rfl
 |_=>
  have hcall:=lC (P:=E.P) (H:=H) h
  simp only[AEff]
  rw[hcall]
open Go.RowKit
theorem uh (t:Nat→AV) {d e:Option Tmp} (x y:AV) (h:∀i,d=some i→e≠some i):dK (dK t d x) e y=dK (dK t e y) d x:=by
 cases d with
 |none=>rfl
 |some i=>
  cases e with
  |none=>rfl
  |some j=>
   have hne:j≠i:=fun e=>h i rfl (by rw[e])
   funext k
   simp only[dK,upd]
   by_cases h1:k=j
   ·subst h1;simp[hne]
   ·by_cases h2:k=i
    ·subst h2;simp[h1]
    ·simp[h1,h2]
theorem BG {ops:Array Oper} {o:Oper} {t:Nat→AV} {d:Option Tmp} {v:AV} (h:∀i,d=some i→i∉o.looksAt ops):dM ops o (dK t d v)=dM ops o t:=by
 unfold dM
 split
 ·rfl
 ·rename_i j want hg
  split
  ·rfl
  ·rename_i e he
   have:dK t d v e=t e:=by
    cases d with
    |none=>rfl
    |some i=>
     have hni:=h i rfl
     have hmem:e∈o.looksAt ops:=by simp[Oper.looksAt,hg,he]
     simp only[dK,upd]
     rw[if_neg (fun (e':e=i)=>hni (e'▸hmem))]
   rw[this]
theorem Cr {ops:Array Oper} {o:Oper} {i:Nat} (h:i∉o.looksAt ops):∀x∈o.op.operands,x≠ .tmp i:=by
 intro x hx e
 subst e
 apply h
 simp only[Oper.looksAt,wA,List.mem_filterMap]
 exact .inl ⟨.tmp i,by simpa using hx,rfl⟩
theorem Bf {ops:Array Oper} {o:Oper} {t:Nat→AV} {H H':ah} {d:Option Tmp} {v:AV} (h:∀i,d=some i→i∉o.looksAt ops):∀x∈o.op.operands,St.eval ⟨dK t d v,H'⟩ x=St.eval ⟨t,H⟩ x:=
 fun x hx=>Py fun i hi=>Cr (h i hi) x hx
theorem Ke {strict:Bool} {D:Nat→Bool} {E:Env} {op:Op} {ev ev':Operand→AV} {H:ah} {C:AV→ah→Prop} (h:∀x∈op.operands,ev x=ev' x):DEff strict D E op ev H C=DEff strict D E op ev' H C:=by
 unfold DEff
 rw[lC h,HL h]
theorem DEff.mono {strict:Bool} {D:Nat→Bool} {E:Env} {op:Op} {ev:Operand→AV} {H:ah} {C C':AV→ah→Prop} (h:DEff strict D E op ev H C) (hc:∀x H',C x H'→C' x H'):DEff strict D E op ev H C':=by
 unfold DEff at h⊢
 split
 ·rename_i hr
  rw[if_pos hr]at h
  split at h
  ·rename_i v hv;exact hc _ _ h
  ·exact h
 ·rename_i hr
  rw[if_neg hr]at h
  exact h.mono fun x H' hx=>⟨hx.1,hc _ _ hx.2⟩
theorem DStep.mono {strict:Bool} {D:Nat→Bool} {E:Env} {ops:Array Oper} {o:Oper} {s:St} {K K':St→Prop} (h:DStep strict D E ops o s K) (hk:∀s',K s'→K' s'):DStep strict D E ops o s K':=by
 unfold DStep at h⊢
 split
 ·rename_i hg
  rw[hg]at h
  exact h.mono fun x H' hx=>hk _ hx
 ·rename_i hg
  rw[hg]at h
  exact hk _ h
 ·rename_i hg
  rw[hg]at h
  exact h
theorem NP {strict:Bool} {D:Nat→Bool} {E:Env} {op:Op} {ev:Operand→AV} {H:ah} {C:AV→ah→Prop} (h:DEff strict D E op ev H C):AEff E op ev H C:=by
 unfold DEff at h
 split at h
 ·rename_i hr
  split at h
  ·rename_i v hv
   exact Lr hr (uQ (SN _ D H) hv) h
  ·exact h.elim
 ·exact h.mono fun x H' hx=>hx.2
theorem Je {strict:Bool} {D:Nat→Bool} {E:Env} {ops:Array Oper} {o:Oper} {s:St} {K:St→Prop} (h:DStep strict D E ops o s K):AStep E ops o s K:=by
 unfold DStep at h
 unfold AStep
 split
 ·rename_i hg
  rw[hg]at h
  exact NP h
 ·rename_i hg
  rw[hg]at h
  exact h
 ·rename_i hg
  rw[hg]at h
  exact h
theorem E8 {P:Program} {op:Op} {ev:Operand→AV} {D:Nat→Bool} {H H':ah} (h:Agree D H H'):bb P op ev (jP D H')=bb P op ev (jP D H):=by
 cases h1:bb P op ev (jP D H)with
 |some v=>exact uQ (xw h) h1
 |none=>
  cases h2:bb P op ev (jP D H')with
  |none=>rfl
  |some v=>
   have:=uQ (xw h.symm) h2
   rw[h1]at this
   cases this
def DOut (strict:Bool) (D:Nat→Bool) (E:Env) (ops:Array Oper) (o:Oper) (t:Nat→AV) (H:ah) (C:AV→ah→Prop):Prop:=
 match dM ops o t with
 |some true=>DEff strict D E o.op (St.eval ⟨t,H⟩) H C
 |some false=>C (.sc undef) H
 |none=>False
theorem mS {strict:Bool} {D:Nat→Bool} {E:Env} {ops:Array Oper} {o:Oper} {s:St} {K:St→Prop}:DStep strict D E ops o s K=DOut strict D E ops o s.t s.H fun x H'=>K ⟨dK s.t o.dst x,H'⟩:=rfl
theorem mR {strict:Bool} {D:Nat→Bool} {E:Env} {ops:Array Oper} {o:Oper} {t:Nat→AV} {H:ah} {C:AV→ah→Prop} {d:Option Tmp} {v:AV} (h:∀i,d=some i→i∉o.looksAt ops):
  DOut strict D E ops o (dK t d v) H C=DOut strict D E ops o t H C:=by
 unfold DOut
 rw[BG h,Ke (Bf (H:=H) h)]
def xV (b:Bool) (D:Nat→Bool) (E:Env) (ops:Array Oper) (o:Oper) (t:Nat→AV) (H:ah):Option AV:=
 match dM ops o t with
 |some true=>bb E.P o.op (St.eval ⟨t,H⟩) (rdH b D H)
 |some false=>some (.sc undef)
 |none=>none
theorem ku (t:Nat→AV) (H H':ah):St.eval ⟨t,H⟩=St.eval ⟨t,H'⟩:=by funext x;cases x<;>rfl
theorem oP {D:Nat→Bool} {E:Env} {ops:Array Oper} {o:Oper} {t:Nat→AV} {H H':ah} (h:Agree D H H'):xV true D E ops o t H'=xV true D E ops o t H:=by
 unfold xV
 rw[ku t H' H,rdH,rdH,E8 h]
theorem dr {strict:Bool} {D:Nat→Bool} {E:Env} {ops:Array Oper} {o:Oper} {t:Nat→AV} {H:ah} {C:AV→ah→Prop} (hr:bY o.op=true∨dM ops o t=some false):
  DOut strict D E ops o t H C↔∃v,xV strict D E ops o t H=some v∧C v H:=by
 unfold DOut xV
 rcases hr with hr|hg
 ·split
  ·unfold DEff
   rw[if_pos hr]
   constructor
   ·intro h
    split at h
    ·rename_i v hv;exact⟨v,hv,h⟩
    ·exact h.elim
   ·rintro⟨v,hv,h⟩
    rw[hv];exact h
  ·simp
  ·simp
 ·rw[hg]
  simp
theorem Do {strict:Bool} {D:Nat→Bool} {E:Env} {ops:Array Oper} {o:Oper} {t:Nat→AV} {H:ah} {C C':AV→ah→Prop} (hb:bY o.op=false→strict=true) (h:DOut strict D E ops o t H C)
  (hc:∀x H',Agree D H H'→C x H'→C' x H'):DOut strict D E ops o t H C':=by
 unfold DOut at h⊢
 split
 ·rename_i hg
  rw[hg]at h
  simp only at h
  unfold DEff at h⊢
  split
  ·rename_i hr
   rw[if_pos hr]at h
   cases hx:bb E.P o.op (St.eval ⟨t,H⟩) (rdH strict D H)with
   |some v=>rw[hx]at h;exact hc _ _ (fun _ _=>rfl) h
   |none=>rw[hx]at h;exact h
  ·rename_i hr
   rw[if_neg hr]at h
   exact h.mono fun x H' hx=>⟨hx.1,hc _ _ (hx.1 (hb (by simpa using hr))) hx.2⟩
 ·rename_i hg
  rw[hg]at h
  exact hc _ _ (fun _ _=>rfl) h
 ·rename_i hg
  rw[hg]at h
  exact h
theorem MI {strict:Bool} {D:Nat→Bool} {E:Env} {ops:Array Oper} {o:Oper} {t:Nat→AV} {H:ah} {C:AV→ah→Prop} (hb:bY o.op=false→strict=true) (h:DOut strict D E ops o t H C):∃x H',Agree D H H'∧C x H':=by
 unfold DOut at h
 split at h
 ·unfold DEff at h
  split at h
  ·split at h
   ·exact⟨_,_,fun _ _=>rfl,h⟩
   ·exact h.elim
  ·rename_i hr
   obtain⟨x,H',h1,h2⟩:=AEff.has h
   exact⟨x,H',h1 (hb (by simpa using hr)),h2⟩
 ·exact⟨_,_,fun _ _=>rfl,h⟩
 ·exact h.elim
def fk:Op→Bool
 | .move _| .assign _| .pick ..| .binOp ..| .unOp ..| .convert ..| .field ..| .index ..| .extract ..| .build ..| .makeFunc ..=>true
 | .buildSlice _ n _=>n !=0
 | .call c=>match c.callee with
  | .builtin .max| .builtin .min=>true
  |_=>false
 |_=>false
theorem xx {op:Op} (h:fk op=true):bY op=true:=by
 cases op<;>first|rfl|(simp[fk]at h;done)|skip
 case buildSlice t n ps=>cases n with
  |zero=>simp[fk]at h
  |succ n=>rfl
 rename_i c
 obtain⟨callee,args,tys⟩:=c
 cases callee with
 |value f=>simp[fk]at h
 |invoke r m=>simp[fk]at h
 |builtin b=>cases b<;>first|rfl|(simp[fk]at h;done)
theorem Eg {P:Program} {op:Op} {ev:Operand→AV} {H H':ah} (h:fk op=true):bb P op ev H=bb P op ev H':=by
 cases op<;>first|rfl|(simp[fk]at h;done)|skip
 case call c=>
  obtain⟨callee,args,tys⟩:=c
  cases callee with
  |value f=>simp[fk]at h
  |invoke r m=>simp[fk]at h
  |builtin b=>cases b<;>first|rfl|(simp[fk]at h;done)
 case makeFunc fn first caps=>cases fn<;>rfl
theorem nE {b:Bool} {D:Nat→Bool} {E:Env} {ops:Array Oper} {o:Oper} {t:Nat→AV} {H H':ah} (h:fk o.op=true):xV b D E ops o t H'=xV b D E ops o t H:=by
 unfold xV
 rw[ku t H' H,Eg h]
theorem FN {strict:Bool} {D:Nat→Bool} {E:Env} {ops:Array Oper} {o:Oper} {t:Nat→AV} {H:ah} {C:AV→ah→Prop} (h:DOut strict D E ops o t H C):∃x H',C x H':=by
 unfold DOut at h
 split at h
 ·unfold DEff at h
  split at h
  ·split at h
   ·exact⟨_,_,h⟩
   ·exact h.elim
  ·obtain⟨x,H',_,h2⟩:=AEff.has h
   exact⟨x,H',h2⟩
 ·exact⟨_,_,h⟩
 ·exact h.elim
theorem DOut.mono {strict:Bool} {D:Nat→Bool} {E:Env} {ops:Array Oper} {o:Oper} {t:Nat→AV} {H:ah} {C C':AV→ah→Prop} (h:DOut strict D E ops o t H C) (hc:∀x H',C x H'→C' x H'):DOut strict D E ops o t H C':=by
 unfold DOut at h⊢
 split
 ·rename_i hg;rw[hg]at h;exact DEff.mono h hc
 ·rename_i hg;rw[hg]at h;exact hc _ _ h
 ·rename_i hg;rw[hg]at h;exact h
theorem xD {D:Nat→Bool} {E:Env} {ops:Array Oper} {oi oj:Oper} (hap:oi.apart ops oj=true) (hno:fk oi.op=true∨fk oj.op=true) {bi bj:Bool}
  {s:St} {M:St→Prop} (h:DStep bi D E ops oi s fun s1=>DStep bj D E ops oj s1 M):DStep bj D E ops oj s fun s2=>DStep bi D E ops oi s2 M:=by
 obtain⟨ha1,ha2,ha3⟩:=Oper.apart_spec hap
 simp only[mS]at h⊢
 simp only[mR (o:=oj) (fun i hi=>ha1 i hi)]at h
 simp only[mR (o:=oi) (fun i hi=>ha3 i hi)]
 have hcomm:∀x y,dK (dK s.t oj.dst y) oi.dst x=dK (dK s.t oi.dst x) oj.dst y:=fun x y=>uh s.t y x fun i hi e=>ha2 i e hi
 simp only[hcomm]
 by_cases hi:fk oi.op=true
 ·have hr:=xx hi
  rw[dr (.inl hr)]at h
  obtain⟨v,hv,h⟩:=h
  refine DOut.mono h fun y H2 hm=>?_
  rw[dr (.inl hr)]
  exact⟨v,by rw[nE hi];exact hv,hm⟩
 ·have hj:fk oj.op=true:=hno.resolve_left hi
  have hr:=xx hj
  obtain⟨x0,H0,h0⟩:=FN h
  rw[dr (.inl hr)]at h0
  obtain⟨v,hv,_⟩:=h0
  rw[nE hj]at hv
  rw[dr (.inl hr)]
  refine⟨v,hv,?_⟩
  refine DOut.mono h fun x H1 h1=>?_
  rw[dr (.inl hr),nE hj,hv]at h1
  obtain⟨v',hv',h1⟩:=h1
  simp only[zB]at hv'
  subst hv'
  exact h1
theorem IK {D:Nat→Bool} {E:Env} {ops:Array Oper} {oi oj:Oper} (hap:oi.apart ops oj=true) {bi bj:Bool} (hread:(bY oi.op=true∧bY oj.op=true)∨(bY oi.op=true∨bY oj.op=true)∧bi=true∧bj=true)
  {s:St} {M:St→Prop} (h:DStep bi D E ops oi s fun s1=>DStep bj D E ops oj s1 M):DStep bj D E ops oj s fun s2=>DStep bi D E ops oi s2 M:=by
 obtain⟨ha1,ha2,ha3⟩:=Oper.apart_spec hap
 simp only[mS]at h⊢
 simp only[mR (o:=oj) (fun i hi=>ha1 i hi)]at h
 simp only[mR (o:=oi) (fun i hi=>ha3 i hi)]
 have hcomm:∀x y,dK (dK s.t oj.dst y) oi.dst x=dK (dK s.t oi.dst x) oj.dst y:=fun x y=>uh s.t y x fun i hi e=>ha2 i e hi
 simp only[hcomm]
 rcases hread with⟨hi,hj⟩|⟨hread,rfl,rfl⟩
 ·rw[dr (.inl hi)]at h
  obtain⟨v,hv,h⟩:=h
  rw[dr (.inl hj)]at h
  obtain⟨v',hv',h⟩:=h
  rw[dr (.inl hj)]
  refine⟨v',hv',?_⟩
  rw[dr (.inl hi)]
  exact⟨v,hv,h⟩
 by_cases hi:bY oi.op=true
 ·rw[dr (.inl hi)]at h
  obtain⟨v,hv,h⟩:=h
  refine Do (fun _=>rfl) h fun y H2 hag hm=>?_
  rw[dr (.inl hi)]
  exact⟨v,by rw[oP hag];exact hv,hm⟩
 ·have hj:bY oj.op=true:=hread.resolve_left hi
  obtain⟨x0,H0,hag0,h0⟩:=MI (fun _=>rfl) h
  rw[dr (.inl hj)]at h0
  obtain⟨v,hv,_⟩:=h0
  rw[oP hag0]at hv
  rw[dr (.inl hj)]
  refine⟨v,hv,?_⟩
  refine Do (fun _=>rfl) h fun x H1 hag h1=>?_
  rw[dr (.inl hj),oP hag,hv]at h1
  obtain⟨v',hv',h1⟩:=h1
  simp only[zB]at hv'
  subst hv'
  exact h1
open Go.RowKit
def Eq (acc:List Nat) (o:Oper):Nat:=o.after.toList.foldl (fun s e=>if Region.binds .any e then s|||2 ^ e.on|||acc.getD e.on 0 else s) 0
def qD:List Oper→List Nat→List Nat
 |[],acc=>acc
 |o::l,acc=>qD l (acc++[Eq acc o])
def sF (D:Nat→Bool) (E:Env) (ops:Array Oper) (S:List Nat):List Oper→Nat→St→(St→Prop)→Prop
 |[],_,s,K=>K s
 |o::l,k,s,K=>DStep (!S.contains k) D E ops o s fun s'=>sF D E ops S l (k+1) s' K
def Qw (A:List Nat) (S:List Nat) (k j:Nat) (ok oj:Oper) (ops:Array Oper):Bool:=
 (A.getD j 0).testBit k||(ok.apart ops oj&&(fk ok.op||fk oj.op||((bY ok.op&&bY oj.op)||((bY ok.op||bY oj.op)&&(!S.contains k&&!S.contains j)))))
def D9 (ops:Array Oper) (S:List Nat):Bool:=
 let A:=qD ops.toList []
 (List.range ops.size).all fun k=>match ops[k]? with
  |none=>true
  |some ok=>(ok.after.toList.all fun e=>!Region.binds .any e||decide (e.on<k))&&(List.range ops.size).all fun j=>match ops[j]? with
   |none=>true
   |some oj=>decide (j≤k)||Qw A S k j ok oj ops
theorem Ha (acc:List Nat) (k:Nat):∀(l:List Edge) (s:Nat),(l.foldl (fun s e=>if Region.binds .any e then s|||2 ^ e.on|||acc.getD e.on 0 else s) s).testBit k=true→
  s.testBit k=true∨∃e∈l,Region.binds .any e=true∧(e.on=k∨(acc.getD e.on 0).testBit k=true)
 |[],s,h=> .inl h
 |e::l,s,h=>by
  rw[List.foldl_cons]at h
  rcases Ha acc k l _ h with h|⟨e',he,h1,h2⟩
  ·split at h
   ·rename_i hb
    simp only[Nat.testBit_or,Nat.testBit_two_pow,wZ,zI]at h
    rcases h with (h|h)|h
    ·exact .inl h
    ·exact .inr ⟨e,by simp,hb,.inl h⟩
    ·exact .inr ⟨e,by simp,hb,.inr h⟩
   ·exact .inl h
  ·exact .inr ⟨e',by simp[he],h1,h2⟩
theorem yW:∀(l:List Oper) (acc:List Nat) (j:Nat),j<acc.length→(qD l acc)[j]?=acc[j]?
 |[],acc,j,_=>rfl
 |o::l,acc,j,h=>by
  rw[qD,yW l _ j (by simp;omega),zD h]
theorem Fn:∀(l:List Oper) (acc:List Nat) (j:Nat) (o:Oper),l[j]?=some o→∃acc',(qD l acc)[acc.length+j]?=some (Eq acc' o)∧∀i m,acc'[i]?=some m→(qD l acc)[i]?=some m∧i<acc.length+j
 |o'::l,acc,0,o,h=>by
  simp only[wQ,zB]at h
  subst h
  refine⟨acc,?_,fun i m hi=>?_⟩
  ·rw[qD,Nat.add_zero,yW l _ _ (by simp)];simp
  ·have hlt:=(gsI hi)
   refine⟨?_,by omega⟩
   rw[qD,yW l _ _ (by simp;omega),zD hlt]
   exact hi
 |o'::l,acc,j+1,o,h=>by
  obtain⟨acc',h1,h2⟩:=Fn l (acc++[Eq acc o']) j o (by simpa using h)
  refine⟨acc',?_,fun i m hi=>?_⟩
  ·rw[qD,←h1];congr 1;simp;omega
  ·obtain⟨h3,h4⟩:=h2 i m hi
   refine⟨by rw[qD];exact h3,by simp at h4;omega⟩
 |[],_,_,_,h=>by simp at h
def DC (ops:Array Oper) (listed:Array Bool):Prop:=
 ∀(j:Nat) (o:Oper),ops[j]?=some o→listed.getD j false=true→∀e∈o.after,Region.binds .any e=true→listed.getD e.on false=true
theorem Ja {ops:Array Oper} {listed:Array Bool} (hdc:DC ops listed) {k:Nat}:∀(j:Nat) (o:Oper),ops[j]?=some o→(∀e∈o.after,Region.binds .any e=true→listed.getD e.on false=true)→
  ((qD ops.toList []).getD j 0).testBit k=true→listed.getD k false=true:=by
 intro j
 induction j using Nat.strongRecOn with
 |_ j ih=>
  intro o ho hall hb
  obtain⟨acc',h1,h2⟩:=Fn ops.toList [] j o (by simpa using ho)
  simp only[List.length_nil,vR]at h1 h2
  rw[List.getD_eq_getElem?_getD,h1,Option.getD_some]at hb
  rcases Ha acc' k _ 0 hb with h|⟨e,he,hbind,h⟩
  ·simp at h
  ·have hl:=hall e (by simpa using he) hbind
   rcases h with h|h
   ·rw[←h];exact hl
   ·rw[List.getD_eq_getElem?_getD]at h
    cases hm:acc'[e.on]? with
    |none=>rw[hm]at h;simp at h
    |some m=>
     rw[hm,Option.getD_some]at h
     obtain⟨h3,h4⟩:=h2 _ _ hm
     have hlt:e.on<ops.size:=by have:=(zW.1 ho).1;omega
     exact ih e.on h4 _ (zX hlt) (hdc _ _ (zX hlt) hl) (by rw[List.getD_eq_getElem?_getD,h3,Option.getD_some];exact h)
section
variable {E:Env} {ops:Array Oper} {D:Nat→Bool} {S:List Nat}
theorem RO {listed:Array Bool} (hdc:DC ops listed) {i:Nat} (hi:i∈Region.ready .any ops listed):DC ops (listed.setIfInBounds i true):=by
 intro j o ho hj e he hb
 by_cases hji:i=j
 ·subst hji
  obtain⟨_,o',ho',hall⟩:=mem_ready.1 hi
  rw[ho]at ho'
  simp only[zB]at ho'
  subst ho'
  exact getD_set_true (hall e he hb)
 ·rw[getD_set_ne false hji]at hj
  exact getD_set_true (hdc j o ho hj e he hb)
theorem MG {s:St} {a:Act} {w:World} (r:Rel E s a w):Rel E s a {w with drawn:=w.drawn+1}:=by
 obtain⟨ρ,ok,g,hx,hd,hs,hr⟩:=r
 obtain⟨g',x'⟩:=g.step (w':={w with drawn:=w.drawn+1}) (ok':=ok) (fun _=>False) rfl rfl rfl (zZ _) (fun _ _ _=>rfl) (fun _ h=>h.elim) (fun _ h=>h) (fun _ h=> .inl h)
 exact⟨ρ,ok,g',hx.trans x',hd,hs,fun i=>(hr i).ext x'⟩
def AWp (E:Env) (c:Code) (s:St) (Q:Exit→St→Prop):Prop:=
 ∀(a:Act) (w:World),Rel E s a w→c.wp E.P (fun x a' w'=>∃s',Q x s'∧Rel E s' a' w') a w
def AU (N:Nat) (ops:Array Oper):Bool:=ops.toList.all (Dz N)
theorem Bv {id:Nat} {s:St} {Q:Exit→St→Prop} (hb:AU E.N ops=true) (h:AOps E ops ops.toList s (Q .normal)):AWp E (.region id ops false) s Q:=by
 intro a w r
 refine wp_region ?_
 have:=C0 (E:=E) (ops:=ops) ops.toList 0 (by simp) (fun o ho=>zS.1 hb o ho) (K:=Q .normal) (Q:=fun x a' w'=>∃s',Q x s'∧Rel E s' a' w') (fun s' a' w' h1 h2=>⟨s',h1,h2⟩) h r
 rwa[List.range_eq_range']
end
def CallQ (E:Env) (f:FuncId) (args:List AV) (k:AV→Prop):Prop:=
 ∃Q:AV→Prop,(∃r,Q r)∧(∀(H:ah) (C:AV→ah→Prop),(∀r,Q r→C r H)→aa E.P f=true∧ACall E f args H C)∧∀r,Q r→k r
def QEff (E:Env) (op:Op) (ev:Operand→AV) (k:AV→Prop):Prop:=match op with
 | .call c=>match c.callee with
  | .value f=>match ev f with
   | .fn g caps=>CallQ E g (c.args.toList.map ev++caps) k
   |_=>False
  |_=>False
 |_=>False
theorem CallQ.mono {E:Env} {f:FuncId} {args:List AV} {k k':AV→Prop} (h:CallQ E f args k) (hk:∀r,k r→k' r):CallQ E f args k':=
 h.imp fun _ h=>⟨h.1,h.2.1,fun r hr=>hk r (h.2.2 r hr)⟩
theorem QEff.mono {E:Env} {op:Op} {ev:Operand→AV} {k k':AV→Prop} (h:QEff E op ev k) (hk:∀r,k r→k' r):QEff E op ev k':=by
 unfold QEff at h⊢
 cases op<;>first|exact (h:False).elim|skip
 rename_i c
 obtain⟨callee,args,tys⟩:=c
 cases callee<;>first|exact (h:False).elim|skip
 rename_i f
 dsimp only at h⊢
 cases hf:ev f<;>rw[hf]at h<;>first|exact (h:False).elim|exact CallQ.mono h hk
theorem QEff.has {E:Env} {op:Op} {ev:Operand→AV} {k:AV→Prop} (h:QEff E op ev k):∃r,k r:=by
 unfold QEff at h
 split at h
 ·split at h
  ·split at h
   ·obtain⟨Q,⟨r,hr⟩,_,h3⟩:=h
    exact⟨r,h3 r hr⟩
   ·exact h.elim
  ·exact h.elim
 ·exact h.elim
theorem L6 {E:Env} {op:Op} {ev:Operand→AV} {H:ah} {C:AV→ah→Prop} (h:QEff E op ev fun r=>C r H):AEff E op ev H C:=by
 unfold QEff at h
 split at h
 ·rename_i c
  split at h
  ·rename_i f hf
   split at h
   ·rename_i g caps hg
    obtain⟨Q,_,h2,h3⟩:=h
    simp only[AEff,hf,hg]
    exact .inl (h2 H C h3)
   ·exact h.elim
  ·exact h.elim
 ·exact h.elim
theorem Ig {E:Env} {op:Op} {ev ev':Operand→AV} {k:AV→Prop} (h:∀x∈op.operands,ev x=ev' x):QEff E op ev k=QEff E op ev' k:=by
 unfold QEff
 split
 ·rename_i c
  have e1:c.args.toList.map ev=c.args.toList.map ev':=vA fun x hx=>h x (by simp[Op.operands,Call.operands];exact .inr (by simpa using hx))
  split
  ·rename_i f hf
   have:=h f (by simp[Op.operands,Call.operands,hf])
   rw[this,e1]
  ·rfl
 ·rfl
def QOut (E:Env) (ops:Array Oper) (o:Oper) (t:Nat→AV) (k:AV→Prop):Prop:=match dM ops o t with
 |some true=>QEff E o.op (St.eval ⟨t,[]⟩) k
 |some false=>k (.sc undef)
 |none=>False
def pT (E:Env) (ops:Array Oper) (o:Oper) (s:St) (K:St→Prop):Prop:=QOut E ops o s.t fun x=>K ⟨dK s.t o.dst x,s.H⟩
theorem QOut.mono {E:Env} {ops:Array Oper} {o:Oper} {t:Nat→AV} {k k':AV→Prop} (h:QOut E ops o t k) (hk:∀r,k r→k' r):QOut E ops o t k':=by
 unfold QOut at h⊢
 split
 ·rename_i hg;rw[hg]at h;exact QEff.mono h hk
 ·rename_i hg;rw[hg]at h;exact hk _ h
 ·rename_i hg;rw[hg]at h;exact h
theorem QOut.has {E:Env} {ops:Array Oper} {o:Oper} {t:Nat→AV} {k:AV→Prop} (h:QOut E ops o t k):∃r,k r:=by
 unfold QOut at h
 split at h
 ·exact QEff.has h
 ·exact⟨_,h⟩
 ·exact h.elim
theorem Fh {E:Env} {ops:Array Oper} {o:Oper} {t:Nat→AV} {k:AV→Prop} {d:Option Tmp} {v:AV} (h:∀i,d=some i→i∉o.looksAt ops):QOut E ops o (dK t d v) k=QOut E ops o t k:=by
 unfold QOut
 rw[BG h,Ig (Bf (H:=[]) h)]
theorem Ki {E:Env} {ops:Array Oper} {o:Oper} {s:St} {K:St→Prop} (h:pT E ops o s K):AStep E ops o s K:=by
 unfold pT QOut at h
 unfold AStep
 split
 ·rename_i hg
  rw[hg]at h
  have h:QEff E o.op (St.eval ⟨s.t,[]⟩) fun x=>K ⟨dK s.t o.dst x,s.H⟩:=h
  rw[ku s.t [] s.H]at h
  exact L6 (C:=fun x H'=>K ⟨dK s.t o.dst x,H'⟩) h
 ·rename_i hg
  rw[hg]at h
  exact h
 ·rename_i hg
  rw[hg]at h
  exact h
def yG:Op→Bool
 | .alloc _=>true
 |_=>false
def Det (F:(AV→ah→Prop)→Prop):Prop:=(∃x H',∀C,F C↔C x H')∨∀C,¬F C
theorem Gb {b:Bool} {D:Nat→Bool} {E:Env} {ops:Array Oper} {o:Oper} {t:Nat→AV} {H:ah} (h:bY o.op=true∨yG o.op=true):Det (DOut b D E ops o t H):=by
 unfold DOut
 rcases hg:dM ops o t with _|_|_
 ·exact .inr fun C h=>h
 ·exact .inl ⟨_,_,fun C=>Iff.rfl⟩
 ·unfold DEff
  dsimp only
  by_cases hr:bY o.op=true
  ·simp only[if_pos hr]
   cases bb E.P o.op (St.eval ⟨t,H⟩) (rdH b D H)with
   |none=>exact .inr fun C h=>h
   |some v=>exact .inl ⟨_,_,fun C=>Iff.rfl⟩
  ·have ha:=h.resolve_left hr
   simp only[if_neg hr]
   cases ho:o.op with
   |alloc ty=>
    simp only[AEff]
    cases cv E.P ty with
    |none=>exact .inr fun C h=>h
    |some zs=>
     by_cases hd:b=true→Agree D H (H++[some ⟨ty,ay E.P ty,[zs]⟩])
     ·exact .inl ⟨_,_,fun C=>⟨fun h=>h.2,fun h=>⟨hd,h⟩⟩⟩
     ·exact .inr fun C h=>hd h.1
   |_=>rw[ho]at ha;simp[yG]at ha
def XStep (D:Nat→Bool) (E:Env) (ops:Array Oper) (S T:List Nat) (k:Nat) (o:Oper) (s:St) (K:St→Prop):Prop:=
 if T.contains k=true then pT E ops o s K else DStep (!S.contains k) D E ops o s K
theorem XStep.mono {D:Nat→Bool} {E:Env} {ops:Array Oper} {S T:List Nat} {k:Nat} {o:Oper} {s:St} {K K':St→Prop} (h:XStep D E ops S T k o s K) (hk:∀s',K s'→K' s'):XStep D E ops S T k o s K':=by
 unfold XStep at h⊢
 split
 ·rename_i hc;rw[if_pos hc]at h;exact QOut.mono h fun r hr=>hk _ hr
 ·rename_i hc;rw[if_neg hc]at h;exact h.mono hk
theorem JM {D:Nat→Bool} {E:Env} {ops:Array Oper} {S T:List Nat} {k:Nat} {o:Oper} {s:St} {K:St→Prop} (h:XStep D E ops S T k o s K):AStep E ops o s K:=by
 unfold XStep at h
 split at h
 ·exact Ki h
 ·exact Je h
theorem Fy {D:Nat→Bool} {E:Env} {ops:Array Oper} {S T:List Nat} {k:Nat} {o:Oper} {s:St} (h:XStep D E ops S T k o s fun _=>False):False:=by
 unfold XStep at h
 split at h
 ·obtain⟨_,h⟩:=QOut.has h
  exact h
 ·obtain⟨_,_,h⟩:=FN (mS▸h)
  exact h
def ui (S T:List Nat) (k j:Nat) (ok oj:Oper):Bool:=
 match T.contains k,T.contains j with
 |true,true=>false
 |true,false=>bY oj.op||yG oj.op
 |false,true=>bY ok.op||yG ok.op
 |false,false=>fk ok.op||fk oj.op||((bY ok.op&&bY oj.op)||((bY ok.op||bY oj.op)&&(!S.contains k&&!S.contains j)))
theorem J3 {D:Nat→Bool} {E:Env} {ops:Array Oper} {S T:List Nat} {i j:Nat} {oi oj:Oper} (hap:oi.apart ops oj=true) (hs:ui S T i j oi oj=true) {s:St} {M:St→Prop} (h:XStep D E ops S T i oi s fun s1=>XStep D E ops S T j oj s1 M):
  XStep D E ops S T j oj s fun s2=>XStep D E ops S T i oi s2 M:=by
 obtain⟨ha1,ha2,ha3⟩:=Oper.apart_spec hap
 have hcomm:∀x y,dK (dK s.t oj.dst y) oi.dst x=dK (dK s.t oi.dst x) oj.dst y:=fun x y=>uh s.t y x fun i hi e=>ha2 i e hi
 unfold XStep at h⊢
 unfold ui at hs
 cases hi:T.contains i<;>cases hj:T.contains j<;>simp only[hi,hj,wS,if_true,if_false]at h hs⊢
 ·simp only[wZ,zG]at hs
  rcases hs with (hs|hs)|hs
  ·exact xD hap (.inl hs) h
  ·exact xD hap (.inr hs) h
  ·exact IK hap hs h
 ·simp only[wZ]at hs
  simp only[mS,pT]at h⊢
  simp only[Fh (o:=oj) (fun i hi=>ha1 i hi)]at h
  simp only[mR (o:=oi) (fun i hi=>ha3 i hi),hcomm]
  rcases Gb (b:=!S.contains i) (D:=D) (E:=E) (ops:=ops) (t:=s.t) (H:=s.H) hs with⟨x,H1,hd⟩|hd
  ·rw[hd]at h
   exact QOut.mono h fun y hy=>(hd _).2 hy
  ·exact absurd h (hd _)
 ·simp only[wZ]at hs
  simp only[mS,pT]at h⊢
  simp only[mR (o:=oj) (fun i hi=>ha1 i hi)]at h
  simp only[Fh (o:=oi) (fun i hi=>ha3 i hi),hcomm]
  rcases Gb (b:=!S.contains j) (D:=D) (E:=E) (ops:=ops) (t:=s.t) (H:=s.H) hs with⟨x,H1,hd⟩|hd
  ·rw[hd]
   exact QOut.mono h fun y hy=>(hd _).1 hy
  ·obtain⟨_,h⟩:=QOut.has h
   exact absurd h (hd _)
def AXOps (D:Nat→Bool) (E:Env) (ops:Array Oper) (S T:List Nat):List Oper→Nat→St→(St→Prop)→Prop
 |[],_,s,K=>K s
 |o::l,k,s,K=>XStep D E ops S T k o s fun s'=>AXOps D E ops S T l (k+1) s' K
def nO (ops:Array Oper) (S T:List Nat):Bool:=
 let A:=qD ops.toList []
 (List.range ops.size).all fun k=>match ops[k]? with
  |none=>true
  |some ok=>(ok.after.toList.all fun e=>!Region.binds .any e||decide (e.on<k))&&(List.range ops.size).all fun j=>match ops[j]? with
   |none=>true
   |some oj=>decide (j≤k)||((A.getD j 0).testBit k||(ok.apart ops oj&&ui S T k j ok oj))
section
variable {E:Env} {ops:Array Oper} {D:Nat→Bool} {S T:List Nat}
def XAny (D:Nat→Bool) (E:Env) (ops:Array Oper) (S T:List Nat) (K:St→Prop):Nat→Array Bool→St→Prop
 |0,listed,s=>Region.ready .any ops listed=[]∧K s
 |fuel+1,listed,s=>(Region.ready .any ops listed=[]→K s)∧∀i∈Region.ready .any ops listed,∀o,ops[i]?=some o→XStep D E ops S T i o s (XAny D E ops S T K fuel (listed.setIfInBounds i true))
theorem Bu (hb:∀(i:Nat) (o:Oper),ops[i]?=some o→Dz E.N o=true) {K:St→Prop} {Q:Exit→Act→World→Prop} (hQ:∀s' a' w',K s'→Rel E s' a' w'→Q .normal a' w'):
  ∀(fuel:Nat) (listed:Array Bool) (s:St) (a:Act) (w:World),XAny D E ops S T K fuel listed s→Rel E s a w→wpAny E.P .any ops Q fuel listed a w
 |0,listed,s,a,w,h,r=>⟨h.1,hQ _ _ _ h.2 r⟩
 |fuel+1,listed,s,a,w,h,r=>by
  refine⟨fun h0=>hQ _ _ _ (h.1 h0) r,fun i hi=>?_⟩
  obtain⟨_,o,ho,_⟩:=mem_ready.1 hi
  exact zr ho (hb i o ho) (JM (h.2 i hi o ho)) r fun s' a' w' h' r'=>Bu hb hQ fuel _ s' a' w' h' r'
theorem As {K:St→Prop} {i:Nat} {oi:Oper} (hi:ops[i]?=some oi):∀(fuel:Nat) (listed:Array Bool) (s:St),DC ops listed→
  (∀j oj,ops[j]?=some oj→j≠i→listed.getD j true=false→((qD ops.toList []).getD j 0).testBit i=false→
   oi.apart ops oj=true∧ui S T i j oi oj=true)→
  i∈Region.ready .any ops listed→XStep D E ops S T i oi s (XAny D E ops S T K fuel (listed.setIfInBounds i true))→XAny D E ops S T K (fuel+1) listed s:=by
 intro fuel
 induction fuel with
 |zero=>
  intro listed s hdc hfree hr h
  refine⟨fun h0=>(by rw[h0]at hr;cases hr),fun j hj o ho=>?_⟩
  by_cases hji:j=i
  ·subst hji
   rw[hi]at ho
   simp only[zB]at ho
   subst ho
   exact h
  ·have hrj:=ready_mono hj hji
   have hno:¬Region.ready .any ops (listed.setIfInBounds i true)=[]:=fun h0=>(by rw[h0]at hrj;cases hrj)
   exact (Fy (h.mono fun s' h'=>hno h'.1)).elim
 |succ fuel ih=>
  intro listed s hdc hfree hr h
  refine⟨fun h0=>(by rw[h0]at hr;cases hr),fun j hj o ho=>?_⟩
  by_cases hji:j=i
  ·subst hji
   rw[hi]at ho
   simp only[zB]at ho
   subst ho
   exact h
  ·have hrj:=ready_mono hj hji
   obtain⟨hjun,oj,hoj,hall⟩:=mem_ready.1 hj
   rw[ho]at hoj
   simp only[zB]at hoj
   subst hoj
   obtain⟨hu,_,_,_⟩:=mem_ready.1 hr
   have hanc:((qD ops.toList []).getD j 0).testBit i=false:=by
    cases hc:((qD ops.toList []).getD j 0).testBit i with
    |false=>rfl
    |true=>
     have:=Ja hdc j o ho hall hc
     rcases Nat.lt_or_ge i listed.size with h'|h'
     ·simp[h']at hu this;rw[hu]at this;cases this
     ·simp[Array.getElem?_eq_none h']at this
   obtain⟨f1,f2⟩:=hfree j o ho hji hjun hanc
   have h1:XStep D E ops S T i oi s fun s1=>XStep D E ops S T j o s1 (XAny D E ops S T K fuel ((listed.setIfInBounds i true).setIfInBounds j true)):=h.mono fun s' h'=>h'.2 j hrj o ho
   refine XStep.mono (J3 f1 f2 h1) fun s2 h2=>?_
   refine ih (listed.setIfInBounds j true) s2 (RO hdc hj) (fun k ok hk hki hun hno=>hfree k ok hk hki ?_ hno) (ready_mono hr (Ne.symm hji)) ?_
   ·by_cases hjk:j=k
    ·subst hjk;exact hjun
    ·rw[getD_set_ne true hjk]at hun;exact hun
   ·rw[Array.setIfInBounds_comm _ _ hji]
    exact h2
theorem Gr {K:St→Prop} (hB:nO ops S T=true):∀(l:List Oper) (k:Nat) (listed:Array Bool) (s:St),(∀j:Nat,l[j]?=ops[k+j]?)→listed.size=ops.size→(∀j,j<ops.size→listed.getD j false=decide (j<k))→DC ops listed→
  AXOps D E ops S T l k s K→XAny D E ops S T K l.length listed s
 |[],k,listed,s,hl,hsz,hpre,_,h=>by
  refine⟨?_,h⟩
  have hk:ops.size≤k:=by
   have h0:=hl 0
   simp only[List.getElem?_nil,Nat.add_zero]at h0
   exact Array.getElem?_eq_none_iff.1 h0.symm
  unfold Region.ready
  rw[List.filter_eq_nil_iff]
  intro i hi
  have hlt:=List.mem_range.1 hi
  have:=hpre i hlt
  rw[zC (by omega)]at this
  have hg:listed.getD i true=true:=by
   simp only[wW,zX (show i<listed.size by omega),Option.getD_some]at this⊢
   exact this
  simp[hg]
 |o::l,k,listed,s,hl,hsz,hpre,hdc,h=>by
  have h0:ops[k]?=some o:=by simpa using (hl 0).symm
  have hk:k<ops.size:=(zW.1 h0).1
  have hB':=hB
  unfold nO at hB'
  have hBk:=zS.1 hB' k (List.mem_range.2 hk)
  simp only[h0,zG,zS]at hBk
  obtain⟨hedge,hpair⟩:=hBk
  have hgetD:∀j,j<ops.size→listed.getD j true=decide (j<k):=fun j hj=>by
   have:=hpre j hj
   simp only[wW,zX (show j<listed.size by omega),Option.getD_some]at this⊢
   exact this
  have hready:k∈Region.ready .any ops listed:=by
   rw[mem_ready]
   refine⟨by rw[hgetD k hk];simp,o,h0,fun e he hb=>?_⟩
   have:=hedge e (by simpa using he)
   simp only[hb,Bool.not_true,Bool.false_or,zI]at this
   rw[hpre _ (by omega)]
   simpa using this
  refine As h0 l.length listed s hdc (fun j oj hj hjk hun hanc=>?_) hready ?_
  ·have hjlt:j<ops.size:=(zW.1 hj).1
   rw[hgetD j hjlt]at hun
   simp only[wH]at hun
   have:=hpair j (List.mem_range.2 hjlt)
   simp only[hj,wZ,zI,hanc,wS,false_or,zG]at this
   exact this.resolve_left (by omega)
  ·have h':XStep D E ops S T k o s fun s'=>AXOps D E ops S T l (k+1) s' K:=h
   refine h'.mono fun s' h1=>?_
   refine Gr hB l (k+1) _ s' (fun j=>by have:=hl (j+1);simpa[uD,Nat.add_comm 1 j]using this) (by simp[hsz]) (fun j hj=>?_) (RO hdc hready) h1
   by_cases hkj:k=j
   ·subst hkj
    simp[hsz,hk]
   ·rw[getD_set_ne false hkj,hpre j hj]
    simp only[decide_eq_decide]
    omega
theorem XAny.mono {K K':St→Prop} (hk:∀s,K s→K' s):∀(n:Nat) (listed:Array Bool) (s:St),XAny D E ops S T K n listed s→XAny D E ops S T K' n listed s
 |0,_,s,h=>⟨h.1,hk s h.2⟩
 |n+1,_,s,h=>⟨fun h0=>hk s (h.1 h0),fun i hi o ho=>XStep.mono (h.2 i hi o ho) fun s' h'=>XAny.mono hk n _ s' h'⟩
theorem uS {id:Nat} {s:St} {Q:Exit→St→Prop} (D:Nat→Bool) (S T:List Nat) (hm:E.P.follows .mixedOrders=true) (hb:AU E.N ops=true) (h:XAny D E ops S T (Q .normal) ops.size (Array.replicate ops.size false) s):AWp E (.region id ops true) s Q:=by
 intro a w r
 refine wp_region_any hm ?_
 exact Bu (D:=D) (S:=S) (T:=T) (K:=Q .normal) (fun i o ho=>zS.1 hb o (by simpa using Array.mem_of_getElem? ho)) (fun s' a' w' h1 h2=>⟨s',h1,h2⟩) ops.size _ s a _ h (MG r)
theorem S5:DC ops (Array.replicate ops.size false):=fun j o ho hj=>by
 exfalso
 simp only[wW]at hj
 rcases Nat.lt_or_ge j ops.size with hlt|hge
 ·simp[hlt]at hj
 ·simp[Array.getElem?_eq_none (show (Array.replicate ops.size false).size≤j by simpa using hge)]at hj
theorem BJ {K:St→Prop} {s:St} (hB:nO ops S T=true) (h:AXOps D E ops S T ops.toList 0 s K):XAny D E ops S T K ops.size (Array.replicate ops.size false) s:=by
 have:=Gr (K:=K) hB ops.toList 0 (Array.replicate ops.size false) s (by simp) (by simp) (fun j hj=>by simp[hj]) S5 h
 simpa using this
theorem GT (h:D9 ops S=true):nO ops S []=true:=by
 unfold D9 Qw at h
 unfold nO ui
 simpa only[List.contains_nil]using h
theorem zt:∀(l:List Oper) (k:Nat) (s:St) (K:St→Prop),sF D E ops S l k s K→AXOps D E ops S [] l k s K
 |[],_,_,_,h=>h
 |o::l,k,s,K,h=>by
  have h:DStep (!S.contains k) D E ops o s fun s'=>sF D E ops S l (k+1) s' K:=h
  show XStep D E ops S [] k o s fun s'=>AXOps D E ops S [] l (k+1) s' K
  unfold XStep
  simp only[List.contains_nil,wS,if_false]
  exact h.mono fun s' h'=>zt l (k+1) s' K h'
end
open Go.RowKit
def xI (k:St→Prop) (Q:Exit→St→Prop):Exit→St→Prop
 | .normal,s=>k s
 |e,s=>Q e s
def ll (id:Nat) (Q:Exit→St→Prop):Exit→St→Prop
 | .exit i,s=>if i=id then Q .normal s else Q (.exit i) s
 |e,s=>Q e s
def Tv (E:Env) (ops:Array Oper) (s:St) (K:St→Prop):Prop:=
 ∃(D:Nat→Bool) (S T:List Nat),E.P.follows .mixedOrders=true∧XAny D E ops S T K ops.size (Array.replicate ops.size false) s
def awp (E:Env):Code→St→(Exit→St→Prop)→Prop
 | .skip,s,Q=>Q .normal s
 | .region _ ops false,s,Q=>AOps E ops ops.toList s (Q .normal)
 | .region _ ops true,s,Q=>Tv E ops s (Q .normal)
 | .seq a b,s,Q=>awp E a s (xI (fun s'=>awp E b s' Q) Q)
 | .cond c a b,s,Q=>match s.eval c with
  | .sc (.bool t)=>(t=true→awp E a s Q)∧(t=false→awp E b s Q)
  |_=>False
 | .block id c,s,Q=>awp E c s (ll id Q)
 | .exit id,s,Q=>Q (.exit id) s
 | .label _,s,Q=>Q .normal s
 | .ret,s,Q=>Q .ret s
 |c,s,Q=>AWp E c s Q
def gD (N:Nat):Code→Bool
 | .region _ ops _=>AU N ops
 | .seq a b=>gD N a&&gD N b
 | .cond _ a b=>gD N a&&gD N b
 | .block _ c=>gD N c
 |_=>true
theorem AWp.mono {E:Env} {c:Code} {s:St} {Q Q':Exit→St→Prop} (h:AWp E c s Q) (hq:∀x s,Q x s→Q' x s):AWp E c s Q':=
 fun a w r=>wp_mono (h a w r) fun _ _ _ ⟨s',h1,h2⟩=>⟨s',hq _ _ h1,h2⟩
theorem be {E:Env}:∀(c:Code) (s:St) (Q:Exit→St→Prop),gD E.N c=true→awp E c s Q→AWp E c s Q
 | .skip,s,Q,_,h=>fun a w r=>wp_skip ⟨s,h,r⟩
 | .region id ops false,s,Q,hc,h=>Bv hc h
 | .region id ops true,s,Q,hc,h=>by
  obtain⟨D,S,T,h1,h2⟩:=h
  exact uS D S T h1 hc h2
 | .seq x y,s,Q,hc,h=>fun a w r=>by
  simp only[gD,zG]at hc
  refine wp_seq (wp_mono (be x s _ hc.1 h a w r) fun e a' w' h'=>?_)
  obtain⟨s',h1,h2⟩:=h'
  cases e with
  |normal=>exact be y s' Q hc.2 h1 a' w' h2
  |_=>exact⟨s',h1,h2⟩
 | .cond c x y,s,Q,hc,h=>fun a w r=>by
  simp only[gD,zG]at hc
  simp only[awp]at h
  split at h
  ·rename_i t ht
   have hv:a.eval c= .bool t:=by
    obtain⟨ρ,ok,g,hx,hd,hs,hr⟩:=r
    have:=BT hr c
    rw[ht]at this
    exact cM this
   refine wp_cond_split hv (fun e=>?_) (fun e=>?_)
   ·exact be x s Q hc.1 (h.1 e) a w r
   ·exact be y s Q hc.2 (h.2 e) a w r
  ·exact h.elim
 | .block id c,s,Q,hc,h=>fun a w r=>by
  refine wp_block (wp_mono (be c s _ hc h a w r) fun e a' w' h'=>?_)
  obtain⟨s',h1,h2⟩:=h'
  cases e with
  |exit i=>
   simp only[Exit.inBlock]
   simp only[ll]at h1
   split
   ·rename_i hi;rw[if_pos hi]at h1;exact⟨s',h1,h2⟩
   ·rename_i hi;rw[if_neg hi]at h1;exact⟨s',h1,h2⟩
  |_=>exact⟨s',h1,h2⟩
 | .exit id,s,Q,_,h=>fun a w r=>wp_exit ⟨s,h,r⟩
 | .label l,s,Q,_,h=>fun a w r=>wp_label ⟨s,h,r⟩
 | .ret,s,Q,_,h=>fun a w r=>wp_ret ⟨s,h,r⟩
 | .loop c,s,Q,_,h=>h
 | .rangeFunc f p x y,s,Q,_,h=>h
 | .scope c,s,Q,_,h=>h
 | .goto l,s,Q,_,h=>h
 | .refuse m,s,Q,_,h=>h
def Weaker (E:Env) (s s':St):Prop:=∀a w,Rel E s a w→Rel E s' a w
theorem AWp.weaken {E:Env} {c:Code} {s s':St} {Q:Exit→St→Prop} (hw:Weaker E s s') (h:AWp E c s' Q):AWp E c s Q:=fun a w r=>h a w (hw a w r)
inductive NoRef (m:Nat):AV→Prop
 |junk:NoRef m .junk
 |sc {v}:NoRef m (.sc v)
 |nil:NoRef m .nil
 |agg {cs:List AV} (h:∀a,a∈cs→NoRef m a):NoRef m (.agg cs)
 |tup {cs:List AV} (h:∀a,a∈cs→NoRef m a):NoRef m (.tup cs)
 |list {k:Nat} {es:List (List AV)} (h:∀e,e∈es→∀a,a∈e→NoRef m a):NoRef m (.list k es)
 |iref {cs:List AV} (h:∀a,a∈cs→NoRef m a):NoRef m (.iref cs)
 |fn {f:FuncId} {cs:List AV} (h:∀a,a∈cs→NoRef m a):NoRef m (.fn f cs)
 |imap {es:List (Value×Value)}:NoRef m (.imap es)
 |ref {id i j:Nat} (h:id<m):NoRef m (.ref id i j)
 |sref {id lo n:Nat} (h:id<m):NoRef m (.sref id lo n)
 |mref {id:Nat} (h:id<m):NoRef m (.mref id)
 |miter {id:Nat} (h:id<m):NoRef m (.miter id)
 |full {id lo n N:Nat} (h:id<m):NoRef m (.full id lo n N)
theorem JH {m:Nat}:NoRef m .junk↔True:=⟨fun _=>trivial,fun _=> .junk⟩
theorem N5 {m:Nat} {v:Value}:NoRef m (.sc v)↔True:=⟨fun _=>trivial,fun _=> .sc⟩
theorem L3 {m:Nat}:NoRef m .nil↔True:=⟨fun _=>trivial,fun _=> .nil⟩
theorem NI {m:Nat} {cs:List AV}:NoRef m (.agg cs)↔∀a,a∈cs→NoRef m a:=⟨fun h=>by cases h;assumption,.agg⟩
theorem MH {m:Nat} {cs:List AV}:NoRef m (.tup cs)↔∀a,a∈cs→NoRef m a:=⟨fun h=>by cases h;assumption,.tup⟩
theorem Jk {m k:Nat} {es:List (List AV)}:NoRef m (.list k es)↔∀e,e∈es→∀a,a∈e→NoRef m a:=⟨fun h=>by cases h;assumption,.list⟩
theorem Kj {m:Nat} {cs:List AV}:NoRef m (.iref cs)↔∀a,a∈cs→NoRef m a:=⟨fun h=>by cases h;assumption,.iref⟩
theorem Rg {m:Nat} {f:FuncId} {cs:List AV}:NoRef m (.fn f cs)↔∀a,a∈cs→NoRef m a:=⟨fun h=>by cases h;assumption,.fn⟩
theorem LM {m id i j:Nat}:NoRef m (.ref id i j)↔id<m:=⟨fun h=>by cases h;assumption,.ref⟩
theorem IG {m id:Nat}:NoRef m (.mref id)↔id<m:=⟨fun h=>by cases h;assumption,.mref⟩
theorem Gl {m id:Nat}:NoRef m (.miter id)↔id<m:=⟨fun h=>by cases h;assumption,.miter⟩
theorem I0 {m id lo n N:Nat}:NoRef m (.full id lo n N)↔id<m:=⟨fun h=>by cases h;assumption,.full⟩
theorem I1 {m id lo n:Nat}:NoRef m (.sref id lo n)↔id<m:=⟨fun h=>by cases h;assumption,.sref⟩
section
variable {E:Env} {w:World} {ρ:aW} {H:ah} {ok:Nat→Prop}
theorem Weaker.trans {s1 s2 s3:St} (h:Weaker E s1 s2) (k:Weaker E s2 s3):Weaker E s1 s3:=fun a w r=>k a w (h a w r)
theorem Iw {s:St} (j:Nat) (ty:TypeId) (k:Nat) (h:s.t j= .nil):Weaker E s ⟨upd s.t j (.sref s.H.length 0 0),s.H++[some ⟨ty,k,[]⟩]⟩:=by
 rintro a w ⟨ρ,ok,g,hx,hd,hs,hr⟩
 obtain⟨g',x'⟩:=g.add ⟨ty,k,[]⟩ none rfl (by simp) (by simp)
 refine⟨_,ok,g',hx.trans x',hd,hs,fun i=>?_⟩
 simp only[upd]
 split
 ·rename_i hi
  subst hi
  have:=hr i
  rw[h]at this
  generalize a.tmps.getD i undef=v at this
  cases this
  exact .srefNil cO (by simp[fK])
 ·exact (hr i).ext x'
end
open Go.RowKit
inductive Imm:AV→Prop
 |sc {v}:Imm (.sc v)
 |nil:Imm .nil
 |agg {cs:List AV} (h:∀a,a∈cs→Imm a):Imm (.agg cs)
 |tup {cs:List AV} (h:∀a,a∈cs→Imm a):Imm (.tup cs)
 |list {k:Nat} {es:List (List AV)} (h:∀e,e∈es→∀a,a∈e→Imm a):Imm (.list k es)
 |iref {cs:List AV} (h:∀a,a∈cs→Imm a):Imm (.iref cs)
 |fn {f:FuncId} {cs:List AV} (h:∀a,a∈cs→Imm a):Imm (.fn f cs)
 |imap {es:List (Value×Value)}:Imm (.imap es)
theorem an {v:Value}:Imm (.sc v)↔True:=⟨fun _=>trivial,fun _=> .sc⟩
theorem Ti:Imm .nil↔True:=⟨fun _=>trivial,fun _=> .nil⟩
theorem bH {cs:List AV}:Imm (.agg cs)↔∀a,a∈cs→Imm a:=⟨fun h=>by cases h;assumption,.agg⟩
theorem E3 {cs:List AV}:Imm (.tup cs)↔∀a,a∈cs→Imm a:=⟨fun h=>by cases h;assumption,.tup⟩
theorem dv {k:Nat} {es:List (List AV)}:Imm (.list k es)↔∀e,e∈es→∀a,a∈e→Imm a:=⟨fun h=>by cases h;assumption,.list⟩
theorem cY {cs:List AV}:Imm (.iref cs)↔∀a,a∈cs→Imm a:=⟨fun h=>by cases h;assumption,.iref⟩
theorem P4 {es:List (Value×Value)}:Imm (.imap es)↔True:=⟨fun _=>trivial,fun _=> .imap⟩
theorem gz {f:FuncId} {cs:List AV}:Imm (.fn f cs)↔∀a,a∈cs→Imm a:=⟨fun h=>by cases h;assumption,.fn⟩
abbrev jY (w:World) (ok:Nat→Prop) (v:Value) (a:AV):Prop:=Rep w (fun _=>none) [] ok v a
section
variable {w:World} {ρ:aW} {H:ah} {ok:Nat→Prop}
theorem Rep.imm {v:Value} {a:AV} (r:Rep w ρ H ok v a) {ρ':aW} {H':ah} {ok':Nat→Prop} (hok:∀b,ok b→ok' b) (h:Imm a):Rep w ρ' H' ok' v a:=by
 induction r with
 |junk=>cases h
 |sc=>exact .sc
 |agg hn _ ih=>cases h with|agg h=>exact .agg hn fun i c a hc ha=>ih i c a hc ha (h a (zE ha))
 |tup hn _ ih=>cases h with|tup h=>exact .tup hn fun i c a hc ha=>ih i c a hc ha (h a (zE ha))
 |nil=>exact .nil
 |listNil=>exact .listNil
 |list f hn hnc hok1 hk hc h1 _ ih=>cases h with|list h=>exact .list f hn hnc (hok _ hok1) hk hc h1 fun i e j a he hj=>ih i e j a he hj (h e (zE he) a (zE hj))
 |ref ho hρ _=>cases h
 |refDead hd h1=>cases h
 |sref ho hρ hn hc hnc _=>cases h
 |mref ho hρ=>cases h
 |mrefDead hd h1=>cases h
 |miter ho hρ=>cases h
 |miterDead hd h1=>cases h
 |full ho hρ _ _=>cases h
 |fullDead hd h1=>cases h
 |srefNil ho hρ=>cases h
 |srefDead hd h1=>cases h
 |iref f hok1 hc h1 _ ih=>cases h with|iref h=>exact .iref f (hok _ hok1) hc h1 fun j a hj=>ih j a hj (h a (zE hj))
 |fn hn _ ih=>cases h with|fn h=>exact .fn hn fun i c a hc ha=>ih i c a hc ha (h a (zE ha))
 |imap hok1 hb he hw=>exact .imap (hok _ hok1) hb he hw
 |imapNil=>exact .imapNil
def xL:List (List AV)→Option (List (Value×Value))
 |[]=>some []
 |[.sc k,.sc v]::r=>(xL r).map ((k,v)::·)
 |_=>none
theorem CG:∀{es:List (List AV)} {l:List (Value×Value)},xL es=some l→es=l.map fun e=>[.sc e.1,.sc e.2]
 |[],l,h=>by simp only[xL,zB]at h;subst h;rfl
 |e::es,l,h=>by
  unfold xL at h
  split at h
  ·rename_i heq;cases heq
  ·rename_i k v r heq
   simp only[vZ]at heq
   obtain⟨rfl,rfl⟩:=heq
   rw[zL]at h
   obtain⟨l',h1,rfl⟩:=h
   rw[CG h1]
   rfl
  ·cases h
def oE (H:ah):AV→AV
 | .ref id i j=>match aO H (.ref id i j)with
  |some as0=> .iref as0
  |none=> .junk
 |x=>x
def Rj:AV→List Nat
 | .ref id _ _=>[id]
 |_=>[]
def dB (H:ah):AV→AV
 | .sref id lo n=>match H[id]? with
  |some (some o)=> .list o.k ((o.es.drop lo).take n)
  |_=> .junk
 | .mref id=>match H[id]? with
  |some (some o)=>match xL o.es with
   |some es=> .imap es
   |none=> .junk
  |_=> .junk
 | .fn f cs=> .fn f (cs.map (oE H))
 |x=>x
def iC (H:ah):AV→AV
 | .agg cs=> .agg (cs.map (dB H))
 | .list k es=> .list k (es.map (·.map (dB H)))
 |x=>dB H x
def dR (H:ah):AV→AV
 | .tup cs=> .tup (cs.map (iC H))
 |x=>iC H x
inductive Weak:AV→AV→Prop
 |refl (a:AV):Weak a a
 |nil (k:Nat):Weak .nil (.list k [])
 |empty (k k':Nat):Weak (.list k []) (.list k' [])
 |agg {as0 bs:List AV} (hl:as0.length=bs.length) (h:∀(i:Nat) (a b:AV),as0[i]?=some a→bs[i]?=some b→Weak a b):Weak (.agg as0) (.agg bs)
 |tup {as0 bs:List AV} (hl:as0.length=bs.length) (h:∀(i:Nat) (a b:AV),as0[i]?=some a→bs[i]?=some b→Weak a b):Weak (.tup as0) (.tup bs)
theorem Rep.weak {v:Value} {a b:AV} (h:Weak a b) (r:Rep w ρ H ok v a):Rep w ρ H ok v b:=by
 induction h generalizing v with
 |refl=>exact r
 |nil k=>cases r;exact .listNil
 |empty k k'=>
  cases r with
  |listNil=>exact .listNil
  |list f hn _ _ _ _ _ _=>subst hn;exact .listNil
 |agg hl _ ih=>
  cases r with
  |agg hn hr=>
   refine .agg (hn.trans hl) (fun i c b hc hb=>?_)
   have hlt:=(gsI hb)
   have ha:=zF (show i<_ from hl▸hlt)
   exact ih i _ b ha hb (hr i c _ hc ha)
 |tup hl _ ih=>
  cases r with
  |tup hn hr=>
   refine .tup (hn.trans hl) (fun i c b hc hb=>?_)
   have hlt:=(gsI hb)
   have ha:=zF (show i<_ from hl▸hlt)
   exact ih i _ b ha hb (hr i c _ hc ha)
variable {E:Env}
def mA:AV→List Nat
 | .sref id _ _=>[id]
 | .mref id=>[id]
 | .fn _ cs=>cs.flatMap Rj
 |_=>[]
def ua:AV→List Nat
 | .agg cs=>cs.flatMap mA
 | .list _ es=>es.flatMap fun e=>e.flatMap mA
 |x=>mA x
def lg:AV→List Nat
 | .tup cs=>cs.flatMap ua
 |x=>ua x
def okX (X:Nat→Prop) (ρ:aW) (H:ah) (ok:Nat→Prop):Nat→Prop:=fun b=>ok b∨∃id o c,X id∧H[id]?=some (some o)∧ρ id=some (b,c)
def okI (ρ:aW) (H:ah) (ok:Nat→Prop):Nat→Prop:=fun b=>ok b∨∃id o c,H[id]?=some (some o)∧ρ id=some (b,c)
theorem kf (X:Nat→Prop) (g:Good E w ρ H ok) {v:Value} {a:AV} (r:Rep w ρ H ok v a) (h:Imm (dB H a)) (hX:∀id,id∈mA a→X id):jY w (okX X ρ H ok) v (dB H a):=by
 have plain:∀{a:AV},Rep w ρ H ok v a→Imm a→jY w (okX X ρ H ok) v a:=fun r h=>r.imm (fun _ h=> .inl h) h
 cases a
 case sref id lo n=>
  simp only[dB]at h⊢
  split
  ·rename_i o ho
   simp only[ho]at h
   have hh:∀e,e∈(o.es.drop lo).take n→∀a,a∈e→Imm a:=dv.1 h
   cases r with
   |srefDead hd _=>rw[ho]at hd;cases hd
   |srefNil ho' hρ=>simp only[List.take_zero];exact .listNil
   |@sref _ _ _ c o' b cap ho' hρ hn hc hnc hcap=>
    rw[ho]at ho'
    simp only[zB]at ho'
    subst ho'
    have hobj:=g.obj id o ho
    rw[hρ]at hobj
    obtain⟨cur,h1,h2,h3,h4,h5⟩:=hobj.cells hcap
    have hget:∀(i:Nat) (e:List AV),((o.es.drop lo).take n)[i]?=some e→o.es[lo+i]?=some e:=fun i e he=>by
     rw[vE]at he
     split at he
     ·rwa[uG]at he
     ·cases he
    refine .list (fun i j=>(cur[(lo+i)*o.k+j]?).getD undef) (by simp;omega) hnc (.inr ⟨id,o,cap,hX id (by simp[mA]),ho,hρ⟩) (fun e he=>g.len id o ho e (uB (wV he))) (fun i e j a he hj=>?_) (fun i e j a he hj=>?_) (fun i e j a he hj=>?_)
    all_goals obtain⟨c',c1,c2,c3⟩:=h5 _ _ _ _ (hget i e he) hj
    ·rw[kU,cell_of_row w b _ cur o.ty (0,0) h1,show lo*o.k+(i*o.k+j)=(lo+i)*o.k+j from by rw[Nat.add_mul,uD],c1]
     rfl
    ·rw[c1];exact c2
    ·rw[c1]
     exact c3.imm (fun _ h=> .inl h) (hh e (zE he) a (zE hj))
  ·rename_i hne
   exfalso
   cases hx:H[id]? with
   |none=>rw[hx]at h;cases h
   |some y=>cases y with
    |none=>rw[hx]at h;cases h
    |some o=>exact hne o hx
 case fn f cs=>
  simp only[dB]at h⊢
  have hh:=gz.1 h
  cases r with
  |fn hn hr=>
   refine .fn (by simpa using hn) (fun i c a hc ha=>?_)
   rw[zR,zL]at ha
   obtain⟨a',ha',rfl⟩:=ha
   have him:=hh _ (uA (zE ha'))
   have hra:=hr i c a' hc ha'
   cases a'
   case ref id i' j'=>
    simp only[oE]at him⊢
    split
    ·rename_i as0 has
     simp only[has]at him
     obtain⟨o,b,cap,ho,hρ,hcap,rfl⟩:=nw hra has
     obtain⟨ad,he,f',hf⟩:=kz g hra has
     simp only[Value.pointer.injEq,zB]at he
     subst he
     refine .iref f' (.inr ⟨id,o,cap,hX id (List.mem_flatMap.2 ⟨_,zE ha',by simp[Rj]⟩),ho,hρ⟩) (fun j a hj=>(hf j a hj).1) (fun j a hj=>(hf j a hj).2.1) (fun j a hj=>?_)
     exact (hf j a hj).2.2.imm (fun _ h=> .inl h) (cY.1 him a (zE hj))
    ·rename_i hne
     simp only[hne]at him
     cases him
   all_goals exact hra.imm (fun _ h=> .inl h) him
 case mref id=>
  simp only[dB]at h⊢
  split
  ·rename_i o ho
   simp only[ho]at h
   split
   ·rename_i es hes
    have hmap:=CG hes
    cases r with
    |mrefDead hd _=>rw[ho]at hd;cases hd
    |@mref _ b o' ho' hρ=>
     rw[ho]at ho'
     simp only[zB]at ho'
     subst ho'
     have hobj:=g.obj id o ho
     rw[hρ]at hobj
     obtain⟨_,ents,clk,h1,h2,h3,h4⟩:=hobj.map
     refine .imap (.inr ⟨id,o,_,hX id (by simp[mA]),ho,hρ⟩) h1 ?_ h2.st
     apply List.ext_getElem?
     intro i
     rw[zR,vF]
     cases hi:ents[i]? with
     |none=>
      have:es.length≤i:=by
       have:=Array.getElem?_eq_none_iff.1 hi
       have hl:o.es.length=es.length:=by rw[hmap];simp
       omega
      rw[List.getElem?_eq_none this]
      rfl
     |some x=>
      have hlt:i<es.length:=by
       have:=(zW.1 hi).1
       have hl:o.es.length=es.length:=by rw[hmap];simp
       omega
      have he:o.es[i]?=some [.sc es[i].1,.sc es[i].2]:=by rw[hmap,zR,zF hlt];rfl
      obtain⟨a,ha,hr⟩:=h4 i x _ hi he
      simp only[vZ,AV.sc.injEq,and_true]at ha
      obtain⟨ha1,rfl⟩:=ha
      rw[zF hlt,vI,cM hr,←ha1]
   ·rename_i hne
    simp only[hne]at h
    cases h
  ·rename_i hne
   exfalso
   cases hx:H[id]? with
   |none=>rw[hx]at h;cases h
   |some y=>cases y with
    |none=>rw[hx]at h;cases h
    |some o=>exact hne o hx
 all_goals exact plain r h
theorem tI (X:Nat→Prop) (g:Good E w ρ H ok) {v:Value} {a:AV} (r:Rep w ρ H ok v a) (h:Imm (iC H a)) (hX:∀id,id∈ua a→X id):jY w (okX X ρ H ok) v (iC H a):=by
 cases a
 case agg cs=>
  simp only[iC]at h⊢
  have hh:=bH.1 h
  cases r with
  |agg hn hr=>
    refine .agg (by simpa using hn) (fun i c a hc ha=>?_)
    rw[zR,zL]at ha
    obtain⟨a',ha',rfl⟩:=ha
    exact kf X g (hr i c a' hc ha') (hh _ (uA (zE ha'))) fun id hid=>hX id (List.mem_flatMap.2 ⟨a',zE ha',hid⟩)
 case list k es=>
  simp only[iC]at h⊢
  have hh:=dv.1 h
  cases r with
  |listNil=>exact .listNil
  |list f hn hnc hok hk hc h1 hr=>
   have hget:∀(i:Nat) (e:List AV) (j:Nat) (a:AV),(es.map (·.map (dB H)))[i]?=some e→e[j]?=some a→∃e' a',es[i]?=some e'∧e'[j]?=some a'∧a=dB H a':=fun i e j a he hj=>by
    rw[zR,zL]at he
    obtain⟨e',he',rfl⟩:=he
    rw[zR,zL]at hj
    obtain⟨a',ha',rfl⟩:=hj
    exact⟨e',a',he',ha',rfl⟩
   refine .list f (by simpa using hn) hnc (.inl hok) (fun e he=>?_) (fun i e j a he hj=>?_) (fun i e j a he hj=>?_) (fun i e j a he hj=>?_)
   ·obtain⟨e',he',rfl⟩:=zV.1 he
    simpa using hk e' he'
   ·obtain⟨e',a',h1',h2',rfl⟩:=hget i e j a he hj
    exact hc i e' j a' h1' h2'
   ·obtain⟨e',a',h1',h2',rfl⟩:=hget i e j a he hj
    exact h1 i e' j a' h1' h2'
   ·have hm:=hh e (zE he) a (zE hj)
    obtain⟨e',a',h1',h2',rfl⟩:=hget i e j a he hj
    exact kf X g (hr i e' j a' h1' h2') hm fun id hid=>hX id (List.mem_flatMap.2 ⟨e',zE h1',List.mem_flatMap.2 ⟨a',zE h2',hid⟩⟩)
 all_goals exact kf X g r h hX
theorem lU (X:Nat→Prop) (g:Good E w ρ H ok) {v:Value} {a:AV} (r:Rep w ρ H ok v a) (h:Imm (dR H a)) (hX:∀id,id∈lg a→X id):jY w (okX X ρ H ok) v (dR H a):=by
 cases a
 case tup cs=>
  simp only[dR]at h⊢
  have hh:=E3.1 h
  cases r with
  |tup hn hr=>
    refine .tup (by simpa using hn) (fun i c a hc ha=>?_)
    rw[zR,zL]at ha
    obtain⟨a',ha',rfl⟩:=ha
    exact tI X g (hr i c a' hc ha') (hh _ (uA (zE ha'))) fun id hid=>hX id (List.mem_flatMap.2 ⟨a',zE ha',hid⟩)
 all_goals exact tI X g r h hX
theorem AG (g:Good E w ρ H ok) {v:Value} {a:AV} (r:Rep w ρ H ok v a) (h:Imm (dR H a)):jY w (okI ρ H ok) v (dR H a):=
 (lU (fun _=>True) g r h fun _ _=>trivial).imm (fun _ hb=>hb.imp id fun⟨id,o,c,_,h1,h2⟩=>⟨id,o,c,h1,h2⟩) h
end
def PFun (P:Program) (row src:Option Nat) (f:FuncId) (args:List AV) (Q:AV→Prop):Prop:=
 ∀(w:World) (ok:Nat→Prop) (vs:Array Value),(∀b,ok b→b<w.heap.size∧some b≠row)→Inv row src ok w→vs.size=args.length→(∀(i:Nat) (v:Value) (a:AV),vs[i]?=some v→args[i]?=some a→jY w ok v a)→
  Calls P f vs w fun e w'=>∃(v:Value) (x:AV),e= .returned v∧Q x∧Imm x∧jY w' (fun b=>ok b∨(w.heap.size≤b∧b<w'.heap.size)) v x∧w.grownBy w' row∧Inv row src ok w'
theorem PFun.mono {P:Program} {row src:Option Nat} {f:FuncId} {args:List AV} {Q Q':AV→Prop} (h:PFun P row src f args Q) (hq:∀x,Q x→Q' x):PFun P row src f args Q':=
 fun w ok vs h1 h2 h3 h4=>(h w ok vs h1 h2 h3 h4).mono fun _ _ ⟨v,x,e,hx,rest⟩=>⟨v,x,e,hq _ hx,rest⟩
def qX (P:Program) (s:St):ResultVar→Option AV
 | .tmp t=>some (s.t t)
 | .cell a t=>(aO s.H (s.t a)).bind (xm P t)
def mh (P:Program) (s:St):List ResultVar→Option AV
 |[r]=>qX P s r
 |rs=>(rs.mapM (qX P s)).map .tup
def Cf (P:Program) (rs:List ResultVar) (Q:AV→Prop):Exit→St→Prop
 | .normal,s| .ret,s=>match mh P s rs with
  |some r=>∃x,Weak (dR s.H r) x∧Imm (dR s.H r)∧Imm x∧Q x
  |none=>False
 |_,_=>False
section
variable {E:Env} {w:World} {ρ:aW} {H:ah} {ok:Nat→Prop}
def C6 (tmps:Array Value):ResultVar→Sem Value
 | .tmp t=>pure (tmps.getD t undef)
 | .cell a t=>do loadVar t (←asAddr (tmps.getD a undef))
theorem Hp (g:Good E w ρ H ok) {tmps:Array Value} {t:Nat→AV} (hr:∀i,Rep w ρ H ok (tmps.getD i undef) (t i)) {r:ResultVar} {x:AV} (h:qX E.P ⟨t,H⟩ r=some x):
  ∃v,(C6 tmps r).run E.P w= .ok v w∧Rep w ρ H ok v x:=by
 cases r with
 |tmp i=>simp only[qX,zB]at h;subst h;exact⟨_,rfl,hr i⟩
 |cell a ty=>
  simp only[qX,vK]at h
  obtain⟨as0,has,hl⟩:=h
  obtain⟨ad,hv,hc⟩:=kz g (hr a) has
  obtain⟨v,h1,h2⟩:=xb hc hl
  refine⟨v,?_,h2⟩
  simp only[C6,hv,asAddr,Sem.run_bind,Sem.run_pure,Result.andThen_ok]
  exact h1
theorem CT {α β:Type} {f:α→Option β}:∀{l:List α} {ys:List β},l.mapM f=some ys→ys.length=l.length∧∀(i:Nat) (a:α),l[i]?=some a→∃b,ys[i]?=some b∧f a=some b
 |[],ys,h=>by simp at h;subst h;simp
 |a::l,ys,h=>by
  simp only[List.mapM_cons,Option.pure_def,Option.bind_eq_bind,vK,zB]at h
  obtain⟨b,hb,bs,hbs,rfl⟩:=h
  obtain⟨h1,h2⟩:=CT hbs
  refine⟨by simp[h1],fun i a' hi=>?_⟩
  match i,hi with
  |0,hi=>simp at hi;subst hi;exact⟨b,rfl,hb⟩
  |i+1,hi=>exact h2 i a' (by simpa using hi)
theorem rI (g:Good E w ρ H ok) {tmps:Array Value} {t:Nat→AV} (hr:∀i,Rep w ρ H ok (tmps.getD i undef) (t i)) {fn:Func} {x:AV} (h:mh E.P ⟨t,H⟩ fn.results.toList=some x):
  ∃v,(results fn tmps).run E.P w= .ok v w∧Rep w ρ H ok v x:=by
 have yH:∀(l:List ResultVar) (ys:List AV),l.mapM (qX E.P ⟨t,H⟩)=some ys→
   ∃vs:List Value,(l.mapM (C6 tmps)).run E.P w= .ok vs w∧vs.length=ys.length∧∀(i:Nat) (v:Value) (a:AV),vs[i]?=some v→ys[i]?=some a→Rep w ρ H ok v a:=by
  intro l
  induction l with
  |nil=>intro ys h;simp at h;subst h;exact⟨[],rfl,rfl,by simp⟩
  |cons r l ih=>
   intro ys h
   simp only[List.mapM_cons,Option.pure_def,Option.bind_eq_bind,vK,zB]at h
   obtain⟨b,hb,bs,hbs,rfl⟩:=h
   obtain⟨v,h1,h2⟩:=Hp g hr hb
   obtain⟨vs,h3,h4,h5⟩:=ih bs hbs
   refine⟨v::vs,?_,by simp[h4],fun i v' a hi ha=>?_⟩
   ·simp only[List.mapM_cons,Sem.run_bind,h1,Result.andThen_ok,h3,Sem.run_pure]
   ·match i,hi,ha with
    |0,hi,ha=>simp at hi ha;subst hi;subst ha;exact h2
    |i+1,hi,ha=>exact h5 i v' a (by simpa using hi) (by simpa using ha)
 have hrun:∀vs:List Value,((fn.results.toList.mapM (C6 tmps)).run E.P w= .ok vs w)→
   (results fn tmps).run E.P w= .ok (if h:vs.toArray.size=1 then vs.toArray[0]else .tuple vs.toArray) w:=fun vs hvs=>by
  unfold results
  rw[Array.mapM_eq_mapM_toList]
  simp only[Functor.map,Sem.run_bind]
  show ((Sem.run E.P (Bind.bind _ _) w).andThen _)=_
  simp only[Sem.run_bind]
  have key:∀(F:ResultVar→Sem Value),(∀x,F x=C6 tmps x)→Sem.run E.P (List.mapM F fn.results.toList) w= .ok vs w:=fun F hF=>by
   have:F=C6 tmps:=funext hF
   subst this
   exact hvs
  rw[key _ (fun x=>by cases x<;>rfl)]
  rfl
 unfold mh at h
 split at h
 ·rename_i r hl
  obtain⟨vs,h1,h2,h3⟩:=yH [r] [x] (by simp[h])
  rw[←hl]at h1
  match vs,h2 with
  |[v],_=>
   refine⟨v,by rw[hrun _ h1];rfl,h3 0 v x rfl rfl⟩
 ·rename_i hne
  rw[zL]at h
  obtain⟨ys,hys,rfl⟩:=h
  obtain⟨vs,h1,h2,h3⟩:=yH _ ys hys
  have hlen:ys.length=fn.results.toList.length:=(CT hys).1
  have h1':¬vs.toArray.size=1:=by
   intro e
   have e':fn.results.toList.length=1:=by rw[←hlen,←h2];simpa using e
   obtain⟨r,hr'⟩:=List.length_eq_one_iff.1 e'
   exact hne r hr'
  refine⟨.tuple vs.toArray,by rw[hrun _ h1,dif_neg h1'],.tup (by simpa using h2) (fun i v a hi ha=>h3 i v a (by simpa using hi) ha)⟩
end
def bW (args:List AV):Nat→AV:=fun i=>args.getD i (.sc undef)
theorem xT {P:Program} {row src:Option Nat} {f:FuncId} {args:List AV} {Q:AV→Prop} {fn:Func} {body:Code}
  (hf:P.funcs[f]?=some fn) (hb:fn.body=some body) (hn:args.length≤fn.ntmps)
  (h:∀E:Env,E.P=P→E.row=row→E.src=src→(∀b,¬E.W b)→E.N=fn.ntmps→AWp E body ⟨bW args,[]⟩ (Cf P fn.results.toList Q)):PFun P row src f args Q:=by
 intro w ok vs h1 h2 h3 h4
 let E:Env:={P:=P,w0:=w,okA:=ok,row:=row,src:=src,N:=fn.ntmps,W:=fun _=>False,ρ0:=fun _=>none,H0:=[]}
 have g:Good E w (fun _=>none) [] ok:=⟨rfl,rfl,rfl,zZ _,fun _ _ _ _=>rfl,h2,fun b hb=>⟨(h1 b hb).1,(h1 b hb).2,.inl hb⟩,by simp,by simp,by simp,by simp⟩
 have r:Rel E ⟨bW args,[]⟩ {tmps:=vs++Array.replicate (fn.ntmps-vs.size) undef,defers:=[]} w:=by
  refine⟨fun _=>none,ok,g,Ext.refl _ _ _ _,rfl,by simp[E];omega,fun i=>?_⟩
  simp only[bW]
  rcases Nat.lt_or_ge i args.length with hlt|hge
  ·have e1:args.getD i (.sc undef)=args[i]:=by simp[List.getD,zF hlt]
   have hv:vs[i]?=some (vs[i]'(by omega)):=zX (by omega)
   have e2:(vs++Array.replicate (fn.ntmps-vs.size) undef).getD i undef=vs[i]'(by omega):=by
    rw[wW,Array.getElem?_append_left (by omega),hv]
    rfl
   rw[e1,e2]
   exact h4 i _ _ hv (zF hlt)
  ·have e1:args.getD i (.sc undef)= .sc undef:=by simp[List.getD,List.getElem?_eq_none hge]
   have e2:(vs++Array.replicate (fn.ntmps-vs.size) undef).getD i undef=undef:=by
    rw[wW,Array.getElem?_append_right (by omega),Array.getElem?_replicate]
    split<;>rfl
   rw[e1,e2]
   exact .sc
 have hw:=h E rfl rfl rfl (fun _ h=>h) rfl _ _ r
 refine calls_of_wp hf hb (wp_mono hw fun e a' w' h'=>?_)
 obtain⟨s',hq,ρ,ok',g',_,hd,_,hr⟩:=h'
 have fin:∀{r:AV},mh P s' fn.results.toList=some r→(∃x,Weak (dR s'.H r) x∧Imm (dR s'.H r)∧Imm x∧Q x)→a'.defers=[]∧∃v,(results fn a'.tmps).run P w'= .ok v w'∧
   ∃(v':Value) (x:AV),Ending.returned v= .returned v'∧Q x∧Imm x∧jY w' (fun b=>ok b∨(w.heap.size≤b∧b<w'.heap.size)) v' x∧w.grownBy w' row∧Inv row src ok w':=by
  rintro r hres ⟨x,hwk,hi,hix,hx⟩
  obtain⟨v,hrun,hrep⟩:=rI (E:=E) g' hr hres
  refine⟨hd,v,hrun,v,x,rfl,hx,hix,?_,⟨g'.os,g'.tape,g'.output,g'.size,fun k hk hne=>g'.blk k hk (fun h=>h) hne⟩,?_⟩
  ·refine Rep.weak hwk ((AG g' hrep hi).imm (fun b hb=>?_) hi)
   rcases hb with hb|⟨_,_,_,ho,hρ⟩
   ·obtain⟨b1,_,b3⟩:=g'.oks b hb
    exact b3.imp id fun h=>⟨h,b1⟩
   ·have hobj:=g'.obj _ _ ho
    rw[hρ]at hobj
    obtain⟨_,_,b3⟩:=g'.own _ _ b _ ho hρ
    exact .inr ⟨b3.resolve_left (fun h=>h),hobj.lt⟩
  ·refine⟨⟨h2.1.1,h2.1.2.at g'.inv.1.2⟩,fun p hp=>?_⟩
   exact g'.inv.2 p hp
 cases e with
 |normal=>
  simp only[Cf]at hq
  split at hq
  ·rename_i r hres;exact fin hres hq
  ·exact hq.elim
 |ret=>
  simp only[Cf]at hq
  split at hq
  ·rename_i r hres;exact fin hres hq
  ·exact hq.elim
 |_=>exact hq.elim
theorem ab {P:Program} {row src:Option Nat} {f:FuncId} {args:List AV} {Q:AV→Prop} {fn:Func} {body:Code}
  (hf:P.funcs[f]?=some fn) (hb:fn.body=some body) (hn:args.length≤fn.ntmps) (hc:gD fn.ntmps body=true)
  (h:∀E:Env,E.P=P→E.row=row→E.src=src→(∀b,¬E.W b)→E.N=fn.ntmps→awp E body ⟨bW args,[]⟩ (Cf P fn.results.toList Q)):PFun P row src f args Q:=
 xT hf hb hn fun E h1 h2 h3 h4 h5=>be body _ _ (h5▸hc) (h E h1 h2 h3 h4 h5)
open Go.RowKit
section
variable {E:Env} {w w':World} {ρ:aW} {H:ah} {ok:Nat→Prop}
theorem Good.call (g:Good E w ρ H ok) {ok':Nat→Prop} (hg:w.grownBy w' E.row) (hinv:Inv E.row E.src ok w') (hok:∀b,ok b→ok' b) (hok':∀b,ok' b→ok b∨(w.heap.size≤b∧b<w'.heap.size)):Good E w' ρ H ok'∧Ext w ρ H ok w' ρ H ok':=by
 have hokb:∀b,ok b→w'.heap[b]?=w.heap[b]?:=fun b hb=>hg.block b (g.oks b hb).1 (g.oks b hb).2.1
 have hx:Ext w ρ H ok w' ρ H ok':=⟨fun id o h=> .inr ⟨o,h,rfl,rfl,zZ _⟩,fun _ h=>h,hok,hokb⟩
 have hlive:∀(id:Nat) (o:AObj) (b c:Nat),H[id]?=some (some o)→ρ id=some (b,c)→w'.heap[b]?=w.heap[b]?:=fun id o b c ho hρ=>by
  have hobj:=g.obj id o ho
  rw[hρ]at hobj
  exact hg.block b hobj.lt (g.own id o b c ho hρ).2.1
 refine⟨⟨hg.os.trans g.os,hg.tape.trans g.tape,hg.output.trans g.output,Nat.le_trans g.size hg.size,fun b hb hW hr=>?_,⟨⟨fun b hb=>hok b (hinv.1.1 b hb),hinv.1.2.mono hok⟩,hinv.2⟩,fun b hb=>?_,fun id o b c ho hρ=>?_,g.inj,g.len,fun id o ho=>?_⟩,hx⟩
 ·rw[hg.block b (Nat.lt_of_lt_of_le hb g.size) hr]
  exact g.blk b hb hW hr
 ·rcases hok' b hb with h|⟨h1,h2⟩
  ·obtain⟨a1,a2,a3⟩:=g.oks b h
   exact⟨Nat.lt_of_lt_of_le a1 hg.size,a2,a3⟩
  ·exact⟨h2,fun hr=>by have:=g.row_lt hr.symm;omega,.inr (Nat.le_trans g.size h1)⟩
 ·obtain⟨a1,a2,a3⟩:=g.own id o b c ho hρ
  refine⟨fun hb=>?_,a2,a3⟩
  rcases hok' b hb with h|⟨h1,_⟩
  ·exact a1 h
  ·have hobj:=g.obj id o ho
   rw[hρ]at hobj
   have:=hobj.lt
   omega
 ·exact (g.obj id o ho).ext hx (fun b c hρ=>hlive id o b c ho hρ)
def sv (ids:List Nat) (H:ah):ah:=ids.foldl (fun H id=>H.set id none) H
theorem Good.freeze:∀(ids:List Nat) {H:ah} {ok:Nat→Prop},Good E w ρ H ok→(∀b,¬E.W b)→∃ok',Good E w ρ (sv ids H) ok'∧Ext w ρ H ok w ρ (sv ids H) ok'∧∀b,okX (·∈ids) ρ H ok b→ok' b
 |[],H,ok,g,_=>⟨ok,g,Ext.refl _ _ _ _,fun b hb=>hb.elim id fun⟨_,_,_,h,_⟩=>by cases h⟩
 |i::ids,H,ok,g,hW=>by
  obtain⟨g1,x1⟩:=g.kill i (fun b=>ok b∨∃o c,H[i]?=some (some o)∧ρ i=some (b,c)) (fun _ h=> .inl h) (fun b hb=>hb.imp id fun⟨o,c,h1,h2⟩=>⟨o,c,h1,h2,hW b⟩)
  obtain⟨ok',g2,x2,h2⟩:=Good.freeze ids g1 hW
  refine⟨ok',g2,x1.trans x2,fun b hb=>?_⟩
  rcases hb with hb|⟨id,o,c,hm,ho,hρ⟩
  ·exact h2 b (.inl (.inl hb))
  ·by_cases hi:id=i
   ·subst hi;exact h2 b (.inl (.inr ⟨o,c,ho,hρ⟩))
   ·have hm':id∈ids:=(zO.1 hm).resolve_left hi
    exact h2 b (.inr ⟨id,o,c,hm',by rw[wO,if_neg (fun e=>hi e.symm)];exact ho,hρ⟩)
inductive Flat:AV→Prop
 |sc {v}:Flat (.sc v)
 |nil:Flat .nil
 |agg {cs:List AV} (h:∀a,a∈cs→Flat a):Flat (.agg cs)
 |tup {cs:List AV} (h:∀a,a∈cs→Flat a):Flat (.tup cs)
theorem yO {v:Value}:Flat (.sc v)↔True:=⟨fun _=>trivial,fun _=> .sc⟩
theorem RL:Flat .nil↔True:=⟨fun _=>trivial,fun _=> .nil⟩
theorem Ro {cs:List AV}:Flat (.agg cs)↔∀a,a∈cs→Flat a:=⟨fun h=>by cases h;assumption,.agg⟩
theorem GJ {cs:List AV}:Flat (.tup cs)↔∀a,a∈cs→Flat a:=⟨fun h=>by cases h;assumption,.tup⟩
theorem Flat.rep {a:AV} (h:Flat a) {v:Value} (r:Rep w ρ H ok v a) {w':World} {ρ':aW} {H':ah} {ok':Nat→Prop}:Rep w' ρ' H' ok' v a:=by
 induction r with
 |sc=>exact .sc
 |nil=>exact .nil
 |agg hn _ ih=>cases h with|agg h=>exact .agg hn fun i c a hc ha=>ih i c a hc ha (h a (zE ha))
 |tup hn _ ih=>cases h with|tup h=>exact .tup hn fun i c a hc ha=>ih i c a hc ha (h a (zE ha))
 |_=>cases h
inductive Args (H:ah):List AV→List AV→Prop
 |nil:Args H [] []
 |cons {a a':AV} {as0 as':List AV} (h:Weak (dR H a) a') (hi:Imm (dR H a)) (ht:Args H as0 as'):Args H (a::as0) (a'::as')
theorem Args.len {as0 as':List AV} (h:Args H as0 as'):as0.length=as'.length:=by
 induction h with
 |nil=>rfl
 |cons _ _ _ ih=>simp[ih]
theorem Args.get {as0 as':List AV} (h:Args H as0 as'):∀(i:Nat) (a':AV),as'[i]?=some a'→∃a,as0[i]?=some a∧Weak (dR H a) a'∧Imm (dR H a):=by
 induction h with
 |nil=>intro i a' h;simp at h
 |cons h hi _ ih=>
  intro i a' ha
  match i,ha with
  |0,ha=>simp at ha;subst ha;exact⟨_,rfl,h,hi⟩
  |i+1,ha=>exact ih i a' (by simpa using ha)
theorem uL {P:Program} {f:FuncId} {args args':List AV} {Q:AV→Prop} (hP:E.P=P) (h:PFun P E.row E.src f args' Q) (ha:Args H args args') (X:Nat→Prop) (hX:∀a,a∈args→∀id,id∈lg a→X id) (g:Good E w ρ H ok) {vs:Array Value}
  (hs:vs.size=args.length) (hr:∀(i:Nat) (v:Value) (a:AV),vs[i]?=some v→args[i]?=some a→Rep w ρ H ok v a):
  Calls E.P f vs w fun e w'=>∃(v:Value) (x:AV),e= .returned v∧Q x∧Imm x∧jY w' (fun b=>okX X ρ H ok b∨(w.heap.size≤b∧b<w'.heap.size)) v x∧w.grownBy w' E.row∧Inv E.row E.src (okX X ρ H ok) w':=by
 subst hP
 refine h w (okX X ρ H ok) vs (fun b hb=>?_) ⟨⟨fun b hb=> .inl (g.inv.1.1 b hb),g.inv.1.2.mono fun _ h=> .inl h⟩,g.inv.2⟩ (hs.trans ha.len) (fun i v a' hv ha'=>?_)
 ·rcases hb with hb|⟨id,o,c,_,ho,hρ⟩
  ·exact⟨(g.oks b hb).1,(g.oks b hb).2.1⟩
  ·have hobj:=g.obj id o ho
   rw[hρ]at hobj
   exact⟨hobj.lt,(g.own id o b c ho hρ).2.1⟩
 ·obtain⟨a,h1,h2,h3⟩:=ha.get i a' ha'
  exact (lU X g (hr i v a hv h1) h3 (hX a (zE h1))).weak h2
theorem oe {P:Program} {f:FuncId} {args:List AV} (args':List AV) {Q:AV→Prop} {C:AV→ah→Prop} (hP:E.P=P) (h:PFun P E.row E.src f args' Q) (ha:Args H args args') (hex:∃r,Q r) (hfl:∀r,Q r→Flat r) (hC:∀r,Q r→C r H):ACall E f args H C:=by
 refine⟨hex.imp fun r hr=>⟨H,hC r hr⟩,fun w ρ ok vs g hs hr=>?_⟩
 refine (uL hP h ha (fun _=>True) (fun _ _ _ _=>trivial) g hs hr).mono ?_
 rintro e w' ⟨v,x,rfl,hq,hi,hrep,hg,hinv⟩
 obtain⟨g',x'⟩:=g.call (ok':=fun b=>ok b∨(w.heap.size≤b∧b<w'.heap.size)) hg ⟨⟨g.inv.1.1,g.inv.1.2.at hinv.1.2⟩,hinv.2⟩ (fun _ h=> .inl h) (fun _ h=>h)
 exact⟨v,x,H,ρ,_,rfl,hC x hq,g',x',(hfl x hq).rep hrep⟩
theorem na {P:Program} {f:FuncId} {args:List AV} (args':List AV) {Q:AV→Prop} {C:AV→ah→Prop} (hP:E.P=P) (h:PFun P E.row E.src f args' Q) (ha:Args H args args') (hn:∀a,a∈args→lg a=[]) (hC:∀r,Q r→Imm r→C r H) (hexC:∃r,Q r∧Imm r):ACall E f args H C:=by
 obtain⟨r0,h0,h0'⟩:=hexC
 refine⟨⟨r0,H,hC r0 h0 h0'⟩,fun w ρ ok vs g hs hr=>?_⟩
 refine (uL hP h ha (fun _=>False) (fun a ha id hid=>by rw[hn a ha]at hid;cases hid) g hs hr).mono ?_
 rintro e w' ⟨v,x,rfl,hq,hi,hrep,hg,hinv⟩
 obtain⟨g',x'⟩:=g.call (ok':=fun b=>ok b∨(w.heap.size≤b∧b<w'.heap.size)) hg ⟨⟨g.inv.1.1,g.inv.1.2.at hinv.1.2⟩,hinv.2⟩ (fun _ h=> .inl h) (fun _ h=>h)
 refine⟨v,x,H,ρ,_,rfl,hC x hq hi,g',x',Rep.imm hrep (fun b hb=>?_) hi⟩
 rcases hb with (hb|⟨_,_,_,h,_⟩)|hb
 ·exact .inl hb
 ·exact h.elim
 ·exact .inr hb
theorem Mn {P:Program} {f:FuncId} {args:List AV} (args':List AV) {Q:AV→Prop} {C:AV→ah→Prop} (hP:E.P=P) (hW:∀b,¬E.W b) (h:PFun P E.row E.src f args' Q) (ha:Args H args args') (hC:∀r,Q r→Imm r→C r (sv (args.flatMap lg) H)) (hexC:∃r,Q r∧Imm r):ACall E f args H C:=by
 obtain⟨r0,h0,h0'⟩:=hexC
 refine⟨⟨r0,_,hC r0 h0 h0'⟩,fun w ρ ok vs g hs hr=>?_⟩
 refine (uL hP h ha (·∈args.flatMap lg) (fun a ha id hid=>List.mem_flatMap.2 ⟨a,ha,hid⟩) g hs hr).mono ?_
 rintro e w' ⟨v,x,rfl,hq,hi,hrep,hg,hinv⟩
 obtain⟨g1,x1⟩:=g.call (ok':=fun b=>ok b∨(w.heap.size≤b∧b<w'.heap.size)) hg ⟨⟨g.inv.1.1,g.inv.1.2.at hinv.1.2⟩,hinv.2⟩ (fun _ h=> .inl h) (fun _ h=>h)
 obtain⟨ok',g2,x2,h2⟩:=g1.freeze (args.flatMap lg) hW
 refine⟨v,x,_,ρ,ok',rfl,hC x hq hi,g2,x1.trans x2,Rep.imm hrep (fun b hb=>?_) hi⟩
 rcases hb with (hb|⟨id,o,c,hm,ho,hρ⟩)|hb
 ·exact h2 b (.inl (.inl hb))
 ·exact h2 b (.inr ⟨id,o,c,hm,ho,hρ⟩)
 ·exact h2 b (.inl (.inr hb))
end
theorem PFun.lift {P:Program} {f:FuncId} {args:List AV} {Q:AV→Prop} (h:PFun P none none f args Q) (row src:Option Nat):PFun P row src f args Q:=by
 intro w ok vs h1 h2 h3 h4
 refine (h w ok vs (fun b hb=>⟨(h1 b hb).1,by simp⟩) ⟨⟨by simp,h2.1.2⟩,by simp⟩ h3 h4).mono ?_
 rintro e w' ⟨v,x,rfl,hq,hi,hrep,hg,_⟩
 refine⟨v,x,rfl,hq,hi,hrep,⟨hg.os,hg.tape,hg.output,hg.size,fun k hk _=>hg.block k hk (by simp)⟩,h2.keep (fun p hp=>?_) (fun _ h=>h) (fun b hb=>hg.block b (h1 b hb).1 (by simp))⟩
 obtain⟨_,_,_,_,_,_,⟨hp',_⟩,_⟩:=h2.2 p hp
 exact hg.block p (zW.1 hp').1 (by simp)
open Go.RowKit
structure Bx.{u} {α:Sort u} (a:α):Type where
 mk::
def OB {α:Type} (o:Option α) (k:α→Prop) (_:Bx k):Prop:=match o with
 |some v=>k v
 |none=>False
theorem Sv {α:Type} (v:α) (k:α→Prop) (b:Bx k):OB (some v) k b=k v:=rfl
def OV (x:AV) (k:AV→Prop) (_:Bx k):Prop:=k x
theorem VV (x:AV) (k:AV→Prop) (b:Bx k):OV x k b=k x:=rfl
def OV2 (x:AV) (H:ah) (k:AV→ah→Prop) (_:Bx k):Prop:=k x H
theorem T8 (x:AV) (H:ah) (k:AV→ah→Prop) (b:Bx k):OV2 x H k b=k x H:=rfl
def OI (b:Bool) (p q:Prop) (_:Bx p) (_:Bx q):Prop:=if b=true then p else q
theorem RZ (p q:Prop) (bp:Bx p) (bq:Bx q):OI true p q bp bq=p:=rfl
theorem Ok (p q:Prop) (bp:Bx p) (bq:Bx q):OI false p q bp bq=q:=rfl
def pK (t:Bool) (p q:Prop) (_:Bx p) (_:Bx q):Prop:=(t=true→p)∧(t=false→q)
theorem Id (p q:Prop) (bp:Bx p) (bq:Bx q):pK true p q bp bq=p:=by simp[pK]
theorem GK (p q:Prop) (bp:Bx p) (bq:Bx q):pK false p q bp bq=q:=by simp[pK]
theorem Lk (t:Bool) (p q:Prop) (bp:Bx p) (bq:Bx q):pK (!t) p q bp bq=pK t q p .mk .mk:=by cases t<;>simp[pK]
theorem aB {t:Bool} {p q:Prop} {bp:Bx p} {bq:Bx q} (h1:t=true→p) (h2:t=false→q):pK t p q bp bq:=⟨h1,h2⟩
def OH (x:AV) (p q:Prop) (bp:Bx p) (bq:Bx q):Prop:=match x with
 | .sc (.bool t)=>pK t p q bp bq
 |_=>False
theorem P0 (t:Bool) (p q:Prop) (bp:Bx p) (bq:Bx q):OH (.sc (.bool t)) p q bp bq=pK t p q bp bq:=rfl
def qK (E:Env) (c:Code) (s:St) (Q:Exit→St→Prop) (_:Bx (c,Q)):Prop:=AWp E (.loop c) s Q
def Aw (E:Env) (ops:Array Oper) (s:St) (K:St→Prop) (_:Bx (ops,K)):Prop:=Tv E ops s K
def lW (E:Env) (f:FuncId) (args:List AV) (H:ah) (C:AV→ah→Prop) (_:Bx C):Prop:=(aa E.P f=true∧ACall E f args H C)∨AExt E f args H C
def oM (E:Env) (f:Builtin) (tys:Array TypeId) (args:List AV) (H:ah) (C:AV→ah→Prop) (_:Bx C):Prop:=ABui E f tys args H C
section
variable {E:Env}
theorem RA {s:St} {Q:Exit→St→Prop}:awp E .skip s Q=Q .normal s:=rfl
theorem R9 {id:Nat} {l:List Oper} {s:St} {Q:Exit→St→Prop}:awp E (.region id l.toArray false) s Q=AOps E l.toArray l s (Q .normal):=rfl
theorem Ek {D:Nat→Bool} {S:List Nat} {l:List Oper} {k:Nat} {s:St} {K:St→Prop}:sF D E l.toArray S l.toArray.toList k s K=sF D E l.toArray S l k s K:=rfl
theorem RV {id:Nat} {ops:Array Oper} {s:St} {Q:Exit→St→Prop}:awp E (.region id ops true) s Q=Aw E ops s (Q .normal) .mk:=rfl
theorem R0 {a b:Code} {s:St} {Q:Exit→St→Prop}:awp E (.seq a b) s Q=awp E a s (xI (fun s'=>awp E b s' Q) Q):=rfl
theorem OA {c:Operand} {a b:Code} {s:St} {Q:Exit→St→Prop}:awp E (.cond c a b) s Q=OH (s.eval c) (awp E a s Q) (awp E b s Q) .mk .mk:=by
 show (match s.eval c with| .sc (.bool t)=>(t=true→awp E a s Q)∧(t=false→awp E b s Q)|_=>False)=_
 generalize s.eval c=x
 unfold OH pK
 rfl
theorem LG {id:Nat} {c:Code} {s:St} {Q:Exit→St→Prop}:awp E (.block id c) s Q=awp E c s (ll id Q):=rfl
theorem PR {id:Nat} {s:St} {Q:Exit→St→Prop}:awp E (.exit id) s Q=Q (.exit id) s:=rfl
theorem Nv {id:Nat} {s:St} {Q:Exit→St→Prop}:awp E (.label id) s Q=Q .normal s:=rfl
theorem R3 {s:St} {Q:Exit→St→Prop}:awp E .ret s Q=Q .ret s:=rfl
theorem Gs {c:Code} {s:St} {Q:Exit→St→Prop}:awp E (.loop c) s Q=qK E c s Q .mk:=rfl
theorem Es {k:St→Prop} {Q:Exit→St→Prop} {s:St}:xI k Q .normal s=k s:=rfl
theorem JU {k:St→Prop} {Q:Exit→St→Prop} {s:St} {i:Nat}:xI k Q (.exit i) s=Q (.exit i) s:=rfl
theorem Lx {k:St→Prop} {Q:Exit→St→Prop} {s:St}:xI k Q .ret s=Q .ret s:=rfl
theorem FB {id:Nat} {Q:Exit→St→Prop} {s:St}:ll id Q (.exit id) s=Q .normal s:=by simp[ll]
theorem BH {id i:Nat} {Q:Exit→St→Prop} {s:St} (h:(i==id)=false):ll id Q (.exit i) s=Q (.exit i) s:=by
 have:i≠id:=by simpa using h
 simp[ll,this]
theorem CB {id:Nat} {Q:Exit→St→Prop} {s:St}:ll id Q .normal s=Q .normal s:=rfl
theorem JI {id:Nat} {Q:Exit→St→Prop} {s:St}:ll id Q .ret s=Q .ret s:=rfl
theorem PO {ops:Array Oper} {s:St} {K:St→Prop}:AOps E ops [] s K=K s:=rfl
theorem Nl {ops:Array Oper} {o:Oper} {l:List Oper} {s:St} {K:St→Prop}:AOps E ops (o::l) s K=AStep E ops o s (fun s'=>AOps E ops l s' K):=rfl
theorem LC {D:Nat→Bool} {S:List Nat} {ops:Array Oper} {k:Nat} {s:St} {K:St→Prop}:sF D E ops S [] k s K=K s:=rfl
theorem Ij {D:Nat→Bool} {S:List Nat} {ops:Array Oper} {o:Oper} {l:List Oper} {k:Nat} {s:St} {K:St→Prop}:sF D E ops S (o::l) k s K=DStep (!S.contains k) D E ops o s (fun s'=>sF D E ops S l (k+1) s' K):=rfl
theorem Gy {ops:Array Oper} {dst:Option Tmp} {op:Op} {ty:TypeId} {pos:String} {after:Array Edge} {gd:Option (Nat×Bool)} {s:St} {K:St→Prop}:
  AStep E ops ⟨dst,op,ty,pos,after,gd⟩ s K=OB (dM ops ⟨dst,op,ty,pos,after,gd⟩ s.t) (fun b=>OI b (AEff E op s.eval s.H fun x H'=>K ⟨dK s.t dst x,H'⟩) (K ⟨dK s.t dst (.sc undef),s.H⟩) .mk .mk) .mk:=by
 unfold AStep OB
 cases h:dM ops ⟨dst,op,ty,pos,after,gd⟩ s.t with
 |none=>rfl
 |some b=>cases b<;>rfl
theorem F7 {strict:Bool} {D:Nat→Bool} {ops:Array Oper} {dst:Option Tmp} {op:Op} {ty:TypeId} {pos:String} {after:Array Edge} {gd:Option (Nat×Bool)} {s:St} {K:St→Prop}:
  DStep strict D E ops ⟨dst,op,ty,pos,after,gd⟩ s K=OB (dM ops ⟨dst,op,ty,pos,after,gd⟩ s.t) (fun b=>OI b (DEff strict D E op s.eval s.H fun x H'=>K ⟨dK s.t dst x,H'⟩) (K ⟨dK s.t dst (.sc undef),s.H⟩) .mk .mk) .mk:=by
 unfold DStep OB
 cases h:dM ops ⟨dst,op,ty,pos,after,gd⟩ s.t with
 |none=>rfl
 |some b=>cases b<;>rfl
theorem O3 {ops:Array Oper} {dst:Option Tmp} {op:Op} {ty:TypeId} {pos:String} {after:Array Edge} {gd:Option (Nat×Bool)} {t:Nat→AV} {H:ah} {K:St→Prop}:
  AStep E ops ⟨dst,op,ty,pos,after,gd⟩ ⟨t,H⟩ K=OB (dM ops ⟨dst,op,ty,pos,after,gd⟩ t) (fun b=>OI b (AEff E op (St.eval ⟨t,H⟩) H fun x H'=>K ⟨dK t dst x,H'⟩) (K ⟨dK t dst (.sc undef),H⟩) .mk .mk) .mk:=Gy
theorem OO {strict:Bool} {D:Nat→Bool} {ops:Array Oper} {dst:Option Tmp} {op:Op} {ty:TypeId} {pos:String} {after:Array Edge} {gd:Option (Nat×Bool)} {t:Nat→AV} {H:ah} {K:St→Prop}:
  DStep strict D E ops ⟨dst,op,ty,pos,after,gd⟩ ⟨t,H⟩ K=OB (dM ops ⟨dst,op,ty,pos,after,gd⟩ t) (fun b=>OI b (DEff strict D E op (St.eval ⟨t,H⟩) H fun x H'=>K ⟨dK t dst x,H'⟩) (K ⟨dK t dst (.sc undef),H⟩) .mk .mk) .mk:=F7
def qi (ops:Array Oper) (j:Nat):Option Tmp:=(ops[j]?).bind (·.dst)
def vj:List Oper→Nat→Option Tmp
 |[],_=>none
 |o::_,0=>o.dst
 |_::l,n+1=>vj l n
theorem CF:∀(l:List Oper) (j:Nat),qi l.toArray j=vj l j
 |[],j=>by simp[qi,vj]
 |o::l,0=>by simp[qi,vj]
 |o::l,j+1=>by
  have:=CF l j
  simp only[qi,vj,List.getElem?_toArray,uI]at this⊢
  exact this
def yI (want:Bool):AV→Option Bool
 | .sc (.bool b)=>some (b==want)
 | .sc _=>some false
 |_=>none
theorem EG {want b:Bool}:yI want (.sc (.bool b))=some (b==want):=rfl
theorem CE {want:Bool}:yI want (.sc undef)=some false:=rfl
theorem J6 (b:Bool):(b==true)=b:=by cases b<;>rfl
theorem Fi (b:Bool):(b==false)=!b:=by cases b<;>rfl
def DQ (o:Option Tmp) (want:Bool) (t:Nat→AV):Option Bool:=match o with
 |some d=>yI want (t d)
 |none=>some false
theorem Ep {d:Tmp} {want:Bool} {t:Nat→AV}:DQ (some d) want t=yI want (t d):=rfl
theorem Ht {ops:Array Oper} {dst:Option Tmp} {op:Op} {ty:TypeId} {pos:String} {after:Array Edge} {t:Nat→AV}:dM ops ⟨dst,op,ty,pos,after,none⟩ t=some true:=rfl
theorem Fp {ops:Array Oper} {dst:Option Tmp} {op:Op} {ty:TypeId} {pos:String} {after:Array Edge} {t:Nat→AV} {j:Nat} {want:Bool}:dM ops ⟨dst,op,ty,pos,after,some (j,want)⟩ t=DQ (qi ops j) want t:=by
 unfold dM DQ qi
 simp only
 cases (ops[j]?).bind (·.dst)with
 |none=>rfl
 |some d=>
  simp only
  cases t d<;>first|rfl|(rename_i v;cases v<;>rfl)
theorem bz {op:Op} {ev:Operand→AV} {H:ah} {C:AV→ah→Prop} (h:bY op=true):AEff E op ev H C=OB (bb E.P op ev H) (fun v=>C v H) .mk:=by
 have e1:AEff E op ev H C=(match bb E.P op ev H with|some v=>C v H|none=>False):=by
  cases op<;>first
   |rfl
   |(simp only[bY,wS]at h;done)
   |skip
  case buildSlice t n ps=>cases n with
   |zero=>simp[bY]at h
   |succ n=>rfl
  rename_i c
  obtain⟨callee,args,tys⟩:=c
  cases callee with
  |value f=>simp[bY]at h
  |invoke r m=>rfl
  |builtin b=>cases b<;>first|rfl|(simp only[bY,wS]at h;done)
 rw[e1]
 cases bb E.P op ev H<;>rfl
def ARd (E:Env) (op:Op) (ev:Operand→AV) (H:ah) (k:AV→Prop) (b:Bx k):Prop:=OB (bb E.P op ev H) k b
theorem Mw {x:Operand} {ev:Operand→AV} {H:ah} {C:AV→ah→Prop}:AEff E (.move x) ev H C=OV (ev x) (fun v=>C v H) .mk:=bz rfl
theorem Hu {x:Operand} {ev:Operand→AV} {H:ah} {C:AV→ah→Prop}:AEff E (.assign x) ev H C=OV (ev x) (fun v=>C v H) .mk:=bz rfl
theorem Lg {c a b:Operand} {ev:Operand→AV} {H:ah} {C:AV→ah→Prop}:AEff E (.pick c a b) ev H C=OB (Fb (ev c) (ev a) (ev b)) (fun v=>C v H) .mk:=bz rfl
theorem JW {a b:AV}:Fb (.sc (.bool true)) a b=some a:=rfl
theorem Fq {a b:AV}:Fb (.sc (.bool false)) a b=some b:=rfl
theorem LJ {t:TypeId} {a:Operand} {ev:Operand→AV} {H:ah} {C:AV→ah→Prop}:AEff E (.load t a) ev H C=OB (aO H (ev a)) (fun as0=>OB (xm E.P t as0) (fun v=>C v H) .mk) .mk:=by
 rw[bz rfl]
 show OB ((aO H (ev a)).bind (xm E.P t)) _ _=_
 cases aO H (ev a)<;>rfl
theorem Ch {x:Operand} {ev:Operand→AV} {H:ah} {C:AV→ah→Prop}:AEff E (.nilCheck x) ev H C=OB (GV H (ev x)) (fun v=>C v H) .mk:=bz rfl
theorem Sb {H:ah} {f:FuncId} {cs:List AV}:GV H (.fn f cs)=some (.fn f cs):=rfl
theorem RH {H:ah} {a:Addr}:GV H (.sc (.pointer (some a)))=some (.sc (.pointer (some a))):=rfl
theorem RC {H:ah} {id i j:Nat}:GV H (.ref id i j)=if (aO H (.ref id i j)).isSome then some (.ref id i j)else none:=rfl
theorem LI {H:ah} {cs:List AV}:GV H (.iref cs)=some (.iref cs):=rfl
theorem HU {op:BinOp} {t u:TypeId} {x y:Operand} {ev:Operand→AV} {H:ah} {C:AV→ah→Prop}:AEff E (.binOp op t x y u) ev H C=OB (jX E.P op t (ev x) (ev y)) (fun v=>C v H) .mk:=bz rfl
theorem NB {op:UnOp} {t:TypeId} {x:Operand} {ev:Operand→AV} {H:ah} {C:AV→ah→Prop}:AEff E (.unOp op t x) ev H C=OB (aun op (ev x)) (fun v=>C v H) .mk:=bz rfl
theorem S9 {b:Bool}:aun .not (.sc (.bool b))=some (.sc (.bool (!b))):=rfl
theorem Tn {k:IntKind} {n:Int}:aun .neg (.sc (.int k n))=some (.sc (.int k (k.wrap (0-n)))):=rfl
theorem EX {src dst:TypeId} {x:Operand} {ev:Operand→AV} {H:ah} {C:AV→ah→Prop}:AEff E (.convert src dst x) ev H C=OB (xz E.P src dst (ev x)) (fun v=>C v H) .mk:=bz rfl
theorem Ah {s:TypeId} {f:Nat} {x:Operand} {ev:Operand→AV} {H:ah} {C:AV→ah→Prop}:AEff E (.fieldAddr s x f) ev H C=OB (BP E.P H s f (ev x)) (fun v=>C v H) .mk:=bz rfl
theorem HS {s:TypeId} {f:Nat} {x:Operand} {ev:Operand→AV} {H:ah} {C:AV→ah→Prop}:AEff E (.field s x f) ev H C=OB (yU E.P s f (ev x)) (fun v=>C v H) .mk:=bz rfl
theorem BD {t:TypeId} {x ix:Operand} {ev:Operand→AV} {H:ah} {C:AV→ah→Prop}:AEff E (.indexAddr t x ix) ev H C=OB (y8 E.P t H (ev x) (ev ix)) (fun v=>C v H) .mk:=bz rfl
theorem I9 {P:Program} {t:TypeId} {H:ah} {x:AV} {k:IntKind} {n:Int}:y8 P t H x (.sc (.int k n))=bQ P t H x n:=rfl
theorem JJ {t:TypeId} {x ix:Operand} {ev:Operand→AV} {H:ah} {C:AV→ah→Prop}:AEff E (.index t x ix) ev H C=OB (HP E.P t (ev x) (ev ix)) (fun v=>C v H) .mk:=bz rfl
theorem N7 {P:Program} {t:TypeId} {cs:List AV} {k:IntKind} {n:Int} {len:Nat} {e:TypeId} (h:dG P t=some (len,e)):HP P t (.agg cs) (.sc (.int k n))=if aE P e=true∧0≤n∧n<len then apart P e cs (n.toNat*ay P e)else none:=by simp only[HP,h]
theorem Et {x:Operand} {i:Nat} {ev:Operand→AV} {H:ah} {C:AV→ah→Prop}:AEff E (.extract x i) ev H C=OB (kN (ev x) i) (fun v=>C v H) .mk:=bz rfl
theorem Iv {a:AV} {l:List AV}:kN (.tup (a::l)) 0=some a:=rfl
theorem Jt {a b:AV} {l:List AV}:kN (.tup (a::b::l)) 1=some b:=rfl
theorem Io {a b c:AV} {l:List AV}:kN (.tup (a::b::c::l)) 2=some c:=rfl
theorem Iu {a b c d:AV} {l:List AV}:kN (.tup (a::b::c::d::l)) 3=some d:=rfl
theorem Ct {f:FuncId} {caps:Array Operand} {ev:Operand→AV} {H:ah} {C:AV→ah→Prop}:AEff E (.makeFunc (.func f) #[] caps) ev H C=OV (.fn f (caps.toList.map ev)) (fun v=>C v H) .mk:=bz rfl
theorem I8 {t:TypeId} {x:Operand} {lo hi:Option Operand} {ev:Operand→AV} {H:ah} {C:AV→ah→Prop}:AEff E (.slice t x lo hi none) ev H C=OB (bL E.P t H (ev x) lo hi ev) (fun v=>C v H) .mk:=bz rfl
theorem Fa {t:TypeId} {x lo hi mx:Operand} {ev:Operand→AV} {H:ah} {C:AV→ah→Prop}:AEff E (.slice t x (some lo) (some hi) (some mx)) ev H C=OB (ql E.P t H (ev x) (ev lo) (ev hi) (ev mx)) (fun v=>C v H) .mk:=bz rfl
theorem JE {t:TypeId} {parts:Array (Nat×Operand)} {ev:Operand→AV} {H:ah} {C:AV→ah→Prop}:AEff E (.build t parts) ev H C=OB (Be E.P t (parts.toList.map fun p=>(p.1,ev p.2))) (fun v=>C v H) .mk:=bz rfl
theorem yg {t:TypeId} {n:Nat} {parts:Array (Nat×Operand)} {ev:Operand→AV} {H:ah} {C:AV→ah→Prop}:AEff E (.buildSlice t (n+1) parts) ev H C=OB (jM E.P t (n+1) (parts.toList.map fun p=>(p.1,ev p.2))) (fun v=>C v H) .mk:=bz rfl
theorem ut {t:TypeId} {ev:Operand→AV} {H:ah} {C:AV→ah→Prop}:AEff E (.buildSlice t 0 #[]) ev H C=OB (aT E.P t) (fun e=>OB (if aE E.P e=true then some ()else none) (fun _=>OV2 (.sref H.length 0 0) (H++[some ⟨e,ay E.P e,[]⟩]) C .mk) .mk) .mk:=by
 simp only[AEff]
 cases aT E.P t with
 |none=>rfl
 |some e=>simp only[OB,OV2,Array.size_empty,and_true];split<;>simp_all
theorem Ic {t:TypeId} {a x:Operand} {ev:Operand→AV} {H:ah} {C:AV→ah→Prop}:AEff E (.store t a x) ev H C=OB (pW E.P t H (ev a) (ev x)) (fun H'=>C (.sc undef) H') .mk:=by
 simp only[AEff]
 cases pW E.P t H (ev a) (ev x)<;>rfl
theorem I7 {t:TypeId} {ev:Operand→AV} {H:ah} {C:AV→ah→Prop}:AEff E (.alloc t) ev H C=OB (cv E.P t) (fun zs=>OV2 (.ref H.length 0 0) (H++[some ⟨t,ay E.P t,[zs]⟩]) C .mk) .mk:=by
 simp only[AEff]
 cases cv E.P t<;>rfl
theorem Oe {t:TypeId} {x:Operand} {ev:Operand→AV} {H:ah} {C:AV→ah→Prop}:AEff E (.box t x) ev H C=OB ((ev x).cells?) (fun xs=>OV2 (.ref H.length 0 0) (H++[some ⟨t,xs.length,[xs]⟩]) C .mk) .mk:=by
 simp only[AEff]
 cases (ev x).cells?<;>rfl
theorem BU {t:TypeId} {l c:Operand} {ev:Operand→AV} {H:ah} {C:AV→ah→Prop}:AEff E (.makeSlice t l c) ev H C=OB (xg E.P t H (ev l) (ev c)) (fun r=>(r.2.2.2:Int)*r.2.2.1≤281474976710656∧r.2.2.1≤9223372036854775807∧C r.1 r.2.1) .mk:=by
 simp only[AEff]
 cases xg E.P t H (ev l) (ev c)<;>rfl
theorem Og {x:Operand} {t:TypeId} {ev:Operand→AV} {H:ah} {C:AV→ah→Prop}:AEff E (.call ⟨.builtin .len,#[x],#[t]⟩) ev H C=OB (BF E.P t H (ev x)) (fun v=>C v H) .mk:=bz rfl
theorem RI {args:Array Operand} {ts:Array TypeId} {ev:Operand→AV} {H:ah} {C:AV→ah→Prop}:AEff E (.call ⟨.builtin .max,args,ts⟩) ev H C=OB (mO (args.toList.map ev)) (fun v=>C v H) .mk:=bz rfl
theorem Qi {args:Array Operand} {ts:Array TypeId} {ev:Operand→AV} {H:ah} {C:AV→ah→Prop}:AEff E (.call ⟨.builtin .min,args,ts⟩) ev H C=OB (LB (args.toList.map ev)) (fun v=>C v H) .mk:=bz rfl
theorem Gv {s x:Operand} {t:TypeId} {ev:Operand→AV} {H:ah} {C:AV→ah→Prop}:AEff E (.call ⟨.builtin .append,#[s,x],#[t,t]⟩) ev H C=OI (uV (ev s)) (oM E .append #[t,t] [ev s,ev x] H C .mk) (OB (me E.P t H (ev s) (ev x)) (fun r=>r.2.2.1≤9223372036854775807∧r.2.2.1*r.2.2.2≤140737488355328∧C r.1 r.2.1) .mk) .mk .mk:=by
 simp only[AEff,true_and,wD,List.map_nil,se,oM,OI]
 cases uV (ev s)
 ·cases me E.P t H (ev s) (ev x)<;>rfl
 ·rfl
theorem Ei {s x:Operand} {t t':TypeId} {ev:Operand→AV} {H:ah} {C:AV→ah→Prop} (h:t≠t'):AEff E (.call ⟨.builtin .append,#[s,x],#[t,t']⟩) ev H C=OI (uV (ev s)) (oM E .append #[t,t'] [ev s,ev x] H C .mk) False .mk .mk:=by
 simp only[AEff,wD,List.map_nil,se,oM,OI]
 cases uV (ev s)
 ·simp[h]
 ·rfl
theorem MO {s x:Operand} {ts:Array TypeId} {ev:Operand→AV} {H:ah} {C:AV→ah→Prop}:AEff E (.call ⟨.builtin .copy,#[s,x],ts⟩) ev H C=oM E .copy ts [ev s,ev x] H C .mk:=rfl
theorem Jl {s:Operand} {ts:Array TypeId} {ev:Operand→AV} {H:ah} {C:AV→ah→Prop}:AEff E (.call ⟨.builtin .clear,#[s],ts⟩) ev H C=oM E .clear ts [ev s] H C .mk:=rfl
theorem QU {x:Operand} {t:TypeId} {ev:Operand→AV} {H:ah} {C:AV→ah→Prop}:AEff E (.call ⟨.builtin .cap,#[x],#[t]⟩) ev H C=OB (y6 E.P t H (ev x)) (fun v=>C v H) .mk:=bz rfl
def N1 (E:Env) (f:AV) (args:List AV) (H:ah) (C:AV→ah→Prop) (b:Bx C):Prop:=match f with
 | .fn g caps=>lW E g (args++caps) H C b
 |_=>False
theorem LY {f:Operand} {args:Array Operand} {ts:Array TypeId} {ev:Operand→AV} {H:ah} {C:AV→ah→Prop}:AEff E (.call ⟨.value f,args,ts⟩) ev H C=N1 E (ev f) (args.toList.map ev) H C .mk:=by
 simp only[AEff]
 cases ev f<;>rfl
theorem L8 {g:FuncId} {caps args:List AV} {H:ah} {C:AV→ah→Prop} {b:Bx C}:N1 E (.fn g caps) args H C b=lW E g (args++caps) H C .mk:=rfl
theorem Si {strict:Bool} {D:Nat→Bool} {op:Op} {ev:Operand→AV} {H:ah} {C:AV→ah→Prop}:DEff strict D E op ev H C=OI (bY op) (ARd E op ev (rdH strict D H) (fun v=>C v H) .mk) (AEff E op ev H fun x H'=>(strict=true→Agree D H H')∧C x H') .mk .mk:=by
 unfold DEff OI ARd
 split
 ·cases bb E.P op ev (rdH strict D H)<;>rfl
 ·rfl
theorem cG {op:Op} {ev:Operand→AV} {H:ah} {k:AV→Prop} {b:Bx k} (h:bY op=true):ARd E op ev H k b=AEff E op ev H fun v _=>k v:=by
 rw[bz h];rfl
theorem LD (H:ah):jP (fun _=>true) H=H:=by
 apply List.ext_getElem?
 intro i
 simp[jP]
theorem PP (D:Nat→Bool) (H:ah):rdH true D H=jP D H:=rfl
theorem MN (D:Nat→Bool) (H:ah):rdH false D H=H:=rfl
theorem aS {D:Nat→Bool} {H:ah} {i:Nat}:(jP D H)[i]?=(H[i]?).map fun x=>if D i then x else none:=by simp[jP,List.getElem?_mapIdx]
theorem rQ (D:Nat→Bool) (H:ah):Agree D H H:=fun _ _=>rfl
end
attribute [go_sem] CF vj
attribute [go_sem ↓ high] O3 OO
attribute [go_sem ↓] RA R9 RV R0 OA LG PR Nv R3 Gs Es JU Lx FB BH CB JI
 PO Nl Ek LC Ij Gy F7 Si
 Mw Hu Lg LJ Ch HU NB EX Ah HS BD JJ Et Ct I8 Fa JE yg ut Ic I7 Oe BU Og RI Qi Gv Ei MO Jl QU LY
attribute [go_sem] VV T8 Sv RZ Ok Id GK Lk P0 EG CE J6 Fi Ep Ht Fp JW Fq Sb RH RC LI S9 Tn I9 N7 Iv Jt Io Iu L8 LD PP MN aS
theorem SY (t:Nat→AV) (i j:Nat) (v:AV):upd t i v j=if j=i then v else t j:=rfl
theorem Nw (t:Nat→AV) (i:Nat) (v:AV):dK t (some i) v=upd t i v:=rfl
theorem LQ (t:Nat→AV) (v:AV):dK t none v=t:=rfl
theorem ON (s:St) (i:Nat):s.eval (.tmp i)=s.t i:=rfl
theorem N8 (s:St) (k:IntKind) (n:Int):s.eval (.const (.int k n))= .sc (.int k n):=rfl
theorem MR (s:St) (b:Bool):s.eval (.const (.bool b))= .sc (.bool b):=rfl
theorem Hf (s:St) (b:ByteArray):s.eval (.const (.string b))= .sc (.string b):=rfl
theorem B9 (s:St):s.eval (.const (.slice none 0 0))= .nil:=rfl
theorem Gz (s:St):s.eval (.const (.pointer none))= .sc (.pointer none):=rfl
theorem Lj (s:St) (f:FuncId):s.eval (.func f)= .fn f []:=rfl
def kM:Nat→List AV→(Nat→AV)
 |_,[]=>fun _=> .sc undef
 |k,a::l=>upd (kM (k+1) l) k a
theorem ya:∀(l:List AV) (k i:Nat),kM k l (k+i)=l.getD i (.sc undef)
 |[],_,_=>by simp[kM]
 |a::l,k,0=>by simp[kM,upd]
 |a::l,k,i+1=>by
  simp only[kM,upd]
  rw[if_neg (by omega),show k+(i+1)=(k+1)+i from by omega,ya l (k+1) i]
  simp
theorem Rk (l:List AV):bW l=kM 0 l:=by
 funext i
 have:=ya l 0 i
 rw[vR]at this
 rw[this]
 rfl
attribute [go_sem] SY Nw LQ ON N8 MR Hf B9 Gz Lj Rk kM
section
variable {P:Program} {H:ah}
theorem Rs {op:BinOp} {t:TypeId} {k:IntKind} {a b:Int}:jX P op t (.sc (.int k a)) (.sc (.int k b))=nM op k a b:=by simp[jX]
theorem Cd {t:TypeId} {a b:Bool} (h:P.underlying t=some .bool):jX P .eql t (.sc (.bool a)) (.sc (.bool b))=some (.sc (.bool (decide (a=b)))):=by simp[jX,h]
theorem Ck {t:TypeId} {a b:Bool} (h:P.underlying t=some .bool):jX P .neq t (.sc (.bool a)) (.sc (.bool b))=some (.sc (.bool (!decide (a=b)))):=by simp[jX,h]
theorem D0 {t:TypeId} {a b:ByteArray}:jX P .eql t (.sc (.string a)) (.sc (.string b))=some (.sc (.bool (decide (a=b)))):=rfl
theorem EQ {t:TypeId} {a b:ByteArray}:jX P .neq t (.sc (.string a)) (.sc (.string b))=some (.sc (.bool (!decide (a=b)))):=rfl
theorem N9 {op:BinOp} {t:TypeId} {xs ys:List AV}:jX P op t (.agg xs) (.agg ys)=SZ P op t xs ys:=rfl
theorem Cb {t e:TypeId} (h:Go.PA.aT P t=some e):jX P .eql t .nil .nil=some (.sc (.bool (true))):=by simp[jX,Eo,h]
theorem B7 {t e:TypeId} {a:Option Addr} {l c:Nat} (h:Go.PA.aT P t=some e):jX P .eql t (.sc (.slice a l c)) .nil=some (.sc (.bool (a.isNone))):=by simp[jX,Eo,h]
theorem Ci {t e:TypeId} {k:Nat} {x:List AV} {es:List (List AV)} (h:Go.PA.aT P t=some e):jX P .eql t (.list k (x::es)) .nil=some (.sc (.bool (false))):=by simp[jX,Eo,h]
theorem Cu {t e:TypeId} (h:Go.PA.aT P t=some e):jX P .neq t .nil .nil=some (.sc (.bool (!true))):=by simp[jX,Eo,h]
theorem B6 {t e:TypeId} {a:Option Addr} {l c:Nat} (h:Go.PA.aT P t=some e):jX P .neq t (.sc (.slice a l c)) .nil=some (.sc (.bool (!a.isNone))):=by simp[jX,Eo,h]
theorem Cv {t e:TypeId} {k:Nat} {x:List AV} {es:List (List AV)} (h:Go.PA.aT P t=some e):jX P .neq t (.list k (x::es)) .nil=some (.sc (.bool (!false))):=by simp[jX,Eo,h]
theorem QX {k:IntKind} {a b:Int}:nM .add k a b=some (.sc (.int k (k.wrap (a+b)))):=rfl
theorem QZ {k:IntKind} {a b:Int}:nM .sub k a b=some (.sc (.int k (k.wrap (a-b)))):=rfl
theorem PT {k:IntKind} {a b:Int}:nM .mul k a b=some (.sc (.int k (k.wrap (a*b)))):=rfl
theorem Bb {k:IntKind} {a b:Int} (h:¬b=0):nM .quo k a b=some (.sc (.int k (k.wrap (a.tdiv b)))):=by simp[nM,h]
theorem ax {k:IntKind} {a b:Int} (h:¬b=0):nM .rem k a b=some (.sc (.int k (a.tmod b))):=by simp[nM,h]
theorem QR {k:IntKind} {a b:Int}:nM .eql k a b=some (.sc (.bool (decide (a=b)))):=rfl
theorem NZ {k:IntKind} {a b:Int}:nM .neq k a b=some (.sc (.bool (!decide (a=b)))):=rfl
theorem Q3 {k:IntKind} {a b:Int}:nM .lss k a b=some (.sc (.bool (decide (a<b)))):=rfl
theorem P5 {k:IntKind} {a b:Int}:nM .leq k a b=some (.sc (.bool (decide (a≤b)))):=rfl
theorem Pd {k:IntKind} {a b:Int}:nM .gtr k a b=some (.sc (.bool (decide (b<a)))):=rfl
theorem pU {k:IntKind} {a b:Int} (h:0≤b∧b≤k.bits):nM .shr k a b=some (.sc (.int k (a / 2 ^ b.toNat))):=by simp only[nM,if_pos h]
theorem Ps {k:IntKind} {a b:Int}:nM .geq k a b=some (.sc (.bool (decide (b≤a)))):=rfl
theorem ae (x:Int) (h: -9223372036854775808≤x∧x≤9223372036854775807):IntKind.i64.wrap x=x:=by rw[IntKind.wrap_i64];omega
theorem VJ (v:Value):(AV.sc v).cellish=v.oneCell':=rfl
theorem Tb (v:Value):(AV.sc v).cells?=if v.oneCell'=true then some [.sc v]else none:=rfl
theorem Ta:(AV.nil).cellish=true:=rfl
theorem Rw:(AV.nil).cells?=some [AV.nil]:=rfl
theorem PZ (k:Nat) (es:List (List AV)):(AV.list k es).cellish=true:=rfl
theorem MS (k:Nat) (es:List (List AV)):(AV.list k es).cells?=some [AV.list k es]:=rfl
theorem R1 (i j k:Nat):(AV.ref i j k).cellish=true:=rfl
theorem P2 (i j k:Nat):(AV.ref i j k).cells?=some [AV.ref i j k]:=rfl
theorem O2 (i j k:Nat):(AV.sref i j k).cellish=true:=rfl
theorem Le (i j k:Nat):(AV.sref i j k).cells?=some [AV.sref i j k]:=rfl
theorem QH (cs:List AV):(AV.iref cs).cellish=true:=rfl
theorem K5 (cs:List AV):(AV.iref cs).cells?=some [AV.iref cs]:=rfl
theorem Vy (f:FuncId) (cs:List AV):(AV.fn f cs).cellish=true:=rfl
theorem Th (f:FuncId) (cs:List AV):(AV.fn f cs).cells?=some [AV.fn f cs]:=rfl
theorem P6 (id:Nat):(AV.mref id).cellish=true:=rfl
theorem Ld (id:Nat):(AV.mref id).cells?=some [AV.mref id]:=rfl
theorem Ov (es:List (Value×Value)):(AV.imap es).cellish=true:=rfl
theorem NS (es:List (Value×Value)):(AV.imap es).cells?=some [AV.imap es]:=rfl
theorem Rm (cs:List AV):(AV.agg cs).cells?=if cs.all AV.cellish=true then some cs else none:=rfl
theorem AD {id i j:Nat}:aO H (.ref id i j)=match H[id]? with|some (some o)=>(o.es[i]?).map (·.drop j)|_=>none:=rfl
theorem Pe:lu H .nil=some 0:=rfl
theorem MF {k:Nat} {es:List (List AV)}:lu H (.list k es)=some (es.length:Int):=rfl
theorem Q1 (i j k l:Nat):(AV.full i j k l).cellish=true:=rfl
theorem ME (i j k l:Nat):(AV.full i j k l).cells?=some [AV.full i j k l]:=rfl
theorem NG {id lo n N:Nat}:lu H (.full id lo n N)=match H[id]? with|some (some _)=>some (n:Int)|_=>none:=rfl
theorem LF {id lo n N:Nat}:Ec H (.full id lo n N)=match H[id]? with|some (some _)=>some ((N-lo:Nat):Int)|_=>none:=rfl
theorem M0 {id lo n:Nat}:lu H (.sref id lo n)=match H[id]? with|some (some _)=>some (n:Int)|_=>none:=rfl
theorem Bq {t e:TypeId} {k:Nat} {es:List (List AV)} {n:Int} (h:Go.PA.aT P t=some e):bQ P t H (.list k es) n=if k=ay P e∧aE P e=true∧0≤n then (es[n.toNat]?).map .iref else none:=by simp[bQ,h]
theorem Ar {t e:TypeId} {id lo m:Nat} {n:Int} (h:Go.PA.aT P t=some e):bQ P t H (.sref id lo m) n=match H[id]? with
   |some (some o)=>if o.k=ay P e∧aE P e=true∧0≤n∧n<m then some (.ref id (lo+n.toNat) 0)else none
   |_=>none:=by
 simp only[bQ,h]
 generalize H[id]?=y
 rcases y with _|_|o<;>rfl
theorem Pw {t e:TypeId} {len id i j:Nat} {n:Int} (h:Go.PA.aT P t=none) (h2:dG P t=some (len,e)):bQ P t H (.ref id i j) n=if aE P e=true∧0≤n∧n<len then (if (aO H (.ref id i j)).isSome then some (.ref id i (j+n.toNat*ay P e))else none)else none:=by
 simp only[bQ,h,h2]
theorem MU {t e:TypeId} {len:Nat} {cs:List AV} {n:Int} (h:Go.PA.aT P t=none) (h2:dG P t=some (len,e)):bQ P t H (.iref cs) n=if aE P e=true∧0≤n∧n<len then some (.iref (cs.drop (n.toNat*ay P e)))else none:=by
 simp only[bQ,h,h2]
theorem Lo {cs:List AV}:aO H (.iref cs)=some cs:=rfl
end
attribute [go_sem] SZ scs cS kJ Rs Cd Ck D0 EQ N9 Cb B7 Ci Cu B6 Cv QX QZ PT Bb ax QR NZ Q3 P5 Pd Ps AD Lo xm VJ Ta PZ R1 O2 QH Vy Ov P6 Ld Rm Tb Rw MS P2 Le K5 Th NS BP apart yU
 uV Q1 ME NG LF y6 Value.oneCell' Pe MF M0 Bq Ar Pw MU BF Be ov lS jM um pW xg me jN bY
open Go.RowKit
def jh (H:ah) (r:AV) (Q:AV→Prop) (_:Bx Q):Prop:=∃x,Weak (dR H r) x∧Imm (dR H r)∧Imm x∧Q x
theorem Q0 {P:Program} {rs:List ResultVar} {Q:AV→Prop} {s:St}:Cf P rs Q .ret s=OB (mh P s rs) (fun r=>jh s.H r Q .mk) .mk:=by
 simp only[Cf]
 cases mh P s rs<;>rfl
theorem F8 {P:Program} {rs:List ResultVar} {Q:AV→Prop} {s:St}:Cf P rs Q .normal s=OB (mh P s rs) (fun r=>jh s.H r Q .mk) .mk:=by
 simp only[Cf]
 cases mh P s rs<;>rfl
theorem Vt {P:Program} {s:St} {r:ResultVar}:mh P s [r]=qX P s r:=rfl
def Cm:List (Option AV)→Option (List AV)
 |[]=>some []
 |o::l=>match o with
  |none=>none
  |some a=>match Cm l with
   |none=>none
   |some as0=>some (a::as0)
theorem Qj:Cm []=some []:=rfl
def TK (a:AV):Option (List AV)→Option (List AV)
 |none=>none
 |some as0=>some (a::as0)
theorem Mt (a:AV) (l:List (Option AV)):Cm (some a::l)=TK a (Cm l):=by simp only[Cm];cases Cm l<;>rfl
theorem Jb (a:AV) (l:List AV):TK a (some l)=some (a::l):=rfl
theorem Dh (f:ResultVar→Option AV):∀l:List ResultVar,l.mapM f=Cm (l.map f)
 |[]=>rfl
 |r::l=>by
  rw[List.mapM_cons,Dh f l]
  simp only[wD,Cm]
  cases f r with
  |none=>rfl
  |some a=>simp only[Option.bind_eq_bind,Option.bind_some];cases Cm (l.map f)<;>rfl
theorem VK {P:Program} {s:St} {r r':ResultVar} {l:List ResultVar}:mh P s (r::r'::l)=(Cm ((r::r'::l).map (qX P s))).map .tup:=by
 rw[←Dh];rfl
theorem UW {P:Program} {s:St}:mh P s []=some (.tup []):=rfl
theorem NH {P:Program} {s:St} {t:Tmp}:qX P s (.tmp t)=some (s.t t):=rfl
theorem Jp {P:Program} {s:St} {t:Tmp} {ty:TypeId}:qX P s (.cell t ty)=(aO s.H (s.t t)).bind (xm P ty):=rfl
theorem S3 {H:ah} {v:Value} {Q:AV→Prop} {b:Bx Q}:jh H (.sc v) Q b=Q (.sc v):=by
 apply propext
 constructor
 ·rintro⟨x,h1,_,_,h4⟩
  have h1:Weak (.sc v) x:=h1
  cases h1
  exact h4
 ·intro h
  exact⟨_,.refl _,.sc,.sc,h⟩
theorem done {H:ah} {r x:AV} {Q:AV→Prop} {b:Bx Q} (hi:Imm (dR H r)) (hq:Q x) (hv:dR H r=x):jh H r Q b:=⟨x,by rw[hv];exact .refl x,hi,hv▸hi,hq⟩
theorem eU {H:ah} {r x:AV} {Q:AV→Prop} {b:Bx Q} (hi:Imm (dR H r)) (hx:Imm x) (hw:Weak (dR H r) x) (hq:Q x):jh H r Q b:=⟨x,hw,hi,hx,hq⟩
theorem Sj (H:ah) (v:Value):dR H (.sc v)= .sc v:=rfl
theorem Qq (H:ah):dR H .nil= .nil:=rfl
theorem Mr (H:ah) (cs:List AV):dR H (.iref cs)= .iref cs:=rfl
theorem Pt (H:ah) (i j k:Nat):dR H (.ref i j k)= .ref i j k:=rfl
theorem ij (H:ah) (id i j:Nat):oE H (.ref id i j)=match aO H (.ref id i j)with|some as0=> .iref as0|none=> .junk:=rfl
theorem NU (H:ah) (v:Value):oE H (.sc v)= .sc v:=rfl
theorem Ie (H:ah) (cs:List AV):oE H (.iref cs)= .iref cs:=rfl
theorem Jw (H:ah) (k:Nat) (es:List (List AV)):oE H (.list k es)= .list k es:=rfl
theorem DZ (H:ah) (f:FuncId) (cs:List AV):dR H (.fn f cs)= .fn f (cs.map (oE H)):=rfl
theorem Lw (H:ah) (es:List (Value×Value)):dR H (.imap es)= .imap es:=rfl
theorem IO (H:ah) (es:List (Value×Value)):dB H (.imap es)= .imap es:=rfl
theorem Ka (H:ah) (es:List (Value×Value)):iC H (.imap es)= .imap es:=rfl
theorem FV (H:ah) (cs:List AV):dR H (.tup cs)= .tup (cs.map (iC H)):=rfl
theorem Pl (H:ah) (cs:List AV):dR H (.agg cs)= .agg (cs.map (dB H)):=rfl
theorem Lc (H:ah) (k:Nat) (es:List (List AV)):dR H (.list k es)= .list k (es.map (·.map (dB H))):=rfl
theorem Oo (H:ah) (v:Value):iC H (.sc v)= .sc v:=rfl
theorem M2 (H:ah):iC H .nil= .nil:=rfl
theorem HX (H:ah) (cs:List AV):iC H (.iref cs)= .iref cs:=rfl
theorem PX (H:ah) (f:FuncId) (cs:List AV):iC H (.fn f cs)= .fn f (cs.map (oE H)):=rfl
theorem Dx (H:ah) (cs:List AV):iC H (.agg cs)= .agg (cs.map (dB H)):=rfl
theorem RN (H:ah) (v:Value):dB H (.sc v)= .sc v:=rfl
theorem Ny (H:ah):dB H .nil= .nil:=rfl
theorem Jo (H:ah) (cs:List AV):dB H (.iref cs)= .iref cs:=rfl
theorem Hx (H:ah) (f:FuncId) (cs:List AV):dB H (.fn f cs)= .fn f (cs.map (oE H)):=rfl
theorem Jz (H:ah) (k:Nat) (es:List (List AV)):dB H (.list k es)= .list k es:=rfl
def Kx:Option (Option AObj)→Nat→Nat→AV
 |some (some o),lo,n=> .list o.k ((o.es.drop lo).take n)
 |_,_,_=> .junk
theorem dQ (o:AObj) (lo n:Nat):Kx (some (some o)) lo n= .list o.k ((o.es.drop lo).take n):=rfl
theorem fo (H:ah) (id lo n:Nat):dR H (.sref id lo n)=Kx (H[id]?) lo n:=by
 show dB H (.sref id lo n)=_
 simp only[dB]
 generalize H[id]?=x
 cases x with
 |none=>rfl
 |some o=>cases o<;>rfl
theorem Af (H:ah) (id lo n:Nat):dB H (.sref id lo n)=Kx (H[id]?) lo n:=fo H id lo n
theorem rY (H:ah) (id lo n:Nat):iC H (.sref id lo n)=Kx (H[id]?) lo n:=fo H id lo n
theorem Ce {H:ah} {cs:List AV} (h:∀a,a∈cs→Imm a):cs.map (oE H)=cs:=by
 have:∀a,a∈cs→oE H a=id a:=fun a ha=>by have:=h a ha;cases this<;>rfl
 simpa using vA this
theorem km {H:ah} {a:AV} (h:Imm a):dB H a=a:=by
 cases h with
 |fn h=>rw[Hx,Ce h]
 |_=>rfl
theorem qR {H:ah} {k:Nat} {es:List (List AV)} (h:Imm (.list k es)):dR H (.list k es)= .list k es:=by
 have h:=dv.1 h
 rw[Lc]
 congr 1
 have:∀e,e∈es→e.map (dB H)=id e:=fun e he=>by
  have:∀a,a∈e→dB H a=id a:=fun a ha=>by
   exact km (h e he a ha)
  simpa using vA this
 simpa using vA this
theorem B0 {H:ah} {cs:List AV} (h:∀a,a∈cs→Imm a):cs.map (dB H)=cs:=by
 have:∀a,a∈cs→dB H a=id a:=fun a ha=>km (h a ha)
 simpa using vA this
theorem pZ {H:ah} {a:AV} (h:Imm a):iC H a=a:=by
 cases h with
 |agg h=>rw[Dx,B0 h]
 |list h=>exact qR (.list h)
 |fn h=>exact km (.fn h)
 |_=>rfl
theorem mV {H:ah} {a:AV} (h:Imm a):dR H a=a:=by
 cases h with
 |tup h=>
  rename_i cs
  rw[FV]
  have:∀a,a∈cs→iC H a=id a:=fun a ha=>pZ (h a ha)
  have:=vA this
  rw[this]
  simp
 |agg h=>exact pZ (.agg h)
 |list h=>exact pZ (.list h)
 |fn h=>exact km (.fn h)
 |_=>rfl
theorem Ab {H:ah} {k:Nat} {es:List (List AV)} (h:Imm (.list k es)):iC H (.list k es)= .list k es:=pZ h
theorem aw {H:ah} {r:AV} {Q:AV→Prop} {b:Bx Q} (hi:Imm r) (hq:Q r):jh H r Q b:=⟨r,by rw[mV hi];exact .refl r,by rw[mV hi];exact hi,hi,hq⟩
theorem p6 {a a' b b':AV} (h1:Weak a a') (h2:Weak b b'):Weak (.tup [a,b]) (.tup [a',b']):=by
 refine .tup rfl fun i x y hx hy=>?_
 match i,hx,hy with
 |0,hx,hy=>simp at hx hy;subst hx;subst hy;exact h1
 |1,hx,hy=>simp at hx hy;subst hx;subst hy;exact h2
theorem aj {a b:AV} (ha:Imm a) (hb:Imm b):Imm (.tup [a,b]):=by
 refine .tup fun x hx=>?_
 rcases zO.1 hx with rfl|hx
 ·exact ha
 ·rcases zO.1 hx with rfl|hx
  ·exact hb
  ·cases hx
theorem aK {H:ah} {v:Value} (k:Nat) {Q:AV→Prop} {b:Bx Q} (hq:Q (.tup [.list k [],.sc v])):jh H (.tup [.nil,.sc v]) Q b:=
 eU (aj .nil .sc) (aj (dv.2 (by simp)) .sc) (p6 (.nil k) (.refl _)) hq
theorem Co {a:AV}:Weak a a↔True:=⟨fun _=>trivial,fun _=> .refl a⟩
theorem aZ {H:ah}:Args H [] []↔True:=⟨fun _=>trivial,fun _=> .nil⟩
theorem ak {H:ah} {as0:List AV} (h:∀a,a∈as0→Imm a):Args H as0 as0:=by
 induction as0 with
 |nil=>exact .nil
 |cons a as0 ih=>
  have ha:=h a (List.mem_cons_self ..)
  exact .cons (by rw[mV ha];exact .refl a) (by rw[mV ha];exact ha) (ih fun a h'=>h a (uC _ h'))
theorem DA {H:ah} {a a':AV} {as0 as':List AV}:Args H (a::as0) (a'::as')↔(Weak (dR H a) a'∧Imm (dR H a))∧Args H as0 as':=
 ⟨fun h=>by cases h;exact⟨⟨by assumption,by assumption⟩,by assumption⟩,fun h=> .cons h.1.1 h.1.2 h.2⟩
section
variable {E:Env} {f:FuncId} {args:List AV} {H:ah} {C:AV→ah→Prop} {b:Bx C} {P:Program}
theorem OM {args':List AV} {v:AV} (h:PFun P E.row E.src f args' (·=v)) (hP:E.P=P) (hen:aa P f=true) (ha:Args H args args') (hfl:Flat v) (hC:C v H):lW E f args H C b:=
 .inl ⟨hP▸hen,oe args' hP h ha ⟨v,rfl⟩ (fun _ e=>e▸hfl) (fun _ e=>e▸hC)⟩
theorem ai {args':List AV} {v:AV} (h:PFun P none none f args' (·=v)) (hP:E.P=P) (hen:aa P f=true) (ha:Args H args args') (hfl:Flat v) (hC:C v H):lW E f args H C b:=
 OM (h.lift _ _) hP hen ha hfl hC
theorem cn {args':List AV} {Q:AV→Prop} (h:PFun P E.row E.src f args' Q) (hP:E.P=P) (hen:aa P f=true) (ha:Args H args args') (hex:∃r,Q r) (hfl:∀r,Q r→Flat r) (hC:∀r,Q r→C r H):lW E f args H C b:=
 .inl ⟨hP▸hen,oe args' hP h ha hex hfl hC⟩
theorem qx {args':List AV} {v:AV} (h:PFun P E.row E.src f args' (·=v)) (hP:E.P=P) (hen:aa P f=true) (ha:Args H args args') (hn:∀a,a∈args→lg a=[]) (hi:Imm v) (hC:C v H):lW E f args H C b:=
 .inl ⟨hP▸hen,na args' hP h ha hn (fun _ e _=>e▸hC) ⟨v,rfl,hi⟩⟩
theorem IB {args':List AV} {Q:AV→Prop} (h:PFun P E.row E.src f args' Q) (hP:E.P=P) (hen:aa P f=true) (ha:Args H args args') (hn:∀a,a∈args→lg a=[]) (hex:∃r,Q r∧Imm r) (hC:∀r,Q r→Imm r→C r H):lW E f args H C b:=
 .inl ⟨hP▸hen,na args' hP h ha hn hC hex⟩
theorem mL {args':List AV} {v:AV} (h:PFun P E.row E.src f args' (·=v)) (hP:E.P=P) (hW:∀b,¬E.W b) (hen:aa P f=true) (ha:Args H args args') (hi:Imm v) (hC:C v (sv (args.flatMap lg) H)):lW E f args H C b:=
 .inl ⟨hP▸hen,Mn args' hP hW h ha (fun _ e _=>e▸hC) ⟨v,rfl,hi⟩⟩
theorem nT {a:AV} (h:Imm a):mA a=[]:=by
 cases h with
 |fn h=>exact List.flatMap_eq_nil_iff.2 fun a ha=>by have:=h a ha;cases this<;>rfl
 |_=>rfl
theorem rC {a:AV} (h:Imm a):ua a=[]:=by
 cases h with
 |agg h=>exact List.flatMap_eq_nil_iff.2 fun a ha=>nT (h a ha)
 |list h=>exact List.flatMap_eq_nil_iff.2 fun e he=>List.flatMap_eq_nil_iff.2 fun a ha=>nT (h e he a ha)
 |@fn f cs h=>exact nT (a:= .fn f cs) (.fn h)
 |_=>rfl
theorem eT {a:AV} (h:Imm a):lg a=[]:=by
 cases h with
 |tup h=>exact List.flatMap_eq_nil_iff.2 fun a ha=>rC (h a ha)
 |@agg cs h=>exact rC (a:= .agg cs) (.agg h)
 |@list k es h=>exact rC (a:= .list k es) (.list h)
 |@fn f cs h=>exact nT (a:= .fn f cs) (.fn h)
 |_=>rfl
theorem aJ {v:AV} (h:PFun P E.row E.src f args (·=v)) (hP:E.P=P) (hen:aa P f=true) (ha:∀a,a∈args→Imm a) (hi:Imm v) (hC:C v H):lW E f args H C b:=
 qx h hP hen (ak ha) (fun a h'=>eT (ha a h')) hi hC
theorem af {v:AV} (h:PFun P none none f args (·=v)) (hP:E.P=P) (hen:aa P f=true) (ha:∀a,a∈args→Imm a) (hi:Imm v) (hC:C v H):lW E f args H C b:=aJ (h.lift _ _) hP hen ha hi hC
theorem aC {Q:AV→Prop} (h:PFun P E.row E.src f args Q) (hP:E.P=P) (hen:aa P f=true) (ha:∀a,a∈args→Imm a) (hex:∃r,Q r∧Imm r) (hC:∀r,Q r→Imm r→C r H):lW E f args H C b:=
 IB h hP hen (ak ha) (fun a h'=>eT (ha a h')) hex hC
def y7 (n:Nat) (I:Nat→St→Prop) (Q:Exit→St→Prop) (_:Bx (I,Q)):Exit→St→Prop
 | .normal,s'=>∃n',n'<n∧I n' s'
 |x,s'=>Q x s'
theorem CA {n:Nat} {I:Nat→St→Prop} {Q:Exit→St→Prop} {b:Bx (I,Q)} {s:St}:y7 n I Q b .normal s=(∃n',n'<n∧I n' s):=rfl
theorem F0 {n i:Nat} {I:Nat→St→Prop} {Q:Exit→St→Prop} {b:Bx (I,Q)} {s:St}:y7 n I Q b (.exit i) s=Q (.exit i) s:=rfl
theorem IL {n:Nat} {I:Nat→St→Prop} {Q:Exit→St→Prop} {b:Bx (I,Q)} {s:St}:y7 n I Q b .ret s=Q .ret s:=rfl
theorem az {c:Code} {s0:St} {Q:Exit→St→Prop} {b:Bx (c,Q)} (I:Nat→St→Prop) (n0:Nat) (hc:gD E.N c=true) (h0:I n0 s0)
  (round:∀n s,I n s→awp E c s (y7 n I Q .mk)):qK E c s0 Q b:=by
 intro a w r
 refine wp_loop_ghost (fun n a w=>∃s,I n s∧Rel E s a w) n0 ⟨_,h0,r⟩ fun n a w hI=>?_
 obtain⟨s,hs,r⟩:=hI
 refine wp_mono (be c s _ hc (round n s hs) a w r) fun e a' w' h'=>?_
 obtain⟨s',h1,h2⟩:=h'
 cases e with
 |normal=>
  obtain⟨n',hlt,hI'⟩:=h1
  exact⟨n',hlt,_,hI',h2⟩
 |_=>exact⟨s',h1,h2⟩
theorem cV {c:Code} {s:St} {Q:Exit→St→Prop} {b:Bx (c,Q)} (j:Nat) (ty:TypeId) (k:Nat) (h:s.t j= .nil) (hl:qK E c ⟨upd s.t j (.sref s.H.length 0 0),s.H++[some ⟨ty,k,[]⟩]⟩ Q .mk):qK E c s Q b:=
 AWp.weaken (Iw j ty k h) hl
theorem aq {ops:Array Oper} {s:St} {K:St→Prop} {b:Bx (ops,K)} (D:Nat→Bool) (S:List Nat) (hP:E.P=P) (hf:P.follows .mixedOrders=true) (hr:D9 ops S=true) (h:sF D E ops S ops.toList 0 s K):Aw E ops s K b:=
 ⟨D,S,[],hP▸hf,BJ (GT hr) (zt _ _ _ _ h)⟩
theorem v7 {ops:Array Oper} {s:St} {K:St→Prop} {b:Bx (ops,K)} (D:Nat→Bool) (S T:List Nat) (hP:E.P=P) (hf:P.follows .mixedOrders=true) (hr:nO ops S T=true) (h:AXOps D E ops S T ops.toList 0 s K):Aw E ops s K b:=
 ⟨D,S,T,hP▸hf,BJ hr h⟩
theorem uy {ops:Array Oper} {s:St} {K:St→Prop} {b:Bx (ops,K)} (Inv:St→Prop) (h:Aw E ops s Inv .mk) (hk:∀s,Inv s→K s):Aw E ops s K b:=by
 obtain⟨D,S,T,h1,h2⟩:=h
 exact⟨D,S,T,h1,XAny.mono hk _ _ _ h2⟩
end
section
variable {E:Env}
def Er (E:Env) (f:FuncId) (args:List AV) (k:AV→Prop) (_:Bx k):Prop:=CallQ E f args k
def Oi (E:Env) (f:AV) (args:List AV) (k:AV→Prop) (b:Bx k):Prop:=match f with
 | .fn g caps=>Er E g (args++caps) k b
 |_=>False
theorem Ly {g:FuncId} {caps args:List AV} {k:AV→Prop} {b:Bx k}:Oi E (.fn g caps) args k b=Er E g (args++caps) k .mk:=rfl
theorem LK {f:Operand} {args:Array Operand} {ts:Array TypeId} {ev:Operand→AV} {k:AV→Prop}:QEff E (.call ⟨.value f,args,ts⟩) ev k=Oi E (ev f) (args.toList.map ev) k .mk:=by
 simp only[QEff]
 cases ev f<;>rfl
theorem DW {D:Nat→Bool} {S T:List Nat} {l:List Oper} {k:Nat} {s:St} {K:St→Prop}:AXOps D E l.toArray S T l.toArray.toList k s K=AXOps D E l.toArray S T l k s K:=rfl
theorem L7 {D:Nat→Bool} {S T:List Nat} {ops:Array Oper} {k:Nat} {s:St} {K:St→Prop}:AXOps D E ops S T [] k s K=K s:=rfl
theorem IM {D:Nat→Bool} {S T:List Nat} {ops:Array Oper} {o:Oper} {l:List Oper} {k:Nat} {s:St} {K:St→Prop}:AXOps D E ops S T (o::l) k s K=OI (T.contains k) (pT E ops o s (fun s'=>AXOps D E ops S T l (k+1) s' K)) (DStep (!S.contains k) D E ops o s (fun s'=>AXOps D E ops S T l (k+1) s' K)) .mk .mk:=by
 show XStep D E ops S T k o s _=_
 unfold XStep OI
 cases T.contains k<;>rfl
theorem Ft {ops:Array Oper} {dst:Option Tmp} {op:Op} {ty:TypeId} {pos:String} {after:Array Edge} {gd:Option (Nat×Bool)} {s:St} {K:St→Prop}:
  pT E ops ⟨dst,op,ty,pos,after,gd⟩ s K=OB (dM ops ⟨dst,op,ty,pos,after,gd⟩ s.t) (fun b=>OI b (QEff E op s.eval fun x=>K ⟨dK s.t dst x,s.H⟩) (K ⟨dK s.t dst (.sc undef),s.H⟩) .mk .mk) .mk:=by
 unfold pT QOut OB
 rw[ku s.t [] s.H]
 cases h:dM ops ⟨dst,op,ty,pos,after,gd⟩ s.t with
 |none=>rfl
 |some b=>cases b<;>rfl
theorem Qt {ops:Array Oper} {dst:Option Tmp} {op:Op} {ty:TypeId} {pos:String} {after:Array Edge} {gd:Option (Nat×Bool)} {t:Nat→AV} {H:ah} {K:St→Prop}:
  pT E ops ⟨dst,op,ty,pos,after,gd⟩ ⟨t,H⟩ K=OB (dM ops ⟨dst,op,ty,pos,after,gd⟩ t) (fun b=>OI b (QEff E op (St.eval ⟨t,H⟩) fun x=>K ⟨dK t dst x,H⟩) (K ⟨dK t dst (.sc undef),H⟩) .mk .mk) .mk:=Ft
theorem qA {f:FuncId} {args:List AV} {k:AV→Prop} {b:Bx k} {P:Program} {Q:AV→Prop} (h:PFun P E.row E.src f args Q) (hP:E.P=P) (hen:aa P f=true) (ha:∀a,a∈args→Imm a) (hex:∃r,Q r∧Imm r) (hC:∀r,Q r→Imm r→k r):Er E f args k b:=
 ⟨fun r=>Q r∧Imm r,hex,fun H C hc=>⟨hP▸hen,na _ hP h (ak ha) (fun a h'=>eT (ha a h')) (fun r h1 h2=>hc r ⟨h1,h2⟩) hex⟩,fun r hr=>hC r hr.1 hr.2⟩
theorem gl {f:FuncId} {args:List AV} {k:AV→Prop} {b:Bx k} {P:Program} {v:AV} (h:PFun P E.row E.src f args (·=v)) (hP:E.P=P) (hen:aa P f=true) (ha:∀a,a∈args→Imm a) (hi:Imm v) (hC:k v):Er E f args k b:=
 qA h hP hen ha ⟨v,rfl,hi⟩ fun r h1 _=>h1▸hC
end
theorem BS {t:Bool} {p q:Prop} {bp:Bx p} {bq:Bx q} (h1:t=true→p) (h2:t=false→q):OI t p q bp bq:=by
 cases t
 ·exact h2 rfl
 ·exact h1 rfl
theorem Tk {H l:ah} {j:Nat} (h:j<H.length):(H++l)[j]?=H[j]?:=zD h
theorem G5 {X l:ah} {n i:Nat} (h:X.length=n):(X++l)[n+i]?=l[i]?:=by
 rw[zN (by omega)]
 congr 1
 omega
theorem Nn {X l:ah} {n:Nat} (h:X.length=n):(X++l)[n]?=l[0]?:=G5 (i:=0) h
theorem G4 {X l:ah} {n i:Nat} {v:Option AObj} (h:X.length=n):(X++l).set (n+i) v=X++l.set i v:=by
 rw[List.set_append_right _ _ (by omega)]
 congr 2
 omega
theorem Mf {X l:ah} {n:Nat} {v:Option AObj} (h:X.length=n):(X++l).set n v=X++l.set 0 v:=G4 (i:=0) h
theorem Mq {j n k:Nat} (h:j<n):(j<n+k)=True:=by simp;omega
theorem FM {H:ah} {x y:Option AObj}:(H++[x]).set H.length y=H++[y]:=by
 rw[List.set_append_right _ _ (zZ _)]
 simp
theorem RU {H l:ah} {y:Option AObj} {j:Nat} (h:j<H.length):(H++l).set j y=H.set j y++l:=List.set_append_left _ _ h
theorem Mj {H:ah} {x y:Option AObj}:(H++[x]++[y])[H.length+1]?=some y:=by
 have:=cO (H:=H++[x]) (x:=y)
 rwa[zK]at this
theorem Ng {H:ah} {x y z:Option AObj}:(H++[x]++[y]++[z])[H.length+2]?=some z:=by
 have:=cO (H:=H++[x]++[y]) (x:=z)
 rwa[zK,zK]at this
theorem LN {H:ah} {x:Option AObj} {j:Nat} (h:j<H.length):(H.set j x)[j]?=some x:=by simp[h]
theorem Pk {H:ah} {x:Option AObj}:(H++[x])[H.length]?=some x:=cO
theorem Cz {H:ah} {i:Nat} {x z:Option AObj}:(H.set i z++[x])[H.length]?=some x:=by
 have:=cO (H:=H.set i z) (x:=x)
 rwa[wX]at this
theorem Qg {H:ah} {i j:Nat} {x:Option AObj} (h:¬i=j):(H.set i x)[j]?=H[j]?:=zH h
theorem Eh {α:Type} (f:α→List AV) (l:List α):(l.map f).take l.length=l.map f:=by rw[←wL (f:=f),zT]
theorem N6 (es:List (List AV)):es.take es.length=es:=zT
section
variable {E:Env} {ev:Operand→AV} {H:ah} {k:AV→Prop} {b:Bx k}
theorem P1 {x:Operand}:ARd E (.move x) ev H k b=AEff E (.move x) ev H fun v _=>k v:=cG rfl
theorem IR {x:Operand}:ARd E (.assign x) ev H k b=AEff E (.assign x) ev H fun v _=>k v:=cG rfl
theorem Q7 {x y z:Operand}:ARd E (.pick x y z) ev H k b=AEff E (.pick x y z) ev H fun v _=>k v:=cG rfl
theorem P9 {t:TypeId} {x:Operand}:ARd E (.load t x) ev H k b=AEff E (.load t x) ev H fun v _=>k v:=cG rfl
theorem EO {x:Operand}:ARd E (.nilCheck x) ev H k b=AEff E (.nilCheck x) ev H fun v _=>k v:=cG rfl
theorem Lt {o:BinOp} {t u:TypeId} {x y:Operand}:ARd E (.binOp o t x y u) ev H k b=AEff E (.binOp o t x y u) ev H fun v _=>k v:=cG rfl
theorem Ou {o:UnOp} {t:TypeId} {x:Operand}:ARd E (.unOp o t x) ev H k b=AEff E (.unOp o t x) ev H fun v _=>k v:=cG rfl
theorem Hg {t u:TypeId} {x:Operand}:ARd E (.convert t u x) ev H k b=AEff E (.convert t u x) ev H fun v _=>k v:=cG rfl
theorem Cq {t:TypeId} {i:Nat} {x:Operand}:ARd E (.fieldAddr t x i) ev H k b=AEff E (.fieldAddr t x i) ev H fun v _=>k v:=cG rfl
theorem K9 {t:TypeId} {i:Nat} {x:Operand}:ARd E (.field t x i) ev H k b=AEff E (.field t x i) ev H fun v _=>k v:=cG rfl
theorem Cw {t:TypeId} {x y:Operand}:ARd E (.indexAddr t x y) ev H k b=AEff E (.indexAddr t x y) ev H fun v _=>k v:=cG rfl
theorem Np {t:TypeId} {x y:Operand}:ARd E (.index t x y) ev H k b=AEff E (.index t x y) ev H fun v _=>k v:=cG rfl
theorem Ge {x:Operand} {i:Nat}:ARd E (.extract x i) ev H k b=AEff E (.extract x i) ev H fun v _=>k v:=cG rfl
theorem Ev {f:FuncId} {cs:Array Operand}:ARd E (.makeFunc (.func f) #[] cs) ev H k b=AEff E (.makeFunc (.func f) #[] cs) ev H fun v _=>k v:=cG rfl
theorem MK {t:TypeId} {x:Operand} {l h:Option Operand}:ARd E (.slice t x l h none) ev H k b=AEff E (.slice t x l h none) ev H fun v _=>k v:=cG rfl
theorem MW {t:TypeId} {ps:Array (Nat×Operand)}:ARd E (.build t ps) ev H k b=AEff E (.build t ps) ev H fun v _=>k v:=cG rfl
theorem zh {t:TypeId} {n:Nat} {ps:Array (Nat×Operand)}:ARd E (.buildSlice t (n+1) ps) ev H k b=AEff E (.buildSlice t (n+1) ps) ev H fun v _=>k v:=cG rfl
theorem Tr {as0:Array Operand} {ts:Array TypeId}:ARd E (.call ⟨.builtin .len,as0,ts⟩) ev H k b=AEff E (.call ⟨.builtin .len,as0,ts⟩) ev H fun v _=>k v:=cG rfl
theorem S4 {as0:Array Operand} {ts:Array TypeId}:ARd E (.call ⟨.builtin .max,as0,ts⟩) ev H k b=AEff E (.call ⟨.builtin .max,as0,ts⟩) ev H fun v _=>k v:=cG rfl
theorem R6 {as0:Array Operand} {ts:Array TypeId}:ARd E (.call ⟨.builtin .min,as0,ts⟩) ev H k b=AEff E (.call ⟨.builtin .min,as0,ts⟩) ev H fun v _=>k v:=cG rfl
end
theorem Bp (D:Nat→Bool) (H:ah):Agree D H H↔True:=⟨fun _=>trivial,fun _=>rQ D H⟩
attribute [go_sem] Bp Ly
attribute [go_sem ↓ high] Qt
attribute [go_sem ↓] DW L7 IM Ft LK
attribute [go_sem ↓] P1 IR Q7 P9 EO Lt Ou Hg Cq K9 Cw Np Ge Ev MK MW zh Tr S4 R6 CA F0 IL Q0 F8
attribute [go_sem] wQ uI List.getElem?_nil Eh N6 G5 Nn G4 Mf List.set_cons_zero List.set_cons_succ Tk Mq FM RU Mj Ng LN Pk Cz Qg UW Vt VK Qj Mt Jb NH Jp S3
 Sj Qq Mr Pt DZ FV Pl qR Oo M2 HX PX Dx Ab RN Ny Jo Hx Jz dQ fo Af rY
 Co aZ DA an Ti bH E3 dv cY gz P4 Lw IO Ka yO RL Ro GJ JH N5 L3 NI MH Jk Kj Rg LM I1 IG Gl I0
 lg mA ua Rj ij NU Ie Jw
end Go.PA
