/- Several texts of this claim, joined: PaRun Crt2 LedP Crt3 Crt4 Crt5 Crt6 Crt7 PlayOdd BatGen CrtGen Rr2 Rr3 CrtSame Rr4 Rr5. -/
import Derived.Test.YtaenimpfelpafaaGreatDoorPk7
import Derived.Scope
set_option linter.unusedSimpArgs false
set_option linter.unusedVariables false
set_option maxRecDepth 4000
namespace Go.PA
open Go.RowKit
abbrev CS:=List AV×ac
def vT:List AV→Nat→AV→List AV
 |[],0,v=>[v]
 |[],n+1,v=> .sc undef::vT [] n v
 |_::l,0,v=>v::l
 |a::l,n+1,v=>a::vT l n v
theorem DE:∀(l:List AV) (i:Nat) (v:AV),bK (vT l i v)=upd (bK l) i v:=by
 have key:∀(l:List AV) (i:Nat) (v:AV) (j:Nat),(vT l i v).getD j (.sc undef)=if j=i then v else l.getD j (.sc undef):=by
  intro l
  induction l with
  |nil=>
   intro i
   induction i with
   |zero=>intro v j;cases j<;>simp[vT]
   |succ i ih=>intro v j;cases j with
    |zero=>simp[vT]
    |succ j=>simpa[vT]using ih v j
  |cons a l ih=>
   intro i v j
   cases i with
   |zero=>cases j<;>simp[vT]
   |succ i=>cases j with
    |zero=>simp[vT]
    |succ j=>simpa[vT]using ih i v j
 intro l i v
 funext j
 exact key l i v j
def CS.st (s:CS):St:=⟨bK s.1,s.2⟩
def sY (l:List AV) (d:Option Tmp) (x:AV):List AV:=match d with
 |some d=>vT l d x
 |none=>l
theorem Ky (l:List AV) (d:Option Tmp) (x:AV):bK (sY l d x)=cX (bK l) d x:=by
 cases d
 ·rfl
 ·exact DE _ _ _
def qz:Nat→AV→Bool
 |0,_=>false
 |_,.sc _=>true
 |_,.nil=>true
 |_,.imap _=>true
 |n+1,.agg cs=>cs.all (qz n)
 |n+1,.tup cs=>cs.all (qz n)
 |n+1,.iref cs=>cs.all (qz n)
 |n+1,.fn _ cs=>cs.all (qz n)
 |n+1,.list _ es=>es.all fun e=>e.all (qz n)
 |_,_=>false
theorem fS:∀(n:Nat) (a:AV),qz n a=true→Imm a
 |0,_,h=>by simp[qz]at h
 |n+1,a,h=>by
  cases a<;>simp only[qz,List.all_eq_true,reduceCtorEq]at h
  case sc=>exact .sc
  case nil=>exact .nil
  case imap=>exact .imap
  case agg cs=>exact .agg fun a ha=>fS n a (h a ha)
  case tup cs=>exact .tup fun a ha=>fS n a (h a ha)
  case iref cs=>exact .iref fun a ha=>fS n a (h a ha)
  case fn f cs=>exact .fn fun a ha=>fS n a (h a ha)
  case list k es=>exact .list fun e he a ha=>fS n a (h e he a ha)
def xS:Nat→AV→Bool
 |0,_=>false
 |_,.sc _=>true
 |_,.nil=>true
 |n+1,.agg cs=>cs.all (xS n)
 |n+1,.tup cs=>cs.all (xS n)
 |_,_=>false
theorem oP:∀(n:Nat) (a:AV),xS n a=true→Flat a
 |0,_,h=>by simp[xS]at h
 |n+1,a,h=>by
  cases a<;>simp only[xS,List.all_eq_true,reduceCtorEq]at h
  case sc=>exact .sc
  case nil=>exact .nil
  case agg cs=>exact .agg fun a ha=>oP n a (h a ha)
  case tup cs=>exact .tup fun a ha=>oP n a (h a ha)
def Jr:Value→Value→Bool
 | .int k a,.int k' b=>decide (k=k')&&decide (a=b)
 | .bool a,.bool b=>decide (a=b)
 | .string a,.string b=>decide (a=b)
 |_,_=>false
theorem JS {v u:Value} (h:Jr v u=true):v=u:=by
 cases v<;>cases u<;>simp_all [Jr]
def gr {α:Type} (f:α→α→Bool):List α→List α→Bool
 |[],[]=>true
 |a::l,b::r=>f a b&&gr f l r
 |_,_=>false
theorem eV {α:Type} {f:α→α→Bool} (hf:∀a b,f a b=true→a=b):∀{l r:List α},gr f l r=true→l=r
 |[],[],_=>rfl
 |a::l,b::r,h=>by
  simp only[gr,Bool.and_eq_true]at h
  rw[hf _ _ h.1,eV hf h.2]
 |[],_::_,h=>by simp[gr]at h
 |_::_,[],h=>by simp[gr]at h
def s6:Nat→AV→AV→Bool
 |0,_,_=>false
 |_+1,.sc v,.sc u=>Jr v u
 |_+1,.nil,.nil=>true
 |n+1,.agg xs,.agg ys=>gr (s6 n) xs ys
 |n+1,.tup xs,.tup ys=>gr (s6 n) xs ys
 |n+1,.list k xs,.list k' ys=>decide (k=k')&&gr (gr (s6 n)) xs ys
 |n+1,.iref xs,.iref ys=>gr (s6 n) xs ys
 |n+1,.fn f xs,.fn g ys=>decide (f=g)&&gr (s6 n) xs ys
 |_+1,.ref i j k,.ref i' j' k'=>decide (i=i')&&decide (j=j')&&decide (k=k')
 |_+1,.sref i j k,.sref i' j' k'=>decide (i=i')&&decide (j=j')&&decide (k=k')
 |_+1,_,_=>false
theorem tq:∀(n:Nat) {a b:AV},s6 n a b=true→a=b
 |0,_,_,h=>by simp[s6]at h
 |n+1,a,b,h=>by
  have ih:∀x y,s6 n x y=true→x=y:=fun x y=>tq n
  cases a<;>cases b<;>simp only[s6,reduceCtorEq,Bool.and_eq_true,decide_eq_true_eq]at h
  case sc v u=>rw[JS h]
  case nil=>rfl
  case agg xs ys=>rw[eV ih h]
  case tup xs ys=>rw[eV ih h]
  case list k xs k' ys=>
   obtain⟨rfl,h⟩:=h
   rw[eV (fun _ _=>eV ih) h]
  case iref xs ys=>rw[eV ih h]
  case fn f xs g ys=>
   obtain⟨rfl,h⟩:=h
   rw[eV ih h]
  case ref i j k i' j' k'=>
   obtain⟨⟨rfl,rfl⟩,rfl⟩:=h
   rfl
  case sref i j k i' j' k'=>
   obtain⟨⟨rfl,rfl⟩,rfl⟩:=h
   rfl
def A1:Option AObj→Option AObj→Bool
 |none,none=>true
 |some o,some o'=>decide (o.ty=o'.ty)&&decide (o.k=o'.k)&&gr (gr (s6 6)) o.es o'.es
 |_,_=>false
theorem Jl {a b:Option AObj} (h:A1 a b=true):a=b:=by
 cases a with
 |none=>cases b with
  |none=>rfl
  |some o=>simp[A1]at h
 |some o=>cases b with
  |none=>simp[A1]at h
  |some o'=>
   obtain⟨ty,k,es⟩:=o
   obtain⟨ty',k',es'⟩:=o'
   simp only[A1,Bool.and_eq_true,decide_eq_true_eq]at h
   obtain⟨⟨rfl,rfl⟩,h⟩:=h
   rw[eV (fun _ _=>eV fun _ _=>tq 6) h]
def aN (D:Nat→Bool):Nat→ac→ac→Bool
 |_,[],_=>true
 |i,x::l,r=>match r with
  |y::r=>(!D i||A1 x y)&&aN D (i+1) l r
  |[]=>false
theorem tL {D:Nat→Bool}:∀{H H':ac} {i:Nat},aN D i H H'=true→∀j,j<H.length→D (i+j)=true→H'[j]?=H[j]?
 |[],_,_,_,j,hj,_=>by simp at hj
 |x::l,[],i,h,_,_,_=>by simp[aN]at h
 |x::l,y::r,i,h,j,hj,hd=>by
  simp only[aN,Bool.and_eq_true,Bool.or_eq_true,Bool.not_eq_true']at h
  match j,hj,hd with
  |0,_,hd=>
   have:=h.1.resolve_left (by rw[Nat.add_zero]at hd;rw[hd];simp)
   simp[Jl this]
  |j+1,hj,hd=>
   rw[List.getElem?_cons_succ,List.getElem?_cons_succ]
   exact tL h.2 j (by simpa using hj) (by rw[show i+1+j=i+(j+1) by omega];exact hd)
def m9 {α β:Type} (f:α→Option (List β)):List α→Option (List β)
 |[]=>some []
 |a::l=>match f a with
  |some xs=>match m9 f l with
   |some ys=>some (xs++ys)
   |none=>none
  |none=>none
theorem gk {α β:Type} {f:α→Option (List β)}:∀{l:List α} {ys:List β},m9 f l=some ys→∀a,a∈l→∃xs,f a=some xs∧∀x,x∈xs→x∈ys
 |[],ys,h,a,ha=>by cases ha
 |b::l,ys,h,a,ha=>by
  simp only[m9]at h
  split at h
  ·rename_i xs hx
   split at h
   ·rename_i zs hz
    simp only[Option.some.injEq]at h
    subst h
    rcases List.mem_cons.1 ha with rfl|ha
    ·exact⟨xs,hx,fun x hx=>by simp[hx]⟩
    ·obtain⟨us,h1,h2⟩:=gk hz a ha
     exact⟨us,h1,fun x hx=>by simp[h2 x hx]⟩
   ·cases h
  ·cases h
def Jw (P:Program) (t:TypeId) (H:ac) (x:AV):Option ac:=match x,aJ P t with
 | .sref id lo dn,some e=>match H[id]?,bL P e with
  |some (some o),some zs=>if o.k=aq P e∧0<o.k∧0<dn∧lo≤o.es.length then some (H.set id (some {o with es:=o.es.take lo++List.replicate dn zs++o.es.drop (lo+dn)}))else none
  |_,_=>none
 | .list _ [],some _=>some H
 |_,_=>none
abbrev Run:=FuncId→List AV→ac→Option (List (AV×ac))
def s4 (P:Program) (call:Run) (op:Op) (ev:Operand→AV) (H:ac):Option (List (AV×ac)):=
 match op with
 | .store t a x=>(mB P t H (ev a) (ev x)).map fun H'=>[(.sc undef,H')]
 | .alloc t=>(bL P t).map fun zs=>[(.ref H.length 0 0,H++[some ⟨t,aq P t,[zs]⟩])]
 | .box t x=>((ev x).cells?).map fun xs=>[(.ref H.length 0 0,H++[some ⟨t,xs.length,[xs]⟩])]
 | .makeSlice t l c=>match sy P t H (ev l) (ev c)with
  |some (r,H',m,B)=>if (B:Int)*m≤281474976710656∧m≤9223372036854775807 then some [(r,H')]else none
  |none=>none
 | .buildSlice t 0 parts=>match aJ P t with
  |some e=>if aA P e=true∧parts.size=0 then some [(.sref H.length 0 0,H++[some ⟨e,aq P e,[]⟩])]else none
  |none=>none
 | .makeMap _ none=>some [(.mref H.length,H++[some ⟨0,2,[]⟩])]
 | .mapUpdate t x k v=>(gv P t H (ev x) (ev k) (ev v)).map fun H'=>[(.sc undef,H')]
 | .mapEntry ..=>none
 | .entryStore ..=>none
 | .range _ _=>none
 | .next _ _=>none
 | .call c=>match c.callee with
  | .builtin .append=>if qm (c.args.toList.map ev)=true then none else match c.args.toList,c.argTypes.toList with
   |[s,x],[t,t']=>if t=t' then match kj P t H (ev s) (ev x)with
    |some (r,H',N,B)=>if N≤9223372036854775807∧N*B≤140737488355328 then some [(r,H')]else none
    |none=>none else none
   |_,_=>none
  | .builtin .copy=>none
  | .builtin .clear=>match c.args.toList,c.argTypes.toList with
   |[x],[t]=>(Jw P t H (ev x)).map fun H'=>[(.tup [],H')]
   |_,_=>none
  | .value f=>match ev f with
   | .fn g caps=>if aa P g=true then call g (c.args.toList.map ev++caps) H else none
   |_=>none
  |_=>(aU P (.call c) ev H).map fun v=>[(v,H)]
 |op=>(aU P op ev H).map fun v=>[(v,H)]
section
variable {E:Env}
abbrev IsL (L:List (AV×ac)):AV→ac→Prop:=fun x K=>(x,K)∈L
abbrev lK (E:Env) (call:Run):Prop:=∀g args H L,call g args H=some L→ACall E g args H (IsL L)
abbrev iF (P:Program) (run:Run):Prop:=∀g args H L,run g args H=some L→∀row src,MFun P row src g args H (IsL L)
theorem lY {call:Run} (hc:lK E call) {op:Op} {ev:Operand→AV} {H:ac} {L:List (AV×ac)}
  (h:s4 E.P call op ev H=some L):AEff E op ev H (IsL L):=by
 have rd:∀{o:Option AV},o.map (fun v=>[(v,H)])=some L→(match o with|some v=>IsL L v H|none=>False):=fun {o} h=>by
  cases o with
  |none=>simp at h
  |some v=>simp only[Option.map_some,Option.some.injEq]at h;subst h;exact List.mem_singleton.2 rfl
 have one:∀{x:AV} {K:ac},some [(x,K)]=some L→IsL L x K:=fun h=>by
  simp only[Option.some.injEq]at h
  subst h
  exact List.mem_singleton.2 rfl
 unfold s4 at h
 unfold AEff
 split at h
 ·simp only[Option.map_eq_some_iff]at h
  obtain⟨K,hK,rfl⟩:=h
  simp only[hK]
  exact List.mem_singleton.2 rfl
 ·simp only[Option.map_eq_some_iff]at h
  obtain⟨K,hK,rfl⟩:=h
  simp only[hK]
  exact List.mem_singleton.2 rfl
 ·simp only[Option.map_eq_some_iff]at h
  obtain⟨K,hK,rfl⟩:=h
  simp only[hK]
  exact List.mem_singleton.2 rfl
 ·split at h
  ·rename_i hm
   split at h
   ·rename_i hb
    simp only[hm]
    exact⟨hb.1,hb.2,one h⟩
   ·cases h
  ·cases h
 ·split at h
  ·rename_i e he
   split at h
   ·rename_i hb
    simp only[he,if_pos hb]
    exact one h
   ·cases h
  ·cases h
 ·exact one h
 ·simp only[Option.map_eq_some_iff]at h
  obtain⟨K,hK,rfl⟩:=h
  simp only[hK]
  exact List.mem_singleton.2 rfl
 ·cases h
 ·cases h
 ·cases h
 ·cases h
 ·rename_i c
  split at h
  ·rename_i hcal
   simp only[hcal]
   split at h
   ·cases h
   ·rename_i hf
    rw[if_neg hf]
    split at h
    ·rename_i s x t t' h1 h2
     split at h
     ·rename_i htt
      split at h
      ·rename_i ha
       split at h
       ·rename_i hb
        simp only[h1,h2,ha]
        exact⟨htt,hb.1,hb.2,one h⟩
       ·cases h
      ·cases h
     ·cases h
    ·cases h
  ·cases h
  ·rename_i hcal
   simp only[hcal]
   split at h
   ·rename_i x t h1 h2
    simp only[Option.map_eq_some_iff]at h
    obtain⟨K,hK,rfl⟩:=h
    have e2:c.argTypes=#[t]:=Array.toList_inj.1 h2
    rw[h1,e2]
    unfold Jw at hK
    split at hK
    ·rename_i id lo dn e hx he
     split at hK
     ·rename_i o zs ho hz
      split at hK
      ·rename_i hc'
       simp only[Option.some.injEq]at hK
       subst hK
       rw[List.map_cons,List.map_nil,hx]
       exact uy (b:= .mk) (.inl rfl) ho he hc'.1 hc'.2.1 hz hc'.2.2.1 hc'.2.2.2 (List.mem_singleton.2 rfl)
      ·cases hK
     ·cases hK
    ·rename_i k e hx he
     simp only[Option.some.injEq]at hK
     subst hK
     rw[List.map_cons,List.map_nil,hx]
     exact tZ (b:= .mk) he (List.mem_singleton.2 rfl)
    ·cases hK
   ·cases h
  ·rename_i f hcal
   simp only[hcal]
   split at h
   ·rename_i g caps hg
    split at h
    ·rename_i hen
     simp only[hg]
     exact .inl ⟨hen,hc _ _ _ _ h⟩
    ·cases h
   ·cases h
  ·rename_i h1 h2 h3 h4
   dsimp only
   split
   ·rename_i hcal;exact (h1 hcal).elim
   ·rename_i hcal;exact (h2 hcal).elim
   ·rename_i hcal;exact (h3 hcal).elim
   ·rename_i f hcal;exact (h4 f hcal).elim
   ·exact rd h
 ·rename_i h1 h2 h3 h4 h5 h6 h7 ha hb h8 h9 h10
  split
  ·exact (h1 _ _ _ rfl).elim
  ·exact (h2 _ rfl).elim
  ·exact (h3 _ _ rfl).elim
  ·exact (h4 _ _ _ rfl).elim
  ·exact (h5 _ _ rfl).elim
  ·exact (h6 _ rfl).elim
  ·exact (h7 _ _ _ _ rfl).elim
  ·exact (ha _ _ _ rfl).elim
  ·exact (hb _ _ _ _ rfl).elim
  ·exact (h8 _ _ rfl).elim
  ·exact (h9 _ _ rfl).elim
  ·exact (h10 _ rfl).elim
  ·exact rd h
def HP (P:Program) (call:Run) (ops:Array Oper) (o:Oper) (s:CS):Option (List CS):=
 match cW ops o (bK s.1)with
 |some true=>(s4 P call o.op (St.eval ⟨bK s.1,s.2⟩) s.2).map fun L=>L.map fun y=>(sY s.1 o.dst y.1,y.2)
 |some false=>some [(sY s.1 o.dst (.sc undef),s.2)]
 |none=>none
def HT (P:Program) (call:Run) (ops:Array Oper):List Oper→CS→Option (List CS)
 |[],s=>some [s]
 |o::l,s=>match HP P call ops o s with
  |some ss=>m9 (HT P call ops l) ss
  |none=>none
def xr (D:Nat→Bool):Nat→ac→ac
 |_,[]=>[]
 |i,x::l=>(if D i then x else none)::xr D (i+1) l
theorem Ja (D:Nat→Bool):∀(H:ac) (i j:Nat),(xr D i H)[j]?=H[j]?.map fun x=>if D (i+j)then x else none
 |[],i,j=>by simp[xr]
 |x::l,i,0=>by simp[xr]
 |x::l,i,j+1=>by rw[xr,List.getElem?_cons_succ,Ja D l,List.getElem?_cons_succ,show i+1+j=i+(j+1) by omega]
theorem Px (D:Nat→Bool) (H:ac):xr D 0 H=g8 D H:=by
 apply List.ext_getElem?
 intro j
 rw[Ja,g8,List.getElem?_mapIdx,Nat.zero_add]
def Dp (op:Op) (ev:Operand→AV):Option (List Nat):=match op with
 | .store _ a _=>match ev a with
  | .ref id _ _=>some [id]
  |_=>none
 | .alloc _=>some []
 | .box _ _=>some []
 | .makeSlice _ _ _=>some []
 | .call c=>match c.callee with
  | .builtin .append=>match c.args.toList.map ev with
   | .sref id _ _::_=>some [id]
   | .nil::_=>some []
   |_=>none
  |_=>none
 |_=>none
theorem pR {H:ac} {x:Option AObj} {id:Nat} (h:id<H.length):(H++[x])[id]?=H[id]?:=List.getElem?_append_left h
theorem zu {P:Program} {call:Run} {op:Op} {ev:Operand→AV} {H:ac} {L:List (AV×ac)} {X:List Nat}
  (h:s4 P call op ev H=some L) (ht:Dp op ev=some X) (id:Nat) (hid:id<H.length) (hX:id∉X) {r:AV} {H':ac} (hL:(r,H')∈L):H'[id]?=H[id]?:=by
 unfold Dp at ht
 split at ht
 ·rename_i t a x
  simp only[s4,Option.map_eq_some_iff]at h
  obtain⟨K,hK,rfl⟩:=h
  simp only[List.mem_singleton,Prod.mk.injEq]at hL
  obtain⟨_,rfl⟩:=hL
  split at ht
  ·rename_i i j k ha
   simp only[Option.some.injEq]at ht
   subst ht
   rw[ha]at hK
   unfold mB at hK
   split at hK
   ·rename_i i' _ _ _ _ heq _
    cases heq
    split at hK
    ·split at hK
     ·split at hK
      ·simp only[Option.some.injEq]at hK
       subst hK
       rw[List.getElem?_set_ne (by simpa using Ne.symm (by simpa using hX))]
      ·cases hK
     ·cases hK
    ·cases hK
   ·cases hK
  ·cases ht
 ·simp only[s4,Option.map_eq_some_iff]at h
  obtain⟨K,hK,rfl⟩:=h
  simp only[List.mem_singleton,Prod.mk.injEq]at hL
  obtain⟨_,rfl⟩:=hL
  exact pR hid
 ·simp only[s4,Option.map_eq_some_iff]at h
  obtain⟨K,hK,rfl⟩:=h
  simp only[List.mem_singleton,Prod.mk.injEq]at hL
  obtain⟨_,rfl⟩:=hL
  exact pR hid
 ·simp only[s4]at h
  split at h
  ·rename_i hm
   split at h
   ·simp only[Option.some.injEq]at h
    subst h
    simp only[List.mem_singleton,Prod.mk.injEq]at hL
    obtain⟨_,rfl⟩:=hL
    unfold sy at hm
    split at hm
    ·split at hm
     ·split at hm
      ·simp only[Option.some.injEq,Prod.mk.injEq]at hm
       obtain⟨_,rfl,_⟩:=hm
       exact pR hid
      ·cases hm
     ·cases hm
    ·cases hm
   ·cases h
  ·cases h
 ·rename_i c
  split at ht
  ·rename_i hcal
   simp only[s4,hcal]at h
   split at h
   ·cases h
   ·split at h
    ·rename_i s x t t' h1 h2
     split at h
     ·split at h
      ·rename_i ha
       split at h
       ·simp only[Option.some.injEq]at h
        subst h
        simp only[List.mem_singleton,Prod.mk.injEq]at hL
        obtain⟨_,rfl⟩:=hL
        rw[h1]at ht
        unfold kj at ha
        split at ha
        ·cases ha
        ·split at ha
         ·split at ha
          ·cases ha
          ·split at ha
           ·simp only[Option.some.injEq,Prod.mk.injEq]at ha
            obtain⟨_,rfl,_⟩:=ha
            exact pR hid
           ·rename_i hs
            simp only[List.map_cons,hs,Option.some.injEq]at ht
            subst ht
            split at ha
            ·split at ha
             ·simp only[Option.some.injEq,Prod.mk.injEq]at ha
              obtain⟨_,rfl,_⟩:=ha
              rw[pR (by simpa using hid),List.getElem?_set_ne (by simpa using Ne.symm (by simpa using hX))]
             ·cases ha
            ·cases ha
           ·cases ha
         ·cases ha
       ·cases h
      ·cases h
     ·cases h
    ·cases h
  ·cases ht
 ·cases ht
def ER:List (AV×ac)→Option AV
 |[]=>none
 |(r,H)::L=>if qz 6 (df H r)&&L.all (fun y=>s6 6 (df H r) (df y.2 y.1))then some (df H r)else none
theorem sq {L:List (AV×ac)} {v:AV} (h:ER L=some v):Imm v∧∀y,y∈L→df y.2 y.1=v:=by
 unfold ER at h
 split at h
 ·cases h
 ·rename_i r H L
  split at h
  ·rename_i hc
   simp only[Bool.and_eq_true,List.all_eq_true]at hc
   simp only[Option.some.injEq]at h
   subst h
   refine⟨fS 6 _ hc.1,fun y hy=>?_⟩
   rcases List.mem_cons.1 hy with rfl|hy
   ·rfl
   ·exact (tq 6 (hc.2 y hy)).symm
  ·cases h
def AG (run:Run) (g:FuncId) (args:List AV):Option AV:=
 if args.all (qz 6)then match run g args []with
  |some L=>ER L
  |none=>none
 else none
def vX (P:Program) (run call:Run) (D:Nat→Bool) (n:Nat) (S T:List Nat) (ops:Array Oper) (k:Nat) (o:Oper) (s:CS):Option (List CS):=
 match cW ops o (bK s.1)with
 |some true=>
  if T.contains k then (match o.op with
   | .call c=>match c.callee with
    | .value f=>match St.eval ⟨bK s.1,s.2⟩ f with
     | .fn g caps=>if aa P g=true then (AG run g (c.args.toList.map (St.eval ⟨bK s.1,s.2⟩)++caps)).map fun x=>[(sY s.1 o.dst x,s.2)]else none
     |_=>none
    |_=>none
   |_=>none)
  else if bN o.op then (aU P o.op (St.eval ⟨bK s.1,s.2⟩) (if S.contains k then s.2 else xr D 0 s.2)).map fun x=>[(sY s.1 o.dst x,s.2)]
  else if S.contains k then (s4 P call o.op (St.eval ⟨bK s.1,s.2⟩) s.2).map fun L=>L.map fun y=>(sY s.1 o.dst y.1,y.2)
  else match Dp o.op (St.eval ⟨bK s.1,s.2⟩)with
   |some X=>if n≤s.2.length&&X.all (fun i=>!D i)then (s4 P call o.op (St.eval ⟨bK s.1,s.2⟩) s.2).map fun L=>L.map fun y=>(sY s.1 o.dst y.1,y.2)else none
   |none=>match s4 P call o.op (St.eval ⟨bK s.1,s.2⟩) s.2 with
    |some L=>if n≤s.2.length&&L.all (fun y=>aN D 0 s.2 y.2)then some (L.map fun y=>(sY s.1 o.dst y.1,y.2))else none
    |none=>none
 |some false=>some [(sY s.1 o.dst (.sc undef),s.2)]
 |none=>none
def BB (P:Program) (run call:Run) (D:Nat→Bool) (n:Nat) (S T:List Nat) (ops:Array Oper):List Oper→Nat→CS→Option (List CS)
 |[],_,s=>some [s]
 |o::l,k,s=>match vX P run call D n S T ops k o s with
  |some ss=>m9 (BB P run call D n S T ops l (k+1)) ss
  |none=>none
def nh (P:Program) (run call:Run) (D:Nat→Bool) (n:Nat) (S T:List Nat) (ops:Array Oper):Nat→Array Bool→CS→Option (List CS)
 |0,listed,s=>if Region.ready .any ops listed=[]then some [s]else none
 |k+1,listed,s=>match Region.ready .any ops listed with
  |[]=>none
  |R=>let one:=fun i=>match ops[i]? with
    |some o=>match vX P run call D n S T ops i o s with
     |some ss=>m9 (nh P run call D n S T ops k (listed.setIfInBounds i true)) ss
     |none=>none
    |none=>none
   match R.find? fun i=>DF ops S T listed i with
   |some i=>one i
   |none=>m9 one R
structure DH where
 S:List Nat
 T:List Nat
 X:List Nat
def Rr:AV→Option Nat
 | .ref id _ _=>some id
 | .sref id _ _=>some id
 | .mref id=>some id
 |_=>none
def DH.D (d:DH) (s:CS):Nat→Bool:=fun i=>decide (i<s.2.length)&&d.X.all fun j=>!(Rr (bK s.1 j)==some i)
def zD (P:Program) (run call:Run) (d:DH) (ops:Array Oper) (s:CS):Option (List CS):=
 if ma ops d.S d.T then BB P run call (d.D s) s.2.length d.S d.T ops ops.toList 0 s
 else nh P run call (d.D s) s.2.length d.S d.T ops ops.size (Array.replicate ops.size false) s
abbrev RZ:=Option (List (Exit×CS))
def fJ (P:Program) (N:Nat) (hint:Nat→DH) (run:Run) (call:Nat→Run):Nat→Code→CS→RZ
 |0,_,_=>none
 |n+1,c,s=>match c with
  | .skip=>some [(.normal,s)]
  | .region id ops d=>if vO N ops then (match (if d then zD P run (call id) (hint id) ops s else HT P (call id) ops ops.toList s)with
   |some ss=>some (ss.map fun s'=>(.normal,s'))
   |none=>none)else none
  | .seq a b=>match fJ P N hint run call n a s with
   |some rs=>m9 (fun r=>match r.1 with
    | .normal=>fJ P N hint run call n b r.2
    |e=>some [(e,r.2)]) rs
   |none=>none
  | .cond x a b=>match St.eval ⟨bK s.1,s.2⟩ x with
   | .sc (.bool true)=>fJ P N hint run call n a s
   | .sc (.bool false)=>fJ P N hint run call n b s
   |_=>none
  | .block id c=>match fJ P N hint run call n c s with
   |some rs=>some (rs.map fun r=>match r.1 with
    | .exit i=>if i=id then (.normal,r.2)else (.exit i,r.2)
    |e=>(e,r.2))
   |none=>none
  | .exit id=>some [(.exit id,s)]
  | .label _=>some [(.normal,s)]
  | .ret=>some [(.ret,s)]
  | .loop c=>match fJ P N hint run call n c s with
   |some rs=>m9 (fun r=>match r.1 with
    | .normal=>fJ P N hint run call n (.loop c) r.2
    |e=>some [(e,r.2)]) rs
   |none=>none
  |_=>none
abbrev SL (L:List CS):St→Prop:=fun st=>∃s,s∈L∧st=⟨bK s.1,s.2⟩
theorem AStep.mono {ops:Array Oper} {o:Oper} {s:St} {K K':St→Prop} (h:AStep E ops o s K) (hk:∀s',K s'→K' s'):AStep E ops o s K':=by
 unfold AStep at h⊢
 split
 ·rename_i hg;rw[hg]at h;exact AEff.mono h fun x H' hx=>hk _ hx
 ·rename_i hg;rw[hg]at h;exact hk _ h
 ·rename_i hg;rw[hg]at h;exact h
variable {run call:Run}
theorem Ev {L:List (AV×ac)} {s:CS} {d:Option Tmp} {x:AV} {K:ac} (h:(x,K)∈L):SL (L.map fun y=>(sY s.1 d y.1,y.2)) ⟨cX (bK s.1) d x,K⟩:=
 ⟨_,List.mem_map_of_mem h,by rw[←Ky]⟩
theorem vN {l:List AV} {d:Option Tmp} {x:AV} {H:ac}:SL [(sY l d x,H)] ⟨cX (bK l) d x,H⟩:=⟨_,List.mem_singleton.2 rfl,by rw[←Ky]⟩
theorem AR (hc:lK E call) {ops:Array Oper} {o:Oper} {s:CS} {L:List CS} (h:HP E.P call ops o s=some L):AStep E ops o ⟨bK s.1,s.2⟩ (SL L):=by
 unfold HP at h
 unfold AStep
 split at h
 ·rename_i hg
  simp only[hg]
  simp only[Option.map_eq_some_iff]at h
  obtain⟨M,hM,rfl⟩:=h
  exact (lY hc hM).mono fun x K hx=>Ev hx
 ·rename_i hg
  simp only[hg]
  simp only[Option.some.injEq]at h
  subst h
  exact vN
 ·cases h
theorem AOps.mono {ops:Array Oper}:∀(l:List Oper) {s:St} {K K':St→Prop},(∀s,K s→K' s)→AOps E ops l s K→AOps E ops l s K'
 |[],_,_,_,hk,h=>hk _ h
 |_::l,_,_,_,hk,h=>AStep.mono h fun _ h1=>AOps.mono l hk h1
theorem AXOps.mono {D:Nat→Bool} {S T:List Nat} {ops:Array Oper}:∀(l:List Oper) (k:Nat) {s:St} {K K':St→Prop},(∀s,K s→K' s)→AXOps D E ops S T l k s K→AXOps D E ops S T l k s K'
 |[],_,_,_,_,hk,h=>hk _ h
 |_::l,k,_,_,_,hk,h=>XStep.mono h fun _ h1=>AXOps.mono l (k+1) hk h1
theorem uL (hc:lK E call) {ops:Array Oper}:∀(l:List Oper) {s:CS} {L:List CS},HT E.P call ops l s=some L→AOps E ops l ⟨bK s.1,s.2⟩ (SL L)
 |[],s,L,h=>by simp only[HT,Option.some.injEq]at h;subst h;exact⟨s,List.mem_singleton.2 rfl,rfl⟩
 |o::l,s,L,h=>by
  simp only[HT]at h
  split at h
  ·rename_i ss h1
   refine (AR hc h1).mono ?_
   rintro _ ⟨s1,hm,rfl⟩
   obtain⟨M,h2,h3⟩:=gk h s1 hm
   exact AOps.mono l (fun _ ⟨s2,h4,h5⟩=>⟨s2,h3 s2 h4,h5⟩) (uL hc l h2)
  ·cases h
theorem r8 {P:Program} (hr:iF P run) {g:FuncId} {args:List AV} {v:AV} (h:AG run g args=some v) (row src:Option Nat):
  PFun P row src g args (·=v)∧(∀a,a∈args→Imm a)∧Imm v:=by
 unfold AG at h
 split at h
 ·rename_i ha
  split at h
  ·rename_i L h1
   obtain⟨hi,hv⟩:=sq h
   refine⟨pX (hr _ _ _ _ h1 row src) ?_,fun a hx=>fS 6 a (List.all_eq_true.1 ha a hx),hi⟩
   intro r' K hm
   have:=hv _ hm
   dsimp only at this
   exact⟨v,by rw[this];exact .refl _,by rw[this];exact hi,hi,rfl⟩
  ·cases h
 ·cases h
theorem qj (hr:iF E.P run) (hc:lK E call)
  {D:Nat→Bool} {n:Nat} (hD:∀i,D i=true→i<n) {S T:List Nat} {ops:Array Oper} {k:Nat} {o:Oper} {s:CS} {L:List CS} (h:vX E.P run call D n S T ops k o s=some L):XStep D E ops S T k o ⟨bK s.1,s.2⟩ (SL L):=by
 unfold vX at h
 unfold XStep
 split at h
 ·rename_i hg
  split at h
  ·rename_i hT
   rw[if_pos hT]
   unfold mO QOut
   simp only[hg]
   unfold QEff
   split at h
   ·rename_i c hop
    split at h
    ·rename_i f hcal
     split at h
     ·rename_i g caps hf
      split at h
      ·rename_i hen
       simp only[Option.map_eq_some_iff]at h
       obtain⟨v,hv,rfl⟩:=h
       obtain⟨h1,h2,h3⟩:=r8 hr hv E.row E.src
       rw[jq _ _ []]at hf
       simp only[hop,hcal,hf]
       have:=jD (E:=E) (b:= .mk) (k:=fun x=>SL [(sY s.1 o.dst v,s.2)] ⟨cX (bK s.1) o.dst x,s.2⟩) h1 rfl hen h2 h3 vN
       rw[jq _ _ []]at this
       exact this
      ·cases h
     ·cases h
    ·cases h
   ·cases h
  ·rename_i hT
   rw[if_neg hT]
   unfold DStep
   simp only[hg]
   unfold DEff
   split at h
   ·rename_i hrd
    rw[if_pos hrd]
    simp only[Option.map_eq_some_iff]at h
    obtain⟨v,hv,rfl⟩:=h
    have e:rdH (!S.contains k) D s.2=(if S.contains k=true then s.2 else xr D 0 s.2):=by
     rw[Px]
     cases S.contains k<;>rfl
    dsimp only
    rw[e]
    simp only[hv]
    exact vN
   ·rename_i hrd
    rw[if_neg hrd]
    split at h
    ·rename_i hS
     simp only[Option.map_eq_some_iff]at h
     obtain⟨M,hv,rfl⟩:=h
     refine (lY hc hv).mono fun x K hx=>⟨fun hs=>?_,Ev hx⟩
     rw[hS]at hs
     cases hs
    ·split at h
     ·rename_i X hX
      split at h
      ·rename_i hb
       simp only[Bool.and_eq_true,decide_eq_true_eq,List.all_eq_true,Bool.not_eq_true']at hb
       simp only[Option.map_eq_some_iff]at h
       obtain⟨M,hv,rfl⟩:=h
       refine (lY hc hv).mono fun x K hx=>⟨fun _ id hid=>zu hv hX id (Nat.lt_of_lt_of_le (hD id hid) hb.1) (fun hm=>?_) hx,Ev hx⟩
       rw[hb.2 id hm]at hid
       cases hid
      ·cases h
     ·split at h
      ·rename_i M hv
       split at h
       ·rename_i hb
        simp only[Bool.and_eq_true,decide_eq_true_eq,List.all_eq_true]at hb
        simp only[Option.some.injEq]at h
        subst h
        exact (lY hc hv).mono fun x K hx=>⟨fun _ id hid=>tL (hb.2 _ hx) id (Nat.lt_of_lt_of_le (hD id hid) hb.1) (by rw[Nat.zero_add];exact hid),Ev hx⟩
       ·cases h
      ·cases h
 ·rename_i hg
  simp only[Option.some.injEq]at h
  subst h
  split
  ·unfold mO QOut
   simp only[hg]
   exact vN
  ·unfold DStep
   simp only[hg]
   exact vN
 ·cases h
theorem r5 (hr:iF E.P run) (hc:lK E call)
  {D:Nat→Bool} {n:Nat} (hD:∀i,D i=true→i<n) {S T:List Nat} {ops:Array Oper}:∀(l:List Oper) (k:Nat) {s:CS} {L:List CS},BB E.P run call D n S T ops l k s=some L→AXOps D E ops S T l k ⟨bK s.1,s.2⟩ (SL L)
 |[],k,s,L,h=>by simp only[BB,Option.some.injEq]at h;subst h;exact⟨s,List.mem_singleton.2 rfl,rfl⟩
 |o::l,k,s,L,h=>by
  simp only[BB]at h
  split at h
  ·rename_i ss h1
   refine (qj hr hc hD h1).mono ?_
   rintro _ ⟨s1,hm,rfl⟩
   obtain⟨M,h2,h3⟩:=gk h s1 hm
   exact AXOps.mono l (k+1) (fun _ ⟨s2,h4,h5⟩=>⟨s2,h3 s2 h4,h5⟩) (r5 hr hc hD l (k+1) h2)
  ·cases h
theorem ov (hr:iF E.P run) (hc:lK E call)
  {D:Nat→Bool} {n:Nat} (hD:∀i,D i=true→i<n) {S T:List Nat} {ops:Array Oper}:∀(k:Nat) (listed:Array Bool) {s:CS} {L:List CS},nh E.P run call D n S T ops k listed s=some L→XAny D E ops S T (SL L) k listed ⟨bK s.1,s.2⟩
 |0,listed,s,L,h=>by
  simp only[nh]at h
  split at h
  ·rename_i h0
   simp only[Option.some.injEq]at h
   subst h
   exact⟨h0,s,List.mem_singleton.2 rfl,rfl⟩
  ·cases h
 |k+1,listed,s,L,h=>by
  simp only[nh]at h
  split at h
  ·cases h
  ·rename_i R hne
   have one:∀(i:Nat) (M:List CS),(match ops[i]? with
     |some o=>match vX E.P run call D n S T ops i o s with
      |some ss=>m9 (nh E.P run call D n S T ops k (listed.setIfInBounds i true)) ss
      |none=>none
     |none=>none)=some M→(∀x,x∈M→x∈L)→∃o,ops[i]?=some o∧XStep D E ops S T i o ⟨bK s.1,s.2⟩ (XAny D E ops S T (SL L) k (listed.setIfInBounds i true)):=fun i M hM hsub=>by
    split at hM
    ·rename_i o ho
     split at hM
     ·rename_i ss h1
      refine⟨o,ho,(qj hr hc hD h1).mono ?_⟩
      rintro _ ⟨s1,hm,rfl⟩
      obtain⟨M',h2,h3⟩:=gk hM s1 hm
      exact XAny.mono (fun _ ⟨s2,h4,h5⟩=>⟨s2,hsub _ (h3 s2 h4),h5⟩) _ _ _ (ov hr hc hD k _ h2)
     ·cases hM
    ·cases hM
   split at h
   ·rename_i i hi
    obtain⟨o,ho,hx⟩:=one i L h fun _ h=>h
    have hp:=List.find?_some hi
    exact kK i ho hp hx
   ·refine⟨fun h0=>(hne h0).elim,fun i hi o ho=>?_⟩
    obtain⟨M,h1,h2⟩:=gk h i hi
    obtain⟨o',ho',hx⟩:=one i M h1 h2
    rw[ho]at ho'
    cases ho'
    exact hx
theorem DH.D_lt (d:DH) (s:CS):∀i,d.D s i=true→i<s.2.length:=fun i h=>by
 simp only[DH.D,Bool.and_eq_true,decide_eq_true_eq]at h
 exact h.1
theorem wY (hm:E.P.follows .mixedOrders=true) (hr:iF E.P run) (hc:lK E call) {d:DH} {ops:Array Oper} {s:CS} {L:List CS} {id:Nat} (hb:vO E.N ops=true) (h:zD E.P run call d ops s=some L):
  AWp E (.region id ops true) ⟨bK s.1,s.2⟩ (fun x st=>x= .normal∧SL L st):=by
 unfold zD at h
 split at h
 ·rename_i hx
  exact qv (d.D s) d.S d.T hm hb (XAny.mono (K:=SL L) (fun st hs=>⟨rfl,hs⟩) _ _ _ (vE hx (r5 hr hc (DH.D_lt d s) ops.toList 0 h)))
 ·exact qv (d.D s) d.S d.T hm hb (XAny.mono (K:=SL L) (fun st hs=>⟨rfl,hs⟩) _ _ _ (ov hr hc (DH.D_lt d s) ops.size _ h))
abbrev OL (L:List (Exit×CS)):Exit→St→Prop:=fun x st=>∃s,(x,s)∈L∧st=⟨bK s.1,s.2⟩
theorem Ba (hm:E.P.follows .mixedOrders=true) (hint:Nat→DH) (hr:iF E.P run) {call:Nat→Run} (hc:∀id,lK E (call id)):
  ∀(n:Nat) (c:Code) (s:CS) (L:List (Exit×CS)),fJ E.P E.N hint run call n c s=some L→AWp E c ⟨bK s.1,s.2⟩ (OL L):=by
 intro n
 induction n using Nat.strongRecOn with
 |_ n ih=>
  intro c s L h
  cases n with
  |zero=>simp[fJ]at h
  |succ n=>
   have ih1:=ih n (Nat.lt_succ_self n)
   have one:∀{e:Exit} {s:CS},some [(e,s)]=some L→OL L e ⟨bK s.1,s.2⟩:=fun h=>by
    simp only[Option.some.injEq]at h
    subst h
    exact⟨_,List.mem_singleton.2 rfl,rfl⟩
   cases c
   case skip=>simp only[fJ]at h;exact fun a w r=>wp_skip ⟨_,one h,r⟩
   case region id ops d=>
    simp only[fJ]at h
    split at h
    ·rename_i hb
     split at h
     ·rename_i ss h1
      simp only[Option.some.injEq]at h
      subst h
      cases d
      ·simp only[Bool.false_eq_true,if_false]at h1
       refine AWp.mono (uA (Q:=fun x st=>x= .normal∧SL ss st) hb (AOps.mono _ (fun s hs=>⟨rfl,hs⟩) (uL (hc id) ops.toList h1))) ?_
       rintro x st ⟨rfl,s1,h2,rfl⟩
       exact⟨s1,List.mem_map.2 ⟨s1,h2,rfl⟩,rfl⟩
      ·simp only[if_true]at h1
       refine AWp.mono (wY (id:=id) hm hr (hc id) hb h1) ?_
       rintro x st ⟨rfl,s1,h2,rfl⟩
       exact⟨s1,List.mem_map.2 ⟨s1,h2,rfl⟩,rfl⟩
     ·cases h
    ·cases h
   case seq x y=>
    simp only[fJ]at h
    split at h
    ·rename_i rs h1
     intro a w r
     refine wp_seq (wp_mono (ih1 x s _ h1 a w r) ?_)
     rintro e' a' w' ⟨st,⟨s1,hs,rfl⟩,r'⟩
     obtain⟨M,h2,h3⟩:=gk h _ hs
     dsimp only at h2
     cases e' with
     |normal=>exact wp_mono (ih1 y s1 _ h2 a' w' r') fun e a w ⟨st,⟨s2,h4,h5⟩,r2⟩=>⟨st,⟨s2,h3 _ h4,h5⟩,r2⟩
     |_=>
      simp only[Option.some.injEq]at h2
      subst h2
      exact⟨_,⟨s1,h3 _ (List.mem_singleton.2 rfl),rfl⟩,r'⟩
    ·cases h
   case cond x y z=>
    simp only[fJ]at h
    have he:∀{a:Act} {w:World} {v:Value},Rel E ⟨bK s.1,s.2⟩ a w→St.eval ⟨bK s.1,s.2⟩ x= .sc v→a.eval x=v:=fun {a w v} r hx=>by
     obtain⟨ρ,ok,g,_,_,_,hrr⟩:=r
     have:=uW hrr x
     rw[hx]at this
     exact cC this
    intro a w r
    split at h
    ·rename_i hx
     exact wp_cond_split (he r hx) (fun _=>ih1 y s _ h a w r) (fun e=>by cases e)
    ·rename_i hx
     exact wp_cond_split (he r hx) (fun e=>by cases e) (fun _=>ih1 z s _ h a w r)
    ·cases h
   case block id c=>
    simp only[fJ]at h
    split at h
    ·rename_i rs h1
     simp only[Option.some.injEq]at h
     subst h
     intro a w r
     refine wp_block (wp_mono (ih1 c s _ h1 a w r) ?_)
     rintro e' a' w' ⟨st,⟨s1,hs,rfl⟩,r'⟩
     cases e' with
     |exit i=>
      simp only[Exit.inBlock]
      split
      ·rename_i hi
       exact⟨_,⟨s1,List.mem_map.2 ⟨_,hs,by dsimp only;rw[if_pos hi]⟩,rfl⟩,r'⟩
      ·rename_i hi
       exact⟨_,⟨s1,List.mem_map.2 ⟨_,hs,by dsimp only;rw[if_neg hi]⟩,rfl⟩,r'⟩
     |_=>exact⟨_,⟨s1,List.mem_map.2 ⟨_,hs,rfl⟩,rfl⟩,r'⟩
    ·cases h
   case exit id=>simp only[fJ]at h;exact fun a w r=>wp_exit ⟨_,one h,r⟩
   case label l=>simp only[fJ]at h;exact fun a w r=>wp_label ⟨_,one h,r⟩
   case ret=>simp only[fJ]at h;exact fun a w r=>wp_ret ⟨_,one h,r⟩
   case loop c=>
    intro a w r
    refine wp_loop_ghost (fun k a w=>k≤n+1∧∃s1 M,fJ E.P E.N hint run call k (.loop c) s1=some M∧(∀x,x∈M→x∈L)∧Rel E ⟨bK s1.1,s1.2⟩ a w) (n+1) ⟨Nat.le_refl _,s,L,h,fun _ h=>h,r⟩ ?_
    rintro k a w ⟨hk,s1,M,h1,hsub,r1⟩
    match k,hk,h1 with
    |0,_,h1=>simp[fJ]at h1
    |k+1,hk,h1=>
     simp only[fJ]at h1
     split at h1
     ·rename_i rs h2
      refine wp_mono (ih k (by omega) c s1 _ h2 a w r1) ?_
      rintro e' a' w' ⟨st,⟨s2,hs,rfl⟩,r'⟩
      obtain⟨M',h3,h4⟩:=gk h1 _ hs
      dsimp only at h3
      cases e' with
      |normal=>exact⟨k,Nat.lt_succ_self k,by omega,s2,M',h3,fun x hx=>hsub x (h4 x hx),r'⟩
      |_=>
       simp only[Option.some.injEq]at h3
       subst h3
       exact⟨_,⟨s2,hsub _ (h4 _ (List.mem_singleton.2 rfl)),rfl⟩,r'⟩
     ·cases h1
   all_goals simp[fJ]at h
end
def IY (mode:FuncId→Bool) (run:Run) (g:FuncId) (args:List AV) (H:ac):Option (List (AV×ac)):=
 if mode g then run g args H
 else if (args.map (df H)).all (qz 6)then match run g (args.map (df H)) []with
  |some L=>match ER L with
   |some v=>if xS 6 v||args.all fun a=>(jT a).isEmpty then some [(v,H)]else run g args H
   |none=>none
  |none=>none
 else run g args H
def SO (P:Program) (rs:List ResultVar):List (Exit×CS)→Option (List (AV×ac)):=m9 fun r=>match r.1 with
 | .normal=>(kG P ⟨bK r.2.1,r.2.2⟩ rs).map fun v=>[(v,r.2.2)]
 | .ret=>(kG P ⟨bK r.2.1,r.2.2⟩ rs).map fun v=>[(v,r.2.2)]
 |_=>none
def DD (P:Program) (prim:Run) (hints:FuncId→Nat→DH) (mode:FuncId→Nat→FuncId→Bool) (F:Nat):Nat→Run
 |0,_,_,_=>none
 |n+1,f,args,H=>match prim f args H with
  |some L=>some L
  |none=>match P.funcs[f]? with
   |some fn=>match fn.body with
    |some body=>if args.length≤fn.ntmps then match fJ P fn.ntmps (hints f) (DD P prim hints mode F n) (fun id=>IY (mode f id) (DD P prim hints mode F n)) F body (args,H)with
     |some rs=>match SO P fn.results.toList rs with
      |some (y::L)=>some (y::L)
      |_=>none
     |none=>none
     else none
    |none=>none
   |none=>none
theorem qY {H:ac}:∀(args:List AV),(∀a,a∈args→Imm (df H a))→Args H args (args.map (df H))
 |[],_=> .nil
 |a::l,h=> .cons (.refl _) (h a (by simp)) (qY l fun x hx=>h x (by simp[hx]))
theorem AP {E:Env} {mode:FuncId→Bool} {run:Run} (hr:iF E.P run):lK E (IY mode run):=by
 intro g args H L h
 unfold IY at h
 split at h
 ·exact hr _ _ _ _ h E.row E.src E rfl rfl rfl
 ·split at h
  ·rename_i ha
   split at h
   ·rename_i L1 h1
    split at h
    ·rename_i v hv
     obtain⟨hi,hall⟩:=sq hv
     have hav:∀a,a∈args→Imm (df H a):=fun a hx=>fS 6 _ (List.all_eq_true.1 ha _ (List.mem_map_of_mem hx))
     have pf:PFun E.P E.row E.src g (args.map (df H)) (·=v):=pX (hr _ _ _ _ h1 E.row E.src) (by
      intro r' K hm
      have:=hall _ hm
      dsimp only at this
      exact⟨v,by rw[this];exact .refl _,by rw[this];exact hi,hi,rfl⟩)
     split at h
     ·rename_i hf
      simp only[Option.some.injEq]at h
      subst h
      simp only[Bool.or_eq_true]at hf
      rcases hf with hf|hf
      ·exact lP _ rfl pf (qY args hav) ⟨_,rfl⟩ (by rintro x rfl;exact oP 6 _ hf) (by rintro x rfl;exact List.mem_singleton.2 rfl)
      ·exact kV _ rfl pf (qY args hav) (fun a hx=>by simpa using List.all_eq_true.1 hf a hx) (by rintro x rfl _;exact List.mem_singleton.2 rfl) ⟨_,rfl,hi⟩
     ·exact hr _ _ _ _ h E.row E.src E rfl rfl rfl
    ·cases h
   ·cases h
  ·exact hr _ _ _ _ h E.row E.src E rfl rfl rfl
theorem uk {P:Program} (hm:P.follows .mixedOrders=true) {prim:Run} (hp:iF P prim) (hints:FuncId→Nat→DH) (mode:FuncId→Nat→FuncId→Bool) (F:Nat):∀(n:Nat),iF P (DD P prim hints mode F n)
 |0=>fun _ _ _ _ h=>by simp[DD]at h
 |n+1=>by
  intro f args H L h row src
  have ih:=uk hm hp hints mode F n
  simp only[DD]at h
  split at h
  ·rename_i L1 h1
   simp only[Option.some.injEq]at h
   subst h
   exact hp _ _ _ _ h1 row src
  split at h
  ·rename_i fn hfn
   split at h
   ·rename_i body hb
    split at h
    ·rename_i hn
     split at h
     ·rename_i rs hrs
      split at h
      ·rename_i y L' hres
       simp only[Option.some.injEq]at h
       rw[h]at hres
       refine su hfn hb hn ⟨y.1,y.2,by rw[←h];simp⟩ fun E hP _ _ hN=>?_
       subst hP
       rw[←hN]at hrs
       refine (Ba (E:=E) hm (hints f) ih (fun id=>AP (mode:=mode f id) ih) F body (args,H) _ hrs).mono ?_
       rintro x st ⟨s1,hs,rfl⟩
       obtain⟨M,h2,h3⟩:=gk hres _ hs
       dsimp only at h2
       cases x<;>simp only[reduceCtorEq,Option.map_eq_some_iff]at h2⊢
       ·obtain⟨v,hv,rfl⟩:=h2
        simp only[AM,hv]
        exact h3 _ (List.mem_singleton.2 rfl)
       ·obtain⟨v,hv,rfl⟩:=h2
        simp only[AM,hv]
        exact h3 _ (List.mem_singleton.2 rfl)
      ·cases h
     ·cases h
    ·cases h
   ·cases h
  ·cases h
theorem kL {P:Program} {prim:Run} (hp:iF P prim) (hints:FuncId→Nat→DH) (mode:FuncId→Nat→FuncId→Bool) (F n:Nat) {f:FuncId} {args:List AV} {v:AV} (hm:P.follows .mixedOrders=true)
  (h:AG (DD P prim hints mode F n) f args=some v) (row src:Option Nat):PFun P row src f args (·=v):=(r8 (uk hm hp hints mode F n) h row src).1
def NT (ty:TypeId) (k:Nat) (H:ac):List (AV×ac):=[(.sref H.length 0 0,H++[some ⟨ty,k,[]⟩]),(.sref (H.length+1) 0 0,H++[none]++[some ⟨ty,k,[]⟩])]
def HN (l:List (FuncId×TypeId×Nat)):Run:=fun f args H=>match l.find? (fun x=>x.1==f),args with
 |some (_,ty,k),[.list k' []]=>if k'=k then some (NT ty k H)else none
 |_,_=>none
theorem mz {P:Program} {l:List (FuncId×TypeId×Nat)} (h:∀x,x∈l→∀(H:ac) row src,MFun P row src x.1 [.list x.2.2 []] H (IsL (NT x.2.1 x.2.2 H))):iF P (HN l):=by
 intro g args H L hL row src
 unfold HN at hL
 split at hL
 ·rename_i f ty k k' hf
  split at hL
  ·rename_i hk
   subst hk
   simp only[Option.some.injEq]at hL
   subst hL
   have hm:=List.mem_of_find?_eq_some hf
   have hg:=List.find?_some hf
   simp only[beq_iff_eq]at hg
   subst hg
   exact h _ hm H row src
  ·cases hL
 ·cases hL
def yp (l:List (FuncId×Nat×FuncId)) (f:FuncId) (r:Nat) (g:FuncId):Bool:=l.any fun x=>x.1==f&&x.2.1==r&&x.2.2==g
def qK:List (Nat×Nat×DH)→FuncId→Nat→DH
 |[],_,_=>⟨[],[],[]⟩
 |(f,r,d)::l,g,q=>if f=g then (if r=q then d else qK l g q)else qK l g q
abbrev KL:=List (FuncId×List AV×AV)
def Ku (l:KL):Run:=fun f args H=>match l.find? (fun x=>x.1==f&&gr (s6 6) x.2.1 args)with
 |some x=>if args.all (qz 6)&&qz 6 x.2.2 then some [(x.2.2,H)]else none
 |none=>none
def CA (p q:Run):Run:=fun f args H=>match p f args H with
 |some L=>some L
 |none=>q f args H
theorem yn {P:Program} {p q:Run} (hp:iF P p) (hq:iF P q):iF P (CA p q):=by
 intro g args H L h row src
 unfold CA at h
 split at h
 ·rename_i L1 h1
  simp only[Option.some.injEq]at h
  subst h
  exact hp _ _ _ _ h1 row src
 ·exact hq _ _ _ _ h row src
abbrev KOk (P:Program) (l:KL):Prop:=∀x,x∈l→PFun P none none x.1 x.2.1 (·=x.2.2)
theorem BL {P:Program} {l:KL} (h:KOk P l):iF P (Ku l):=by
 intro g args H L hL row src
 unfold Ku at hL
 split at hL
 ·rename_i x hx
  split at hL
  ·rename_i hi
   simp only[Option.some.injEq]at hL
   subst hL
   simp only[Bool.and_eq_true]at hi
   have hf:=List.find?_some hx
   simp only[Bool.and_eq_true,beq_iff_eq]at hf
   have ha:=eV (fun _ _=>tq 6) hf.2
   have hg:=hf.1
   have him:∀a,a∈args→Imm a:=fun a ha=>fS 6 a (List.all_eq_true.1 hi.1 a ha)
   intro E hP hrow hsrc
   subst hrow;subst hsrc
   have pf:=(h x (List.mem_of_find?_eq_some hx)).lift E.row E.src
   rw[ha,hg]at pf
   exact kV args hP pf (ai him) (fun a ha=>eW (him a ha)) (fun r hr _=>by rw[hr];exact List.mem_singleton.2 rfl) ⟨_,rfl,fS 6 _ hi.2⟩
  ·cases hL
 ·cases hL
theorem iu {P:Program} {pE:Run} (hE:iF P pE) {l:KL} (h:KOk P l) (hints:FuncId→Nat→DH) (mode:FuncId→Nat→FuncId→Bool) (hm:P.follows .mixedOrders=true) {f:FuncId} {args:List AV} {v:AV}
  (hr:AG (DD P (CA pE (Ku l)) hints mode 10000 60) f args=some v):KOk P ((f,args,v)::l):=by
 intro x hx
 rcases List.mem_cons.1 hx with rfl|hx
 ·exact kL (yn hE (BL h)) hints mode 10000 60 hm hr none none
 ·exact h x hx
theorem Lc {P:Program}:KOk P []:=fun _ h=>by cases h
end Go.PA
namespace Go.Proofs.YtaenimpfelpafaaGreatDoor
open Go.PA
open Go.RowKit
theorem Ki (x:TIncome):x.cells=[iv x.Number,iv x.Day,iv x.Payer,iv x.Amount,iv x.Claim]:=rfl
def fe (e:TEntry):Bool:=decide (e.Ref=0)&&(decide (e.From=1)&&decide (e.To=0)||decide (e.From=0)&&decide (e.To=1))
def jb (e:TEntry):Bool:=decide (e.From=0)||decide (e.To=0)
def gB (e:TEntry) (n:Int):TPosting:=
 ⟨n,e.Day,1,if fe e=true∧e.From≠0 then 230 else if e.To=0 then 510 else 110,if fe e=true∧e.From=0 then 230 else if e.To=0 then 110 else 410,e.Amount,0,e.Ref⟩
theorem EU (e:TEntry):PFun Tryz.prog none none 37 [.agg e.cells] (·=bv (fe e)):=by
 refine ab Tryz.func37 rfl (by simp[Tryz.f37]) (by kernel_rfl) ?_
 intro E hP hr hs hW hN
 unfold fe
 by_cases h1:e.Ref=0
 ·have d1:decide (e.Ref=0)=true:=decide_eq_true h1
  by_cases h2:e.From=1
  ·have d2:decide (e.From=1)=true:=decide_eq_true h2
   have d4:decide (e.From=0)=false:=decide_eq_false (by omega)
   by_cases h3:e.To=0
   ·have d3:decide (e.To=0)=true:=decide_eq_true h3
    simp -dsimp -implicitDefEqProofs [-getElem?_pos,go_sem,hP,cE,d1,d2,d3,d4]
   ·have d3:decide (e.To=0)=false:=decide_eq_false h3
    simp -dsimp -implicitDefEqProofs [-getElem?_pos,go_sem,hP,cE,d1,d2,d3,d4]
  ·have d2:decide (e.From=1)=false:=decide_eq_false h2
   by_cases h4:e.From=0
   ·have d4:decide (e.From=0)=true:=decide_eq_true h4
    simp -dsimp -implicitDefEqProofs [-getElem?_pos,go_sem,hP,cE,d1,d2,d4]
   ·have d4:decide (e.From=0)=false:=decide_eq_false h4
    simp -dsimp -implicitDefEqProofs [-getElem?_pos,go_sem,hP,cE,d1,d2,d4]
 ·have d1:decide (e.Ref=0)=false:=decide_eq_false h1
  simp -dsimp -implicitDefEqProofs [-getElem?_pos,go_sem,hP,cE,d1]
theorem JH (e:TEntry):PFun Tryz.prog none none 89 [.agg e.cells] (·=bv (jb e)):=by
 refine ab Tryz.func89 rfl (by simp[Tryz.f89]) (by kernel_rfl) ?_
 intro E hP hr hs hW hN
 unfold jb
 by_cases h4:e.From=0
 ·have d4:decide (e.From=0)=true:=decide_eq_true h4
  simp -dsimp -implicitDefEqProofs [-getElem?_pos,go_sem,hP,cE,d4]
 ·have d4:decide (e.From=0)=false:=decide_eq_false h4
  simp -dsimp -implicitDefEqProofs [-getElem?_pos,go_sem,hP,cE,d4]
theorem zW (e:TEntry) (n:Int):PFun Tryz.prog none none 90 [.agg e.cells,iv n] (·= .agg (gB e n).cells):=by
 refine ab Tryz.func90 rfl (by simp[Tryz.f90]) (by kernel_rfl) ?_
 intro E hP hr hs hW hN
 have cs:=EU e
 have ie:=dW e
 have hc:(gB e n).cells=[iv n,iv e.Day,iv 1,iv (if fe e=true∧e.From≠0 then 230 else if e.To=0 then 510 else 110),iv (if fe e=true∧e.From=0 then 230 else if e.To=0 then 110 else 410),iv e.Amount,iv 0,iv e.Ref]:=rfl
 rw[hc]
 rw[cE]at cs ie
 by_cases h3:e.To=0
 ·have d3:decide (e.To=0)=true:=decide_eq_true h3
  simp -dsimp -implicitDefEqProofs [-getElem?_pos,go_sem,hP,cE,d3]
  refine ae (cs.lift _ _) hP Kx (by simpa using ie) .sc ?_
  cases h1:fe e
  ·simp -dsimp -implicitDefEqProofs [-getElem?_pos,go_sem,hP]
   exact done (by simp -dsimp[-getElem?_pos,go_sem]) rfl (by simp -dsimp[-getElem?_pos,go_sem,h3])
  ·by_cases h4:e.From=0
   ·have d4:decide (e.From=0)=true:=decide_eq_true h4
    simp -dsimp -implicitDefEqProofs [-getElem?_pos,go_sem,hP,d4]
    exact done (by simp -dsimp[-getElem?_pos,go_sem]) rfl (by simp -dsimp[-getElem?_pos,go_sem,h3,h4])
   ·have d4:decide (e.From=0)=false:=decide_eq_false h4
    simp -dsimp -implicitDefEqProofs [-getElem?_pos,go_sem,hP,d4]
    exact done (by simp -dsimp[-getElem?_pos,go_sem]) rfl (by simp -dsimp[-getElem?_pos,go_sem,h3,h4])
 ·have d3:decide (e.To=0)=false:=decide_eq_false h3
  simp -dsimp -implicitDefEqProofs [-getElem?_pos,go_sem,hP,cE,d3]
  refine ae (cs.lift _ _) hP Kx (by simpa using ie) .sc ?_
  cases h1:fe e
  ·simp -dsimp -implicitDefEqProofs [-getElem?_pos,go_sem,hP]
   exact done (by simp -dsimp[-getElem?_pos,go_sem]) rfl (by simp -dsimp[-getElem?_pos,go_sem,h3])
  ·by_cases h4:e.From=0
   ·have d4:decide (e.From=0)=true:=decide_eq_true h4
    simp -dsimp -implicitDefEqProofs [-getElem?_pos,go_sem,hP,d4]
    exact done (by simp -dsimp[-getElem?_pos,go_sem]) rfl (by simp -dsimp[-getElem?_pos,go_sem,h3,h4])
   ·have d4:decide (e.From=0)=false:=decide_eq_false h4
    simp -dsimp -implicitDefEqProofs [-getElem?_pos,go_sem,hP,d4]
    exact done (by simp -dsimp[-getElem?_pos,go_sem]) rfl (by simp -dsimp[-getElem?_pos,go_sem,h3,h4])
def cB (b:Int):List TPosting→List TEntry→List TPosting
 |out,[]=>out
 |out,e::l=>cB b (if jb e=true then out++[gB e (b+(out.length:Int)+1)]else out) l
theorem yY (l:List TEntry) (b:Int) (hl:l.length≤100000) (hb:0≤b∧b≤100000):PFun Tryz.prog none none 39 [bM l,iv b] (·=dq (cB b [] l)):=by
 refine ab Tryz.func39 rfl (by simp[Tryz.f39]) (by kernel_rfl) ?_
 intro E hP hr hs hW hN
 have ie:=iK l
 simp -dsimp -implicitDefEqProofs [-getElem?_pos,go_sem,hP]
 refine fC 5 77 8 (by simp -dsimp[-getElem?_pos,go_sem]) ?_
 obtain⟨I,hI⟩:∃I:Nat→St→Prop,I=fun m s=>∃(k id:Nat) (out:List TPosting),k≤l.length∧m=l.length-k∧cB b [] l=cB b out (l.drop k)∧out.length≤k∧s.t 1=iv b∧s.t 8=bM l∧s.t 9=iv l.length∧s.t 10=iv k∧s.t 5= .sref id 0 out.length∧s.H[id]?=some (some ⟨77,8,aj TPosting.cells out⟩):=⟨_,rfl⟩
 refine yr 5 hW I (l.length) (by rw[hN];rfl) ?_ ?_
 ·rw[hI]
  exact⟨0,0,[],by omega,by omega,by simp,by simp,by simp -dsimp[-getElem?_pos,go_sem],by simp -dsimp[-getElem?_pos,go_sem],by simp -dsimp[-getElem?_pos,go_sem],by simp -dsimp[-getElem?_pos,go_sem],by simp -dsimp[-getElem?_pos,go_sem],by simp -dsimp[-getElem?_pos,go_sem,aj]⟩
 intro m s hs'
 rw[hI]at hs'
 obtain⟨k,id,out,hk,hm,hgo,hol,t1,t8,t9,t10,t5,hH⟩:=hs'
 have hlt:=(gsI hH)
 simp -dsimp -implicitDefEqProofs [-getElem?_pos,go_sem,hP,t9,t10]
 refine aB (fun h=>?_) (fun h=>?_)
 ·have hk:k<l.length:=by simpa using h
  obtain⟨e,he⟩:∃e,l[k]?=some e:=⟨_,List.getElem?_eq_getElem hk⟩
  have wk:=af ((k:Int)+1) (by omega)
  have w1:=af (b+(out.length:Int)) (by omega)
  have w2:=af (b+(out.length:Int)+1) (by omega)
  have hd:l.drop k=e::l.drop (k+1):=by
   obtain⟨h2,h3⟩:=List.getElem?_eq_some_iff.1 he
   rw[List.drop_eq_getElem_cons h2,h3]
  rw[hd,cB]at hgo
  have iee:=dW e
  have co:=JH e
  have cp:=zW e (b+(out.length:Int)+1)
  rw[cE]at iee co cp
  simp -dsimp -implicitDefEqProofs [-getElem?_pos,go_sem,hP,t8,t10,he,cE]
  refine ae (co.lift _ _) hP Pr (by simpa using iee) .sc ?_
  cases ho:jb e
  ·rw[ho,if_neg (by simp)]at hgo
   simp -dsimp -implicitDefEqProofs [-getElem?_pos,go_sem,hP,t10,wk]
   refine⟨l.length-(k+1),by omega,?_⟩
   rw[hI]
   exact⟨k+1,id,out,by omega,rfl,hgo,by omega,by simp -dsimp[-getElem?_pos,go_sem,t1],by simp -dsimp[-getElem?_pos,go_sem,t8],by simp -dsimp[-getElem?_pos,go_sem,t9],by simp -dsimp[-getElem?_pos,go_sem],by simp -dsimp[-getElem?_pos,go_sem,t5],by simp -dsimp[-getElem?_pos,go_sem,List.getElem?_append_left hlt,hH]⟩
  ·rw[ho,if_pos rfl]at hgo
   obtain⟨np,hnp⟩:∃np,np=gB e (b+(out.length:Int)+1):=⟨_,rfl⟩
   rw[←hnp]at cp hgo
   have inp:=az.2 np.imm
   rw[cP]at cp inp
   have hb2:=(List.getElem?_append_left (l₂:=[some ⟨75,6,[[iv e.Number,iv e.Day,iv e.From,iv e.To,iv e.Amount,iv e.Ref]]⟩]) hlt).trans hH
   simp -dsimp -implicitDefEqProofs [-getElem?_pos,go_sem,hP,t5,hH,hb2,t1,w1,w2]
   refine ae (cp.lift _ _) hP O8 (by simpa[ar]using iee) inp ?_
   simp -dsimp -implicitDefEqProofs [-getElem?_pos,go_sem,hP,t5,hH,hb2,hlt,t10,wk]
   refine⟨by omega,by omega,?_⟩
   refine⟨l.length-(k+1),by omega,?_⟩
   rw[hI]
   exact⟨k+1,s.H.length+1,out++[np],by omega,rfl,hgo,by simp;omega,by simp -dsimp[-getElem?_pos,go_sem,t1],by simp -dsimp[-getElem?_pos,go_sem,t8],by simp -dsimp[-getElem?_pos,go_sem,t9],by simp -dsimp[-getElem?_pos,go_sem],by simp -dsimp[-getElem?_pos,go_sem],by rw[←aV];simp -dsimp -implicitDefEqProofs [-getElem?_pos,go_sem,cP]⟩
 ·have hk:k=l.length:=by simp at h;omega
  subst hk
  rw[List.drop_length,cB]at hgo
  refine frz id _ 77 8 (aj TPosting.cells out) t5 hH (by rw[al]) (fE out) ?_
  simp -dsimp -implicitDefEqProofs [-getElem?_pos,go_sem,hP]
  rw[hgo]
  exact au (fE out) rfl
open Go.PA
open Go.RowKit
theorem pW (q:TPosting):∀(l:List TPosting) (k:Nat) (d:Int),dM k d (l++[q])=(dM k d l&&(decide (q.Number=((k+l.length:Nat):Int)+1)&&decide ((l.getLast?.map (·.Day)).getD d≤q.Day)))
 |[],k,d=>by simp[dM];rfl
 |p::l,k,d=>by
  have ih:=pW q l (k+1) p.Day
  have e1:(((p::l).getLast?.map (·.Day)).getD d)=(l.getLast?.map (·.Day)).getD p.Day:=by
   cases l with
   |nil=>rfl
   |cons b l=>
    rw[List.getLast?_cons_cons]
    rw[List.getLast?_eq_some_getLast (by simp)]
    rfl
  rw[List.cons_append,dM,ih,dM,e1,List.length_cons,show k+1+l.length=k+(l.length+1)from by omega]
  simp only[Bool.and_assoc]
theorem uM {l:List TPosting} {q:TPosting} (h:(dC l q).2=0):bX l=0∧PostOk q∧q.Number=(l.length:Int)+1∧xM l≤q.Day∧l.length<400∧(dC l q).1=l++[q]∧bX (l++[q])=0:=by
 unfold dC at h⊢
 by_cases c1:bX l=0
 rotate_left
 ·rw[if_neg c1]at h;exact absurd h c1
 rw[if_pos c1]at h⊢
 split at h
 ·cases h
 rename_i c2
 split at h
 ·cases h
 rename_i c3
 split at h
 ·cases h
 rename_i c4
 split at h
 ·cases h
 rename_i c5
 rw[if_neg c2,if_neg c3,if_neg c4,if_neg c5]
 obtain⟨k1,k2,k3⟩:=nw c1
 have hq:PostOk q:=(gC q).1 (by simpa using c2)
 have c4':q.Number=(l.length:Int)+1:=by omega
 refine⟨c1,hq,c4',by omega,by omega,rfl,?_⟩
 have hl:(l++[q]).length=l.length+1:=by simp
 rw[bX,if_neg (by omega),if_neg,if_pos]
 ·rw[pW,k3,Bool.true_and,decide_eq_true (by rw[c4'];simp),Bool.true_and]
  have hle:xM l≤q.Day:=by omega
  exact decide_eq_true hle
 ·intro h
  obtain⟨p,hp,hb⟩:=List.any_eq_true.1 h
  rcases List.mem_append.1 hp with hp|hp
  ·rw[(gC p).2 (k2 p hp)]at hb;cases hb
  ·simp at hp;subst hp
   rw[(gC p).2 hq]at hb;cases hb
open Go.PA
open Go.RowKit
def jV:List TPosting→List TPosting→List TPosting×Int
 |L,[]=>(L,0)
 |L,p::l=>if (dC L p).2=0 then jV (dC L p).1 l else (L,(dC L p).2)
def oe (s:TState) (n:Nat):TState×Int:=
 let r:=jV s.Ledger.Postings (cB (s.Ledger.Postings.length:Int) [] (s.Desk.Account.Entries.drop n))
 (⟨s.Desk,s.Cash,s.Register,⟨r.1⟩⟩,r.2)
theorem xE {L:List TPosting} {p:TPosting} (h:(dC L p).2=0):(dC L p).1.length≤400:=by
 have o:=uM h
 rw[o.2.2.2.2.2.1]
 exact (nw o.2.2.2.2.2.2).1
open Go.PA
open Go.RowKit
open Go.PA
open Go.RowKit
theorem Int.imm (n:Int) (c:AV) (h:c∈bg n):Imm c:=by
 simp[bg]at h
 subst h
 exact .sc
open Go.PA
open Go.RowKit
theorem LY {d:TDesk} (h:DOk d):FitD d:=by
 have c:=rj h.a
 have hk:=congrArg List.length h.k
 have:=h.q.lk
 have:=h.q.lw
 have:=h.q.lb
 rw[List.length_map]at hk
 exact⟨c.1,c.2,⟨by omega,by omega,by omega,fun b hb=>by have:=(jg h.q.bats b hb).2.1;omega⟩,by omega⟩
theorem zY {r:TRegister} {m:TMove} (h:RegOk r (dR r)) (hm:sM r m=0) (hn:m.Number=(r.Moves.length:Int)+1) (hk:1≤m.Kind∧m.Kind≤3) (hl:r.Moves.length<400):RegOk (jc r m) (dR (jc r m)):=by
 have e:dR (jc r m)=m.Day:=by simp[dR,jc]
 rw[e]
 exact⟨h.secs,h.slen,by
  have:=Runs.snoc h.run (m:=m) ⟨hn,hk,hm⟩
  unfold jc
  simp only[pg]at this
  simpa using this,by unfold jc;simp;omega⟩
structure Kp (j:Nat) (s t:TState):Prop where
 f:FitS j t
 e:s.Desk.Account.Entries.length≤t.Desk.Account.Entries.length
theorem uH {j:Nat} {s:TState} {day f t n:Int} (hf:FitS j s) (h:(fH s day f t n).2=0):Kp j s (fH s day f t n).1:=by
 unfold fH at h⊢
 split at h
 ·rename_i hp
  rw[if_pos hp]
  have c:=rj (fX hp)
  have e:=gO hp
  obtain⟨h1,h2,h3,h4,h5,h6⟩:=hf
  refine⟨⟨⟨c.1,c.2,h1.q,h1.i⟩,h2,h3,h4,h5,h6⟩,?_⟩
  show _≤(bw s.Desk.Account (bO s.Desk.Account day f t n 0)).1.Entries.length
  rw[e]
  simp
 ·rename_i hp
  exact absurd h hp
theorem m8 {j:Nat} {s:TState} {d:TDesk} {e:Int} (hf:FitS j s) (h:(fk s d e).2=0) (hd:e=0→DOk d∧s.Desk.Account.Entries.length≤d.Account.Entries.length):Kp j s (fk s d e).1:=by
 unfold fk at h⊢
 split at h
 ·rename_i he
  rw[if_pos he]
  obtain⟨h1,h2⟩:=hd he
  exact⟨⟨LY h1,hf.c,hf.cl,hf.r,hf.rm,hf.l⟩,h2⟩
 ·rename_i he
  exact absurd h he
theorem FitS.mono {j k:Nat} {s:TState} (h:FitS j s) (hk:j≤k):FitS k s:=⟨h.d,h.c,h.cl,h.r,Nat.le_trans h.rm hk,h.l⟩
theorem Bl {j:Nat} {s:TState} {d:TDeed} (hf:FitS j s) (h:(fP s d).2=0):Kp j s (fP s d).1:=by
 unfold fP at h⊢
 split at h
 ·simp at h
 ·rename_i h1
  rw[if_neg h1]
  split at h
  ·rename_i h2
   rw[if_pos h2]
   have k:=uH (j:=j) (s:=⟨s.Desk,csh (s.Cash.Incomes++[yG s d]),s.Register,s.Ledger⟩) ⟨hf.d,rfl,Kf hf.cl h2,hf.r,hf.rm,hf.l⟩ h
   exact⟨k.f,k.e⟩
  ·rename_i h2
   exact absurd h h2
theorem Br {j:Nat} {s:TState} {day kind ref f0 t0 n f t n1:Int} (hf:FitS j s) (hj:j<400) (hk:1≤kind∧kind≤3) (h:(jB s (eU s.Register day kind ref f0 t0 n) (sM s.Register (eU s.Register day kind ref f0 t0 n)) f t n1).2=0):Kp (j+1) s (jB s (eU s.Register day kind ref f0 t0 n) (sM s.Register (eU s.Register day kind ref f0 t0 n)) f t n1).1:=by
 unfold jB at h⊢
 split at h
 ·rename_i he
  rw[if_pos he]
  have hm:=hf.rm
  have r2:=zY hf.r he rfl hk (by omega)
  have k:=uH (j:=j+1) (s:=⟨s.Desk,s.Cash,jc s.Register (eU s.Register day kind ref f0 t0 n),s.Ledger⟩) ⟨hf.d,hf.c,hf.cl,r2,by simp[jc];omega,hf.l⟩ h
  exact⟨k.f,k.e⟩
 ·rename_i he
  exact absurd h he
theorem HE {j:Nat} {s:TState} {d:TDeed} (hf:FitS j s) (hj:j<400) (h:(doK s d).2=0):Kp (j+1) s (doK s d).1:=by
 have up:∀{t:TState},Kp j s t→Kp (j+1) s t:=fun k=>⟨k.f.mono (by omega),k.e⟩
 unfold doK at h⊢
 split at h
 ·rename_i c1
  rw[if_pos c1]
  exact up (Bl hf h)
 rename_i c1
 rw[if_neg c1]
 split at h
 ·rename_i c2
  rw[if_pos c2]
  refine up (m8 hf h fun he=>?_)
  have:=yc (show cY s.Desk (sV d)=((cY s.Desk (sV d)).1,0)from Prod.ext rfl he)
  refine⟨this.2.2.2.2,?_⟩
  rw[this.2.2.2.1]
  exact Nat.le_refl _
 rename_i c2
 rw[if_neg c2]
 split at h
 ·rename_i c3
  rw[if_pos c3]
  refine up (m8 hf h fun he=>?_)
  have:=AC (show dw s.Desk d.Day=((dw s.Desk d.Day).1,(dw s.Desk d.Day).2.1,0)from Prod.ext rfl (Prod.ext rfl he))
  obtain⟨_,_,_,_,ps,a,_,_,_,_,_,hs,_,hx,hd⟩:=this
  refine⟨hd,?_⟩
  obtain⟨es,he2,_⟩:=hs.ents
  rw[hx]
  show _≤a.Entries.length
  rw[he2]
  simp
 rename_i c3
 rw[if_neg c3]
 split at h
 ·rename_i c4
  rw[if_pos c4]
  refine up (m8 hf h fun he=>?_)
  obtain⟨_,⟨k,y,_,_,_,hx⟩,hd⟩:=ur (show dX s.Desk d.Ref=((dX s.Desk d.Ref).1,0)from Prod.ext rfl he)
  refine⟨hd,?_⟩
  rw[hx]
  exact Nat.le_refl _
 rename_i c4
 rw[if_neg c4]
 split at h
 ·rename_i c5
  rw[if_pos c5]
  refine up (m8 hf h fun he=>?_)
  obtain⟨_,⟨k,y,_,_,_,hp,hx⟩,hd⟩:=uu (show dY s.Desk d.Ref d.Day=((dY s.Desk d.Ref d.Day).1,0)from Prod.ext rfl he)
  refine⟨hd,?_⟩
  rw[hx]
  show _≤(bw s.Desk.Account _).1.Entries.length
  rw[gO hp]
  simp
 rename_i c5
 rw[if_neg c5]
 split at h
 ·rename_i c6
  rw[if_pos c6]
  refine up (m8 hf h fun he=>?_)
  obtain⟨_,⟨k,y,_,_,_,hx⟩,hd⟩:=vI (show dV s.Desk d.Ref=((dV s.Desk d.Ref).1,0)from Prod.ext rfl he)
  refine⟨hd,?_⟩
  rw[hx]
  exact Nat.le_refl _
 rename_i c6
 rw[if_neg c6]
 split at h
 ·rename_i c7
  rw[if_pos c7]
  exact Br hf hj (by omega) h
 rename_i c7
 rw[if_neg c7]
 split at h
 ·rename_i c8
  rw[if_pos c8]
  exact Br hf hj (by omega) h
 rename_i c8
 rw[if_neg c8]
 split at h
 ·rename_i c9
  rw[if_pos c9]
  split at h
  ·simp at h
  ·rename_i c0
   rw[if_neg c0]
   exact up (uH hf h)
 ·simp at h
def doS (s:TState) (d:TDeed):TState×Int:=
 if (doK s d).2=0 then (if (oe (doK s d).1 s.Desk.Account.Entries.length).2=0 then ((oe (doK s d).1 s.Desk.Account.Entries.length).1,0)else (dh,(oe (doK s d).1 s.Desk.Account.Entries.length).2))else (dh,(doK s d).2)
theorem ut:∀(l L:List TPosting),L.length≤400→(jV L l).1.length≤400
 |[],L,h=>h
 |p::l,L,h=>by
  rw[jV]
  split
  ·rename_i hp
   exact ut l _ (xE hp)
  ·exact h
theorem Me {j:Nat} {s:TState} {d:TDeed} (hf:FitS j s) (hj:j<400) (h:(doS s d).2=0):FitS (j+1) (doS s d).1:=by
 unfold doS at h⊢
 split at h
 ·rename_i h1
  rw[if_pos h1]
  have k:=HE hf hj h1
  split at h
  ·rename_i h2
   rw[if_pos h2]
   obtain⟨f1,f2,f3,f4,f5,f6⟩:=k.f
   exact⟨f1,f2,f3,f4,f5,ut _ _ f6⟩
  ·rename_i h2
   exact absurd h h2
 ·rename_i h1
  exact absurd h h1
open Go.PA
open Go.RowKit
theorem cS {H:ac}:CW H [iv 0,.nil,.nil,.nil,.nil,.nil,.nil,.nil,.nil,.nil,.nil,.nil,.nil,.nil,.nil] dh.cells:=
 xN (bS (bS (bS (bS (bS (bS (bS (bS (bS (bS (bS (bS (bS (bS .nil))))))))))))))
abbrev yz (l:List TDeed):AV:= .list 7 (aj TDeed.cells l)
theorem qM (l:List TDeed):Imm (yz l):=aP _ TDeed.imm _
open Go.PA
open Go.RowKit
def RQ (lo hi:Int) (x:AV):Prop:=∃m:Int,x=iv m∧lo≤m∧m≤hi
theorem sD {lo hi:Int} (h:lo≤hi):∃r,RQ lo hi r∧Imm r:=⟨_,⟨lo,rfl,by omega,h⟩,.sc⟩
theorem Hb (p:Nat) (src:Option Nat) (lo hi:Int) (h1: -1000000000000000000≤lo∧lo≤hi) (h2:hi≤1000000000000000000):PFun Tryz.prog (some p) src 59 [sp p,iv lo,iv hi] (RQ lo hi):=
 (Ib p src lo hi (by omega) (by omega)).mono fun x h=>by
  obtain⟨m,rfl,h3,_⟩:=h
  exact⟨m,rfl,h3 h1.2⟩
def PQ (xs:List Int) (x:AV):Prop:=∃m:Int,x=iv m∧m∈xs
theorem mW {xs:List Int} (h:xs≠[]):∃r,PQ xs r∧Imm r:=by
 cases xs with
 |nil=>exact absurd rfl h
 |cons a l=>exact⟨_,⟨a,rfl,by simp⟩,.sc⟩
theorem Bi (p:Nat) (src:Option Nat) (xs:List Int) (h:1≤xs.length∧xs.length≤1000):PFun Tryz.prog (some p) src 9 [sp p,aC xs] (PQ xs):=KS p src xs h
open Go.PA
open Go.RowKit
def re (d:Int):Int:=if d%7=5 then d+2 else if d%7=6 then d+1 else d
theorem EG (d:Int):d≤re d∧re d≤d+2:=by
 unfold re
 repeat' split
 all_goals omega
theorem z5 (d:Int) (h:0≤d∧d≤30000):PFun Tryz.prog none none 60 [iv d] (·=iv (re d)):=by
 refine ab Tryz.func60 rfl (by simp[Tryz.f60]) (by kernel_rfl) ?_
 intro E hP hr hs hW hN
 simp -dsimp -implicitDefEqProofs [-getElem?_pos,go_sem,hP]
 obtain⟨I,hI⟩:∃I:Nat→St→Prop,I=fun m s=>∃x:Int,d≤x∧re d=re x∧((m:Nat):Int)+x=d+3∧s.t 0=iv x:=⟨_,rfl⟩
 refine ay I (3) (by rw[hN];rfl) ?_ ?_
 ·rw[hI]
  exact⟨d,by omega,rfl,by omega,by simp -dsimp[-getElem?_pos,go_sem]⟩
 intro m s hs'
 rw[hI]at hs'
 obtain⟨x,hx,hb,hm,t0⟩:=hs'
 have e:x.tmod 7=x%7:=Int.tmod_eq_emod_of_nonneg (by omega)
 have w:=af (x%7) (by omega)
 have w1:=af (x+1) (by omega)
 by_cases c:4<x%7
 ·have d1:decide (4<x%7)=true:=decide_eq_true c
  have:=EG x
  have:=EG d
  have hne:re x≠x:=by
   unfold re
   repeat' split
   all_goals omega
  have hb':re x=re (x+1):=by
   unfold re
   repeat' split
   all_goals omega
  simp -dsimp -implicitDefEqProofs [-getElem?_pos,go_sem,hP,t0,e,w,d1,w1]
  refine⟨m-1,by omega,?_⟩
  rw[hI]
  exact⟨x+1,by omega,hb.trans hb',by omega,by simp -dsimp[-getElem?_pos,go_sem]⟩
 ·have d1:decide (4<x%7)=false:=decide_eq_false c
  have hb':re x=x:=by
   unfold re
   repeat' split
   all_goals omega
  simp -dsimp -implicitDefEqProofs [-getElem?_pos,go_sem,hP,t0,e,w,d1]
  rw[hb,hb']
open Go.PA
open Go.RowKit
def jO:List TSecurity:=[⟨1,100,0,7200,5000,6,false⟩,⟨2,100,90,450,0,0,false⟩]
theorem Jn (p:Nat) (src:Option Nat):PFun Tryz.prog (some p) src 10 [sp p] (·=bT jO):=by
 refine ab Tryz.func10 rfl (by simp[Tryz.f10]) (by kernel_rfl) ?_
 intro E hP hr hs hW hN
 simp -dsimp -implicitDefEqProofs [-getElem?_pos,go_sem,hP]
 exact au (iH jO) rfl
def Mn (x:AV):Prop:=∃d:TDeed,x= .agg d.cells
theorem I6:∃r,Mn r∧Imm r:=⟨_,⟨⟨0,0,0,0,0,0,0⟩,rfl⟩,az.2 (TDeed.imm _)⟩
set_option maxHeartbeats 4000000 in
theorem Kq (p:Nat) (src:Option Nat) (day:Int) (hd:0≤day∧day≤30000):PFun Tryz.prog (some p) src 23 [sp p,iv day] Mn:=by
 refine ab Tryz.func23 rfl (by simp[Tryz.f23]) (by kernel_rfl) ?_
 intro E hP hr hs hW hN
 have up:∀{f:FuncId} {args:List AV} {Q:AV→Prop},PFun Tryz.prog (some p) src f args Q→PFun Tryz.prog E.row E.src f args Q:=fun h=>hr▸hs▸h
 have fin:∀d:TDeed,Imm (.agg d.cells):=fun d=>az.2 d.imm
 have am:qU [iv day,iv 100]=some (iv (max day 100)):=by simp[qU,fA]
 have RG:∀lo hi:Int, -1000000000000000000≤lo∧lo≤hi→hi≤1000000000000000000→PFun Tryz.prog E.row E.src 59 [sp p,iv lo,iv hi] (RQ lo hi):=fun lo hi h1 h2=>up (Hb p src lo hi h1 h2)
 have PK:∀xs:List Int,1≤xs.length∧xs.length≤1000→PFun Tryz.prog E.row E.src 9 [sp p,aC xs] (PQ xs):=fun xs h=>up (Bi p src xs h)
 simp -dsimp -implicitDefEqProofs [-getElem?_pos,go_sem,hP]
 refine aZ (RG 1 8 (by omega) (by omega)) hP rP (by simp -dsimp[-getElem?_pos,go_sem]) (sD (by omega)) ?_
 rintro r ⟨w,rfl,hw⟩ _
 simp -dsimp -implicitDefEqProofs [-getElem?_pos,go_sem,hP]
 refine aZ (RG 1 9 (by omega) (by omega)) hP rP (by simp -dsimp[-getElem?_pos,go_sem]) (sD (by omega)) ?_
 rintro r ⟨k,rfl,hk⟩ _
 by_cases c1:k=1
 ·subst c1
  simp -dsimp -implicitDefEqProofs [-getElem?_pos,go_sem,hP,am]
  refine aZ (PK [2,3,7] (by simp)) hP uQ (by simp -dsimp[-getElem?_pos,go_sem]) (mW (by simp)) ?_
  rintro r ⟨_,rfl,_⟩ _
  simp -dsimp -implicitDefEqProofs [-getElem?_pos,go_sem,hP]
  refine aZ (RG 1 3 (by omega) (by omega)) hP rP (by simp -dsimp[-getElem?_pos,go_sem]) (sD (by omega)) ?_
  rintro r ⟨_,rfl,_⟩ _
  simp -dsimp -implicitDefEqProofs [-getElem?_pos,go_sem,hP]
  refine aZ (PK [0,0,4] (by simp)) hP uQ (by simp -dsimp[-getElem?_pos,go_sem]) (mW (by simp)) ?_
  rintro r ⟨_,rfl,_⟩ _
  simp -dsimp -implicitDefEqProofs [-getElem?_pos,go_sem,hP]
  refine aZ (PK [10,100,400] (by simp)) hP uQ (by simp -dsimp[-getElem?_pos,go_sem]) (mW (by simp)) ?_
  rintro r ⟨_,rfl,_⟩ _
  simp -dsimp -implicitDefEqProofs [-getElem?_pos,go_sem,hP]
  exact au (fin ⟨_,_,_,_,_,_,_⟩) ⟨⟨_,_,_,_,_,_,_⟩,rfl⟩
 have d1:decide (k=1)=false:=decide_eq_false c1
 by_cases c2:k=2
 ·subst c2
  simp -dsimp -implicitDefEqProofs [-getElem?_pos,go_sem,hP,am]
  refine aZ (RG 1 4 (by omega) (by omega)) hP rP (by simp -dsimp[-getElem?_pos,go_sem]) (sD (by omega)) ?_
  rintro r ⟨_,rfl,_⟩ _
  simp -dsimp -implicitDefEqProofs [-getElem?_pos,go_sem,hP]
  refine aZ (PK [1,2,3,7] (by simp)) hP uQ (by simp -dsimp[-getElem?_pos,go_sem]) (mW (by simp)) ?_
  rintro r ⟨_,rfl,_⟩ _
  simp -dsimp -implicitDefEqProofs [-getElem?_pos,go_sem,hP]
  refine aZ (PK [5,30,90] (by simp)) hP uQ (by simp -dsimp[-getElem?_pos,go_sem]) (mW (by simp)) ?_
  rintro r ⟨_,rfl,_⟩ _
  simp -dsimp -implicitDefEqProofs [-getElem?_pos,go_sem,hP]
  exact au (fin ⟨_,_,_,_,_,_,_⟩) ⟨⟨_,_,_,_,_,_,_⟩,rfl⟩
 have d2:decide (k=2)=false:=decide_eq_false c2
 by_cases c3:k=3
 ·subst c3
  simp -dsimp -implicitDefEqProofs [-getElem?_pos,go_sem,hP,am]
  refine ae ((z5 day hd).lift _ _) hP Pj (by simp -dsimp[-getElem?_pos,go_sem]) .sc ?_
  simp -dsimp -implicitDefEqProofs [-getElem?_pos,go_sem,hP]
  exact au (fin ⟨_,_,_,_,_,_,_⟩) ⟨⟨_,_,_,_,_,_,_⟩,rfl⟩
 have d3:decide (k=3)=false:=decide_eq_false c3
 by_cases c4:k=4
 ·subst c4
  simp -dsimp -implicitDefEqProofs [-getElem?_pos,go_sem,hP,am]
  exact au (fin ⟨_,_,_,_,_,_,_⟩) ⟨⟨_,_,_,_,_,_,_⟩,rfl⟩
 have d4:decide (k=4)=false:=decide_eq_false c4
 by_cases c5:k=5
 ·subst c5
  simp -dsimp -implicitDefEqProofs [-getElem?_pos,go_sem,hP,am]
  exact au (fin ⟨_,_,_,_,_,_,_⟩) ⟨⟨_,_,_,_,_,_,_⟩,rfl⟩
 have d5:decide (k=5)=false:=decide_eq_false c5
 by_cases c6:k=6
 ·subst c6
  simp -dsimp -implicitDefEqProofs [-getElem?_pos,go_sem,hP,am]
  exact au (fin ⟨_,_,_,_,_,_,_⟩) ⟨⟨_,_,_,_,_,_,_⟩,rfl⟩
 have d6:decide (k=6)=false:=decide_eq_false c6
 by_cases c7:k=7
 ·subst c7
  simp -dsimp -implicitDefEqProofs [-getElem?_pos,go_sem,hP,am]
  refine aZ (RG 1 2 (by omega) (by omega)) hP rP (by simp -dsimp[-getElem?_pos,go_sem]) (sD (by omega)) ?_
  rintro r ⟨_,rfl,_⟩ _
  simp -dsimp -implicitDefEqProofs [-getElem?_pos,go_sem,hP]
  refine aZ (RG 1 3 (by omega) (by omega)) hP rP (by simp -dsimp[-getElem?_pos,go_sem]) (sD (by omega)) ?_
  rintro r ⟨_,rfl,_⟩ _
  simp -dsimp -implicitDefEqProofs [-getElem?_pos,go_sem,hP]
  refine aZ (PK [100,1000] (by simp)) hP uQ (by simp -dsimp[-getElem?_pos,go_sem]) (mW (by simp)) ?_
  rintro r ⟨_,rfl,_⟩ _
  simp -dsimp -implicitDefEqProofs [-getElem?_pos,go_sem,hP]
  exact au (fin ⟨_,_,_,_,_,_,_⟩) ⟨⟨_,_,_,_,_,_,_⟩,rfl⟩
 have d7:decide (k=7)=false:=decide_eq_false c7
 by_cases c8:k=8
 ·subst c8
  simp -dsimp -implicitDefEqProofs [-getElem?_pos,go_sem,hP,am]
  refine aZ (RG 1 2 (by omega) (by omega)) hP rP (by simp -dsimp[-getElem?_pos,go_sem]) (sD (by omega)) ?_
  rintro r ⟨_,rfl,_⟩ _
  simp -dsimp -implicitDefEqProofs [-getElem?_pos,go_sem,hP]
  refine aZ (RG 1 3 (by omega) (by omega)) hP rP (by simp -dsimp[-getElem?_pos,go_sem]) (sD (by omega)) ?_
  rintro r ⟨_,rfl,_⟩ _
  simp -dsimp -implicitDefEqProofs [-getElem?_pos,go_sem,hP]
  refine aZ (PK [100,1000] (by simp)) hP uQ (by simp -dsimp[-getElem?_pos,go_sem]) (mW (by simp)) ?_
  rintro r ⟨_,rfl,_⟩ _
  simp -dsimp -implicitDefEqProofs [-getElem?_pos,go_sem,hP]
  exact au (fin ⟨_,_,_,_,_,_,_⟩) ⟨⟨_,_,_,_,_,_,_⟩,rfl⟩
 have d8:decide (k=8)=false:=decide_eq_false c8
 simp -dsimp -implicitDefEqProofs [-getElem?_pos,go_sem,hP,d1,d2,d3,d4,d5,d6,d7,d8]
 refine aZ (PK [1,2,3] (by simp)) hP uQ (by simp -dsimp[-getElem?_pos,go_sem]) (mW (by simp)) ?_
 rintro r ⟨_,rfl,_⟩ _
 simp -dsimp -implicitDefEqProofs [-getElem?_pos,go_sem,hP]
 refine aZ (PK [1,2,7] (by simp)) hP uQ (by simp -dsimp[-getElem?_pos,go_sem]) (mW (by simp)) ?_
 rintro r ⟨_,rfl,_⟩ _
 simp -dsimp -implicitDefEqProofs [-getElem?_pos,go_sem,hP]
 refine aZ (PK [5,50] (by simp)) hP uQ (by simp -dsimp[-getElem?_pos,go_sem]) (mW (by simp)) ?_
 rintro r ⟨_,rfl,_⟩ _
 simp -dsimp -implicitDefEqProofs [-getElem?_pos,go_sem,hP]
 exact au (fin ⟨_,_,_,_,_,_,_⟩) ⟨⟨_,_,_,_,_,_,_⟩,rfl⟩
def J6 (n:Nat) (x:AV):Prop:=∃l:List TDeed,x=yz l∧l.length≤n
theorem Fi (n:Nat):∃r,J6 n r∧Imm r:=⟨_,⟨[],rfl,by simp⟩,qM []⟩
set_option maxHeartbeats 2000000 in
theorem Fb (p:Nat) (src:Option Nat) (n:Nat) (hn:n≤100):PFun Tryz.prog (some p) src 11 [sp p,iv n] (J6 n):=by
 refine ab Tryz.func11 rfl (by simp[Tryz.f11]) (by kernel_rfl) ?_
 intro E hP hr hs hW hN
 have up:∀{f:FuncId} {args:List AV} {Q:AV→Prop},PFun Tryz.prog (some p) src f args Q→PFun Tryz.prog E.row E.src f args Q:=fun h=>hr▸hs▸h
 have w1:=af ((n:Int)+1) (by omega)
 simp -dsimp -implicitDefEqProofs [-getElem?_pos,go_sem,hP,w1]
 refine di (up (Lo p src ((n:Int)+1) (by omega))) hP ET (ai (by simp -dsimp[-getElem?_pos,go_sem])) (O5 _) (Ld _) ?_
 rintro r ⟨z,rfl,_,hz⟩
 have hz:=hz (by omega)
 obtain⟨c,rfl⟩:∃c:Nat,z=c:=⟨z.toNat,by omega⟩
 simp -dsimp -implicitDefEqProofs [-getElem?_pos,go_sem,hP]
 refine fC 5 59 7 (by simp -dsimp[-getElem?_pos,go_sem]) ?_
 obtain⟨I,hI⟩:∃I:Nat→St→Prop,I=fun m s=>∃(id:Nat) (l:List TDeed) (day:Int),m≤c∧l.length+m=c∧0≤day∧day≤100+3*l.length∧s.t 0=sp p∧s.t 5= .sref id 0 l.length∧s.t 6=iv day∧s.t 7=iv m∧s.H[id]?=some (some ⟨59,7,aj TDeed.cells l⟩):=⟨_,rfl⟩
 refine ay I (c) (by rw[hN];rfl) ?_ ?_
 ·rw[hI]
  exact⟨0,[],100,by omega,by simp,by omega,by simp,by simp -dsimp[-getElem?_pos,go_sem],by simp -dsimp[-getElem?_pos,go_sem],by simp -dsimp[-getElem?_pos,go_sem],by simp -dsimp[-getElem?_pos,go_sem],by simp -dsimp[-getElem?_pos,go_sem,aj]⟩
 intro m s hs'
 rw[hI]at hs'
 obtain⟨id,l,day,hk,hl,hd0,hd1,t0,t5,t6,t7,hH⟩:=hs'
 have ltH:=(gsI hH)
 simp -dsimp -implicitDefEqProofs [-getElem?_pos,go_sem,hP,t7]
 refine aB (fun h=>?_) (fun h=>?_)
 ·have hm:0<m:=by simpa using h
  have wm:=af ((m:Int)-1) (by omega)
  simp -dsimp -implicitDefEqProofs [-getElem?_pos,go_sem,hP,t0,t6]
  refine aZ (up (Lo p src 3 (by omega))) hP ET (by simp -dsimp[-getElem?_pos,go_sem]) ⟨_,⟨0,rfl,by omega,by omega⟩,.sc⟩ ?_
  rintro r ⟨z,rfl,_,a3⟩ _
  have a3:=a3 (by omega)
  have wd:=af (day+z) (by omega)
  simp -dsimp -implicitDefEqProofs [-getElem?_pos,go_sem,hP,t5,t0,hH,wd]
  refine aZ (up (Kq p src (day+z) (by omega))) hP PL (by simp -dsimp[-getElem?_pos,go_sem]) I6 ?_
  rintro r ⟨d,rfl⟩ _
  have im:=az.2 d.imm
  rw[dH]at im
  simp -dsimp -implicitDefEqProofs [-getElem?_pos,go_sem,hP,t5,t0,hH,ltH,al,t7,wm,dH]
  refine⟨by omega,by omega,m-1,by omega,?_⟩
  rw[hI]
  refine⟨s.H.length,l++[d],day+z,by omega,by simp;omega,by omega,by simp;omega,by simp -dsimp[-getElem?_pos,go_sem,t0],by simp -dsimp[-getElem?_pos,go_sem],by simp -dsimp[-getElem?_pos,go_sem],?_,by simp -dsimp[-getElem?_pos,go_sem,aj,dH]⟩
  simp -dsimp -implicitDefEqProofs [-getElem?_pos,go_sem,hP]
  omega
 ·have hm:m=0:=by
   have:¬0<m:=by simpa using h
   omega
  simp -dsimp -implicitDefEqProofs [-getElem?_pos,go_sem,hP,t5]
  refine done (x:=yz l) ?_ ⟨l,rfl,by omega⟩ ?_<;>rw[gh,hH,fZ]
  ·rw[List.drop_zero,List.take_of_length_le (by simp[aj])]
   exact qM l
  ·rw[List.drop_zero,List.take_of_length_le (by simp[aj])]
end Go.Proofs.YtaenimpfelpafaaGreatDoor
set_option maxRecDepth 100000
namespace Go.Proofs.YtaenimpfelpafaaGreatDoor
open Go.PA
open Go.RowKit
theorem HU:PFun Tryz.prog none none 147 [.agg [iv 1,iv 100,iv 0,iv 7200,iv 5000,iv 6,bv false]] (·=bv true):=
 kL (mz (l:=[]) fun x hx=>by cases hx) (qK []) (yp []) 10000 60 (by kernel_rfl) (by kernel_rfl) none none
theorem Iv:PFun Tryz.prog none none 147 [.agg [iv 2,iv 100,iv 90,iv 450,iv 0,iv 0,bv false]] (·=bv true):=
 kL (mz (l:=[]) fun x hx=>by cases hx) (qK []) (yp []) 10000 60 (by kernel_rfl) (by kernel_rfl) none none
theorem LX {s:TSecurity} (h:s∈jO):PFun Tryz.prog none none 147 [.agg s.cells] (·=bv true):=by
 simp only[jO,List.mem_cons,List.not_mem_nil,or_false]at h
 rcases h with rfl|rfl
 ·exact HU
 ·exact Iv
theorem Cj (x:TSecurity) (l:List TSecurity) (id:Int):ek (x::l) id=if x.ID=id then (x,true)else ek l id:=by
 unfold ek j7
 rw[List.find?_cons]
 by_cases h:x.ID=id
 ·rw[decide_eq_true h,if_pos h]
 ·rw[decide_eq_false h,if_neg h]
theorem vu (r:TRegister) (id:Int) (hl:r.Securities.length≤100000):PFun Tryz.prog none none 146 [.agg r.cells,iv id] (·= .tup [.agg (ek r.Securities id).1.cells,bv (ek r.Securities id).2]):=by
 refine ab Tryz.func146 rfl (by simp[Tryz.f146]) (by kernel_rfl) ?_
 intro E hP hr hs hW hN
 obtain⟨R,hR'⟩:∃R,R=ek r.Securities id:=⟨_,rfl⟩
 rw[←hR']
 have ir:=az.2 r.imm
 rw[dU]at ir
 simp -dsimp -implicitDefEqProofs [-getElem?_pos,go_sem,hP,dU]
 obtain⟨I,hI⟩:∃I:Nat→St→Prop,I=fun m s=>∃k:Nat,k≤r.Securities.length∧m=r.Securities.length-k∧R=ek (r.Securities.drop k) id∧s.t 1=iv id∧s.t 4= .ref 1 0 0∧s.t 9=bT r.Securities∧s.t 10=iv r.Securities.length∧s.t 11=iv k∧s.H[1]?=some (some ⟨89,7,[[iv 0,iv 0,iv 0,iv 0,iv 0,iv 0,bv false]]⟩):=⟨_,rfl⟩
 refine ay I (r.Securities.length) (by rw[hN];rfl) ?_ ?_
 ·rw[hI]
  exact⟨0,by omega,by omega,by rw[List.drop_zero,hR'],by simp -dsimp[-getElem?_pos,go_sem],by simp -dsimp[-getElem?_pos,go_sem],by simp -dsimp[-getElem?_pos,go_sem],by simp -dsimp[-getElem?_pos,go_sem],by simp -dsimp[-getElem?_pos,go_sem],by simp -dsimp[-getElem?_pos,go_sem]⟩
 intro m s hs'
 rw[hI]at hs'
 obtain⟨k,hk,hm,hq,t1,t4,t9,t10,t11,g1⟩:=hs'
 have l1:=(gsI g1)
 simp -dsimp -implicitDefEqProofs [-getElem?_pos,go_sem,hP,t10,t11]
 refine aB (fun hh=>?_) (fun hh=>?_)
 ·have hk:k<r.Securities.length:=by simpa using hh
  obtain⟨x,hx⟩:∃x,r.Securities[k]?=some x:=⟨_,List.getElem?_eq_getElem hk⟩
  have wk:=af ((k:Int)+1) (by omega)
  have hd:r.Securities.drop k=x::r.Securities.drop (k+1):=by
   obtain⟨h2,h3⟩:=List.getElem?_eq_some_iff.1 hx
   rw[List.drop_eq_getElem_cons h2,h3]
  have ix:=az.2 x.imm
  rw[kS]at ix
  rw[hd,Cj]at hq
  have g1':∀Y:List (Option AObj),(s.H++Y)[1]?=_:=fun Y=>(List.getElem?_append_left l1).trans g1
  have l11:1<s.H.length+1:=by omega
  have nl:¬s.H.length=1:=by omega
  have nl':¬1=s.H.length:=by omega
  by_cases c1:x.ID=id
  ·rw[if_pos c1]at hq
   have d1:decide (x.ID=id)=true:=decide_eq_true c1
   simp -dsimp -implicitDefEqProofs [-getElem?_pos,go_sem,hP,t9,t11,hx,kS,t1,d1,t4,g1',l11,nl,nl']
   rw[hq,kS]
   exact au (ak ix .sc) rfl
  ·rw[if_neg c1]at hq
   have d1:decide (x.ID=id)=false:=decide_eq_false c1
   simp -dsimp -implicitDefEqProofs [-getElem?_pos,go_sem,hP,t9,t11,hx,kS,t1,d1,wk]
   refine⟨r.Securities.length-(k+1),by omega,?_⟩
   rw[hI]
   exact⟨k+1,by omega,rfl,hq,by simp -dsimp[-getElem?_pos,go_sem,t1],by simp -dsimp[-getElem?_pos,go_sem,t4],by simp -dsimp[-getElem?_pos,go_sem,t9],by simp -dsimp[-getElem?_pos,go_sem,t10],by simp -dsimp[-getElem?_pos,go_sem],by simp -dsimp[-getElem?_pos,go_sem,g1']⟩
 ·have hk:k=r.Securities.length:=by simp at hh;omega
  subst hk
  rw[List.drop_length]at hq
  have hz:R=(vW,false):=hq
  simp -dsimp -implicitDefEqProofs [-getElem?_pos,go_sem,hP,t4,g1,l1]
  rw[hz]
  exact au (ak (az.2 vW.imm) .sc) rfl
set_option maxHeartbeats 2000000 in
theorem Eu (l:List THolding) (id h n:Int) (srt:l.Pairwise hR) (hl:l.length≤100000) (hb: -1000000000000000≤gz l id h+n∧gz l id h+n≤1000000000000000):PFun Tryz.prog none none 299 [bz l,iv id,iv h,iv n] (·=bz (mc l id h n)):=by
 refine ab Tryz.func299 rfl (by simp[Tryz.f299]) (by kernel_rfl) ?_
 intro E hP hr hs hW hN
 have ih:=bI l
 have hd0:=A2 l id h hl
 have w0:=af (gz l id h+n) (by omega)
 have fin:=ED (id:=id) (h:=h) (n:=n) srt
 obtain⟨q,hq⟩:∃q,q=gz l id h+n:=⟨_,rfl⟩
 obtain⟨T,hT⟩:∃T,T=mc l id h n:=⟨_,rfl⟩
 rw[←hq]at fin
 rw[←hT]at fin⊢
 simp -dsimp -implicitDefEqProofs [-getElem?_pos,go_sem,hP]
 refine ae (hd0.lift _ _) hP Dr (by simp[ih,ar]) .sc ?_
 simp -dsimp -implicitDefEqProofs [-getElem?_pos,go_sem,hP,w0]
 rw[←hq]
 refine fC 10 173 3 (by simp -dsimp[-getElem?_pos,go_sem]) ?_
 obtain⟨I,hI⟩:∃I:Nat→St→Prop,I=fun m s=>∃(k j:Nat) (out:List THolding) (put:Bool),k≤l.length∧m=l.length-k∧T=out++nP id h q put (l.drop k)∧s.t 1=iv id∧s.t 2=iv h∧s.t 9=iv q∧s.t 10= .sref j 0 out.length∧s.t 11=bv put∧s.t 22=bz l∧s.t 23=iv l.length∧s.t 24=iv k∧s.H[j]?=some (some ⟨173,3,aj THolding.cells out⟩)∧out.length≤2*k:=⟨_,rfl⟩
 refine ay I (l.length) (by rw[hN];rfl) ?_ ?_
 ·rw[hI]
  exact⟨0,0,[],decide (q=0),by omega,by omega,by rw[List.nil_append,List.drop_zero,fin],by simp -dsimp[-getElem?_pos,go_sem],by simp -dsimp[-getElem?_pos,go_sem],by simp -dsimp[-getElem?_pos,go_sem],by simp -dsimp[-getElem?_pos,go_sem],by simp -dsimp[-getElem?_pos,go_sem],by simp -dsimp[-getElem?_pos,go_sem],by simp -dsimp[-getElem?_pos,go_sem],by simp -dsimp[-getElem?_pos,go_sem],by simp -dsimp[-getElem?_pos,go_sem,aj],by simp⟩
 intro m s hs'
 rw[hI]at hs'
 obtain⟨k,j,out,put,hk,hm,hgo,t1,t2,t9,t10,t11,t22,t23,t24,gj,ol⟩:=hs'
 have lj:=(gsI gj)
 simp -dsimp -implicitDefEqProofs [-getElem?_pos,go_sem,hP,t23,t24]
 refine aB (fun hh=>?_) (fun hh=>?_)
 ·have hk:k<l.length:=by simpa using hh
  obtain⟨x,hx⟩:∃x,l[k]?=some x:=⟨_,List.getElem?_eq_getElem hk⟩
  have wk:=af ((k:Int)+1) (by omega)
  have hd:l.drop k=x::l.drop (k+1):=by
   obtain⟨h2,h3⟩:=List.getElem?_eq_some_iff.1 hx
   rw[List.drop_eq_getElem_cons h2,h3]
  rw[hd,nP]at hgo
  have gj':∀Y:List (Option AObj),(s.H++Y)[j]?=_:=fun Y=>(List.getElem?_append_left lj).trans gj
  have ljj:j<s.H.length+1:=by omega
  have nlj:¬s.H.length=j:=by omega
  have nlj':¬j=s.H.length:=by omega
  have skip:hIs id h x=true→T=out++nP id h q put (l.drop (k+1)):=fun e=>by rw[hgo,if_pos e]
  have plain:¬hIs id h x=true→¬(put=false∧hLt id h x=false)→T=(out++[x])++nP id h q put (l.drop (k+1)):=fun e e2=>by rw[hgo,if_neg e,if_neg e2,List.append_assoc];rfl
  have ins:¬hIs id h x=true→put=false∧hLt id h x=false→T=((out++[⟨id,h,q⟩])++[x])++nP id h q true (l.drop (k+1)):=fun e e2=>by rw[hgo,if_neg e,if_pos e2,List.append_assoc,List.append_assoc];rfl
  by_cases c1:x.Security=id
  ·have d1:decide (x.Security=id)=true:=decide_eq_true c1
   by_cases c2:x.Holder=h
   ·have d2:decide (x.Holder=h)=true:=decide_eq_true c2
    simp -dsimp -implicitDefEqProofs [-getElem?_pos,go_sem,hP,t22,t24,hx,fG,t1,t2,d1,d2,wk]
    refine⟨l.length-(k+1),by omega,?_⟩
    rw[hI]
    exact⟨k+1,j,out,put,by omega,rfl,skip (fV.2 ⟨c1,c2⟩),by simp -dsimp[-getElem?_pos,go_sem,t1],by simp -dsimp[-getElem?_pos,go_sem,t2],by simp -dsimp[-getElem?_pos,go_sem,t9],by simp -dsimp[-getElem?_pos,go_sem,t10],by simp -dsimp[-getElem?_pos,go_sem,t11],by simp -dsimp[-getElem?_pos,go_sem,t22],by simp -dsimp[-getElem?_pos,go_sem,t23],by simp -dsimp[-getElem?_pos,go_sem],by simp -dsimp[-getElem?_pos,go_sem,gj'],by omega⟩
   have d2:decide (x.Holder=h)=false:=decide_eq_false c2
   have hn:¬hIs id h x=true:=by rw[fV];exact fun e=>c2 e.2
   cases put
   ·by_cases c3:h<x.Holder
    ·have d3:decide (h<x.Holder)=true:=decide_eq_true c3
     have d4:decide (id<x.Security)=false:=decide_eq_false (by omega)
     simp -dsimp -implicitDefEqProofs [-getElem?_pos,go_sem,hP,t22,t24,hx,fG,t1,t2,t9,t10,t11,d1,d2,d3,d4,gj',ljj,lj,nlj,nlj',gj,wk]
     refine⟨by omega,by omega,by omega,by omega,?_⟩
     refine⟨l.length-(k+1),by omega,?_⟩
     rw[hI]
     exact⟨k+1,s.H.length+2,(out++[⟨id,h,q⟩])++[x],true,by omega,rfl,ins hn ⟨rfl,by rw[nH];omega⟩,by simp -dsimp[-getElem?_pos,go_sem,t1],by simp -dsimp[-getElem?_pos,go_sem,t2],by simp -dsimp[-getElem?_pos,go_sem,t9],by simp -dsimp[-getElem?_pos,go_sem],by simp -dsimp[-getElem?_pos,go_sem],by simp -dsimp[-getElem?_pos,go_sem,t22],by simp -dsimp[-getElem?_pos,go_sem,t23],by simp -dsimp[-getElem?_pos,go_sem],by rw[←aV,←aV];simp -dsimp -implicitDefEqProofs [-getElem?_pos,go_sem,fG],by simp;omega⟩
    ·have d3:decide (h<x.Holder)=false:=decide_eq_false c3
     have d4:decide (id<x.Security)=false:=decide_eq_false (by omega)
     simp -dsimp -implicitDefEqProofs [-getElem?_pos,go_sem,hP,t22,t24,hx,fG,t1,t2,t10,t11,d1,d2,d3,d4,gj',ljj,lj,nlj,nlj',gj,wk]
     refine⟨by omega,by omega,?_⟩
     refine⟨l.length-(k+1),by omega,?_⟩
     rw[hI]
     exact⟨k+1,s.H.length+1,out++[x],false,by omega,rfl,plain hn (by rw[nH];omega),by simp -dsimp[-getElem?_pos,go_sem,t1],by simp -dsimp[-getElem?_pos,go_sem,t2],by simp -dsimp[-getElem?_pos,go_sem,t9],by simp -dsimp[-getElem?_pos,go_sem],by simp -dsimp[-getElem?_pos,go_sem,t11],by simp -dsimp[-getElem?_pos,go_sem,t22],by simp -dsimp[-getElem?_pos,go_sem,t23],by simp -dsimp[-getElem?_pos,go_sem],by rw[←aV];simp -dsimp -implicitDefEqProofs [-getElem?_pos,go_sem,fG],by simp;omega⟩
   ·skip
    simp -dsimp -implicitDefEqProofs [-getElem?_pos,go_sem,hP,t22,t24,hx,fG,t1,t2,t10,t11,d1,d2,gj',ljj,lj,nlj,nlj',gj,wk]
    refine⟨by omega,by omega,?_⟩
    refine⟨l.length-(k+1),by omega,?_⟩
    rw[hI]
    exact⟨k+1,s.H.length+1,out++[x],true,by omega,rfl,plain hn (by simp),by simp -dsimp[-getElem?_pos,go_sem,t1],by simp -dsimp[-getElem?_pos,go_sem,t2],by simp -dsimp[-getElem?_pos,go_sem,t9],by simp -dsimp[-getElem?_pos,go_sem],by simp -dsimp[-getElem?_pos,go_sem,t11],by simp -dsimp[-getElem?_pos,go_sem,t22],by simp -dsimp[-getElem?_pos,go_sem,t23],by simp -dsimp[-getElem?_pos,go_sem],by rw[←aV];simp -dsimp -implicitDefEqProofs [-getElem?_pos,go_sem,fG],by simp;omega⟩
  ·have d1:decide (x.Security=id)=false:=decide_eq_false c1
   have hn:¬hIs id h x=true:=by rw[fV];exact fun e=>c1 e.1
   cases put
   ·by_cases c3:id<x.Security
    ·have d4:decide (id<x.Security)=true:=decide_eq_true c3
     simp -dsimp -implicitDefEqProofs [-getElem?_pos,go_sem,hP,t22,t24,hx,fG,t1,t2,t9,t10,t11,d1,d4,gj',ljj,lj,nlj,nlj',gj,wk]
     refine⟨by omega,by omega,by omega,by omega,?_⟩
     refine⟨l.length-(k+1),by omega,?_⟩
     rw[hI]
     exact⟨k+1,s.H.length+2,(out++[⟨id,h,q⟩])++[x],true,by omega,rfl,ins hn ⟨rfl,by rw[nH];omega⟩,by simp -dsimp[-getElem?_pos,go_sem,t1],by simp -dsimp[-getElem?_pos,go_sem,t2],by simp -dsimp[-getElem?_pos,go_sem,t9],by simp -dsimp[-getElem?_pos,go_sem],by simp -dsimp[-getElem?_pos,go_sem],by simp -dsimp[-getElem?_pos,go_sem,t22],by simp -dsimp[-getElem?_pos,go_sem,t23],by simp -dsimp[-getElem?_pos,go_sem],by rw[←aV,←aV];simp -dsimp -implicitDefEqProofs [-getElem?_pos,go_sem,fG],by simp;omega⟩
    ·have d4:decide (id<x.Security)=false:=decide_eq_false c3
     simp -dsimp -implicitDefEqProofs [-getElem?_pos,go_sem,hP,t22,t24,hx,fG,t1,t2,t10,t11,d1,d4,gj',ljj,lj,nlj,nlj',gj,wk]
     refine⟨by omega,by omega,?_⟩
     refine⟨l.length-(k+1),by omega,?_⟩
     rw[hI]
     exact⟨k+1,s.H.length+1,out++[x],false,by omega,rfl,plain hn (by rw[nH];omega),by simp -dsimp[-getElem?_pos,go_sem,t1],by simp -dsimp[-getElem?_pos,go_sem,t2],by simp -dsimp[-getElem?_pos,go_sem,t9],by simp -dsimp[-getElem?_pos,go_sem],by simp -dsimp[-getElem?_pos,go_sem,t11],by simp -dsimp[-getElem?_pos,go_sem,t22],by simp -dsimp[-getElem?_pos,go_sem,t23],by simp -dsimp[-getElem?_pos,go_sem],by rw[←aV];simp -dsimp -implicitDefEqProofs [-getElem?_pos,go_sem,fG],by simp;omega⟩
   ·skip
    simp -dsimp -implicitDefEqProofs [-getElem?_pos,go_sem,hP,t22,t24,hx,fG,t1,t2,t10,t11,d1,gj',ljj,lj,nlj,nlj',gj,wk]
    refine⟨by omega,by omega,?_⟩
    refine⟨l.length-(k+1),by omega,?_⟩
    rw[hI]
    exact⟨k+1,s.H.length+1,out++[x],true,by omega,rfl,plain hn (by simp),by simp -dsimp[-getElem?_pos,go_sem,t1],by simp -dsimp[-getElem?_pos,go_sem,t2],by simp -dsimp[-getElem?_pos,go_sem,t9],by simp -dsimp[-getElem?_pos,go_sem],by simp -dsimp[-getElem?_pos,go_sem,t11],by simp -dsimp[-getElem?_pos,go_sem,t22],by simp -dsimp[-getElem?_pos,go_sem,t23],by simp -dsimp[-getElem?_pos,go_sem],by rw[←aV];simp -dsimp -implicitDefEqProofs [-getElem?_pos,go_sem,fG],by simp;omega⟩
 ·have hk:k=l.length:=by simp at hh;omega
  subst hk
  rw[List.drop_length,nP]at hgo
  cases put
  ·rw[if_neg (by simp)]at hgo
   simp -dsimp -implicitDefEqProofs [-getElem?_pos,go_sem,hP,t11,t1,t2,t9,t10,gj,lj]
   refine⟨by omega,by omega,?_⟩
   rw[hgo]
   refine oO (tl:=[]) (es:=aj THolding.cells (out++[⟨id,h,q⟩])) (ty:=173) ?_ (by rw[al];simp) (bI _) rfl
   rw[List.append_nil,←aV]
   simp -dsimp -implicitDefEqProofs [-getElem?_pos,go_sem,fG]
  ·rw[if_pos rfl,List.append_nil]at hgo
   simp -dsimp -implicitDefEqProofs [-getElem?_pos,go_sem,hP,t11,t10]
   rw[hgo]
   exact oO (tl:=[]) (by rw[List.append_nil];exact gj) (by rw[al]) (bI _) rfl
open Go.PA
open Go.RowKit
theorem ES {l:List THolding} {N:Nat} (ok:HoldOk l N) (id h:Int):eT l id h≤1000000000000:=by
 rw[←p9 ok.srt]
 unfold gz
 cases hf:l.find? (hIs id h)with
 |none=>decide
 |some x=>exact (ok.am (List.mem_of_find?_eq_some hf)).2
set_option maxHeartbeats 2000000 in
theorem GP (r:TRegister) (l:List THolding) {N:Nat} (day:Int) (m:TMove) (ok:HoldOk l N) (hl:l.length≤10000) (hsec:∀s,s∈r.Securities→sR s=true) (hsl:r.Securities.length≤100000) (hk:m.Kind=1) (hz:m.From=0):
  PFun Tryz.prog none none 266 [.agg r.cells,bz l,iv day,.agg m.cells] (·= .tup [bz (if br r.Securities l day m=0 then goH l m else []),iv (br r.Securities l day m)]):=by
 refine ab Tryz.func266 rfl (by simp[Tryz.f266]) (by kernel_rfl) ?_
 intro E hP hr hs hW hN
 have ir:=az.2 r.imm
 have im:=qb m
 have il:=bI l
 have fi:=vu r m.Security hsl
 obtain⟨R,hR0⟩:∃R,R=br r.Securities l day m:=⟨_,rfl⟩
 obtain⟨G,hG⟩:∃G,G=goH l m:=⟨_,rfl⟩
 obtain⟨Q,hQ⟩:∃Q:AV→Prop,Q=(·= .tup [bz (if R=0 then G else []),iv R]):=⟨_,rfl⟩
 rw[←hR0,←hG,←hQ]
 have qe:∀n:Int,R=n→n≠0→Q (.tup [.list 3 [],iv n]):=fun n e h=>by rw[hQ,e,if_neg h];rfl
 have qo:R=0→Q (.tup [bz G,iv 0]):=fun e=>by rw[hQ,e,if_pos rfl]
 clear hQ
 rw[dU]at fi ir
 have hf:j7 r.Securities m.Security=none∨∃s,j7 r.Securities m.Security=some s∧s∈r.Securities:=by
  cases h:j7 r.Securities m.Security with
  |none=>exact .inl rfl
  |some s=>exact .inr ⟨s,rfl,List.mem_of_find?_eq_some h⟩
 rcases hf with hf|⟨s,hf,hm⟩
 ·have e1:ek r.Securities m.Security=(vW,false):=by rw[ek,hf]
  have e2:R=76:=by rw[hR0,br,hf]
  have iz:=az.2 vW.imm
  rw[e1]at fi
  rw[kS]at fi iz
  simp -dsimp -implicitDefEqProofs [-getElem?_pos,go_sem,hP,dU,fF]
  refine ae (fi.lift _ _) hP eC (by simp[ir,ar]) (ak iz .sc) ?_
  simp -dsimp -implicitDefEqProofs [-getElem?_pos,go_sem,hP]
  exact bJ 3 (qe 76 e2 (by omega))
 have e1:ek r.Securities m.Security=(s,true):=by rw[ek,hf]
 have so:=Bk (hsec s hm)
 have is:=az.2 s.imm
 rw[e1]at fi
 rw[kS]at fi is
 unfold br at hR0
 rw[hf]at hR0
 dsimp only at hR0
 rw[hk]at hR0
 have un:¬s.Unit=0:=by have:=so.unit;omega
 have k3:decide (m.Kind=3)=false:=by rw[hk];rfl
 have k1:decide (m.Kind=1)=true:=by rw[hk];rfl
 by_cases a1:m.Day<day
 ·have d1:decide (m.Day<day)=true:=decide_eq_true a1
  have e2:R=8:=by rw[hR0,if_pos (by simp only[Int.max_def];split<;>omega)]
  simp -dsimp -implicitDefEqProofs [-getElem?_pos,go_sem,hP,dU,fF]
  refine ae (fi.lift _ _) hP eC (by simp[ir,ar]) (ak is .sc) ?_
  simp -dsimp -implicitDefEqProofs [-getElem?_pos,go_sem,hP,k3,d1]
  exact bJ 3 (qe 8 e2 (by omega))
 have d1:decide (m.Day<day)=false:=decide_eq_false a1
 by_cases a2:m.Day<s.Issued
 ·have d2:decide (m.Day<s.Issued)=true:=decide_eq_true a2
  have e2:R=8:=by rw[hR0,if_pos (by simp only[Int.max_def];split<;>omega)]
  simp -dsimp -implicitDefEqProofs [-getElem?_pos,go_sem,hP,dU,fF]
  refine ae (fi.lift _ _) hP eC (by simp[ir,ar]) (ak is .sc) ?_
  simp -dsimp -implicitDefEqProofs [-getElem?_pos,go_sem,hP,k3,d1,d2]
  exact bJ 3 (qe 8 e2 (by omega))
 have d2:decide (m.Day<s.Issued)=false:=decide_eq_false a2
 by_cases a3:s.Maturity<m.Day
 ·have d3:decide (s.Maturity<m.Day)=true:=decide_eq_true a3
  have e2:R=8:=by rw[hR0,if_pos (by rw[show (if (1:Int)=3 then (36000:Int)else s.Maturity)=s.Maturity from rfl];omega)]
  simp -dsimp -implicitDefEqProofs [-getElem?_pos,go_sem,hP,dU,fF]
  refine ae (fi.lift _ _) hP eC (by simp[ir,ar]) (ak is .sc) ?_
  simp -dsimp -implicitDefEqProofs [-getElem?_pos,go_sem,hP,k3,d1,d2,d3]
  exact bJ 3 (qe 8 e2 (by omega))
 have d3:decide (s.Maturity<m.Day)=false:=decide_eq_false a3
 rw[if_neg (by rw[show (if (1:Int)=3 then (36000:Int)else s.Maturity)=s.Maturity from rfl];simp only[Int.max_def];split<;>omega)]at hR0
 by_cases a4:m.Amount<1
 ·have d4:decide (m.Amount<1)=true:=decide_eq_true a4
  have e2:R=79:=by rw[hR0,if_pos (.inl (by omega))]
  simp -dsimp -implicitDefEqProofs [-getElem?_pos,go_sem,hP,dU,fF]
  refine ae (fi.lift _ _) hP eC (by simp[ir,ar]) (ak is .sc) ?_
  simp -dsimp -implicitDefEqProofs [-getElem?_pos,go_sem,hP,k3,d1,d2,d3,d4]
  exact bJ 3 (qe 79 e2 (by omega))
 have d4:decide (m.Amount<1)=false:=decide_eq_false a4
 by_cases a5:1000000000000<m.Amount
 ·have d5:decide (1000000000000<m.Amount)=true:=decide_eq_true a5
  have e2:R=79:=by rw[hR0,if_pos (.inr (.inl a5))]
  simp -dsimp -implicitDefEqProofs [-getElem?_pos,go_sem,hP,dU,fF]
  refine ae (fi.lift _ _) hP eC (by simp[ir,ar]) (ak is .sc) ?_
  simp -dsimp -implicitDefEqProofs [-getElem?_pos,go_sem,hP,k3,d1,d2,d3,d4,d5]
  exact bJ 3 (qe 79 e2 (by omega))
 have d5:decide (1000000000000<m.Amount)=false:=decide_eq_false a5
 have tm:m.Amount.tmod s.Unit=m.Amount%s.Unit:=Int.tmod_eq_emod_of_nonneg (by omega)
 by_cases a6:m.Amount%s.Unit=0
 rotate_left
 ·have d6:decide (m.Amount%s.Unit=0)=false:=decide_eq_false a6
  have e2:R=79:=by rw[hR0,if_pos (.inr (.inr a6))]
  simp -dsimp -implicitDefEqProofs [-getElem?_pos,go_sem,hP,dU,fF]
  refine ae (fi.lift _ _) hP eC (by simp[ir,ar]) (ak is .sc) ?_
  simp -dsimp -implicitDefEqProofs [-getElem?_pos,go_sem,hP,k3,d1,d2,d3,d4,d5,aO un,un,tm,d6]
  exact bJ 3 (qe 79 e2 (by omega))
 have d6:decide (m.Amount%s.Unit=0)=true:=decide_eq_true a6
 rw[if_neg (by omega)]at hR0
 have hh:=tQ m.To
 by_cases a7:dJ m.To=true
 rotate_left
 ·have d7:dJ m.To=false:=by simpa using a7
  have e2:R=6:=by
   rw[hR0,if_pos]
   simp[eu,hk,hz,d7]
  rw[d7]at hh
  simp -dsimp -implicitDefEqProofs [-getElem?_pos,go_sem,hP,dU,fF]
  refine ae (fi.lift _ _) hP eC (by simp[ir,ar]) (ak is .sc) ?_
  simp -dsimp -implicitDefEqProofs [-getElem?_pos,go_sem,hP,k3,k1,d1,d2,d3,d4,d5,aO un,un,tm,d6]
  refine ao (fun _=>true) [] hP (by kernel_rfl) (by kernel_rfl) ?_
  simp -dsimp -implicitDefEqProofs [-getElem?_pos,go_sem,hP,k3,k1,d1,d2,d3,d4,d5,aO un,un,tm,d6]
  refine ae (hh.lift _ _) hP qE (by simp[ar]) .sc ?_
  simp -dsimp -implicitDefEqProofs [-getElem?_pos,go_sem,hP,k3,k1,d1,d2,d3,d4,d5,aO un,un,tm,d6]
  exact bJ 3 (qe 6 e2 (by omega))
 have hb:1≤m.To∧m.To≤1000:=by simpa[dJ]using a7
 rw[a7]at hh
 rw[if_neg (by simp[eu,hk,hz,a7])]at hR0
 rw[if_neg (by omega)]at hR0
 have ou:=Li l m.Security ok (by omega)
 have ot:=ok.tot m.Security
 have op:=(gU (oL m.Security) hAm l ok.pos).1
 have w1:=af (dP l m.Security+m.Amount) (by unfold dP at*;omega)
 by_cases a8:1000000000000<dP l m.Security+m.Amount
 ·have d8:decide (1000000000000<dP l m.Security+m.Amount)=true:=decide_eq_true a8
  have e2:R=2:=by rw[hR0,if_pos ⟨hz,a8⟩]
  simp -dsimp -implicitDefEqProofs [-getElem?_pos,go_sem,hP,dU,fF]
  refine ae (fi.lift _ _) hP eC (by simp[ir,ar]) (ak is .sc) ?_
  simp -dsimp -implicitDefEqProofs [-getElem?_pos,go_sem,hP,k3,k1,d1,d2,d3,d4,d5,aO un,un,tm,d6]
  refine ao (fun _=>true) [] hP (by kernel_rfl) (by kernel_rfl) ?_
  simp -dsimp -implicitDefEqProofs [-getElem?_pos,go_sem,hP,k3,k1,d1,d2,d3,d4,d5,aO un,un,tm,d6]
  refine ae (hh.lift _ _) hP qE (by simp[ar]) .sc ?_
  simp -dsimp -implicitDefEqProofs [-getElem?_pos,go_sem,hP,k3,k1,d1,d2,d3,d4,d5,aO un,un,tm,d6]
  refine ao (fun _=>true) [] hP (by kernel_rfl) (by kernel_rfl) ?_
  simp -dsimp -implicitDefEqProofs [-getElem?_pos,go_sem,hP,k3,k1,d1,d2,d3,d4,d5,aO un,un,tm,d6]
  refine ao (fun _=>true) [] hP (by kernel_rfl) (by kernel_rfl) ?_
  simp -dsimp -implicitDefEqProofs [-getElem?_pos,go_sem,hP,k3,k1,d1,d2,d3,d4,d5,aO un,un,tm,d6]
  refine ae (ou.lift _ _) hP JJ (by simp[il,ar]) .sc ?_
  simp -dsimp -implicitDefEqProofs [-getElem?_pos,go_sem,hP,k3,k1,d1,d2,d3,d4,d5,aO un,un,tm,d6,w1,d8]
  exact bJ 3 (qe 2 e2 (by omega))
 have d8:decide (1000000000000<dP l m.Security+m.Amount)=false:=decide_eq_false a8
 rw[if_neg (fun c=>a8 c.2)]at hR0
 have eG:G=mc l m.Security m.To m.Amount:=by rw[hG,goH,if_pos hz,if_neg (by omega)]
 have hq:=p9 (id:=m.Security) (h:=m.To) ok.srt
 have hp:=(gU (hIs m.Security m.To) hAm l ok.pos).1
 have hp2:eT l m.Security m.To≤1000000000000:=ES ok _ _
 have st:=Eu l m.Security m.To m.Amount ok.srt (by omega) (by rw[hq];unfold eT at*;omega)
 rw[←eG]at st
 simp -dsimp -implicitDefEqProofs [-getElem?_pos,go_sem,hP,dU,fF]
 refine ae (fi.lift _ _) hP eC (by simp[ir,ar]) (ak is .sc) ?_
 simp -dsimp -implicitDefEqProofs [-getElem?_pos,go_sem,hP,k3,k1,d1,d2,d3,d4,d5,aO un,un,tm,d6]
 refine ao (fun _=>true) [] hP (by kernel_rfl) (by kernel_rfl) ?_
 simp -dsimp -implicitDefEqProofs [-getElem?_pos,go_sem,hP,k3,k1,d1,d2,d3,d4,d5,aO un,un,tm,d6]
 refine ae (hh.lift _ _) hP qE (by simp[ar]) .sc ?_
 simp -dsimp -implicitDefEqProofs [-getElem?_pos,go_sem,hP,k3,k1,d1,d2,d3,d4,d5,aO un,un,tm,d6]
 refine ao (fun _=>true) [] hP (by kernel_rfl) (by kernel_rfl) ?_
 simp -dsimp -implicitDefEqProofs [-getElem?_pos,go_sem,hP,k3,k1,d1,d2,d3,d4,d5,aO un,un,tm,d6]
 refine ao (fun _=>true) [] hP (by kernel_rfl) (by kernel_rfl) ?_
 simp -dsimp -implicitDefEqProofs [-getElem?_pos,go_sem,hP,k3,k1,d1,d2,d3,d4,d5,aO un,un,tm,d6]
 refine ae (ou.lift _ _) hP JJ (by simp[il,ar]) .sc ?_
 simp -dsimp -implicitDefEqProofs [-getElem?_pos,go_sem,hP,k3,k1,d1,d2,d3,d4,d5,aO un,un,tm,d6,w1,d8]
 refine ae (st.lift _ _) hP JU (by simp[il,ar]) (bI _) ?_
 simp -dsimp -implicitDefEqProofs [-getElem?_pos,go_sem,hP,k3,k1,d1,d2,d3,d4,d5,aO un,un,tm,d6]
 exact au (ak (bI _) .sc) (qo hR0)
set_option maxHeartbeats 2000000 in
theorem GF (r:TRegister) (l:List THolding) {N:Nat} (day:Int) (m:TMove) (ok:HoldOk l N) (hl:l.length≤10000) (hsec:∀s,s∈r.Securities→sR s=true) (hsl:r.Securities.length≤100000) (hk:m.Kind=3) (hz:m.To=0):
  PFun Tryz.prog none none 266 [.agg r.cells,bz l,iv day,.agg m.cells] (·= .tup [bz (if br r.Securities l day m=0 then goH l m else []),iv (br r.Securities l day m)]):=by
 refine ab Tryz.func266 rfl (by simp[Tryz.f266]) (by kernel_rfl) ?_
 intro E hP hr hs hW hN
 have ir:=az.2 r.imm
 have im:=qb m
 have il:=bI l
 have fi:=vu r m.Security hsl
 obtain⟨R,hR0⟩:∃R,R=br r.Securities l day m:=⟨_,rfl⟩
 obtain⟨G,hG⟩:∃G,G=goH l m:=⟨_,rfl⟩
 obtain⟨Q,hQ⟩:∃Q:AV→Prop,Q=(·= .tup [bz (if R=0 then G else []),iv R]):=⟨_,rfl⟩
 rw[←hR0,←hG,←hQ]
 have qe:∀n:Int,R=n→n≠0→Q (.tup [.list 3 [],iv n]):=fun n e h=>by rw[hQ,e,if_neg h];rfl
 have qo:R=0→Q (.tup [bz G,iv 0]):=fun e=>by rw[hQ,e,if_pos rfl]
 clear hQ
 rw[dU]at fi ir
 have hf:j7 r.Securities m.Security=none∨∃s,j7 r.Securities m.Security=some s∧s∈r.Securities:=by
  cases h:j7 r.Securities m.Security with
  |none=>exact .inl rfl
  |some s=>exact .inr ⟨s,rfl,List.mem_of_find?_eq_some h⟩
 rcases hf with hf|⟨s,hf,hm⟩
 ·have e1:ek r.Securities m.Security=(vW,false):=by rw[ek,hf]
  have e2:R=76:=by rw[hR0,br,hf]
  have iz:=az.2 vW.imm
  rw[e1]at fi
  rw[kS]at fi iz
  simp -dsimp -implicitDefEqProofs [-getElem?_pos,go_sem,hP,dU,fF]
  refine ae (fi.lift _ _) hP eC (by simp[ir,ar]) (ak iz .sc) ?_
  simp -dsimp -implicitDefEqProofs [-getElem?_pos,go_sem,hP]
  exact bJ 3 (qe 76 e2 (by omega))
 have e1:ek r.Securities m.Security=(s,true):=by rw[ek,hf]
 have so:=Bk (hsec s hm)
 have is:=az.2 s.imm
 rw[e1]at fi
 rw[kS]at fi is
 unfold br at hR0
 rw[hf]at hR0
 dsimp only at hR0
 rw[hk]at hR0
 have un:¬s.Unit=0:=by have:=so.unit;omega
 have k3:decide (m.Kind=3)=true:=by rw[hk];rfl
 have k1:decide (m.Kind=1)=false:=by rw[hk];rfl
 by_cases a1:m.Day<day
 ·have d1:decide (m.Day<day)=true:=decide_eq_true a1
  have e2:R=8:=by rw[hR0,if_pos (by simp only[Int.max_def];split<;>omega)]
  simp -dsimp -implicitDefEqProofs [-getElem?_pos,go_sem,hP,dU,fF]
  refine ae (fi.lift _ _) hP eC (by simp[ir,ar]) (ak is .sc) ?_
  simp -dsimp -implicitDefEqProofs [-getElem?_pos,go_sem,hP,k3,d1]
  exact bJ 3 (qe 8 e2 (by omega))
 have d1:decide (m.Day<day)=false:=decide_eq_false a1
 by_cases a2:m.Day<s.Issued
 ·have d2:decide (m.Day<s.Issued)=true:=decide_eq_true a2
  have e2:R=8:=by rw[hR0,if_pos (by simp only[Int.max_def];split<;>omega)]
  simp -dsimp -implicitDefEqProofs [-getElem?_pos,go_sem,hP,dU,fF]
  refine ae (fi.lift _ _) hP eC (by simp[ir,ar]) (ak is .sc) ?_
  simp -dsimp -implicitDefEqProofs [-getElem?_pos,go_sem,hP,k3,d1,d2]
  exact bJ 3 (qe 8 e2 (by omega))
 have d2:decide (m.Day<s.Issued)=false:=decide_eq_false a2
 by_cases a3:36000<m.Day
 ·have d3:decide (36000<m.Day)=true:=decide_eq_true a3
  have e2:R=8:=by rw[hR0,if_pos (by rw[show (if (3:Int)=3 then (36000:Int)else s.Maturity)=36000 from rfl];omega)]
  simp -dsimp -implicitDefEqProofs [-getElem?_pos,go_sem,hP,dU,fF]
  refine ae (fi.lift _ _) hP eC (by simp[ir,ar]) (ak is .sc) ?_
  simp -dsimp -implicitDefEqProofs [-getElem?_pos,go_sem,hP,k3,d1,d2,d3]
  exact bJ 3 (qe 8 e2 (by omega))
 have d3:decide (36000<m.Day)=false:=decide_eq_false a3
 rw[if_neg (by rw[show (if (3:Int)=3 then (36000:Int)else s.Maturity)=36000 from rfl];simp only[Int.max_def];split<;>omega)]at hR0
 by_cases a4:m.Amount<1
 ·have d4:decide (m.Amount<1)=true:=decide_eq_true a4
  have e2:R=79:=by rw[hR0,if_pos (.inl (by omega))]
  simp -dsimp -implicitDefEqProofs [-getElem?_pos,go_sem,hP,dU,fF]
  refine ae (fi.lift _ _) hP eC (by simp[ir,ar]) (ak is .sc) ?_
  simp -dsimp -implicitDefEqProofs [-getElem?_pos,go_sem,hP,k3,d1,d2,d3,d4]
  exact bJ 3 (qe 79 e2 (by omega))
 have d4:decide (m.Amount<1)=false:=decide_eq_false a4
 by_cases a5:1000000000000<m.Amount
 ·have d5:decide (1000000000000<m.Amount)=true:=decide_eq_true a5
  have e2:R=79:=by rw[hR0,if_pos (.inr (.inl a5))]
  simp -dsimp -implicitDefEqProofs [-getElem?_pos,go_sem,hP,dU,fF]
  refine ae (fi.lift _ _) hP eC (by simp[ir,ar]) (ak is .sc) ?_
  simp -dsimp -implicitDefEqProofs [-getElem?_pos,go_sem,hP,k3,d1,d2,d3,d4,d5]
  exact bJ 3 (qe 79 e2 (by omega))
 have d5:decide (1000000000000<m.Amount)=false:=decide_eq_false a5
 have tm:m.Amount.tmod s.Unit=m.Amount%s.Unit:=Int.tmod_eq_emod_of_nonneg (by omega)
 by_cases a6:m.Amount%s.Unit=0
 rotate_left
 ·have d6:decide (m.Amount%s.Unit=0)=false:=decide_eq_false a6
  have e2:R=79:=by rw[hR0,if_pos (.inr (.inr a6))]
  simp -dsimp -implicitDefEqProofs [-getElem?_pos,go_sem,hP,dU,fF]
  refine ae (fi.lift _ _) hP eC (by simp[ir,ar]) (ak is .sc) ?_
  simp -dsimp -implicitDefEqProofs [-getElem?_pos,go_sem,hP,k3,d1,d2,d3,d4,d5,aO un,un,tm,d6]
  exact bJ 3 (qe 79 e2 (by omega))
 have d6:decide (m.Amount%s.Unit=0)=true:=decide_eq_true a6
 rw[if_neg (by omega)]at hR0
 have hh:=tQ m.From
 by_cases a7:dJ m.From=true
 rotate_left
 ·have d7:dJ m.From=false:=by simpa using a7
  have e2:R=6:=by
   rw[hR0,if_pos]
   simp[eu,hk,hz,d7]
  rw[d7]at hh
  simp -dsimp -implicitDefEqProofs [-getElem?_pos,go_sem,hP,dU,fF]
  refine ae (fi.lift _ _) hP eC (by simp[ir,ar]) (ak is .sc) ?_
  simp -dsimp -implicitDefEqProofs [-getElem?_pos,go_sem,hP,k3,k1,d1,d2,d3,d4,d5,aO un,un,tm,d6]
  refine ao (fun _=>true) [] hP (by kernel_rfl) (by kernel_rfl) ?_
  simp -dsimp -implicitDefEqProofs [-getElem?_pos,go_sem,hP,k3,k1,d1,d2,d3,d4,d5,aO un,un,tm,d6]
  refine ae (hh.lift _ _) hP qE (by simp[ar]) .sc ?_
  simp -dsimp -implicitDefEqProofs [-getElem?_pos,go_sem,hP,k3,k1,d1,d2,d3,d4,d5,aO un,un,tm,d6]
  exact bJ 3 (qe 6 e2 (by omega))
 have hb:1≤m.From∧m.From≤1000:=by simpa[dJ]using a7
 rw[a7]at hh
 rw[if_neg (by simp[eu,hk,hz,a7])]at hR0
 have he:=A2 l m.Security m.From (by omega)
 have hq:=p9 (id:=m.Security) (h:=m.From) ok.srt
 rw[hq]at he
 have hp:=(gU (hIs m.Security m.From) hAm l ok.pos).1
 by_cases a8:eT l m.Security m.From<m.Amount
 ·have d8:decide (eT l m.Security m.From<m.Amount)=true:=decide_eq_true a8
  have e2:R=77:=by rw[hR0,if_pos ⟨by omega,a8⟩]
  simp -dsimp -implicitDefEqProofs [-getElem?_pos,go_sem,hP,dU,fF]
  refine ae (fi.lift _ _) hP eC (by simp[ir,ar]) (ak is .sc) ?_
  simp -dsimp -implicitDefEqProofs [-getElem?_pos,go_sem,hP,k3,k1,d1,d2,d3,d4,d5,aO un,un,tm,d6]
  refine ao (fun _=>true) [] hP (by kernel_rfl) (by kernel_rfl) ?_
  simp -dsimp -implicitDefEqProofs [-getElem?_pos,go_sem,hP,k3,k1,d1,d2,d3,d4,d5,aO un,un,tm,d6]
  refine ae (hh.lift _ _) hP qE (by simp[ar]) .sc ?_
  simp -dsimp -implicitDefEqProofs [-getElem?_pos,go_sem,hP,k3,k1,d1,d2,d3,d4,d5,aO un,un,tm,d6]
  refine ao (fun _=>true) [] hP (by kernel_rfl) (by kernel_rfl) ?_
  simp -dsimp -implicitDefEqProofs [-getElem?_pos,go_sem,hP,k3,k1,d1,d2,d3,d4,d5,aO un,un,tm,d6]
  refine ae (he.lift _ _) hP Dr (by simp[il,ar]) .sc ?_
  simp -dsimp -implicitDefEqProofs [-getElem?_pos,go_sem,hP,k3,k1,d1,d2,d3,d4,d5,aO un,un,tm,d6,d8]
  exact bJ 3 (qe 77 e2 (by omega))
 have d8:decide (eT l m.Security m.From<m.Amount)=false:=decide_eq_false a8
 rw[if_neg (fun c=>a8 c.2),if_neg (by omega)]at hR0
 have eG:G=mc l m.Security m.From (-m.Amount):=by rw[hG,goH,if_pos hz,if_neg (by omega)]
 have hp2:eT l m.Security m.From≤1000000000000:=ES ok _ _
 have st:=Eu l m.Security m.From (-m.Amount) ok.srt (by omega) (by rw[hq];unfold eT at*;omega)
 rw[←eG]at st
 have w1:=af (-m.Amount) (by omega)
 simp -dsimp -implicitDefEqProofs [-getElem?_pos,go_sem,hP,dU,fF]
 refine ae (fi.lift _ _) hP eC (by simp[ir,ar]) (ak is .sc) ?_
 simp -dsimp -implicitDefEqProofs [-getElem?_pos,go_sem,hP,k3,k1,d1,d2,d3,d4,d5,aO un,un,tm,d6]
 refine ao (fun _=>true) [] hP (by kernel_rfl) (by kernel_rfl) ?_
 simp -dsimp -implicitDefEqProofs [-getElem?_pos,go_sem,hP,k3,k1,d1,d2,d3,d4,d5,aO un,un,tm,d6]
 refine ae (hh.lift _ _) hP qE (by simp[ar]) .sc ?_
 simp -dsimp -implicitDefEqProofs [-getElem?_pos,go_sem,hP,k3,k1,d1,d2,d3,d4,d5,aO un,un,tm,d6]
 refine ao (fun _=>true) [] hP (by kernel_rfl) (by kernel_rfl) ?_
 simp -dsimp -implicitDefEqProofs [-getElem?_pos,go_sem,hP,k3,k1,d1,d2,d3,d4,d5,aO un,un,tm,d6]
 refine ae (he.lift _ _) hP Dr (by simp[il,ar]) .sc ?_
 simp -dsimp -implicitDefEqProofs [-getElem?_pos,go_sem,hP,k3,k1,d1,d2,d3,d4,d5,aO un,un,tm,d6,d8]
 refine ao (fun _=>true) [] hP (by kernel_rfl) (by kernel_rfl) ?_
 simp -dsimp -implicitDefEqProofs [-getElem?_pos,go_sem,hP,k3,k1,d1,d2,d3,d4,d5,aO un,un,tm,d6,w1]
 refine ae (st.lift _ _) hP JU (by simp[il,ar]) (bI _) ?_
 simp -dsimp -implicitDefEqProofs [-getElem?_pos,go_sem,hP,k3,k1,d1,d2,d3,d4,d5,aO un,un,tm,d6]
 exact au (ak (bI _) .sc) (qo hR0)
open Go.PA
open Go.RowKit
theorem tX (a:List THolding) (ha:a.length≤100000):
  PFun Tryz.prog none none 207 [.list 3 (aj THolding.cells a),.list 3 (aj THolding.cells a)] (·=bv true):=by
 refine ab Tryz.func207 rfl (by simp[Tryz.f207]) (by kernel_rfl) ?_
 intro E hP hr hs hW hN
 simp -dsimp -implicitDefEqProofs [-getElem?_pos,go_sem,hP]
 obtain⟨I,hI⟩:∃I:Nat→St→Prop,I=fun m s=>∃k:Nat,k≤a.length∧m=a.length-k∧s.t 0= .list 3 (aj THolding.cells a)∧s.t 1= .list 3 (aj THolding.cells a)∧s.t 12=iv a.length∧s.t 13=iv k:=⟨_,rfl⟩
 refine ay I (a.length) (by rw[hN];rfl) ?_ ?_
 ·rw[hI]
  exact⟨0,by omega,by omega,by simp -dsimp[-getElem?_pos,go_sem],by simp -dsimp[-getElem?_pos,go_sem],by simp -dsimp[-getElem?_pos,go_sem],by simp -dsimp[-getElem?_pos,go_sem]⟩
 intro m s hs'
 rw[hI]at hs'
 obtain⟨k,hk,hm,t0,t1,t12,t13⟩:=hs'
 simp -dsimp -implicitDefEqProofs [-getElem?_pos,go_sem,hP,t12,t13]
 refine aB (fun h=>?_) (fun h=>?_)
 ·have hk:k<a.length:=by simpa using h
  obtain⟨x,hx⟩:∃x,a[k]?=some x:=⟨_,List.getElem?_eq_getElem hk⟩
  have wk:=af ((k:Int)+1) (by omega)
  simp -dsimp -implicitDefEqProofs [-getElem?_pos,go_sem,hP,t13]
  refine ao (fun _=>true) [] hP (by kernel_rfl) (by kernel_rfl) ?_
  simp -dsimp -implicitDefEqProofs [-getElem?_pos,go_sem,hP,t0,t1,hx,THolding.cells,t13,wk]
  refine⟨a.length-(k+1),by omega,?_⟩
  rw[hI]
  exact⟨k+1,by omega,rfl,by simp -dsimp[-getElem?_pos,go_sem,t0],by simp -dsimp[-getElem?_pos,go_sem,t1],by simp -dsimp[-getElem?_pos,go_sem,t12],by simp -dsimp[-getElem?_pos,go_sem]⟩
 ·simp -dsimp -implicitDefEqProofs [-getElem?_pos,go_sem,hP]
open Go.PA
open Go.RowKit
def oC (m:TMove):Prop:=(m.Kind=1∧m.From=0)∨(m.Kind=3∧m.To=0)
theorem xx (r:TRegister) (l:List THolding) {N:Nat} (day:Int) (m:TMove) (ok:HoldOk l N) (hl:l.length≤10000) (hs:∀s,s∈r.Securities→sR s=true) (hsl:r.Securities.length≤100000) (hk:oC m):
  PFun Tryz.prog none none 266 [.agg r.cells,bz l,iv day,.agg m.cells] (·= .tup [bz (if br r.Securities l day m=0 then goH l m else []),iv (br r.Securities l day m)]):=by
 rcases hk with⟨h1,h2⟩|⟨h1,h2⟩
 ·exact GP r l day m ok hl hs hsl h1 h2
 ·exact GF r l day m ok hl hs hsl h1 h2
theorem yk {secs:List TSecurity} (hs:∀s,s∈secs→sR s=true) {u:RepSt} {ms:List TMove} (h:Runs secs mY ms u):∀m,m∈ms→0≤m.Day∧m.Day≤36000:=by
 induction h with
 |nil=>intro m hm;cases hm
 |@snoc u ms m _ hst ih=>
  intro x hx
  rcases List.mem_append.1 hx with hx|hx
  ·exact ih x hx
  ·simp at hx
   subst hx
   obtain⟨s,hm⟩:=Bm hst.2.2
   have so:=Bk (hs s (List.mem_of_find?_eq_some hm.sec))
   have d:=hm.day
   have i:=so.iss
   have t:=so.mat
   split at d<;>simp only[Int.max_def,Int.min_def]at d t<;>(repeat' split at d)<;>(repeat' split at t)<;>omega
theorem xF {X:AV} {l:List THolding} {H:ac} {bs bs':List AV} (h:X=bz l∨(X= .nil∧l=[])) (ht:Args H bs bs'):Args H (X::bs) (bz l::bs'):=by
 rcases h with rfl|⟨rfl,rfl⟩
 ·exact aH (bI _) ht
 ·exact xI ht
theorem uK {X:AV} {l:List THolding} (h:X=bz l∨(X= .nil∧l=[])):jT X=[]:=by
 rcases h with rfl|⟨rfl,rfl⟩
 ·exact eW (bI l)
 ·rfl
set_option maxHeartbeats 4000000 in
theorem Hf (r:TRegister) (d:Int) (h:RegOk r d) (hk:∀m,m∈r.Moves→oC m):PFun Tryz.prog none none 206 [.agg r.cells,iv 36000] (·= .tup [bz r.Holdings,bv true]):=by
 have hin:=h.regIn
 have hml:=hin.ml
 have hsl:=hin.sl
 have hd:=yk hin.so h.run
 refine ab Tryz.func206 rfl (by simp[Tryz.f206]) (by kernel_rfl) ?_
 intro E hP hr hs hW hN
 have ir:=gY r
 simp -dsimp -implicitDefEqProofs [-getElem?_pos,go_sem,hP,dU]
 obtain⟨I,hI⟩:∃I:Nat→St→Prop,I=fun m s=>∃(k:Nat) (v:RepSt) (X:AV),k≤r.Moves.length∧m=r.Moves.length-k∧Runs r.Securities mY (r.Moves.take k) v∧(X=bz v.l∨(X= .nil∧v.l=[]))∧s.t 1=iv 36000∧s.t 2= .ref 0 0 0∧s.t 6=X∧s.t 7=iv v.d∧s.t 13=dZ r.Moves∧s.t 14=iv r.Moves.length∧s.t 15=iv k∧s.H[0]?=some (some ⟨45,3,[[bT r.Securities,bz r.Holdings,dZ r.Moves]]⟩):=⟨_,rfl⟩
 refine ay I (r.Moves.length) (by rw[hN];rfl) ?_ ?_
 ·rw[hI]
  exact⟨0,mY,.nil,by omega,by omega,by simpa using Runs.nil,.inr ⟨rfl,rfl⟩,by simp -dsimp[-getElem?_pos,go_sem],by simp -dsimp[-getElem?_pos,go_sem],by simp -dsimp[-getElem?_pos,go_sem],by simp -dsimp[-getElem?_pos,go_sem,mY],by simp -dsimp[-getElem?_pos,go_sem],by simp -dsimp[-getElem?_pos,go_sem],by simp -dsimp[-getElem?_pos,go_sem],by simp -dsimp[-getElem?_pos,go_sem]⟩
 intro m s hs'
 rw[hI]at hs'
 obtain⟨k,v,X,hkl,hm,hv,hX,t1,t2,t6,t7,t13,t14,t15,g0⟩:=hs'
 have l0:=(gsI g0)
 simp -dsimp -implicitDefEqProofs [-getElem?_pos,go_sem,hP,t14,t15]
 refine aB (fun hq=>?_) (fun hq=>?_)
 ·have hkl:k<r.Moves.length:=by simpa using hq
  obtain⟨m,hm0⟩:∃m,r.Moves[k]?=some m:=⟨_,List.getElem?_eq_getElem hkl⟩
  have wk:=af ((k:Int)+1) (by omega)
  have hmm:=List.mem_of_getElem? hm0
  have md:=hd m hmm
  have mk:=hk m hmm
  have hvn:v.n=k:=by have:=hv.n;simp[mY]at this;omega
  obtain⟨v',hv',hst⟩:=h.run.take k
  have ev:v'=v:=by rw[hv'.det,hv.det]
  subst ev
  obtain⟨⟨s1,s2,s3⟩,hv2⟩:=hst m hm0
  have hok:=hv.ok
  have hvl:=hok.len
  rw[List.length_take]at hvl
  have mv:=xx r v'.l v'.d m hok (by omega) hin.so (by omega) mk
  rw[s3,if_pos rfl]at mv
  have im:=qb m
  rw[dU]at ir mv
  rw[fF]at im mv
  rw[hvn]at s1
  have d0:decide (36000<m.Day)=false:=decide_eq_false (by omega)
  have d1:decide (m.Number=(k:Int)+1)=true:=decide_eq_true s1
  have d2:decide (m.Kind<1)=false:=decide_eq_false (by omega)
  have d3:decide (3<m.Kind)=false:=decide_eq_false (by omega)
  have g0':∀Y:List (Option AObj),(s.H++Y)[0]?=_:=fun Y=>(List.getElem?_append_left l0).trans g0
  have l00:0<s.H.length+1:=by omega
  have fin:∀s3:St,(s3.t 1=iv 36000∧s3.t 2= .ref 0 0 0∧s3.t 6=bz (goH v'.l m)∧s3.t 7=iv m.Day∧s3.t 13=dZ r.Moves∧s3.t 14=iv r.Moves.length∧s3.t 15=iv ((k:Int)+1))→s3.H[0]?=some (some ⟨45,3,[[bT r.Securities,bz r.Holdings,dZ r.Moves]]⟩)→I (r.Moves.length-(k+1)) s3:=by
   rintro s3 ⟨a1,a2,a3,a4,a5,a6,a7⟩ a8
   rw[hI]
   exact⟨k+1,pg v' m,bz (goH v'.l m),by omega,rfl,hv2,.inl rfl,a1,a2,a3,a4,a5,a6,a7,a8⟩
  rcases mk with⟨k1,f0⟩|⟨k1,f0⟩
  ·have e1:decide (m.Kind=1)=true:=decide_eq_true k1
   have e3:decide (m.Kind=3)=false:=decide_eq_false (by omega)
   have ef:decide (m.From=0)=true:=decide_eq_true f0
   simp -dsimp -implicitDefEqProofs [-getElem?_pos,go_sem,hP,t13,t15,hm0,fF,t1,d0,wk,d1,d2,d3,e1,e3,ef,t2,g0',l00,t6,t7]
   refine qB (mv.lift _ _) hP yA (aH ir (xF hX (ai (by simp[im,ar])))) ?_ (ak (bI _) .sc) ?_
   ·simp only[List.mem_cons,List.not_mem_nil,or_false,forall_eq_or_imp,forall_eq]
    exact⟨eW ir,uK hX,rfl,eW im⟩
   simp -dsimp -implicitDefEqProofs [-getElem?_pos,go_sem,hP]
   refine ao (fun _=>true) [] hP (by kernel_rfl) (by kernel_rfl) ?_
   simp -dsimp -implicitDefEqProofs [-getElem?_pos,go_sem,hP,t15,wk]
   refine⟨r.Moves.length-(k+1),by omega,?_⟩
   exact fin _ ⟨by simp -dsimp[-getElem?_pos,go_sem,t1],by simp -dsimp[-getElem?_pos,go_sem,t2],by simp -dsimp[-getElem?_pos,go_sem],by simp -dsimp[-getElem?_pos,go_sem],by simp -dsimp[-getElem?_pos,go_sem,t13],by simp -dsimp[-getElem?_pos,go_sem,t14],by simp -dsimp[-getElem?_pos,go_sem]⟩ (by simp -dsimp[-getElem?_pos,go_sem,g0'])
  ·have e1:decide (m.Kind=1)=false:=decide_eq_false (by omega)
   have e3:decide (m.Kind=3)=true:=decide_eq_true k1
   have ef:decide (m.To=0)=true:=decide_eq_true f0
   simp -dsimp -implicitDefEqProofs [-getElem?_pos,go_sem,hP,t13,t15,hm0,fF,t1,d0,wk,d1,d2,d3,e1,e3,ef,t2,g0',l00,t6,t7]
   refine qB (mv.lift _ _) hP yA (aH ir (xF hX (ai (by simp[im,ar])))) ?_ (ak (bI _) .sc) ?_
   ·simp only[List.mem_cons,List.not_mem_nil,or_false,forall_eq_or_imp,forall_eq]
    exact⟨eW ir,uK hX,rfl,eW im⟩
   simp -dsimp -implicitDefEqProofs [-getElem?_pos,go_sem,hP]
   refine ao (fun _=>true) [] hP (by kernel_rfl) (by kernel_rfl) ?_
   simp -dsimp -implicitDefEqProofs [-getElem?_pos,go_sem,hP,t15,wk]
   refine⟨r.Moves.length-(k+1),by omega,?_⟩
   exact fin _ ⟨by simp -dsimp[-getElem?_pos,go_sem,t1],by simp -dsimp[-getElem?_pos,go_sem,t2],by simp -dsimp[-getElem?_pos,go_sem],by simp -dsimp[-getElem?_pos,go_sem],by simp -dsimp[-getElem?_pos,go_sem,t13],by simp -dsimp[-getElem?_pos,go_sem,t14],by simp -dsimp[-getElem?_pos,go_sem]⟩ (by simp -dsimp[-getElem?_pos,go_sem,g0'])
 ·have hkl:k=r.Moves.length:=by simp at hq;omega
  subst hkl
  rw[List.take_length]at hv
  have ev:v=⟨r.Holdings,r.Moves.length,d⟩:=by rw[hv.det,h.run.det]
  rw[ev]at hX
  simp -dsimp -implicitDefEqProofs [-getElem?_pos,go_sem,hP,t6]
  rcases hX with rfl|⟨rfl,e⟩
  ·exact au (ak (bI _) .sc) rfl
  ·simp only at e
   rw[e]
   exact bJ 3 rfl
set_option maxHeartbeats 4000000 in
theorem Bh (r:TRegister) (d:Int) (h:RegOk r d) (hs0:r.Securities=jO) (hk:∀m,m∈r.Moves→oC m):PFun Tryz.prog none none 145 [.agg r.cells] (·=iv 0):=by
 have hin:=h.regIn
 have h1:=hin.ml
 have h2:=hin.sl
 have h4:=h.hl
 have hdays:=yk hin.so h.run
 refine ab Tryz.func145 rfl (by simp[Tryz.f145]) (by kernel_rfl) ?_
 intro E hP hr hs hW hN
 have d1:decide (20<(r.Securities.length:Int))=false:=decide_eq_false (by omega)
 have d2:decide (400<(r.Moves.length:Int))=false:=decide_eq_false (by omega)
 have ir:=gY r
 simp -dsimp -implicitDefEqProofs [-getElem?_pos,go_sem,hP,dU,al,d1,d2]
 obtain⟨I,hI⟩:∃I:Nat→St→Prop,I=fun m s=>∃k:Nat,k≤r.Securities.length∧m=r.Securities.length-k∧s.t 1= .ref 0 0 0∧s.t 20=bT r.Securities∧s.t 21=iv r.Securities.length∧s.t 22=iv k∧s.H[0]?=some (some ⟨45,3,[[bT r.Securities,bz r.Holdings,dZ r.Moves]]⟩):=⟨_,rfl⟩
 refine ay I (r.Securities.length) (by rw[hN];rfl) ?_ ?_
 ·rw[hI]
  exact⟨0,by omega,by omega,by simp -dsimp[-getElem?_pos,go_sem],by simp -dsimp[-getElem?_pos,go_sem],by simp -dsimp[-getElem?_pos,go_sem,al],by simp -dsimp[-getElem?_pos,go_sem],by simp -dsimp[-getElem?_pos,go_sem]⟩
 intro m s hs'
 rw[hI]at hs'
 obtain⟨k,hk0,hm,t1,t20,t21,t22,g0⟩:=hs'
 have l0:=(gsI g0)
 simp -dsimp -implicitDefEqProofs [-getElem?_pos,go_sem,hP,t21,t22]
 refine aB (fun hq=>?_) (fun hq=>?_)
 ·have hk0:k<r.Securities.length:=by simpa using hq
  obtain⟨a,ha⟩:∃a,r.Securities[k]?=some a:=⟨_,List.getElem?_eq_getElem hk0⟩
  have wk:=af ((k:Int)+1) (by omega)
  have sp:=LX (s:=a) (by rw[←hs0];exact List.mem_of_getElem? ha)
  rw[kS]at sp
  have g0':∀x:ac,(s.H++x)[0]?=some (some ⟨45,3,[[bT r.Securities,bz r.Holdings,dZ r.Moves]]⟩):=fun x=>by rw[List.getElem?_append_left l0];exact g0
  simp -dsimp -implicitDefEqProofs [-getElem?_pos,go_sem,hP,t20,t22,ha,kS]
  refine ao (fun _=>true) [] hP (by kernel_rfl) (by kernel_rfl) ?_
  simp -dsimp -implicitDefEqProofs [-getElem?_pos,go_sem,hP]
  refine ah sp hP Nn (ai (by simp -dsimp[-getElem?_pos,go_sem])) .sc ?_
  by_cases k0:k=0
  ·subst k0
   have w1:=af 1 (by omega)
   simp -dsimp -implicitDefEqProofs [-getElem?_pos,go_sem,hP,t1,g0',t22,wk,w1]
   refine⟨r.Securities.length-1,by omega,?_⟩
   rw[hI]
   exact⟨1,by omega,rfl,by simp -dsimp[-getElem?_pos,go_sem,t1],by simp -dsimp[-getElem?_pos,go_sem,t20],by simp -dsimp[-getElem?_pos,go_sem,t21],by simp -dsimp[-getElem?_pos,go_sem,w1],by simp -dsimp[-getElem?_pos,go_sem,g0']⟩
  ·obtain⟨j,rfl⟩:∃j,k=j+1:=⟨k-1,by omega⟩
   obtain⟨z,hz⟩:∃z,r.Securities[j]?=some z:=⟨_,List.getElem?_eq_getElem (by omega)⟩
   have lt:=hin.asc j z a hz ha
   have dj:decide ((0:Int)<((j+1:Nat):Int))=true:=decide_eq_true (by omega)
   have wj:=af (((j+1:Nat):Int)-1) (by omega)
   have ej:((j+1:Nat):Int)-1=(j:Int):=by omega
   have dl:decide (a.ID≤z.ID)=false:=decide_eq_false (by omega)
   have lj:j<r.Securities.length:=by omega
   rw[ej]at wj
   have wk2:=af ((j:Int)+1+1) (by omega)
   simp -dsimp -implicitDefEqProofs [-getElem?_pos,go_sem,hP,t1,g0',t22,wk,wk2,dj,wj,ej,hz,kS,dl,lj]
   refine⟨r.Securities.length-(j+1+1),by omega,?_⟩
   rw[hI]
   exact⟨j+1+1,by omega,rfl,by simp -dsimp[-getElem?_pos,go_sem,t1],by simp -dsimp[-getElem?_pos,go_sem,t20],by simp -dsimp[-getElem?_pos,go_sem,t21],by simp -dsimp[-getElem?_pos,go_sem,wk2],by simp -dsimp[-getElem?_pos,go_sem,g0']⟩
 simp -dsimp -implicitDefEqProofs [-getElem?_pos,go_sem,hP,t1,g0,l0,al]
 obtain⟨J,hJ⟩:∃I:Nat→St→Prop,I=fun m s=>∃k:Nat,k≤r.Moves.length∧m=r.Moves.length-k∧s.t 1= .ref 0 0 0∧s.t 48=dZ r.Moves∧s.t 49=iv r.Moves.length∧s.t 50=iv k∧s.H[0]?=some (some ⟨45,3,[[bT r.Securities,bz r.Holdings,dZ r.Moves]]⟩):=⟨_,rfl⟩
 refine ay J (r.Moves.length) (by rw[hN];rfl) ?_ ?_
 ·rw[hJ]
  exact⟨0,by omega,by omega,by simp -dsimp[-getElem?_pos,go_sem,t1],by simp -dsimp[-getElem?_pos,go_sem],by simp -dsimp[-getElem?_pos,go_sem,al],by simp -dsimp[-getElem?_pos,go_sem],by simp -dsimp[-getElem?_pos,go_sem,g0]⟩
 clear t1 t20 t21 t22 g0 l0 hk0 hm hq s
 intro m s hs'
 rw[hJ]at hs'
 obtain⟨k,hk0,hm,t1,t48,t49,t50,g0⟩:=hs'
 have l0:=(gsI g0)
 simp -dsimp -implicitDefEqProofs [-getElem?_pos,go_sem,hP,t49,t50]
 refine aB (fun hq=>?_) (fun hq=>?_)
 ·have hk0:k<r.Moves.length:=by simpa using hq
  obtain⟨a,ha⟩:∃a,r.Moves[k]?=some a:=⟨_,List.getElem?_eq_getElem hk0⟩
  have wk:=af ((k:Int)+1) (by omega)
  have hd:=hdays a (List.mem_of_getElem? ha)
  have d3:decide (a.Day<0)=false:=decide_eq_false (by omega)
  have d4:decide (36000<a.Day)=false:=decide_eq_false (by omega)
  simp -dsimp -implicitDefEqProofs [-getElem?_pos,go_sem,hP,t48,t50,ha,fF,d3,d4,wk]
  refine⟨r.Moves.length-(k+1),by omega,?_⟩
  rw[hJ]
  refine⟨k+1,by omega,rfl,by simp -dsimp[-getElem?_pos,go_sem,t1],by simp -dsimp[-getElem?_pos,go_sem,t48],by simp -dsimp[-getElem?_pos,go_sem,t49],by simp -dsimp[-getElem?_pos,go_sem],?_⟩
  simp -dsimp -implicitDefEqProofs [-getElem?_pos,go_sem]
  rw[List.getElem?_append_left l0]
  exact g0
 have un:=Hf r d h hk
 have ihl:=bI r.Holdings
 have lq:=tX r.Holdings (by have:=h4.len;omega)
 rw[dU]at un ir
 simp -dsimp -implicitDefEqProofs [-getElem?_pos,go_sem,hP,t1,g0,l0]
 refine ae (un.lift _ _) hP Np (by simp[ir,ar]) (ak ihl .sc) ?_
 simp -dsimp -implicitDefEqProofs [-getElem?_pos,go_sem,hP,t1,g0,l0]
 refine ae (lq.lift _ _) hP M3 (by simp[ihl]) .sc ?_
 simp -dsimp -implicitDefEqProofs [-getElem?_pos,go_sem,hP]
open Go.PA
open Go.RowKit
def Ex:TRegister:=⟨[],[],[]⟩
def uC (r:TRegister) (m:TMove):AV:= .tup [.agg (if sM r m=0 then jc r m else Ex).cells,iv (sM r m)]
theorem Es (r:TRegister) (m:TMove):Imm (uC r m):=ak (gY _) .sc
set_option maxHeartbeats 4000000 in
theorem u7 (r:TRegister) (m:TMove) (k0:Int) (h:RegOk r (dR r)) (hs0:r.Securities=jO) (hk:∀m,m∈r.Moves→oC m) (hl:r.Moves.length<400) (hn:m.Number=(r.Moves.length:Int)+1) (hm:oC m):
  PFun Tryz.prog none none 226 [.agg r.cells,.agg [iv k0,iv m.Day,iv m.Kind,iv m.Security,iv m.From,iv m.To,iv m.Amount]] (·=uC r m):=by
 have hin:=h.regIn
 have ck:=Bh r (dR r) h hs0 hk
 have hok:=h.hl
 have mv:=xx r r.Holdings (dR r) m hok (by have:=hok.len;omega) hin.so (by have:=hin.sl;omega) hm
 obtain⟨R,hR0⟩:∃R,R=sM r m:=⟨_,rfl⟩
 have hR1:br r.Securities r.Holdings (dR r) m=R:=hR0.symm
 rw[hR1]at mv
 obtain⟨Q,hQ⟩:∃Q:AV→Prop,Q=(·=uC r m):=⟨_,rfl⟩
 rw[←hQ]
 have qe:R≠0→Q (.tup [.agg Ex.cells,iv R]):=fun e=>by rw[hQ,uC,←hR0,if_neg e]
 have qo:R=0→Q (.tup [.agg (jc r m).cells,iv 0]):=fun e=>by rw[hQ,uC,←hR0,if_pos e,e]
 clear hQ
 have ir:=gY r
 have im:=qb m
 have ih:=bI (if R=0 then goH r.Holdings m else [])
 rw[fF]at im mv
 rw[dU]at ck ir mv
 refine ab Tryz.func226 rfl (by simp[Tryz.f226]) (by kernel_rfl) ?_
 intro E hP hr hs hW hN
 have wn:=af ((r.Moves.length:Int)+1) (by omega)
 have dl:decide ((r.Moves.length:Int)=400)=false:=decide_eq_false (by omega)
 have en:aj TMove.cells r.Moves++[[iv m.Number,iv m.Day,iv m.Kind,iv m.Security,iv m.From,iv m.To,iv m.Amount]]=aj TMove.cells (r.Moves++[m]):=aV TMove.cells r.Moves m
 simp -dsimp -implicitDefEqProofs [-getElem?_pos,go_sem,hP,dU,fF]
 refine ae (ck.lift _ _) hP N1 (by simp[ir]) .sc ?_
 have hlast:(r.Moves.length=0∧dR r=0)∨∃k x,r.Moves.length=k+1∧r.Moves[k]?=some x∧dR r=x.Day:=by
  rcases List.eq_nil_or_concat r.Moves with e|⟨l,x,e⟩
  ·exact .inl ⟨by rw[e];rfl,by rw[dR,e];rfl⟩
  ·rw[List.concat_eq_append]at e
   exact .inr ⟨l.length,x,by rw[e];simp,by rw[e];simp,by rw[dR,e];simp⟩
 rcases hlast with⟨e0,ed⟩|⟨k,x,e0,ex,ed⟩
 ·rw[ed]at mv
  have d0:decide ((0:Int)<(r.Moves.length:Int))=false:=decide_eq_false (by omega)
  have d0':¬0<r.Moves.length:=by omega
  simp -dsimp -implicitDefEqProofs [-getElem?_pos,go_sem,hP,al,dl,d0,d0',wn]
  rw[←hn]
  refine ae (mv.lift _ _) hP yA (by simp[ir,im,ar,bI]) (ak ih .sc) ?_
  by_cases he:R=0
  rotate_left
  ·have de:decide (R=0)=false:=decide_eq_false he
   simp -dsimp -implicitDefEqProofs [-getElem?_pos,go_sem,hP,de]
   exact aL zZ (qe he)
  have fin:=qo he
  subst he
  rw[if_pos rfl]at ih
  have hm0:r.Moves=[]:=List.eq_nil_of_length_eq_zero e0
  simp -dsimp -implicitDefEqProofs [-getElem?_pos,go_sem,hP]
  refine ao (fun id=>decide (id<2)) [7] hP (by kernel_rfl) (by kernel_rfl) ?_
  simp -dsimp -implicitDefEqProofs [-getElem?_pos,go_sem,hP,ax,hm0,aj]
  refine⟨g7,g7,?_⟩
  refine aL (cs':=(jc r m).cells) ?_ fin
  exact cU (iH _) (cU ih (cQ (ty:=70) (id:=4) (es:=aj TMove.cells (r.Moves++[m])) (by rw[hm0];rfl) (by rw[hm0];rfl) (nr _) .nil))
 ·rw[ed]at mv
  have d0:decide ((0:Int)<(r.Moves.length:Int))=true:=decide_eq_true (by omega)
  have d0':0<r.Moves.length:=by omega
  have wj:IntKind.i64.wrap ((r.Moves.length:Int)-1)=(k:Int):=by rw[af _ (by omega)];omega
  simp -dsimp -implicitDefEqProofs [-getElem?_pos,go_sem,hP,al,dl,d0,d0',wn,wj,ex,fF]
  rw[←hn]
  refine ae (mv.lift _ _) hP yA (by simp[ir,im,ar,bI]) (ak ih .sc) ?_
  by_cases he:R=0
  rotate_left
  ·have de:decide (R=0)=false:=decide_eq_false he
   simp -dsimp -implicitDefEqProofs [-getElem?_pos,go_sem,hP,de]
   exact aL zZ (qe he)
  have fin:=qo he
  subst he
  rw[if_pos rfl]at ih
  simp -dsimp -implicitDefEqProofs [-getElem?_pos,go_sem,hP]
  refine ao (fun id=>decide (id<2)) [7] hP (by kernel_rfl) (by kernel_rfl) ?_
  simp -dsimp -implicitDefEqProofs [-getElem?_pos,go_sem,hP,ax,d0,d0',al]
  refine⟨by omega,by omega,g7,by omega,by omega,g7,?_⟩
  refine aL (cs':=(jc r m).cells) ?_ fin
  exact cU (iH _) (cU ih (cQ (ty:=70) (id:=4) (es:=aj TMove.cells (r.Moves++[m])) (by rw[←en];rfl) (by simp[aj]) (nr _) .nil))
theorem GJ (r:TRegister) (day id h n:Int) (ok:RegOk r (dR r)) (hs0:r.Securities=jO) (hk:∀m,m∈r.Moves→oC m) (hl:r.Moves.length<400):
  PFun Tryz.prog none none 155 [.agg r.cells,iv day,iv id,iv h,iv n] (·=uC r (eU r day 1 id 0 h n)):=by
 have ch:=u7 r (eU r day 1 id 0 h n) 0 ok hs0 hk hl rfl (.inl ⟨rfl,rfl⟩)
 have ir:=gY r
 have ic:=Es r (eU r day 1 id 0 h n)
 have e:[iv 0,iv (eU r day 1 id 0 h n).Day,iv (eU r day 1 id 0 h n).Kind,iv (eU r day 1 id 0 h n).Security,iv (eU r day 1 id 0 h n).From,iv (eU r day 1 id 0 h n).To,iv (eU r day 1 id 0 h n).Amount]=[iv 0,iv day,iv 1,iv id,iv 0,iv h,iv n]:=rfl
 rw[e]at ch
 obtain⟨R,hR⟩:∃R,R=uC r (eU r day 1 id 0 h n):=⟨_,rfl⟩
 obtain⟨y,v,hy⟩:∃(y:TRegister) (v:Int),R= .tup [.agg y.cells,iv v]:=⟨_,_,by rw[hR];rfl⟩
 rw[←hR]at ch ic⊢
 rw[hy,dU y]at ic ch⊢
 rw[dU r]at ir ch⊢
 refine ab Tryz.func155 rfl (by simp[Tryz.f155]) (by kernel_rfl) ?_
 intro E hP hr hs hW hN
 simp -dsimp -implicitDefEqProofs [-getElem?_pos,go_sem,hP]
 refine ae (ch.lift _ _) hP Jg (by simp[ir,az,ar]) ic ?_
 simp -dsimp -implicitDefEqProofs [-getElem?_pos,go_sem,hP]
 exact au ic rfl
theorem DP (r:TRegister) (day id h n:Int) (ok:RegOk r (dR r)) (hs0:r.Securities=jO) (hk:∀m,m∈r.Moves→oC m) (hl:r.Moves.length<400):
  PFun Tryz.prog none none 156 [.agg r.cells,iv day,iv id,iv h,iv n] (·=uC r (eU r day 3 id h 0 n)):=by
 have ch:=u7 r (eU r day 3 id h 0 n) 0 ok hs0 hk hl rfl (.inr ⟨rfl,rfl⟩)
 have ir:=gY r
 have ic:=Es r (eU r day 3 id h 0 n)
 have e:[iv 0,iv (eU r day 3 id h 0 n).Day,iv (eU r day 3 id h 0 n).Kind,iv (eU r day 3 id h 0 n).Security,iv (eU r day 3 id h 0 n).From,iv (eU r day 3 id h 0 n).To,iv (eU r day 3 id h 0 n).Amount]=[iv 0,iv day,iv 3,iv id,iv h,iv 0,iv n]:=rfl
 rw[e]at ch
 obtain⟨R,hR⟩:∃R,R=uC r (eU r day 3 id h 0 n):=⟨_,rfl⟩
 obtain⟨y,v,hy⟩:∃(y:TRegister) (v:Int),R= .tup [.agg y.cells,iv v]:=⟨_,_,by rw[hR];rfl⟩
 rw[←hR]at ch ic⊢
 rw[hy,dU y]at ic ch⊢
 rw[dU r]at ir ch⊢
 refine ab Tryz.func156 rfl (by simp[Tryz.f156]) (by kernel_rfl) ?_
 intro E hP hr hs hW hN
 simp -dsimp -implicitDefEqProofs [-getElem?_pos,go_sem,hP]
 refine ae (ch.lift _ _) hP Jg (by simp[ir,az,ar]) ic ?_
 simp -dsimp -implicitDefEqProofs [-getElem?_pos,go_sem,hP]
 exact au ic rfl
end Go.Proofs.YtaenimpfelpafaaGreatDoor
