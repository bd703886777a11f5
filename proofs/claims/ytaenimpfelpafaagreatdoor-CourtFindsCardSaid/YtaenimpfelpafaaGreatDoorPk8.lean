/- Several texts of this claim, joined: PaRun Crt2 LedP Crt3 Crt4 Crt5 Crt6 Crt7 PlayOdd BatGen CrtGen Rr2 Rr3 CrtSame Rr4 Rr5. -/
import Derived.Test.YtaenimpfelpafaaGreatDoorPk7
import Derived.Scope
set_option linter.unusedSimpArgs false
set_option linter.unusedVariables false
set_option maxRecDepth 4000
namespace Go.PA
open Go.RowKit
abbrev CS:=List AV×ac
def ux:List AV→Nat→AV→List AV
 |[],0,v=>[v]
 |[],n+1,v=> .sc undef::ux [] n v
 |_::l,0,v=>v::l
 |a::l,n+1,v=>a::ux l n v
theorem D8:∀(l:List AV) (i:Nat) (v:AV),bR (ux l i v)=upd (bR l) i v:=by
 have key:∀(l:List AV) (i:Nat) (v:AV) (j:Nat),(ux l i v).getD j (.sc undef)=if j=i then v else l.getD j (.sc undef):=by
  intro l
  induction l with
  |nil=>
   intro i
   induction i with
   |zero=>intro v j;cases j<;>simp[ux]
   |succ i ih=>intro v j;cases j with
    |zero=>simp[ux]
    |succ j=>simpa[ux]using ih v j
  |cons a l ih=>
   intro i v j
   cases i with
   |zero=>cases j<;>simp[ux]
   |succ i=>cases j with
    |zero=>simp[ux]
    |succ j=>simpa[ux]using ih i v j
 intro l i v
 funext j
 exact key l i v j
def CS.st (s:CS):St:=⟨bR s.1,s.2⟩
def tX (l:List AV) (d:Option Tmp) (x:AV):List AV:=match d with
 |some d=>ux l d x
 |none=>l
theorem Jp (l:List AV) (d:Option Tmp) (x:AV):bR (tX l d x)=dc (bR l) d x:=by
 cases d
 ·rfl
 ·exact D8 _ _ _
def rX:Nat→AV→Bool
 |0,_=>false
 |_,.sc _=>true
 |_,.nil=>true
 |_,.imap _=>true
 |n+1,.agg cs=>cs.all (rX n)
 |n+1,.tup cs=>cs.all (rX n)
 |n+1,.iref cs=>cs.all (rX n)
 |n+1,.fn _ cs=>cs.all (rX n)
 |n+1,.list _ es=>es.all fun e=>e.all (rX n)
 |_,_=>false
theorem fX:∀(n:Nat) (a:AV),rX n a=true→Imm a
 |0,_,h=>by simp[rX]at h
 |n+1,a,h=>by
  cases a<;>simp only[rX,List.all_eq_true,reduceCtorEq]at h
  case sc=>exact .sc
  case nil=>exact .nil
  case imap=>exact .imap
  case agg cs=>exact .agg fun a ha=>fX n a (h a ha)
  case tup cs=>exact .tup fun a ha=>fX n a (h a ha)
  case iref cs=>exact .iref fun a ha=>fX n a (h a ha)
  case fn f cs=>exact .fn fun a ha=>fX n a (h a ha)
  case list k es=>exact .list fun e he a ha=>fX n a (h e he a ha)
def xQ:Nat→AV→Bool
 |0,_=>false
 |_,.sc _=>true
 |_,.nil=>true
 |n+1,.agg cs=>cs.all (xQ n)
 |n+1,.tup cs=>cs.all (xQ n)
 |_,_=>false
theorem pu:∀(n:Nat) (a:AV),xQ n a=true→Flat a
 |0,_,h=>by simp[xQ]at h
 |n+1,a,h=>by
  cases a<;>simp only[xQ,List.all_eq_true,reduceCtorEq]at h
  case sc=>exact .sc
  case nil=>exact .nil
  case agg cs=>exact .agg fun a ha=>pu n a (h a ha)
  case tup cs=>exact .tup fun a ha=>pu n a (h a ha)
def I1:Value→Value→Bool
 | .int k a,.int k' b=>decide (k=k')&&decide (a=b)
 | .bool a,.bool b=>decide (a=b)
 | .string a,.string b=>decide (a=b)
 |_,_=>false
theorem Jb {v u:Value} (h:I1 v u=true):v=u:=by
 cases v<;>cases u<;>simp_all [I1]
def gD {α:Type} (f:α→α→Bool):List α→List α→Bool
 |[],[]=>true
 |a::l,b::r=>f a b&&gD f l r
 |_,_=>false
theorem fh {α:Type} {f:α→α→Bool} (hf:∀a b,f a b=true→a=b):∀{l r:List α},gD f l r=true→l=r
 |[],[],_=>rfl
 |a::l,b::r,h=>by
  simp only[gD,Bool.and_eq_true]at h
  rw[hf _ _ h.1,fh hf h.2]
 |[],_::_,h=>by simp[gD]at h
 |_::_,[],h=>by simp[gD]at h
def tM:Nat→AV→AV→Bool
 |0,_,_=>false
 |_+1,.sc v,.sc u=>I1 v u
 |_+1,.nil,.nil=>true
 |n+1,.agg xs,.agg ys=>gD (tM n) xs ys
 |n+1,.tup xs,.tup ys=>gD (tM n) xs ys
 |n+1,.list k xs,.list k' ys=>decide (k=k')&&gD (gD (tM n)) xs ys
 |n+1,.iref xs,.iref ys=>gD (tM n) xs ys
 |n+1,.fn f xs,.fn g ys=>decide (f=g)&&gD (tM n) xs ys
 |_+1,.ref i j k,.ref i' j' k'=>decide (i=i')&&decide (j=j')&&decide (k=k')
 |_+1,.sref i j k,.sref i' j' k'=>decide (i=i')&&decide (j=j')&&decide (k=k')
 |_+1,_,_=>false
theorem ul:∀(n:Nat) {a b:AV},tM n a b=true→a=b
 |0,_,_,h=>by simp[tM]at h
 |n+1,a,b,h=>by
  have ih:∀x y,tM n x y=true→x=y:=fun x y=>ul n
  cases a<;>cases b<;>simp only[tM,reduceCtorEq,Bool.and_eq_true,decide_eq_true_eq]at h
  case sc v u=>rw[Jb h]
  case nil=>rfl
  case agg xs ys=>rw[fh ih h]
  case tup xs ys=>rw[fh ih h]
  case list k xs k' ys=>
   obtain⟨rfl,h⟩:=h
   rw[fh (fun _ _=>fh ih) h]
  case iref xs ys=>rw[fh ih h]
  case fn f xs g ys=>
   obtain⟨rfl,h⟩:=h
   rw[fh ih h]
  case ref i j k i' j' k'=>
   obtain⟨⟨rfl,rfl⟩,rfl⟩:=h
   rfl
  case sref i j k i' j' k'=>
   obtain⟨⟨rfl,rfl⟩,rfl⟩:=h
   rfl
def CQ:Option AObj→Option AObj→Bool
 |none,none=>true
 |some o,some o'=>decide (o.ty=o'.ty)&&decide (o.k=o'.k)&&gD (gD (tM 6)) o.es o'.es
 |_,_=>false
theorem JV {a b:Option AObj} (h:CQ a b=true):a=b:=by
 cases a with
 |none=>cases b with
  |none=>rfl
  |some o=>simp[CQ]at h
 |some o=>cases b with
  |none=>simp[CQ]at h
  |some o'=>
   obtain⟨ty,k,es⟩:=o
   obtain⟨ty',k',es'⟩:=o'
   simp only[CQ,Bool.and_eq_true,decide_eq_true_eq]at h
   obtain⟨⟨rfl,rfl⟩,h⟩:=h
   rw[fh (fun _ _=>fh fun _ _=>ul 6) h]
def aG (D:Nat→Bool):Nat→ac→ac→Bool
 |_,[],_=>true
 |i,x::l,r=>match r with
  |y::r=>(!D i||CQ x y)&&aG D (i+1) l r
  |[]=>false
theorem uL {D:Nat→Bool}:∀{H H':ac} {i:Nat},aG D i H H'=true→∀j,j<H.length→D (i+j)=true→H'[j]?=H[j]?
 |[],_,_,_,j,hj,_=>by simp at hj
 |x::l,[],i,h,_,_,_=>by simp[aG]at h
 |x::l,y::r,i,h,j,hj,hd=>by
  simp only[aG,Bool.and_eq_true,Bool.or_eq_true,Bool.not_eq_true']at h
  match j,hj,hd with
  |0,_,hd=>
   have:=h.1.resolve_left (by rw[Nat.add_zero]at hd;rw[hd];simp)
   simp[JV this]
  |j+1,hj,hd=>
   rw[List.getElem?_cons_succ,List.getElem?_cons_succ]
   exact uL h.2 j (by simpa using hj) (by rw[show i+1+j=i+(j+1) by omega];exact hd)
def m8 {α β:Type} (f:α→Option (List β)):List α→Option (List β)
 |[]=>some []
 |a::l=>match f a with
  |some xs=>match m8 f l with
   |some ys=>some (xs++ys)
   |none=>none
  |none=>none
theorem gA {α β:Type} {f:α→Option (List β)}:∀{l:List α} {ys:List β},m8 f l=some ys→∀a,a∈l→∃xs,f a=some xs∧∀x,x∈xs→x∈ys
 |[],ys,h,a,ha=>by cases ha
 |b::l,ys,h,a,ha=>by
  simp only[m8]at h
  split at h
  ·rename_i xs hx
   split at h
   ·rename_i zs hz
    simp only[Option.some.injEq]at h
    subst h
    rcases List.mem_cons.1 ha with rfl|ha
    ·exact⟨xs,hx,fun x hx=>by simp[hx]⟩
    ·obtain⟨us,h1,h2⟩:=gA hz a ha
     exact⟨us,h1,fun x hx=>by simp[h2 x hx]⟩
   ·cases h
  ·cases h
def Il (P:Program) (t:TypeId) (H:ac) (x:AV):Option ac:=match x,aN P t with
 | .sref id lo dn,some e=>match H[id]?,bP P e with
  |some (some o),some zs=>if o.k=aq P e∧0<o.k∧0<dn∧lo≤o.es.length then some (H.set id (some {o with es:=o.es.take lo++List.replicate dn zs++o.es.drop (lo+dn)}))else none
  |_,_=>none
 | .list _ [],some _=>some H
 |_,_=>none
abbrev Run:=FuncId→List AV→ac→Option (List (AV×ac))
def tG (P:Program) (call:Run) (op:Op) (ev:Operand→AV) (H:ac):Option (List (AV×ac)):=
 match op with
 | .store t a x=>(m4 P t H (ev a) (ev x)).map fun H'=>[(.sc undef,H')]
 | .alloc t=>(bP P t).map fun zs=>[(.ref H.length 0 0,H++[some ⟨t,aq P t,[zs]⟩])]
 | .box t x=>((ev x).cells?).map fun xs=>[(.ref H.length 0 0,H++[some ⟨t,xs.length,[xs]⟩])]
 | .makeSlice t l c=>match s7 P t H (ev l) (ev c)with
  |some (r,H',m,B)=>if (B:Int)*m≤281474976710656∧m≤9223372036854775807 then some [(r,H')]else none
  |none=>none
 | .buildSlice t 0 parts=>match aN P t with
  |some e=>if aA P e=true∧parts.size=0 then some [(.sref H.length 0 0,H++[some ⟨e,aq P e,[]⟩])]else none
  |none=>none
 | .makeMap _ none=>some [(.mref H.length,H++[some ⟨0,2,[]⟩])]
 | .mapUpdate t x k v=>(gI P t H (ev x) (ev k) (ev v)).map fun H'=>[(.sc undef,H')]
 | .mapEntry ..=>none
 | .entryStore ..=>none
 | .range _ _=>none
 | .next _ _=>none
 | .call c=>match c.callee with
  | .builtin .append=>if qO (c.args.toList.map ev)=true then none else match c.args.toList,c.argTypes.toList with
   |[s,x],[t,t']=>if t=t' then match kx P t H (ev s) (ev x)with
    |some (r,H',N,B)=>if N≤9223372036854775807∧N*B≤140737488355328 then some [(r,H')]else none
    |none=>none else none
   |_,_=>none
  | .builtin .copy=>none
  | .builtin .clear=>match c.args.toList,c.argTypes.toList with
   |[x],[t]=>(Il P t H (ev x)).map fun H'=>[(.tup [],H')]
   |_,_=>none
  | .value f=>match ev f with
   | .fn g caps=>if aa P g=true then call g (c.args.toList.map ev++caps) H else none
   |_=>none
  |_=>(aZ P (.call c) ev H).map fun v=>[(v,H)]
 |op=>(aZ P op ev H).map fun v=>[(v,H)]
section
variable {E:Env}
abbrev IsL (L:List (AV×ac)):AV→ac→Prop:=fun x K=>(x,K)∈L
abbrev lU (E:Env) (call:Run):Prop:=∀g args H L,call g args H=some L→ACall E g args H (IsL L)
abbrev iO (P:Program) (run:Run):Prop:=∀g args H L,run g args H=some L→∀row src,MFun P row src g args H (IsL L)
theorem me {call:Run} (hc:lU E call) {op:Op} {ev:Operand→AV} {H:ac} {L:List (AV×ac)}
  (h:tG E.P call op ev H=some L):AEff E op ev H (IsL L):=by
 have rd:∀{o:Option AV},o.map (fun v=>[(v,H)])=some L→(match o with|some v=>IsL L v H|none=>False):=fun {o} h=>by
  cases o with
  |none=>simp at h
  |some v=>simp only[Option.map_some,Option.some.injEq]at h;subst h;exact List.mem_singleton.2 rfl
 have one:∀{x:AV} {K:ac},some [(x,K)]=some L→IsL L x K:=fun h=>by
  simp only[Option.some.injEq]at h
  subst h
  exact List.mem_singleton.2 rfl
 unfold tG at h
 unfold AEff
 split at h
 ·simp only[Option.map_eq_some_iff]at h
  obtain⟨K,hK,rfl⟩:=h
  simp only[hK]
  exact List.mem_singleton.2 rfl
 ·simp only[Option.map_eq_some_iff]at h
  obtain⟨K,hK,rfl⟩:=h
  simp only[hK]
  exact List.mem_singleton.2 rfl
 ·simp only[Option.map_eq_some_iff]at h
  obtain⟨K,hK,rfl⟩:=h
  simp only[hK]
  exact List.mem_singleton.2 rfl
 ·split at h
  ·rename_i hm
   split at h
   ·rename_i hb
    simp only[hm]
    exact⟨hb.1,hb.2,one h⟩
   ·cases h
  ·cases h
 ·split at h
  ·rename_i e he
   split at h
   ·rename_i hb
    simp only[he,if_pos hb]
    exact one h
   ·cases h
  ·cases h
 ·exact one h
 ·simp only[Option.map_eq_some_iff]at h
  obtain⟨K,hK,rfl⟩:=h
  simp only[hK]
  exact List.mem_singleton.2 rfl
 ·cases h
 ·cases h
 ·cases h
 ·cases h
 ·rename_i c
  split at h
  ·rename_i hcal
   simp only[hcal]
   split at h
   ·cases h
   ·rename_i hf
    rw[if_neg hf]
    split at h
    ·rename_i s x t t' h1 h2
     split at h
     ·rename_i htt
      split at h
      ·rename_i ha
       split at h
       ·rename_i hb
        simp only[h1,h2,ha]
        exact⟨htt,hb.1,hb.2,one h⟩
       ·cases h
      ·cases h
     ·cases h
    ·cases h
  ·cases h
  ·rename_i hcal
   simp only[hcal]
   split at h
   ·rename_i x t h1 h2
    simp only[Option.map_eq_some_iff]at h
    obtain⟨K,hK,rfl⟩:=h
    have e2:c.argTypes=#[t]:=Array.toList_inj.1 h2
    rw[h1,e2]
    unfold Il at hK
    split at hK
    ·rename_i id lo dn e hx he
     split at hK
     ·rename_i o zs ho hz
      split at hK
      ·rename_i hc'
       simp only[Option.some.injEq]at hK
       subst hK
       rw[List.map_cons,List.map_nil,hx]
       exact v4 (b:= .mk) (.inl rfl) ho he hc'.1 hc'.2.1 hz hc'.2.2.1 hc'.2.2.2 (List.mem_singleton.2 rfl)
      ·cases hK
     ·cases hK
    ·rename_i k e hx he
     simp only[Option.some.injEq]at hK
     subst hK
     rw[List.map_cons,List.map_nil,hx]
     exact uK (b:= .mk) he (List.mem_singleton.2 rfl)
    ·cases hK
   ·cases h
  ·rename_i f hcal
   simp only[hcal]
   split at h
   ·rename_i g caps hg
    split at h
    ·rename_i hen
     simp only[hg]
     exact .inl ⟨hen,hc _ _ _ _ h⟩
    ·cases h
   ·cases h
  ·rename_i h1 h2 h3 h4
   dsimp only
   split
   ·rename_i hcal;exact (h1 hcal).elim
   ·rename_i hcal;exact (h2 hcal).elim
   ·rename_i hcal;exact (h3 hcal).elim
   ·rename_i f hcal;exact (h4 f hcal).elim
   ·exact rd h
 ·rename_i h1 h2 h3 h4 h5 h6 h7 ha hb h8 h9 h10
  split
  ·exact (h1 _ _ _ rfl).elim
  ·exact (h2 _ rfl).elim
  ·exact (h3 _ _ rfl).elim
  ·exact (h4 _ _ _ rfl).elim
  ·exact (h5 _ _ rfl).elim
  ·exact (h6 _ rfl).elim
  ·exact (h7 _ _ _ _ rfl).elim
  ·exact (ha _ _ _ rfl).elim
  ·exact (hb _ _ _ _ rfl).elim
  ·exact (h8 _ _ rfl).elim
  ·exact (h9 _ _ rfl).elim
  ·exact (h10 _ rfl).elim
  ·exact rd h
def K7 (P:Program) (call:Run) (ops:Array Oper) (o:Oper) (s:CS):Option (List CS):=
 match dh ops o (bR s.1)with
 |some true=>(tG P call o.op (St.eval ⟨bR s.1,s.2⟩) s.2).map fun L=>L.map fun y=>(tX s.1 o.dst y.1,y.2)
 |some false=>some [(tX s.1 o.dst (.sc undef),s.2)]
 |none=>none
def K9 (P:Program) (call:Run) (ops:Array Oper):List Oper→CS→Option (List CS)
 |[],s=>some [s]
 |o::l,s=>match K7 P call ops o s with
  |some ss=>m8 (K9 P call ops l) ss
  |none=>none
def xr (D:Nat→Bool):Nat→ac→ac
 |_,[]=>[]
 |i,x::l=>(if D i then x else none)::xr D (i+1) l
theorem Jg (D:Nat→Bool):∀(H:ac) (i j:Nat),(xr D i H)[j]?=H[j]?.map fun x=>if D (i+j)then x else none
 |[],i,j=>by simp[xr]
 |x::l,i,0=>by simp[xr]
 |x::l,i,j+1=>by rw[xr,List.getElem?_cons_succ,Jg D l,List.getElem?_cons_succ,show i+1+j=i+(j+1) by omega]
theorem Qt (D:Nat→Bool) (H:ac):xr D 0 H=iY D H:=by
 apply List.ext_getElem?
 intro j
 rw[Jg,iY,List.getElem?_mapIdx,Nat.zero_add]
def D7 (op:Op) (ev:Operand→AV):Option (List Nat):=match op with
 | .store _ a _=>match ev a with
  | .ref id _ _=>some [id]
  |_=>none
 | .alloc _=>some []
 | .box _ _=>some []
 | .makeSlice _ _ _=>some []
 | .call c=>match c.callee with
  | .builtin .append=>match c.args.toList.map ev with
   | .sref id _ _::_=>some [id]
   | .nil::_=>some []
   |_=>none
  |_=>none
 |_=>none
theorem qr {H:ac} {x:Option AObj} {id:Nat} (h:id<H.length):(H++[x])[id]?=H[id]?:=List.getElem?_append_left h
theorem Af {P:Program} {call:Run} {op:Op} {ev:Operand→AV} {H:ac} {L:List (AV×ac)} {X:List Nat}
  (h:tG P call op ev H=some L) (ht:D7 op ev=some X) (id:Nat) (hid:id<H.length) (hX:id∉X) {r:AV} {H':ac} (hL:(r,H')∈L):H'[id]?=H[id]?:=by
 unfold D7 at ht
 split at ht
 ·rename_i t a x
  simp only[tG,Option.map_eq_some_iff]at h
  obtain⟨K,hK,rfl⟩:=h
  simp only[List.mem_singleton,Prod.mk.injEq]at hL
  obtain⟨_,rfl⟩:=hL
  split at ht
  ·rename_i i j k ha
   simp only[Option.some.injEq]at ht
   subst ht
   rw[ha]at hK
   unfold m4 at hK
   split at hK
   ·rename_i i' _ _ _ _ heq _
    cases heq
    split at hK
    ·split at hK
     ·split at hK
      ·simp only[Option.some.injEq]at hK
       subst hK
       rw[List.getElem?_set_ne (by simpa using Ne.symm (by simpa using hX))]
      ·cases hK
     ·cases hK
    ·cases hK
   ·cases hK
  ·cases ht
 ·simp only[tG,Option.map_eq_some_iff]at h
  obtain⟨K,hK,rfl⟩:=h
  simp only[List.mem_singleton,Prod.mk.injEq]at hL
  obtain⟨_,rfl⟩:=hL
  exact qr hid
 ·simp only[tG,Option.map_eq_some_iff]at h
  obtain⟨K,hK,rfl⟩:=h
  simp only[List.mem_singleton,Prod.mk.injEq]at hL
  obtain⟨_,rfl⟩:=hL
  exact qr hid
 ·simp only[tG]at h
  split at h
  ·rename_i hm
   split at h
   ·simp only[Option.some.injEq]at h
    subst h
    simp only[List.mem_singleton,Prod.mk.injEq]at hL
    obtain⟨_,rfl⟩:=hL
    unfold s7 at hm
    split at hm
    ·split at hm
     ·split at hm
      ·simp only[Option.some.injEq,Prod.mk.injEq]at hm
       obtain⟨_,rfl,_⟩:=hm
       exact qr hid
      ·cases hm
     ·cases hm
    ·cases hm
   ·cases h
  ·cases h
 ·rename_i c
  split at ht
  ·rename_i hcal
   simp only[tG,hcal]at h
   split at h
   ·cases h
   ·split at h
    ·rename_i s x t t' h1 h2
     split at h
     ·split at h
      ·rename_i ha
       split at h
       ·simp only[Option.some.injEq]at h
        subst h
        simp only[List.mem_singleton,Prod.mk.injEq]at hL
        obtain⟨_,rfl⟩:=hL
        rw[h1]at ht
        unfold kx at ha
        split at ha
        ·cases ha
        ·split at ha
         ·split at ha
          ·cases ha
          ·split at ha
           ·simp only[Option.some.injEq,Prod.mk.injEq]at ha
            obtain⟨_,rfl,_⟩:=ha
            exact qr hid
           ·rename_i hs
            simp only[List.map_cons,hs,Option.some.injEq]at ht
            subst ht
            split at ha
            ·split at ha
             ·simp only[Option.some.injEq,Prod.mk.injEq]at ha
              obtain⟨_,rfl,_⟩:=ha
              rw[qr (by simpa using hid),List.getElem?_set_ne (by simpa using Ne.symm (by simpa using hX))]
             ·cases ha
            ·cases ha
           ·cases ha
         ·cases ha
       ·cases h
      ·cases h
     ·cases h
    ·cases h
  ·cases ht
 ·cases ht
def FE:List (AV×ac)→Option AV
 |[]=>none
 |(r,H)::L=>if rX 6 (dv H r)&&L.all (fun y=>tM 6 (dv H r) (dv y.2 y.1))then some (dv H r)else none
theorem sv {L:List (AV×ac)} {v:AV} (h:FE L=some v):Imm v∧∀y,y∈L→dv y.2 y.1=v:=by
 unfold FE at h
 split at h
 ·cases h
 ·rename_i r H L
  split at h
  ·rename_i hc
   simp only[Bool.and_eq_true,List.all_eq_true]at hc
   simp only[Option.some.injEq]at h
   subst h
   refine⟨fX 6 _ hc.1,fun y hy=>?_⟩
   rcases List.mem_cons.1 hy with rfl|hy
   ·rfl
   ·exact (ul 6 (hc.2 y hy)).symm
  ·cases h
def Ch (run:Run) (g:FuncId) (args:List AV):Option AV:=
 if args.all (rX 6)then match run g args []with
  |some L=>FE L
  |none=>none
 else none
def vP (P:Program) (run call:Run) (D:Nat→Bool) (n:Nat) (S T:List Nat) (ops:Array Oper) (k:Nat) (o:Oper) (s:CS):Option (List CS):=
 match dh ops o (bR s.1)with
 |some true=>
  if T.contains k then (match o.op with
   | .call c=>match c.callee with
    | .value f=>match St.eval ⟨bR s.1,s.2⟩ f with
     | .fn g caps=>if aa P g=true then (Ch run g (c.args.toList.map (St.eval ⟨bR s.1,s.2⟩)++caps)).map fun x=>[(tX s.1 o.dst x,s.2)]else none
     |_=>none
    |_=>none
   |_=>none)
  else if bS o.op then (aZ P o.op (St.eval ⟨bR s.1,s.2⟩) (if S.contains k then s.2 else xr D 0 s.2)).map fun x=>[(tX s.1 o.dst x,s.2)]
  else if S.contains k then (tG P call o.op (St.eval ⟨bR s.1,s.2⟩) s.2).map fun L=>L.map fun y=>(tX s.1 o.dst y.1,y.2)
  else match D7 o.op (St.eval ⟨bR s.1,s.2⟩)with
   |some X=>if n≤s.2.length&&X.all (fun i=>!D i)then (tG P call o.op (St.eval ⟨bR s.1,s.2⟩) s.2).map fun L=>L.map fun y=>(tX s.1 o.dst y.1,y.2)else none
   |none=>match tG P call o.op (St.eval ⟨bR s.1,s.2⟩) s.2 with
    |some L=>if n≤s.2.length&&L.all (fun y=>aG D 0 s.2 y.2)then some (L.map fun y=>(tX s.1 o.dst y.1,y.2))else none
    |none=>none
 |some false=>some [(tX s.1 o.dst (.sc undef),s.2)]
 |none=>none
def Bq (P:Program) (run call:Run) (D:Nat→Bool) (n:Nat) (S T:List Nat) (ops:Array Oper):List Oper→Nat→CS→Option (List CS)
 |[],_,s=>some [s]
 |o::l,k,s=>match vP P run call D n S T ops k o s with
  |some ss=>m8 (Bq P run call D n S T ops l (k+1)) ss
  |none=>none
def og (P:Program) (run call:Run) (D:Nat→Bool) (n:Nat) (S T:List Nat) (ops:Array Oper):Nat→Array Bool→CS→Option (List CS)
 |0,listed,s=>if Region.ready .any ops listed=[]then some [s]else none
 |k+1,listed,s=>match Region.ready .any ops listed with
  |[]=>none
  |R=>let one:=fun i=>match ops[i]? with
    |some o=>match vP P run call D n S T ops i o s with
     |some ss=>m8 (og P run call D n S T ops k (listed.setIfInBounds i true)) ss
     |none=>none
    |none=>none
   match R.find? fun i=>D0 ops S T listed i with
   |some i=>one i
   |none=>m8 one R
structure DH where
 S:List Nat
 T:List Nat
 X:List Nat
def Ss:AV→Option Nat
 | .ref id _ _=>some id
 | .sref id _ _=>some id
 | .mref id=>some id
 |_=>none
def DH.D (d:DH) (s:CS):Nat→Bool:=fun i=>decide (i<s.2.length)&&d.X.all fun j=>!(Ss (bR s.1 j)==some i)
def Ap (P:Program) (run call:Run) (d:DH) (ops:Array Oper) (s:CS):Option (List CS):=
 if lV ops d.S d.T then Bq P run call (d.D s) s.2.length d.S d.T ops ops.toList 0 s
 else og P run call (d.D s) s.2.length d.S d.T ops ops.size (Array.replicate ops.size false) s
abbrev TW:=Option (List (Exit×CS))
def fS (P:Program) (N:Nat) (hint:Nat→DH) (run:Run) (call:Nat→Run):Nat→Code→CS→TW
 |0,_,_=>none
 |n+1,c,s=>match c with
  | .skip=>some [(.normal,s)]
  | .region id ops d=>if vV N ops then (match (if d then Ap P run (call id) (hint id) ops s else K9 P (call id) ops ops.toList s)with
   |some ss=>some (ss.map fun s'=>(.normal,s'))
   |none=>none)else none
  | .seq a b=>match fS P N hint run call n a s with
   |some rs=>m8 (fun r=>match r.1 with
    | .normal=>fS P N hint run call n b r.2
    |e=>some [(e,r.2)]) rs
   |none=>none
  | .cond x a b=>match St.eval ⟨bR s.1,s.2⟩ x with
   | .sc (.bool true)=>fS P N hint run call n a s
   | .sc (.bool false)=>fS P N hint run call n b s
   |_=>none
  | .block id c=>match fS P N hint run call n c s with
   |some rs=>some (rs.map fun r=>match r.1 with
    | .exit i=>if i=id then (.normal,r.2)else (.exit i,r.2)
    |e=>(e,r.2))
   |none=>none
  | .exit id=>some [(.exit id,s)]
  | .label _=>some [(.normal,s)]
  | .ret=>some [(.ret,s)]
  | .loop c=>match fS P N hint run call n c s with
   |some rs=>m8 (fun r=>match r.1 with
    | .normal=>fS P N hint run call n (.loop c) r.2
    |e=>some [(e,r.2)]) rs
   |none=>none
  |_=>none
abbrev SL (L:List CS):St→Prop:=fun st=>∃s,s∈L∧st=⟨bR s.1,s.2⟩
theorem AStep.mono {ops:Array Oper} {o:Oper} {s:St} {K K':St→Prop} (h:AStep E ops o s K) (hk:∀s',K s'→K' s'):AStep E ops o s K':=by
 unfold AStep at h⊢
 split
 ·rename_i hg;rw[hg]at h;exact AEff.mono h fun x H' hx=>hk _ hx
 ·rename_i hg;rw[hg]at h;exact hk _ h
 ·rename_i hg;rw[hg]at h;exact h
variable {run call:Run}
theorem Fc {L:List (AV×ac)} {s:CS} {d:Option Tmp} {x:AV} {K:ac} (h:(x,K)∈L):SL (L.map fun y=>(tX s.1 d y.1,y.2)) ⟨dc (bR s.1) d x,K⟩:=
 ⟨_,List.mem_map_of_mem h,by rw[←Jp]⟩
theorem vE {l:List AV} {d:Option Tmp} {x:AV} {H:ac}:SL [(tX l d x,H)] ⟨dc (bR l) d x,H⟩:=⟨_,List.mem_singleton.2 rfl,by rw[←Jp]⟩
theorem Cv (hc:lU E call) {ops:Array Oper} {o:Oper} {s:CS} {L:List CS} (h:K7 E.P call ops o s=some L):AStep E ops o ⟨bR s.1,s.2⟩ (SL L):=by
 unfold K7 at h
 unfold AStep
 split at h
 ·rename_i hg
  simp only[hg]
  simp only[Option.map_eq_some_iff]at h
  obtain⟨M,hM,rfl⟩:=h
  exact (me hc hM).mono fun x K hx=>Fc hx
 ·rename_i hg
  simp only[hg]
  simp only[Option.some.injEq]at h
  subst h
  exact vE
 ·cases h
theorem AOps.mono {ops:Array Oper}:∀(l:List Oper) {s:St} {K K':St→Prop},(∀s,K s→K' s)→AOps E ops l s K→AOps E ops l s K'
 |[],_,_,_,hk,h=>hk _ h
 |_::l,_,_,_,hk,h=>AStep.mono h fun _ h1=>AOps.mono l hk h1
theorem AXOps.mono {D:Nat→Bool} {S T:List Nat} {ops:Array Oper}:∀(l:List Oper) (k:Nat) {s:St} {K K':St→Prop},(∀s,K s→K' s)→AXOps D E ops S T l k s K→AXOps D E ops S T l k s K'
 |[],_,_,_,_,hk,h=>hk _ h
 |_::l,k,_,_,_,hk,h=>XStep.mono h fun _ h1=>AXOps.mono l (k+1) hk h1
theorem wH (hc:lU E call) {ops:Array Oper}:∀(l:List Oper) {s:CS} {L:List CS},K9 E.P call ops l s=some L→AOps E ops l ⟨bR s.1,s.2⟩ (SL L)
 |[],s,L,h=>by simp only[K9,Option.some.injEq]at h;subst h;exact⟨s,List.mem_singleton.2 rfl,rfl⟩
 |o::l,s,L,h=>by
  simp only[K9]at h
  split at h
  ·rename_i ss h1
   refine (Cv hc h1).mono ?_
   rintro _ ⟨s1,hm,rfl⟩
   obtain⟨M,h2,h3⟩:=gA h s1 hm
   exact AOps.mono l (fun _ ⟨s2,h4,h5⟩=>⟨s2,h3 s2 h4,h5⟩) (wH hc l h2)
  ·cases h
theorem tw {P:Program} (hr:iO P run) {g:FuncId} {args:List AV} {v:AV} (h:Ch run g args=some v) (row src:Option Nat):
  PFun P row src g args (·=v)∧(∀a,a∈args→Imm a)∧Imm v:=by
 unfold Ch at h
 split at h
 ·rename_i ha
  split at h
  ·rename_i L h1
   obtain⟨hi,hv⟩:=sv h
   refine⟨qQ (hr _ _ _ _ h1 row src) ?_,fun a hx=>fX 6 a (List.all_eq_true.1 ha a hx),hi⟩
   intro r' K hm
   have:=hv _ hm
   dsimp only at this
   exact⟨v,by rw[this];exact .refl _,by rw[this];exact hi,hi,rfl⟩
  ·cases h
 ·cases h
theorem qD (hr:iO E.P run) (hc:lU E call)
  {D:Nat→Bool} {n:Nat} (hD:∀i,D i=true→i<n) {S T:List Nat} {ops:Array Oper} {k:Nat} {o:Oper} {s:CS} {L:List CS} (h:vP E.P run call D n S T ops k o s=some L):XStep D E ops S T k o ⟨bR s.1,s.2⟩ (SL L):=by
 unfold vP at h
 unfold XStep
 split at h
 ·rename_i hg
  split at h
  ·rename_i hT
   rw[if_pos hT]
   unfold nK QOut
   simp only[hg]
   unfold QEff
   split at h
   ·rename_i c hop
    split at h
    ·rename_i f hcal
     split at h
     ·rename_i g caps hf
      split at h
      ·rename_i hen
       simp only[Option.map_eq_some_iff]at h
       obtain⟨v,hv,rfl⟩:=h
       obtain⟨h1,h2,h3⟩:=tw hr hv E.row E.src
       rw[jD _ _ []]at hf
       simp only[hop,hcal,hf]
       have:=ke (E:=E) (b:= .mk) (k:=fun x=>SL [(tX s.1 o.dst v,s.2)] ⟨dc (bR s.1) o.dst x,s.2⟩) h1 rfl hen h2 h3 vE
       rw[jD _ _ []]at this
       exact this
      ·cases h
     ·cases h
    ·cases h
   ·cases h
  ·rename_i hT
   rw[if_neg hT]
   unfold DStep
   simp only[hg]
   unfold DEff
   split at h
   ·rename_i hrd
    rw[if_pos hrd]
    simp only[Option.map_eq_some_iff]at h
    obtain⟨v,hv,rfl⟩:=h
    have e:rdH (!S.contains k) D s.2=(if S.contains k=true then s.2 else xr D 0 s.2):=by
     rw[Qt]
     cases S.contains k<;>rfl
    dsimp only
    rw[e]
    simp only[hv]
    exact vE
   ·rename_i hrd
    rw[if_neg hrd]
    split at h
    ·rename_i hS
     simp only[Option.map_eq_some_iff]at h
     obtain⟨M,hv,rfl⟩:=h
     refine (me hc hv).mono fun x K hx=>⟨fun hs=>?_,Fc hx⟩
     rw[hS]at hs
     cases hs
    ·split at h
     ·rename_i X hX
      split at h
      ·rename_i hb
       simp only[Bool.and_eq_true,decide_eq_true_eq,List.all_eq_true,Bool.not_eq_true']at hb
       simp only[Option.map_eq_some_iff]at h
       obtain⟨M,hv,rfl⟩:=h
       refine (me hc hv).mono fun x K hx=>⟨fun _ id hid=>Af hv hX id (Nat.lt_of_lt_of_le (hD id hid) hb.1) (fun hm=>?_) hx,Fc hx⟩
       rw[hb.2 id hm]at hid
       cases hid
      ·cases h
     ·split at h
      ·rename_i M hv
       split at h
       ·rename_i hb
        simp only[Bool.and_eq_true,decide_eq_true_eq,List.all_eq_true]at hb
        simp only[Option.some.injEq]at h
        subst h
        exact (me hc hv).mono fun x K hx=>⟨fun _ id hid=>uL (hb.2 _ hx) id (Nat.lt_of_lt_of_le (hD id hid) hb.1) (by rw[Nat.zero_add];exact hid),Fc hx⟩
       ·cases h
      ·cases h
 ·rename_i hg
  simp only[Option.some.injEq]at h
  subst h
  split
  ·unfold nK QOut
   simp only[hg]
   exact vE
  ·unfold DStep
   simp only[hg]
   exact vE
 ·cases h
theorem sC (hr:iO E.P run) (hc:lU E call)
  {D:Nat→Bool} {n:Nat} (hD:∀i,D i=true→i<n) {S T:List Nat} {ops:Array Oper}:∀(l:List Oper) (k:Nat) {s:CS} {L:List CS},Bq E.P run call D n S T ops l k s=some L→AXOps D E ops S T l k ⟨bR s.1,s.2⟩ (SL L)
 |[],k,s,L,h=>by simp only[Bq,Option.some.injEq]at h;subst h;exact⟨s,List.mem_singleton.2 rfl,rfl⟩
 |o::l,k,s,L,h=>by
  simp only[Bq]at h
  split at h
  ·rename_i ss h1
   refine (qD hr hc hD h1).mono ?_
   rintro _ ⟨s1,hm,rfl⟩
   obtain⟨M,h2,h3⟩:=gA h s1 hm
   exact AXOps.mono l (k+1) (fun _ ⟨s2,h4,h5⟩=>⟨s2,h3 s2 h4,h5⟩) (sC hr hc hD l (k+1) h2)
  ·cases h
theorem oQ (hr:iO E.P run) (hc:lU E call)
  {D:Nat→Bool} {n:Nat} (hD:∀i,D i=true→i<n) {S T:List Nat} {ops:Array Oper}:∀(k:Nat) (listed:Array Bool) {s:CS} {L:List CS},og E.P run call D n S T ops k listed s=some L→XAny D E ops S T (SL L) k listed ⟨bR s.1,s.2⟩
 |0,listed,s,L,h=>by
  simp only[og]at h
  split at h
  ·rename_i h0
   simp only[Option.some.injEq]at h
   subst h
   exact⟨h0,s,List.mem_singleton.2 rfl,rfl⟩
  ·cases h
 |k+1,listed,s,L,h=>by
  simp only[og]at h
  split at h
  ·cases h
  ·rename_i R hne
   have one:∀(i:Nat) (M:List CS),(match ops[i]? with
     |some o=>match vP E.P run call D n S T ops i o s with
      |some ss=>m8 (og E.P run call D n S T ops k (listed.setIfInBounds i true)) ss
      |none=>none
     |none=>none)=some M→(∀x,x∈M→x∈L)→∃o,ops[i]?=some o∧XStep D E ops S T i o ⟨bR s.1,s.2⟩ (XAny D E ops S T (SL L) k (listed.setIfInBounds i true)):=fun i M hM hsub=>by
    split at hM
    ·rename_i o ho
     split at hM
     ·rename_i ss h1
      refine⟨o,ho,(qD hr hc hD h1).mono ?_⟩
      rintro _ ⟨s1,hm,rfl⟩
      obtain⟨M',h2,h3⟩:=gA hM s1 hm
      exact XAny.mono (fun _ ⟨s2,h4,h5⟩=>⟨s2,hsub _ (h3 s2 h4),h5⟩) _ _ _ (oQ hr hc hD k _ h2)
     ·cases hM
    ·cases hM
   split at h
   ·rename_i i hi
    obtain⟨o,ho,hx⟩:=one i L h fun _ h=>h
    have hp:=List.find?_some hi
    exact lm i ho hp hx
   ·refine⟨fun h0=>(hne h0).elim,fun i hi o ho=>?_⟩
    obtain⟨M,h1,h2⟩:=gA h i hi
    obtain⟨o',ho',hx⟩:=one i M h1 h2
    rw[ho]at ho'
    cases ho'
    exact hx
theorem DH.D_lt (d:DH) (s:CS):∀i,d.D s i=true→i<s.2.length:=fun i h=>by
 simp only[DH.D,Bool.and_eq_true,decide_eq_true_eq]at h
 exact h.1
theorem w9 (hm:E.P.follows .mixedOrders=true) (hr:iO E.P run) (hc:lU E call) {d:DH} {ops:Array Oper} {s:CS} {L:List CS} {id:Nat} (hb:vV E.N ops=true) (h:Ap E.P run call d ops s=some L):
  AWp E (.region id ops true) ⟨bR s.1,s.2⟩ (fun x st=>x= .normal∧SL L st):=by
 unfold Ap at h
 split at h
 ·rename_i hx
  exact ri (d.D s) d.S d.T hm hb (XAny.mono (K:=SL L) (fun st hs=>⟨rfl,hs⟩) _ _ _ (uM hx (sC hr hc (DH.D_lt d s) ops.toList 0 h)))
 ·exact ri (d.D s) d.S d.T hm hb (XAny.mono (K:=SL L) (fun st hs=>⟨rfl,hs⟩) _ _ _ (oQ hr hc (DH.D_lt d s) ops.size _ h))
abbrev OL (L:List (Exit×CS)):Exit→St→Prop:=fun x st=>∃s,(x,s)∈L∧st=⟨bR s.1,s.2⟩
theorem CP (hm:E.P.follows .mixedOrders=true) (hint:Nat→DH) (hr:iO E.P run) {call:Nat→Run} (hc:∀id,lU E (call id)):
  ∀(n:Nat) (c:Code) (s:CS) (L:List (Exit×CS)),fS E.P E.N hint run call n c s=some L→AWp E c ⟨bR s.1,s.2⟩ (OL L):=by
 intro n
 induction n using Nat.strongRecOn with
 |_ n ih=>
  intro c s L h
  cases n with
  |zero=>simp[fS]at h
  |succ n=>
   have ih1:=ih n (Nat.lt_succ_self n)
   have one:∀{e:Exit} {s:CS},some [(e,s)]=some L→OL L e ⟨bR s.1,s.2⟩:=fun h=>by
    simp only[Option.some.injEq]at h
    subst h
    exact⟨_,List.mem_singleton.2 rfl,rfl⟩
   cases c
   case skip=>simp only[fS]at h;exact fun a w r=>wp_skip ⟨_,one h,r⟩
   case region id ops d=>
    simp only[fS]at h
    split at h
    ·rename_i hb
     split at h
     ·rename_i ss h1
      simp only[Option.some.injEq]at h
      subst h
      cases d
      ·simp only[Bool.false_eq_true,if_false]at h1
       refine AWp.mono (wC (Q:=fun x st=>x= .normal∧SL ss st) hb (AOps.mono _ (fun s hs=>⟨rfl,hs⟩) (wH (hc id) ops.toList h1))) ?_
       rintro x st ⟨rfl,s1,h2,rfl⟩
       exact⟨s1,List.mem_map.2 ⟨s1,h2,rfl⟩,rfl⟩
      ·simp only[if_true]at h1
       refine AWp.mono (w9 (id:=id) hm hr (hc id) hb h1) ?_
       rintro x st ⟨rfl,s1,h2,rfl⟩
       exact⟨s1,List.mem_map.2 ⟨s1,h2,rfl⟩,rfl⟩
     ·cases h
    ·cases h
   case seq x y=>
    simp only[fS]at h
    split at h
    ·rename_i rs h1
     intro a w r
     refine wp_seq (wp_mono (ih1 x s _ h1 a w r) ?_)
     rintro e' a' w' ⟨st,⟨s1,hs,rfl⟩,r'⟩
     obtain⟨M,h2,h3⟩:=gA h _ hs
     dsimp only at h2
     cases e' with
     |normal=>exact wp_mono (ih1 y s1 _ h2 a' w' r') fun e a w ⟨st,⟨s2,h4,h5⟩,r2⟩=>⟨st,⟨s2,h3 _ h4,h5⟩,r2⟩
     |_=>
      simp only[Option.some.injEq]at h2
      subst h2
      exact⟨_,⟨s1,h3 _ (List.mem_singleton.2 rfl),rfl⟩,r'⟩
    ·cases h
   case cond x y z=>
    simp only[fS]at h
    have he:∀{a:Act} {w:World} {v:Value},Rel E ⟨bR s.1,s.2⟩ a w→St.eval ⟨bR s.1,s.2⟩ x= .sc v→a.eval x=v:=fun {a w v} r hx=>by
     obtain⟨ρ,ok,g,_,_,_,hrr⟩:=r
     have:=vp hrr x
     rw[hx]at this
     exact cI this
    intro a w r
    split at h
    ·rename_i hx
     exact wp_cond_split (he r hx) (fun _=>ih1 y s _ h a w r) (fun e=>by cases e)
    ·rename_i hx
     exact wp_cond_split (he r hx) (fun e=>by cases e) (fun _=>ih1 z s _ h a w r)
    ·cases h
   case block id c=>
    simp only[fS]at h
    split at h
    ·rename_i rs h1
     simp only[Option.some.injEq]at h
     subst h
     intro a w r
     refine wp_block (wp_mono (ih1 c s _ h1 a w r) ?_)
     rintro e' a' w' ⟨st,⟨s1,hs,rfl⟩,r'⟩
     cases e' with
     |exit i=>
      simp only[Exit.inBlock]
      split
      ·rename_i hi
       exact⟨_,⟨s1,List.mem_map.2 ⟨_,hs,by dsimp only;rw[if_pos hi]⟩,rfl⟩,r'⟩
      ·rename_i hi
       exact⟨_,⟨s1,List.mem_map.2 ⟨_,hs,by dsimp only;rw[if_neg hi]⟩,rfl⟩,r'⟩
     |_=>exact⟨_,⟨s1,List.mem_map.2 ⟨_,hs,rfl⟩,rfl⟩,r'⟩
    ·cases h
   case exit id=>simp only[fS]at h;exact fun a w r=>wp_exit ⟨_,one h,r⟩
   case label l=>simp only[fS]at h;exact fun a w r=>wp_label ⟨_,one h,r⟩
   case ret=>simp only[fS]at h;exact fun a w r=>wp_ret ⟨_,one h,r⟩
   case loop c=>
    intro a w r
    refine wp_loop_ghost (fun k a w=>k≤n+1∧∃s1 M,fS E.P E.N hint run call k (.loop c) s1=some M∧(∀x,x∈M→x∈L)∧Rel E ⟨bR s1.1,s1.2⟩ a w) (n+1) ⟨Nat.le_refl _,s,L,h,fun _ h=>h,r⟩ ?_
    rintro k a w ⟨hk,s1,M,h1,hsub,r1⟩
    match k,hk,h1 with
    |0,_,h1=>simp[fS]at h1
    |k+1,hk,h1=>
     simp only[fS]at h1
     split at h1
     ·rename_i rs h2
      refine wp_mono (ih k (by omega) c s1 _ h2 a w r1) ?_
      rintro e' a' w' ⟨st,⟨s2,hs,rfl⟩,r'⟩
      obtain⟨M',h3,h4⟩:=gA h1 _ hs
      dsimp only at h3
      cases e' with
      |normal=>exact⟨k,Nat.lt_succ_self k,by omega,s2,M',h3,fun x hx=>hsub x (h4 x hx),r'⟩
      |_=>
       simp only[Option.some.injEq]at h3
       subst h3
       exact⟨_,⟨s2,hsub _ (h4 _ (List.mem_singleton.2 rfl)),rfl⟩,r'⟩
     ·cases h1
   all_goals simp[fS]at h
end
def Ix (mode:FuncId→Bool) (run:Run) (g:FuncId) (args:List AV) (H:ac):Option (List (AV×ac)):=
 if mode g then run g args H
 else if (args.map (dv H)).all (rX 6)then match run g (args.map (dv H)) []with
  |some L=>match FE L with
   |some v=>if xQ 6 v||args.all fun a=>(j7 a).isEmpty then some [(v,H)]else run g args H
   |none=>none
  |none=>none
 else run g args H
def SQ (P:Program) (rs:List ResultVar):List (Exit×CS)→Option (List (AV×ac)):=m8 fun r=>match r.1 with
 | .normal=>(kN P ⟨bR r.2.1,r.2.2⟩ rs).map fun v=>[(v,r.2.2)]
 | .ret=>(kN P ⟨bR r.2.1,r.2.2⟩ rs).map fun v=>[(v,r.2.2)]
 |_=>none
def E7 (P:Program) (prim:Run) (hints:FuncId→Nat→DH) (mode:FuncId→Nat→FuncId→Bool) (F:Nat):Nat→Run
 |0,_,_,_=>none
 |n+1,f,args,H=>match prim f args H with
  |some L=>some L
  |none=>match P.funcs[f]? with
   |some fn=>match fn.body with
    |some body=>if args.length≤fn.ntmps then match fS P fn.ntmps (hints f) (E7 P prim hints mode F n) (fun id=>Ix (mode f id) (E7 P prim hints mode F n)) F body (args,H)with
     |some rs=>match SQ P fn.results.toList rs with
      |some (y::L)=>some (y::L)
      |_=>none
     |none=>none
     else none
    |none=>none
   |none=>none
theorem r9 {H:ac}:∀(args:List AV),(∀a,a∈args→Imm (dv H a))→Args H args (args.map (dv H))
 |[],_=> .nil
 |a::l,h=> .cons (.refl _) (h a (by simp)) (r9 l fun x hx=>h x (by simp[hx]))
theorem Cr {E:Env} {mode:FuncId→Bool} {run:Run} (hr:iO E.P run):lU E (Ix mode run):=by
 intro g args H L h
 unfold Ix at h
 split at h
 ·exact hr _ _ _ _ h E.row E.src E rfl rfl rfl
 ·split at h
  ·rename_i ha
   split at h
   ·rename_i L1 h1
    split at h
    ·rename_i v hv
     obtain⟨hi,hall⟩:=sv hv
     have hav:∀a,a∈args→Imm (dv H a):=fun a hx=>fX 6 _ (List.all_eq_true.1 ha _ (List.mem_map_of_mem hx))
     have pf:PFun E.P E.row E.src g (args.map (dv H)) (·=v):=qQ (hr _ _ _ _ h1 E.row E.src) (by
      intro r' K hm
      have:=hall _ hm
      dsimp only at this
      exact⟨v,by rw[this];exact .refl _,by rw[this];exact hi,hi,rfl⟩)
     split at h
     ·rename_i hf
      simp only[Option.some.injEq]at h
      subst h
      simp only[Bool.or_eq_true]at hf
      rcases hf with hf|hf
      ·exact my _ rfl pf (r9 args hav) ⟨_,rfl⟩ (by rintro x rfl;exact pu 6 _ hf) (by rintro x rfl;exact List.mem_singleton.2 rfl)
      ·exact lT _ rfl pf (r9 args hav) (fun a hx=>by simpa using List.all_eq_true.1 hf a hx) (by rintro x rfl _;exact List.mem_singleton.2 rfl) ⟨_,rfl,hi⟩
     ·exact hr _ _ _ _ h E.row E.src E rfl rfl rfl
    ·cases h
   ·cases h
  ·exact hr _ _ _ _ h E.row E.src E rfl rfl rfl
theorem vt {P:Program} (hm:P.follows .mixedOrders=true) {prim:Run} (hp:iO P prim) (hints:FuncId→Nat→DH) (mode:FuncId→Nat→FuncId→Bool) (F:Nat):∀(n:Nat),iO P (E7 P prim hints mode F n)
 |0=>fun _ _ _ _ h=>by simp[E7]at h
 |n+1=>by
  intro f args H L h row src
  have ih:=vt hm hp hints mode F n
  simp only[E7]at h
  split at h
  ·rename_i L1 h1
   simp only[Option.some.injEq]at h
   subst h
   exact hp _ _ _ _ h1 row src
  split at h
  ·rename_i fn hfn
   split at h
   ·rename_i body hb
    split at h
    ·rename_i hn
     split at h
     ·rename_i rs hrs
      split at h
      ·rename_i y L' hres
       simp only[Option.some.injEq]at h
       rw[h]at hres
       refine sR hfn hb hn ⟨y.1,y.2,by rw[←h];simp⟩ fun E hP _ _ hN=>?_
       subst hP
       rw[←hN]at hrs
       refine (CP (E:=E) hm (hints f) ih (fun id=>Cr (mode:=mode f id) ih) F body (args,H) _ hrs).mono ?_
       rintro x st ⟨s1,hs,rfl⟩
       obtain⟨M,h2,h3⟩:=gA hres _ hs
       dsimp only at h2
       cases x<;>simp only[reduceCtorEq,Option.map_eq_some_iff]at h2⊢
       ·obtain⟨v,hv,rfl⟩:=h2
        simp only[AM,hv]
        exact h3 _ (List.mem_singleton.2 rfl)
       ·obtain⟨v,hv,rfl⟩:=h2
        simp only[AM,hv]
        exact h3 _ (List.mem_singleton.2 rfl)
      ·cases h
     ·cases h
    ·cases h
   ·cases h
  ·cases h
theorem lO {P:Program} {prim:Run} (hp:iO P prim) (hints:FuncId→Nat→DH) (mode:FuncId→Nat→FuncId→Bool) (F n:Nat) {f:FuncId} {args:List AV} {v:AV} (hm:P.follows .mixedOrders=true)
  (h:Ch (E7 P prim hints mode F n) f args=some v) (row src:Option Nat):PFun P row src f args (·=v):=(tw (vt hm hp hints mode F n) h row src).1
def NK (ty:TypeId) (k:Nat) (H:ac):List (AV×ac):=[(.sref H.length 0 0,H++[some ⟨ty,k,[]⟩]),(.sref (H.length+1) 0 0,H++[none]++[some ⟨ty,k,[]⟩])]
def Lt (l:List (FuncId×TypeId×Nat)):Run:=fun f args H=>match l.find? (fun x=>x.1==f),args with
 |some (_,ty,k),[.list k' []]=>if k'=k then some (NK ty k H)else none
 |_,_=>none
theorem mV {P:Program} {l:List (FuncId×TypeId×Nat)} (h:∀x,x∈l→∀(H:ac) row src,MFun P row src x.1 [.list x.2.2 []] H (IsL (NK x.2.1 x.2.2 H))):iO P (Lt l):=by
 intro g args H L hL row src
 unfold Lt at hL
 split at hL
 ·rename_i f ty k k' hf
  split at hL
  ·rename_i hk
   subst hk
   simp only[Option.some.injEq]at hL
   subst hL
   have hm:=List.mem_of_find?_eq_some hf
   have hg:=List.find?_some hf
   simp only[beq_iff_eq]at hg
   subst hg
   exact h _ hm H row src
  ·cases hL
 ·cases hL
def zH (l:List (FuncId×Nat×FuncId)) (f:FuncId) (r:Nat) (g:FuncId):Bool:=l.any fun x=>x.1==f&&x.2.1==r&&x.2.2==g
def rI:List (Nat×Nat×DH)→FuncId→Nat→DH
 |[],_,_=>⟨[],[],[]⟩
 |(f,r,d)::l,g,q=>if f=g then (if r=q then d else rI l g q)else rI l g q
abbrev KL:=List (FuncId×List AV×AV)
def I5 (l:KL):Run:=fun f args H=>match l.find? (fun x=>x.1==f&&gD (tM 6) x.2.1 args)with
 |some x=>if args.all (rX 6)&&rX 6 x.2.2 then some [(x.2.2,H)]else none
 |none=>none
def Dz (p q:Run):Run:=fun f args H=>match p f args H with
 |some L=>some L
 |none=>q f args H
theorem yQ {P:Program} {p q:Run} (hp:iO P p) (hq:iO P q):iO P (Dz p q):=by
 intro g args H L h row src
 unfold Dz at h
 split at h
 ·rename_i L1 h1
  simp only[Option.some.injEq]at h
  subst h
  exact hp _ _ _ _ h1 row src
 ·exact hq _ _ _ _ h row src
abbrev KOk (P:Program) (l:KL):Prop:=∀x,x∈l→PFun P none none x.1 x.2.1 (·=x.2.2)
theorem BQ {P:Program} {l:KL} (h:KOk P l):iO P (I5 l):=by
 intro g args H L hL row src
 unfold I5 at hL
 split at hL
 ·rename_i x hx
  split at hL
  ·rename_i hi
   simp only[Option.some.injEq]at hL
   subst hL
   simp only[Bool.and_eq_true]at hi
   have hf:=List.find?_some hx
   simp only[Bool.and_eq_true,beq_iff_eq]at hf
   have ha:=fh (fun _ _=>ul 6) hf.2
   have hg:=hf.1
   have him:∀a,a∈args→Imm a:=fun a ha=>fX 6 a (List.all_eq_true.1 hi.1 a ha)
   intro E hP hrow hsrc
   subst hrow;subst hsrc
   have pf:=(h x (List.mem_of_find?_eq_some hx)).lift E.row E.src
   rw[ha,hg]at pf
   exact lT args hP pf (ai him) (fun a ha=>fg (him a ha)) (fun r hr _=>by rw[hr];exact List.mem_singleton.2 rfl) ⟨_,rfl,fX 6 _ hi.2⟩
  ·cases hL
 ·cases hL
theorem iJ {P:Program} {pE:Run} (hE:iO P pE) {l:KL} (h:KOk P l) (hints:FuncId→Nat→DH) (mode:FuncId→Nat→FuncId→Bool) (hm:P.follows .mixedOrders=true) {f:FuncId} {args:List AV} {v:AV}
  (hr:Ch (E7 P (Dz pE (I5 l)) hints mode 10000 60) f args=some v):KOk P ((f,args,v)::l):=by
 intro x hx
 rcases List.mem_cons.1 hx with rfl|hx
 ·exact lO (yQ hE (BQ h)) hints mode 10000 60 hm hr none none
 ·exact h x hx
theorem MW {P:Program}:KOk P []:=fun _ h=>by cases h
end Go.PA
namespace Go.Proofs.YtaenimpfelpafaaGreatDoor
open Go.PA
open Go.RowKit
theorem Fu (x:TIncome):x.cells=[iv x.Number,iv x.Day,iv x.Payer,iv x.Amount,iv x.Claim]:=rfl
def eZ (e:TEntry):Bool:=decide (e.Ref=0)&&(decide (e.From=1)&&decide (e.To=0)||decide (e.From=0)&&decide (e.To=1))
def nD (e:TEntry):Bool:=decide (e.From=0)||decide (e.To=0)
def kj (e:TEntry) (n:Int):TPosting:=
 ⟨n,e.Day,1,if eZ e=true∧e.From≠0 then 230 else if e.To=0 then 510 else 110,if eZ e=true∧e.From=0 then 230 else if e.To=0 then 110 else 410,e.Amount,0,e.Ref⟩
theorem zq (e:TEntry):PFun Tryz.prog none none 37 [.agg e.cells] (·=bv (eZ e)):=by
 refine ab Tryz.func37 rfl (by simp[Tryz.f37]) (by kernel_rfl) ?_
 intro E hP hr hs hW hN
 unfold eZ
 by_cases h1:e.Ref=0
 ·have d1:decide (e.Ref=0)=true:=decide_eq_true h1
  by_cases h2:e.From=1
  ·have d2:decide (e.From=1)=true:=decide_eq_true h2
   have d4:decide (e.From=0)=false:=decide_eq_false (by omega)
   by_cases h3:e.To=0
   ·have d3:decide (e.To=0)=true:=decide_eq_true h3
    simp -dsimp -implicitDefEqProofs [-getElem?_pos,go_sem,hP,cE,d1,d2,d3,d4]
   ·have d3:decide (e.To=0)=false:=decide_eq_false h3
    simp -dsimp -implicitDefEqProofs [-getElem?_pos,go_sem,hP,cE,d1,d2,d3,d4]
  ·have d2:decide (e.From=1)=false:=decide_eq_false h2
   by_cases h4:e.From=0
   ·have d4:decide (e.From=0)=true:=decide_eq_true h4
    simp -dsimp -implicitDefEqProofs [-getElem?_pos,go_sem,hP,cE,d1,d2,d4]
   ·have d4:decide (e.From=0)=false:=decide_eq_false h4
    simp -dsimp -implicitDefEqProofs [-getElem?_pos,go_sem,hP,cE,d1,d2,d4]
 ·have d1:decide (e.Ref=0)=false:=decide_eq_false h1
  simp -dsimp -implicitDefEqProofs [-getElem?_pos,go_sem,hP,cE,d1]
theorem Jh (e:TEntry):PFun Tryz.prog none none 89 [.agg e.cells] (·=bv (nD e)):=by
 refine ab Tryz.func89 rfl (by simp[Tryz.f89]) (by kernel_rfl) ?_
 intro E hP hr hs hW hN
 unfold nD
 by_cases h4:e.From=0
 ·have d4:decide (e.From=0)=true:=decide_eq_true h4
  simp -dsimp -implicitDefEqProofs [-getElem?_pos,go_sem,hP,cE,d4]
 ·have d4:decide (e.From=0)=false:=decide_eq_false h4
  simp -dsimp -implicitDefEqProofs [-getElem?_pos,go_sem,hP,cE,d4]
theorem BE (e:TEntry) (n:Int):PFun Tryz.prog none none 90 [.agg e.cells,iv n] (·= .agg (kj e n).cells):=by
 refine ab Tryz.func90 rfl (by simp[Tryz.f90]) (by kernel_rfl) ?_
 intro E hP hr hs hW hN
 have cs:=zq e
 have ie:=eC e
 have hc:(kj e n).cells=[iv n,iv e.Day,iv 1,iv (if eZ e=true∧e.From≠0 then 230 else if e.To=0 then 510 else 110),iv (if eZ e=true∧e.From=0 then 230 else if e.To=0 then 110 else 410),iv e.Amount,iv 0,iv e.Ref]:=rfl
 rw[hc]
 rw[cE]at cs ie
 by_cases h3:e.To=0
 ·have d3:decide (e.To=0)=true:=decide_eq_true h3
  simp -dsimp -implicitDefEqProofs [-getElem?_pos,go_sem,hP,cE,d3]
  refine ae (cs.lift _ _) hP Fj (by simpa using ie) .sc ?_
  cases h1:eZ e
  ·simp -dsimp -implicitDefEqProofs [-getElem?_pos,go_sem,hP]
   exact done (by simp -dsimp[-getElem?_pos,go_sem]) rfl (by simp -dsimp[-getElem?_pos,go_sem,h3])
  ·by_cases h4:e.From=0
   ·have d4:decide (e.From=0)=true:=decide_eq_true h4
    simp -dsimp -implicitDefEqProofs [-getElem?_pos,go_sem,hP,d4]
    exact done (by simp -dsimp[-getElem?_pos,go_sem]) rfl (by simp -dsimp[-getElem?_pos,go_sem,h3,h4])
   ·have d4:decide (e.From=0)=false:=decide_eq_false h4
    simp -dsimp -implicitDefEqProofs [-getElem?_pos,go_sem,hP,d4]
    exact done (by simp -dsimp[-getElem?_pos,go_sem]) rfl (by simp -dsimp[-getElem?_pos,go_sem,h3,h4])
 ·have d3:decide (e.To=0)=false:=decide_eq_false h3
  simp -dsimp -implicitDefEqProofs [-getElem?_pos,go_sem,hP,cE,d3]
  refine ae (cs.lift _ _) hP Fj (by simpa using ie) .sc ?_
  cases h1:eZ e
  ·simp -dsimp -implicitDefEqProofs [-getElem?_pos,go_sem,hP]
   exact done (by simp -dsimp[-getElem?_pos,go_sem]) rfl (by simp -dsimp[-getElem?_pos,go_sem,h3])
  ·by_cases h4:e.From=0
   ·have d4:decide (e.From=0)=true:=decide_eq_true h4
    simp -dsimp -implicitDefEqProofs [-getElem?_pos,go_sem,hP,d4]
    exact done (by simp -dsimp[-getElem?_pos,go_sem]) rfl (by simp -dsimp[-getElem?_pos,go_sem,h3,h4])
   ·have d4:decide (e.From=0)=false:=decide_eq_false h4
    simp -dsimp -implicitDefEqProofs [-getElem?_pos,go_sem,hP,d4]
    exact done (by simp -dsimp[-getElem?_pos,go_sem]) rfl (by simp -dsimp[-getElem?_pos,go_sem,h3,h4])
def cO (b:Int):List TPosting→List TEntry→List TPosting
 |out,[]=>out
 |out,e::l=>cO b (if nD e=true then out++[kj e (b+(out.length:Int)+1)]else out) l
theorem pQ (l:List TEntry) (b:Int) (hl:l.length≤100000) (hb:0≤b∧b≤100000):PFun Tryz.prog none none 39 [bu l,iv b] (·=ce (cO b [] l)):=by
 refine ab Tryz.func39 rfl (by simp[Tryz.f39]) (by kernel_rfl) ?_
 intro E hP hr hs hW hN
 have ie:=fe l
 simp -dsimp -implicitDefEqProofs [-getElem?_pos,go_sem,hP]
 refine eJ 5 77 8 (by simp -dsimp[-getElem?_pos,go_sem]) ?_
 obtain⟨I,hI⟩:∃I:Nat→St→Prop,I=fun m s=>∃(k id:Nat) (out:List TPosting),k≤l.length∧m=l.length-k∧cO b [] l=cO b out (l.drop k)∧out.length≤k∧s.t 1=iv b∧s.t 8=bu l∧s.t 9=iv l.length∧s.t 10=iv k∧s.t 5= .sref id 0 out.length∧s.H[id]?=some (some ⟨77,8,aj TPosting.cells out⟩):=⟨_,rfl⟩
 refine zQ 5 hW I (l.length) (by rw[hN];rfl) ?_ ?_
 ·rw[hI]
  exact⟨0,0,[],by omega,by omega,by simp,by simp,by simp -dsimp[-getElem?_pos,go_sem],by simp -dsimp[-getElem?_pos,go_sem],by simp -dsimp[-getElem?_pos,go_sem],by simp -dsimp[-getElem?_pos,go_sem],by simp -dsimp[-getElem?_pos,go_sem],by simp -dsimp[-getElem?_pos,go_sem,aj]⟩
 intro m s hs'
 rw[hI]at hs'
 obtain⟨k,id,out,hk,hm,hgo,hol,t1,t8,t9,t10,t5,hH⟩:=hs'
 have hlt:=(gsI hH)
 simp -dsimp -implicitDefEqProofs [-getElem?_pos,go_sem,hP,t9,t10]
 refine aB (fun h=>?_) (fun h=>?_)
 ·have hk:k<l.length:=by simpa using h
  obtain⟨e,he⟩:∃e,l[k]?=some e:=⟨_,List.getElem?_eq_getElem hk⟩
  have wk:=af ((k:Int)+1) (by omega)
  have w1:=af (b+(out.length:Int)) (by omega)
  have w2:=af (b+(out.length:Int)+1) (by omega)
  have hd:l.drop k=e::l.drop (k+1):=by
   obtain⟨h2,h3⟩:=List.getElem?_eq_some_iff.1 he
   rw[List.drop_eq_getElem_cons h2,h3]
  rw[hd,cO]at hgo
  have iee:=eC e
  have co:=Jh e
  have cp:=BE e (b+(out.length:Int)+1)
  rw[cE]at iee co cp
  simp -dsimp -implicitDefEqProofs [-getElem?_pos,go_sem,hP,t8,t10,he,cE]
  refine ae (co.lift _ _) hP Qz (by simpa using iee) .sc ?_
  cases ho:nD e
  ·rw[ho,if_neg (by simp)]at hgo
   simp -dsimp -implicitDefEqProofs [-getElem?_pos,go_sem,hP,t10,wk]
   refine⟨l.length-(k+1),by omega,?_⟩
   rw[hI]
   exact⟨k+1,id,out,by omega,rfl,hgo,by omega,by simp -dsimp[-getElem?_pos,go_sem,t1],by simp -dsimp[-getElem?_pos,go_sem,t8],by simp -dsimp[-getElem?_pos,go_sem,t9],by simp -dsimp[-getElem?_pos,go_sem],by simp -dsimp[-getElem?_pos,go_sem,t5],by simp -dsimp[-getElem?_pos,go_sem,List.getElem?_append_left hlt,hH]⟩
  ·rw[ho,if_pos rfl]at hgo
   obtain⟨np,hnp⟩:∃np,np=kj e (b+(out.length:Int)+1):=⟨_,rfl⟩
   rw[←hnp]at cp hgo
   have inp:=az.2 np.imm
   rw[cP]at cp inp
   have hb2:=(List.getElem?_append_left (l₂:=[some ⟨75,6,[[iv e.Number,iv e.Day,iv e.From,iv e.To,iv e.Amount,iv e.Ref]]⟩]) hlt).trans hH
   simp -dsimp -implicitDefEqProofs [-getElem?_pos,go_sem,hP,t5,hH,hb2,t1,w1,w2]
   refine ae (cp.lift _ _) hP P4 (by simpa[ar]using iee) inp ?_
   simp -dsimp -implicitDefEqProofs [-getElem?_pos,go_sem,hP,t5,hH,hb2,hlt,t10,wk]
   refine⟨by omega,by omega,?_⟩
   refine⟨l.length-(k+1),by omega,?_⟩
   rw[hI]
   exact⟨k+1,s.H.length+1,out++[np],by omega,rfl,hgo,by simp;omega,by simp -dsimp[-getElem?_pos,go_sem,t1],by simp -dsimp[-getElem?_pos,go_sem,t8],by simp -dsimp[-getElem?_pos,go_sem,t9],by simp -dsimp[-getElem?_pos,go_sem],by simp -dsimp[-getElem?_pos,go_sem],by rw[←ba];simp -dsimp -implicitDefEqProofs [-getElem?_pos,go_sem,cP]⟩
 ·have hk:k=l.length:=by simp at h;omega
  subst hk
  rw[List.drop_length,cO]at hgo
  refine frz id _ 77 8 (aj TPosting.cells out) t5 hH (by rw[al]) (dG out) ?_
  simp -dsimp -implicitDefEqProofs [-getElem?_pos,go_sem,hP]
  rw[hgo]
  exact aw (dG out) rfl
open Go.PA
open Go.RowKit
theorem qN (q:TPosting):∀(l:List TPosting) (k:Nat) (d:Int),dT k d (l++[q])=(dT k d l&&(decide (q.Number=((k+l.length:Nat):Int)+1)&&decide ((l.getLast?.map (·.Day)).getD d≤q.Day)))
 |[],k,d=>by simp[dT];rfl
 |p::l,k,d=>by
  have ih:=qN q l (k+1) p.Day
  have e1:(((p::l).getLast?.map (·.Day)).getD d)=(l.getLast?.map (·.Day)).getD p.Day:=by
   cases l with
   |nil=>rfl
   |cons b l=>
    rw[List.getLast?_cons_cons]
    rw[List.getLast?_eq_some_getLast (by simp)]
    rfl
  rw[List.cons_append,dT,ih,dT,e1,List.length_cons,show k+1+l.length=k+(l.length+1)from by omega]
  simp only[Bool.and_assoc]
theorem vM {l:List TPosting} {q:TPosting} (h:(dM l q).2=0):bY l=0∧PostOk q∧q.Number=(l.length:Int)+1∧yS l≤q.Day∧l.length<400∧(dM l q).1=l++[q]∧bY (l++[q])=0:=by
 unfold dM at h⊢
 by_cases c1:bY l=0
 rotate_left
 ·rw[if_neg c1]at h;exact absurd h c1
 rw[if_pos c1]at h⊢
 split at h
 ·cases h
 rename_i c2
 split at h
 ·cases h
 rename_i c3
 split at h
 ·cases h
 rename_i c4
 split at h
 ·cases h
 rename_i c5
 rw[if_neg c2,if_neg c3,if_neg c4,if_neg c5]
 obtain⟨k1,k2,k3⟩:=nS c1
 have hq:PostOk q:=(g8 q).1 (by simpa using c2)
 have c4':q.Number=(l.length:Int)+1:=by omega
 refine⟨c1,hq,c4',by omega,by omega,rfl,?_⟩
 have hl:(l++[q]).length=l.length+1:=by simp
 rw[bY,if_neg (by omega),if_neg,if_pos]
 ·rw[qN,k3,Bool.true_and,decide_eq_true (by rw[c4'];simp),Bool.true_and]
  have hle:yS l≤q.Day:=by omega
  exact decide_eq_true hle
 ·intro h
  obtain⟨p,hp,hb⟩:=List.any_eq_true.1 h
  rcases List.mem_append.1 hp with hp|hp
  ·rw[(g8 p).2 (k2 p hp)]at hb;cases hb
  ·simp at hp;subst hp
   rw[(g8 p).2 hq]at hb;cases hb
open Go.PA
open Go.RowKit
def jS:List TPosting→List TPosting→List TPosting×Int
 |L,[]=>(L,0)
 |L,p::l=>if (dM L p).2=0 then jS (dM L p).1 l else (L,(dM L p).2)
def oO (s:TState) (n:Nat):TState×Int:=
 let r:=jS s.Ledger.Postings (cO (s.Ledger.Postings.length:Int) [] (s.Desk.Account.Entries.drop n))
 (⟨s.Desk,s.Cash,s.Register,⟨r.1⟩⟩,r.2)
theorem ya {L:List TPosting} {p:TPosting} (h:(dM L p).2=0):(dM L p).1.length≤400:=by
 have o:=vM h
 rw[o.2.2.2.2.2.1]
 exact (nS o.2.2.2.2.2.2).1
open Go.PA
open Go.RowKit
open Go.PA
open Go.RowKit
theorem Int.imm (n:Int) (c:AV) (h:c∈aS n):Imm c:=by
 simp[aS]at h
 subst h
 exact .sc
open Go.PA
open Go.RowKit
theorem Ma {d:TDesk} (h:DOk d):FitD d:=by
 have c:=rW h.a
 have hk:=congrArg List.length h.k
 have:=h.q.lk
 have:=h.q.lw
 have:=h.q.lb
 rw[List.length_map]at hk
 exact⟨c.1,c.2,⟨by omega,by omega,by omega,fun b hb=>by have:=(jC h.q.bats b hb).2.1;omega⟩,by omega⟩
theorem CV {r:TRegister} {m:TMove} (h:RegOk r (dR r)) (hm:tF r m=0) (hn:m.Number=(r.Moves.length:Int)+1) (hk:1≤m.Kind∧m.Kind≤3) (hl:r.Moves.length<400):RegOk (jq r m) (dR (jq r m)):=by
 have e:dR (jq r m)=m.Day:=by simp[dR,jq]
 rw[e]
 exact⟨h.secs,h.slen,by
  have:=Runs.snoc h.run (m:=m) ⟨hn,hk,hm⟩
  unfold jq
  simp only[mK]at this
  simpa using this,by unfold jq;simp;omega⟩
structure Kp (j:Nat) (s t:TState):Prop where
 f:FitS j t
 e:s.Desk.Account.Entries.length≤t.Desk.Account.Entries.length
theorem uN {j:Nat} {s:TState} {day f t n:Int} (hf:FitS j s) (h:(fT s day f t n).2=0):Kp j s (fT s day f t n).1:=by
 unfold fT at h⊢
 split at h
 ·rename_i hp
  rw[if_pos hp]
  have c:=rW (gr hp)
  have e:=gT hp
  obtain⟨h1,h2,h3,h4,h5,h6⟩:=hf
  refine⟨⟨⟨c.1,c.2,h1.q,h1.i⟩,h2,h3,h4,h5,h6⟩,?_⟩
  show _≤(bF s.Desk.Account (bT s.Desk.Account day f t n 0)).1.Entries.length
  rw[e]
  simp
 ·rename_i hp
  exact absurd h hp
theorem nv {j:Nat} {s:TState} {d:TDesk} {e:Int} (hf:FitS j s) (h:(fC s d e).2=0) (hd:e=0→DOk d∧s.Desk.Account.Entries.length≤d.Account.Entries.length):Kp j s (fC s d e).1:=by
 unfold fC at h⊢
 split at h
 ·rename_i he
  rw[if_pos he]
  obtain⟨h1,h2⟩:=hd he
  exact⟨⟨Ma h1,hf.c,hf.cl,hf.r,hf.rm,hf.l⟩,h2⟩
 ·rename_i he
  exact absurd h he
theorem FitS.mono {j k:Nat} {s:TState} (h:FitS j s) (hk:j≤k):FitS k s:=⟨h.d,h.c,h.cl,h.r,Nat.le_trans h.rm hk,h.l⟩
theorem AK {j:Nat} {s:TState} {d:TDeed} (hf:FitS j s) (h:(fZ s d).2=0):Kp j s (fZ s d).1:=by
 unfold fZ at h⊢
 split at h
 ·simp at h
 ·rename_i h1
  rw[if_neg h1]
  split at h
  ·rename_i h2
   rw[if_pos h2]
   have k:=uN (j:=j) (s:=⟨s.Desk,csh (s.Cash.Incomes++[At s d]),s.Register,s.Ledger⟩) ⟨hf.d,rfl,JR hf.cl h2,hf.r,hf.rm,hf.l⟩ h
   exact⟨k.f,k.e⟩
  ·rename_i h2
   exact absurd h h2
theorem A2 {j:Nat} {s:TState} {day kind ref f0 t0 n f t n1:Int} (hf:FitS j s) (hj:j<400) (hk:1≤kind∧kind≤3) (h:(jQ s (fd s.Register day kind ref f0 t0 n) (tF s.Register (fd s.Register day kind ref f0 t0 n)) f t n1).2=0):Kp (j+1) s (jQ s (fd s.Register day kind ref f0 t0 n) (tF s.Register (fd s.Register day kind ref f0 t0 n)) f t n1).1:=by
 unfold jQ at h⊢
 split at h
 ·rename_i he
  rw[if_pos he]
  have hm:=hf.rm
  have r2:=CV hf.r he rfl hk (by omega)
  have k:=uN (j:=j+1) (s:=⟨s.Desk,s.Cash,jq s.Register (fd s.Register day kind ref f0 t0 n),s.Ledger⟩) ⟨hf.d,hf.c,hf.cl,r2,by simp[jq];omega,hf.l⟩ h
  exact⟨k.f,k.e⟩
 ·rename_i he
  exact absurd h he
theorem KA {j:Nat} {s:TState} {d:TDeed} (hf:FitS j s) (hj:j<400) (h:(doK s d).2=0):Kp (j+1) s (doK s d).1:=by
 have up:∀{t:TState},Kp j s t→Kp (j+1) s t:=fun k=>⟨k.f.mono (by omega),k.e⟩
 unfold doK at h⊢
 split at h
 ·rename_i c1
  rw[if_pos c1]
  exact up (AK hf h)
 rename_i c1
 rw[if_neg c1]
 split at h
 ·rename_i c2
  rw[if_pos c2]
  refine up (nv hf h fun he=>?_)
  have:=xX (show dq s.Desk (tP d)=((dq s.Desk (tP d)).1,0)from Prod.ext rfl he)
  refine⟨this.2.2.2.2,?_⟩
  rw[this.2.2.2.1]
  exact Nat.le_refl _
 rename_i c2
 rw[if_neg c2]
 split at h
 ·rename_i c3
  rw[if_pos c3]
  refine up (nv hf h fun he=>?_)
  have:=Cl (show dD s.Desk d.Day=((dD s.Desk d.Day).1,(dD s.Desk d.Day).2.1,0)from Prod.ext rfl (Prod.ext rfl he))
  obtain⟨_,_,_,_,ps,a,_,_,_,_,_,hs,_,hx,hd⟩:=this
  refine⟨hd,?_⟩
  obtain⟨es,he2,_⟩:=hs.ents
  rw[hx]
  show _≤a.Entries.length
  rw[he2]
  simp
 rename_i c3
 rw[if_neg c3]
 split at h
 ·rename_i c4
  rw[if_pos c4]
  refine up (nv hf h fun he=>?_)
  obtain⟨_,⟨k,y,_,_,_,hx⟩,hd⟩:=uy (show ez s.Desk d.Ref=((ez s.Desk d.Ref).1,0)from Prod.ext rfl he)
  refine⟨hd,?_⟩
  rw[hx]
  exact Nat.le_refl _
 rename_i c4
 rw[if_neg c4]
 split at h
 ·rename_i c5
  rw[if_pos c5]
  refine up (nv hf h fun he=>?_)
  obtain⟨_,⟨k,y,_,_,_,hp,hx⟩,hd⟩:=uD (show eu s.Desk d.Ref d.Day=((eu s.Desk d.Ref d.Day).1,0)from Prod.ext rfl he)
  refine⟨hd,?_⟩
  rw[hx]
  show _≤(bF s.Desk.Account _).1.Entries.length
  rw[gT hp]
  simp
 rename_i c5
 rw[if_neg c5]
 split at h
 ·rename_i c6
  rw[if_pos c6]
  refine up (nv hf h fun he=>?_)
  obtain⟨_,⟨k,y,_,_,_,hx⟩,hd⟩:=vI (show eD s.Desk d.Ref=((eD s.Desk d.Ref).1,0)from Prod.ext rfl he)
  refine⟨hd,?_⟩
  rw[hx]
  exact Nat.le_refl _
 rename_i c6
 rw[if_neg c6]
 split at h
 ·rename_i c7
  rw[if_pos c7]
  exact A2 hf hj (by omega) h
 rename_i c7
 rw[if_neg c7]
 split at h
 ·rename_i c8
  rw[if_pos c8]
  exact A2 hf hj (by omega) h
 rename_i c8
 rw[if_neg c8]
 split at h
 ·rename_i c9
  rw[if_pos c9]
  split at h
  ·simp at h
  ·rename_i c0
   rw[if_neg c0]
   exact up (uN hf h)
 ·simp at h
def doS (s:TState) (d:TDeed):TState×Int:=
 if (doK s d).2=0 then (if (oO (doK s d).1 s.Desk.Account.Entries.length).2=0 then ((oO (doK s d).1 s.Desk.Account.Entries.length).1,0)else (dw,(oO (doK s d).1 s.Desk.Account.Entries.length).2))else (dw,(doK s d).2)
theorem u9:∀(l L:List TPosting),L.length≤400→(jS L l).1.length≤400
 |[],L,h=>h
 |p::l,L,h=>by
  rw[jS]
  split
  ·rename_i hp
   exact u9 l _ (ya hp)
  ·exact h
theorem L2 {j:Nat} {s:TState} {d:TDeed} (hf:FitS j s) (hj:j<400) (h:(doS s d).2=0):FitS (j+1) (doS s d).1:=by
 unfold doS at h⊢
 split at h
 ·rename_i h1
  rw[if_pos h1]
  have k:=KA hf hj h1
  split at h
  ·rename_i h2
   rw[if_pos h2]
   obtain⟨f1,f2,f3,f4,f5,f6⟩:=k.f
   exact⟨f1,f2,f3,f4,f5,u9 _ _ f6⟩
  ·rename_i h2
   exact absurd h h2
 ·rename_i h1
  exact absurd h h1
open Go.PA
open Go.RowKit
theorem dg {H:ac}:CW H [iv 0,.nil,.nil,.nil,.nil,.nil,.nil,.nil,.nil,.nil,.nil,.nil,.nil,.nil,.nil] dw.cells:=
 yA (bW (bW (bW (bW (bW (bW (bW (bW (bW (bW (bW (bW (bW (bW .nil))))))))))))))
abbrev Aw (l:List TDeed):AV:= .list 7 (aj TDeed.cells l)
theorem rb (l:List TDeed):Imm (Aw l):=aV _ TDeed.imm _
open Go.PA
open Go.RowKit
def RQ (lo hi:Int) (x:AV):Prop:=∃m:Int,x=iv m∧lo≤m∧m≤hi
theorem s8 {lo hi:Int} (h:lo≤hi):∃r,RQ lo hi r∧Imm r:=⟨_,⟨lo,rfl,by omega,h⟩,.sc⟩
theorem Gs (p:Nat) (src:Option Nat) (lo hi:Int) (h1: -1000000000000000000≤lo∧lo≤hi) (h2:hi≤1000000000000000000):PFun Tryz.prog (some p) src 59 [sp p,iv lo,iv hi] (RQ lo hi):=
 (Kb p src lo hi (by omega) (by omega)).mono fun x h=>by
  obtain⟨m,rfl,h3,_⟩:=h
  exact⟨m,rfl,h3 h1.2⟩
def PQ (xs:List Int) (x:AV):Prop:=∃m:Int,x=iv m∧m∈xs
theorem nn {xs:List Int} (h:xs≠[]):∃r,PQ xs r∧Imm r:=by
 cases xs with
 |nil=>exact absurd rfl h
 |cons a l=>exact⟨_,⟨a,rfl,by simp⟩,.sc⟩
theorem AF (p:Nat) (src:Option Nat) (xs:List Int) (h:1≤xs.length∧xs.length≤1000):PFun Tryz.prog (some p) src 9 [sp p,aF xs] (PQ xs):=LX p src xs h
open Go.PA
open Go.RowKit
def q9 (d:Int):Int:=if d%7=5 then d+2 else if d%7=6 then d+1 else d
theorem Fn (d:Int):d≤q9 d∧q9 d≤d+2:=by
 unfold q9
 repeat' split
 all_goals omega
theorem Bc (d:Int) (h:0≤d∧d≤30000):PFun Tryz.prog none none 60 [iv d] (·=iv (q9 d)):=by
 refine ab Tryz.func60 rfl (by simp[Tryz.f60]) (by kernel_rfl) ?_
 intro E hP hr hs hW hN
 simp -dsimp -implicitDefEqProofs [-getElem?_pos,go_sem,hP]
 obtain⟨I,hI⟩:∃I:Nat→St→Prop,I=fun m s=>∃x:Int,d≤x∧q9 d=q9 x∧((m:Nat):Int)+x=d+3∧s.t 0=iv x:=⟨_,rfl⟩
 refine ay I (3) (by rw[hN];rfl) ?_ ?_
 ·rw[hI]
  exact⟨d,by omega,rfl,by omega,by simp -dsimp[-getElem?_pos,go_sem]⟩
 intro m s hs'
 rw[hI]at hs'
 obtain⟨x,hx,hb,hm,t0⟩:=hs'
 have e:x.tmod 7=x%7:=Int.tmod_eq_emod_of_nonneg (by omega)
 have w:=af (x%7) (by omega)
 have w1:=af (x+1) (by omega)
 by_cases c:4<x%7
 ·have d1:decide (4<x%7)=true:=decide_eq_true c
  have:=Fn x
  have:=Fn d
  have hne:q9 x≠x:=by
   unfold q9
   repeat' split
   all_goals omega
  have hb':q9 x=q9 (x+1):=by
   unfold q9
   repeat' split
   all_goals omega
  simp -dsimp -implicitDefEqProofs [-getElem?_pos,go_sem,hP,t0,e,w,d1,w1]
  refine⟨m-1,by omega,?_⟩
  rw[hI]
  exact⟨x+1,by omega,hb.trans hb',by omega,by simp -dsimp[-getElem?_pos,go_sem]⟩
 ·have d1:decide (4<x%7)=false:=decide_eq_false c
  have hb':q9 x=x:=by
   unfold q9
   repeat' split
   all_goals omega
  simp -dsimp -implicitDefEqProofs [-getElem?_pos,go_sem,hP,t0,e,w,d1]
  rw[hb,hb']
open Go.PA
open Go.RowKit
def jR:List TSecurity:=[⟨1,100,0,7200,5000,6,false⟩,⟨2,100,90,450,0,0,false⟩]
theorem IF (p:Nat) (src:Option Nat):PFun Tryz.prog (some p) src 10 [sp p] (·=bb jR):=by
 refine ab Tryz.func10 rfl (by simp[Tryz.f10]) (by kernel_rfl) ?_
 intro E hP hr hs hW hN
 simp -dsimp -implicitDefEqProofs [-getElem?_pos,go_sem,hP]
 exact aw (iV jR) rfl
def Nx (x:AV):Prop:=∃d:TDeed,x= .agg d.cells
theorem Jr:∃r,Nx r∧Imm r:=⟨_,⟨⟨0,0,0,0,0,0,0⟩,rfl⟩,az.2 (TDeed.imm _)⟩
set_option maxHeartbeats 4000000 in
theorem Jl (p:Nat) (src:Option Nat) (day:Int) (hd:0≤day∧day≤30000):PFun Tryz.prog (some p) src 23 [sp p,iv day] Nx:=by
 refine ab Tryz.func23 rfl (by simp[Tryz.f23]) (by kernel_rfl) ?_
 intro E hP hr hs hW hN
 have up:∀{f:FuncId} {args:List AV} {Q:AV→Prop},PFun Tryz.prog (some p) src f args Q→PFun Tryz.prog E.row E.src f args Q:=fun h=>hr▸hs▸h
 have fin:∀d:TDeed,Imm (.agg d.cells):=fun d=>az.2 d.imm
 have am:rY [iv day,iv 100]=some (iv (max day 100)):=by simp[rY,fK]
 have RG:∀lo hi:Int, -1000000000000000000≤lo∧lo≤hi→hi≤1000000000000000000→PFun Tryz.prog E.row E.src 59 [sp p,iv lo,iv hi] (RQ lo hi):=fun lo hi h1 h2=>up (Gs p src lo hi h1 h2)
 have PK:∀xs:List Int,1≤xs.length∧xs.length≤1000→PFun Tryz.prog E.row E.src 9 [sp p,aF xs] (PQ xs):=fun xs h=>up (AF p src xs h)
 simp -dsimp -implicitDefEqProofs [-getElem?_pos,go_sem,hP]
 refine aO (RG 1 8 (by omega) (by omega)) hP sN (by simp -dsimp[-getElem?_pos,go_sem]) (s8 (by omega)) ?_
 rintro r ⟨w,rfl,hw⟩ _
 simp -dsimp -implicitDefEqProofs [-getElem?_pos,go_sem,hP]
 refine aO (RG 1 9 (by omega) (by omega)) hP sN (by simp -dsimp[-getElem?_pos,go_sem]) (s8 (by omega)) ?_
 rintro r ⟨k,rfl,hk⟩ _
 by_cases c1:k=1
 ·subst c1
  simp -dsimp -implicitDefEqProofs [-getElem?_pos,go_sem,hP,am]
  refine aO (PK [2,3,7] (by simp)) hP we (by simp -dsimp[-getElem?_pos,go_sem]) (nn (by simp)) ?_
  rintro r ⟨_,rfl,_⟩ _
  simp -dsimp -implicitDefEqProofs [-getElem?_pos,go_sem,hP]
  refine aO (RG 1 3 (by omega) (by omega)) hP sN (by simp -dsimp[-getElem?_pos,go_sem]) (s8 (by omega)) ?_
  rintro r ⟨_,rfl,_⟩ _
  simp -dsimp -implicitDefEqProofs [-getElem?_pos,go_sem,hP]
  refine aO (PK [0,0,4] (by simp)) hP we (by simp -dsimp[-getElem?_pos,go_sem]) (nn (by simp)) ?_
  rintro r ⟨_,rfl,_⟩ _
  simp -dsimp -implicitDefEqProofs [-getElem?_pos,go_sem,hP]
  refine aO (PK [10,100,400] (by simp)) hP we (by simp -dsimp[-getElem?_pos,go_sem]) (nn (by simp)) ?_
  rintro r ⟨_,rfl,_⟩ _
  simp -dsimp -implicitDefEqProofs [-getElem?_pos,go_sem,hP]
  exact aw (fin ⟨_,_,_,_,_,_,_⟩) ⟨⟨_,_,_,_,_,_,_⟩,rfl⟩
 have d1:decide (k=1)=false:=decide_eq_false c1
 by_cases c2:k=2
 ·subst c2
  simp -dsimp -implicitDefEqProofs [-getElem?_pos,go_sem,hP,am]
  refine aO (RG 1 4 (by omega) (by omega)) hP sN (by simp -dsimp[-getElem?_pos,go_sem]) (s8 (by omega)) ?_
  rintro r ⟨_,rfl,_⟩ _
  simp -dsimp -implicitDefEqProofs [-getElem?_pos,go_sem,hP]
  refine aO (PK [1,2,3,7] (by simp)) hP we (by simp -dsimp[-getElem?_pos,go_sem]) (nn (by simp)) ?_
  rintro r ⟨_,rfl,_⟩ _
  simp -dsimp -implicitDefEqProofs [-getElem?_pos,go_sem,hP]
  refine aO (PK [5,30,90] (by simp)) hP we (by simp -dsimp[-getElem?_pos,go_sem]) (nn (by simp)) ?_
  rintro r ⟨_,rfl,_⟩ _
  simp -dsimp -implicitDefEqProofs [-getElem?_pos,go_sem,hP]
  exact aw (fin ⟨_,_,_,_,_,_,_⟩) ⟨⟨_,_,_,_,_,_,_⟩,rfl⟩
 have d2:decide (k=2)=false:=decide_eq_false c2
 by_cases c3:k=3
 ·subst c3
  simp -dsimp -implicitDefEqProofs [-getElem?_pos,go_sem,hP,am]
  refine ae ((Bc day hd).lift _ _) hP Ps (by simp -dsimp[-getElem?_pos,go_sem]) .sc ?_
  simp -dsimp -implicitDefEqProofs [-getElem?_pos,go_sem,hP]
  exact aw (fin ⟨_,_,_,_,_,_,_⟩) ⟨⟨_,_,_,_,_,_,_⟩,rfl⟩
 have d3:decide (k=3)=false:=decide_eq_false c3
 by_cases c4:k=4
 ·subst c4
  simp -dsimp -implicitDefEqProofs [-getElem?_pos,go_sem,hP,am]
  exact aw (fin ⟨_,_,_,_,_,_,_⟩) ⟨⟨_,_,_,_,_,_,_⟩,rfl⟩
 have d4:decide (k=4)=false:=decide_eq_false c4
 by_cases c5:k=5
 ·subst c5
  simp -dsimp -implicitDefEqProofs [-getElem?_pos,go_sem,hP,am]
  exact aw (fin ⟨_,_,_,_,_,_,_⟩) ⟨⟨_,_,_,_,_,_,_⟩,rfl⟩
 have d5:decide (k=5)=false:=decide_eq_false c5
 by_cases c6:k=6
 ·subst c6
  simp -dsimp -implicitDefEqProofs [-getElem?_pos,go_sem,hP,am]
  exact aw (fin ⟨_,_,_,_,_,_,_⟩) ⟨⟨_,_,_,_,_,_,_⟩,rfl⟩
 have d6:decide (k=6)=false:=decide_eq_false c6
 by_cases c7:k=7
 ·subst c7
  simp -dsimp -implicitDefEqProofs [-getElem?_pos,go_sem,hP,am]
  refine aO (RG 1 2 (by omega) (by omega)) hP sN (by simp -dsimp[-getElem?_pos,go_sem]) (s8 (by omega)) ?_
  rintro r ⟨_,rfl,_⟩ _
  simp -dsimp -implicitDefEqProofs [-getElem?_pos,go_sem,hP]
  refine aO (RG 1 3 (by omega) (by omega)) hP sN (by simp -dsimp[-getElem?_pos,go_sem]) (s8 (by omega)) ?_
  rintro r ⟨_,rfl,_⟩ _
  simp -dsimp -implicitDefEqProofs [-getElem?_pos,go_sem,hP]
  refine aO (PK [100,1000] (by simp)) hP we (by simp -dsimp[-getElem?_pos,go_sem]) (nn (by simp)) ?_
  rintro r ⟨_,rfl,_⟩ _
  simp -dsimp -implicitDefEqProofs [-getElem?_pos,go_sem,hP]
  exact aw (fin ⟨_,_,_,_,_,_,_⟩) ⟨⟨_,_,_,_,_,_,_⟩,rfl⟩
 have d7:decide (k=7)=false:=decide_eq_false c7
 by_cases c8:k=8
 ·subst c8
  simp -dsimp -implicitDefEqProofs [-getElem?_pos,go_sem,hP,am]
  refine aO (RG 1 2 (by omega) (by omega)) hP sN (by simp -dsimp[-getElem?_pos,go_sem]) (s8 (by omega)) ?_
  rintro r ⟨_,rfl,_⟩ _
  simp -dsimp -implicitDefEqProofs [-getElem?_pos,go_sem,hP]
  refine aO (RG 1 3 (by omega) (by omega)) hP sN (by simp -dsimp[-getElem?_pos,go_sem]) (s8 (by omega)) ?_
  rintro r ⟨_,rfl,_⟩ _
  simp -dsimp -implicitDefEqProofs [-getElem?_pos,go_sem,hP]
  refine aO (PK [100,1000] (by simp)) hP we (by simp -dsimp[-getElem?_pos,go_sem]) (nn (by simp)) ?_
  rintro r ⟨_,rfl,_⟩ _
  simp -dsimp -implicitDefEqProofs [-getElem?_pos,go_sem,hP]
  exact aw (fin ⟨_,_,_,_,_,_,_⟩) ⟨⟨_,_,_,_,_,_,_⟩,rfl⟩
 have d8:decide (k=8)=false:=decide_eq_false c8
 simp -dsimp -implicitDefEqProofs [-getElem?_pos,go_sem,hP,d1,d2,d3,d4,d5,d6,d7,d8]
 refine aO (PK [1,2,3] (by simp)) hP we (by simp -dsimp[-getElem?_pos,go_sem]) (nn (by simp)) ?_
 rintro r ⟨_,rfl,_⟩ _
 simp -dsimp -implicitDefEqProofs [-getElem?_pos,go_sem,hP]
 refine aO (PK [1,2,7] (by simp)) hP we (by simp -dsimp[-getElem?_pos,go_sem]) (nn (by simp)) ?_
 rintro r ⟨_,rfl,_⟩ _
 simp -dsimp -implicitDefEqProofs [-getElem?_pos,go_sem,hP]
 refine aO (PK [5,50] (by simp)) hP we (by simp -dsimp[-getElem?_pos,go_sem]) (nn (by simp)) ?_
 rintro r ⟨_,rfl,_⟩ _
 simp -dsimp -implicitDefEqProofs [-getElem?_pos,go_sem,hP]
 exact aw (fin ⟨_,_,_,_,_,_,_⟩) ⟨⟨_,_,_,_,_,_,_⟩,rfl⟩
def Lc (n:Nat) (x:AV):Prop:=∃l:List TDeed,x=Aw l∧l.length≤n
theorem HL (n:Nat):∃r,Lc n r∧Imm r:=⟨_,⟨[],rfl,by simp⟩,rb []⟩
set_option maxHeartbeats 2000000 in
theorem HM (p:Nat) (src:Option Nat) (n:Nat) (hn:n≤100):PFun Tryz.prog (some p) src 11 [sp p,iv n] (Lc n):=by
 refine ab Tryz.func11 rfl (by simp[Tryz.f11]) (by kernel_rfl) ?_
 intro E hP hr hs hW hN
 have up:∀{f:FuncId} {args:List AV} {Q:AV→Prop},PFun Tryz.prog (some p) src f args Q→PFun Tryz.prog E.row E.src f args Q:=fun h=>hr▸hs▸h
 have w1:=af ((n:Int)+1) (by omega)
 simp -dsimp -implicitDefEqProofs [-getElem?_pos,go_sem,hP,w1]
 refine bM (up (zm p src ((n:Int)+1) (by omega))) hP p8 (ai (by simp -dsimp[-getElem?_pos,go_sem])) (yX _) (nO _) ?_
 rintro r ⟨z,rfl,_,hz⟩
 have hz:=hz (by omega)
 obtain⟨c,rfl⟩:∃c:Nat,z=c:=⟨z.toNat,by omega⟩
 simp -dsimp -implicitDefEqProofs [-getElem?_pos,go_sem,hP]
 refine eJ 5 59 7 (by simp -dsimp[-getElem?_pos,go_sem]) ?_
 obtain⟨I,hI⟩:∃I:Nat→St→Prop,I=fun m s=>∃(id:Nat) (l:List TDeed) (day:Int),m≤c∧l.length+m=c∧0≤day∧day≤100+3*l.length∧s.t 0=sp p∧s.t 5= .sref id 0 l.length∧s.t 6=iv day∧s.t 7=iv m∧s.H[id]?=some (some ⟨59,7,aj TDeed.cells l⟩):=⟨_,rfl⟩
 refine ay I (c) (by rw[hN];rfl) ?_ ?_
 ·rw[hI]
  exact⟨0,[],100,by omega,by simp,by omega,by simp,by simp -dsimp[-getElem?_pos,go_sem],by simp -dsimp[-getElem?_pos,go_sem],by simp -dsimp[-getElem?_pos,go_sem],by simp -dsimp[-getElem?_pos,go_sem],by simp -dsimp[-getElem?_pos,go_sem,aj]⟩
 intro m s hs'
 rw[hI]at hs'
 obtain⟨id,l,day,hk,hl,hd0,hd1,t0,t5,t6,t7,hH⟩:=hs'
 have ltH:=(gsI hH)
 simp -dsimp -implicitDefEqProofs [-getElem?_pos,go_sem,hP,t7]
 refine aB (fun h=>?_) (fun h=>?_)
 ·have hm:0<m:=by simpa using h
  have wm:=af ((m:Int)-1) (by omega)
  simp -dsimp -implicitDefEqProofs [-getElem?_pos,go_sem,hP,t0,t6]
  refine aO (up (zm p src 3 (by omega))) hP p8 (by simp -dsimp[-getElem?_pos,go_sem]) ⟨_,⟨0,rfl,by omega,by omega⟩,.sc⟩ ?_
  rintro r ⟨z,rfl,_,a3⟩ _
  have a3:=a3 (by omega)
  have wd:=af (day+z) (by omega)
  simp -dsimp -implicitDefEqProofs [-getElem?_pos,go_sem,hP,t5,t0,hH,wd]
  refine aO (up (Jl p src (day+z) (by omega))) hP PI (by simp -dsimp[-getElem?_pos,go_sem]) Jr ?_
  rintro r ⟨d,rfl⟩ _
  have im:=az.2 d.imm
  rw[dJ]at im
  simp -dsimp -implicitDefEqProofs [-getElem?_pos,go_sem,hP,t5,t0,hH,ltH,al,t7,wm,dJ]
  refine⟨by omega,by omega,m-1,by omega,?_⟩
  rw[hI]
  refine⟨s.H.length,l++[d],day+z,by omega,by simp;omega,by omega,by simp;omega,by simp -dsimp[-getElem?_pos,go_sem,t0],by simp -dsimp[-getElem?_pos,go_sem],by simp -dsimp[-getElem?_pos,go_sem],?_,by simp -dsimp[-getElem?_pos,go_sem,aj,dJ]⟩
  simp -dsimp -implicitDefEqProofs [-getElem?_pos,go_sem,hP]
  omega
 ·have hm:m=0:=by
   have:¬0<m:=by simpa using h
   omega
  simp -dsimp -implicitDefEqProofs [-getElem?_pos,go_sem,hP,t5]
  refine done (x:=Aw l) ?_ ⟨l,rfl,by omega⟩ ?_<;>rw[gB,hH,gq]
  ·rw[List.drop_zero,List.take_of_length_le (by simp[aj])]
   exact rb l
  ·rw[List.drop_zero,List.take_of_length_le (by simp[aj])]
end Go.Proofs.YtaenimpfelpafaaGreatDoor
set_option maxRecDepth 100000
namespace Go.Proofs.YtaenimpfelpafaaGreatDoor
open Go.PA
open Go.RowKit
theorem KE:PFun Tryz.prog none none 147 [.agg [iv 1,iv 100,iv 0,iv 7200,iv 5000,iv 6,bv false]] (·=bv true):=
 lO (mV (l:=[]) fun x hx=>by cases hx) (rI []) (zH []) 10000 60 (by kernel_rfl) (by kernel_rfl) none none
theorem JZ:PFun Tryz.prog none none 147 [.agg [iv 2,iv 100,iv 90,iv 450,iv 0,iv 0,bv false]] (·=bv true):=
 lO (mV (l:=[]) fun x hx=>by cases hx) (rI []) (zH []) 10000 60 (by kernel_rfl) (by kernel_rfl) none none
theorem LQ {s:TSecurity} (h:s∈jR):PFun Tryz.prog none none 147 [.agg s.cells] (·=bv true):=by
 simp only[jR,List.mem_cons,List.not_mem_nil,or_false]at h
 rcases h with rfl|rfl
 ·exact KE
 ·exact JZ
theorem ED (x:TSecurity) (l:List TSecurity) (id:Int):eI (x::l) id=if x.ID=id then (x,true)else eI l id:=by
 unfold eI kF
 rw[List.find?_cons]
 by_cases h:x.ID=id
 ·rw[decide_eq_true h,if_pos h]
 ·rw[decide_eq_false h,if_neg h]
theorem vG (r:TRegister) (id:Int) (hl:r.Securities.length≤100000):PFun Tryz.prog none none 146 [.agg r.cells,iv id] (·= .tup [.agg (eI r.Securities id).1.cells,bv (eI r.Securities id).2]):=by
 refine ab Tryz.func146 rfl (by simp[Tryz.f146]) (by kernel_rfl) ?_
 intro E hP hr hs hW hN
 obtain⟨R,hR'⟩:∃R,R=eI r.Securities id:=⟨_,rfl⟩
 rw[←hR']
 have ir:=az.2 r.imm
 rw[dQ]at ir
 simp -dsimp -implicitDefEqProofs [-getElem?_pos,go_sem,hP,dQ]
 obtain⟨I,hI⟩:∃I:Nat→St→Prop,I=fun m s=>∃k:Nat,k≤r.Securities.length∧m=r.Securities.length-k∧R=eI (r.Securities.drop k) id∧s.t 1=iv id∧s.t 4= .ref 1 0 0∧s.t 9=bb r.Securities∧s.t 10=iv r.Securities.length∧s.t 11=iv k∧s.H[1]?=some (some ⟨89,7,[[iv 0,iv 0,iv 0,iv 0,iv 0,iv 0,bv false]]⟩):=⟨_,rfl⟩
 refine ay I (r.Securities.length) (by rw[hN];rfl) ?_ ?_
 ·rw[hI]
  exact⟨0,by omega,by omega,by rw[List.drop_zero,hR'],by simp -dsimp[-getElem?_pos,go_sem],by simp -dsimp[-getElem?_pos,go_sem],by simp -dsimp[-getElem?_pos,go_sem],by simp -dsimp[-getElem?_pos,go_sem],by simp -dsimp[-getElem?_pos,go_sem],by simp -dsimp[-getElem?_pos,go_sem]⟩
 intro m s hs'
 rw[hI]at hs'
 obtain⟨k,hk,hm,hq,t1,t4,t9,t10,t11,g1⟩:=hs'
 have l1:=(gsI g1)
 simp -dsimp -implicitDefEqProofs [-getElem?_pos,go_sem,hP,t10,t11]
 refine aB (fun hh=>?_) (fun hh=>?_)
 ·have hk:k<r.Securities.length:=by simpa using hh
  obtain⟨x,hx⟩:∃x,r.Securities[k]?=some x:=⟨_,List.getElem?_eq_getElem hk⟩
  have wk:=af ((k:Int)+1) (by omega)
  have hd:r.Securities.drop k=x::r.Securities.drop (k+1):=by
   obtain⟨h2,h3⟩:=List.getElem?_eq_some_iff.1 hx
   rw[List.drop_eq_getElem_cons h2,h3]
  have ix:=az.2 x.imm
  rw[jU]at ix
  rw[hd,ED]at hq
  have g1':∀Y:List (Option AObj),(s.H++Y)[1]?=_:=fun Y=>(List.getElem?_append_left l1).trans g1
  have l11:1<s.H.length+1:=by omega
  have nl:¬s.H.length=1:=by omega
  have nl':¬1=s.H.length:=by omega
  by_cases c1:x.ID=id
  ·rw[if_pos c1]at hq
   have d1:decide (x.ID=id)=true:=decide_eq_true c1
   simp -dsimp -implicitDefEqProofs [-getElem?_pos,go_sem,hP,t9,t11,hx,jU,t1,d1,t4,g1',l11,nl,nl']
   rw[hq,jU]
   exact aw (ak ix .sc) rfl
  ·rw[if_neg c1]at hq
   have d1:decide (x.ID=id)=false:=decide_eq_false c1
   simp -dsimp -implicitDefEqProofs [-getElem?_pos,go_sem,hP,t9,t11,hx,jU,t1,d1,wk]
   refine⟨r.Securities.length-(k+1),by omega,?_⟩
   rw[hI]
   exact⟨k+1,by omega,rfl,hq,by simp -dsimp[-getElem?_pos,go_sem,t1],by simp -dsimp[-getElem?_pos,go_sem,t4],by simp -dsimp[-getElem?_pos,go_sem,t9],by simp -dsimp[-getElem?_pos,go_sem,t10],by simp -dsimp[-getElem?_pos,go_sem],by simp -dsimp[-getElem?_pos,go_sem,g1']⟩
 ·have hk:k=r.Securities.length:=by simp at hh;omega
  subst hk
  rw[List.drop_length]at hq
  have hz:R=(vJ,false):=hq
  simp -dsimp -implicitDefEqProofs [-getElem?_pos,go_sem,hP,t4,g1,l1]
  rw[hz]
  exact aw (ak (az.2 vJ.imm) .sc) rfl
set_option maxHeartbeats 2000000 in
theorem E9 (l:List THolding) (id h n:Int) (srt:l.Pairwise hR) (hl:l.length≤100000) (hb: -1000000000000000≤gQ l id h+n∧gQ l id h+n≤1000000000000000):PFun Tryz.prog none none 299 [aQ l,iv id,iv h,iv n] (·=aQ (kQ l id h n)):=by
 refine ab Tryz.func299 rfl (by simp[Tryz.f299]) (by kernel_rfl) ?_
 intro E hP hr hs hW hN
 have ih:=bD l
 have hd0:=Cs l id h hl
 have w0:=af (gQ l id h+n) (by omega)
 have fin:=FN (id:=id) (h:=h) (n:=n) srt
 obtain⟨q,hq⟩:∃q,q=gQ l id h+n:=⟨_,rfl⟩
 obtain⟨T,hT⟩:∃T,T=kQ l id h n:=⟨_,rfl⟩
 rw[←hq]at fin
 rw[←hT]at fin⊢
 simp -dsimp -implicitDefEqProofs [-getElem?_pos,go_sem,hP]
 refine ae (hd0.lift _ _) hP ER (by simp[ih,ar]) .sc ?_
 simp -dsimp -implicitDefEqProofs [-getElem?_pos,go_sem,hP,w0]
 rw[←hq]
 refine eJ 10 173 3 (by simp -dsimp[-getElem?_pos,go_sem]) ?_
 obtain⟨I,hI⟩:∃I:Nat→St→Prop,I=fun m s=>∃(k j:Nat) (out:List THolding) (put:Bool),k≤l.length∧m=l.length-k∧T=out++oA id h q put (l.drop k)∧s.t 1=iv id∧s.t 2=iv h∧s.t 9=iv q∧s.t 10= .sref j 0 out.length∧s.t 11=bv put∧s.t 22=aQ l∧s.t 23=iv l.length∧s.t 24=iv k∧s.H[j]?=some (some ⟨173,3,aj THolding.cells out⟩)∧out.length≤2*k:=⟨_,rfl⟩
 refine ay I (l.length) (by rw[hN];rfl) ?_ ?_
 ·rw[hI]
  exact⟨0,0,[],decide (q=0),by omega,by omega,by rw[List.nil_append,List.drop_zero,fin],by simp -dsimp[-getElem?_pos,go_sem],by simp -dsimp[-getElem?_pos,go_sem],by simp -dsimp[-getElem?_pos,go_sem],by simp -dsimp[-getElem?_pos,go_sem],by simp -dsimp[-getElem?_pos,go_sem],by simp -dsimp[-getElem?_pos,go_sem],by simp -dsimp[-getElem?_pos,go_sem],by simp -dsimp[-getElem?_pos,go_sem],by simp -dsimp[-getElem?_pos,go_sem,aj],by simp⟩
 intro m s hs'
 rw[hI]at hs'
 obtain⟨k,j,out,put,hk,hm,hgo,t1,t2,t9,t10,t11,t22,t23,t24,gj,ol⟩:=hs'
 have lj:=(gsI gj)
 simp -dsimp -implicitDefEqProofs [-getElem?_pos,go_sem,hP,t23,t24]
 refine aB (fun hh=>?_) (fun hh=>?_)
 ·have hk:k<l.length:=by simpa using hh
  obtain⟨x,hx⟩:∃x,l[k]?=some x:=⟨_,List.getElem?_eq_getElem hk⟩
  have wk:=af ((k:Int)+1) (by omega)
  have hd:l.drop k=x::l.drop (k+1):=by
   obtain⟨h2,h3⟩:=List.getElem?_eq_some_iff.1 hx
   rw[List.drop_eq_getElem_cons h2,h3]
  rw[hd,oA]at hgo
  have gj':∀Y:List (Option AObj),(s.H++Y)[j]?=_:=fun Y=>(List.getElem?_append_left lj).trans gj
  have ljj:j<s.H.length+1:=by omega
  have nlj:¬s.H.length=j:=by omega
  have nlj':¬j=s.H.length:=by omega
  have skip:hIs id h x=true→T=out++oA id h q put (l.drop (k+1)):=fun e=>by rw[hgo,if_pos e]
  have plain:¬hIs id h x=true→¬(put=false∧hLt id h x=false)→T=(out++[x])++oA id h q put (l.drop (k+1)):=fun e e2=>by rw[hgo,if_neg e,if_neg e2,List.append_assoc];rfl
  have ins:¬hIs id h x=true→put=false∧hLt id h x=false→T=((out++[⟨id,h,q⟩])++[x])++oA id h q true (l.drop (k+1)):=fun e e2=>by rw[hgo,if_neg e,if_pos e2,List.append_assoc,List.append_assoc];rfl
  by_cases c1:x.Security=id
  ·have d1:decide (x.Security=id)=true:=decide_eq_true c1
   by_cases c2:x.Holder=h
   ·have d2:decide (x.Holder=h)=true:=decide_eq_true c2
    simp -dsimp -implicitDefEqProofs [-getElem?_pos,go_sem,hP,t22,t24,hx,fP,t1,t2,d1,d2,wk]
    refine⟨l.length-(k+1),by omega,?_⟩
    rw[hI]
    exact⟨k+1,j,out,put,by omega,rfl,skip (gl.2 ⟨c1,c2⟩),by simp -dsimp[-getElem?_pos,go_sem,t1],by simp -dsimp[-getElem?_pos,go_sem,t2],by simp -dsimp[-getElem?_pos,go_sem,t9],by simp -dsimp[-getElem?_pos,go_sem,t10],by simp -dsimp[-getElem?_pos,go_sem,t11],by simp -dsimp[-getElem?_pos,go_sem,t22],by simp -dsimp[-getElem?_pos,go_sem,t23],by simp -dsimp[-getElem?_pos,go_sem],by simp -dsimp[-getElem?_pos,go_sem,gj'],by omega⟩
   have d2:decide (x.Holder=h)=false:=decide_eq_false c2
   have hn:¬hIs id h x=true:=by rw[gl];exact fun e=>c2 e.2
   cases put
   ·by_cases c3:h<x.Holder
    ·have d3:decide (h<x.Holder)=true:=decide_eq_true c3
     have d4:decide (id<x.Security)=false:=decide_eq_false (by omega)
     simp -dsimp -implicitDefEqProofs [-getElem?_pos,go_sem,hP,t22,t24,hx,fP,t1,t2,t9,t10,t11,d1,d2,d3,d4,gj',ljj,lj,nlj,nlj',gj,wk]
     refine⟨by omega,by omega,by omega,by omega,?_⟩
     refine⟨l.length-(k+1),by omega,?_⟩
     rw[hI]
     exact⟨k+1,s.H.length+2,(out++[⟨id,h,q⟩])++[x],true,by omega,rfl,ins hn ⟨rfl,by rw[ow];omega⟩,by simp -dsimp[-getElem?_pos,go_sem,t1],by simp -dsimp[-getElem?_pos,go_sem,t2],by simp -dsimp[-getElem?_pos,go_sem,t9],by simp -dsimp[-getElem?_pos,go_sem],by simp -dsimp[-getElem?_pos,go_sem],by simp -dsimp[-getElem?_pos,go_sem,t22],by simp -dsimp[-getElem?_pos,go_sem,t23],by simp -dsimp[-getElem?_pos,go_sem],by rw[←ba,←ba];simp -dsimp -implicitDefEqProofs [-getElem?_pos,go_sem,fP],by simp;omega⟩
    ·have d3:decide (h<x.Holder)=false:=decide_eq_false c3
     have d4:decide (id<x.Security)=false:=decide_eq_false (by omega)
     simp -dsimp -implicitDefEqProofs [-getElem?_pos,go_sem,hP,t22,t24,hx,fP,t1,t2,t10,t11,d1,d2,d3,d4,gj',ljj,lj,nlj,nlj',gj,wk]
     refine⟨by omega,by omega,?_⟩
     refine⟨l.length-(k+1),by omega,?_⟩
     rw[hI]
     exact⟨k+1,s.H.length+1,out++[x],false,by omega,rfl,plain hn (by rw[ow];omega),by simp -dsimp[-getElem?_pos,go_sem,t1],by simp -dsimp[-getElem?_pos,go_sem,t2],by simp -dsimp[-getElem?_pos,go_sem,t9],by simp -dsimp[-getElem?_pos,go_sem],by simp -dsimp[-getElem?_pos,go_sem,t11],by simp -dsimp[-getElem?_pos,go_sem,t22],by simp -dsimp[-getElem?_pos,go_sem,t23],by simp -dsimp[-getElem?_pos,go_sem],by rw[←ba];simp -dsimp -implicitDefEqProofs [-getElem?_pos,go_sem,fP],by simp;omega⟩
   ·skip
    simp -dsimp -implicitDefEqProofs [-getElem?_pos,go_sem,hP,t22,t24,hx,fP,t1,t2,t10,t11,d1,d2,gj',ljj,lj,nlj,nlj',gj,wk]
    refine⟨by omega,by omega,?_⟩
    refine⟨l.length-(k+1),by omega,?_⟩
    rw[hI]
    exact⟨k+1,s.H.length+1,out++[x],true,by omega,rfl,plain hn (by simp),by simp -dsimp[-getElem?_pos,go_sem,t1],by simp -dsimp[-getElem?_pos,go_sem,t2],by simp -dsimp[-getElem?_pos,go_sem,t9],by simp -dsimp[-getElem?_pos,go_sem],by simp -dsimp[-getElem?_pos,go_sem,t11],by simp -dsimp[-getElem?_pos,go_sem,t22],by simp -dsimp[-getElem?_pos,go_sem,t23],by simp -dsimp[-getElem?_pos,go_sem],by rw[←ba];simp -dsimp -implicitDefEqProofs [-getElem?_pos,go_sem,fP],by simp;omega⟩
  ·have d1:decide (x.Security=id)=false:=decide_eq_false c1
   have hn:¬hIs id h x=true:=by rw[gl];exact fun e=>c1 e.1
   cases put
   ·by_cases c3:id<x.Security
    ·have d4:decide (id<x.Security)=true:=decide_eq_true c3
     simp -dsimp -implicitDefEqProofs [-getElem?_pos,go_sem,hP,t22,t24,hx,fP,t1,t2,t9,t10,t11,d1,d4,gj',ljj,lj,nlj,nlj',gj,wk]
     refine⟨by omega,by omega,by omega,by omega,?_⟩
     refine⟨l.length-(k+1),by omega,?_⟩
     rw[hI]
     exact⟨k+1,s.H.length+2,(out++[⟨id,h,q⟩])++[x],true,by omega,rfl,ins hn ⟨rfl,by rw[ow];omega⟩,by simp -dsimp[-getElem?_pos,go_sem,t1],by simp -dsimp[-getElem?_pos,go_sem,t2],by simp -dsimp[-getElem?_pos,go_sem,t9],by simp -dsimp[-getElem?_pos,go_sem],by simp -dsimp[-getElem?_pos,go_sem],by simp -dsimp[-getElem?_pos,go_sem,t22],by simp -dsimp[-getElem?_pos,go_sem,t23],by simp -dsimp[-getElem?_pos,go_sem],by rw[←ba,←ba];simp -dsimp -implicitDefEqProofs [-getElem?_pos,go_sem,fP],by simp;omega⟩
    ·have d4:decide (id<x.Security)=false:=decide_eq_false c3
     simp -dsimp -implicitDefEqProofs [-getElem?_pos,go_sem,hP,t22,t24,hx,fP,t1,t2,t10,t11,d1,d4,gj',ljj,lj,nlj,nlj',gj,wk]
     refine⟨by omega,by omega,?_⟩
     refine⟨l.length-(k+1),by omega,?_⟩
     rw[hI]
     exact⟨k+1,s.H.length+1,out++[x],false,by omega,rfl,plain hn (by rw[ow];omega),by simp -dsimp[-getElem?_pos,go_sem,t1],by simp -dsimp[-getElem?_pos,go_sem,t2],by simp -dsimp[-getElem?_pos,go_sem,t9],by simp -dsimp[-getElem?_pos,go_sem],by simp -dsimp[-getElem?_pos,go_sem,t11],by simp -dsimp[-getElem?_pos,go_sem,t22],by simp -dsimp[-getElem?_pos,go_sem,t23],by simp -dsimp[-getElem?_pos,go_sem],by rw[←ba];simp -dsimp -implicitDefEqProofs [-getElem?_pos,go_sem,fP],by simp;omega⟩
   ·skip
    simp -dsimp -implicitDefEqProofs [-getElem?_pos,go_sem,hP,t22,t24,hx,fP,t1,t2,t10,t11,d1,gj',ljj,lj,nlj,nlj',gj,wk]
    refine⟨by omega,by omega,?_⟩
    refine⟨l.length-(k+1),by omega,?_⟩
    rw[hI]
    exact⟨k+1,s.H.length+1,out++[x],true,by omega,rfl,plain hn (by simp),by simp -dsimp[-getElem?_pos,go_sem,t1],by simp -dsimp[-getElem?_pos,go_sem,t2],by simp -dsimp[-getElem?_pos,go_sem,t9],by simp -dsimp[-getElem?_pos,go_sem],by simp -dsimp[-getElem?_pos,go_sem,t11],by simp -dsimp[-getElem?_pos,go_sem,t22],by simp -dsimp[-getElem?_pos,go_sem,t23],by simp -dsimp[-getElem?_pos,go_sem],by rw[←ba];simp -dsimp -implicitDefEqProofs [-getElem?_pos,go_sem,fP],by simp;omega⟩
 ·have hk:k=l.length:=by simp at hh;omega
  subst hk
  rw[List.drop_length,oA]at hgo
  cases put
  ·rw[if_neg (by simp)]at hgo
   simp -dsimp -implicitDefEqProofs [-getElem?_pos,go_sem,hP,t11,t1,t2,t9,t10,gj,lj]
   refine⟨by omega,by omega,?_⟩
   rw[hgo]
   refine gU (tl:=[]) (es:=aj THolding.cells (out++[⟨id,h,q⟩])) (ty:=173) ?_ (by rw[al];simp) (bD _) rfl
   rw[List.append_nil,←ba]
   simp -dsimp -implicitDefEqProofs [-getElem?_pos,go_sem,fP]
  ·rw[if_pos rfl,List.append_nil]at hgo
   simp -dsimp -implicitDefEqProofs [-getElem?_pos,go_sem,hP,t11,t10]
   rw[hgo]
   exact gU (tl:=[]) (by rw[List.append_nil];exact gj) (by rw[al]) (bD _) rfl
open Go.PA
open Go.RowKit
theorem Fm {l:List THolding} {N:Nat} (ok:HoldOk l N) (id h:Int):ff l id h≤1000000000000:=by
 rw[←qG ok.srt]
 unfold gQ
 cases hf:l.find? (hIs id h)with
 |none=>decide
 |some x=>exact (ok.am (List.mem_of_find?_eq_some hf)).2
set_option maxHeartbeats 2000000 in
theorem G4 (r:TRegister) (l:List THolding) {N:Nat} (day:Int) (m:TMove) (ok:HoldOk l N) (hl:l.length≤10000) (hsec:∀s,s∈r.Securities→rQ s=true) (hsl:r.Securities.length≤100000) (hk:m.Kind=1) (hz:m.From=0):
  PFun Tryz.prog none none 266 [.agg r.cells,aQ l,iv day,.agg m.cells] (·= .tup [aQ (if bA r.Securities l day m=0 then goH l m else []),iv (bA r.Securities l day m)]):=by
 refine ab Tryz.func266 rfl (by simp[Tryz.f266]) (by kernel_rfl) ?_
 intro E hP hr hs hW hN
 have ir:=az.2 r.imm
 have im:=nU m
 have il:=bD l
 have fi:=vG r m.Security hsl
 obtain⟨R,hR0⟩:∃R,R=bA r.Securities l day m:=⟨_,rfl⟩
 obtain⟨G,hG⟩:∃G,G=goH l m:=⟨_,rfl⟩
 obtain⟨Q,hQ⟩:∃Q:AV→Prop,Q=(·= .tup [aQ (if R=0 then G else []),iv R]):=⟨_,rfl⟩
 rw[←hR0,←hG,←hQ]
 have qe:∀n:Int,R=n→n≠0→Q (.tup [.list 3 [],iv n]):=fun n e h=>by rw[hQ,e,if_neg h];rfl
 have qo:R=0→Q (.tup [aQ G,iv 0]):=fun e=>by rw[hQ,e,if_pos rfl]
 clear hQ
 rw[dQ]at fi ir
 have hf:kF r.Securities m.Security=none∨∃s,kF r.Securities m.Security=some s∧s∈r.Securities:=by
  cases h:kF r.Securities m.Security with
  |none=>exact .inl rfl
  |some s=>exact .inr ⟨s,rfl,List.mem_of_find?_eq_some h⟩
 rcases hf with hf|⟨s,hf,hm⟩
 ·have e1:eI r.Securities m.Security=(vJ,false):=by rw[eI,hf]
  have e2:R=76:=by rw[hR0,bA,hf]
  have iz:=az.2 vJ.imm
  rw[e1]at fi
  rw[jU]at fi iz
  simp -dsimp -implicitDefEqProofs [-getElem?_pos,go_sem,hP,dQ,fb]
  refine ae (fi.lift _ _) hP eR (by simp[ir,ar]) (ak iz .sc) ?_
  simp -dsimp -implicitDefEqProofs [-getElem?_pos,go_sem,hP]
  exact bQ 3 (qe 76 e2 (by omega))
 have e1:eI r.Securities m.Security=(s,true):=by rw[eI,hf]
 have so:=CG (hsec s hm)
 have is:=az.2 s.imm
 rw[e1]at fi
 rw[jU]at fi is
 unfold bA at hR0
 rw[hf]at hR0
 dsimp only at hR0
 rw[hk]at hR0
 have un:¬s.Unit=0:=by have:=so.unit;omega
 have k3:decide (m.Kind=3)=false:=by rw[hk];rfl
 have k1:decide (m.Kind=1)=true:=by rw[hk];rfl
 by_cases a1:m.Day<day
 ·have d1:decide (m.Day<day)=true:=decide_eq_true a1
  have e2:R=8:=by rw[hR0,if_pos (by simp only[Int.max_def];split<;>omega)]
  simp -dsimp -implicitDefEqProofs [-getElem?_pos,go_sem,hP,dQ,fb]
  refine ae (fi.lift _ _) hP eR (by simp[ir,ar]) (ak is .sc) ?_
  simp -dsimp -implicitDefEqProofs [-getElem?_pos,go_sem,hP,k3,d1]
  exact bQ 3 (qe 8 e2 (by omega))
 have d1:decide (m.Day<day)=false:=decide_eq_false a1
 by_cases a2:m.Day<s.Issued
 ·have d2:decide (m.Day<s.Issued)=true:=decide_eq_true a2
  have e2:R=8:=by rw[hR0,if_pos (by simp only[Int.max_def];split<;>omega)]
  simp -dsimp -implicitDefEqProofs [-getElem?_pos,go_sem,hP,dQ,fb]
  refine ae (fi.lift _ _) hP eR (by simp[ir,ar]) (ak is .sc) ?_
  simp -dsimp -implicitDefEqProofs [-getElem?_pos,go_sem,hP,k3,d1,d2]
  exact bQ 3 (qe 8 e2 (by omega))
 have d2:decide (m.Day<s.Issued)=false:=decide_eq_false a2
 by_cases a3:s.Maturity<m.Day
 ·have d3:decide (s.Maturity<m.Day)=true:=decide_eq_true a3
  have e2:R=8:=by rw[hR0,if_pos (by rw[show (if (1:Int)=3 then (36000:Int)else s.Maturity)=s.Maturity from rfl];omega)]
  simp -dsimp -implicitDefEqProofs [-getElem?_pos,go_sem,hP,dQ,fb]
  refine ae (fi.lift _ _) hP eR (by simp[ir,ar]) (ak is .sc) ?_
  simp -dsimp -implicitDefEqProofs [-getElem?_pos,go_sem,hP,k3,d1,d2,d3]
  exact bQ 3 (qe 8 e2 (by omega))
 have d3:decide (s.Maturity<m.Day)=false:=decide_eq_false a3
 rw[if_neg (by rw[show (if (1:Int)=3 then (36000:Int)else s.Maturity)=s.Maturity from rfl];simp only[Int.max_def];split<;>omega)]at hR0
 by_cases a4:m.Amount<1
 ·have d4:decide (m.Amount<1)=true:=decide_eq_true a4
  have e2:R=79:=by rw[hR0,if_pos (.inl (by omega))]
  simp -dsimp -implicitDefEqProofs [-getElem?_pos,go_sem,hP,dQ,fb]
  refine ae (fi.lift _ _) hP eR (by simp[ir,ar]) (ak is .sc) ?_
  simp -dsimp -implicitDefEqProofs [-getElem?_pos,go_sem,hP,k3,d1,d2,d3,d4]
  exact bQ 3 (qe 79 e2 (by omega))
 have d4:decide (m.Amount<1)=false:=decide_eq_false a4
 by_cases a5:1000000000000<m.Amount
 ·have d5:decide (1000000000000<m.Amount)=true:=decide_eq_true a5
  have e2:R=79:=by rw[hR0,if_pos (.inr (.inl a5))]
  simp -dsimp -implicitDefEqProofs [-getElem?_pos,go_sem,hP,dQ,fb]
  refine ae (fi.lift _ _) hP eR (by simp[ir,ar]) (ak is .sc) ?_
  simp -dsimp -implicitDefEqProofs [-getElem?_pos,go_sem,hP,k3,d1,d2,d3,d4,d5]
  exact bQ 3 (qe 79 e2 (by omega))
 have d5:decide (1000000000000<m.Amount)=false:=decide_eq_false a5
 have tm:m.Amount.tmod s.Unit=m.Amount%s.Unit:=Int.tmod_eq_emod_of_nonneg (by omega)
 by_cases a6:m.Amount%s.Unit=0
 rotate_left
 ·have d6:decide (m.Amount%s.Unit=0)=false:=decide_eq_false a6
  have e2:R=79:=by rw[hR0,if_pos (.inr (.inr a6))]
  simp -dsimp -implicitDefEqProofs [-getElem?_pos,go_sem,hP,dQ,fb]
  refine ae (fi.lift _ _) hP eR (by simp[ir,ar]) (ak is .sc) ?_
  simp -dsimp -implicitDefEqProofs [-getElem?_pos,go_sem,hP,k3,d1,d2,d3,d4,d5,aW un,un,tm,d6]
  exact bQ 3 (qe 79 e2 (by omega))
 have d6:decide (m.Amount%s.Unit=0)=true:=decide_eq_true a6
 rw[if_neg (by omega)]at hR0
 have hh:=vX m.To
 by_cases a7:dA m.To=true
 rotate_left
 ·have d7:dA m.To=false:=by simpa using a7
  have e2:R=6:=by
   rw[hR0,if_pos]
   simp[dP,hk,hz,d7]
  rw[d7]at hh
  simp -dsimp -implicitDefEqProofs [-getElem?_pos,go_sem,hP,dQ,fb]
  refine ae (fi.lift _ _) hP eR (by simp[ir,ar]) (ak is .sc) ?_
  simp -dsimp -implicitDefEqProofs [-getElem?_pos,go_sem,hP,k3,k1,d1,d2,d3,d4,d5,aW un,un,tm,d6]
  refine ao (fun _=>true) [] hP (by kernel_rfl) (by kernel_rfl) ?_
  simp -dsimp -implicitDefEqProofs [-getElem?_pos,go_sem,hP,k3,k1,d1,d2,d3,d4,d5,aW un,un,tm,d6]
  refine ae (hh.lift _ _) hP rr (by simp[ar]) .sc ?_
  simp -dsimp -implicitDefEqProofs [-getElem?_pos,go_sem,hP,k3,k1,d1,d2,d3,d4,d5,aW un,un,tm,d6]
  exact bQ 3 (qe 6 e2 (by omega))
 have hb:1≤m.To∧m.To≤1000:=by simpa[dA]using a7
 rw[a7]at hh
 rw[if_neg (by simp[dP,hk,hz,a7])]at hR0
 rw[if_neg (by omega)]at hR0
 have ou:=MJ l m.Security ok (by omega)
 have ot:=ok.tot m.Security
 have op:=(iu (pN m.Security) hAm l ok.pos).1
 have w1:=af (eh l m.Security+m.Amount) (by unfold eh at*;omega)
 by_cases a8:1000000000000<eh l m.Security+m.Amount
 ·have d8:decide (1000000000000<eh l m.Security+m.Amount)=true:=decide_eq_true a8
  have e2:R=2:=by rw[hR0,if_pos ⟨hz,a8⟩]
  simp -dsimp -implicitDefEqProofs [-getElem?_pos,go_sem,hP,dQ,fb]
  refine ae (fi.lift _ _) hP eR (by simp[ir,ar]) (ak is .sc) ?_
  simp -dsimp -implicitDefEqProofs [-getElem?_pos,go_sem,hP,k3,k1,d1,d2,d3,d4,d5,aW un,un,tm,d6]
  refine ao (fun _=>true) [] hP (by kernel_rfl) (by kernel_rfl) ?_
  simp -dsimp -implicitDefEqProofs [-getElem?_pos,go_sem,hP,k3,k1,d1,d2,d3,d4,d5,aW un,un,tm,d6]
  refine ae (hh.lift _ _) hP rr (by simp[ar]) .sc ?_
  simp -dsimp -implicitDefEqProofs [-getElem?_pos,go_sem,hP,k3,k1,d1,d2,d3,d4,d5,aW un,un,tm,d6]
  refine ao (fun _=>true) [] hP (by kernel_rfl) (by kernel_rfl) ?_
  simp -dsimp -implicitDefEqProofs [-getElem?_pos,go_sem,hP,k3,k1,d1,d2,d3,d4,d5,aW un,un,tm,d6]
  refine ao (fun _=>true) [] hP (by kernel_rfl) (by kernel_rfl) ?_
  simp -dsimp -implicitDefEqProofs [-getElem?_pos,go_sem,hP,k3,k1,d1,d2,d3,d4,d5,aW un,un,tm,d6]
  refine ae (ou.lift _ _) hP KP (by simp[il,ar]) .sc ?_
  simp -dsimp -implicitDefEqProofs [-getElem?_pos,go_sem,hP,k3,k1,d1,d2,d3,d4,d5,aW un,un,tm,d6,w1,d8]
  exact bQ 3 (qe 2 e2 (by omega))
 have d8:decide (1000000000000<eh l m.Security+m.Amount)=false:=decide_eq_false a8
 rw[if_neg (fun c=>a8 c.2)]at hR0
 have eG:G=kQ l m.Security m.To m.Amount:=by rw[hG,goH,if_pos hz,if_neg (by omega)]
 have hq:=qG (id:=m.Security) (h:=m.To) ok.srt
 have hp:=(iu (hIs m.Security m.To) hAm l ok.pos).1
 have hp2:ff l m.Security m.To≤1000000000000:=Fm ok _ _
 have st:=E9 l m.Security m.To m.Amount ok.srt (by omega) (by rw[hq];unfold ff at*;omega)
 rw[←eG]at st
 simp -dsimp -implicitDefEqProofs [-getElem?_pos,go_sem,hP,dQ,fb]
 refine ae (fi.lift _ _) hP eR (by simp[ir,ar]) (ak is .sc) ?_
 simp -dsimp -implicitDefEqProofs [-getElem?_pos,go_sem,hP,k3,k1,d1,d2,d3,d4,d5,aW un,un,tm,d6]
 refine ao (fun _=>true) [] hP (by kernel_rfl) (by kernel_rfl) ?_
 simp -dsimp -implicitDefEqProofs [-getElem?_pos,go_sem,hP,k3,k1,d1,d2,d3,d4,d5,aW un,un,tm,d6]
 refine ae (hh.lift _ _) hP rr (by simp[ar]) .sc ?_
 simp -dsimp -implicitDefEqProofs [-getElem?_pos,go_sem,hP,k3,k1,d1,d2,d3,d4,d5,aW un,un,tm,d6]
 refine ao (fun _=>true) [] hP (by kernel_rfl) (by kernel_rfl) ?_
 simp -dsimp -implicitDefEqProofs [-getElem?_pos,go_sem,hP,k3,k1,d1,d2,d3,d4,d5,aW un,un,tm,d6]
 refine ao (fun _=>true) [] hP (by kernel_rfl) (by kernel_rfl) ?_
 simp -dsimp -implicitDefEqProofs [-getElem?_pos,go_sem,hP,k3,k1,d1,d2,d3,d4,d5,aW un,un,tm,d6]
 refine ae (ou.lift _ _) hP KP (by simp[il,ar]) .sc ?_
 simp -dsimp -implicitDefEqProofs [-getElem?_pos,go_sem,hP,k3,k1,d1,d2,d3,d4,d5,aW un,un,tm,d6,w1,d8]
 refine ae (st.lift _ _) hP I4 (by simp[il,ar]) (bD _) ?_
 simp -dsimp -implicitDefEqProofs [-getElem?_pos,go_sem,hP,k3,k1,d1,d2,d3,d4,d5,aW un,un,tm,d6]
 exact aw (ak (bD _) .sc) (qo hR0)
set_option maxHeartbeats 2000000 in
theorem Gv (r:TRegister) (l:List THolding) {N:Nat} (day:Int) (m:TMove) (ok:HoldOk l N) (hl:l.length≤10000) (hsec:∀s,s∈r.Securities→rQ s=true) (hsl:r.Securities.length≤100000) (hk:m.Kind=3) (hz:m.To=0):
  PFun Tryz.prog none none 266 [.agg r.cells,aQ l,iv day,.agg m.cells] (·= .tup [aQ (if bA r.Securities l day m=0 then goH l m else []),iv (bA r.Securities l day m)]):=by
 refine ab Tryz.func266 rfl (by simp[Tryz.f266]) (by kernel_rfl) ?_
 intro E hP hr hs hW hN
 have ir:=az.2 r.imm
 have im:=nU m
 have il:=bD l
 have fi:=vG r m.Security hsl
 obtain⟨R,hR0⟩:∃R,R=bA r.Securities l day m:=⟨_,rfl⟩
 obtain⟨G,hG⟩:∃G,G=goH l m:=⟨_,rfl⟩
 obtain⟨Q,hQ⟩:∃Q:AV→Prop,Q=(·= .tup [aQ (if R=0 then G else []),iv R]):=⟨_,rfl⟩
 rw[←hR0,←hG,←hQ]
 have qe:∀n:Int,R=n→n≠0→Q (.tup [.list 3 [],iv n]):=fun n e h=>by rw[hQ,e,if_neg h];rfl
 have qo:R=0→Q (.tup [aQ G,iv 0]):=fun e=>by rw[hQ,e,if_pos rfl]
 clear hQ
 rw[dQ]at fi ir
 have hf:kF r.Securities m.Security=none∨∃s,kF r.Securities m.Security=some s∧s∈r.Securities:=by
  cases h:kF r.Securities m.Security with
  |none=>exact .inl rfl
  |some s=>exact .inr ⟨s,rfl,List.mem_of_find?_eq_some h⟩
 rcases hf with hf|⟨s,hf,hm⟩
 ·have e1:eI r.Securities m.Security=(vJ,false):=by rw[eI,hf]
  have e2:R=76:=by rw[hR0,bA,hf]
  have iz:=az.2 vJ.imm
  rw[e1]at fi
  rw[jU]at fi iz
  simp -dsimp -implicitDefEqProofs [-getElem?_pos,go_sem,hP,dQ,fb]
  refine ae (fi.lift _ _) hP eR (by simp[ir,ar]) (ak iz .sc) ?_
  simp -dsimp -implicitDefEqProofs [-getElem?_pos,go_sem,hP]
  exact bQ 3 (qe 76 e2 (by omega))
 have e1:eI r.Securities m.Security=(s,true):=by rw[eI,hf]
 have so:=CG (hsec s hm)
 have is:=az.2 s.imm
 rw[e1]at fi
 rw[jU]at fi is
 unfold bA at hR0
 rw[hf]at hR0
 dsimp only at hR0
 rw[hk]at hR0
 have un:¬s.Unit=0:=by have:=so.unit;omega
 have k3:decide (m.Kind=3)=true:=by rw[hk];rfl
 have k1:decide (m.Kind=1)=false:=by rw[hk];rfl
 by_cases a1:m.Day<day
 ·have d1:decide (m.Day<day)=true:=decide_eq_true a1
  have e2:R=8:=by rw[hR0,if_pos (by simp only[Int.max_def];split<;>omega)]
  simp -dsimp -implicitDefEqProofs [-getElem?_pos,go_sem,hP,dQ,fb]
  refine ae (fi.lift _ _) hP eR (by simp[ir,ar]) (ak is .sc) ?_
  simp -dsimp -implicitDefEqProofs [-getElem?_pos,go_sem,hP,k3,d1]
  exact bQ 3 (qe 8 e2 (by omega))
 have d1:decide (m.Day<day)=false:=decide_eq_false a1
 by_cases a2:m.Day<s.Issued
 ·have d2:decide (m.Day<s.Issued)=true:=decide_eq_true a2
  have e2:R=8:=by rw[hR0,if_pos (by simp only[Int.max_def];split<;>omega)]
  simp -dsimp -implicitDefEqProofs [-getElem?_pos,go_sem,hP,dQ,fb]
  refine ae (fi.lift _ _) hP eR (by simp[ir,ar]) (ak is .sc) ?_
  simp -dsimp -implicitDefEqProofs [-getElem?_pos,go_sem,hP,k3,d1,d2]
  exact bQ 3 (qe 8 e2 (by omega))
 have d2:decide (m.Day<s.Issued)=false:=decide_eq_false a2
 by_cases a3:36000<m.Day
 ·have d3:decide (36000<m.Day)=true:=decide_eq_true a3
  have e2:R=8:=by rw[hR0,if_pos (by rw[show (if (3:Int)=3 then (36000:Int)else s.Maturity)=36000 from rfl];omega)]
  simp -dsimp -implicitDefEqProofs [-getElem?_pos,go_sem,hP,dQ,fb]
  refine ae (fi.lift _ _) hP eR (by simp[ir,ar]) (ak is .sc) ?_
  simp -dsimp -implicitDefEqProofs [-getElem?_pos,go_sem,hP,k3,d1,d2,d3]
  exact bQ 3 (qe 8 e2 (by omega))
 have d3:decide (36000<m.Day)=false:=decide_eq_false a3
 rw[if_neg (by rw[show (if (3:Int)=3 then (36000:Int)else s.Maturity)=36000 from rfl];simp only[Int.max_def];split<;>omega)]at hR0
 by_cases a4:m.Amount<1
 ·have d4:decide (m.Amount<1)=true:=decide_eq_true a4
  have e2:R=79:=by rw[hR0,if_pos (.inl (by omega))]
  simp -dsimp -implicitDefEqProofs [-getElem?_pos,go_sem,hP,dQ,fb]
  refine ae (fi.lift _ _) hP eR (by simp[ir,ar]) (ak is .sc) ?_
  simp -dsimp -implicitDefEqProofs [-getElem?_pos,go_sem,hP,k3,d1,d2,d3,d4]
  exact bQ 3 (qe 79 e2 (by omega))
 have d4:decide (m.Amount<1)=false:=decide_eq_false a4
 by_cases a5:1000000000000<m.Amount
 ·have d5:decide (1000000000000<m.Amount)=true:=decide_eq_true a5
  have e2:R=79:=by rw[hR0,if_pos (.inr (.inl a5))]
  simp -dsimp -implicitDefEqProofs [-getElem?_pos,go_sem,hP,dQ,fb]
  refine ae (fi.lift _ _) hP eR (by simp[ir,ar]) (ak is .sc) ?_
  simp -dsimp -implicitDefEqProofs [-getElem?_pos,go_sem,hP,k3,d1,d2,d3,d4,d5]
  exact bQ 3 (qe 79 e2 (by omega))
 have d5:decide (1000000000000<m.Amount)=false:=decide_eq_false a5
 have tm:m.Amount.tmod s.Unit=m.Amount%s.Unit:=Int.tmod_eq_emod_of_nonneg (by omega)
 by_cases a6:m.Amount%s.Unit=0
 rotate_left
 ·have d6:decide (m.Amount%s.Unit=0)=false:=decide_eq_false a6
  have e2:R=79:=by rw[hR0,if_pos (.inr (.inr a6))]
  simp -dsimp -implicitDefEqProofs [-getElem?_pos,go_sem,hP,dQ,fb]
  refine ae (fi.lift _ _) hP eR (by simp[ir,ar]) (ak is .sc) ?_
  simp -dsimp -implicitDefEqProofs [-getElem?_pos,go_sem,hP,k3,d1,d2,d3,d4,d5,aW un,un,tm,d6]
  exact bQ 3 (qe 79 e2 (by omega))
 have d6:decide (m.Amount%s.Unit=0)=true:=decide_eq_true a6
 rw[if_neg (by omega)]at hR0
 have hh:=vX m.From
 by_cases a7:dA m.From=true
 rotate_left
 ·have d7:dA m.From=false:=by simpa using a7
  have e2:R=6:=by
   rw[hR0,if_pos]
   simp[dP,hk,hz,d7]
  rw[d7]at hh
  simp -dsimp -implicitDefEqProofs [-getElem?_pos,go_sem,hP,dQ,fb]
  refine ae (fi.lift _ _) hP eR (by simp[ir,ar]) (ak is .sc) ?_
  simp -dsimp -implicitDefEqProofs [-getElem?_pos,go_sem,hP,k3,k1,d1,d2,d3,d4,d5,aW un,un,tm,d6]
  refine ao (fun _=>true) [] hP (by kernel_rfl) (by kernel_rfl) ?_
  simp -dsimp -implicitDefEqProofs [-getElem?_pos,go_sem,hP,k3,k1,d1,d2,d3,d4,d5,aW un,un,tm,d6]
  refine ae (hh.lift _ _) hP rr (by simp[ar]) .sc ?_
  simp -dsimp -implicitDefEqProofs [-getElem?_pos,go_sem,hP,k3,k1,d1,d2,d3,d4,d5,aW un,un,tm,d6]
  exact bQ 3 (qe 6 e2 (by omega))
 have hb:1≤m.From∧m.From≤1000:=by simpa[dA]using a7
 rw[a7]at hh
 rw[if_neg (by simp[dP,hk,hz,a7])]at hR0
 have he:=Cs l m.Security m.From (by omega)
 have hq:=qG (id:=m.Security) (h:=m.From) ok.srt
 rw[hq]at he
 have hp:=(iu (hIs m.Security m.From) hAm l ok.pos).1
 by_cases a8:ff l m.Security m.From<m.Amount
 ·have d8:decide (ff l m.Security m.From<m.Amount)=true:=decide_eq_true a8
  have e2:R=77:=by rw[hR0,if_pos ⟨by omega,a8⟩]
  simp -dsimp -implicitDefEqProofs [-getElem?_pos,go_sem,hP,dQ,fb]
  refine ae (fi.lift _ _) hP eR (by simp[ir,ar]) (ak is .sc) ?_
  simp -dsimp -implicitDefEqProofs [-getElem?_pos,go_sem,hP,k3,k1,d1,d2,d3,d4,d5,aW un,un,tm,d6]
  refine ao (fun _=>true) [] hP (by kernel_rfl) (by kernel_rfl) ?_
  simp -dsimp -implicitDefEqProofs [-getElem?_pos,go_sem,hP,k3,k1,d1,d2,d3,d4,d5,aW un,un,tm,d6]
  refine ae (hh.lift _ _) hP rr (by simp[ar]) .sc ?_
  simp -dsimp -implicitDefEqProofs [-getElem?_pos,go_sem,hP,k3,k1,d1,d2,d3,d4,d5,aW un,un,tm,d6]
  refine ao (fun _=>true) [] hP (by kernel_rfl) (by kernel_rfl) ?_
  simp -dsimp -implicitDefEqProofs [-getElem?_pos,go_sem,hP,k3,k1,d1,d2,d3,d4,d5,aW un,un,tm,d6]
  refine ae (he.lift _ _) hP ER (by simp[il,ar]) .sc ?_
  simp -dsimp -implicitDefEqProofs [-getElem?_pos,go_sem,hP,k3,k1,d1,d2,d3,d4,d5,aW un,un,tm,d6,d8]
  exact bQ 3 (qe 77 e2 (by omega))
 have d8:decide (ff l m.Security m.From<m.Amount)=false:=decide_eq_false a8
 rw[if_neg (fun c=>a8 c.2),if_neg (by omega)]at hR0
 have eG:G=kQ l m.Security m.From (-m.Amount):=by rw[hG,goH,if_pos hz,if_neg (by omega)]
 have hp2:ff l m.Security m.From≤1000000000000:=Fm ok _ _
 have st:=E9 l m.Security m.From (-m.Amount) ok.srt (by omega) (by rw[hq];unfold ff at*;omega)
 rw[←eG]at st
 have w1:=af (-m.Amount) (by omega)
 simp -dsimp -implicitDefEqProofs [-getElem?_pos,go_sem,hP,dQ,fb]
 refine ae (fi.lift _ _) hP eR (by simp[ir,ar]) (ak is .sc) ?_
 simp -dsimp -implicitDefEqProofs [-getElem?_pos,go_sem,hP,k3,k1,d1,d2,d3,d4,d5,aW un,un,tm,d6]
 refine ao (fun _=>true) [] hP (by kernel_rfl) (by kernel_rfl) ?_
 simp -dsimp -implicitDefEqProofs [-getElem?_pos,go_sem,hP,k3,k1,d1,d2,d3,d4,d5,aW un,un,tm,d6]
 refine ae (hh.lift _ _) hP rr (by simp[ar]) .sc ?_
 simp -dsimp -implicitDefEqProofs [-getElem?_pos,go_sem,hP,k3,k1,d1,d2,d3,d4,d5,aW un,un,tm,d6]
 refine ao (fun _=>true) [] hP (by kernel_rfl) (by kernel_rfl) ?_
 simp -dsimp -implicitDefEqProofs [-getElem?_pos,go_sem,hP,k3,k1,d1,d2,d3,d4,d5,aW un,un,tm,d6]
 refine ae (he.lift _ _) hP ER (by simp[il,ar]) .sc ?_
 simp -dsimp -implicitDefEqProofs [-getElem?_pos,go_sem,hP,k3,k1,d1,d2,d3,d4,d5,aW un,un,tm,d6,d8]
 refine ao (fun _=>true) [] hP (by kernel_rfl) (by kernel_rfl) ?_
 simp -dsimp -implicitDefEqProofs [-getElem?_pos,go_sem,hP,k3,k1,d1,d2,d3,d4,d5,aW un,un,tm,d6,w1]
 refine ae (st.lift _ _) hP I4 (by simp[il,ar]) (bD _) ?_
 simp -dsimp -implicitDefEqProofs [-getElem?_pos,go_sem,hP,k3,k1,d1,d2,d3,d4,d5,aW un,un,tm,d6]
 exact aw (ak (bD _) .sc) (qo hR0)
open Go.PA
open Go.RowKit
theorem vR (a:List THolding) (ha:a.length≤100000):
  PFun Tryz.prog none none 207 [.list 3 (aj THolding.cells a),.list 3 (aj THolding.cells a)] (·=bv true):=by
 refine ab Tryz.func207 rfl (by simp[Tryz.f207]) (by kernel_rfl) ?_
 intro E hP hr hs hW hN
 simp -dsimp -implicitDefEqProofs [-getElem?_pos,go_sem,hP]
 obtain⟨I,hI⟩:∃I:Nat→St→Prop,I=fun m s=>∃k:Nat,k≤a.length∧m=a.length-k∧s.t 0= .list 3 (aj THolding.cells a)∧s.t 1= .list 3 (aj THolding.cells a)∧s.t 12=iv a.length∧s.t 13=iv k:=⟨_,rfl⟩
 refine ay I (a.length) (by rw[hN];rfl) ?_ ?_
 ·rw[hI]
  exact⟨0,by omega,by omega,by simp -dsimp[-getElem?_pos,go_sem],by simp -dsimp[-getElem?_pos,go_sem],by simp -dsimp[-getElem?_pos,go_sem],by simp -dsimp[-getElem?_pos,go_sem]⟩
 intro m s hs'
 rw[hI]at hs'
 obtain⟨k,hk,hm,t0,t1,t12,t13⟩:=hs'
 simp -dsimp -implicitDefEqProofs [-getElem?_pos,go_sem,hP,t12,t13]
 refine aB (fun h=>?_) (fun h=>?_)
 ·have hk:k<a.length:=by simpa using h
  obtain⟨x,hx⟩:∃x,a[k]?=some x:=⟨_,List.getElem?_eq_getElem hk⟩
  have wk:=af ((k:Int)+1) (by omega)
  simp -dsimp -implicitDefEqProofs [-getElem?_pos,go_sem,hP,t13]
  refine ao (fun _=>true) [] hP (by kernel_rfl) (by kernel_rfl) ?_
  simp -dsimp -implicitDefEqProofs [-getElem?_pos,go_sem,hP,t0,t1,hx,THolding.cells,t13,wk]
  refine⟨a.length-(k+1),by omega,?_⟩
  rw[hI]
  exact⟨k+1,by omega,rfl,by simp -dsimp[-getElem?_pos,go_sem,t0],by simp -dsimp[-getElem?_pos,go_sem,t1],by simp -dsimp[-getElem?_pos,go_sem,t12],by simp -dsimp[-getElem?_pos,go_sem]⟩
 ·simp -dsimp -implicitDefEqProofs [-getElem?_pos,go_sem,hP]
open Go.PA
open Go.RowKit
def pn (m:TMove):Prop:=(m.Kind=1∧m.From=0)∨(m.Kind=3∧m.To=0)
theorem yD (r:TRegister) (l:List THolding) {N:Nat} (day:Int) (m:TMove) (ok:HoldOk l N) (hl:l.length≤10000) (hs:∀s,s∈r.Securities→rQ s=true) (hsl:r.Securities.length≤100000) (hk:pn m):
  PFun Tryz.prog none none 266 [.agg r.cells,aQ l,iv day,.agg m.cells] (·= .tup [aQ (if bA r.Securities l day m=0 then goH l m else []),iv (bA r.Securities l day m)]):=by
 rcases hk with⟨h1,h2⟩|⟨h1,h2⟩
 ·exact G4 r l day m ok hl hs hsl h1 h2
 ·exact Gv r l day m ok hl hs hsl h1 h2
theorem yf {secs:List TSecurity} (hs:∀s,s∈secs→rQ s=true) {u:RepSt} {ms:List TMove} (h:Runs secs gu ms u):∀m,m∈ms→0≤m.Day∧m.Day≤36000:=by
 induction h with
 |nil=>intro m hm;cases hm
 |@snoc u ms m _ hst ih=>
  intro x hx
  rcases List.mem_append.1 hx with hx|hx
  ·exact ih x hx
  ·simp at hx
   subst hx
   obtain⟨s,hm⟩:=qE hst.2.2
   have so:=CG (hs s (List.mem_of_find?_eq_some hm.sec))
   have d:=hm.day
   have i:=so.iss
   have t:=so.mat
   split at d<;>simp only[Int.max_def,Int.min_def]at d t<;>(repeat' split at d)<;>(repeat' split at t)<;>omega
theorem yc {X:AV} {l:List THolding} {H:ac} {bs bs':List AV} (h:X=aQ l∨(X= .nil∧l=[])) (ht:Args H bs bs'):Args H (X::bs) (aQ l::bs'):=by
 rcases h with rfl|⟨rfl,rfl⟩
 ·exact aH (bD _) ht
 ·exact yp ht
theorem uR {X:AV} {l:List THolding} (h:X=aQ l∨(X= .nil∧l=[])):j7 X=[]:=by
 rcases h with rfl|⟨rfl,rfl⟩
 ·exact fg (bD l)
 ·rfl
set_option maxHeartbeats 4000000 in
theorem GW (r:TRegister) (d:Int) (h:RegOk r d) (hk:∀m,m∈r.Moves→pn m):PFun Tryz.prog none none 206 [.agg r.cells,iv 36000] (·= .tup [aQ r.Holdings,bv true]):=by
 have hin:=h.regIn
 have hml:=hin.ml
 have hsl:=hin.sl
 have hd:=yf hin.so h.run
 refine ab Tryz.func206 rfl (by simp[Tryz.f206]) (by kernel_rfl) ?_
 intro E hP hr hs hW hN
 have ir:=gJ r
 simp -dsimp -implicitDefEqProofs [-getElem?_pos,go_sem,hP,dQ]
 obtain⟨I,hI⟩:∃I:Nat→St→Prop,I=fun m s=>∃(k:Nat) (v:RepSt) (X:AV),k≤r.Moves.length∧m=r.Moves.length-k∧Runs r.Securities gu (r.Moves.take k) v∧(X=aQ v.l∨(X= .nil∧v.l=[]))∧s.t 1=iv 36000∧s.t 2= .ref 0 0 0∧s.t 6=X∧s.t 7=iv v.d∧s.t 13=cB r.Moves∧s.t 14=iv r.Moves.length∧s.t 15=iv k∧s.H[0]?=some (some ⟨45,3,[[bb r.Securities,aQ r.Holdings,cB r.Moves]]⟩):=⟨_,rfl⟩
 refine ay I (r.Moves.length) (by rw[hN];rfl) ?_ ?_
 ·rw[hI]
  exact⟨0,gu,.nil,by omega,by omega,by simpa using Runs.nil,.inr ⟨rfl,rfl⟩,by simp -dsimp[-getElem?_pos,go_sem],by simp -dsimp[-getElem?_pos,go_sem],by simp -dsimp[-getElem?_pos,go_sem],by simp -dsimp[-getElem?_pos,go_sem,gu],by simp -dsimp[-getElem?_pos,go_sem],by simp -dsimp[-getElem?_pos,go_sem],by simp -dsimp[-getElem?_pos,go_sem],by simp -dsimp[-getElem?_pos,go_sem]⟩
 intro m s hs'
 rw[hI]at hs'
 obtain⟨k,v,X,hkl,hm,hv,hX,t1,t2,t6,t7,t13,t14,t15,g0⟩:=hs'
 have l0:=(gsI g0)
 simp -dsimp -implicitDefEqProofs [-getElem?_pos,go_sem,hP,t14,t15]
 refine aB (fun hq=>?_) (fun hq=>?_)
 ·have hkl:k<r.Moves.length:=by simpa using hq
  obtain⟨m,hm0⟩:∃m,r.Moves[k]?=some m:=⟨_,List.getElem?_eq_getElem hkl⟩
  have wk:=af ((k:Int)+1) (by omega)
  have hmm:=List.mem_of_getElem? hm0
  have md:=hd m hmm
  have mk:=hk m hmm
  have hvn:v.n=k:=by have:=hv.n;simp[gu]at this;omega
  obtain⟨v',hv',hst⟩:=h.run.take k
  have ev:v'=v:=by rw[hv'.det,hv.det]
  subst ev
  obtain⟨⟨s1,s2,s3⟩,hv2⟩:=hst m hm0
  have hok:=hv.ok
  have hvl:=hok.len
  rw[List.length_take]at hvl
  have mv:=yD r v'.l v'.d m hok (by omega) hin.so (by omega) mk
  rw[s3,if_pos rfl]at mv
  have im:=nU m
  rw[dQ]at ir mv
  rw[fb]at im mv
  rw[hvn]at s1
  have d0:decide (36000<m.Day)=false:=decide_eq_false (by omega)
  have d1:decide (m.Number=(k:Int)+1)=true:=decide_eq_true s1
  have d2:decide (m.Kind<1)=false:=decide_eq_false (by omega)
  have d3:decide (3<m.Kind)=false:=decide_eq_false (by omega)
  have g0':∀Y:List (Option AObj),(s.H++Y)[0]?=_:=fun Y=>(List.getElem?_append_left l0).trans g0
  have l00:0<s.H.length+1:=by omega
  have fin:∀s3:St,(s3.t 1=iv 36000∧s3.t 2= .ref 0 0 0∧s3.t 6=aQ (goH v'.l m)∧s3.t 7=iv m.Day∧s3.t 13=cB r.Moves∧s3.t 14=iv r.Moves.length∧s3.t 15=iv ((k:Int)+1))→s3.H[0]?=some (some ⟨45,3,[[bb r.Securities,aQ r.Holdings,cB r.Moves]]⟩)→I (r.Moves.length-(k+1)) s3:=by
   rintro s3 ⟨a1,a2,a3,a4,a5,a6,a7⟩ a8
   rw[hI]
   exact⟨k+1,mK v' m,aQ (goH v'.l m),by omega,rfl,hv2,.inl rfl,a1,a2,a3,a4,a5,a6,a7,a8⟩
  rcases mk with⟨k1,f0⟩|⟨k1,f0⟩
  ·have e1:decide (m.Kind=1)=true:=decide_eq_true k1
   have e3:decide (m.Kind=3)=false:=decide_eq_false (by omega)
   have ef:decide (m.From=0)=true:=decide_eq_true f0
   simp -dsimp -implicitDefEqProofs [-getElem?_pos,go_sem,hP,t13,t15,hm0,fb,t1,d0,wk,d1,d2,d3,e1,e3,ef,t2,g0',l00,t6,t7]
   refine rA (mv.lift _ _) hP Ac (aH ir (yc hX (ai (by simp[im,ar])))) ?_ (ak (bD _) .sc) ?_
   ·simp only[List.mem_cons,List.not_mem_nil,or_false,forall_eq_or_imp,forall_eq]
    exact⟨fg ir,uR hX,rfl,fg im⟩
   simp -dsimp -implicitDefEqProofs [-getElem?_pos,go_sem,hP]
   refine ao (fun _=>true) [] hP (by kernel_rfl) (by kernel_rfl) ?_
   simp -dsimp -implicitDefEqProofs [-getElem?_pos,go_sem,hP,t15,wk]
   refine⟨r.Moves.length-(k+1),by omega,?_⟩
   exact fin _ ⟨by simp -dsimp[-getElem?_pos,go_sem,t1],by simp -dsimp[-getElem?_pos,go_sem,t2],by simp -dsimp[-getElem?_pos,go_sem],by simp -dsimp[-getElem?_pos,go_sem],by simp -dsimp[-getElem?_pos,go_sem,t13],by simp -dsimp[-getElem?_pos,go_sem,t14],by simp -dsimp[-getElem?_pos,go_sem]⟩ (by simp -dsimp[-getElem?_pos,go_sem,g0'])
  ·have e1:decide (m.Kind=1)=false:=decide_eq_false (by omega)
   have e3:decide (m.Kind=3)=true:=decide_eq_true k1
   have ef:decide (m.To=0)=true:=decide_eq_true f0
   simp -dsimp -implicitDefEqProofs [-getElem?_pos,go_sem,hP,t13,t15,hm0,fb,t1,d0,wk,d1,d2,d3,e1,e3,ef,t2,g0',l00,t6,t7]
   refine rA (mv.lift _ _) hP Ac (aH ir (yc hX (ai (by simp[im,ar])))) ?_ (ak (bD _) .sc) ?_
   ·simp only[List.mem_cons,List.not_mem_nil,or_false,forall_eq_or_imp,forall_eq]
    exact⟨fg ir,uR hX,rfl,fg im⟩
   simp -dsimp -implicitDefEqProofs [-getElem?_pos,go_sem,hP]
   refine ao (fun _=>true) [] hP (by kernel_rfl) (by kernel_rfl) ?_
   simp -dsimp -implicitDefEqProofs [-getElem?_pos,go_sem,hP,t15,wk]
   refine⟨r.Moves.length-(k+1),by omega,?_⟩
   exact fin _ ⟨by simp -dsimp[-getElem?_pos,go_sem,t1],by simp -dsimp[-getElem?_pos,go_sem,t2],by simp -dsimp[-getElem?_pos,go_sem],by simp -dsimp[-getElem?_pos,go_sem],by simp -dsimp[-getElem?_pos,go_sem,t13],by simp -dsimp[-getElem?_pos,go_sem,t14],by simp -dsimp[-getElem?_pos,go_sem]⟩ (by simp -dsimp[-getElem?_pos,go_sem,g0'])
 ·have hkl:k=r.Moves.length:=by simp at hq;omega
  subst hkl
  rw[List.take_length]at hv
  have ev:v=⟨r.Holdings,r.Moves.length,d⟩:=by rw[hv.det,h.run.det]
  rw[ev]at hX
  simp -dsimp -implicitDefEqProofs [-getElem?_pos,go_sem,hP,t6]
  rcases hX with rfl|⟨rfl,e⟩
  ·exact aw (ak (bD _) .sc) rfl
  ·simp only at e
   rw[e]
   exact bQ 3 rfl
set_option maxHeartbeats 4000000 in
theorem CO (r:TRegister) (d:Int) (h:RegOk r d) (hs0:r.Securities=jR) (hk:∀m,m∈r.Moves→pn m):PFun Tryz.prog none none 145 [.agg r.cells] (·=iv 0):=by
 have hin:=h.regIn
 have h1:=hin.ml
 have h2:=hin.sl
 have h4:=h.hl
 have hdays:=yf hin.so h.run
 refine ab Tryz.func145 rfl (by simp[Tryz.f145]) (by kernel_rfl) ?_
 intro E hP hr hs hW hN
 have d1:decide (20<(r.Securities.length:Int))=false:=decide_eq_false (by omega)
 have d2:decide (400<(r.Moves.length:Int))=false:=decide_eq_false (by omega)
 have ir:=gJ r
 simp -dsimp -implicitDefEqProofs [-getElem?_pos,go_sem,hP,dQ,al,d1,d2]
 obtain⟨I,hI⟩:∃I:Nat→St→Prop,I=fun m s=>∃k:Nat,k≤r.Securities.length∧m=r.Securities.length-k∧s.t 1= .ref 0 0 0∧s.t 20=bb r.Securities∧s.t 21=iv r.Securities.length∧s.t 22=iv k∧s.H[0]?=some (some ⟨45,3,[[bb r.Securities,aQ r.Holdings,cB r.Moves]]⟩):=⟨_,rfl⟩
 refine ay I (r.Securities.length) (by rw[hN];rfl) ?_ ?_
 ·rw[hI]
  exact⟨0,by omega,by omega,by simp -dsimp[-getElem?_pos,go_sem],by simp -dsimp[-getElem?_pos,go_sem],by simp -dsimp[-getElem?_pos,go_sem,al],by simp -dsimp[-getElem?_pos,go_sem],by simp -dsimp[-getElem?_pos,go_sem]⟩
 intro m s hs'
 rw[hI]at hs'
 obtain⟨k,hk0,hm,t1,t20,t21,t22,g0⟩:=hs'
 have l0:=(gsI g0)
 simp -dsimp -implicitDefEqProofs [-getElem?_pos,go_sem,hP,t21,t22]
 refine aB (fun hq=>?_) (fun hq=>?_)
 ·have hk0:k<r.Securities.length:=by simpa using hq
  obtain⟨a,ha⟩:∃a,r.Securities[k]?=some a:=⟨_,List.getElem?_eq_getElem hk0⟩
  have wk:=af ((k:Int)+1) (by omega)
  have sp:=LQ (s:=a) (by rw[←hs0];exact List.mem_of_getElem? ha)
  rw[jU]at sp
  have g0':∀x:ac,(s.H++x)[0]?=some (some ⟨45,3,[[bb r.Securities,aQ r.Holdings,cB r.Moves]]⟩):=fun x=>by rw[List.getElem?_append_left l0];exact g0
  simp -dsimp -implicitDefEqProofs [-getElem?_pos,go_sem,hP,t20,t22,ha,jU]
  refine ao (fun _=>true) [] hP (by kernel_rfl) (by kernel_rfl) ?_
  simp -dsimp -implicitDefEqProofs [-getElem?_pos,go_sem,hP]
  refine ah sp hP Oi (ai (by simp -dsimp[-getElem?_pos,go_sem])) .sc ?_
  by_cases k0:k=0
  ·subst k0
   have w1:=af 1 (by omega)
   simp -dsimp -implicitDefEqProofs [-getElem?_pos,go_sem,hP,t1,g0',t22,wk,w1]
   refine⟨r.Securities.length-1,by omega,?_⟩
   rw[hI]
   exact⟨1,by omega,rfl,by simp -dsimp[-getElem?_pos,go_sem,t1],by simp -dsimp[-getElem?_pos,go_sem,t20],by simp -dsimp[-getElem?_pos,go_sem,t21],by simp -dsimp[-getElem?_pos,go_sem,w1],by simp -dsimp[-getElem?_pos,go_sem,g0']⟩
  ·obtain⟨j,rfl⟩:∃j,k=j+1:=⟨k-1,by omega⟩
   obtain⟨z,hz⟩:∃z,r.Securities[j]?=some z:=⟨_,List.getElem?_eq_getElem (by omega)⟩
   have lt:=hin.asc j z a hz ha
   have dj:decide ((0:Int)<((j+1:Nat):Int))=true:=decide_eq_true (by omega)
   have wj:=af (((j+1:Nat):Int)-1) (by omega)
   have ej:((j+1:Nat):Int)-1=(j:Int):=by omega
   have dl:decide (a.ID≤z.ID)=false:=decide_eq_false (by omega)
   have lj:j<r.Securities.length:=by omega
   rw[ej]at wj
   have wk2:=af ((j:Int)+1+1) (by omega)
   simp -dsimp -implicitDefEqProofs [-getElem?_pos,go_sem,hP,t1,g0',t22,wk,wk2,dj,wj,ej,hz,jU,dl,lj]
   refine⟨r.Securities.length-(j+1+1),by omega,?_⟩
   rw[hI]
   exact⟨j+1+1,by omega,rfl,by simp -dsimp[-getElem?_pos,go_sem,t1],by simp -dsimp[-getElem?_pos,go_sem,t20],by simp -dsimp[-getElem?_pos,go_sem,t21],by simp -dsimp[-getElem?_pos,go_sem,wk2],by simp -dsimp[-getElem?_pos,go_sem,g0']⟩
 simp -dsimp -implicitDefEqProofs [-getElem?_pos,go_sem,hP,t1,g0,l0,al]
 obtain⟨J,hJ⟩:∃I:Nat→St→Prop,I=fun m s=>∃k:Nat,k≤r.Moves.length∧m=r.Moves.length-k∧s.t 1= .ref 0 0 0∧s.t 48=cB r.Moves∧s.t 49=iv r.Moves.length∧s.t 50=iv k∧s.H[0]?=some (some ⟨45,3,[[bb r.Securities,aQ r.Holdings,cB r.Moves]]⟩):=⟨_,rfl⟩
 refine ay J (r.Moves.length) (by rw[hN];rfl) ?_ ?_
 ·rw[hJ]
  exact⟨0,by omega,by omega,by simp -dsimp[-getElem?_pos,go_sem,t1],by simp -dsimp[-getElem?_pos,go_sem],by simp -dsimp[-getElem?_pos,go_sem,al],by simp -dsimp[-getElem?_pos,go_sem],by simp -dsimp[-getElem?_pos,go_sem,g0]⟩
 clear t1 t20 t21 t22 g0 l0 hk0 hm hq s
 intro m s hs'
 rw[hJ]at hs'
 obtain⟨k,hk0,hm,t1,t48,t49,t50,g0⟩:=hs'
 have l0:=(gsI g0)
 simp -dsimp -implicitDefEqProofs [-getElem?_pos,go_sem,hP,t49,t50]
 refine aB (fun hq=>?_) (fun hq=>?_)
 ·have hk0:k<r.Moves.length:=by simpa using hq
  obtain⟨a,ha⟩:∃a,r.Moves[k]?=some a:=⟨_,List.getElem?_eq_getElem hk0⟩
  have wk:=af ((k:Int)+1) (by omega)
  have hd:=hdays a (List.mem_of_getElem? ha)
  have d3:decide (a.Day<0)=false:=decide_eq_false (by omega)
  have d4:decide (36000<a.Day)=false:=decide_eq_false (by omega)
  simp -dsimp -implicitDefEqProofs [-getElem?_pos,go_sem,hP,t48,t50,ha,fb,d3,d4,wk]
  refine⟨r.Moves.length-(k+1),by omega,?_⟩
  rw[hJ]
  refine⟨k+1,by omega,rfl,by simp -dsimp[-getElem?_pos,go_sem,t1],by simp -dsimp[-getElem?_pos,go_sem,t48],by simp -dsimp[-getElem?_pos,go_sem,t49],by simp -dsimp[-getElem?_pos,go_sem],?_⟩
  simp -dsimp -implicitDefEqProofs [-getElem?_pos,go_sem]
  rw[List.getElem?_append_left l0]
  exact g0
 have un:=GW r d h hk
 have ihl:=bD r.Holdings
 have lq:=vR r.Holdings (by have:=h4.len;omega)
 rw[dQ]at un ir
 simp -dsimp -implicitDefEqProofs [-getElem?_pos,go_sem,hP,t1,g0,l0]
 refine ae (un.lift _ _) hP OH (by simp[ir,ar]) (ak ihl .sc) ?_
 simp -dsimp -implicitDefEqProofs [-getElem?_pos,go_sem,hP,t1,g0,l0]
 refine ae (lq.lift _ _) hP Ow (by simp[ihl]) .sc ?_
 simp -dsimp -implicitDefEqProofs [-getElem?_pos,go_sem,hP]
open Go.PA
open Go.RowKit
def Fg:TRegister:=⟨[],[],[]⟩
def ve (r:TRegister) (m:TMove):AV:= .tup [.agg (if tF r m=0 then jq r m else Fg).cells,iv (tF r m)]
theorem FJ (r:TRegister) (m:TMove):Imm (ve r m):=ak (gJ _) .sc
set_option maxHeartbeats 4000000 in
theorem wV (r:TRegister) (m:TMove) (k0:Int) (h:RegOk r (dR r)) (hs0:r.Securities=jR) (hk:∀m,m∈r.Moves→pn m) (hl:r.Moves.length<400) (hn:m.Number=(r.Moves.length:Int)+1) (hm:pn m):
  PFun Tryz.prog none none 226 [.agg r.cells,.agg [iv k0,iv m.Day,iv m.Kind,iv m.Security,iv m.From,iv m.To,iv m.Amount]] (·=ve r m):=by
 have hin:=h.regIn
 have ck:=CO r (dR r) h hs0 hk
 have hok:=h.hl
 have mv:=yD r r.Holdings (dR r) m hok (by have:=hok.len;omega) hin.so (by have:=hin.sl;omega) hm
 obtain⟨R,hR0⟩:∃R,R=tF r m:=⟨_,rfl⟩
 have hR1:bA r.Securities r.Holdings (dR r) m=R:=hR0.symm
 rw[hR1]at mv
 obtain⟨Q,hQ⟩:∃Q:AV→Prop,Q=(·=ve r m):=⟨_,rfl⟩
 rw[←hQ]
 have qe:R≠0→Q (.tup [.agg Fg.cells,iv R]):=fun e=>by rw[hQ,ve,←hR0,if_neg e]
 have qo:R=0→Q (.tup [.agg (jq r m).cells,iv 0]):=fun e=>by rw[hQ,ve,←hR0,if_pos e,e]
 clear hQ
 have ir:=gJ r
 have im:=nU m
 have ih:=bD (if R=0 then goH r.Holdings m else [])
 rw[fb]at im mv
 rw[dQ]at ck ir mv
 refine ab Tryz.func226 rfl (by simp[Tryz.f226]) (by kernel_rfl) ?_
 intro E hP hr hs hW hN
 have wn:=af ((r.Moves.length:Int)+1) (by omega)
 have dl:decide ((r.Moves.length:Int)=400)=false:=decide_eq_false (by omega)
 have en:aj TMove.cells r.Moves++[[iv m.Number,iv m.Day,iv m.Kind,iv m.Security,iv m.From,iv m.To,iv m.Amount]]=aj TMove.cells (r.Moves++[m]):=ba TMove.cells r.Moves m
 simp -dsimp -implicitDefEqProofs [-getElem?_pos,go_sem,hP,dQ,fb]
 refine ae (ck.lift _ _) hP Oe (by simp[ir]) .sc ?_
 have hlast:(r.Moves.length=0∧dR r=0)∨∃k x,r.Moves.length=k+1∧r.Moves[k]?=some x∧dR r=x.Day:=by
  rcases List.eq_nil_or_concat r.Moves with e|⟨l,x,e⟩
  ·exact .inl ⟨by rw[e];rfl,by rw[dR,e];rfl⟩
  ·rw[List.concat_eq_append]at e
   exact .inr ⟨l.length,x,by rw[e];simp,by rw[e];simp,by rw[dR,e];simp⟩
 rcases hlast with⟨e0,ed⟩|⟨k,x,e0,ex,ed⟩
 ·rw[ed]at mv
  have d0:decide ((0:Int)<(r.Moves.length:Int))=false:=decide_eq_false (by omega)
  have d0':¬0<r.Moves.length:=by omega
  simp -dsimp -implicitDefEqProofs [-getElem?_pos,go_sem,hP,al,dl,d0,d0',wn]
  rw[←hn]
  refine ae (mv.lift _ _) hP Ac (by simp[ir,im,ar,bD]) (ak ih .sc) ?_
  by_cases he:R=0
  rotate_left
  ·have de:decide (R=0)=false:=decide_eq_false he
   simp -dsimp -implicitDefEqProofs [-getElem?_pos,go_sem,hP,de]
   exact aP BS (qe he)
  have fin:=qo he
  subst he
  rw[if_pos rfl]at ih
  have hm0:r.Moves=[]:=List.eq_nil_of_length_eq_zero e0
  simp -dsimp -implicitDefEqProofs [-getElem?_pos,go_sem,hP]
  refine ao (fun id=>decide (id<2)) [7] hP (by kernel_rfl) (by kernel_rfl) ?_
  simp -dsimp -implicitDefEqProofs [-getElem?_pos,go_sem,hP,ax,hm0,aj]
  refine⟨iA,iA,?_⟩
  refine aP (cs':=(jq r m).cells) ?_ fin
  exact di (iV _) (di ih (da (ty:=70) (id:=4) (es:=aj TMove.cells (r.Moves++[m])) (by rw[hm0];rfl) (by rw[hm0];rfl) (jF _) .nil))
 ·rw[ed]at mv
  have d0:decide ((0:Int)<(r.Moves.length:Int))=true:=decide_eq_true (by omega)
  have d0':0<r.Moves.length:=by omega
  have wj:IntKind.i64.wrap ((r.Moves.length:Int)-1)=(k:Int):=by rw[af _ (by omega)];omega
  simp -dsimp -implicitDefEqProofs [-getElem?_pos,go_sem,hP,al,dl,d0,d0',wn,wj,ex,fb]
  rw[←hn]
  refine ae (mv.lift _ _) hP Ac (by simp[ir,im,ar,bD]) (ak ih .sc) ?_
  by_cases he:R=0
  rotate_left
  ·have de:decide (R=0)=false:=decide_eq_false he
   simp -dsimp -implicitDefEqProofs [-getElem?_pos,go_sem,hP,de]
   exact aP BS (qe he)
  have fin:=qo he
  subst he
  rw[if_pos rfl]at ih
  simp -dsimp -implicitDefEqProofs [-getElem?_pos,go_sem,hP]
  refine ao (fun id=>decide (id<2)) [7] hP (by kernel_rfl) (by kernel_rfl) ?_
  simp -dsimp -implicitDefEqProofs [-getElem?_pos,go_sem,hP,ax,d0,d0',al]
  refine⟨by omega,by omega,iA,by omega,by omega,iA,?_⟩
  refine aP (cs':=(jq r m).cells) ?_ fin
  exact di (iV _) (di ih (da (ty:=70) (id:=4) (es:=aj TMove.cells (r.Moves++[m])) (by rw[←en];rfl) (by simp[aj]) (jF _) .nil))
theorem HR (r:TRegister) (day id h n:Int) (ok:RegOk r (dR r)) (hs0:r.Securities=jR) (hk:∀m,m∈r.Moves→pn m) (hl:r.Moves.length<400):
  PFun Tryz.prog none none 155 [.agg r.cells,iv day,iv id,iv h,iv n] (·=ve r (fd r day 1 id 0 h n)):=by
 have ch:=wV r (fd r day 1 id 0 h n) 0 ok hs0 hk hl rfl (.inl ⟨rfl,rfl⟩)
 have ir:=gJ r
 have ic:=FJ r (fd r day 1 id 0 h n)
 have e:[iv 0,iv (fd r day 1 id 0 h n).Day,iv (fd r day 1 id 0 h n).Kind,iv (fd r day 1 id 0 h n).Security,iv (fd r day 1 id 0 h n).From,iv (fd r day 1 id 0 h n).To,iv (fd r day 1 id 0 h n).Amount]=[iv 0,iv day,iv 1,iv id,iv 0,iv h,iv n]:=rfl
 rw[e]at ch
 obtain⟨R,hR⟩:∃R,R=ve r (fd r day 1 id 0 h n):=⟨_,rfl⟩
 obtain⟨y,v,hy⟩:∃(y:TRegister) (v:Int),R= .tup [.agg y.cells,iv v]:=⟨_,_,by rw[hR];rfl⟩
 rw[←hR]at ch ic⊢
 rw[hy,dQ y]at ic ch⊢
 rw[dQ r]at ir ch⊢
 refine ab Tryz.func155 rfl (by simp[Tryz.f155]) (by kernel_rfl) ?_
 intro E hP hr hs hW hN
 simp -dsimp -implicitDefEqProofs [-getElem?_pos,go_sem,hP]
 refine ae (ch.lift _ _) hP Jn (by simp[ir,az,ar]) ic ?_
 simp -dsimp -implicitDefEqProofs [-getElem?_pos,go_sem,hP]
 exact aw ic rfl
theorem DT (r:TRegister) (day id h n:Int) (ok:RegOk r (dR r)) (hs0:r.Securities=jR) (hk:∀m,m∈r.Moves→pn m) (hl:r.Moves.length<400):
  PFun Tryz.prog none none 156 [.agg r.cells,iv day,iv id,iv h,iv n] (·=ve r (fd r day 3 id h 0 n)):=by
 have ch:=wV r (fd r day 3 id h 0 n) 0 ok hs0 hk hl rfl (.inr ⟨rfl,rfl⟩)
 have ir:=gJ r
 have ic:=FJ r (fd r day 3 id h 0 n)
 have e:[iv 0,iv (fd r day 3 id h 0 n).Day,iv (fd r day 3 id h 0 n).Kind,iv (fd r day 3 id h 0 n).Security,iv (fd r day 3 id h 0 n).From,iv (fd r day 3 id h 0 n).To,iv (fd r day 3 id h 0 n).Amount]=[iv 0,iv day,iv 3,iv id,iv h,iv 0,iv n]:=rfl
 rw[e]at ch
 obtain⟨R,hR⟩:∃R,R=ve r (fd r day 3 id h 0 n):=⟨_,rfl⟩
 obtain⟨y,v,hy⟩:∃(y:TRegister) (v:Int),R= .tup [.agg y.cells,iv v]:=⟨_,_,by rw[hR];rfl⟩
 rw[←hR]at ch ic⊢
 rw[hy,dQ y]at ic ch⊢
 rw[dQ r]at ir ch⊢
 refine ab Tryz.func156 rfl (by simp[Tryz.f156]) (by kernel_rfl) ?_
 intro E hP hr hs hW hN
 simp -dsimp -implicitDefEqProofs [-getElem?_pos,go_sem,hP]
 refine ae (ch.lift _ _) hP Jn (by simp[ir,az,ar]) ic ?_
 simp -dsimp -implicitDefEqProofs [-getElem?_pos,go_sem,hP]
 exact aw ic rfl
end Go.Proofs.YtaenimpfelpafaaGreatDoor
