/- Several texts of this claim, joined: PaA. -/
import Derived.WalkKit
import Derived.Maps.AppendAt
import Derived.Deep.AppendLies
import Derived.Deep.Draws
import Derived.Laws.Cover3
import Derived.MapKept
import Derived.Laws.StructEq
set_option linter.unusedSimpArgs false
set_option linter.unusedVariables false
set_option maxRecDepth 4000
theorem zA:∀{p:Prop} [inst:Decidable p],¬p→Decidable.decide p=Bool.false:=@decide_eq_false
theorem zB:∀{α:Type} (val val_1:α),(Option.some val=Option.some val_1)=(val=val_1):=@Option.some.injEq
theorem zC:∀{p:Prop} [inst:Decidable p],p→Decidable.decide p=Bool.true:=@decide_eq_true
theorem zD:∀{α:Type} {l₁ l₂:List α} {i:Nat},i<l₁.length→(l₁++l₂)[i]?=l₁[i]?:=@List.getElem?_append_left
theorem zE:∀{α:Type} {l:List α} {i:Nat} {a:α},l[i]?=Option.some a→a∈l:=@List.mem_of_getElem?
theorem zF:∀{α:Type} {l:List α} {i:Nat} (h:i<l.length),l[i]?=Option.some l[i]:=@List.getElem?_eq_getElem
theorem zG:∀(a b:Bool),((a&&b)=Bool.true)=(a=Bool.true∧b=Bool.true):=@Bool.and_eq_true
theorem zH:∀{α:Type} {l:List α} {i j:Nat},i≠j→∀{a:α},(l.set i a)[j]?=l[j]?:=@List.getElem?_set_ne
theorem zI:∀{p:Prop} [inst:Decidable p],(Decidable.decide p=Bool.true)=p:=@decide_eq_true_eq
theorem zJ:∀(b:Bool),(Bool.false&&b)=Bool.false:=@Bool.false_and
theorem zK:∀{α:Type} {as bs:List α},(as++bs).length=as.length+bs.length:=@List.length_append
theorem zL:∀{α:Type} {b:α} {α_1:Type} {x:Option α_1} {f:α_1→α},Option.map f x=Option.some b↔∃(a:α_1),x=Option.some a∧f a=b:=@Option.map_eq_some_iff
theorem zM:∀{α:Type} {i:Nat} {a:α} {l:List α},l[i]?=Option.some a↔∃(h:i<l.length),l[i]=a:=@List.getElem?_eq_some_iff
theorem zN:∀{α:Type} {l₁ l₂:List α} {i:Nat},l₁.length≤i→(l₁++l₂)[i]?=l₂[i-l₁.length]?:=@List.getElem?_append_right
theorem zO:∀{α:Type} {b:α} {l:List α} {a:α},a∈b::l↔a=b∨a∈l:=@List.mem_cons
theorem zP:∀(b:Bool),(Bool.true&&b)=b:=@Bool.true_and
theorem zQ:∀{α:Type} {i:Nat} {l:List α},l.length≤i→List.take i l=l:=@List.take_of_length_le
theorem zR:∀{α:Type} {β:Type} {f:α→β} {l:List α} {i:Nat},(List.map f l)[i]?=Option.map f l[i]?:=@List.getElem?_map
theorem zS:∀{α:Type} {p:α→Bool} {l:List α},l.all p=Bool.true↔∀(x:α),x∈l→p x=Bool.true:=@List.all_eq_true
theorem zT:∀{α:Type} {l:List α},List.take l.length l=l:=@List.take_length
theorem zU:∀{α:Type} {a b:α},a∈[b]↔a=b:=@List.mem_singleton
theorem zV:∀{α:Type} {β:Type} {b:β} {f:α→β} {l:List α},b∈List.map f l↔∃(a:α),a∈l∧f a=b:=@List.mem_map
theorem zW:∀{α:Type} {i:Nat} {b:α} {xs:Array α},xs[i]?=Option.some b↔∃(h:i<xs.size),xs[i]=b:=@Array.getElem?_eq_some_iff
theorem zX:∀{α:Type} {xs:Array α} {i:Nat} (h:i<xs.size),xs[i]?=Option.some xs[i]:=@Array.getElem?_eq_getElem
theorem zY:∀{α:Type} {i:Nat} {l:List α},(List.take i l).length=Min.min i l.length:=@List.length_take
theorem zZ:∀(n:Nat),n≤n:=@Nat.le_refl
theorem wA:∀{α:Type} {a:α} {s t:List α},a∈s++t↔a∈s∨a∈t:=@List.mem_append
theorem wB:∀{a b:Int},0≤a→a.tmod b=a%b:=@Int.tmod_eq_emod_of_nonneg
theorem wC:∀{α:Type} {a:α},¬a∈[]:=@List.not_mem_nil
theorem wD:∀{α:Type} {β:Type} {f:α→β} {a:α} {l:List α},List.map f (a::l)=f a::List.map f l:=@List.map_cons
theorem wE:∀{α:Type} {i:Nat} {l:List α} (h:i<l.length),List.drop i l=l[i]::List.drop (i+1) l:=@List.drop_eq_getElem_cons
theorem wF:∀{α:Type} {l:List α},l.length=0→l=[]:=@List.eq_nil_of_length_eq_zero
theorem wG:∀{α:Type} {l:List α},List.drop l.length l=[]:=@List.drop_length
theorem wH:∀{p:Prop} {x:Decidable p},Decidable.decide p=Bool.false↔¬p:=@decide_eq_false_iff_not
theorem wI:∀{α:Type} {a:α} {as:List α},(a::as).length=as.length+1:=@List.length_cons
theorem wJ:∀{α:Type} {l:List α} {i:Nat},List.take (i+1) l=List.take i l++l[i]?.toList:=@List.take_add_one
theorem wK:∀{α:Type} {l:List α} {i:Nat} {a:α},i<l.length→(l.set i a)[i]?=Option.some a:=@List.getElem?_set_self
theorem wL:∀{α:Type} {β:Type} {as:List α} (f:α→β),(List.map f as).length=as.length:=@List.length_map
theorem wM:∀{n m:Nat} (k:Nat),n≤m→n*k≤m*k:=@Nat.mul_le_mul_right
theorem wN:∀{α:Type} {a:α} {l:List α},a∈l→∃(i:Nat),l[i]?=Option.some a:=@List.getElem?_of_mem
theorem wO:∀{α:Type} {l:List α} {i j:Nat} {a:α},(l.set i a)[j]?=if i=j then if i<l.length then Option.some a else Option.none else l[j]?:=@List.getElem?_set
theorem wP:∀{α:Type} {i:Nat} {l:List α},(List.drop i l).length=l.length-i:=@List.length_drop
theorem wQ:∀{α:Type} {a:α} {l:List α},(a::l)[0]?=Option.some a:=@List.getElem?_cons_zero
theorem wR:∀(n:Nat),n=0∨n>0:=@Nat.eq_zero_or_pos
theorem wS:(Bool.false=Bool.true)=False:=@Bool.false_eq_true
theorem wT:∀{α:Type} {val val_1:α},Option.some val=Option.some val_1→val=val_1:=@Option.some.inj
theorem wU:∀{α:Type} {x:Option α},x.isSome=Bool.true↔∃(a:α),x=Option.some a:=@Option.isSome_iff_exists
theorem wV:∀{α:Type} {i:Nat} {a:α} {l:List α},a∈List.take i l→a∈l:=@List.mem_of_mem_take
theorem wW:∀{α:Type} {xs:Array α} {i:Nat} {d:α},xs.getD i d=xs[i]?.getD d:=@Array.getD_eq_getD_getElem?
theorem wX:∀{α:Type} {as:List α} {i:Nat} {a:α},(as.set i a).length=as.length:=@List.length_set
theorem wY:∀{α:Type} (as:List α),as++[]=as:=@List.append_nil
theorem wZ:∀(a b:Bool),((a||b)=Bool.true)=(a=Bool.true∨b=Bool.true):=@Bool.or_eq_true
theorem vA:∀{α:Type} {l:List α} {α_1:Type} {f g:α→α_1},(∀(a:α),a∈l→f a=g a)→List.map f l=List.map g l:=@List.map_congr_left
theorem vC:∀(a b:Int),a+b-b=a:=@Int.add_sub_cancel
theorem vD:∀{α:Type} {R:α→α→Prop} {a:α} {l:List α},List.Pairwise R (a::l)↔(∀(a':α),a'∈l→R a a')∧List.Pairwise R l:=@List.pairwise_cons
theorem vE:∀{α:Type} {l:List α} {i j:Nat},(List.take i l)[j]?=if j<i then l[j]? else Option.none:=@List.getElem?_take
theorem vF:∀{α:Type} {xs:Array α} {i:Nat},xs.toList[i]?=xs[i]?:=@Array.getElem?_toList
theorem vG:∀{α:Type} {i:Nat} {l:List α},l.length≤i→List.drop i l=[]:=@List.drop_of_length_le
theorem vH:∀{α:Type} {as:List α} {i:Nat},as.length≤i→List.drop i as=[]:=@List.drop_eq_nil_of_le
theorem vI:∀{α:Type} {β:Type} (a:α) (f:α→β),Option.map f (Option.some a)=Option.some (f a):=@Option.map_some
theorem vJ:∀{α:Type} (as bs cs:List α),as++bs++cs=as++(bs++cs):=@List.append_assoc
theorem vK:∀{α:Type} {b:α} {α_1:Type} {x:Option α_1} {f:α_1→Option α},x.bind f=Option.some b↔∃(a:α_1),x=Option.some a∧f a=Option.some b:=@Option.bind_eq_some_iff
theorem vL:∀{α:Type} {p:α→Bool} {l:List α},l.any p=Bool.true↔∃(x:α),x∈l∧p x=Bool.true:=@List.any_eq_true
theorem vM:∀(b:Bool),(b&&Bool.false)=Bool.false:=@Bool.and_false
theorem vN:∀{α:Type} {a:α},[a].length=1:=@List.length_singleton
theorem vO:∀{α:Type} {l₁ l₂:List α} {i:Nat},i≤l₁.length→List.take i (l₁++l₂)=List.take i l₁:=@List.take_append_of_le_length
theorem vP:∀{α:Type} {p:α→Bool} {l₁ l₂:List α},List.countP p (l₁++l₂)=List.countP p l₁+List.countP p l₂:=@List.countP_append
theorem vQ:∀(b:Bool),((!b)=Bool.true)=(b=Bool.false):=@Bool.not_eq_true'
theorem vR:∀(n:Nat),0+n=n:=@Nat.zero_add
theorem vS:∀{α:Type} {p:α→Bool} {as:List α} {x:α},x∈List.filter p as↔x∈as∧p x=Bool.true:=@List.mem_filter
theorem vT:∀{α:Type} {R:α→α→Prop} {l:List α},List.Pairwise R l↔∀(i j:Nat) (_hi:i<l.length) (_hj:j<l.length),i<j→R l[i] l[j]:=@List.pairwise_iff_getElem
theorem vU:∀{α:Type} {p:α→Bool} {a:α} {l:List α},List.find? p l=Option.some a→a∈l:=@List.mem_of_find?_eq_some
theorem vV:∀{α:Type} (i:Nat) (l:List α),List.take i l++List.drop i l=l:=@List.take_append_drop
theorem vW:∀{α:Type} {l:List α},List.drop 0 l=l:=@List.drop_zero
theorem vX:∀{α:Type} {a:α} {as bs:List α},a::as++bs=a::(as++bs):=@List.cons_append
theorem vY:∀{α:Type} (as:List α),[]++as=as:=@List.nil_append
theorem vZ:∀{α:Type} (head:α) (tail:List α) (head_1:α) (tail_1:List α),(head::tail=head_1::tail_1)=(head=head_1∧tail=tail_1):=@List.cons.injEq
theorem uA:∀{α:Type} {β:Type} {l:List α} {a:α} {f:α→β},a∈l→f a∈List.map f l:=@List.mem_map_of_mem
theorem uB:∀{α:Type} {a:α} {i:Nat} {l:List α},a∈List.drop i l→a∈l:=@List.mem_of_mem_drop
theorem uC:∀{α:Type} (y:α) {a:α} {l:List α},a∈l→a∈y::l:=@List.mem_cons_of_mem
theorem uD:∀(n m k:Nat),n+m+k=n+(m+k):=@Nat.add_assoc
theorem uE:∀{α:Type} {xs:Array α},xs.size=0→xs=#[]:=@Array.eq_empty_of_size_eq_zero
theorem uF:∀{α:Type} {p:α→Bool} {a:α} {l:List α},List.countP p (a::l)=List.countP p l+if p a=Bool.true then 1 else 0:=@List.countP_cons
theorem uG:∀{α:Type} {xs:List α} {i j:Nat},(List.drop i xs)[j]?=xs[i+j]?:=@List.getElem?_drop
theorem uH:∀{α:Type} {l:List α},l.length=0↔l=[]:=@List.length_eq_zero_iff
theorem uI:∀{α:Type} {a:α} {i:Nat} {l:List α},(a::l)[i+1]?=l[i]?:=@List.getElem?_cons_succ
theorem gkE {α:Type} {l:List α} {k:Nat} (h:k<l.length):∃a,l[k]?=some a:=⟨_,zF h⟩
theorem gsI {α:Type} {l:List α} {i:Nat} {a:α} (h:l[i]?=some a):i<l.length:=(zM.1 h).1
namespace Go.PA
open Go.RowKit
inductive AV where
 |junk
 |sc (v:Value)
 |agg (cs:List AV)
 |tup (vs:List AV)
 |nil
 |list (k:Nat) (es:List (List AV))
 |ref (id i j:Nat)
 |sref (id lo n:Nat)
 |iref (cs:List AV)
 |fn (f:FuncId) (caps:List AV)
 |imap (es:List (Value×Value))
 |mref (id:Nat)
 |miter (id:Nat)
 |full (id lo n N:Nat)
instance:Inhabited AV:=⟨.junk⟩
structure AObj where
 ty:TypeId
 k:Nat
 es:List (List AV)
abbrev ah:=List (Option AObj)
abbrev aW:=Nat→Option (Nat×Nat)
inductive Rep (w:World) (ρ:aW) (H:ah) (ok:Nat→Prop):Value→AV→Prop
 |junk {v}:Rep w ρ H ok v .junk
 |sc {v}:Rep w ρ H ok v (.sc v)
 |agg {cs:Array Value} {as0:List AV} (hn:cs.size=as0.length) (h:∀(i:Nat) (c:Value) (a:AV),cs[i]?=some c→as0[i]?=some a→Rep w ρ H ok c a):Rep w ρ H ok (.agg cs) (.agg as0)
 |tup {cs:Array Value} {as0:List AV} (hn:cs.size=as0.length) (h:∀(i:Nat) (c:Value) (a:AV),cs[i]?=some c→as0[i]?=some a→Rep w ρ H ok c a):Rep w ρ H ok (.tuple cs) (.tup as0)
 |nil:Rep w ρ H ok (.slice none 0 0) .nil
 |listNil {A c k}:Rep w ρ H ok (.slice A 0 c) (.list k [])
 |list {ad:Addr} {n c k:Nat} {es:List (List AV)} (f:Nat→Nat→Value) (hn:es.length=n) (hnc:n≤c) (hok:ok ad.block) (hk:∀(e:List AV),e∈es→e.length=k)
   (hc:∀(i:Nat) (e:List AV) (j:Nat) (a:AV),es[i]?=some e→e[j]?=some a→w.cell? (ad.add (i*k+j))=some (f i j))
   (h1:∀(i:Nat) (e:List AV) (j:Nat) (a:AV),es[i]?=some e→e[j]?=some a→(f i j).oneCell'=true)
   (h:∀(i:Nat) (e:List AV) (j:Nat) (a:AV),es[i]?=some e→e[j]?=some a→Rep w ρ H ok (f i j) a):Rep w ρ H ok (.slice (some ad) n c) (.list k es)
 |ref {id i j:Nat} {o:AObj} {b cap:Nat} (ho:H[id]?=some (some o)) (hρ:ρ id=some (b,cap)) (hcap:cap≤maxLen):Rep w ρ H ok (.pointer (some ⟨b,i*o.k+j,none⟩)) (.ref id i j)
 |refDead {id i j:Nat} {v:Value} (hd:H[id]?=some none) (h1:v.oneCell'=true):Rep w ρ H ok v (.ref id i j)
 |sref {id lo n c:Nat} {o:AObj} {b cap:Nat} (ho:H[id]?=some (some o)) (hρ:ρ id=some (b,cap)) (hn:lo+n≤o.es.length) (hc:lo=0→c=cap) (hnc:n≤c) (hcap:cap≤maxLen):
   Rep w ρ H ok (.slice (some ⟨b,lo*o.k,none⟩) n c) (.sref id lo n)
 |srefNil {id:Nat} {o:AObj} (ho:H[id]?=some (some o)) (hρ:ρ id=none):Rep w ρ H ok (.slice none 0 0) (.sref id 0 0)
 |srefDead {id lo n:Nat} {v:Value} (hd:H[id]?=some none) (h1:v.oneCell'=true):Rep w ρ H ok v (.sref id lo n)
 |iref {ad:Addr} {cs:List AV} (f:Nat→Value) (hok:ok ad.block) (hc:∀(j:Nat) (a:AV),cs[j]?=some a→w.cell? (ad.add j)=some (f j)) (h1:∀(j:Nat) (a:AV),cs[j]?=some a→(f j).oneCell'=true)
   (h:∀(j:Nat) (a:AV),cs[j]?=some a→Rep w ρ H ok (f j) a):Rep w ρ H ok (.pointer (some ad)) (.iref cs)
 |fn {f:FuncId} {cs:Array Value} {as0:List AV} (hn:cs.size=as0.length) (h:∀(i:Nat) (c:Value) (a:AV),cs[i]?=some c→as0[i]?=some a→Rep w ρ H ok c a):Rep w ρ H ok (.func (.func f) #[] cs) (.fn f as0)
 |imap {b clk:Nat} {ents:Array MapEntry} {es:List (Value×Value)} (hok:ok b) (hb:w.heap[b]?=some (.map ents clk)) (he:ents.toList.map (fun e=>(e.key,e.val))=es) (hw:MapKept.Stamped ents clk):Rep w ρ H ok (.map (some b)) (.imap es)
 |imapNil:Rep w ρ H ok (.map none) (.imap [])
 |mref {id b:Nat} {o:AObj} (ho:H[id]?=some (some o)) (hρ:ρ id=some (b,maxLen+1)):Rep w ρ H ok (.map (some b)) (.mref id)
 |mrefDead {id:Nat} {v:Value} (hd:H[id]?=some none) (h1:v.oneCell'=true):Rep w ρ H ok v (.mref id)
 |miter {id b:Nat} {o:AObj} (ho:H[id]?=some (some o)) (hρ:ρ id=some (b,maxLen+2)):Rep w ρ H ok (.pointer (some ⟨b,0,none⟩)) (.miter id)
 |miterDead {id:Nat} {v:Value} (hd:H[id]?=some none) (h1:v.oneCell'=true):Rep w ρ H ok v (.miter id)
 |full {id lo n N:Nat} {o:AObj} {b:Nat} (ho:H[id]?=some (some o)) (hρ:ρ id=some (b,N)) (hn:lo+n≤N) (hN:N≤maxLen):Rep w ρ H ok (.slice (some ⟨b,lo*o.k,none⟩) n (N-lo)) (.full id lo n N)
 |fullDead {id lo n N:Nat} {v:Value} (hd:H[id]?=some none) (h1:v.oneCell'=true):Rep w ρ H ok v (.full id lo n N)
structure Ext (w:World) (ρ:aW) (H:ah) (ok:Nat→Prop) (w':World) (ρ':aW) (H':ah) (ok':Nat→Prop):Prop where
 live:∀(id:Nat) (o:AObj),H[id]?=some (some o)→H'[id]?=some none∨∃o',H'[id]?=some (some o')∧ρ' id=ρ id∧o'.k=o.k∧o.es.length≤o'.es.length
 dead:∀(id:Nat),H[id]?=some none→H'[id]?=some none
 oks:∀b,ok b→ok' b
 blk:∀b,ok b→w'.heap[b]?=w.heap[b]?
theorem fq (a:Addr) (n:Nat):(a.add n).block=a.block:=by unfold Addr.add;split<;>rfl
theorem tC (a:Addr) (i j:Nat):(a.add i).add j=a.add (i+j):=by
 unfold Addr.add
 by_cases hi:i=0<;>by_cases hj:j=0<;>simp[hi,hj,uD]
theorem kU (b o n:Nat):(⟨b,o,none⟩:Addr).add n=⟨b,o+n,none⟩:=by unfold Addr.add;split<;>simp_all
theorem Rep.ext {w w':World} {ρ ρ':aW} {H H':ah} {ok ok':Nat→Prop} (h:Ext w ρ H ok w' ρ' H' ok') {v:Value} {a:AV} (r:Rep w ρ H ok v a):Rep w' ρ' H' ok' v a:=by
 induction r with
 |junk=>exact .junk
 |sc=>exact .sc
 |agg hn _ ih=>exact .agg hn ih
 |tup hn _ ih=>exact .tup hn ih
 |nil=>exact .nil
 |listNil=>exact .listNil
 |list f hn hnc hok hk hc h1 _ ih=>
  refine .list f hn hnc (h.oks _ hok) hk (fun i e j a he hj=>?_) h1 ih
  exact (World.cell?_of_block (w:=w) (by rw[fq];exact h.blk _ hok)).trans (hc i e j a he hj)
 |ref ho hρ hcap=>
  rcases h.live _ _ ho with hd|⟨o',ho',hρ',hk,_⟩
  ·exact .refDead hd rfl
  ·rw[←hk];exact .ref ho' (hρ'.trans hρ) hcap
 |refDead hd h1=>exact .refDead (h.dead _ hd) h1
 |sref ho hρ hn hc hnc hcap=>
  rcases h.live _ _ ho with hd|⟨o',ho',hρ',hk,hl⟩
  ·exact .srefDead hd rfl
  ·rw[←hk];exact .sref ho' (hρ'.trans hρ) (Nat.le_trans hn hl) hc hnc hcap
 |srefNil ho hρ=>
  rcases h.live _ _ ho with hd|⟨o',ho',hρ',hk,hl⟩
  ·exact .srefDead hd rfl
  ·exact .srefNil ho' (hρ'.trans hρ)
 |srefDead hd h1=>exact .srefDead (h.dead _ hd) h1
 |iref f hok hc h1 _ ih=>
  refine .iref f (h.oks _ hok) (fun j a hj=>?_) h1 ih
  exact (World.cell?_of_block (w:=w) (by rw[fq];exact h.blk _ hok)).trans (hc j a hj)
 |fn hn _ ih=>exact .fn hn ih
 |imap hok hb he hw=>exact .imap (h.oks _ hok) ((h.blk _ hok).trans hb) he hw
 |imapNil=>exact .imapNil
 |mref ho hρ=>
  rcases h.live _ _ ho with hd|⟨o',ho',hρ',_,_⟩
  ·exact .mrefDead hd rfl
  ·exact .mref ho' (hρ'.trans hρ)
 |mrefDead hd h1=>exact .mrefDead (h.dead _ hd) h1
 |miter ho hρ=>
  rcases h.live _ _ ho with hd|⟨o',ho',hρ',_,_⟩
  ·exact .miterDead hd rfl
  ·exact .miter ho' (hρ'.trans hρ)
 |miterDead hd h1=>exact .miterDead (h.dead _ hd) h1
 |full ho hρ hn hN=>
  rcases h.live _ _ ho with hd|⟨o',ho',hρ',hk,_⟩
  ·exact .fullDead hd rfl
  ·rw[←hk];exact .full ho' (hρ'.trans hρ) hn hN
 |fullDead hd h1=>exact .fullDead (h.dead _ hd) h1
theorem Ext.refl (w:World) (ρ:aW) (H:ah) (ok:Nat→Prop):Ext w ρ H ok w ρ H ok:=
 ⟨fun _ o h=> .inr ⟨o,h,rfl,rfl,zZ _⟩,fun _ h=>h,fun _ h=>h,fun _ _=>rfl⟩
theorem Ext.trans {w1 w2 w3:World} {ρ1 ρ2 ρ3:aW} {H1 H2 H3:ah} {ok1 ok2 ok3:Nat→Prop} (h:Ext w1 ρ1 H1 ok1 w2 ρ2 H2 ok2) (k:Ext w2 ρ2 H2 ok2 w3 ρ3 H3 ok3):Ext w1 ρ1 H1 ok1 w3 ρ3 H3 ok3:=
 ⟨fun id o ho=>by
  rcases h.live id o ho with hd|⟨o2,ho2,hρ2,hk2,hl2⟩
  ·exact .inl (k.dead _ hd)
  ·rcases k.live id o2 ho2 with hd|⟨o3,ho3,hρ3,hk3,hl3⟩
   ·exact .inl hd
   ·exact .inr ⟨o3,ho3,hρ3.trans hρ2,hk3.trans hk2,Nat.le_trans hl2 hl3⟩,
 fun id hd=>k.dead _ (h.dead _ hd),fun b hb=>k.oks _ (h.oks _ hb),fun b hb=>(k.blk _ (h.oks _ hb)).trans (h.blk _ hb)⟩
def TC (src:Option Nat) (w:World) (p:Nat):Prop:=
 ∃(cur:Array Value) (A:Option Addr) (len c:Nat) (at_:Nat) (ty:TypeId),(w.heap[p]?=some (.cells cur ty (0,0))∧cur[0]?=some (.slice A len c)∧cur[1]?=some (.int .i64 at_))∧at_≤len∧len≤900∧
  ∀i,i<len→∃(ad:Addr) (x:Int),A=some ad∧src=some ad.block∧ad.block≠p∧w.cell? (ad.add i)=some (.int .i64 x)∧ -9223372036854775808≤x∧x≤9223372036854775807
def Ts:List Nat:=[0,1]
def GlobOk (ok:Nat→Prop) (w:World):Prop:=∀g,g∈Ts→ok g∧∃t p,w.cell? ⟨g,0,none⟩=some (.iface t p)
theorem GlobOk.mono {ok ok':Nat→Prop} {w:World} (h:GlobOk ok w) (k:∀b,ok b→ok' b):GlobOk ok' w:=fun g hg=>⟨k _ (h g hg).1,(h g hg).2⟩
theorem GlobOk.at {ok ok':Nat→Prop} {w w':World} (h:GlobOk ok w) (k:GlobOk ok' w'):GlobOk ok w':=fun g hg=>⟨(h g hg).1,(k g hg).2⟩
def Inv (row src:Option Nat) (ok:Nat→Prop) (w:World):Prop:=((∀b,src=some b→ok b)∧GlobOk ok w)∧∀p,row=some p→TC src w p
def ay (P:Program) (t:TypeId):Nat:=((P.info? t).map (·.size)).getD 0
inductive Kd where
 |int
 |bool
 |str
def yl (P:Program) (t:TypeId):Option Kd:=match P.underlying t with
 |some (.int _)=>some .int
 |some .bool=>some .bool
 |some .string=>some .str
 |_=>none
def gQ (P:Program):Nat→List Field→Option (List Kd)
 |_,[]=>some []
 |i,f::fs=>if f.name≠ "_"∧f.offset=i then match yl P f.type,gQ P (i+1) fs with
  |some k,some ks=>some (k::ks)
  |_,_=>none
  else none
def GC (P:Program) (t:TypeId):Option (List Kd):=if P.stoodInHeld t=false∧(P.info? t).isSome=true then match P.underlying t with
  |some (.struct fs)=>match gQ P 0 fs.toList with
   |some ks=>if ay P t=ks.length then some ks else none
   |none=>none
  |_=>none
 else none
def lJ (P:Program):Nat→List Field→Option (List Kd)
 |_,[]=>some []
 |i,f::fs=>if f.name≠ "_"∧f.offset=i then match yl P f.type with
   |some k=>match lJ P (i+1) fs with
    |some ks=>some (k::ks)
    |none=>none
   |none=>match GC P f.type with
    |some ks'=>match lJ P (i+ks'.length) fs with
     |some ks=>some (ks'++ks)
     |none=>none
    |none=>none
  else none
def lO (P:Program) (t:TypeId):Option (List Kd):=if P.stoodInHeld t=false∧P.eqGuardType P.depth t=false then match P.underlying t with
  |some (.struct fs)=>lJ P 0 fs.toList
  |_=>none
 else none
def kJ:Kd→Value→Value→Option Bool
 | .int,.int k a,.int k' b=>if k=k' then some (decide (a=b))else none
 | .bool,.bool a,.bool b=>some (decide (a=b))
 | .str,.string a,.string b=>some (decide (a=b))
 |_,_,_=>none
def cS:List Kd→List Value→List Value→Option Bool
 |[],[],[]=>some true
 |k::ks,v::vs,u::us=>match kJ k v u,cS ks vs us with
  |some b,some c=>some (b&&c)
  |_,_=>none
 |_,_,_=>none
structure Env where
 P:Program
 w0:World
 okA:Nat→Prop
 row:Option Nat
 src:Option Nat
 N:Nat
 W:Nat→Prop
 ρ0:aW
 H0:ah
def yL (w:World) (ρ:aW) (H:ah) (ok:Nat→Prop) (o:AObj) (b cap:Nat):Prop:=
 ∃cur:Array Value,w.heap[b]?=some (.cells cur o.ty (0,0))∧cur.size=cap*o.k∧o.es.length≤cap∧cap≤maxLen∧
   ∀(i:Nat) (e:List AV) (j:Nat) (a:AV),o.es[i]?=some e→e[j]?=some a→∃c,cur[i*o.k+j]?=some c∧c.oneCell'=true∧Rep w ρ H ok c a
structure StampN (ents:Array MapEntry) (clk:Nat):Prop where
 st:MapKept.Stamped ents clk
 sz:clk=ents.size
 bo:∀(i:Nat) (e:MapEntry),ents[i]?=some e→e.born=i
def TM (w:World) (ρ:aW) (H:ah) (ok:Nat→Prop) (o:AObj) (b:Nat):Prop:=
 o.k=2∧∃(ents:Array MapEntry) (clk:Nat),w.heap[b]?=some (.map ents clk)∧StampN ents clk∧ents.size=o.es.length∧
   ∀(i:Nat) (x:MapEntry) (e:List AV),ents[i]?=some x→o.es[i]?=some e→∃a,e=[.sc x.key,a]∧Rep w ρ H ok x.val a
def Pi (w:World) (ok:Nat→Prop) (o:AObj) (b:Nat):Prop:=
 o.k=3∧((o.es=[[.junk,.junk,.imap []]]∧w.heap[b]?=some (.mapIter none 0 #[] 0))∨
  ∃(m clk:Nat) (seen:Array Nat) (ents:Array MapEntry) (c1 c2:AV),w.heap[b]?=some (.mapIter (some m) clk seen clk)∧ok m∧w.heap[m]?=some (.map ents clk)∧MapKept.Stamped ents clk∧
   o.es=[[c1,c2,.imap ((ents.toList.filter fun e=>!seen.contains e.born).map fun e=>(e.key,e.val))]]∧
   ((c1= .junk∧c2= .junk)∨∃x∈ents.toList,seen.back?=some x.born∧c1= .sc x.key∧c2= .sc x.val))
def ObjOk (w:World) (ρ:aW) (H:ah) (ok:Nat→Prop) (o:AObj):Option (Nat×Nat)→Prop
 |none=>o.es=[]
 |some (b,cap)=>yL w ρ H ok o b cap∨(cap=maxLen+1∧TM w ρ H ok o b)∨(cap=maxLen+2∧Pi w ok o b)
theorem ObjOk.cells {w:World} {ρ:aW} {H:ah} {ok:Nat→Prop} {o:AObj} {b cap:Nat} (h:ObjOk w ρ H ok o (some (b,cap))) (hc:cap≤maxLen):yL w ρ H ok o b cap:=by
 rcases h with h|⟨h,_⟩|⟨h,_⟩
 ·exact h
 ·omega
 ·omega
theorem ObjOk.map {w:World} {ρ:aW} {H:ah} {ok:Nat→Prop} {o:AObj} {b:Nat} (h:ObjOk w ρ H ok o (some (b,maxLen+1))):TM w ρ H ok o b:=by
 rcases h with⟨_,_,_,_,h,_⟩|⟨_,h⟩|⟨h,_⟩
 ·omega
 ·exact h
 ·omega
theorem ObjOk.iter {w:World} {ρ:aW} {H:ah} {ok:Nat→Prop} {o:AObj} {b:Nat} (h:ObjOk w ρ H ok o (some (b,maxLen+2))):Pi w ok o b:=by
 rcases h with⟨_,_,_,_,h,_⟩|⟨h,_⟩|⟨_,h⟩
 ·omega
 ·omega
 ·exact h
structure Good (E:Env) (w:World) (ρ:aW) (H:ah) (ok:Nat→Prop):Prop where
 os:w.os=E.w0.os
 tape:w.tape=E.w0.tape
 output:w.output=E.w0.output
 size:E.w0.heap.size≤w.heap.size
 blk:∀b,b<E.w0.heap.size→¬E.W b→some b≠E.row→w.heap[b]?=E.w0.heap[b]?
 inv:Inv E.row E.src ok w
 oks:∀b,ok b→b<w.heap.size∧some b≠E.row∧(E.okA b∨E.w0.heap.size≤b)
 own:∀(id:Nat) (o:AObj) (b c:Nat),H[id]?=some (some o)→ρ id=some (b,c)→¬ok b∧some b≠E.row∧(E.W b∨E.w0.heap.size≤b)
 inj:∀(id:Nat) (o:AObj) (b c id':Nat) (o':AObj) (c':Nat),H[id]?=some (some o)→ρ id=some (b,c)→H[id']?=some (some o')→ρ id'=some (b,c')→id=id'
 len:∀(id:Nat) (o:AObj),H[id]?=some (some o)→∀(e:List AV),e∈o.es→e.length=o.k
 obj:∀(id:Nat) (o:AObj),H[id]?=some (some o)→ObjOk w ρ H ok o (ρ id)
structure St where
 t:Nat→AV
 H:ah
def upd (t:Nat→AV) (i:Nat) (v:AV):Nat→AV:=fun j=>if j=i then v else t j
def St.put (s:St) (d:Option Tmp) (v:AV):St:=match d with
 |some d=>{s with t:=upd s.t d v}
 |none=>s
def Rel (E:Env) (s:St) (a:Act) (w:World):Prop:=
 ∃ρ ok,Good E w ρ s.H ok∧Ext E.w0 E.ρ0 E.H0 E.okA w ρ s.H ok∧a.defers=[]∧a.tmps.size=E.N∧∀i,Rep w ρ s.H ok (a.tmps.getD i undef) (s.t i)
def St.eval (s:St):Operand→AV
 | .tmp t=>s.t t
 | .const v=>match v with
  | .slice none 0 0=> .nil
  |v=> .sc v
 | .global g=> .sc (.pointer (some ⟨g,0,none⟩))
 | .func f=> .fn f []
theorem BT {w:World} {ρ:aW} {H:ah} {ok:Nat→Prop} {a:Act} {s:St} (h:∀i,Rep w ρ H ok (a.tmps.getD i undef) (s.t i)) (x:Operand):Rep w ρ H ok (a.eval x) (s.eval x):=by
 cases x with
 |tmp t=>exact h t
 |const v=>
  show Rep w ρ H ok v (match v with| .slice none 0 0=>AV.nil|v=> .sc v)
  split
  ·exact .nil
  ·exact .sc
 |global g=>exact .sc
 |func f=>exact .fn rfl (fun i c a h=>by simp at h)
theorem Sc {E:Env} {w:World} {ρ:aW} {ok:Nat→Prop} {a:Act} {s:St} {d:Option Tmp} {v:Value} {x:AV} {H:ah} (hs:a.tmps.size=E.N)
  (hd:∀i,d=some i→i<E.N) (h:∀i,Rep w ρ H ok (a.tmps.getD i undef) (s.t i)) (hv:Rep w ρ H ok v x):
  (a.put d v).tmps.size=E.N∧∀i,Rep w ρ H ok ((a.put d v).tmps.getD i undef) ((s.put d x).t i):=by
 cases d with
 |none=>exact⟨hs,h⟩
 |some d=>
  have hlt:=hd d rfl
  refine⟨by simp[Act.put,hs],fun i=>?_⟩
  simp only[Act.put,St.put,upd]
  by_cases hi:i=d
  ·subst hi
   simp[hs,hlt]
   exact hv
  ·have:d≠i:=fun e=>hi e.symm
   simp only[hi,if_false]
   have e:(a.tmps.setIfInBounds d v).getD i undef=a.tmps.getD i undef:=by
    simp[Array.getElem?_setIfInBounds_ne this]
   rw[e]
   exact h i
open Go.RowKit
def aE (P:Program) (t:TypeId):Bool:=(P.info? t).isSome
def cF (P:Program) (t:TypeId):Bool:=match P.underlying t with|some (.struct _)|some (.array _ _)=>true|_=>false
def au (P:Program) (s:TypeId) (f:Nat):Option (Nat×TypeId):=
 match P.underlying s with
 |some (.struct fs)=>(fs[f]?).bind fun x=>if ay P x.type=0 then none else some (x.offset,x.type)
 |_=>none
def aT (P:Program) (t:TypeId):Option TypeId:=match P.underlying t with|some (.slice e)=>some e|_=>none
def dG (P:Program) (t:TypeId):Option (Nat×TypeId):=match P.underlying t with|some (.array n e)=>some (n,e)|_=>none
def RB (P:Program) (t:TypeId):Option (List Value):=((P.info? t).bind (·.zero)).map (·.cells.toList)
def nC (v:Value):AV:=match v with| .slice none 0 0=> .nil|v=> .sc v
def AV.cellish:AV→Bool
 | .sc v=>v.oneCell'
 | .nil| .list _ _| .ref _ _ _| .sref _ _ _| .iref _| .fn _ _| .imap _| .mref _| .miter _| .full _ _ _ _=>true
 | .junk| .agg _| .tup _=>false
def AV.cells?:AV→Option (List AV)
 | .agg cs=>if cs.all AV.cellish then some cs else none
 | .junk| .tup _=>none
 |x=>if x.cellish then some [x]else none
def aO (H:ah):AV→Option (List AV)
 | .ref id i j=>match H[id]? with
  |some (some o)=>(o.es[i]?).map (·.drop j)
  |_=>none
 | .iref cs=>some cs
 |_=>none
def CellsAt (w:World) (ρ:aW) (H:ah) (ok:Nat→Prop) (ad:Addr) (as0:List AV):Prop:=
 ∃f:Nat→Value,∀(j:Nat) (a:AV),as0[j]?=some a→w.cell? (ad.add j)=some (f j)∧(f j).oneCell'=true∧Rep w ρ H ok (f j) a
section
variable {E:Env} {w:World} {ρ:aW} {H:ah} {ok:Nat→Prop}
theorem kz (g:Good E w ρ H ok) {v:Value} {x:AV} (r:Rep w ρ H ok v x) {as0:List AV} (h:aO H x=some as0):∃ad,v= .pointer (some ad)∧CellsAt w ρ H ok ad as0:=by
 cases r<;>simp only[aO,reduceCtorEq]at h
 case ref id i j o b cap ho hρ hcap=>
  simp only[ho,zL]at h
  obtain⟨e,he,rfl⟩:=h
  have hobj:=g.obj id o ho
  rw[hρ]at hobj
  obtain⟨cur,hb,hs,hl,hm,hc⟩:=hobj.cells hcap
  refine⟨_,rfl,fun j'=>(cur[i*o.k+(j+j')]?).getD undef,fun j' a hj=>?_⟩
  rw[uG]at hj
  obtain⟨c,hc1,hc2,hc3⟩:=hc i e (j+j') a he hj
  have e1:(cur[i*o.k+(j+j')]?).getD undef=c:=by rw[hc1];rfl
  rw[kU,cell_of_row w b _ cur o.ty (0,0) hb,show i*o.k+j+j'=i*o.k+(j+j')from by omega]
  simp only[e1]
  exact⟨hc1,hc2,hc3⟩
 case refDead id i j hd h1=>simp[hd]at h
 case iref ad cs f hok hc h1 hr=>
  simp only[zB]at h
  subst h
  exact⟨ad,rfl,f,fun j a hj=>⟨hc j a hj,h1 j a hj,hr j a hj⟩⟩
theorem CellsAt.drop {ad:Addr} {as0:List AV} (h:CellsAt w ρ H ok ad as0) (n:Nat):CellsAt w ρ H ok (ad.add n) (as0.drop n):=by
 obtain⟨f,hf⟩:=h
 refine⟨fun j=>f (n+j),fun j a hj=>?_⟩
 rw[uG]at hj
 rw[tC]
 exact hf _ _ hj
theorem nH {P:Program} {t:TypeId} {i:TypeInfo} (h:P.info? t=some i) (w:World):(typeInfo t).run P w= .ok i w:=by
 simp[typeInfo,h]
theorem bB {P:Program} {t:TypeId} (h:aE P t=true) (w:World):(sizeOf t).run P w= .ok (ay P t) w:=by
 obtain⟨i,hi⟩:=wU.1 h
 simp[sizeOf,nH hi,ay,hi]
theorem fX {P:Program} {t:TypeId} {d:TypeDesc} (h:P.underlying t=some d) (w:World):(isAgg t).run P w= .ok (cF P t) w:=by
 simp only[isAgg,Sem.run_bind,run_underlying h,Result.andThen_ok,cF,h]
 cases d<;>rfl
def xm (P:Program) (t:TypeId) (as0:List AV):Option AV:=
 if (P.underlying t).isSome&&aE P t then
  (if cF P t then (if ay P t≤as0.length then some (.agg (as0.take (ay P t)))else none)else as0.head?)
 else none
theorem xb {t:TypeId} {ad:Addr} {as0:List AV} {x:AV} (hc:CellsAt w ρ H ok ad as0) (h:xm E.P t as0=some x):
  ∃v,(loadVar t ad).run E.P w= .ok v w∧Rep w ρ H ok v x:=by
 obtain⟨f,hf⟩:=hc
 unfold xm at h
 split at h
 ·rename_i hk
  simp only[zG]at hk
  obtain⟨d,hd⟩:=wU.1 hk.1
  split at h
  ·rename_i hag
   split at h
   ·rename_i hle
    simp only[zB]at h
    subst h
    have hl:(as0.take (ay E.P t)).length=ay E.P t:=by simp;omega
    have hr:=run_loadCells (P:=E.P) w ad (ay E.P t) f (fun j hj=>by
     have:as0[j]?=some (as0[j]'(by omega)):=zF (by omega)
     exact (hf j _ this).1)
    refine⟨.agg ((List.range (ay E.P t)).map f).toArray,?_,.agg (by simp;omega) (fun i c a hi ha=>?_)⟩
    ·simp[loadVar,fX hd,hag,bB hk.2,hr]
    ·rw[vE]at ha
     split at ha
     ·rename_i hlt
      simp[hlt]at hi
      subst hi
      exact (hf i a ha).2.2
     ·cases ha
   ·cases h
  ·rename_i hag
   cases as0 with
   |nil=>simp at h
   |cons a0 rest=>
    simp only[List.head?_cons,zB]at h
    subst h
    obtain⟨h0,_,h2⟩:=hf 0 a0 rfl
    have h0':w.cell? ad=some (f 0):=by simpa[Addr.add]using h0
    refine⟨f 0,?_,h2⟩
    simp[loadVar,fX hd,hag,h0']
 ·cases h
def nM (op:BinOp) (k:IntKind) (a b:Int):Option AV:=
 match op with
 | .add=>some (.sc (.int k (k.wrap (a+b))))
 | .sub=>some (.sc (.int k (k.wrap (a-b))))
 | .mul=>some (.sc (.int k (k.wrap (a*b))))
 | .quo=>if b=0 then none else some (.sc (.int k (k.wrap (a.tdiv b))))
 | .rem=>if b=0 then none else some (.sc (.int k (a.tmod b)))
 | .eql=>some (.sc (.bool (decide (a=b))))
 | .neq=>some (.sc (.bool (!decide (a=b))))
 | .lss=>some (.sc (.bool (decide (a<b))))
 | .leq=>some (.sc (.bool (decide (a≤b))))
 | .gtr=>some (.sc (.bool (decide (b<a))))
 | .geq=>some (.sc (.bool (decide (b≤a))))
 | .shr=>if 0≤b∧b≤k.bits then some (.sc (.int k (a / 2 ^ b.toNat)))else none
 |_=>none
def scs:List AV→Option (List Value)
 |[]=>some []
 | .sc v::as0=>match scs as0 with
  |some vs=>some (v::vs)
  |none=>none
 |_=>none
def SZ (P:Program) (op:BinOp) (t:TypeId) (xs ys:List AV):Option AV:=
 match lO P t,scs xs,scs ys with
 |some sg,some vs,some us=>match op,cS sg vs us with
  | .eql,some b=>some (.sc (.bool b))
  | .neq,some b=>some (.sc (.bool (!b)))
  |_,_=>none
 |_,_,_=>none
def Eo:AV→Option Bool
 | .nil=>some true
 | .sc (.slice a _ _)=>some a.isNone
 | .list _ (_::_)=>some false
 |_=>none
def jX (P:Program) (op:BinOp) (t:TypeId) (x y:AV):Option AV:=
 match x,y with
 | .sc (.int k a),.sc (.int k' b)=>if k=k' then nM op k a b else none
 | .sc (.bool a),.sc (.bool b)=>match P.underlying t,op with
  |some .bool,.eql=>some (.sc (.bool (decide (a=b))))
  |some .bool,.neq=>some (.sc (.bool (!decide (a=b))))
  |_,_=>none
 | .sc (.string a),.sc (.string b)=>match op with
  | .eql=>some (.sc (.bool (decide (a=b))))
  | .neq=>some (.sc (.bool (!decide (a=b))))
  | .lss=>some (.sc (.bool (Op.bytesLess a.toList b.toList)))
  |_=>none
 | .agg xs,.agg ys=>SZ P op t xs ys
 |x,.nil=>match aT P t,Eo x,op with
  |some _,some b,.eql=>some (.sc (.bool b))
  |some _,some b,.neq=>some (.sc (.bool (!b)))
  |_,_,_=>none
 |_,_=>none
section
variable {P:Program} {w:World}
theorem fV (op:BinOp) (t:TypeId) (x y:Operand) (a b:Value) (h:(∃k n,a= .int k n)∨(∃c,a= .bool c)∨(∃s,a= .string s)):(eqGuard op t x y a b).run P w= .ok () w:=by
 rcases h with⟨k,n,rfl⟩|⟨c,rfl⟩|⟨s,rfl⟩<;>(unfold eqGuard;cases op<;>simp)
theorem lD (op:BinOp) (t:TypeId) (x y:Operand) (A:Option Addr) (l c:Nat) (b:Value):(eqGuard op t x y (.slice A l c) b).run P w= .ok () w:=by
 unfold eqGuard
 cases op<;>simp
theorem Bc (a b:ByteArray):(a.toList==b.toList)=decide (a=b):=by
 rw[Bool.eq_iff_iff]
 simp only[beq_iff_eq,zI]
 refine⟨fun h=>?_,fun h=>by rw[h]⟩
 rw[ByteArray.toList_eq,ByteArray.toList_eq]at h
 obtain⟨⟨x⟩⟩:=a
 obtain⟨⟨y⟩⟩:=b
 simp at h
 simp[h]
theorem I3 {op:BinOp} {k:IntKind} {a b:Int} {x:AV} (t:TypeId) (h:nM op k a b=some x):∃v,(binOp op t (.int k a) (.int k b)).run P w= .ok v w∧x= .sc v:=by
 unfold nM at h
 cases op<;>simp only[zB,reduceCtorEq]at h<;>first
  |(subst h;refine⟨_,?_,rfl⟩;simp[binOp,Op.intArith,Op.intCmp];done)
  |(split at h<;>simp only[zB,reduceCtorEq]at h;subst h;refine⟨_,?_,rfl⟩;simp[binOp,Op.intDiv, *];done)
  |(split at h<;>simp only[zB,reduceCtorEq]at h;rename_i hc;subst h;refine⟨_,?_,rfl⟩;simp[binOp,shift_shr _ _ _ _ hc.1 hc.2];done)
  |(subst h;refine⟨_,?_,rfl⟩;simp only[binOp,Op.intCmp,if_false,ne_eq,not_true_eq_false,Sem.run_pure];rfl)
end
theorem KG {w:World} {ρ:aW} {H:ah} {ok:Nat→Prop}:∀{as0:List AV} {vs:List Value},scs as0=some vs→as0=vs.map .sc
 |[],vs,h=>by simp[scs]at h;subst h;rfl
 | .sc v::as0,vs,h=>by
  simp only[scs]at h
  split at h
  ·rename_i us hu
   simp only[zB]at h
   subst h
   rw[KG (w:=w) (ρ:=ρ) (H:=H) (ok:=ok) hu]
   rfl
  ·cases h
 | .junk::_,_,h| .agg _::_,_,h| .tup _::_,_,h| .nil::_,_,h| .list _ _::_,_,h| .ref _ _ _::_,_,h| .sref _ _ _::_,_,h| .iref _::_,_,h| .fn _ _::_,_,h| .imap _::_,_,h| .mref _::_,_,h| .miter _::_,_,h| .full _ _ _ _::_,_,h=>by simp[scs]at h
end
open Go.RowKit
def apart (P:Program) (t:TypeId) (cs:List AV) (off:Nat):Option AV:=
 if (P.underlying t).isSome&&aE P t then
  (if cF P t then (if off+ay P t≤cs.length then some (.agg ((cs.drop off).take (ay P t)))else none)else cs[off]?)
 else none
def bQ (P:Program) (t:TypeId) (H:ah) (x:AV) (n:Int):Option AV:=
 match aT P t,dG P t with
 |some e,_=>match x with
  | .list k es=>if k=ay P e∧aE P e∧0≤n then (es[n.toNat]?).map .iref else none
  | .sref id lo m=>match H[id]? with
   |some (some o)=>if o.k=ay P e∧aE P e∧0≤n∧n<m then some (.ref id (lo+n.toNat) 0)else none
   |_=>none
  |_=>none
 |none,some (len,e)=>if aE P e∧0≤n∧n<len then match x with
   | .ref id i j=>if (aO H (.ref id i j)).isSome then some (.ref id i (j+n.toNat*ay P e))else none
   | .iref cs=>some (.iref (cs.drop (n.toNat*ay P e)))
   |_=>none
  else none
 |none,none=>none
def lu (H:ah):AV→Option Int
 | .nil=>some 0
 | .list _ es=>some es.length
 | .sref id _ n=>match H[id]? with
  |some (some _)=>some n
  |_=>none
 | .full id _ n _=>match H[id]? with
  |some (some _)=>some n
  |_=>none
 |_=>none
def Ec (H:ah):AV→Option Int
 | .full id lo _ N=>match H[id]? with
  |some (some _)=>some ((N-lo:Nat):Int)
  |_=>none
 |_=>none
def cX (k:IntKind):Int→List AV→Option AV
 |a,[]=>some (.sc (.int k a))
 |a,.sc (.int k' b)::r=>if k=k' then cX k (max a b) r else none
 |_,_=>none
def jV (k:IntKind):Int→List AV→Option AV
 |a,[]=>some (.sc (.int k a))
 |a,.sc (.int k' b)::r=>if k=k' then jV k (min a b) r else none
 |_,_=>none
def mO:List AV→Option AV
 | .sc (.int k a)::r=>cX k a r
 |_=>none
def LB:List AV→Option AV
 | .sc (.int k a)::r=>jV k a r
 |_=>none
def dL (ev:Operand→AV) (d:Int):Option Operand→Option Int
 |none=>some d
 |some x=>match ev x with
  | .sc (.int _ n)=>some n
  |_=>none
def dD (P:Program) (t:TypeId) (H:ah) (x:AV) (lo hi:Option Int):Option AV:=
 match aT P t with
 |none=>none
 |some e=>if aE P e=false then none else
  match x with
  | .nil=>if lo.getD 0=0∧hi.getD 0=0 then some .nil else none
  | .list k es=>
   let l:=lo.getD 0
   let h:=hi.getD es.length
   if k=ay P e∧0≤l∧l≤h∧h≤es.length then some (.list k ((es.take h.toNat).drop l.toNat))else none
  | .sref id b n=>
   match H[id]? with
   |some (some o)=>
    let l:=lo.getD 0
    let h:=hi.getD n
    if o.k=ay P e∧0≤l∧l≤h∧h≤n then
     (if b=0∧l=0 then some (.sref id 0 h.toNat)else if l=h then some (.list o.k [])else some (.sref id (b+l.toNat) (h-l).toNat))
    else none
   |_=>none
  | .full id b n N=>
   match H[id]? with
   |some (some o)=>
    let l:=lo.getD 0
    let h:=hi.getD n
    if o.k=ay P e∧0≤l∧l≤h∧h≤((N-b:Nat):Int)then
     (if b=0∧l=0 then some (.full id 0 h.toNat N)else if l=h then some (.list o.k [])else some (.full id (b+l.toNat) (h-l).toNat N))
    else none
   |_=>none
  |_=>none
def ql (P:Program) (t:TypeId) (H:ah) (x lo hi mx:AV):Option AV:=
 match x with
 | .full id _ n _=>match aT P t,H[id]?,lo,hi,mx with
  |some e,some (some _),.sc (.int _ l),.sc (.int _ h),.sc (.int _ m)=>if aE P e=true∧0≤l∧l≤h∧h≤m∧m≤(n:Int)then some .junk else none
  |_,_,_,_,_=>none
 |_=>none
def Fb (x a b:AV):Option AV:=match x with
 | .sc (.bool t)=>some (if t then a else b)
 |_=>none
def GV (H:ah):AV→Option AV
 | .fn f cs=>some (.fn f cs)
 | .sc (.pointer (some a))=>some (.sc (.pointer (some a)))
 |y=>if (aO H y).isSome then some y else none
def aun (op:UnOp) (x:AV):Option AV:=match op,x with
 | .not,.sc (.bool b)=>some (.sc (.bool (!b)))
 | .neg,.sc (.int k n)=>some (.sc (.int k (k.wrap (0-n))))
 |_,_=>none
def xz (P:Program) (src dst:TypeId) (x:AV):Option AV:=match P.underlying src,P.underlying dst,x with
 |some _,some (.int k),.sc (.int _ n)=>some (.sc (.int k (k.wrap n)))
 |some .string,some .string,.sc (.string s)=>some (.sc (.string s))
 |_,_,_=>none
def BP (P:Program) (H:ah) (s:TypeId) (f:Nat) (x:AV):Option AV:=match au P s f with
 |none=>none
 |some (off,_)=>match x with
  | .ref id i j=>if (aO H (.ref id i j)).isSome then some (.ref id i (j+off))else none
  | .iref cs=>some (.iref (cs.drop off))
  |_=>none
def yU (P:Program) (s:TypeId) (f:Nat) (x:AV):Option AV:=match au P s f,x with
 |some (off,ft),.agg cs=>apart P ft cs off
 |_,_=>none
def y8 (P:Program) (t:TypeId) (H:ah) (x ix:AV):Option AV:=match ix with
 | .sc (.int _ n)=>bQ P t H x n
 |_=>none
def HP (P:Program) (t:TypeId) (x ix:AV):Option AV:=match ix with
 | .sc (.int _ n)=>match x with
  | .agg cs=>match dG P t with
   |some (len,e)=>if aE P e=true∧0≤n∧n<len then apart P e cs (n.toNat*ay P e)else none
   |none=>none
  | .sc (.string s)=>match P.underlying t with
   |some .string=>if 0≤n then (s[n.toNat]?).map fun b=> .sc (.int .u8 b.toNat)else none
   |_=>none
  |_=>none
 |_=>none
def kN (x:AV) (i:Nat):Option AV:=match x with
 | .tup vs=>vs[i]?
 |_=>none
def bL (P:Program) (t:TypeId) (H:ah) (x:AV) (lo hi:Option Operand) (ev:Operand→AV):Option AV:=match x with
 | .sc (.string s)=>match P.underlying t,dL ev 0 lo,dL ev s.size hi with
  |some .string,some l,some h=>if 0≤l∧l≤h∧h≤s.size then some (.sc (.string (s.extract l.toNat h.toNat)))else none
  |_,_,_=>none
 |y=>match lo.isSome,dL ev 0 lo,hi.isSome,dL ev 0 hi with
  |bl,some l,bh,some h=>dD P t H y (if bl then some l else none) (if bh then some h else none)
  |_,_,_,_=>none
def BF (P:Program) (t:TypeId) (H:ah) (x:AV):Option AV:=match P.underlying t,x with
 |some (.slice _),y=>(lu H y).map fun n=> .sc (.int .i64 n)
 |some .string,.sc (.string s)=>some (.sc (.int .i64 s.size))
 |_,_=>none
def y6 (P:Program) (t:TypeId) (H:ah) (x:AV):Option AV:=match P.underlying t with
 |some (.slice _)=>(Ec H x).map fun n=> .sc (.int .i64 n)
 |_=>none
def pr:List (List AV)→Option (List (Value×AV))
 |[]=>some []
 |[.sc k,a]::r=>(pr r).map ((k,a)::·)
 |_=>none
def ents (H:ah):AV→Option (List (Value×AV))
 | .imap es=>some (es.map fun e=>(e.1,.sc e.2))
 | .mref id=>match H[id]? with
  |some (some o)=>pr o.es
  |_=>none
 |_=>none
def sq (d:TypeDesc) (k:Value):List (Value×AV)→Option (Option AV)
 |[]=>some none
 |e::es=>match Instr.sameNow d k e.1 with
  |some true=>some (some e.2)
  |some false=>sq d k es
  |none=>none
def n9:TypeDesc→Value→Bool
 | .bool,.bool _=>true
 | .int k,.int k' _=>decide (k'=k)
 | .string,.string _=>true
 |_,_=>false
def oo (P:Program) (t:TypeId):Option (TypeId×TypeDesc×TypeId):=match P.underlying t with
 |some (.map kt et)=>(P.underlying kt).map fun d=>(kt,d,et)
 |_=>none
def rV (P:Program) (t:TypeId):Option AV:=match (P.info? t).bind (·.zero)with
 |some z=>some (nC z)
 |none=>none
def oW (P:Program) (kt:TypeId):Option (List Kd):=match P.underlying kt with
 |some (.struct fs)=>match gQ P 0 fs.toList with
  |some ks=>if (lO P kt).isSome∧ks.all (fun k=>match k with| .int=>true|_=>false)then some ks else none
  |none=>none
 |_=>none
def CZ (ks:List Kd) (cs:List AV):Option (List Value):=match scs cs with
 |some vs=>if vs.length=ks.length∧vs.all (fun v=>match v with| .int _ _=>true|_=>false)then some vs else none
 |none=>none
def uJ (ks:List Kd) (vs:List Value):List (Value×AV)→Option (Option AV)
 |[]=>some none
 |e::es=>match e.1 with
  | .agg us=>match cS ks vs us.toList with
   |some true=>some (some e.2)
   |some false=>uJ ks vs es
   |none=>none
  |_=>none
def lkR (P:Program) (et:TypeId) (ok:Bool) (r:Option (Option AV)):Option AV:=match r with
 |some (some a)=>some (if ok then .tup [a,.sc (.bool true)]else a)
 |some none=>(rV P et).map fun z=>if ok then .tup [z,.sc (.bool false)]else z
 |none=>none
def iK (P:Program) (t:TypeId) (H:ah) (x k:AV) (ok:Bool):Option AV:=match oo P t,k,ents H x with
 |some (_,d,et),.sc kv,some es=>if n9 d kv then lkR P et ok (sq d kv es)else none
 |some (kt,_,et),.agg cs,some es=>match oW P kt with
  |some ks=>match CZ ks cs with
   |some vs=>lkR P et ok (uJ ks vs es)
   |none=>none
  |none=>none
 |_,_,_=>none
def ug (H:ah) (x:AV):Option AV:=match x with
 | .miter id=>match H[id]? with
  |some (some o)=>match o.es with
   |[[.sc k,.sc v,_]]=>some (.tup [.sc k,.sc v])
   |_=>none
  |_=>none
 |_=>none
def fY (P:Program) (op:Op) (ev:Operand→AV) (H:ah):Option AV:=
 match op with
 | .move x| .assign x=>some (ev x)
 | .pick c a b=>Fb (ev c) (ev a) (ev b)
 | .load t a=>(aO H (ev a)).bind (xm P t)
 | .nilCheck x=>GV H (ev x)
 | .binOp op t x y _=>jX P op t (ev x) (ev y)
 | .unOp op _ x=>aun op (ev x)
 | .convert src dst x=>xz P src dst (ev x)
 | .fieldAddr s x f=>BP P H s f (ev x)
 | .field s x f=>yU P s f (ev x)
 | .indexAddr t x ix=>y8 P t H (ev x) (ev ix)
 | .index t x ix=>HP P t (ev x) (ev ix)
 | .extract x i=>kN (ev x) i
 | .lookup t x k ok=>iK P t H (ev x) (ev k) ok
 | .entry it=>ug H (ev it)
 | .makeFunc (.func f) first caps=>if first.size=0 then some (.fn f (caps.toList.map ev))else none
 | .slice t x lo hi none=>bL P t H (ev x) lo hi ev
 | .slice t x (some lo) (some hi) (some mx)=>ql P t H (ev x) (ev lo) (ev hi) (ev mx)
 | .call c=>match c.callee with
  | .builtin .len=>match c.args.toList,c.argTypes.toList with
   |[x],[t]=>BF P t H (ev x)
   |_,_=>none
  | .builtin .cap=>match c.args.toList,c.argTypes.toList with
   |[x],[t]=>y6 P t H (ev x)
   |_,_=>none
  | .builtin .max=>mO (c.args.toList.map ev)
  | .builtin .min=>LB (c.args.toList.map ev)
  |_=>none
 |_=>none
section
variable {E:Env} {w:World} {ρ:aW} {H:ah} {ok:Nat→Prop}
theorem cM {v u:Value} (h:Rep w ρ H ok v (.sc u)):v=u:=by cases h;rfl
theorem nw {id i j:Nat} {v:Value} {as0:List AV} (h:Rep w ρ H ok v (.ref id i j)) (hl:aO H (.ref id i j)=some as0):
  ∃o b cap,H[id]?=some (some o)∧ρ id=some (b,cap)∧cap≤maxLen∧v= .pointer (some ⟨b,i*o.k+j,none⟩):=by
 cases h with
 |ref ho hρ hcap=>exact⟨_,_,_,ho,hρ,hcap,rfl⟩
 |refDead hd _=>simp[aO,hd]at hl
theorem mG {P:Program} {s:TypeId} {f off:Nat} {ft:TypeId} (h:au P s f=some (off,ft)):
  ∃fs x,P.underlying s=some (.struct fs)∧fs[f]?=some x∧x.offset=off∧x.type=ft∧ay P ft≠0∧aE P ft=true:=by
 unfold au at h
 split at h
 ·rename_i fs hs
  rw[vK]at h
  obtain⟨x,hx,h⟩:=h
  split at h
  ·cases h
  ·rename_i hz
   simp only[zB,Prod.mk.injEq]at h
   obtain⟨rfl,rfl⟩:=h
   refine⟨fs,x,hs,hx,rfl,rfl,hz,?_⟩
   unfold aE
   cases hi:P.info? x.type with
   |none=>simp[ay,hi]at hz
   |some i=>rfl
 ·cases h
theorem xf {P:Program} {s:TypeId} {f off:Nat} {ft:TypeId} (h:au P s f=some (off,ft)) (ad:Addr) (w:World):
  (Instr.fieldAt s (.pointer (some ad)) f).run P w= .ok (.pointer (some (ad.add off))) w:=by
 obtain⟨fs,x,hs,hx,rfl,rfl,hz,hk⟩:=mG h
 simp[Instr.fieldAt,run_underlying hs,hx,Instr.sureAddr,fieldPlace,bB hk,hz]
theorem xE {P:Program} {t:TypeId} {cs:Array Value} {as0:List AV} {off:Nat} {x:AV} (hn:cs.size=as0.length)
  (hc:∀(i:Nat) (c:Value) (a:AV),cs[i]?=some c→as0[i]?=some a→Rep w ρ H ok c a) (h:apart P t as0 off=some x):
  ∃v,(part t cs off).run P w= .ok v w∧Rep w ρ H ok v x:=by
 unfold apart at h
 split at h
 ·rename_i hk
  simp only[zG]at hk
  obtain⟨d,hd⟩:=wU.1 hk.1
  split at h
  ·rename_i hag
   split at h
   ·rename_i hle
    simp only[zB]at h
    subst h
    refine⟨.agg (cs.extract off (off+ay P t)),?_,.agg ?_ (fun i c a hi ha=>?_)⟩
    ·simp[part,fX hd,hag,bB hk.2]
    ·simp;omega
    ·rw[vE]at ha
     split at ha
     ·rw[uG]at ha
      rw[Array.getElem?_extract]at hi
      split at hi
      ·exact hc _ _ _ hi ha
      ·cases hi
     ·cases ha
   ·cases h
  ·rename_i hag
   have hlt:off<as0.length:=(gsI h)
   have hv:cs[off]?=some (cs[off]'(by omega)):=zX (by omega)
   refine⟨cs[off]'(by omega),?_,hc _ _ _ hv h⟩
   simp[part,fX hd,hag,hv]
 ·cases h
theorem bA {P:Program} {t e:TypeId} (h:aT P t=some e):P.underlying t=some (.slice e):=by
 unfold aT at h
 split at h
 ·rename_i e' he
  simp only[zB]at h
  subst h;exact he
 ·cases h
theorem xS {P:Program} {t e:TypeId} {n:Nat} (h:dG P t=some (n,e)):P.underlying t=some (.array n e):=by
 unfold dG at h
 split at h
 ·rename_i n' e' he
  simp only[zB,Prod.mk.injEq]at h
  obtain⟨rfl,rfl⟩:=h;exact he
 ·cases h
theorem J4 {ad:Addr} {k:Nat} {es:List (List AV)} {f:Nat→Nat→Value} (hok:ok ad.block)
  (hc:∀(i:Nat) (e:List AV) (j:Nat) (a:AV),es[i]?=some e→e[j]?=some a→w.cell? (ad.add (i*k+j))=some (f i j))
  (h1:∀(i:Nat) (e:List AV) (j:Nat) (a:AV),es[i]?=some e→e[j]?=some a→(f i j).oneCell'=true)
  (h:∀(i:Nat) (e:List AV) (j:Nat) (a:AV),es[i]?=some e→e[j]?=some a→Rep w ρ H ok (f i j) a) {i:Nat} {e:List AV} (he:es[i]?=some e):
  Rep w ρ H ok (.pointer (some (ad.add (i*k)))) (.iref e):=by
 refine .iref (f i) (by rw[fq];exact hok) (fun j a hj=>?_) (fun j a hj=>h1 i e j a he hj) (fun j a hj=>h i e j a he hj)
 rw[tC]
 exact hc i e j a he hj
theorem qV {v:Value} {cs:List AV} (h:Rep w ρ H ok v (.iref cs)) (off:Nat):∃ad,v= .pointer (some ad)∧Rep w ρ H ok (.pointer (some (ad.add off))) (.iref (cs.drop off)):=by
 cases h with
 |iref f hok hc h1 h=>
  refine⟨_,rfl,.iref (fun j=>f (off+j)) (by rw[fq];exact hok) (fun j a hj=>?_) (fun j a hj=>?_) (fun j a hj=>?_)⟩<;>rw[uG]at hj
  ·rw[tC];exact hc _ _ hj
  ·exact h1 _ _ hj
  ·exact h _ _ hj
theorem xM {v:Value} {id i j off:Nat} {as0:List AV} (h:Rep w ρ H ok v (.ref id i j)) (hl:aO H (.ref id i j)=some as0):
  ∃ad,v= .pointer (some ad)∧Rep w ρ H ok (.pointer (some (ad.add off))) (.ref id i (j+off)):=by
 obtain⟨o,b,cap,ho,hρ,hcap,rfl⟩:=nw h hl
 refine⟨_,rfl,?_⟩
 rw[kU,uD]
 exact .ref ho hρ hcap
theorem ph {P:Program} {t e:TypeId} (he:P.underlying t=some (.slice e)) (hk:aE P e=true) (ad:Addr) (n c:Nat) (k:IntKind) (i:Int) (h0:0≤i) (h1:i<n) (w:World):
  (Instr.indexAt t (.slice (some ad) n c) (.int k i)).run P w= .ok (.pointer (some (ad.add (i.toNat*ay P e)))) w:=by
 simp[Instr.indexAt,run_underlying he,asIntOf,h0,h1,bB hk]
theorem EM {P:Program} {t e:TypeId} {n:Nat} (he:P.underlying t=some (.array n e)) (hk:aE P e=true) (ad:Addr) (k:IntKind) (i:Int) (h0:0≤i) (h1:i<n) (w:World):
  (Instr.indexAt t (.pointer (some ad)) (.int k i)).run P w= .ok (.pointer (some (ad.add (i.toNat*ay P e)))) w:=by
 simp[Instr.indexAt,run_underlying he,asIntOf,h0,h1,Instr.sureAddr,bB hk]
theorem uu {t:TypeId} {v:Value} {x y:AV} {k:IntKind} {n:Int} (hx:Rep w ρ H ok v x) (h:bQ E.P t H x n=some y):
  ∃u,(Instr.indexAt t v (.int k n)).run E.P w= .ok u w∧Rep w ρ H ok u y:=by
 unfold bQ at h
 split at h
 ·rename_i e he
  have he:=bA he
  split at h
  ·rename_i k' es
   split at h
   ·rename_i hc
    obtain⟨rfl,hk,h0⟩:=hc
    rw[zL]at h
    obtain⟨el,hel,rfl⟩:=h
    have hlt:n.toNat<es.length:=(gsI hel)
    cases hx with
    |listNil=>simp at hlt
    |list f hn hnc hok hkk hcell h1 hr=>
     exact⟨_,ph he hk _ _ _ k n h0 (by omega) w,J4 hok hcell h1 hr hel⟩
   ·cases h
  ·rename_i id lo m
   split at h
   ·rename_i o ho
    split at h
    ·rename_i hc
     obtain⟨hk',hk,h0,hm⟩:=hc
     simp only[zB]at h
     subst h
     cases hx with
     |srefDead hd _=>rw[ho]at hd;cases hd
     |srefNil _ _=>omega
     |sref ho' hρ hn hcc hnc hcap=>
      rw[ho]at ho'
      simp only[zB]at ho'
      subst ho'
      refine⟨_,?_,.ref ho hρ hcap⟩
      rw[ph he hk _ _ _ k n h0 hm w,kU,←hk',Nat.add_zero,Nat.add_mul]
    ·cases h
   ·cases h
  ·cases h
 ·rename_i len e _ he
  have he:=xS he
  split at h
  ·rename_i hc
   obtain⟨hk,h0,hlt⟩:=hc
   have hrun:=fun ad=>EM he hk ad k n h0 hlt w
   split at h
   ·rename_i id i j
    split at h
    ·rename_i hs
     obtain⟨as0,has⟩:=wU.1 hs
     simp only[zB]at h
     subst h
     obtain⟨ad,rfl,hr⟩:=xM hx has
     exact⟨_,hrun ad,hr⟩
    ·cases h
   ·simp only[zB]at h
    subst h
    obtain⟨ad,rfl,hr⟩:=qV hx (n.toNat*ay E.P e)
    exact⟨_,hrun ad,hr⟩
   ·cases h
  ·cases h
 ·cases h
theorem kr {P:Program} {t e:TypeId} (he:P.underlying t=some (.slice e)) (hk:aE P e=true) (A:Option Addr) (n c l h:Nat) (lo hi:Option Value)
  (hlo:lo=none∧l=0∨∃k,lo=some (.int k l)) (hhi:hi=none∧h=n∨∃k,hi=some (.int k h)) (hlh:l≤h) (hhc:h≤c) (w:World):
  (Instr.sliceAt t (.slice A n c) lo hi none).run P w= .ok (.slice (if c=l then A else A.map (·.add (l*ay P e))) (h-l) (c-l)) w:=by
 have e1:((l:Int)).toNat=l:=rfl
 have e2:((h:Int)).toNat=h:=rfl
 have h3:(l:Int)≤h:=by omega
 have h4:(h:Int)≤c:=by omega
 have h5:(0:Int)≤(l:Int):=by omega
 have h6:(0:Int)≤(h:Int):=by omega
 rcases hlo with⟨rfl,rfl⟩|⟨k1,rfl⟩<;>rcases hhi with⟨rfl,rfl⟩|⟨k2,rfl⟩<;>
  simp[Instr.sliceAt,Instr.slice,run_underlying he,Instr.sliceBounds,Instr.sliceBound,asIntOf,bB hk, *]
theorem EC {t:TypeId} {v:Value} {x y:AV} {lo hi:Option Int} {vlo vhi:Option Value} (hx:Rep w ρ H ok v x)
  (hlo:vlo=none∧lo=none∨∃k l,vlo=some (.int k l)∧lo=some l) (hhi:vhi=none∧hi=none∨∃k l,vhi=some (.int k l)∧hi=some l)
  (h:dD E.P t H x lo hi=some y):∃u,(Instr.sliceAt t v vlo vhi none).run E.P w= .ok u w∧Rep w ρ H ok u y:=by
 have conv:∀{o:Option Int} {vo:Option Value} (d:Nat),(vo=none∧o=none∨∃k l,vo=some (.int k l)∧o=some l)→0≤o.getD d→
   (vo=none∧(o.getD d).toNat=d∨∃k,vo=some (.int k (((o.getD d).toNat:Nat):Int))):=by
  intro o vo d ho h0
  rcases ho with⟨rfl,rfl⟩|⟨k,l,rfl,rfl⟩
  ·exact .inl ⟨rfl,rfl⟩
  ·refine .inr ⟨k,?_⟩
   simp only[Option.getD_some]at h0⊢
   rw[Int.toNat_of_nonneg h0]
 unfold dD at h
 split at h
 ·cases h
 ·rename_i e he
  have he:=bA he
  split at h
  ·cases h
  ·rename_i hk
   simp only[Bool.not_eq_false]at hk
   split at h
   ·split at h
    ·rename_i hc
     simp only[zB]at h
     subst h
     cases hx
     refine⟨_,kr he hk none 0 0 0 0 vlo vhi ?_ ?_ (zZ _) (zZ _) w,by simpa using Rep.nil⟩
     ·have:=conv 0 hlo (by simp[hc.1])
      simpa[hc.1]using this
     ·have:=conv 0 hhi (by simp[hc.2])
      simpa[hc.2]using this
    ·cases h
   ·rename_i k es
    simp only[]at h
    split at h
    ·rename_i hc
     obtain⟨rfl,h0,hlh,hhn⟩:=hc
     simp only[zB]at h
     subst h
     have hl:=conv 0 hlo (by simpa using h0)
     have hh:=conv es.length hhi (by omega)
     simp only[Int.natCast_zero]at hl
     generalize hL:(lo.getD 0).toNat=L at*
     generalize hU:(hi.getD (es.length:Int)).toNat=U at*
     have hLU:L≤U:=by omega
     have hUn:U≤es.length:=by omega
     have hlen:((es.take U).drop L).length=U-L:=by simp;omega
     cases hx with
     |@listNil A c k=>
      simp only[List.length_nil,Nat.le_zero]at hUn
      subst hUn
      have:L=0:=by omega
      subst this
      exact⟨_,kr he hk A 0 c 0 0 vlo vhi hl hh (zZ _) (Nat.zero_le _) w,by simpa using Rep.listNil⟩
     |@list ad n c k es f hn hnc hok hkk hcell h1 hr=>
      subst hn
      refine⟨_,kr he hk (some ad) es.length c L U vlo vhi hl hh hLU (by omega) w,?_⟩
      by_cases hz:U-L=0
      ·have:(es.take U).drop L=[]:=wF (by omega)
       rw[this,hz]
       exact .listNil
      ·rw[if_neg (by omega)]
       refine .list (fun i j=>f (L+i) j) hlen (by omega) (by rw[fq];exact hok) (fun e' he'=>hkk e' (wV (uB he'))) (fun i e' j a hi hj=>?_) (fun i e' j a hi hj=>?_) (fun i e' j a hi hj=>?_)
       all_goals
        rw[uG,vE]at hi
        split at hi
        case isFalse=>cases hi
       ·rw[tC,show L*ay E.P e+(i*ay E.P e+j)=(L+i)*ay E.P e+j from by rw[Nat.add_mul,uD]]
        exact hcell _ _ _ _ hi hj
       ·exact h1 _ _ _ _ hi hj
       ·exact hr _ _ _ _ hi hj
    ·cases h
   ·rename_i id b n
    split at h
    ·rename_i o ho
     simp only[]at h
     split at h
     ·rename_i hc
      obtain⟨hk',h0,hlh,hhn⟩:=hc
      have hl:=conv 0 hlo (by simpa using h0)
      have hh:=conv n hhi (by omega)
      simp only[Int.natCast_zero]at hl
      generalize hL:(lo.getD 0).toNat=L at*
      generalize hU:(hi.getD (n:Int)).toNat=U at*
      have hLU:L≤U:=by omega
      have hUn:U≤n:=by omega
      cases hx with
      |srefDead hd _=>rw[ho]at hd;cases hd
      |srefNil ho' hρ=>
       have hU0:U=0:=by omega
       have hL0:L=0:=by omega
       subst hU0;subst hL0
       refine⟨_,kr he hk none 0 0 0 0 vlo vhi hl hh (zZ _) (zZ _) w,?_⟩
       rw[if_pos ⟨rfl,by omega⟩]at h
       simp only[zB]at h
       subst h
       exact .srefNil ho' hρ
      |@sref _ _ _ c o' blk cap ho' hρ hn hcc hnc hcap=>
       rw[ho]at ho'
       simp only[zB]at ho'
       subst ho'
       refine⟨_,kr he hk (some ⟨blk,b*o.k,none⟩) n c L U vlo vhi hl hh hLU (by omega) w,?_⟩
       split at h
       ·rename_i hb
        obtain⟨rfl,hl0⟩:=hb
        have hL0:L=0:=by omega
        subst hL0
        simp only[zB]at h
        subst h
        have e1:(if c=0 then some (⟨blk,0*o.k,none⟩:Addr)else (some (⟨blk,0*o.k,none⟩:Addr)).map (·.add (0*ay E.P e)))=some ⟨blk,0*o.k,none⟩:=by
         split
         ·rfl
         ·simp[Addr.add]
        rw[e1]
        exact .sref ho hρ (by omega) (fun _=>by have:=hcc rfl;omega) (by omega) hcap
       ·rename_i hb
        split at h
        ·rename_i hle
         simp only[zB]at h
         subst h
         have:U-L=0:=by omega
         rw[this]
         exact .listNil
        ·rename_i hle
         simp only[zB]at h
         subst h
         have hlt:L<U:=by omega
         rw[if_neg (by omega)]
         have e2:(hi.getD (n:Int)-lo.getD 0).toNat=U-L:=by omega
         rw[e2,vI,kU,←hk',←Nat.add_mul]
         exact .sref ho hρ (by omega) (fun hz=>absurd ⟨by omega,by omega⟩ hb) (by omega) hcap
     ·cases h
    ·cases h
   ·rename_i id b n N
    split at h
    ·rename_i o ho
     simp only[]at h
     split at h
     ·rename_i hc
      obtain⟨hk',h0,hlh,hhn⟩:=hc
      have hl:=conv 0 hlo (by simpa using h0)
      have hh:=conv n hhi (by omega)
      simp only[Int.natCast_zero]at hl
      generalize hL:(lo.getD 0).toNat=L at*
      generalize hU:(hi.getD (n:Int)).toNat=U at*
      have hLU:L≤U:=by omega
      have hUn:U≤N-b:=by omega
      cases hx with
      |fullDead hd _=>rw[ho]at hd;cases hd
      |@full _ _ _ _ o' blk ho' hρ hn hN=>
       rw[ho]at ho'
       simp only[zB]at ho'
       subst ho'
       refine⟨_,kr he hk (some ⟨blk,b*o.k,none⟩) n (N-b) L U vlo vhi hl hh hLU (by omega) w,?_⟩
       split at h
       ·rename_i hb
        obtain⟨rfl,hl0⟩:=hb
        have hL0:L=0:=by omega
        subst hL0
        simp only[zB]at h
        subst h
        have e1:(if N-0=0 then some (⟨blk,0*o.k,none⟩:Addr)else (some (⟨blk,0*o.k,none⟩:Addr)).map (·.add (0*ay E.P e)))=some ⟨blk,0*o.k,none⟩:=by
         split
         ·rfl
         ·simp[Addr.add]
        rw[e1]
        exact .full ho hρ (by omega) hN
       ·rename_i hb
        split at h
        ·rename_i hle
         simp only[zB]at h
         subst h
         have:U-L=0:=by omega
         rw[this]
         exact .listNil
        ·rename_i hle
         simp only[zB]at h
         subst h
         have hlt:L<U:=by omega
         rw[if_neg (by omega)]
         have e2:(hi.getD (n:Int)-lo.getD 0).toNat=U-L:=by omega
         rw[e2,vI,kU,←hk',←Nat.add_mul,show N-b-L=N-(b+L)from by omega]
         exact .full ho hρ (by omega) hN
     ·cases h
    ·cases h
   ·cases h
theorem Cg {t:TypeId} {v vl vh vm:Value} {x lo hi mx y:AV} (hx:Rep w ρ H ok v x) (hl:Rep w ρ H ok vl lo) (hh:Rep w ρ H ok vh hi) (hm:Rep w ρ H ok vm mx) (h:ql E.P t H x lo hi mx=some y):
  ∃u,(Instr.sliceAt t v (some vl) (some vh) (some vm)).run E.P w= .ok u w∧Rep w ρ H ok u y:=by
 unfold ql at h
 split at h
 ·rename_i id b n N
  split at h
  ·rename_i e o k1 l k2 hh' k3 m he ho
   split at h
   ·rename_i hc
    obtain⟨hk,h0,h1,h2,h3⟩:=hc
    simp only[zB]at h
    subst h
    have hl:=cM hl
    have hh:=cM hh
    have hm:=cM hm
    subst hl;subst hh;subst hm
    cases hx with
    |fullDead hd _=>rw[ho]at hd;cases hd
    |full ho' hρ hn hN=>
     have g1:m≤((N-b:Nat):Int):=by omega
     have g2:(0:Int)≤hh':=by omega
     have g3:(0:Int)≤m:=by omega
     have g4:l≤m:=by omega
     have g5:hh'≤max m 0:=by omega
     have g6:l≤max hh' 0:=by omega
     have key:∀A:Option Addr,∃u,(Instr.sliceAt t (.slice A n (N-b)) (some (.int k1 l)) (some (.int k2 hh')) (some (.int k3 m))).run E.P w= .ok u w:=fun A=>by
      simp[Instr.sliceAt,Instr.slice,run_underlying (bA he),Instr.sliceBounds,Instr.sliceBound,asIntOf,bB hk,h0,h1,h2,g1,g2,g3,g4,g5,g6]
     obtain⟨u,hu⟩:=key _
     exact⟨u,hu,.junk⟩
   ·cases h
  ·cases h
 ·cases h
theorem o8 {as0:List AV} {vs:List Value} (h:∀(i:Nat) (c:Value) (a:AV),vs[i]?=some c→as0[i]?=some a→Rep w ρ H ok c a) (hl:vs.length=as0.length) {us:List Value} (hu:scs as0=some us):vs=us:=by
 have e:=KG (w:=w) (ρ:=ρ) (H:=H) (ok:=ok) hu
 subst e
 apply List.ext_getElem?
 intro i
 by_cases hi:i<us.length
 ·have h1:us[i]?=some us[i]:=zF hi
  have h2:vs[i]?=some (vs[i]'(by simp at hl;omega)):=zF (by simp at hl;omega)
  have:=cM (h i _ (.sc us[i]) h2 (by simp[h1]))
  rw[h1,h2,this]
 ·simp at hl
  rw[List.getElem?_eq_none (by omega),List.getElem?_eq_none (by omega)]
theorem s7 {P:Program} {w:World} (d:Nat) (xs ys:Array Value):∀(fs:List Field) (i:Nat) (ks:List Kd) (vs us:List Value) (b:Bool),gQ P i fs=some ks→cS ks vs us=some b→
  (∀(j:Nat) (v:Value),vs[j]?=some v→xs[i+j]?=some v)→(∀(j:Nat) (v:Value),us[j]?=some v→ys[i+j]?=some v)→(Op.eqFields (d+1) xs ys fs).run P w= .ok b w
 |[],i,ks,vs,us,b,hk,hb,hx,hy=>by
  simp only[gQ,zB]at hk
  subst hk
  match vs,us,hb with
  |[],[],hb=>simp only[cS,zB]at hb;subst hb;rfl
 |f::fs,i,ks,vs,us,b,hk,hb,hx,hy=>by
  simp only[gQ]at hk
  split at hk
  ·rename_i hf
   split at hk
   ·rename_i k ks' hkd hks
    simp only[zB]at hk
    subst hk
    match vs,us,hb with
    |v::vs,u::us,hb=>
     simp only[cS]at hb
     split at hb
     ·rename_i b1 b2 hb1 hb2
      simp only[zB]at hb
      have hv:=hx 0 v rfl
      have hu:=hy 0 u rfl
      rw[Nat.add_zero]at hv hu
      have ih:=s7 (P:=P) (w:=w) d xs ys fs (i+1) ks' vs us b2 hks hb2 (fun j v h=>by rw[uD,Nat.add_comm 1 j];exact hx (j+1) v h) (fun j v h=>by rw[uD,Nat.add_comm 1 j];exact hy (j+1) v h)
      have part_run:∀(cs:Array Value) (c:Value),cs[i]?=some c→(part f.type cs f.offset).run P w= .ok c w:=fun cs c hc=>by
       rw[hf.2]
       unfold yl at hkd
       cases hu:P.underlying f.type with
       |none=>rw[hu]at hkd;cases hkd
       |some dsc=>
        have hag:cF P f.type=false:=by
         rw[hu]at hkd
         cases dsc<;>simp_all [cF]
        simp[part,fX hu,hag,hc]
      have eq_run:(Op.equalIn (d+1) f.type v u).run P w= .ok b1 w:=by
       unfold yl at hkd
       split at hkd
       ·rename_i k0 hu0
        simp only[zB]at hkd
        subst hkd
        unfold kJ at hb1
        split at hb1
        ·rename_i k1 a1 k2 a2 _
         split at hb1
         ·rename_i hkk
          subst hkk
          simp only[zB]at hb1
          subst hb1
          rw[run_equalIn_int w d f.type k1 k0 a1 a2 hu0]
          rfl
         ·cases hb1
        ·rename_i h1;cases h1
        ·rename_i h1;cases h1
        ·cases hb1
       ·rename_i hu0
        simp only[zB]at hkd
        subst hkd
        unfold kJ at hb1
        split at hb1
        ·rename_i h1;cases h1
        ·simp only[zB]at hb1
         subst hb1
         rw[run_equalIn_bool' w d f.type _ _ hu0]
         rfl
        ·rename_i h1;cases h1
        ·cases hb1
       ·rename_i hu0
        simp only[zB]at hkd
        subst hkd
        unfold kJ at hb1
        split at hb1
        ·rename_i h1;cases h1
        ·rename_i h1;cases h1
        ·simp only[zB]at hb1
         subst hb1
         rw[run_equalIn_string w d f.type _ _ hu0,Bc]
        ·cases hb1
       ·cases hkd
      simp only[Op.eqFields,if_pos hf.1,Sem.run_bind,part_run xs v hv,part_run ys u hu,Result.andThen_ok,eq_run,Sem.run_ite]
      subst hb
      cases b1
      ·simp
      ·simpa using ih
     ·cases hb
   ·cases hk
  ·cases hk
theorem xi {P:Program} {w:World} {t:TypeId} {k:Kd} (hkd:yl P t=some k) (cs:Array Value) (i:Nat) (c:Value) (hc:cs[i]?=some c):(part t cs i).run P w= .ok c w:=by
 unfold yl at hkd
 cases hu:P.underlying t with
 |none=>rw[hu]at hkd;cases hkd
 |some dsc=>
  have hag:cF P t=false:=by
   rw[hu]at hkd
   cases dsc<;>simp_all [cF]
  simp[part,fX hu,hag,hc]
theorem Li {P:Program} {w:World} (d:Nat) {t:TypeId} {k:Kd} {v u:Value} {b1:Bool} (hkd:yl P t=some k) (hb1:kJ k v u=some b1):(Op.equalIn (d+1) t v u).run P w= .ok b1 w:=by
 unfold yl at hkd
 split at hkd
 ·rename_i k0 hu0
  simp only[zB]at hkd
  subst hkd
  unfold kJ at hb1
  split at hb1
  ·rename_i k1 a1 k2 a2 _
   split at hb1
   ·rename_i hkk
    subst hkk
    simp only[zB]at hb1
    subst hb1
    rw[run_equalIn_int w d t k1 k0 a1 a2 hu0]
    rfl
   ·cases hb1
  ·rename_i h1;cases h1
  ·rename_i h1;cases h1
  ·cases hb1
 ·rename_i hu0
  simp only[zB]at hkd
  subst hkd
  unfold kJ at hb1
  split at hb1
  ·rename_i h1;cases h1
  ·simp only[zB]at hb1
   subst hb1
   rw[run_equalIn_bool' w d t _ _ hu0]
   rfl
  ·rename_i h1;cases h1
  ·cases hb1
 ·rename_i hu0
  simp only[zB]at hkd
  subst hkd
  unfold kJ at hb1
  split at hb1
  ·rename_i h1;cases h1
  ·rename_i h1;cases h1
  ·simp only[zB]at hb1
   subst hb1
   rw[run_equalIn_string w d t _ _ hu0,Bc]
  ·cases hb1
 ·cases hkd
theorem tM:∀(ks' ks:List Kd) (vs us:List Value) (b:Bool),cS (ks'++ks) vs us=some b→∃vs1 vs2 us1 us2 b1 b2,vs=vs1++vs2∧us=us1++us2∧vs1.length=ks'.length∧us1.length=ks'.length∧cS ks' vs1 us1=some b1∧cS ks vs2 us2=some b2∧b=(b1&&b2)
 |[],ks,vs,us,b,h=>⟨[],vs,[],us,true,b,rfl,rfl,rfl,rfl,rfl,h,by simp⟩
 |k::ks',ks,vs,us,b,h=>by
  match vs,us,h with
  |v::vs,u::us,h=>
   rw[vX]at h
   simp only[cS]at h
   split at h
   ·rename_i c1 c2 h1 h2
    simp only[zB]at h
    obtain⟨vs1,vs2,us1,us2,b1,b2,e1,e2,l1,l2,a1,a2,e⟩:=tM ks' ks vs us c2 h2
    refine⟨v::vs1,vs2,u::us1,us2,c1&&b1,b2,by rw[e1];rfl,by rw[e2];rfl,by simp[l1],by simp[l2],?_,a2,?_⟩
    ·simp only[cS,h1,a1]
    ·rw[←h,e,Bool.and_assoc]
   ·cases h
theorem nB {P:Program} {w:World} (d:Nat) (xs ys:Array Value):∀(fs:List Field) (i:Nat) (ks:List Kd) (vs us:List Value) (b:Bool),lJ P i fs=some ks→cS ks vs us=some b→
  (∀(j:Nat) (v:Value),vs[j]?=some v→xs[i+j]?=some v)→(∀(j:Nat) (v:Value),us[j]?=some v→ys[i+j]?=some v)→(Op.eqFields (d+2) xs ys fs).run P w= .ok b w
 |[],i,ks,vs,us,b,hk,hb,hx,hy=>by
  simp only[lJ,zB]at hk
  subst hk
  match vs,us,hb with
  |[],[],hb=>simp only[cS,zB]at hb;subst hb;rfl
 |f::fs,i,ks,vs,us,b,hk,hb,hx,hy=>by
  simp only[lJ]at hk
  split at hk
  ·rename_i hf
   split at hk
   ·rename_i k hkd
    split at hk
    ·rename_i ks' hks
     simp only[zB]at hk
     subst hk
     match vs,us,hb with
     |v::vs,u::us,hb=>
      simp only[cS]at hb
      split at hb
      ·rename_i b1 b2 hb1 hb2
       simp only[zB]at hb
       have hv:=hx 0 v rfl
       have hu:=hy 0 u rfl
       rw[Nat.add_zero,←hf.2]at hv hu
       have ih:=nB (P:=P) (w:=w) d xs ys fs (i+1) ks' vs us b2 hks hb2 (fun j v h=>by rw[uD,Nat.add_comm 1 j];exact hx (j+1) v h) (fun j v h=>by rw[uD,Nat.add_comm 1 j];exact hy (j+1) v h)
       simp only[Op.eqFields,if_pos hf.1,Sem.run_bind,xi hkd xs _ v hv,xi hkd ys _ u hu,Result.andThen_ok,Li (d+1) hkd hb1,Sem.run_ite]
       subst hb
       cases b1
       ·simp
       ·simpa using ih
      ·cases hb
    ·cases hk
   ·split at hk
    ·rename_i ks1 hin
     split at hk
     ·rename_i ks2 hks
      simp only[zB]at hk
      subst hk
      obtain⟨vs1,vs2,us1,us2,b1,b2,e1,e2,l1,l2,a1,a2,e⟩:=tM ks1 ks2 vs us b hb
      subst e1 e2
      have ih:=nB (P:=P) (w:=w) d xs ys fs (i+ks1.length) ks2 vs2 us2 b2 hks a2 (fun j v h=>by
       have:=hx (ks1.length+j) v (by rw[zN (by omega),l1];simpa using h)
       rwa[←uD]at this) (fun j v h=>by
       have:=hy (ks1.length+j) v (by rw[zN (by omega),l2];simpa using h)
       rwa[←uD]at this)
      unfold GC at hin
      split at hin
      ·rename_i hst
       split at hin
       ·rename_i gs hu
        split at hin
        ·rename_i ks0 hfl
         split at hin
         ·rename_i hsz
          simp only[zB]at hin
          subst hin
          have hag:cF P f.type=true:=by simp[cF,hu]
          have prt:∀(cs:Array Value),(part f.type cs f.offset).run P w= .ok (.agg (cs.extract i (i+ks0.length))) w:=fun cs=>by
           simp[part,fX hu,hag,bB hst.2,hsz,hf.2]
          have hfs:P.fieldsOf f.type=gs:=by simp[Program.fieldsOf,hu]
          have get:∀(cs:Array Value) (zs:List Value),zs.length=ks0.length→(∀(j:Nat) (v:Value),zs[j]?=some v→cs[i+j]?=some v)→∀(j:Nat) (v:Value),zs[j]?=some v→(cs.extract i (i+ks0.length))[0+j]?=some v:=fun cs zs hz hg j v h=>by
           have hj:=(gsI h)
           have:=hg j v h
           rw[vR,Array.getElem?_extract]
           rw[if_pos (by have:=(zW.1 this).1;omega)]
           exact this
          have inner:(Op.equalIn (d+2) f.type (.agg (xs.extract i (i+ks0.length))) (.agg (ys.extract i (i+ks0.length)))).run P w= .ok b1 w:=by
           rw[run_equalIn_struct w (d+1) f.type _ _ (by rw[hu,hfs]) hst.1,hfs]
           exact s7 d _ _ gs.toList 0 ks0 vs1 us1 b1 hfl a1 (get xs vs1 l1 fun j v h=>hx j v (by rw[zD (by have:=(gsI h);omega)];exact h)) (get ys us1 l2 fun j v h=>hy j v (by rw[zD (by have:=(gsI h);omega)];exact h))
          simp only[Op.eqFields,if_pos hf.1,Sem.run_bind,prt,Result.andThen_ok,inner,Sem.run_ite]
          subst e
          cases b1
          ·simp
          ·simpa using ih
         ·cases hin
        ·cases hin
       ·cases hin
      ·cases hin
     ·cases hk
    ·cases hk
  ·cases hk
theorem PM {P:Program} {t:TypeId} {sg:List Kd} {vs us:List Value} {b:Bool} (hsg:lO P t=some sg) (hb:cS sg vs us=some b) (x y:Operand) (w:World):
  (eqGuard .eql t x y (.agg vs.toArray) (.agg us.toArray)).run P w= .ok () w∧(binOp .eql t (.agg vs.toArray) (.agg us.toArray)).run P w= .ok (.bool b) w∧
  (eqGuard .neq t x y (.agg vs.toArray) (.agg us.toArray)).run P w= .ok () w∧(binOp .neq t (.agg vs.toArray) (.agg us.toArray)).run P w= .ok (.bool (!b)) w:=by
 unfold lO at hsg
 split at hsg
 ·rename_i hc
  split at hsg
  ·rename_i fs hu
   have hfs:P.fieldsOf t=fs:=by simp[Program.fieldsOf,hu]
   have hr:(Op.equalIn 10000 t (.agg vs.toArray) (.agg us.toArray)).run P w= .ok b w:=by
    rw[run_equalIn_struct w 9999 t _ _ (by rw[hu,hfs]) hc.1,hfs]
    exact nB 9997 _ _ fs.toList 0 sg vs us b hsg hb (fun j v h=>by simpa using h) (fun j v h=>by simpa using h)
   refine⟨run_eqGuard_agg w _ t x y _ _ hc.2,?_,run_eqGuard_agg w _ t x y _ _ hc.2,?_⟩
   ·rw[run_eql_struct,hr];rfl
   ·rw[run_neq_struct,hr];rfl
  ·cases hsg
 ·cases hsg
theorem JK {op:BinOp} {t:TypeId} {v u:Value} {x y z:AV} (p q:Operand) (hx:Rep w ρ H ok v x) (hy:Rep w ρ H ok u y) (h:jX E.P op t x y=some z):
  ∃r,(eqGuard op t p q v u).run E.P w= .ok () w∧(binOp op t v u).run E.P w= .ok r w∧Rep w ρ H ok r z:=by
 unfold jX at h
 split at h
 ·rename_i k a k' b
  rw[cM hx,cM hy]
  split at h
  ·rename_i hk
   subst hk
   obtain⟨r,hr,rfl⟩:=I3 (P:=E.P) (w:=w) t h
   exact⟨r,fV _ _ _ _ _ _ (.inl ⟨_,_,rfl⟩),hr,.sc⟩
  ·cases h
 ·rename_i a b
  rw[cM hx,cM hy]
  split at h
  ·rename_i hu
   simp only[zB]at h
   subst h
   refine⟨_,fV _ _ _ _ _ _ (.inr (.inl ⟨_,rfl⟩)),?_,.sc⟩
   simp only[binOp,Op.equal,Op.maxDepth,Sem.run_bind,run_equalIn_bool w _ t a b hu,Result.andThen_ok,Sem.run_pure]
   rfl
  ·rename_i hu
   simp only[zB]at h
   subst h
   refine⟨_,fV _ _ _ _ _ _ (.inr (.inl ⟨_,rfl⟩)),?_,.sc⟩
   simp only[binOp,Op.equal,Op.maxDepth,Sem.run_bind,run_equalIn_bool w _ t a b hu,Result.andThen_ok,Sem.run_pure]
   rfl
  ·cases h
 ·rename_i a b
  rw[cM hx,cM hy]
  split at h<;>simp only[zB,reduceCtorEq]at h<;>subst h<;>
   refine⟨_,fV _ _ _ _ _ _ (.inr (.inr ⟨_,rfl⟩)),?_,.sc⟩<;>simp[binOp,Op.stringOp,Bc]
 ·rename_i xs ys
  unfold SZ at h
  split at h
  ·rename_i sg vs us hsg hvs hus
   cases hx with
   |agg hn1 hr1=>
   cases hy with
   |agg hn2 hr2=>
   rename_i cs ds
   have e1:=o8 (vs:=cs.toList) (by simpa using hr1) (by simpa using hn1) hvs
   have e2:=o8 (vs:=ds.toList) (by simpa using hr2) (by simpa using hn2) hus
   have e1':cs=vs.toArray:=by rw[←e1]
   have e2':ds=us.toArray:=by rw[←e2]
   subst e1';subst e2'
   split at h
   ·rename_i b hb
    simp only[zB]at h
    subst h
    obtain⟨h1,h2,_,_⟩:=PM hsg hb p q w
    exact⟨_,h1,h2,.sc⟩
   ·rename_i b hb
    simp only[zB]at h
    subst h
    obtain⟨_,_,h1,h2⟩:=PM hsg hb p q w
    exact⟨_,h1,h2,.sc⟩
   ·cases h
  ·cases h
 ·have key:∀b,Eo x=some b→∃A l c,v= .slice A l c∧A.isNone=b:=fun b hb=>by
   unfold Eo at hb
   split at hb
   ·simp only[zB]at hb
    subst hb
    cases hx
    exact⟨none,0,0,rfl,rfl⟩
   ·rename_i a l c
    simp only[zB]at hb
    exact⟨a,l,c,cM hx,hb⟩
   ·simp only[zB]at hb
    subst hb
    cases hx with
    |list f hn hnc hok hk hc h1 hr=>exact⟨_,_,_,rfl,rfl⟩
   ·cases hb
  cases hy
  split at h
  ·rename_i e b he hb
   obtain⟨A,l,c,rfl,hA⟩:=key b hb
   simp only[zB]at h
   subst h
   refine⟨_,lD _ _ _ _ _ _ _ _,?_,.sc⟩
   simp only[binOp]
   simp[run_equal_slice_nil w t e A l c (bA he),hA]
  ·rename_i e b he hb
   obtain⟨A,l,c,rfl,hA⟩:=key b hb
   simp only[zB]at h
   subst h
   refine⟨_,lD _ _ _ _ _ _ _ _,?_,.sc⟩
   rw[run_neq_slice_nil w t e A l c (bA he),hA]
  ·cases h
 ·cases h
theorem pJ {k:IntKind}:∀{as0:List AV} {vs:List Value} {a:Int} {x:AV},vs.length=as0.length→(∀(i:Nat) (c:Value) (a:AV),vs[i]?=some c→as0[i]?=some a→Rep w ρ H ok c a)→cX k a as0=some x→
  ∃r,(vs.foldlM Builtin.max2 (.int k a)).run E.P w= .ok r w∧x= .sc r
 |[],vs,a,x,hl,_,h=>by
  have:vs=[]:=wF hl
  subst this
  simp only[cX,zB]at h
  subst h
  exact⟨_,rfl,rfl⟩
 | .sc (.int k' b)::as0,v::vs,a,x,hl,hr,h=>by
  have hv:=cM (hr 0 v _ rfl rfl)
  subst hv
  simp only[cX]at h
  split at h
  ·rename_i hk
   subst hk
   obtain⟨r,h1,h2⟩:=pJ (by simpa using hl) (fun i c a hi ha=>hr (i+1) c a hi ha) h
   refine⟨r,?_,h2⟩
   simp only[List.foldlM_cons,Sem.run_bind,Builtin.max2,Sem.run_pure,Result.andThen_ok]
   have e:(if b>a then b else a)=max a b:=by omega
   rw[e]
   exact h1
  ·cases h
 | .sc (.int k' b)::as0,[],a,x,hl,hr,h=>by simp at hl
 | .sc (.bool _)::_,_,_,_,_,_,h| .sc (.float _ _)::_,_,_,_,_,_,h| .sc (.complex _ _ _)::_,_,_,_,_,_,h| .sc (.string _)::_,_,_,_,_,_,h| .sc (.pointer _)::_,_,_,_,_,_,h
 | .sc (.slice _ _ _)::_,_,_,_,_,_,h| .sc (.map _)::_,_,_,_,_,_,h| .sc (.chan _)::_,_,_,_,_,_,h| .sc (.func _ _ _)::_,_,_,_,_,_,h| .sc .nilFunc::_,_,_,_,_,_,h
 | .sc (.iface _ _)::_,_,_,_,_,_,h| .sc .nilIface::_,_,_,_,_,_,h| .sc (.agg _)::_,_,_,_,_,_,h| .sc (.tuple _)::_,_,_,_,_,_,h
 | .junk::_,_,_,_,_,_,h| .agg _::_,_,_,_,_,_,h| .tup _::_,_,_,_,_,_,h| .nil::_,_,_,_,_,_,h| .list _ _::_,_,_,_,_,_,h| .ref _ _ _::_,_,_,_,_,_,h| .sref _ _ _::_,_,_,_,_,_,h
 | .iref _::_,_,_,_,_,_,h| .fn _ _::_,_,_,_,_,_,h| .imap _::_,_,_,_,_,_,h| .mref _::_,_,_,_,_,_,h| .miter _::_,_,_,_,_,_,h| .full _ _ _ _::_,_,_,_,_,_,h=>by simp[cX]at h
theorem pi {k:IntKind}:∀{as0:List AV} {vs:List Value} {a:Int} {x:AV},vs.length=as0.length→(∀(i:Nat) (c:Value) (a:AV),vs[i]?=some c→as0[i]?=some a→Rep w ρ H ok c a)→jV k a as0=some x→
  ∃r,(vs.foldlM Builtin.min2 (.int k a)).run E.P w= .ok r w∧x= .sc r
 |[],vs,a,x,hl,_,h=>by
  have:vs=[]:=wF hl
  subst this
  simp only[jV,zB]at h
  subst h
  exact⟨_,rfl,rfl⟩
 | .sc (.int k' b)::as0,v::vs,a,x,hl,hr,h=>by
  have hv:=cM (hr 0 v _ rfl rfl)
  subst hv
  simp only[jV]at h
  split at h
  ·rename_i hk
   subst hk
   obtain⟨r,h1,h2⟩:=pi (by simpa using hl) (fun i c a hi ha=>hr (i+1) c a hi ha) h
   refine⟨r,?_,h2⟩
   simp only[List.foldlM_cons,Sem.run_bind,Builtin.min2,Sem.run_pure,Result.andThen_ok]
   have e:(if b<a then b else a)=min a b:=by omega
   rw[e]
   exact h1
  ·cases h
 | .sc (.int k' b)::as0,[],a,x,hl,hr,h=>by simp at hl
 | .sc (.bool _)::_,_,_,_,_,_,h| .sc (.float _ _)::_,_,_,_,_,_,h| .sc (.complex _ _ _)::_,_,_,_,_,_,h| .sc (.string _)::_,_,_,_,_,_,h| .sc (.pointer _)::_,_,_,_,_,_,h
 | .sc (.slice _ _ _)::_,_,_,_,_,_,h| .sc (.map _)::_,_,_,_,_,_,h| .sc (.chan _)::_,_,_,_,_,_,h| .sc (.func _ _ _)::_,_,_,_,_,_,h| .sc .nilFunc::_,_,_,_,_,_,h
 | .sc (.iface _ _)::_,_,_,_,_,_,h| .sc .nilIface::_,_,_,_,_,_,h| .sc (.agg _)::_,_,_,_,_,_,h| .sc (.tuple _)::_,_,_,_,_,_,h
 | .junk::_,_,_,_,_,_,h| .agg _::_,_,_,_,_,_,h| .tup _::_,_,_,_,_,_,h| .nil::_,_,_,_,_,_,h| .list _ _::_,_,_,_,_,_,h| .ref _ _ _::_,_,_,_,_,_,h| .sref _ _ _::_,_,_,_,_,_,h
 | .iref _::_,_,_,_,_,_,h| .fn _ _::_,_,_,_,_,_,h| .imap _::_,_,_,_,_,_,h| .mref _::_,_,_,_,_,_,h| .miter _::_,_,_,_,_,_,h| .full _ _ _ _::_,_,_,_,_,_,h=>by simp[jV]at h
theorem cW {P:Program} {s:Sem Value} {v:Value} (h:s.run P w= .ok v w):Sem.run P (do pure (Next.value (←s))) w= .ok (.value v) w:=by
 simp[h]
theorem Is {P:Program} {t e:TypeId} {v:Value} {x:AV} {n:Int} (ht:P.underlying t=some (.slice e)) (hx:Rep w ρ H ok v x) (h:lu H x=some n) (ty:TypeId):
  (Builtin.len_ #[t] ty #[v]).run P w= .ok (.int .i64 n) w:=by
 cases hx with
 |srefDead hd _=>simp[lu,hd]at h
 |sref ho _ _ _ _=>simp[lu,ho]at h;subst h;simp[Builtin.len_,run_underlying ht,goInt]
 |srefNil ho _=>simp[lu,ho]at h;subst h;simp[Builtin.len_,run_underlying ht,goInt]
 |fullDead hd _=>simp[lu,hd]at h
 |full ho _ _ _=>simp[lu,ho]at h;subst h;simp[Builtin.len_,run_underlying ht,goInt]
 |list f hn _ _ _ _ _ _=>simp[lu]at h;subst h;subst hn;simp[Builtin.len_,run_underlying ht,goInt]
 |nil=>simp[lu]at h;subst h;simp[Builtin.len_,run_underlying ht,goInt]
 |listNil=>simp[lu]at h;subst h;simp[Builtin.len_,run_underlying ht,goInt]
 |_=>simp[lu]at h
theorem JB {P:Program} {t e:TypeId} {v:Value} {x:AV} {n:Int} (ht:P.underlying t=some (.slice e)) (hx:Rep w ρ H ok v x) (h:Ec H x=some n) (ty:TypeId):
  (Builtin.cap_ #[t] ty #[v]).run P w= .ok (.int .i64 n) w:=by
 cases hx with
 |fullDead hd _=>simp[Ec,hd]at h
 |full ho _ _ _=>simp[Ec,ho]at h;subst h;simp[Builtin.cap_,run_underlying ht,goInt]
 |_=>simp[Ec]at h
end
open Go.RowKit
section
variable {E:Env} {w:World} {ρ:aW} {H:ah} {ok:Nat→Prop}
theorem fS {v u:Value} {a:AV} (e:a= .sc u) (h:Rep w ρ H ok v a):v=u:=cM (e▸h)
theorem mb {ev:Operand→AV} {rho:Operand→Value} (hev:∀x,Rep w ρ H ok (rho x) (ev x)) {o:Option Operand} {d l:Int} (h:dL ev d o=some l):
  (o.map rho=none∧(if o.isSome then some l else none)=none)∨∃k l',o.map rho=some (.int k l')∧(if o.isSome then some l else none)=some l':=by
 cases o with
 |none=>exact .inl ⟨rfl,rfl⟩
 |some x=>
  refine .inr ?_
  simp only[dL]at h
  split at h
  ·rename_i k n hx
   simp only[zB]at h
   subst h
   exact⟨k,n,by rw[vI,fS hx (hev x)],rfl⟩
  ·cases h
theorem tH {d:TypeDesc} {k:Value} (h:n9 d k=true):MapKept.IsKey d k:=by
 cases d<;>cases k<;>simp_all [n9,MapKept.IsKey]
theorem Ba:∀{es:List (List AV)} {l:List (Value×AV)},pr es=some l→es=l.map fun e=>[.sc e.1,e.2]
 |[],l,h=>by simp only[pr,zB]at h;subst h;rfl
 |e::es,l,h=>by
  unfold pr at h
  split at h
  ·rename_i heq;cases heq
  ·rename_i k a r heq
   simp only[vZ]at heq
   obtain⟨rfl,rfl⟩:=heq
   rw[zL]at h
   obtain⟨l',h1,rfl⟩:=h
   rw[Ba h1]
   rfl
  ·cases h
theorem JC (g:Good E w ρ H ok) {v:Value} {x:AV} {l:List (Value×AV)} (r:Rep w ρ H ok v x) (h:ents H x=some l):
  (v= .map none∧l=[])∨∃(b clk:Nat) (es:Array MapEntry),v= .map (some b)∧w.heap[b]?=some (.map es clk)∧MapKept.Stamped es clk∧es.size=l.length∧∀(i:Nat) (e:MapEntry) (p:Value×AV),es[i]?=some e→l[i]?=some p→e.key=p.1∧Rep w ρ H ok e.val p.2:=by
 cases r<;>simp only[ents,reduceCtorEq,zB]at h
 case imap b clk es es' hok hb he hw=>
  subst h
  refine .inr ⟨b,clk,es,rfl,hb,hw,by rw[←he];simp,fun i e p h1 h2=>?_⟩
  rw[←he,zR,zR,vF,h1]at h2
  simp only[vI,zB]at h2
  subst h2
  exact⟨rfl,.sc⟩
 case imapNil=>subst h;exact .inl ⟨rfl,rfl⟩
 case mref id b o ho hρ=>
  simp only[ho]at h
  have hobj:=g.obj id o ho
  rw[hρ]at hobj
  obtain⟨_,es,clk,h1,h2,h3,h4⟩:=hobj.map
  have hes:=Ba h
  refine .inr ⟨b,clk,es,rfl,h1,h2.st,by rw[h3,hes];simp,fun i e p hi hp=>?_⟩
  obtain⟨a,ha,hr⟩:=h4 i e [.sc p.1,p.2] hi (by rw[hes,zR,hp];rfl)
  simp only[vZ,AV.sc.injEq,and_true]at ha
  obtain⟨ha1,rfl⟩:=ha
  exact⟨ha1.symm,hr⟩
 case mrefDead id hd h1=>simp[hd]at h
theorem A9 {d:TypeDesc} {k:Value}:∀{es:List MapEntry} {l:List (Value×AV)} {r:Option AV},es.length=l.length→(∀(i:Nat) (e:MapEntry) (p:Value×AV),es[i]?=some e→l[i]?=some p→e.key=p.1∧Rep w ρ H ok e.val p.2)→sq d k l=some r→
  (r=none∧∀i,Instr.findNow d k es i=some none)∨∃(a:AV) (j:Nat) (e:MapEntry),r=some a∧(∀i,Instr.findNow d k es i=some (some (i+j,e.val)))∧es[j]?=some e∧Rep w ρ H ok e.val a∧Instr.sameNow d k e.key=some true
 |[],[],r,_,_,h=>by simp only[sq,zB]at h;exact .inl ⟨h.symm,fun i=>rfl⟩
 |[],_::_,_,hl,_,_=>by simp at hl
 |_::_,[],_,hl,_,_=>by simp at hl
 |e::es,p::l,r,hl,hr,h=>by
  obtain⟨h1,h2⟩:=hr 0 e p rfl rfl
  simp only[sq]at h
  split at h
  ·rename_i hs
   simp only[zB]at h
   exact .inr ⟨p.2,0,e,h.symm,fun i=>by simp only[Instr.findNow];rw[h1,hs];rfl,rfl,h2,by rw[h1];exact hs⟩
  ·rename_i hs
   rcases A9 (by simpa using hl) (fun i e p hi hp=>hr (i+1) e p hi hp) h with⟨q1,q2⟩|⟨a,j,e',q1,q2,q3,q4,q5⟩
   ·exact .inl ⟨q1,fun i=>by simp only[Instr.findNow];rw[h1,hs];exact q2 _⟩
   ·exact .inr ⟨a,j+1,e',q1,fun i=>by simp only[Instr.findNow];rw[h1,hs];exact (q2 _).trans (by rw[uD,Nat.add_comm 1 j]),q3,q4,q5⟩
  ·cases h
theorem lP {P:Program} {t kt et:TypeId} {d:TypeDesc} (h:oo P t=some (kt,d,et)):P.underlying t=some (.map kt et)∧P.underlying kt=some d:=by
 unfold oo at h
 split at h
 ·rename_i kt' et' ht
  rw[zL]at h
  obtain⟨d',hd,h⟩:=h
  simp only[Prod.mk.injEq]at h
  obtain⟨rfl,rfl,rfl⟩:=h
  exact⟨ht,hd⟩
 ·cases h
theorem DP {P:Program} {t:TypeId} {x:AV} (h:rV P t=some x):∃z,(zeroValue t).run P w= .ok z w∧Rep w ρ H ok z x:=by
 unfold rV at h
 split at h
 ·rename_i z hz
  simp only[zB]at h
  subst h
  rw[vK]at hz
  obtain⟨i,hi,hz⟩:=hz
  refine⟨z,by simp[zeroValue,nH hi,hz],?_⟩
  unfold nC
  split
  ·exact .nil
  ·exact .sc
 ·cases h
def rF (kt et:TypeId) (kv:Value) (c:Bool) (es:Array MapEntry):Sem Value:=do
 Instr.checkKey es.isEmpty 10000 kt kv
 let (v,ok)←match←Instr.findKey kt kv es.toList with
  |some (_,v)=>pure (v,true)
  |none=>pure (←zeroValue et,false)
 pure (if c then .tuple #[v,.bool ok]else v)
theorem AH {P:Program} {t kt et:TypeId} (ht:P.underlying t=some (.map kt et)) (kv:Value) (c:Bool):(Instr.lookup t (.map none) kv c).run P w=(rF kt et kv c #[]).run P w:=by
 simp only[Instr.lookup,rF,Sem.run_bind,run_underlying ht,Result.andThen_ok,Sem.run_pure]
 rfl
theorem oD {P:Program} {t kt et:TypeId} {b clk:Nat} {es:Array MapEntry} (ht:P.underlying t=some (.map kt et)) (hb:w.heap[b]?=some (.map es clk)) (kv:Value) (c:Bool):(Instr.lookup t (.map (some b)) kv c).run P w=(rF kt et kv c es).run P w:=by
 simp only[Instr.lookup,rF,Sem.run_bind,run_underlying ht,Result.andThen_ok,Sem.run_pure,MapKept.run_getObj_map hb]
 rfl
theorem gO {P:Program} {b since last:Nat} {m:Option Nat} {seen:Array Nat} (hb:w.heap[b]?=some (.mapIter m since seen last)):(getObj b).run P w= .ok (.mapIter m since seen last) w:=by
 simp[getObj,Sem.run,hb]
theorem Mg {clk:Nat} {es:Array MapEntry} (hw:MapKept.Stamped es clk) {e:MapEntry} (he:e∈es.toList):es.find? (fun x=>x.born==e.born)=some e:=by
 obtain⟨_,h2,_⟩:=hw
 rw[←Array.find?_toList]
 generalize es.toList=l at he h2
 induction l with
 |nil=>cases he
 |cons a l ih=>
  simp only[wD,List.nodup_cons]at h2
  rw[List.find?_cons]
  rcases zO.1 he with rfl|he
  ·simp
  ·have hne:¬a.born=e.born:=fun q=>h2.1 (q▸uA he)
   simp only[hne,beq_iff_eq,beq_eq_false_iff_ne.2 hne,ih he h2.2]
theorem TA {P:Program} {t:TypeId} {sg:List Kd} {vs us:List Value} {b:Bool} (hsg:lO P t=some sg) (hb:cS sg vs us=some b) (w:World):(Op.equal t (.agg vs.toArray) (.agg us.toArray)).run P w= .ok b w:=by
 unfold lO at hsg
 split at hsg
 ·rename_i hc
  split at hsg
  ·rename_i fs hu
   have hfs:P.fieldsOf t=fs:=by simp[Program.fieldsOf,hu]
   show (Op.equalIn 10000 t (.agg vs.toArray) (.agg us.toArray)).run P w= .ok b w
   rw[run_equalIn_struct w 9999 t _ _ (by rw[hu,hfs]) hc.1,hfs]
   exact nB 9997 _ _ fs.toList 0 sg vs us b hsg hb (fun j v h=>by simpa using h) (fun j v h=>by simpa using h)
  ·cases hsg
 ·cases hsg
theorem Kz {v:Value} {cs:List AV} {vs:List Value} (r:Rep w ρ H ok v (.agg cs)) (h:scs cs=some vs):v= .agg vs.toArray:=by
 cases r with
 |@agg xs _ hn hc=>
  have:=o8 (vs:=xs.toList) (as0:=cs) (fun i c a h1 h2=>hc i c a (by simpa using h1) h2) (by simpa using hn) h
  rw[←this]
theorem C9 {P:Program}:∀(fs:List Field) (i:Nat) (ks:List Kd),gQ P i fs=some ks→lJ P i fs=some ks
 |[],i,ks,h=>h
 |f::fs,i,ks,h=>by
  simp only[gQ]at h
  simp only[lJ]
  split at h
  ·rename_i hf
   rw[if_pos hf]
   split at h
   ·rename_i k ks' hk hks
    simp only[hk,C9 fs (i+1) ks' hks]
    exact h
   ·cases h
  ·cases h
theorem sR {P:Program} {kt:TypeId} {ks:List Kd} (h:oW P kt=some ks):∃fs,P.underlying kt=some (.struct fs)∧gQ P 0 fs.toList=some ks∧lO P kt=some ks∧∀k∈ks,k= .int:=by
 unfold oW at h
 split at h
 ·rename_i fs hu
  split at h
  ·rename_i ks' hf
   split at h
   ·rename_i hc
    simp only[zB]at h
    subst h
    refine⟨fs,hu,hf,?_,fun k hk=>?_⟩
    ·obtain⟨sg,hsg⟩:=wU.1 hc.1
     rw[hsg]
     unfold lO at hsg
     split at hsg
     ·simp only[hu,C9 _ _ _ hf]at hsg
      exact hsg.symm
     ·cases hsg
    ·have:=zS.1 hc.2 k hk
     cases k<;>simp_all
   ·cases h
  ·cases h
 ·cases h
theorem xN {ks:List Kd} {cs:List AV} {vs:List Value} (h:CZ ks cs=some vs):scs cs=some vs∧vs.length=ks.length∧∀v∈vs,∃k n,v= .int k n:=by
 unfold CZ at h
 split at h
 ·rename_i us hs
  split at h
  ·rename_i hc
   simp only[zB]at h
   subst h
   refine⟨hs,hc.1,fun v hv=>?_⟩
   have:=zS.1 hc.2 v hv
   cases v<;>simp_all
  ·cases h
 ·cases h
theorem NM {P:Program} {w:World} {f:Field} {k:Kd} (hk:yl P f.type=some k) {cs:Array Value} {c:Value} (hc:cs[f.offset]?=some c):(part f.type cs f.offset).run P w= .ok c w:=by
 unfold yl at hk
 cases hu:P.underlying f.type with
 |none=>rw[hu]at hk;cases hk
 |some dsc=>
  have hag:cF P f.type=false:=by
   rw[hu]at hk
   cases dsc<;>simp_all [cF]
  simp[part,fX hu,hag,hc]
theorem Bh {P:Program} {w:World} {t:TypeId} {k:Kd} (hk:yl P t=some k) (e:Bool) (n:Nat) (v:Value) (hv:∃kk m,v= .int kk m):(Instr.checkKey e (n+1) t v).run P w= .ok () w:=by
 obtain⟨kk,m,rfl⟩:=hv
 unfold yl at hk
 cases hu:P.underlying t with
 |none=>rw[hu]at hk;cases hk
 |some dsc=>
  rw[hu]at hk
  unfold Instr.checkKey
  simp only[Sem.run_bind,run_underlying hu,Result.andThen_ok]
  cases dsc<;>first|rfl|simp at hk
theorem oz {P:Program} {w:World} {kt:TypeId} {fs:Array Field} {ks:List Kd} (hu:P.underlying kt=some (.struct fs)) (hf:gQ P 0 fs.toList=some ks) {vs:List Value} (hl:vs.length=ks.length) (hv:∀v∈vs,∃k n,v= .int k n) (e:Bool) (n:Nat):
  (Instr.checkKey e (n+2) kt (.agg vs.toArray)).run P w= .ok () w:=by
 unfold Instr.checkKey
 simp only[Sem.run_bind,run_underlying hu,Result.andThen_ok]
 rw[←Array.forIn_toList]
 have key:∀(l:List Field) (i:Nat) (ks':List Kd),gQ P i l=some ks'→i+ks'.length≤vs.length→
   (forIn l PUnit.unit fun (f:Field) (_:PUnit)=>do
    if f.name≠ "_" then
     Instr.checkKey e (n+1) f.type (←part f.type vs.toArray f.offset)
     pure (ForInStep.yield PUnit.unit)
    else pure (ForInStep.yield PUnit.unit)).run P w= .ok PUnit.unit w:=by
  intro l
  induction l with
  |nil=>intro i ks' _ _;rfl
  |cons f l ih=>
   intro i ks' hk hle
   simp only[gQ]at hk
   split at hk
   ·rename_i hc
    split at hk
    ·rename_i k ks1 hkd hks
     simp only[zB]at hk
     subst hk
     simp only[wI]at hle
     have hi:i<vs.length:=by omega
     have hp:(vs.toArray)[f.offset]?=some vs[i]:=by rw[hc.2];simp[hi]
     simp only[List.forIn_cons,Sem.run_bind,hc.1,ne_eq,not_false_eq_true,if_true,NM hkd hp,Result.andThen_ok,Bh hkd e n vs[i] (hv _ (List.getElem_mem hi)),Sem.run_pure]
     exact ih (i+1) ks1 hks (by omega)
    ·cases hk
   ·cases hk
 have h1:=key fs.toList 0 ks hf (by omega)
 exact (congrArg (fun r=>Result.andThen r fun _ w'=>Sem.run P (pure ()) w') h1).trans rfl
theorem xe {P:Program} {kt:TypeId} {ks:List Kd} (hs:lO P kt=some ks) {vs:List Value} {w0:World}:∀{es:List MapEntry} {l:List (Value×AV)} {r:Option AV},es.length=l.length→(∀(i:Nat) (e:MapEntry) (p:Value×AV),es[i]?=some e→l[i]?=some p→e.key=p.1∧Rep w ρ H ok e.val p.2)→uJ ks vs l=some r→
  (r=none∧∀i,(Instr.findAsking kt (.agg vs.toArray) es i).run P w0= .ok none w0)∨∃(a:AV) (j:Nat) (e:MapEntry),r=some a∧(∀i,(Instr.findAsking kt (.agg vs.toArray) es i).run P w0= .ok (some (i+j,e.val)) w0)∧es[j]?=some e∧Rep w ρ H ok e.val a
 |[],[],r,_,_,h=>by simp only[uJ,zB]at h;exact .inl ⟨h.symm,fun i=>rfl⟩
 |[],_::_,_,hl,_,_=>by simp at hl
 |_::_,[],_,hl,_,_=>by simp at hl
 |e::es,p::l,r,hl,hr,h=>by
  obtain⟨h1,h2⟩:=hr 0 e p rfl rfl
  simp only[uJ]at h
  have eqr:∀(us:Array Value) (b:Bool),cS ks vs us.toList=some b→(Op.equal kt (.agg vs.toArray) (.agg us)).run P w0= .ok b w0:=fun us b hb=>by
   have:=TA hs hb w0
   simpa using this
  split at h
  ·rename_i us hus
   split at h
   ·rename_i hb
    simp only[zB]at h
    refine .inr ⟨p.2,0,e,h.symm,fun i=>?_,rfl,h2⟩
    simp only[Instr.findAsking,Sem.run_bind,h1,hus,eqr _ _ hb,Result.andThen_ok]
    rfl
   ·rename_i hb
    rcases xe hs (by simpa using hl) (fun i e p hi hp=>hr (i+1) e p hi hp) h with⟨q1,q2⟩|⟨a,j,e',q1,q2,q3,q4⟩
    ·refine .inl ⟨q1,fun i=>?_⟩
     simp only[Instr.findAsking,Sem.run_bind,h1,hus,eqr _ _ hb,Result.andThen_ok]
     exact q2 _
    ·refine .inr ⟨a,j+1,e',q1,fun i=>?_,q3,q4⟩
     simp only[Instr.findAsking,Sem.run_bind,h1,hus,eqr _ _ hb,Result.andThen_ok]
     exact (q2 _).trans (by rw[uD,Nat.add_comm 1 j])
   ·cases h
  ·cases h
theorem ki {P:Program} {kt:TypeId} {fs:Array Field} (hu:P.underlying kt=some (.struct fs)) {k:Value} {l:List MapEntry} {w0:World} {a:Option (Nat×Value)} (h:(Instr.findAsking kt k l 0).run P w0= .ok a w0):(Instr.findKey kt k l).run P w0= .ok a w0:=by
 simp only[Instr.findKey,Sem.run_bind,run_underlying hu,Result.andThen_ok]
 cases l with
 |nil=>exact h
 |cons e l=>exact h
theorem sX (g:Good E w ρ H ok) {t:TypeId} {vx vk:Value} {x k y:AV} {c:Bool} (rx:Rep w ρ H ok vx x) (rk:Rep w ρ H ok vk k) (h:iK E.P t H x k c=some y):
  ∃v,(Instr.lookup t vx vk c).run E.P w= .ok v w∧Rep w ρ H ok v y:=by
 have hpair:∀(v:Value) (a:AV) (b:Bool),Rep w ρ H ok v a→Rep w ρ H ok (if c then .tuple #[v,.bool b]else v) (if c then .tup [a,.sc (.bool b)]else a):=fun v a b r=>by
  cases c
  ·exact r
  ·refine .tup rfl fun i u q hu hq=>?_
   match i,hu,hq with
   |0,hu,hq=>simp at hu hq;subst hu;subst hq;exact r
   |1,hu,hq=>simp at hu hq;subst hu;subst hq;exact .sc
   |i+2,hu,hq=>simp at hu
 have core:∀(kt et:TypeId) (kv:Value) (es:List (Value×AV)) (r:Option (Option AV)),E.P.underlying t=some (.map kt et)→ents H x=some es→(∀b,(Instr.checkKey b 10000 kt kv).run E.P w= .ok () w)→
   (∀(l:List MapEntry),l.length=es.length→(∀(i:Nat) (e:MapEntry) (p:Value×AV),l[i]?=some e→es[i]?=some p→e.key=p.1∧Rep w ρ H ok e.val p.2)→∀q,r=some q→
    (q=none∧(Instr.findKey kt kv l).run E.P w= .ok none w)∨∃(a:AV) (j:Nat) (u:Value),q=some a∧(Instr.findKey kt kv l).run E.P w= .ok (some (j,u)) w∧Rep w ρ H ok u a)→
   lkR E.P et c r=some y→∃v,(Instr.lookup t vx kv c).run E.P w= .ok v w∧Rep w ρ H ok v y:=by
  intro kt et kv es r ht hes hck hfind h
  have main:∀(ents:Array MapEntry),ents.size=es.length→(∀(i:Nat) (e:MapEntry) (p:Value×AV),ents[i]?=some e→es[i]?=some p→e.key=p.1∧Rep w ρ H ok e.val p.2)→
    ∃v,(rF kt et kv c ents).run E.P w= .ok v w∧Rep w ρ H ok v y:=by
   intro ents hsz hcs
   unfold rF
   simp only[Sem.run_bind,hck,Result.andThen_ok]
   have hf:=hfind ents.toList (by simpa using hsz) (fun i e p hi hp=>hcs i e p (by simpa using hi) hp)
   unfold lkR at h
   split at h
   ·rename_i a
    simp only[zB]at h
    subst h
    rcases hf _ rfl with⟨q,_⟩|⟨a',j,u,q1,q2,q4⟩
    ·cases q
    ·cases q1
     simp only[q2,Result.andThen_ok,Sem.run_pure]
     exact⟨_,rfl,hpair _ _ _ q4⟩
   ·rw[zL]at h
    obtain⟨z,hz,rfl⟩:=h
    obtain⟨zv,hz1,hz2⟩:=DP (w:=w) (ρ:=ρ) (H:=H) (ok:=ok) hz
    rcases hf _ rfl with⟨_,q⟩|⟨a',j,u,q1,_⟩
    ·simp only[q,Result.andThen_ok,Sem.run_bind,hz1,Sem.run_pure]
     exact⟨_,rfl,hpair _ _ _ hz2⟩
    ·cases q1
   ·cases h
  rcases JC g rx hes with⟨rfl,rfl⟩|⟨b,clk,ents,rfl,h1,_,h3,h4⟩
  ·rw[AH ht]
   exact main #[] rfl (by simp)
  ·rw[oD ht h1]
   exact main ents h3 h4
 unfold iK at h
 split at h
 ·rename_i kt d et kv es hm hes
  obtain⟨ht,hd⟩:=lP hm
  rw[cM rk]
  split at h
  ·rename_i hk
   have hk:=tH hk
   refine core kt et kv es _ ht hes (fun b=>MapKept.run_checkKey hd hk b 9999) (fun l hl hr q hq=>?_) h
   rcases A9 hl hr hq with⟨q1,q2⟩|⟨a,j,e,q1,q2,_,q4,_⟩
   ·exact .inl ⟨q1,MapKept.run_findKey hd (q2 0)⟩
   ·exact .inr ⟨a,_,_,q1,MapKept.run_findKey hd (q2 0),q4⟩
  ·cases h
 ·rename_i kt d et cs es hm hes
  obtain⟨ht,hd⟩:=lP hm
  split at h
  ·rename_i ks hks
   obtain⟨fs,hu,hf,hsg,_⟩:=sR hks
   split at h
   ·rename_i vs hvs
    obtain⟨h1,h2,h3⟩:=xN hvs
    have hv:vk= .agg vs.toArray:=Kz rk h1
    rw[hv]
    refine core kt et _ es _ ht hes (fun b=>oz hu hf h2 h3 b 9998) (fun l hl hr q hq=>?_) h
    rcases xe hsg hl hr hq with⟨q1,q2⟩|⟨a,j,e,q1,q2,_,q4⟩
    ·exact .inl ⟨q1,ki hu (q2 0)⟩
    ·exact .inr ⟨a,_,_,q1,ki hu (q2 0),q4⟩
   ·cases h
  ·cases h
 ·cases h
theorem GE (g:Good E w ρ H ok) {vx:Value} {x y:AV} (rx:Rep w ρ H ok vx x) (h:ug H x=some y):
  ∃v,(Instr.entry vx).run E.P w= .ok v w∧Rep w ρ H ok v y:=by
 unfold ug at h
 split at h
 ·rename_i id
  split at h
  ·rename_i o ho
   split at h
   ·rename_i k v q hes
    simp only[zB]at h
    subst h
    cases rx with
    |miterDead hd _=>rw[ho]at hd;cases hd
    |@miter _ b o' ho' hρ=>
     rw[ho]at ho'
     simp only[zB]at ho'
     subst ho'
     have hobj:=g.obj id o ho
     rw[hρ]at hobj
     obtain⟨_,⟨h1,h2⟩|⟨m,clk,seen,es,c1,c2,h1,h2,h3,h4,h5,h6⟩⟩:=hobj.iter
     ·rw[hes]at h1
      simp at h1
     ·rw[hes]at h5
      simp only[vZ,and_true]at h5
      obtain⟨rfl,rfl,_⟩:=h5
      rcases h6 with⟨h6,_⟩|⟨e,he,h7,h8,h9⟩
      ·cases h6
      ·simp only[AV.sc.injEq]at h8 h9
       subst h8;subst h9
       refine⟨.tuple #[e.key,e.val],?_,.tup rfl fun i u q hu hq=>?_⟩
       ·simp only[Instr.entry,Sem.run_bind,gO h1,Result.andThen_ok,h7,MapKept.run_getObj_map h3,Mg h4 he]
        simp
       ·match i,hu,hq with
        |0,hu,hq=>simp at hu hq;subst hu;subst hq;exact .sc
        |1,hu,hq=>simp at hu hq;subst hu;subst hq;exact .sc
        |i+2,hu,hq=>simp at hu
   ·cases h
  ·cases h
 ·cases h
set_option maxHeartbeats 1000000 in
theorem Ip (g:Good E w ρ H ok) {rho:Operand→Value} {ev:Operand→AV} (hev:∀x,Rep w ρ H ok (rho x) (ev x)) {o:Oper} {x:AV} (h:fY E.P o.op ev H=some x):
  ∃v,(execOp rho o).run E.P w= .ok (.value v) w∧Rep w ρ H ok v x:=by
 obtain⟨dst,op,ty,pos,after,gd⟩:=o
 simp only at h
 unfold execOp
 cases op<;>simp only[fY,Fb,GV,aun,xz,BP,yU,y8,kN,bL,BF,reduceCtorEq]at h⊢
 case move y=>simp only[zB]at h;subst h;exact⟨_,rfl,hev y⟩
 case assign y=>simp only[zB]at h;subst h;exact⟨_,rfl,hev y⟩
 case pick c a b=>
  split at h
  ·rename_i t ht
   have hc:=fS ht (hev c)
   simp only[zB]at h
   subst h
   cases t
   ·exact⟨rho b,by simp[hc,asBool],hev b⟩
   ·exact⟨rho a,by simp[hc,asBool],hev a⟩
  ·cases h
 case load t a=>
  rw[vK]at h
  obtain⟨as0,has,hl⟩:=h
  obtain⟨ad,hv,hc⟩:=kz g (hev a) has
  obtain⟨v,hrun,hr⟩:=xb hc hl
  exact⟨v,by rw[hv];exact cW (by simpa[Instr.loadAt,Instr.sureAddr]using hrun),hr⟩
 case nilCheck y=>
  split at h
  ·rename_i f cs hy
   have hr:=hev y
   rw[hy]at hr
   simp only[zB]at h
   subst h
   refine⟨rho y,?_,hr⟩
   generalize rho y=u at hr⊢
   cases hr
   rfl
  ·rename_i a hy
   simp only[zB]at h
   subst h
   refine⟨_,?_,.sc⟩
   rw[fS hy (hev y)]
   rfl
  ·split at h
   ·rename_i hs
    obtain⟨as0,has⟩:=wU.1 hs
    simp only[zB]at h
    subst h
    obtain⟨ad,hv,_⟩:=kz g (hev y) has
    exact⟨_,by rw[hv];rfl,hv▸hev y⟩
   ·cases h
 case binOp op t y z yt=>
  obtain⟨r,h1,h2,h3⟩:=JK y z (hev y) (hev z) h
  exact⟨r,cW (by simp only[Sem.run_bind,h1,Result.andThen_ok,h2]),h3⟩
 case unOp op t y=>
  split at h
  ·rename_i b hy
   simp only[zB]at h
   subst h
   refine⟨_,?_,.sc⟩
   rw[fS hy (hev y)]
   rfl
  ·rename_i k n hy
   simp only[zB]at h
   subst h
   refine⟨_,?_,.sc⟩
   rw[fS hy (hev y)]
   rfl
  ·cases h
 case convert src dst y=>
  split at h
  ·rename_i d k kk n hs hd hy
   simp only[zB]at h
   subst h
   refine⟨_,cW ?_,.sc⟩
   rw[fS hy (hev y)]
   simp[convert,run_underlying hs,run_underlying hd,Conv.intToInt]
  ·rename_i s hs hd hy
   simp only[zB]at h
   subst h
   refine⟨_,cW ?_,.sc⟩
   rw[fS hy (hev y)]
   simp[convert,run_underlying hs,run_underlying hd]
  ·cases h
 case fieldAddr s y f=>
  split at h
  ·cases h
  ·rename_i off ft hf
   split at h
   ·rename_i id i j hy
    split at h
    ·rename_i hs
     obtain⟨as0,has⟩:=wU.1 hs
     simp only[zB]at h
     subst h
     obtain⟨ad,hv,hr⟩:=xM (off:=off) (hy▸hev y) has
     exact⟨_,by rw[hv];exact cW (xf hf ad w),hr⟩
    ·cases h
   ·rename_i cs hy
    simp only[zB]at h
    subst h
    obtain⟨ad,hv,hr⟩:=qV (hy▸hev y) off
    exact⟨_,by rw[hv];exact cW (xf hf ad w),hr⟩
   ·cases h
 case field s y f=>
  split at h
  ·rename_i off ft cs hf hy
   obtain⟨fs,fx,hs,hx,rfl,rfl,hz,hk⟩:=mG hf
   have hr:=hev y
   rw[hy]at hr
   generalize rho y=u at hr⊢
   cases hr with
   |agg hn hc=>
    obtain⟨v,h1,h2⟩:=xE hn hc h
    exact⟨v,cW (by simp[Instr.field,run_underlying hs,hx,asAgg,h1]),h2⟩
  ·cases h
 case indexAddr t y ix=>
  split at h
  ·rename_i k n hi
   obtain⟨u,h1,h2⟩:=uu (k:=k) (hev y) h
   exact⟨u,by rw[fS hi (hev ix)];exact cW h1,h2⟩
  ·cases h
 case lookup t y k c=>
  obtain⟨v,hrun,hr⟩:=sX g (hev y) (hev k) h
  exact⟨v,cW hrun,hr⟩
 case entry y=>
  obtain⟨v,hrun,hr⟩:=GE g (hev y) h
  exact⟨v,cW hrun,hr⟩
 case index t y ix=>
  unfold HP at h
  split at h
  ·rename_i k n hi
   have hix:=fS hi (hev ix)
   split at h
   ·rename_i cs hy
    split at h
    ·rename_i len e harr
     split at h
     ·rename_i hc
      obtain⟨hk,h0,h1⟩:=hc
      have hu:E.P.underlying t=some (.array len e):=by
       unfold dG at harr
       split at harr
       ·rename_i hu
        simp only[zB,Prod.mk.injEq]at harr
        obtain⟨rfl,rfl⟩:=harr
        exact hu
       ·cases harr
      have hr:=hev y
      rw[hy]at hr
      generalize rho y=u at hr⊢
      cases hr with
      |agg hn hc=>
       obtain⟨v,h2,h3⟩:=xE hn hc h
       exact⟨v,cW (by simp[Instr.index,hix,asIntOf,run_underlying hu,h0,h1,bB hk,h2]),h3⟩
     ·cases h
    ·cases h
   ·rename_i s hy
    split at h
    ·rename_i hu
     split at h
     ·rename_i h0
      rw[zL]at h
      obtain⟨b,hb,rfl⟩:=h
      have hs:=fS hy (hev y)
      exact⟨_,cW (by simp[Instr.index,hix,hs,asIntOf,run_underlying hu,h0,hb]),.sc⟩
     ·cases h
    ·cases h
   ·cases h
  ·cases h
 case extract y i=>
  split at h
  ·rename_i vs hy
   have hr:=hev y
   rw[hy]at hr
   generalize rho y=u at hr⊢
   cases hr with
   |@tup cs _ hn hc=>
    have hlt:i<cs.size:=by rw[hn];exact (gsI h)
    have hv:cs[i]?=some cs[i]:=zX hlt
    refine⟨cs[i],cW ?_,hc _ _ _ hv h⟩
    simp only[Instr.extract,hv,Sem.run_pure]
  ·cases h
 case makeFunc fn first caps=>
  cases fn<;>simp only[reduceCtorEq]at h
  split at h
  ·rename_i hz
   simp only[zB]at h
   subst h
   have hf:first=#[]:=uE hz
   subst hf
   rename_i f
   refine⟨.func (.func f) #[] (caps.map rho),cW (by simp[Instr.makeFunc]),.fn (by simp) (fun i c a hc ha=>?_)⟩
   rw[zR,zL]at ha
   obtain⟨q,hq,rfl⟩:=ha
   rw[Array.getElem?_map,zL]at hc
   obtain⟨q',hq',rfl⟩:=hc
   rw[vF]at hq
   rw[hq]at hq'
   simp only[zB]at hq'
   subst hq'
   exact hev _
  ·cases h
 case slice t y lo hi mx=>
  cases mx with
  |some mx=>
   cases lo with
   |none=>simp only[reduceCtorEq]at h
   |some lo=>
    cases hi with
    |none=>simp only[reduceCtorEq]at h
    |some hi=>
     simp only at h⊢
     obtain⟨u,h1,h2⟩:=Cg (hev y) (hev lo) (hev hi) (hev mx) h
     exact⟨u,cW h1,h2⟩
  |none=>
  simp only at h
  split at h
  ·rename_i s hy
   split at h
   ·rename_i l hh ht hl hh'
    split at h
    ·rename_i hc
     simp only[zB]at h
     subst h
     refine⟨_,cW ?_,.sc⟩
     rw[fS hy (hev y)]
     have b1:=mb hev hl
     have b2:=mb hev hh'
     have c1:(0:Int)≤hh:=by omega
     cases lo<;>cases hi<;>simp only[Option.map_none,vI,Option.isSome_none,Option.isSome_some,if_true,reduceCtorEq,false_and,exists_const,or_false,false_or,zB,dL,wS,if_false]at b1 b2 hl hh'⊢
     ·subst hl;subst hh'
      simp[Instr.sliceAt,Instr.slice,run_underlying ht,Instr.sliceBounds]
     ·obtain⟨k2,l2,e2,rfl⟩:=b2
      subst hl
      simp[Instr.sliceAt,Instr.slice,run_underlying ht,Instr.sliceBounds,e2,Instr.sliceBound,asIntOf,hc.2.2,c1]
     ·obtain⟨k1,l1,e1,rfl⟩:=b1
      subst hh'
      have c2:l≤(s.size:Int):=by omega
      simp[Instr.sliceAt,Instr.slice,run_underlying ht,Instr.sliceBounds,e1,Instr.sliceBound,asIntOf,hc.1,c2]
     ·obtain⟨k1,l1,e1,rfl⟩:=b1
      obtain⟨k2,l2,e2,rfl⟩:=b2
      have c3:l≤max hh 0:=by omega
      simp[Instr.sliceAt,Instr.slice,run_underlying ht,Instr.sliceBounds,e1,e2,Instr.sliceBound,asIntOf,hc.1,hc.2.2,c1,c3]
    ·cases h
   ·cases h
  ·split at h
   ·rename_i hl hh'
    obtain⟨u,h1,h2⟩:=EC (hev y) (mb hev hl) (mb hev hh') h
    exact⟨u,cW h1,h2⟩
   ·cases h
 case call c=>
  obtain⟨callee,args,argTypes⟩:=c
  simp only at h⊢
  split at h
  ·split at h
   ·rename_i y t ha hT
    have ha':args=#[y]:=by rw[←Array.toList_inj,ha]
    have hT':argTypes=#[t]:=by rw[←Array.toList_inj,hT]
    subst ha';subst hT'
    split at h
    ·rename_i e ht
     rw[zL]at h
     obtain⟨n,hn,rfl⟩:=h
     refine⟨.int .i64 n,?_,.sc⟩
     have:=Is (P:=E.P) ht (hev y) hn ty
     simp[resolve,invoke,builtin,this]
    ·rename_i s ht hy
     simp only[zB]at h
     subst h
     refine⟨_,?_,.sc⟩
     rw[show (Value.int IntKind.i64 (s.size:Int))=goInt s.size from rfl]
     simp[resolve,invoke,builtin,Builtin.len_,run_underlying ht,fS hy (hev y)]
    ·cases h
   ·cases h
  ·split at h
   ·rename_i y t ha hT
    have ha':args=#[y]:=by rw[←Array.toList_inj,ha]
    have hT':argTypes=#[t]:=by rw[←Array.toList_inj,hT]
    subst ha';subst hT'
    unfold y6 at h
    split at h
    ·rename_i e ht
     rw[zL]at h
     obtain⟨n,hn,rfl⟩:=h
     refine⟨.int .i64 n,?_,.sc⟩
     have:=JB (P:=E.P) ht (hev y) hn ty
     simp[resolve,invoke,builtin,this]
    ·cases h
   ·cases h
  ·have hmax:∃r,(Builtin.max_ argTypes ty (args.map rho)).run E.P w= .ok r w∧x= .sc r:=by
    unfold mO at h
    split at h
    ·rename_i k a r hr
     cases hl:args.toList with
     |nil=>rw[hl]at hr;simp at hr
     |cons q qs=>
      rw[hl]at hr
      simp only[wD,vZ]at hr
      obtain⟨hq,rfl⟩:=hr
      obtain⟨r,h1,h2⟩:=pJ (w:=w) (ρ:=ρ) (H:=H) (ok:=ok) (E:=E) (vs:=qs.map rho) (by simp) (fun i c a hi ha=>by
       rw[zR,zL]at hi ha
       obtain⟨p,hp,rfl⟩:=hi
       obtain⟨p',hp',rfl⟩:=ha
       rw[hp]at hp'
       simp only[zB]at hp'
       subst hp'
       exact hev _) h
      refine⟨r,?_,h2⟩
      simp only[Builtin.max_,Array.toList_map,hl,wD,fS hq (hev q)]
      exact h1
    ·cases h
   obtain⟨r,h1,rfl⟩:=hmax
   exact⟨r,by simp[resolve,invoke,builtin,h1],.sc⟩
  ·have hmin:∃r,(Builtin.min_ argTypes ty (args.map rho)).run E.P w= .ok r w∧x= .sc r:=by
    unfold LB at h
    split at h
    ·rename_i k a r hr
     cases hl:args.toList with
     |nil=>rw[hl]at hr;simp at hr
     |cons q qs=>
      rw[hl]at hr
      simp only[wD,vZ]at hr
      obtain⟨hq,rfl⟩:=hr
      obtain⟨r,h1,h2⟩:=pi (w:=w) (ρ:=ρ) (H:=H) (ok:=ok) (E:=E) (vs:=qs.map rho) (by simp) (fun i c a hi ha=>by
       rw[zR,zL]at hi ha
       obtain⟨p,hp,rfl⟩:=hi
       obtain⟨p',hp',rfl⟩:=ha
       rw[hp]at hp'
       simp only[zB]at hp'
       subst hp'
       exact hev _) h
      refine⟨r,?_,h2⟩
      simp only[Builtin.min_,Array.toList_map,hl,wD,fS hq (hev q)]
      exact h1
    ·cases h
   obtain⟨r,h1,rfl⟩:=hmin
   exact⟨r,by simp[resolve,invoke,builtin,h1],.sc⟩
  ·cases h
end
open Go.RowKit
section
variable {E:Env} {w w':World} {ρ:aW} {H:ah} {ok:Nat→Prop}
theorem Good.row_lt (g:Good E w ρ H ok) {p:Nat} (h:E.row=some p):p<w.heap.size:=by
 obtain⟨_,_,_,_,_,_,⟨hp,_⟩,_⟩:=g.inv.2 p h
 exact (zW.1 hp).1
theorem Inv.keep {row src:Option Nat} {ok':Nat→Prop} (h:Inv row src ok w) (hrow:∀p,row=some p→w'.heap[p]?=w.heap[p]?) (hok:∀b,ok b→ok' b) (hb:∀b,ok b→w'.heap[b]?=w.heap[b]?):Inv row src ok' w':=by
 refine⟨⟨fun b hs=>hok b (h.1.1 b hs),fun g hg=>⟨hok g (h.1.2 g hg).1,?_⟩⟩,fun p hp=>?_⟩
 ·obtain⟨t,p,hc⟩:=(h.1.2 g hg).2
  exact⟨t,p,(World.cell?_of_block (w:=w) (hb g (h.1.2 g hg).1)).trans hc⟩
 obtain⟨cur,A,len,c,at_,ty,h1,h2,h3,h4⟩:=h.2 p hp
 refine⟨cur,A,len,c,at_,ty,⟨(hrow p hp).trans h1.1,h1.2⟩,h2,h3,fun i hi=>?_⟩
 obtain⟨ad,x,e1,e2,e3,e4,e5⟩:=h4 i hi
 exact⟨ad,x,e1,e2,e3,(World.cell?_of_block (w:=w) (by rw[fq];exact hb _ (h.1.1 _ e2))).trans e4,e5⟩
theorem ObjOk.lt {o:AObj} {b c:Nat} (h:ObjOk w ρ H ok o (some (b,c))):b<w.heap.size:=by
 rcases h with⟨_,hb,_⟩|⟨_,_,_,_,hb,_⟩|⟨_,_,⟨_,hb⟩|⟨_,_,_,_,_,_,hb,_⟩⟩<;>exact (zW.1 hb).1
theorem ObjOk.ext {ρ':aW} {H':ah} {ok':Nat→Prop} (x:Ext w ρ H ok w' ρ' H' ok') {o:AObj} {pl:Option (Nat×Nat)} (h:ObjOk w ρ H ok o pl) (hb:∀b c,pl=some (b,c)→w'.heap[b]?=w.heap[b]?):ObjOk w' ρ' H' ok' o pl:=by
 match pl,h with
 |none,h=>exact h
 |some (b,cap),h=>
  rcases h with⟨cur,h1,h2,h3,h4,h5⟩|⟨hc,hk,ents,clk,h1,h2,h3,h4⟩|⟨hc,hk,⟨h1,h2⟩|⟨m,clk,seen,ents,c1,c2,h1,h2,h3,h4,h5⟩⟩
  ·refine .inl ⟨cur,(hb b cap rfl).trans h1,h2,h3,h4,fun i e j a he ha=>?_⟩
   obtain⟨c,c1,c2,c3⟩:=h5 i e j a he ha
   exact⟨c,c1,c2,c3.ext x⟩
  ·refine .inr (.inl ⟨hc,hk,ents,clk,(hb b cap rfl).trans h1,h2,h3,fun i y e hy he=>?_⟩)
   obtain⟨a,ha,hr⟩:=h4 i y e hy he
   exact⟨a,ha,hr.ext x⟩
  ·exact .inr (.inr ⟨hc,hk,.inl ⟨h1,(hb b cap rfl).trans h2⟩⟩)
  ·exact .inr (.inr ⟨hc,hk,.inr ⟨m,clk,seen,ents,c1,c2,(hb b cap rfl).trans h1,x.oks _ h2,(x.blk _ h2).trans h3,h4,h5⟩⟩)
theorem Good.step (g:Good E w ρ H ok) {ok':Nat→Prop} (X:Nat→Prop) (hos:w'.os=w.os) (htape:w'.tape=w.tape) (hout:w'.output=w.output) (hsize:w.heap.size≤w'.heap.size)
  (hblk:∀b,b<w.heap.size→¬X b→w'.heap[b]?=w.heap[b]?)
  (hX:∀b,X b→¬ok b∧(∀(id:Nat) (o:AObj) (c:Nat),H[id]?=some (some o)→ρ id≠some (b,c))∧some b≠E.row∧(E.W b∨E.w0.heap.size≤b))
  (hok:∀b,ok b→ok' b) (hok':∀b,ok' b→ok b∨(w.heap.size≤b∧b<w'.heap.size)):Good E w' ρ H ok'∧Ext w ρ H ok w' ρ H ok':=by
 have hokb:∀b,ok b→w'.heap[b]?=w.heap[b]?:=fun b hb=>hblk b (g.oks b hb).1 (fun hx=>(hX b hx).1 hb)
 have hx:Ext w ρ H ok w' ρ H ok':=⟨fun id o h=> .inr ⟨o,h,rfl,rfl,zZ _⟩,fun _ h=>h,hok,hokb⟩
 have hlive:∀(id:Nat) (o:AObj) (b c:Nat),H[id]?=some (some o)→ρ id=some (b,c)→w'.heap[b]?=w.heap[b]?:=fun id o b c ho hρ=>by
  have hobj:=g.obj id o ho
  rw[hρ]at hobj
  exact hblk b hobj.lt (fun hx=>(hX b hx).2.1 id o c ho hρ)
 have hrow:∀p,E.row=some p→w'.heap[p]?=w.heap[p]?:=fun p hp=>hblk p (g.row_lt hp) (fun hx=>(hX p hx).2.2.1 hp.symm)
 refine⟨⟨hos.trans g.os,htape.trans g.tape,hout.trans g.output,Nat.le_trans g.size hsize,fun b hb hW hr=>?_,g.inv.keep hrow hok hokb,fun b hb=>?_,fun id o b c ho hρ=>?_,g.inj,g.len,fun id o ho=>?_⟩,hx⟩
 ·rw[hblk b (Nat.lt_of_lt_of_le hb g.size) (fun hx=>?_)]
  ·exact g.blk b hb hW hr
  ·rcases (hX b hx).2.2.2 with h|h
   ·exact hW h
   ·omega
 ·rcases hok' b hb with h|⟨h1,h2⟩
  ·obtain⟨a1,a2,a3⟩:=g.oks b h
   exact⟨Nat.lt_of_lt_of_le a1 hsize,a2,a3⟩
  ·exact⟨h2,fun hr=>by have:=g.row_lt hr.symm;omega,.inr (Nat.le_trans g.size h1)⟩
 ·obtain⟨a1,a2,a3⟩:=g.own id o b c ho hρ
  refine⟨fun hb=>?_,a2,a3⟩
  rcases hok' b hb with h|⟨h1,_⟩
  ·exact a1 h
  ·have hobj:=g.obj id o ho
   rw[hρ]at hobj
   have:=hobj.lt
   omega
 ·exact (g.obj id o ho).ext hx (fun b c hρ=>hlive id o b c ho hρ)
def fK (ρ:aW) (i:Nat) (x:Option (Nat×Nat)):aW:=fun j=>if j=i then x else ρ j
theorem pX {H:ah} {x:Option AObj} {id:Nat} {o:AObj} (h:(H++[x])[id]?=some (some o)):H[id]?=some (some o)∨(id=H.length∧x=some o):=by
 rcases Nat.lt_or_ge id H.length with hlt|hge
 ·rw[zD hlt]at h;exact .inl h
 ·rw[zN hge]at h
  have h0:id-H.length=0:=by
   rcases wR (id-H.length)with h0|h0
   ·exact h0
   ·rw[List.getElem?_eq_none (by simp;omega)]at h;cases h
  rw[h0]at h
  exact .inr ⟨by omega,by simpa using h⟩
theorem rW {H:ah} {id:Nat} {x:Option AObj} (h:H[id]?=some x):id<H.length:=(gsI h)
theorem F6 {H:ah} {x y:Option AObj} {id:Nat} (h:H[id]?=some y):(H++[x])[id]?=some y:=by rw[zD (rW h)];exact h
theorem cO {H:ah} {x:Option AObj}:(H++[x])[H.length]?=some x:=by simp
theorem Good.add (g:Good E w ρ H ok) (o:AObj) (pl:Option (Nat×Nat)) (hobj:ObjOk w ρ H ok o pl) (hlen:∀(e:List AV),e∈o.es→e.length=o.k)
  (hpl:∀b c,pl=some (b,c)→¬ok b∧(∀(id:Nat) (o:AObj) (c:Nat),H[id]?=some (some o)→ρ id≠some (b,c))∧some b≠E.row∧(E.W b∨E.w0.heap.size≤b)):
  Good E w (fK ρ H.length pl) (H++[some o]) ok∧Ext w ρ H ok w (fK ρ H.length pl) (H++[some o]) ok:=by
 have hρ':∀(id:Nat) (y:Option AObj),H[id]?=some y→fK ρ H.length pl id=ρ id:=fun id y h=>by
  have:=rW h
  unfold fK
  rw[if_neg (by omega)]
 have hρn:fK ρ H.length pl H.length=pl:=by simp[fK]
 have hx:Ext w ρ H ok w (fK ρ H.length pl) (H++[some o]) ok:=⟨fun id o' h=> .inr ⟨o',F6 h,hρ' id _ h,rfl,zZ _⟩,fun id h=>F6 h,fun _ h=>h,fun _ _=>rfl⟩
 refine⟨⟨g.os,g.tape,g.output,g.size,g.blk,g.inv,g.oks,fun id o' b c ho hρ=>?_,fun id o1 b c id' o2 c' ho hρ ho' hρ2=>?_,fun id o' ho=>?_,fun id o' ho=>?_⟩,hx⟩
 ·rcases pX ho with h|⟨rfl,h⟩
  ·rw[hρ' id _ h]at hρ;exact g.own id o' b c h hρ
  ·rw[hρn]at hρ
   obtain⟨a1,_,a2,a3⟩:=hpl b c hρ
   exact⟨a1,a2,a3⟩
 ·rcases pX ho with h|⟨rfl,h⟩<;>rcases pX ho' with h'|⟨rfl,h'⟩
  ·rw[hρ' id _ h]at hρ
   rw[hρ' id' _ h']at hρ2
   exact g.inj id o1 b c id' o2 c' h hρ h' hρ2
  ·rw[hρ' id _ h]at hρ
   rw[hρn]at hρ2
   exact absurd hρ ((hpl b c' hρ2).2.1 id o1 c h)
  ·rw[hρn]at hρ
   rw[hρ' id' _ h']at hρ2
   exact absurd hρ2 ((hpl b c hρ).2.1 id' o2 c' h')
  ·rfl
 ·rcases pX ho with h|⟨rfl,h⟩
  ·exact g.len id o' h
  ·simp only[zB]at h;subst h;exact hlen
 ·rcases pX ho with h|⟨rfl,h⟩
  ·rw[hρ' id _ h];exact (g.obj id o' h).ext hx (fun _ _ _=>rfl)
  ·simp only[zB]at h;subst h;rw[hρn];exact hobj.ext hx (fun _ _ _=>rfl)
theorem kG {H:ah} {i id:Nat} {o:AObj} (h:(H.set i none)[id]?=some (some o)):id≠i∧H[id]?=some (some o):=by
 rw[wO]at h
 split at h
 ·split at h<;>simp at h
 ·rename_i hne;exact⟨fun e=>hne e.symm,h⟩
theorem Good.kill (g:Good E w ρ H ok) (i:Nat) (ok':Nat→Prop) (hok:∀b,ok b→ok' b) (hok':∀b,ok' b→ok b∨∃o c,H[i]?=some (some o)∧ρ i=some (b,c)∧¬E.W b):
  Good E w ρ (H.set i none) ok'∧Ext w ρ H ok w ρ (H.set i none) ok':=by
 have hx:Ext w ρ H ok w ρ (H.set i none) ok':=by
  refine⟨fun id o h=>?_,fun id h=>?_,hok,fun _ _=>rfl⟩
  ·by_cases hi:i=id
   ·subst hi;exact .inl (by rw[wO];simp[rW h])
   ·exact .inr ⟨o,by rw[wO,if_neg hi];exact h,rfl,rfl,zZ _⟩
  ·by_cases hi:i=id
   ·subst hi;rw[wO];simp[rW h]
   ·rw[wO,if_neg hi];exact h
 refine⟨⟨g.os,g.tape,g.output,g.size,g.blk,g.inv.keep (fun _ _=>rfl) hok (fun _ _=>rfl),fun b hb=>?_,fun id o b c ho hρ=>?_,fun id o1 b c id' o2 c' ho hρ ho' hρ2=>?_,fun id o ho=>?_,fun id o ho=>?_⟩,hx⟩
 ·rcases hok' b hb with h|⟨o,c,h1,h2,h3⟩
  ·exact g.oks b h
  ·have hobj:=g.obj i o h1
   rw[h2]at hobj
   obtain⟨a1,a2,a3⟩:=g.own i o b c h1 h2
   refine⟨hobj.lt,a2,?_⟩
   rcases a3 with a3|a3
   ·exact absurd a3 h3
   ·exact .inr a3
 ·obtain⟨hne,h⟩:=kG ho
  obtain⟨a1,a2,a3⟩:=g.own id o b c h hρ
  refine⟨fun hb=>?_,a2,a3⟩
  rcases hok' b hb with hk|⟨o',c',h1,h2,_⟩
  ·exact a1 hk
  ·exact hne (g.inj id o b c i o' c' h hρ h1 h2)
 ·exact g.inj id o1 b c id' o2 c' (kG ho).2 hρ (kG ho').2 hρ2
 ·exact g.len id o (kG ho).2
 ·exact (g.obj id o (kG ho).2).ext hx (fun _ _ _=>rfl)
end
open Go.RowKit
theorem oa {α:Type} (l vs:List α) (p q:Nat) (hp:p+vs.length≤l.length):
  (l.take p++vs++l.drop (p+vs.length))[q]?=if q<p then l[q]? else if q<p+vs.length then vs[q-p]? else l[q]?:=by
 have h1:(l.take p).length=p:=by simp;omega
 split
 ·rw[vJ,zD (by omega),vE,if_pos (by assumption)]
 ·split
  ·rw[vJ,zN (by omega),zD (by omega),h1]
  ·rw[zN (by simp;omega),uG]
   congr 1
   simp
   omega
section
variable {E:Env} {w:World} {ρ:aW} {H:ah} {ok:Nat→Prop}
theorem Lp {v:Value} (h:v.oneCell'=true):v.cells=#[v]:=by
 cases v<;>first|rfl|(simp[Value.oneCell']at h)
theorem pH {v:Value} {x:AV} (r:Rep w ρ H ok v x) (h:x.cellish=true):v.oneCell'=true:=by
 cases r<;>first|rfl|assumption|(simp[AV.cellish]at h;done)|(simpa[AV.cellish]using h)
theorem oS {v:Value} {x:AV} {xs:List AV} (r:Rep w ρ H ok v x) (h:x.cells?=some xs):
  v.cells.size=xs.length∧∀(i:Nat) (c:Value) (a:AV),v.cells[i]?=some c→xs[i]?=some a→c.oneCell'=true∧Rep w ρ H ok c a:=by
 have single:x.cellish=true→xs=[x]→v.cells.size=xs.length∧∀(i:Nat) (c:Value) (a:AV),v.cells[i]?=some c→xs[i]?=some a→c.oneCell'=true∧Rep w ρ H ok c a:=by
  intro hc hxs
  subst hxs
  have h1:=pH r hc
  rw[Lp h1]
  refine⟨rfl,fun i c a hi ha=>?_⟩
  match i,hi,ha with
  |0,hi,ha=>
   simp at hi ha
   subst hi;subst ha
   exact⟨h1,r⟩
 unfold AV.cells? at h
 split at h
 ·split at h
  ·rename_i hall
   simp only[zB]at h
   subst h
   cases r with
   |agg hn hc=>exact⟨hn,fun i c a hi ha=>⟨pH (hc i c a hi ha) (zS.1 hall a (zE ha)),hc i c a hi ha⟩⟩
  ·cases h
 ·cases h
 ·cases h
 ·split at h
  ·rename_i hc
   simp only[zB]at h
   exact single hc h.symm
  ·cases h
def pW (P:Program) (t:TypeId) (H:ah) (a x:AV):Option ah:=
 match a,x.cells? with
 | .ref id i j,some xs=>match H[id]? with
  |some (some o)=>match o.es[i]? with
   |some e=>if aE P t∧xs.length=ay P t∧j+xs.length≤e.length then some (H.set id (some {o with es:=o.es.set i (e.take j++xs++e.drop (j+xs.length))}))else none
   |none=>none
  |_=>none
 |_,_=>none
theorem tz {w:World} {b:Nat} {cur new:Array Value} {t:TypeId} (hb:w.heap[b]?=some (.cells cur t (0,0))):(w.setRow b new).heap[b]?=some (.cells new t (0,0)):=setRow_heap w b cur new t (0,0) hb
theorem jc {w:World} {b b':Nat} {new:Array Value} (h:b'≠b):(w.setRow b new).heap[b']?=w.heap[b']?:=by
 simp only[World.setRow,Array.getElem?_modify]
 rw[if_neg (by omega)]
theorem pu {w:World} {b:Nat} {new:Array Value}:(w.setRow b new).heap.size=w.heap.size:=by simp[World.setRow]
theorem jF {H:ah} {i id:Nat} {o o':AObj} (hi:i<H.length) (h:(H.set i (some o))[id]?=some (some o')):(id=i∧o'=o)∨(id≠i∧H[id]?=some (some o')):=by
 rw[wO]at h
 split at h
 ·rename_i he
  simp only[zB]at h
  first|exact .inl ⟨he.symm,h.symm⟩|(rw[if_pos (by omega)]at h;simp only[zB]at h;exact .inl ⟨he.symm,h.symm⟩)|exact .inl ⟨he,h.symm⟩
 ·rename_i hne;exact .inr ⟨fun e=>hne e.symm,h⟩
theorem Fv (g:Good E w ρ H ok) {t:TypeId} {va vx:Value} {a x:AV} {H':ah} (ra:Rep w ρ H ok va a) (rx:Rep w ρ H ok vx x) (h:pW E.P t H a x=some H'):
  ∃w',(Instr.storeAt t va vx).run E.P w= .ok () w'∧Good E w' ρ H' ok∧Ext w ρ H ok w' ρ H' ok:=by
 unfold pW at h
 split at h
 ·rename_i id i j xs hxs
  split at h
  ·rename_i o ho
   split at h
   ·rename_i e he
    split at h
    ·rename_i hc
     obtain⟨hk,hsz,hle⟩:=hc
     simp only[zB]at h
     subst h
     cases ra with
     |refDead hd _=>rw[ho]at hd;cases hd
     |@ref _ _ _ o' b cap ho' hρ hcap=>
     rw[ho]at ho'
     simp only[zB]at ho'
     subst ho'
     have hobj:=g.obj id o ho
     rw[hρ]at hobj
     obtain⟨cur,hb,hs,hl,hm,hcell⟩:=hobj.cells hcap
     obtain⟨hvs,hvr⟩:=oS rx hxs
     have hek:e.length=o.k:=g.len id o ho e (zE he)
     have hil:i<o.es.length:=(gsI he)
     have hbound:i*o.k+o.k≤cur.size:=by
      rw[hs,←Nat.succ_mul]
      exact wM _ (by omega)
     have hvl:vx.cells.toList.length=xs.length:=by simpa using hvs
     have h1c:∀v∈vx.cells.toList,v.oneCell'=true:=fun v hv=>by
      obtain⟨q,hq⟩:=wN hv
      have hlt:q<xs.length:=by have:=(gsI hq);omega
      exact (hvr q v _ (by simpa using hq) (zF hlt)).1
     have hst:=run_storeCells_at E.P b (i*o.k+j) o.ty vx.cells.toList 0 cur w hb (by rw[hvl];omega) h1c
     simp only[Nat.add_zero]at hst
     generalize hnew:(cur.toList.take (i*o.k+j)++vx.cells.toList++cur.toList.drop (i*o.k+j+vx.cells.toList.length)).toArray=new at hst
     have hnewget:∀q,new[q]?=if q<i*o.k+j then cur[q]? else if q<i*o.k+j+xs.length then vx.cells[q-(i*o.k+j)]? else cur[q]?:=fun q=>by
      subst hnew
      have:=oa cur.toList vx.cells.toList (i*o.k+j) q (by simp[hvl]at*;omega)
      rw[hvl]at this⊢
      simpa using this
     have hnewsize:new.size=cur.size:=by
      subst hnew
      simp only[List.size_toArray,zK,zY,wP,Array.length_toList]at*
      omega
     have hidl:=rW ho
     have hx:Ext w ρ H ok (w.setRow b new) ρ (H.set id (some {o with es:=o.es.set i (e.take j++xs++e.drop (j+xs.length))})) ok:=by
      refine⟨fun id' o' h'=>?_,fun id' h'=>?_,fun _ h=>h,fun b' hb'=>jc (fun e=>(g.own id o b cap ho hρ).1 (e▸hb'))⟩
      ·right
       by_cases hi:id=id'
       ·subst hi
        rw[ho]at h'
        simp only[zB]at h'
        subst h'
        exact⟨{o with es:=o.es.set i (e.take j++xs++e.drop (j+xs.length))},by rw[wO,if_pos rfl,if_pos hidl],rfl,rfl,by simp⟩
       ·exact⟨o',by rw[wO,if_neg hi];exact h',rfl,rfl,zZ _⟩
      ·by_cases hi:id=id'
       ·subst hi;rw[ho]at h';cases h'
       ·rw[wO,if_neg hi];exact h'
     have hne:∀(id':Nat) (o':AObj) (b' c':Nat),id'≠id→H[id']?=some (some o')→ρ id'=some (b',c')→b'≠b:=fun id' o' b' c' hne h' hρ' e=>by
      subst e;exact hne (g.inj id' o' b' c' id o cap h' hρ' ho hρ)
     refine⟨w.setRow b new,?_,⟨g.os,g.tape,g.output,?_,fun b' hb' hW hr=>?_,g.inv.keep (fun p hp=>jc (fun e=>(g.own id o b cap ho hρ).2.1 (by rw[←e];exact hp.symm))) (fun _ h=>h) hx.blk,fun b' hb'=>by rw[pu];exact g.oks b' hb',fun id' o' b' c' h' hρ'=>?_,
      fun id1 o1 b1 c1 id2 o2 c2 h1 r1 h2 r2=>?_,fun id' o' h'=>?_,fun id' o' h'=>?_⟩,hx⟩
     ·simp only[Instr.storeAt,Instr.sureAddr,Sem.run_bind,Sem.run_pure,Result.andThen_ok,storeVar,bB hk]
      rw[Sem.run_ite,if_neg (by omega)]
      exact hst
     ·rw[pu];exact g.size
     ·rw[jc (fun e=>?_)]
      ·exact g.blk b' hb' hW hr
      ·rcases (g.own id o b cap ho hρ).2.2 with h|h
       ·exact hW (e▸h)
       ·omega
     ·rcases jF hidl h' with⟨rfl,rfl⟩|⟨hne',h'⟩
      ·exact g.own _ o b' c' ho hρ'
      ·exact g.own _ _ _ _ h' hρ'
     ·rcases jF hidl h1 with⟨rfl,rfl⟩|⟨hne1,h1'⟩<;>rcases jF hidl h2 with⟨rfl,rfl⟩|⟨hne2,h2'⟩
      ·rfl
      ·exact g.inj _ _ _ _ _ _ _ ho r1 h2' r2
      ·exact g.inj _ _ _ _ _ _ _ h1' r1 ho r2
      ·exact g.inj _ _ _ _ _ _ _ h1' r1 h2' r2
     ·rcases jF hidl h' with⟨rfl,rfl⟩|⟨hne',h'⟩
      ·intro e' he'
       rcases List.mem_or_eq_of_mem_set he' with hm|rfl
       ·exact g.len _ o ho e' hm
       ·simp;omega
      ·exact g.len _ _ h'
     ·rcases jF hidl h' with⟨rfl,rfl⟩|⟨hne',h'⟩
      ·rw[hρ]
       refine .inl ⟨new,tz hb,hnewsize.trans hs,by simpa using hl,hm,fun i' e' j' a' hi' hj'=>?_⟩
       simp only at hi'⊢
       rw[wO]at hi'
       split at hi'
       ·rename_i hii
        subst hii
        simp only[zB]at hi'
        subst hi'
        rw[oa e xs j j' hle]at hj'
        rw[hnewget]
        split at hj'
        ·rename_i hlt
         rw[if_pos (by omega)]
         obtain⟨c,c1,c2,c3⟩:=hcell i e j' a' he hj'
         exact⟨c,c1,c2,c3.ext hx⟩
        ·split at hj'
         ·rename_i hge hlt
          rw[if_neg (by omega),if_pos (by omega),show i*o.k+j'-(i*o.k+j)=j'-j from by omega]
          have hq:j'-j<vx.cells.size:=by omega
          have hv:=zX hq
          obtain⟨r1,r2⟩:=hvr _ _ _ hv hj'
          exact⟨_,hv,r1,r2.ext hx⟩
         ·rename_i hge hge2
          rw[if_neg (by omega),if_neg (by omega)]
          obtain⟨c,c1,c2,c3⟩:=hcell i e j' a' he hj'
          exact⟨c,c1,c2,c3.ext hx⟩
       ·rename_i hii
        have hj'k:j'<o.k:=by
         rw[←g.len _ o ho e' (zE hi')]
         exact (zM.1 hj').1
        obtain⟨c,c1,c2,c3⟩:=hcell i' e' j' a' hi' hj'
        refine⟨c,?_,c2,c3.ext hx⟩
        rw[hnewget]
        rcases Nat.lt_or_ge i' i with hlt|hge
        ·have:i'*o.k+o.k≤i*o.k:=by rw[←Nat.succ_mul];exact wM _ hlt
         rw[if_pos (by omega)]
         exact c1
        ·have:i*o.k+o.k≤i'*o.k:=by rw[←Nat.succ_mul];exact wM _ (by omega)
         rw[if_neg (by omega),if_neg (by omega)]
         exact c1
      ·exact (g.obj _ _ h').ext hx (fun b' c' hρ'=>jc (hne _ _ _ _ hne' h' hρ'))
    ·cases h
   ·cases h
  ·cases h
 ·cases h
theorem Mi (w:World) (o:Obj) {b:Nat} (h:b<w.heap.size):(w.alloc o).heap[b]?=w.heap[b]?:=Below.heap_alloc w o b h
theorem Good.alloc (g:Good E w ρ H ok) (o:Obj) {ok':Nat→Prop} (hok:∀b,ok b→ok' b) (hok':∀b,ok' b→ok b∨b=w.heap.size):Good E (w.alloc o) ρ H ok'∧Ext w ρ H ok (w.alloc o) ρ H ok':=
 g.step (fun _=>False) rfl rfl rfl (by simp) (fun b hb _=>Mi w o hb) (fun _ h=>h.elim) hok (fun b hb=>(hok' b hb).imp id (fun e=>by subst e;simp))
theorem Good.newObj (g:Good E w ρ H ok) (o:AObj) (cap:Nat) (cur:Array Value) (hs:cur.size=cap*o.k) (hl:o.es.length≤cap) (hm:cap≤maxLen) (hlen:∀(e:List AV),e∈o.es→e.length=o.k)
  (hc:∀(i:Nat) (e:List AV) (j:Nat) (a:AV),o.es[i]?=some e→e[j]?=some a→∃c,cur[i*o.k+j]?=some c∧c.oneCell'=true∧Rep w ρ H ok c a):
  Good E (w.alloc (.cells cur o.ty)) (fK ρ H.length (some (w.heap.size,cap))) (H++[some o]) ok∧Ext w ρ H ok (w.alloc (.cells cur o.ty)) (fK ρ H.length (some (w.heap.size,cap))) (H++[some o]) ok:=by
 obtain⟨g1,x1⟩:=g.alloc (.cells cur o.ty) (ok':=ok) (fun _ h=>h) (fun _ h=> .inl h)
 obtain⟨g2,x2⟩:=g1.add o (some (w.heap.size,cap)) (.inl ⟨cur,heap_alloc_new w _,hs,hl,hm,fun i e j a hi hj=>by
  obtain⟨c,c1,c2,c3⟩:=hc i e j a hi hj
  exact⟨c,c1,c2,c3.ext x1⟩⟩) hlen (fun b c hb=>by
   simp only[zB,Prod.mk.injEq]at hb
   obtain⟨rfl,rfl⟩:=hb
   refine⟨fun h=>by have:=(g.oks _ h).1;omega,fun id o' c' h hρ=>?_,fun hr=>by have:=g.row_lt hr.symm;omega,.inr g.size⟩
   have hobj:=g.obj id o' h
   rw[hρ]at hobj
   have:=hobj.lt
   omega)
 exact⟨g2,x1.trans x2⟩
def cv (P:Program) (t:TypeId):Option (List AV):=(RB P t).bind fun vs=>if vs.all (·.oneCell')&&vs.length==ay P t then some (vs.map nC)else none
theorem jk (v:Value):Rep w ρ H ok v (nC v):=by
 unfold nC
 split
 ·exact .nil
 ·exact .sc
theorem fZ {P:Program} {t:TypeId} {zs:List AV} (h:cv P t=some zs):
  ∃i z,P.info? t=some i∧i.zero=some z∧z.cells.size=ay P t∧i.size=ay P t∧zs=z.cells.toList.map nC∧∀v∈z.cells.toList,v.oneCell'=true:=by
 unfold cv RB at h
 rw[vK]at h
 obtain⟨vs,hvs,h⟩:=h
 rw[zL]at hvs
 obtain⟨z,hz,rfl⟩:=hvs
 rw[vK]at hz
 obtain⟨i,hi,hz⟩:=hz
 split at h
 ·rename_i hc
  simp only[zG,zS,beq_iff_eq]at hc
  simp only[zB]at h
  exact⟨i,z,hi,hz,by simpa using hc.2,by simp[ay,hi],h.symm,hc.1⟩
 ·cases h
theorem gc {P:Program} {t:TypeId} {i:TypeInfo} {z:Value} (hi:P.info? t=some i) (hz:i.zero=some z) (w:World):(zeroValue t).run P w= .ok z w:=by
 simp[zeroValue,nH hi,hz]
theorem Gm (g:Good E w ρ H ok) {t:TypeId} {zs:List AV} (h:cv E.P t=some zs):
  ∃v w' ρ',(Instr.alloc t true (.tuple #[])).run E.P w= .ok v w'∧Good E w' ρ' (H++[some ⟨t,ay E.P t,[zs]⟩]) ok∧Ext w ρ H ok w' ρ' (H++[some ⟨t,ay E.P t,[zs]⟩]) ok∧Rep w' ρ' (H++[some ⟨t,ay E.P t,[zs]⟩]) ok v (.ref H.length 0 0):=by
 obtain⟨i,z,hi,hz,hsz,_,hzs,h1⟩:=fZ h
 obtain⟨g',x'⟩:=g.newObj ⟨t,ay E.P t,[zs]⟩ 1 z.cells (by simpa using hsz) (by simp) (by simp[maxLen]) (by simp[hzs,hsz]) (fun i' e j a hi' hj=>by
  match i',hi' with
  |0,hi'=>
   simp only[wQ,zB]at hi'
   subst hi'
   rw[hzs,zR,zL]at hj
   obtain⟨c,hc,rfl⟩:=hj
   refine⟨c,by simpa using hc,h1 c (zE hc),jk c⟩)
 refine⟨.pointer (some ⟨w.heap.size,0,none⟩),_,_,?_,g',x',?_⟩
 ·simp[Instr.alloc,gc hi hz,newVar,newRow]
 ·have:=Rep.ref (w:=w.alloc (.cells z.cells t)) (ρ:=fK ρ H.length (some (w.heap.size,1))) (H:=H++[some ⟨t,ay E.P t,[zs]⟩]) (ok:=ok) (id:=H.length) (i:=0) (j:=0) cO (b:=w.heap.size) (cap:=1) (by simp[fK]) (by simp[maxLen])
  simpa using this
theorem NK (g:Good E w ρ H ok) {t:TypeId} {v:Value} {x:AV} {xs:List AV} (r:Rep w ρ H ok v x) (h:x.cells?=some xs):
  ∃u w' ρ',(Instr.box t v).run E.P w= .ok u w'∧Good E w' ρ' (H++[some ⟨t,xs.length,[xs]⟩]) ok∧Ext w ρ H ok w' ρ' (H++[some ⟨t,xs.length,[xs]⟩]) ok∧Rep w' ρ' (H++[some ⟨t,xs.length,[xs]⟩]) ok u (.ref H.length 0 0):=by
 obtain⟨hs,hr⟩:=oS r h
 obtain⟨g',x'⟩:=g.newObj ⟨t,xs.length,[xs]⟩ 1 v.cells (by simpa using hs) (by simp) (by simp[maxLen]) (by simp) (fun i' e j a hi' hj=>by
  match i',hi' with
  |0,hi'=>
   simp only[wQ,zB]at hi'
   subst hi'
   have hlt:j<v.cells.size:=by rw[hs];exact (gsI hj)
   have hv:=zX hlt
   obtain⟨r1,r2⟩:=hr j _ a hv hj
   exact⟨_,by simp,r1,r2⟩)
 refine⟨.pointer (some ⟨w.heap.size,0,none⟩),_,_,?_,g',x',?_⟩
 ·simp[Instr.box,newVar,newRow]
 ·have:=Rep.ref (w:=w.alloc (.cells v.cells t)) (ρ:=fK ρ H.length (some (w.heap.size,1))) (H:=H++[some ⟨t,xs.length,[xs]⟩]) (ok:=ok) (id:=H.length) (i:=0) (j:=0) cO (b:=w.heap.size) (cap:=1) (by simp[fK]) (by simp[maxLen])
  simpa using this
end
open Go.RowKit
def cI (P:Program) (t:TypeId):Nat:=((P.info? t).map (·.bytes)).getD 0
def jN (P:Program) (e:TypeId) (H:ah):AV→Option (List (List AV))
 | .nil=>some []
 | .sc (.slice _ 0 _)=>some []
 | .list k es=>if k=ay P e then some es else none
 | .sref id lo n=>match H[id]? with
  |some (some o)=>if o.k=ay P e then some ((o.es.drop lo).take n)else none
  |_=>none
 | .full id lo n _=>match H[id]? with
  |some (some o)=>if o.k=ay P e∧lo+n≤o.es.length then some ((o.es.drop lo).take n)else none
  |_=>none
 |_=>none
section
variable {E:Env} {w:World} {ρ:aW} {H:ah} {ok:Nat→Prop}
theorem Dl (g:Good E w ρ H ok) {P:Program} {e:TypeId} {v:Value} {x:AV} {es:List (List AV)} (r:Rep w ρ H ok v x) (h:jN P e H x=some es):
  ∃(A:Option Addr) (c:Nat) (f:Nat→Nat→Value),v= .slice A es.length c∧(∀(e':List AV),e'∈es→e'.length=ay P e)∧
   (es≠[]→∃ad,A=some ad∧∀(i:Nat) (e':List AV) (j:Nat) (a:AV),es[i]?=some e'→e'[j]?=some a→w.cell? (ad.add (i*ay P e+j))=some (f i j)∧(f i j).oneCell'=true∧Rep w ρ H ok (f i j) a):=by
 cases r<;>simp only[jN,reduceCtorEq]at h
 case nil=>simp only[zB]at h;subst h;exact⟨none,0,fun _ _=>undef,rfl,by simp,by simp⟩
 case sc=>
  split at h
  ·rename_i heq;cases heq
  ·rename_i a c heq
   simp only[AV.sc.injEq]at heq
   subst heq
   simp only[zB]at h
   subst h
   exact⟨a,c,fun _ _=>undef,rfl,by simp,by simp⟩
  ·rename_i heq;cases heq
  ·rename_i heq;cases heq
  ·rename_i heq;cases heq
  ·cases h
 case listNil A c k=>
  split at h
  ·simp only[zB]at h;subst h;exact⟨A,c,fun _ _=>undef,rfl,by simp,by simp⟩
  ·cases h
 case list ad n c k es' f hn hnc hok hk hc h1 hr=>
  split at h
  ·rename_i hke
   simp only[zB]at h
   subst h;subst hn;subst hke
   exact⟨some ad,c,f,rfl,hk,fun _=>⟨ad,rfl,fun i e' j a hi hj=>⟨hc i e' j a hi hj,h1 i e' j a hi hj,hr i e' j a hi hj⟩⟩⟩
  ·cases h
 case sref id lo n c o b cap ho hρ hn hc hnc hcap=>
  simp only[ho]at h
  split at h
  ·rename_i hke
   simp only[zB]at h
   subst h
   have hl:((o.es.drop lo).take n).length=n:=by simp;omega
   have hobj:=g.obj id o ho
   rw[hρ]at hobj
   obtain⟨cur,hb,hs,hle,hm,hcell⟩:=hobj.cells hcap
   refine⟨some ⟨b,lo*o.k,none⟩,c,fun i j=>(cur[(lo+i)*o.k+j]?).getD undef,by rw[hl],fun e' he'=>?_,fun _=>⟨_,rfl,fun i e' j a hi hj=>?_⟩⟩
   ·rw[←hke];exact g.len id o ho e' (uB (wV he'))
   ·rw[vE]at hi
    split at hi
    ·rw[uG]at hi
     obtain⟨c',c1,c2,c3⟩:=hcell _ _ _ _ hi hj
     have e1:(cur[(lo+i)*o.k+j]?).getD undef=c':=by rw[c1];rfl
     rw[kU,cell_of_row w b _ cur o.ty (0,0) hb,←hke,show lo*o.k+(i*o.k+j)=(lo+i)*o.k+j from by rw[Nat.add_mul,uD]]
     simp only[e1]
     exact⟨c1,c2,c3⟩
    ·cases hi
  ·cases h
 case srefNil id o ho hρ=>
  simp only[ho]at h
  split at h
  ·simp only[zB,vW,List.take_zero]at h
   subst h
   exact⟨none,0,fun _ _=>undef,rfl,by simp,by simp⟩
  ·cases h
 case srefDead id lo n hd h1=>simp[hd]at h
 case fullDead id lo n N hd h1=>simp[hd]at h
 case full id lo n N o b ho hρ hn hcap=>
  simp only[ho]at h
  split at h
  ·rename_i hc
   obtain⟨hke,hn'⟩:=hc
   simp only[zB]at h
   subst h
   have hl:((o.es.drop lo).take n).length=n:=by simp;omega
   have hobj:=g.obj id o ho
   rw[hρ]at hobj
   obtain⟨cur,hb,hs,hle,hm,hcell⟩:=hobj.cells hcap
   refine⟨some ⟨b,lo*o.k,none⟩,N-lo,fun i j=>(cur[(lo+i)*o.k+j]?).getD undef,by rw[hl],fun e' he'=>?_,fun _=>⟨_,rfl,fun i e' j a hi hj=>?_⟩⟩
   ·rw[←hke];exact g.len id o ho e' (uB (wV he'))
   ·rw[vE]at hi
    split at hi
    ·rw[uG]at hi
     obtain⟨c',c1,c2,c3⟩:=hcell _ _ _ _ hi hj
     have e1:(cur[(lo+i)*o.k+j]?).getD undef=c':=by rw[c1];rfl
     rw[kU,cell_of_row w b _ cur o.ty (0,0) hb,←hke,show lo*o.k+(i*o.k+j)=(lo+i)*o.k+j from by rw[Nat.add_mul,uD]]
     simp only[e1]
     exact⟨c1,c2,c3⟩
    ·cases hi
  ·cases h
theorem qH {P:Program} (base:Nat) (t ty e:TypeId) (i:TypeInfo) (ht:P.underlying t=some (.slice e)) (hi:P.info? e=some i)
  (v:Value) (n k:Nat) (xs:List Value) (hown:w.ownsRow base e k v n xs) (c:Nat):(Builtin.append_ #[t,t] ty #[v,.slice none 0 c]).run P w= .ok v w:=by
 rcases hown.2 with⟨rfl,rfl⟩|⟨b,cap,cur,rfl,_,_,hnc,_⟩
 ·simp[Builtin.append_,run_underlying ht,sizeOf,typeInfo,hi,Builtin.lenOf,Builtin.firstCells]
 ·simp[Builtin.append_,run_underlying ht,sizeOf,typeInfo,hi,Builtin.lenOf,Builtin.firstCells,hnc,storeCells]
theorem uK {k i j:Nat} (h:j<k):(i*k+j) / k=i∧(i*k+j)%k=j:=by
 constructor
 ·rw[Nat.mul_comm,Nat.mul_add_div (by omega),Nat.div_eq_of_lt h];simp
 ·rw[Nat.mul_comm,Nat.mul_add_mod,Nat.mod_eq_of_lt h]
theorem kO {P:Program} {t ty e:TypeId} {i:TypeInfo} {z:Value} (ht:P.underlying t=some (.slice e)) (hi:P.info? e=some i) (hz:i.zero=some z) (hzs:z.cells.size=ay P e) (hsz:0<ay P e)
  {v:Value} {n:Nat} {xs:List Value} (hown:w.ownsRow 0 e (ay P e) v n xs) {A:Option Addr} {m c:Nat} {f:Nat→Nat→Value}
  (hsrc:0<m→∃ad,A=some ad∧∀i j,i<m→j<ay P e→w.cell? (ad.add (i*ay P e+j))=some (f i j)∧(f i j).oneCell'=true)
  (h63:n+m≤maxLen) (hb:(n+m)*i.bytes≤140737488355328):
  ∃v' w' ys,(Builtin.append_ #[t,t] ty #[v,.slice A m c]).run P w= .ok v' w'∧w'.ownsRow 0 e (ay P e) v' (n+m) (xs++ys)∧w.grownBy w' v.ownBlock∧(v'.ownBlock=v.ownBlock∨v'.ownBlock=some w.heap.size)∧
   ys.length=m*ay P e∧∀i j,i<m→j<ay P e→ys[i*ay P e+j]?=some (f i j):=by
 have his:i.size=ay P e:=by simp[ay,hi]
 rcases wR m with hm|hm
 ·subst hm
  rcases A with _|ad
  ·exact⟨v,w,[],qH 0 t ty e i ht hi v n _ xs hown c,by simpa using hown,World.grownBy.refl w _,.inl rfl,by simp,by simp⟩
  ·obtain⟨v',w',h1,h2,h3,_,h5⟩:=run_append_own_at (P:=P) w 0 t ty e i z (ay P e) i.bytes ht hi hz his rfl hzs hsz v n xs hown ad 0 c [] (by simp) (by simp) (by simp) h63 hb (Nat.zero_le _)
   exact⟨v',w',[],h1,h2,h3,h5,by simp,by simp⟩
 ·obtain⟨ad,rfl,hc⟩:=hsrc hm
  have hdm:∀p,p<m*ay P e→p / ay P e<m∧p%ay P e<ay P e:=fun p hp=>⟨Nat.div_lt_of_lt_mul (by rw[Nat.mul_comm];exact hp),Nat.mod_lt _ hsz⟩
  have heq:∀p,p / ay P e*ay P e+p%ay P e=p:=fun p=>Nat.div_add_mod' p _
  obtain⟨v',w',h1,h2,h3,_,h5⟩:=run_append_own_at (P:=P) w 0 t ty e i z (ay P e) i.bytes ht hi hz his rfl hzs hsz v n xs hown ad m c ((List.range (m*ay P e)).map fun p=>f (p / ay P e) (p%ay P e)) (by simp)
   (fun p u hp=>by
    rw[zR,zL]at hp
    obtain⟨q,hq,rfl⟩:=hp
    obtain⟨hlt,rfl⟩:=zM.1 hq
    simp only[List.length_range,List.getElem_range]at hlt⊢
    have:=(hc _ _ (hdm p hlt).1 (hdm p hlt).2).1
    rwa[heq]at this)
   (fun u hu=>by
    obtain⟨p,hp,rfl⟩:=zV.1 hu
    have hlt:=List.mem_range.1 hp
    exact (hc _ _ (hdm p hlt).1 (hdm p hlt).2).2) h63 hb (Nat.zero_le _)
  refine⟨v',w',_,h1,h2,h3,h5,by simp,fun i j hi hj=>?_⟩
  have hlt:i*ay P e+j<m*ay P e:=by
   have:i*ay P e+ay P e≤m*ay P e:=by rw[←Nat.succ_mul];exact wM _ hi
   omega
  simp[hlt,(uK (i:=i) hj).1,(uK (i:=i) hj).2]
def me (P:Program) (t:TypeId) (H:ah) (s x:AV):Option (AV×ah×Nat×Nat):=
 match aT P t with
 |none=>none
 |some e=>match cv P e,jN P e H x with
  |some _,some news=>if ay P e=0 then none else match s with
   | .nil=>some (.sref H.length 0 news.length,H++[some ⟨e,ay P e,news⟩],news.length,cI P e)
   | .sref id 0 n=>match H[id]? with
    |some (some o)=>if o.ty=e∧o.k=ay P e∧n=o.es.length then some (.sref H.length 0 (n+news.length),H.set id none++[some ⟨e,ay P e,o.es++news⟩],n+news.length,cI P e)else none
    |_=>none
   |_=>none
  |_,_=>none
theorem pL {b n c:Nat}:(Value.slice (some ⟨b,0,none⟩) n c).ownBlock=some b:=rfl
theorem rA (g:Good E w ρ H ok) {w':World} {ρ':aW} {v v':Value} {e:TypeId} {k n:Nat} {zs:List Value} {es:List (List AV)} (hlen:∀(e':List AV),e'∈es→e'.length=k) (hn:es.length=n)
  (hrow:w'.ownsRow 0 e k v' n zs) (hg:w.grownBy w' v.ownBlock) (hat:v'.ownBlock=v.ownBlock∨v'.ownBlock=some w.heap.size)
  (hv:∀b,v.ownBlock=some b→b<w.heap.size∧¬ok b∧(∀(id:Nat) (o:AObj) (c:Nat),H[id]?=some (some o)→ρ id≠some (b,c))∧some b≠E.row∧(E.W b∨E.w0.heap.size≤b))
  (hcell:∀(i:Nat) (e':List AV) (j:Nat) (a:AV),es[i]?=some e'→e'[j]?=some a→∃c,zs[i*k+j]?=some c∧c.oneCell'=true∧Rep w ρ H ok c a) (hρ':ρ'=ρ):
  ∃ρ2,Good E w' ρ2 (H++[some ⟨e,k,es⟩]) ok∧Ext w ρ H ok w' ρ2 (H++[some ⟨e,k,es⟩]) ok∧Rep w' ρ2 (H++[some ⟨e,k,es⟩]) ok v' (.sref H.length 0 n):=by
 subst hρ'
 obtain⟨g1,x1⟩:=g.step (ok':=ok) (fun b=>v.ownBlock=some b) hg.os hg.tape hg.output hg.size (fun b hb hne=>hg.block b hb (fun e=>hne e.symm)) (fun b hb=>(hv b hb).2) (fun _ h=>h) (fun _ h=> .inl h)
 rcases hrow.2 with⟨rfl,h0⟩|⟨b,cap,cur,rfl,_,hb,hnc,hcm,hcs,htake⟩
 ·have hes:es=[]:=wF (by omega)
  subst hes
  obtain⟨g2,x2⟩:=g1.add ⟨e,k,[]⟩ none rfl (by simp) (by simp)
  refine⟨_,g2,x1.trans x2,?_⟩
  rw[h0]
  exact .srefNil cO (by simp[fK])
 ·have hplace:¬ok b∧(∀(id:Nat) (o:AObj) (c:Nat),H[id]?=some (some o)→ρ' id≠some (b,c))∧some b≠E.row∧(E.W b∨E.w0.heap.size≤b):=by
   rcases hat with hat|hat
   ·exact (hv b (by rw[←hat];rfl)).2
   ·rw[pL]at hat
    simp only[zB]at hat
    subst hat
    refine⟨fun h=>by have:=(g.oks _ h).1;omega,fun id o c ho hρ=>?_,fun hr=>by have:=g.row_lt hr.symm;omega,.inr g.size⟩
    have hobj:=g.obj id o ho
    rw[hρ]at hobj
    have:=hobj.lt
    omega
  obtain⟨g2,x2⟩:=g1.add ⟨e,k,es⟩ (some (b,cap)) (.inl ⟨cur,hb,hcs,by simpa[hn]using hnc,hcm,fun i e' j a hi hj=>by
   obtain⟨c,c1,c2,c3⟩:=hcell i e' j a hi hj
   refine⟨c,?_,c2,c3.ext x1⟩
   rw[←htake,vE]at c1
   split at c1
   ·simpa using c1
   ·cases c1⟩) hlen (fun b' c' hb'=>by
    simp only[zB,Prod.mk.injEq]at hb'
    obtain⟨rfl,rfl⟩:=hb'
    exact hplace)
  refine⟨_,g2,x1.trans x2,?_⟩
  have:=Rep.sref (w:=w') (ρ:=fK ρ' H.length (some (b,cap))) (H:=H++[some ⟨e,k,es⟩]) (ok:=ok) (id:=H.length) (lo:=0) (n:=n) (c:=cap) cO (b:=b) (cap:=cap) (by simp[fK]) (by simp[hn]) (fun _=>rfl) hnc hcm
  simpa using this
theorem E2 (g:Good E w ρ H ok) {t ty:TypeId} {vs vx:Value} {s x r:AV} {H':ah} {N B:Nat} (rs:Rep w ρ H ok vs s) (rx:Rep w ρ H ok vx x) (h:me E.P t H s x=some (r,H',N,B))
  (h63:N≤maxLen) (hB:N*B≤140737488355328):
  ∃v w' ρ',(Builtin.append_ #[t,t] ty #[vs,vx]).run E.P w= .ok v w'∧Good E w' ρ' H' ok∧Ext w ρ H ok w' ρ' H' ok∧Rep w' ρ' H' ok v r:=by
 unfold me at h
 split at h
 ·cases h
 ·rename_i e he
  have ht:=bA he
  split at h
  ·rename_i zz news hz hnews
   obtain⟨i,z,hi,hz1,hzs,his,_,_⟩:=fZ hz
   have hbytes:cI E.P e=i.bytes:=by simp[cI,hi]
   obtain⟨A,c,f,hvx,hnl,hsrc⟩:=Dl g rx hnews
   subst hvx
   split at h
   ·cases h
   ·rename_i hk0
    have hk:0<ay E.P e:=by omega
    have hsrc':0<news.length→∃ad,A=some ad∧∀i j,i<news.length→j<ay E.P e→w.cell? (ad.add (i*ay E.P e+j))=some (f i j)∧(f i j).oneCell'=true:=fun hp=>by
     obtain⟨ad,hA,hc⟩:=hsrc (by intro e;subst e;simp at hp)
     refine⟨ad,hA,fun i j hi hj=>?_⟩
     have h1:=zF hi
     have h2:(news[i])[j]?=some ((news[i])[j]'(by rw[hnl _ (List.getElem_mem hi)];exact hj)):=zF _
     obtain⟨q1,q2,_⟩:=hc i _ j _ h1 h2
     exact⟨q1,q2⟩
    have hnewsR:∀(i:Nat) (e':List AV) (j:Nat) (a:AV),news[i]?=some e'→e'[j]?=some a→(f i j).oneCell'=true∧Rep w ρ H ok (f i j) a:=fun i e' j a hi hj=>by
     obtain⟨ad,_,hc⟩:=hsrc (by intro e;subst e;simp at hi)
     exact (hc i e' j a hi hj).2
    split at h
    ·simp only[zB,Prod.mk.injEq]at h
     obtain⟨rfl,rfl,rfl,rfl⟩:=h
     cases rs
     obtain⟨v',w',ys,h1,h2,h3,h4,h5,h6⟩:=kO (ty:=ty) ht hi hz1 hzs hk (World.ownsRow_nil w 0 e (ay E.P e)) (c:=c) hsrc' (by simpa using h63) (by rw[←hbytes];simpa using hB)
     simp only[vY,vR]at h2
     obtain⟨ρ2,g2,x2,r2⟩:=rA (v:= .slice none 0 0) (ρ':=ρ) g hnl rfl h2 h3 h4 (fun b hb=>by simp[Value.ownBlock]at hb) (fun i e' j a hi' hj=>by
      have hlt:=(zM.1 hi').1
      have hjk:j<ay E.P e:=by rw[←hnl e' (zE hi')];exact (gsI hj)
      obtain⟨r1,r2⟩:=hnewsR i e' j a hi' hj
      exact⟨_,h6 i j hlt hjk,r1,r2⟩) rfl
     exact⟨v',w',ρ2,h1,g2,x2,r2⟩
    ·rename_i id n
     split at h
     ·rename_i o ho
      split at h
      ·rename_i hc
       obtain⟨hty,hok',hn⟩:=hc
       simp only[zB,Prod.mk.injEq]at h
       obtain⟨rfl,rfl,rfl,rfl⟩:=h
       have hHl:(H.set id none).length=H.length:=by simp
       obtain⟨g1,x1⟩:=g.kill id ok (fun _ h=>h) (fun _ h=> .inl h)
       have hlen2:∀(e':List AV),e'∈o.es++news→e'.length=ay E.P e:=fun e' he'=>by
        rcases wA.1 he' with h|h
        ·rw[←hok'];exact g.len id o ho e' h
        ·exact hnl e' h
       cases rs with
       |srefDead hd _=>rw[ho]at hd;cases hd
       |srefNil ho' hρ=>
        rename_i o'
        rw[ho]at ho'
        simp only[zB]at ho'
        subst ho'
        have hobj:=g.obj id o ho
        rw[hρ]at hobj
        have hes:o.es=[]:=hobj
        obtain⟨v',w',ys,h1,h2,h3,h4,h5,h6⟩:=kO (ty:=ty) ht hi hz1 hzs hk (World.ownsRow_nil w 0 e (ay E.P e)) (c:=c) hsrc' (by simpa[hes]using h63) (by rw[←hbytes];simpa[hes]using hB)
        simp only[vY,vR]at h2
        obtain⟨ρ2,g2,x2,r2⟩:=rA (v:= .slice none 0 0) (ρ':=ρ) (es:=o.es++news) (n:=news.length) g1 hlen2 (by simp[hes]) h2 h3 h4 (fun b hb=>by simp[Value.ownBlock]at hb) (fun i e' j a hi' hj=>by
         rw[hes,vY]at hi'
         have hlt:=(zM.1 hi').1
         have hjk:j<ay E.P e:=by rw[←hnl e' (zE hi')];exact (gsI hj)
         obtain⟨r1,r2⟩:=hnewsR i e' j a hi' hj
         exact⟨_,h6 i j hlt hjk,r1,r2.ext x1⟩) rfl
        refine⟨v',w',ρ2,h1,g2,x1.trans x2,?_⟩
        rw[hHl]at r2
        simpa[hes]using r2
       |@sref _ _ _ c0 o' b cap ho' hρ hnn hcc hnc hcap'=>
        rw[ho]at ho'
        simp only[zB]at ho'
        subst ho'
        subst hn
        have hcap:=hcc rfl
        subst hcap
        have hobj:=g.obj id o ho
        rw[hρ]at hobj
        obtain⟨cur,hb,hs,hle,hm,hcell⟩:=hobj.cells hcap'
        have hown:w.ownsRow 0 e (ay E.P e) (.slice (some ⟨b,0*o.k,none⟩) o.es.length c0) o.es.length (cur.toList.take (o.es.length*ay E.P e)):=by
         refine⟨?_,.inr ⟨b,c0,cur,by simp,Nat.zero_le _,by rw[hb,hty],hle,hm,by rw[hs,hok'],rfl⟩⟩
         have:o.es.length*ay E.P e≤c0*ay E.P e:=wM _ hle
         rw[zY,Array.length_toList,hs,hok']
         exact Nat.min_eq_left this
        obtain⟨v',w',ys,h1,h2,h3,h4,h5,h6⟩:=kO (ty:=ty) ht hi hz1 hzs hk hown (c:=c) hsrc' h63 (by rw[←hbytes];exact hB)
        obtain⟨ρ2,g2,x2,r2⟩:=rA (ρ':=ρ) (es:=o.es++news) (n:=o.es.length+news.length) g1 hlen2 (by simp) h2 h3 h4 (fun b' hb'=>by
         simp only[Nat.zero_mul,pL,zB]at hb'
         subst hb'
         obtain⟨a1,a2,a3⟩:=g.own id o b c0 ho hρ
         refine⟨(zW.1 hb).1,a1,fun id' o' c' h' hρ'=>?_,a2,a3⟩
         obtain⟨hne,h'⟩:=kG h'
         exact hne (g.inj id' o' b c' id o c0 h' hρ' ho hρ)) (fun i e' j a hi' hj=>by
         have hjk:j<ay E.P e:=by rw[←hlen2 e' (zE hi')];exact (gsI hj)
         have hxl:(cur.toList.take (o.es.length*ay E.P e)).length=o.es.length*ay E.P e:=hown.1
         rcases Nat.lt_or_ge i o.es.length with hlt|hge
         ·rw[zD hlt]at hi'
          obtain⟨c',c1,c2,c3⟩:=hcell i e' j a hi' hj
          have hp:i*ay E.P e+j<o.es.length*ay E.P e:=by
           have:i*ay E.P e+ay E.P e≤o.es.length*ay E.P e:=by rw[←Nat.succ_mul];exact wM _ hlt
           omega
          refine⟨c',?_,c2,c3.ext x1⟩
          rw[zD (by omega),vE,if_pos hp]
          rw[hok']at c1
          simpa using c1
         ·rw[zN hge]at hi'
          have hlt:=(zM.1 hi').1
          obtain⟨r1,r2⟩:=hnewsR _ e' j a hi' hj
          have h7:=h6 (i-o.es.length) j hlt hjk
          have hp:i*ay E.P e=o.es.length*ay E.P e+(i-o.es.length)*ay E.P e:=by rw[←Nat.add_mul];congr 1;omega
          refine⟨_,?_,r1,r2.ext x1⟩
          rw[zN (by omega),hxl,←h7]
          congr 1
          omega) rfl
        refine⟨v',w',ρ2,h1,g2,x1.trans x2,?_⟩
        rw[hHl]at r2
        exact r2
      ·cases h
     ·cases h
    ·cases h
  ·cases h
def xg (P:Program) (t:TypeId) (H:ah) (l c:AV):Option (AV×ah×Int×Nat):=
 match aT P t,l,c with
 |some e,.sc (.int _ n),.sc (.int _ m)=>match cv P e with
  |some zs=>if 0≤n∧n≤m then some (.sref H.length 0 n.toNat,H++[some ⟨e,ay P e,List.replicate n.toNat zs⟩],m,cI P e)else none
  |none=>none
 |_,_,_=>none
theorem Kl (g:Good E w ρ H ok) {t:TypeId} {vl vc:Value} {l c r:AV} {H':ah} {m:Int} {B:Nat} (rl:Rep w ρ H ok vl l) (rc:Rep w ρ H ok vc c) (h:xg E.P t H l c=some (r,H',m,B))
  (hB:(B:Int)*m≤281474976710656) (h63:m≤9223372036854775807):
  ∃v w' ρ',(Instr.makeSlice t vl vc).run E.P w= .ok v w'∧Good E w' ρ' H' ok∧Ext w ρ H ok w' ρ' H' ok∧Rep w' ρ' H' ok v r:=by
 unfold xg at h
 split at h
 ·rename_i e k1 n k2 m' he
  have ht:=bA he
  rw[cM rl,cM rc]
  split at h
  ·rename_i zs hz
   obtain⟨i,z,hi,hz1,hzs,his,hzz,h1⟩:=fZ hz
   split at h
   ·rename_i hc
    simp only[zB,Prod.mk.injEq]at h
    obtain⟨rfl,rfl,rfl,rfl⟩:=h
    have hb:cI E.P e=i.bytes:=by simp[cI,hi]
    have hrun:=run_make (P:=E.P) w t e i z ht hi hz1 k1 k2 n m' hc.1 hc.2 (by rw[←hb];exact hB) h63
    have hzl:zs.length=ay E.P e:=by rw[hzz];simpa using hzs
    obtain⟨g',x'⟩:=g.newObj ⟨e,ay E.P e,List.replicate n.toNat zs⟩ m'.toNat (madeCells z.cells (m'.toNat*i.size)) (by rw[size_madeCells,his]) (by simp;omega) (by unfold maxLen;omega)
     (fun e' he'=>by rw[List.eq_of_mem_replicate he'];exact hzl) (fun i' e' j a hi' hj=>by
      rw[List.getElem?_replicate]at hi'
      split at hi'
      ·rename_i hlt
       simp only[zB]at hi'
       subst hi'
       have hjk:j<ay E.P e:=by rw[←hzl];exact (gsI hj)
       rw[hzz,zR,zL]at hj
       obtain⟨c,hc',rfl⟩:=hj
       have hp:i'*ay E.P e+j<m'.toNat*i.size:=by
        rw[his]
        have:i'*ay E.P e+ay E.P e≤m'.toNat*ay E.P e:=by rw[←Nat.succ_mul];exact wM _ (by omega)
        omega
       refine⟨c,?_,h1 c (zE hc'),jk c⟩
       have hmod:(i'*ay E.P e+j)%z.cells.size=j:=by rw[hzs];exact (uK hjk).2
       simp only[madeCells,Array.getElem?_map,Array.getElem?_range,hp,if_true,vI,hmod,zB]
       rw[vF]at hc'
       rw[getElem!_def,hc']
      ·cases hi')
    refine⟨_,_,_,hrun,g',x',?_⟩
    have:=Rep.sref (w:=w.alloc (.cells (madeCells z.cells (m'.toNat*i.size)) e)) (ρ:=fK ρ H.length (some (w.heap.size,m'.toNat))) (H:=H++[some ⟨e,ay E.P e,List.replicate n.toNat zs⟩]) (ok:=ok) (id:=H.length) (lo:=0) (n:=n.toNat) (c:=m'.toNat) cO
     (b:=w.heap.size) (cap:=m'.toNat) (by simp[fK]) (by simp) (fun _=>rfl) (by omega) (by unfold maxLen;omega)
    simpa using this
   ·cases h
  ·cases h
 ·cases h
end
open Go.RowKit
def ov (place:Nat→Option (Nat×Nat)):List AV→List (Nat×AV)→Option (List AV)
 |cells,[]=>some cells
 |cells,(i,x)::rest=>match place i,x.cells? with
  |some (off,size),some xs=>if xs.length=size∧off+size≤cells.length then ov place (cells.take off++xs++cells.drop (off+xs.length)) rest else none
  |_,_=>none
def lS (P:Program) (t:TypeId) (i:Nat):Option (Nat×Nat):=
 match au P t i,dG P t with
 |some (off,ft),_=>some (off,ay P ft)
 |none,some (_,e)=>if aE P e then some (i*ay P e,ay P e)else none
 |none,none=>none
def aR (P:Program) (t:TypeId):Bool:=match P.underlying t with
 |some (.struct fs)=>fs.all fun f=>aE P f.type
 |some (.array _ e)=>aE P e
 |_=>false
def Be (P:Program) (t:TypeId) (parts:List (Nat×AV)):Option AV:=
 if aR P t then (cv P t).bind fun zs=>(ov (lS P t) zs parts).map .agg else none
def um (k:Nat):Nat→List (Nat×AV)→Option (List (List AV))
 |_,[]=>some []
 |n,(i,x)::rest=>if i=n then match x.cells?,um k (n+1) rest with
   |some xs,some es=>if xs.length=k then some (xs::es)else none
   |_,_=>none
  else none
def jM (P:Program) (t:TypeId) (len:Nat) (parts:List (Nat×AV)):Option AV:=
 match aT P t with
 |some e=>if (cv P e).isSome∧parts.length=len∧len*ay P e≤16777216∧0<ay P e then (um (ay P e) 0 parts).map (.list (ay P e))else none
 |none=>none
section
variable {E:Env} {w:World} {ρ:aW} {H:ah} {ok:Nat→Prop}
theorem FS (off:Nat):∀(l:List Value) (n:Nat) (cells:Array Value),off+n+l.length≤cells.size→
  ((l.zipIdx n).foldl (fun cs (p:Value×Nat)=>cs.setIfInBounds (off+p.2) p.1) cells).size=cells.size∧
  ∀q,((l.zipIdx n).foldl (fun cs (p:Value×Nat)=>cs.setIfInBounds (off+p.2) p.1) cells)[q]?=if off+n≤q∧q<off+n+l.length then l[q-(off+n)]? else cells[q]?
 |[],n,cells,_=>by
  refine⟨rfl,fun q=>?_⟩
  rw[if_neg (by simp)]
  rfl
 |v::l,n,cells,h=>by
  simp only[wI]at h
  obtain⟨h1,h2⟩:=FS off l (n+1) (cells.setIfInBounds (off+n) v) (by simp;omega)
  simp only[List.zipIdx_cons,List.foldl_cons]
  refine⟨by rw[h1];simp,fun q=>?_⟩
  rw[h2]
  simp only[wI]
  by_cases hq:q=off+n
  ·subst hq
   rw[if_neg (by omega),if_pos (by omega)]
   have hlt:off+n<cells.size:=by omega
   simp[hlt]
  ·by_cases hr:off+(n+1)≤q∧q<off+(n+1)+l.length
   ·rw[if_pos hr,if_pos (by omega)]
    have:q-(off+n)=(q-(off+(n+1)))+1:=by omega
    rw[this,uI]
   ·rw[if_neg hr,if_neg (by omega),Array.getElem?_setIfInBounds_ne (by omega)]
theorem nQ {place:Nat→Option (Nat×Nat)}:∀{parts:List (Nat×AV)} {vs:List (Nat×Value)} {cells:List AV} {cur:Array Value} {out:List AV},
  vs.length=parts.length→(∀(i:Nat) (p:Nat×AV) (q:Nat×Value),parts[i]?=some p→vs[i]?=some q→q.1=p.1∧Rep w ρ H ok q.2 p.2)→
  cur.size=cells.length→(∀(i:Nat) (c:Value) (a:AV),cur[i]?=some c→cells[i]?=some a→Rep w ρ H ok c a)→ov place cells parts=some out→
  ∃res,Instr.fill place cur vs=some res∧res.size=out.length∧∀(i:Nat) (c:Value) (a:AV),res[i]?=some c→out[i]?=some a→Rep w ρ H ok c a
 |[],vs,cells,cur,out,hl,_,hs,hc,h=>by
  have:vs=[]:=wF hl
  subst this
  simp only[ov,zB]at h
  subst h
  exact⟨cur,rfl,hs,hc⟩
 |(i,x)::rest,[],cells,cur,out,hl,_,hs,hc,h=>by simp at hl
 |(i,x)::rest,(i',v)::vs,cells,cur,out,hl,hr,hs,hc,h=>by
  obtain⟨rfl,hv⟩:=hr 0 (i,x) (i',v) rfl rfl
  simp only[ov]at h
  split at h
  ·rename_i off size xs hp hx
   split at h
   ·rename_i hcond
    obtain⟨h1,h2⟩:=hcond
    obtain⟨c1,c2⟩:=oS hv hx
    simp only at c1 c2
    obtain⟨f1,f2⟩:=FS off v.cells.toList 0 cur (by simp;omega)
    have hnl:(cells.take off++xs++cells.drop (off+xs.length)).length=cells.length:=by simp;omega
    have e0:v.cells.zipIdx.foldl (fun cs (p:Value×Nat)=>cs.setIfInBounds (off+p.2) p.1) cur=(v.cells.toList.zipIdx 0).foldl (fun cs (p:Value×Nat)=>cs.setIfInBounds (off+p.2) p.1) cur:=by
     rw[←Array.foldl_toList];simp
    obtain⟨res,q1,q2,q3⟩:=nQ (place:=place) (parts:=rest) (vs:=vs) (cells:=cells.take off++xs++cells.drop (off+xs.length)) (cur:=(v.cells.toList.zipIdx 0).foldl (fun cs (p:Value×Nat)=>cs.setIfInBounds (off+p.2) p.1) cur)
     (by simpa using hl) (fun i p q hp hq=>hr (i+1) p q hp hq) (by rw[f1,hnl,hs]) (fun j c a hj ha=>by
      rw[f2]at hj
      rw[oa cells xs off j (by omega)]at ha
      simp only[Nat.add_zero,Array.length_toList,c1]at hj
      by_cases hlt:j<off
      ·rw[if_pos hlt]at ha
       rw[if_neg (by omega)]at hj
       exact hc j c a hj ha
      ·rw[if_neg hlt]at ha
       by_cases hlt2:j<off+xs.length
       ·rw[if_pos hlt2]at ha
        rw[if_pos (by omega)]at hj
        exact (c2 _ c a (by simpa using hj) ha).2
       ·rw[if_neg hlt2]at ha
        rw[if_neg (by omega)]at hj
        exact hc j c a hj ha) h
    refine⟨res,?_,q2,q3⟩
    simp only[Instr.fill,hp]
    rw[if_neg (by simp;omega)]
    rw[←q1]
    congr 1
   ·cases h
  ·cases h
theorem q9 {α β:Type} {P:Program} (f:α→Sem β) (h:α→β) (w:World):∀(l:List α),(∀a∈l,(f a).run P w= .ok (h a) w)→(l.mapM f).run P w= .ok (l.map h) w
 |[],_=>rfl
 |a::l,hl=>by
  simp only[List.mapM_cons,Sem.run_bind,hl a (by simp),Result.andThen_ok,q9 f h w l (fun x hx=>hl x (by simp[hx])),Sem.run_pure,wD]
theorem Ex {α β:Type} {P:Program} (f:α→Sem β) (h:α→β) (w:World) (a:Array α) (ha:∀x∈a,(f x).run P w= .ok (h x) w):(a.mapM f).run P w= .ok (a.map h) w:=by
 rw[Array.mapM_eq_mapM_toList]
 have:=q9 (P:=P) f h w a.toList (fun x hx=>ha x (by simpa using hx))
 simp only[Functor.map]
 show Sem.run P (Bind.bind _ _) w=_
 simp only[Sem.run_bind,this,Result.andThen_ok,Function.comp]
 show Result.ok (List.map h a.toList).toArray w=_
 congr 1
 apply Array.ext'
 simp
theorem Gc {z:Value} {zs:List AV} (h:zs=z.cells.toList.map nC):∀(i:Nat) (c:Value) (a:AV),z.cells[i]?=some c→zs[i]?=some a→Rep w ρ H ok c a:=by
 intro i c a hi ha
 subst h
 rw[zR,zL]at ha
 obtain⟨c',hc',rfl⟩:=ha
 rw[vF,hi]at hc'
 simp only[zB]at hc'
 subst hc'
 exact jk _
theorem GB {P:Program} {t:TypeId} {parts:List (Nat×AV)} {vs:Array (Nat×Value)} {x:AV} (hl:vs.size=parts.length)
  (hr:∀(i:Nat) (p:Nat×AV) (q:Nat×Value),parts[i]?=some p→vs[i]?=some q→q.1=p.1∧Rep w ρ H ok q.2 p.2) (h:Be P t parts=some x):
  ∃v,(Instr.build t vs).run P w= .ok v w∧Rep w ρ H ok v x:=by
 unfold Be at h
 split at h
 ·rename_i hk
  rw[vK]at h
  obtain⟨zs,hz,h⟩:=h
  rw[zL]at h
  obtain⟨out,hf,rfl⟩:=h
  obtain⟨i,z,hi,hz1,hzs,his,hzz,_⟩:=fZ hz
  have hrl:∀(i:Nat) (p:Nat×AV) (q:Nat×Value),parts[i]?=some p→vs.toList[i]?=some q→q.1=p.1∧Rep w ρ H ok q.2 p.2:=fun i p q hp hq=>hr i p q hp (by simpa using hq)
  unfold aR at hk
  split at hk
  ·rename_i fs hs
   rw[Array.all_eq_true_iff_forall_mem]at hk
   have hm:(fs.mapM fun f=>(do pure (f.offset,←sizeOf f.type):Sem (Nat×Nat))).run P w= .ok (fs.map fun f=>(f.offset,ay P f.type)) w:=
    Ex _ _ w fs (fun f hf=>by simp[bB (hk f hf)])
   obtain⟨res,q1,q2,q3⟩:=nQ (place:=lS P t) (by simpa using hl) hrl (by rw[hzz];simp) (Gc hzz) hf
   have q1':Instr.fill (fun i=>(fs.map fun f=>(f.offset,ay P f.type))[i]?) z.cells vs.toList=some res:=by
    have mono:∀(l:List (Nat×Value)) (c r:Array Value),Instr.fill (lS P t) c l=some r→Instr.fill (fun i=>(fs.map fun f=>(f.offset,ay P f.type))[i]?) c l=some r:=by
     intro l
     induction l with
     |nil=>intro c r h;exact h
     |cons p l ih=>
      intro c r h
      obtain⟨i,v⟩:=p
      simp only[Instr.fill]at h⊢
      split at h
      ·cases h
      ·rename_i off size hp
       have hp':(fs.map fun f=>(f.offset,ay P f.type))[i]?=some (off,size):=by
        unfold lS at hp
        split at hp
        ·rename_i off' ft hfo
         simp only[zB,Prod.mk.injEq]at hp
         obtain⟨rfl,rfl⟩:=hp
         obtain⟨fs',x,hs',hx,rfl,rfl,_,_⟩:=mG hfo
         rw[hs]at hs'
         simp only[zB,TypeDesc.struct.injEq]at hs'
         subst hs'
         simp[hx]
        ·rename_i _ e _ ha
         have:=xS ha
         rw[hs]at this
         cases this
        ·cases hp
       rw[hp']
       simp only at h⊢
       split at h
       ·cases h
       ·rename_i hc
        rw[if_neg hc]
        exact ih _ _ h
    exact mono _ _ _ q1
   refine⟨.agg res,?_,.agg q2 q3⟩
   simp only[Instr.build,Sem.run_bind,gc hi hz1,Result.andThen_ok,run_underlying hs]
   rw[show (fs.mapM fun f=>(sizeOf f.type>>=fun s=>pure (f.offset,s):Sem (Nat×Nat))).run P w=_ from hm]
   simp only[Result.andThen_ok,q1',Sem.run_pure]
  ·rename_i n e hs
   obtain⟨res,q1,q2,q3⟩:=nQ (place:=lS P t) (by simpa using hl) hrl (by rw[hzz];simp) (Gc hzz) hf
   have hplace:lS P t=fun i=>some (i*ay P e,ay P e):=by
    funext i
    unfold lS
    have h1:au P t i=none:=by unfold au;rw[hs]
    have h2:dG P t=some (n,e):=by unfold dG;rw[hs]
    rw[h1,h2]
    simp[hk]
   rw[hplace]at q1
   refine⟨.agg res,?_,.agg q2 q3⟩
   simp[Instr.build,gc hi hz1,run_underlying hs,bB hk,q1]
  ·cases hk
 ·cases h
theorem xZ {k:Nat} (hk:0<k):∀{parts:List (Nat×AV)} {n:Nat} {es:List (List AV)} {cells:List AV},um k n parts=some es→cells.length=(n+parts.length)*k→
  es.length=parts.length∧(∀e∈es,e.length=k)∧ov (fun i=>some (i*k,k)) cells parts=some (cells.take (n*k)++es.flatten)
 |[],n,es,cells,h,hl=>by
  simp only[um,zB]at h
  subst h
  refine⟨rfl,by simp,?_⟩
  simp only[ov,List.flatten_nil,wY,zB]
  rw[zQ]
  simp at hl
  omega
 |(i,x)::rest,n,es,cells,h,hl=>by
  simp only[um]at h
  split at h
  ·rename_i hi
   subst hi
   split at h
   ·rename_i xs es' hx hes
    split at h
    ·rename_i hxl
     simp only[zB]at h
     subst h
     have hle:i*k+k≤cells.length:=by
      rw[hl,←Nat.succ_mul];exact wM _ (by simp)
     have hnl:(cells.take (i*k)++xs++cells.drop (i*k+xs.length)).length=(i+1+rest.length)*k:=by
      have:(i+1+rest.length)*k=cells.length:=by rw[hl];congr 1;simp;omega
      rw[this]
      simp
      omega
     obtain⟨r1,r2,r3⟩:=xZ hk hes hnl
     refine⟨by simp[r1],by
      intro e he
      rcases zO.1 he with rfl|he
      ·exact hxl
      ·exact r2 e he,?_⟩
     simp only[ov,hx]
     rw[if_pos ⟨hxl,hle⟩,r3]
     congr 1
     rw[List.flatten_cons,←vJ]
     congr 1
     have hl1:(cells.take (i*k)).length=i*k:=by simp;omega
     rw[show (i+1)*k=i*k+xs.length from by rw[Nat.succ_mul,hxl]]
     rw[vO (by simp;omega)]
     rw[zQ (by simp;omega)]
    ·cases h
   ·cases h
  ·cases h
theorem xG {k:Nat}:∀{es:List (List AV)},(∀e∈es,e.length=k)→∀{i:Nat} {e:List AV} {j:Nat} {a:AV},es[i]?=some e→e[j]?=some a→es.flatten[i*k+j]?=some a
 |[],_,i,e,j,a,hi,_=>by simp at hi
 |e0::es,h,0,e,j,a,hi,hj=>by
  simp only[wQ,zB]at hi
  subst hi
  have:=(gsI hj)
  rw[List.flatten_cons,Nat.zero_mul,vR,zD this]
  exact hj
 |e0::es,h,i+1,e,j,a,hi,hj=>by
  have h0:e0.length=k:=h e0 (by simp)
  rw[List.flatten_cons,zN (by rw[h0,Nat.succ_mul];omega),h0,show (i+1)*k+j-k=i*k+j from by rw[Nat.succ_mul];omega]
  exact xG (fun e he=>h e (by simp[he])) (by simpa using hi) hj
theorem xc {k:Nat}:∀{es:List (List AV)},(∀e∈es,e.length=k)→es.flatten.length=es.length*k
 |[],_=>by simp
 |e0::es,h=>by
  rw[List.flatten_cons,zK,xc (fun e he=>h e (by simp[he])),h e0 (by simp),wI,Nat.succ_mul]
  omega
theorem qM {place:Nat→Option (Nat×Nat)}:∀{parts:List (Nat×AV)} {cells out:List AV},(∀a∈cells,a.cellish=true)→ov place cells parts=some out→∀a∈out,a.cellish=true
 |[],cells,out,hc,h=>by simp only[ov,zB]at h;subst h;exact hc
 |(i,x)::rest,cells,out,hc,h=>by
  simp only[ov]at h
  split at h
  ·rename_i off size xs hp hx
   split at h
   ·refine qM (fun a ha=>?_) h
    simp only[wA]at ha
    rcases ha with (ha|ha)|ha
    ·exact hc a (wV ha)
    ·unfold AV.cells? at hx
     split at hx
     ·split at hx
      ·rename_i hall
       simp only[zB]at hx
       subst hx
       exact zS.1 hall a ha
      ·cases hx
     ·cases hx
     ·cases hx
     ·split at hx
      ·rename_i hcc
       simp only[zB]at hx
       subst hx
       simp only[zU]at ha
       subst ha
       exact hcc
      ·cases hx
    ·exact hc a (uB ha)
   ·cases h
  ·cases h
theorem tU (g:Good E w ρ H ok) {t:TypeId} {len:Nat} {parts:List (Nat×AV)} {vs:Array (Nat×Value)} {x:AV} (hl:vs.size=parts.length)
  (hr:∀(i:Nat) (p:Nat×AV) (q:Nat×Value),parts[i]?=some p→vs[i]?=some q→q.1=p.1∧Rep w ρ H ok q.2 p.2) (h:jM E.P t len parts=some x):
  ∃v w' ok',(Instr.buildSlice t len vs).run E.P w= .ok v w'∧Good E w' ρ H ok'∧Ext w ρ H ok w' ρ H ok'∧Rep w' ρ H ok' v x:=by
 unfold jM at h
 split at h
 ·rename_i e he
  have ht:=bA he
  split at h
  ·rename_i hc
   obtain⟨hz,hpl,h24,hk⟩:=hc
   obtain⟨zs,hz⟩:=wU.1 hz
   obtain⟨i,z,hi,hz1,hzs,his,hzz,hz1c⟩:=fZ hz
   rw[zL]at h
   obtain⟨es,hes,rfl⟩:=h
   have hkn:aE E.P e=true:=by simp[aE,hi]
   have hzlen:zs.length=ay E.P e:=by rw[hzz];simpa using hzs
   generalize hk':ay E.P e=k at*
   let Z:Array Value:=(Array.range (len*k)).map (z.cells[·%z.cells.size]!)
   let ZA:List AV:=(List.range (len*k)).map fun p=>nC (z.cells[p%z.cells.size]!)
   have hZ:Z.size=ZA.length:=by simp[Z,ZA]
   have hZr:∀(i:Nat) (c:Value) (a:AV),Z[i]?=some c→ZA[i]?=some a→Rep w ρ H ok c a:=fun i c a hci hai=>by
    simp only[Z,ZA,Array.getElem?_map,zR,zL]at hci hai
    obtain⟨p,hp,rfl⟩:=hci
    obtain⟨q,hq,rfl⟩:=hai
    have h1:=zW.1 hp
    have h2:=zM.1 hq
    obtain⟨_,h1⟩:=h1
    obtain⟨_,h2⟩:=h2
    simp at h1 h2
    subst h1;subst h2
    exact jk _
   obtain⟨r1,r2,r3⟩:=xZ (n:=0) (cells:=ZA) hk hes (by simp[ZA,hpl])
   simp only[Nat.zero_mul,List.take_zero,vY]at r3
   obtain⟨res,q1,q2,q3⟩:=nQ (w:=w) (ρ:=ρ) (H:=H) (ok:=ok) (place:=fun i=>some (i*k,k)) (vs:=vs.toList) (cur:=Z) (by simpa using hl) (fun i p q hp hq=>hr i p q hp (by simpa using hq)) hZ hZr r3
   have hres:res.size=len*k:=by rw[q2,xc r2,r1,hpl]
   have hcellish:∀a∈es.flatten,a.cellish=true:=qM (fun a ha=>by
    simp only[ZA,zV]at ha
    obtain⟨p,hp,rfl⟩:=ha
    have hpl:p%z.cells.size<z.cells.size:=Nat.mod_lt _ (by omega)
    have h1:(z.cells[p%z.cells.size]!).oneCell'=true:=hz1c _ (by
     rw[getElem!_pos z.cells _ hpl];exact Array.getElem_mem_toList hpl)
    unfold nC
    split
    ·rfl
    ·simpa[AV.cellish]using h1) r3
   obtain⟨g',x'⟩:=g.alloc (.cells res e) (ok':=fun b=>ok b∨b=w.heap.size) (fun _ h=> .inl h) (fun _ h=>h)
   refine⟨.slice (some ⟨w.heap.size,0,none⟩) len len,w.alloc (.cells res e),fun b=>ok b∨b=w.heap.size,?_,g',x',?_⟩
   ·have hne:¬len*k=0∨len=0:=by
     rcases wR len with h|h
     ·exact .inr h
     ·exact .inl (Nat.mul_ne_zero (by omega) (by omega))
    simp only[Instr.buildSlice,Sem.run_bind,run_underlying ht,Result.andThen_ok,bB hkn,hk']
    rw[Sem.run_ite,if_neg (by omega)]
    rcases hne with hne|rfl
    ·rw[Sem.run_ite,if_neg hne]
     simp only[Sem.run_bind,gc hi hz1,Result.andThen_ok,Sem.run_pure]
     rw[show Instr.fill (fun i=>some (i*k,k)) ((Array.range (len*k)).map (z.cells[·%z.cells.size]!)) vs.toList=some res from q1]
     simp[newRow]
    ·have hv0:vs.toList=[]:=wF (by simp[hl,hpl])
     have hr0:res=#[]:=uE (by simpa using hres)
     rw[Sem.run_ite,if_pos (by simp)]
     simp only[Sem.run_bind,Sem.run_pure,Result.andThen_ok,hv0]
     subst hr0
     have h0:Array.map (fun _=>(default:Value)) (Array.range 0)=#[]:=uE (by simp)
     simp[Instr.fill,newRow,h0]
   ·refine .list (fun i j=>(res[i*k+j]?).getD undef) (by omega) (zZ _) (.inr rfl) r2 (fun i e' j a hi' hj=>?_) (fun i e' j a hi' hj=>?_) (fun i e' j a hi' hj=>?_)
    all_goals
     have hfl:=xG r2 hi' hj
     have hlt:i*k+j<res.size:=by rw[q2];exact (gsI hfl)
     have hv:=zX hlt
    ·rw[kU,cell_of_row _ w.heap.size _ res e (0,0) (heap_alloc_new w _),vR,hv]
     rfl
    ·rw[hv]
     exact pH (q3 _ _ _ hv hfl) (hcellish a (zE hfl))
    ·rw[hv]
     exact (q3 _ _ _ hv hfl).ext x'
  ·cases h
 ·cases h
end
open Go.RowKit
def Hz (d:TypeDesc) (k:Value) (v:AV):List (List AV)→Option (List (List AV))
 |[]=>some [[.sc k,v]]
 |[.sc k',a]::r=>match Instr.sameNow d k k' with
  |some true=>some ([.sc k,v]::r)
  |some false=>(Hz d k v r).map ([.sc k',a]::·)
  |none=>none
 |_=>none
def CI (ks:List Kd) (vs:List Value) (v:AV):List (List AV)→Option (List (List AV))
 |[]=>some [[.sc (.agg vs.toArray),v]]
 |[.sc (.agg us),a]::r=>match cS ks vs us.toList with
  |some true=>some ([.sc (.agg vs.toArray),v]::r)
  |some false=>(CI ks vs v r).map ([.sc (.agg us),a]::·)
  |none=>none
 |_=>none
def jf (P:Program) (t:TypeId) (H:ah) (x k v:AV):Option ah:=match oo P t,k,x with
 |some (_,d,_),.sc kv,.mref id=>if n9 d kv then match H[id]? with
  |some (some o)=>(Hz d kv v o.es).map fun es=>H.set id (some {o with es:=es})
  |_=>none
  else none
 |some (kt,_,_),.agg cs,.mref id=>match oW P kt with
  |some ks=>match CZ ks cs with
   |some vs=>match H[id]? with
    |some (some o)=>(CI ks vs v o.es).map fun es=>H.set id (some {o with es:=es})
    |_=>none
   |none=>none
  |none=>none
 |_,_,_=>none
def NA (P:Program) (t:TypeId) (z:AV):Prop:=∃kt et,oo P t=some (kt,.int .i64,et)∧rV P et=some z
section
variable {E:Env} {w w':World} {ρ:aW} {H:ah} {ok:Nat→Prop}
theorem Good.change (g:Good E w ρ H ok) {id b cap:Nat} {o:AObj} (ho:H[id]?=some (some o)) (hρ:ρ id=some (b,cap)) (o':AObj) (hk:o'.k=o.k) (hl:o.es.length≤o'.es.length) (hlen:∀e∈o'.es,e.length=o'.k)
  (hos:w'.os=w.os) (htape:w'.tape=w.tape) (hout:w'.output=w.output) (hsize:w'.heap.size=w.heap.size) (hother:∀b',b'≠b→w'.heap[b']?=w.heap[b']?)
  (hobj:Ext w ρ H ok w' ρ (H.set id (some o')) ok→ObjOk w' ρ (H.set id (some o')) ok o' (some (b,cap))):Good E w' ρ (H.set id (some o')) ok∧Ext w ρ H ok w' ρ (H.set id (some o')) ok:=by
 have hidl:=rW ho
 have hx:Ext w ρ H ok w' ρ (H.set id (some o')) ok:=by
  refine⟨fun id' o1 h'=>?_,fun id' h'=>?_,fun _ h=>h,fun b' hb'=>hother b' (fun e=>(g.own id o b cap ho hρ).1 (e▸hb'))⟩
  ·right
   by_cases hi:id=id'
   ·subst hi
    rw[ho]at h'
    simp only[zB]at h'
    subst h'
    exact⟨o',by rw[wO,if_pos rfl,if_pos hidl],rfl,hk,hl⟩
   ·exact⟨o1,by rw[wO,if_neg hi];exact h',rfl,rfl,zZ _⟩
  ·by_cases hi:id=id'
   ·subst hi;rw[ho]at h';cases h'
   ·rw[wO,if_neg hi];exact h'
 have hne:∀(id':Nat) (o':AObj) (b' c':Nat),id'≠id→H[id']?=some (some o')→ρ id'=some (b',c')→b'≠b:=fun id' o' b' c' hne h' hρ' e=>by
  subst e;exact hne (g.inj id' o' b' c' id o cap h' hρ' ho hρ)
 refine⟨⟨hos.trans g.os,htape.trans g.tape,hout.trans g.output,by rw[hsize];exact g.size,fun b' hb' hW hr=>?_,g.inv.keep (fun p hp=>hother p (fun e=>(g.own id o b cap ho hρ).2.1 (by rw[←e];exact hp.symm))) (fun _ h=>h) hx.blk,fun b' hb'=>by rw[hsize];exact g.oks b' hb',fun id' o1 b' c' h' hρ'=>?_,
  fun id1 o1 b1 c1 id2 o2 c2 h1 r1 h2 r2=>?_,fun id' o1 h'=>?_,fun id' o1 h'=>?_⟩,hx⟩
 ·rw[hother b' (fun e=>?_)]
  ·exact g.blk b' hb' hW hr
  ·rcases (g.own id o b cap ho hρ).2.2 with h|h
   ·exact hW (e▸h)
   ·omega
 ·rcases jF hidl h' with⟨rfl,rfl⟩|⟨hne',h'⟩
  ·exact g.own _ o b' c' ho hρ'
  ·exact g.own _ _ _ _ h' hρ'
 ·rcases jF hidl h1 with⟨rfl,rfl⟩|⟨hne1,h1'⟩<;>rcases jF hidl h2 with⟨rfl,rfl⟩|⟨hne2,h2'⟩
  ·rfl
  ·exact g.inj _ _ _ _ _ _ _ ho r1 h2' r2
  ·exact g.inj _ _ _ _ _ _ _ h1' r1 ho r2
  ·exact g.inj _ _ _ _ _ _ _ h1' r1 h2' r2
 ·rcases jF hidl h' with⟨rfl,rfl⟩|⟨hne',h'⟩
  ·exact hlen
  ·exact g.len _ _ h'
 ·rcases jF hidl h' with⟨rfl,rfl⟩|⟨hne',h'⟩
  ·rw[hρ];exact hobj hx
  ·exact (g.obj _ _ h').ext hx (fun b' c' hρ'=>hother _ (hne _ _ _ _ hne' h' hρ'))
theorem ES {d:TypeDesc} {k k':Value} (h:Instr.sameNow d k k'=some true):k'=k:=by
 cases d<;>cases k<;>cases k'<;>simp_all [Instr.sameNow,MapKept.bytes_beq]
theorem BX {d:TypeDesc} {k k':Value} (h:Instr.sameNow d k k'=some false):k'≠k:=by
 rintro rfl
 cases d<;>cases k'<;>simp_all [Instr.sameNow]
 ·rename_i a
  have:=(MapKept.bytes_beq a a).2 rfl
  rw[h]at this
  cases this
theorem Dy {d:TypeDesc} {k:Value} {v:AV} {R:Value→AV→Prop}:∀{ents:List MapEntry} {es es':List (List AV)},ents.length=es.length→(∀(i:Nat) (x:MapEntry) (e:List AV),ents[i]?=some x→es[i]?=some e→∃a,e=[.sc x.key,a]∧R x.val a)→Hz d k v es=some es'→
  (es'=es++[[.sc k,v]]∧(∀i,Instr.findNow d k ents i=some none)∧∀x∈ents,x.key≠k)∨
  ∃(j:Nat) (x:MapEntry),es'=es.set j [.sc k,v]∧ents[j]?=some x∧x.key=k∧∀i,Instr.findNow d k ents i=some (some (i+j,x.val))
 |[],[],es',_,_,h=>by simp only[Hz,zB]at h;subst h;exact .inl ⟨rfl,fun i=>rfl,by simp⟩
 |[],_::_,_,hl,_,_=>by simp at hl
 |_::_,[],_,hl,_,_=>by simp at hl
 |x::ents,e::es,es',hl,hr,h=>by
  obtain⟨a,rfl,_⟩:=hr 0 x e rfl rfl
  simp only[Hz]at h
  split at h
  ·rename_i hs
   simp only[zB]at h
   subst h
   exact .inr ⟨0,x,rfl,rfl,ES hs,fun i=>by simp only[Instr.findNow,hs];rfl⟩
  ·rename_i hs
   rw[zL]at h
   obtain⟨es1,h1,rfl⟩:=h
   rcases Dy (by simpa using hl) (fun i x e hi hp=>hr (i+1) x e hi hp) h1 with⟨rfl,q2,q3⟩|⟨j,x',rfl,q2,q3,q4⟩
   ·refine .inl ⟨rfl,fun i=>by simp only[Instr.findNow,hs];exact q2 _,fun y hy=>?_⟩
    rcases zO.1 hy with rfl|hy
    ·exact BX hs
    ·exact q3 y hy
   ·exact .inr ⟨j+1,x',rfl,q2,q3,fun i=>by simp only[Instr.findNow,hs];exact (q4 _).trans (by rw[uD,Nat.add_comm 1 j])⟩
  ·cases h
theorem xQ:∀{ks:List Kd} {vs us:List Value},cS ks vs us=some true→us=vs
 |[],[],[],_=>rfl
 |k::ks,v::vs,u::us,h=>by
  simp only[cS]at h
  split at h
  ·rename_i b c h1 h2
   simp only[zB,zG]at h
   obtain⟨rfl,rfl⟩:=h
   have:u=v:=by cases k<;>cases v<;>cases u<;>simp_all [kJ]
   rw[this,xQ h2]
  ·cases h
 |[],[],_::_,h=>by simp[cS]at h
 |[],_::_,_,h=>by simp[cS]at h
 |_::_,[],_,h=>by simp[cS]at h
 |_::_,_::_,[],h=>by simp[cS]at h
theorem xK:∀{ks:List Kd} {vs:List Value} {b:Bool},cS ks vs vs=some b→b=true
 |[],[],b,h=>by simpa[cS]using h.symm
 |k::ks,v::vs,b,h=>by
  simp only[cS]at h
  split at h
  ·rename_i b1 c h1 h2
   have h1':b1=true:=by cases k<;>cases v<;>simp_all [kJ]
   have h2':=xK h2
   simp_all
  ·cases h
 |[],_::_,b,h=>by simp[cS]at h
 |_::_,[],b,h=>by simp[cS]at h
theorem Ai {P:Program} {kt:TypeId} {ks:List Kd} (hs:lO P kt=some ks) {vs:List Value} {v:AV} {R:Value→AV→Prop} {w0:World}:∀{ents:List MapEntry} {es es':List (List AV)},ents.length=es.length→(∀(i:Nat) (x:MapEntry) (e:List AV),ents[i]?=some x→es[i]?=some e→∃a,e=[.sc x.key,a]∧R x.val a)→CI ks vs v es=some es'→
  (es'=es++[[.sc (.agg vs.toArray),v]]∧(∀i,(Instr.findAsking kt (.agg vs.toArray) ents i).run P w0= .ok none w0)∧∀x∈ents,x.key≠ .agg vs.toArray)∨
  ∃(j:Nat) (x:MapEntry),es'=es.set j [.sc (.agg vs.toArray),v]∧ents[j]?=some x∧x.key= .agg vs.toArray∧∀i,(Instr.findAsking kt (.agg vs.toArray) ents i).run P w0= .ok (some (i+j,x.val)) w0
 |[],[],es',_,_,h=>by simp only[CI,zB]at h;subst h;exact .inl ⟨rfl,fun i=>rfl,by simp⟩
 |[],_::_,_,hl,_,_=>by simp at hl
 |_::_,[],_,hl,_,_=>by simp at hl
 |x::ents,e::es,es',hl,hr,h=>by
  obtain⟨a,rfl,_⟩:=hr 0 x e rfl rfl
  unfold CI at h
  split at h
  ·rename_i heq;cases heq
  ·rename_i us a' r heq
   simp only[vZ,AV.sc.injEq,and_true]at heq
   obtain⟨⟨hk,rfl⟩,rfl⟩:=heq
   have eqr:∀(b:Bool),cS ks vs us.toList=some b→(Op.equal kt (.agg vs.toArray) (.agg us)).run P w0= .ok b w0:=fun b hb=>by
    have:=TA hs hb w0
    simpa using this
   split at h
   ·rename_i hb
    simp only[zB]at h
    subst h
    refine .inr ⟨0,x,rfl,rfl,?_,fun i=>?_⟩
    ·rw[hk,←xQ hb]
    ·simp only[Instr.findAsking,Sem.run_bind,hk,eqr _ hb,Result.andThen_ok]
     rfl
   ·rename_i hb
    rw[zL]at h
    obtain⟨es1,h1,rfl⟩:=h
    rcases Ai hs (by simpa using hl) (fun i x e hi hp=>hr (i+1) x e hi hp) h1 with⟨rfl,q2,q3⟩|⟨j,x',rfl,q2,q3,q4⟩
    ·refine .inl ⟨by rw[hk];rfl,fun i=>?_,fun y hy=>?_⟩
     ·simp only[Instr.findAsking,Sem.run_bind,hk,eqr _ hb,Result.andThen_ok]
      exact q2 _
     ·rcases zO.1 hy with rfl|hy
      ·rw[hk]
       intro e
       simp only[Value.agg.injEq]at e
       subst e
       have:=xK hb
       cases this
      ·exact q3 y hy
    ·refine .inr ⟨j+1,x',by rw[hk];rfl,q2,q3,fun i=>?_⟩
     simp only[Instr.findAsking,Sem.run_bind,hk,eqr _ hb,Result.andThen_ok]
     exact (q4 _).trans (by rw[uD,Nat.add_comm 1 j])
   ·cases h
  ·cases h
theorem Cp {vs:List Value} (hv:∀v∈vs,∃k n,v= .int k n) (n:Nat):Instr.sameBits (n+1) (.agg vs.toArray) (.agg vs.toArray)=true:=by
 have key:∀l:List Value,(∀v∈l,∃k n,v= .int k n)→(l.zip l).all (fun (x,y)=>Instr.sameBits n x y)=true:=fun l=>by
  induction l with
  |nil=>intro _;rfl
  |cons a l ih=>
   intro h
   obtain⟨k,m,rfl⟩:=h a (by simp)
   have:=ih fun v hv=>h v (by simp[hv])
   simp only[List.zip_cons_cons,List.all_cons,this,Bool.and_true]
   cases n<;>simp[Instr.sameBits]
 simp only[Instr.sameBits,beq_self_eq_true,zP]
 exact key vs hv
def RS:AV→Option Value
 | .sc v=>some v
 | .agg cs=>(scs cs).map fun vs=> .agg vs.toArray
 |_=>none
theorem xo {ents:Array MapEntry} {clk:Nat} (h:StampN ents clk) {kv vv:Value} (hk:∀x∈ents.toList,x.key≠kv):StampN (ents.push {key:=kv,val:=vv,born:=clk}) (clk+1):=by
 refine⟨MapKept.stamped_push h.st hk,by simp[h.sz],fun i e he=>?_⟩
 rw[Array.getElem?_push]at he
 split at he
 ·rename_i hi
  simp only[zB]at he
  subst he
  rw[hi]
  exact h.sz
 ·exact h.bo i e he
theorem mu {ents:Array MapEntry} {clk j:Nat} (h:StampN ents clk) (f:MapEntry→MapEntry) (hb:∀e,(f e).born=e.born) (hk:∀e,ents[j]?=some e→(f e).key=e.key):StampN (ents.modify j f) clk:=by
 refine⟨MapKept.stamped_modify h.st _ _ (fun e _=>hb e) (fun e _ he=>hk e he),by simp[h.sz],fun i e he=>?_⟩
 rw[Array.getElem?_modify]at he
 split at he
 ·rw[zL]at he
  obtain⟨x,hx,rfl⟩:=he
  rw[hb]
  exact h.bo i x hx
 ·exact h.bo i e he
def YJ (P:Program) (w:World) (ρ:aW) (H:ah) (ok:Nat→Prop) (t:TypeId) (vk:Value) (x k v:AV) (H':ah):Prop:=
 ∃(kt et:TypeId) (id:Nat) (o:AObj) (es':List (List AV)),P.underlying t=some (.map kt et)∧x= .mref id∧H[id]?=some (some o)∧H'=H.set id (some {o with es:=es'})∧RS k=some vk∧
  (∀b,(Instr.checkKey b 10000 kt vk).run P w= .ok () w)∧(Instr.keyThatStays vk vk).run P w= .ok vk w∧
  ∀(l:List MapEntry),l.length=o.es.length→(∀(i:Nat) (x:MapEntry) (e:List AV),l[i]?=some x→o.es[i]?=some e→∃a,e=[.sc x.key,a]∧Rep w ρ H ok x.val a)→
   (es'=o.es++[[.sc vk,v]]∧(Instr.findKey kt vk l).run P w= .ok none w∧∀x∈l,x.key≠vk)∨∃(j:Nat) (x:MapEntry),es'=o.es.set j [.sc vk,v]∧l[j]?=some x∧x.key=vk∧(Instr.findKey kt vk l).run P w= .ok (some (j,x.val)) w
theorem Gj {t:TypeId} {vk:Value} {x k v:AV} {H':ah} (rk:Rep w ρ H ok vk k) (h:jf E.P t H x k v=some H'):YJ E.P w ρ H ok t vk x k v H':=by
 unfold jf at h
 split at h
 ·rename_i kt d et kv id hm
  obtain⟨ht,hd⟩:=lP hm
  have hv:=cM rk
  subst hv
  split at h
  ·rename_i hk
   have hk:=tH hk
   split at h
   ·rename_i o ho
    rw[zL]at h
    obtain⟨es',hput,rfl⟩:=h
    refine⟨kt,et,id,o,es',ht,rfl,ho,rfl,rfl,fun b=>MapKept.run_checkKey hd hk b 9999,MapKept.run_keyThatStays hk,fun l hl hr=>?_⟩
    rcases Dy hl hr hput with⟨q1,q2,q3⟩|⟨j,y,q1,q2,q3,q4⟩
    ·exact .inl ⟨q1,MapKept.run_findKey hd (q2 0),q3⟩
    ·have hf:=q4 0
     rw[vR]at hf
     exact .inr ⟨j,y,q1,q2,q3,MapKept.run_findKey hd hf⟩
   ·cases h
  ·cases h
 ·rename_i kt d et cs id hm
  obtain⟨ht,hd⟩:=lP hm
  split at h
  ·rename_i ks hks
   obtain⟨fs,hu,hf,hsg,_⟩:=sR hks
   split at h
   ·rename_i vs hvs
    obtain⟨h1,h2,h3⟩:=xN hvs
    have hv:vk= .agg vs.toArray:=Kz rk h1
    subst hv
    split at h
    ·rename_i o ho
     rw[zL]at h
     obtain⟨es',hput,rfl⟩:=h
     refine⟨kt,et,id,o,es',ht,rfl,ho,rfl,by simp only[RS,h1,vI],fun b=>oz hu hf h2 h3 b 9998,by simp[Instr.keyThatStays,Cp h3 9999],fun l hl hr=>?_⟩
     rcases Ai hsg (w0:=w) hl hr hput with⟨q1,q2,q3⟩|⟨j,y,q1,q2,q3,q4⟩
     ·exact .inl ⟨q1,ki hu (q2 0),q3⟩
     ·have hf:=q4 0
      rw[vR]at hf
      exact .inr ⟨j,y,q1,q2,q3,ki hu hf⟩
    ·cases h
   ·cases h
  ·cases h
 ·cases h
theorem kT (g:Good E w ρ H ok) {id b:Nat} {o:AObj} (ho:H[id]?=some (some o)) (hρ:ρ id=some (b,maxLen+1)) {ents:Array MapEntry} {clk:Nat} (h1:w.heap[b]?=some (.map ents clk)) (hk2:o.k=2) (es':List (List AV)) (ents':Array MapEntry) (clk':Nat) (hst:StampN ents' clk') (hl:o.es.length≤es'.length) (hlen:∀e∈es',e.length=o.k) (hsz:ents'.size=es'.length)
  (hget:∀(i:Nat) (x:MapEntry) (e:List AV),ents'[i]?=some x→es'[i]?=some e→∃a,e=[.sc x.key,a]∧Rep w ρ H ok x.val a):
  Good E {w with heap:=w.heap.setIfInBounds b (.map ents' clk')} ρ (H.set id (some {o with es:=es'})) ok∧Ext w ρ H ok {w with heap:=w.heap.setIfInBounds b (.map ents' clk')} ρ (H.set id (some {o with es:=es'})) ok:=by
 refine g.change ho hρ {o with es:=es'} rfl hl hlen rfl rfl rfl (by simp) (fun b' hb'=>(MapKept.heap_set h1).2 b' hb') fun hx=>?_
 refine .inr (.inl ⟨rfl,hk2,ents',clk',(MapKept.heap_set h1).1,hst,hsz,fun i y e hy he=>?_⟩)
 obtain⟨a,ha,hr⟩:=hget i y e hy he
 exact⟨a,ha,hr.ext hx⟩
theorem EN {ents:Array MapEntry} {es:List (List AV)} (h3:ents.size=es.length) (h4:∀(i:Nat) (x:MapEntry) (e:List AV),ents[i]?=some x→es[i]?=some e→∃a,e=[.sc x.key,a]∧Rep w ρ H ok x.val a) {j:Nat} {y:MapEntry} (hj:ents[j]?=some y) (f:MapEntry→MapEntry) {v:AV} (hr:Rep w ρ H ok (f y).val v):
  ∀(i:Nat) (x:MapEntry) (e:List AV),(ents.modify j f)[i]?=some x→(es.set j [.sc (f y).key,v])[i]?=some e→∃a,e=[.sc x.key,a]∧Rep w ρ H ok x.val a:=fun i z e hz he=>by
 have hjl:j<ents.size:=(zW.1 hj).1
 rw[Array.getElem?_modify]at hz
 rw[wO]at he
 split at hz
 ·rename_i hji
  subst hji
  rw[if_pos rfl,if_pos (by omega)]at he
  rw[hj]at hz
  simp only[vI,zB]at hz he
  subst hz;subst he
  exact⟨v,rfl,hr⟩
 ·rename_i hji
  rw[if_neg hji]at he
  exact h4 i z e hz he
theorem FJ {ents:Array MapEntry} {es:List (List AV)} (h3:ents.size=es.length) (h4:∀(i:Nat) (x:MapEntry) (e:List AV),ents[i]?=some x→es[i]?=some e→∃a,e=[.sc x.key,a]∧Rep w ρ H ok x.val a) {kv vv:Value} {c:Nat} {v:AV} (hr:Rep w ρ H ok vv v):
  ∀(i:Nat) (x:MapEntry) (e:List AV),(ents.push {key:=kv,val:=vv,born:=c})[i]?=some x→(es++[[.sc kv,v]])[i]?=some e→∃a,e=[.sc x.key,a]∧Rep w ρ H ok x.val a:=fun i y e hy he=>by
 rcases Nat.lt_or_ge i ents.size with hi|hi
 ·rw[Array.getElem?_push,if_neg (by omega)]at hy
  rw[zD (by omega)]at he
  exact h4 i y e hy he
 ·have hi':i=ents.size:=by
   have:=(gsI he)
   simp at this
   omega
  subst hi'
  simp at hy
  rw[h3]at he
  simp at he
  subst hy;subst he
  exact⟨v,rfl,hr⟩
theorem En (g:Good E w ρ H ok) {t:TypeId} {vx vk vv:Value} {x k v:AV} {H':ah} (rx:Rep w ρ H ok vx x) (rk:Rep w ρ H ok vk k) (rv:Rep w ρ H ok vv v) (h:jf E.P t H x k v=some H'):
  ∃w',(Instr.mapUpdate t vx vk vv).run E.P w= .ok () w'∧Good E w' ρ H' ok∧Ext w ρ H ok w' ρ H' ok:=by
 obtain⟨kt,et,id,o,es',ht,rfl,ho,rfl,_,hck,hst,hfind⟩:=Gj (E:=E) rk h
 cases rx with
 |mrefDead hd _=>rw[ho]at hd;cases hd
 |@mref _ b o' ho' hρ=>
  rw[ho]at ho'
  simp only[zB]at ho'
  subst ho'
  have hobj:=g.obj id o ho
  rw[hρ]at hobj
  obtain⟨hk2,ents,clk,h1,h2,h3,h4⟩:=hobj.map
  rcases hfind ents.toList (by simpa using h3) (fun i x e hi he=>h4 i x e (by simpa using hi) he)with⟨rfl,q2,q3⟩|⟨j,y,rfl,q2,q3,q4⟩
  ·obtain⟨g',x'⟩:=kT g ho hρ h1 hk2 (o.es++[[.sc vk,v]]) (ents.push {key:=vk,val:=vv,born:=clk}) (clk+1) (xo h2 q3) (by simp) (fun e he=>by
     rcases wA.1 he with he|he
     ·exact g.len id o ho e he
     ·simp at he;subst he;simp[hk2]) (by simp[h3]) (FJ h3 h4 rv)
   exact⟨_,by simp[Instr.mapUpdate,run_underlying ht,MapKept.run_getObj_map h1,hck,q2,MapKept.run_setObj_map _ h1,Result.andThen],g',x'⟩
  ·have hj:ents[j]?=some y:=by simpa using q2
   obtain⟨g',x'⟩:=kT g ho hρ h1 hk2 (o.es.set j [.sc vk,v]) (ents.modify j fun e=>{e with key:=vk,val:=vv}) clk (mu h2 _ (fun _=>rfl) (fun e he=>by rw[hj]at he;simp only[zB]at he;subst he;exact q3.symm)) (by simp) (fun e he=>by
     rcases List.mem_or_eq_of_mem_set he with he|rfl
     ·exact g.len id o ho e he
     ·simp[hk2]) (by simp[h3]) (EN h3 h4 hj _ rv)
   exact⟨_,by simp[Instr.mapUpdate,run_underlying ht,MapKept.run_getObj_map h1,hck,q4,hj,q3,hst,MapKept.run_setObj_map _ h1,Result.andThen],g',x'⟩
def QN (H:ah) (id j:Nat) (kv:Value) (v:AV):Prop:=∃o,H[id]?=some (some o)∧o.es[j]?=some [.sc kv,v]
theorem BV (g:Good E w ρ H ok) {t:TypeId} {vx vk:Value} {id:Nat} {k v0:AV} {H':ah} {kv:Value} (rx:Rep w ρ H ok vx (.mref id)) (rk:Rep w ρ H ok vk k) (hl:iK E.P t H (.mref id) k false=some v0) (h:jf E.P t H (.mref id) k v0=some H') (hkv:RS k=some kv):
  ∃(vz:Value) (w':World) (j:Nat),(Instr.mapEntry t vx vk).run E.P w= .ok (.tuple #[vz,.int .i64 (j:Int)]) w'∧Good E w' ρ H' ok∧Ext w ρ H ok w' ρ H' ok∧Rep w' ρ H' ok vz v0∧QN H' id j kv v0:=by
 obtain⟨vz,hz,rz⟩:=sX g rx rk hl
 obtain⟨kt,et,id',o,es',ht,hx,ho,rfl,hkv',hck,hst,hfind⟩:=Gj (E:=E) rk h
 cases hx
 rw[hkv]at hkv'
 cases hkv'
 cases rx with
 |mrefDead hd _=>rw[ho]at hd;cases hd
 |@mref _ b o' ho' hρ=>
  rw[ho]at ho'
  simp only[zB]at ho'
  subst ho'
  have hobj:=g.obj id o ho
  rw[hρ]at hobj
  obtain⟨hk2,ents,clk,h1,h2,h3,h4⟩:=hobj.map
  rw[oD ht h1]at hz
  simp only[rF,Sem.run_bind,hck,Result.andThen_ok]at hz
  have hidl:=(gsI ho)
  rcases hfind ents.toList (by simpa using h3) (fun i x e hi he=>h4 i x e (by simpa using hi) he)with⟨rfl,q2,q3⟩|⟨j,y,rfl,q2,q3,q4⟩
  ·have hz0:(zeroValue et).run E.P w= .ok vz w:=by
    rw[q2]at hz
    simp only[Result.andThen_ok,Sem.run_bind,Sem.run_pure]at hz
    cases hzz:(zeroValue et).run E.P w with
    |ok z w1=>rw[hzz]at hz;simpa using hz
    |_=>rw[hzz]at hz;cases hz
   obtain⟨g',x'⟩:=kT g ho hρ h1 hk2 (o.es++[[.sc vk,v0]]) (ents.push {key:=vk,val:=vz,born:=clk}) (clk+1) (xo h2 q3) (by simp) (fun e he=>by
     rcases wA.1 he with he|he
     ·exact g.len id o ho e he
     ·simp at he;subst he;simp[hk2]) (by simp[h3]) (FJ h3 h4 rz)
   refine⟨vz,_,clk,?_,g',x',rz.ext x',⟨_,by rw[wK hidl],?_⟩⟩
   ·simp[Instr.mapEntry,run_underlying ht,MapKept.run_getObj_map h1,hck,q2,hz0,MapKept.run_setObj_map _ h1,Result.andThen,goInt]
   ·show (o.es++[[.sc vk,v0]])[clk]?=_
    rw[h2.sz,h3]
    simp
  ·have hj:ents[j]?=some y:=by simpa using q2
   have hjl:j<ents.size:=(zW.1 hj).1
   have hzy:vz=y.val:=by
    rw[q4]at hz
    simp only[Result.andThen_ok,Sem.run_bind,Sem.run_pure]at hz
    simpa using (by injection hz:y.val=vz).symm
   obtain⟨g',x'⟩:=kT g ho hρ h1 hk2 (o.es.set j [.sc vk,v0]) (ents.modify j fun e=>{e with key:=vk}) clk (mu h2 _ (fun _=>rfl) (fun e he=>by rw[hj]at he;simp only[zB]at he;subst he;exact q3.symm)) (by simp) (fun e he=>by
     rcases List.mem_or_eq_of_mem_set he with he|rfl
     ·exact g.len id o ho e he
     ·simp[hk2]) (by simp[h3]) (EN h3 h4 hj (fun e=>{e with key:=vk}) (by rw[←hzy];exact rz))
   refine⟨vz,_,j,?_,g',x',rz.ext x',⟨_,by rw[wK hidl],?_⟩⟩
   ·have hb:=h2.bo j y hj
    simp[Instr.mapEntry,run_underlying ht,MapKept.run_getObj_map h1,hck,q4,hj,q3,hst,MapKept.run_setObj_map _ h1,Result.andThen,goInt,hb,hzy]
   ·show (o.es.set j [.sc vk,v0])[j]?=_
    rw[wK (by omega)]
theorem qO (j:Nat):∀(l:List MapEntry) (d:Nat),(∀(i:Nat) (e:MapEntry),l[i]?=some e→e.born=d+i)→d≤j→j<d+l.length→l.findIdx? (fun e=>((e.born:Nat):Int)==((j:Nat):Int))=some (j-d)
 |[],d,_,h1,h2=>by simp at h2;omega
 |a::l,d,h,h1,h2=>by
  have ha:=h 0 a rfl
  rw[List.findIdx?_cons]
  by_cases e:d=j
  ·subst e
   simp[ha]
  ·have hb:(((a.born:Nat):Int)==((j:Nat):Int))=false:=by
    simp only[beq_eq_false_iff_ne,ne_eq,Int.natCast_inj]
    omega
   rw[hb]
   have:=qO j l (d+1) (fun i e he=>by rw[h (i+1) e (by simpa using he)];omega) (by omega) (by simp at h2;omega)
   simp only[wS,if_false,this,vI]
   congr 1
   omega
theorem vu (g:Good E w ρ H ok) {t:TypeId} {vx vv kv:Value} {id j:Nat} {o:AObj} {v v1:AV} (rx:Rep w ρ H ok vx (.mref id)) (rv:Rep w ρ H ok vv v) (ho:H[id]?=some (some o)) (he:o.es[j]?=some [.sc kv,v1]):
  ∃w',(Instr.entryStore t vx (.int .i64 (j:Int)) vv).run E.P w= .ok () w'∧Good E w' ρ (H.set id (some {o with es:=o.es.set j [.sc kv,v]})) ok∧Ext w ρ H ok w' ρ (H.set id (some {o with es:=o.es.set j [.sc kv,v]})) ok:=by
 cases rx with
 |mrefDead hd _=>rw[ho]at hd;cases hd
 |@mref _ b o' ho' hρ=>
  rw[ho]at ho'
  simp only[zB]at ho'
  subst ho'
  have hobj:=g.obj id o ho
  rw[hρ]at hobj
  obtain⟨hk2,ents,clk,h1,h2,h3,h4⟩:=hobj.map
  have hjl:j<o.es.length:=(gsI he)
  obtain⟨y,hj⟩:∃y,ents[j]?=some y:=⟨_,zX (by omega)⟩
  obtain⟨a,ha,_⟩:=h4 j y _ hj he
  simp only[vZ,AV.sc.injEq,and_true]at ha
  obtain⟨rfl,rfl⟩:=ha
  have hidx:ents.findIdx? (fun e=>((e.born:Nat):Int)==((j:Nat):Int))=some j:=by
   have e1:ents.findIdx? (fun e=>((e.born:Nat):Int)==((j:Nat):Int))=ents.toList.findIdx? (fun e=>((e.born:Nat):Int)==((j:Nat):Int)):=by cases ents;simp
   rw[e1,qO j ents.toList 0 (fun i e hi=>by rw[h2.bo i e (by simpa using hi)];omega) (by omega) (by simp;omega)]
   simp
  obtain⟨g',x'⟩:=kT g ho hρ h1 hk2 (o.es.set j [.sc y.key,v]) (ents.modify j fun e=>{e with val:=vv}) clk (mu h2 _ (fun _=>rfl) (fun e _=>rfl)) (by simp) (fun e he=>by
    rcases List.mem_or_eq_of_mem_set he with he|rfl
    ·exact g.len id o ho e he
    ·simp[hk2]) (by simp[h3]) (EN h3 h4 hj (fun e=>{e with val:=vv}) rv)
  exact⟨_,by simp[Instr.entryStore,MapKept.run_getObj_map h1,asInt,asIntOf,hidx,MapKept.run_setObj_map _ h1,Result.andThen],g',x'⟩
theorem u9 (w:World) (o:Obj):(w.alloc o).heap[w.heap.size]?=some o:=(MapKept.heap_alloc w o).1
theorem Good.newOther (g:Good E w ρ H ok) (ob:Obj) (o:AObj) (cap:Nat) (hlen:∀(e:List AV),e∈o.es→e.length=o.k) (hobj:Ext w ρ H ok (w.alloc ob) ρ H ok→ObjOk (w.alloc ob) ρ H ok o (some (w.heap.size,cap))):
  Good E (w.alloc ob) (fK ρ H.length (some (w.heap.size,cap))) (H++[some o]) ok∧Ext w ρ H ok (w.alloc ob) (fK ρ H.length (some (w.heap.size,cap))) (H++[some o]) ok:=by
 obtain⟨g1,x1⟩:=g.alloc ob (ok':=ok) (fun _ h=>h) (fun _ h=> .inl h)
 obtain⟨g2,x2⟩:=g1.add o (some (w.heap.size,cap)) (hobj x1) hlen (fun b c hb=>by
   simp only[zB,Prod.mk.injEq]at hb
   obtain⟨rfl,rfl⟩:=hb
   refine⟨fun h=>by have:=(g.oks _ h).1;omega,fun id o' c' h hρ=>?_,fun hr=>by have:=g.row_lt hr.symm;omega,.inr g.size⟩
   have hobj:=g.obj id o' h
   rw[hρ]at hobj
   have:=hobj.lt
   omega)
 exact⟨g2,x1.trans x2⟩
theorem Cl (g:Good E w ρ H ok) (t:TypeId):
  ∃v w' ρ',(Instr.makeMap t none).run E.P w= .ok v w'∧Good E w' ρ' (H++[some ⟨0,2,[]⟩]) ok∧Ext w ρ H ok w' ρ' (H++[some ⟨0,2,[]⟩]) ok∧Rep w' ρ' (H++[some ⟨0,2,[]⟩]) ok v (.mref H.length):=by
 obtain⟨g',x'⟩:=g.newOther (.map #[] 0) ⟨0,2,[]⟩ (maxLen+1) (by simp) fun _=> .inr (.inl ⟨rfl,rfl,#[],0,u9 w _,⟨MapKept.stamped_empty 0,rfl,by simp⟩,rfl,by simp⟩)
 refine⟨.map (some w.heap.size),_,_,?_,g',x',.mref cO (by simp[fK])⟩
 simp[Instr.makeMap,Result.andThen]
def Bs (P:Program) (t:TypeId):Bool:=match P.underlying t with
 |some (.map _ _)=>true
 |_=>false
theorem FR (g:Good E w ρ H ok) {t:TypeId} {vx:Value} {es:List (Value×Value)} (rx:Rep w ρ H ok vx (.imap es)) (ht:Bs E.P t=true):
  ∃v w' ρ',(Instr.range t vx).run E.P w= .ok v w'∧Good E w' ρ' (H++[some ⟨0,3,[[.junk,.junk,.imap es]]⟩]) ok∧Ext w ρ H ok w' ρ' (H++[some ⟨0,3,[[.junk,.junk,.imap es]]⟩]) ok∧Rep w' ρ' (H++[some ⟨0,3,[[.junk,.junk,.imap es]]⟩]) ok v (.miter H.length):=by
 obtain⟨kt,et,hu⟩:∃kt et,E.P.underlying t=some (.map kt et):=by
  unfold Bs at ht
  split at ht
  ·exact⟨_,_,by assumption⟩
  ·cases ht
 cases rx with
 |@imap b clk ents _ hok hb he hw=>
  obtain⟨g',x'⟩:=g.newOther (.mapIter (some b) clk #[] clk) ⟨0,3,[[.junk,.junk,.imap es]]⟩ (maxLen+2) (by simp) fun x1=> .inr (.inr ⟨rfl,rfl,.inr ⟨b,clk,#[],ents,.junk,.junk,u9 w _,hok,(x1.blk b hok).trans hb,hw,by rw[List.filter_eq_self.2 (by simp),he],.inl ⟨rfl,rfl⟩⟩⟩)
  refine⟨.pointer (some ⟨w.heap.size,0,none⟩),_,_,?_,g',x',.miter cO (by simp[fK])⟩
  simp only[Instr.range,Sem.run_bind,run_underlying hu,Result.andThen_ok,MapKept.run_getObj_map hb,Sem.run_pure]
  simp
 |imapNil=>
  obtain⟨g',x'⟩:=g.newOther (.mapIter none 0 #[] 0) ⟨0,3,[[.junk,.junk,.imap []]]⟩ (maxLen+2) (by simp) fun x1=> .inr (.inr ⟨rfl,rfl,.inl ⟨rfl,u9 w _⟩⟩)
  refine⟨.pointer (some ⟨w.heap.size,0,none⟩),_,_,?_,g',x',.miter cO (by simp[fK])⟩
  simp only[Instr.range,Sem.run_bind,run_underlying hu,Result.andThen_ok,Sem.run_pure]
  simp
theorem sE {β:Type} [BEq β] [LawfulBEq β] {f:MapEntry→β}:∀{l:List MapEntry} {i:Nat} {e:MapEntry},(l.map f).Nodup→l[i]?=some e→l.filter (fun x=>!(f x==f e))=l.eraseIdx i
 |[],i,e,_,h=>by simp at h
 |a::l,0,e,hn,h=>by
  simp only[wQ,zB]at h
  subst h
  simp only[wD,List.nodup_cons]at hn
  simp only[List.filter_cons,beq_self_eq_true,Bool.not_true,wS,if_false,List.eraseIdx_cons_zero]
  refine List.filter_eq_self.2 fun x hx=>?_
  have:¬f x=f a:=fun q=>hn.1 (q▸uA hx)
  simp[this]
 |a::l,i+1,e,hn,h=>by
  simp only[wD,List.nodup_cons]at hn
  have h':l[i]?=some e:=by simpa using h
  have:¬f a=f e:=fun q=>hn.1 (q▸uA (zE h'))
  simp only[List.filter_cons,List.eraseIdx_cons_succ]
  rw[if_pos (by simp[this]),sE hn.2 h']
theorem re {α β:Type} (f:α→β):∀(l:List α) (i:Nat),(l.map f).eraseIdx i=(l.eraseIdx i).map f
 |[],i=>by simp
 |a::l,0=>rfl
 |a::l,i+1=>by simp[re f l i]
theorem yx {P:Program} {b since last:Nat} {m:Option Nat} {seen:Array Nat} (o:Obj) (hb:w.heap[b]?=some (.mapIter m since seen last)):(setObj b o).run P w= .ok () {w with heap:=w.heap.setIfInBounds b o}:=by
 simp[setObj,Sem.run,hb]
theorem yw {P:Program} (n:Nat) (hn:0<n):∃(i:Nat) (w1:World),(choose (.mapNext n)).run P w= .ok i w1∧i<n∧w1.os=w.os∧w1.tape=w.tape∧w1.output=w.output∧w1.heap=w.heap:=by
 simp only[choose,Sem.run,Question.forced,Question.cut]
 by_cases h:n≤1
 ·exact⟨0,w,by simp[h],hn,rfl,rfl,rfl,rfl⟩
 ·exact⟨w.tape w.drawn (.mapNext n)%n,{w with drawn:=w.drawn+1},by simp[h],Nat.mod_lt _ hn,rfl,rfl,rfl,rfl⟩
theorem HO (g:Good E w ρ H ok) {ty:TypeId} {vx:Value} {id:Nat} {o:AObj} {a1 a2:AV} {left:List (Value×Value)} (rx:Rep w ρ H ok vx (.miter id)) (ho:H[id]?=some (some o)) (hes:o.es=[[a1,a2,.imap left]]):
  (left=[]∧(Instr.next vx false ty).run E.P w= .ok (.tuple #[.bool false]) w)∨
  ∃(i:Nat) (e:Value×Value) (w':World),left[i]?=some e∧(Instr.next vx false ty).run E.P w= .ok (.tuple #[.bool true,e.1,e.2]) w'∧
   Good E w' ρ (H.set id (some {o with es:=[[.sc e.1,.sc e.2,.imap (left.eraseIdx i)]]})) ok∧Ext w ρ H ok w' ρ (H.set id (some {o with es:=[[.sc e.1,.sc e.2,.imap (left.eraseIdx i)]]})) ok:=by
 cases rx with
 |miterDead hd _=>rw[ho]at hd;cases hd
 |@miter _ b o' ho' hρ=>
  rw[ho]at ho'
  simp only[zB]at ho'
  subst ho'
  have hobj:=g.obj id o ho
  rw[hρ]at hobj
  obtain⟨hk3,⟨h1,h2⟩|⟨m,clk,seen,ents,c1,c2,h1,h2,h3,h4,h5,h6⟩⟩:=hobj.iter
  ·left
   rw[hes]at h1
   simp only[vZ,AV.imap.injEq,and_true]at h1
   refine⟨h1.2.2,?_⟩
   simp only[Instr.next,Sem.run_bind,gO h2,Result.andThen_ok,Sem.run_pure]
  ·rw[hes]at h5
   simp only[vZ,AV.imap.injEq,and_true]at h5
   obtain⟨_,_,hleft⟩:=h5
   obtain⟨s1,s2,s3⟩:=h4
   have hold:((ents.filter fun e=>!seen.contains e.born).filter (·.born<clk))=ents.filter fun e=>!seen.contains e.born:=by
    apply Array.ext'
    simp only[Array.toList_filter]
    exact List.filter_eq_self.2 fun x hx=>by simpa using s1 x (vS.1 hx).1
   have hnew:((ents.filter fun e=>!seen.contains e.born).filter (·.born≥clk))=#[]:=by
    apply Array.ext'
    simp only[Array.toList_filter]
    exact List.filter_eq_nil_iff.2 fun x hx=>by have:=s1 x (vS.1 hx).1;simp;omega
   have hchk:(!seen.isEmpty&&!ents.isEmpty&&ents.all (·.born≥clk))=false:=by
    rcases wR ents.size with h0|h0
    ·have:ents=#[]:=uE h0
     subst this;simp
    ·have hm:ents[0]∈ents.toList:=by simp
     have hlt:=s1 _ hm
     have:ents.all (·.born≥clk)=false:=by
      rw[Bool.eq_false_iff]
      intro hall
      have:=(Array.all_eq_true.1 hall) 0 h0
      simp at this
      omega
     rw[this];simp
   generalize hL:(ents.filter fun e=>!seen.contains e.born)=L at hold hnew
   have hLl:L.toList=ents.toList.filter fun e=>!seen.contains e.born:=by rw[←hL,Array.toList_filter]
   have hsz:left.length=L.size:=by rw[hleft,←hLl];simp
   rcases wR L.size with h0|h0
   ·left
    have hLe:L=#[]:=uE h0
    refine⟨wF (by omega),?_⟩
    subst hLe
    simp only[Instr.next,Sem.run_bind,gO h1,Result.andThen_ok,MapKept.run_getObj_map h3,hL,hold,hnew,hchk,wS,if_false,Sem.run_pure]
    simp[choose,Sem.run,Question.forced]
   ·right
    obtain⟨i,w1,hc1,hi,e1,e2,e3,e4⟩:=yw (w:=w) (P:=E.P) L.size h0
    have hLi:L[i]?=some L[i]:=zX hi
    have hlefti:left[i]?=some (L[i].key,L[i].val):=by
     rw[hleft,←hLl,zR,vF,hLi];rfl
    have hb1:w1.heap[b]?=some (.mapIter (some m) clk seen clk):=by rw[e4];exact h1
    have hne0:¬L.isEmpty=true:=by simp;intro h;subst h;simp at h0
    refine⟨i,_,{w1 with heap:=w1.heap.setIfInBounds b (.mapIter (some m) clk (seen.push L[i].born) clk)},hlefti,?_,g.change ho hρ _ rfl (by rw[hes];simp) (by simp[hk3]) e1 e2 e3 (by simp[e4]) (fun b' hb'=>?_) fun hx=>?_⟩
    ·simp only[Instr.next,Sem.run_bind,gO h1,Result.andThen_ok,MapKept.run_getObj_map h3,hL,hold,hnew,hchk,wS,if_false,Sem.run_pure,hne0,Array.append_empty,Array.empty_append,Array.size_map,hc1,Array.getElem?_map,hLi,vI,yx _ hb1]
    ·have hh:=(MapKept.heap_set (w:=w1) (o':= .mapIter (some m) clk (seen.push L[i].born) clk) hb1).2 b' hb'
     simp only[e4]at hh⊢
     exact hh
    ·have hm:m≠b:=fun e=>(g.own id o b _ ho hρ).1 (e▸h2)
     have hLm:L[i]∈ents.toList:=by
      have:L[i]∈L.toList:=by simp
      rw[hLl]at this
      exact (vS.1 this).1
     refine .inr (.inr ⟨rfl,hk3,.inr ⟨m,clk,seen.push L[i].born,ents,.sc L[i].key,.sc L[i].val,(MapKept.heap_set hb1).1,h2,(hx.blk m h2).trans h3,⟨s1,s2,s3⟩,?_,.inr ⟨L[i],hLm,by simp,rfl,rfl⟩⟩⟩)
     have hnd:(L.toList.map (·.born)).Nodup:=by
      rw[hLl]
      exact (List.filter_sublist.map _).nodup s2
     have hfe:=sE (f:=(·.born)) hnd (show L.toList[i]?=some L[i] by simp[hLi])
     have:(ents.toList.filter fun e=>!(seen.push L[i].born).contains e.born)=L.toList.eraseIdx i:=by
      rw[←hfe,hLl,List.filter_filter]
      apply List.filter_congr
      intro x _
      simp only[Array.contains_push]
      by_cases hq:x.born=L[i].born
      ·simp[hq]
      ·have hq':¬L[i].born=x.born:=fun e=>hq e.symm
       cases seen.contains x.born<;>simp[hq,hq']
     rw[this,hleft,←hLl,re]
end
end Go.PA
