/- Several texts of this claim, joined: Key1 Reg1 Reg2 Reg3 PaCut Reg4 Reg5 Reg6 Reg7 PaCell Reg8 Reg9 Reg10 Led1 Led2. -/
import Derived.Test.YtmmpcldnpflchaaGreatDoorPk7
set_option linter.unusedSimpArgs false
set_option linter.unusedVariables false
namespace Go.Proofs.YtmmpcldnpflchaaGreatDoor
def l7 {α:Type} (q:α→Bool) (am:α→Int) (l:List α):Int:=((l.filter q).map am).sum
def CR {α:Type} (q:α→Bool) (l:List α):Nat:=(l.filter q).length
theorem xi {α:Type} (q:α→Bool) (am:α→Int):l7 q am []=0:=rfl
theorem dv {α:Type} (q:α→Bool) (am:α→Int) (x:α) (l:List α):l7 q am (x::l)=(if q x=true then am x else 0)+l7 q am l:=by
 unfold l7
 by_cases h:q x=true
 ·simp[h]
 ·simp[h]
theorem tN {α:Type} (q:α→Bool) (am:α→Int) (a b:List α):l7 q am (a++b)=l7 q am a+l7 q am b:=by
 unfold l7
 simp
theorem gv {α:Type} (q:α→Bool) (x:α) (l:List α):CR q (x::l)=(if q x=true then 1 else 0)+CR q l:=by
 unfold CR
 by_cases h:q x=true
 ·simp[h];omega
 ·simp[h]
theorem qF {α:Type} (q:α→Bool) (am:α→Int):∀l:List α,(∀x,x∈l→0<am x)→0≤l7 q am l∧∀x,x∈l→q x=true→am x≤l7 q am l
 |[],_=>⟨Int.le_refl _,fun x h=>by cases h⟩
 |y::l,h=>by
  obtain⟨h1,h2⟩:=qF q am l fun x hx=>h x (by simp[hx])
  have hy:=h y (by simp)
  rw[dv]
  refine⟨by split<;>omega,fun x hx hq=>?_⟩
  rcases List.mem_cons.1 hx with rfl|hx
  ·rw[if_pos hq];omega
  ·have:=h2 x hx hq
   split<;>omega
theorem y6 {α:Type} (q:α→Bool) (am:α→Int) (l:List α) (h:∀x,x∈l→q x=false):l7 q am l=0:=by
 unfold l7
 rw[List.filter_eq_nil_iff.2 fun x hx=>by simp[h x hx]]
 rfl
def jK {α:Type} (lt is:α→Bool) (mk:Int→α) (am:α→Int):List α→Int→List α
 |[],n=>if n=0 then []else [mk n]
 |x::l,n=>if lt x=true then x::jK lt is mk am l n else if is x=true then (if am x+n=0 then l else mk (am x+n)::l)else if n=0 then x::l else mk n::x::l
structure KeyOk {α:Type} (R:α→α→Prop) (lt is:α→Bool) (mk:Int→α) (am:α→Int):Prop where
 am:∀a,am (mk a)=a
 trans:∀x y z,R x y→R y z→R x z
 ltMk:∀x a,lt x=true→R x (mk a)
 isR:∀x y a,is x=true→R x y→R (mk a) y
 tri:∀x a,lt x=false→is x=false→R (mk a) x
 mono:∀x y,R x y→lt y=true→lt x=true
 irr:∀x y,is x=true→R x y→is y=false
 dis:∀x,lt x=true→is x=false
 aft:∀x y,lt x=false→is x=false→R x y→is y=false
section
variable {α:Type} {R:α→α→Prop} {lt is:α→Bool} {mk:Int→α} {am:α→Int}
theorem zy (q:α→Bool) (hm:∀a,am (mk a)=a) (c:Bool) (hq:∀a,q (mk a)=c) (hi:∀x,is x=true→q x=c):∀(l:List α) (n:Int),l7 q am (jK lt is mk am l n)=l7 q am l+if c=true then n else 0
 |[],n=>by
  unfold jK
  by_cases h:n=0
  ·subst h;simp[xi]
  ·rw[if_neg h,dv,hq,hm,xi];omega
 |x::l,n=>by
  have ih:=zy q hm c hq hi l n
  unfold jK
  split
  ·rw[dv,dv,ih];omega
  ·split
   ·rename_i h1 h2
    have:=hi x h2
    split
    ·rename_i h3
     rw[dv,this]
     split<;>omega
    ·rw[dv,dv,hq,hm,this]
     split<;>omega
   ·split
    ·rename_i h
     subst h
     simp
    ·rw[dv,hq,hm];omega
theorem yv (q:α→Bool) (c:Bool) (hq:∀a,q (mk a)=c) (hi:∀x,is x=true→q x=c):∀(l:List α) (n:Int),CR q (jK lt is mk am l n)≤CR q l+if c=true then 1 else 0
 |[],n=>by
  unfold jK
  by_cases h:n=0
  ·subst h;simp[CR]
  ·rw[if_neg h,gv,hq];simp[CR]
 |x::l,n=>by
  have ih:=yv q c hq hi l n
  unfold jK
  split
  ·rw[gv,gv];omega
  ·split
   ·rename_i h1 h2
    have:=hi x h2
    split
    ·rw[gv,this];omega
    ·rw[gv,gv,hq,this];omega
   ·split
    ·omega
    ·rw[gv,hq];omega
theorem w7 (l:List α) (n:Int):(jK lt is mk am l n).length≤l.length+1:=by
 have:=yv (lt:=lt) (is:=is) (mk:=mk) (am:=am) (fun _=>true) true (fun _=>rfl) (fun _ _=>rfl) l n
 have e:∀l:List α,l.filter (fun _=>true)=l:=fun l=>List.filter_eq_self.2 (by simp)
 unfold CR at this
 rw[e,e]at this
 simpa using this
theorem Cn:∀{l:List α} {n:Int} {x:α},x∈jK lt is mk am l n→x∈l∨(n≠0∧x=mk n)∨∃y,y∈l∧is y=true∧am y+n≠0∧x=mk (am y+n)
 |[],n,x,h=>by
  unfold jK at h
  split at h
  ·cases h
  ·rename_i h0
   exact .inr (.inl ⟨h0,by simpa using h⟩)
 |y::l,n,x,h=>by
  unfold jK at h
  split at h
  ·rcases List.mem_cons.1 h with rfl|h
   ·exact .inl (by simp)
   ·rcases Cn h with h|h|⟨z,h1,h2⟩
    ·exact .inl (by simp[h])
    ·exact .inr (.inl h)
    ·exact .inr (.inr ⟨z,by simp[h1],h2⟩)
  ·split at h
   ·rename_i h1 h2
    split at h
    ·exact .inl (by simp[h])
    ·rename_i h3
     rcases List.mem_cons.1 h with rfl|h
     ·exact .inr (.inr ⟨y,by simp,h2,h3,rfl⟩)
     ·exact .inl (by simp[h])
   ·split at h
    ·exact .inl h
    ·rename_i h3
     rcases List.mem_cons.1 h with rfl|h
     ·exact .inr (.inl ⟨h3,rfl⟩)
     ·exact .inl h
theorem ny (ok:KeyOk R lt is mk am):∀{l:List α} (n:Int),l.Pairwise R→(jK lt is mk am l n).Pairwise R
 |[],n,_=>by
  unfold jK
  split<;>simp
 |x::l,n,h=>by
  obtain⟨h1,h2⟩:=List.pairwise_cons.1 h
  unfold jK
  split
  ·rename_i hl
   refine List.pairwise_cons.2 ⟨fun y hy=>?_,ny ok n h2⟩
   rcases Cn hy with hy|⟨_,rfl⟩|⟨_,_,_,_,rfl⟩
   ·exact h1 y hy
   ·exact ok.ltMk _ _ hl
   ·exact ok.ltMk _ _ hl
  ·split
   ·rename_i hl hi
    split
    ·exact h2
    ·exact List.pairwise_cons.2 ⟨fun y hy=>ok.isR x y _ hi (h1 y hy),h2⟩
   ·rename_i hl hi
    split
    ·exact h
    ·have ht:=ok.tri x n (by simpa using hl) (by simpa using hi)
     refine List.pairwise_cons.2 ⟨fun y hy=>?_,h⟩
     rcases List.mem_cons.1 hy with rfl|hy
     ·exact ht
     ·exact ok.trans _ _ _ ht (h1 y hy)
theorem mg (ok:KeyOk R lt is mk am):∀{l:List α},l.Pairwise R→∃k,k≤l.length∧(∀h x,l[h]?=some x→(lt x=true↔h<k))∧
  ((∃x,l[k]?=some x∧is x=true∧l7 is am l=am x∧∀n,jK lt is mk am l n=if am x+n=0 then l.take k++l.drop (k+1)else l.take k++mk (am x+n)::l.drop (k+1))∨
   ((∀x,l[k]?=some x→is x=false)∧l7 is am l=0∧∀n,jK lt is mk am l n=if n=0 then l else l.take k++mk n::l.drop k))
 |[],_=>⟨0,by simp,by simp,.inr ⟨by simp,rfl,fun n=>by unfold jK;simp⟩⟩
 |x::l,h=>by
  obtain⟨h1,h2⟩:=List.pairwise_cons.1 h
  by_cases hl:lt x=true
  ·obtain⟨k,hk,hm,hc⟩:=mg ok h2
   have hd:=ok.dis x hl
   refine⟨k+1,by simp;omega,fun j y hy=>?_,?_⟩
   ·cases j with
    |zero=>
     simp only[List.getElem?_cons_zero,Option.some.injEq]at hy
     subst hy
     simp[hl]
    |succ j=>
     rw[List.getElem?_cons_succ]at hy
     rw[hm j y hy]
     omega
   ·rcases hc with⟨y,c1,c2,c3,c4⟩|⟨c1,c3,c4⟩
    ·refine .inl ⟨y,by simpa using c1,c2,by rw[dv,hd,c3];simp,fun n=>?_⟩
     unfold jK
     rw[if_pos hl,c4]
     split<;>simp
    ·refine .inr ⟨fun y hy=>c1 y (by simpa using hy),by rw[dv,hd,c3];simp,fun n=>?_⟩
     unfold jK
     rw[if_pos hl,c4]
     split<;>simp
  ·have hl':lt x=false:=by simpa using hl
   have hm:∀(j:Nat) (y:α),(x::l)[j]?=some y→(lt y=true↔j<0):=fun j y hy=>by
    refine⟨fun e=>?_,fun e=>by omega⟩
    rcases List.mem_cons.1 (List.mem_of_getElem? hy)with rfl|hy
    ·exact absurd e hl
    ·exact absurd (ok.mono x y (h1 y hy) e) hl
   refine⟨0,by simp,hm,?_⟩
   by_cases hi:is x=true
   ·refine .inl ⟨x,rfl,hi,?_,fun n=>?_⟩
    ·rw[dv,if_pos hi,y6 is am l fun y hy=>ok.irr x y hi (h1 y hy)]
     omega
    ·unfold jK
     rw[if_neg hl,if_pos hi]
     simp
   ·have hi':is x=false:=by simpa using hi
    refine .inr ⟨fun y hy=>?_,?_,fun n=>?_⟩
    ·simp only[List.getElem?_cons_zero,Option.some.injEq]at hy
     subst hy
     exact hi'
    ·rw[dv,if_neg hi,y6 is am l fun y hy=>ok.aft x y hl' hi' (h1 y hy)]
     omega
    ·unfold jK
     rw[if_neg hl,if_neg hi]
     simp
end
open Go.PA
open Go.RowKit
def Dk (s:TSecurity):Bool:=
 decide ((1≤s.ID∧s.ID≤1000)∧(1≤s.Unit∧s.Unit≤1000000000)∧(0≤s.Issued∧s.Issued≤36000)∧(s.Issued+30≤s.Maturity∧s.Maturity≤min (s.Issued+18000) 35990)∧(0≤s.Rate∧s.Rate≤20000))&&
  (if s.Every=0 then decide ((s.Maturity-s.Issued)%30=0)&&decide (s.Rate=0)else if s.Every=1∨s.Every=3∨s.Every=6∨s.Every=12 then decide ((s.Maturity-s.Issued)%(30*s.Every)=0)else false)
def uV (l:List TSecurity) (id:Int):Option TSecurity:=l.find? fun s=>decide (s.ID=id)
def hLt (id h:Int) (x:THolding):Bool:=decide (x.Security<id)||(decide (x.Security=id)&&decide (x.Holder<h))
def hIs (id h:Int) (x:THolding):Bool:=decide (x.Security=id)&&decide (x.Holder=h)
def hMk (id h a:Int):THolding:=⟨id,h,a⟩
def hAm (x:THolding):Int:=x.Amount
def hR (x y:THolding):Prop:=x.Security<y.Security∨(x.Security=y.Security∧x.Holder<y.Holder)
theorem qg {id h:Int} {x:THolding}:hLt id h x=true↔(x.Security<id∨(x.Security=id∧x.Holder<h)):=by simp[hLt]
theorem nU {id h:Int} {x:THolding}:hIs id h x=true↔(x.Security=id∧x.Holder=h):=by simp[hIs]
theorem GD {id h:Int} {x:THolding}:hLt id h x=false↔¬(x.Security<id∨(x.Security=id∧x.Holder<h)):=by rw[←qg];simp
theorem ut {id h:Int} {x:THolding}:hIs id h x=false↔¬(x.Security=id∧x.Holder=h):=by rw[←nU];simp
theorem hOk (id h:Int):KeyOk hR (hLt id h) (hIs id h) (hMk id h) hAm where
 am a:=rfl
 trans x y z h1 h2:=by unfold hR at*;omega
 ltMk x a h1:=by rw[qg]at h1;unfold hR hMk;dsimp only;omega
 isR x y a h1 h2:=by rw[nU]at h1;unfold hR hMk at*;dsimp only at*;omega
 tri x a h1 h2:=by rw[GD]at h1;rw[ut]at h2;unfold hR hMk;dsimp only;omega
 mono x y h1 h2:=by rw[qg]at*;unfold hR at h1;omega
 irr x y h1 h2:=by rw[nU]at h1;rw[ut];unfold hR at h2;omega
 dis x h1:=by rw[qg]at h1;rw[ut];omega
 aft x y h1 h2 h3:=by rw[GD]at h1;rw[ut]at*;unfold hR at h3;omega
def xW (l:List THolding) (id h n:Int):List THolding:=jK (hLt id h) (hIs id h) (hMk id h) hAm l n
def jN (l:List THolding) (id h:Int):Int:=l7 (hIs id h) hAm l
def AQ (id:Int) (x:THolding):Bool:=decide (x.Security=id)
def ig (l:List THolding) (id:Int):Int:=l7 (AQ id) hAm l
theorem si (l:List THolding) (id h n id':Int):ig (xW l id h n) id'=ig l id'+if id=id' then n else 0:=by
 have:=zy (lt:=hLt id h) (is:=hIs id h) (mk:=hMk id h) (am:=hAm) (AQ id') (fun _=>rfl) (decide (id=id')) (fun _=>rfl) (fun x hx=>by rw[nU]at hx;unfold AQ;rw[hx.1]) l n
 unfold ig xW
 rw[this]
 simp
theorem BC {l:List THolding} {id h n:Int} (hs:l.Pairwise hR) (hp:∀x,x∈l→0<x.Amount) (hn:0≤jN l id h+n):∀x,x∈xW l id h n→0<x.Amount:=by
 intro x hx
 obtain⟨k,hk,hm,⟨y,c1,c2,c3,c4⟩|⟨c1,c3,c4⟩⟩:=mg (hOk id h) hs
 all_goals
  unfold xW at hx
  unfold jN at hn
  rw[c4]at hx
  rw[c3]at hn
  split at hx
 ·rcases List.mem_append.1 hx with hx|hx
  ·exact hp x (List.mem_of_mem_take hx)
  ·exact hp x (List.mem_of_mem_drop hx)
 ·rcases List.mem_append.1 hx with hx|hx
  ·exact hp x (List.mem_of_mem_take hx)
  ·rcases List.mem_cons.1 hx with rfl|hx
   ·unfold hMk;dsimp only;omega
   ·exact hp x (List.mem_of_mem_drop hx)
 ·exact hp x hx
 ·rcases List.mem_append.1 hx with hx|hx
  ·exact hp x (List.mem_of_mem_take hx)
  ·rcases List.mem_cons.1 hx with rfl|hx
   ·unfold hMk;dsimp only;omega
   ·exact hp x (List.mem_of_mem_drop hx)
def gU (n:Int):Bool:=decide (1≤n)&&decide (n≤1000)
def gk (m:TMove):Bool:=
 if m.Kind=1 then !decide (m.From=0)||!gU m.To else if m.Kind=2 then !gU m.From||!gU m.To||decide (m.From=m.To)else !gU m.From||!decide (m.To=0)
def goH (l:List THolding) (m:TMove):List THolding:=
 let l1:=if m.From=0 then l else xW l m.Security m.From (-m.Amount)
 if m.To=0 then l1 else xW l1 m.Security m.To m.Amount
def bJ (secs:List TSecurity) (l:List THolding) (day:Int) (m:TMove):Int:=
 match uV secs m.Security with
 |none=>76
 |some s=>
  if¬(max day s.Issued≤m.Day∧m.Day≤if m.Kind=3 then 36000 else s.Maturity)then 8
  else if m.Amount≤0∨1000000000000<m.Amount∨m.Amount%s.Unit≠0 then 79
  else if gk m=true then 6
  else if m.From≠0∧jN l m.Security m.From<m.Amount then 77
  else if m.From=0∧1000000000000<ig l m.Security+m.Amount then 2
  else 0
structure HoldOk (l:List THolding) (N:Nat):Prop where
 srt:l.Pairwise hR
 pos:∀x,x∈l→0<x.Amount
 tot:∀id,ig l id≤1000000000000
 len:l.length≤N
theorem HoldOk.am {l:List THolding} {N:Nat} (h:HoldOk l N) {x:THolding} (hx:x∈l):0<x.Amount∧x.Amount≤1000000000000:=by
 have h1:=(qF (AQ x.Security) hAm l h.pos).2 x hx (by simp[AQ])
 have h2:=h.tot x.Security
 have h3:=h.pos x hx
 unfold ig at h2
 unfold hAm at h1 h2
 omega
structure MoveOk (secs:List TSecurity) (l:List THolding) (day:Int) (m:TMove) (s:TSecurity):Prop where
 sec:uV secs m.Security=some s
 day:max day s.Issued≤m.Day∧m.Day≤if m.Kind=3 then 36000 else s.Maturity
 am:0<m.Amount∧m.Amount≤1000000000000∧m.Amount%s.Unit=0
 str:gk m=false
 held:m.From≠0→m.Amount≤jN l m.Security m.From
 out:m.From=0→ig l m.Security+m.Amount≤1000000000000
theorem Lc {secs:List TSecurity} {l:List THolding} {day:Int} {m:TMove} (h:bJ secs l day m=0):∃s,MoveOk secs l day m s:=by
 unfold bJ at h
 cases hs:uV secs m.Security with
 |none=>rw[hs]at h;cases h
 |some s=>
  rw[hs]at h
  dsimp only at h
  by_cases h1:max day s.Issued≤m.Day∧m.Day≤if m.Kind=3 then 36000 else s.Maturity
  ·rw[if_neg (by simpa using h1)]at h
   by_cases h2:m.Amount≤0∨1000000000000<m.Amount∨m.Amount%s.Unit≠0
   ·rw[if_pos h2]at h;cases h
   ·rw[if_neg h2]at h
    by_cases h3:gk m=true
    ·rw[if_pos h3]at h;cases h
    ·rw[if_neg h3]at h
     by_cases h4:m.From≠0∧jN l m.Security m.From<m.Amount
     ·rw[if_pos h4]at h;cases h
     ·rw[if_neg h4]at h
      by_cases h5:m.From=0∧1000000000000<ig l m.Security+m.Amount
      ·rw[if_pos h5]at h;cases h
      ·exact⟨s,hs,h1,by omega,by simpa using h3,fun e=>by have:=fun c=>h4 ⟨e,c⟩;omega,fun e=>by have:=fun c=>h5 ⟨e,c⟩;omega⟩
  ·rw[if_pos h1]at h;cases h
theorem lJ {secs:List TSecurity} {l:List THolding} {day:Int} {m:TMove} {s:TSecurity} (h:MoveOk secs l day m s):bJ secs l day m=0:=by
 unfold bJ
 rw[h.sec]
 dsimp only
 have h2:=h.am
 rw[if_neg (by simpa using h.day),if_neg (by omega),if_neg (by simp[h.str]),if_neg (fun c=>by have:=h.held c.1;omega),if_neg (fun c=>by have:=h.out c.1;omega)]
def mH (l:List THolding) (id h n:Int):List THolding:=if h=0 then l else xW l id h n
theorem qR {secs:List TSecurity} {l:List THolding} {day:Int} {m:TMove} {s:TSecurity} {N:Nat} (h:HoldOk l N) (hm:MoveOk secs l day m s):HoldOk (mH l m.Security m.From (-m.Amount)) (N+1)∧(mH l m.Security m.From (-m.Amount)).length≤l.length+1:=by
 have h0:=h.len
 have am:=hm.am
 unfold mH
 split
 ·exact⟨⟨h.srt,h.pos,h.tot,by omega⟩,by omega⟩
 ·rename_i hf
  have:=hm.held hf
  refine⟨⟨ny (hOk _ _) _ h.srt,BC h.srt h.pos (by omega),fun id=>?_,Nat.le_trans (w7 _ _) (by omega)⟩,w7 _ _⟩
  rw[si]
  have:=h.tot id
  split<;>omega
theorem Q3 (l:List THolding) (m:TMove):goH l m=mH (mH l m.Security m.From (-m.Amount)) m.Security m.To m.Amount:=rfl
theorem Qz {secs:List TSecurity} {l:List THolding} {day:Int} {m:TMove} {s:TSecurity} {N:Nat} (h:HoldOk l N) (hm:MoveOk secs l day m s):HoldOk (goH l m) (N+2):=by
 have am:=hm.am
 obtain⟨k1,_⟩:=qR h hm
 rw[Q3]
 obtain⟨l1,h1⟩:∃l1,l1=mH l m.Security m.From (-m.Amount):=⟨_,rfl⟩
 rw[←h1]at k1⊢
 rw[mH]
 split
 ·exact⟨k1.srt,k1.pos,k1.tot,by have:=k1.len;omega⟩
 ·have hh:0≤jN l1 m.Security m.To:=(qF _ hAm l1 k1.pos).1
  refine⟨ny (hOk _ _) _ k1.srt,BC k1.srt k1.pos (by omega),fun id=>?_,Nat.le_trans (w7 _ _) (by have:=k1.len;omega)⟩
  rw[si]
  have ht:=h.tot id
  by_cases hid:m.Security=id
  ·subst hid
   rw[if_pos rfl,h1,mH]
   split
   ·rename_i hf;have:=hm.out hf;omega
   ·rw[si,if_pos rfl];omega
  ·rw[if_neg hid]
   have:=k1.tot id
   omega
structure RepSt where
 l:List THolding
 n:Nat
 d:Int
def JM (secs:List TSecurity) (t:RepSt) (m:TMove):Prop:=m.Number=t.n+1∧(1≤m.Kind∧m.Kind≤3)∧bJ secs t.l t.d m=0
def sC (t:RepSt) (m:TMove):RepSt:=⟨goH t.l m,t.n+1,m.Day⟩
inductive Runs (secs:List TSecurity):RepSt→List TMove→RepSt→Prop
 |nil {t}:Runs secs t [] t
 |snoc {t u ms m}:Runs secs t ms u→JM secs u m→Runs secs t (ms++[m]) (sC u m)
def ud:RepSt:=⟨[],0,0⟩
theorem Runs.n {secs:List TSecurity} {t u:RepSt} {ms:List TMove} (h:Runs secs t ms u):u.n=t.n+ms.length:=by
 induction h with
 |nil=>rfl
 |snoc _ _ ih=>simp[sC,ih];omega
theorem Runs.take {secs:List TSecurity} {t u:RepSt} {ms:List TMove} (h:Runs secs t ms u):∀k,∃v,Runs secs t (ms.take k) v∧∀m,ms[k]?=some m→JM secs v m∧Runs secs t (ms.take (k+1)) (sC v m):=by
 induction h with
 |nil=>exact fun k=>⟨t,by simpa using Runs.nil,fun m hm=>by simp at hm⟩
 |@snoc u ms m hr hs ih=>
  intro k
  rcases Nat.lt_trichotomy k ms.length with hk|hk|hk
  ·obtain⟨v,h1,h2⟩:=ih k
   refine⟨v,by rw[List.take_append_of_le_length (by omega)];exact h1,fun x hx=>?_⟩
   rw[List.getElem?_append_left hk]at hx
   rw[List.take_append_of_le_length (by omega)]
   exact h2 x hx
  ·subst hk
   refine⟨u,by simpa using hr,fun x hx=>?_⟩
   simp only[List.getElem?_append_right (Nat.le_refl _),Nat.sub_self,List.getElem?_cons_zero,Option.some.injEq]at hx
   subst hx
   exact⟨hs,by rw[List.take_of_length_le (by simp)];exact .snoc hr hs⟩
  ·exact⟨_,by rw[List.take_of_length_le (by simp;omega)];exact .snoc hr hs,fun x hx=>by rw[List.getElem?_eq_none (by simp;omega)]at hx;cases hx⟩
theorem Runs.det {secs:List TSecurity} {t u:RepSt} {ms:List TMove} (h:Runs secs t ms u):u=ms.foldl sC t:=by
 induction h with
 |nil=>rfl
 |snoc _ _ ih=>rw[List.foldl_append,←ih];rfl
theorem Runs.ok {secs:List TSecurity} {u:RepSt} {ms:List TMove} (h:Runs secs ud ms u):HoldOk u.l (2*ms.length):=by
 induction h with
 |nil=>
  exact⟨by simp[ud],by simp[ud],fun id=>by simp[ud,ig,l7],by simp[ud]⟩
 |snoc _ hs ih=>
  obtain⟨s,hm⟩:=Lc hs.2.2
  have:=Qz ih hm
  simpa[sC,Nat.mul_add]using this
def C4:Int→List TSecurity→Bool
 |_,[]=>true
 |p,s::l=>Dk s&&decide (p<s.ID)&&C4 s.ID l
structure RegOk (r:TRegister) (d:Int):Prop where
 secs:C4 0 r.Securities=true
 slen:r.Securities.length≤20
 run:Runs r.Securities ud r.Moves ⟨r.Holdings,r.Moves.length,d⟩
 mlen:r.Moves.length≤400
def jt (r:TRegister) (m:TMove):TRegister:=⟨r.Securities,goH r.Holdings m,r.Moves++[m]⟩
open Go.PA
open Go.RowKit
abbrev bf (l:List TSecurity):AV:= .list 7 (ac TSecurity.cells l)
abbrev cM (l:List THolding):AV:= .list 3 (ac THolding.cells l)
abbrev cF (l:List TMove):AV:= .list 7 (ac TMove.cells l)
theorem Aw (x:TSecurity):x.cells=[iv x.ID,iv x.Unit,iv x.Issued,iv x.Maturity,iv x.Rate,iv x.Every,bv x.Indexed]:=rfl
theorem pI (x:THolding):x.cells=[iv x.Security,iv x.Holder,iv x.Amount]:=rfl
theorem w8 (x:TMove):x.cells=[iv x.Number,iv x.Day,iv x.Kind,iv x.Security,iv x.From,iv x.To,iv x.Amount]:=rfl
theorem ga (x:TRegister):x.cells=[bf x.Securities,cM x.Holdings,cF x.Moves]:=rfl
theorem gX (l:List TSecurity):Imm (bf l):=aC _ TSecurity.imm _
theorem iX (l:List THolding):Imm (cM l):=aC _ THolding.imm _
theorem sk (l:List TMove):Imm (cF l):=aC _ TMove.imm _
theorem uk (x:TSecurity):Imm (.agg x.cells):= .agg fun c hc=>x.imm c hc
theorem NG (x:THolding):Imm (.agg x.cells):= .agg fun c hc=>x.imm c hc
theorem Bb (x:TMove):Imm (.agg x.cells):= .agg fun c hc=>x.imm c hc
theorem fW (x:TRegister):Imm (.agg x.cells):= .agg fun c hc=>x.imm c hc
def bet (n lo hi:Int):Bool:=decide (lo≤n)&&decide (n≤hi)
theorem gM {n lo hi:Int} (h:lo≤n∧n≤hi):bet n lo hi=true:=by simp[bet,h]
theorem zZ {n lo hi:Int} (h:¬(lo≤n∧n≤hi)):bet n lo hi=false:=by simp[bet];omega
theorem dW (n lo hi:Int):PFun Tryz.prog none none 73 [iv n,iv lo,iv hi] (·=bv (bet n lo hi)):=by
 refine ae Tryz.func73 rfl (by simp[Tryz.f73]) (by kernel_rfl) ?_
 intro E hP hr hs hW hN
 by_cases h1:lo≤n<;>by_cases h2:n≤hi<;>simp -dsimp -implicitDefEqProofs [-getElem?_pos,go_sem,hP,h1,h2,bet]
theorem xj (n:Int):PFun Tryz.prog none none 213 [iv n] (·=bv (gU n)):=by
 refine ae Tryz.func213 rfl (by simp[Tryz.f213]) (by kernel_rfl) ?_
 intro E hP hr hs hW hN
 simp -dsimp -implicitDefEqProofs [-getElem?_pos,go_sem,hP]
 refine aj (dW n 1 1000) hP nK (an (by simp -dsimp[-getElem?_pos,go_sem])) .sc ?_
 simp -dsimp -implicitDefEqProofs [-getElem?_pos,go_sem,hP,gU,bet]
theorem yn (n:Int):PFun Tryz.prog none none 25 [iv n] (·=bv (bet n 0 1000000000000)):=by
 refine ae Tryz.func25 rfl (by simp[Tryz.f25]) (by kernel_rfl) ?_
 intro E hP hr hs hW hN
 by_cases h1:0≤n<;>by_cases h2:n≤1000000000000<;>simp -dsimp -implicitDefEqProofs [-getElem?_pos,go_sem,hP,h1,h2,bet]
structure SecOk (s:TSecurity):Prop where
 id:1≤s.ID∧s.ID≤1000
 unit:1≤s.Unit∧s.Unit≤1000000000
 iss:0≤s.Issued∧s.Issued≤36000
 mat:s.Issued+30≤s.Maturity∧s.Maturity≤min (s.Issued+18000) 35990
 rate:0≤s.Rate∧s.Rate≤20000
 every:(s.Every=0∧(s.Maturity-s.Issued)%30=0∧s.Rate=0)∨((s.Every=1∨s.Every=3∨s.Every=6∨s.Every=12)∧(s.Maturity-s.Issued)%(30*s.Every)=0)
theorem OE {s:TSecurity} (h:Dk s=true):SecOk s:=by
 unfold Dk at h
 rw[Bool.and_eq_true,decide_eq_true_eq]at h
 obtain⟨⟨h1,h2,h3,h4,h5⟩,h6⟩:=h
 refine⟨h1,h2,h3,h4,h5,?_⟩
 by_cases e:s.Every=0
 ·rw[if_pos e,Bool.and_eq_true,decide_eq_true_eq,decide_eq_true_eq]at h6
  exact .inl ⟨e,h6⟩
 ·rw[if_neg e]at h6
  by_cases e2:s.Every=1∨s.Every=3∨s.Every=6∨s.Every=12
  ·rw[if_pos e2,decide_eq_true_eq]at h6
   exact .inr ⟨e2,h6⟩
  ·rw[if_neg e2]at h6
   cases h6
theorem NL (s:TSecurity) (h:Dk s=true):PFun Tryz.prog none none 31 [.agg s.cells] (·=bv true):=by
 obtain⟨h1,h2,h3,h4,h5,h6⟩:=OE h
 refine ae Tryz.func31 rfl (by simp[Tryz.f31]) (by kernel_rfl) ?_
 intro E hP hr hs hW hN
 have c1:=gM h1
 have c2:=gM h2
 have c3:=gM h3
 have c4:=gM h4
 have c5:=gM h5
 have w1:=ah (s.Issued+30) (by omega)
 have w2:=ah (s.Issued+18000) (by omega)
 have w3:=ah (s.Maturity-s.Issued) (by omega)
 have am:x6 [iv (s.Issued+18000),iv 35990]=some (iv (min (s.Issued+18000) 35990)):=by simp[x6,fd]
 simp -dsimp -implicitDefEqProofs [-getElem?_pos,go_sem,hP,Aw]
 refine aj (dW s.ID 1 1000) hP nK (an (by simp -dsimp[-getElem?_pos,go_sem])) .sc ?_
 simp -dsimp -implicitDefEqProofs [-getElem?_pos,go_sem,hP,c1]
 refine aj (dW s.Unit 1 1000000000) hP nK (an (by simp -dsimp[-getElem?_pos,go_sem])) .sc ?_
 simp -dsimp -implicitDefEqProofs [-getElem?_pos,go_sem,hP,c2]
 refine aj (dW s.Issued 0 36000) hP nK (an (by simp -dsimp[-getElem?_pos,go_sem])) .sc ?_
 simp -dsimp -implicitDefEqProofs [-getElem?_pos,go_sem,hP,c3,w1,w2,am]
 refine aj (dW s.Maturity (s.Issued+30) (min (s.Issued+18000) 35990)) hP nK (an (by simp -dsimp[-getElem?_pos,go_sem])) .sc ?_
 simp -dsimp -implicitDefEqProofs [-getElem?_pos,go_sem,hP,c4]
 refine aj (dW s.Rate 0 20000) hP nK (an (by simp -dsimp[-getElem?_pos,go_sem])) .sc ?_
 simp -dsimp -implicitDefEqProofs [-getElem?_pos,go_sem,hP,c5,w3]
 rcases h6 with⟨e,e2,e3⟩|⟨e,e2⟩
 ·have t:(s.Maturity-s.Issued).tmod 30=0:=by rw[Int.tmod_eq_emod_of_nonneg (by omega)];exact e2
  simp -dsimp -implicitDefEqProofs [-getElem?_pos,go_sem,hP,e,e3,t]
 ·rcases e with e|e|e|e
  ·rw[e]at e2
   have t:(s.Maturity-s.Issued).tmod 30=0:=(Int.tmod_eq_emod_of_nonneg (by omega)).trans e2
   have w5:IntKind.i64.wrap 30=30:=by decide
   simp -dsimp -implicitDefEqProofs [-getElem?_pos,go_sem,hP,e,t,w5]
  ·rw[e]at e2
   have t:(s.Maturity-s.Issued).tmod 90=0:=(Int.tmod_eq_emod_of_nonneg (by omega)).trans e2
   have w5:IntKind.i64.wrap 90=90:=by decide
   simp -dsimp -implicitDefEqProofs [-getElem?_pos,go_sem,hP,e,t,w5]
  ·rw[e]at e2
   have t:(s.Maturity-s.Issued).tmod 180=0:=(Int.tmod_eq_emod_of_nonneg (by omega)).trans e2
   have w5:IntKind.i64.wrap 180=180:=by decide
   simp -dsimp -implicitDefEqProofs [-getElem?_pos,go_sem,hP,e,t,w5]
  ·rw[e]at e2
   have t:(s.Maturity-s.Issued).tmod 360=0:=(Int.tmod_eq_emod_of_nonneg (by omega)).trans e2
   have w5:IntKind.i64.wrap 360=360:=by decide
   simp -dsimp -implicitDefEqProofs [-getElem?_pos,go_sem,hP,e,t,w5]
open Go.PA
open Go.RowKit
theorem Of {H:ab} {x:AV} {k:Nat} {es:List (List AV)} {xs ys:List AV} (h:SlIs H x k es) (hi:Imm (.list k es)) (ht:Args H xs ys):Args H (x::xs) (.list k es::ys):=by
 rcases h with rfl|⟨rfl,rfl⟩|⟨id,ty,rfl,hH⟩
 ·exact bI hi ht
 ·exact GH ht
 ·exact iY hH rfl hi ht
set_option maxHeartbeats 1000000 in
theorem EY (l:List THolding) (k1 k2:Int) (g:FuncId) (cf:THolding→Int) (k:Nat) (hl:l.length≤1000000) (hk:k≤l.length) (hen:aa Tryz.prog g=true) (hm:∀h x,l[h]?=some x→(cf x<0↔h<k))
  (hg:∀a,a∈l→PFun Tryz.prog none none g [.agg (THolding.cells a),.agg ([iv k1,iv k2])] (·=iv (cf a))):
  PFun Tryz.prog none none 232 [.list 3 (ac THolding.cells l),.agg ([iv k1,iv k2]),.fn g []] (·= .tup [iv k,bv ((l[k]?).any fun x=>decide (cf x=0))]):=by
 refine ae Tryz.func232 rfl (by simp[Tryz.f232]) (by kernel_rfl) ?_
 intro E hP hr hs hW hN
 have ik:Imm (.agg ([iv k1,iv k2])):= .agg (by simp -dsimp[-getElem?_pos,go_sem])
 simp -dsimp -implicitDefEqProofs [-getElem?_pos,go_sem,hP,pI]
 obtain⟨I,hI⟩:∃I:Nat→St→Prop,I=fun m s=>∃i j:Nat,i≤k∧k≤j∧j≤l.length∧m=j-i∧s.t 0= .list 3 (ac THolding.cells l)∧s.t 2= .fn g []∧s.t 4= .ref 0 0 0∧s.t 8=iv l.length∧s.t 9=iv i∧s.t 10=iv j∧s.H[0]?=some (some ⟨278,2,[[iv k1,iv k2]]⟩):=⟨_,rfl⟩
 refine aF I (l.length) (by rw[hN];rfl) ?_ ?_
 ·rw[hI]
  exact⟨0,l.length,by omega,hk,by omega,rfl,by simp -dsimp[-getElem?_pos,go_sem],by simp -dsimp[-getElem?_pos,go_sem],by simp -dsimp[-getElem?_pos,go_sem],by simp -dsimp[-getElem?_pos,go_sem],by simp -dsimp[-getElem?_pos,go_sem],by simp -dsimp[-getElem?_pos,go_sem],by simp -dsimp[-getElem?_pos,go_sem,pI]⟩
 intro m s hs'
 rw[hI]at hs'
 obtain⟨i,j,hi,hj,hjl,hm',t0,t2,t4,t8,t9,t10,hp⟩:=hs'
 have lt0:=(gsI hp)
 simp -dsimp -implicitDefEqProofs [-getElem?_pos,go_sem,hP,t9,t10]
 refine aH (fun h=>?_) (fun h=>?_)
 ·have hij:i<j:=by simpa using h
  have w1:=ah ((i:Int)+j) (by omega)
  have wu:IntKind.u64.wrap ((i:Int)+j)=(i:Int)+j:=by rw[IntKind.wrap_u64];omega
  obtain⟨h,hh⟩:∃h,h=(i+j) / 2:=⟨_,rfl⟩
  have wh:IntKind.i64.wrap (((i:Int)+j) / 2)=(h:Int):=by rw[ah _ (by omega)];omega
  obtain⟨a,ha⟩:∃a,l[h]?=some a:=⟨_,List.getElem?_eq_getElem (by omega)⟩
  have hcmp:=hm h a ha
  have w2:=ah ((h:Int)+1) (by omega)
  have ia:Imm (.agg (THolding.cells a)):= .agg fun c hc=>THolding.imm a c hc
  have cm:=hg a (List.mem_of_getElem? ha)
  rw[pI]at cm ia
  simp -dsimp -implicitDefEqProofs [-getElem?_pos,go_sem,hP,t9,t10,w1,wu,xk,qz,wh]
  refine au (fun _=>true) [] hP (by kernel_rfl) (by kernel_rfl) ?_
  simp -dsimp -implicitDefEqProofs [-getElem?_pos,go_sem,hP,t0,t2,t4,ha,hp,lt0,pI]
  refine ak (cm.lift _ _) hP hen (by simpa using⟨ia,ik⟩) .sc ?_
  by_cases c:cf a<0
  ·have c1:decide (cf a<0)=true:=decide_eq_true c
   simp -dsimp -implicitDefEqProofs [-getElem?_pos,go_sem,hP,c1,w2]
   refine⟨j-(h+1),by omega,?_⟩
   rw[hI]
   exact⟨h+1,j,by have:=hcmp.1 c;omega,by omega,by omega,rfl,by simp -dsimp[-getElem?_pos,go_sem,t0],by simp -dsimp[-getElem?_pos,go_sem,t2],by simp -dsimp[-getElem?_pos,go_sem,t4],by simp -dsimp[-getElem?_pos,go_sem,t8],by simp -dsimp[-getElem?_pos,go_sem],by simp -dsimp[-getElem?_pos,go_sem,t10],by simp -dsimp[-getElem?_pos,go_sem,hp]⟩
  ·have c1:decide (cf a<0)=false:=decide_eq_false c
   simp -dsimp -implicitDefEqProofs [-getElem?_pos,go_sem,hP,c1]
   refine⟨h-i,by omega,?_⟩
   rw[hI]
   exact⟨i,h,by omega,by have:=mt hcmp.2 c;omega,by omega,rfl,by simp -dsimp[-getElem?_pos,go_sem,t0],by simp -dsimp[-getElem?_pos,go_sem,t2],by simp -dsimp[-getElem?_pos,go_sem,t4],by simp -dsimp[-getElem?_pos,go_sem,t8],by simp -dsimp[-getElem?_pos,go_sem,t9],by simp -dsimp[-getElem?_pos,go_sem],by simp -dsimp[-getElem?_pos,go_sem,hp]⟩
 ·have hik:i=k:=by
   have:¬i<j:=by simpa using h
   omega
  subst hik
  simp -dsimp -implicitDefEqProofs [-getElem?_pos,go_sem,hP]
  refine au (fun _=>true) [] hP (by kernel_rfl) (by kernel_rfl) ?_
  by_cases c:i<l.length
  ·obtain⟨a,ha⟩:∃a,l[i]?=some a:=⟨_,List.getElem?_eq_getElem c⟩
   have d:decide ((i:Int)<(l.length:Int))=true:=decide_eq_true (by omega)
   have ia:Imm (.agg (THolding.cells a)):= .agg fun c hc=>THolding.imm a c hc
   have cm:=hg a (List.mem_of_getElem? ha)
   rw[pI]at cm ia
   simp -dsimp -implicitDefEqProofs [-getElem?_pos,go_sem,hP,t9,t8,c,d,t0,t2,t4,ha,hp,lt0,pI]
   refine ak (cm.lift _ _) hP hen (by simpa using⟨ia,ik⟩) .sc ?_
   simp -dsimp -implicitDefEqProofs [-getElem?_pos,go_sem,hP,t9,t8,c,d,t0,t2,t4,ha,hp,lt0,pI]
   exact aN (aE .sc .sc) (by simp[ha])
  ·have d:decide ((i:Int)<(l.length:Int))=false:=decide_eq_false (by omega)
   have n:l[i]?=none:=List.getElem?_eq_none (by omega)
   simp -dsimp -implicitDefEqProofs [-getElem?_pos,go_sem,hP,t9,t8,c,d]
   exact aN (aE .sc .sc) (by simp[n])
def A4 (a1 a2 b1 b2:Int):Int:=orI [iF a1 b1,iF a2 b2]
theorem Nh (a1 a2 b1 b2:Int):A4 a1 a2 b1 b2<0↔(a1<b1∨(a1=b1∧a2<b2)):=by
 simp only[A4,orI,iF]
 repeat' split
 all_goals omega
theorem Oa (a1 a2 b1 b2:Int):A4 a1 a2 b1 b2=0↔(a1=b1∧a2=b2):=by
 simp only[A4,orI,iF]
 repeat' split
 all_goals omega
theorem De (a1 a2 b1 b2:Int):PFun Tryz.prog none none 235 [.agg [iv a1,iv a2],.agg [iv b1,iv b2]] (·=iv (A4 a1 a2 b1 b2)):=by
 refine ae Tryz.func235 rfl (by simp[Tryz.f235]) (by kernel_rfl) ?_
 intro E hP hr hs hW hN
 simp -dsimp -implicitDefEqProofs [-getElem?_pos,go_sem,hP]
 refine au (fun _=>true) [] hP (by kernel_rfl) (by kernel_rfl) ?_
 simp -dsimp -implicitDefEqProofs [-getElem?_pos,go_sem,hP]
 refine aj (gB a1 b1) hP yI (an (by simp -dsimp[-getElem?_pos,go_sem])) .sc ?_
 simp -dsimp -implicitDefEqProofs [-getElem?_pos,go_sem,hP]
 refine aj (gB a2 b2) hP yI (an (by simp -dsimp[-getElem?_pos,go_sem])) .sc ?_
 simp -dsimp -implicitDefEqProofs [-getElem?_pos,go_sem,hP]
 refine aj (OG [iF a1 b1,iF a2 b2] (by simp)) hP LO (an (by simp -dsimp[-getElem?_pos,go_sem,aI])) .sc ?_
 simp -dsimp -implicitDefEqProofs [-getElem?_pos,go_sem,hP,A4]
theorem P7 (x:THolding):PFun Tryz.prog none none 234 [.agg x.cells] (·= .agg [iv x.Security,iv x.Holder]):=by
 refine ae Tryz.func234 rfl (by simp[Tryz.f234]) (by kernel_rfl) ?_
 intro E hP hr hs hW hN
 simp -dsimp -implicitDefEqProofs [-getElem?_pos,go_sem,hP,pI]
 exact aN (by simp -dsimp[-getElem?_pos,go_sem]) rfl
theorem EF (x:THolding) (k1 k2:Int):PFun Tryz.prog none none 233 [.agg x.cells,.agg [iv k1,iv k2]] (·=iv (A4 x.Security x.Holder k1 k2)):=by
 refine ae Tryz.func233 rfl (by simp[Tryz.f233]) (by kernel_rfl) ?_
 intro E hP hr hs hW hN
 have ix:=NG x
 have op:=P7 x
 rw[pI]at ix op
 simp -dsimp -implicitDefEqProofs [-getElem?_pos,go_sem,hP,pI]
 refine au (fun _=>true) [] hP (by kernel_rfl) (by kernel_rfl) ?_
 simp -dsimp -implicitDefEqProofs [-getElem?_pos,go_sem,hP]
 refine ak (op.lift _ _) hP QH (by simpa using ix) (by simp -dsimp[-getElem?_pos,go_sem]) ?_
 simp -dsimp -implicitDefEqProofs [-getElem?_pos,go_sem,hP]
 refine aj (De x.Security x.Holder k1 k2) hP Pw (an (by simp -dsimp[-getElem?_pos,go_sem])) .sc ?_
 simp -dsimp -implicitDefEqProofs [-getElem?_pos,go_sem,hP]
theorem Dd {row src:Option Nat} (c:Nat) (sx hx n d:AV) (l:List THolding) (id h:Int) (k:Nat) (H:ab) (hc:H[c]?=some (some ⟨162,4,[[sx,hx,n,d]]⟩)) (hsl:SlIs H hx 3 (ac THolding.cells l)) (hl:l.length≤100000) (hk:k≤l.length) (hm:∀j x,l[j]?=some x→(hLt id h x=true↔j<k)):
  MFun Tryz.prog row src 214 [.ref c 0 0,.agg [iv id,iv h]] H (fun r H'=>r= .tup [iv k,bv ((l[k]?).any (hIs id h))]∧Kept [] H H'):=by
 obtain⟨C,hC⟩:∃C:AV→ab→Prop,C=fun r H'=>r= .tup [iv k,bv ((l[k]?).any (hIs id h))]∧Kept [] H H':=⟨_,rfl⟩
 rw[←hC]
 have ex:∃r H',C r H':=⟨_,H,by rw[hC];exact⟨rfl,ai _ _⟩⟩
 have pf:=EY l id h 233 (fun x=>A4 x.Security x.Holder id h) k (by omega) hk P2 (fun j x hx=>by
  rw[←hm j x hx,qg]
  exact Nh _ _ _ _) (fun a _=>EF a id h)
 have e:(fun x:THolding=>decide (A4 x.Security x.Holder id h=0))=hIs id h:=funext fun x=>by
  rw[Bool.eq_iff_iff,nU,decide_eq_true_eq]
  exact Oa _ _ _ _
 rw[e]at pf
 have lc:=(gsI hc)
 obtain⟨b,hb⟩:∃b,b=(l[k]?).any (hIs id h):=⟨_,rfl⟩
 rw[←hb]at pf hC
 refine al Tryz.func214 rfl (by simp[Tryz.f214]) (by kernel_rfl) (ex) ?_
 intro E hP hr hs hN
 simp -dsimp -implicitDefEqProofs [-getElem?_pos,go_sem,hP]
 obtain⟨H1,hH1⟩:∃H1:ab,H1=H++[some ⟨278,2,[[iv id,iv h]]⟩]:=⟨_,rfl⟩
 have k1:Kept [] H H1:=by rw[hH1];exact ap _ _ _
 have c1:=k1 _ _ (by simp) hc
 have s1:=hsl.kept k1
 have a1:H1[H.length]?=some (some ⟨278,2,[[iv id,iv h]]⟩):=by rw[hH1];simp
 have lt1:=(gsI a1)
 have lc1:=(gsI c1)
 simp only[←hH1]
 refine au (fun _=>true) [] hP (by kernel_rfl) (by kernel_rfl) ?_
 simp -dsimp -implicitDefEqProofs [-getElem?_pos,go_sem,hP,c1,a1,lt1,lc1]
 refine dA (pf.lift _ _) hP QG (Of s1 (iX l) (an (by simp -dsimp[-getElem?_pos,go_sem]))) ⟨_,rfl⟩ (by rintro r rfl;simp[pW,kU]) ?_
 rintro r rfl
 simp -dsimp -implicitDefEqProofs [-getElem?_pos,go_sem,hP]
 rw[hC]
 exact⟨rfl,k1⟩
end Go.Proofs.YtmmpcldnpflchaaGreatDoor
namespace Go.PA
open Go.RowKit
theorem KF {P:Program} {row src:Option Nat} {f:FuncId} {args:List AV} {H:ab} {C D:AV→ab→Prop} (h:MFun P row src f args H C)
  (hd:∀r H',C r H'→∃id n o,r= .sref id 0 n∧H'[id]?=some (some o)∧n≤o.es.length∧D (.sref H'.length 0 n) (H'.set id none++[some ⟨o.ty,o.k,o.es.take n⟩])):MFun P row src f args H D:=by
 intro E hP hrow hsrc
 obtain⟨⟨x0,H0,h0⟩,hw⟩:=h E hP hrow hsrc
 refine⟨?_,fun w ρ ok vs g hs hr=>(hw w ρ ok vs g hs hr).mono ?_⟩
 ·obtain⟨_,_,_,_,_,_,h1⟩:=hd _ _ h0
  exact⟨_,_,h1⟩
 ·rintro e w' ⟨v,x,H',ρ',ok',rfl,hc,g',x',r'⟩
  obtain⟨id,n,o,rfl,ho,hn,h1⟩:=hd _ _ hc
  obtain⟨g2,x2⟩:=g'.kill id ok' (fun _ h=>h) (fun _ h=> .inl h)
  have hlen:(H'.set id none).length=H'.length:=by simp
  have hnew:∀y:Option AObj,(H'.set id none++[y])[H'.length]?=some y:=fun y=>by rw[←hlen];exact cx
  cases r' with
  |srefDead hd' _=>rw[ho]at hd';cases hd'
  |srefNil ho' hρ=>
   obtain⟨g3,x3⟩:=g2.add ⟨o.ty,o.k,o.es.take 0⟩ none (by simp[ObjOk]) (by simp) (fun _ _ h=>by cases h)
   exact⟨_,_,_,_,ok',rfl,h1,g3,x'.trans (x2.trans x3),.srefNil (hnew _) (by simp[eT])⟩
  |@sref _ _ _ c o' b cap ho' hρ hn' hcc hnc hcap=>
   rw[ho]at ho'
   simp only[Option.some.injEq]at ho'
   subst ho'
   have hobj:=g'.obj id o ho
   rw[hρ]at hobj
   obtain⟨cur,c1,c2,c3,c4,c5⟩:=hobj.cells hcap
   have own:=g'.own id o b cap ho hρ
   obtain⟨g3,x3⟩:=g2.add ⟨o.ty,o.k,o.es.take n⟩ (some (b,cap)) (.inl ⟨cur,c1,c2,by simp only[List.length_take];omega,c4,fun i e j a he ha=>by
     simp only[List.getElem?_take]at he
     split at he
     ·obtain⟨c,d1,d2,d3⟩:=c5 i e j a he ha
      exact⟨c,d1,d2,d3.ext x2⟩
     ·cases he⟩) (fun e he=>g'.len id o ho e (List.mem_of_mem_take he)) (fun b' c' h'=>by
     simp only[Option.some.injEq,Prod.mk.injEq]at h'
     obtain⟨rfl,rfl⟩:=h'
     refine⟨own.1,fun id' o' c' ho' hρ'=>?_,own.2.1,own.2.2⟩
     obtain⟨hne,hl⟩:=jE ho'
     exact hne (g'.inj id' o' b c' id o cap hl hρ' ho hρ))
   refine⟨_,_,_,_,ok',rfl,h1,g3,x'.trans (x2.trans x3),.sref (o:=⟨o.ty,o.k,o.es.take n⟩) (hnew _) (by simp[eT]) (by simp;omega) hcc hnc hcap⟩
end Go.PA
namespace Go.Proofs.YtmmpcldnpflchaaGreatDoor
open Go.PA
open Go.RowKit
set_option maxRecDepth 8000 in
set_option maxHeartbeats 2000000 in
theorem zL {row src:Option Nat} (es:List (List AV)) (e:List AV) (i id:Nat) (H:ab) (hi:i≤es.length) (hl:es.length≤100000) (ho:H[id]?=some (some ⟨160,3,es⟩)) (he0:e≠[]):
  MFun Tryz.prog row src 215 [.sref id 0 es.length,iv i,.list 3 [e]] H (fun r H'=>∃jd,r= .sref jd 0 (es.length+1)∧(jd=id∨H.length≤jd)∧H'[jd]?=some (some ⟨160,3,es.take i++e::es.drop i⟩)∧Kept [id] H H'):=by
 obtain⟨C,hC⟩:∃C:AV→ab→Prop,C=fun r H'=>∃jd,r= .sref jd 0 (es.length+1)∧(jd=id∨H.length≤jd)∧H'[jd]?=some (some ⟨160,3,es.take i++e::es.drop i⟩)∧Kept [id] H H':=⟨_,rfl⟩
 rw[←hC]
 have ex:∃r H',C r H':=by
  rw[hC]
  exact⟨.sref H.length 0 (es.length+1),H++[some ⟨160,3,es.take i++e::es.drop i⟩],H.length,rfl,.inr (Nat.le_refl _),by simp,ap _ _ _⟩
 have lid:=(gsI ho)
 obtain⟨n,hn⟩:∃n,n=es.length:=⟨_,rfl⟩
 rw[←hn]at hi hl hC⊢
 by_cases hin:i=n
 ·subst hin
  refine al Tryz.func215 rfl (by simp[Tryz.f215]) (by kernel_rfl) (ex) ?_
  intro E hP hr hs hN
  by_cases h0:i=0
  ·subst h0
   simp -dsimp -implicitDefEqProofs [-getElem?_pos,go_sem,hP,ho,←hn,ax,aS,aL]
   rw[hC]
   exact⟨H.length,rfl,.inr (Nat.le_refl _),by simp -dsimp[-getElem?_pos,go_sem,List.eq_nil_of_length_eq_zero hn.symm],(ay none (by simp) (ai _ _)).trans (ap _ _ _)⟩
  ·simp -dsimp -implicitDefEqProofs [-getElem?_pos,go_sem,hP,ho,←hn,h0,ax,aS,aL]
   refine⟨by omega,by omega,?_⟩
   rw[hC]
   exact⟨H.length,rfl,.inr (Nat.le_refl _),by simp -dsimp[-getElem?_pos,go_sem,hn],(ay none (by simp) (ai _ _)).trans (ap _ _ _)⟩
 ·have hlt:i<n:=by omega
  have hin':¬(i:Int)=n:=by omega
  have w1:=ah ((n:Int)+1) (by omega)
  have w2:=ah ((i:Int)+1) (by omega)
  have w3:=ah ((n:Int)+1-i) (by omega)
  have hesne:es≠[]:=by intro e0;simp[e0]at hn;omega
  refine fR (C:=fun r H'=>C r H'∨∃N,r= .full id 0 (n+1) N∧∃o,H'[id]?=some (some o)∧n+1≤o.es.length∧C (.sref id 0 (n+1)) H') ?_ (fun r H' h=>?_)
  rotate_left
  ·rcases h with h|⟨N,h1,o,h2,h3,h4⟩
   ·exact .inl h
   ·exact .inr ⟨id,n+1,N,o,h1,h2,h3,h4⟩
  refine jc ho hesne (by dsimp only;omega) fun N hN0=>?_
  dsimp only at hN0
  obtain⟨D,hD⟩:∃D:AV→ab→Prop,D=fun r H'=>C r H'∨∃N,r= .full id 0 (n+1) N∧∃o,H'[id]?=some (some o)∧n+1≤o.es.length∧C (.sref id 0 (n+1)) H':=⟨_,rfl⟩
  rw[←hD]
  have exD:∃r H',D r H':=by
   obtain⟨r,H',h⟩:=ex
   rw[hD]
   exact⟨r,H',.inl h⟩
  have fx:∀(id n N:Nat),(if i=0 then some (AV.full id 0 n N)else some (AV.full id i (n-i) N))=some (.full id i (n-i) N):=fun id n N=>by
   split
   ·subst i;rfl
   ·rfl
  have nN:n≤N:=by omega
  have iN:i≤N:=by omega
  have a1:(0:Int)≤(n:Int)+1:=by omega
  have a3:(0:Int)≤(i:Int)+1:=by omega
  have a4:(i:Int)+1≤(n:Int)+1:=by omega
  refine al Tryz.func215 rfl (by simp[Tryz.f215]) (by kernel_rfl) (exD) ?_
  intro E hP hr hs hN
  by_cases hroom:N<n+1
  ·have dN:decide ((N:Int)<(n:Int)+1)=true:=decide_eq_true (by omega)
   obtain⟨zs,hz⟩:=Option.isSome_iff_exists.1 (show (bg Tryz.prog 160).isSome=true by kernel_rfl)
   have hbt:bD Tryz.prog 160=24:=by kernel_rfl
   have hm:(n:Int)+1-i=((n+1-i:Nat):Int):=by omega
   have sx:∀(id n:Nat),(if i=0 then some (AV.sref id 0 n)else some (AV.sref id i (n-i)))=some (.sref id i (n-i)):=fun id n=>by
    split
    ·subst i;rfl
    ·rfl
   simp -dsimp -implicitDefEqProofs [-getElem?_pos,go_sem,hP,dN,ho,←hn,hin,hin',ax,aS,aL,w1,w2,w3,hroom,hi,nN,iN,a1,a3,a4,fx]
   refine kZ (e:=160) (m:=n+1-i) (L:=n+1) (kn:= .i64) (zs:=zs) ho (by rw[hP];kernel_rfl) (by rw[hP];kernel_rfl) (by rw[hP];kernel_rfl) (by omega) rfl (by rw[hP];exact hz) (by omega) hm (by omega) (by omega) hroom (by omega) (by rw[hP,hbt];omega) ?_
   have ho2:(H++[some (⟨160,3,es.take i++List.replicate (n+1-i) zs⟩:AObj)])[id]?=some (some ⟨160,3,es⟩):=by rw[List.getElem?_append_left lid];exact ho
   have hl1:(es.take i++List.replicate (n+1-i) zs).length=n+1:=by simp;omega
   have a7:(i:Int)≤(n:Int)+1:=by omega
   have a8:¬((i:Int)=(n:Int)+1):=by omega
   have a9:i≤n+1:=by omega
   have a10:¬i=n+1:=by omega
   have hA:(es.take i).length=i:=by simp;omega
   have d1:(es.take i++List.replicate (n+1-i) zs).drop (i+1)=List.replicate (n-i) zs:=by
    rw[List.drop_append,List.drop_of_length_le (by omega),hA,List.nil_append,List.drop_replicate]
    congr 1
    omega
   simp -dsimp -implicitDefEqProofs [-getElem?_pos,go_sem,hP,ho2,ax,aS,aL,a7,a8,a9,a10,sx]
   refine dc (e:=160) (ty:=160) (k:=3) (lo:=i) (dn:=n+1-i) (m:=1) (es:=es.take i++List.replicate (n+1-i) zs) (news:=[e]) (es':=es.take i++e::List.replicate (n-i) zs) (by simp) (.inl rfl) (by rw[hP];kernel_rfl) (by rw[hP];kernel_rfl) (by omega) (by rw[hP];kernel_rfl) ?_ rfl (by omega) (by omega) (by simp;omega) ?_ ?_
   ·simp only[dE]
    rw[if_pos (by rw[hP];kernel_rfl)]
   ·rw[d1,List.take_append_of_le_length (by omega),List.take_of_length_le (by omega)]
    simp
   have ho3:(H++[some (⟨160,3,es.take i++e::List.replicate (n-i) zs⟩:AObj)])[id]?=some (some ⟨160,3,es⟩):=by rw[List.getElem?_append_left lid];exact ho
   have a5:¬((i:Int)+1=0):=by omega
   have a6:((n:Int)+1-((i:Int)+1)).toNat=n-i:=by omega
   have a11:¬((i:Int)+1=(n:Int)+1):=by omega
   simp -dsimp -implicitDefEqProofs [-getElem?_pos,go_sem,hP]
   refine au (fun _=>true) [8] hP (by kernel_rfl) (by kernel_rfl) ?_
   simp -dsimp -implicitDefEqProofs [-getElem?_pos,go_sem,hP,ho3,←hn,hin,hin',ax,aS,aL,w1,w2,hi,nN,iN,a1,a3,a4,a5,a6,a7,a8,a11,fx,sx]
   refine dc (e:=160) (ty:=160) (k:=3) (lo:=i+1) (dn:=n-i) (m:=n-i) (es:=es.take i++e::List.replicate (n-i) zs) (news:=es.drop i) (es':=es.take i++e::es.drop i) (by simp) (.inl rfl) (by rw[hP];kernel_rfl) (by rw[hP];kernel_rfl) (by omega) (by rw[hP];kernel_rfl) ?_ (by simp[←hn]) (by omega) (by omega) (by simp;omega) ?_ ?_
   ·simp only[dE,ho3]
    rw[if_pos ⟨by rw[hP];kernel_rfl,by omega⟩,List.take_of_length_le (by simp;omega)]
   ·rw[show es.take i++e::List.replicate (n-i) zs=(es.take i++[e])++List.replicate (n-i) zs from by simp,List.take_append_of_le_length (by simp;omega),List.take_of_length_le (by simp;omega),List.drop_of_length_le (show ((es.take i++[e])++List.replicate (n-i) zs).length≤i+1+(n-i) by simp;omega)]
    simp
   simp -dsimp -implicitDefEqProofs [-getElem?_pos,go_sem,hP]
   rw[hD,hC]
   exact .inl ⟨H.length,rfl,.inr (Nat.le_refl _),by simp,ap _ _ _⟩
  ·have dN:decide ((N:Int)<(n:Int)+1)=false:=decide_eq_false (by omega)
   have a2:(n:Int)+1≤N:=by omega
   have a5:¬((i:Int)+1=0):=by omega
   have a6:((n:Int)+1-((i:Int)+1)).toNat=n-i:=by omega
   have a7:(i:Int)≤(n:Int)+1:=by omega
   have a8:¬((i:Int)=(n:Int)+1):=by omega
   simp -dsimp -implicitDefEqProofs [-getElem?_pos,go_sem,hP,dN,ho,←hn,hin,hin',ax,aS,aL,w1,w2,w3,hroom,hi,nN,iN,a1,a2,a3,a4,a5,a6,a7,a8,fx]
   refine fC (t:=42) (e:=160) (tR:=4) (fn:=Tryz.f236) (id':=id) (lo':=i+1) (dn':=n-i) (by rw[hP];exact Tryz.func236) (by kernel_rfl) (by kernel_rfl) (by kernel_rfl) (by kernel_rfl) (by rw[hP];kernel_rfl) (by rw[hP];kernel_rfl) he0 (.inr ⟨N,rfl⟩) ho (by omega) ?_
   simp -dsimp -implicitDefEqProofs [-getElem?_pos,go_sem,hP]
   refine au (fun _=>true) [8] hP (by kernel_rfl) (by kernel_rfl) ?_
   simp -dsimp -implicitDefEqProofs [-getElem?_pos,go_sem,hP,dN,ho,←hn,hin,hin',ax,aS,aL,w1,w2,w3,hroom,hi,nN,iN,a1,a2,a3,a4,a5,a6,a7,a8,fx]
   refine kT (e:=160) (lo:=i+1) (dn:=n-i) (news:=es.drop i) (es':=es.take (i+1)++es.drop i) ho (.inr ⟨N,rfl⟩) (by rw[hP];kernel_rfl) (by rw[hP];kernel_rfl) (by omega) (by rw[hP];kernel_rfl) ?_ (by simp[←hn]) (by omega) (by omega) (by omega) (by rw[List.drop_of_length_le (show es.length≤i+1+(n-i) by omega),List.append_nil]) ?_
   ·simp only[dE,ho]
    rw[if_pos ⟨by rw[hP];kernel_rfl,by omega⟩,List.take_of_length_le (by simp;omega)]
   simp -dsimp -implicitDefEqProofs [-getElem?_pos,go_sem,hP,lid,ho,ax,aS,aL,a2,a7,a8,fx]
   refine dc (e:=160) (ty:=160) (k:=3) (lo:=i) (dn:=n+1-i) (m:=1) (es:=es.take (i+1)++es.drop i) (news:=[e]) (es':=es.take i++e::es.drop i) (by simp[lid]) (.inr ⟨N,rfl⟩) (by rw[hP];kernel_rfl) (by rw[hP];kernel_rfl) (by omega) (by rw[hP];kernel_rfl) ?_ rfl (by omega) (by omega) (by simp[←hn];omega) ?_ ?_
   ·simp only[dE]
    rw[if_pos (by rw[hP];kernel_rfl)]
   ·rw[List.take_append_of_le_length (by simp;omega),List.take_take,Nat.min_eq_left (by omega),List.drop_append_of_le_length (by simp;omega),List.drop_of_length_le (by simp;omega)]
    simp
   simp -dsimp -implicitDefEqProofs [-getElem?_pos,go_sem,hP,lid]
   rw[hD,hC]
   simp only[List.set_set]
   exact .inr ⟨N,rfl,⟨160,3,es.take i++e::es.drop i⟩,by simp[lid],by simp[←hn];omega,id,rfl,.inl rfl,by simp[lid],ay _ (by simp) (ai _ _)⟩
set_option maxHeartbeats 2000000 in
theorem Ag {row src:Option Nat} (es:List (List AV)) (i id:Nat) (H:ab) (hi:i<es.length) (hl:es.length≤100000) (ho:H[id]?=some (some ⟨160,3,es⟩)):
  MFun Tryz.prog row src 216 [.sref id 0 es.length,iv i,iv ((i:Int)+1)] H (fun r H'=>∃tl,r= .sref id 0 (es.length-1)∧H'[id]?=some (some ⟨160,3,es.take i++es.drop (i+1)++tl⟩)∧Kept [id] H H'):=by
 obtain⟨C,hC⟩:∃C:AV→ab→Prop,C=fun r H'=>∃tl,r= .sref id 0 (es.length-1)∧H'[id]?=some (some ⟨160,3,es.take i++es.drop (i+1)++tl⟩)∧Kept [id] H H':=⟨_,rfl⟩
 rw[←hC]
 have lid:=(gsI ho)
 have ex:∃r H',C r H':=by
  rw[hC]
  exact⟨.sref id 0 (es.length-1),H.set id (some ⟨160,3,es.take i++es.drop (i+1)++[]⟩),[],rfl,by simp[lid],ay _ (by simp) (ai _ _)⟩
 obtain⟨n,hn⟩:∃n,n=es.length:=⟨_,rfl⟩
 rw[←hn]at hi hl hC⊢
 have hesne:es≠[]:=by intro e0;simp[e0]at hn;omega
 refine fR (C:=fun r H'=>∃N,r= .full id 0 (n-1) N∧∃o,H'[id]?=some (some o)∧n-1≤o.es.length∧C (.sref id 0 (n-1)) H') ?_ (fun r H' h=>?_)
 rotate_left
 ·obtain⟨N,h1,o,h2,h3,h4⟩:=h
  exact .inr ⟨id,n-1,N,o,h1,h2,h3,h4⟩
 refine jc ho hesne (by dsimp only;omega) fun N hN0=>?_
 dsimp only at hN0
 obtain⟨D,hD⟩:∃D:AV→ab→Prop,D=fun r H'=>∃N,r= .full id 0 (n-1) N∧∃o,H'[id]?=some (some o)∧n-1≤o.es.length∧C (.sref id 0 (n-1)) H':=⟨_,rfl⟩
 rw[←hD]
 have exD:∃r H',D r H':=by
  rw[hD,hC]
  refine⟨.full id 0 (n-1) n,H.set id (some ⟨160,3,es.take i++es.drop (i+1)++[]⟩),n,rfl,⟨160,3,es.take i++es.drop (i+1)++[]⟩,by simp[lid],by simp;omega,[],rfl,by simp[lid],ay _ (by simp) (ai _ _)⟩
 obtain⟨zs,hz⟩:=Option.isSome_iff_exists.1 (show (bg Tryz.prog 160).isSome=true by kernel_rfl)
 have nN:n≤N:=by omega
 have iN:i≤N:=by omega
 have b1:(0:Int)≤i:=by omega
 have b2:(i:Int)≤(i:Int)+1:=by omega
 have b3:(i:Int)+1≤n:=by omega
 have b4:¬(i:Int)=(i:Int)+1:=by omega
 have b5:(0:Int)≤(i:Int)+1:=by omega
 have b6:¬((i:Int)+1=0):=by omega
 have fin:∀(es1:List (List AV)),es1.take (n-1)=es.take i++es.drop (i+1)→es1.length=n→(H1:ab)→H1[id]?=some (some ⟨160,3,es1⟩)→Kept [id] H H1→D (.full id 0 (n-1) N) (H1.set id (some ⟨160,3,es.take i++es.drop (i+1)++[zs]⟩)):=fun es1 h1 h2 H1 h3 h4=>by
  have l1:=(gsI h3)
  rw[hD,hC]
  exact⟨N,rfl,⟨160,3,es.take i++es.drop (i+1)++[zs]⟩,by simp[l1],by simp[←hn];omega,[zs],rfl,by simp[l1],ay _ (by simp) h4⟩
 refine al Tryz.func216 rfl (by simp[Tryz.f216]) (by kernel_rfl) (exD) ?_
 intro E hP hr hs hN
 simp -dsimp -implicitDefEqProofs [-getElem?_pos,go_sem,hP,ho,←hn,ax,aS,aL,kY,b1,b2,b3,b4,b5]
 refine au (fun _=>true) [6] hP (by kernel_rfl) (by kernel_rfl) ?_
 have sx:(if n-1=0 then some (AV.full id 0 n N)else some (AV.full id (n-1) 1 N))=some (.full id (n-1) 1 N):=by
  split
  ·rename_i h0;rw[h0,show n=1 by omega]
  ·rfl
 have n4:¬(((n-1:Nat):Int)=(n:Int)):=by omega
 have n1:n-(n-1)=1:=by omega
 have n2:n-1≤n:=by omega
 have n3:¬(n-1=n):=by omega
 have n0:¬n=0:=by omega
 by_cases hlast:i+1=n
 ·have c1:(i:Int)+1=n:=by omega
  have iN1:i=n-1:=by omega
  simp -dsimp -implicitDefEqProofs [-getElem?_pos,go_sem,hP,ho,←hn,ax,aS,aL,b1,b2,b3,b4,b5,b6,c1,iN,nN,n0]
  refine qL (e:=160) (L:=n-1) (o:=⟨160,3,es⟩) ho (by rw[hP];kernel_rfl) (by rw[hP];kernel_rfl) iN iN1 ?_
  simp -dsimp -implicitDefEqProofs [-getElem?_pos,go_sem,hP,ho,ax,aS,aL,n1,n2,n3,n4,nN,sx]
  refine eP (e:=160) (es':=es.take i++es.drop (i+1)++[zs]) ho (.inr ⟨N,rfl⟩) (by rw[hP];kernel_rfl) (by rw[hP];kernel_rfl) (by omega) (by rw[hP];exact hz) (by omega) (by omega) ?_ ?_
  ·rw[List.drop_of_length_le (show es.length≤n-1+1 by omega),List.drop_of_length_le (show es.length≤i+1 by omega),iN1]
   simp
  simp -dsimp -implicitDefEqProofs [-getElem?_pos,go_sem,hP]
  have:=fin es (by rw[List.drop_of_length_le (show es.length≤i+1 by omega),iN1];simp) hn.symm H ho (ai _ _)
  simpa using this
 ·have c1:¬(i:Int)+1=n:=by omega
  have c2:(n:Int)-((i:Int)+1)=((n-(i+1):Nat):Int):=by omega
  simp -dsimp -implicitDefEqProofs [-getElem?_pos,go_sem,hP,ho,←hn,ax,aS,aL,b1,b2,b3,b4,b5,b6,c1,c2,iN,nN]
  refine qM (e:=160) (L:=n-1) (m:=n-(i+1)) (news:=es.drop (i+1)) (es':=es.take i++es.drop (i+1)++es.drop (n-1)) ho (by rw[hP];kernel_rfl) (by rw[hP];kernel_rfl) (by omega) (by rw[hP];kernel_rfl) ?_ (by simp[←hn]) (by omega) (by omega) (by omega) rfl (by omega) ?_
  ·simp only[dE,ho]
   rw[if_pos ⟨by rw[hP];kernel_rfl,by omega⟩,List.take_of_length_le (by simp;omega)]
  simp -dsimp -implicitDefEqProofs [-getElem?_pos,go_sem,hP,lid,ax,aS,aL,n1,n2,n3,n4,nN,sx]
  have hl2:(es.take i++es.drop (i+1)).length=n-1:=by simp;omega
  refine eP (e:=160) (ty:=160) (k:=3) (es:=es.take i++es.drop (i+1)++es.drop (n-1)) (es':=es.take i++es.drop (i+1)++[zs]) (by simp[lid]) (.inr ⟨N,rfl⟩) (by rw[hP];kernel_rfl) (by rw[hP];kernel_rfl) (by omega) (by rw[hP];exact hz) (by omega) (by simp;omega) ?_ ?_
  ·rw[List.take_append_of_le_length (by omega),List.take_of_length_le (by omega),List.drop_of_length_le (show (es.take i++es.drop (i+1)++es.drop (n-1)).length≤n-1+1 by rw[List.length_append,hl2,List.length_drop];omega)]
   simp
  simp -dsimp -implicitDefEqProofs [-getElem?_pos,go_sem,hP]
  have:=fin (es.take i++es.drop (i+1)++es.drop (n-1)) (by rw[List.take_append_of_le_length (by omega),List.take_of_length_le (by omega)]) (by rw[List.length_append,hl2,List.length_drop];omega) (H.set id (some ⟨160,3,es.take i++es.drop (i+1)++es.drop (n-1)⟩)) (by simp[lid]) (ay _ (by simp) (ai _ _))
  simpa using this
theorem CN {row src:Option Nat} (es:List (List AV)) (i id:Nat) (H:ab) (hi:i<es.length) (hl:es.length≤100000) (ho:H[id]?=some (some ⟨160,3,es⟩)):
  MFun Tryz.prog row src 216 [.sref id 0 es.length,iv i,iv ((i:Int)+1)] H (fun r H'=>∃jd,r= .sref jd 0 (es.length-1)∧(∀(x:Nat) (o:AObj),x≠id→H[x]?=some (some o)→x<jd)∧H'[jd]?=some (some ⟨160,3,es.take i++es.drop (i+1)⟩)∧Kept [id] H H'):=by
 refine KF (Ag es i id H hi hl ho) ?_
 rintro r H' ⟨tl,rfl,h1,h2⟩
 have hn:(es.take i++es.drop (i+1)).length=es.length-1:=by simp;omega
 refine⟨id,_,_,rfl,h1,by dsimp only;rw[List.length_append,hn];omega,H'.length,rfl,fun x o hx e=>?_,?_,?_⟩
 ·exact (List.getElem?_eq_some_iff.1 (h2 x o (by simpa using hx) e)).1
 ·dsimp only
  rw[List.take_append_of_le_length (by omega),List.take_of_length_le (by omega)]
  simp
 ·exact h2.trans ((ay none (by simp) (ai _ _)).trans (ap _ _ _))
theorem P0 {row src:Option Nat} (c:Nat) (sx hx n d:AV) (l:List THolding) (id h:Int) (H:ab) (hc:H[c]?=some (some ⟨162,4,[[sx,hx,n,d]]⟩)) (hsl:SlIs H hx 3 (ac THolding.cells l)) (hl:l.length≤100000) (ho:l.Pairwise hR):
  MFun Tryz.prog row src 171 [.ref c 0 0,iv id,iv h] H (fun r H'=>r=iv (jN l id h)∧Kept [] H H'):=by
 obtain⟨v,hv⟩:∃v,v=jN l id h:=⟨_,rfl⟩
 rw[←hv]
 obtain⟨C,hC⟩:∃C:AV→ab→Prop,C=fun r H'=>r=iv v∧Kept [] H H':=⟨_,rfl⟩
 rw[←hC]
 have ex:∃r H',C r H':=⟨_,H,by rw[hC];exact⟨rfl,ai _ _⟩⟩
 obtain⟨k,hk,hm,hcase⟩:=mg (hOk id h) ho
 have pm:=fun {row src:Option Nat}=>Dd (row:=row) (src:=src) c sx hx n d l id h k H hc hsl hl hk hm
 rcases hcase with⟨x,e1,e2,e3,_⟩|⟨e1,e3,_⟩
 ·have hb:(l[k]?).any (hIs id h)=true:=by rw[e1];exact e2
  have ev:v=x.Amount:=by rw[hv];exact e3
  have lk:=(gsI e1)
  rw[hb]at pm
  refine al Tryz.func171 rfl (by simp[Tryz.f171]) (by kernel_rfl) (ex) ?_
  intro E hP hr hs hN
  simp -dsimp -implicitDefEqProofs [-getElem?_pos,go_sem,hP]
  refine ar (by rw[hr,hs];exact pm) hP zH ?_
  rintro r H' ⟨rfl,kp⟩
  have c1:=kp _ _ (by simp) hc
  have s1:=hsl.kept kp
  have lc1:=(gsI c1)
  rcases s1 with rfl|⟨rfl,e⟩|⟨hid,ty,rfl,hh⟩
  ·simp -dsimp -implicitDefEqProofs [-getElem?_pos,go_sem,hP,c1,lc1,e1,pI]
   rw[hC]
   exact⟨by rw[ev],kp⟩
  ·exfalso
   cases l with
   |nil=>simp at lk
   |cons _ _=>simp[ac]at e
  ·have lh:=(gsI hh)
   simp -dsimp -implicitDefEqProofs [-getElem?_pos,go_sem,hP,c1,lc1,hh,lh,e1,pI,af,lk]
   rw[hC]
   exact⟨by rw[ev],kp⟩
 ·have hb:(l[k]?).any (hIs id h)=false:=by
   cases e:l[k]? with
   |none=>rfl
   |some x=>simpa using e1 x e
  have ev:v=0:=by rw[hv];exact e3
  rw[hb]at pm
  refine al Tryz.func171 rfl (by simp[Tryz.f171]) (by kernel_rfl) (ex) ?_
  intro E hP hr hs hN
  simp -dsimp -implicitDefEqProofs [-getElem?_pos,go_sem,hP]
  refine ar (by rw[hr,hs];exact pm) hP zH ?_
  rintro r H' ⟨rfl,kp⟩
  simp -dsimp -implicitDefEqProofs [-getElem?_pos,go_sem,hP]
  rw[hC]
  exact⟨by rw[ev],kp⟩
theorem rS {l:List THolding} {N:Nat} (h:HoldOk l N) (id:Int) (k:Nat):0≤ig (l.take k) id∧ig (l.take k) id≤1000000000000:=by
 have h1:=qF (AQ id) hAm (l.take k) fun x hx=>h.pos x (List.mem_of_mem_take hx)
 have h2:=qF (AQ id) hAm (l.drop k) fun x hx=>h.pos x (List.mem_of_mem_drop hx)
 have h3:=tN (AQ id) hAm (l.take k) (l.drop k)
 rw[List.take_append_drop]at h3
 have h4:=h.tot id
 unfold ig at*
 omega
theorem Jr {l:List THolding} {k:Nat} {x:THolding} (hx:l[k]?=some x) (id:Int):ig (l.take (k+1)) id=ig (l.take k) id+if x.Security=id then x.Amount else 0:=by
 unfold ig
 rw[List.take_add_one,hx,tN]
 simp only[Option.toList_some,dv,xi,AQ,decide_eq_true_eq,hAm]
 omega
theorem Nb {row src:Option Nat} (c:Nat) (sx hx n d:AV) (l:List THolding) (N:Nat) (id:Int) (H:ab) (hc:H[c]?=some (some ⟨162,4,[[sx,hx,n,d]]⟩)) (hsl:SlIs H hx 3 (ac THolding.cells l)) (hl:l.length≤100000) (ho:HoldOk l N):
  MFun Tryz.prog row src 172 [.ref c 0 0,iv id] H (fun r H'=>r=iv (ig l id)∧Kept [] H H'):=by
 obtain⟨v,hv⟩:∃v,v=ig l id:=⟨_,rfl⟩
 rw[←hv]
 obtain⟨C,hC⟩:∃C:AV→ab→Prop,C=fun r H'=>r=iv v∧Kept [] H H':=⟨_,rfl⟩
 rw[←hC]
 have ex:∃r H',C r H':=⟨_,H,by rw[hC];exact⟨rfl,ai _ _⟩⟩
 have lc:=(gsI hc)
 have hlen:=hsl.len
 rw[af]at hlen
 refine al Tryz.func172 rfl (by simp[Tryz.f172]) (by kernel_rfl) (ex) ?_
 intro E hP hr hs hN
 simp -dsimp -implicitDefEqProofs [-getElem?_pos,go_sem,hP,hc,lc,hlen]
 obtain⟨I,hI⟩:∃I:Nat→St→Prop,I=fun m s=>∃(k:Nat) (w:Int),k≤l.length∧m=l.length-k∧w=ig (l.take k) id∧s.t 0= .ref c 0 0∧s.t 1=iv id∧s.t 5=iv w∧s.t 11=hx∧s.t 12=iv l.length∧s.t 13=iv k∧Kept [] H s.H:=⟨_,rfl⟩
 refine aF I (l.length) (by rw[hN];rfl) ?_ ?_
 ·rw[hI]
  exact⟨0,0,by omega,by omega,rfl,by simp -dsimp[-getElem?_pos,go_sem],by simp -dsimp[-getElem?_pos,go_sem],by simp -dsimp[-getElem?_pos,go_sem],by simp -dsimp[-getElem?_pos,go_sem],by simp -dsimp[-getElem?_pos,go_sem],by simp -dsimp[-getElem?_pos,go_sem],by simp -dsimp[-getElem?_pos,go_sem];exact ai _ _⟩
 intro m s hs'
 rw[hI]at hs'
 obtain⟨k,w,hk,hm,hw,t0,t1,t5,t11,t12,t13,kp⟩:=hs'
 simp -dsimp -implicitDefEqProofs [-getElem?_pos,go_sem,hP,t12,t13]
 refine aH (fun hq=>?_) (fun hq=>?_)
 ·have hk:k<l.length:=by simpa using hq
  obtain⟨a,ha⟩:∃a,l[k]?=some a:=⟨_,List.getElem?_eq_getElem hk⟩
  have wk:=ah ((k:Int)+1) (by omega)
  obtain⟨ad,h1,h2⟩:=(hsl.kept kp).idx (P:=Tryz.prog) (t:=42) (e:=160) Q8 (by rw[Pk]) QV k (by rw[af];exact hk)
  have h2':aM s.H ad=some [iv a.Security,iv a.Holder,iv a.Amount]:=by
   rw[h2]
   have:=qy THolding.cells l k
   rw[ha,List.getElem?_eq_getElem (by rw[af];exact hk)]at this
   exact this
  have hs2:=Jr ha id
  have hb:=rS ho id (k+1)
  rw[←hw]at hs2
  by_cases e:a.Security=id
  ·rw[if_pos e]at hs2
   have wa:=ah (w+a.Amount) (by omega)
   simp -dsimp -implicitDefEqProofs [-getElem?_pos,go_sem,hP,t13,t11,h1,h2',t1,t5,e,wa,wk]
   refine⟨l.length-(k+1),by omega,?_⟩
   rw[hI]
   exact⟨k+1,_,by omega,rfl,hs2.symm,by simp -dsimp[-getElem?_pos,go_sem,t0],by simp -dsimp[-getElem?_pos,go_sem,t1],by simp -dsimp[-getElem?_pos,go_sem],by simp -dsimp[-getElem?_pos,go_sem,t11],by simp -dsimp[-getElem?_pos,go_sem,t12],by simp -dsimp[-getElem?_pos,go_sem],by simp -dsimp[-getElem?_pos,go_sem];exact kp.trans (ap _ _ _)⟩
  ·rw[if_neg e,Int.add_zero]at hs2
   simp -dsimp -implicitDefEqProofs [-getElem?_pos,go_sem,hP,t13,t11,h1,h2',t1,t5,e,wk]
   refine⟨l.length-(k+1),by omega,?_⟩
   rw[hI]
   exact⟨k+1,_,by omega,rfl,hs2.symm,by simp -dsimp[-getElem?_pos,go_sem,t0],by simp -dsimp[-getElem?_pos,go_sem,t1],by simp -dsimp[-getElem?_pos,go_sem,t5],by simp -dsimp[-getElem?_pos,go_sem,t11],by simp -dsimp[-getElem?_pos,go_sem,t12],by simp -dsimp[-getElem?_pos,go_sem],by simp -dsimp[-getElem?_pos,go_sem];exact kp.trans (ap _ _ _)⟩
 ·have hk:k=l.length:=by simp at hq;omega
  subst hk
  rw[List.take_length,←hv]at hw
  simp -dsimp -implicitDefEqProofs [-getElem?_pos,go_sem,hP,t5]
  rw[hC]
  exact⟨by rw[hw],kp⟩
open Go.PA
open Go.RowKit
structure Clk (H:ab) (c hid:Nat) (sx:AV) (l:List THolding) (n d:Int):Prop where
 oc:H[c]?=some (some ⟨162,4,[[sx,.sref hid 0 l.length,iv n,iv d]]⟩)
 oh:H[hid]?=some (some ⟨160,3,ac THolding.cells l⟩)
 ne:c≠hid
theorem Clk.kept {H H':ab} {c hid:Nat} {sx:AV} {l:List THolding} {n d:Int} (h:Clk H c hid sx l n d) (k:Kept [] H H'):Clk H' c hid sx l n d:=⟨k _ _ (by simp) h.oc,k _ _ (by simp) h.oh,h.ne⟩
theorem Clk.sl {H:ab} {c hid:Nat} {sx:AV} {l:List THolding} {n d:Int} (h:Clk H c hid sx l n d):SlIs H (.sref hid 0 l.length) 3 (ac THolding.cells l):= .inr (.inr ⟨hid,_,by rw[af],h.oh⟩)
theorem r5 {α:Type} (enc:α→List AV):∀(l:List α) (k:Nat) (x:α),(ac enc l).set k (enc x)=ac enc (l.set k x)
 |[],_,_=>rfl
 |_::_,0,_=>rfl
 |y::l,k+1,x=>by
  have:=r5 enc l k x
  simp only[ac,List.map_cons,List.set_cons_succ]at*
  rw[this]
def tP (H:ab) (c hid:Nat) (sx:AV) (l:List THolding) (n d:Int) (H':ab):Prop:=∃hid',Clk H' c hid' sx l n d∧(∀(x:Nat) (o:AObj),x≠hid→H[x]?=some (some o)→x≠hid')∧Kept [c,hid] H H'
set_option maxHeartbeats 4000000 in
theorem nw {row src:Option Nat} (c hid:Nat) (sx:AV) (n d:Int) (l:List THolding) (id h am:Int) (H:ab) (hk:Clk H c hid sx l n d) (hsx:sx.cellish=true) (hl:l.length≤10000) (ho:l.Pairwise hR) (hb:∀x,x∈l→0<x.Amount∧x.Amount≤1000000000000) (ham: -1000000000000≤am∧am≤1000000000000) (ha0:am≠0):
  MFun Tryz.prog row src 173 [.ref c 0 0,iv id,iv h,iv am] H (fun _ H'=>tP H c hid sx (mH l id h am) n d H'):=by
 by_cases hz:h=0
 ·have ea:mH l id h am=l:=by rw[mH,if_pos hz]
  rw[ea]
  refine al Tryz.func173 rfl (by simp[Tryz.f173]) (by kernel_rfl) (⟨.tup [],H,hid,hk,fun x o hx _=>hx,ai _ _⟩) ?_
  intro E hP hr hs hN
  simp -dsimp -implicitDefEqProofs [-getElem?_pos,go_sem,hP,hz]
  exact⟨hid,hk,fun x o hx _=>hx,ai _ _⟩
 have ea:mH l id h am=xW l id h am:=by rw[mH,if_neg hz]
 rw[ea]
 obtain⟨l',hl'⟩:∃l',l'=xW l id h am:=⟨_,rfl⟩
 rw[←hl']
 obtain⟨C,hC⟩:∃C:AV→ab→Prop,C=fun _ H'=>tP H c hid sx l' n d H':=⟨_,rfl⟩
 rw[←hC]
 have lc:=(List.getElem?_eq_some_iff.1 hk.oc).1
 have lh:=(List.getElem?_eq_some_iff.1 hk.oh).1
 have ne:=hk.ne
 have ex:∃r H',C r H':=by
  rw[hC]
  refine⟨.tup [],(H.set c (some ⟨162,4,[[sx,.sref hid 0 l'.length,iv n,iv d]]⟩)).set hid (some ⟨160,3,ac THolding.cells l'⟩),hid,⟨?_,?_,ne⟩,fun x o hx _=>hx,?_⟩
  ·rw[List.getElem?_set_ne (fun e=>ne e.symm)]
   simp[lc]
  ·simp[lh]
  ·exact ay _ (by simp) (ay _ (by simp) (ai _ _))
 obtain⟨k,hkl,hm,hcase⟩:=mg (hOk id h) ho
 have pm:=fun {row src:Option Nat}=>Dd (row:=row) (src:=src) c sx _ _ _ l id h k H hk.oc hk.sl (by omega) hkl hm
 have wk:=ah ((k:Int)+1) (by omega)
 rcases hcase with⟨x,e1,e2,e3,e4⟩|⟨e1,e3,e4⟩
 ·have hbt:(l[k]?).any (hIs id h)=true:=by rw[e1];exact e2
  have lk:=(gsI e1)
  have bx:=hb x (List.mem_of_getElem? e1)
  have wa:=ah (x.Amount+am) (by omega)
  have e4:l'=if x.Amount+am=0 then l.take k++l.drop (k+1)else l.take k++hMk id h (x.Amount+am)::l.drop (k+1):=by rw[hl'];exact e4 am
  have hx2:=nU.1 e2
  rw[hbt]at pm
  refine al Tryz.func173 rfl (by simp[Tryz.f173]) (by kernel_rfl) (ex) ?_
  intro E hP hr hs hN
  simp -dsimp -implicitDefEqProofs [-getElem?_pos,go_sem,hP,hz]
  refine ar (by rw[hr,hs];exact pm) hP zH ?_
  rintro r H1 ⟨rfl,kp⟩
  have k1:=hk.kept kp
  have c1:=k1.oc
  have h1:=k1.oh
  have lc1:=(gsI c1)
  have lh1:=(gsI h1)
  obtain⟨y,hy⟩:∃y:THolding,y=⟨x.Security,x.Holder,x.Amount+am⟩:=⟨_,rfl⟩
  have ey:(ac THolding.cells l).set k [iv x.Security,iv x.Holder,iv (x.Amount+am)]=ac THolding.cells (l.set k y):=by rw[←r5,hy,pI]
  have lk2:(l.set k y)[k]?=some y:=by simp[lk]
  have ne':¬hid=c:=fun e=>ne e.symm
  simp -dsimp -implicitDefEqProofs [-getElem?_pos,go_sem,hP,c1,lc1,h1,lh1,e1,pI,af,lk,wa,ey,ne,ne']
  have es:l.set k y=l.take k++y::l.drop (k+1):=List.set_eq_take_append_cons_drop.trans (if_pos lk)
  obtain⟨H2,hH2⟩:∃H2,H2=H1.set hid (some ⟨160,3,ac THolding.cells (l.set k y)⟩):=⟨_,rfl⟩
  have k12:Kept [c,hid] H1 H2:=by rw[hH2];exact ay _ (by simp) (ai _ _)
  have c2:H2[c]?=some (some ⟨162,4,[[sx,.sref hid 0 l.length,iv n,iv d]]⟩):=by rw[hH2,List.getElem?_set_ne ne'];exact c1
  have h2:H2[hid]?=some (some ⟨160,3,ac THolding.cells (l.set k y)⟩):=by rw[hH2];simp[lh1]
  have hye:y.Amount=x.Amount+am:=by rw[hy]
  rw[←hH2]
  refine aH (fun hq=>?_) (fun hq=>?_)
  ·have hq:y.Amount=0:=by simpa using hq
   have el:l'=l.take k++l.drop (k+1):=by rw[e4,if_pos (by omega)]
   have dm:=fun {row src:Option Nat}=>CN (row:=row) (src:=src) (ac THolding.cells (l.set k y)) k hid H2 (by rw[af,List.length_set];exact lk) (by rw[af,List.length_set];omega) h2
   rw[af,List.length_set]at dm
   simp -dsimp -implicitDefEqProofs [-getElem?_pos,go_sem,hP,c2,wk]
   refine ar (by rw[hr,hs];exact dm) hP PJ ?_
   rintro r H3 ⟨jd,rfl,hj,h3,kp3⟩
   have c3:=kp3 _ _ (by simpa using ne) c2
   have lc3:=(gsI c3)
   have nj:c≠jd:=fun e=>by
    have:=hj c _ ne c2
    omega
   simp -dsimp -implicitDefEqProofs [-getElem?_pos,go_sem,hP,c3,lc3,hsx]
   rw[hC]
   refine⟨jd,⟨?_,?_,nj⟩,fun z o hz he=>?_,?_⟩
   ·have:l'.length=l.length-1:=by rw[el];simp;omega
    rw[this]
    simp[lc3]
   ·rw[List.getElem?_set_ne nj,h3,es,el]
    rw[dw,bV,iV,←es,List.take_set_of_le (Nat.le_refl _),List.drop_set_of_lt (by omega)]
   ·by_cases hzc:z=c
    ·rw[hzc];exact nj
    ·have:=hj z o hz (k12 z o (by simp[hzc,hz]) (kp z o (by simp) he))
     omega
   ·exact (((kp.mono (by simp)).trans k12).trans (kp3.mono (by simp))).trans (ay _ (by simp) (ai _ _))
  ·have hq:¬y.Amount=0:=by simpa using hq
   have el:l'=l.set k y:=by rw[e4,if_neg (by omega),es,hy,hx2.1,hx2.2];rfl
   simp -dsimp -implicitDefEqProofs [-getElem?_pos,go_sem,hP]
   rw[hC,el]
   exact⟨hid,⟨by rw[List.length_set];exact c2,h2,ne⟩,fun z o hz _=>hz,(kp.mono (by simp)).trans k12⟩
 ·have hbt:(l[k]?).any (hIs id h)=false:=by
   cases e:l[k]? with
   |none=>rfl
   |some x=>simpa using e1 x e
  have e4:l'=l.take k++hMk id h am::l.drop k:=by rw[hl',xW,e4 am,if_neg ha0]
  rw[hbt]at pm
  refine al Tryz.func173 rfl (by simp[Tryz.f173]) (by kernel_rfl) (ex) ?_
  intro E hP hr hs hN
  simp -dsimp -implicitDefEqProofs [-getElem?_pos,go_sem,hP,hz]
  refine ar (by rw[hr,hs];exact pm) hP zH ?_
  rintro r H1 ⟨rfl,kp⟩
  have k1:=hk.kept kp
  have c1:=k1.oc
  have h1:=k1.oh
  have lc1:=(gsI c1)
  have lh1:=(gsI h1)
  have im:=fun {row src:Option Nat}=>zL (row:=row) (src:=src) (ac THolding.cells l) [iv id,iv h,iv 0] k hid H1 (by rw[af];exact hkl) (by rw[af];omega) h1 (by simp)
  rw[af]at im
  simp -dsimp -implicitDefEqProofs [-getElem?_pos,go_sem,hP,c1,lc1]
  refine ar (by rw[hr,hs];exact im) hP Qr ?_
  rintro r H2 ⟨jd,rfl,hj,h2,kp2⟩
  have c2:=kp2 _ _ (by simpa using ne) c1
  have lc2:=(gsI c2)
  have lh2:=(gsI h2)
  have nj:c≠jd:=by rcases hj with rfl|hj<;>omega
  have nj':¬jd=c:=fun e=>nj e.symm
  obtain⟨y0,hy0⟩:∃y0:THolding,y0=⟨id,h,0⟩:=⟨_,rfl⟩
  obtain⟨y,hy⟩:∃y:THolding,y=⟨id,h,am⟩:=⟨_,rfl⟩
  obtain⟨l1,hl1⟩:∃l1,l1=l.take k++y0::l.drop k:=⟨_,rfl⟩
  have h2':(ac THolding.cells l).take k++[iv id,iv h,iv 0]::(ac THolding.cells l).drop k=ac THolding.cells l1:=by
   rw[dw,bV,hl1,←iV,hy0]
   rfl
  rw[h2']at h2
  have ll1:l1.length=l.length+1:=by rw[hl1];simp;omega
  have e1k:l1[k]?=some y0:=by rw[hl1,List.getElem?_append_right (by simp;omega)];simp[Nat.min_eq_left hkl]
  have lk:k<l1.length:=by omega
  have lkl:k<l.length+1:=by omega
  have lki:(k:Int)<(l.length:Int)+1:=by omega
  have lk2:(l1.set k y)[k]?=some y:=by simp[lk]
  have wa:=ah (0+am) (by omega)
  have wa':=ah am (by omega)
  have es1:l1.set k y=l':=by
   rw[e4,hl1,List.set_append_right _ _ (by simp;omega)]
   simp[Nat.min_eq_left hkl,hy]
   rfl
  have ey:(ac THolding.cells l1).set k [iv id,iv h,iv am]=ac THolding.cells (l1.set k y):=by rw[←r5,hy,pI]
  have c0:y0.cells=[iv id,iv h,iv 0]:=by rw[hy0];rfl
  have cy:y.cells=[iv id,iv h,iv am]:=by rw[hy];rfl
  have hya:¬y.Amount=0:=by rw[hy];exact ha0
  simp -dsimp -implicitDefEqProofs [-getElem?_pos,go_sem,hP,c2,lc2,hsx,h2,lh2,e1k,c0,af,lk,lkl,lki,ll1,wa,wa',ey,nj,nj',lk2,cy,ha0]
  obtain⟨H3,hH3⟩:∃H3,H3=(H2.set c (some ⟨162,4,[[sx,.sref jd 0 (l.length+1),iv n,iv d]]⟩)).set jd (some ⟨160,3,ac THolding.cells (l1.set k y)⟩):=⟨_,rfl⟩
  rw[←hH3]
  rw[hC,←es1,hH3]
  have lset:(l1.set k y).length=l.length+1:=by simp[ll1]
  refine⟨jd,⟨?_,?_,nj⟩,fun z o hz he=>?_,?_⟩
  ·rw[lset]
   simp[nj',lc2]
  ·simp[lh2]
  ·rcases hj with rfl|hj
   ·exact hz
   ·have:=(List.getElem?_eq_some_iff.1 (kp z o (by simp) he)).1
    omega
  ·intro z o hz he
   have h2z:=kp2 z o (by simp at hz;simp[hz]) (kp z o (by simp) he)
   have n1:jd≠z:=fun e=>by
    rcases hj with rfl|hj
    ·simp[e]at hz
    ·have:=(List.getElem?_eq_some_iff.1 (kp z o (by simp) he)).1
     omega
   have n2:c≠z:=fun e=>by simp[e]at hz
   rw[List.getElem?_set_ne n1,List.getElem?_set_ne n2]
   exact h2z
open Go.PA
open Go.RowKit
theorem Ak (l:List TSecurity) (g:FuncId) (caps:List AV) (p:TSecurity→Bool) (hl:l.length≤1000000) (hen:aa Tryz.prog g=true) (hcap:∀a,a∈caps→Imm a)
  (hg:∀a,a∈l→PFun Tryz.prog none none g (.agg (TSecurity.cells a)::caps) (·=bv (p a))):
  PFun Tryz.prog none none 211 [.list 7 (ac TSecurity.cells l),.fn g caps] (·=iv (dC p l)):=by
 refine ae Tryz.func211 rfl (by simp[Tryz.f211]) (by kernel_rfl) ?_
 intro E hP hr hs hW hN
 simp -dsimp -implicitDefEqProofs [-getElem?_pos,go_sem,hP]
 obtain⟨I,hI⟩:∃I:Nat→St→Prop,I=fun m s=>∃k:Nat,k≤l.length∧m=l.length-k∧dC p l=br p k (l.drop k)∧s.t 0= .list 7 (ac TSecurity.cells l)∧s.t 1= .fn g caps∧s.t 7=iv l.length∧s.t 8=iv k:=⟨_,rfl⟩
 refine aF I (l.length) (by rw[hN];rfl) ?_ ?_
 ·rw[hI]
  exact⟨0,by omega,by omega,by simp[dC],by simp -dsimp[-getElem?_pos,go_sem],by simp -dsimp[-getElem?_pos,go_sem],by simp -dsimp[-getElem?_pos,go_sem],by simp -dsimp[-getElem?_pos,go_sem]⟩
 intro m s hs'
 rw[hI]at hs'
 obtain⟨k,hk,hm,hi,t0,t1,t7,t8⟩:=hs'
 simp -dsimp -implicitDefEqProofs [-getElem?_pos,go_sem,hP,t7,t8]
 refine aH (fun h=>?_) (fun h=>?_)
 ·have hk:k<l.length:=by simpa using h
  obtain⟨a,ha⟩:∃a,l[k]?=some a:=⟨_,List.getElem?_eq_getElem hk⟩
  have wk:=ah ((k:Int)+1) (by omega)
  have hz:(TSecurity.cells a).take 7=TSecurity.cells a:=List.take_of_length_le (by rw[TSecurity.len];omega)
  have hd:l.drop k=a::l.drop (k+1):=by
   rw[List.getElem?_eq_getElem hk]at ha
   rw[List.drop_eq_getElem_cons hk,Option.some.inj ha]
  simp -dsimp -implicitDefEqProofs [-getElem?_pos,go_sem,hP,t8,t1,t0,ha,TSecurity.len,hz]
  refine ak ((hg a (List.mem_of_getElem? ha)).lift _ _) hP hen (fun x hx=>?_) .sc ?_
  ·rcases List.mem_cons.1 hx with rfl|hx
   ·exact aO.2 (TSecurity.imm a)
   ·exact hcap x hx
  rw[hd]at hi
  simp only[br]at hi
  simp -dsimp -implicitDefEqProofs [-getElem?_pos,go_sem,hP]
  refine aH (fun hp=>?_) (fun hp=>?_)
  ·rw[if_pos hp]at hi
   simp -dsimp -implicitDefEqProofs [-getElem?_pos,go_sem,hP]
   exact hi.symm
  ·rw[hp,if_neg (by simp)]at hi
   simp -dsimp -implicitDefEqProofs [-getElem?_pos,go_sem,hP,t8,wk]
   refine⟨l.length-(k+1),by omega,?_⟩
   rw[hI]
   exact⟨k+1,by omega,rfl,hi,by simp -dsimp[-getElem?_pos,go_sem,t0],by simp -dsimp[-getElem?_pos,go_sem,t1],by simp -dsimp[-getElem?_pos,go_sem,t7],by simp -dsimp[-getElem?_pos,go_sem]⟩
 ·have hk:k=l.length:=by simp at h;omega
  subst hk
  rw[List.drop_length]at hi
  simp -dsimp -implicitDefEqProofs [-getElem?_pos,go_sem,hP]
  exact hi.symm
theorem Ji (x:TSecurity) (id:Int):PFun Tryz.prog none none 212 [.agg x.cells,.iref [iv id]] (·=bv (decide (x.ID=id))):=by
 refine ae Tryz.func212 rfl (by simp[Tryz.f212]) (by kernel_rfl) ?_
 intro E hP hr hs hW hN
 simp -dsimp -implicitDefEqProofs [-getElem?_pos,go_sem,hP,Aw]
def KJ:TSecurity:=⟨0,0,0,0,0,0,false⟩
def mi (l:List TSecurity) (id:Int):TSecurity×Bool:=match uV l id with
 |some s=>(s,true)
 |none=>(KJ,false)
theorem M0 {α:Type} (p:α→Bool) (l:List α):(dC p l= -1∧l.find? p=none)∨∃(i:Nat) (a:α),l[i]?=some a∧dC p l=(i:Int)∧l.find? p=some a:=by
 rcases cN p l with⟨h1,h2⟩|⟨i,a,h1,h2,h3,h4⟩
 ·exact .inl ⟨h1,List.find?_eq_none.2 fun x hx=>by simp[h2 x hx]⟩
 ·refine .inr ⟨i,a,h1,h3,?_⟩
  rw[List.find?_eq_some_iff_getElem]
  have hi:=(gsI h1)
  refine⟨h2,i,hi,(List.getElem?_eq_some_iff.1 h1).2,fun j hj=>?_⟩
  rw[h4 j l[j] hj (List.getElem?_eq_getElem (by omega))]
  rfl
theorem Mw (l:List TSecurity) (id:Int) (hl:l.length≤100000):PFun Tryz.prog none none 169 [bf l,iv id] (·= .tup [.agg (mi l id).1.cells,bv (mi l id).2]):=by
 have il:=gX l
 refine ae Tryz.func169 rfl (by simp[Tryz.f169]) (by kernel_rfl) ?_
 intro E hP hr hs hW hN
 simp -dsimp -implicitDefEqProofs [-getElem?_pos,go_sem,hP]
 refine aj (Ak l 212 [.iref [iv id]] (fun x=>decide (x.ID=id)) (by omega) Qh (by simp[bH,aP]) fun x _=>Ji x id) hP Pi (bI il (eK (cs:=[.ref 0 0 0]) (by simp -dsimp[-getElem?_pos,go_sem,eC]) (by simp[bH,aP]) (cH.2 trivial))) .sc ?_
 rcases M0 (fun x:TSecurity=>decide (x.ID=id)) l with⟨h1,h2⟩|⟨i,a,h1,h2,h3⟩
 ·have e:mi l id=(KJ,false):=by rw[mi,uV,h2]
  simp -dsimp -implicitDefEqProofs [-getElem?_pos,go_sem,hP,h1]
  exact aN (aE (show Imm (.agg KJ.cells)from uk _) .sc) (by rw[e];rfl)
 ·have e:mi l id=(a,true):=by rw[mi,uV,h3]
  have d:decide ((i:Int)<0)=false:=decide_eq_false (by omega)
  have li:=(gsI h1)
  simp -dsimp -implicitDefEqProofs [-getElem?_pos,go_sem,hP,h2,d,h1,Aw,li]
  exact aN (aE (by rw[←Aw];exact uk _) .sc) (by rw[e];rfl)
theorem Cc (m:TMove):PFun Tryz.prog none none 170 [.agg m.cells] (·=bv (gk m)):=by
 refine ae Tryz.func170 rfl (by simp[Tryz.f170]) (by kernel_rfl) ?_
 intro E hP hr hs hW hN
 simp -dsimp -implicitDefEqProofs [-getElem?_pos,go_sem,hP,w8]
 refine au (fun _=>true) [] hP (by kernel_rfl) (by kernel_rfl) ?_
 simp -dsimp -implicitDefEqProofs [-getElem?_pos,go_sem,hP]
 refine aj (xj m.From) hP JA (an (by simp -dsimp[-getElem?_pos,go_sem])) .sc ?_
 simp -dsimp -implicitDefEqProofs [-getElem?_pos,go_sem,hP]
 refine aj (xj m.To) hP JA (an (by simp -dsimp[-getElem?_pos,go_sem])) .sc ?_
 by_cases k1:m.Kind=1
 ·by_cases f:m.From=0<;>cases h:gU m.To<;>simp -dsimp -implicitDefEqProofs [-getElem?_pos,go_sem,hP,k1,f,h,gk]
 ·by_cases k2:m.Kind=2
  ·cases h1:gU m.From<;>cases h2:gU m.To<;>by_cases f:m.From=m.To<;>simp -dsimp -implicitDefEqProofs [-getElem?_pos,go_sem,hP,k1,k2,f,h1,h2,gk]
  ·by_cases f:m.To=0<;>cases h:gU m.From<;>simp -dsimp -implicitDefEqProofs [-getElem?_pos,go_sem,hP,k1,k2,f,h,gk]
open Go.PA
open Go.RowKit
def Mq (secs:List TSecurity) (l:List THolding) (n d:Int) (m:TMove) (H:ab) (c hid:Nat) (r:AV) (H':ab):Prop:=
 r=iv (bJ secs l d m)∧(bJ secs l d m≠0→Kept [] H H')∧(bJ secs l d m=0→∃hid',Clk H' c hid' (bf secs) (goH l m) (n+1) m.Day∧(∀(x:Nat) (o:AObj),x≠hid→H[x]?=some (some o)→x≠hid')∧Kept [c,hid] H H')
theorem QM {H:ab} {c hid:Nat} {sx:AV} {l:List THolding} {n d:Int} (hk:Clk H c hid sx l n d) (l':List THolding) (n' d':Int):∃H',Clk H' c hid sx l' n' d'∧Kept [c,hid] H H':=by
 have lc:=(List.getElem?_eq_some_iff.1 hk.oc).1
 have lh:=(List.getElem?_eq_some_iff.1 hk.oh).1
 have ne:=hk.ne
 refine⟨(H.set c (some ⟨162,4,[[sx,.sref hid 0 l'.length,iv n',iv d']]⟩)).set hid (some ⟨160,3,ac THolding.cells l'⟩),⟨?_,?_,ne⟩,?_⟩
 ·rw[List.getElem?_set_ne (fun e=>ne e.symm)]
  simp[lc]
 ·simp[lh]
 ·exact ay _ (by simp) (ay _ (by simp) (ai _ _))
theorem fZ {H H':ab} {p:Nat} {o:AObj} (k:Kept [] H H') (h:H[p]?=some (some o)):Agree (fun i=>decide (i=p)) H H':=fun i hi=>by
 have:=of_decide_eq_true hi
 subst this
 rw[h,k _ _ (by simp) h]
theorem nG {H:ab} {p c:Nat} {o:Option AObj} (h:¬p=c):Agree (fun i=>decide (i=p)) H (H.set c o):=fun i hi=>by
 have:=of_decide_eq_true hi
 subst this
 rw[List.getElem?_set_ne (fun e=>h e.symm)]
theorem nY {H:ab} {p c:Nat} {o o':Option AObj} (h:¬p=c):Agree (fun i=>decide (i=p)) (H.set c o) (H.set c o'):=fun i hi=>by
 have:=of_decide_eq_true hi
 subst this
 rw[List.getElem?_set_ne (fun e=>h e.symm),List.getElem?_set_ne (fun e=>h e.symm)]
theorem qd {H0 H H':ab} {c hid:Nat} {sx:AV} {l l':List THolding} {n d n' d':Int} (k:Kept [] H0 H) (hk:Clk H0 c hid sx l n d) (h:tP H c hid sx l' n' d' H'):tP H0 c hid sx l' n' d' H':=by
 obtain⟨hid',h1,h2,h3⟩:=h
 exact⟨hid',h1,fun x o hx he=>h2 x o hx (k x o (by simp) he),(k.mono (by simp)).trans h3⟩
theorem oa {H H' H'':ab} {c hid:Nat} {sx:AV} {l1 l2:List THolding} {n d:Int} (h:tP H c hid sx l1 n d H') (hid1:Nat) (hk:Clk H' c hid1 sx l1 n d) (hp:∀(x:Nat) (o:AObj),x≠hid→H[x]?=some (some o)→x≠hid1) (h2:tP H' c hid1 sx l2 n d H''):tP H c hid sx l2 n d H'':=by
 obtain⟨_,_,_,kp⟩:=h
 obtain⟨hid2,g1,g2,g3⟩:=h2
 refine⟨hid2,g1,fun x o hx he=>?_,fun x o hx he=>?_⟩
 ·by_cases hc:x=c
  ·rw[hc];exact g1.ne
  ·exact g2 x o (hp x o hx he) (kp x o (by simp[hc,hx]) he)
 ·have hx':¬x=c∧¬x=hid:=by simpa using hx
  exact g3 x o (by simp[hx'.1,hp x o hx'.2 he]) (kp x o hx he)
theorem qT {secs:List TSecurity} {l:List THolding} {n d:Int} {m:TMove} {H H5:ab} {c hid hid5:Nat} (cl:tP H c hid (bf secs) (goH l m) n d H5) (hk:Clk H5 c hid5 (bf secs) (goH l m) n d) (e0:bJ secs l d m=0):
  Mq secs l n d m H c hid (iv 0) (H5.set c (some ⟨162,4,[[bf secs,.sref hid5 0 (goH l m).length,iv (n+1),iv m.Day]]⟩)):=by
 obtain⟨hid',h1,h2,h3⟩:=cl
 have lc:=(List.getElem?_eq_some_iff.1 h1.oc).1
 have e:hid'=hid5:=by
  have:=h1.oc.symm.trans hk.oc
  simpa using this
 subst e
 refine⟨by rw[e0],fun e=>absurd e0 e,fun _=>⟨hid',⟨by simp[lc],by rw[List.getElem?_set_ne h1.ne];exact h1.oh,h1.ne⟩,h2,h3.trans (ay _ (by simp) (ai _ _))⟩⟩
set_option maxHeartbeats 4000000 in
theorem RL {row src:Option Nat} (c hid:Nat) (secs:List TSecurity) (l:List THolding) (n d:Int) (m:TMove) (N:Nat) (H:ab) (hk:Clk H c hid (bf secs) l n d) (hl:l.length≤5000) (hsl:secs.length≤1000) (hso:∀s,s∈secs→Dk s=true) (ho:HoldOk l N) (hn:0≤n∧n≤1000000):
  MFun Tryz.prog row src 123 [.ref c 0 0,.agg m.cells] H (Mq secs l n d m H c hid):=by
 obtain⟨C,hC⟩:∃C:AV→ab→Prop,C=Mq secs l n d m H c hid:=⟨_,rfl⟩
 rw[←hC]
 have ex:∃r H',C r H':=by
  rw[hC]
  by_cases h0:bJ secs l d m=0
  ·obtain⟨H',h1,h2⟩:=QM hk (goH l m) (n+1) m.Day
   exact⟨_,H',rfl,fun e=>absurd h0 e,fun _=>⟨hid,h1,fun x o hx _=>hx,h2⟩⟩
  ·exact⟨_,H,rfl,fun _=>ai _ _,fun e=>absurd e h0⟩
 refine al Tryz.func123 rfl (by simp[Tryz.f123]) (by kernel_rfl) (ex) ?_
 intro E hP hr hs hN
 simp -dsimp -implicitDefEqProofs [-getElem?_pos,go_sem,hP,w8]
 obtain⟨H1,hH1⟩:∃H1:ab,H1=H++[some ⟨135,7,[[iv m.Number,iv m.Day,iv m.Kind,iv m.Security,iv m.From,iv m.To,iv m.Amount]]⟩]:=⟨_,rfl⟩
 have k1:Kept [] H H1:=by rw[hH1];exact ap _ _ _
 have a1:H1[H.length]?=some (some ⟨135,7,[[iv m.Number,iv m.Day,iv m.Kind,iv m.Security,iv m.From,iv m.To,iv m.Amount]]⟩):=by rw[hH1];simp
 have c1:=(hk.kept k1).oc
 have lt1:=(gsI a1)
 have lc1:=(gsI c1)
 simp only[←hH1]
 obtain⟨p,hp⟩:∃p,p=H.length:=⟨_,rfl⟩
 rw[←hp]at a1 lt1
 simp only[←hp]
 have hk1:=hk.kept k1
 have npc:¬p=c:=fun e=>by
  have:=(List.getElem?_eq_some_iff.1 hk.oc).1
  omega
 have npc':¬c=p:=fun e=>npc e.symm
 have am:BQ [iv d,iv (mi secs m.Security).1.Issued]=some (iv (max d (mi secs m.Security).1.Issued)):=by simp[BQ,gg]
 have gf:=Mw secs m.Security (by omega)
 refine fJ (fun i=>decide (i<H1.length)) [11] [6] hP (by kernel_rfl) (by kernel_rfl) ?_
 simp -dsimp -implicitDefEqProofs [-getElem?_pos,go_sem,hP,ao,c1,a1,lt1,lc1]
 cases hf:uV secs m.Security with
 |none=>
  have e0:bJ secs l d m=76:=by rw[bJ,hf]
  have ef:mi secs m.Security=(KJ,false):=by rw[mi,hf]
  rw[ef]at gf
  refine fU (gf.lift _ _) hP Ms (by simp[gX,aP]) (aE (show Imm (.agg KJ.cells)from uk _) .sc) ?_
  simp -dsimp -implicitDefEqProofs [-getElem?_pos,go_sem,hP,Aw]
  refine⟨bS (Nat.le_refl _),?_⟩
  by_cases k3:m.Kind=3
  all_goals
   simp -dsimp -implicitDefEqProofs [-getElem?_pos,go_sem,hP,a1,lt1,k3,List.getElem?_append]
   rw[hC]
   exact⟨by rw[e0],fun _=>k1.trans (ap _ _ _),fun e=>by rw[e0]at e;cases e⟩
 |some s=>
  have ef:mi secs m.Security=(s,true):=by rw[mi,hf]
  rw[ef]at gf am
  refine fU (gf.lift _ _) hP Ms (by simp[gX,aP]) (aE (uk _) .sc) ?_
  have so:=OE (hso s (List.mem_of_find?_eq_some hf))
  simp -dsimp -implicitDefEqProofs [-getElem?_pos,go_sem,hP,Aw]
  refine⟨bS (Nat.le_refl _),?_⟩
  obtain⟨H2,hH2⟩:∃H2:ab,H2=H1++[some ⟨71,7,[[iv s.ID,iv s.Unit,iv s.Issued,iv s.Maturity,iv s.Rate,iv s.Every,bv s.Indexed]]⟩]:=⟨_,rfl⟩
  have k2:Kept [] H H2:=k1.trans (by rw[hH2];exact ap _ _ _)
  have k12:Kept [] H1 H2:=by rw[hH2];exact ap _ _ _
  obtain⟨q,hq⟩:∃q,q=H1.length:=⟨_,rfl⟩
  have b2:H2[q]?=some (some ⟨71,7,[[iv s.ID,iv s.Unit,iv s.Issued,iv s.Maturity,iv s.Rate,iv s.Every,bv s.Indexed]]⟩):=by rw[hH2,hq];simp
  rw[←hH2,←hq]
  have a2:=k12 _ _ (by simp) a1
  have hk2:=hk1.kept k12
  have c2:=hk2.oc
  have lp2:=(gsI a2)
  have lq2:=(gsI b2)
  have lc2:=(gsI c2)
  dsimp only at am
  have gs:=Cc m
  rw[w8]at gs
  have hm:=fun {row src:Option Nat}=>P0 (row:=row) (src:=src) c _ _ _ _ l m.Security m.From H2 c2 hk2.sl (by omega) ho.srt
  have om:=fun {row src:Option Nat}=>Nb (row:=row) (src:=src) c _ _ _ _ l N m.Security H2 c2 hk2.sl (by omega) ho
  have nph:¬p=hid:=fun e=>by
   have:=(List.getElem?_eq_some_iff.1 hk.oh).1
   omega
  by_cases k3:m.Kind=3
  ·by_cases cday:max d s.Issued≤m.Day∧m.Day≤if m.Kind=3 then 36000 else s.Maturity
   rotate_left
   ·have e0:bJ secs l d m=8:=by rw[bJ,hf];dsimp only;rw[if_pos (by simpa using cday)]
    have hb:bet m.Day (max d s.Issued) (36000)=false:=zZ (by rw[if_pos k3]at cday;exact cday)
    simp -dsimp -implicitDefEqProofs [-getElem?_pos,go_sem,hP,a2,b2,c2,lp2,lq2,lc2,k3,am]
    refine au (fun _=>true) [] hP (by kernel_rfl) (by kernel_rfl) ?_
    simp -dsimp -implicitDefEqProofs [-getElem?_pos,go_sem,hP,a2,b2,c2,lp2,lq2,lc2,k3,am]
    refine aj (dW m.Day (max d s.Issued) (36000)) hP nK (an (by simp -dsimp[-getElem?_pos,go_sem])) .sc ?_
    simp -dsimp -implicitDefEqProofs [-getElem?_pos,go_sem,hP,hb]
    rw[hC]
    exact⟨by rw[e0],fun _=>k2,fun e=>by rw[e0]at e;cases e⟩
   have hb:bet m.Day (max d s.Issued) (36000)=true:=gM (by rw[if_pos k3]at cday;exact cday)
   simp -dsimp -implicitDefEqProofs [-getElem?_pos,go_sem,hP,a2,b2,c2,lp2,lq2,lc2,k3,am]
   refine au (fun _=>true) [] hP (by kernel_rfl) (by kernel_rfl) ?_
   simp -dsimp -implicitDefEqProofs [-getElem?_pos,go_sem,hP,a2,b2,c2,lp2,lq2,lc2,k3,am]
   refine aj (dW m.Day (max d s.Issued) (36000)) hP nK (an (by simp -dsimp[-getElem?_pos,go_sem])) .sc ?_
   by_cases a0:m.Amount≤0
   ·have e0:bJ secs l d m=79:=by rw[bJ,hf];dsimp only;rw[if_neg (by simpa using cday),if_pos (.inl a0)]
    have d0:decide (m.Amount≤0)=true:=decide_eq_true a0
    simp -dsimp -implicitDefEqProofs [-getElem?_pos,go_sem,hP,hb,a2,b2,lp2,lq2,d0]
    rw[hC]
    exact⟨by rw[e0],fun _=>k2,fun e=>by rw[e0]at e;cases e⟩
   have d0:decide (m.Amount≤0)=false:=decide_eq_false a0
   simp -dsimp -implicitDefEqProofs [-getElem?_pos,go_sem,hP,hb,a2,b2,lp2,lq2,d0]
   refine aj (yn m.Amount) hP BB (an (by simp -dsimp[-getElem?_pos,go_sem])) .sc ?_
   by_cases a9:1000000000000<m.Amount
   ·have e0:bJ secs l d m=79:=by rw[bJ,hf];dsimp only;rw[if_neg (by simpa using cday),if_pos (.inr (.inl a9))]
    have hv:bet m.Amount 0 1000000000000=false:=zZ (by omega)
    simp -dsimp -implicitDefEqProofs [-getElem?_pos,go_sem,hP,hv]
    rw[hC]
    exact⟨by rw[e0],fun _=>k2,fun e=>by rw[e0]at e;cases e⟩
   have hv:bet m.Amount 0 1000000000000=true:=gM (by omega)
   have ht:m.Amount.tmod s.Unit=m.Amount%s.Unit:=Int.tmod_eq_emod_of_nonneg (by omega)
   have u0:¬s.Unit=0:=by have:=so.unit;omega
   by_cases am0:m.Amount%s.Unit=0
   rotate_left
   ·have e0:bJ secs l d m=79:=by rw[bJ,hf];dsimp only;rw[if_neg (by simpa using cday),if_pos (.inr (.inr am0))]
    simp -dsimp -implicitDefEqProofs [-getElem?_pos,go_sem,hP,hv,a2,b2,lp2,lq2,ht,u0,am0]
    rw[hC]
    exact⟨by rw[e0],fun _=>k2,fun e=>by rw[e0]at e;cases e⟩
   simp -dsimp -implicitDefEqProofs [-getElem?_pos,go_sem,hP,hv,a2,b2,lp2,lq2,ht,u0,am0]
   refine aj gs hP LP (an (by simp -dsimp[-getElem?_pos,go_sem])) .sc ?_
   cases cs:gk m with
   |true=>
    have e0:bJ secs l d m=6:=by rw[bJ,hf];dsimp only;rw[if_neg (by simpa using cday),if_neg (by omega),if_pos cs]
    simp -dsimp -implicitDefEqProofs [-getElem?_pos,go_sem,hP]
    rw[hC]
    exact⟨by rw[e0],fun _=>k2,fun e=>by rw[e0]at e;cases e⟩
   |false=>
    simp -dsimp -implicitDefEqProofs [-getElem?_pos,go_sem,hP]
    refine au (fun i=>decide (i=p)) [] hP (by kernel_rfl) (by kernel_rfl) ?_
    by_cases f0:m.From=0
    ·simp -dsimp -implicitDefEqProofs [-getElem?_pos,go_sem,hP,ao,a2,lp2,f0]
     refine au (fun i=>decide (i=p)) [] hP (by kernel_rfl) (by kernel_rfl) ?_
     simp -dsimp -implicitDefEqProofs [-getElem?_pos,go_sem,hP,ao,a2,lp2,f0]
     refine ar (by rw[hr,hs];exact om) hP J7 ?_
     rintro r H3 ⟨rfl,kp3⟩
     have a3:=kp3 _ _ (by simp) a2
     have hk3:=hk2.kept kp3
     have k3':Kept [] H H3:=k2.trans kp3
     have lp3:=(gsI a3)
     have ho3:=rS ho m.Security l.length
     rw[List.take_length]at ho3
     have wo:=ah (ig l m.Security+m.Amount) (by omega)
     by_cases o9:1000000000000<ig l m.Security+m.Amount
     ·have e0:bJ secs l d m=2:=by rw[bJ,hf];dsimp only;rw[if_neg (by simpa using cday),if_neg (by omega),if_neg (by simp[cs]),if_neg (fun e=>e.1 f0),if_pos ⟨f0,o9⟩]
      have d9:decide (1000000000000<ig l m.Security+m.Amount)=true:=decide_eq_true o9
      simp -dsimp -implicitDefEqProofs [-getElem?_pos,go_sem,hP]
      refine⟨fZ kp3 a2,?_⟩
      simp -dsimp -implicitDefEqProofs [-getElem?_pos,go_sem,hP,ao,a3,lp3,wo,d9]
      rw[hC]
      exact⟨by rw[e0],fun _=>k3',fun e=>by rw[e0]at e;cases e⟩
     have d9:decide (1000000000000<ig l m.Security+m.Amount)=false:=decide_eq_false o9
     simp -dsimp -implicitDefEqProofs [-getElem?_pos,go_sem,hP]
     refine⟨fZ kp3 a2,?_⟩
     simp -dsimp -implicitDefEqProofs [-getElem?_pos,go_sem,hP,ao,a3,lp3,wo,d9]
     have mok:MoveOk secs l d m s:=⟨hf,cday,⟨by omega,by omega,am0⟩,cs,fun e=>by first|exact absurd f0 e|omega,fun e=>by first|exact absurd e f0|omega⟩
     have e0:=lJ mok
     have ho1:=qR ho mok
     have wn:=ah (-m.Amount) (by omega)
     have ad1:=fun {row src:Option Nat}=>nw (row:=row) (src:=src) c hid (bf secs) n d l m.Security m.From (-m.Amount) H3 hk3 rfl (by omega) ho.srt (fun x hx=>ho.am hx) (by omega) (by omega)
     simp -dsimp -implicitDefEqProofs [-getElem?_pos,go_sem,hP,a3,lp3,wn]
     refine ar (by rw[hr,hs];exact ad1) hP mF ?_
     rintro _ H4 c24
     obtain⟨hid4,hk4,pr4,kp4⟩:=c24
     have a4:=kp4 _ _ (by simpa using⟨npc,nph⟩) a3
     have lp4:=(gsI a4)
     have ad2:=fun {row src:Option Nat}=>nw (row:=row) (src:=src) c hid4 (bf secs) n d (mH l m.Security m.From (-m.Amount)) m.Security m.To m.Amount H4 hk4 rfl (by have:=ho1.2;omega) ho1.1.srt (fun x hx=>ho1.1.am hx) (by omega) (by omega)
     simp -dsimp -implicitDefEqProofs [-getElem?_pos,go_sem,hP,a4,lp4]
     refine ar (by rw[hr,hs];exact ad2) hP mF ?_
     rintro _ H5 c25
     have cl5:tP H c hid (bf secs) (goH l m) n d H5:=oa (qd k3' hk ⟨hid4,hk4,pr4,kp4⟩) hid4 hk4 (fun x o hx he=>pr4 x o hx (k3' x o (by simp) he)) c25
     obtain⟨hid5,hk5,pr5,kp5⟩:=c25
     have a5:=kp5 _ _ (by simpa using⟨npc,pr4 p _ nph a3⟩) a4
     have lp5:=(gsI a5)
     have c5:=hk5.oc
     have lc5:=(gsI c5)
     have wn1:=ah (n+1) (by omega)
     simp -dsimp -implicitDefEqProofs [-getElem?_pos,go_sem,hP]
     refine au (fun i=>decide (i=p)) [3,4,5,9,10,12,13] hP (by kernel_rfl) (by kernel_rfl) ?_
     simp -dsimp -implicitDefEqProofs [-getElem?_pos,go_sem,hP,ao,a5,lp5,c5,lc5,npc,npc',wn1]
     refine⟨nG npc,nY npc,?_⟩
     rw[hC]
     exact qT cl5 hk5 e0
    ·simp -dsimp -implicitDefEqProofs [-getElem?_pos,go_sem,hP,ao,a2,lp2,f0]
     refine ar (by rw[hr,hs];exact hm) hP Ka ?_
     rintro r H3 ⟨rfl,kp3⟩
     have a3:=kp3 _ _ (by simp) a2
     have hk3:=hk2.kept kp3
     have k3':Kept [] H H3:=k2.trans kp3
     have lp3:=(gsI a3)
     by_cases o9:jN l m.Security m.From<m.Amount
     ·have e0:bJ secs l d m=77:=by rw[bJ,hf];dsimp only;rw[if_neg (by simpa using cday),if_neg (by omega),if_neg (by simp[cs]),if_pos ⟨f0,o9⟩]
      have d9:decide (jN l m.Security m.From<m.Amount)=true:=decide_eq_true o9
      simp -dsimp -implicitDefEqProofs [-getElem?_pos,go_sem,hP]
      refine⟨fZ kp3 a2,?_⟩
      simp -dsimp -implicitDefEqProofs [-getElem?_pos,go_sem,hP,ao,a3,lp3,d9]
      rw[hC]
      exact⟨by rw[e0],fun _=>k3',fun e=>by rw[e0]at e;cases e⟩
     have d9:decide (jN l m.Security m.From<m.Amount)=false:=decide_eq_false o9
     simp -dsimp -implicitDefEqProofs [-getElem?_pos,go_sem,hP]
     refine⟨fZ kp3 a2,?_⟩
     simp -dsimp -implicitDefEqProofs [-getElem?_pos,go_sem,hP,ao,a3,lp3,d9]
     refine au (fun i=>decide (i=p)) [] hP (by kernel_rfl) (by kernel_rfl) ?_
     simp -dsimp -implicitDefEqProofs [-getElem?_pos,go_sem,hP,ao,a3,lp3,f0]
     have mok:MoveOk secs l d m s:=⟨hf,cday,⟨by omega,by omega,am0⟩,cs,fun e=>by first|exact absurd f0 e|omega,fun e=>by first|exact absurd e f0|omega⟩
     have e0:=lJ mok
     have ho1:=qR ho mok
     have wn:=ah (-m.Amount) (by omega)
     have ad1:=fun {row src:Option Nat}=>nw (row:=row) (src:=src) c hid (bf secs) n d l m.Security m.From (-m.Amount) H3 hk3 rfl (by omega) ho.srt (fun x hx=>ho.am hx) (by omega) (by omega)
     simp -dsimp -implicitDefEqProofs [-getElem?_pos,go_sem,hP,a3,lp3,wn]
     refine ar (by rw[hr,hs];exact ad1) hP mF ?_
     rintro _ H4 c24
     obtain⟨hid4,hk4,pr4,kp4⟩:=c24
     have a4:=kp4 _ _ (by simpa using⟨npc,nph⟩) a3
     have lp4:=(gsI a4)
     have ad2:=fun {row src:Option Nat}=>nw (row:=row) (src:=src) c hid4 (bf secs) n d (mH l m.Security m.From (-m.Amount)) m.Security m.To m.Amount H4 hk4 rfl (by have:=ho1.2;omega) ho1.1.srt (fun x hx=>ho1.1.am hx) (by omega) (by omega)
     simp -dsimp -implicitDefEqProofs [-getElem?_pos,go_sem,hP,a4,lp4]
     refine ar (by rw[hr,hs];exact ad2) hP mF ?_
     rintro _ H5 c25
     have cl5:tP H c hid (bf secs) (goH l m) n d H5:=oa (qd k3' hk ⟨hid4,hk4,pr4,kp4⟩) hid4 hk4 (fun x o hx he=>pr4 x o hx (k3' x o (by simp) he)) c25
     obtain⟨hid5,hk5,pr5,kp5⟩:=c25
     have a5:=kp5 _ _ (by simpa using⟨npc,pr4 p _ nph a3⟩) a4
     have lp5:=(gsI a5)
     have c5:=hk5.oc
     have lc5:=(gsI c5)
     have wn1:=ah (n+1) (by omega)
     simp -dsimp -implicitDefEqProofs [-getElem?_pos,go_sem,hP]
     refine au (fun i=>decide (i=p)) [3,4,5,9,10,12,13] hP (by kernel_rfl) (by kernel_rfl) ?_
     simp -dsimp -implicitDefEqProofs [-getElem?_pos,go_sem,hP,ao,a5,lp5,c5,lc5,npc,npc',wn1]
     refine⟨nG npc,nY npc,?_⟩
     rw[hC]
     exact qT cl5 hk5 e0
  ·by_cases cday:max d s.Issued≤m.Day∧m.Day≤if m.Kind=3 then 36000 else s.Maturity
   rotate_left
   ·have e0:bJ secs l d m=8:=by rw[bJ,hf];dsimp only;rw[if_pos (by simpa using cday)]
    have hb:bet m.Day (max d s.Issued) (s.Maturity)=false:=zZ (by rw[if_neg k3]at cday;exact cday)
    simp -dsimp -implicitDefEqProofs [-getElem?_pos,go_sem,hP,a2,b2,c2,lp2,lq2,lc2,k3,am]
    refine au (fun _=>true) [] hP (by kernel_rfl) (by kernel_rfl) ?_
    simp -dsimp -implicitDefEqProofs [-getElem?_pos,go_sem,hP,a2,b2,c2,lp2,lq2,lc2,k3,am]
    refine aj (dW m.Day (max d s.Issued) (s.Maturity)) hP nK (an (by simp -dsimp[-getElem?_pos,go_sem])) .sc ?_
    simp -dsimp -implicitDefEqProofs [-getElem?_pos,go_sem,hP,hb]
    rw[hC]
    exact⟨by rw[e0],fun _=>k2,fun e=>by rw[e0]at e;cases e⟩
   have hb:bet m.Day (max d s.Issued) (s.Maturity)=true:=gM (by rw[if_neg k3]at cday;exact cday)
   simp -dsimp -implicitDefEqProofs [-getElem?_pos,go_sem,hP,a2,b2,c2,lp2,lq2,lc2,k3,am]
   refine au (fun _=>true) [] hP (by kernel_rfl) (by kernel_rfl) ?_
   simp -dsimp -implicitDefEqProofs [-getElem?_pos,go_sem,hP,a2,b2,c2,lp2,lq2,lc2,k3,am]
   refine aj (dW m.Day (max d s.Issued) (s.Maturity)) hP nK (an (by simp -dsimp[-getElem?_pos,go_sem])) .sc ?_
   by_cases a0:m.Amount≤0
   ·have e0:bJ secs l d m=79:=by rw[bJ,hf];dsimp only;rw[if_neg (by simpa using cday),if_pos (.inl a0)]
    have d0:decide (m.Amount≤0)=true:=decide_eq_true a0
    simp -dsimp -implicitDefEqProofs [-getElem?_pos,go_sem,hP,hb,a2,b2,lp2,lq2,d0]
    rw[hC]
    exact⟨by rw[e0],fun _=>k2,fun e=>by rw[e0]at e;cases e⟩
   have d0:decide (m.Amount≤0)=false:=decide_eq_false a0
   simp -dsimp -implicitDefEqProofs [-getElem?_pos,go_sem,hP,hb,a2,b2,lp2,lq2,d0]
   refine aj (yn m.Amount) hP BB (an (by simp -dsimp[-getElem?_pos,go_sem])) .sc ?_
   by_cases a9:1000000000000<m.Amount
   ·have e0:bJ secs l d m=79:=by rw[bJ,hf];dsimp only;rw[if_neg (by simpa using cday),if_pos (.inr (.inl a9))]
    have hv:bet m.Amount 0 1000000000000=false:=zZ (by omega)
    simp -dsimp -implicitDefEqProofs [-getElem?_pos,go_sem,hP,hv]
    rw[hC]
    exact⟨by rw[e0],fun _=>k2,fun e=>by rw[e0]at e;cases e⟩
   have hv:bet m.Amount 0 1000000000000=true:=gM (by omega)
   have ht:m.Amount.tmod s.Unit=m.Amount%s.Unit:=Int.tmod_eq_emod_of_nonneg (by omega)
   have u0:¬s.Unit=0:=by have:=so.unit;omega
   by_cases am0:m.Amount%s.Unit=0
   rotate_left
   ·have e0:bJ secs l d m=79:=by rw[bJ,hf];dsimp only;rw[if_neg (by simpa using cday),if_pos (.inr (.inr am0))]
    simp -dsimp -implicitDefEqProofs [-getElem?_pos,go_sem,hP,hv,a2,b2,lp2,lq2,ht,u0,am0]
    rw[hC]
    exact⟨by rw[e0],fun _=>k2,fun e=>by rw[e0]at e;cases e⟩
   simp -dsimp -implicitDefEqProofs [-getElem?_pos,go_sem,hP,hv,a2,b2,lp2,lq2,ht,u0,am0]
   refine aj gs hP LP (an (by simp -dsimp[-getElem?_pos,go_sem])) .sc ?_
   cases cs:gk m with
   |true=>
    have e0:bJ secs l d m=6:=by rw[bJ,hf];dsimp only;rw[if_neg (by simpa using cday),if_neg (by omega),if_pos cs]
    simp -dsimp -implicitDefEqProofs [-getElem?_pos,go_sem,hP]
    rw[hC]
    exact⟨by rw[e0],fun _=>k2,fun e=>by rw[e0]at e;cases e⟩
   |false=>
    simp -dsimp -implicitDefEqProofs [-getElem?_pos,go_sem,hP]
    refine au (fun i=>decide (i=p)) [] hP (by kernel_rfl) (by kernel_rfl) ?_
    by_cases f0:m.From=0
    ·simp -dsimp -implicitDefEqProofs [-getElem?_pos,go_sem,hP,ao,a2,lp2,f0]
     refine au (fun i=>decide (i=p)) [] hP (by kernel_rfl) (by kernel_rfl) ?_
     simp -dsimp -implicitDefEqProofs [-getElem?_pos,go_sem,hP,ao,a2,lp2,f0]
     refine ar (by rw[hr,hs];exact om) hP J7 ?_
     rintro r H3 ⟨rfl,kp3⟩
     have a3:=kp3 _ _ (by simp) a2
     have hk3:=hk2.kept kp3
     have k3':Kept [] H H3:=k2.trans kp3
     have lp3:=(gsI a3)
     have ho3:=rS ho m.Security l.length
     rw[List.take_length]at ho3
     have wo:=ah (ig l m.Security+m.Amount) (by omega)
     by_cases o9:1000000000000<ig l m.Security+m.Amount
     ·have e0:bJ secs l d m=2:=by rw[bJ,hf];dsimp only;rw[if_neg (by simpa using cday),if_neg (by omega),if_neg (by simp[cs]),if_neg (fun e=>e.1 f0),if_pos ⟨f0,o9⟩]
      have d9:decide (1000000000000<ig l m.Security+m.Amount)=true:=decide_eq_true o9
      simp -dsimp -implicitDefEqProofs [-getElem?_pos,go_sem,hP]
      refine⟨fZ kp3 a2,?_⟩
      simp -dsimp -implicitDefEqProofs [-getElem?_pos,go_sem,hP,ao,a3,lp3,wo,d9]
      rw[hC]
      exact⟨by rw[e0],fun _=>k3',fun e=>by rw[e0]at e;cases e⟩
     have d9:decide (1000000000000<ig l m.Security+m.Amount)=false:=decide_eq_false o9
     simp -dsimp -implicitDefEqProofs [-getElem?_pos,go_sem,hP]
     refine⟨fZ kp3 a2,?_⟩
     simp -dsimp -implicitDefEqProofs [-getElem?_pos,go_sem,hP,ao,a3,lp3,wo,d9]
     have mok:MoveOk secs l d m s:=⟨hf,cday,⟨by omega,by omega,am0⟩,cs,fun e=>by first|exact absurd f0 e|omega,fun e=>by first|exact absurd e f0|omega⟩
     have e0:=lJ mok
     have ho1:=qR ho mok
     have wn:=ah (-m.Amount) (by omega)
     have ad1:=fun {row src:Option Nat}=>nw (row:=row) (src:=src) c hid (bf secs) n d l m.Security m.From (-m.Amount) H3 hk3 rfl (by omega) ho.srt (fun x hx=>ho.am hx) (by omega) (by omega)
     simp -dsimp -implicitDefEqProofs [-getElem?_pos,go_sem,hP,a3,lp3,wn]
     refine ar (by rw[hr,hs];exact ad1) hP mF ?_
     rintro _ H4 c24
     obtain⟨hid4,hk4,pr4,kp4⟩:=c24
     have a4:=kp4 _ _ (by simpa using⟨npc,nph⟩) a3
     have lp4:=(gsI a4)
     have ad2:=fun {row src:Option Nat}=>nw (row:=row) (src:=src) c hid4 (bf secs) n d (mH l m.Security m.From (-m.Amount)) m.Security m.To m.Amount H4 hk4 rfl (by have:=ho1.2;omega) ho1.1.srt (fun x hx=>ho1.1.am hx) (by omega) (by omega)
     simp -dsimp -implicitDefEqProofs [-getElem?_pos,go_sem,hP,a4,lp4]
     refine ar (by rw[hr,hs];exact ad2) hP mF ?_
     rintro _ H5 c25
     have cl5:tP H c hid (bf secs) (goH l m) n d H5:=oa (qd k3' hk ⟨hid4,hk4,pr4,kp4⟩) hid4 hk4 (fun x o hx he=>pr4 x o hx (k3' x o (by simp) he)) c25
     obtain⟨hid5,hk5,pr5,kp5⟩:=c25
     have a5:=kp5 _ _ (by simpa using⟨npc,pr4 p _ nph a3⟩) a4
     have lp5:=(gsI a5)
     have c5:=hk5.oc
     have lc5:=(gsI c5)
     have wn1:=ah (n+1) (by omega)
     simp -dsimp -implicitDefEqProofs [-getElem?_pos,go_sem,hP]
     refine au (fun i=>decide (i=p)) [3,4,5,9,10,12,13] hP (by kernel_rfl) (by kernel_rfl) ?_
     simp -dsimp -implicitDefEqProofs [-getElem?_pos,go_sem,hP,ao,a5,lp5,c5,lc5,npc,npc',wn1]
     refine⟨nG npc,nY npc,?_⟩
     rw[hC]
     exact qT cl5 hk5 e0
    ·simp -dsimp -implicitDefEqProofs [-getElem?_pos,go_sem,hP,ao,a2,lp2,f0]
     refine ar (by rw[hr,hs];exact hm) hP Ka ?_
     rintro r H3 ⟨rfl,kp3⟩
     have a3:=kp3 _ _ (by simp) a2
     have hk3:=hk2.kept kp3
     have k3':Kept [] H H3:=k2.trans kp3
     have lp3:=(gsI a3)
     by_cases o9:jN l m.Security m.From<m.Amount
     ·have e0:bJ secs l d m=77:=by rw[bJ,hf];dsimp only;rw[if_neg (by simpa using cday),if_neg (by omega),if_neg (by simp[cs]),if_pos ⟨f0,o9⟩]
      have d9:decide (jN l m.Security m.From<m.Amount)=true:=decide_eq_true o9
      simp -dsimp -implicitDefEqProofs [-getElem?_pos,go_sem,hP]
      refine⟨fZ kp3 a2,?_⟩
      simp -dsimp -implicitDefEqProofs [-getElem?_pos,go_sem,hP,ao,a3,lp3,d9]
      rw[hC]
      exact⟨by rw[e0],fun _=>k3',fun e=>by rw[e0]at e;cases e⟩
     have d9:decide (jN l m.Security m.From<m.Amount)=false:=decide_eq_false o9
     simp -dsimp -implicitDefEqProofs [-getElem?_pos,go_sem,hP]
     refine⟨fZ kp3 a2,?_⟩
     simp -dsimp -implicitDefEqProofs [-getElem?_pos,go_sem,hP,ao,a3,lp3,d9]
     refine au (fun i=>decide (i=p)) [] hP (by kernel_rfl) (by kernel_rfl) ?_
     simp -dsimp -implicitDefEqProofs [-getElem?_pos,go_sem,hP,ao,a3,lp3,f0]
     have mok:MoveOk secs l d m s:=⟨hf,cday,⟨by omega,by omega,am0⟩,cs,fun e=>by first|exact absurd f0 e|omega,fun e=>by first|exact absurd e f0|omega⟩
     have e0:=lJ mok
     have ho1:=qR ho mok
     have wn:=ah (-m.Amount) (by omega)
     have ad1:=fun {row src:Option Nat}=>nw (row:=row) (src:=src) c hid (bf secs) n d l m.Security m.From (-m.Amount) H3 hk3 rfl (by omega) ho.srt (fun x hx=>ho.am hx) (by omega) (by omega)
     simp -dsimp -implicitDefEqProofs [-getElem?_pos,go_sem,hP,a3,lp3,wn]
     refine ar (by rw[hr,hs];exact ad1) hP mF ?_
     rintro _ H4 c24
     obtain⟨hid4,hk4,pr4,kp4⟩:=c24
     have a4:=kp4 _ _ (by simpa using⟨npc,nph⟩) a3
     have lp4:=(gsI a4)
     have ad2:=fun {row src:Option Nat}=>nw (row:=row) (src:=src) c hid4 (bf secs) n d (mH l m.Security m.From (-m.Amount)) m.Security m.To m.Amount H4 hk4 rfl (by have:=ho1.2;omega) ho1.1.srt (fun x hx=>ho1.1.am hx) (by omega) (by omega)
     simp -dsimp -implicitDefEqProofs [-getElem?_pos,go_sem,hP,a4,lp4]
     refine ar (by rw[hr,hs];exact ad2) hP mF ?_
     rintro _ H5 c25
     have cl5:tP H c hid (bf secs) (goH l m) n d H5:=oa (qd k3' hk ⟨hid4,hk4,pr4,kp4⟩) hid4 hk4 (fun x o hx he=>pr4 x o hx (k3' x o (by simp) he)) c25
     obtain⟨hid5,hk5,pr5,kp5⟩:=c25
     have a5:=kp5 _ _ (by simpa using⟨npc,pr4 p _ nph a3⟩) a4
     have lp5:=(gsI a5)
     have c5:=hk5.oc
     have lc5:=(gsI c5)
     have wn1:=ah (n+1) (by omega)
     simp -dsimp -implicitDefEqProofs [-getElem?_pos,go_sem,hP]
     refine au (fun i=>decide (i=p)) [3,4,5,9,10,12,13] hP (by kernel_rfl) (by kernel_rfl) ?_
     simp -dsimp -implicitDefEqProofs [-getElem?_pos,go_sem,hP,ao,a5,lp5,c5,lc5,npc,npc',wn1]
     refine⟨nG npc,nY npc,?_⟩
     rw[hC]
     exact qT cl5 hk5 e0
end Go.Proofs.YtmmpcldnpflchaaGreatDoor
namespace Go.PA
open Go.RowKit
section
variable {E:Env}
theorem wZ {s:St} {o ty k:Nat} {cs:List AV} (j:Nat) (ty' k':Nat) (h:s.H[o]?=some (some ⟨ty,k,[cs]⟩)) (hk:k≠2) (hi:∀es,cs[2]?≠some (.imap es)) (hj:cs[j]?=some .nil):
  Weaker E s ⟨s.t,(s.H++[some (AObj.mk ty' k' [])]).set o (some ⟨ty,k,[cs.set j (.sref s.H.length 0 0)]⟩)⟩:=by
 rintro a w ⟨ρ,ok,g,hx,hd,hs,hr⟩
 obtain⟨g1,x1⟩:=g.add ⟨ty',k',[]⟩ none rfl (by simp) (by simp)
 have lt:=(gsI h)
 have h1:(s.H++[some ⟨ty',k',[]⟩])[o]?=some (some ⟨ty,k,[cs]⟩):=by rw[List.getElem?_append_left lt];exact h
 have hobj:=g1.obj o _ h1
 have hlen:=g1.len o _ h1 cs (by simp)
 obtain⟨ρ1,hρ1⟩:∃ρ1,ρ1=eT ρ s.H.length none:=⟨_,rfl⟩
 rw[←hρ1]at g1 x1 hobj
 have hnew:ρ1 s.H.length=none:=by rw[hρ1];simp[eT]
 cases hρ:ρ1 o with
 |none=>rw[hρ]at hobj;cases hobj
 |some bc=>
  obtain⟨b,cap⟩:=bc
  rw[hρ]at hobj
  obtain⟨g',x'⟩:=g1.change (w':=w) h1 hρ ⟨ty,k,[cs.set j (.sref s.H.length 0 0)]⟩ rfl (Nat.le_refl _) (by simpa using hlen) rfl rfl rfl rfl (fun _ _=>rfl) fun hx'=>by
   rcases hobj with⟨cur,h1',h2,h3,h4,h5⟩|⟨_,hk',_⟩|⟨_,hk',he⟩
   ·refine .inl ⟨cur,h1',h2,h3,h4,fun i e q a he ha=>?_⟩
    match i,he with
    |0,he=>
     simp only[List.getElem?_cons_zero,Option.some.injEq]at he
     subst he
     by_cases hq:j=q
     ·subst hq
      obtain⟨c,c1,c2,c3⟩:=h5 0 cs j .nil rfl hj
      have hjl:=(gsI hj)
      rw[List.getElem?_set,if_pos rfl,if_pos hjl]at ha
      cases ha
      refine⟨c,c1,c2,?_⟩
      cases c3
      refine .srefNil (o:=⟨ty',k',[]⟩) ?_ hnew
      rw[List.getElem?_set_ne (by omega)]
      exact cx
     ·rw[List.getElem?_set_ne hq]at ha
      obtain⟨c,c1,c2,c3⟩:=h5 0 cs q a rfl ha
      exact⟨c,c1,c2,c3.ext hx'⟩
   ·exact absurd hk' hk
   ·exfalso
    rcases he with⟨he,_⟩|⟨m,clk,seen,ents,c1,c2,_,_,_,_,he,_⟩
    ·simp only[List.cons.injEq,and_true]at he
     exact hi [] (by rw[he];rfl)
    ·simp only[List.cons.injEq,and_true]at he
     exact hi _ (by rw[he];rfl)
  exact⟨ρ1,ok,g',(hx.trans x1).trans x',hd,hs,fun i=>((hr i).ext x1).ext x'⟩
theorem oR {c:Code} {s:St} {Q:Exit→St→Prop} {b:Bx (c,Q)} {o ty k:Nat} {cs:List AV} (j:Nat) (ty' k':Nat) (h:s.H[o]?=some (some ⟨ty,k,[cs]⟩)) (hk:k≠2) (hi:∀es,cs[2]?≠some (.imap es)) (hj:cs[j]?=some .nil)
  (hl:pT E c ⟨s.t,(s.H++[some (AObj.mk ty' k' [])]).set o (some ⟨ty,k,[cs.set j (.sref s.H.length 0 0)]⟩)⟩ Q .mk):pT E c s Q b:=
 AWp.weaken (wZ j ty' k' h hk hi hj) hl
end
end Go.PA
namespace Go.Proofs.YtmmpcldnpflchaaGreatDoor
open Go.PA
open Go.RowKit
theorem yU:∀(l:List TSecurity) (p:Int),C4 p l=true→(∀s,s∈l→Dk s=true)∧∀(i:Nat) (s t:TSecurity),l[i]?=some s→l[i+1]?=some t→s.ID<t.ID
 |[],_,_=>⟨fun _ h=>(by cases h),fun i s t h=>by simp at h⟩
 |x::l,p,h=>by
  unfold C4 at h
  rw[Bool.and_eq_true,Bool.and_eq_true]at h
  obtain⟨⟨h1,h2⟩,h3⟩:=h
  obtain⟨g1,g2⟩:=yU l _ h3
  refine⟨fun s hs=>?_,fun i s t hs ht=>?_⟩
  ·rcases List.mem_cons.1 hs with rfl|hs
   ·exact h1
   ·exact g1 s hs
  ·cases i with
   |zero=>
    simp only[List.getElem?_cons_zero,Option.some.injEq]at hs
    subst hs
    cases l with
    |nil=>simp at ht
    |cons y l=>
     simp only[List.getElem?_cons_succ,List.getElem?_cons_zero,Option.some.injEq]at ht
     subst ht
     unfold C4 at h3
     rw[Bool.and_eq_true,Bool.and_eq_true,decide_eq_true_eq]at h3
     exact h3.1.2
   |succ i=>exact g2 i s t (by simpa using hs) (by simpa using ht)
theorem F9 (m:TMove):PFun Tryz.prog none none 70 [.agg m.cells] (·=bv true):=by
 refine ae Tryz.func70 rfl (by simp[Tryz.f70]) (by kernel_rfl) ?_
 intro E hP hr hs hW hN
 simp -dsimp -implicitDefEqProofs [-getElem?_pos,go_sem,hP,w8]
def Sv (H:ab) (sx:AV) (t:RepSt) (r:AV) (H':ab):Prop:=∃c hid,r= .tup [.ref c 0 0,bv true]∧Clk H' c hid sx t.l t.n t.d∧H.length≤c∧(∀(z:Nat) (o:AObj),H[z]?=some (some o)→z≠hid)∧Kept [] H H'
set_option maxHeartbeats 4000000 in
theorem zf {row src:Option Nat} (r:TRegister) (g:FuncId) (caps:List AV) (t:RepSt) (H:ab) (hrun:Runs r.Securities ud r.Moves t) (hml:r.Moves.length≤400) (hsl:r.Securities.length≤1000) (hso:∀s,s∈r.Securities→Dk s=true) (hen:aa Tryz.prog g=true)
  (hg:∀m,m∈r.Moves→∀H',Kept [] H H'→MFun Tryz.prog row src g (.agg m.cells::caps) H' (fun r H''=>r=bv true∧Kept [] H' H'')):
  MFun Tryz.prog row src 69 [.agg r.cells,.fn g caps] H (Sv H (bf r.Securities) t):=by
 obtain⟨C,hC⟩:∃C:AV→ab→Prop,C=Sv H (bf r.Securities) t:=⟨_,rfl⟩
 rw[←hC]
 have ex:∃x H',C x H':=by
  rw[hC]
  refine⟨_,H++[some ⟨162,4,[[bf r.Securities,.sref (H.length+1) 0 t.l.length,iv t.n,iv t.d]]⟩,some ⟨160,3,ac THolding.cells t.l⟩],H.length,H.length+1,rfl,⟨by simp,?_,by omega⟩,Nat.le_refl _,fun z o hz=>by have:=(gsI hz);omega,ap _ _ _⟩
  rw[List.getElem?_append_right (by omega)]
  simp
 refine al Tryz.func69 rfl (by simp[Tryz.f69]) (by kernel_rfl) (ex) ?_
 intro E hP hr hs hN
 simp -dsimp -implicitDefEqProofs [-getElem?_pos,go_sem,hP,ga]
 refine oR (o:=H.length+1) (ty:=162) (k:=4) (cs:=[bf r.Securities,.nil,iv 0,iv 0]) 1 160 3 (by simp) (by decide) (by simp) rfl ?_
 obtain⟨I,hI⟩:∃I:Nat→St→Prop,I=fun m s=>∃(k c hid:Nat) (v:RepSt),k≤r.Moves.length∧m=r.Moves.length-k∧Runs r.Securities ud (r.Moves.take k) v∧s.t 1= .fn g caps∧s.t 6= .ref c 0 0∧s.t 14=cF r.Moves∧s.t 15=iv r.Moves.length∧s.t 16=iv k∧Clk s.H c hid (bf r.Securities) v.l v.n v.d∧H.length≤c∧(∀(z:Nat) (o:AObj),H[z]?=some (some o)→z≠hid)∧Kept [] H s.H:=⟨_,rfl⟩
 refine aF I (r.Moves.length) (by rw[hN];rfl) ?_ ?_
 ·rw[hI]
  refine⟨0,H.length+1,H.length+2,ud,by omega,by omega,by simpa using Runs.nil,by simp -dsimp[-getElem?_pos,go_sem],by simp -dsimp[-getElem?_pos,go_sem],by simp -dsimp[-getElem?_pos,go_sem],by simp -dsimp[-getElem?_pos,go_sem],by simp -dsimp[-getElem?_pos,go_sem],⟨?_,?_,by omega⟩,by omega,fun z o hz=>by have:=(gsI hz);omega,?_⟩
  ·simp[ud]
  ·simp[ud,ac]
  ·simp
   exact ap _ _ _
 intro m s hs'
 rw[hI]at hs'
 obtain⟨k,c,hid,v,hk,hm,hv,t1,t6,t14,t15,t16,hc,hcl,hhl,kp⟩:=hs'
 simp -dsimp -implicitDefEqProofs [-getElem?_pos,go_sem,hP,t15,t16]
 refine aH (fun hq=>?_) (fun hq=>?_)
 ·have hk:k<r.Moves.length:=by simpa using hq
  obtain⟨a,ha⟩:∃a,r.Moves[k]?=some a:=⟨_,List.getElem?_eq_getElem hk⟩
  have wk:=ah ((k:Int)+1) (by omega)
  obtain⟨v',hv',hst⟩:=hrun.take k
  have e:v'=v:=by rw[hv'.det,hv.det]
  subst e
  obtain⟨⟨s1,s2,s3⟩,hv2⟩:=hst a ha
  have hnn:=hv.n
  have hho:=hv.ok
  have htl:(r.Moves.take k).length=k:=by simp;omega
  rw[htl]at hnn hho
  have h00:ud.n=0:=rfl
  have wn:=ah ((v'.n:Int)+1) (by omega)
  have kb:=gM s2
  simp -dsimp -implicitDefEqProofs [-getElem?_pos,go_sem,hP,t14,t16,ha,w8]
  obtain⟨b,hb⟩:∃b,b=s.H.length:=⟨_,rfl⟩
  obtain⟨H1,hH1⟩:∃H1:ab,H1=s.H++[some ⟨135,7,[[iv a.Number,iv a.Day,iv a.Kind,iv a.Security,iv a.From,iv a.To,iv a.Amount]]⟩]:=⟨_,rfl⟩
  have k1:Kept [] s.H H1:=by rw[hH1];exact ap _ _ _
  have a1:H1[b]?=some (some ⟨135,7,[[iv a.Number,iv a.Day,iv a.Kind,iv a.Security,iv a.From,iv a.To,iv a.Amount]]⟩):=by rw[hH1,hb];simp
  have c1:=hc.kept k1
  have lb1:=(gsI a1)
  rw[←hH1,←hb]
  have gm:=hg a (List.mem_of_getElem? ha) H1 (kp.trans k1)
  rw[w8]at gm
  simp -dsimp -implicitDefEqProofs [-getElem?_pos,go_sem,hP,t1,a1,lb1]
  refine ar (by rw[hr,hs];exact gm) hP hen ?_
  rintro x H2 ⟨rfl,k2⟩
  have a2:=k2 _ _ (by simp) a1
  have c2:=c1.kept k2
  have lb2:=(gsI a2)
  have oc2:=c2.oc
  have lc2:=(gsI oc2)
  simp -dsimp -implicitDefEqProofs [-getElem?_pos,go_sem,hP]
  refine au (fun _=>true) [17] hP (by kernel_rfl) (by kernel_rfl) ?_
  simp -dsimp -implicitDefEqProofs [-getElem?_pos,go_sem,hP,t6,a2,lb2,oc2,lc2,s1,wn]
  refine aj (dW a.Kind 1 3) hP nK (an (by simp -dsimp[-getElem?_pos,go_sem])) .sc ?_
  have dm:=fun {row src:Option Nat}=>RL (row:=row) (src:=src) c hid r.Securities v'.l v'.n v'.d a (2*k) H2 c2 (by have:=hho.len;omega) hsl hso hho (by omega)
  rw[w8]at dm
  simp -dsimp -implicitDefEqProofs [-getElem?_pos,go_sem,hP,kb,t6,a2,lb2,oc2,lc2]
  refine ar (by rw[hr,hs];exact dm) hP M2 ?_
  rintro x H3 ⟨rfl,_,hd⟩
  obtain⟨hid',c3,p3,k3⟩:=hd s3
  simp -dsimp -implicitDefEqProofs [-getElem?_pos,go_sem,hP,s3,t16,wk]
  refine⟨r.Moves.length-(k+1),by omega,?_⟩
  rw[hI]
  refine⟨k+1,c,hid',sC v' a,by omega,rfl,hv2,by simp -dsimp[-getElem?_pos,go_sem,t1],by simp -dsimp[-getElem?_pos,go_sem,t6],by simp -dsimp[-getElem?_pos,go_sem,t14],by simp -dsimp[-getElem?_pos,go_sem,t15],by simp -dsimp[-getElem?_pos,go_sem],?_,hcl,?_,?_⟩
  ·simpa[sC]using c3
  ·exact fun z o hz=>p3 z o (hhl z o hz) (((kp.trans k1).trans k2) z o (by simp) hz)
  ·intro z o _ hz
   have h2:=((kp.trans k1).trans k2) z o (by simp) hz
   have:=(gsI hz)
   have n1:¬z=c:=by omega
   exact k3 z o (by simp[n1,hhl z o hz]) h2
 ·have hk:k=r.Moves.length:=by simp at hq;omega
  subst hk
  rw[List.take_length]at hv
  have e:v=t:=by rw[hv.det,hrun.det]
  subst e
  simp -dsimp -implicitDefEqProofs [-getElem?_pos,go_sem,hP,t6]
  rw[hC]
  exact⟨c,hid,rfl,hc,hcl,hhl,kp⟩
theorem x4 (a b:List THolding) (ha:a.length≤100000) (hb:b.length≤100000):
  PFun Tryz.prog none none 71 [.list 3 (ac THolding.cells a),.list 3 (ac THolding.cells b)] (·=bv (decide (a=b))):=by
 refine ae Tryz.func71 rfl (by simp[Tryz.f71]) (by kernel_rfl) ?_
 intro E hP hr hs hW hN
 by_cases hlen:a.length=b.length
 rotate_left
 ·have hne:¬a=b:=fun h=>hlen (by rw[h])
  have hl:decide ((a.length:Int)=(b.length:Int))=false:=by simp;omega
  simp -dsimp -implicitDefEqProofs [-getElem?_pos,go_sem,hP,hl,hne]
 have hl:decide ((a.length:Int)=(b.length:Int))=true:=by simp;omega
 simp -dsimp -implicitDefEqProofs [-getElem?_pos,go_sem,hP,hl]
 obtain⟨I,hI⟩:∃I:Nat→St→Prop,I=fun m s=>∃k:Nat,k≤a.length∧m=a.length-k∧s.t 0= .list 3 (ac THolding.cells a)∧s.t 1= .list 3 (ac THolding.cells b)∧s.t 12=iv a.length∧s.t 13=iv k∧a.take k=b.take k:=⟨_,rfl⟩
 refine aF I (a.length) (by rw[hN];rfl) ?_ ?_
 ·rw[hI]
  exact⟨0,by omega,by omega,by simp -dsimp[-getElem?_pos,go_sem],by simp -dsimp[-getElem?_pos,go_sem],by simp -dsimp[-getElem?_pos,go_sem],by simp -dsimp[-getElem?_pos,go_sem],by simp⟩
 intro m s hs'
 rw[hI]at hs'
 obtain⟨k,hk,hm,t0,t1,t12,t13,heq⟩:=hs'
 simp -dsimp -implicitDefEqProofs [-getElem?_pos,go_sem,hP,t12,t13]
 refine aH (fun h=>?_) (fun h=>?_)
 ·have hk:k<a.length:=by simpa using h
  obtain⟨x,hx⟩:∃x,a[k]?=some x:=⟨_,List.getElem?_eq_getElem hk⟩
  obtain⟨y,hy⟩:∃y,b[k]?=some y:=⟨_,List.getElem?_eq_getElem (by omega)⟩
  have wk:=ah ((k:Int)+1) (by omega)
  have tx:a.take (k+1)=a.take k++[x]:=by rw[List.take_add_one,hx];rfl
  have ty:b.take (k+1)=b.take k++[y]:=by rw[List.take_add_one,hy];rfl
  simp -dsimp -implicitDefEqProofs [-getElem?_pos,go_sem,hP,t13]
  refine au (fun _=>true) [] hP (by kernel_rfl) (by kernel_rfl) ?_
  by_cases hxy:x=y
  ·subst hxy
   simp -dsimp -implicitDefEqProofs [-getElem?_pos,go_sem,hP,t0,t1,hx,hy,THolding.cells,t13,wk]
   refine⟨a.length-(k+1),by omega,?_⟩
   rw[hI]
   exact⟨k+1,by omega,rfl,by simp -dsimp[-getElem?_pos,go_sem,t0],by simp -dsimp[-getElem?_pos,go_sem,t1],by simp -dsimp[-getElem?_pos,go_sem,t12],by simp -dsimp[-getElem?_pos,go_sem],by rw[tx,ty,heq]⟩
  ·have hne:¬a=b:=fun h=>by
    subst h
    rw[hx]at hy
    exact hxy (Option.some.inj hy)
   simp -dsimp -implicitDefEqProofs [-getElem?_pos,go_sem,hP,t0,t1,hx,hy,THolding.cells,t13,wk]
   refine aH (fun h=>?_) (fun h=>?_)
   ·simp -dsimp -implicitDefEqProofs [-getElem?_pos,go_sem,hP,hne]
   ·exact absurd (by cases x;cases y;simp at h;simp[h]) hxy
 ·have hk:k=a.length:=by simp at h;omega
  subst hk
  rw[List.take_length]at heq
  rw[hlen,List.take_length]at heq
  simp -dsimp -implicitDefEqProofs [-getElem?_pos,go_sem,hP,heq]
structure RegIn (r:TRegister):Prop where
 ml:r.Moves.length≤400
 sl:r.Securities.length≤20
 so:∀s,s∈r.Securities→Dk s=true
 asc:∀(i:Nat) (s t:TSecurity),r.Securities[i]?=some s→r.Securities[i+1]?=some t→s.ID<t.ID
theorem RegOk.regIn {r:TRegister} {d:Int} (h:RegOk r d):RegIn r:=by
 obtain⟨h1,h2⟩:=yU _ _ h.secs
 exact⟨h.mlen,h.slen,h1,h2⟩
theorem RegOk.hl {r:TRegister} {d:Int} (h:RegOk r d):HoldOk r.Holdings (2*r.Moves.length):=h.run.ok
set_option maxHeartbeats 4000000 in
theorem HA (r:TRegister) (d:Int) (h:RegOk r d):PFun Tryz.prog none none 27 [.agg r.cells] (·=iv 0):=by
 have hin:=h.regIn
 have h1:=hin.ml
 have h2:=hin.sl
 have h4:=h.hl
 refine ae Tryz.func27 rfl (by simp[Tryz.f27]) (by kernel_rfl) ?_
 intro E hP hr hs hW hN
 have d1:decide (20<(r.Securities.length:Int))=false:=decide_eq_false (by omega)
 have d2:decide (400<(r.Moves.length:Int))=false:=decide_eq_false (by omega)
 have ir:=fW r
 simp -dsimp -implicitDefEqProofs [-getElem?_pos,go_sem,hP,ga,af,d1,d2]
 obtain⟨I,hI⟩:∃I:Nat→St→Prop,I=fun m s=>∃k:Nat,k≤r.Securities.length∧m=r.Securities.length-k∧s.t 1= .ref 0 0 0∧s.t 18=bf r.Securities∧s.t 19=iv r.Securities.length∧s.t 20=iv k∧s.H[0]?=some (some ⟨45,3,[[bf r.Securities,cM r.Holdings,cF r.Moves]]⟩):=⟨_,rfl⟩
 refine aF I (r.Securities.length) (by rw[hN];rfl) ?_ ?_
 ·rw[hI]
  exact⟨0,by omega,by omega,by simp -dsimp[-getElem?_pos,go_sem],by simp -dsimp[-getElem?_pos,go_sem],by simp -dsimp[-getElem?_pos,go_sem,af],by simp -dsimp[-getElem?_pos,go_sem],by simp -dsimp[-getElem?_pos,go_sem]⟩
 intro m s hs'
 rw[hI]at hs'
 obtain⟨k,hk,hm,t1,t18,t19,t20,g0⟩:=hs'
 have l0:=(gsI g0)
 simp -dsimp -implicitDefEqProofs [-getElem?_pos,go_sem,hP,t19,t20]
 refine aH (fun hq=>?_) (fun hq=>?_)
 ·have hk:k<r.Securities.length:=by simpa using hq
  obtain⟨a,ha⟩:∃a,r.Securities[k]?=some a:=⟨_,List.getElem?_eq_getElem hk⟩
  have wk:=ah ((k:Int)+1) (by omega)
  have sp:=NL a (hin.so a (List.mem_of_getElem? ha))
  rw[Aw]at sp
  have g0':∀x:ab,(s.H++x)[0]?=some (some ⟨45,3,[[bf r.Securities,cM r.Holdings,cF r.Moves]]⟩):=fun x=>by rw[List.getElem?_append_left l0];exact g0
  simp -dsimp -implicitDefEqProofs [-getElem?_pos,go_sem,hP,t18,t20,ha,Aw]
  refine au (fun _=>true) [] hP (by kernel_rfl) (by kernel_rfl) ?_
  simp -dsimp -implicitDefEqProofs [-getElem?_pos,go_sem,hP]
  refine aj sp hP SK (an (by simp -dsimp[-getElem?_pos,go_sem])) .sc ?_
  by_cases k0:k=0
  ·subst k0
   have w1:=ah 1 (by omega)
   simp -dsimp -implicitDefEqProofs [-getElem?_pos,go_sem,hP,t1,g0',t20,wk,w1]
   refine⟨r.Securities.length-1,by omega,?_⟩
   rw[hI]
   exact⟨1,by omega,rfl,by simp -dsimp[-getElem?_pos,go_sem,t1],by simp -dsimp[-getElem?_pos,go_sem,t18],by simp -dsimp[-getElem?_pos,go_sem,t19],by simp -dsimp[-getElem?_pos,go_sem,w1],by simp -dsimp[-getElem?_pos,go_sem,g0']⟩
  ·obtain⟨j,rfl⟩:∃j,k=j+1:=⟨k-1,by omega⟩
   obtain⟨z,hz⟩:∃z,r.Securities[j]?=some z:=⟨_,List.getElem?_eq_getElem (by omega)⟩
   have lt:=hin.asc j z a hz ha
   have dj:decide ((0:Int)<((j+1:Nat):Int))=true:=decide_eq_true (by omega)
   have wj:=ah (((j+1:Nat):Int)-1) (by omega)
   have ej:((j+1:Nat):Int)-1=(j:Int):=by omega
   have dl:decide (a.ID≤z.ID)=false:=decide_eq_false (by omega)
   have lj:j<r.Securities.length:=by omega
   rw[ej]at wj
   have wk2:=ah ((j:Int)+1+1) (by omega)
   simp -dsimp -implicitDefEqProofs [-getElem?_pos,go_sem,hP,t1,g0',t20,wk,wk2,dj,wj,ej,hz,Aw,dl,lj]
   refine⟨r.Securities.length-(j+1+1),by omega,?_⟩
   rw[hI]
   exact⟨j+1+1,by omega,rfl,by simp -dsimp[-getElem?_pos,go_sem,t1],by simp -dsimp[-getElem?_pos,go_sem,t18],by simp -dsimp[-getElem?_pos,go_sem,t19],by simp -dsimp[-getElem?_pos,go_sem,wk2],by simp -dsimp[-getElem?_pos,go_sem,g0']⟩
 ·have hk:k=r.Securities.length:=by simp at hq;omega
  subst hk
  have rm:=fun {row src:Option Nat}=>zf (row:=row) (src:=src) r 70 [] ⟨r.Holdings,r.Moves.length,d⟩ s.H h.run hin.ml (by omega) hin.so Pc fun m hm H' hk=>(qh ((F9 m).lift _ _) (an (by simp[Bb])) ⟨_,rfl⟩ (by rintro _ rfl;simp[kU])).mono (by rintro x H'' ⟨rfl,rfl⟩;exact⟨rfl,ai _ _⟩)
  rw[ga]at rm
  simp -dsimp -implicitDefEqProofs [-getElem?_pos,go_sem,hP,t1,g0]
  refine ar (by rw[hr,hs];exact rm) hP OH ?_
  rintro x H1 ⟨c,hid,rfl,hc,_,_,kp⟩
  have a1:=kp _ _ (by simp) g0
  have l1:=(gsI a1)
  have oc:=hc.oc
  have lc:=(gsI oc)
  have ihl:=iX r.Holdings
  have lq:=x4 r.Holdings r.Holdings (by have:=h4.len;omega) (by have:=h4.len;omega)
  rw[decide_eq_true rfl]at lq
  simp -dsimp -implicitDefEqProofs [-getElem?_pos,go_sem,hP]
  refine au (fun _=>true) [] hP (by kernel_rfl) (by kernel_rfl) ?_
  simp -dsimp -implicitDefEqProofs [-getElem?_pos,go_sem,hP,t1,a1,l1,oc,lc]
  refine dA (lq.lift _ _) hP Sf (iY hc.oh (by rw[af]) ihl (bI ihl (cH.2 trivial))) ⟨_,rfl⟩ (by rintro x rfl;simp[kU]) ?_
  rintro x rfl
  simp -dsimp -implicitDefEqProofs [-getElem?_pos,go_sem,hP]
open Go.PA
open Go.RowKit
theorem CD {row src:Option Nat} (l:List TSecurity) (H:ab) (hl:l.length≤1000000):MFun Tryz.prog row src 74 [.list 7 (ac TSecurity.cells l)] H (fun r H'=>∃id,r= .sref id 0 l.length∧H.length≤id∧H'[id]?=some (some ⟨71,7,ac TSecurity.cells l⟩)∧Kept [] H H'):=by
 have own:MFun Tryz.prog row src 74 [.list 7 (ac TSecurity.cells l)] H (fun r H'=>(r= .nil∧l=[]∧H'=H)∨∃id,r= .sref id 0 l.length∧H.length≤id∧H'[id]?=some (some ⟨71,7,ac TSecurity.cells l⟩)∧Kept [] H H'):=by
  cases l with
  |nil=>
   refine bu fun A c=>?_
   refine al Tryz.func74 rfl (by simp[Tryz.f74]) (by kernel_rfl) ⟨.nil,H,.inl ⟨rfl,rfl,rfl⟩⟩ ?_
   intro E hP hr hs hN
   cases A with
   |none=>simp -dsimp -implicitDefEqProofs [-getElem?_pos,go_sem,hP]
   |some a=>
    simp -dsimp -implicitDefEqProofs [-getElem?_pos,go_sem,hP]
    exact ap _ _ _
  |cons a l=>
   refine al Tryz.func74 rfl (by simp[Tryz.f74]) (by kernel_rfl) ⟨_,H++[some ⟨71,7,ac TSecurity.cells (a::l)⟩],.inr ⟨H.length,rfl,Nat.le_refl _,by simp,az _ (ai _ _)⟩⟩ ?_
   intro E hP hr hs hN
   simp only[List.length_cons]at hl
   have e:ac TSecurity.cells (a::l)=TSecurity.cells a::ac TSecurity.cells l:=rfl
   simp -dsimp -implicitDefEqProofs [-getElem?_pos,go_sem,hP,e]
   refine⟨by omega,by omega,?_⟩
   exact ap _ _ _
 refine (own.ownNil 71 7).mono ?_
 rintro r H' (⟨H0,h0,rfl,rfl⟩|⟨hne,h⟩)
 ·rcases h0 with⟨_,rfl,rfl⟩|⟨id,h,_⟩
  ·exact⟨_,rfl,Nat.le_refl _,by simp[ac],az _ (ai _ _)⟩
  ·cases h
 ·rcases h with⟨h,_⟩|h
  ·exact absurd h hne
  ·exact h
theorem BE {row src:Option Nat} (l:List THolding) (H:ab) (hl:l.length≤1000000):MFun Tryz.prog row src 75 [.list 3 (ac THolding.cells l)] H (fun r H'=>∃id,r= .sref id 0 l.length∧H.length≤id∧H'[id]?=some (some ⟨160,3,ac THolding.cells l⟩)∧Kept [] H H'):=by
 have own:MFun Tryz.prog row src 75 [.list 3 (ac THolding.cells l)] H (fun r H'=>(r= .nil∧l=[]∧H'=H)∨∃id,r= .sref id 0 l.length∧H.length≤id∧H'[id]?=some (some ⟨160,3,ac THolding.cells l⟩)∧Kept [] H H'):=by
  cases l with
  |nil=>
   refine bu fun A c=>?_
   refine al Tryz.func75 rfl (by simp[Tryz.f75]) (by kernel_rfl) ⟨.nil,H,.inl ⟨rfl,rfl,rfl⟩⟩ ?_
   intro E hP hr hs hN
   cases A with
   |none=>simp -dsimp -implicitDefEqProofs [-getElem?_pos,go_sem,hP]
   |some a=>
    simp -dsimp -implicitDefEqProofs [-getElem?_pos,go_sem,hP]
    exact ap _ _ _
  |cons a l=>
   refine al Tryz.func75 rfl (by simp[Tryz.f75]) (by kernel_rfl) ⟨_,H++[some ⟨160,3,ac THolding.cells (a::l)⟩],.inr ⟨H.length,rfl,Nat.le_refl _,by simp,az _ (ai _ _)⟩⟩ ?_
   intro E hP hr hs hN
   simp only[List.length_cons]at hl
   have e:ac THolding.cells (a::l)=THolding.cells a::ac THolding.cells l:=rfl
   simp -dsimp -implicitDefEqProofs [-getElem?_pos,go_sem,hP,e]
   refine⟨by omega,by omega,?_⟩
   exact ap _ _ _
 refine (own.ownNil 160 3).mono ?_
 rintro r H' (⟨H0,h0,rfl,rfl⟩|⟨hne,h⟩)
 ·rcases h0 with⟨_,rfl,rfl⟩|⟨id,h,_⟩
  ·exact⟨_,rfl,Nat.le_refl _,by simp[ac],az _ (ai _ _)⟩
  ·cases h
 ·rcases h with⟨h,_⟩|h
  ·exact absurd h hne
  ·exact h
theorem DI {row src:Option Nat} (l:List TMove) (H:ab) (hl:l.length≤1000000):MFun Tryz.prog row src 76 [.list 7 (ac TMove.cells l)] H (fun r H'=>∃id,r= .sref id 0 l.length∧H.length≤id∧H'[id]?=some (some ⟨135,7,ac TMove.cells l⟩)∧Kept [] H H'):=by
 have own:MFun Tryz.prog row src 76 [.list 7 (ac TMove.cells l)] H (fun r H'=>(r= .nil∧l=[]∧H'=H)∨∃id,r= .sref id 0 l.length∧H.length≤id∧H'[id]?=some (some ⟨135,7,ac TMove.cells l⟩)∧Kept [] H H'):=by
  cases l with
  |nil=>
   refine bu fun A c=>?_
   refine al Tryz.func76 rfl (by simp[Tryz.f76]) (by kernel_rfl) ⟨.nil,H,.inl ⟨rfl,rfl,rfl⟩⟩ ?_
   intro E hP hr hs hN
   cases A with
   |none=>simp -dsimp -implicitDefEqProofs [-getElem?_pos,go_sem,hP]
   |some a=>
    simp -dsimp -implicitDefEqProofs [-getElem?_pos,go_sem,hP]
    exact ap _ _ _
  |cons a l=>
   refine al Tryz.func76 rfl (by simp[Tryz.f76]) (by kernel_rfl) ⟨_,H++[some ⟨135,7,ac TMove.cells (a::l)⟩],.inr ⟨H.length,rfl,Nat.le_refl _,by simp,az _ (ai _ _)⟩⟩ ?_
   intro E hP hr hs hN
   simp only[List.length_cons]at hl
   have e:ac TMove.cells (a::l)=TMove.cells a::ac TMove.cells l:=rfl
   simp -dsimp -implicitDefEqProofs [-getElem?_pos,go_sem,hP,e]
   refine⟨by omega,by omega,?_⟩
   exact ap _ _ _
 refine (own.ownNil 135 7).mono ?_
 rintro r H' (⟨H0,h0,rfl,rfl⟩|⟨hne,h⟩)
 ·rcases h0 with⟨_,rfl,rfl⟩|⟨id,h,_⟩
  ·exact⟨_,rfl,Nat.le_refl _,by simp[ac],az _ (ai _ _)⟩
  ·cases h
 ·rcases h with⟨h,_⟩|h
  ·exact absurd h hne
  ·exact h
structure RegC (H:ab) (r:TRegister) (i1 i2 i3:Nat):Prop where
 o1:H[i1]?=some (some ⟨71,7,ac TSecurity.cells r.Securities⟩)
 o2:H[i2]?=some (some ⟨160,3,ac THolding.cells r.Holdings⟩)
 o3:H[i3]?=some (some ⟨135,7,ac TMove.cells r.Moves⟩)
theorem RegC.kept {H H':ab} {r:TRegister} {i1 i2 i3:Nat} (h:RegC H r i1 i2 i3) (k:Kept [] H H'):RegC H' r i1 i2 i3:=⟨k _ _ (by simp) h.o1,k _ _ (by simp) h.o2,k _ _ (by simp) h.o3⟩
def PG (r:TRegister) (i1 i2 i3:Nat):List AV:=[.sref i1 0 r.Securities.length,.sref i2 0 r.Holdings.length,.sref i3 0 r.Moves.length]
theorem RegC.cw {H:ab} {r:TRegister} {i1 i2 i3:Nat} (h:RegC H r i1 i2 i3):CW H (PG r i1 i2 i3) r.cells:=
 cv h.o1 (by rw[af]) (gX _) (cv h.o2 (by rw[af]) (iX _) (cv h.o3 (by rw[af]) (sk _) .nil))
def OJ (H:ab) (r:TRegister) (x:AV) (H':ab):Prop:=∃i1 i2 i3,x= .agg (PG r i1 i2 i3)∧RegC H' r i1 i2 i3∧H.length≤i1∧i1<i2∧i2<i3∧Kept [] H H'
set_option maxHeartbeats 4000000 in
theorem Ge {row src:Option Nat} (r:TRegister) (H:ab) (h1:r.Securities.length≤100000) (h2:r.Holdings.length≤100000) (h3:r.Moves.length≤100000):MFun Tryz.prog row src 32 [.agg r.cells] H (OJ H r):=by
 obtain⟨C,hC⟩:∃C:AV→ab→Prop,C=OJ H r:=⟨_,rfl⟩
 rw[←hC]
 have ex:∃x H',C x H':=by
  rw[hC]
  refine⟨_,H++[some ⟨71,7,ac TSecurity.cells r.Securities⟩,some ⟨160,3,ac THolding.cells r.Holdings⟩,some ⟨135,7,ac TMove.cells r.Moves⟩],H.length,H.length+1,H.length+2,rfl,⟨by simp,?_,?_⟩,by omega,by omega,by omega,ap _ _ _⟩
  all_goals
   rw[List.getElem?_append_right (by omega)]
   simp
 refine al Tryz.func32 rfl (by simp[Tryz.f32]) (by kernel_rfl) (ex) ?_
 intro E hP hr hs hN
 have i1:=gX r.Securities
 have i2:=iX r.Holdings
 have i3:=sk r.Moves
 simp -dsimp -implicitDefEqProofs [-getElem?_pos,go_sem,hP,ga]
 obtain⟨O,hO⟩:∃O:AObj,O=⟨45,3,[[bf r.Securities,cM r.Holdings,cF r.Moves]]⟩:=⟨_,rfl⟩
 obtain⟨Z,hZ⟩:∃Z:AObj,Z=⟨45,3,[[.nil,.nil,.nil]]⟩:=⟨_,rfl⟩
 obtain⟨H0,hH0⟩:∃H0:ab,H0=H++[some O,some Z]:=⟨_,rfl⟩
 obtain⟨p,hp⟩:∃p,p=H.length:=⟨_,rfl⟩
 have a0:H0[p]?=some (some O):=by rw[hH0,hp];simp
 have z0:H0[p+1]?=some (some Z):=by rw[hH0,hp,List.getElem?_append_right (by omega)];simp
 have k0:Kept [] H H0:=by rw[hH0];exact ap _ _ _
 have l0:H0.length=p+2:=by rw[hH0,hp];simp
 rw[←hO,←hZ,←hH0,←hp]
 refine au (fun i=>decide (i=p)) [] hP (by kernel_rfl) (by kernel_rfl) ?_
 simp -dsimp -implicitDefEqProofs [-getElem?_pos,go_sem,hP,ao,a0,hO]
 refine ar (by rw[hr,hs];exact CD r.Securities H0 (by omega)) hP Q4 ?_
 rintro x H1 ⟨id1,rfl,hid1,ho1,hk1⟩
 have a1:=hk1 _ _ (by simp) a0
 have z1:=hk1 _ _ (by simp) z0
 simp -dsimp -implicitDefEqProofs [-getElem?_pos,go_sem,hP]
 refine⟨fZ hk1 a0,?_⟩
 simp -dsimp -implicitDefEqProofs [-getElem?_pos,go_sem,hP,ao,a1,hO]
 refine ar (by rw[hr,hs];exact BE r.Holdings H1 (by omega)) hP SU ?_
 rintro x H2 ⟨id2,rfl,hid2,ho2,hk2⟩
 have a2:=hk2 _ _ (by simp) a1
 have z2:=hk2 _ _ (by simp) z1
 simp -dsimp -implicitDefEqProofs [-getElem?_pos,go_sem,hP]
 refine⟨fZ hk2 a1,?_⟩
 simp -dsimp -implicitDefEqProofs [-getElem?_pos,go_sem,hP,ao,a2,hO]
 refine ar (by rw[hr,hs];exact DI r.Moves H2 (by omega)) hP S5 ?_
 rintro x H3 ⟨id3,rfl,hid3,ho3,hk3⟩
 have a3:=hk3 _ _ (by simp) a2
 have z3:=hk3 _ _ (by simp) z2
 have lz3:=(gsI z3)
 have lz1:=(gsI z1)
 have lz2:=(gsI z2)
 have np:¬p=p+1:=by omega
 simp -dsimp -implicitDefEqProofs [-getElem?_pos,go_sem,hP]
 refine⟨fZ hk3 a2,?_⟩
 simp -dsimp -implicitDefEqProofs [-getElem?_pos,go_sem,hP,ao,z3,lz3,hZ]
 refine⟨nG np,?_⟩
 rw[hC]
 have n1:¬p+1=id1:=by omega
 have n2:¬p+1=id2:=by omega
 have n3:¬p+1=id3:=by omega
 have m1:=(gsI ho1)
 have m2:=(gsI ho2)
 refine⟨id1,id2,id3,rfl,⟨?_,?_,?_⟩,by omega,by omega,by omega,?_⟩
 ·rw[List.getElem?_set_ne n1];exact hk3 _ _ (by simp) (hk2 _ _ (by simp) ho1)
 ·rw[List.getElem?_set_ne n2];exact hk3 _ _ (by simp) ho2
 ·rw[List.getElem?_set_ne n3];exact ho3
 ·exact cG _ (by omega) (((k0.trans hk1).trans hk2).trans hk3)
open Go.PA
open Go.RowKit
theorem ME {H:ab}:CW H [.nil,.nil,.nil] (⟨[],[],[]⟩:TRegister).cells:=bK (bK (bK .nil))
def qE (r:TRegister) (d:Int) (m:TMove) (x:AV):Prop:=∃r',x= .tup [.agg r'.cells,iv (bJ r.Securities r.Holdings d m)]∧(bJ r.Securities r.Holdings d m=0→r'=jt r m)
theorem qu (r:TRegister) (d:Int) (m:TMove):∃x,qE r d m x∧Imm x:=by
 by_cases h:bJ r.Securities r.Holdings d m=0
 ·exact⟨_,⟨_,rfl,fun _=>rfl⟩,aE (fW _) .sc⟩
 ·exact⟨_,⟨⟨[],[],[]⟩,rfl,fun e=>absurd e h⟩,aE (fW _) .sc⟩
set_option maxHeartbeats 4000000 in
theorem C0 (r:TRegister) (d:Int) (m:TMove) (k0:Int) (ok:RegOk r d) (hl:r.Moves.length<400) (hmn:m.Number=(r.Moves.length:Int)+1):PFun Tryz.prog none none 117 [.agg r.cells,.agg [iv k0,iv m.Day,iv m.Kind,iv m.Security,iv m.From,iv m.To,iv m.Amount]] (qE r d m):=by
 obtain⟨Q,hQ⟩:∃Q,Q=qE r d m:=⟨_,rfl⟩
 rw[←hQ]
 have ir:=fW r
 have ck:=HA r d ok
 have h4:=ok.hl
 have hin:=ok.regIn
 have g4:=h4.len
 have g2:=hin.sl
 rw[ga]at ir ck
 have dl:decide ((r.Moves.length:Int)=400)=false:=decide_eq_false (by omega)
 have w1:=ah ((r.Moves.length:Int)+1) (by omega)
 refine ae Tryz.func117 rfl (by simp[Tryz.f117]) (by kernel_rfl) ?_
 intro E hP hr hs hW hN
 simp -dsimp -implicitDefEqProofs [-getElem?_pos,go_sem,hP,ga]
 refine ak (ck.lift _ _) hP R6 (by simpa using ir) .sc ?_
 have rm:=fun (H:ab)=>zf (row:=none) (src:=none) r 70 [] ⟨r.Holdings,r.Moves.length,d⟩ H ok.run hin.ml (by omega) hin.so Pc fun m hm H' hk=>(qh ((F9 m).lift _ _) (an (by simp[Bb])) ⟨_,rfl⟩ (by rintro _ rfl;simp[kU])).mono (by rintro x H'' ⟨rfl,rfl⟩;exact⟨rfl,ai _ _⟩)
 rw[ga]at rm
 simp -dsimp -implicitDefEqProofs [-getElem?_pos,go_sem,hP,af,dl]
 refine ar (by rw[hr,hs];exact rm _) hP OH ?_
 rintro x H1 ⟨c,hid,rfl,hc,hcl,hhn,kp⟩
 simp only[List.length_cons,List.length_nil]at hcl
 have a0:=kp 0 _ (by simp) (by rfl)
 have a1:=kp 1 _ (by simp) (by rfl)
 have a2:=kp 2 _ (by simp) (by rfl)
 have n0:=hhn 0 _ (by rfl)
 have n1:=hhn 1 _ (by rfl)
 have n2:=hhn 2 _ (by rfl)
 have oc:=hc.oc
 have lc:=(gsI oc)
 have l1:=(gsI a1)
 dsimp only at oc
 simp -dsimp -implicitDefEqProofs [-getElem?_pos,go_sem,hP,oc,lc,a1,l1,w1]
 obtain⟨H2,hH2⟩:∃H2,H2=H1.set 1 (some ⟨135,7,[[iv ((r.Moves.length:Int)+1),iv m.Day,iv m.Kind,iv m.Security,iv m.From,iv m.To,iv m.Amount]]⟩):=⟨_,rfl⟩
 have nc:¬1=c:=by omega
 have cc:Clk H2 c hid (bf r.Securities) r.Holdings r.Moves.length d:=by
  refine⟨?_,?_,hc.ne⟩
  ·rw[hH2,List.getElem?_set_ne nc];exact oc
  ·rw[hH2,List.getElem?_set_ne n1];exact hc.oh
 have b0:H2[0]?=some (some ⟨45,3,[[bf r.Securities,cM r.Holdings,cF r.Moves]]⟩):=by rw[hH2,List.getElem?_set_ne (by omega)];exact a0
 have b1:H2[1]?=some (some ⟨135,7,[m.cells]⟩):=by rw[hH2,w8,hmn];simp[l1]
 have b2:H2[2]?=some (some ⟨45,3,[[.nil,.nil,.nil]]⟩):=by rw[hH2,List.getElem?_set_ne (by omega)];exact a2
 rw[←hH2,←hmn,←w8 m]
 have dm:=RL (row:=none) (src:=none) c hid r.Securities r.Holdings r.Moves.length d m (2*r.Moves.length) H2 cc (by omega) (by omega) hin.so h4 (by omega)
 clear oc a0 a1 a2 hc kp hhn hH2
 refine ar (by rw[hr,hs];exact dm) hP M2 ?_
 rintro x H3 ⟨rfl,hbad,hgood⟩
 by_cases e0:bJ r.Securities r.Holdings d m=0
 rotate_left
 ·have kp:=hbad e0
  have c2:=kp _ _ (by simp) b2
  have l2:=(gsI c2)
  simp -dsimp -implicitDefEqProofs [-getElem?_pos,go_sem,hP,e0,c2,l2]
  refine cZ (cs':=(⟨[],[],[]⟩:TRegister).cells) ME ?_
  rw[hQ]
  exact⟨_,rfl,fun e=>absurd e e0⟩
 obtain⟨hid',hc,hp,kp⟩:=hgood e0
 have m0:(0:Nat)∉[c,hid]:=by simp;omega
 have m1:(1:Nat)∉[c,hid]:=by simp;omega
 have m2:(2:Nat)∉[c,hid]:=by simp;omega
 have c0:=kp _ _ m0 b0
 have c1:=kp _ _ m1 b1
 have c2:=kp _ _ m2 b2
 have p0:=hp 0 _ n0 b0
 have p1:=hp 1 _ n1 b1
 have p2:=hp 2 _ n2 b2
 have gc:=Ge (row:=none) (src:=none) r H3 (by omega) (by omega) (by omega)
 rw[ga]at gc
 have l0:=(gsI c0)
 simp -dsimp -implicitDefEqProofs [-getElem?_pos,go_sem,hP,e0,c0,l0]
 refine ar (by rw[hr,hs];exact gc) hP OD ?_
 rintro x H4 ⟨i1,i2,i3,rfl,hrc,q1,q2,q3,kp4⟩
 have d0:=kp4 _ _ (by simp) c0
 have d1:=kp4 _ _ (by simp) c1
 have d2:=kp4 _ _ (by simp) c2
 have l04:=(gsI d0)
 have hc4:=hc.kept kp4
 have oc4:=hc4.oc
 have lc4:=(gsI oc4)
 have lc3:=(List.getElem?_eq_some_iff.1 hc.oc).1
 have lh3:=(List.getElem?_eq_some_iff.1 hc.oh).1
 simp -dsimp -implicitDefEqProofs [-getElem?_pos,go_sem,hP,PG,d0,l04]
 obtain⟨H5,hH5⟩:∃H5,H5=H4.set 0 (some ⟨45,3,[[.sref i1 0 r.Securities.length,.sref i2 0 r.Holdings.length,.sref i3 0 r.Moves.length]]⟩):=⟨_,rfl⟩
 rw[←hH5]
 have nx:∀z:Nat,0<z→H5[z]?=H4[z]?:=fun z hz=>by rw[hH5,List.getElem?_set_ne (by omega)]
 have f0:H5[0]?=some (some ⟨45,3,[[.sref i1 0 r.Securities.length,.sref i2 0 r.Holdings.length,.sref i3 0 r.Moves.length]]⟩):=by rw[hH5];simp[l04]
 have f1:H5[1]?=some (some ⟨135,7,[m.cells]⟩):=by rw[nx 1 (by omega)];exact d1
 have f2:H5[2]?=some (some ⟨45,3,[[.nil,.nil,.nil]]⟩):=by rw[nx 2 (by omega)];exact d2
 have fc:H5[c]?=some (some ⟨162,4,[[bf r.Securities,.sref hid' 0 (goH r.Holdings m).length,iv ((r.Moves.length:Int)+1),iv m.Day]]⟩):=by rw[nx c (by omega)];exact oc4
 have fh:H5[hid']?=some (some ⟨160,3,ac THolding.cells (goH r.Holdings m)⟩):=by rw[nx hid' (by omega)];exact hc4.oh
 have g1:H5[i1]?=some (some ⟨71,7,ac TSecurity.cells r.Securities⟩):=by rw[nx i1 (by omega)];exact hrc.o1
 have g3:H5[i3]?=some (some ⟨135,7,ac TMove.cells r.Moves⟩):=by rw[nx i3 (by omega)];exact hrc.o3
 have v0:=(gsI f0)
 have v1:=(gsI f1)
 have v2:=(gsI f2)
 have vc:=(gsI fc)
 have v3:=(gsI g3)
 have vh:=(gsI fh)
 have vi:=(gsI g1)
 clear hrc hc4 oc4 d0 d1 d2 hH5 nx
 refine au (fun i=>decide (i<2)||decide (i=c)) [10,12] hP (by kernel_rfl) (by kernel_rfl) ?_
 simp -dsimp -implicitDefEqProofs [-getElem?_pos,go_sem,hP,ao,f0,f1,fc,g3,v0,v1,vc,v3,w8,af]
 refine⟨by omega,by omega,?_,?_⟩
 ·intro i hi
  simp only[Bool.or_eq_true,decide_eq_true_eq]at hi
  rw[List.getElem?_append_left (by simp;omega),List.getElem?_set_ne (by omega)]
 obtain⟨N,hN6⟩:∃N,N=H5.length:=⟨_,rfl⟩
 obtain⟨H6,hH6⟩:∃H6,H6=H5.set i3 none++[some ⟨135,7,ac TMove.cells r.Moves++[[iv m.Number,iv m.Day,iv m.Kind,iv m.Security,iv m.From,iv m.To,iv m.Amount]]⟩]:=⟨_,rfl⟩
 dsimp only
 rw[←hH6,←hN6]
 have hx:∀z:Nat,z<H5.length→z≠i3→H6[z]?=H5[z]?:=fun z h1 h2=>by rw[hH6,List.getElem?_append_left (by simpa using h1),List.getElem?_set_ne (fun e=>h2 e.symm)]
 have k0:=(hx 0 (by omega) (by omega)).trans f0
 have k2:=(hx 2 (by omega) (by omega)).trans f2
 have kh:=(hx hid' (by omega) (by omega)).trans fh
 have k1:=(hx i1 (by omega) (by omega)).trans g1
 have kn:H6[N]?=some (some ⟨135,7,ac TMove.cells (r.Moves++[m])⟩):=by
  rw[hH6,hN6,List.getElem?_append_right (by simp)]
  simp[ac,w8]
 have w0:=(gsI k0)
 have w2:=(gsI k2)
 have s0:(H5.set i3 none)[0]?=some (some ⟨45,3,[[.sref i1 0 r.Securities.length,.sref i2 0 r.Holdings.length,.sref i3 0 r.Moves.length]]⟩):=by rw[List.getElem?_set_ne (by omega)];exact f0
 clear f0 f1 f2 fc fh g1 g3 hx hH6
 have n02:¬(0:Nat)=2:=by omega
 simp -dsimp -implicitDefEqProofs [-getElem?_pos,go_sem,hP,ao,s0,k0,w0,k2,w2]
 rw[hQ]
 refine cZ (cs':=(jt r m).cells) ?_ ⟨_,by rw[e0],fun _=>rfl⟩
 have hy:∀(z:Nat) (x y:Option AObj) (w:Option (Option AObj)),z≠0→z≠2→H6[z]?=w→((H6.set 0 x).set 2 y)[z]?=w:=fun z x y w h0 h2 h=>by rw[List.getElem?_set_ne (fun e=>h2 e.symm),List.getElem?_set_ne (fun e=>h0 e.symm)];exact h
 refine cv (hy i1 _ _ _ (by omega) (by omega) k1) (by rw[af];rfl) (gX _) (cv (hy hid' _ _ _ (by omega) (by omega) kh) (by rw[af];rfl) (iX _) (cv (hy N _ _ _ (by omega) (by omega) kn) (by rw[af];simp[jt]) (sk _) .nil))
theorem LH (a b c d e f g:Int):Imm (.agg [iv a,iv b,iv c,iv d,iv e,iv f,iv g]):=Bb ⟨a,b,c,d,e,f,g⟩
theorem Ip (r:TRegister) (d:Int) (m:TMove) (ok:RegOk r d) (hl:r.Moves.length<400) (hmn:m.Number=(r.Moves.length:Int)+1) (h:m.Kind=1∧m.From=0):PFun Tryz.prog none none 62 [.agg r.cells,iv m.Day,iv m.Security,iv m.To,iv m.Amount] (qE r d m):=by
 obtain⟨Q,hQ⟩:∃Q,Q=qE r d m:=⟨_,rfl⟩
 rw[←hQ]
 have ir:=fW r
 have gm:=C0 r d m 0 ok hl hmn
 have im:=LH 0 m.Day m.Kind m.Security m.From m.To m.Amount
 rw[h.1,h.2]at gm im
 rw[ga]at ir gm
 refine ae Tryz.func62 rfl (by simp[Tryz.f62]) (by kernel_rfl) ?_
 intro E hP hr hs hW hN
 simp -dsimp -implicitDefEqProofs [-getElem?_pos,go_sem,hP,ga]
 refine aX (gm.lift _ _) hP K2 (by simpa using⟨ir,im⟩) (qu r d m) ?_
 rintro x ⟨r',rfl,hx⟩ _
 have ir':=fW r'
 rw[ga]at ir'
 simp -dsimp -implicitDefEqProofs [-getElem?_pos,go_sem,hP,ga]
 exact aN (aE ir' .sc) (by rw[hQ,←ga];exact⟨r',rfl,hx⟩)
theorem D5 (r:TRegister) (d:Int) (m:TMove) (ok:RegOk r d) (hl:r.Moves.length<400) (hmn:m.Number=(r.Moves.length:Int)+1) (h:m.Kind=3∧m.To=0):PFun Tryz.prog none none 64 [.agg r.cells,iv m.Day,iv m.Security,iv m.From,iv m.Amount] (qE r d m):=by
 obtain⟨Q,hQ⟩:∃Q,Q=qE r d m:=⟨_,rfl⟩
 rw[←hQ]
 have ir:=fW r
 have gm:=C0 r d m 0 ok hl hmn
 have im:=LH 0 m.Day m.Kind m.Security m.From m.To m.Amount
 rw[h.1,h.2]at gm im
 rw[ga]at ir gm
 refine ae Tryz.func64 rfl (by simp[Tryz.f64]) (by kernel_rfl) ?_
 intro E hP hr hs hW hN
 simp -dsimp -implicitDefEqProofs [-getElem?_pos,go_sem,hP,ga]
 refine aX (gm.lift _ _) hP K2 (by simpa using⟨ir,im⟩) (qu r d m) ?_
 rintro x ⟨r',rfl,hx⟩ _
 have ir':=fW r'
 rw[ga]at ir'
 simp -dsimp -implicitDefEqProofs [-getElem?_pos,go_sem,hP,ga]
 exact aN (aE ir' .sc) (by rw[hQ,←ga];exact⟨r',rfl,hx⟩)
open Go.PA
abbrev dy (l:List TPosting):AV:= .list 8 (ac TPosting.cells l)
theorem cP (p:TPosting):p.cells=[iv p.Number,iv p.Day,iv p.Entity,iv p.Debit,iv p.Credit,iv p.Amount,iv p.Partner,iv p.Ref]:=rfl
theorem eE (l:List TPosting):Imm (dy l):=aC _ TPosting.imm _
def fb (n lo hi:Int):Bool:=decide (lo≤n)&&decide (n≤hi)
theorem pX {n lo hi:Int}:fb n lo hi=true↔lo≤n∧n≤hi:=by simp[fb]
def rX (a:Int):Int:=if 100≤a∧a≤599 then a / 100 else 0
theorem F0 (a:Int):0<rX a↔100≤a∧a≤599:=by
 unfold rX
 split<;>omega
def ky (p:TPosting):Bool:=
 fb p.Number 1 1000000&&fb p.Day 0 36000&&fb p.Entity 1 10&&fb p.Debit 100 599&&fb p.Credit 100 599&&!decide (p.Debit=p.Credit)&&fb p.Amount 1 1000000000000&&fb p.Partner 0 10&&!decide (p.Partner=p.Entity)&&fb p.Ref 0 1000000
structure PostOk (p:TPosting):Prop where
 num:1≤p.Number∧p.Number≤1000000
 day:0≤p.Day∧p.Day≤36000
 ent:1≤p.Entity∧p.Entity≤10
 deb:100≤p.Debit∧p.Debit≤599
 cre:100≤p.Credit∧p.Credit≤599
 ne:p.Debit≠p.Credit
 amt:1≤p.Amount∧p.Amount≤1000000000000
 par:0≤p.Partner∧p.Partner≤10
 pne:p.Partner≠p.Entity
 ref:0≤p.Ref∧p.Ref≤1000000
theorem ku (p:TPosting):ky p=true↔PostOk p:=by
 simp only[ky,Bool.and_eq_true,pX,Bool.not_eq_true',decide_eq_false_iff_not]
 constructor
 ·rintro⟨⟨⟨⟨⟨⟨⟨⟨⟨h1,h2⟩,h3⟩,h4⟩,h5⟩,h6⟩,h7⟩,h8⟩,h9⟩,h10⟩
  exact⟨h1,h2,h3,h4,h5,h6,h7,h8,h9,h10⟩
 ·rintro⟨h1,h2,h3,h4,h5,h6,h7,h8,h9,h10⟩
  exact⟨⟨⟨⟨⟨⟨⟨⟨⟨h1,h2⟩,h3⟩,h4⟩,h5⟩,h6⟩,h7⟩,h8⟩,h9⟩,h10⟩
open Go.PA
open Go.RowKit
theorem gr (n lo hi:Int):PFun Tryz.prog none none 166 [iv n,iv lo,iv hi] (·=bv (fb n lo hi)):=by
 refine ae Tryz.func166 rfl (by simp[Tryz.f166]) (by kernel_rfl) ?_
 intro E hP hr hs hW hN
 by_cases h1:lo≤n<;>by_cases h2:n≤hi<;>simp -dsimp -implicitDefEqProofs [-getElem?_pos,go_sem,hP,h1,h2,fb]
theorem G8 (n:Int):PFun Tryz.prog none none 167 [iv n] (·=bv (fb n 1 10)):=by
 refine ae Tryz.func167 rfl (by simp[Tryz.f167]) (by kernel_rfl) ?_
 intro E hP hr hs hW hN
 simp -dsimp -implicitDefEqProofs [-getElem?_pos,go_sem,hP]
 refine aj (gr n 1 10) hP pg (an (by simp -dsimp[-getElem?_pos,go_sem])) .sc ?_
 simp -dsimp -implicitDefEqProofs [-getElem?_pos,go_sem,hP]
theorem OA {a:Int} (h:100≤a∧a≤599):IntKind.i64.wrap (a.tdiv 100)=a / 100:=by
 rw[Int.tdiv_eq_ediv_of_nonneg (by omega)]
 exact ah _ (by omega)
theorem CB (n:Int):PFun Tryz.prog none none 168 [iv n] (·=iv (rX n)):=by
 refine ae Tryz.func168 rfl (by simp[Tryz.f168]) (by kernel_rfl) ?_
 intro E hP hr hs hW hN
 simp -dsimp -implicitDefEqProofs [-getElem?_pos,go_sem,hP]
 refine aj (gr n 100 599) hP pg (an (by simp -dsimp[-getElem?_pos,go_sem])) .sc ?_
 by_cases h:100≤n∧n≤599
 ·have h1:fb n 100 599=true:=pX.2 h
  have h2:rX n=n / 100:=if_pos h
  simp -dsimp -implicitDefEqProofs [-getElem?_pos,go_sem,hP,h1,OA h,h2]
 ·have h1:fb n 100 599=false:=by
   rw[Bool.eq_false_iff]
   exact fun e=>h (pX.1 e)
  have h2:rX n=0:=if_neg h
  simp -dsimp -implicitDefEqProofs [-getElem?_pos,go_sem,hP,h1,h2]
theorem vM (n:Int):decide (0<rX n)=fb n 100 599:=by
 rw[Bool.eq_iff_iff,decide_eq_true_eq,pX,F0]
set_option maxHeartbeats 2000000 in
theorem xh (p:TPosting):PFun Tryz.prog none none 121 [.agg p.cells] (·=bv (ky p)):=by
 refine ae Tryz.func121 rfl (by simp[Tryz.f121]) (by kernel_rfl) ?_
 intro E hP hr hs hW hN
 have i1:=gr p.Number 1 1000000
 have i2:=gr p.Day 0 36000
 have i3:=G8 p.Entity
 have i4:=vM p.Debit
 have i5:=vM p.Credit
 have i7:=gr p.Amount 1 1000000000000
 have i8:=gr p.Partner 0 10
 have i10:=gr p.Ref 0 1000000
 have pb:ky p=(fb p.Number 1 1000000&&fb p.Day 0 36000&&fb p.Entity 1 10&&fb p.Debit 100 599&&fb p.Credit 100 599&&!decide (p.Debit=p.Credit)&&fb p.Amount 1 1000000000000&&fb p.Partner 0 10&&!decide (p.Partner=p.Entity)&&fb p.Ref 0 1000000):=rfl
 generalize fb p.Number 1 1000000=b1 at i1 pb
 generalize fb p.Day 0 36000=b2 at i2 pb
 generalize fb p.Entity 1 10=b3 at i3 pb
 generalize fb p.Debit 100 599=b4 at i4 pb
 generalize fb p.Credit 100 599=b5 at i5 pb
 generalize fb p.Amount 1 1000000000000=b7 at i7 pb
 generalize fb p.Partner 0 10=b8 at i8 pb
 generalize fb p.Ref 0 1000000=b10 at i10 pb
 rw[pb]
 simp -dsimp -implicitDefEqProofs [-getElem?_pos,go_sem,hP,cP]
 refine aj i1 hP pg (an (by simp -dsimp[-getElem?_pos,go_sem])) .sc ?_
 cases b1
 ·simp -dsimp -implicitDefEqProofs [-getElem?_pos,go_sem,hP,Bool.false_and]
 simp -dsimp -implicitDefEqProofs [-getElem?_pos,go_sem,hP]
 refine aj i2 hP pg (an (by simp -dsimp[-getElem?_pos,go_sem])) .sc ?_
 cases b2
 ·simp -dsimp -implicitDefEqProofs [-getElem?_pos,go_sem,hP,Bool.false_and,Bool.true_and]
 simp -dsimp -implicitDefEqProofs [-getElem?_pos,go_sem,hP]
 refine aj i3 hP P4 (an (by simp -dsimp[-getElem?_pos,go_sem])) .sc ?_
 cases b3
 ·simp -dsimp -implicitDefEqProofs [-getElem?_pos,go_sem,hP,Bool.false_and,Bool.true_and]
 simp -dsimp -implicitDefEqProofs [-getElem?_pos,go_sem,hP]
 refine aj (CB p.Debit) hP KU (an (by simp -dsimp[-getElem?_pos,go_sem])) .sc ?_
 cases b4
 ·simp -dsimp -implicitDefEqProofs [-getElem?_pos,go_sem,hP,i4,Bool.false_and,Bool.true_and]
 simp -dsimp -implicitDefEqProofs [-getElem?_pos,go_sem,hP,i4]
 refine aj (CB p.Credit) hP KU (an (by simp -dsimp[-getElem?_pos,go_sem])) .sc ?_
 cases b5
 ·simp -dsimp -implicitDefEqProofs [-getElem?_pos,go_sem,hP,i5,Bool.false_and,Bool.true_and]
 by_cases h6:p.Debit=p.Credit
 ·simp -dsimp -implicitDefEqProofs [-getElem?_pos,go_sem,hP,i5,h6,decide_true,Bool.not_true,Bool.and_false,Bool.false_and,Bool.true_and]
 have d6:decide (p.Debit=p.Credit)=false:=decide_eq_false h6
 simp -dsimp -implicitDefEqProofs [-getElem?_pos,go_sem,hP,i5,d6]
 refine aj i7 hP pg (an (by simp -dsimp[-getElem?_pos,go_sem])) .sc ?_
 cases b7
 ·simp -dsimp -implicitDefEqProofs [-getElem?_pos,go_sem,hP,Bool.false_and,Bool.true_and,Bool.and_false]
 simp -dsimp -implicitDefEqProofs [-getElem?_pos,go_sem,hP]
 refine aj i8 hP pg (an (by simp -dsimp[-getElem?_pos,go_sem])) .sc ?_
 cases b8
 ·simp -dsimp -implicitDefEqProofs [-getElem?_pos,go_sem,hP,Bool.false_and,Bool.true_and,Bool.and_false]
 by_cases h9:p.Partner=p.Entity
 ·simp -dsimp -implicitDefEqProofs [-getElem?_pos,go_sem,hP,h9,decide_true,Bool.not_true,Bool.and_false,Bool.false_and,Bool.true_and]
 have d9:decide (p.Partner=p.Entity)=false:=decide_eq_false h9
 simp -dsimp -implicitDefEqProofs [-getElem?_pos,go_sem,hP,d9]
 refine aj i10 hP pg (an (by simp -dsimp[-getElem?_pos,go_sem])) .sc ?_
 simp -dsimp -implicitDefEqProofs [-getElem?_pos,go_sem,hP,d6,d9,Bool.not_false,Bool.true_and]
theorem NV (p:TPosting):PFun Tryz.prog none none 165 [.agg p.cells] (·=bv (!ky p)):=by
 refine ae Tryz.func165 rfl (by simp[Tryz.f165]) (by kernel_rfl) ?_
 intro E hP hr hs hW hN
 have hi:=xh p
 rw[cP]at hi
 simp -dsimp -implicitDefEqProofs [-getElem?_pos,go_sem,hP,cP]
 refine aj hi hP Kl (an (by simp -dsimp[-getElem?_pos,go_sem])) .sc ?_
 simp -dsimp -implicitDefEqProofs [-getElem?_pos,go_sem,hP]
theorem qW (l:List TPosting) (g:FuncId) (caps:List AV) (p:TPosting→Bool) (hl:l.length≤1000000) (hen:aa Tryz.prog g=true) (hcap:∀a,a∈caps→Imm a)
  (hg:∀a,a∈l→PFun Tryz.prog none none g (.agg (TPosting.cells a)::caps) (·=bv (p a))):
  PFun Tryz.prog none none 210 [.list 8 (ac TPosting.cells l),.fn g caps] (·=iv (dC p l)):=by
 refine ae Tryz.func210 rfl (by simp[Tryz.f210]) (by kernel_rfl) ?_
 intro E hP hr hs hW hN
 simp -dsimp -implicitDefEqProofs [-getElem?_pos,go_sem,hP]
 obtain⟨I,hI⟩:∃I:Nat→St→Prop,I=fun m s=>∃k:Nat,k≤l.length∧m=l.length-k∧dC p l=br p k (l.drop k)∧s.t 0= .list 8 (ac TPosting.cells l)∧s.t 1= .fn g caps∧s.t 7=iv l.length∧s.t 8=iv k:=⟨_,rfl⟩
 refine aF I (l.length) (by rw[hN];rfl) ?_ ?_
 ·rw[hI]
  exact⟨0,by omega,by omega,by simp[dC],by simp -dsimp[-getElem?_pos,go_sem],by simp -dsimp[-getElem?_pos,go_sem],by simp -dsimp[-getElem?_pos,go_sem],by simp -dsimp[-getElem?_pos,go_sem]⟩
 intro m s hs'
 rw[hI]at hs'
 obtain⟨k,hk,hm,hi,t0,t1,t7,t8⟩:=hs'
 simp -dsimp -implicitDefEqProofs [-getElem?_pos,go_sem,hP,t7,t8]
 refine aH (fun h=>?_) (fun h=>?_)
 ·have hk:k<l.length:=by simpa using h
  obtain⟨a,ha⟩:∃a,l[k]?=some a:=⟨_,List.getElem?_eq_getElem hk⟩
  have wk:=ah ((k:Int)+1) (by omega)
  have hz:(TPosting.cells a).take 8=TPosting.cells a:=List.take_of_length_le (by rw[TPosting.len];omega)
  have hd:l.drop k=a::l.drop (k+1):=by
   rw[List.getElem?_eq_getElem hk]at ha
   rw[List.drop_eq_getElem_cons hk,Option.some.inj ha]
  simp -dsimp -implicitDefEqProofs [-getElem?_pos,go_sem,hP,t8,t1,t0,ha,TPosting.len,hz]
  refine ak ((hg a (List.mem_of_getElem? ha)).lift _ _) hP hen (fun x hx=>?_) .sc ?_
  ·rcases List.mem_cons.1 hx with rfl|hx
   ·exact aO.2 (TPosting.imm a)
   ·exact hcap x hx
  rw[hd]at hi
  simp only[br]at hi
  simp -dsimp -implicitDefEqProofs [-getElem?_pos,go_sem,hP]
  refine aH (fun hp=>?_) (fun hp=>?_)
  ·rw[if_pos hp]at hi
   simp -dsimp -implicitDefEqProofs [-getElem?_pos,go_sem,hP]
   exact hi.symm
  ·rw[hp,if_neg (by simp)]at hi
   simp -dsimp -implicitDefEqProofs [-getElem?_pos,go_sem,hP,t8,wk]
   refine⟨l.length-(k+1),by omega,?_⟩
   rw[hI]
   exact⟨k+1,by omega,rfl,hi,by simp -dsimp[-getElem?_pos,go_sem,t0],by simp -dsimp[-getElem?_pos,go_sem,t1],by simp -dsimp[-getElem?_pos,go_sem,t7],by simp -dsimp[-getElem?_pos,go_sem]⟩
 ·have hk:k=l.length:=by simp at h;omega
  subst hk
  rw[List.drop_length]at hi
  simp -dsimp -implicitDefEqProofs [-getElem?_pos,go_sem,hP]
  exact hi.symm
theorem oo (l:List TPosting) (g:FuncId) (caps:List AV) (p:TPosting→Bool) (hl:l.length≤1000000) (hen:aa Tryz.prog g=true) (hcap:∀a,a∈caps→Imm a)
  (hg:∀a,a∈l→PFun Tryz.prog none none g (.agg (TPosting.cells a)::caps) (·=bv (p a))):
  PFun Tryz.prog none none 164 [.list 8 (ac TPosting.cells l),.fn g caps] (·=bv (l.any p)):=by
 refine ae Tryz.func164 rfl (by simp[Tryz.f164]) (by kernel_rfl) ?_
 intro E hP hr hs hW hN
 obtain⟨w,hw⟩:∃w,w=l.any p:=⟨_,rfl⟩
 rw[←hw]
 have hi:∀a,a∈[AV.list 8 (ac TPosting.cells l),.fn g caps]→Imm a:=fun a ha=>by
  simp only[List.mem_cons,List.not_mem_nil,or_false]at ha
  rcases ha with rfl|rfl
  ·exact aC _ TPosting.imm _
  ·exact lr.2 hcap
 simp -dsimp -implicitDefEqProofs [-getElem?_pos,go_sem,hP]
 refine ak ((qW l g caps p hl hen hcap hg).lift _ _) hP QE hi .sc ?_
 rcases cN p l with⟨h1,h2⟩|⟨i,a,h1,h2,h3,_⟩
 ·have:w=false:=by rw[hw];exact List.any_eq_false.2 fun a ha=>by simp[h2 a ha]
  simp -dsimp -implicitDefEqProofs [-getElem?_pos,go_sem,hP,h1,this]
 ·have d:decide ((0:Int)≤(i:Int))=true:=decide_eq_true (by omega)
  have:w=true:=by rw[hw];exact List.any_eq_true.2 ⟨a,List.mem_of_getElem? h1,h2⟩
  simp -dsimp -implicitDefEqProofs [-getElem?_pos,go_sem,hP,h3,d,this]
theorem tW {row src:Option Nat} (l:List TPosting) (H:ab) (hl:l.length≤1000000):MFun Tryz.prog row src 45 [.list 8 (ac TPosting.cells l)] H (fun r H'=>∃id,r= .sref id 0 l.length∧H.length≤id∧H'[id]?=some (some ⟨127,8,ac TPosting.cells l⟩)∧Kept [] H H'):=by
 have own:MFun Tryz.prog row src 45 [.list 8 (ac TPosting.cells l)] H (fun r H'=>(r= .nil∧l=[]∧H'=H)∨∃id,r= .sref id 0 l.length∧H.length≤id∧H'[id]?=some (some ⟨127,8,ac TPosting.cells l⟩)∧Kept [] H H'):=by
  cases l with
  |nil=>
   refine bu fun A c=>?_
   refine al Tryz.func45 rfl (by simp[Tryz.f45]) (by kernel_rfl) ⟨.nil,H,.inl ⟨rfl,rfl,rfl⟩⟩ ?_
   intro E hP hr hs hN
   cases A with
   |none=>simp -dsimp -implicitDefEqProofs [-getElem?_pos,go_sem,hP]
   |some a=>
    simp -dsimp -implicitDefEqProofs [-getElem?_pos,go_sem,hP]
    exact ap _ _ _
  |cons a l=>
   refine al Tryz.func45 rfl (by simp[Tryz.f45]) (by kernel_rfl) ⟨_,H++[some ⟨127,8,ac TPosting.cells (a::l)⟩],.inr ⟨H.length,rfl,Nat.le_refl _,by simp,az _ (ai _ _)⟩⟩ ?_
   intro E hP hr hs hN
   simp only[List.length_cons]at hl
   have e:ac TPosting.cells (a::l)=TPosting.cells a::ac TPosting.cells l:=rfl
   simp -dsimp -implicitDefEqProofs [-getElem?_pos,go_sem,hP,e]
   refine⟨by omega,by omega,?_⟩
   exact ap _ _ _
 refine (own.ownNil 127 8).mono ?_
 rintro r H' (⟨H0,h0,rfl,rfl⟩|⟨hne,h⟩)
 ·rcases h0 with⟨_,rfl,rfl⟩|⟨id,h,_⟩
  ·exact⟨_,rfl,Nat.le_refl _,by simp[ac],az _ (ai _ _)⟩
  ·cases h
 ·rcases h with⟨h,_⟩|h
  ·exact absurd h hne
  ·exact h
theorem r7 (l:List TPosting) (hl:l.length≤1000000):PFun Tryz.prog none none 45 [.list 8 (ac TPosting.cells l)] (·= .list 8 (ac TPosting.cells l)):=by
 cases l with
 |nil=>
  refine bw fun A c=>?_
  refine ae Tryz.func45 rfl (by simp[Tryz.f45]) (by kernel_rfl) ?_
  intro E hP hr hs hW hN
  cases A with
  |none=>
   simp -dsimp -implicitDefEqProofs [-getElem?_pos,go_sem,hP]
   exact aB .nil (aG.2 (by simp)) (.nil _) rfl
  |some a=>
   simp -dsimp -implicitDefEqProofs [-getElem?_pos,go_sem,hP]
   refine aB (x:= .list 8 []) ?_ (aG.2 (by simp)) ?_ rfl
   ·simp -dsimp -implicitDefEqProofs [-getElem?_pos,go_sem]
   ·simp -dsimp -implicitDefEqProofs [-getElem?_pos,go_sem]
    first|exact .refl _|skip
 |cons a l=>
  refine ae Tryz.func45 rfl (by simp[Tryz.f45]) (by kernel_rfl) ?_
  intro E hP hr hs hW hN
  simp only[List.length_cons]at hl
  have e:ac TPosting.cells (a::l)=TPosting.cells a::ac TPosting.cells l:=rfl
  have im:Imm (.list 8 (TPosting.cells a::ac TPosting.cells l)):=by rw[←e];exact aC _ TPosting.imm _
  have et:(TPosting.cells a::ac TPosting.cells l).take (l.length+1)=TPosting.cells a::ac TPosting.cells l:=by
   rw[←e]
   exact cX TPosting.cells (a::l) _ (by simp)
  simp -dsimp -implicitDefEqProofs [-getElem?_pos,go_sem,hP,e]
  refine⟨by omega,by omega,?_⟩
  refine aB (x:= .list 8 (TPosting.cells a::ac TPosting.cells l)) ?_ im ?_ rfl
  ·simp -dsimp -implicitDefEqProofs [-getElem?_pos,go_sem]
   first|exact im|(have h:=aG.1 im;simp only[List.mem_cons,forall_eq_or_imp]at h;exact h)
  ·simp -dsimp -implicitDefEqProofs [-getElem?_pos,go_sem]
   first|exact .refl _|skip
end Go.Proofs.YtmmpcldnpflchaaGreatDoor
