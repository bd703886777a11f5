/- Several texts of this claim, joined: Split Parts Code Pl27 Tax1 Tax2 Tax3 Tax4 Tax6 TaxGen TaxGen2 PaRun Awake FlowEq LqP LawTl. -/
import Derived.Test.YtfbogibogkbhmaaGreatDoorPk9
import Derived.RangeFuncBox
import Derived.RangeFuncLeaves
import Derived.Shelf.Abstract
import Derived.WalkKit
import Derived.OwnWalkIn
import Derived.TacticsInMore
import Derived.LoopNIn
import Derived.LoopIn
import Derived.Maps.AppendAt
import Derived.Lib.PathFns
import Derived.Lib.IndexLaws
import Derived.Laws.Rows
import Derived.RangeFuncCalls
import Derived.Scope
set_option linter.unusedSimpArgs false
set_option linter.unusedVariables false
set_option maxRecDepth 4000
namespace Go.Proofs.YtfbogibogkbhmaaGreatDoor
open Go.RowKit Go.Shelf
attribute [local go_sem] Oper.semAt_some
def dV (c:UInt8):Nat→List UInt8→List (List UInt8)
 |0,l=>[l]
 |n+1,l=>if Lib.indexByte l c<0 then [l]else l.take (Lib.indexByte l c).toNat::dV c n (l.drop ((Lib.indexByte l c).toNat+1))
def dot:ByteArray:=⟨#[46]⟩
def bl (s:ByteArray):List UInt8:=s.data.toList
def rH (l:List UInt8):ByteArray:=⟨l.toArray⟩
def IU (W:World) (b:Nat):Nat:=match W.cell? ⟨b,0,none⟩with|some (.string s)=>s.size|_=>0
theorem S0 (s:ByteArray):rH (bl s)=s:=rfl
theorem Pu (s:ByteArray) (k:Nat):rH ((bl s).take k)=s.extract 0 k:=(Lib.Pa.extract_upto s k).symm
theorem HH (s:ByteArray) (k:Nat):bl (s.extract k s.size)=(bl s).drop k:=by rw[Lib.Pa.extract_from];rfl
theorem vg (s:ByteArray) (k:Nat):(s.extract k s.size).size=s.size-k:=by
 have:=congrArg List.length (HH s k)
 rw[wP]at this
 exact this
theorem sW {c:UInt8} {n:Nat} {l:List UInt8} (h:Lib.indexByte l c<0):dV c n l=[l]:=by cases n<;>simp[dV,h]
theorem Dn {W:World} {b:Nat} {s:ByteArray} (h:Boxed W b 9 (.string s)):IU W b=s.size:=by rw[IU,h.cell]
theorem Dq (s:ByteArray) (w:World):CallsIn Fence.wide 9 Tryz.prog 333 #[.string s,.string dot] w fun e w'=>e= .returned (.int .i64 (Lib.indexByte (bl s) 46))∧w'=w:=callsIn_wide.2 (strings_Index_one s 46 w)
set_option maxRecDepth 100000 in
set_option maxHeartbeats 1000000 in
theorem Lb (l B1 B2 B3:Nat) (s0:ByteArray) (J Jx:List (List UInt8)→World→Prop)
  (hJ:∀pre W (s s':ByteArray),J pre W→Boxed W B2 9 (.string s)→J pre (W.setCell ⟨B2,0,none⟩ (.string s')))
  (hY:∀pre x W,J pre W→pre++[x]<+:dV 46 s0.size (bl s0)→YieldAt Fence.wide 9 Tryz.prog l #[.string (rH x)] W fun e W'=>
   (e= .returned (.bool true)∧J (pre++[x]) W'∧(∀b,b=B1∨b=B2∨b=B3→W'.heap[b]?=W.heap[b]?))∨(e= .returned (.bool false)∧Jx (pre++[x]) W'))
  (W:World) (hlim:s0.size≤1000000) (h1:Boxed W B1 9 (.string dot)) (h2:Boxed W B2 9 (.string s0)) (h3:Boxed W B3 3 (.int .i64 0)) (d12:B1≠B2) (d32:B3≠B2) (h0:J [] W):
  CallsIn Fence.wide 10 Tryz.prog 331 #[.func (.yield l) #[] #[],.pointer (some ⟨B1,0,none⟩),.pointer (some ⟨B2,0,none⟩),.pointer (some ⟨B3,0,none⟩)] W fun e W'=>(∃v,e= .returned v)∧
   ((∃ys,ys=dV 46 s0.size (bl s0)∧J ys W')∨(∃pre,Jx pre W')):=by
 have hlen:s0.size=(bl s0).length:=rfl
 refine callsIn_of_wp Tryz.func331 rfl trivial ?_ rfl
 simp only[Tryz.ntmps331,List.size_toArray,wI,List.length_nil,Nat.reduceAdd,Nat.reduceSub,Array.replicate_succ,Array.replicate_zero,List.push_toArray,List.append_toArray,vY,vX]
 have c1:=h1.cell
 have c2:=h2.cell
 have c3:=h3.cell
 gi_wp2
 gi_loopw [] (fun wr=>∃(pre:List (List UInt8)) (rest:ByteArray) (n:Nat),dV 46 s0.size (bl s0)=pre++dV 46 n (bl rest)∧rest.size≤n∧rest.size≤1000000∧J pre wr∧Boxed wr B1 9 (.string dot)∧Boxed wr B2 9 (.string rest)∧Boxed wr B3 3 (.int .i64 0))
  (fun wr=>IU wr B2)
 case atStart=>
  exact⟨[],s0,s0.size,rfl,zZ _,hlim,h0,h1,h2,h3⟩
 case round=>
  obtain⟨pre,rest,n,hp,hn,hr,hj,b1,b2,b3⟩:=hrel
  clear c1 c2 c3
  have c1:=b1.cell
  have c2:=b2.cell
  have c3:=b3.cell
  have f2:=b2.frozen
  by_cases hneg:Lib.indexByte (bl rest) 46<0
  ·obtain⟨fn,tmps,assign,body,hy,hR⟩:=hY pre (bl rest) wr hj (by rw[hp,sW hneg];exact List.prefix_rfl)
   rw[sW hneg]at hp
   rw[S0]at hy
   gi_wp2_with (refine⟨trivial,?_⟩;gi_at_call 333;refine (Dq rest _).mono ?_;rintro e w' ⟨rfl,rfl⟩)
   refine hR.mono ?_
   rintro e W3 (⟨rfl,hJ3,hk3⟩|⟨rfl,hJx3⟩)
   ·gi_wp2
    go_end0
    exact⟨⟨_,rfl⟩,.inl ⟨_,hp.symm,hJ3⟩⟩
   ·gi_wp2
    go_end0
    exact⟨⟨_,rfl⟩,.inr ⟨_,hJx3⟩⟩
  ·obtain⟨k,hk⟩:∃k:Nat,Lib.indexByte (bl rest) 46=k:=⟨(Lib.indexByte (bl rest) 46).toNat,by omega⟩
   rw[hk]at hneg
   have hkl:k<rest.size:=by
    have:=(Lib.indexByte_some hk).1
    exact (gsI this)
   have w1:wrap64 (k:Int)=k:=by unfold wrap64;omega
   have w2:wrap64 ((k:Int)+(dot.size:Nat))=((k+1:Nat):Int):=by rw[show dot.size=1 from rfl];unfold wrap64;omega
   have hk1:((k+1:Nat):Int)≤rest.size:=by omega
   have hk0:(0:Int)≤((k+1:Nat):Int):=by omega
   have tn:(((k+1:Nat):Int)).toNat=k+1:=rfl
   obtain⟨q,hq⟩:∃q:Nat,k+1=q:=⟨_,rfl⟩
   rw[hq]at w2 hk1 hk0 tn
   obtain⟨fn,tmps,assign,body,hy,hR⟩:=hY pre ((bl rest).take k) wr hj (by obtain⟨n',rfl⟩:∃n',n=n'+1:=⟨n-1,by omega⟩;rw[hp];simp[dV,hk,hneg])
   rw[Pu]at hy
   gi_wp2_with (refine⟨trivial,?_⟩;gi_at_call 333;refine (Dq rest _).mono ?_;rintro e w' ⟨rfl,rfl⟩;rw[hk])
   refine hR.mono ?_
   have b2:=b2
   rintro e W3 (⟨rfl,hJ3,hk3⟩|⟨rfl,hJx3⟩)
   ·have b1':Boxed W3 B1 9 (.string dot):=(hk3 B1 (.inl rfl)).trans b1
    have b2':Boxed W3 B2 9 (.string rest):=(hk3 B2 (.inr (.inl rfl))).trans b2
    have b3':Boxed W3 B3 3 (.int .i64 0):=(hk3 B3 (.inr (.inr rfl))).trans b3
    have c1:=b1'.cell
    have c2:=b2'.cell
    have f2:=b2'.frozen
    gi_wp2
    refine⟨⟨_,_,_,_,_,_,_,_,_,_,_,_,_,_,_,_,_,_,_,_,_,_,⟨pre++[(bl rest).take k],rest.extract q rest.size,n-1,?_,?_,?_,hJ _ _ _ _ hJ3 b2',b1'.kept (grownBy_setCell' _ _ _) (by simpa using d12),b2'.set _,b3'.kept (grownBy_setCell' _ _ _) (by simpa using d32)⟩,rfl⟩,?_⟩
    ·obtain⟨n',rfl⟩:∃n',n=n'+1:=⟨n-1,by omega⟩
     rw[hp,HH,←hq]
     simp[dV,hk]
     omega
    ·rw[vg];omega
    ·rw[vg];omega
    ·rw[Dn b2,Dn (b2'.set _),vg]
     omega
   ·gi_wp2
    refine bodyPost_ret (results_none rfl _ _ _) rfl ?_
    exact⟨⟨_,rfl⟩,.inr ⟨_,hJx3⟩⟩
theorem Qm {g:Operand} {p:Tmp} {assign body:Code} {Q:Exit→Act→World→Prop} {a:Act} {w:World} {B1 B2 B3:Nat} (s0:ByteArray)
  (hg:a.eval g= .func (.func 331) #[] #[.pointer (some ⟨B1,0,none⟩),.pointer (some ⟨B2,0,none⟩),.pointer (some ⟨B3,0,none⟩)])
  (hlim:s0.size≤1000000) (h1:Boxed w B1 9 (.string dot)) (h2:Boxed w B2 9 (.string s0)) (h3:Boxed w B3 3 (.int .i64 0)) (d12:B1≠B2) (d32:B3≠B2)
  (I Ix:List (List UInt8)→World→Prop)
  (hI:∀pre W W' b,I pre W∨Ix pre W→W.grownBy W' (some b)→((b=B2∧∃s,Boxed W B2 9 (.string s))∨(w.heap.size≤b∧∀o,W.heap[b]?=some o→o.isCells=false))→(I pre W→I pre W')∧(Ix pre W→Ix pre W'))
  (h0:I [] w)
  (hbody:∀l pre x W,I pre W→pre++[x]<+:dV 46 s0.size (bl s0)→assign.wpIn (Fence.wide.inRound l) 9 Tryz.prog (Exit.then (fun a₁ w₁=>w₁=W∧∀W1,I pre W1→w.heap.size≤W1.heap.size→
   body.wpIn (Fence.wide.inRound l) 9 Tryz.prog (fun e a3 W3=>match e with
    | .normal=>KeepsOthers W1 W3∧(∀b,b<w.heap.size→b=B1∨b=B2∨b=B3→W3.heap[b]?=W1.heap[b]?)∧I (pre++[x]) W3
    | .ret=>KeepsOthers W1 W3∧Ix (pre++[x]) W3
    |_=>False) a₁ W1) (fun _ _ _=>False)) {tmps:=a.tmps.setIfInBounds p (.string (rH x)),defers:=[]} W)
  (hdone:∀(D:Nat) (W:World),w.heap.size≤D→I (dV 46 s0.size (bl s0)) W→W.heap[D]?=some (.deferred (some []))→Q .normal {a with defers:={target:= .collected D,args:=#[]}::a.defers} W)
  (hstop:∀(D:Nat) (pre:List (List UInt8)) (W:World),w.heap.size≤D→Ix pre W→W.heap[D]?=some (.deferred (some []))→Code.ret.wpIn Fence.wide 11 Tryz.prog Q {a with defers:={target:= .collected D,args:=#[]}::a.defers} W):
  (Code.rangeFunc g #[p] assign body).wpIn Fence.wide 11 Tryz.prog Q a w:=by
 refine wpIn_rangeFunc ?_
 intro fn hfn
 obtain⟨rec,hrec⟩:∃rec:LoopState→Option Code→Loop,rec=fun st pe=>{state:=st,pending:=pe,fn,tmps:=a.tmps,params:=#[p],assign,body,defers:=w.heap.size}:=⟨_,rfl⟩
 obtain⟨W1,hW1⟩:∃W1,(w.alloc (.deferred (some []))).alloc (.loop (rec .ready none))=W1:=⟨_,rfl⟩
 obtain⟨L,hL⟩:∃L,L=w.heap.size+1:=⟨_,rfl⟩
 obtain⟨D,hD⟩:∃D,D=w.heap.size:=⟨_,rfl⟩
 have lt1:=h1.lt
 have lt2:=h2.lt
 have lt3:=h3.lt
 have hL1:W1.heap[L]?=some (.loop (rec .ready none)):=by
  rw[←hW1,hL];have:=World.alloc_heap_new (w.alloc (.deferred (some []))) (.loop (rec .ready none));rwa[World.size_alloc]at this
 have hD1:W1.heap[D]?=some (.deferred (some [])):=by
  rw[←hW1,hD];exact (Below.heap_alloc _ _ _ (by simp)).trans (World.alloc_heap_new w _)
 have hsz1:w.heap.size≤W1.heap.size:=by rw[←hW1,World.size_alloc,World.size_alloc];omega
 have alloc1:∀(W:World) (o:Obj),W.grownBy (W.alloc o) (some W.heap.size):=fun W o=>⟨rfl,rfl,rfl,by simp,fun k hk _=>Below.heap_alloc W o k hk⟩
 have hI1:I [] W1:=by
  rw[←hW1]
  refine (hI _ _ _ _ (.inl ?_) (alloc1 _ _) (.inr ⟨by simp,fun o ho=>by simp at ho⟩)).1 ?_<;>
   exact (hI _ _ _ _ (.inl h0) (alloc1 _ _) (.inr ⟨zZ _,fun o ho=>by simp at ho⟩)).1 h0
 have old:∀b,b<w.heap.size→W1.heap[b]?=w.heap[b]?:=fun b hb=>by
  rw[←hW1]
  exact (Below.heap_alloc _ _ _ (by simp;omega)).trans (Below.heap_alloc _ _ _ hb)
 refine⟨L,[{target:= .collected D,args:=#[]}],W1,{target:= .fn (.func 331) #[.pointer (some ⟨B1,0,none⟩),.pointer (some ⟨B2,0,none⟩),.pointer (some ⟨B3,0,none⟩)],args:=#[.func (.yield L) #[] #[]]},W1,331,
  #[.func (.yield L) #[] #[],.pointer (some ⟨B1,0,none⟩),.pointer (some ⟨B2,0,none⟩),.pointer (some ⟨B3,0,none⟩)],W1,?_,?_,?_,?_,fun h=>by simp,?_⟩
 ·rw[←hW1,hrec,hL,hD];exact run_enterLoop_outer _ _ _ _ _
 ·simp only[resolve,hg]
  simp[go_sem]
 ·intro f' hf';trivial
 ·simp[invoke,go_sem,callFunc,Tryz.func331,Tryz.f331]
 ·have turn:∀{pre W} (o o':Obj) (b:Nat),I pre W∨Ix pre W→w.heap.size≤b→W.heap[b]?=some o→o.isCells=false→(I pre W→I pre (W.putObj b o'))∧(Ix pre W→Ix pre (W.putObj b o')):=fun {pre W} o o' b h hb ho hc=>
   hI pre W _ b h (grownBy_putObj' W b o') (.inr ⟨hb,fun o2 h2=>by rw[ho]at h2;cases h2;exact hc⟩)
  refine (Lb L B1 B2 B3 s0 (fun pre W=>I pre W∧w.heap.size≤W.heap.size∧W.heap[L]?=some (.loop (rec .ready none))∧W.heap[D]?=some (.deferred (some [])))
   (fun pre W=>Ix pre W∧W.heap[L]?=some (.loop (rec .done (some .ret)))∧W.heap[D]?=some (.deferred (some []))) ?_ ?_ W1 hlim ((old _ lt1).trans h1) ((old _ lt2).trans h2) ((old _ lt3).trans h3) d12 d32 ⟨hI1,hsz1,hL1,hD1⟩).mono ?_
  ·rintro pre W s s' ⟨hi,hsz,hl,hd⟩ hb
   have hg':=grownBy_setCell' W B2 (.string s')
   refine⟨(hI _ _ _ _ (.inl hi) hg' (.inl ⟨rfl,s,hb⟩)).1 hi,Nat.le_trans hsz hg'.size,(hg'.block L (zW.1 hl).1 (by simp;omega)).trans hl,(hg'.block D (zW.1 hd).1 (by simp;omega)).trans hd⟩
  ·rintro pre x W ⟨hi,hsz,hl,hd⟩ hpre
   have hlt:=(zW.1 hl).1
   have hy:=run_yield (P:=Tryz.prog) (args:=#[.string (rH x)]) hl (by rw[hrec];rfl)
   rw[hrec]at hy
   have hy:(Instr.yield L #[.string (rH x)]).run Tryz.prog W= .ok (.round L fn (a.tmps.setIfInBounds p (.string (rH x))) assign body) W:=by
    rw[hy,show (#[p].zip #[Value.string (rH x)])=#[(p,Value.string (rH x))]from by simp]
    simp
   refine⟨fn,_,assign,body,hy,roundIn_of_wpIn hfn (wpIn_mono (hbody L pre x W hi hpre) ?_)⟩
   intro e a₁ w₁ he
   cases e with
   |normal=>
    obtain⟨rfl,hb⟩:=he
    have hl2:(w₁.putObj L (.loop {rec .ready none with state:= .busy})).heap[L]?=some (.loop {rec .ready none with state:= .busy}):=World.putObj_heap_same hlt
    have hd2:(w₁.putObj L (.loop {rec .ready none with state:= .busy})).heap[D]?=some (.deferred (some [])):=(World.putObj_heap_other (by omega)).trans hd
    refine⟨_,run_beginRound hl (by rw[hrec]),wpIn_mono (hb _ ((turn _ _ _ (.inl hi) (by omega) hl rfl).1 hi) (by simpa using hsz)) ?_⟩
    have fin:∀(jump:Option Code) (W3:World),KeepsOthers (w₁.putObj L (.loop {rec .ready none with state:= .busy})) W3→
      (Instr.endRound L jump).run Tryz.prog W3= .ok (.bool jump.isNone) (W3.putObj L (.loop (rec (if jump.isNone then .ready else .done) jump)))∧
      W3.heap[L]?=some (.loop {rec .ready none with state:= .busy})∧
      (W3.putObj L (.loop (rec (if jump.isNone then .ready else .done) jump))).heap[L]?=some (.loop (rec (if jump.isNone then .ready else .done) jump))∧
      (W3.putObj L (.loop (rec (if jump.isNone then .ready else .done) jump))).heap[D]?=some (.deferred (some [])):=fun jump W3 hk3=>by
     have hl3:=hk3.same _ _ hl2 rfl
     have:=run_endRound (P:=Tryz.prog) jump hl3
     rw[hrec]at this⊢
     exact⟨this,by rw[hrec]at hl3;exact hl3,World.putObj_heap_same (zW.1 hl3).1,(World.putObj_heap_other (by omega)).trans (hk3.same _ _ hd2 rfl)⟩
    intro e3 a3 W3 hp
    cases e3 with
    |normal=>
     obtain⟨hk3,hb3,hi3⟩:=hp
     obtain⟨hr,hl3,hl4,hd4⟩:=fin none W3 hk3
     refine⟨_,_,hr,.inl ⟨rfl,⟨(turn _ _ _ (.inl hi3) (by omega) hl3 rfl).1 hi3,?_,hl4,hd4⟩,fun b hb'=>?_⟩⟩
     ·have:=hk3.size
      simp at this⊢
      omega
     ·have hbl:b<w.heap.size:=by rcases hb' with rfl|rfl|rfl<;>assumption
      exact ((World.putObj_heap_other (by omega)).trans (hb3 b hbl hb')).trans (World.putObj_heap_other (by omega))
    |ret=>
     obtain⟨hk3,hi3⟩:=hp
     obtain⟨hr,hl3,hl4,hd4⟩:=fin (some .ret) W3 hk3
     exact⟨_,_,hr,.inr ⟨rfl,(turn _ _ _ (.inr hi3) (by omega) hl3 rfl).2 hi3,hl4,hd4⟩⟩
    |_=>exact hp.elim
   |_=>exact he.elim
  ·rintro e W2 ⟨⟨v,rfl⟩,(⟨ys,rfl,hi,_,hl,hd⟩|⟨pre,hi,hl,hd⟩)⟩
   ·exact⟨none,_,by have:=run_endLoop (P:=Tryz.prog) hl (by rw[hrec];simp);rw[hrec]at this;exact this,hdone D _ (by omega) ((turn _ _ _ (.inl hi) (by omega) hl rfl).1 hi) ((World.putObj_heap_other (by omega)).trans hd)⟩
   ·exact⟨some .ret,_,by have:=run_endLoop (P:=Tryz.prog) hl (by rw[hrec];simp);rw[hrec]at this;exact this,hstop D pre _ (by omega) ((turn _ _ _ (.inr hi) (by omega) hl rfl).2 hi) ((World.putObj_heap_other (by omega)).trans hd)⟩
open Go.RowKit Go.Shelf
attribute [local go_sem] Oper.semAt_some
def jE (l:List UInt8):Option Int:=match Lib.atoiAll l with
 | .ok n=>if 1≤n∧n≤99∧Lib.decDigits n.toNat=l then some n else none
 |_=>none
def fm (s:ByteArray):List Int:=match (dV 46 s.size (bl s)).mapM jE with
 |some ns=>if ns.length≤4 then ns else []
 |none=>[]
theorem AK (c:UInt8):∀(n:Nat) (l x:List UInt8),x∈dV c n l→x.length≤l.length
 |0,l,x,h=>by simp[dV]at h;simp[h]
 |n+1,l,x,h=>by
  unfold dV at h
  split at h
  ·simp at h;simp[h]
  ·rcases zO.1 h with rfl|h
   ·rw[zY];omega
   ·have:=AK c n _ _ h
    rw[wP]at this
    omega
theorem sS (c:UInt8):∀(n:Nat) (l:List UInt8),(dV c n l).length≤n+1
 |0,l=>by simp[dV]
 |n+1,l=>by
  unfold dV
  split
  ·simp
  ·have:=sS c n (l.drop ((Lib.indexByte l c).toNat+1))
   simp
   omega
theorem E9:∀{l:List (List UInt8)} {ns:List Int},l.mapM jE=some ns→ns.length=l.length
 |[],ns,h=>by simp at h;simp[h]
 |x::l,ns,h=>by
  simp only[List.mapM_cons,Option.bind_eq_bind,vK,Option.pure_def,zB]at h
  obtain⟨a,_,b,hb,rfl⟩:=h
  simp[E9 hb]
theorem gOf {W W':World} (hb:Below W.heap.size W W'):W.grownBy W' none:=⟨hb.os,hb.tape,hb.output,hb.size,fun k hk _=>hb.block k hk⟩
theorem uX {W:World} {b b':Nat} {e:TypeId} {size k:Nat} {v:Value} {xs:List Value} (h:W.ownsRow b e size v k xs) (hb:b'≤b):W.ownsRow b' e size v k xs:=by
 refine⟨h.1,?_⟩
 rcases h.2 with⟨rfl,h0⟩|⟨g,cap,cur,rfl,h1,h2⟩
 ·exact .inl ⟨rfl,h0⟩
 ·exact .inr ⟨g,cap,cur,rfl,by omega,h2⟩
theorem Gi {W:World} {b:Nat} {e:TypeId} {size k:Nat} {v:Value} {xs:List Value} (h:W.ownsRow b e size v k xs) {j:Nat} (hj:j<b):some j≠v.ownBlock:=by
 rcases h.2 with⟨rfl,h0⟩|⟨g,cap,cur,rfl,h1,h2⟩
 ·simp[Value.ownBlock]
 ·simp[Value.ownBlock];omega
theorem nv (n:Nat) (s:ByteArray) (hlim:s.size≤1000000) (v:Int) (h:Lib.atoiAll (bl s)= .ok v) (w:World):
  CallsIn Fence.wide n Tryz.prog 240 #[.string s] w fun e w'=>e= .returned (.tuple #[.int .i64 v,.nilIface])∧Below w.heap.size w w':=by
 refine callsIn_wide.2 ((strconv_Atoi_ok s (by omega) v h w).mono ?_)
 rintro e w' ⟨rfl,hw⟩
 refine⟨rfl,?_⟩
 rcases hw with rfl|⟨t,rfl⟩
 ·exact Below.refl _ _
 ·exact Lib.bytesWorld_below _ _ _
theorem Gx (n:Nat) (s:ByteArray) (hlim:s.size≤1000000) (h:∀v,Lib.atoiAll (bl s)≠ .ok v) (w:World) (hv:∀g,g∈([0,1]:List Nat)→∃t p,w.cell? ⟨g,0,none⟩=some (.iface t p)):
  CallsIn Fence.wide n Tryz.prog 240 #[.string s] w fun e w'=>∃v t p,e= .returned (.tuple #[.int .i64 v,.iface t p])∧Below w.heap.size w w':=by
 obtain⟨t1,p1,e1⟩:=hv 0 (by simp)
 obtain⟨t2,p2,e2⟩:=hv 1 (by simp)
 refine callsIn_wide.2 ?_
 rcases hh:Lib.atoiAll (bl s)with v|_|_
 ·exact absurd hh (h v)
 ·refine (Any.strconv_Atoi_syntax Bi s (by omega) hh _ w e1 (.inr ⟨_,_,rfl⟩)).mono ?_
  rintro e w' ⟨N,rfl,_,_,hb⟩
  exact⟨_,_,_,rfl,hb⟩
 ·refine (Any.strconv_Atoi_range Bi s (by omega) hh _ w e2 (.inr ⟨_,_,rfl⟩)).mono ?_
  rintro e w' ⟨N,rfl,_,_,hb⟩
  exact⟨_,_,_,rfl,hb⟩
theorem Kt (n:Nat) (i:Nat) (hi:i<100) (w:World):CallsIn Fence.wide n Tryz.prog 241 #[.int .i64 i] w fun e w'=>e= .returned (.string (rH (Lib.decDigits i)))∧w'=w:=callsIn_wide.2 (strconv_Itoa_small i hi w)
set_option maxHeartbeats 1000000 in
theorem Ee (n:Nat) (s:ByteArray) (w:World):
  CallsIn Fence.wide n Tryz.prog 295 #[.string s,.string dot,.int .i64 0] w fun e w'=>e= .returned (.func (.func 331) #[] #[.pointer (some ⟨w.heap.size+1,0,none⟩),.pointer (some ⟨w.heap.size,0,none⟩),.pointer (some ⟨w.heap.size+2,0,none⟩)])∧
   w'=((w.alloc (.cells #[.string s] 9)).alloc (.cells #[.string dot] 9)).alloc (.cells #[.int .i64 0] 3):=by
 refine callsIn_of_wp Tryz.func295 rfl trivial ?_ rfl
 simp only[Tryz.ntmps295,List.size_toArray,wI,List.length_nil,Nat.reduceAdd,Nat.reduceSub,Array.replicate_succ,Array.replicate_zero,List.push_toArray,List.append_toArray,vY,vX]
 gi_wp2
 go_ret
 exact⟨rfl,rfl⟩
set_option maxHeartbeats 1000000 in
theorem GW (n:Nat) (s:ByteArray) (w:World):
  CallsIn Fence.wide n Tryz.prog 239 #[.string s,.string dot] w fun e w'=>e= .returned (.func (.func 331) #[] #[.pointer (some ⟨w.heap.size+1,0,none⟩),.pointer (some ⟨w.heap.size,0,none⟩),.pointer (some ⟨w.heap.size+2,0,none⟩)])∧
   w'=((w.alloc (.cells #[.string s] 9)).alloc (.cells #[.string dot] 9)).alloc (.cells #[.int .i64 0] 3):=by
 refine callsIn_of_wp Tryz.func239 rfl trivial ?_ rfl
 simp only[Tryz.ntmps239,List.size_toArray,wI,List.length_nil,Nat.reduceAdd,Nat.reduceSub,Array.replicate_succ,Array.replicate_zero,List.push_toArray,List.append_toArray,vY,vX]
 gi_wp2_with (refine⟨trivial,fun h=>(by cases h),?_⟩;gi_at_call 295;refine (Ee _ s _).mono ?_;rintro e w' ⟨rfl,rfl⟩)
 go_ret
 exact⟨rfl,rfl⟩
theorem QD:(Tryz.prog.info? 3).map (fun i=>(i.zero,i.size,i.bytes))=some (some (.int .i64 0),1,8):=by kernel_rfl
theorem Pv {tmps:Array Value} {b:Nat} {W:World} {v:Value} (ht:tmps[2]?.getD undef= .pointer (some ⟨b,0,none⟩)) (h:Boxed W b 22 v):(results Tryz.f166 tmps).run Tryz.prog W= .ok v W:=by
 simp[results,Tryz.f166,Sem.run_bind,ht,asAddr,loadVar,Tryz.isAgg22,h.cell,Result.andThen]
theorem tX {tmps:Array Value} {w W:World} {D:Nat} {v:Value} {s:ByteArray} (ht:tmps[2]?.getD undef= .pointer (some ⟨w.heap.size,0,none⟩)) (h:Boxed W w.heap.size 22 v) (h6:Below w.heap.size w W) (hd:W.heap[D]?=some (.deferred (some []))) (hD:w.heap.size<D)
  (ho:W.ownsRow w.heap.size 3 1 v (fm s).length ((fm s).map (Value.int .i64))) (hn:v= .slice none 0 0↔fm s=[]):
  bodyPostM Fence.wide 11 Tryz.prog Tryz.f166 (fun e W'=>∃v,e= .returned v∧W'.ownsRow w.heap.size 3 1 v (fm s).length ((fm s).map (Value.int .i64))∧(v= .slice none 0 0↔fm s=[])∧Below w.heap.size w W')
   .ret {tmps:=tmps,defers:=[{target:= .collected D,args:=#[]}]} W:=by
 refine⟨by simp,.inl ⟨_,_,rfl,run_takeDeferred hd,?_⟩⟩
 exact⟨v,Pv ht (h.kept (grownBy_putObj' _ _ _) (by simp;omega)),v,rfl,ownsRow_putObj ho _ hd rfl,hn,h6.grown (grownBy_putObj' _ _ _) (by have:=h.lt;omega) (fun k e=>by cases e;omega)⟩
set_option maxRecDepth 100000 in
set_option maxHeartbeats 4000000 in
theorem Pq (s:ByteArray) (hlim:s.size≤1000000) (w:World) (hv:∀g,g∈([0,1]:List Nat)→g<w.heap.size∧∃t p,w.cell? ⟨g,0,none⟩=some (.iface t p)):
  CallsIn Fence.wide 11 Tryz.prog 166 #[.string s] w fun e W'=>∃v,e= .returned v∧W'.ownsRow w.heap.size 3 1 v (fm s).length ((fm s).map (Value.int .i64))∧(v= .slice none 0 0↔fm s=[])∧Below w.heap.size w W':=by
 obtain⟨i0,hi,hz0,hz1,hz2⟩:=info_parts QD
 refine callsIn_of_wp_marks Tryz.func166 rfl trivial ?_ rfl
 simp only[Tryz.ntmps166,List.size_toArray,wI,List.length_nil,Nat.reduceAdd,Nat.reduceSub,Array.replicate_succ,Array.replicate_zero,List.push_toArray,List.append_toArray,vY,vX]
 gi_wp2_with (refine⟨trivial,?_⟩;gi_at_call 239;refine (GW _ s _).mono ?_;rintro e w' ⟨rfl,rfl⟩)
 obtain⟨n0,hn0⟩:∃n0,n0=w.heap.size:=⟨_,rfl⟩
 obtain⟨W0,hW0⟩:∃W0,(((((w.alloc (Obj.cells #[Value.slice none 0 0] 22)).alloc (Obj.cells #[Value.slice none 0 0] 22)).alloc (Obj.cells #[Value.string s] 9)).alloc (Obj.cells #[Value.string dot] 9)).alloc (Obj.cells #[Value.int IntKind.i64 0] 3))=W0:=⟨_,rfl⟩
 have bR:Boxed W0 n0 22 (.slice none 0 0):=by
  rw[←hW0,hn0]
  exact ((((Boxed.new w _ _).alloc _).alloc _).alloc _).alloc _
 have bO:Boxed W0 (n0+1) 22 (.slice none 0 0):=by
  rw[←hW0,hn0]
  have:=Boxed.new (w.alloc (Obj.cells #[Value.slice none 0 0] 22)) 22 (.slice none 0 0)
  rw[World.size_alloc]at this
  exact (((this).alloc _).alloc _).alloc _
 have b2:Boxed W0 (n0+2) 9 (.string s):=by
  rw[←hW0,hn0]
  have:=Boxed.new ((w.alloc (Obj.cells #[Value.slice none 0 0] 22)).alloc (Obj.cells #[Value.slice none 0 0] 22)) 9 (.string s)
  rw[World.size_alloc,World.size_alloc]at this
  exact ((this).alloc _).alloc _
 have b1:Boxed W0 (n0+3) 9 (.string dot):=by
  rw[←hW0,hn0]
  have:=Boxed.new (((w.alloc (Obj.cells #[Value.slice none 0 0] 22)).alloc (Obj.cells #[Value.slice none 0 0] 22)).alloc (Obj.cells #[Value.string s] 9)) 9 (.string dot)
  rw[World.size_alloc,World.size_alloc,World.size_alloc]at this
  exact this.alloc _
 have b3:Boxed W0 (n0+4) 3 (.int .i64 0):=by
  rw[←hW0,hn0]
  have:=Boxed.new ((((w.alloc (Obj.cells #[Value.slice none 0 0] 22)).alloc (Obj.cells #[Value.slice none 0 0] 22)).alloc (Obj.cells #[Value.string s] 9)).alloc (Obj.cells #[Value.string dot] 9)) 3 (.int .i64 0)
  rwa[World.size_alloc,World.size_alloc,World.size_alloc,World.size_alloc]at this
 have sz0:W0.heap.size=n0+5:=by rw[←hW0,hn0];simp[World.size_alloc]
 have hB0:Below n0 w W0:=by
  rw[←hW0]
  exact (((((Below.refl n0 w).alloc (by omega) _).alloc (by simp;omega) _).alloc (by simp;omega) _).alloc (by simp;omega) _).alloc (by simp;omega) _
 rw[hW0]
 clear hW0
 subst hn0
 refine Qm (B1:=w.heap.size+3) (B2:=w.heap.size+2) (B3:=w.heap.size+4) s rfl hlim b1 b2 b3 (by omega) (by omega)
  (fun pre W=>∃v ns,pre.mapM jE=some ns∧Boxed W w.heap.size 22 (.slice none 0 0)∧Boxed W (w.heap.size+1) 22 v∧W.ownsRow (w.heap.size+5) 3 1 v ns.length (ns.map (Value.int .i64))∧(v= .slice none 0 0↔ns=[])∧Below w.heap.size w W)
  (fun pre W=>pre.mapM jE=none∧pre<+:dV 46 s.size (bl s)∧Boxed W w.heap.size 22 (.slice none 0 0)∧Below w.heap.size w W)
  ?hI ⟨_,[],rfl,bR,bO,World.ownsRow_nil _ _ _ _,by simp,hB0⟩ ?body ?done ?stop
 case hI=>
  rintro pre W W' b _ hg hb
  have h1:some w.heap.size≠some b∧some (w.heap.size+1)≠some b∧w.heap.size≤b:=by
   rcases hb with⟨rfl,_⟩|⟨h,_⟩
   ·simp
   ·simp;omega
  refine⟨?_,?_⟩
  ·rintro⟨v,ns,e1,e2,e3,e4,e5,e6⟩
   refine⟨v,ns,e1,e2.kept hg h1.1,e3.kept hg h1.2.1,e4.kept hg ?_,e5,e6.grown hg (by have:=e2.lt;omega) (fun k e=>by cases e;exact h1.2.2)⟩
   rcases hb with⟨rfl,s',hs'⟩|⟨_,h⟩
   ·exact .inr (hs'.not_row (by decide) e4).symm
   ·rcases e4.2 with⟨rfl,_⟩|⟨g,cap,cur,rfl,_,hgb,_⟩
    ·exact .inl rfl
    ·refine .inr fun e'=>?_
     obtain rfl:g=b:=by simpa[Value.ownBlock]using e'
     have:=h _ hgb
     cases this
  ·rintro⟨e1,e2,e3,e4⟩
   exact⟨e1,e2,e3.kept hg h1.1,e4.grown hg (by have:=e3.lt;omega) (fun k e=>by cases e;exact h1.2.2)⟩
 case body=>
  intro l pre x W hW hpre
  gi_wp2
  refine⟨trivial,?_⟩
  clear hW W
  rintro W ⟨v,ns,e1,e2,e3,e4,e5,e6⟩ hsz
  have c2:=e2.cell
  have f2:=e2.frozen
  have c3:=e3.cell
  have f3:=e3.frozen
  have hlx:(rH x).size≤1000000:=by
   have:=AK 46 s.size (bl s) x (hpre.subset (by simp))
   have e:(rH x).size=x.length:=rfl
   have e2:s.size=(bl s).length:=rfl
   omega
  have hcnt:=sS 46 s.size (bl s)
  have hpl:=hpre.length_le
  rw[zK,vN]at hpl
  have hns:=Nat.le_of_eq (E9 e1)
  have bad:jE x=none→(Code.ret).wpIn (Fence.wide.inRound l) 9 Tryz.prog (fun e a3 W3=>True) {tmps:=#[],defers:=[]} W→True:=fun _ _=>trivial
  clear bad
  by_cases hok:∃m,Lib.atoiAll x= .ok m
  ·obtain⟨m,hm⟩:=hok
   by_cases hm1:1≤m∧m≤99
   ·obtain⟨i,rfl⟩:∃i:Nat,m=i:=⟨m.toNat,by omega⟩
    by_cases hd:Lib.decDigits i=x
    ·have hp:jE x=some (i:Int):=by simp[jE,hm,hm1,hd]
     gi_wp2_with (first|(refine⟨trivial,?_⟩;first|(gi_at_call 240;refine (CallsIn.inRound l (nv _ _ hlx _ hm _)).mono ?_;rintro e W2 ⟨rfl,hb⟩;have g:=gOf hb;have gs:=g.size;have k0:=KeepsOthers.of_grownBy g (fun j o e=>(by cases e));have e6:=e6.grown g (by have:=e2.lt;omega) (fun k e=>(by cases e));have e2:=e2.kept g (by simp);have e3:=e3.kept g (by simp);have e4:=e4.kept g (Classical.em _);have c2:=e2.cell;have f2:=e2.frozen;have c3:=e3.cell;have f3:=e3.frozen)|(gi_at_call 241;refine (CallsIn.inRound l (Kt _ i (by omega) _)).mono ?_;rintro e W3 ⟨rfl,rfl⟩))|(gi_at_builtin;refine wpListIn_append_own _ rfl _ _ 22 rfl (w.heap.size+5) 3 i0 (.int .i64 0) 1 8 Tryz.underlying22 hi hz0 hz1 hz2 rfl (by decide) _ _ _ rfl (e4.alloc _) ⟨W3.heap.size,0,none⟩ 1 1 [.int .i64 i] rfl rfl (cell_one_new _ _ _) (by simp[Value.oneCell']) (by unfold maxLen;omega) (by omega) (by simp;omega) ?_;intro v' w1 hown' hgrow _;obtain⟨g',cap',rfl⟩:=ownsRow_succ hown';obtain⟨hv1,hv2,hr2,hk2,hb2⟩:=e3.appended (n₀:=w.heap.size) (by decide) (uX e4 (by omega)) e6.size (by omega) (uX hown' (by omega)) hgrow;have hc1:=hv1.cell;have hf1:=hv1.frozen))
     have z1:=hgrow.size
     rw[World.size_alloc]at z1
     refine⟨k0.trans hk2,fun b hb5 hb3=>?_,((e2.alloc _).kept hgrow (Gi e4 (by omega))).kept (grownBy_setCell' _ _ _) (by simp),_,hv2,hown'.kept (grownBy_setCell' _ _ _) (.inr (hv1.not_row (by decide) hown').symm),by simp,e6.trans hb2⟩
     exact ((grownBy_setCell' _ _ _).block b (by omega) (by simp;omega)).trans ((hgrow.block b (by rw[World.size_alloc];omega) (Gi e4 (by omega))).trans ((Below.heap_alloc _ _ _ (by omega)).trans (g.block b (by omega) (by simp))))
    ·have hp:jE x=none:=by simp[jE,hm,hm1,hd]
     have d1:decide ((i:Int)<1)=false:=zA (by omega)
     have d2:decide ((99:Int)<i)=false:=zA (by omega)
     have hne:((rH (Lib.decDigits i)).toList==(rH x).toList)=false:=by
      rw[beq_eq_false_iff_ne,ByteArray.toList_eq,ByteArray.toList_eq]
      exact hd
     gi_wp2_with (refine⟨trivial,?_⟩;first|(gi_at_call 240;refine (CallsIn.inRound l (nv _ _ hlx _ hm _)).mono ?_;rintro e W2 ⟨rfl,hb⟩;have g:=gOf hb;have gs:=g.size;have k0:=KeepsOthers.of_grownBy g (fun j o e=>(by cases e));have e6:=e6.grown g (by have:=e2.lt;omega) (fun k e=>(by cases e));have e2:=e2.kept g (by simp);have e3:=e3.kept g (by simp);have e4:=e4.kept g (Classical.em _);have c2:=e2.cell;have f2:=e2.frozen;have c3:=e3.cell;have f3:=e3.frozen)|(gi_at_call 241;refine (CallsIn.inRound l (Kt _ i (by omega) _)).mono ?_;rintro e W3 ⟨rfl,rfl⟩))
     exact⟨k0.trans (KeepsOthers.setCell _ _ _),e2.set _,e6.setCell (p:=⟨w.heap.size,0,none⟩) (zZ _) _⟩
   ·have hp:jE x=none:=by simp[jE,hm];intro h1 h2;exact absurd ⟨h1,h2⟩ hm1
    by_cases hlow:m<1
    ·have d1:decide (m<1)=true:=zC hlow
     gi_wp2_with (refine⟨trivial,?_⟩;gi_at_call 240;refine (CallsIn.inRound l (nv _ _ hlx _ hm _)).mono ?_;rintro e W2 ⟨rfl,hb⟩;have g:=gOf hb;have gs:=g.size;have k0:=KeepsOthers.of_grownBy g (fun j o e=>(by cases e));have e6:=e6.grown g (by have:=e2.lt;omega) (fun k e=>(by cases e));have e2:=e2.kept g (by simp);have e3:=e3.kept g (by simp);have e4:=e4.kept g (Classical.em _);have c2:=e2.cell;have f2:=e2.frozen;have c3:=e3.cell;have f3:=e3.frozen)
     refine⟨trivial,?_⟩
     gi_wp2
     exact⟨k0.trans (KeepsOthers.setCell _ _ _),e2.set _,e6.setCell (p:=⟨w.heap.size,0,none⟩) (zZ _) _⟩
    ·have d1:decide (m<1)=false:=zA hlow
     have d2:decide ((99:Int)<m)=true:=zC (by omega)
     gi_wp2_with (refine⟨trivial,?_⟩;gi_at_call 240;refine (CallsIn.inRound l (nv _ _ hlx _ hm _)).mono ?_;rintro e W2 ⟨rfl,hb⟩;have g:=gOf hb;have gs:=g.size;have k0:=KeepsOthers.of_grownBy g (fun j o e=>(by cases e));have e6:=e6.grown g (by have:=e2.lt;omega) (fun k e=>(by cases e));have e2:=e2.kept g (by simp);have e3:=e3.kept g (by simp);have e4:=e4.kept g (Classical.em _);have c2:=e2.cell;have f2:=e2.frozen;have c3:=e3.cell;have f3:=e3.frozen)
     refine⟨trivial,?_⟩
     gi_wp2
     exact⟨k0.trans (KeepsOthers.setCell _ _ _),e2.set _,e6.setCell (p:=⟨w.heap.size,0,none⟩) (zZ _) _⟩
  ·have hbad:∀v,Lib.atoiAll (bl (rH x))≠ .ok v:=fun v h=>hok ⟨v,h⟩
   have hp:jE x=none:=by
    unfold jE
    split
    ·rename_i n h;exact absurd ⟨n,h⟩ hok
    ·rfl
   have hv':∀g,g∈([0,1]:List Nat)→∃t p,W.cell? ⟨g,0,none⟩=some (.iface t p):=fun g hg=>by
    obtain⟨h1,t,p,h2⟩:=hv g hg
    exact⟨t,p,(e6.cell (p:=⟨g,0,none⟩) h1).trans h2⟩
   gi_wp2_with (refine⟨trivial,?_⟩;gi_at_call 240;refine (CallsIn.inRound l (Gx _ _ hlx hbad _ hv')).mono ?_;rintro e W2 ⟨vv,tt,pp,rfl,hb⟩;have g:=gOf hb;have gs:=g.size;have k0:=KeepsOthers.of_grownBy g (fun j o e=>(by cases e));have e6:=e6.grown g (by have:=e2.lt;omega) (fun k e=>(by cases e));have e2:=e2.kept g (by simp);have e3:=e3.kept g (by simp);have e4:=e4.kept g (Classical.em _);have c2:=e2.cell;have f2:=e2.frozen;have c3:=e3.cell;have f3:=e3.frozen)
   refine⟨trivial,?_⟩
   gi_wp2
   exact⟨k0.trans (KeepsOthers.setCell _ _ _),e2.set _,e6.setCell (p:=⟨w.heap.size,0,none⟩) (zZ _) _⟩
 case done=>
  rintro D W hD ⟨v,ns,e1,e2,e3,e4,e5,e6⟩ hd
  have c2:=e2.cell
  have f2:=e2.frozen
  have c3:=e3.cell
  have f3:=e3.frozen
  obtain⟨A,c,rfl⟩:∃A c,v= .slice A ns.length c:=by
   rcases e4.2 with⟨rfl,h0⟩|⟨g,cap,cur,rfl,_⟩
   ·exact⟨none,0,by rw[h0]⟩
   ·exact⟨_,_,rfl⟩
  by_cases h4:ns.length≤4
  ·have hp:fm s=ns:=by rw[fm,e1];simp[h4]
   have d4:decide ((4:Int)<(ns.length:Int))=false:=zA (by omega)
   gi_wp2
   refine tX rfl (e2.set _) (e6.setCell (p:=⟨w.heap.size,0,none⟩) (zZ _) _) ?_ (by omega) ?_ (by rw[hp];exact e5)
   ·exact ((grownBy_setCell' _ _ _).block D (zW.1 hd).1 (by simp;omega)).trans hd
   ·rw[hp]
    exact uX (e4.kept (grownBy_setCell' _ _ _) (.inr (e2.not_row (by decide) e4).symm)) (by omega)
  ·have hp:fm s=[]:=by rw[fm,e1];simp[h4]
   have d4:decide ((4:Int)<(ns.length:Int))=true:=zC (by omega)
   gi_wp2
   refine tX rfl (e2.set _) (e6.setCell (p:=⟨w.heap.size,0,none⟩) (zZ _) _) ?_ (by omega) ?_ (by rw[hp];simp)
   ·exact ((grownBy_setCell' _ _ _).block D (zW.1 hd).1 (by simp;omega)).trans hd
   ·rw[hp]
    exact World.ownsRow_nil _ _ _ _
 case stop=>
  rintro D pre W hD ⟨e1,e2,e3,e4⟩ hd
  have hp:fm s=[]:=by
   obtain⟨t,ht⟩:=e2
   rw[fm,←ht,List.mapM_append,e1]
   rfl
  gi_wp2
  refine tX rfl e3 e4 hd (by omega) ?_ (by rw[hp];simp)
  rw[hp]
  exact World.ownsRow_nil _ _ _ _
open Go.PA
open Go.RowKit
theorem o8 {w:World} {ok:Nat→Prop} {base:Nat} {v:Value} {ns:List Int} (h:w.ownsRow base 3 1 v ns.length (ns.map (Value.int .i64))) (hok:∀b,base≤b→b<w.heap.size→ok b):jY w ok v (aA ns):=by
 have hl:=h.lt
 have hc:=fun g hg=>h.cells (g:=g) hg
 rcases h.2 with⟨rfl,h0⟩|⟨g,cap,cur,rfl,hb,hg,hcap,_⟩
 ·rw[uH.1 h0]
  exact .listNil
 ·obtain⟨_,hlt⟩:=hl g rfl
  refine .list (fun i _=> .int .i64 (ns.getD i 0)) (by simp) hcap (hok g hb hlt) (by simp) ?_ (fun _ _ _ _ _ _=>rfl) ?_<;>
  ·intro i e j a he ha
   rw[zR,zL]at he
   obtain⟨x,hx,rfl⟩:=he
   have hj:j=0:=by have:=(gsI ha);simpa using this
   subst hj
   have hd:ns.getD i 0=x:=by rw[List.getD_eq_getElem?_getD,hx];rfl
   simp only[wQ,zB]at ha
   subst ha
   simp only[hd]
   first
    |exact .sc
    |exact hc g rfl _ _ (by rw[Nat.mul_one,Nat.add_zero,zR,hx];rfl)
theorem P7 (s:ByteArray) (hl:s.size≤1000000):PFun Tryz.prog none none 166 [.sc (.string s)] (·=aA (fm s)):=by
 intro w ok vs h1 h2 h3 h4
 have hv:vs=#[.string s]:=by
  have h0:0<vs.size:=by rw[h3];simp
  have e0:=cM (h4 0 vs[0] _ (zX h0) rfl)
  apply Array.ext
  ·simpa using h3
  ·intro i hi hi'
   have:i=0:=by simp at hi';exact hi'
   subst this
   simpa using e0
 subst hv
 refine (callsIn_wide.1 (Pq s hl w fun g hg=>?_)).mono ?_
 ·have:=h2.1.2 g hg
  exact⟨(h1 g this.1).1,this.2⟩
 ·rintro e W' ⟨v,rfl,ho,hn,hb⟩
  have hg:w.grownBy W' none:=gOf hb
  refine⟨v,_,rfl,rfl,by simp[aA,go_sem],o8 ho (fun b h1 h2=> .inr ⟨h1,h2⟩),?_,h2.keep (by simp) (fun _ h=>h) (fun b hb'=>hg.block b (h1 b hb').1 (by simp))⟩
  exact hg
def btw (n lo hi:Int):Bool:=decide (lo≤n)&&decide (n≤hi)
theorem kh {n lo hi:Int}:btw n lo hi=true↔lo≤n∧n≤hi:=by simp[btw]
theorem JP {n lo hi:Int} (h:¬(lo≤n∧n≤hi)):btw n lo hi=false:=by simp[btw];omega
def CM (s:ByteArray):Bool:=decide (0<(fm s).length)
section
variable {α:Type} {lt:α→α→Bool}
end
open Go.PA
open Go.RowKit
def gJ (t:TTax):Bool:=CM t.Code&&btw t.Payer 1 1000000&&btw t.Base 0 1000000000000&&btw t.Num 0 t.Den&&btw t.Den 1 1000000&&btw t.First 0 36000&&btw t.Every 1 60&&btw t.Times 1 60
def ro (d:Int):Int:=if d%7<5 then d else d+(7-d%7)
def j9 (d:Int):Int×Int:=if 0≤d∧d≤36000∧ro d≤36000 then (ro d,0)else (0,2)
def gC (a n d:Int):Int×Int:=if btw a 0 1000000000000&&btw n 0 1000000&&btw d 1 1000000&&decide ((2*a*n+d) / (2*d)≤1000000000000)then ((2*a*n+d) / (2*d),0)else (0,2)
def dh (t:TTax):Int:=if gJ t then (gC t.Base t.Num t.Den).1 else 0
def jC (t:TTax) (n:Nat):List Int:=(List.range n).filterMap fun (i:Nat)=>if (j9 (t.First+30*t.Every*i)).2=0 then some (j9 (t.First+30*t.Every*i)).1 else none
def mc (t:TTax):List Int:=if gJ t then jC t t.Times.toNat else []
abbrev mD (l:List TTax):AV:= .list 8 (ao TTax.cells l)
theorem mU (l:List TTax):Imm (mD l):=aY _ TTax.imm l
theorem qa (t:TTax):Imm (.agg t.cells):= .agg fun c hc=>t.imm c hc
theorem cTx (t:TTax):t.cells=[.sc (.string t.Code),iv t.Payer,iv t.Base,iv t.Num,iv t.Den,iv t.First,iv t.Every,iv t.Times]:=rfl
theorem ko (n lo hi:Int):PFun Tryz.prog none none 40 [iv n,iv lo,iv hi] (·=bv (btw n lo hi)):=by
 refine ab Tryz.func40 rfl (by simp[Tryz.f40]) (by kernel_rfl) ?_
 intro E hP hr hs hW hN
 by_cases h1:lo≤n<;>by_cases h2:n≤hi<;>simp -dsimp -implicitDefEqProofs [go_sem,hP,h1,h2,btw]
theorem uW (n:Int):PFun Tryz.prog none none 116 [iv n] (·=bv (btw n 0 1000000000000)):=by
 refine ab Tryz.func116 rfl (by simp[Tryz.f116]) (by kernel_rfl) ?_
 intro E hP hr hs hW hN
 by_cases h1:0≤n<;>by_cases h2:n≤1000000000000<;>simp -dsimp -implicitDefEqProofs [go_sem,hP,h1,h2,btw]
theorem AY (n:Int):PFun Tryz.prog none none 242 [iv n] (·=bv (btw n 0 1000000)):=by
 refine ab Tryz.func242 rfl (by simp[Tryz.f242]) (by kernel_rfl) ?_
 intro E hP hr hs hW hN
 by_cases h1:0≤n<;>by_cases h2:n≤1000000<;>simp -dsimp -implicitDefEqProofs [go_sem,hP,h1,h2,btw]
theorem ru (n:Int):PFun Tryz.prog none none 49 [iv n] (·=bv (btw n 0 36000)):=by
 refine ab Tryz.func49 rfl (by simp[Tryz.f49]) (by kernel_rfl) ?_
 intro E hP hr hs hW hN
 by_cases h1:0≤n<;>by_cases h2:n≤36000<;>simp -dsimp -implicitDefEqProofs [go_sem,hP,h1,h2,btw]
theorem GU (n:Int):PFun Tryz.prog none none 243 [iv n] (·=if btw n 0 1000000000000 then .tup [iv n,iv 0]else .tup [iv 0,iv 2]):=by
 refine ab Tryz.func243 rfl (by simp[Tryz.f243]) (by kernel_rfl) ?_
 intro E hP hr hs hW hN
 simp -dsimp -implicitDefEqProofs [go_sem,hP]
 refine ai (uW n) hP jZ (ak (by simp -dsimp[go_sem])) .sc ?_
 cases c:btw n 0 1000000000000
 ·simp -dsimp -implicitDefEqProofs [go_sem,hP]
  exact aw (aj .sc .sc) rfl
 ·simp -dsimp -implicitDefEqProofs [go_sem,hP]
  exact aw (aj .sc .sc) rfl
theorem I2 (t:TTax) (hl:t.Code.size≤1000000):PFun Tryz.prog none none 103 [.agg t.cells] (·=bv (gJ t)):=by
 refine ab Tryz.func103 rfl (by simp[Tryz.f103]) (by kernel_rfl) ?_
 intro E hP hr hs hW hN
 have ip:Imm (aA (fm t.Code)):=by simp[aA,go_sem]
 obtain⟨n,hn⟩:∃n,n=(fm t.Code).length:=⟨_,rfl⟩
 have hc:CM t.Code=decide (0<n):=by rw[hn];rfl
 simp -dsimp -implicitDefEqProofs [go_sem,hP,cTx]
 refine aJ ((P7 t.Code hl).lift _ _) hP Vv (by simp -dsimp[-getElem?_pos,go_sem]) ip ?_
 have hm:(List.map (fun x=>[iv x]) (fm t.Code)).length=n:=by rw[wL,hn]
 by_cases h0:0<n
 rotate_left
 ·have d0:decide (0<n)=false:=zA (by omega)
  have e:gJ t=false:=by rw[gJ,hc,zA h0];rfl
  simp -dsimp -implicitDefEqProofs [go_sem,hP,aA,hm,d0,e]
 have d0:decide (0<n)=true:=zC (by omega)
 have e0:CM t.Code=true:=by rw[hc,zC h0]
 simp -dsimp -implicitDefEqProofs [go_sem,hP,aA,hm,d0]
 refine ai (ko t.Payer 1 1000000) hP CL (ak (by simp -dsimp[go_sem])) .sc ?_
 cases c1:btw t.Payer 1 1000000
 ·have e:gJ t=false:=by simp[gJ,c1]
  simp -dsimp -implicitDefEqProofs [go_sem,hP,e]
 simp -dsimp -implicitDefEqProofs [go_sem,hP]
 refine ai (uW t.Base) hP jZ (ak (by simp -dsimp[go_sem])) .sc ?_
 cases c2:btw t.Base 0 1000000000000
 ·have e:gJ t=false:=by simp[gJ,c2]
  simp -dsimp -implicitDefEqProofs [go_sem,hP,e]
 simp -dsimp -implicitDefEqProofs [go_sem,hP]
 refine ai (ko t.Num 0 t.Den) hP CL (ak (by simp -dsimp[go_sem])) .sc ?_
 cases c3:btw t.Num 0 t.Den
 ·have e:gJ t=false:=by simp[gJ,c3]
  simp -dsimp -implicitDefEqProofs [go_sem,hP,e]
 simp -dsimp -implicitDefEqProofs [go_sem,hP]
 refine ai (ko t.Den 1 1000000) hP CL (ak (by simp -dsimp[go_sem])) .sc ?_
 cases c4:btw t.Den 1 1000000
 ·have e:gJ t=false:=by simp[gJ,c4]
  simp -dsimp -implicitDefEqProofs [go_sem,hP,e]
 simp -dsimp -implicitDefEqProofs [go_sem,hP]
 refine ai (ru t.First) hP s8 (ak (by simp -dsimp[go_sem])) .sc ?_
 cases c5:btw t.First 0 36000
 ·have e:gJ t=false:=by simp[gJ,c5]
  simp -dsimp -implicitDefEqProofs [go_sem,hP,e]
 simp -dsimp -implicitDefEqProofs [go_sem,hP]
 refine ai (ko t.Every 1 60) hP CL (ak (by simp -dsimp[go_sem])) .sc ?_
 cases c6:btw t.Every 1 60
 ·have e:gJ t=false:=by simp[gJ,c6]
  simp -dsimp -implicitDefEqProofs [go_sem,hP,e]
 simp -dsimp -implicitDefEqProofs [go_sem,hP]
 refine ai (ko t.Times 1 60) hP CL (ak (by simp -dsimp[go_sem])) .sc ?_
 have e:gJ t=btw t.Times 1 60:=by simp[gJ,e0,c1,c2,c3,c4,c5,c6]
 simp -dsimp -implicitDefEqProofs [go_sem,hP,e]
theorem E6 (n:Int) (h: -1000000000≤n∧n≤1000000000):PFun Tryz.prog none none 97 [iv n] (·=bv (btw n 0 36000&&decide (n%7<5))):=by
 refine ab Tryz.func97 rfl (by simp[Tryz.f97]) (by kernel_rfl) ?_
 intro E hP hr hs hW hN
 simp -dsimp -implicitDefEqProofs [go_sem,hP]
 refine ai (ru n) hP s8 (ak (by simp -dsimp[go_sem])) .sc ?_
 cases c:btw n 0 36000
 ·simp -dsimp -implicitDefEqProofs [go_sem,hP]
 ·have hc:=kh.1 c
  have ht:n.tmod 7=n%7:=wB hc.1
  simp -dsimp -implicitDefEqProofs [go_sem,hP,ht]
theorem OX (n:Int) (h: -1000000000≤n∧n≤1000000000):PFun Tryz.prog none none 31 [iv n] (·= .tup [iv (j9 n).1,iv (j9 n).2]):=by
 refine ab Tryz.func31 rfl (by simp[Tryz.f31]) (by kernel_rfl) ?_
 intro E hP hr hs hW hN
 simp -dsimp -implicitDefEqProofs [go_sem,hP]
 obtain⟨R,hR⟩:∃R,R=j9 n:=⟨_,rfl⟩
 rw[←hR]
 obtain⟨I,hI⟩:∃I:Nat→St→Prop,I=fun m s=>∃d:Int,m=(36001-d).toNat∧ -1000000000≤d∧d≤1000000000∧j9 d=R∧s.t 0=iv d:=⟨_,rfl⟩
 refine az I ((36001-n).toNat) (by rw[hN];rfl) ?_ ?_
 ·rw[hI]
  exact⟨n,rfl,h.1,h.2,hR.symm,rfl⟩
 intro m s hs'
 rw[hI]at hs'
 obtain⟨d,hm,h1,h2,hd,t0⟩:=hs'
 simp -dsimp -implicitDefEqProofs [go_sem,hP,t0]
 refine ai (ru d) hP s8 (ak (by simp -dsimp[go_sem])) .sc ?_
 cases c:btw d 0 36000
 ·have e:R=(0,2):=by
   rw[←hd,j9,if_neg]
   rintro⟨a,b,_⟩
   rw[kh.2 ⟨a,b⟩]at c
   cases c
  simp -dsimp -implicitDefEqProofs [go_sem,hP,e]
  exact aw (aj .sc .sc) (by rw[e])
 have hc:=kh.1 c
 simp -dsimp -implicitDefEqProofs [go_sem,hP,t0]
 refine ai (E6 d ⟨h1,h2⟩) hP PW (ak (by simp -dsimp[go_sem])) .sc ?_
 rw[c]
 by_cases hb:d%7<5
 ·have e:R=(d,0):=by
   have ho:ro d=d:=by rw[ro,if_pos hb]
   rw[←hd,j9,ho,if_pos ⟨hc.1,hc.2,hc.2⟩]
  have db:=zC hb
  simp -dsimp -implicitDefEqProofs [go_sem,hP,db,e,t0]
  exact aw (aj .sc .sc) (by rw[e])
 ·have db:=zA hb
  have wd:=ae (d+1) (by omega)
  simp -dsimp -implicitDefEqProofs [go_sem,hP,db,t0,wd]
  refine⟨(36001-(d+1)).toNat,by omega,?_⟩
  rw[hI]
  refine⟨d+1,rfl,by omega,by omega,?_,rfl⟩
  rw[←hd,j9,j9]
  have ho:ro (d+1)=ro d:=by
   unfold ro
   repeat' split
   all_goals omega
  have hlt:d+1≤ro d:=by
   unfold ro
   split<;>omega
  rw[ho]
  by_cases hx:ro d≤36000
  ·rw[if_pos ⟨by omega,by omega,hx⟩,if_pos ⟨hc.1,hc.2,hx⟩]
  ·rw[if_neg (fun h=>hx h.2.2),if_neg (fun h=>hx h.2.2)]
theorem OU (a n d:Int):PFun Tryz.prog none none 167 [iv a,iv n,iv d] (·= .tup [iv (gC a n d).1,iv (gC a n d).2]):=by
 refine ab Tryz.func167 rfl (by simp[Tryz.f167]) (by kernel_rfl) ?_
 intro E hP hr hs hW hN
 simp -dsimp -implicitDefEqProofs [go_sem,hP]
 refine ai (uW a) hP jZ (ak (by simp -dsimp[go_sem])) .sc ?_
 cases c1:btw a 0 1000000000000
 ·have e:gC a n d=(0,2):=by simp[gC,c1]
  simp -dsimp -implicitDefEqProofs [go_sem,hP,e]
  exact aw (aj .sc .sc) (by rw[e])
 simp -dsimp -implicitDefEqProofs [go_sem,hP]
 refine ai (AY n) hP Ri (ak (by simp -dsimp[go_sem])) .sc ?_
 cases c2:btw n 0 1000000
 ·have e:gC a n d=(0,2):=by simp[gC,c2]
  simp -dsimp -implicitDefEqProofs [go_sem,hP,e]
  exact aw (aj .sc .sc) (by rw[e])
 simp -dsimp -implicitDefEqProofs [go_sem,hP]
 refine ai (AY d) hP Ri (ak (by simp -dsimp[go_sem])) .sc ?_
 cases c3:btw d 0 1000000
 ·have e:gC a n d=(0,2):=by
   have:btw d 1 1000000=false:=JP fun h=>by rw[kh.2 ⟨by omega,h.2⟩]at c3;cases c3
   simp[gC,this]
  simp -dsimp -implicitDefEqProofs [go_sem,hP,e]
  exact aw (aj .sc .sc) (by rw[e])
 by_cases c4:d=0
 ·have e:gC a n d=(0,2):=by
   have:btw d 1 1000000=false:=JP fun h=>by omega
   simp[gC,this]
  simp -dsimp -implicitDefEqProofs [go_sem,hP,c4]
  subst c4
  exact aw (aj .sc .sc) (by rw[e])
 have d4:=zA c4
 obtain⟨a1,a2⟩:=kh.1 c1
 obtain⟨b1,b2⟩:=kh.1 c2
 obtain⟨e1,e2⟩:=kh.1 c3
 have c3':btw d 1 1000000=true:=kh.2 ⟨by omega,e2⟩
 have hm0:0≤2*a*n:=Int.mul_nonneg (by omega) b1
 have hm1:2*a*n≤2000000000000000000:=by
  have:=Int.mul_le_mul (show 2*a≤2000000000000 by omega) b2 b1 (by omega)
  omega
 have w1:=ae (2*a) (by omega)
 have w2:=ae (2*a*n) (by omega)
 have w3:=ae (2*a*n+d) (by omega)
 have w4:=ae (2*d) (by omega)
 have hnz:¬2*d=0:=by omega
 have ht:(2*a*n+d).tdiv (2*d)=(2*a*n+d) / (2*d):=Int.tdiv_eq_ediv_of_nonneg (by omega)
 have hq0:0≤(2*a*n+d) / (2*d):=Int.ediv_nonneg (by omega) (by omega)
 have hq1:(2*a*n+d) / (2*d)≤2*a*n+d:=Int.ediv_le_self _ (by omega)
 have w5:=ae ((2*a*n+d) / (2*d)) (by omega)
 obtain⟨q,hq⟩:∃q,q=(2*a*n+d) / (2*d):=⟨_,rfl⟩
 have es:gC a n d=if q≤1000000000000 then (q,0)else (0,2):=by simp[gC,c1,c2,c3',←hq]
 rw[←hq]at ht w5 hq0
 obtain⟨S,hS⟩:∃S,S=gC a n d:=⟨_,rfl⟩
 rw[←hS]at es⊢
 simp -dsimp -implicitDefEqProofs [go_sem,hP,d4,w1,w2,w3,w4,Bb hnz,ht,w5]
 have ck:=GU q
 by_cases h9:q≤1000000000000
 ·rw[if_pos (kh.2 ⟨hq0,h9⟩)]at ck
  rw[if_pos h9]at es
  refine af ck hP QE (by simp -dsimp[-getElem?_pos,go_sem]) (aj .sc .sc) ?_
  simp -dsimp -implicitDefEqProofs [go_sem,hP,es]
  exact aw (aj .sc .sc) (by rw[es])
 ·rw[JP (fun h=>h9 h.2),if_neg (by simp)]at ck
  rw[if_neg h9]at es
  refine af ck hP QE (by simp -dsimp[-getElem?_pos,go_sem]) (aj .sc .sc) ?_
  simp -dsimp -implicitDefEqProofs [go_sem,hP,es]
  exact aw (aj .sc .sc) (by rw[es])
open Go.PA
open Go.RowKit
theorem Nm {H:ah} (k:Nat) {Q:AV→Prop} {b:Bx Q} (hq:Q (.list k [])):jh H .nil Q b:=eU .nil (dv.2 (by simp)) (.nil k) hq
theorem sI {t:TTax}:gJ t=true↔CM t.Code=true∧(1≤t.Payer∧t.Payer≤1000000)∧(0≤t.Base∧t.Base≤1000000000000)∧(0≤t.Num∧t.Num≤t.Den)∧(1≤t.Den∧t.Den≤1000000)∧(0≤t.First∧t.First≤36000)∧(1≤t.Every∧t.Every≤60)∧(1≤t.Times∧t.Times≤60):=by
 simp[gJ,btw,and_assoc]
theorem JV (t:TTax) (hl:t.Code.size≤1000000):PFun Tryz.prog none none 104 [.agg t.cells] (·=iv (dh t)):=by
 refine ab Tryz.func104 rfl (by simp[Tryz.f104]) (by kernel_rfl) ?_
 intro E hP hr hs hW hN
 have tx:=I2 t hl
 have it:=qa t
 rw[cTx]at tx it
 simp -dsimp -implicitDefEqProofs [go_sem,hP,cTx]
 refine af tx hP I4 (by simpa using it) .sc ?_
 cases c:gJ t
 ·have e:dh t=0:=by simp[dh,c]
  simp -dsimp -implicitDefEqProofs [go_sem,hP,e]
 have e:dh t=(gC t.Base t.Num t.Den).1:=by simp[dh,c]
 simp -dsimp -implicitDefEqProofs [go_sem,hP]
 refine aJ ((OU t.Base t.Num t.Den).lift _ _) hP Vu (by simp -dsimp[-getElem?_pos,go_sem]) (aj .sc .sc) ?_
 simp -dsimp -implicitDefEqProofs [go_sem,hP,e]
theorem Gh (t:TTax) (n:Nat):jC t (n+1)=jC t n++if (j9 (t.First+30*t.Every*n)).2=0 then [(j9 (t.First+30*t.Every*n)).1]else []:=by
 rw[jC,List.range_succ,List.filterMap_append]
 congr 1
 by_cases h:(j9 (t.First+30*t.Every*n)).2=0<;>simp[h]
theorem zf (t:TTax) (n:Nat):(jC t n).length≤n:=by
 have:=List.length_filterMap_le (fun (i:Nat)=>if (j9 (t.First+30*t.Every*i)).2=0 then some (j9 (t.First+30*t.Every*i)).1 else none) (List.range n)
 rwa[List.length_range]at this
theorem Ql (t:TTax) (hl:t.Code.size≤1000000):PFun Tryz.prog none none 105 [.agg t.cells] (·=aA (mc t)):=by
 refine ab Tryz.func105 rfl (by simp[Tryz.f105]) (by kernel_rfl) ?_
 intro E hP hr hs hW hN
 have tx:=I2 t hl
 have it:=qa t
 rw[cTx]at tx it
 simp -dsimp -implicitDefEqProofs [go_sem,hP,cTx]
 refine af tx hP I4 (by simpa using it) .sc ?_
 cases c:gJ t
 ·have e:mc t=[]:=by simp[mc,c]
  simp -dsimp -implicitDefEqProofs [go_sem,hP]
  rw[e]
  exact Nm 1 rfl
 obtain⟨_,_,_,_,_,⟨f1,f2⟩,⟨v1,v2⟩,⟨n1,n2⟩⟩:=sI.1 c
 obtain⟨n,hn⟩:∃n:Nat,n=t.Times.toNat:=⟨_,rfl⟩
 have hT:t.Times=n:=by omega
 have e:mc t=jC t n:=by simp[mc,c,hn]
 rw[e]
 simp -dsimp -implicitDefEqProofs [go_sem,hP,hT]
 refine cV 3 3 1 rfl ?_
 obtain⟨I,hI⟩:∃I:Nat→St→Prop,I=fun m s=>∃k id:Nat,k≤n∧m=n-k∧¬id=0∧s.t 1= .ref 0 0 0∧s.t 11=iv n∧s.t 12=iv k∧s.t 3= .sref id 0 (jC t k).length∧s.H[0]?=some (some ⟨103,8,[[.sc (.string t.Code),iv t.Payer,iv t.Base,iv t.Num,iv t.Den,iv t.First,iv t.Every,iv n]]⟩)∧s.H[id]?=some (some ⟨3,1,(jC t k).map fun x=>[iv x]⟩):=⟨_,rfl⟩
 refine E4 3 hW I (n) (by rw[hN];rfl) ?_ ?_
 ·rw[hI]
  exact⟨0,1,by omega,by omega,by omega,rfl,rfl,rfl,by simp -dsimp[-getElem?_pos,go_sem,jC],rfl,by simp -dsimp[-getElem?_pos,go_sem,jC]⟩
 intro m s hs'
 rw[hI]at hs'
 obtain⟨k,id,hk,hm,hid,t1,t11,t12,t3,h0,hH⟩:=hs'
 have lt0:=(gsI h0)
 have ltH:=(gsI hH)
 simp -dsimp -implicitDefEqProofs [go_sem,hP,t11,t12]
 refine aB ?_ ?_<;>intro h
 ·have hk:k<n:=by simpa using h
  have wk:=ae ((k:Int)+1) (by omega)
  have p1:(0:Int)≤30*t.Every*k:=Int.mul_nonneg (by omega) (by omega)
  have p2:30*t.Every*k≤1800*60:=Int.mul_le_mul (by omega) (by omega) (by omega) (by omega)
  have w1:=ae (30*t.Every) (by omega)
  have w2:=ae (30*t.Every*k) (by omega)
  have w3:=ae (t.First+30*t.Every*k) (by omega)
  obtain⟨d,hd⟩:∃d,d=j9 (t.First+30*t.Every*k):=⟨_,rfl⟩
  have np:=OX (t.First+30*t.Every*k) (by omega)
  rw[←hd]at np
  have sn:=Gh t k
  rw[←hd]at sn
  obtain⟨es,hes⟩:∃es,es=jC t k:=⟨_,rfl⟩
  have el:=zf t k
  rw[←hes]at sn t3 hH el
  simp -dsimp -implicitDefEqProofs [-getElem?_pos,go_sem,hP,t12,t1,h0,lt0,w1,w2,w3]
  refine af np hP OZ (by simp -dsimp[-getElem?_pos,go_sem]) (aj .sc .sc) ?_
  by_cases h2:d.2=0
  ·rw[if_pos h2]at sn
   simp -dsimp -implicitDefEqProofs [-getElem?_pos,go_sem,hP,h2,t3,hH,ltH,t12,wk]
   refine⟨by omega,by omega,n-(k+1),by omega,?_⟩
   rw[hI]
   refine⟨k+1,s.H.length,by omega,rfl,by omega,t1,t11,rfl,by simp -dsimp[-getElem?_pos,go_sem,sn],by simp -dsimp[-getElem?_pos,go_sem,lt0,h0,hid],?_⟩
   simp -dsimp -implicitDefEqProofs [go_sem,sn]
  ·rw[if_neg h2,wY]at sn
   have d2:=zA h2
   simp -dsimp -implicitDefEqProofs [go_sem,hP,d2,t12,wk]
   refine⟨n-(k+1),by omega,?_⟩
   rw[hI]
   exact⟨k+1,id,by omega,rfl,hid,t1,t11,rfl,by simp -dsimp[go_sem,t3,sn],h0,by simp -dsimp[go_sem,hH,sn]⟩
 ·have hk:k=n:=by simp at h;omega
  subst hk
  simp -dsimp -implicitDefEqProofs [go_sem,hP]
  refine frz id (jC t k).length 3 1 ((jC t k).map fun x=>[iv x]) t3 hH (by simp) (by simp[go_sem]) ?_
  simp -dsimp -implicitDefEqProofs [go_sem,hP]
  exact aw (by simp[aA,go_sem]) rfl
open Go.PA
open Go.RowKit
theorem ER (l:List TTax) (g:FuncId) (caps:List AV) (p:TTax→Bool) (hl:l.length≤1000000) (hen:aa Tryz.prog g=true) (hcap:∀a,a∈caps→Imm a)
  (hg:∀a,a∈l→PFun Tryz.prog none none g (.agg (TTax.cells a)::caps) (·=bv (p a))):
  PFun Tryz.prog none none 165 [.list 8 (ao TTax.cells l),.fn g caps] (·=iv (fD p l)):=by
 refine ab Tryz.func165 rfl (by simp[Tryz.f165]) (by kernel_rfl) ?_
 intro E hP hr hs hW hN
 simp[go_sem,hP]
 obtain⟨I,hI⟩:∃I:Nat→St→Prop,I=fun m s=>∃k:Nat,k≤l.length∧m=l.length-k∧fD p l=bE p k (l.drop k)∧s.t 0= .list 8 (ao TTax.cells l)∧s.t 1= .fn g caps∧s.t 7=iv l.length∧s.t 8=iv k:=⟨_,rfl⟩
 refine az I (l.length) (by rw[hN];rfl) ?_ ?_
 ·rw[hI]
  exact⟨0,by omega,by omega,by simp[fD],rfl,rfl,rfl,rfl⟩
 intro m s hs'
 rw[hI]at hs'
 obtain⟨k,hk,hm,hi,t0,t1,t7,t8⟩:=hs'
 simp[go_sem,hP,t7,t8]
 refine aB ?_ ?_<;>intro h
 ·have hk:k<l.length:=by simpa using h
  obtain⟨a,ha⟩:=gkE hk
  have wk:=ae ((k:Int)+1) (by omega)
  have hz:(TTax.cells a).take 8=TTax.cells a:=zQ (by rw[TTax.len];omega)
  have hd:l.drop k=a::l.drop (k+1):=by
   rw[zF hk]at ha
   rw[wE hk,wT ha]
  simp[go_sem,hP,t8,t1,t0,ha,TTax.len,hz]
  refine aJ ((hg a (zE ha)).lift _ _) hP hen (fun x hx=>?_) .sc ?_
  ·rcases zO.1 hx with rfl|hx
   ·exact bH.2 (TTax.imm a)
   ·exact hcap x hx
  rw[hd]at hi
  simp only[bE]at hi
  simp[go_sem,hP]
  refine aB ?_ ?_<;>intro hp
  ·rw[if_pos hp]at hi
   simp[go_sem,hP]
   exact hi.symm
  ·rw[hp,if_neg (by simp)]at hi
   simp[go_sem,hP,t8,wk]
   refine⟨l.length-(k+1),by omega,?_⟩
   rw[hI]
   exact⟨k+1,by omega,rfl,hi,t0,t1,t7,rfl⟩
 ·have hk:k=l.length:=by simp at h;omega
  subst hk
  rw[wG]at hi
  simp[go_sem,hP]
  exact hi.symm
theorem yA (l:List TTax) (g:FuncId) (caps:List AV) (p:TTax→Bool) (hl:l.length≤1000000) (hen:aa Tryz.prog g=true) (hcap:∀a,a∈caps→Imm a)
  (hg:∀a,a∈l→PFun Tryz.prog none none g (.agg (TTax.cells a)::caps) (·=bv (p a))):
  PFun Tryz.prog none none 101 [.list 8 (ao TTax.cells l),.fn g caps] (·=bv (l.any p)):=by
 refine ab Tryz.func101 rfl (by simp[Tryz.f101]) (by kernel_rfl) ?_
 intro E hP hr hs hW hN
 obtain⟨w,hw⟩:∃w,w=l.any p:=⟨_,rfl⟩
 rw[←hw]
 have hi:∀a,a∈[AV.list 8 (ao TTax.cells l),.fn g caps]→Imm a:=fun a ha=>by
  simp only[zO,wC,or_false]at ha
  rcases ha with rfl|rfl
  ·exact aY _ TTax.imm _
  ·exact gz.2 hcap
 simp[go_sem,hP]
 refine aJ ((ER l g caps p hl hen hcap hg).lift _ _) hP Vb hi .sc ?_
 rcases dF p l with⟨h1,h2⟩|⟨i,a,h1,h2,h3,_⟩
 ·have:w=false:=by rw[hw];exact List.any_eq_false.2 fun a ha=>by simp[h2 a ha]
  simp[go_sem,hP,h1,this]
 ·have d:decide ((0:Int)≤(i:Int))=true:=zC (by omega)
  have:w=true:=by rw[hw];exact vL.2 ⟨a,zE h1,h2⟩
  simp[go_sem,hP,h3,d,this]
def SG (l:List TTax):Prop:=∀t,t∈l→t.Code.size≤1000000
def je (l:List TTax):Int:=if 20<l.length then 3 else if l.any fun t=>!gJ t then 71 else 0
theorem HT (t:TTax) (hl:t.Code.size≤1000000):PFun Tryz.prog none none 102 [.agg t.cells] (·=bv (!gJ t)):=by
 refine ab Tryz.func102 rfl (by simp[Tryz.f102]) (by kernel_rfl) ?_
 intro E hP hr hs hW hN
 have tx:=I2 t hl
 have it:=qa t
 rw[cTx]at tx it
 simp[go_sem,hP,cTx]
 refine af tx hP I4 (by simpa using it) .sc ?_
 simp[go_sem,hP]
theorem Mu (l:List TTax) (hf:SG l) (hl:l.length≤1000000):PFun Tryz.prog none none 37 [mD l] (·=iv (je l)):=by
 refine ab Tryz.func37 rfl (by simp[Tryz.f37]) (by kernel_rfl) ?_
 intro E hP hr hs hW hN
 by_cases h1:20<l.length
 ·have d1:decide (20<(l.length:Int))=true:=zC (by omega)
  have e:je l=3:=by rw[je,if_pos h1]
  simp[go_sem,hP,d1,e]
 have d1:decide (20<(l.length:Int))=false:=zA (by omega)
 have e:je l=if l.any fun t=>!gJ t then 71 else 0:=by rw[je,if_neg h1]
 have ct:=yA l 102 [] (fun t=>!gJ t) hl TV (by simp) (fun t ht=>HT t (hf t ht))
 simp[go_sem,hP,d1]
 refine af ct hP U4 (by simp[gz];exact mU l) .sc ?_
 cases c:l.any fun t=>!gJ t
 ·rw[c]at e
  simp[go_sem,hP]
  rw[e];rfl
 ·rw[c]at e
  simp[go_sem,hP]
  rw[e];rfl
abbrev u5 (l:List TFlow):AV:= .list 4 (ao TFlow.cells l)
theorem ww (l:List TFlow):Imm (u5 l):=aY _ TFlow.imm l
theorem cFl (x:TFlow):x.cells=[iv x.Day,iv x.Amount,iv x.Kind,iv x.Ref]:=rfl
def rh (a b:TFlow):Bool:=decide (a.Day<b.Day)
theorem LR:SOrd rh:=⟨fun a b h=>by simp[rh]at h⊢;omega,fun a b c h1 h2=>by simp[rh]at h1 h2⊢;omega⟩
theorem Lu (a b:TFlow):PFun Tryz.prog none none 106 [.agg a.cells,.agg b.cells] (fun r=>∃i:Int,r=iv i∧decide (i<0)=rh a b):=by
 refine ab Tryz.func106 rfl (by simp[Tryz.f106]) (by kernel_rfl) ?_
 intro E hP hr hs hW hN
 simp[go_sem,hP,cFl]
 refine ai (fe a.Day b.Day) hP rj (ak (by simp[go_sem])) .sc ?_
 simp[go_sem,hP]
 unfold rh
 rw[decide_eq_decide]
 simp only[jg]
 repeat' split
 all_goals omega
theorem WO:oB TFlow.cells rh 106:=⟨TFlow.len,fun a c hc=>⟨a.imm c hc,zS.1 a.cel c hc⟩,UR,Lu⟩
def pg (w:TTax→Int→Bool) (t:TTax) (i:Nat) (ds:List Int):List TFlow:=(ds.filter fun d=>decide (0<dh t)&&w t d).map fun d=>⟨d,dh t,3,i⟩
def mZ (w:TTax→Int→Bool):Nat→List TTax→List TFlow
 |_,[]=>[]
 |i,t::l=>pg w t i (mc t)++mZ w (i+1) l
def kQ (w:TTax→Int→Bool) (l:List TTax):List TFlow:=dx rh (mZ w 0 l)
theorem CO (w:TTax→Int→Bool):∀(l:List TTax) (i:Nat) (t:TTax),mZ w i (l++[t])=mZ w i l++pg w t (i+l.length) (mc t)
 |[],i,t=>by simp[mZ]
 |a::l,i,t=>by
  rw[vX,mZ,mZ,CO w l (i+1) t]
  simp only[vJ,wI]
  rw[show i+1+l.length=i+(l.length+1) by omega]
theorem MP (w:TTax→Int→Bool) (t:TTax) (i:Nat) (ds:List Int) (d:Int):pg w t i (ds++[d])=pg w t i ds++if decide (0<dh t)&&w t d then [⟨d,dh t,3,i⟩]else []:=by
 unfold pg
 rw[List.filter_append,List.map_append]
 congr 1
 cases h:decide (0<dh t)&&w t d<;>simp[h]
theorem GG (w:TTax→Int→Bool) (t:TTax) (i:Nat) (ds:List Int):(pg w t i ds).length≤ds.length:=by
 rw[pg,wL];exact List.length_filter_le _ _
theorem Dd (t:TTax):(mc t).length≤60:=by
 unfold mc
 split
 ·rename_i h
  obtain⟨_,_,_,_,_,_,_,_,h8⟩:=sI.1 h
  have:=zf t t.Times.toNat
  omega
 ·simp
theorem sZ (w:TTax→Int→Bool):∀(l:List TTax) (i:Nat),(mZ w i l).length≤60*l.length
 |[],_=>by simp[mZ]
 |t::l,i=>by
  rw[mZ,zK,wI]
  have h1:=GG w t i (mc t)
  have h2:=Dd t
  have h3:=sZ w l (i+1)
  omega
set_option maxHeartbeats 2000000 in
theorem Mz (w:TTax→Int→Bool) (gw:FuncId) (caps:List AV) (l:List TTax) (hf:SG l) (hl:l.length≤1000) (hen:aa Tryz.prog gw=true) (hcap:∀a,a∈caps→Imm a)
  (hw:∀t,t∈l→∀d,PFun Tryz.prog none none gw (.agg t.cells::iv d::caps) (·=bv (w t d))):
  PFun Tryz.prog none none 38 [mD l,.fn gw caps] (·=u5 (kQ w l)):=by
 refine ab Tryz.func38 rfl (by simp[Tryz.f38]) (by kernel_rfl) ?_
 intro E hP hr hs hW hN
 simp -dsimp -implicitDefEqProofs [go_sem,hP]
 refine cV 5 97 4 rfl ?_
 obtain⟨I,hI⟩:∃I:Nat→St→Prop,I=fun m s=>∃k id:Nat,k≤l.length∧m=l.length-k∧s.t 1= .fn gw caps∧s.t 5= .sref id 0 (mZ w 0 (l.take k)).length∧s.t 11=mD l∧s.t 12=iv l.length∧s.t 13=iv k∧s.H[id]?=some (flO TFlow.cells (mZ w 0 (l.take k))):=⟨_,rfl⟩
 refine az I (l.length) (by rw[hN];rfl) ?_ ?_
 ·rw[hI]
  exact⟨0,0,by omega,by omega,rfl,by simp -dsimp[-getElem?_pos,go_sem,mZ],rfl,rfl,rfl,by simp -dsimp[-getElem?_pos,go_sem,mZ]⟩
 intro m s hs'
 rw[hI]at hs'
 obtain⟨k,id,hk,hm,t1,t5,t11,t12,t13,hH⟩:=hs'
 have ltH:=(gsI hH)
 subst hm
 simp -dsimp -implicitDefEqProofs [go_sem,hP,t12,t13]
 refine aB ?_ ?_<;>intro h
 ·have hk:k<l.length:=by simpa using h
  obtain⟨t,ht⟩:=gkE hk
  have htl:=zE ht
  have wk:=ae ((k:Int)+1) (by omega)
  have ta:=JV t (hf t htl)
  have td:=Ql t (hf t htl)
  have it:=qa t
  have hwt:=hw t htl
  obtain⟨A,hA⟩:∃A,A=dh t:=⟨_,rfl⟩
  obtain⟨ds,hds⟩:∃ds,ds=mc t:=⟨_,rfl⟩
  have lds:=Dd t
  rw[←hA]at ta
  rw[←hds]at td lds
  rw[cTx]at ta td it
  obtain⟨raw,hraw⟩:∃raw,raw=mZ w 0 (l.take k):=⟨_,rfl⟩
  rw[←hraw]at t5 hH
  have lraw:=sZ w (l.take k) 0
  rw[←hraw,zY]at lraw
  have esn:mZ w 0 (l.take (k+1))=raw++pg w t k ds:=by
   rw[DU ht,CO,←hraw,←hds,zY,vR,Nat.min_eq_left (by omega)]
  have iD:Imm (aA ds):=by simp[aA,go_sem]
  obtain⟨nb,hnb⟩:∃nb,nb=s.H.length:=⟨_,rfl⟩
  have gnb:∀x:Option AObj,(s.H++[x])[nb]?=some x:=fun x=>by rw[hnb];simp
  have gid:∀x:Option AObj,(s.H++[x])[id]?=s.H[id]?:=fun x=>zD ltH
  simp -dsimp -implicitDefEqProofs [go_sem,hP,t13,t11,ht,cTx]
  rw[←hnb]
  refine af ta hP Uf (by simpa using it) .sc ?_
  simp -dsimp -implicitDefEqProofs [go_sem,hP,gnb]
  refine af td hP TW (by simpa using it) iD ?_
  simp -dsimp -implicitDefEqProofs [go_sem,hP,aA]
  obtain⟨J,hJ⟩:∃I:Nat→St→Prop,I=fun m s=>∃j id:Nat,j≤ds.length∧m=ds.length-j∧¬id=nb∧s.t 1= .fn gw caps∧s.t 5= .sref id 0 (raw++pg w t k (ds.take j)).length∧s.t 6=iv k∧s.t 7= .ref nb 0 0∧s.t 8=iv A∧s.t 11=mD l∧s.t 12=iv l.length∧s.t 13=iv k∧s.t 21= .list 1 (ds.map fun x=>[iv x])∧s.t 22=iv ds.length∧s.t 23=iv j∧s.H[nb]?=some (some ⟨103,8,[[.sc (.string t.Code),iv t.Payer,iv t.Base,iv t.Num,iv t.Den,iv t.First,iv t.Every,iv t.Times]]⟩)∧s.H[id]?=some (flO TFlow.cells (raw++pg w t k (ds.take j))):=⟨_,rfl⟩
  refine az J (ds.length) (by rw[hN];rfl) ?_ ?_
  ·rw[hJ]
   exact⟨0,id,by omega,by omega,by omega,t1,by simp -dsimp[go_sem,t5,pg],rfl,rfl,rfl,t11,t12,t13,rfl,rfl,rfl,by simp -dsimp[-getElem?_pos,go_sem,gnb],by simp -dsimp[go_sem,gid,hH,pg]⟩
  clear t1 t5 t11 t12 t13 hH ltH gnb gid hnb h s
  intro m s hs'
  rw[hJ]at hs'
  obtain⟨j,id,hj,hm,hne,t1,t5,t6,t7,t8,t11,t12,t13,t21,t22,t23,hB,hH⟩:=hs'
  have ltH:=(gsI hH)
  have ltB:=(gsI hB)
  subst hm
  obtain⟨cur,hcur⟩:∃cur,cur=raw++pg w t k (ds.take j):=⟨_,rfl⟩
  rw[←hcur]at t5 hH
  have lcur:cur.length≤60060:=by
   have:=GG w t k (ds.take j)
   rw[zY]at this
   rw[hcur,zK]
   omega
  simp -dsimp -implicitDefEqProofs [go_sem,hP,t22,t23]
  refine aB ?_ ?_<;>intro h
  ·have hj:j<ds.length:=by simpa using h
   obtain⟨d,hd⟩:=gkE hj
   have wj:=ae ((j:Int)+1) (by omega)
   have sn:=MP w t k (ds.take j) d
   rw[←DU hd,←hA]at sn
   have sn2:raw++pg w t k (ds.take (j+1))=cur++if decide (0<A)&&w t d then [⟨d,A,3,k⟩]else []:=by rw[sn,hcur,vJ]
   have nxt:∀(s':St) (id':Nat) (c':List TFlow),c'=raw++pg w t k (ds.take (j+1))→¬id'=nb→s'.t 1= .fn gw caps→s'.t 5= .sref id' 0 c'.length→s'.t 6=iv k→s'.t 7= .ref nb 0 0→s'.t 8=iv A→s'.t 11=mD l→s'.t 12=iv l.length→s'.t 13=iv k→s'.t 21= .list 1 (ds.map fun x=>[iv x])→s'.t 22=iv ds.length→s'.t 23=iv ((j:Int)+1)→s'.H[nb]?=s.H[nb]?→s'.H[id']?=some (flO TFlow.cells c')→∃n',n'<ds.length-j∧J n' s':=fun s' id' c' hc' b1 b2 b3 b4 b5 b6 b7 b8 b9 b10 b11 b12 b13 b14=>by
    refine⟨ds.length-(j+1),by omega,?_⟩
    rw[hJ]
    exact⟨j+1,id',by omega,rfl,b1,b2,by rw[←hc'];exact b3,b4,b5,b6,b7,b8,b9,b10,b11,b12.trans rfl,b13.trans hB,by rw[←hc'];exact b14⟩
   simp -dsimp -implicitDefEqProofs [go_sem,hP,t21,t23,hd,t8]
   by_cases ha:0<A
   ·have da:=zC ha
    have hwd:=hwt d
    rw[cTx]at hwd
    simp -dsimp -implicitDefEqProofs [-getElem?_pos,go_sem,hP,da,t1,t7,hB,ltB]
    refine af hwd hP hen (fun x hx=>?_) .sc ?_
    ·rcases zO.1 hx with rfl|hx
     ·exact it
     ·rcases zO.1 hx with rfl|hx
      ·exact .sc
      ·exact hcap x hx
    cases hwv:w t d
    ·rw[hwv,vM,if_neg (by simp),wY]at sn2
     simp -dsimp -implicitDefEqProofs [go_sem,hP,da,t23,wj]
     exact nxt _ id cur sn2.symm hne t1 t5 t6 t7 t8 t11 t12 t13 t21 t22 rfl rfl hH
    ·rw[hwv,da,if_pos (by simp)]at sn2
     simp -dsimp -implicitDefEqProofs [-getElem?_pos,go_sem,hP,da,t5,t8,t6,hH,ltH,t23,wj,cFl]
     refine⟨by omega,by omega,nxt _ s.H.length (cur++[⟨d,A,3,k⟩]) sn2.symm (by omega) t1 (by simp -dsimp[-getElem?_pos,go_sem]) t6 t7 t8 t11 t12 t13 t21 t22 rfl ?_ ?_⟩
     ·rw[zD (by rw[wX];exact ltB),zH hne]
     ·rw[zN (by rw[wX];omega),wX,Nat.sub_self]
      simp[ao,cFl]
   ·have da:=zA ha
    rw[da,zJ,if_neg (by simp),wY]at sn2
    simp -dsimp -implicitDefEqProofs [go_sem,hP,da,t23,wj]
    exact nxt _ id cur sn2.symm hne t1 t5 t6 t7 t8 t11 t12 t13 t21 t22 rfl rfl hH
  ·have hje:j=ds.length:=by
    have:¬j<ds.length:=by simpa using h
    omega
   subst hje
   rw[zT]at hcur
   simp -dsimp -implicitDefEqProofs [go_sem,hP,t13,wk]
   refine⟨l.length-(k+1),by omega,?_⟩
   rw[hI]
   refine⟨k+1,id,by omega,rfl,t1,by rw[esn,←hcur];simp -dsimp -implicitDefEqProofs [go_sem,t5],t11,t12,rfl,?_⟩
   rw[esn,←hcur]
   exact hH
 ·have hke:k=l.length:=by
   have:¬k<l.length:=by simpa using h
   omega
  subst hke
  rw[zT]at t5 hH
  obtain⟨raw,hraw⟩:∃raw,raw=mZ w 0 l:=⟨_,rfl⟩
  have lraw:=sZ w l 0
  rw[←hraw]at t5 hH lraw
  have so:=mw (row:=E.row) (src:=E.src) TFlow.cells rh 106 WO LR raw s.H id raw.length rfl (by omega) hH
  simp -dsimp -implicitDefEqProofs [go_sem,hP,t5]
  refine aI so hP Xg ?_
  rintro r H' rfl
  simp -dsimp -implicitDefEqProofs [go_sem,hP,t5]
  have tk:((ao TFlow.cells (dx rh raw)).drop 0).take raw.length=ao TFlow.cells (dx rh raw):=by rw[vW,zQ (by simp[ao,eu])]
  refine done (x:=u5 (kQ w l)) ?_ rfl ?_<;>rw[fo,wK (gsI hH),dQ,tk]
  ·exact ww _
  ·rw[kQ,←hraw]
open Go.PA
open Go.RowKit
def fj (l:List TTax) (a b:Int):List TFlow×Int:=if je l=0 then (if (kQ (fun _ d=>btw d a b) l).length≤400 then (kQ (fun _ d=>btw d a b) l,0)else ([],3))else ([],je l)
theorem Jn {l:List TTax} (h:je l=0):l.length≤20∧∀t,t∈l→gJ t=true:=by
 unfold je at h
 split at h
 ·cases h
 ·rename_i hl
  split at h
  ·cases h
  ·rename_i ha
   refine⟨by omega,fun t ht=>?_⟩
   cases ht':gJ t
   ·exact absurd (vL.2 ⟨t,ht,by simp[ht']⟩) ha
   ·rfl
theorem Mb {l:List TTax} (h1:l.length≤20) (h2:∀t,t∈l→gJ t=true):je l=0:=by
 rw[je,if_neg (by omega),if_neg]
 intro h
 obtain⟨t,ht,he⟩:=vL.1 h
 rw[h2 t ht]at he
 cases he
theorem A7 (w:TTax→Int→Bool) (l:List TTax):(kQ w l).length≤60*l.length:=by rw[kQ,eu];exact sZ w l 0
theorem O7 (t:TTax) (d a b:Int):PFun Tryz.prog none none 39 [.agg t.cells,iv d,.iref [iv a],.iref [iv b]] (·=bv (btw d a b)):=by
 refine ab Tryz.func39 rfl (by simp[Tryz.f39]) (by kernel_rfl) ?_
 intro E hP hr hs hW hN
 simp[go_sem,hP,cTx]
 refine ai (ko d a b) hP CL (ak (by simp[go_sem])) .sc ?_
 simp[go_sem,hP]
theorem EV (l:List TTax) (hf:SG l) (hl:l.length≤1000000) (a b:Int):PFun Tryz.prog none none 8 [mD l,iv a,iv b] (·= .tup [u5 (fj l a b).1,iv (fj l a b).2]):=by
 refine ab Tryz.func8 rfl (by simp[Tryz.f8]) (by kernel_rfl) ?_
 intro E hP hr hs hW hN
 have it:=mU l
 obtain⟨R,hR⟩:∃R,R=fj l a b:=⟨_,rfl⟩
 rw[←hR]
 simp[go_sem,hP]
 refine aJ ((Mu l hf hl).lift _ _) hP WB (by simpa using it) .sc ?_
 by_cases c:je l=0
 rotate_left
 ·have e:R=([],je l):=by rw[hR,fj,if_neg c]
  have d:=zA c
  simp[go_sem,hP,d]
  exact aK 4 (by rw[e];rfl)
 obtain⟨l20,_⟩:=Jn c
 have fl:=Mz (fun _ d=>btw d a b) 39 [.iref [iv a],.iref [iv b]] l hf (by omega) Xf (by simp[cY,an]) (fun t _ d=>O7 t d a b)
 obtain⟨fs,hfs⟩:∃fs,fs=kQ (fun _ d=>btw d a b) l:=⟨_,rfl⟩
 have lf:=A7 (fun _ d=>btw d a b) l
 rw[fj,if_pos c]at hR
 rw[←hfs]at fl lf hR
 simp[go_sem,hP,c]
 refine mL (fl.lift _ _) hP hW Wj (aL it (jO (cs:=[.ref 0 0 0,.ref 1 0 0]) (by simp -dsimp[-getElem?_pos,go_sem,ij]) (by simp[cY,an]) (aZ.2 trivial))) (ww _) ?_
 by_cases h4:fs.length≤400
 ·have d:decide ((400:Int)<(fs.length:Int))=false:=zA (by omega)
  rw[if_pos h4]at hR
  simp[go_sem,hP,d]
  exact aw (aj (ww _) .sc) (by rw[hR])
 ·have d:decide ((400:Int)<(fs.length:Int))=true:=zC (by omega)
  rw[if_neg h4]at hR
  simp[go_sem,hP,d]
  exact aK 4 (by rw[hR];rfl)
theorem IE (t:TTax):0≤dh t∧dh t≤1000000000000:=by
 unfold dh
 split
 ·rename_i h
  obtain⟨_,_,h3,h4,h5,_⟩:=sI.1 h
  unfold gC
  split
  ·rename_i hs
   simp only[zG,zI]at hs
   refine⟨Int.ediv_nonneg ?_ (by omega),hs.2⟩
   have:0≤2*t.Base*t.Num:=Int.mul_nonneg (by omega) (by omega)
   omega
  ·simp
 ·simp
open Go.PA
open Go.RowKit
theorem PE {w:TTax→Int→Bool} {t:TTax} {i:Nat} {ds:List Int} {x:TFlow} (h:x∈pg w t i ds):∃d,d∈ds∧0<dh t∧w t d=true∧x=⟨d,dh t,3,i⟩:=by
 unfold pg at h
 obtain⟨d,hd,rfl⟩:=zV.1 h
 obtain⟨h1,h2⟩:=vS.1 hd
 simp only[zG,zI]at h2
 exact⟨d,h1,h2.1,h2.2,rfl⟩
theorem Hl {w:TTax→Int→Bool} {x:TFlow}:∀(l:List TTax) (i:Nat),x∈mZ w i l→∃(j:Nat) (t:TTax),l[j]?=some t∧∃d,d∈mc t∧0<dh t∧w t d=true∧x=⟨d,dh t,3,((i+j:Nat):Int)⟩
 |[],i,h=>by simp[mZ]at h
 |t::l,i,h=>by
  rw[mZ,wA]at h
  rcases h with h|h
  ·obtain⟨d,h1,h2,h3,h4⟩:=PE h
   exact⟨0,t,rfl,d,h1,h2,h3,by simpa using h4⟩
  ·obtain⟨j,u,hj,d,h1,h2,h3,h4⟩:=Hl l (i+1) h
   exact⟨j+1,u,by simpa using hj,d,h1,h2,h3,by rw[h4,show i+1+j=i+(j+1) by omega]⟩
theorem I6 {w:TTax→Int→Bool} {l:List TTax} {x:TFlow} (h:x∈kQ w l):∃(j:Nat) (t:TTax),l[j]?=some t∧∃d,d∈mc t∧0<dh t∧w t d=true∧x=⟨d,dh t,3,(j:Int)⟩:=by
 rw[kQ,C5]at h
 have:=Hl l 0 h
 simpa using this
theorem DT {l:List TTax} {a b:Int} {x:TFlow} (h:x∈(fj l a b).1):∃(j:Nat) (t:TTax),l[j]?=some t∧∃d,d∈mc t∧0<dh t∧btw d a b=true∧x=⟨d,dh t,3,(j:Int)⟩:=by
 unfold fj at h
 split at h
 ·split at h
  ·exact I6 h
  ·cases h
 ·cases h
open Go.PA
open Go.RowKit
abbrev Wo (l:List ByteArray):AV:= .list 1 (l.map fun b=>[.sc (.string b)])
def tO:List ByteArray:=[⟨#[49]⟩,⟨#[49,46,49]⟩,⟨#[49,46,50]⟩,⟨#[49,46,50,46,51]⟩,⟨#[50]⟩,⟨#[50,46,49,48]⟩,⟨#[50,46,57]⟩]
def S8 (l:List ByteArray) (x:AV):Prop:=∃b,x= .sc (.string b)∧b∈l
theorem SM (p:Nat) (src:Option Nat) (l:List ByteArray) (h:1≤l.length∧l.length≤1000):
  PFun Tryz.prog (some p) src 168 [sp p,Wo l] (S8 l):=by
 refine ab Tryz.func168 rfl (by simp[Tryz.f168]) (by kernel_rfl) ?_
 intro E hP hr hs hW hN
 simp[go_sem,hP]
 refine cn (hr▸hs▸sT p src l.length (by omega)) hP kH (by simp -dsimp[-getElem?_pos,go_sem]) (Fl _) (sY _) ?_
 rintro r ⟨m,rfl,_,a⟩
 obtain⟨b1,b2⟩:=a (by omega)
 obtain⟨k,rfl⟩:∃k:Nat,m=k:=⟨m.toNat,by omega⟩
 obtain⟨b,hb⟩:∃b,l[k]?=some b:=⟨_,zF (by omega)⟩
 simp[go_sem,hP,hb]
 exact⟨b,rfl,zE hb⟩
theorem KF {l:List ByteArray} (h:l≠[]):∃r,S8 l r∧Imm r:=by
 cases l with
 |nil=>exact absurd rfl h
 |cons b l=>exact⟨_,⟨b,rfl,by simp⟩,.sc⟩
theorem RT (p:Nat) (src:Option Nat):PFun Tryz.prog (some p) src 107 [sp p] (S8 tO):=by
 refine ab Tryz.func107 rfl (by simp[Tryz.f107]) (by kernel_rfl) ?_
 intro E hP hr hs hW hN
 simp[go_sem,hP]
 refine aC (Q:=S8 tO) (hr▸hs▸SM p src tO (by simp[tO])) hP TY (by simp -dsimp[-getElem?_pos,go_sem]) (KF (by simp[tO])) ?_
 rintro r ⟨b,rfl,hb⟩ _
 simp[go_sem,hP]
 exact⟨b,rfl,hb⟩
def GenTax (t:TTax):Prop:=t.Code∈tO∧(1≤t.Payer∧t.Payer≤3)∧t.Base∈[0,100,999,100000]∧(0≤t.Num∧t.Num<20)∧t.Den∈[20,100,360]∧(0≤t.First∧t.First<800)∧t.Every∈[1,1,3,12]∧(1≤t.Times∧t.Times≤6)
def Ve (x:AV):Prop:=∃t:TTax,x= .agg t.cells∧GenTax t
theorem R2:∃r,Ve r∧Imm r:=⟨_,⟨⟨⟨#[49]⟩,1,0,0,20,0,1,1⟩,rfl,by simp[GenTax,tO]⟩,qa _⟩
theorem BC {l:List Int} (h:l≠[]):∃r,(∃m:Int,r=iv m∧m∈l)∧Imm r:=by
 cases l with
 |nil=>exact absurd rfl h
 |cons b l=>exact⟨_,⟨b,rfl,by simp⟩,.sc⟩
theorem DF (lo hi:Int) (h:lo≤hi):∃r,(∃m:Int,r=iv m∧(lo≤hi→lo≤m∧m≤hi)∧(hi<lo→m=lo))∧Imm r:=⟨_,⟨lo,rfl,fun h=>⟨Int.le_refl _,h⟩,fun _=>rfl⟩,.sc⟩
theorem SP (p:Nat) (src:Option Nat):PFun Tryz.prog (some p) src 41 [sp p] Ve:=by
 refine ab Tryz.func41 rfl (by simp[Tryz.f41]) (by kernel_rfl) ?_
 intro E hP hr hs hW hN
 have pk:∀l:List Int,1≤l.length∧l.length≤1000→PFun Tryz.prog E.row E.src 14 [sp p,aA l] (fun x=>∃m:Int,x=iv m∧m∈l):=fun l h=>hr▸hs▸qd p src l h
 have rg:∀lo hi:Int,0≤lo∧lo≤100→0≤hi∧hi≤100→PFun Tryz.prog E.row E.src 24 [sp p,iv lo,iv hi] _:=fun lo hi h1 h2=>hr▸hs▸Fc p src lo hi (by omega) (by omega)
 have nn:∀n:Int,0≤n∧n≤1000→PFun Tryz.prog E.row E.src 22 [sp p,iv n] (NQ n):=fun n h=>hr▸hs▸sT p src n (by omega)
 simp -dsimp[go_sem,hP]
 refine aC (hr▸hs▸RT p src) hP US (by simp -dsimp[-getElem?_pos,go_sem]) (KF (by simp[tO])) ?_
 rintro r ⟨b,rfl,hb⟩ _
 simp -dsimp[go_sem,hP]
 refine aC (rg 1 3 (by omega) (by omega)) hP lK (by simp -dsimp[-getElem?_pos,go_sem]) (DF _ _ (by omega)) ?_
 rintro r ⟨m1,rfl,a1,_⟩ _
 have a1:=a1 (by omega)
 simp -dsimp[go_sem,hP]
 refine aC (pk [0,100,999,100000] (by simp)) hP i7 (by simp -dsimp[-getElem?_pos,go_sem]) (BC (by simp)) ?_
 rintro r ⟨m2,rfl,a2⟩ _
 simp -dsimp[go_sem,hP]
 refine aC (nn 20 (by omega)) hP kH (by simp -dsimp[-getElem?_pos,go_sem]) ⟨_,⟨0,rfl,by omega,by omega⟩,.sc⟩ ?_
 rintro r ⟨m3,rfl,_,a3⟩ _
 have a3:=a3 (by omega)
 simp -dsimp[go_sem,hP]
 refine aC (pk [20,100,360] (by simp)) hP i7 (by simp -dsimp[-getElem?_pos,go_sem]) (BC (by simp)) ?_
 rintro r ⟨m4,rfl,a4⟩ _
 simp -dsimp[go_sem,hP]
 refine aC (nn 800 (by omega)) hP kH (by simp -dsimp[-getElem?_pos,go_sem]) ⟨_,⟨0,rfl,by omega,by omega⟩,.sc⟩ ?_
 rintro r ⟨m5,rfl,_,a5⟩ _
 have a5:=a5 (by omega)
 simp -dsimp[go_sem,hP]
 refine aC (pk [1,1,3,12] (by simp)) hP i7 (by simp -dsimp[-getElem?_pos,go_sem]) (BC (by simp)) ?_
 rintro r ⟨m6,rfl,a6⟩ _
 simp -dsimp[go_sem,hP]
 refine aC (rg 1 6 (by omega) (by omega)) hP lK (by simp -dsimp[-getElem?_pos,go_sem]) (DF _ _ (by omega)) ?_
 rintro r ⟨m7,rfl,a7,_⟩ _
 have a7:=a7 (by omega)
 simp -dsimp[go_sem,hP]
 exact aw (qa ⟨b,m1,m2,m3,m4,m5,m6,m7⟩) ⟨⟨b,m1,m2,m3,m4,m5,m6,m7⟩,rfl,hb,a1,a2,a3,a4,a5,a6,a7⟩
theorem GenTax.ok {t:TTax} (h:GenTax t):gJ t=true∧t.Code.size≤30:=by
 obtain⟨h1,h2,h3,h4,h5,h6,h7,h8⟩:=h
 have hc:CM t.Code=true∧t.Code.size≤30:=by
  have key:(tO.all fun c=>CM c&&decide (c.size≤30))=true:=by kernel_rfl
  have:=zS.1 key _ h1
  simpa using this
 simp only[zO,wC,or_false]at h3 h5 h7
 exact⟨sI.2 ⟨hc.1,by omega,by omega,by omega,by omega,by omega,by omega,by omega⟩,hc.2⟩
open Go.PA
open Go.RowKit
def OD (n:Nat) (x:AV):Prop:=∃l:List TTax,x=mD l∧l.length≤n∧∀t,t∈l→GenTax t
theorem Mm (n:Nat):∃r,OD n r∧Imm r:=⟨_,⟨[],rfl,by simp,by simp⟩,mU []⟩
theorem L2 (p:Nat) (src:Option Nat) (n:Nat) (hn:n≤100):PFun Tryz.prog (some p) src 9 [sp p,iv n] (OD n):=by
 refine ab Tryz.func9 rfl (by simp[Tryz.f9]) (by kernel_rfl) ?_
 intro E hP hr hs hW hN
 have up:∀{f:FuncId} {args:List AV} {Q:AV→Prop},PFun Tryz.prog (some p) src f args Q→PFun Tryz.prog E.row E.src f args Q:=fun h=>hr▸hs▸h
 have w1:=ae ((n:Int)+1) (by omega)
 simp -dsimp[go_sem,hP,w1]
 refine cn (up (sT p src ((n:Int)+1) (by omega))) hP kH (ak (by simp -dsimp[go_sem])) (Fl _) (sY _) ?_
 rintro r ⟨z,rfl,_,hz⟩
 have hz:=hz (by omega)
 obtain⟨c,rfl⟩:∃c:Nat,z=c:=⟨z.toNat,by omega⟩
 simp -dsimp[go_sem,hP]
 refine cV 5 103 8 rfl ?_
 obtain⟨I,hI⟩:∃I:Nat→St→Prop,I=fun m s=>∃(id:Nat) (l:List TTax),m≤c∧l.length+m=c∧(∀t,t∈l→GenTax t)∧s.t 0=sp p∧s.t 5= .sref id 0 l.length∧s.t 6=iv m∧s.H[id]?=some (some ⟨103,8,ao TTax.cells l⟩):=⟨_,rfl⟩
 refine az I (c) (by rw[hN];rfl) ?_ ?_
 ·rw[hI]
  exact⟨0,[],by omega,by simp,by simp,rfl,rfl,rfl,by simp -dsimp[-getElem?_pos,go_sem,ao]⟩
 intro m s hs'
 rw[hI]at hs'
 obtain⟨id,l,hk,hl,hg,t0,t5,t6,hH⟩:=hs'
 have ltH:=(gsI hH)
 simp -dsimp[go_sem,hP,t6]
 refine aB ?_ ?_<;>intro h
 ·have hm:0<m:=by simpa using h
  have wm:=ae ((m:Int)-1) (by omega)
  simp -dsimp[go_sem,hP,t5,t0]
  refine aC (Q:=Ve) (up (SP p src)) hP VU (by simp -dsimp[-getElem?_pos,go_sem]) R2 ?_
  rintro r ⟨t,rfl,ht⟩ _
  simp -dsimp[-getElem?_pos,go_sem,hP,cTx,hH,ltH,t6,wm]
  refine⟨by omega,by omega,m-1,by omega,?_⟩
  rw[hI]
  refine⟨s.H.length,l++[t],by omega,by simp;omega,?_,t0,by simp -dsimp[-getElem?_pos,go_sem],?_,by simp -dsimp[go_sem,ao,cTx]⟩
  ·intro u hu
   rcases wA.1 hu with hu|hu
   ·exact hg u hu
   ·rw[zU.1 hu];exact ht
  ·simp -dsimp[go_sem,hP]
   omega
 ·have hm:m=0:=by
   have:¬0<m:=by simpa using h
   omega
  simp -dsimp[go_sem,hP,t5]
  refine done (x:=mD l) ?_ ⟨l,rfl,by omega,hg⟩ ?_<;>rw[fo,hH,dQ]
  ·rw[vW,zQ (by simp[ao])]
   exact mU l
  ·rw[vW,zQ (by simp[ao])]
theorem UH {l:List TTax} (h:∀t,t∈l→GenTax t):SG l:=fun t ht=>by have:=(h t ht).ok.2;omega
end Go.Proofs.YtfbogibogkbhmaaGreatDoor
namespace Go.PA
open Go.RowKit
abbrev CS:=List AV×ah
def Bg:List AV→Nat→AV→List AV
 |[],0,v=>[v]
 |[],n+1,v=> .sc undef::Bg [] n v
 |_::l,0,v=>v::l
 |a::l,n+1,v=>a::Bg l n v
theorem JQ:∀(l:List AV) (i:Nat) (v:AV),bW (Bg l i v)=upd (bW l) i v:=by
 have key:∀(l:List AV) (i:Nat) (v:AV) (j:Nat),(Bg l i v).getD j (.sc undef)=if j=i then v else l.getD j (.sc undef):=by
  intro l
  induction l with
  |nil=>
   intro i
   induction i with
   |zero=>intro v j;cases j<;>simp[Bg]
   |succ i ih=>intro v j;cases j with
    |zero=>simp[Bg]
    |succ j=>simpa[Bg]using ih v j
  |cons a l ih=>
   intro i v j
   cases i with
   |zero=>cases j<;>simp[Bg]
   |succ i=>cases j with
    |zero=>simp[Bg]
    |succ j=>simpa[Bg]using ih i v j
 intro l i v
 funext j
 exact key l i v j
def CS.st (s:CS):St:=⟨bW s.1,s.2⟩
def ye (l:List AV) (d:Option Tmp) (x:AV):List AV:=match d with
 |some d=>Bg l d x
 |none=>l
theorem Q8 (l:List AV) (d:Option Tmp) (x:AV):bW (ye l d x)=dK (bW l) d x:=by
 cases d
 ·rfl
 ·exact JQ _ _ _
def uO:Nat→AV→Bool
 |0,_=>false
 |_,.sc _=>true
 |_,.nil=>true
 |_,.imap _=>true
 |n+1,.agg cs=>cs.all (uO n)
 |n+1,.tup cs=>cs.all (uO n)
 |n+1,.iref cs=>cs.all (uO n)
 |n+1,.fn _ cs=>cs.all (uO n)
 |n+1,.list _ es=>es.all fun e=>e.all (uO n)
 |_,_=>false
theorem gM:∀(n:Nat) (a:AV),uO n a=true→Imm a
 |0,_,h=>by simp[uO]at h
 |n+1,a,h=>by
  cases a<;>simp only[uO,zS,reduceCtorEq]at h
  case sc=>exact .sc
  case nil=>exact .nil
  case imap=>exact .imap
  case agg cs=>exact .agg fun a ha=>gM n a (h a ha)
  case tup cs=>exact .tup fun a ha=>gM n a (h a ha)
  case iref cs=>exact .iref fun a ha=>gM n a (h a ha)
  case fn f cs=>exact .fn fun a ha=>gM n a (h a ha)
  case list k es=>exact .list fun e he a ha=>gM n a (h e he a ha)
def Dv:Nat→AV→Bool
 |0,_=>false
 |_,.sc _=>true
 |_,.nil=>true
 |n+1,.agg cs=>cs.all (Dv n)
 |n+1,.tup cs=>cs.all (Dv n)
 |_,_=>false
theorem rD:∀(n:Nat) (a:AV),Dv n a=true→Flat a
 |0,_,h=>by simp[Dv]at h
 |n+1,a,h=>by
  cases a<;>simp only[Dv,zS,reduceCtorEq]at h
  case sc=>exact .sc
  case nil=>exact .nil
  case agg cs=>exact .agg fun a ha=>rD n a (h a ha)
  case tup cs=>exact .tup fun a ha=>rD n a (h a ha)
def Qv:Value→Value→Bool
 | .int k a,.int k' b=>decide (k=k')&&decide (a=b)
 | .bool a,.bool b=>decide (a=b)
 | .string a,.string b=>decide (a=b)
 |_,_=>false
theorem NT {v u:Value} (h:Qv v u=true):v=u:=by
 cases v<;>cases u<;>simp_all [Qv]
def iZ {α:Type} (f:α→α→Bool):List α→List α→Bool
 |[],[]=>true
 |a::l,b::r=>f a b&&iZ f l r
 |_,_=>false
theorem fM {α:Type} {f:α→α→Bool} (hf:∀a b,f a b=true→a=b):∀{l r:List α},iZ f l r=true→l=r
 |[],[],_=>rfl
 |a::l,b::r,h=>by
  simp only[iZ,zG]at h
  rw[hf _ _ h.1,fM hf h.2]
 |[],_::_,h=>by simp[iZ]at h
 |_::_,[],h=>by simp[iZ]at h
def yq:Nat→AV→AV→Bool
 |0,_,_=>false
 |_+1,.sc v,.sc u=>Qv v u
 |_+1,.nil,.nil=>true
 |n+1,.agg xs,.agg ys=>iZ (yq n) xs ys
 |n+1,.tup xs,.tup ys=>iZ (yq n) xs ys
 |n+1,.list k xs,.list k' ys=>decide (k=k')&&iZ (iZ (yq n)) xs ys
 |n+1,.iref xs,.iref ys=>iZ (yq n) xs ys
 |n+1,.fn f xs,.fn g ys=>decide (f=g)&&iZ (yq n) xs ys
 |_+1,.ref i j k,.ref i' j' k'=>decide (i=i')&&decide (j=j')&&decide (k=k')
 |_+1,.sref i j k,.sref i' j' k'=>decide (i=i')&&decide (j=j')&&decide (k=k')
 |_+1,_,_=>false
theorem yD:∀(n:Nat) {a b:AV},yq n a b=true→a=b
 |0,_,_,h=>by simp[yq]at h
 |n+1,a,b,h=>by
  have ih:∀x y,yq n x y=true→x=y:=fun x y=>yD n
  cases a<;>cases b<;>simp only[yq,reduceCtorEq,zG,zI]at h
  case sc v u=>rw[NT h]
  case nil=>rfl
  case agg xs ys=>rw[fM ih h]
  case tup xs ys=>rw[fM ih h]
  case list k xs k' ys=>
   obtain⟨rfl,h⟩:=h
   rw[fM (fun _ _=>fM ih) h]
  case iref xs ys=>rw[fM ih h]
  case fn f xs g ys=>
   obtain⟨rfl,h⟩:=h
   rw[fM ih h]
  case ref i j k i' j' k'=>
   obtain⟨⟨rfl,rfl⟩,rfl⟩:=h
   rfl
  case sref i j k i' j' k'=>
   obtain⟨⟨rfl,rfl⟩,rfl⟩:=h
   rfl
def GX:Option AObj→Option AObj→Bool
 |none,none=>true
 |some o,some o'=>decide (o.ty=o'.ty)&&decide (o.k=o'.k)&&iZ (iZ (yq 6)) o.es o'.es
 |_,_=>false
theorem OP {a b:Option AObj} (h:GX a b=true):a=b:=by
 cases a with
 |none=>cases b with
  |none=>rfl
  |some o=>simp[GX]at h
 |some o=>cases b with
  |none=>simp[GX]at h
  |some o'=>
   obtain⟨ty,k,es⟩:=o
   obtain⟨ty',k',es'⟩:=o'
   simp only[GX,zG,zI]at h
   obtain⟨⟨rfl,rfl⟩,h⟩:=h
   rw[fM (fun _ _=>fM fun _ _=>yD 6) h]
def AE (D:Nat→Bool):Nat→ah→ah→Bool
 |_,[],_=>true
 |i,x::l,r=>match r with
  |y::r=>(!D i||GX x y)&&AE D (i+1) l r
  |[]=>false
theorem Bm {D:Nat→Bool}:∀{H H':ah} {i:Nat},AE D i H H'=true→∀j,j<H.length→D (i+j)=true→H'[j]?=H[j]?
 |[],_,_,_,j,hj,_=>by simp at hj
 |x::l,[],i,h,_,_,_=>by simp[AE]at h
 |x::l,y::r,i,h,j,hj,hd=>by
  simp only[AE,zG,wZ,vQ]at h
  match j,hj,hd with
  |0,_,hd=>
   have:=h.1.resolve_left (by rw[Nat.add_zero]at hd;rw[hd];simp)
   simp[OP this]
  |j+1,hj,hd=>
   rw[uI,uI]
   exact Bm h.2 j (by simpa using hj) (by rw[show i+1+j=i+(j+1) by omega];exact hd)
def pD {α β:Type} (f:α→Option (List β)):List α→Option (List β)
 |[]=>some []
 |a::l=>match f a with
  |some xs=>match pD f l with
   |some ys=>some (xs++ys)
   |none=>none
  |none=>none
theorem iA {α β:Type} {f:α→Option (List β)}:∀{l:List α} {ys:List β},pD f l=some ys→∀a,a∈l→∃xs,f a=some xs∧∀x,x∈xs→x∈ys
 |[],ys,h,a,ha=>by cases ha
 |b::l,ys,h,a,ha=>by
  simp only[pD]at h
  split at h
  ·rename_i xs hx
   split at h
   ·rename_i zs hz
    simp only[zB]at h
    subst h
    rcases zO.1 ha with rfl|ha
    ·exact⟨xs,hx,fun x hx=>by simp[hx]⟩
    ·obtain⟨us,h1,h2⟩:=iA hz a ha
     exact⟨us,h1,fun x hx=>by simp[h2 x hx]⟩
   ·cases h
  ·cases h
def Q9 (P:Program) (t:TypeId) (H:ah) (x:AV):Option ah:=match x,aT P t with
 | .sref id lo dn,some e=>match H[id]?,cv P e with
  |some (some o),some zs=>if o.k=ay P e∧0<o.k∧0<dn∧lo≤o.es.length then some (H.set id (some {o with es:=o.es.take lo++List.replicate dn zs++o.es.drop (lo+dn)}))else none
  |_,_=>none
 | .list _ [],some _=>some H
 |_,_=>none
abbrev Run:=FuncId→List AV→ah→Option (List (AV×ah))
def yd (P:Program) (call:Run) (op:Op) (ev:Operand→AV) (H:ah):Option (List (AV×ah)):=
 match op with
 | .store t a x=>(pW P t H (ev a) (ev x)).map fun H'=>[(.sc undef,H')]
 | .alloc t=>(cv P t).map fun zs=>[(.ref H.length 0 0,H++[some ⟨t,ay P t,[zs]⟩])]
 | .box t x=>((ev x).cells?).map fun xs=>[(.ref H.length 0 0,H++[some ⟨t,xs.length,[xs]⟩])]
 | .makeSlice t l c=>match xg P t H (ev l) (ev c)with
  |some (r,H',m,B)=>if (B:Int)*m≤281474976710656∧m≤9223372036854775807 then some [(r,H')]else none
  |none=>none
 | .buildSlice t 0 parts=>match aT P t with
  |some e=>if aE P e=true∧parts.size=0 then some [(.sref H.length 0 0,H++[some ⟨e,ay P e,[]⟩])]else none
  |none=>none
 | .makeMap _ none=>some [(.mref H.length,H++[some ⟨0,2,[]⟩])]
 | .mapUpdate t x k v=>(jf P t H (ev x) (ev k) (ev v)).map fun H'=>[(.sc undef,H')]
 | .mapEntry ..=>none
 | .entryStore ..=>none
 | .range _ _=>none
 | .next _ _=>none
 | .call c=>match c.callee with
  | .builtin .append=>if se (c.args.toList.map ev)=true then none else match c.args.toList,c.argTypes.toList with
   |[s,x],[t,t']=>if t=t' then match me P t H (ev s) (ev x)with
    |some (r,H',N,B)=>if N≤9223372036854775807∧N*B≤140737488355328 then some [(r,H')]else none
    |none=>none else none
   |_,_=>none
  | .builtin .copy=>none
  | .builtin .clear=>match c.args.toList,c.argTypes.toList with
   |[x],[t]=>(Q9 P t H (ev x)).map fun H'=>[(.tup [],H')]
   |_,_=>none
  | .value f=>match ev f with
   | .fn g caps=>if aa P g=true then call g (c.args.toList.map ev++caps) H else none
   |_=>none
  |_=>(bb P (.call c) ev H).map fun v=>[(v,H)]
 |op=>(bb P op ev H).map fun v=>[(v,H)]
section
variable {E:Env}
abbrev IsL (L:List (AV×ah)):AV→ah→Prop:=fun x K=>(x,K)∈L
abbrev nR (E:Env) (call:Run):Prop:=∀g args H L,call g args H=some L→ACall E g args H (IsL L)
abbrev jQ (P:Program) (run:Run):Prop:=∀g args H L,run g args H=some L→∀row src,MFun P row src g args H (IsL L)
theorem nV {call:Run} (hc:nR E call) {op:Op} {ev:Operand→AV} {H:ah} {L:List (AV×ah)}
  (h:yd E.P call op ev H=some L):AEff E op ev H (IsL L):=by
 have rd:∀{o:Option AV},o.map (fun v=>[(v,H)])=some L→(match o with|some v=>IsL L v H|none=>False):=fun {o} h=>by
  cases o with
  |none=>simp at h
  |some v=>simp only[vI,zB]at h;subst h;exact zU.2 rfl
 have one:∀{x:AV} {K:ah},some [(x,K)]=some L→IsL L x K:=fun h=>by
  simp only[zB]at h
  subst h
  exact zU.2 rfl
 unfold yd at h
 unfold AEff
 split at h
 ·simp only[zL]at h
  obtain⟨K,hK,rfl⟩:=h
  simp only[hK]
  exact zU.2 rfl
 ·simp only[zL]at h
  obtain⟨K,hK,rfl⟩:=h
  simp only[hK]
  exact zU.2 rfl
 ·simp only[zL]at h
  obtain⟨K,hK,rfl⟩:=h
  simp only[hK]
  exact zU.2 rfl
 ·split at h
  ·rename_i hm
   split at h
   ·rename_i hb
    simp only[hm]
    exact⟨hb.1,hb.2,one h⟩
   ·cases h
  ·cases h
 ·split at h
  ·rename_i e he
   split at h
   ·rename_i hb
    simp only[he,if_pos hb]
    exact one h
   ·cases h
  ·cases h
 ·exact one h
 ·simp only[zL]at h
  obtain⟨K,hK,rfl⟩:=h
  simp only[hK]
  exact zU.2 rfl
 ·cases h
 ·cases h
 ·cases h
 ·cases h
 ·rename_i c
  split at h
  ·rename_i hcal
   simp only[hcal]
   split at h
   ·cases h
   ·rename_i hf
    rw[if_neg hf]
    split at h
    ·rename_i s x t t' h1 h2
     split at h
     ·rename_i htt
      split at h
      ·rename_i ha
       split at h
       ·rename_i hb
        simp only[h1,h2,ha]
        exact⟨htt,hb.1,hb.2,one h⟩
       ·cases h
      ·cases h
     ·cases h
    ·cases h
  ·cases h
  ·rename_i hcal
   simp only[hcal]
   split at h
   ·rename_i x t h1 h2
    simp only[zL]at h
    obtain⟨K,hK,rfl⟩:=h
    have e2:c.argTypes=#[t]:=Array.toList_inj.1 h2
    rw[h1,e2]
    unfold Q9 at hK
    split at hK
    ·rename_i id lo dn e hx he
     split at hK
     ·rename_i o zs ho hz
      split at hK
      ·rename_i hc'
       simp only[zB]at hK
       subst hK
       rw[wD,List.map_nil,hx]
       exact Bj (b:= .mk) (.inl rfl) ho he hc'.1 hc'.2.1 hz hc'.2.2.1 hc'.2.2.2 (zU.2 rfl)
      ·cases hK
     ·cases hK
    ·rename_i k e hx he
     simp only[zB]at hK
     subst hK
     rw[wD,List.map_nil,hx]
     exact zq (b:= .mk) he (zU.2 rfl)
    ·cases hK
   ·cases h
  ·rename_i f hcal
   simp only[hcal]
   split at h
   ·rename_i g caps hg
    split at h
    ·rename_i hen
     simp only[hg]
     exact .inl ⟨hen,hc _ _ _ _ h⟩
    ·cases h
   ·cases h
  ·rename_i h1 h2 h3 h4
   dsimp only
   split
   ·rename_i hcal;exact (h1 hcal).elim
   ·rename_i hcal;exact (h2 hcal).elim
   ·rename_i hcal;exact (h3 hcal).elim
   ·rename_i f hcal;exact (h4 f hcal).elim
   ·exact rd h
 ·rename_i h1 h2 h3 h4 h5 h6 h7 ha hb h8 h9 h10
  split
  ·exact (h1 _ _ _ rfl).elim
  ·exact (h2 _ rfl).elim
  ·exact (h3 _ _ rfl).elim
  ·exact (h4 _ _ _ rfl).elim
  ·exact (h5 _ _ rfl).elim
  ·exact (h6 _ rfl).elim
  ·exact (h7 _ _ _ _ rfl).elim
  ·exact (ha _ _ _ rfl).elim
  ·exact (hb _ _ _ _ rfl).elim
  ·exact (h8 _ _ rfl).elim
  ·exact (h9 _ _ rfl).elim
  ·exact (h10 _ rfl).elim
  ·exact rd h
def O0 (P:Program) (call:Run) (ops:Array Oper) (o:Oper) (s:CS):Option (List CS):=
 match dM ops o (bW s.1)with
 |some true=>(yd P call o.op (St.eval ⟨bW s.1,s.2⟩) s.2).map fun L=>L.map fun y=>(ye s.1 o.dst y.1,y.2)
 |some false=>some [(ye s.1 o.dst (.sc undef),s.2)]
 |none=>none
def Oc (P:Program) (call:Run) (ops:Array Oper):List Oper→CS→Option (List CS)
 |[],s=>some [s]
 |o::l,s=>match O0 P call ops o s with
  |some ss=>pD (Oc P call ops l) ss
  |none=>none
def xr (D:Nat→Bool):Nat→ah→ah
 |_,[]=>[]
 |i,x::l=>(if D i then x else none)::xr D (i+1) l
theorem Q4 (D:Nat→Bool):∀(H:ah) (i j:Nat),(xr D i H)[j]?=H[j]?.map fun x=>if D (i+j)then x else none
 |[],i,j=>by simp[xr]
 |x::l,i,0=>by simp[xr]
 |x::l,i,j+1=>by rw[xr,uI,Q4 D l,uI,show i+1+j=i+(j+1) by omega]
theorem Xe (D:Nat→Bool) (H:ah):xr D 0 H=jP D H:=by
 apply List.ext_getElem?
 intro j
 rw[Q4,jP,List.getElem?_mapIdx,vR]
def Jq (op:Op) (ev:Operand→AV):Option (List Nat):=match op with
 | .store _ a _=>match ev a with
  | .ref id _ _=>some [id]
  |_=>none
 | .alloc _=>some []
 | .box _ _=>some []
 | .makeSlice _ _ _=>some []
 | .call c=>match c.callee with
  | .builtin .append=>match c.args.toList.map ev with
   | .sref id _ _::_=>some [id]
   | .nil::_=>some []
   |_=>none
  |_=>none
 |_=>none
theorem tv {H:ah} {x:Option AObj} {id:Nat} (h:id<H.length):(H++[x])[id]?=H[id]?:=zD h
theorem ET {P:Program} {call:Run} {op:Op} {ev:Operand→AV} {H:ah} {L:List (AV×ah)} {X:List Nat}
  (h:yd P call op ev H=some L) (ht:Jq op ev=some X) (id:Nat) (hid:id<H.length) (hX:id∉X) {r:AV} {H':ah} (hL:(r,H')∈L):H'[id]?=H[id]?:=by
 unfold Jq at ht
 split at ht
 ·rename_i t a x
  simp only[yd,zL]at h
  obtain⟨K,hK,rfl⟩:=h
  simp only[zU,Prod.mk.injEq]at hL
  obtain⟨_,rfl⟩:=hL
  split at ht
  ·rename_i i j k ha
   simp only[zB]at ht
   subst ht
   rw[ha]at hK
   unfold pW at hK
   split at hK
   ·rename_i i' _ _ _ _ heq _
    cases heq
    split at hK
    ·split at hK
     ·split at hK
      ·simp only[zB]at hK
       subst hK
       rw[zH (by simpa using Ne.symm (by simpa using hX))]
      ·cases hK
     ·cases hK
    ·cases hK
   ·cases hK
  ·cases ht
 ·simp only[yd,zL]at h
  obtain⟨K,hK,rfl⟩:=h
  simp only[zU,Prod.mk.injEq]at hL
  obtain⟨_,rfl⟩:=hL
  exact tv hid
 ·simp only[yd,zL]at h
  obtain⟨K,hK,rfl⟩:=h
  simp only[zU,Prod.mk.injEq]at hL
  obtain⟨_,rfl⟩:=hL
  exact tv hid
 ·simp only[yd]at h
  split at h
  ·rename_i hm
   split at h
   ·simp only[zB]at h
    subst h
    simp only[zU,Prod.mk.injEq]at hL
    obtain⟨_,rfl⟩:=hL
    unfold xg at hm
    split at hm
    ·split at hm
     ·split at hm
      ·simp only[zB,Prod.mk.injEq]at hm
       obtain⟨_,rfl,_⟩:=hm
       exact tv hid
      ·cases hm
     ·cases hm
    ·cases hm
   ·cases h
  ·cases h
 ·rename_i c
  split at ht
  ·rename_i hcal
   simp only[yd,hcal]at h
   split at h
   ·cases h
   ·split at h
    ·rename_i s x t t' h1 h2
     split at h
     ·split at h
      ·rename_i ha
       split at h
       ·simp only[zB]at h
        subst h
        simp only[zU,Prod.mk.injEq]at hL
        obtain⟨_,rfl⟩:=hL
        rw[h1]at ht
        unfold me at ha
        split at ha
        ·cases ha
        ·split at ha
         ·split at ha
          ·cases ha
          ·split at ha
           ·simp only[zB,Prod.mk.injEq]at ha
            obtain⟨_,rfl,_⟩:=ha
            exact tv hid
           ·rename_i hs
            simp only[wD,hs,zB]at ht
            subst ht
            split at ha
            ·split at ha
             ·simp only[zB,Prod.mk.injEq]at ha
              obtain⟨_,rfl,_⟩:=ha
              rw[tv (by simpa using hid),zH (by simpa using Ne.symm (by simpa using hX))]
             ·cases ha
            ·cases ha
           ·cases ha
         ·cases ha
       ·cases h
      ·cases h
     ·cases h
    ·cases h
  ·cases ht
 ·cases ht
def KO:List (AV×ah)→Option AV
 |[]=>none
 |(r,H)::L=>if uO 6 (dR H r)&&L.all (fun y=>yq 6 (dR H r) (dR y.2 y.1))then some (dR H r)else none
theorem xF {L:List (AV×ah)} {v:AV} (h:KO L=some v):Imm v∧∀y,y∈L→dR y.2 y.1=v:=by
 unfold KO at h
 split at h
 ·cases h
 ·rename_i r H L
  split at h
  ·rename_i hc
   simp only[zG,zS]at hc
   simp only[zB]at h
   subst h
   refine⟨gM 6 _ hc.1,fun y hy=>?_⟩
   rcases zO.1 hy with rfl|hy
   ·rfl
   ·exact (yD 6 (hc.2 y hy)).symm
  ·cases h
def G3 (run:Run) (g:FuncId) (args:List AV):Option AV:=
 if args.all (uO 6)then match run g args []with
  |some L=>KO L
  |none=>none
 else none
def Bd (P:Program) (run call:Run) (D:Nat→Bool) (n:Nat) (S T:List Nat) (ops:Array Oper) (k:Nat) (o:Oper) (s:CS):Option (List CS):=
 match dM ops o (bW s.1)with
 |some true=>
  if T.contains k then (match o.op with
   | .call c=>match c.callee with
    | .value f=>match St.eval ⟨bW s.1,s.2⟩ f with
     | .fn g caps=>if aa P g=true then (G3 run g (c.args.toList.map (St.eval ⟨bW s.1,s.2⟩)++caps)).map fun x=>[(ye s.1 o.dst x,s.2)]else none
     |_=>none
    |_=>none
   |_=>none)
  else if bY o.op then (bb P o.op (St.eval ⟨bW s.1,s.2⟩) (if S.contains k then s.2 else xr D 0 s.2)).map fun x=>[(ye s.1 o.dst x,s.2)]
  else if S.contains k then (yd P call o.op (St.eval ⟨bW s.1,s.2⟩) s.2).map fun L=>L.map fun y=>(ye s.1 o.dst y.1,y.2)
  else match Jq o.op (St.eval ⟨bW s.1,s.2⟩)with
   |some X=>if n≤s.2.length&&X.all (fun i=>!D i)then (yd P call o.op (St.eval ⟨bW s.1,s.2⟩) s.2).map fun L=>L.map fun y=>(ye s.1 o.dst y.1,y.2)else none
   |none=>match yd P call o.op (St.eval ⟨bW s.1,s.2⟩) s.2 with
    |some L=>if n≤s.2.length&&L.all (fun y=>AE D 0 s.2 y.2)then some (L.map fun y=>(ye s.1 o.dst y.1,y.2))else none
    |none=>none
 |some false=>some [(ye s.1 o.dst (.sc undef),s.2)]
 |none=>none
def HJ (P:Program) (run call:Run) (D:Nat→Bool) (n:Nat) (S T:List Nat) (ops:Array Oper):List Oper→Nat→CS→Option (List CS)
 |[],_,s=>some [s]
 |o::l,k,s=>match Bd P run call D n S T ops k o s with
  |some ss=>pD (HJ P run call D n S T ops l (k+1)) ss
  |none=>none
def qj (P:Program) (run call:Run) (D:Nat→Bool) (n:Nat) (S T:List Nat) (ops:Array Oper):Nat→Array Bool→CS→Option (List CS)
 |0,listed,s=>if Region.ready .any ops listed=[]then some [s]else none
 |k+1,listed,s=>match Region.ready .any ops listed with
  |[]=>none
  |R=>let one:=fun i=>match ops[i]? with
    |some o=>match Bd P run call D n S T ops i o s with
     |some ss=>pD (qj P run call D n S T ops k (listed.setIfInBounds i true)) ss
     |none=>none
    |none=>none
   match R.find? fun i=>Js ops S T listed i with
   |some i=>one i
   |none=>pD one R
structure DH where
 S:List Nat
 T:List Nat
 X:List Nat
def ZN:AV→Option Nat
 | .ref id _ _=>some id
 | .sref id _ _=>some id
 | .mref id=>some id
 |_=>none
def DH.D (d:DH) (s:CS):Nat→Bool:=fun i=>decide (i<s.2.length)&&d.X.all fun j=>!(ZN (bW s.1 j)==some i)
def D2 (P:Program) (run call:Run) (d:DH) (ops:Array Oper) (s:CS):Option (List CS):=
 if nO ops d.S d.T then HJ P run call (d.D s) s.2.length d.S d.T ops ops.toList 0 s
 else qj P run call (d.D s) s.2.length d.S d.T ops ops.size (Array.replicate ops.size false) s
abbrev YR:=Option (List (Exit×CS))
def gv (P:Program) (N:Nat) (hint:Nat→DH) (run:Run) (call:Nat→Run):Nat→Code→CS→YR
 |0,_,_=>none
 |n+1,c,s=>match c with
  | .skip=>some [(.normal,s)]
  | .region id ops d=>if AU N ops then (match (if d then D2 P run (call id) (hint id) ops s else Oc P (call id) ops ops.toList s)with
   |some ss=>some (ss.map fun s'=>(.normal,s'))
   |none=>none)else none
  | .seq a b=>match gv P N hint run call n a s with
   |some rs=>pD (fun r=>match r.1 with
    | .normal=>gv P N hint run call n b r.2
    |e=>some [(e,r.2)]) rs
   |none=>none
  | .cond x a b=>match St.eval ⟨bW s.1,s.2⟩ x with
   | .sc (.bool true)=>gv P N hint run call n a s
   | .sc (.bool false)=>gv P N hint run call n b s
   |_=>none
  | .block id c=>match gv P N hint run call n c s with
   |some rs=>some (rs.map fun r=>match r.1 with
    | .exit i=>if i=id then (.normal,r.2)else (.exit i,r.2)
    |e=>(e,r.2))
   |none=>none
  | .exit id=>some [(.exit id,s)]
  | .label _=>some [(.normal,s)]
  | .ret=>some [(.ret,s)]
  | .loop c=>match gv P N hint run call n c s with
   |some rs=>pD (fun r=>match r.1 with
    | .normal=>gv P N hint run call n (.loop c) r.2
    |e=>some [(e,r.2)]) rs
   |none=>none
  |_=>none
abbrev SL (L:List CS):St→Prop:=fun st=>∃s,s∈L∧st=⟨bW s.1,s.2⟩
theorem AStep.mono {ops:Array Oper} {o:Oper} {s:St} {K K':St→Prop} (h:AStep E ops o s K) (hk:∀s',K s'→K' s'):AStep E ops o s K':=by
 unfold AStep at h⊢
 split
 ·rename_i hg;rw[hg]at h;exact AEff.mono h fun x H' hx=>hk _ hx
 ·rename_i hg;rw[hg]at h;exact hk _ h
 ·rename_i hg;rw[hg]at h;exact h
variable {run call:Run}
theorem Ku {L:List (AV×ah)} {s:CS} {d:Option Tmp} {x:AV} {K:ah} (h:(x,K)∈L):SL (L.map fun y=>(ye s.1 d y.1,y.2)) ⟨dK (bW s.1) d x,K⟩:=
 ⟨_,uA h,by rw[←Q8]⟩
theorem Br {l:List AV} {d:Option Tmp} {x:AV} {H:ah}:SL [(ye l d x,H)] ⟨dK (bW l) d x,H⟩:=⟨_,zU.2 rfl,by rw[←Q8]⟩
theorem Hk (hc:nR E call) {ops:Array Oper} {o:Oper} {s:CS} {L:List CS} (h:O0 E.P call ops o s=some L):AStep E ops o ⟨bW s.1,s.2⟩ (SL L):=by
 unfold O0 at h
 unfold AStep
 split at h
 ·rename_i hg
  simp only[hg]
  simp only[zL]at h
  obtain⟨M,hM,rfl⟩:=h
  exact (nV hc hM).mono fun x K hx=>Ku hx
 ·rename_i hg
  simp only[hg]
  simp only[zB]at h
  subst h
  exact Br
 ·cases h
theorem AOps.mono {ops:Array Oper}:∀(l:List Oper) {s:St} {K K':St→Prop},(∀s,K s→K' s)→AOps E ops l s K→AOps E ops l s K'
 |[],_,_,_,hk,h=>hk _ h
 |_::l,_,_,_,hk,h=>AStep.mono h fun _ h1=>AOps.mono l hk h1
theorem AXOps.mono {D:Nat→Bool} {S T:List Nat} {ops:Array Oper}:∀(l:List Oper) (k:Nat) {s:St} {K K':St→Prop},(∀s,K s→K' s)→AXOps D E ops S T l k s K→AXOps D E ops S T l k s K'
 |[],_,_,_,_,hk,h=>hk _ h
 |_::l,k,_,_,_,hk,h=>XStep.mono h fun _ h1=>AXOps.mono l (k+1) hk h1
theorem Ay (hc:nR E call) {ops:Array Oper}:∀(l:List Oper) {s:CS} {L:List CS},Oc E.P call ops l s=some L→AOps E ops l ⟨bW s.1,s.2⟩ (SL L)
 |[],s,L,h=>by simp only[Oc,zB]at h;subst h;exact⟨s,zU.2 rfl,rfl⟩
 |o::l,s,L,h=>by
  simp only[Oc]at h
  split at h
  ·rename_i ss h1
   refine (Hk hc h1).mono ?_
   rintro _ ⟨s1,hm,rfl⟩
   obtain⟨M,h2,h3⟩:=iA h s1 hm
   exact AOps.mono l (fun _ ⟨s2,h4,h5⟩=>⟨s2,h3 s2 h4,h5⟩) (Ay hc l h2)
  ·cases h
theorem xW {P:Program} (hr:jQ P run) {g:FuncId} {args:List AV} {v:AV} (h:G3 run g args=some v) (row src:Option Nat):
  PFun P row src g args (·=v)∧(∀a,a∈args→Imm a)∧Imm v:=by
 unfold G3 at h
 split at h
 ·rename_i ha
  split at h
  ·rename_i L h1
   obtain⟨hi,hv⟩:=xF h
   refine⟨ti (hr _ _ _ _ h1 row src) ?_,fun a hx=>gM 6 a (zS.1 ha a hx),hi⟩
   intro r' K hm
   have:=hv _ hm
   dsimp only at this
   exact⟨v,by rw[this];exact .refl _,by rw[this];exact hi,hi,rfl⟩
  ·cases h
 ·cases h
theorem sJ (hr:jQ E.P run) (hc:nR E call)
  {D:Nat→Bool} {n:Nat} (hD:∀i,D i=true→i<n) {S T:List Nat} {ops:Array Oper} {k:Nat} {o:Oper} {s:CS} {L:List CS} (h:Bd E.P run call D n S T ops k o s=some L):XStep D E ops S T k o ⟨bW s.1,s.2⟩ (SL L):=by
 unfold Bd at h
 unfold XStep
 split at h
 ·rename_i hg
  split at h
  ·rename_i hT
   rw[if_pos hT]
   unfold pT QOut
   simp only[hg]
   unfold QEff
   split at h
   ·rename_i c hop
    split at h
    ·rename_i f hcal
     split at h
     ·rename_i g caps hf
      split at h
      ·rename_i hen
       simp only[zL]at h
       obtain⟨v,hv,rfl⟩:=h
       obtain⟨h1,h2,h3⟩:=xW hr hv E.row E.src
       rw[ku _ _ []]at hf
       simp only[hop,hcal,hf]
       have:=gl (E:=E) (b:= .mk) (k:=fun x=>SL [(ye s.1 o.dst v,s.2)] ⟨dK (bW s.1) o.dst x,s.2⟩) h1 rfl hen h2 h3 Br
       rw[ku _ _ []]at this
       exact this
      ·cases h
     ·cases h
    ·cases h
   ·cases h
  ·rename_i hT
   rw[if_neg hT]
   unfold DStep
   simp only[hg]
   unfold DEff
   split at h
   ·rename_i hrd
    rw[if_pos hrd]
    simp only[zL]at h
    obtain⟨v,hv,rfl⟩:=h
    have e:rdH (!S.contains k) D s.2=(if S.contains k=true then s.2 else xr D 0 s.2):=by
     rw[Xe]
     cases S.contains k<;>rfl
    dsimp only
    rw[e]
    simp only[hv]
    exact Br
   ·rename_i hrd
    rw[if_neg hrd]
    split at h
    ·rename_i hS
     simp only[zL]at h
     obtain⟨M,hv,rfl⟩:=h
     refine (nV hc hv).mono fun x K hx=>⟨fun hs=>?_,Ku hx⟩
     rw[hS]at hs
     cases hs
    ·split at h
     ·rename_i X hX
      split at h
      ·rename_i hb
       simp only[zG,zI,zS,vQ]at hb
       simp only[zL]at h
       obtain⟨M,hv,rfl⟩:=h
       refine (nV hc hv).mono fun x K hx=>⟨fun _ id hid=>ET hv hX id (Nat.lt_of_lt_of_le (hD id hid) hb.1) (fun hm=>?_) hx,Ku hx⟩
       rw[hb.2 id hm]at hid
       cases hid
      ·cases h
     ·split at h
      ·rename_i M hv
       split at h
       ·rename_i hb
        simp only[zG,zI,zS]at hb
        simp only[zB]at h
        subst h
        exact (nV hc hv).mono fun x K hx=>⟨fun _ id hid=>Bm (hb.2 _ hx) id (Nat.lt_of_lt_of_le (hD id hid) hb.1) (by rw[vR];exact hid),Ku hx⟩
       ·cases h
      ·cases h
 ·rename_i hg
  simp only[zB]at h
  subst h
  split
  ·unfold pT QOut
   simp only[hg]
   exact Br
  ·unfold DStep
   simp only[hg]
   exact Br
 ·cases h
theorem xJ (hr:jQ E.P run) (hc:nR E call)
  {D:Nat→Bool} {n:Nat} (hD:∀i,D i=true→i<n) {S T:List Nat} {ops:Array Oper}:∀(l:List Oper) (k:Nat) {s:CS} {L:List CS},HJ E.P run call D n S T ops l k s=some L→AXOps D E ops S T l k ⟨bW s.1,s.2⟩ (SL L)
 |[],k,s,L,h=>by simp only[HJ,zB]at h;subst h;exact⟨s,zU.2 rfl,rfl⟩
 |o::l,k,s,L,h=>by
  simp only[HJ]at h
  split at h
  ·rename_i ss h1
   refine (sJ hr hc hD h1).mono ?_
   rintro _ ⟨s1,hm,rfl⟩
   obtain⟨M,h2,h3⟩:=iA h s1 hm
   exact AXOps.mono l (k+1) (fun _ ⟨s2,h4,h5⟩=>⟨s2,h3 s2 h4,h5⟩) (xJ hr hc hD l (k+1) h2)
  ·cases h
theorem rf (hr:jQ E.P run) (hc:nR E call)
  {D:Nat→Bool} {n:Nat} (hD:∀i,D i=true→i<n) {S T:List Nat} {ops:Array Oper}:∀(k:Nat) (listed:Array Bool) {s:CS} {L:List CS},qj E.P run call D n S T ops k listed s=some L→XAny D E ops S T (SL L) k listed ⟨bW s.1,s.2⟩
 |0,listed,s,L,h=>by
  simp only[qj]at h
  split at h
  ·rename_i h0
   simp only[zB]at h
   subst h
   exact⟨h0,s,zU.2 rfl,rfl⟩
  ·cases h
 |k+1,listed,s,L,h=>by
  simp only[qj]at h
  split at h
  ·cases h
  ·rename_i R hne
   have one:∀(i:Nat) (M:List CS),(match ops[i]? with
     |some o=>match Bd E.P run call D n S T ops i o s with
      |some ss=>pD (qj E.P run call D n S T ops k (listed.setIfInBounds i true)) ss
      |none=>none
     |none=>none)=some M→(∀x,x∈M→x∈L)→∃o,ops[i]?=some o∧XStep D E ops S T i o ⟨bW s.1,s.2⟩ (XAny D E ops S T (SL L) k (listed.setIfInBounds i true)):=fun i M hM hsub=>by
    split at hM
    ·rename_i o ho
     split at hM
     ·rename_i ss h1
      refine⟨o,ho,(sJ hr hc hD h1).mono ?_⟩
      rintro _ ⟨s1,hm,rfl⟩
      obtain⟨M',h2,h3⟩:=iA hM s1 hm
      exact XAny.mono (fun _ ⟨s2,h4,h5⟩=>⟨s2,hsub _ (h3 s2 h4),h5⟩) _ _ _ (rf hr hc hD k _ h2)
     ·cases hM
    ·cases hM
   split at h
   ·rename_i i hi
    obtain⟨o,ho,hx⟩:=one i L h fun _ h=>h
    have hp:=List.find?_some hi
    exact Na i ho hp hx
   ·refine⟨fun h0=>(hne h0).elim,fun i hi o ho=>?_⟩
    obtain⟨M,h1,h2⟩:=iA h i hi
    obtain⟨o',ho',hx⟩:=one i M h1 h2
    rw[ho]at ho'
    cases ho'
    exact hx
theorem DH.D_lt (d:DH) (s:CS):∀i,d.D s i=true→i<s.2.length:=fun i h=>by
 simp only[DH.D,zG,zI]at h
 exact h.1
theorem Cc (hm:E.P.follows .mixedOrders=true) (hr:jQ E.P run) (hc:nR E call) {d:DH} {ops:Array Oper} {s:CS} {L:List CS} {id:Nat} (hb:AU E.N ops=true) (h:D2 E.P run call d ops s=some L):
  AWp E (.region id ops true) ⟨bW s.1,s.2⟩ (fun x st=>x= .normal∧SL L st):=by
 unfold D2 at h
 split at h
 ·rename_i hx
  exact uS (d.D s) d.S d.T hm hb (XAny.mono (K:=SL L) (fun st hs=>⟨rfl,hs⟩) _ _ _ (BJ hx (xJ hr hc (DH.D_lt d s) ops.toList 0 h)))
 ·exact uS (d.D s) d.S d.T hm hb (XAny.mono (K:=SL L) (fun st hs=>⟨rfl,hs⟩) _ _ _ (rf hr hc (DH.D_lt d s) ops.size _ h))
abbrev OL (L:List (Exit×CS)):Exit→St→Prop:=fun x st=>∃s,(x,s)∈L∧st=⟨bW s.1,s.2⟩
theorem FL (hm:E.P.follows .mixedOrders=true) (hint:Nat→DH) (hr:jQ E.P run) {call:Nat→Run} (hc:∀id,nR E (call id)):
  ∀(n:Nat) (c:Code) (s:CS) (L:List (Exit×CS)),gv E.P E.N hint run call n c s=some L→AWp E c ⟨bW s.1,s.2⟩ (OL L):=by
 intro n
 induction n using Nat.strongRecOn with
 |_ n ih=>
  intro c s L h
  cases n with
  |zero=>simp[gv]at h
  |succ n=>
   have ih1:=ih n (Nat.lt_succ_self n)
   have one:∀{e:Exit} {s:CS},some [(e,s)]=some L→OL L e ⟨bW s.1,s.2⟩:=fun h=>by
    simp only[zB]at h
    subst h
    exact⟨_,zU.2 rfl,rfl⟩
   cases c
   case skip=>simp only[gv]at h;exact fun a w r=>wp_skip ⟨_,one h,r⟩
   case region id ops d=>
    simp only[gv]at h
    split at h
    ·rename_i hb
     split at h
     ·rename_i ss h1
      simp only[zB]at h
      subst h
      cases d
      ·simp only[wS,if_false]at h1
       refine AWp.mono (Bv (Q:=fun x st=>x= .normal∧SL ss st) hb (AOps.mono _ (fun s hs=>⟨rfl,hs⟩) (Ay (hc id) ops.toList h1))) ?_
       rintro x st ⟨rfl,s1,h2,rfl⟩
       exact⟨s1,zV.2 ⟨s1,h2,rfl⟩,rfl⟩
      ·simp only[if_true]at h1
       refine AWp.mono (Cc (id:=id) hm hr (hc id) hb h1) ?_
       rintro x st ⟨rfl,s1,h2,rfl⟩
       exact⟨s1,zV.2 ⟨s1,h2,rfl⟩,rfl⟩
     ·cases h
    ·cases h
   case seq x y=>
    simp only[gv]at h
    split at h
    ·rename_i rs h1
     intro a w r
     refine wp_seq (wp_mono (ih1 x s _ h1 a w r) ?_)
     rintro e' a' w' ⟨st,⟨s1,hs,rfl⟩,r'⟩
     obtain⟨M,h2,h3⟩:=iA h _ hs
     dsimp only at h2
     cases e' with
     |normal=>exact wp_mono (ih1 y s1 _ h2 a' w' r') fun e a w ⟨st,⟨s2,h4,h5⟩,r2⟩=>⟨st,⟨s2,h3 _ h4,h5⟩,r2⟩
     |_=>
      simp only[zB]at h2
      subst h2
      exact⟨_,⟨s1,h3 _ (zU.2 rfl),rfl⟩,r'⟩
    ·cases h
   case cond x y z=>
    simp only[gv]at h
    have he:∀{a:Act} {w:World} {v:Value},Rel E ⟨bW s.1,s.2⟩ a w→St.eval ⟨bW s.1,s.2⟩ x= .sc v→a.eval x=v:=fun {a w v} r hx=>by
     obtain⟨ρ,ok,g,_,_,_,hrr⟩:=r
     have:=BT hrr x
     rw[hx]at this
     exact cM this
    intro a w r
    split at h
    ·rename_i hx
     exact wp_cond_split (he r hx) (fun _=>ih1 y s _ h a w r) (fun e=>by cases e)
    ·rename_i hx
     exact wp_cond_split (he r hx) (fun e=>by cases e) (fun _=>ih1 z s _ h a w r)
    ·cases h
   case block id c=>
    simp only[gv]at h
    split at h
    ·rename_i rs h1
     simp only[zB]at h
     subst h
     intro a w r
     refine wp_block (wp_mono (ih1 c s _ h1 a w r) ?_)
     rintro e' a' w' ⟨st,⟨s1,hs,rfl⟩,r'⟩
     cases e' with
     |exit i=>
      simp only[Exit.inBlock]
      split
      ·rename_i hi
       exact⟨_,⟨s1,zV.2 ⟨_,hs,by dsimp only;rw[if_pos hi]⟩,rfl⟩,r'⟩
      ·rename_i hi
       exact⟨_,⟨s1,zV.2 ⟨_,hs,by dsimp only;rw[if_neg hi]⟩,rfl⟩,r'⟩
     |_=>exact⟨_,⟨s1,zV.2 ⟨_,hs,rfl⟩,rfl⟩,r'⟩
    ·cases h
   case exit id=>simp only[gv]at h;exact fun a w r=>wp_exit ⟨_,one h,r⟩
   case label l=>simp only[gv]at h;exact fun a w r=>wp_label ⟨_,one h,r⟩
   case ret=>simp only[gv]at h;exact fun a w r=>wp_ret ⟨_,one h,r⟩
   case loop c=>
    intro a w r
    refine wp_loop_ghost (fun k a w=>k≤n+1∧∃s1 M,gv E.P E.N hint run call k (.loop c) s1=some M∧(∀x,x∈M→x∈L)∧Rel E ⟨bW s1.1,s1.2⟩ a w) (n+1) ⟨zZ _,s,L,h,fun _ h=>h,r⟩ ?_
    rintro k a w ⟨hk,s1,M,h1,hsub,r1⟩
    match k,hk,h1 with
    |0,_,h1=>simp[gv]at h1
    |k+1,hk,h1=>
     simp only[gv]at h1
     split at h1
     ·rename_i rs h2
      refine wp_mono (ih k (by omega) c s1 _ h2 a w r1) ?_
      rintro e' a' w' ⟨st,⟨s2,hs,rfl⟩,r'⟩
      obtain⟨M',h3,h4⟩:=iA h1 _ hs
      dsimp only at h3
      cases e' with
      |normal=>exact⟨k,Nat.lt_succ_self k,by omega,s2,M',h3,fun x hx=>hsub x (h4 x hx),r'⟩
      |_=>
       simp only[zB]at h3
       subst h3
       exact⟨_,⟨s2,hsub _ (h4 _ (zU.2 rfl)),rfl⟩,r'⟩
     ·cases h1
   all_goals simp[gv]at h
end
def Om (mode:FuncId→Bool) (run:Run) (g:FuncId) (args:List AV) (H:ah):Option (List (AV×ah)):=
 if mode g then run g args H
 else if (args.map (dR H)).all (uO 6)then match run g (args.map (dR H)) []with
  |some L=>match KO L with
   |some v=>if Dv 6 v||args.all fun a=>(lg a).isEmpty then some [(v,H)]else run g args H
   |none=>none
  |none=>none
 else run g args H
def Ys (P:Program) (rs:List ResultVar):List (Exit×CS)→Option (List (AV×ah)):=pD fun r=>match r.1 with
 | .normal=>(mh P ⟨bW r.2.1,r.2.2⟩ rs).map fun v=>[(v,r.2.2)]
 | .ret=>(mh P ⟨bW r.2.1,r.2.2⟩ rs).map fun v=>[(v,r.2.2)]
 |_=>none
def Jg (P:Program) (prim:Run) (hints:FuncId→Nat→DH) (mode:FuncId→Nat→FuncId→Bool) (F:Nat):Nat→Run
 |0,_,_,_=>none
 |n+1,f,args,H=>match prim f args H with
  |some L=>some L
  |none=>match P.funcs[f]? with
   |some fn=>match fn.body with
    |some body=>if args.length≤fn.ntmps then match gv P fn.ntmps (hints f) (Jg P prim hints mode F n) (fun id=>Om (mode f id) (Jg P prim hints mode F n)) F body (args,H)with
     |some rs=>match Ys P fn.results.toList rs with
      |some (y::L)=>some (y::L)
      |_=>none
     |none=>none
     else none
    |none=>none
   |none=>none
theorem tZ {H:ah}:∀(args:List AV),(∀a,a∈args→Imm (dR H a))→Args H args (args.map (dR H))
 |[],_=> .nil
 |a::l,h=> .cons (.refl _) (h a (by simp)) (tZ l fun x hx=>h x (by simp[hx]))
theorem Gw {E:Env} {mode:FuncId→Bool} {run:Run} (hr:jQ E.P run):nR E (Om mode run):=by
 intro g args H L h
 unfold Om at h
 split at h
 ·exact hr _ _ _ _ h E.row E.src E rfl rfl rfl
 ·split at h
  ·rename_i ha
   split at h
   ·rename_i L1 h1
    split at h
    ·rename_i v hv
     obtain⟨hi,hall⟩:=xF hv
     have hav:∀a,a∈args→Imm (dR H a):=fun a hx=>gM 6 _ (zS.1 ha _ (uA hx))
     have pf:PFun E.P E.row E.src g (args.map (dR H)) (·=v):=ti (hr _ _ _ _ h1 E.row E.src) (by
      intro r' K hm
      have:=hall _ hm
      dsimp only at this
      exact⟨v,by rw[this];exact .refl _,by rw[this];exact hi,hi,rfl⟩)
     split at h
     ·rename_i hf
      simp only[zB]at h
      subst h
      simp only[wZ]at hf
      rcases hf with hf|hf
      ·exact oe _ rfl pf (tZ args hav) ⟨_,rfl⟩ (by rintro x rfl;exact rD 6 _ hf) (by rintro x rfl;exact zU.2 rfl)
      ·exact na _ rfl pf (tZ args hav) (fun a hx=>by simpa using zS.1 hf a hx) (by rintro x rfl _;exact zU.2 rfl) ⟨_,rfl,hi⟩
     ·exact hr _ _ _ _ h E.row E.src E rfl rfl rfl
    ·cases h
   ·cases h
  ·exact hr _ _ _ _ h E.row E.src E rfl rfl rfl
theorem Bz {P:Program} (hm:P.follows .mixedOrders=true) {prim:Run} (hp:jQ P prim) (hints:FuncId→Nat→DH) (mode:FuncId→Nat→FuncId→Bool) (F:Nat):∀(n:Nat),jQ P (Jg P prim hints mode F n)
 |0=>fun _ _ _ _ h=>by simp[Jg]at h
 |n+1=>by
  intro f args H L h row src
  have ih:=Bz hm hp hints mode F n
  simp only[Jg]at h
  split at h
  ·rename_i L1 h1
   simp only[zB]at h
   subst h
   exact hp _ _ _ _ h1 row src
  split at h
  ·rename_i fn hfn
   split at h
   ·rename_i body hb
    split at h
    ·rename_i hn
     split at h
     ·rename_i rs hrs
      split at h
      ·rename_i y L' hres
       simp only[zB]at h
       rw[h]at hres
       refine o6 hfn hb hn ⟨y.1,y.2,by rw[←h];simp⟩ fun E hP _ _ hN=>?_
       subst hP
       rw[←hN]at hrs
       refine (FL (E:=E) hm (hints f) ih (fun id=>Gw (mode:=mode f id) ih) F body (args,H) _ hrs).mono ?_
       rintro x st ⟨s1,hs,rfl⟩
       obtain⟨M,h2,h3⟩:=iA hres _ hs
       dsimp only at h2
       cases x<;>simp only[reduceCtorEq,zL]at h2⊢
       ·obtain⟨v,hv,rfl⟩:=h2
        simp only[AM,hv]
        exact h3 _ (zU.2 rfl)
       ·obtain⟨v,hv,rfl⟩:=h2
        simp only[AM,hv]
        exact h3 _ (zU.2 rfl)
      ·cases h
     ·cases h
    ·cases h
   ·cases h
  ·cases h
theorem Gu {P:Program} {prim:Run} (hp:jQ P prim) (hints:FuncId→Nat→DH) (mode:FuncId→Nat→FuncId→Bool) (F n:Nat) {f:FuncId} {args:List AV} {v:AV} (hm:P.follows .mixedOrders=true)
  (h:G3 (Jg P prim hints mode F n) f args=some v) (row src:Option Nat):PFun P row src f args (·=v):=(xW (Bz hm hp hints mode F n) h row src).1
def UV (ty:TypeId) (k:Nat) (H:ah):List (AV×ah):=[(.sref H.length 0 0,H++[some ⟨ty,k,[]⟩]),(.sref (H.length+1) 0 0,H++[none]++[some ⟨ty,k,[]⟩])]
def PD (l:List (FuncId×TypeId×Nat)):Run:=fun f args H=>match l.find? (fun x=>x.1==f),args with
 |some (_,ty,k),[.list k' []]=>if k'=k then some (UV ty k H)else none
 |_,_=>none
theorem Oj {P:Program} {l:List (FuncId×TypeId×Nat)} (h:∀x,x∈l→∀(H:ah) row src,MFun P row src x.1 [.list x.2.2 []] H (IsL (UV x.2.1 x.2.2 H))):jQ P (PD l):=by
 intro g args H L hL row src
 unfold PD at hL
 split at hL
 ·rename_i f ty k k' hf
  split at hL
  ·rename_i hk
   subst hk
   simp only[zB]at hL
   subst hL
   have hm:=vU hf
   have hg:=List.find?_some hf
   simp only[beq_iff_eq]at hg
   subst hg
   exact h _ hm H row src
  ·cases hL
 ·cases hL
def U5 (l:List (FuncId×Nat×FuncId)) (f:FuncId) (r:Nat) (g:FuncId):Bool:=l.any fun x=>x.1==f&&x.2.1==r&&x.2.2==g
def IJ:List (Nat×Nat×DH)→FuncId→Nat→DH
 |[],_,_=>⟨[],[],[]⟩
 |(f,r,d)::l,g,q=>if f=g then (if r=q then d else IJ l g q)else IJ l g q
abbrev KL:=List (FuncId×List AV×AV)
def Rh (l:KL):Run:=fun f args H=>match l.find? (fun x=>x.1==f&&iZ (yq 6) x.2.1 args)with
 |some x=>if args.all (uO 6)&&uO 6 x.2.2 then some [(x.2.2,H)]else none
 |none=>none
def JS (p q:Run):Run:=fun f args H=>match p f args H with
 |some L=>some L
 |none=>q f args H
theorem C4 {P:Program} {p q:Run} (hp:jQ P p) (hq:jQ P q):jQ P (JS p q):=by
 intro g args H L h row src
 unfold JS at h
 split at h
 ·rename_i L1 h1
  simp only[zB]at h
  subst h
  exact hp _ _ _ _ h1 row src
 ·exact hq _ _ _ _ h row src
abbrev KOk (P:Program) (l:KL):Prop:=∀x,x∈l→PFun P none none x.1 x.2.1 (·=x.2.2)
theorem FK {P:Program} {l:KL} (h:KOk P l):jQ P (Rh l):=by
 intro g args H L hL row src
 unfold Rh at hL
 split at hL
 ·rename_i x hx
  split at hL
  ·rename_i hi
   simp only[zB]at hL
   subst hL
   simp only[zG]at hi
   have hf:=List.find?_some hx
   simp only[zG,beq_iff_eq]at hf
   have ha:=fM (fun _ _=>yD 6) hf.2
   have hg:=hf.1
   have him:∀a,a∈args→Imm a:=fun a ha=>gM 6 a (zS.1 hi.1 a ha)
   intro E hP hrow hsrc
   subst hrow;subst hsrc
   have pf:=(h x (vU hx)).lift E.row E.src
   rw[ha,hg]at pf
   exact na args hP pf (ak him) (fun a ha=>eT (him a ha)) (fun r hr _=>by rw[hr];exact zU.2 rfl) ⟨_,rfl,gM 6 _ hi.2⟩
  ·cases hL
 ·cases hL
theorem jR {P:Program} {pE:Run} (hE:jQ P pE) {l:KL} (h:KOk P l) (hints:FuncId→Nat→DH) (mode:FuncId→Nat→FuncId→Bool) (hm:P.follows .mixedOrders=true) {f:FuncId} {args:List AV} {v:AV}
  (hr:G3 (Jg P (JS pE (Rh l)) hints mode 10000 60) f args=some v):KOk P ((f,args,v)::l):=by
 intro x hx
 rcases zO.1 hx with rfl|hx
 ·exact Gu (C4 hE (FK h)) hints mode 10000 60 hm hr none none
 ·exact h x hx
theorem Su {P:Program}:KOk P []:=fun _ h=>by cases h
end Go.PA
set_option maxRecDepth 100000
namespace Go.Proofs.YtfbogibogkbhmaaGreatDoor
open Go.PA
open Go.RowKit
theorem RM {row src:Option Nat} (H:ah):MFun Tryz.prog row src 189 [.list 5 []] H (IsL (UV 111 5 H)):=by
 have own:MFun Tryz.prog row src 189 [.list 5 []] H (fun r H'=>(r= .nil∧H'=H)∨(r= .sref (H.length+1) 0 0∧H'=H++[none]++[some ⟨111,5,[]⟩])):=by
  refine qU fun A c=>?_
  refine aG Tryz.func189 rfl (by simp[Tryz.f189]) (by kernel_rfl) ⟨.nil,H,.inl ⟨rfl,rfl⟩⟩ ?_
  intro E hP hr hs hN
  cases A with
  |none=>simp -dsimp -implicitDefEqProofs [-getElem?_pos,go_sem,hP]
  |some a=>simp -dsimp -implicitDefEqProofs [-getElem?_pos,go_sem,hP,FM]
 refine (own.ownNil 111 5).mono ?_
 rintro r H' (⟨H0,h0,rfl,rfl⟩|⟨hne,h⟩)
 ·rcases h0 with⟨_,rfl⟩|⟨h,_⟩
  ·exact .head _
  ·cases h
 ·rcases h with⟨h,_⟩|⟨rfl,rfl⟩
  ·exact absurd h hne
  ·exact .tail _ (.head _)
def V9:List (FuncId×TypeId×Nat):=[(189,111,5)]
theorem eO:jQ Tryz.prog (PD V9):=Oj fun x hx H row src=>by
 simp only[V9,zO,wC,or_false]at hx
 subst hx
 exact RM H
def oO:=U5 [(28,9,93),(311,6,119),(50,5,119),(119,1,181),(302,16,343),(343,1,192),(343,1,193),(343,1,194),(343,1,190),(311,10,188),(263,12,306),(306,1,191),(313,20,350),(350,1,189),(350,1,190),(313,17,357),(313,21,357),(271,12,195),(314,9,306),(205,1,188),(205,1,276)]
def oH:FuncId→Nat→DH:=IJ [(196,7,⟨[],[7],[]⟩),(197,4,⟨[],[6],[]⟩),(260,7,⟨[],[15],[]⟩),(263,19,⟨[],[11,12],[]⟩),(270,1,⟨[],[19,20],[]⟩),(196,12,⟨[13],[],[]⟩),(316,2,⟨[28],[],[]⟩),(126,10,⟨[10],[],[]⟩),(263,34,⟨[3],[],[4]⟩),(313,23,⟨[8,9],[],[]⟩),(263,24,⟨[7],[],[]⟩),(196,5,⟨[20],[],[]⟩),(262,14,⟨[9,11],[],[]⟩),(306,1,⟨[10],[],[]⟩),(352,1,⟨[9],[],[]⟩),(303,11,⟨[4],[],[]⟩),(271,12,⟨[7],[],[]⟩),(311,10,⟨[13],[],[]⟩),(182,11,⟨[6,7,9,10],[],[0]⟩),(181,5,⟨[12,9],[],[]⟩),(302,35,⟨[12],[],[]⟩),(302,18,⟨[19,22],[],[]⟩),(126,15,⟨[8,11],[],[]⟩),(185,1,⟨[10],[],[]⟩),(126,14,⟨[26,29,32,35],[],[]⟩),(126,3,⟨[14,17],[],[]⟩),(126,2,⟨[14,17],[],[]⟩)]
theorem k0:KOk Tryz.prog []:=Su
def l1:KL:=(117,[.list 1 [[iv 1],[iv 2]]],bv true)::[]
theorem k1:KOk Tryz.prog l1:=jR eO k0 oH oO (by kernel_rfl) (by kernel_rfl)
def l2:KL:=(200,[.agg [iv 1,iv 0,iv 1,iv 110,iv 410,iv 100,iv 0,iv 0]],bv true)::l1
theorem k2:KOk Tryz.prog l2:=jR eO k1 oH oO (by kernel_rfl) (by kernel_rfl)
def l3:KL:=(127,[.agg [iv 0,.list 2 [[iv 1,iv 0],[iv 2,iv 0]],.nil,.nil,.nil,.nil,.nil,.nil,.nil,.nil,.nil,.nil,.nil,.nil,.nil],.agg [iv 1,iv 0,iv 2,iv 1,iv 0,iv 100,iv 0]],.tup [.agg [iv 0,.list 2 [[iv 1,iv 0],[iv 2,iv 100]],.list 6 [[iv 1,iv 0,iv 0,iv 2,iv 100,iv 0]],.nil,.nil,.nil,.nil,.nil,.list 5 [[iv 1,iv 0,iv 1,iv 100,iv 0]],.nil,.list 1 [[iv 100]],.nil,.nil,.nil,.list 8 [[iv 1,iv 0,iv 1,iv 110,iv 410,iv 100,iv 0,iv 0]]],iv 0])::l2
theorem k3:KOk Tryz.prog l3:=jR eO k2 oH oO (by kernel_rfl) (by kernel_rfl)
def l4:KL:=(50,[.agg [iv 0,.list 2 [[iv 1,iv 0],[iv 2,iv 100]],.list 6 [[iv 1,iv 0,iv 0,iv 2,iv 100,iv 0]]]],iv 0)::l3
theorem k4:KOk Tryz.prog l4:=jR eO k3 oH oO (by kernel_rfl) (by kernel_rfl)
def l5:KL:=(177,[.agg [iv 5,iv 1,iv 60,iv 0,iv 2]],bv true)::l4
theorem k5:KOk Tryz.prog l5:=jR eO k4 oH oO (by kernel_rfl) (by kernel_rfl)
def l6:KL:=(113,[.agg [.list 5 [[iv 5,iv 1,iv 60,iv 0,iv 2]],.list 1 [[iv 5]],.nil]],iv 0)::l5
theorem k6:KOk Tryz.prog l6:=jR eO k5 oH oO (by kernel_rfl) (by kernel_rfl)
def l7:KL:=(263,[.agg [iv 0,.list 2 [[iv 1,iv 0],[iv 2,iv 100]],.list 6 [[iv 1,iv 0,iv 0,iv 2,iv 100,iv 0]],.list 5 [[iv 5,iv 1,iv 60,iv 0,iv 2]],.list 1 [[iv 5]],.nil,.list 7 [[iv 5,iv 1,iv 60,iv 0,iv 2,iv 1,iv 0]]],iv 0],.tup [.agg [iv 0,.list 2 [[iv 1,iv 0],[iv 2,iv 40]],.list 6 [[iv 1,iv 0,iv 0,iv 2,iv 100,iv 0],[iv 2,iv 0,iv 2,iv 0,iv 60,iv 5]],.list 5 [],.list 1 [[iv 5]],.list 3 [[iv 1,iv 0,.list 5 [[iv 5,iv 1,iv 60,iv 0,iv 2]]]],.list 7 [[iv 5,iv 1,iv 60,iv 0,iv 2,iv 2,iv 1]]],.agg [iv 1,iv 0,.list 5 [[iv 5,iv 1,iv 60,iv 0,iv 2]]],iv 0])::l6
theorem k7:KOk Tryz.prog l7:=jR eO k6 oH oO (by kernel_rfl) (by kernel_rfl)
def l8:KL:=(200,[.agg [iv 2,iv 0,iv 1,iv 510,iv 110,iv 60,iv 0,iv 5]],bv true)::l7
theorem k8:KOk Tryz.prog l8:=jR eO k7 oH oO (by kernel_rfl) (by kernel_rfl)
def l9:KL:=(50,[.agg [iv 0,.list 2 [[iv 1,iv 0],[iv 2,iv 40]],.list 6 [[iv 1,iv 0,iv 0,iv 2,iv 100,iv 0],[iv 2,iv 0,iv 2,iv 0,iv 60,iv 5]]]],iv 0)::l8
theorem k9:KOk Tryz.prog l9:=jR eO k8 oH oO (by kernel_rfl) (by kernel_rfl)
def l10:KL:=(174,[.agg [.list 5 [],.list 1 [[iv 5]],.list 3 [[iv 1,iv 0,.list 5 [[iv 5,iv 1,iv 60,iv 0,iv 2]]]]]],bv true)::l9
theorem k10:KOk Tryz.prog l10:=jR eO k9 oH oO (by kernel_rfl) (by kernel_rfl)
def l11:KL:=(114,[.agg [iv 0,.list 2 [[iv 1,iv 0],[iv 2,iv 40]],.list 6 [[iv 1,iv 0,iv 0,iv 2,iv 100,iv 0],[iv 2,iv 0,iv 2,iv 0,iv 60,iv 5]],.list 5 [],.list 1 [[iv 5]],.list 3 [[iv 1,iv 0,.list 5 [[iv 5,iv 1,iv 60,iv 0,iv 2]]]],.list 7 [[iv 5,iv 1,iv 60,iv 0,iv 2,iv 2,iv 1]]],.agg [iv 5,iv 1,iv 60,iv 0,iv 2,iv 2,iv 1]],bv true)::l10
theorem k11:KOk Tryz.prog l11:=jR eO k10 oH oO (by kernel_rfl) (by kernel_rfl)
def l12:KL:=(311,[.agg [iv 0,.list 2 [[iv 1,iv 0],[iv 2,iv 40]],.list 6 [[iv 1,iv 0,iv 0,iv 2,iv 100,iv 0],[iv 2,iv 0,iv 2,iv 0,iv 60,iv 5]]],.agg [iv 3,iv 1,iv 0,iv 2,iv 60,iv 5]],.tup [.agg [iv 0,.list 2 [[iv 1,iv 0],[iv 2,iv 100]],.list 6 [[iv 1,iv 0,iv 0,iv 2,iv 100,iv 0],[iv 2,iv 0,iv 2,iv 0,iv 60,iv 5],[iv 3,iv 1,iv 0,iv 2,iv 60,iv 5]]],iv 0])::l11
theorem k12:KOk Tryz.prog l12:=jR eO k11 oH oO (by kernel_rfl) (by kernel_rfl)
def l13:KL:=(200,[.agg [iv 3,iv 1,iv 1,iv 110,iv 410,iv 60,iv 0,iv 5]],bv true)::l12
theorem k13:KOk Tryz.prog l13:=jR eO k12 oH oO (by kernel_rfl) (by kernel_rfl)
def l14:KL:=(127,[.agg [iv 0,.list 2 [[iv 1,iv 0],[iv 2,iv 40]],.list 6 [[iv 1,iv 0,iv 0,iv 2,iv 100,iv 0],[iv 2,iv 0,iv 2,iv 0,iv 60,iv 5]],.list 5 [],.list 1 [[iv 5]],.list 3 [[iv 1,iv 0,.list 5 [[iv 5,iv 1,iv 60,iv 0,iv 2]]]],.list 7 [[iv 5,iv 1,iv 60,iv 0,iv 2,iv 2,iv 1]],.nil,.list 5 [[iv 1,iv 0,iv 1,iv 100,iv 0]],.nil,.list 1 [[iv 100]],.nil,.nil,.nil,.list 8 [[iv 1,iv 0,iv 1,iv 110,iv 410,iv 100,iv 0,iv 0],[iv 2,iv 0,iv 1,iv 510,iv 110,iv 60,iv 0,iv 5]]],.agg [iv 5,iv 1,iv 0,iv 0,iv 5,iv 0,iv 0]],.tup [.agg [iv 0,.list 2 [[iv 1,iv 0],[iv 2,iv 100]],.list 6 [[iv 1,iv 0,iv 0,iv 2,iv 100,iv 0],[iv 2,iv 0,iv 2,iv 0,iv 60,iv 5],[iv 3,iv 1,iv 0,iv 2,iv 60,iv 5]],.list 5 [],.list 1 [[iv 5]],.list 3 [[iv 1,iv 0,.list 5 [[iv 5,iv 1,iv 60,iv 0,iv 2]]]],.list 7 [[iv 5,iv 1,iv 60,iv 0,iv 2,iv 4,iv 1]],.nil,.list 5 [[iv 1,iv 0,iv 1,iv 100,iv 0]],.nil,.list 1 [[iv 100]],.nil,.nil,.nil,.list 8 [[iv 1,iv 0,iv 1,iv 110,iv 410,iv 100,iv 0,iv 0],[iv 2,iv 0,iv 1,iv 510,iv 110,iv 60,iv 0,iv 5],[iv 3,iv 1,iv 1,iv 110,iv 410,iv 60,iv 0,iv 5]]],iv 0])::l13
theorem k14:KOk Tryz.prog l14:=jR eO k13 oH oO (by kernel_rfl) (by kernel_rfl)
def l15:KL:=(56,[.agg [iv 0,.list 2 [[iv 1,iv 0],[iv 2,iv 0]],.nil,.nil,.nil,.nil,.nil,.nil,.nil,.nil,.nil,.nil,.nil,.nil,.nil],.list 7 [[iv 1,iv 0,iv 2,iv 1,iv 0,iv 100,iv 0],[iv 2,iv 0,iv 2,iv 1,iv 5,iv 60,iv 0],[iv 3,iv 0,iv 0,iv 0,iv 0,iv 0,iv 0],[iv 5,iv 1,iv 0,iv 0,iv 5,iv 0,iv 0]]],.tup [.agg [iv 0,.list 2 [[iv 1,iv 0],[iv 2,iv 100]],.list 6 [[iv 1,iv 0,iv 0,iv 2,iv 100,iv 0],[iv 2,iv 0,iv 2,iv 0,iv 60,iv 5],[iv 3,iv 1,iv 0,iv 2,iv 60,iv 5]],.list 5 [],.list 1 [[iv 5]],.list 3 [[iv 1,iv 0,.list 5 [[iv 5,iv 1,iv 60,iv 0,iv 2]]]],.list 7 [[iv 5,iv 1,iv 60,iv 0,iv 2,iv 4,iv 1]],.nil,.list 5 [[iv 1,iv 0,iv 1,iv 100,iv 0]],.nil,.list 1 [[iv 100]],.nil,.nil,.nil,.list 8 [[iv 1,iv 0,iv 1,iv 110,iv 410,iv 100,iv 0,iv 0],[iv 2,iv 0,iv 1,iv 510,iv 110,iv 60,iv 0,iv 5],[iv 3,iv 1,iv 1,iv 110,iv 410,iv 60,iv 0,iv 5]]],iv 4,iv 0])::l14
theorem k15:KOk Tryz.prog l15:=jR eO k14 oH oO (by kernel_rfl) (by kernel_rfl)
def l16:KL:=(50,[.agg [iv 0,.list 2 [[iv 1,iv 0],[iv 2,iv 100]],.list 6 [[iv 1,iv 0,iv 0,iv 2,iv 100,iv 0],[iv 2,iv 0,iv 2,iv 0,iv 60,iv 5],[iv 3,iv 1,iv 0,iv 2,iv 60,iv 5]]]],iv 0)::l15
theorem k16:KOk Tryz.prog l16:=jR eO k15 oH oO (by kernel_rfl) (by kernel_rfl)
def l17:KL:=(131,[.agg [iv 0,.list 2 [[iv 1,iv 0],[iv 2,iv 100]],.list 6 [[iv 1,iv 0,iv 0,iv 2,iv 100,iv 0],[iv 2,iv 0,iv 2,iv 0,iv 60,iv 5],[iv 3,iv 1,iv 0,iv 2,iv 60,iv 5]],.list 5 [],.list 1 [[iv 5]],.list 3 [[iv 1,iv 0,.list 5 [[iv 5,iv 1,iv 60,iv 0,iv 2]]]],.list 7 [[iv 5,iv 1,iv 60,iv 0,iv 2,iv 4,iv 1]],.nil,.list 5 [[iv 1,iv 0,iv 1,iv 100,iv 0]],.nil,.list 1 [[iv 100]],.nil,.nil,.nil,.list 8 [[iv 1,iv 0,iv 1,iv 110,iv 410,iv 100,iv 0,iv 0],[iv 2,iv 0,iv 1,iv 510,iv 110,iv 60,iv 0,iv 5],[iv 3,iv 1,iv 1,iv 110,iv 410,iv 60,iv 0,iv 5]]]],.nil)::l16
theorem k17:KOk Tryz.prog l17:=jR eO k16 oH oO (by kernel_rfl) (by kernel_rfl)
theorem BQ (row src:Option Nat):PFun Tryz.prog row src 17 [] (·=bv true):=Gu (C4 eO (FK k17)) oH oO 10000 60 (by kernel_rfl) (by kernel_rfl) row src
open Go.PA
open Go.RowKit
def toF (x:TFlow):Flow:=⟨x.Day,x.Amount,x.Kind,x.Ref⟩
theorem K7 (l:List TFlow):u5 l=bJ (l.map toF):=by
 simp[u5,bJ,ao,List.map_map]
 intro x _
 rfl
open Go.PA
open Go.RowKit
theorem D6 {T:List TTax} (hT:∀t,t∈T→GenTax t) (lT:T.length≤4) {now:Int} (hn:0≤now∧now≤30000):
  ∃F:List Flow,F.length≤240∧(∀f,f∈F→bK f=true)∧PFun Tryz.prog none none 8 [mD T,iv now,iv (now+200)] (·= .tup [bJ F,iv 0]):=by
 have te:=EV T (UH hT) (by omega) now (now+200)
 have cT:je T=0:=Mb (by omega) fun t ht=>(hT t ht).ok.1
 have lf:=A7 (fun _ d=>btw d now (now+200)) T
 have e:fj T now (now+200)=(kQ (fun _ d=>btw d now (now+200)) T,0):=by rw[fj,if_pos cT,if_pos (by omega)]
 refine⟨(fj T now (now+200)).1.map toF,by rw[e];simp;omega,fun f hf=>?_,?_⟩
 ·obtain⟨x,hx,rfl⟩:=zV.1 hf
  obtain⟨j,t,hj,d,hd,ha,hb,rfl⟩:=DT hx
  have jl:=(gsI hj)
  have am:=IE t
  have hb':now≤d∧d≤now+200:=by simpa[btw]using hb
  show bK ⟨d,dh t,3,(j:Int)⟩=true
  simp only[bK,oL,bV,zG,zI,vQ,wH]
  omega
 ·rw[K7]at te
  have e2:(fj T now (now+200)).2=0:=by rw[e]
  rw[e2]at te
  exact te
theorem Ma {al:List Flow} (hl:al.length≤400) (hv:∀f,f∈al→bK f=true):eJ al=0:=by
 rw[eJ,if_neg (by omega),if_neg]
 intro h
 obtain⟨f,hf,e⟩:=vL.1 h
 rw[hv f hf]at e
 cases e
theorem PB {al:List Flow} (hl:al.length≤400) (hv:∀f,f∈al→bK f=true) {now o:Int} (hn:0≤now∧now≤30000) (ho: -1000000≤o∧o≤1000000):
  ∃(M:List Flow) (L:List Pos),v8 al=(M,0)∧M.length≤400∧iQ o M now (now+200)=(L,0)∧L.length=201∧∀(j:Nat) (x:Pos),L[j]?=some x→x.d=now+(j:Int)∧jS x.a=true:=by
 have hc:=Ma hl hv
 have hp:=zk eR al
 have hcM:eJ (gG eR al)=0:=by rw[Gd hp];exact hc
 have hb:∀k,ge (o+oX (gG eR al) now k)=true:=fun k=>by
  have:=Ap now k 1000000000000 (by omega) (gG eR al) fun f hf=>(Av hcM).2 f hf |>.2
  rw[mH]at this
  have:(al.length:Int)≤400:=by omega
  simp only[ge,bV,zG,zI]
  omega
 obtain⟨L,h1,h2,h3⟩:=DD (gG eR al) now o 201 0 o (by rw[Du];omega) hb
 have ho':ge o=true:=by simp only[ge,bV,zG,zI];omega
 refine⟨gG eR al,L,by rw[v8,if_pos hc],by rw[mH];exact hl,?_,h2,fun j x hx=>?_⟩
 ·unfold iQ
  rw[if_neg (by simp[hcM]),if_neg (by simp[ho',oL,bV];omega),if_neg (by omega),show (now+200-now+1).toNat=201 from by omega,h1]
 ·obtain⟨a,b⟩:=h3 j x hx
  exact⟨by rw[a,vR],by rw[EU];exact b⟩
theorem Od {l:List Pos} (h:(l.map (·.d)).Pairwise (·<·)) {x y:Pos} (hx:x∈l) (hy:y∈l) (e:x.d=y.d):x=y:=by
 obtain⟨i,hi⟩:=wN hx
 obtain⟨j,hj⟩:=wN hy
 have a:=zM.1 hi
 have b:=zM.1 hj
 rcases Nat.lt_trichotomy i j with c|c|c
 ·have:=vT.1 h i j (by simpa using a.1) (by simpa using b.1) c
  simp only[List.getElem_map,a.2,b.2]at this
  omega
 ·subst c
  rw[hi]at hj
  exact wT hj
 ·have:=vT.1 h j i (by simpa using b.1) (by simpa using a.1) c
  simp only[List.getElem_map,a.2,b.2]at this
  omega
theorem Zr {b:Bnd} {l:List Pos} (hc:tW b l=0) (hf:dy b l=none):PlOk l (cr b l):=by
 obtain⟨hb,ht,ha,hl⟩:=qg hc
 obtain⟨b1,b2,b3,b4,b5⟩:=ju.1 hb
 refine⟨ht,ha,BR ha,fun q hq=>?_,fun x q hx hq e=>?_⟩
 ·obtain⟨y,hy,_,rfl⟩:=mK hq
  have ok:=DV (gH hf y hy)
  have h1:=ok.r
  have h2:=ok.p
  dsimp only
  omega
 ·obtain⟨y,hy,_,rfl⟩:=mK hq
  have:=Od (gI.1 ha).2 hx hy e
  subst this
  have w:=(DV (gH hf x hx)).w
  simp only[inB,zG,zI]at w
  simp only[jS,zG,zI]
  omega
open Go.PA
open Go.RowKit
theorem ND {h l r p:Int} (hh:h∈[(1000:Int),100000]) (hl:l∈[(1:Int),50]) (hr:r∈[(100:Int),1000000]) (hp:p∈[(100:Int),1000000]):oV ⟨0,h,l,r,p⟩=true:=by
 simp only[zO,wC,or_false]at hh hl hr hp
 refine ju.2 ⟨?_,?_,?_,?_,?_⟩<;>dsimp only<;>omega
set_option maxHeartbeats 16000000 in
set_option maxRecDepth 8000 in
theorem BO (xs:List Int) (hx:TF xs) (hl:xs.length≤9223372036854775807):PFun Tryz.prog none none 3 [aA xs] (·=bv true):=by
 refine ee Tryz.func3 rfl (by simp[Tryz.f3]) ?_
 intro E hP hr hs hW hN
 refine aM (by rw[hN];kernel_rfl) ?_
 simp[go_sem,hP]
 refine aM (by rw[hN];kernel_rfl) ?_
 simp[go_sem,hP]
 have hnew:Sm Tryz.prog E.row E.src 4 [aA xs] 74 2 (·=[[aA (xs.take 900),iv 0]]):=by rw[hr,hs];exact Vw xs hl
 refine M5 hnew hP Zi (ak (by simp[go_sem,aA])) (by simp[eT,go_sem,aA]) ⟨_,rfl⟩ ?_
 rintro es rfl
 simp[go_sem,hP]
 refine K6 3 (ty:=74) (xs:=xs.take 900) (at_:=0) hr hs hW (by simp[go_sem]) (by simp[go_sem,aA]) (by omega) (by simp;omega) (fun x hx'=>hx x (wV hx')) (by rw[hN];kernel_rfl) ?_
 intro E' p hP' hr' hN' hW'
 rw[hP]at hP'
 rw[hN]at hN'
 clear hnew hP hr hs hW hN E
 rename Env=>E
 rename E.P=_=>hP
 rename E.row=_=>hr
 rename E.N=_=>hN
 rename (∀b,¬E.W b)=>hW
 obtain⟨src,hs⟩:∃src,E.src=src:=⟨_,rfl⟩
 have up:∀{f:FuncId} {args:List AV} {Q:AV→Prop},PFun Tryz.prog (some p) src f args Q→PFun Tryz.prog E.row E.src f args Q:=fun h=>hr▸hs▸h
 have PK:∀xs:List Int,1≤xs.length∧xs.length≤1000→PFun Tryz.prog E.row E.src 14 [sp p,aA xs] (PQ xs):=fun xs h=>up (pP p src xs h)
 simp -dsimp -implicitDefEqProofs [go_sem,hP]
 refine aC (up (RY p src 6 (by omega))) hP ZU (by simp[go_sem]) (Rt 6) ?_
 rintro r ⟨d,now,rfl,hg⟩ _
 have few:=hg.few
 have hday:=hg.day
 have fit:=hg.ok.fit
 have hn:0≤now∧now≤30000:=by omega
 have id':=ba d
 have ia:=cQ d.Account
 have pm:=HB d now hg.ok few (by omega)
 have tt:=Rv d.Account fit.s fit.e
 have tb:=GN hg (by omega)
 have cp:=JA few (now:=now) (by omega)
 have lp:=GL d now
 have l12:=few.len
 rw[cDn]at id' pm
 rw[cA]at tt ia
 obtain⟨F3,hF3⟩:∃F3,F3=Jy d now:=⟨_,rfl⟩
 rw[←hF3]at pm cp lp
 have v3:∀f,f∈F3→bK f=true:=fun f hf=>by
  cases hv:bK f with
  |true=>rfl
  |false=>
   rw[eJ,if_neg (by omega),if_pos (vL.2 ⟨f,hf,by simp[hv]⟩)]at cp
   cases cp
 obtain⟨O,hO⟩:∃O,O=mC d.Account:=⟨_,rfl⟩
 rw[←hO]at tt tb
 simp -dsimp -implicitDefEqProofs [go_sem,hP,cDn]
 refine aC (up (D5 p src 5 (by omega))) hP YS (by simp[go_sem]) (Tp 5) ?_
 rintro r ⟨R,dd,rfl,hgr,hdl⟩ _
 have un:=M6 R (my R) hgr.ok hgr.sl (fun x hx=>by have:=hgr.hold x hx;omega) hdl now (now+200) (by omega) (by omega)
 have iR:=dI R
 rw[bP]at un iR
 have w200:=ae (now+200) (by omega)
 simp -dsimp -implicitDefEqProofs [go_sem,hP,bP,w200]
 refine aC (un.lift _ _) hP ZR (by simpa[an]using iR) LL ?_
 rintro r ⟨F1,rfl,l1,v1⟩ _
 simp -dsimp -implicitDefEqProofs [go_sem,hP]
 refine aC (up (L2 p src 4 (by omega))) hP Za (by simp[go_sem]) (Mm 4) ?_
 rintro r ⟨T,rfl,lT,gT⟩ _
 obtain⟨F2,l2,v2,te⟩:=D6 gT lT hn
 have iT:=mU T
 have i1:=jq F1
 have i2:=jq F2
 have i3:=jq F3
 simp -dsimp -implicitDefEqProofs [go_sem,hP,w200]
 refine af te hP Zh (by simpa[an]using iT) (aj i2 .sc) ?_
 simp -dsimp -implicitDefEqProofs [go_sem,hP]
 refine af pm hP Xz (by simpa[an]using id') i3 ?_
 obtain⟨al,hal⟩:∃al,al=[F1,F2,F3].flatten:=⟨_,rfl⟩
 have lal:al.length≤400:=by
  rw[hal]
  simp
  omega
 have val:∀f,f∈al→bK f=true:=fun f hf=>by
  rw[hal]at hf
  simp at hf
  rcases hf with hf|hf|hf
  ·exact v1 f hf
  ·exact v2 f hf
  ·exact v3 f hf
 have mg:=Qr [F1,F2,F3] al hal (by simp) (by omega)
 obtain⟨M,L,eM,lM,eL,lL,hL⟩:=PB lal val hn (by omega: -1000000≤O∧O≤1000000)
 rw[eM]at mg
 have iM:=jq M
 have mg':PFun Tryz.prog none none 10 [.list 1 [[bJ F1],[bJ F2],[bJ F3]]] (·= .tup [bJ M,iv 0]):=mg
 have im3:Imm (AV.list 1 [[bJ F1],[bJ F2],[bJ F3]]):=by
  rw[dv]
  simp
  exact⟨i1,i2,i3⟩
 have pj:=JD O M now (now+200) (by omega)
 rw[eL]at pj
 have pj':PFun Tryz.prog none none 12 [iv O,bJ M,iv now,iv (now+200)] (·= .tup [n7 L,iv 0]):=pj
 have iL:=gg L
 simp only[bJ]at mg' im3
 simp -dsimp -implicitDefEqProofs [go_sem,hP,bJ]
 refine aJ (mg'.lift _ _) hP VX (by simp only[zU];rintro a rfl;exact im3) (aj iM .sc) ?_
 simp -dsimp -implicitDefEqProofs [go_sem,hP]
 refine ai tt hP Xq (ak (by simpa using ia)) .sc ?_
 simp -dsimp -implicitDefEqProofs [go_sem,hP,w200]
 refine aJ (pj'.lift _ _) hP Xx (by simp only[zO,wC,or_false];rintro a (rfl|rfl|rfl|rfl)<;>first|exact .sc|exact iM) (aj iL .sc) ?_
 simp -dsimp -implicitDefEqProofs [-getElem?_pos,go_sem,hP,ar,lL]
 refine aC (PK [1000,100000] (by simp)) hP i7 (by simp -dsimp[-getElem?_pos,go_sem]) (oq (by simp)) ?_
 rintro r ⟨bh,rfl,hbh⟩ _
 simp -dsimp -implicitDefEqProofs [go_sem,hP]
 refine aC (PK [1,50] (by simp)) hP i7 (by simp -dsimp[-getElem?_pos,go_sem]) (oq (by simp)) ?_
 rintro r ⟨bl,rfl,hbl⟩ _
 simp -dsimp -implicitDefEqProofs [go_sem,hP]
 refine aC (PK [100,1000000] (by simp)) hP i7 (by simp -dsimp[-getElem?_pos,go_sem]) (oq (by simp)) ?_
 rintro r ⟨br,rfl,hbr⟩ _
 simp -dsimp -implicitDefEqProofs [go_sem,hP]
 refine aC (PK [100,1000000] (by simp)) hP i7 (by simp -dsimp[-getElem?_pos,go_sem]) (oq (by simp)) ?_
 rintro r ⟨bp,rfl,hbp⟩ _
 have hb:=ND hbh hbl hbr hbp
 obtain⟨B,hB⟩:∃B:Bnd,B=⟨0,bh,bl,br,bp⟩:=⟨_,rfl⟩
 rw[←hB]at hb
 have hc:tW B L=0:=RX hb (by omega) hL (by omega) (by omega)
 have mk:=Pp B L hc
 have dc:=fun (x:Pos) (hx:x∈L)=>z8 B x.a hb ((qg hc).2.1 x hx)
 have iB:=qh B
 have cB:B.cells=[iv 0,iv bh,iv bl,iv br,iv bp]:=by rw[hB];rfl
 rw[cB]at mk iB
 simp only[cB]at dc
 cases hfb:dy B L with
 |some dd=>
  have eD:og B L=([],dd,10):=by rw[og,if_pos hc,hfb]
  rw[eD]at mk
  obtain⟨k0,x0,hk0,hx0,hd0,hall⟩:=qJ hfb
  have lk0:=(gsI hk0)
  have mk':PFun Tryz.prog none none 15 [.agg [iv 0,iv bh,iv bl,iv br,iv bp],n7 L] (·= .tup [AZ [],iv dd,iv 10]):=mk
  simp -dsimp -implicitDefEqProofs [go_sem,hP]
  refine aJ (mk'.lift _ _) hP TI (by simpa using⟨iB,iL⟩) (jb (mT []) .sc .sc) ?_
  simp -dsimp -implicitDefEqProofs [-getElem?_pos,go_sem,hP,ar,lL]
  obtain⟨I,hI⟩:∃I:Nat→St→Prop,I=fun m s=>∃k:Nat,k≤k0∧m=k0-k∧s.t 16= .ref 3 0 0∧s.t 18=iv dd∧s.t 116=n7 L∧s.t 117=iv 201∧s.t 118=iv k∧s.H[3]?=some (some ⟨61,5,[[iv 0,iv bh,iv bl,iv br,iv bp]]⟩):=⟨_,rfl⟩
  refine az I (k0) (by rw[hN];rfl) ?_ ?_
  ·rw[hI]
   exact⟨0,by omega,by omega,rfl,rfl,rfl,by simp -dsimp[-getElem?_pos,go_sem,ar,lL],rfl,rfl⟩
  intro m s hs'
  rw[hI]at hs'
  obtain⟨k,hk,hm,t16,t18,t116,t117,t118,g3⟩:=hs'
  have l3:=(gsI g3)
  have dk:decide ((k:Int)<201)=true:=zC (by omega)
  have dk':k<201:=by omega
  obtain⟨x,hx⟩:∃x,L[k]?=some x:=⟨_,zF (by omega)⟩
  have wk:=ae ((k:Int)+1) (by omega)
  have dq:=dc x (zE hx)
  obtain⟨nb,hnb⟩:∃nb,nb=s.H.length:=⟨_,rfl⟩
  have gnb:∀x:Option AObj,(s.H++[x])[nb]?=some x:=fun x=>by rw[hnb];simp
  have g3':∀x:Option AObj,(s.H++[x])[3]?=s.H[3]?:=fun x=>zD l3
  by_cases hk1:k=k0
  ·subst hk1
   rw[hx]at hk0
   have ex:=wT hk0
   rw[←ex]at hx0 hd0
   rw[ym,if_neg (by simp[hx0])]at dq
   have dd1:decide (x.d=dd)=true:=zC hd0
   simp -dsimp -implicitDefEqProofs [go_sem,hP,t117,t118,dk,dk',t116,hx,cPs]
   rw[←hnb]
   simp -dsimp -implicitDefEqProofs [go_sem,hP,gnb,t16,g3',g3]
   refine af dq hP KD (by simpa[an]using iB) (jb .sc .sc .sc) ?_
   simp -dsimp -implicitDefEqProofs [go_sem,hP,gnb,t18,dd1,hd0]
   refine ai (BQ none none) hP Tw (aZ.2 trivial) .sc ?_
   simp -dsimp -implicitDefEqProofs [go_sem,hP]
  ·have hb1:=hall k x (by omega) hx
   rw[ym,if_pos hb1]at dq
   simp -dsimp -implicitDefEqProofs [go_sem,hP,t117,t118,dk,dk',t116,hx,cPs]
   rw[←hnb]
   simp -dsimp -implicitDefEqProofs [go_sem,hP,gnb,t16,g3',g3]
   refine af dq hP KD (by simpa[an]using iB) (jb .sc .sc .sc) ?_
   simp -dsimp -implicitDefEqProofs [go_sem,hP,t118,wk]
   refine⟨k0-(k+1),by omega,?_⟩
   rw[hI]
   exact⟨k+1,by omega,rfl,t16,t18,t116,t117,rfl,by simp -dsimp[go_sem,g3',g3]⟩
 |none=>
  have eD:og B L=(cr B L, -1,0):=by rw[og,if_pos hc,hfb]
  rw[eD]at mk
  have lPl:=rU B L
  have ap:=MB L (cr B L) (by omega) (by omega) (Zr hc hfb)
  have rt:=Mc B L (cr B L) (by omega) (OR hc hfb)
  have mv:=Uo (qg hc).2.2.1 hfb
  rw[cB]at rt
  obtain⟨PL,hPL⟩:∃PL,PL=cr B L:=⟨_,rfl⟩
  rw[←hPL]at mk ap rt lPl mv
  obtain⟨out,hout⟩:∃out,out=L.map fun y=>rN y PL:=⟨_,rfl⟩
  have lo:out.length=201:=by rw[hout,wL,lL]
  have ho:∀x,x∈out→0≤x.a∧x.a≤bh:=fun x hx=>by
   rw[hout]at hx
   obtain⟨y,hy,rfl⟩:=zV.1 hx
   have:=mv y hy
   rw[hB]at this
   simpa[inB]using this
  rw[←hout]at ap
  have mk':PFun Tryz.prog none none 15 [.agg [iv 0,iv bh,iv bl,iv br,iv bp],n7 L] (·= .tup [AZ PL,iv (-1),iv 0]):=mk
  have iPl:=mT PL
  have iO:=gg out
  simp -dsimp -implicitDefEqProofs [go_sem,hP]
  refine aJ (mk'.lift _ _) hP TI (by simpa using⟨iB,iL⟩) (jb iPl .sc .sc) ?_
  simp -dsimp -implicitDefEqProofs [go_sem,hP]
  refine af ap hP V4 (by simpa using⟨iL,iPl⟩) (aj iO .sc) ?_
  simp -dsimp -implicitDefEqProofs [go_sem,hP]
  refine af rt hP V6 (by simpa using⟨iB,iL,iPl⟩) .sc ?_
  simp -dsimp -implicitDefEqProofs [-getElem?_pos,go_sem,hP,ar,lL,lo]
  obtain⟨I,hI⟩:∃I:Nat→St→Prop,I=fun m s=>∃k:Nat,k≤201∧m=201-k∧s.t 16= .ref 3 0 0∧s.t 166=n7 out∧s.t 167=iv 201∧s.t 168=iv k∧s.H[3]?=some (some ⟨61,5,[[iv 0,iv bh,iv bl,iv br,iv bp]]⟩):=⟨_,rfl⟩
  refine az I (201) (by rw[hN];rfl) ?_ ?_
  ·rw[hI]
   exact⟨0,by omega,by omega,rfl,rfl,by simp -dsimp[-getElem?_pos,go_sem,ar,lo],rfl,rfl⟩
  intro m s hs'
  rw[hI]at hs'
  obtain⟨k,hk,hm,t16,t166,t167,t168,g3⟩:=hs'
  have l3:=(gsI g3)
  simp -dsimp -implicitDefEqProofs [go_sem,hP,t167,t168]
  refine aB ?_ ?_<;>intro h
  ·have hk:k<201:=by
    have:(k:Int)<201:=by simpa using h
    omega
   obtain⟨x,hx⟩:∃x,out[k]?=some x:=⟨_,zF (by omega)⟩
   have wk:=ae ((k:Int)+1) (by omega)
   have hxb:=ho x (zE hx)
   have d1:decide (x.a<0)=false:=zA (by omega)
   have d2:decide (bh<x.a)=false:=zA (by omega)
   obtain⟨nb,hnb⟩:∃nb,nb=s.H.length:=⟨_,rfl⟩
   have gnb:∀x:Option AObj,(s.H++[x])[nb]?=some x:=fun x=>by rw[hnb];simp
   have g3':∀x:Option AObj,(s.H++[x])[3]?=s.H[3]?:=fun x=>zD l3
   simp -dsimp -implicitDefEqProofs [go_sem,hP,t166,t168,hx,cPs]
   rw[←hnb]
   simp -dsimp -implicitDefEqProofs [go_sem,hP,gnb,t16,g3',g3,d1,d2,t168,wk]
   refine⟨201-(k+1),by omega,?_⟩
   rw[hI]
   exact⟨k+1,by omega,rfl,t16,t166,t167,rfl,by simp -dsimp[go_sem,g3',g3]⟩
  ·simp -dsimp -implicitDefEqProofs [go_sem,hP]
   refine ai (BQ none none) hP Tw (aZ.2 trivial) .sc ?_
   simp -dsimp -implicitDefEqProofs [go_sem,hP]
end Go.Proofs.YtfbogibogkbhmaaGreatDoor
