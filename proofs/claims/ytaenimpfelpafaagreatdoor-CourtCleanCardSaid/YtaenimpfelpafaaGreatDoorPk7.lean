/- Several texts of this claim, joined: CsL2 Key1 Reg1 Reg2 Reg3 PaCut Reg4 Reg5 Reg6 Reg7 PaCell Reg8 Reg9. -/
import Derived.Test.YtaenimpfelpafaaGreatDoorPk6
set_option linter.unusedSimpArgs false
set_option linter.unusedVariables false
namespace Go.Proofs.YtaenimpfelpafaaGreatDoor
open Go.PA
open Go.RowKit
theorem CsOk.fit {l:List TIncome} (h:CsOk l):FitC (csh l):=⟨by simp[csh],by have:=h.2;simp[csh];omega,by simp[csh],by have:=h.2;simp[csh];omega,by simp[csh]⟩
theorem start_csh (l:List TIncome) (x:TIncome):start (csh l) x=csh (l++[x]):=by simp[start,csh]
def takeE (l:List TIncome) (x:TIncome):Int:=if incB x=true then (if lastN (csh l)<x.Number then (if lastD (csh l)≤x.Day then (if l.length<100 then 0 else 3)else 8)else 65)else 70
def takeL (l:List TIncome) (x:TIncome):TCash×Int:=if takeE l x=0 then (csh (l++[x]),0)else (noCash,takeE l x)
theorem once {E:Env} {c:Code} {s0:St} {Q:Exit→St→Prop} {b:Bx (c,Q)} (hc:codeOk E.N c=true) (h:awp E c s0 (Round0 0 (fun n s=>n=0∧s=s0) Q .mk)):ALoop E c s0 Q b:=
 aloop0 (fun n s=>n=0∧s=s0) 0 hc ⟨rfl,rfl⟩ fun _ _ ⟨h1,h2⟩=>by
  subst h1;subst h2
  exact h
theorem ins0_m {row src:Option Nat} {H:Heap} (g:AV):MFun Tryz.prog row src 309 [.nil,iv 0,iv 0,g] H (fun r H'=>H'=H):=by
 have ex:∃r H',(fun (r:AV) (H':Heap)=>H'=H) r H':=⟨.nil,H,rfl⟩
 refine mfun_intro Tryz.func309 rfl (by simp[Tryz.f309]) (by kernel_rfl) (ex) ?_
 intro E hP hr hs hN
 have w1:=wrap_in 1 (by omega)
 simp -dsimp -implicitDefEqProofs [-getElem?_pos,go_sem,hP]
 refine once (by rw[hN];rfl) ?_
 simp -dsimp -implicitDefEqProofs [-getElem?_pos,go_sem,hP,w1]
theorem stab0_m {row src:Option Nat} {H:Heap} (g:AV):MFun Tryz.prog row src 286 [.nil,iv 0,g] H (fun r H'=>H'=H):=by
 have ex:∃r H',(fun (r:AV) (H':Heap)=>H'=H) r H':=⟨.nil,H,rfl⟩
 refine mfun_intro Tryz.func286 rfl (by simp[Tryz.f286]) (by kernel_rfl) (ex) ?_
 intro E hP hr hs hN
 simp -dsimp -implicitDefEqProofs [-getElem?_pos,go_sem,hP]
 refine once (by rw[hN];rfl) ?_
 simp -dsimp -implicitDefEqProofs [-getElem?_pos,go_sem,hP]
 refine callB_m (ins0_m g) hP en_309 ?_
 rintro r H' rfl
 simp -dsimp -implicitDefEqProofs [-getElem?_pos,go_sem,hP]
 refine once (by rw[hN];rfl) ?_
 simp -dsimp -implicitDefEqProofs [-getElem?_pos,go_sem,hP]
theorem takeE_ok {l:List TIncome} {x:TIncome} (h:CsOk l) (hx:takeE l x=0):CsOk (l++[x]):=by
 unfold takeE at hx
 split at hx
 rotate_left
 ·simp at hx
 rename_i h1
 split at hx
 rotate_left
 ·simp at hx
 rename_i h2
 split at hx
 rotate_left
 ·simp at hx
 rename_i h3
 split at hx
 rotate_left
 ·simp at hx
 rename_i h4
 refine⟨?_,by simp;omega⟩
 obtain⟨b1,b2⟩:=(incsB_iff _ _ _).1 h.1
 have last:∀y,y∈l→y.Number≤lastN (csh l)∧y.Day≤lastD (csh l):=fun y hy=>by
  rcases List.eq_nil_or_concat l with rfl|⟨m,z,rfl⟩
  ·cases hy
  ·rw[List.concat_eq_append]at*
   have e1:lastN (csh (m++[z]))=z.Number:=by simp[lastN,csh]
   have e2:lastD (csh (m++[z]))=z.Day:=by simp[lastD,csh]
   rw[e1,e2]
   rcases List.mem_append.1 hy with hy|hy
   ·have:=(List.pairwise_append.1 b2).2.2 y hy z (by simp)
    omega
   ·simp at hy
    subst hy
    omega
 have ps:=incB_pos h1
 refine (incsB_iff _ _ _).2 ⟨fun y hy=>?_,List.pairwise_append.2 ⟨b2,by simp,fun y hy z hz=>?_⟩⟩
 ·rcases List.mem_append.1 hy with hy|hy
  ·exact b1 y hy
  ·simp at hy
   subst hy
   exact⟨h1,by omega,by omega⟩
 ·simp at hz
  subst hz
  have:=last y hy
  omega
theorem sort0_m {row src:Option Nat} {H:Heap} (g:AV):MFun Tryz.prog row src 241 [.nil,g] H (fun r H'=>H'=H):=by
 have ex:∃r H',(fun (r:AV) (H':Heap)=>H'=H) r H':=⟨.nil,H,rfl⟩
 refine mfun_intro Tryz.func241 rfl (by simp[Tryz.f241]) (by kernel_rfl) (ex) ?_
 intro E hP hr hs hN
 simp -dsimp -implicitDefEqProofs [-getElem?_pos,go_sem,hP]
 refine callB_m (stab0_m g) hP en_286 ?_
 rintro r H' rfl
 simp -dsimp -implicitDefEqProofs [-getElem?_pos,go_sem,hP]
theorem open0_m {row src:Option Nat} {H:Heap} {p a:Nat} {B D F:AV} (hp:H[p]?=some (some ⟨40,4,[[.sref a 0 0,B,D,F]]⟩)) (ha:H[a]?=some (some ⟨145,6,[]⟩)) (payer:Int):
  MFun Tryz.prog row src 169 [.ref p 0 0,iv payer] H (fun r H'=>r= .nil∧Kept [] H H'):=by
 obtain⟨C,hC⟩:∃C:AV→Heap→Prop,C=fun r H'=>r= .nil∧Kept [] H H':=⟨_,rfl⟩
 rw[←hC]
 have ltp:=(gsI hp)
 have lta:=(gsI ha)
 have ex:∃r H',C r H':=⟨.nil,H,by rw[hC];exact⟨rfl,kept_refl _ _⟩⟩
 refine mfun_intro Tryz.func169 rfl (by simp[Tryz.f169]) (by kernel_rfl) (ex) ?_
 intro E hP hr hs hN
 simp -dsimp -implicitDefEqProofs [-getElem?_pos,go_sem,hP,hp,ltp,ha,lta]
 refine once (by rw[hN];rfl) ?_
 simp -dsimp -implicitDefEqProofs [-getElem?_pos,go_sem,hP,hp,ltp,ha,lta]
 refine callB_m (sort0_m _) hP en_241 ?_
 rintro r H' rfl
 simp -dsimp -implicitDefEqProofs [-getElem?_pos,go_sem,hP]
 rw[hC]
 exact⟨rfl,kept_app _ _ _⟩
theorem idx0_m {row src:Option Nat} {H:Heap} (g:AV):MFun Tryz.prog row src 285 [.nil,g] H (fun r H'=>r=iv (-1)∧H'=H):=by
 have ex:∃r H',(fun (r:AV) (H':Heap)=>r=iv (-1)∧H'=H) r H':=⟨_,H,rfl,rfl⟩
 refine mfun_intro Tryz.func285 rfl (by simp[Tryz.f285]) (by kernel_rfl) (ex) ?_
 intro E hP hr hs hN
 simp -dsimp -implicitDefEqProofs [-getElem?_pos,go_sem,hP]
 refine once (by rw[hN];rfl) ?_
 simp -dsimp -implicitDefEqProofs [-getElem?_pos,go_sem,hP]
theorem del0_m {row src:Option Nat} {H:Heap} (g:AV):MFun Tryz.prog row src 239 [.nil,g] H (fun r H'=>r= .nil∧H'=H):=by
 have ex:∃r H',(fun (r:AV) (H':Heap)=>r= .nil∧H'=H) r H':=⟨.nil,H,rfl,rfl⟩
 refine mfun_intro Tryz.func239 rfl (by simp[Tryz.f239]) (by kernel_rfl) (ex) ?_
 intro E hP hr hs hN
 simp -dsimp -implicitDefEqProofs [-getElem?_pos,go_sem,hP]
 refine callB_m (idx0_m g) hP en_285 ?_
 rintro r H' ⟨rfl,rfl⟩
 simp -dsimp -implicitDefEqProofs [-getElem?_pos,go_sem,hP]
theorem exact0_m {row src:Option Nat} {H:Heap} {p a:Nat} {B D F:AV} (hp:H[p]?=some (some ⟨40,4,[[.sref a 0 0,B,D,F]]⟩)) (ha:H[a]?=some (some ⟨145,6,[]⟩)) (payer n:Int):
  MFun Tryz.prog row src 168 [.ref p 0 0,iv payer,iv n] H (fun r H'=>r= .nil∧Kept [] H H'):=by
 obtain⟨C,hC⟩:∃C:AV→Heap→Prop,C=fun r H'=>r= .nil∧Kept [] H H':=⟨_,rfl⟩
 rw[←hC]
 have ltp:=(gsI hp)
 have ex:∃r H',C r H':=⟨.nil,H,by rw[hC];exact⟨rfl,kept_refl _ _⟩⟩
 refine mfun_intro Tryz.func168 rfl (by simp[Tryz.f168]) (by kernel_rfl) (ex) ?_
 intro E hP hr hs hN
 simp -dsimp -implicitDefEqProofs [-getElem?_pos,go_sem,hP,hp,ltp]
 have k1:∀X,Kept [] H (H++X):=fun X=>kept_app _ _ _
 refine callB_m (open0_m (k1 _ _ _ (by simp) hp) (k1 _ _ _ (by simp) ha) payer) hP en_169 ?_
 rintro r H2 ⟨rfl,hk⟩
 simp -dsimp -implicitDefEqProofs [-getElem?_pos,go_sem,hP]
 refine callB_m (del0_m _) hP en_239 ?_
 rintro r H3 ⟨rfl,rfl⟩
 simp -dsimp -implicitDefEqProofs [-getElem?_pos,go_sem,hP]
 rw[hC]
 exact⟨rfl,(k1 _).trans hk⟩
set_option maxHeartbeats 8000000 in
set_option maxRecDepth 8000 in
theorem ctakeL_pf (L:List TIncome) (x:TIncome) (hx0:CsOk L):PFun Tryz.prog none none 109 [.agg (csh L).cells,.agg x.cells] (·= .tup [.agg (takeL L x).1.cells,.list 3 [],iv (takeL L x).2]):=by
 refine pfun_introA Tryz.func109 rfl (by simp[Tryz.f109]) ?_
 intro E hP hr hs hW hN
 have ck:=ccheckL_pf L hx0
 have ic:=imm_cshL L
 have ix:=imm_agg.2 x.imm
 have px:=cincome_pf x
 rw[cshX]at ck ic
 rw[cIncm]at px ix
 obtain⟨Q,hQ⟩:∃Q:AV→Prop,Q=(·= .tup [.agg (takeL L x).1.cells,.list 3 [],iv (takeL L x).2]):=⟨_,rfl⟩
 rw[←hQ]
 obtain⟨n,hnE⟩:∃n,n=takeE L x:=⟨_,rfl⟩
 have hQe:n≠0→Q (.tup [.agg noCash.cells,matchesL [],iv n]):=fun h=>by
  rw[hQ,takeL,←hnE,if_neg h]
  rfl
 have hQo:n=0→Q (.tup [.agg (csh (L++[x])).cells,matchesL [],iv 0]):=fun h=>by
  rw[hQ,takeL,←hnE,if_pos h]
  rfl
 clear hQ
 have hR:=hnE
 rw[takeE]at hR
 have hf:=hx0.fit
 have hfi:=hx0.2
 obtain⟨O0,hO0⟩:∃O:AObj,O=⟨40,4,[[.list 6 [],incomesL L,.list 3 [],.list 1 (encL encI (L.map (·.Amount)))]]⟩:=⟨_,rfl⟩
 obtain⟨O1,hO1⟩:∃O:AObj,O=⟨79,5,[[iv x.Number,iv x.Day,iv x.Payer,iv x.Amount,iv x.Claim]]⟩:=⟨_,rfl⟩
 obtain⟨O2,hO2⟩:∃O:AObj,O=⟨40,4,[[.nil,.nil,.nil,.nil]]⟩:=⟨_,rfl⟩
 refine awp_cut (by rw[hN];kernel_rfl) ?_
 simp -dsimp -implicitDefEqProofs [-getElem?_pos,go_sem,hP,cshX,cIncm]
 simp only[←hO0,←hO1,←hO2]
 refine awp_cut (by rw[hN];kernel_rfl) ?_
 simp -dsimp -implicitDefEqProofs [-getElem?_pos,go_sem,hP,hO0]
 refine callB_pure ck hP en_84 (args_same (by simpa using ic)) .sc ?_
 simp -dsimp -implicitDefEqProofs [-getElem?_pos,go_sem,hP]
 refine awp_cut (by rw[hN];kernel_rfl) ?_
 simp -dsimp -implicitDefEqProofs [-getElem?_pos,go_sem,hP]
 obtain⟨Inv,hInv⟩:∃Inv:St→Prop,Inv=fun s=>∃z:TIncome,z.Number=lastN (csh L)∧z.Day=lastD (csh L)∧s.t 2= .ref 0 0 0∧s.t 3= .ref 1 0 0∧s.t 4= .ref 2 0 0∧s.t 8= .ref 3 0 0∧s.H=[some O0,some O1,some O2,some ⟨79,5,[[iv z.Number,iv z.Day,iv z.Payer,iv z.Amount,iv z.Claim]]⟩]:=⟨_,rfl⟩
 refine awp_join Inv (by rw[hN];kernel_rfl) ?_ ?_
 ·rcases List.eq_nil_or_concat L with hn|⟨l,z,hn⟩
  ·have e1:lastN (csh L)=0:=by simp[lastN,csh,hn]
   have e2:lastD (csh L)=0:=by simp[lastD,csh,hn]
   simp -dsimp -implicitDefEqProofs [-getElem?_pos,go_sem,hP,hO0,hn,encL]
   refine⟨_,Weaker.refl _,?_⟩
   rw[hInv]
   exact⟨⟨0,0,0,0,0⟩,e1.symm,e2.symm,by simp -dsimp[-getElem?_pos,go_sem],by simp -dsimp[-getElem?_pos,go_sem],by simp -dsimp[-getElem?_pos,go_sem],by simp -dsimp[-getElem?_pos,go_sem],by simp -dsimp[-getElem?_pos,go_sem,hO0,hn,encL]⟩
  ·rw[List.concat_eq_append]at hn
   have e1:lastN (csh L)=z.Number:=by simp[lastN,csh,hn]
   have e2:lastD (csh L)=z.Day:=by simp[lastD,csh,hn]
   have ln:L.length=l.length+1:=by rw[hn];simp
   have hz:L[l.length]?=some z:=by rw[hn];simp
   have d0:decide ((0:Int)<(l.length:Int)+1)=true:=decide_eq_true (by omega)
   have wn:=wrap_in ((l.length:Int)+1-1) (by omega)
   rw[Int.add_sub_cancel]at wn
   simp -dsimp -implicitDefEqProofs [-getElem?_pos,go_sem,hP,hO0,ln,d0,Int.add_sub_cancel,wn,hz,cIncm]
   refine⟨_,Weaker.refl _,?_⟩
   rw[hInv]
   exact⟨z,e1.symm,e2.symm,by simp -dsimp[-getElem?_pos,go_sem],by simp -dsimp[-getElem?_pos,go_sem],by simp -dsimp[-getElem?_pos,go_sem],by simp -dsimp[-getElem?_pos,go_sem],by simp -dsimp[-getElem?_pos,go_sem,hO0]⟩
 ·intro s hs'
  rw[hInv]at hs'
  obtain⟨z,zn,zd,t2,t3,t4,t8,sH⟩:=hs'
  have h0:s.H[0]?=some (some O0):=by rw[sH];rfl
  have h1:s.H[1]?=some (some O1):=by rw[sH];rfl
  have h2:s.H[2]?=some (some O2):=by rw[sH];rfl
  have h4:s.H.length=4:=by rw[sH];rfl
  have h3:s.H[3]?=some (some ⟨79,5,[[iv z.Number,iv z.Day,iv z.Payer,iv z.Amount,iv z.Claim]]⟩):=by rw[sH];rfl
  have lt1:=(gsI h1)
  have lt2:=(gsI h2)
  have lt3:=(gsI h3)
  have lt0:=(gsI h0)
  have cp:=copied_c (row:=E.row) (src:=E.src) (csh L) s.H hf
  rw[cshX,h4]at cp
  clear sH h4
  refine awp_cut (by rw[hN];kernel_rfl) ?_
  simp -dsimp -implicitDefEqProofs [-getElem?_pos,go_sem,hP,t3,h0,h1,h2,h3,lt0,lt1,lt2,lt3,hO1]
  refine callB_pure px hP en_164 (args_same (by simpa using ix)) .sc ?_
  cases c2:incB x
  ·rw[if_neg (by simp[c2])]at hR
   simp -dsimp -implicitDefEqProofs [-getElem?_pos,go_sem,hP,t4,h0,h1,h2,h3,lt0,lt1,lt2,lt3,hO2]
   subst hR
   exact done_noCash3 (hQe (by omega))
  rw[if_pos c2]at hR
  by_cases c3:lastN (csh L)<x.Number
  rotate_left
  ·have d:decide (x.Number≤lastN (csh L))=true:=decide_eq_true (by omega)
   rw[if_neg c3]at hR
   simp -dsimp -implicitDefEqProofs [-getElem?_pos,go_sem,hP,t3,t4,t8,h0,h1,h2,h3,lt0,lt1,lt2,lt3,hO1,zn,d,hO2]
   subst hR
   exact done_noCash3 (hQe (by omega))
  have d3:decide (x.Number≤lastN (csh L))=false:=decide_eq_false (by omega)
  rw[if_pos c3]at hR
  by_cases c4:lastD (csh L)≤x.Day
  rotate_left
  ·have d:decide (x.Day<lastD (csh L))=true:=decide_eq_true (by omega)
   rw[if_neg c4]at hR
   simp -dsimp -implicitDefEqProofs [-getElem?_pos,go_sem,hP,t3,t4,t8,h0,h1,h2,h3,lt0,lt1,lt2,lt3,hO1,zn,zd,d3,d,hO2]
   subst hR
   exact done_noCash3 (hQe (by omega))
  have d4:decide (x.Day<lastD (csh L))=false:=decide_eq_false (by omega)
  rw[if_pos c4]at hR
  by_cases c5:L.length<100
  rotate_left
  ·have le:L.length=100:=by omega
   rw[if_neg c5]at hR
   simp -dsimp -implicitDefEqProofs [-getElem?_pos,go_sem,hP,t2,t3,t4,t8,h0,h1,h2,h3,lt0,lt1,lt2,lt3,hO0,hO1,zn,zd,d3,d4,le,hO2]
   subst hR
   exact done_noCash3 (hQe (by omega))
  have d5:decide ((L.length:Int)=100)=false:=decide_eq_false (by omega)
  rw[if_pos c5]at hR
  have nle:¬L.length=100:=by omega
  simp -dsimp -implicitDefEqProofs [-getElem?_pos,go_sem,hP,t2,t3,t4,t8,h0,h1,h2,h3,lt0,lt1,lt2,lt3,hO0,hO1,zn,zd,d3,d4,d5,nle]
  refine awp_cut (by rw[hN];kernel_rfl) ?_
  simp -dsimp -implicitDefEqProofs [-getElem?_pos,go_sem,hP,t2,h0,hO0,lt0]
  refine callB_m cp hP en_165 ?_
  rintro r H1 ⟨p,A,B,D,F,rfl,hp4,hc,hk⟩
  have g0:=hk _ _ (by simp) h0
  have g1:=hk _ _ (by simp) h1
  have g2:=hk _ _ (by simp) h2
  have hlen:=hc.len
  have ho:=hc.obj
  obtain⟨a,na,rfl,ha⟩:=hc.a
  obtain⟨b,nb,rfl,hb⟩:=hc.b
  obtain⟨d,nd,rfl,hd⟩:=hc.d
  obtain⟨f,nf,rfl,hf'⟩:=hc.f
  simp only[encL_len,rowsI_len]at ho
  have lto:=(gsI ho)
  have lta:=(gsI ha)
  have ltb:=(gsI hb)
  have ltd:=(gsI hd)
  have ltf:=(List.getElem?_eq_some_iff.1 hf').1
  have n1:=obj_ne ho ha (by simp)
  have n2:=obj_ne ho hb (by simp)
  have n3:=obj_ne ho hd (by simp)
  have n4:=obj_ne ho hf' (by simp)
  have n5:=obj_ne hb ha (by simp)
  have n6:=obj_ne hb hd (by simp)
  have n7:=obj_ne hb hf' (by simp)
  have n8:=obj_ne hf' ha (by simp)
  have n9:=obj_ne hf' hd (by simp)
  have n10:=obj_ne hd ha (by simp)
  have n1':¬a=p:=fun e=>n1 e.symm
  have n2':¬b=p:=fun e=>n2 e.symm
  have n3':¬d=p:=fun e=>n3 e.symm
  have n4':¬f=p:=fun e=>n4 e.symm
  have n7':¬f=b:=fun e=>n7 e.symm
  obtain⟨nI,hnI⟩:∃n,n=L.length:=⟨_,rfl⟩
  have lb:=encL_len TIncome.cells L
  have lf:=rowsI_len (csh L).Loose
  have ll:(csh L).Loose.length=L.length:=by simp[csh]
  rw[show (csh L).Claims.length=0 from rfl,show (csh L).Incomes.length=L.length from rfl,show (csh L).Matches.length=0 from rfl]at ho
  rw[show (csh L).Incomes=L from rfl]at hb
  rw[←hnI]at ho lb hfi ll
  rw[ll]at ho lf
  have hR:n=0:=hR
  obtain⟨PB,hPB⟩:∃P,P=encL TIncome.cells L:=⟨_,rfl⟩
  obtain⟨PF,hPF⟩:∃P,P=rowsI (csh L).Loose:=⟨_,rfl⟩
  rw[←hPB]at hb lb
  rw[←hPF]at hf' lf
  simp -dsimp -implicitDefEqProofs [-getElem?_pos,go_sem,hP]
  refine awp_cut (by rw[hN];kernel_rfl) ?_
  simp -dsimp -implicitDefEqProofs [-getElem?_pos,go_sem,hP,ho,lto,hb,ltb,lb]
  obtain⟨n,hn⟩:∃n,n=nI:=⟨_,rfl⟩
  obtain⟨Inv2,hInv2⟩:∃Inv2:St→Prop,Inv2=TS O0 O1 O2 nI p (csh (L++[x])):=⟨_,rfl⟩
  refine awp_join Inv2 (by rw[hN];kernel_rfl) ?_ ?_
  ·simp -dsimp -implicitDefEqProofs [-getElem?_pos,go_sem,hP]
   have mem:∀i,(decide (i=p)||decide (i<4))=true→i=p∨i<4:=fun i hi=>by simpa using hi
   have lt1':=(gsI g1)
   have hD:∀i,(decide (i=p)||decide (i<4))=true→i<H1.length∧¬b=i∧¬f=i:=fun i hi=>by
    rcases mem i hi with rfl|hi
    ·exact⟨lto,n2',n4'⟩
    ·exact⟨by omega,by omega,by omega⟩
   refine adrawB (fun i=>decide (i=p)||decide (i<4)) [19,22] hP (by kernel_rfl) (by kernel_rfl) ?_
   have nb1:¬b=1:=by omega
   have nf1:¬f=1:=by omega
   have np1:¬p=1:=by omega
   have nb0:¬b=0:=by omega
   have nf0:¬f=0:=by omega
   have np0:¬p=0:=by omega
   have nb2:¬b=2:=by omega
   have nf2:¬f=2:=by omega
   have np2:¬p=2:=by omega
   have lt0':=(gsI g0)
   have lt2':=(gsI g2)
   simp -dsimp -implicitDefEqProofs [-getElem?_pos,go_sem,hP,restr_get,ho,lto,t3,g1,lt1',hO1,hb,ltb,lb,hf',ltf,lf,n2,n2',n4,n4',n7,n7',nb1,nf1]
   refine⟨by omega,by omega,agree_gen0 (by simp) fun i hi=>⟨(hD i hi).1,by simp[List.getElem?_set,(hD i hi).2.1]⟩,by omega,by omega,agree_gen (by simp) fun i hi=>⟨by simp;exact (hD i hi).1,by simp[List.getElem?_set,(hD i hi).2.1,(hD i hi).2.2]⟩,?_⟩
   refine⟨_,Weaker.refl _,?_⟩
   rw[hInv2]
   rw[←start_csh]
   refine⟨by simp -dsimp[-getElem?_pos,go_sem,t2],by simp -dsimp[-getElem?_pos,go_sem,t3],by simp -dsimp[-getElem?_pos,go_sem,t4],by simp -dsimp[-getElem?_pos,go_sem],by simp -dsimp[-getElem?_pos,go_sem],?_,?_,?_,hp4,_,_,_,_,started (a:=a) (b:=H1.length) (d:=d) (f:=H1.length+1) na (by omega) nd (by omega) (by simp;omega) rfl rfl rfl rfl ?_ ?_ ?_ ?_ ?_⟩
   ·simp -dsimp -implicitDefEqProofs [-getElem?_pos,go_sem,lt0',nb0,nf0,np0,g0]
   ·simp -dsimp -implicitDefEqProofs [-getElem?_pos,go_sem,lt1',nb1,nf1,np1,g1]
   ·simp -dsimp -implicitDefEqProofs [-getElem?_pos,go_sem,lt2',nb2,nf2,np2,g2]
   ·simp -dsimp -implicitDefEqProofs [-getElem?_pos,go_sem,lto,n2',n4',←hnI,ll]
    exact⟨rfl,hnI,rfl⟩
   ·simp -dsimp -implicitDefEqProofs [-getElem?_pos,go_sem,lta,n1,n5,n8,ha]
   ·simp -dsimp -implicitDefEqProofs [-getElem?_pos,go_sem,←hPB,n2,lto]
    exact hPB
   ·simp -dsimp -implicitDefEqProofs [-getElem?_pos,go_sem,ltd,n3,n6,n9,hd]
   ·simp -dsimp -implicitDefEqProofs [-getElem?_pos,go_sem,←hPF,n4,lto]
  ·intro s hs'
   rw[hInv2]at hs'
   clear hInv hInv2 Inv Inv2 ho lto ha hb hd hf' lta ltb ltd ltf n1 n2 n3 n4 n5 n6 n7 n8 n9 n10 n1' n2' n3' n4' n7' hc hlen g0 g1 g2 hk lb lf hPB hPF cp t2 t3 t4 t8 h0 h1 h2 h3 lt0 lt1 lt2 lt3
   have ca:=claimAt_pf (csh L) x.Claim hf
   rw[cshX,show payAt (csh L).Claims x.Claim=none from rfl]at ca
   obtain⟨T,hT⟩:∃T:St→Prop,T=TS O0 O1 O2 nI p (csh (L++[x])):=⟨_,rfl⟩
   rw[←hT]at hs'
   have di:(nI:Int)<(nI:Int)+1:=by omega
   refine awp_join T (by rw[hN];kernel_rfl) ?_ ?_
   ·rw[hT]at hs'
    obtain⟨t2,t3,t4,t10,t11,h0,h1,h2,_,A,B,D,F,hc⟩:=hs'
    have lt0:=(gsI h0)
    have lt1:=(gsI h1)
    simp -dsimp -implicitDefEqProofs [-getElem?_pos,go_sem,hP,t2,t3,h0,lt0,h1,lt1,hO0,hO1]
    refine callB_pure ca hP en_166 (args_same (by simpa[imm_sc]using ic)) .sc ?_
    simp -dsimp -implicitDefEqProofs [-getElem?_pos,go_sem,hP,idxO]
    refine adrawB (fun _=>true) [] hP (by kernel_rfl) (by kernel_rfl) ?_
    simp -dsimp -implicitDefEqProofs [-getElem?_pos,go_sem,hP]
    refine⟨_,Weaker.refl _,?_⟩
    rw[hT]
    exact⟨by simp -dsimp[-getElem?_pos,go_sem,t2],by simp -dsimp[-getElem?_pos,go_sem,t3],by simp -dsimp[-getElem?_pos,go_sem,t4],by simp -dsimp[-getElem?_pos,go_sem,t10],by simp -dsimp[-getElem?_pos,go_sem,t11],h0,h1,h2,hp4,_,_,_,_,hc⟩
   clear hs' s
   intro s hs'
   refine awp_join T (by rw[hN];kernel_rfl) ?_ ?_
   ·rw[hT]at hs'
    obtain⟨t2,t3,t4,t10,t11,h0,h1,h2,_,A,B,D,F,hc⟩:=hs'
    have lt0:=(gsI h0)
    have lt1:=(gsI h1)
    have ho:=hc.obj
    have lto:=(gsI ho)
    obtain⟨f,nf,rfl,hf'⟩:=hc.f
    obtain⟨a,na,rfl,ha⟩:=hc.a
    have ltf:=(List.getElem?_eq_some_iff.1 hf').1
    have el:(rowsI (csh (L++[x])).Loose).length=nI+1:=by rw[rowsI_len,hnI];simp[csh]
    have rv:(rowsI (csh (L++[x])).Loose)[nI]?=some [iv x.Amount]:=by rw[hnI];exact rowsI_get (by simp[csh])
    have hlen:=hc.len
    have hck:∀H',Kept [] s.H H'→HC 4 H' p (csh (L++[x])) (.sref a 0 0) B D (.sref f 0 (nI+1)):=fun H' k=>by
     rw[show (encL TClaim.cells (csh (L++[x])).Claims).length=0 from rfl,el]at hc
     exact hc.kept k (by have:=(List.getElem?_eq_some_iff.1 (k _ _ (by simp) ho)).1;have:=(List.getElem?_eq_some_iff.1 (k _ _ (by simp) ha)).1;omega)
    obtain⟨PF,hPF⟩:∃P,P=rowsI (csh (L++[x])).Loose:=⟨_,rfl⟩
    rw[←hPF]at hf' el rv
    have ha':s.H[a]?=some (some ⟨145,6,[]⟩):=ha
    rw[show (encL TClaim.cells (csh (L++[x])).Claims).length=0 from rfl,←hPF,el]at ho
    simp -dsimp -implicitDefEqProofs [-getElem?_pos,go_sem,hP]
    refine adrawB (fun _=>true) [] hP (by kernel_rfl) (by kernel_rfl) ?_
    simp -dsimp -implicitDefEqProofs [-getElem?_pos,go_sem,hP,t10,t11,t3,h0,lt0,h1,lt1,hO0,hO1,ho,lto,hf',ltf,el,rv,di]
    refine callB_m (exact0_m ho ha' x.Payer x.Amount) hP en_168 ?_
    rintro r H2 ⟨rfl,k2⟩
    simp -dsimp -implicitDefEqProofs [-getElem?_pos,go_sem,hP]
    refine once (by rw[hN];rfl) ?_
    simp -dsimp -implicitDefEqProofs [-getElem?_pos,go_sem,hP]
    refine⟨_,Weaker.refl _,?_⟩
    rw[hT]
    exact⟨by simp -dsimp[-getElem?_pos,go_sem,t2],by simp -dsimp[-getElem?_pos,go_sem,t3],by simp -dsimp[-getElem?_pos,go_sem,t4],by simp -dsimp[-getElem?_pos,go_sem,t10],by simp -dsimp[-getElem?_pos,go_sem,t11],k2 _ _ (by simp) h0,k2 _ _ (by simp) h1,k2 _ _ (by simp) h2,hp4,_,_,_,_,hck _ k2⟩
   clear hs' s
   intro s hs'
   refine awp_join T (by rw[hN];kernel_rfl) ?_ ?_
   ·rw[hT]at hs'
    obtain⟨t2,t3,t4,t10,t11,h0,h1,h2,_,A,B,D,F,hc⟩:=hs'
    have lt1:=(gsI h1)
    have ho:=hc.obj
    obtain⟨a,na,rfl,ha⟩:=hc.a
    have ha':s.H[a]?=some (some ⟨145,6,[]⟩):=ha
    simp -dsimp -implicitDefEqProofs [-getElem?_pos,go_sem,hP,t10,t3,h1,lt1,hO1]
    refine callB_m (open0_m ho ha' x.Payer) hP en_169 ?_
    rintro r H2 ⟨rfl,k2⟩
    have hc2:=hc.kept k2 (by have:=(List.getElem?_eq_some_iff.1 (k2 _ _ (by simp) ho)).1;omega)
    simp -dsimp -implicitDefEqProofs [-getElem?_pos,go_sem,hP]
    refine once (by rw[hN];rfl) ?_
    simp -dsimp -implicitDefEqProofs [-getElem?_pos,go_sem,hP]
    refine⟨_,Weaker.refl _,?_⟩
    rw[hT]
    exact⟨by simp -dsimp[-getElem?_pos,go_sem,t2],by simp -dsimp[-getElem?_pos,go_sem,t3],by simp -dsimp[-getElem?_pos,go_sem,t4],by simp -dsimp[-getElem?_pos,go_sem,t10],by simp -dsimp[-getElem?_pos,go_sem,t11],k2 _ _ (by simp) h0,k2 _ _ (by simp) h1,k2 _ _ (by simp) h2,hp4,_,_,_,_,hc2⟩
   clear hs' s
   intro s hs'
   rw[hT]at hs'
   obtain⟨t2,t3,t4,t10,t11,h0,h1,h2,_,A,B,D,F,hc⟩:=hs'
   have lt0:=(gsI h0)
   have lt2:=(gsI h2)
   have ho:=hc.obj
   obtain⟨dd,nd,rfl,hd⟩:=hc.d
   have lto:=(gsI ho)
   have ltd:=(gsI hd)
   have hd':s.H[dd]?=some (some ⟨149,3,[]⟩):=hd
   rw[show (encL TMatch.cells (csh (L++[x])).Matches).length=0 from rfl]at ho
   refine awp_cut (by rw[hN];kernel_rfl) ?_
   simp -dsimp -implicitDefEqProofs [-getElem?_pos,go_sem,hP,t10,ho,lto,hd',ltd]
   have npd:=obj_ne ho hd (by simp)
   obtain⟨e,he⟩:∃e,e=csh (L++[x]):=⟨_,rfl⟩
   rw[←he]at hc hQo
   have e1:=(hc.a.set (o':=none) hd (by simp)).set (i:=p) (o':=some ⟨40,4,[[A,B,.list 3 [],F]]⟩) (by rw[List.getElem?_set_ne (fun e=>npd e.symm)];exact ho) (by simp)
   have e2:=(hc.b.set (o':=none) hd (by simp)).set (i:=p) (o':=some ⟨40,4,[[A,B,.list 3 [],F]]⟩) (by rw[List.getElem?_set_ne (fun e=>npd e.symm)];exact ho) (by simp)
   have e4:=(hc.f.set (o':=none) hd (by simp)).set (i:=p) (o':=some ⟨40,4,[[A,B,.list 3 [],F]]⟩) (by rw[List.getElem?_set_ne (fun e=>npd e.symm)];exact ho) (by simp)
   have im0:Imm (.list 3 []):=imm_matches []
   refine AWp.weaken (weaker_frzcell (o:=p) (id:=dd) (r:=0) (c:=2) (ty:=40) (k:=4) (es:=[[A,B,.sref dd 0 0,F]]) (e:=[A,B,.sref dd 0 0,F]) (ty':=149) (kk:=3) (fs:=[]) (n:=0) hW ho (by omega) rfl rfl hd' rfl im0 npd) ?_
   have h0':((s.H.set dd none).set p (some (⟨40,4,[[A,B,.list 3 [],F]]⟩:AObj)))[0]?=some (some O0):=by rw[List.getElem?_set_ne (by omega),List.getElem?_set_ne (by omega)];exact h0
   have h2':((s.H.set dd none).set p (some (⟨40,4,[[A,B,.list 3 [],F]]⟩:AObj)))[2]?=some (some O2):=by rw[List.getElem?_set_ne (by omega),List.getElem?_set_ne (by omega)];exact h2
   have hp':((s.H.set dd none).set p (some (⟨40,4,[[A,B,.list 3 [],F]]⟩:AObj)))[p]?=some (some ⟨40,4,[[A,B,.list 3 [],F]]⟩):=by rw[List.getElem?_set_self (by rw[List.length_set];exact lto)]
   simp only[List.set_cons_zero,List.set_cons_succ]
   obtain⟨H3,hH3⟩:∃H3,H3=(s.H.set dd none).set p (some (⟨40,4,[[A,B,.list 3 [],F]]⟩:AObj)):=⟨_,rfl⟩
   simp only[←hH3]at h0' h2' hp' e1 e2 e4⊢
   have lt0':=(List.getElem?_eq_some_iff.1 h0').1
   have lt2':=(List.getElem?_eq_some_iff.1 h2').1
   have ltp':=(List.getElem?_eq_some_iff.1 hp').1
   refine awp_sound _ _ _ (by rw[hN];kernel_rfl) ?_
   simp -dsimp -implicitDefEqProofs [-getElem?_pos,go_sem,hP]
   refine adrawB (fun _=>true) [12] hP (by kernel_rfl) (by kernel_rfl) ?_
   simp -dsimp -implicitDefEqProofs [-getElem?_pos,go_sem,hP,t2,t4,t10,h0',h2',hp',lt0',lt2',ltp',hO0,asliceOp,bound,aslice]
   refine callB_is ((clone_pf_mtc [] (by simp)).lift _ _) hP en_68 (by simpa using im0) im0 ?_
   have c1':A.cellish=true:=by obtain⟨_,_,rfl,_⟩:=e1;rfl
   have c2':B.cellish=true:=by obtain⟨_,_,rfl,_⟩:=e2;rfl
   have c4':F.cellish=true:=by obtain⟨_,_,rfl,_⟩:=e4;rfl
   refine⟨fun _=>agree_refl _ _,?_⟩
   simp -dsimp -implicitDefEqProofs [-getElem?_pos,go_sem,hP,t2,t4,t10,h2',hO2,lt2',c1',c2',c4']
   refine done_cash3 (cs':=e.cells) ?_ im0 (hQo hR)
   have em:e.cells=[claimsL e.Claims,incomesL e.Incomes,.list 3 [],.list 1 (encL encI e.Loose)]:=by rw[he];rfl
   rw[em]
   exact (e1.set h2' (by rw[hO2];simp)).cw (imm_claims _) ((e2.set h2' (by rw[hO2];simp)).cw (imm_incomes _) (cw_imm im0 ((e4.set h2' (by rw[hO2];simp)).cw (e.imm _ (by simp[cCsh])) .nil)))
def sumQ {α:Type} (q:α→Bool) (am:α→Int) (l:List α):Int:=((l.filter q).map am).sum
def cntQ {α:Type} (q:α→Bool) (l:List α):Nat:=(l.filter q).length
theorem sumQ_nil {α:Type} (q:α→Bool) (am:α→Int):sumQ q am []=0:=rfl
theorem sumQ_cons {α:Type} (q:α→Bool) (am:α→Int) (x:α) (l:List α):sumQ q am (x::l)=(if q x=true then am x else 0)+sumQ q am l:=by
 unfold sumQ
 by_cases h:q x=true
 ·simp[h]
 ·simp[h]
theorem sumQ_append {α:Type} (q:α→Bool) (am:α→Int) (a b:List α):sumQ q am (a++b)=sumQ q am a+sumQ q am b:=by
 unfold sumQ
 simp
theorem cntQ_cons {α:Type} (q:α→Bool) (x:α) (l:List α):cntQ q (x::l)=(if q x=true then 1 else 0)+cntQ q l:=by
 unfold cntQ
 by_cases h:q x=true
 ·simp[h];omega
 ·simp[h]
theorem sumQ_le {α:Type} (q:α→Bool) (am:α→Int):∀l:List α,(∀x,x∈l→0<am x)→0≤sumQ q am l∧∀x,x∈l→q x=true→am x≤sumQ q am l
 |[],_=>⟨Int.le_refl _,fun x h=>by cases h⟩
 |y::l,h=>by
  obtain⟨h1,h2⟩:=sumQ_le q am l fun x hx=>h x (by simp[hx])
  have hy:=h y (by simp)
  rw[sumQ_cons]
  refine⟨by split<;>omega,fun x hx hq=>?_⟩
  rcases List.mem_cons.1 hx with rfl|hx
  ·rw[if_pos hq];omega
  ·have:=h2 x hx hq
   split<;>omega
theorem sumQ_none {α:Type} (q:α→Bool) (am:α→Int) (l:List α) (h:∀x,x∈l→q x=false):sumQ q am l=0:=by
 unfold sumQ
 rw[List.filter_eq_nil_iff.2 fun x hx=>by simp[h x hx]]
 rfl
def setK {α:Type} (lt is:α→Bool) (mk:Int→α) (am:α→Int):List α→Int→List α
 |[],n=>if n=0 then []else [mk n]
 |x::l,n=>if lt x=true then x::setK lt is mk am l n else if is x=true then (if am x+n=0 then l else mk (am x+n)::l)else if n=0 then x::l else mk n::x::l
structure KeyOk {α:Type} (R:α→α→Prop) (lt is:α→Bool) (mk:Int→α) (am:α→Int):Prop where
 am:∀a,am (mk a)=a
 trans:∀x y z,R x y→R y z→R x z
 ltMk:∀x a,lt x=true→R x (mk a)
 isR:∀x y a,is x=true→R x y→R (mk a) y
 tri:∀x a,lt x=false→is x=false→R (mk a) x
 mono:∀x y,R x y→lt y=true→lt x=true
 irr:∀x y,is x=true→R x y→is y=false
 dis:∀x,lt x=true→is x=false
 aft:∀x y,lt x=false→is x=false→R x y→is y=false
section
variable {α:Type} {R:α→α→Prop} {lt is:α→Bool} {mk:Int→α} {am:α→Int}
theorem sumQ_setK (q:α→Bool) (hm:∀a,am (mk a)=a) (c:Bool) (hq:∀a,q (mk a)=c) (hi:∀x,is x=true→q x=c):∀(l:List α) (n:Int),sumQ q am (setK lt is mk am l n)=sumQ q am l+if c=true then n else 0
 |[],n=>by
  unfold setK
  by_cases h:n=0
  ·subst h;simp[sumQ_nil]
  ·rw[if_neg h,sumQ_cons,hq,hm,sumQ_nil];omega
 |x::l,n=>by
  have ih:=sumQ_setK q hm c hq hi l n
  unfold setK
  split
  ·rw[sumQ_cons,sumQ_cons,ih];omega
  ·split
   ·rename_i h1 h2
    have:=hi x h2
    split
    ·rename_i h3
     rw[sumQ_cons,this]
     split<;>omega
    ·rw[sumQ_cons,sumQ_cons,hq,hm,this]
     split<;>omega
   ·split
    ·rename_i h
     subst h
     simp
    ·rw[sumQ_cons,hq,hm];omega
theorem cntQ_setK (q:α→Bool) (c:Bool) (hq:∀a,q (mk a)=c) (hi:∀x,is x=true→q x=c):∀(l:List α) (n:Int),cntQ q (setK lt is mk am l n)≤cntQ q l+if c=true then 1 else 0
 |[],n=>by
  unfold setK
  by_cases h:n=0
  ·subst h;simp[cntQ]
  ·rw[if_neg h,cntQ_cons,hq];simp[cntQ]
 |x::l,n=>by
  have ih:=cntQ_setK q c hq hi l n
  unfold setK
  split
  ·rw[cntQ_cons,cntQ_cons];omega
  ·split
   ·rename_i h1 h2
    have:=hi x h2
    split
    ·rw[cntQ_cons,this];omega
    ·rw[cntQ_cons,cntQ_cons,hq,this];omega
   ·split
    ·omega
    ·rw[cntQ_cons,hq];omega
theorem len_setK (l:List α) (n:Int):(setK lt is mk am l n).length≤l.length+1:=by
 have:=cntQ_setK (lt:=lt) (is:=is) (mk:=mk) (am:=am) (fun _=>true) true (fun _=>rfl) (fun _ _=>rfl) l n
 have e:∀l:List α,l.filter (fun _=>true)=l:=fun l=>List.filter_eq_self.2 (by simp)
 unfold cntQ at this
 rw[e,e]at this
 simpa using this
theorem mem_setK:∀{l:List α} {n:Int} {x:α},x∈setK lt is mk am l n→x∈l∨(n≠0∧x=mk n)∨∃y,y∈l∧is y=true∧am y+n≠0∧x=mk (am y+n)
 |[],n,x,h=>by
  unfold setK at h
  split at h
  ·cases h
  ·rename_i h0
   exact .inr (.inl ⟨h0,by simpa using h⟩)
 |y::l,n,x,h=>by
  unfold setK at h
  split at h
  ·rcases List.mem_cons.1 h with rfl|h
   ·exact .inl (by simp)
   ·rcases mem_setK h with h|h|⟨z,h1,h2⟩
    ·exact .inl (by simp[h])
    ·exact .inr (.inl h)
    ·exact .inr (.inr ⟨z,by simp[h1],h2⟩)
  ·split at h
   ·rename_i h1 h2
    split at h
    ·exact .inl (by simp[h])
    ·rename_i h3
     rcases List.mem_cons.1 h with rfl|h
     ·exact .inr (.inr ⟨y,by simp,h2,h3,rfl⟩)
     ·exact .inl (by simp[h])
   ·split at h
    ·exact .inl h
    ·rename_i h3
     rcases List.mem_cons.1 h with rfl|h
     ·exact .inr (.inl ⟨h3,rfl⟩)
     ·exact .inl h
theorem sorted_setK (ok:KeyOk R lt is mk am):∀{l:List α} (n:Int),l.Pairwise R→(setK lt is mk am l n).Pairwise R
 |[],n,_=>by
  unfold setK
  split<;>simp
 |x::l,n,h=>by
  obtain⟨h1,h2⟩:=List.pairwise_cons.1 h
  unfold setK
  split
  ·rename_i hl
   refine List.pairwise_cons.2 ⟨fun y hy=>?_,sorted_setK ok n h2⟩
   rcases mem_setK hy with hy|⟨_,rfl⟩|⟨_,_,_,_,rfl⟩
   ·exact h1 y hy
   ·exact ok.ltMk _ _ hl
   ·exact ok.ltMk _ _ hl
  ·split
   ·rename_i hl hi
    split
    ·exact h2
    ·exact List.pairwise_cons.2 ⟨fun y hy=>ok.isR x y _ hi (h1 y hy),h2⟩
   ·rename_i hl hi
    split
    ·exact h
    ·have ht:=ok.tri x n (by simpa using hl) (by simpa using hi)
     refine List.pairwise_cons.2 ⟨fun y hy=>?_,h⟩
     rcases List.mem_cons.1 hy with rfl|hy
     ·exact ht
     ·exact ok.trans _ _ _ ht (h1 y hy)
theorem place_setK (ok:KeyOk R lt is mk am):∀{l:List α},l.Pairwise R→∃k,k≤l.length∧(∀h x,l[h]?=some x→(lt x=true↔h<k))∧
  ((∃x,l[k]?=some x∧is x=true∧sumQ is am l=am x∧∀n,setK lt is mk am l n=if am x+n=0 then l.take k++l.drop (k+1)else l.take k++mk (am x+n)::l.drop (k+1))∨
   ((∀x,l[k]?=some x→is x=false)∧sumQ is am l=0∧∀n,setK lt is mk am l n=if n=0 then l else l.take k++mk n::l.drop k))
 |[],_=>⟨0,by simp,by simp,.inr ⟨by simp,rfl,fun n=>by unfold setK;simp⟩⟩
 |x::l,h=>by
  obtain⟨h1,h2⟩:=List.pairwise_cons.1 h
  by_cases hl:lt x=true
  ·obtain⟨k,hk,hm,hc⟩:=place_setK ok h2
   have hd:=ok.dis x hl
   refine⟨k+1,by simp;omega,fun j y hy=>?_,?_⟩
   ·cases j with
    |zero=>
     simp only[List.getElem?_cons_zero,Option.some.injEq]at hy
     subst hy
     simp[hl]
    |succ j=>
     rw[List.getElem?_cons_succ]at hy
     rw[hm j y hy]
     omega
   ·rcases hc with⟨y,c1,c2,c3,c4⟩|⟨c1,c3,c4⟩
    ·refine .inl ⟨y,by simpa using c1,c2,by rw[sumQ_cons,hd,c3];simp,fun n=>?_⟩
     unfold setK
     rw[if_pos hl,c4]
     split<;>simp
    ·refine .inr ⟨fun y hy=>c1 y (by simpa using hy),by rw[sumQ_cons,hd,c3];simp,fun n=>?_⟩
     unfold setK
     rw[if_pos hl,c4]
     split<;>simp
  ·have hl':lt x=false:=by simpa using hl
   have hm:∀(j:Nat) (y:α),(x::l)[j]?=some y→(lt y=true↔j<0):=fun j y hy=>by
    refine⟨fun e=>?_,fun e=>by omega⟩
    rcases List.mem_cons.1 (List.mem_of_getElem? hy)with rfl|hy
    ·exact absurd e hl
    ·exact absurd (ok.mono x y (h1 y hy) e) hl
   refine⟨0,by simp,hm,?_⟩
   by_cases hi:is x=true
   ·refine .inl ⟨x,rfl,hi,?_,fun n=>?_⟩
    ·rw[sumQ_cons,if_pos hi,sumQ_none is am l fun y hy=>ok.irr x y hi (h1 y hy)]
     omega
    ·unfold setK
     rw[if_neg hl,if_pos hi]
     simp
   ·have hi':is x=false:=by simpa using hi
    refine .inr ⟨fun y hy=>?_,?_,fun n=>?_⟩
    ·simp only[List.getElem?_cons_zero,Option.some.injEq]at hy
     subst hy
     exact hi'
    ·rw[sumQ_cons,if_neg hi,sumQ_none is am l fun y hy=>ok.aft x y hl' hi' (h1 y hy)]
     omega
    ·unfold setK
     rw[if_neg hl,if_neg hi]
     simp
end
open Go.PA
open Go.RowKit
def secB (s:TSecurity):Bool:=
 decide ((1≤s.ID∧s.ID≤1000)∧(1≤s.Unit∧s.Unit≤1000000000)∧(0≤s.Issued∧s.Issued≤36000)∧(s.Issued+30≤s.Maturity∧s.Maturity≤min (s.Issued+18000) 35990)∧(0≤s.Rate∧s.Rate≤20000))&&
  (if s.Every=0 then decide ((s.Maturity-s.Issued)%30=0)&&decide (s.Rate=0)else if s.Every=1∨s.Every=3∨s.Every=6∨s.Every=12 then decide ((s.Maturity-s.Issued)%(30*s.Every)=0)else false)
def findS (l:List TSecurity) (id:Int):Option TSecurity:=l.find? fun s=>decide (s.ID=id)
def hLt (id h:Int) (x:THolding):Bool:=decide (x.Security<id)||(decide (x.Security=id)&&decide (x.Holder<h))
def hIs (id h:Int) (x:THolding):Bool:=decide (x.Security=id)&&decide (x.Holder=h)
def hMk (id h a:Int):THolding:=⟨id,h,a⟩
def hAm (x:THolding):Int:=x.Amount
def hR (x y:THolding):Prop:=x.Security<y.Security∨(x.Security=y.Security∧x.Holder<y.Holder)
theorem hLt_iff {id h:Int} {x:THolding}:hLt id h x=true↔(x.Security<id∨(x.Security=id∧x.Holder<h)):=by simp[hLt]
theorem hIs_iff {id h:Int} {x:THolding}:hIs id h x=true↔(x.Security=id∧x.Holder=h):=by simp[hIs]
theorem hLt_not {id h:Int} {x:THolding}:hLt id h x=false↔¬(x.Security<id∨(x.Security=id∧x.Holder<h)):=by rw[←hLt_iff];simp
theorem hIs_not {id h:Int} {x:THolding}:hIs id h x=false↔¬(x.Security=id∧x.Holder=h):=by rw[←hIs_iff];simp
theorem hOk (id h:Int):KeyOk hR (hLt id h) (hIs id h) (hMk id h) hAm where
 am a:=rfl
 trans x y z h1 h2:=by unfold hR at*;omega
 ltMk x a h1:=by rw[hLt_iff]at h1;unfold hR hMk;dsimp only;omega
 isR x y a h1 h2:=by rw[hIs_iff]at h1;unfold hR hMk at*;dsimp only at*;omega
 tri x a h1 h2:=by rw[hLt_not]at h1;rw[hIs_not]at h2;unfold hR hMk;dsimp only;omega
 mono x y h1 h2:=by rw[hLt_iff]at*;unfold hR at h1;omega
 irr x y h1 h2:=by rw[hIs_iff]at h1;rw[hIs_not];unfold hR at h2;omega
 dis x h1:=by rw[hLt_iff]at h1;rw[hIs_not];omega
 aft x y h1 h2 h3:=by rw[hLt_not]at h1;rw[hIs_not]at*;unfold hR at h3;omega
def setH (l:List THolding) (id h n:Int):List THolding:=setK (hLt id h) (hIs id h) (hMk id h) hAm l n
def heldH (l:List THolding) (id h:Int):Int:=sumQ (hIs id h) hAm l
def secQ (id:Int) (x:THolding):Bool:=decide (x.Security=id)
def outH (l:List THolding) (id:Int):Int:=sumQ (secQ id) hAm l
theorem outH_setH (l:List THolding) (id h n id':Int):outH (setH l id h n) id'=outH l id'+if id=id' then n else 0:=by
 have:=sumQ_setK (lt:=hLt id h) (is:=hIs id h) (mk:=hMk id h) (am:=hAm) (secQ id') (fun _=>rfl) (decide (id=id')) (fun _=>rfl) (fun x hx=>by rw[hIs_iff]at hx;unfold secQ;rw[hx.1]) l n
 unfold outH setH
 rw[this]
 simp
theorem pos_setH {l:List THolding} {id h n:Int} (hs:l.Pairwise hR) (hp:∀x,x∈l→0<x.Amount) (hn:0≤heldH l id h+n):∀x,x∈setH l id h n→0<x.Amount:=by
 intro x hx
 obtain⟨k,hk,hm,⟨y,c1,c2,c3,c4⟩|⟨c1,c3,c4⟩⟩:=place_setK (hOk id h) hs
 all_goals
  unfold setH at hx
  unfold heldH at hn
  rw[c4]at hx
  rw[c3]at hn
  split at hx
 ·rcases List.mem_append.1 hx with hx|hx
  ·exact hp x (List.mem_of_mem_take hx)
  ·exact hp x (List.mem_of_mem_drop hx)
 ·rcases List.mem_append.1 hx with hx|hx
  ·exact hp x (List.mem_of_mem_take hx)
  ·rcases List.mem_cons.1 hx with rfl|hx
   ·unfold hMk;dsimp only;omega
   ·exact hp x (List.mem_of_mem_drop hx)
 ·exact hp x hx
 ·rcases List.mem_append.1 hx with hx|hx
  ·exact hp x (List.mem_of_mem_take hx)
  ·rcases List.mem_cons.1 hx with rfl|hx
   ·unfold hMk;dsimp only;omega
   ·exact hp x (List.mem_of_mem_drop hx)
def holderB (n:Int):Bool:=decide (1≤n)&&decide (n≤1000)
def strangeB (m:TMove):Bool:=
 if m.Kind=1 then !decide (m.From=0)||!holderB m.To else if m.Kind=2 then !holderB m.From||!holderB m.To||decide (m.From=m.To)else !holderB m.From||!decide (m.To=0)
def goH (l:List THolding) (m:TMove):List THolding:=
 let l1:=if m.From=0 then l else setH l m.Security m.From (-m.Amount)
 if m.To=0 then l1 else setH l1 m.Security m.To m.Amount
def moveE (secs:List TSecurity) (l:List THolding) (day:Int) (m:TMove):Int:=
 match findS secs m.Security with
 |none=>76
 |some s=>
  if¬(max day s.Issued≤m.Day∧m.Day≤if m.Kind=3 then 36000 else s.Maturity)then 8
  else if m.Amount≤0∨1000000000000<m.Amount∨m.Amount%s.Unit≠0 then 79
  else if strangeB m=true then 6
  else if m.From≠0∧heldH l m.Security m.From<m.Amount then 77
  else if m.From=0∧1000000000000<outH l m.Security+m.Amount then 2
  else 0
structure HoldOk (l:List THolding) (N:Nat):Prop where
 srt:l.Pairwise hR
 pos:∀x,x∈l→0<x.Amount
 tot:∀id,outH l id≤1000000000000
 len:l.length≤N
theorem HoldOk.am {l:List THolding} {N:Nat} (h:HoldOk l N) {x:THolding} (hx:x∈l):0<x.Amount∧x.Amount≤1000000000000:=by
 have h1:=(sumQ_le (secQ x.Security) hAm l h.pos).2 x hx (by simp[secQ])
 have h2:=h.tot x.Security
 have h3:=h.pos x hx
 unfold outH at h2
 unfold hAm at h1 h2
 omega
structure MoveOk (secs:List TSecurity) (l:List THolding) (day:Int) (m:TMove) (s:TSecurity):Prop where
 sec:findS secs m.Security=some s
 day:max day s.Issued≤m.Day∧m.Day≤if m.Kind=3 then 36000 else s.Maturity
 am:0<m.Amount∧m.Amount≤1000000000000∧m.Amount%s.Unit=0
 str:strangeB m=false
 held:m.From≠0→m.Amount≤heldH l m.Security m.From
 out:m.From=0→outH l m.Security+m.Amount≤1000000000000
theorem moveE_ok {secs:List TSecurity} {l:List THolding} {day:Int} {m:TMove} (h:moveE secs l day m=0):∃s,MoveOk secs l day m s:=by
 unfold moveE at h
 cases hs:findS secs m.Security with
 |none=>rw[hs]at h;cases h
 |some s=>
  rw[hs]at h
  dsimp only at h
  by_cases h1:max day s.Issued≤m.Day∧m.Day≤if m.Kind=3 then 36000 else s.Maturity
  ·rw[if_neg (by simpa using h1)]at h
   by_cases h2:m.Amount≤0∨1000000000000<m.Amount∨m.Amount%s.Unit≠0
   ·rw[if_pos h2]at h;cases h
   ·rw[if_neg h2]at h
    by_cases h3:strangeB m=true
    ·rw[if_pos h3]at h;cases h
    ·rw[if_neg h3]at h
     by_cases h4:m.From≠0∧heldH l m.Security m.From<m.Amount
     ·rw[if_pos h4]at h;cases h
     ·rw[if_neg h4]at h
      by_cases h5:m.From=0∧1000000000000<outH l m.Security+m.Amount
      ·rw[if_pos h5]at h;cases h
      ·exact⟨s,hs,h1,by omega,by simpa using h3,fun e=>by have:=fun c=>h4 ⟨e,c⟩;omega,fun e=>by have:=fun c=>h5 ⟨e,c⟩;omega⟩
  ·rw[if_pos h1]at h;cases h
theorem moveE_zero {secs:List TSecurity} {l:List THolding} {day:Int} {m:TMove} {s:TSecurity} (h:MoveOk secs l day m s):moveE secs l day m=0:=by
 unfold moveE
 rw[h.sec]
 dsimp only
 have h2:=h.am
 rw[if_neg (by simpa using h.day),if_neg (by omega),if_neg (by simp[h.str]),if_neg (fun c=>by have:=h.held c.1;omega),if_neg (fun c=>by have:=h.out c.1;omega)]
def addH (l:List THolding) (id h n:Int):List THolding:=if h=0 then l else setH l id h n
theorem goH1_ok {secs:List TSecurity} {l:List THolding} {day:Int} {m:TMove} {s:TSecurity} {N:Nat} (h:HoldOk l N) (hm:MoveOk secs l day m s):HoldOk (addH l m.Security m.From (-m.Amount)) (N+1)∧(addH l m.Security m.From (-m.Amount)).length≤l.length+1:=by
 have h0:=h.len
 have am:=hm.am
 unfold addH
 split
 ·exact⟨⟨h.srt,h.pos,h.tot,by omega⟩,by omega⟩
 ·rename_i hf
  have:=hm.held hf
  refine⟨⟨sorted_setK (hOk _ _) _ h.srt,pos_setH h.srt h.pos (by omega),fun id=>?_,Nat.le_trans (len_setK _ _) (by omega)⟩,len_setK _ _⟩
  rw[outH_setH]
  have:=h.tot id
  split<;>omega
theorem goH_eq (l:List THolding) (m:TMove):goH l m=addH (addH l m.Security m.From (-m.Amount)) m.Security m.To m.Amount:=rfl
theorem goH_ok {secs:List TSecurity} {l:List THolding} {day:Int} {m:TMove} {s:TSecurity} {N:Nat} (h:HoldOk l N) (hm:MoveOk secs l day m s):HoldOk (goH l m) (N+2):=by
 have am:=hm.am
 obtain⟨k1,_⟩:=goH1_ok h hm
 rw[goH_eq]
 obtain⟨l1,h1⟩:∃l1,l1=addH l m.Security m.From (-m.Amount):=⟨_,rfl⟩
 rw[←h1]at k1⊢
 rw[addH]
 split
 ·exact⟨k1.srt,k1.pos,k1.tot,by have:=k1.len;omega⟩
 ·have hh:0≤heldH l1 m.Security m.To:=(sumQ_le _ hAm l1 k1.pos).1
  refine⟨sorted_setK (hOk _ _) _ k1.srt,pos_setH k1.srt k1.pos (by omega),fun id=>?_,Nat.le_trans (len_setK _ _) (by have:=k1.len;omega)⟩
  rw[outH_setH]
  have ht:=h.tot id
  by_cases hid:m.Security=id
  ·subst hid
   rw[if_pos rfl,h1,addH]
   split
   ·rename_i hf;have:=hm.out hf;omega
   ·rw[outH_setH,if_pos rfl];omega
  ·rw[if_neg hid]
   have:=k1.tot id
   omega
structure RepSt where
 l:List THolding
 n:Nat
 d:Int
def stepOk (secs:List TSecurity) (t:RepSt) (m:TMove):Prop:=m.Number=t.n+1∧(1≤m.Kind∧m.Kind≤3)∧moveE secs t.l t.d m=0
def stepR (t:RepSt) (m:TMove):RepSt:=⟨goH t.l m,t.n+1,m.Day⟩
inductive Runs (secs:List TSecurity):RepSt→List TMove→RepSt→Prop
 |nil {t}:Runs secs t [] t
 |snoc {t u ms m}:Runs secs t ms u→stepOk secs u m→Runs secs t (ms++[m]) (stepR u m)
def rep0:RepSt:=⟨[],0,0⟩
theorem Runs.n {secs:List TSecurity} {t u:RepSt} {ms:List TMove} (h:Runs secs t ms u):u.n=t.n+ms.length:=by
 induction h with
 |nil=>rfl
 |snoc _ _ ih=>simp[stepR,ih];omega
theorem Runs.take {secs:List TSecurity} {t u:RepSt} {ms:List TMove} (h:Runs secs t ms u):∀k,∃v,Runs secs t (ms.take k) v∧∀m,ms[k]?=some m→stepOk secs v m∧Runs secs t (ms.take (k+1)) (stepR v m):=by
 induction h with
 |nil=>exact fun k=>⟨t,by simpa using Runs.nil,fun m hm=>by simp at hm⟩
 |@snoc u ms m hr hs ih=>
  intro k
  rcases Nat.lt_trichotomy k ms.length with hk|hk|hk
  ·obtain⟨v,h1,h2⟩:=ih k
   refine⟨v,by rw[List.take_append_of_le_length (by omega)];exact h1,fun x hx=>?_⟩
   rw[List.getElem?_append_left hk]at hx
   rw[List.take_append_of_le_length (by omega)]
   exact h2 x hx
  ·subst hk
   refine⟨u,by simpa using hr,fun x hx=>?_⟩
   simp only[List.getElem?_append_right (Nat.le_refl _),Nat.sub_self,List.getElem?_cons_zero,Option.some.injEq]at hx
   subst hx
   exact⟨hs,by rw[List.take_of_length_le (by simp)];exact .snoc hr hs⟩
  ·exact⟨_,by rw[List.take_of_length_le (by simp;omega)];exact .snoc hr hs,fun x hx=>by rw[List.getElem?_eq_none (by simp;omega)]at hx;cases hx⟩
theorem Runs.det {secs:List TSecurity} {t u:RepSt} {ms:List TMove} (h:Runs secs t ms u):u=ms.foldl stepR t:=by
 induction h with
 |nil=>rfl
 |snoc _ _ ih=>rw[List.foldl_append,←ih];rfl
theorem Runs.ok {secs:List TSecurity} {u:RepSt} {ms:List TMove} (h:Runs secs rep0 ms u):HoldOk u.l (2*ms.length):=by
 induction h with
 |nil=>
  exact⟨by simp[rep0],by simp[rep0],fun id=>by simp[rep0,outH,sumQ],by simp[rep0]⟩
 |snoc _ hs ih=>
  obtain⟨s,hm⟩:=moveE_ok hs.2.2
  have:=goH_ok ih hm
  simpa[stepR,Nat.mul_add]using this
def secsB:Int→List TSecurity→Bool
 |_,[]=>true
 |p,s::l=>secB s&&decide (p<s.ID)&&secsB s.ID l
structure RegOk (r:TRegister) (d:Int):Prop where
 secs:secsB 0 r.Securities=true
 slen:r.Securities.length≤20
 run:Runs r.Securities rep0 r.Moves ⟨r.Holdings,r.Moves.length,d⟩
 mlen:r.Moves.length≤400
def moved (r:TRegister) (m:TMove):TRegister:=⟨r.Securities,goH r.Holdings m,r.Moves++[m]⟩
open Go.PA
open Go.RowKit
abbrev secsL (l:List TSecurity):AV:= .list 7 (encL TSecurity.cells l)
abbrev holdsL (l:List THolding):AV:= .list 3 (encL THolding.cells l)
abbrev movesL (l:List TMove):AV:= .list 7 (encL TMove.cells l)
theorem cSec (x:TSecurity):x.cells=[iv x.ID,iv x.Unit,iv x.Issued,iv x.Maturity,iv x.Rate,iv x.Every,bv x.Indexed]:=rfl
theorem cHol (x:THolding):x.cells=[iv x.Security,iv x.Holder,iv x.Amount]:=rfl
theorem cMov (x:TMove):x.cells=[iv x.Number,iv x.Day,iv x.Kind,iv x.Security,iv x.From,iv x.To,iv x.Amount]:=rfl
theorem cReg (x:TRegister):x.cells=[secsL x.Securities,holdsL x.Holdings,movesL x.Moves]:=rfl
theorem imm_secs (l:List TSecurity):Imm (secsL l):=imm_encL _ TSecurity.imm _
theorem imm_holds (l:List THolding):Imm (holdsL l):=imm_encL _ THolding.imm _
theorem imm_moves (l:List TMove):Imm (movesL l):=imm_encL _ TMove.imm _
theorem imm_sec (x:TSecurity):Imm (.agg x.cells):= .agg fun c hc=>x.imm c hc
theorem imm_hol (x:THolding):Imm (.agg x.cells):= .agg fun c hc=>x.imm c hc
theorem imm_mov (x:TMove):Imm (.agg x.cells):= .agg fun c hc=>x.imm c hc
theorem imm_reg (x:TRegister):Imm (.agg x.cells):= .agg fun c hc=>x.imm c hc
def bet (n lo hi:Int):Bool:=decide (lo≤n)&&decide (n≤hi)
theorem bet_yes {n lo hi:Int} (h:lo≤n∧n≤hi):bet n lo hi=true:=by simp[bet,h]
theorem bet_no {n lo hi:Int} (h:¬(lo≤n∧n≤hi)):bet n lo hi=false:=by simp[bet];omega
theorem gamong_pf (n lo hi:Int):PFun Tryz.prog none none 104 [iv n,iv lo,iv hi] (·=bv (bet n lo hi)):=by
 refine pfun_intro Tryz.func104 rfl (by simp[Tryz.f104]) (by kernel_rfl) ?_
 intro E hP hr hs hW hN
 by_cases h1:lo≤n<;>by_cases h2:n≤hi<;>simp -dsimp -implicitDefEqProofs [-getElem?_pos,go_sem,hP,h1,h2,bet]
theorem gholder_pf (n:Int):PFun Tryz.prog none none 281 [iv n] (·=bv (holderB n)):=by
 refine pfun_intro Tryz.func281 rfl (by simp[Tryz.f281]) (by kernel_rfl) ?_
 intro E hP hr hs hW hN
 simp -dsimp -implicitDefEqProofs [-getElem?_pos,go_sem,hP]
 refine callB_pure (gamong_pf n 1 1000) hP en_104 (args_same (by simp -dsimp[-getElem?_pos,go_sem])) .sc ?_
 simp -dsimp -implicitDefEqProofs [-getElem?_pos,go_sem,hP,holderB,bet]
theorem gvalid_pf (n:Int):PFun Tryz.prog none none 50 [iv n] (·=bv (bet n 0 1000000000000)):=by
 refine pfun_intro Tryz.func50 rfl (by simp[Tryz.f50]) (by kernel_rfl) ?_
 intro E hP hr hs hW hN
 by_cases h1:0≤n<;>by_cases h2:n≤1000000000000<;>simp -dsimp -implicitDefEqProofs [-getElem?_pos,go_sem,hP,h1,h2,bet]
structure SecOk (s:TSecurity):Prop where
 id:1≤s.ID∧s.ID≤1000
 unit:1≤s.Unit∧s.Unit≤1000000000
 iss:0≤s.Issued∧s.Issued≤36000
 mat:s.Issued+30≤s.Maturity∧s.Maturity≤min (s.Issued+18000) 35990
 rate:0≤s.Rate∧s.Rate≤20000
 every:(s.Every=0∧(s.Maturity-s.Issued)%30=0∧s.Rate=0)∨((s.Every=1∨s.Every=3∨s.Every=6∨s.Every=12)∧(s.Maturity-s.Issued)%(30*s.Every)=0)
theorem secOk {s:TSecurity} (h:secB s=true):SecOk s:=by
 unfold secB at h
 rw[Bool.and_eq_true,decide_eq_true_eq]at h
 obtain⟨⟨h1,h2,h3,h4,h5⟩,h6⟩:=h
 refine⟨h1,h2,h3,h4,h5,?_⟩
 by_cases e:s.Every=0
 ·rw[if_pos e,Bool.and_eq_true,decide_eq_true_eq,decide_eq_true_eq]at h6
  exact .inl ⟨e,h6⟩
 ·rw[if_neg e]at h6
  by_cases e2:s.Every=1∨s.Every=3∨s.Every=6∨s.Every=12
  ·rw[if_pos e2,decide_eq_true_eq]at h6
   exact .inr ⟨e2,h6⟩
  ·rw[if_neg e2]at h6
   cases h6
theorem gsec_pf (s:TSecurity) (h:secB s=true):PFun Tryz.prog none none 56 [.agg s.cells] (·=bv true):=by
 obtain⟨h1,h2,h3,h4,h5,h6⟩:=secOk h
 refine pfun_intro Tryz.func56 rfl (by simp[Tryz.f56]) (by kernel_rfl) ?_
 intro E hP hr hs hW hN
 have c1:=bet_yes h1
 have c2:=bet_yes h2
 have c3:=bet_yes h3
 have c4:=bet_yes h4
 have c5:=bet_yes h5
 have w1:=wrap_in (s.Issued+30) (by omega)
 have w2:=wrap_in (s.Issued+18000) (by omega)
 have w3:=wrap_in (s.Maturity-s.Issued) (by omega)
 have am:amin [iv (s.Issued+18000),iv 35990]=some (iv (min (s.Issued+18000) 35990)):=by simp[amin,aminFrom]
 simp -dsimp -implicitDefEqProofs [-getElem?_pos,go_sem,hP,cSec]
 refine callB_pure (gamong_pf s.ID 1 1000) hP en_104 (args_same (by simp -dsimp[-getElem?_pos,go_sem])) .sc ?_
 simp -dsimp -implicitDefEqProofs [-getElem?_pos,go_sem,hP,c1]
 refine callB_pure (gamong_pf s.Unit 1 1000000000) hP en_104 (args_same (by simp -dsimp[-getElem?_pos,go_sem])) .sc ?_
 simp -dsimp -implicitDefEqProofs [-getElem?_pos,go_sem,hP,c2]
 refine callB_pure (gamong_pf s.Issued 0 36000) hP en_104 (args_same (by simp -dsimp[-getElem?_pos,go_sem])) .sc ?_
 simp -dsimp -implicitDefEqProofs [-getElem?_pos,go_sem,hP,c3,w1,w2,am]
 refine callB_pure (gamong_pf s.Maturity (s.Issued+30) (min (s.Issued+18000) 35990)) hP en_104 (args_same (by simp -dsimp[-getElem?_pos,go_sem])) .sc ?_
 simp -dsimp -implicitDefEqProofs [-getElem?_pos,go_sem,hP,c4]
 refine callB_pure (gamong_pf s.Rate 0 20000) hP en_104 (args_same (by simp -dsimp[-getElem?_pos,go_sem])) .sc ?_
 simp -dsimp -implicitDefEqProofs [-getElem?_pos,go_sem,hP,c5,w3]
 rcases h6 with⟨e,e2,e3⟩|⟨e,e2⟩
 ·have t:(s.Maturity-s.Issued).tmod 30=0:=by rw[Int.tmod_eq_emod_of_nonneg (by omega)];exact e2
  simp -dsimp -implicitDefEqProofs [-getElem?_pos,go_sem,hP,e,e3,t]
 ·rcases e with e|e|e|e
  ·rw[e]at e2
   have t:(s.Maturity-s.Issued).tmod 30=0:=(Int.tmod_eq_emod_of_nonneg (by omega)).trans e2
   have w5:IntKind.i64.wrap 30=30:=by decide
   simp -dsimp -implicitDefEqProofs [-getElem?_pos,go_sem,hP,e,t,w5]
  ·rw[e]at e2
   have t:(s.Maturity-s.Issued).tmod 90=0:=(Int.tmod_eq_emod_of_nonneg (by omega)).trans e2
   have w5:IntKind.i64.wrap 90=90:=by decide
   simp -dsimp -implicitDefEqProofs [-getElem?_pos,go_sem,hP,e,t,w5]
  ·rw[e]at e2
   have t:(s.Maturity-s.Issued).tmod 180=0:=(Int.tmod_eq_emod_of_nonneg (by omega)).trans e2
   have w5:IntKind.i64.wrap 180=180:=by decide
   simp -dsimp -implicitDefEqProofs [-getElem?_pos,go_sem,hP,e,t,w5]
  ·rw[e]at e2
   have t:(s.Maturity-s.Issued).tmod 360=0:=(Int.tmod_eq_emod_of_nonneg (by omega)).trans e2
   have w5:IntKind.i64.wrap 360=360:=by decide
   simp -dsimp -implicitDefEqProofs [-getElem?_pos,go_sem,hP,e,t,w5]
open Go.PA
open Go.RowKit
theorem args_sl {H:Heap} {x:AV} {k:Nat} {es:List (List AV)} {xs ys:List AV} (h:SlIs H x k es) (hi:Imm (.list k es)) (ht:Args H xs ys):Args H (x::xs) (.list k es::ys):=by
 rcases h with rfl|⟨rfl,rfl⟩|⟨id,ty,rfl,hH⟩
 ·exact args_imm hi ht
 ·exact args_nilL ht
 ·exact args_sref hH rfl hi ht
set_option maxHeartbeats 1000000 in
theorem bsf_pf_hol (l:List THolding) (k1 k2:Int) (g:FuncId) (cf:THolding→Int) (k:Nat) (hl:l.length≤1000000) (hk:k≤l.length) (hen:enterable Tryz.prog g=true) (hm:∀h x,l[h]?=some x→(cf x<0↔h<k))
  (hg:∀a,a∈l→PFun Tryz.prog none none g [.agg (THolding.cells a),.agg ([iv k1,iv k2])] (·=iv (cf a))):
  PFun Tryz.prog none none 303 [.list 3 (encL THolding.cells l),.agg ([iv k1,iv k2]),.fn g []] (·= .tup [iv k,bv ((l[k]?).any fun x=>decide (cf x=0))]):=by
 refine pfun_intro Tryz.func303 rfl (by simp[Tryz.f303]) (by kernel_rfl) ?_
 intro E hP hr hs hW hN
 have ik:Imm (.agg ([iv k1,iv k2])):= .agg (by simp -dsimp[-getElem?_pos,go_sem])
 simp -dsimp -implicitDefEqProofs [-getElem?_pos,go_sem,hP,cHol]
 obtain⟨I,hI⟩:∃I:Nat→St→Prop,I=fun m s=>∃i j:Nat,i≤k∧k≤j∧j≤l.length∧m=j-i∧s.t 0= .list 3 (encL THolding.cells l)∧s.t 2= .fn g []∧s.t 4= .ref 0 0 0∧s.t 8=iv l.length∧s.t 9=iv i∧s.t 10=iv j∧s.H[0]?=some (some ⟨303,2,[[iv k1,iv k2]]⟩):=⟨_,rfl⟩
 refine aloop0 I (l.length) (by rw[hN];rfl) ?_ ?_
 ·rw[hI]
  exact⟨0,l.length,by omega,hk,by omega,rfl,by simp -dsimp[-getElem?_pos,go_sem],by simp -dsimp[-getElem?_pos,go_sem],by simp -dsimp[-getElem?_pos,go_sem],by simp -dsimp[-getElem?_pos,go_sem],by simp -dsimp[-getElem?_pos,go_sem],by simp -dsimp[-getElem?_pos,go_sem],by simp -dsimp[-getElem?_pos,go_sem,cHol]⟩
 intro m s hs'
 rw[hI]at hs'
 obtain⟨i,j,hi,hj,hjl,hm',t0,t2,t4,t8,t9,t10,hp⟩:=hs'
 have lt0:=(gsI hp)
 simp -dsimp -implicitDefEqProofs [-getElem?_pos,go_sem,hP,t9,t10]
 refine condP (fun h=>?_) (fun h=>?_)
 ·have hij:i<j:=by simpa using h
  have w1:=wrap_in ((i:Int)+j) (by omega)
  have wu:IntKind.u64.wrap ((i:Int)+j)=(i:Int)+j:=by rw[IntKind.wrap_u64];omega
  obtain⟨h,hh⟩:∃h,h=(i+j) / 2:=⟨_,rfl⟩
  have wh:IntKind.i64.wrap (((i:Int)+j) / 2)=(h:Int):=by rw[wrap_in _ (by omega)];omega
  obtain⟨a,ha⟩:∃a,l[h]?=some a:=⟨_,List.getElem?_eq_getElem (by omega)⟩
  have hcmp:=hm h a ha
  have w2:=wrap_in ((h:Int)+1) (by omega)
  have ia:Imm (.agg (THolding.cells a)):= .agg fun c hc=>THolding.imm a c hc
  have cm:=hg a (List.mem_of_getElem? ha)
  rw[cHol]at cm ia
  simp -dsimp -implicitDefEqProofs [-getElem?_pos,go_sem,hP,t9,t10,w1,wu,aconv,aint_shr,wh]
  refine adrawB (fun _=>true) [] hP (by kernel_rfl) (by kernel_rfl) ?_
  simp -dsimp -implicitDefEqProofs [-getElem?_pos,go_sem,hP,t0,t2,t4,ha,hp,lt0,cHol]
  refine callB_is (cm.lift _ _) hP hen (by simpa using⟨ia,ik⟩) .sc ?_
  by_cases c:cf a<0
  ·have c1:decide (cf a<0)=true:=decide_eq_true c
   simp -dsimp -implicitDefEqProofs [-getElem?_pos,go_sem,hP,c1,w2]
   refine⟨j-(h+1),by omega,?_⟩
   rw[hI]
   exact⟨h+1,j,by have:=hcmp.1 c;omega,by omega,by omega,rfl,by simp -dsimp[-getElem?_pos,go_sem,t0],by simp -dsimp[-getElem?_pos,go_sem,t2],by simp -dsimp[-getElem?_pos,go_sem,t4],by simp -dsimp[-getElem?_pos,go_sem,t8],by simp -dsimp[-getElem?_pos,go_sem],by simp -dsimp[-getElem?_pos,go_sem,t10],by simp -dsimp[-getElem?_pos,go_sem,hp]⟩
  ·have c1:decide (cf a<0)=false:=decide_eq_false c
   simp -dsimp -implicitDefEqProofs [-getElem?_pos,go_sem,hP,c1]
   refine⟨h-i,by omega,?_⟩
   rw[hI]
   exact⟨i,h,by omega,by have:=mt hcmp.2 c;omega,by omega,rfl,by simp -dsimp[-getElem?_pos,go_sem,t0],by simp -dsimp[-getElem?_pos,go_sem,t2],by simp -dsimp[-getElem?_pos,go_sem,t4],by simp -dsimp[-getElem?_pos,go_sem,t8],by simp -dsimp[-getElem?_pos,go_sem,t9],by simp -dsimp[-getElem?_pos,go_sem],by simp -dsimp[-getElem?_pos,go_sem,hp]⟩
 ·have hik:i=k:=by
   have:¬i<j:=by simpa using h
   omega
  subst hik
  simp -dsimp -implicitDefEqProofs [-getElem?_pos,go_sem,hP]
  refine adrawB (fun _=>true) [] hP (by kernel_rfl) (by kernel_rfl) ?_
  by_cases c:i<l.length
  ·obtain⟨a,ha⟩:∃a,l[i]?=some a:=⟨_,List.getElem?_eq_getElem c⟩
   have d:decide ((i:Int)<(l.length:Int))=true:=decide_eq_true (by omega)
   have ia:Imm (.agg (THolding.cells a)):= .agg fun c hc=>THolding.imm a c hc
   have cm:=hg a (List.mem_of_getElem? ha)
   rw[cHol]at cm ia
   simp -dsimp -implicitDefEqProofs [-getElem?_pos,go_sem,hP,t9,t8,c,d,t0,t2,t4,ha,hp,lt0,cHol]
   refine callB_is (cm.lift _ _) hP hen (by simpa using⟨ia,ik⟩) .sc ?_
   simp -dsimp -implicitDefEqProofs [-getElem?_pos,go_sem,hP,t9,t8,c,d,t0,t2,t4,ha,hp,lt0,cHol]
   exact done_imm (imm_pair .sc .sc) (by simp[ha])
  ·have d:decide ((i:Int)<(l.length:Int))=false:=decide_eq_false (by omega)
   have n:l[i]?=none:=List.getElem?_eq_none (by omega)
   simp -dsimp -implicitDefEqProofs [-getElem?_pos,go_sem,hP,t9,t8,c,d]
   exact done_imm (imm_pair .sc .sc) (by simp[n])
def cmpK (a1 a2 b1 b2:Int):Int:=orI [cmpI a1 b1,cmpI a2 b2]
theorem cmpK_lt (a1 a2 b1 b2:Int):cmpK a1 a2 b1 b2<0↔(a1<b1∨(a1=b1∧a2<b2)):=by
 simp only[cmpK,orI,cmpI]
 repeat' split
 all_goals omega
theorem cmpK_eq (a1 a2 b1 b2:Int):cmpK a1 a2 b1 b2=0↔(a1=b1∧a2=b2):=by
 simp only[cmpK,orI,cmpI]
 repeat' split
 all_goals omega
theorem kcompare_pf (a1 a2 b1 b2:Int):PFun Tryz.prog none none 306 [.agg [iv a1,iv a2],.agg [iv b1,iv b2]] (·=iv (cmpK a1 a2 b1 b2)):=by
 refine pfun_intro Tryz.func306 rfl (by simp[Tryz.f306]) (by kernel_rfl) ?_
 intro E hP hr hs hW hN
 simp -dsimp -implicitDefEqProofs [-getElem?_pos,go_sem,hP]
 refine adrawB (fun _=>true) [] hP (by kernel_rfl) (by kernel_rfl) ?_
 simp -dsimp -implicitDefEqProofs [-getElem?_pos,go_sem,hP]
 refine callB_pure (compare_pf a1 b1) hP en_55 (args_same (by simp -dsimp[-getElem?_pos,go_sem])) .sc ?_
 simp -dsimp -implicitDefEqProofs [-getElem?_pos,go_sem,hP]
 refine callB_pure (compare_pf a2 b2) hP en_55 (args_same (by simp -dsimp[-getElem?_pos,go_sem])) .sc ?_
 simp -dsimp -implicitDefEqProofs [-getElem?_pos,go_sem,hP]
 refine callB_pure (or_pf [cmpI a1 b1,cmpI a2 b2] (by simp)) hP en_287 (args_same (by simp -dsimp[-getElem?_pos,go_sem,intsL])) .sc ?_
 simp -dsimp -implicitDefEqProofs [-getElem?_pos,go_sem,hP,cmpK]
theorem gof_pf (x:THolding):PFun Tryz.prog none none 305 [.agg x.cells] (·= .agg [iv x.Security,iv x.Holder]):=by
 refine pfun_intro Tryz.func305 rfl (by simp[Tryz.f305]) (by kernel_rfl) ?_
 intro E hP hr hs hW hN
 simp -dsimp -implicitDefEqProofs [-getElem?_pos,go_sem,hP,cHol]
 exact done_imm (by simp -dsimp[-getElem?_pos,go_sem]) rfl
theorem gplace1_pf (x:THolding) (k1 k2:Int):PFun Tryz.prog none none 304 [.agg x.cells,.agg [iv k1,iv k2]] (·=iv (cmpK x.Security x.Holder k1 k2)):=by
 refine pfun_intro Tryz.func304 rfl (by simp[Tryz.f304]) (by kernel_rfl) ?_
 intro E hP hr hs hW hN
 have ix:=imm_hol x
 have op:=gof_pf x
 rw[cHol]at ix op
 simp -dsimp -implicitDefEqProofs [-getElem?_pos,go_sem,hP,cHol]
 refine adrawB (fun _=>true) [] hP (by kernel_rfl) (by kernel_rfl) ?_
 simp -dsimp -implicitDefEqProofs [-getElem?_pos,go_sem,hP]
 refine callB_is (op.lift _ _) hP en_305 (by simpa using ix) (by simp -dsimp[-getElem?_pos,go_sem]) ?_
 simp -dsimp -implicitDefEqProofs [-getElem?_pos,go_sem,hP]
 refine callB_pure (kcompare_pf x.Security x.Holder k1 k2) hP en_306 (args_same (by simp -dsimp[-getElem?_pos,go_sem])) .sc ?_
 simp -dsimp -implicitDefEqProofs [-getElem?_pos,go_sem,hP]
theorem gplace_m {row src:Option Nat} (c:Nat) (sx hx n d:AV) (l:List THolding) (id h:Int) (k:Nat) (H:Heap) (hc:H[c]?=some (some ⟨183,4,[[sx,hx,n,d]]⟩)) (hsl:SlIs H hx 3 (encL THolding.cells l)) (hl:l.length≤100000) (hk:k≤l.length) (hm:∀j x,l[j]?=some x→(hLt id h x=true↔j<k)):
  MFun Tryz.prog row src 282 [.ref c 0 0,.agg [iv id,iv h]] H (fun r H'=>r= .tup [iv k,bv ((l[k]?).any (hIs id h))]∧Kept [] H H'):=by
 obtain⟨C,hC⟩:∃C:AV→Heap→Prop,C=fun r H'=>r= .tup [iv k,bv ((l[k]?).any (hIs id h))]∧Kept [] H H':=⟨_,rfl⟩
 rw[←hC]
 have ex:∃r H',C r H':=⟨_,H,by rw[hC];exact⟨rfl,kept_refl _ _⟩⟩
 have pf:=bsf_pf_hol l id h 304 (fun x=>cmpK x.Security x.Holder id h) k (by omega) hk en_304 (fun j x hx=>by
  rw[←hm j x hx,hLt_iff]
  exact cmpK_lt _ _ _ _) (fun a _=>gplace1_pf a id h)
 have e:(fun x:THolding=>decide (cmpK x.Security x.Holder id h=0))=hIs id h:=funext fun x=>by
  rw[Bool.eq_iff_iff,hIs_iff,decide_eq_true_eq]
  exact cmpK_eq _ _ _ _
 rw[e]at pf
 have lc:=(gsI hc)
 obtain⟨b,hb⟩:∃b,b=(l[k]?).any (hIs id h):=⟨_,rfl⟩
 rw[←hb]at pf hC
 refine mfun_intro Tryz.func282 rfl (by simp[Tryz.f282]) (by kernel_rfl) (ex) ?_
 intro E hP hr hs hN
 simp -dsimp -implicitDefEqProofs [-getElem?_pos,go_sem,hP]
 obtain⟨H1,hH1⟩:∃H1:Heap,H1=H++[some ⟨303,2,[[iv id,iv h]]⟩]:=⟨_,rfl⟩
 have k1:Kept [] H H1:=by rw[hH1];exact kept_app _ _ _
 have c1:=k1 _ _ (by simp) hc
 have s1:=hsl.kept k1
 have a1:H1[H.length]?=some (some ⟨303,2,[[iv id,iv h]]⟩):=by rw[hH1];simp
 have lt1:=(gsI a1)
 have lc1:=(gsI c1)
 simp only[←hH1]
 refine adrawB (fun _=>true) [] hP (by kernel_rfl) (by kernel_rfl) ?_
 simp -dsimp -implicitDefEqProofs [-getElem?_pos,go_sem,hP,c1,a1,lt1,lc1]
 refine callB_flat (pf.lift _ _) hP en_303 (args_sl s1 (imm_holds l) (args_same (by simp -dsimp[-getElem?_pos,go_sem]))) ⟨_,rfl⟩ (by rintro r rfl;simp[flat_tup,flat_sc]) ?_
 rintro r rfl
 simp -dsimp -implicitDefEqProofs [-getElem?_pos,go_sem,hP]
 rw[hC]
 exact⟨rfl,k1⟩
end Go.Proofs.YtaenimpfelpafaaGreatDoor
namespace Go.PA
open Go.RowKit
theorem mfun_cut {P:Program} {row src:Option Nat} {f:FuncId} {args:List AV} {H:Heap} {C D:AV→Heap→Prop} (h:MFun P row src f args H C)
  (hd:∀r H',C r H'→∃id n o,r= .sref id 0 n∧H'[id]?=some (some o)∧n≤o.es.length∧D (.sref H'.length 0 n) (H'.set id none++[some ⟨o.ty,o.k,o.es.take n⟩])):MFun P row src f args H D:=by
 intro E hP hrow hsrc
 obtain⟨⟨x0,H0,h0⟩,hw⟩:=h E hP hrow hsrc
 refine⟨?_,fun w ρ ok vs g hs hr=>(hw w ρ ok vs g hs hr).mono ?_⟩
 ·obtain⟨_,_,_,_,_,_,h1⟩:=hd _ _ h0
  exact⟨_,_,h1⟩
 ·rintro e w' ⟨v,x,H',ρ',ok',rfl,hc,g',x',r'⟩
  obtain⟨id,n,o,rfl,ho,hn,h1⟩:=hd _ _ hc
  obtain⟨g2,x2⟩:=g'.kill id ok' (fun _ h=>h) (fun _ h=> .inl h)
  have hlen:(H'.set id none).length=H'.length:=by simp
  have hnew:∀y:Option AObj,(H'.set id none++[y])[H'.length]?=some y:=fun y=>by rw[←hlen];exact push_new
  cases r' with
  |srefDead hd' _=>rw[ho]at hd';cases hd'
  |srefNil ho' hρ=>
   obtain⟨g3,x3⟩:=g2.add ⟨o.ty,o.k,o.es.take 0⟩ none (by simp[ObjOk]) (by simp) (fun _ _ h=>by cases h)
   exact⟨_,_,_,_,ok',rfl,h1,g3,x'.trans (x2.trans x3),.srefNil (hnew _) (by simp[updP])⟩
  |@sref _ _ _ c o' b cap ho' hρ hn' hcc hnc hcap=>
   rw[ho]at ho'
   simp only[Option.some.injEq]at ho'
   subst ho'
   have hobj:=g'.obj id o ho
   rw[hρ]at hobj
   obtain⟨cur,c1,c2,c3,c4,c5⟩:=hobj.cells hcap
   have own:=g'.own id o b cap ho hρ
   obtain⟨g3,x3⟩:=g2.add ⟨o.ty,o.k,o.es.take n⟩ (some (b,cap)) (.inl ⟨cur,c1,c2,by simp only[List.length_take];omega,c4,fun i e j a he ha=>by
     simp only[List.getElem?_take]at he
     split at he
     ·obtain⟨c,d1,d2,d3⟩:=c5 i e j a he ha
      exact⟨c,d1,d2,d3.ext x2⟩
     ·cases he⟩) (fun e he=>g'.len id o ho e (List.mem_of_mem_take he)) (fun b' c' h'=>by
     simp only[Option.some.injEq,Prod.mk.injEq]at h'
     obtain⟨rfl,rfl⟩:=h'
     refine⟨own.1,fun id' o' c' ho' hρ'=>?_,own.2.1,own.2.2⟩
     obtain⟨hne,hl⟩:=set_live ho'
     exact hne (g'.inj id' o' b c' id o cap hl hρ' ho hρ))
   refine⟨_,_,_,_,ok',rfl,h1,g3,x'.trans (x2.trans x3),.sref (o:=⟨o.ty,o.k,o.es.take n⟩) (hnew _) (by simp[updP]) (by simp;omega) hcc hnc hcap⟩
end Go.PA
namespace Go.Proofs.YtaenimpfelpafaaGreatDoor
open Go.PA
open Go.RowKit
set_option maxRecDepth 8000 in
set_option maxHeartbeats 2000000 in
theorem insert_m_hol {row src:Option Nat} (es:List (List AV)) (e:List AV) (i id:Nat) (H:Heap) (hi:i≤es.length) (hl:es.length≤100000) (ho:H[id]?=some (some ⟨173,3,es⟩)) (he0:e≠[]):
  MFun Tryz.prog row src 283 [.sref id 0 es.length,iv i,.list 3 [e]] H (fun r H'=>∃jd,r= .sref jd 0 (es.length+1)∧(jd=id∨H.length≤jd)∧H'[jd]?=some (some ⟨173,3,es.take i++e::es.drop i⟩)∧Kept [id] H H'):=by
 obtain⟨C,hC⟩:∃C:AV→Heap→Prop,C=fun r H'=>∃jd,r= .sref jd 0 (es.length+1)∧(jd=id∨H.length≤jd)∧H'[jd]?=some (some ⟨173,3,es.take i++e::es.drop i⟩)∧Kept [id] H H':=⟨_,rfl⟩
 rw[←hC]
 have ex:∃r H',C r H':=by
  rw[hC]
  exact⟨.sref H.length 0 (es.length+1),H++[some ⟨173,3,es.take i++e::es.drop i⟩],H.length,rfl,.inr (Nat.le_refl _),by simp,kept_app _ _ _⟩
 have lid:=(gsI ho)
 obtain⟨n,hn⟩:∃n,n=es.length:=⟨_,rfl⟩
 rw[←hn]at hi hl hC⊢
 by_cases hin:i=n
 ·subst hin
  refine mfun_intro Tryz.func283 rfl (by simp[Tryz.f283]) (by kernel_rfl) (ex) ?_
  intro E hP hr hs hN
  by_cases h0:i=0
  ·subst h0
   simp -dsimp -implicitDefEqProofs [-getElem?_pos,go_sem,hP,ho,←hn,asliceOp,bound,aslice]
   rw[hC]
   exact⟨H.length,rfl,.inr (Nat.le_refl _),by simp -dsimp[-getElem?_pos,go_sem,List.eq_nil_of_length_eq_zero hn.symm],(kept_set none (by simp) (kept_refl _ _)).trans (kept_app _ _ _)⟩
  ·simp -dsimp -implicitDefEqProofs [-getElem?_pos,go_sem,hP,ho,←hn,h0,asliceOp,bound,aslice]
   refine⟨by omega,by omega,?_⟩
   rw[hC]
   exact⟨H.length,rfl,.inr (Nat.le_refl _),by simp -dsimp[-getElem?_pos,go_sem,hn],(kept_set none (by simp) (kept_refl _ _)).trans (kept_app _ _ _)⟩
 ·have hlt:i<n:=by omega
  have hin':¬(i:Int)=n:=by omega
  have w1:=wrap_in ((n:Int)+1) (by omega)
  have w2:=wrap_in ((i:Int)+1) (by omega)
  have w3:=wrap_in ((n:Int)+1-i) (by omega)
  have hesne:es≠[]:=by intro e0;simp[e0]at hn;omega
  refine mfun_unfull (C:=fun r H'=>C r H'∨∃N,r= .full id 0 (n+1) N∧∃o,H'[id]?=some (some o)∧n+1≤o.es.length∧C (.sref id 0 (n+1)) H') ?_ (fun r H' h=>?_)
  rotate_left
  ·rcases h with h|⟨N,h1,o,h2,h3,h4⟩
   ·exact .inl h
   ·exact .inr ⟨id,n+1,N,o,h1,h2,h3,h4⟩
  refine mfun_full ho hesne (by dsimp only;omega) fun N hN0=>?_
  dsimp only at hN0
  obtain⟨D,hD⟩:∃D:AV→Heap→Prop,D=fun r H'=>C r H'∨∃N,r= .full id 0 (n+1) N∧∃o,H'[id]?=some (some o)∧n+1≤o.es.length∧C (.sref id 0 (n+1)) H':=⟨_,rfl⟩
  rw[←hD]
  have exD:∃r H',D r H':=by
   obtain⟨r,H',h⟩:=ex
   rw[hD]
   exact⟨r,H',.inl h⟩
  have fx:∀(id n N:Nat),(if i=0 then some (AV.full id 0 n N)else some (AV.full id i (n-i) N))=some (.full id i (n-i) N):=fun id n N=>by
   split
   ·subst i;rfl
   ·rfl
  have nN:n≤N:=by omega
  have iN:i≤N:=by omega
  have a1:(0:Int)≤(n:Int)+1:=by omega
  have a3:(0:Int)≤(i:Int)+1:=by omega
  have a4:(i:Int)+1≤(n:Int)+1:=by omega
  refine mfun_intro Tryz.func283 rfl (by simp[Tryz.f283]) (by kernel_rfl) (exD) ?_
  intro E hP hr hs hN
  by_cases hroom:N<n+1
  ·have dN:decide ((N:Int)<(n:Int)+1)=true:=decide_eq_true (by omega)
   obtain⟨zs,hz⟩:=Option.isSome_iff_exists.1 (show (zeros Tryz.prog 173).isSome=true by kernel_rfl)
   have hbt:bytesOf Tryz.prog 173=24:=by kernel_rfl
   have hm:(n:Int)+1-i=((n+1-i:Nat):Int):=by omega
   have sx:∀(id n:Nat),(if i=0 then some (AV.sref id 0 n)else some (AV.sref id i (n-i)))=some (.sref id i (n-i)):=fun id n=>by
    split
    ·subst i;rfl
    ·rfl
   simp -dsimp -implicitDefEqProofs [-getElem?_pos,go_sem,hP,dN,ho,←hn,hin,hin',asliceOp,bound,aslice,w1,w2,w3,hroom,hi,nN,iN,a1,a3,a4,fx]
   refine buiB_makeE (e:=173) (m:=n+1-i) (L:=n+1) (kn:= .i64) (zs:=zs) ho (by rw[hP];kernel_rfl) (by rw[hP];kernel_rfl) (by rw[hP];kernel_rfl) (by omega) rfl (by rw[hP];exact hz) (by omega) hm (by omega) (by omega) hroom (by omega) (by rw[hP,hbt];omega) ?_
   have ho2:(H++[some (⟨173,3,es.take i++List.replicate (n+1-i) zs⟩:AObj)])[id]?=some (some ⟨173,3,es⟩):=by rw[List.getElem?_append_left lid];exact ho
   have hl1:(es.take i++List.replicate (n+1-i) zs).length=n+1:=by simp;omega
   have a7:(i:Int)≤(n:Int)+1:=by omega
   have a8:¬((i:Int)=(n:Int)+1):=by omega
   have a9:i≤n+1:=by omega
   have a10:¬i=n+1:=by omega
   have hA:(es.take i).length=i:=by simp;omega
   have d1:(es.take i++List.replicate (n+1-i) zs).drop (i+1)=List.replicate (n-i) zs:=by
    rw[List.drop_append,List.drop_of_length_le (by omega),hA,List.nil_append,List.drop_replicate]
    congr 1
    omega
   simp -dsimp -implicitDefEqProofs [-getElem?_pos,go_sem,hP,ho2,asliceOp,bound,aslice,a7,a8,a9,a10,sx]
   refine buiB_copyE (e:=173) (ty:=173) (k:=3) (lo:=i) (dn:=n+1-i) (m:=1) (es:=es.take i++List.replicate (n+1-i) zs) (news:=[e]) (es':=es.take i++e::List.replicate (n-i) zs) (by simp) (.inl rfl) (by rw[hP];kernel_rfl) (by rw[hP];kernel_rfl) (by omega) (by rw[hP];kernel_rfl) ?_ rfl (by omega) (by omega) (by simp;omega) ?_ ?_
   ·simp only[srcEs]
    rw[if_pos (by rw[hP];kernel_rfl)]
   ·rw[d1,List.take_append_of_le_length (by omega),List.take_of_length_le (by omega)]
    simp
   have ho3:(H++[some (⟨173,3,es.take i++e::List.replicate (n-i) zs⟩:AObj)])[id]?=some (some ⟨173,3,es⟩):=by rw[List.getElem?_append_left lid];exact ho
   have a5:¬((i:Int)+1=0):=by omega
   have a6:((n:Int)+1-((i:Int)+1)).toNat=n-i:=by omega
   have a11:¬((i:Int)+1=(n:Int)+1):=by omega
   simp -dsimp -implicitDefEqProofs [-getElem?_pos,go_sem,hP]
   refine adrawB (fun _=>true) [8] hP (by kernel_rfl) (by kernel_rfl) ?_
   simp -dsimp -implicitDefEqProofs [-getElem?_pos,go_sem,hP,ho3,←hn,hin,hin',asliceOp,bound,aslice,w1,w2,hi,nN,iN,a1,a3,a4,a5,a6,a7,a8,a11,fx,sx]
   refine buiB_copyE (e:=173) (ty:=173) (k:=3) (lo:=i+1) (dn:=n-i) (m:=n-i) (es:=es.take i++e::List.replicate (n-i) zs) (news:=es.drop i) (es':=es.take i++e::es.drop i) (by simp) (.inl rfl) (by rw[hP];kernel_rfl) (by rw[hP];kernel_rfl) (by omega) (by rw[hP];kernel_rfl) ?_ (by simp[←hn]) (by omega) (by omega) (by simp;omega) ?_ ?_
   ·simp only[srcEs,ho3]
    rw[if_pos ⟨by rw[hP];kernel_rfl,by omega⟩,List.take_of_length_le (by simp;omega)]
   ·rw[show es.take i++e::List.replicate (n-i) zs=(es.take i++[e])++List.replicate (n-i) zs from by simp,List.take_append_of_le_length (by simp;omega),List.take_of_length_le (by simp;omega),List.drop_of_length_le (show ((es.take i++[e])++List.replicate (n-i) zs).length≤i+1+(n-i) by simp;omega)]
    simp
   simp -dsimp -implicitDefEqProofs [-getElem?_pos,go_sem,hP]
   rw[hD,hC]
   exact .inl ⟨H.length,rfl,.inr (Nat.le_refl _),by simp,kept_app _ _ _⟩
  ·have dN:decide ((N:Int)<(n:Int)+1)=false:=decide_eq_false (by omega)
   have a2:(n:Int)+1≤N:=by omega
   have a5:¬((i:Int)+1=0):=by omega
   have a6:((n:Int)+1-((i:Int)+1)).toNat=n-i:=by omega
   have a7:(i:Int)≤(n:Int)+1:=by omega
   have a8:¬((i:Int)=(n:Int)+1):=by omega
   simp -dsimp -implicitDefEqProofs [-getElem?_pos,go_sem,hP,dN,ho,←hn,hin,hin',asliceOp,bound,aslice,w1,w2,w3,hroom,hi,nN,iN,a1,a2,a3,a4,a5,a6,a7,a8,fx]
   refine callB_overlapsL (t:=42) (e:=173) (tR:=4) (fn:=Tryz.f307) (id':=id) (lo':=i+1) (dn':=n-i) (by rw[hP];exact Tryz.func307) (by kernel_rfl) (by kernel_rfl) (by kernel_rfl) (by kernel_rfl) (by rw[hP];kernel_rfl) (by rw[hP];kernel_rfl) he0 (.inr ⟨N,rfl⟩) ho (by omega) ?_
   simp -dsimp -implicitDefEqProofs [-getElem?_pos,go_sem,hP]
   refine adrawB (fun _=>true) [8] hP (by kernel_rfl) (by kernel_rfl) ?_
   simp -dsimp -implicitDefEqProofs [-getElem?_pos,go_sem,hP,dN,ho,←hn,hin,hin',asliceOp,bound,aslice,w1,w2,w3,hroom,hi,nN,iN,a1,a2,a3,a4,a5,a6,a7,a8,fx]
   refine buiB_copyS (e:=173) (lo:=i+1) (dn:=n-i) (news:=es.drop i) (es':=es.take (i+1)++es.drop i) ho (.inr ⟨N,rfl⟩) (by rw[hP];kernel_rfl) (by rw[hP];kernel_rfl) (by omega) (by rw[hP];kernel_rfl) ?_ (by simp[←hn]) (by omega) (by omega) (by omega) (by rw[List.drop_of_length_le (show es.length≤i+1+(n-i) by omega),List.append_nil]) ?_
   ·simp only[srcEs,ho]
    rw[if_pos ⟨by rw[hP];kernel_rfl,by omega⟩,List.take_of_length_le (by simp;omega)]
   simp -dsimp -implicitDefEqProofs [-getElem?_pos,go_sem,hP,lid,ho,asliceOp,bound,aslice,a2,a7,a8,fx]
   refine buiB_copyE (e:=173) (ty:=173) (k:=3) (lo:=i) (dn:=n+1-i) (m:=1) (es:=es.take (i+1)++es.drop i) (news:=[e]) (es':=es.take i++e::es.drop i) (by simp[lid]) (.inr ⟨N,rfl⟩) (by rw[hP];kernel_rfl) (by rw[hP];kernel_rfl) (by omega) (by rw[hP];kernel_rfl) ?_ rfl (by omega) (by omega) (by simp[←hn];omega) ?_ ?_
   ·simp only[srcEs]
    rw[if_pos (by rw[hP];kernel_rfl)]
   ·rw[List.take_append_of_le_length (by simp;omega),List.take_take,Nat.min_eq_left (by omega),List.drop_append_of_le_length (by simp;omega),List.drop_of_length_le (by simp;omega)]
    simp
   simp -dsimp -implicitDefEqProofs [-getElem?_pos,go_sem,hP,lid]
   rw[hD,hC]
   simp only[List.set_set]
   exact .inr ⟨N,rfl,⟨173,3,es.take i++e::es.drop i⟩,by simp[lid],by simp[←hn];omega,id,rfl,.inl rfl,by simp[lid],kept_set _ (by simp) (kept_refl _ _)⟩
set_option maxHeartbeats 2000000 in
theorem delete_m_hol {row src:Option Nat} (es:List (List AV)) (i id:Nat) (H:Heap) (hi:i<es.length) (hl:es.length≤100000) (ho:H[id]?=some (some ⟨173,3,es⟩)):
  MFun Tryz.prog row src 284 [.sref id 0 es.length,iv i,iv ((i:Int)+1)] H (fun r H'=>∃tl,r= .sref id 0 (es.length-1)∧H'[id]?=some (some ⟨173,3,es.take i++es.drop (i+1)++tl⟩)∧Kept [id] H H'):=by
 obtain⟨C,hC⟩:∃C:AV→Heap→Prop,C=fun r H'=>∃tl,r= .sref id 0 (es.length-1)∧H'[id]?=some (some ⟨173,3,es.take i++es.drop (i+1)++tl⟩)∧Kept [id] H H':=⟨_,rfl⟩
 rw[←hC]
 have lid:=(gsI ho)
 have ex:∃r H',C r H':=by
  rw[hC]
  exact⟨.sref id 0 (es.length-1),H.set id (some ⟨173,3,es.take i++es.drop (i+1)++[]⟩),[],rfl,by simp[lid],kept_set _ (by simp) (kept_refl _ _)⟩
 obtain⟨n,hn⟩:∃n,n=es.length:=⟨_,rfl⟩
 rw[←hn]at hi hl hC⊢
 have hesne:es≠[]:=by intro e0;simp[e0]at hn;omega
 refine mfun_unfull (C:=fun r H'=>∃N,r= .full id 0 (n-1) N∧∃o,H'[id]?=some (some o)∧n-1≤o.es.length∧C (.sref id 0 (n-1)) H') ?_ (fun r H' h=>?_)
 rotate_left
 ·obtain⟨N,h1,o,h2,h3,h4⟩:=h
  exact .inr ⟨id,n-1,N,o,h1,h2,h3,h4⟩
 refine mfun_full ho hesne (by dsimp only;omega) fun N hN0=>?_
 dsimp only at hN0
 obtain⟨D,hD⟩:∃D:AV→Heap→Prop,D=fun r H'=>∃N,r= .full id 0 (n-1) N∧∃o,H'[id]?=some (some o)∧n-1≤o.es.length∧C (.sref id 0 (n-1)) H':=⟨_,rfl⟩
 rw[←hD]
 have exD:∃r H',D r H':=by
  rw[hD,hC]
  refine⟨.full id 0 (n-1) n,H.set id (some ⟨173,3,es.take i++es.drop (i+1)++[]⟩),n,rfl,⟨173,3,es.take i++es.drop (i+1)++[]⟩,by simp[lid],by simp;omega,[],rfl,by simp[lid],kept_set _ (by simp) (kept_refl _ _)⟩
 obtain⟨zs,hz⟩:=Option.isSome_iff_exists.1 (show (zeros Tryz.prog 173).isSome=true by kernel_rfl)
 have nN:n≤N:=by omega
 have iN:i≤N:=by omega
 have b1:(0:Int)≤i:=by omega
 have b2:(i:Int)≤(i:Int)+1:=by omega
 have b3:(i:Int)+1≤n:=by omega
 have b4:¬(i:Int)=(i:Int)+1:=by omega
 have b5:(0:Int)≤(i:Int)+1:=by omega
 have b6:¬((i:Int)+1=0):=by omega
 have fin:∀(es1:List (List AV)),es1.take (n-1)=es.take i++es.drop (i+1)→es1.length=n→(H1:Heap)→H1[id]?=some (some ⟨173,3,es1⟩)→Kept [id] H H1→D (.full id 0 (n-1) N) (H1.set id (some ⟨173,3,es.take i++es.drop (i+1)++[zs]⟩)):=fun es1 h1 h2 H1 h3 h4=>by
  have l1:=(gsI h3)
  rw[hD,hC]
  exact⟨N,rfl,⟨173,3,es.take i++es.drop (i+1)++[zs]⟩,by simp[l1],by simp[←hn];omega,[zs],rfl,by simp[l1],kept_set _ (by simp) h4⟩
 refine mfun_intro Tryz.func284 rfl (by simp[Tryz.f284]) (by kernel_rfl) (exD) ?_
 intro E hP hr hs hN
 simp -dsimp -implicitDefEqProofs [-getElem?_pos,go_sem,hP,ho,←hn,asliceOp,bound,aslice,aslice3,b1,b2,b3,b4,b5]
 refine adrawB (fun _=>true) [6] hP (by kernel_rfl) (by kernel_rfl) ?_
 have sx:(if n-1=0 then some (AV.full id 0 n N)else some (AV.full id (n-1) 1 N))=some (.full id (n-1) 1 N):=by
  split
  ·rename_i h0;rw[h0,show n=1 by omega]
  ·rfl
 have n4:¬(((n-1:Nat):Int)=(n:Int)):=by omega
 have n1:n-(n-1)=1:=by omega
 have n2:n-1≤n:=by omega
 have n3:¬(n-1=n):=by omega
 have n0:¬n=0:=by omega
 by_cases hlast:i+1=n
 ·have c1:(i:Int)+1=n:=by omega
  have iN1:i=n-1:=by omega
  simp -dsimp -implicitDefEqProofs [-getElem?_pos,go_sem,hP,ho,←hn,asliceOp,bound,aslice,b1,b2,b3,b4,b5,b6,c1,iN,nN,n0]
  refine buiB_appendN (e:=173) (L:=n-1) (o:=⟨173,3,es⟩) ho (by rw[hP];kernel_rfl) (by rw[hP];kernel_rfl) iN iN1 ?_
  simp -dsimp -implicitDefEqProofs [-getElem?_pos,go_sem,hP,ho,asliceOp,bound,aslice,n1,n2,n3,n4,nN,sx]
  refine buiB_clearE (e:=173) (es':=es.take i++es.drop (i+1)++[zs]) ho (.inr ⟨N,rfl⟩) (by rw[hP];kernel_rfl) (by rw[hP];kernel_rfl) (by omega) (by rw[hP];exact hz) (by omega) (by omega) ?_ ?_
  ·rw[List.drop_of_length_le (show es.length≤n-1+1 by omega),List.drop_of_length_le (show es.length≤i+1 by omega),iN1]
   simp
  simp -dsimp -implicitDefEqProofs [-getElem?_pos,go_sem,hP]
  have:=fin es (by rw[List.drop_of_length_le (show es.length≤i+1 by omega),iN1];simp) hn.symm H ho (kept_refl _ _)
  simpa using this
 ·have c1:¬(i:Int)+1=n:=by omega
  have c2:(n:Int)-((i:Int)+1)=((n-(i+1):Nat):Int):=by omega
  simp -dsimp -implicitDefEqProofs [-getElem?_pos,go_sem,hP,ho,←hn,asliceOp,bound,aslice,b1,b2,b3,b4,b5,b6,c1,c2,iN,nN]
  refine buiB_appendE (e:=173) (L:=n-1) (m:=n-(i+1)) (news:=es.drop (i+1)) (es':=es.take i++es.drop (i+1)++es.drop (n-1)) ho (by rw[hP];kernel_rfl) (by rw[hP];kernel_rfl) (by omega) (by rw[hP];kernel_rfl) ?_ (by simp[←hn]) (by omega) (by omega) (by omega) rfl (by omega) ?_
  ·simp only[srcEs,ho]
   rw[if_pos ⟨by rw[hP];kernel_rfl,by omega⟩,List.take_of_length_le (by simp;omega)]
  simp -dsimp -implicitDefEqProofs [-getElem?_pos,go_sem,hP,lid,asliceOp,bound,aslice,n1,n2,n3,n4,nN,sx]
  have hl2:(es.take i++es.drop (i+1)).length=n-1:=by simp;omega
  refine buiB_clearE (e:=173) (ty:=173) (k:=3) (es:=es.take i++es.drop (i+1)++es.drop (n-1)) (es':=es.take i++es.drop (i+1)++[zs]) (by simp[lid]) (.inr ⟨N,rfl⟩) (by rw[hP];kernel_rfl) (by rw[hP];kernel_rfl) (by omega) (by rw[hP];exact hz) (by omega) (by simp;omega) ?_ ?_
  ·rw[List.take_append_of_le_length (by omega),List.take_of_length_le (by omega),List.drop_of_length_le (show (es.take i++es.drop (i+1)++es.drop (n-1)).length≤n-1+1 by rw[List.length_append,hl2,List.length_drop];omega)]
   simp
  simp -dsimp -implicitDefEqProofs [-getElem?_pos,go_sem,hP]
  have:=fin (es.take i++es.drop (i+1)++es.drop (n-1)) (by rw[List.take_append_of_le_length (by omega),List.take_of_length_le (by omega)]) (by rw[List.length_append,hl2,List.length_drop];omega) (H.set id (some ⟨173,3,es.take i++es.drop (i+1)++es.drop (n-1)⟩)) (by simp[lid]) (kept_set _ (by simp) (kept_refl _ _))
  simpa using this
theorem deleteC_hol {row src:Option Nat} (es:List (List AV)) (i id:Nat) (H:Heap) (hi:i<es.length) (hl:es.length≤100000) (ho:H[id]?=some (some ⟨173,3,es⟩)):
  MFun Tryz.prog row src 284 [.sref id 0 es.length,iv i,iv ((i:Int)+1)] H (fun r H'=>∃jd,r= .sref jd 0 (es.length-1)∧(∀(x:Nat) (o:AObj),x≠id→H[x]?=some (some o)→x<jd)∧H'[jd]?=some (some ⟨173,3,es.take i++es.drop (i+1)⟩)∧Kept [id] H H'):=by
 refine mfun_cut (delete_m_hol es i id H hi hl ho) ?_
 rintro r H' ⟨tl,rfl,h1,h2⟩
 have hn:(es.take i++es.drop (i+1)).length=es.length-1:=by simp;omega
 refine⟨id,_,_,rfl,h1,by dsimp only;rw[List.length_append,hn];omega,H'.length,rfl,fun x o hx e=>?_,?_,?_⟩
 ·exact (List.getElem?_eq_some_iff.1 (h2 x o (by simpa using hx) e)).1
 ·dsimp only
  rw[List.take_append_of_le_length (by omega),List.take_of_length_le (by omega)]
  simp
 ·exact h2.trans ((kept_set none (by simp) (kept_refl _ _)).trans (kept_app _ _ _))
theorem held_m {row src:Option Nat} (c:Nat) (sx hx n d:AV) (l:List THolding) (id h:Int) (H:Heap) (hc:H[c]?=some (some ⟨183,4,[[sx,hx,n,d]]⟩)) (hsl:SlIs H hx 3 (encL THolding.cells l)) (hl:l.length≤100000) (ho:l.Pairwise hR):
  MFun Tryz.prog row src 231 [.ref c 0 0,iv id,iv h] H (fun r H'=>r=iv (heldH l id h)∧Kept [] H H'):=by
 obtain⟨v,hv⟩:∃v,v=heldH l id h:=⟨_,rfl⟩
 rw[←hv]
 obtain⟨C,hC⟩:∃C:AV→Heap→Prop,C=fun r H'=>r=iv v∧Kept [] H H':=⟨_,rfl⟩
 rw[←hC]
 have ex:∃r H',C r H':=⟨_,H,by rw[hC];exact⟨rfl,kept_refl _ _⟩⟩
 obtain⟨k,hk,hm,hcase⟩:=place_setK (hOk id h) ho
 have pm:=fun {row src:Option Nat}=>gplace_m (row:=row) (src:=src) c sx hx n d l id h k H hc hsl hl hk hm
 rcases hcase with⟨x,e1,e2,e3,_⟩|⟨e1,e3,_⟩
 ·have hb:(l[k]?).any (hIs id h)=true:=by rw[e1];exact e2
  have ev:v=x.Amount:=by rw[hv];exact e3
  have lk:=(gsI e1)
  rw[hb]at pm
  refine mfun_intro Tryz.func231 rfl (by simp[Tryz.f231]) (by kernel_rfl) (ex) ?_
  intro E hP hr hs hN
  simp -dsimp -implicitDefEqProofs [-getElem?_pos,go_sem,hP]
  refine callB_m (by rw[hr,hs];exact pm) hP en_282 ?_
  rintro r H' ⟨rfl,kp⟩
  have c1:=kp _ _ (by simp) hc
  have s1:=hsl.kept kp
  have lc1:=(gsI c1)
  rcases s1 with rfl|⟨rfl,e⟩|⟨hid,ty,rfl,hh⟩
  ·simp -dsimp -implicitDefEqProofs [-getElem?_pos,go_sem,hP,c1,lc1,e1,cHol]
   rw[hC]
   exact⟨by rw[ev],kp⟩
  ·exfalso
   cases l with
   |nil=>simp at lk
   |cons _ _=>simp[encL]at e
  ·have lh:=(gsI hh)
   simp -dsimp -implicitDefEqProofs [-getElem?_pos,go_sem,hP,c1,lc1,hh,lh,e1,cHol,encL_len,lk]
   rw[hC]
   exact⟨by rw[ev],kp⟩
 ·have hb:(l[k]?).any (hIs id h)=false:=by
   cases e:l[k]? with
   |none=>rfl
   |some x=>simpa using e1 x e
  have ev:v=0:=by rw[hv];exact e3
  rw[hb]at pm
  refine mfun_intro Tryz.func231 rfl (by simp[Tryz.f231]) (by kernel_rfl) (ex) ?_
  intro E hP hr hs hN
  simp -dsimp -implicitDefEqProofs [-getElem?_pos,go_sem,hP]
  refine callB_m (by rw[hr,hs];exact pm) hP en_282 ?_
  rintro r H' ⟨rfl,kp⟩
  simp -dsimp -implicitDefEqProofs [-getElem?_pos,go_sem,hP]
  rw[hC]
  exact⟨by rw[ev],kp⟩
theorem outH_take {l:List THolding} {N:Nat} (h:HoldOk l N) (id:Int) (k:Nat):0≤outH (l.take k) id∧outH (l.take k) id≤1000000000000:=by
 have h1:=sumQ_le (secQ id) hAm (l.take k) fun x hx=>h.pos x (List.mem_of_mem_take hx)
 have h2:=sumQ_le (secQ id) hAm (l.drop k) fun x hx=>h.pos x (List.mem_of_mem_drop hx)
 have h3:=sumQ_append (secQ id) hAm (l.take k) (l.drop k)
 rw[List.take_append_drop]at h3
 have h4:=h.tot id
 unfold outH at*
 omega
theorem outH_succ {l:List THolding} {k:Nat} {x:THolding} (hx:l[k]?=some x) (id:Int):outH (l.take (k+1)) id=outH (l.take k) id+if x.Security=id then x.Amount else 0:=by
 unfold outH
 rw[List.take_add_one,hx,sumQ_append]
 simp only[Option.toList_some,sumQ_cons,sumQ_nil,secQ,decide_eq_true_eq,hAm]
 omega
theorem outst_m {row src:Option Nat} (c:Nat) (sx hx n d:AV) (l:List THolding) (N:Nat) (id:Int) (H:Heap) (hc:H[c]?=some (some ⟨183,4,[[sx,hx,n,d]]⟩)) (hsl:SlIs H hx 3 (encL THolding.cells l)) (hl:l.length≤100000) (ho:HoldOk l N):
  MFun Tryz.prog row src 232 [.ref c 0 0,iv id] H (fun r H'=>r=iv (outH l id)∧Kept [] H H'):=by
 obtain⟨v,hv⟩:∃v,v=outH l id:=⟨_,rfl⟩
 rw[←hv]
 obtain⟨C,hC⟩:∃C:AV→Heap→Prop,C=fun r H'=>r=iv v∧Kept [] H H':=⟨_,rfl⟩
 rw[←hC]
 have ex:∃r H',C r H':=⟨_,H,by rw[hC];exact⟨rfl,kept_refl _ _⟩⟩
 have lc:=(gsI hc)
 have hlen:=hsl.len
 rw[encL_len]at hlen
 refine mfun_intro Tryz.func232 rfl (by simp[Tryz.f232]) (by kernel_rfl) (ex) ?_
 intro E hP hr hs hN
 simp -dsimp -implicitDefEqProofs [-getElem?_pos,go_sem,hP,hc,lc,hlen]
 obtain⟨I,hI⟩:∃I:Nat→St→Prop,I=fun m s=>∃(k:Nat) (w:Int),k≤l.length∧m=l.length-k∧w=outH (l.take k) id∧s.t 0= .ref c 0 0∧s.t 1=iv id∧s.t 5=iv w∧s.t 11=hx∧s.t 12=iv l.length∧s.t 13=iv k∧Kept [] H s.H:=⟨_,rfl⟩
 refine aloop0 I (l.length) (by rw[hN];rfl) ?_ ?_
 ·rw[hI]
  exact⟨0,0,by omega,by omega,rfl,by simp -dsimp[-getElem?_pos,go_sem],by simp -dsimp[-getElem?_pos,go_sem],by simp -dsimp[-getElem?_pos,go_sem],by simp -dsimp[-getElem?_pos,go_sem],by simp -dsimp[-getElem?_pos,go_sem],by simp -dsimp[-getElem?_pos,go_sem],by simp -dsimp[-getElem?_pos,go_sem];exact kept_refl _ _⟩
 intro m s hs'
 rw[hI]at hs'
 obtain⟨k,w,hk,hm,hw,t0,t1,t5,t11,t12,t13,kp⟩:=hs'
 simp -dsimp -implicitDefEqProofs [-getElem?_pos,go_sem,hP,t12,t13]
 refine condP (fun hq=>?_) (fun hq=>?_)
 ·have hk:k<l.length:=by simpa using hq
  obtain⟨a,ha⟩:∃a,l[k]?=some a:=⟨_,List.getElem?_eq_getElem hk⟩
  have wk:=wrap_in ((k:Int)+1) (by omega)
  obtain⟨ad,h1,h2⟩:=(hsl.kept kp).idx (P:=Tryz.prog) (t:=42) (e:=173) el_42 (by rw[sz_173]) kn_173 k (by rw[encL_len];exact hk)
  have h2':addrCells s.H ad=some [iv a.Security,iv a.Holder,iv a.Amount]:=by
   rw[h2]
   have:=encL_get THolding.cells l k
   rw[ha,List.getElem?_eq_getElem (by rw[encL_len];exact hk)]at this
   exact this
  have hs2:=outH_succ ha id
  have hb:=outH_take ho id (k+1)
  rw[←hw]at hs2
  by_cases e:a.Security=id
  ·rw[if_pos e]at hs2
   have wa:=wrap_in (w+a.Amount) (by omega)
   simp -dsimp -implicitDefEqProofs [-getElem?_pos,go_sem,hP,t13,t11,h1,h2',t1,t5,e,wa,wk]
   refine⟨l.length-(k+1),by omega,?_⟩
   rw[hI]
   exact⟨k+1,_,by omega,rfl,hs2.symm,by simp -dsimp[-getElem?_pos,go_sem,t0],by simp -dsimp[-getElem?_pos,go_sem,t1],by simp -dsimp[-getElem?_pos,go_sem],by simp -dsimp[-getElem?_pos,go_sem,t11],by simp -dsimp[-getElem?_pos,go_sem,t12],by simp -dsimp[-getElem?_pos,go_sem],by simp -dsimp[-getElem?_pos,go_sem];exact kp.trans (kept_app _ _ _)⟩
  ·rw[if_neg e,Int.add_zero]at hs2
   simp -dsimp -implicitDefEqProofs [-getElem?_pos,go_sem,hP,t13,t11,h1,h2',t1,t5,e,wk]
   refine⟨l.length-(k+1),by omega,?_⟩
   rw[hI]
   exact⟨k+1,_,by omega,rfl,hs2.symm,by simp -dsimp[-getElem?_pos,go_sem,t0],by simp -dsimp[-getElem?_pos,go_sem,t1],by simp -dsimp[-getElem?_pos,go_sem,t5],by simp -dsimp[-getElem?_pos,go_sem,t11],by simp -dsimp[-getElem?_pos,go_sem,t12],by simp -dsimp[-getElem?_pos,go_sem],by simp -dsimp[-getElem?_pos,go_sem];exact kp.trans (kept_app _ _ _)⟩
 ·have hk:k=l.length:=by simp at hq;omega
  subst hk
  rw[List.take_length,←hv]at hw
  simp -dsimp -implicitDefEqProofs [-getElem?_pos,go_sem,hP,t5]
  rw[hC]
  exact⟨by rw[hw],kp⟩
open Go.PA
open Go.RowKit
structure Clk (H:Heap) (c hid:Nat) (sx:AV) (l:List THolding) (n d:Int):Prop where
 oc:H[c]?=some (some ⟨183,4,[[sx,.sref hid 0 l.length,iv n,iv d]]⟩)
 oh:H[hid]?=some (some ⟨173,3,encL THolding.cells l⟩)
 ne:c≠hid
theorem Clk.kept {H H':Heap} {c hid:Nat} {sx:AV} {l:List THolding} {n d:Int} (h:Clk H c hid sx l n d) (k:Kept [] H H'):Clk H' c hid sx l n d:=⟨k _ _ (by simp) h.oc,k _ _ (by simp) h.oh,h.ne⟩
theorem Clk.sl {H:Heap} {c hid:Nat} {sx:AV} {l:List THolding} {n d:Int} (h:Clk H c hid sx l n d):SlIs H (.sref hid 0 l.length) 3 (encL THolding.cells l):= .inr (.inr ⟨hid,_,by rw[encL_len],h.oh⟩)
theorem encL_setR {α:Type} (enc:α→List AV):∀(l:List α) (k:Nat) (x:α),(encL enc l).set k (enc x)=encL enc (l.set k x)
 |[],_,_=>rfl
 |_::_,0,_=>rfl
 |y::l,k+1,x=>by
  have:=encL_setR enc l k x
  simp only[encL,List.map_cons,List.set_cons_succ]at*
  rw[this]
def Clk2 (H:Heap) (c hid:Nat) (sx:AV) (l:List THolding) (n d:Int) (H':Heap):Prop:=∃hid',Clk H' c hid' sx l n d∧(∀(x:Nat) (o:AObj),x≠hid→H[x]?=some (some o)→x≠hid')∧Kept [c,hid] H H'
set_option maxHeartbeats 4000000 in
theorem cadd_m {row src:Option Nat} (c hid:Nat) (sx:AV) (n d:Int) (l:List THolding) (id h am:Int) (H:Heap) (hk:Clk H c hid sx l n d) (hsx:sx.cellish=true) (hl:l.length≤10000) (ho:l.Pairwise hR) (hb:∀x,x∈l→0<x.Amount∧x.Amount≤1000000000000) (ham: -1000000000000≤am∧am≤1000000000000) (ha0:am≠0):
  MFun Tryz.prog row src 233 [.ref c 0 0,iv id,iv h,iv am] H (fun _ H'=>Clk2 H c hid sx (addH l id h am) n d H'):=by
 by_cases hz:h=0
 ·have ea:addH l id h am=l:=by rw[addH,if_pos hz]
  rw[ea]
  refine mfun_intro Tryz.func233 rfl (by simp[Tryz.f233]) (by kernel_rfl) (⟨.tup [],H,hid,hk,fun x o hx _=>hx,kept_refl _ _⟩) ?_
  intro E hP hr hs hN
  simp -dsimp -implicitDefEqProofs [-getElem?_pos,go_sem,hP,hz]
  exact⟨hid,hk,fun x o hx _=>hx,kept_refl _ _⟩
 have ea:addH l id h am=setH l id h am:=by rw[addH,if_neg hz]
 rw[ea]
 obtain⟨l',hl'⟩:∃l',l'=setH l id h am:=⟨_,rfl⟩
 rw[←hl']
 obtain⟨C,hC⟩:∃C:AV→Heap→Prop,C=fun _ H'=>Clk2 H c hid sx l' n d H':=⟨_,rfl⟩
 rw[←hC]
 have lc:=(List.getElem?_eq_some_iff.1 hk.oc).1
 have lh:=(List.getElem?_eq_some_iff.1 hk.oh).1
 have ne:=hk.ne
 have ex:∃r H',C r H':=by
  rw[hC]
  refine⟨.tup [],(H.set c (some ⟨183,4,[[sx,.sref hid 0 l'.length,iv n,iv d]]⟩)).set hid (some ⟨173,3,encL THolding.cells l'⟩),hid,⟨?_,?_,ne⟩,fun x o hx _=>hx,?_⟩
  ·rw[List.getElem?_set_ne (fun e=>ne e.symm)]
   simp[lc]
  ·simp[lh]
  ·exact kept_set _ (by simp) (kept_set _ (by simp) (kept_refl _ _))
 obtain⟨k,hkl,hm,hcase⟩:=place_setK (hOk id h) ho
 have pm:=fun {row src:Option Nat}=>gplace_m (row:=row) (src:=src) c sx _ _ _ l id h k H hk.oc hk.sl (by omega) hkl hm
 have wk:=wrap_in ((k:Int)+1) (by omega)
 rcases hcase with⟨x,e1,e2,e3,e4⟩|⟨e1,e3,e4⟩
 ·have hbt:(l[k]?).any (hIs id h)=true:=by rw[e1];exact e2
  have lk:=(gsI e1)
  have bx:=hb x (List.mem_of_getElem? e1)
  have wa:=wrap_in (x.Amount+am) (by omega)
  have e4:l'=if x.Amount+am=0 then l.take k++l.drop (k+1)else l.take k++hMk id h (x.Amount+am)::l.drop (k+1):=by rw[hl'];exact e4 am
  have hx2:=hIs_iff.1 e2
  rw[hbt]at pm
  refine mfun_intro Tryz.func233 rfl (by simp[Tryz.f233]) (by kernel_rfl) (ex) ?_
  intro E hP hr hs hN
  simp -dsimp -implicitDefEqProofs [-getElem?_pos,go_sem,hP,hz]
  refine callB_m (by rw[hr,hs];exact pm) hP en_282 ?_
  rintro r H1 ⟨rfl,kp⟩
  have k1:=hk.kept kp
  have c1:=k1.oc
  have h1:=k1.oh
  have lc1:=(gsI c1)
  have lh1:=(gsI h1)
  obtain⟨y,hy⟩:∃y:THolding,y=⟨x.Security,x.Holder,x.Amount+am⟩:=⟨_,rfl⟩
  have ey:(encL THolding.cells l).set k [iv x.Security,iv x.Holder,iv (x.Amount+am)]=encL THolding.cells (l.set k y):=by rw[←encL_setR,hy,cHol]
  have lk2:(l.set k y)[k]?=some y:=by simp[lk]
  have ne':¬hid=c:=fun e=>ne e.symm
  simp -dsimp -implicitDefEqProofs [-getElem?_pos,go_sem,hP,c1,lc1,h1,lh1,e1,cHol,encL_len,lk,wa,ey,ne,ne']
  have es:l.set k y=l.take k++y::l.drop (k+1):=List.set_eq_take_append_cons_drop.trans (if_pos lk)
  obtain⟨H2,hH2⟩:∃H2,H2=H1.set hid (some ⟨173,3,encL THolding.cells (l.set k y)⟩):=⟨_,rfl⟩
  have k12:Kept [c,hid] H1 H2:=by rw[hH2];exact kept_set _ (by simp) (kept_refl _ _)
  have c2:H2[c]?=some (some ⟨183,4,[[sx,.sref hid 0 l.length,iv n,iv d]]⟩):=by rw[hH2,List.getElem?_set_ne ne'];exact c1
  have h2:H2[hid]?=some (some ⟨173,3,encL THolding.cells (l.set k y)⟩):=by rw[hH2];simp[lh1]
  have hye:y.Amount=x.Amount+am:=by rw[hy]
  rw[←hH2]
  refine condP (fun hq=>?_) (fun hq=>?_)
  ·have hq:y.Amount=0:=by simpa using hq
   have el:l'=l.take k++l.drop (k+1):=by rw[e4,if_pos (by omega)]
   have dm:=fun {row src:Option Nat}=>deleteC_hol (row:=row) (src:=src) (encL THolding.cells (l.set k y)) k hid H2 (by rw[encL_len,List.length_set];exact lk) (by rw[encL_len,List.length_set];omega) h2
   rw[encL_len,List.length_set]at dm
   simp -dsimp -implicitDefEqProofs [-getElem?_pos,go_sem,hP,c2,wk]
   refine callB_m (by rw[hr,hs];exact dm) hP en_284 ?_
   rintro r H3 ⟨jd,rfl,hj,h3,kp3⟩
   have c3:=kp3 _ _ (by simpa using ne) c2
   have lc3:=(gsI c3)
   have nj:c≠jd:=fun e=>by
    have:=hj c _ ne c2
    omega
   simp -dsimp -implicitDefEqProofs [-getElem?_pos,go_sem,hP,c3,lc3,hsx]
   rw[hC]
   refine⟨jd,⟨?_,?_,nj⟩,fun z o hz he=>?_,?_⟩
   ·have:l'.length=l.length-1:=by rw[el];simp;omega
    rw[this]
    simp[lc3]
   ·rw[List.getElem?_set_ne nj,h3,es,el]
    rw[encL_takeE,encL_dropE,encL_appE,←es,List.take_set_of_le (Nat.le_refl _),List.drop_set_of_lt (by omega)]
   ·by_cases hzc:z=c
    ·rw[hzc];exact nj
    ·have:=hj z o hz (k12 z o (by simp[hzc,hz]) (kp z o (by simp) he))
     omega
   ·exact (((kp.mono (by simp)).trans k12).trans (kp3.mono (by simp))).trans (kept_set _ (by simp) (kept_refl _ _))
  ·have hq:¬y.Amount=0:=by simpa using hq
   have el:l'=l.set k y:=by rw[e4,if_neg (by omega),es,hy,hx2.1,hx2.2];rfl
   simp -dsimp -implicitDefEqProofs [-getElem?_pos,go_sem,hP]
   rw[hC,el]
   exact⟨hid,⟨by rw[List.length_set];exact c2,h2,ne⟩,fun z o hz _=>hz,(kp.mono (by simp)).trans k12⟩
 ·have hbt:(l[k]?).any (hIs id h)=false:=by
   cases e:l[k]? with
   |none=>rfl
   |some x=>simpa using e1 x e
  have e4:l'=l.take k++hMk id h am::l.drop k:=by rw[hl',setH,e4 am,if_neg ha0]
  rw[hbt]at pm
  refine mfun_intro Tryz.func233 rfl (by simp[Tryz.f233]) (by kernel_rfl) (ex) ?_
  intro E hP hr hs hN
  simp -dsimp -implicitDefEqProofs [-getElem?_pos,go_sem,hP,hz]
  refine callB_m (by rw[hr,hs];exact pm) hP en_282 ?_
  rintro r H1 ⟨rfl,kp⟩
  have k1:=hk.kept kp
  have c1:=k1.oc
  have h1:=k1.oh
  have lc1:=(gsI c1)
  have lh1:=(gsI h1)
  have im:=fun {row src:Option Nat}=>insert_m_hol (row:=row) (src:=src) (encL THolding.cells l) [iv id,iv h,iv 0] k hid H1 (by rw[encL_len];exact hkl) (by rw[encL_len];omega) h1 (by simp)
  rw[encL_len]at im
  simp -dsimp -implicitDefEqProofs [-getElem?_pos,go_sem,hP,c1,lc1]
  refine callB_m (by rw[hr,hs];exact im) hP en_283 ?_
  rintro r H2 ⟨jd,rfl,hj,h2,kp2⟩
  have c2:=kp2 _ _ (by simpa using ne) c1
  have lc2:=(gsI c2)
  have lh2:=(gsI h2)
  have nj:c≠jd:=by rcases hj with rfl|hj<;>omega
  have nj':¬jd=c:=fun e=>nj e.symm
  obtain⟨y0,hy0⟩:∃y0:THolding,y0=⟨id,h,0⟩:=⟨_,rfl⟩
  obtain⟨y,hy⟩:∃y:THolding,y=⟨id,h,am⟩:=⟨_,rfl⟩
  obtain⟨l1,hl1⟩:∃l1,l1=l.take k++y0::l.drop k:=⟨_,rfl⟩
  have h2':(encL THolding.cells l).take k++[iv id,iv h,iv 0]::(encL THolding.cells l).drop k=encL THolding.cells l1:=by
   rw[encL_takeE,encL_dropE,hl1,←encL_appE,hy0]
   rfl
  rw[h2']at h2
  have ll1:l1.length=l.length+1:=by rw[hl1];simp;omega
  have e1k:l1[k]?=some y0:=by rw[hl1,List.getElem?_append_right (by simp;omega)];simp[Nat.min_eq_left hkl]
  have lk:k<l1.length:=by omega
  have lkl:k<l.length+1:=by omega
  have lki:(k:Int)<(l.length:Int)+1:=by omega
  have lk2:(l1.set k y)[k]?=some y:=by simp[lk]
  have wa:=wrap_in (0+am) (by omega)
  have wa':=wrap_in am (by omega)
  have es1:l1.set k y=l':=by
   rw[e4,hl1,List.set_append_right _ _ (by simp;omega)]
   simp[Nat.min_eq_left hkl,hy]
   rfl
  have ey:(encL THolding.cells l1).set k [iv id,iv h,iv am]=encL THolding.cells (l1.set k y):=by rw[←encL_setR,hy,cHol]
  have c0:y0.cells=[iv id,iv h,iv 0]:=by rw[hy0];rfl
  have cy:y.cells=[iv id,iv h,iv am]:=by rw[hy];rfl
  have hya:¬y.Amount=0:=by rw[hy];exact ha0
  simp -dsimp -implicitDefEqProofs [-getElem?_pos,go_sem,hP,c2,lc2,hsx,h2,lh2,e1k,c0,encL_len,lk,lkl,lki,ll1,wa,wa',ey,nj,nj',lk2,cy,ha0]
  obtain⟨H3,hH3⟩:∃H3,H3=(H2.set c (some ⟨183,4,[[sx,.sref jd 0 (l.length+1),iv n,iv d]]⟩)).set jd (some ⟨173,3,encL THolding.cells (l1.set k y)⟩):=⟨_,rfl⟩
  rw[←hH3]
  rw[hC,←es1,hH3]
  have lset:(l1.set k y).length=l.length+1:=by simp[ll1]
  refine⟨jd,⟨?_,?_,nj⟩,fun z o hz he=>?_,?_⟩
  ·rw[lset]
   simp[nj',lc2]
  ·simp[lh2]
  ·rcases hj with rfl|hj
   ·exact hz
   ·have:=(List.getElem?_eq_some_iff.1 (kp z o (by simp) he)).1
    omega
  ·intro z o hz he
   have h2z:=kp2 z o (by simp at hz;simp[hz]) (kp z o (by simp) he)
   have n1:jd≠z:=fun e=>by
    rcases hj with rfl|hj
    ·simp[e]at hz
    ·have:=(List.getElem?_eq_some_iff.1 (kp z o (by simp) he)).1
     omega
   have n2:c≠z:=fun e=>by simp[e]at hz
   rw[List.getElem?_set_ne n1,List.getElem?_set_ne n2]
   exact h2z
open Go.PA
open Go.RowKit
theorem index_pf_sec (l:List TSecurity) (g:FuncId) (caps:List AV) (p:TSecurity→Bool) (hl:l.length≤1000000) (hen:enterable Tryz.prog g=true) (hcap:∀a,a∈caps→Imm a)
  (hg:∀a,a∈l→PFun Tryz.prog none none g (.agg (TSecurity.cells a)::caps) (·=bv (p a))):
  PFun Tryz.prog none none 279 [.list 7 (encL TSecurity.cells l),.fn g caps] (·=iv (idxI p l)):=by
 refine pfun_intro Tryz.func279 rfl (by simp[Tryz.f279]) (by kernel_rfl) ?_
 intro E hP hr hs hW hN
 simp -dsimp -implicitDefEqProofs [-getElem?_pos,go_sem,hP]
 obtain⟨I,hI⟩:∃I:Nat→St→Prop,I=fun m s=>∃k:Nat,k≤l.length∧m=l.length-k∧idxI p l=idxFrom p k (l.drop k)∧s.t 0= .list 7 (encL TSecurity.cells l)∧s.t 1= .fn g caps∧s.t 7=iv l.length∧s.t 8=iv k:=⟨_,rfl⟩
 refine aloop0 I (l.length) (by rw[hN];rfl) ?_ ?_
 ·rw[hI]
  exact⟨0,by omega,by omega,by simp[idxI],by simp -dsimp[-getElem?_pos,go_sem],by simp -dsimp[-getElem?_pos,go_sem],by simp -dsimp[-getElem?_pos,go_sem],by simp -dsimp[-getElem?_pos,go_sem]⟩
 intro m s hs'
 rw[hI]at hs'
 obtain⟨k,hk,hm,hi,t0,t1,t7,t8⟩:=hs'
 simp -dsimp -implicitDefEqProofs [-getElem?_pos,go_sem,hP,t7,t8]
 refine condP (fun h=>?_) (fun h=>?_)
 ·have hk:k<l.length:=by simpa using h
  obtain⟨a,ha⟩:∃a,l[k]?=some a:=⟨_,List.getElem?_eq_getElem hk⟩
  have wk:=wrap_in ((k:Int)+1) (by omega)
  have hz:(TSecurity.cells a).take 7=TSecurity.cells a:=List.take_of_length_le (by rw[TSecurity.len];omega)
  have hd:l.drop k=a::l.drop (k+1):=by
   rw[List.getElem?_eq_getElem hk]at ha
   rw[List.drop_eq_getElem_cons hk,Option.some.inj ha]
  simp -dsimp -implicitDefEqProofs [-getElem?_pos,go_sem,hP,t8,t1,t0,ha,TSecurity.len,hz]
  refine callB_is ((hg a (List.mem_of_getElem? ha)).lift _ _) hP hen (fun x hx=>?_) .sc ?_
  ·rcases List.mem_cons.1 hx with rfl|hx
   ·exact imm_agg.2 (TSecurity.imm a)
   ·exact hcap x hx
  rw[hd]at hi
  simp only[idxFrom]at hi
  simp -dsimp -implicitDefEqProofs [-getElem?_pos,go_sem,hP]
  refine condP (fun hp=>?_) (fun hp=>?_)
  ·rw[if_pos hp]at hi
   simp -dsimp -implicitDefEqProofs [-getElem?_pos,go_sem,hP]
   exact hi.symm
  ·rw[hp,if_neg (by simp)]at hi
   simp -dsimp -implicitDefEqProofs [-getElem?_pos,go_sem,hP,t8,wk]
   refine⟨l.length-(k+1),by omega,?_⟩
   rw[hI]
   exact⟨k+1,by omega,rfl,hi,by simp -dsimp[-getElem?_pos,go_sem,t0],by simp -dsimp[-getElem?_pos,go_sem,t1],by simp -dsimp[-getElem?_pos,go_sem,t7],by simp -dsimp[-getElem?_pos,go_sem]⟩
 ·have hk:k=l.length:=by simp at h;omega
  subst hk
  rw[List.drop_length]at hi
  simp -dsimp -implicitDefEqProofs [-getElem?_pos,go_sem,hP]
  exact hi.symm
theorem gfind1_pf (x:TSecurity) (id:Int):PFun Tryz.prog none none 280 [.agg x.cells,.iref [iv id]] (·=bv (decide (x.ID=id))):=by
 refine pfun_intro Tryz.func280 rfl (by simp[Tryz.f280]) (by kernel_rfl) ?_
 intro E hP hr hs hW hN
 simp -dsimp -implicitDefEqProofs [-getElem?_pos,go_sem,hP,cSec]
def zSec:TSecurity:=⟨0,0,0,0,0,0,false⟩
def findR (l:List TSecurity) (id:Int):TSecurity×Bool:=match findS l id with
 |some s=>(s,true)
 |none=>(zSec,false)
theorem find_idx {α:Type} (p:α→Bool) (l:List α):(idxI p l= -1∧l.find? p=none)∨∃(i:Nat) (a:α),l[i]?=some a∧idxI p l=(i:Int)∧l.find? p=some a:=by
 rcases idxI_spec p l with⟨h1,h2⟩|⟨i,a,h1,h2,h3,h4⟩
 ·exact .inl ⟨h1,List.find?_eq_none.2 fun x hx=>by simp[h2 x hx]⟩
 ·refine .inr ⟨i,a,h1,h3,?_⟩
  rw[List.find?_eq_some_iff_getElem]
  have hi:=(gsI h1)
  refine⟨h2,i,hi,(List.getElem?_eq_some_iff.1 h1).2,fun j hj=>?_⟩
  rw[h4 j l[j] hj (List.getElem?_eq_getElem (by omega))]
  rfl
theorem gfind_pf (l:List TSecurity) (id:Int) (hl:l.length≤100000):PFun Tryz.prog none none 229 [secsL l,iv id] (·= .tup [.agg (findR l id).1.cells,bv (findR l id).2]):=by
 have il:=imm_secs l
 refine pfun_intro Tryz.func229 rfl (by simp[Tryz.f229]) (by kernel_rfl) ?_
 intro E hP hr hs hW hN
 simp -dsimp -implicitDefEqProofs [-getElem?_pos,go_sem,hP]
 refine callB_pure (index_pf_sec l 280 [.iref [iv id]] (fun x=>decide (x.ID=id)) (by omega) en_280 (by simp[imm_iref,imm_sc]) fun x _=>gfind1_pf x id) hP en_279 (args_imm il (args_fnc (cs:=[.ref 0 0 0]) (by simp -dsimp[-getElem?_pos,go_sem,viewR_ref]) (by simp[imm_iref,imm_sc]) (args_nil.2 trivial))) .sc ?_
 rcases find_idx (fun x:TSecurity=>decide (x.ID=id)) l with⟨h1,h2⟩|⟨i,a,h1,h2,h3⟩
 ·have e:findR l id=(zSec,false):=by rw[findR,findS,h2]
  simp -dsimp -implicitDefEqProofs [-getElem?_pos,go_sem,hP,h1]
  exact done_imm (imm_pair (show Imm (.agg zSec.cells)from imm_sec _) .sc) (by rw[e];rfl)
 ·have e:findR l id=(a,true):=by rw[findR,findS,h3]
  have d:decide ((i:Int)<0)=false:=decide_eq_false (by omega)
  have li:=(gsI h1)
  simp -dsimp -implicitDefEqProofs [-getElem?_pos,go_sem,hP,h2,d,h1,cSec,li]
  exact done_imm (imm_pair (by rw[←cSec];exact imm_sec _) .sc) (by rw[e];rfl)
theorem gstrange_pf (m:TMove):PFun Tryz.prog none none 230 [.agg m.cells] (·=bv (strangeB m)):=by
 refine pfun_intro Tryz.func230 rfl (by simp[Tryz.f230]) (by kernel_rfl) ?_
 intro E hP hr hs hW hN
 simp -dsimp -implicitDefEqProofs [-getElem?_pos,go_sem,hP,cMov]
 refine adrawB (fun _=>true) [] hP (by kernel_rfl) (by kernel_rfl) ?_
 simp -dsimp -implicitDefEqProofs [-getElem?_pos,go_sem,hP]
 refine callB_pure (gholder_pf m.From) hP en_281 (args_same (by simp -dsimp[-getElem?_pos,go_sem])) .sc ?_
 simp -dsimp -implicitDefEqProofs [-getElem?_pos,go_sem,hP]
 refine callB_pure (gholder_pf m.To) hP en_281 (args_same (by simp -dsimp[-getElem?_pos,go_sem])) .sc ?_
 by_cases k1:m.Kind=1
 ·by_cases f:m.From=0<;>cases h:holderB m.To<;>simp -dsimp -implicitDefEqProofs [-getElem?_pos,go_sem,hP,k1,f,h,strangeB]
 ·by_cases k2:m.Kind=2
  ·cases h1:holderB m.From<;>cases h2:holderB m.To<;>by_cases f:m.From=m.To<;>simp -dsimp -implicitDefEqProofs [-getElem?_pos,go_sem,hP,k1,k2,f,h1,h2,strangeB]
  ·by_cases f:m.To=0<;>cases h:holderB m.From<;>simp -dsimp -implicitDefEqProofs [-getElem?_pos,go_sem,hP,k1,k2,f,h,strangeB]
open Go.PA
open Go.RowKit
def DoneC (secs:List TSecurity) (l:List THolding) (n d:Int) (m:TMove) (H:Heap) (c hid:Nat) (r:AV) (H':Heap):Prop:=
 r=iv (moveE secs l d m)∧(moveE secs l d m≠0→Kept [] H H')∧(moveE secs l d m=0→∃hid',Clk H' c hid' (secsL secs) (goH l m) (n+1) m.Day∧(∀(x:Nat) (o:AObj),x≠hid→H[x]?=some (some o)→x≠hid')∧Kept [c,hid] H H')
theorem clk_ex {H:Heap} {c hid:Nat} {sx:AV} {l:List THolding} {n d:Int} (hk:Clk H c hid sx l n d) (l':List THolding) (n' d':Int):∃H',Clk H' c hid sx l' n' d'∧Kept [c,hid] H H':=by
 have lc:=(List.getElem?_eq_some_iff.1 hk.oc).1
 have lh:=(List.getElem?_eq_some_iff.1 hk.oh).1
 have ne:=hk.ne
 refine⟨(H.set c (some ⟨183,4,[[sx,.sref hid 0 l'.length,iv n',iv d']]⟩)).set hid (some ⟨173,3,encL THolding.cells l'⟩),⟨?_,?_,ne⟩,?_⟩
 ·rw[List.getElem?_set_ne (fun e=>ne e.symm)]
  simp[lc]
 ·simp[lh]
 ·exact kept_set _ (by simp) (kept_set _ (by simp) (kept_refl _ _))
theorem agree_p {H H':Heap} {p:Nat} {o:AObj} (k:Kept [] H H') (h:H[p]?=some (some o)):Agree (fun i=>decide (i=p)) H H':=fun i hi=>by
 have:=of_decide_eq_true hi
 subst this
 rw[h,k _ _ (by simp) h]
theorem agree_ps {H:Heap} {p c:Nat} {o:Option AObj} (h:¬p=c):Agree (fun i=>decide (i=p)) H (H.set c o):=fun i hi=>by
 have:=of_decide_eq_true hi
 subst this
 rw[List.getElem?_set_ne (fun e=>h e.symm)]
theorem agree_ps2 {H:Heap} {p c:Nat} {o o':Option AObj} (h:¬p=c):Agree (fun i=>decide (i=p)) (H.set c o) (H.set c o'):=fun i hi=>by
 have:=of_decide_eq_true hi
 subst this
 rw[List.getElem?_set_ne (fun e=>h e.symm),List.getElem?_set_ne (fun e=>h e.symm)]
theorem clk2_pre {H0 H H':Heap} {c hid:Nat} {sx:AV} {l l':List THolding} {n d n' d':Int} (k:Kept [] H0 H) (hk:Clk H0 c hid sx l n d) (h:Clk2 H c hid sx l' n' d' H'):Clk2 H0 c hid sx l' n' d' H':=by
 obtain⟨hid',h1,h2,h3⟩:=h
 exact⟨hid',h1,fun x o hx he=>h2 x o hx (k x o (by simp) he),(k.mono (by simp)).trans h3⟩
theorem clk2_comp {H H' H'':Heap} {c hid:Nat} {sx:AV} {l1 l2:List THolding} {n d:Int} (h:Clk2 H c hid sx l1 n d H') (hid1:Nat) (hk:Clk H' c hid1 sx l1 n d) (hp:∀(x:Nat) (o:AObj),x≠hid→H[x]?=some (some o)→x≠hid1) (h2:Clk2 H' c hid1 sx l2 n d H''):Clk2 H c hid sx l2 n d H'':=by
 obtain⟨_,_,_,kp⟩:=h
 obtain⟨hid2,g1,g2,g3⟩:=h2
 refine⟨hid2,g1,fun x o hx he=>?_,fun x o hx he=>?_⟩
 ·by_cases hc:x=c
  ·rw[hc];exact g1.ne
  ·exact g2 x o (hp x o hx he) (kp x o (by simp[hc,hx]) he)
 ·have hx':¬x=c∧¬x=hid:=by simpa using hx
  exact g3 x o (by simp[hx'.1,hp x o hx'.2 he]) (kp x o hx he)
theorem clk2_end {secs:List TSecurity} {l:List THolding} {n d:Int} {m:TMove} {H H5:Heap} {c hid hid5:Nat} (cl:Clk2 H c hid (secsL secs) (goH l m) n d H5) (hk:Clk H5 c hid5 (secsL secs) (goH l m) n d) (e0:moveE secs l d m=0):
  DoneC secs l n d m H c hid (iv 0) (H5.set c (some ⟨183,4,[[secsL secs,.sref hid5 0 (goH l m).length,iv (n+1),iv m.Day]]⟩)):=by
 obtain⟨hid',h1,h2,h3⟩:=cl
 have lc:=(List.getElem?_eq_some_iff.1 h1.oc).1
 have e:hid'=hid5:=by
  have:=h1.oc.symm.trans hk.oc
  simpa using this
 subst e
 refine⟨by rw[e0],fun e=>absurd e0 e,fun _=>⟨hid',⟨by simp[lc],by rw[List.getElem?_set_ne h1.ne];exact h1.oh,h1.ne⟩,h2,h3.trans (kept_set _ (by simp) (kept_refl _ _))⟩⟩
set_option maxHeartbeats 4000000 in
theorem do_m {row src:Option Nat} (c hid:Nat) (secs:List TSecurity) (l:List THolding) (n d:Int) (m:TMove) (N:Nat) (H:Heap) (hk:Clk H c hid (secsL secs) l n d) (hl:l.length≤5000) (hsl:secs.length≤1000) (hso:∀s,s∈secs→secB s=true) (ho:HoldOk l N) (hn:0≤n∧n≤1000000):
  MFun Tryz.prog row src 162 [.ref c 0 0,.agg m.cells] H (DoneC secs l n d m H c hid):=by
 obtain⟨C,hC⟩:∃C:AV→Heap→Prop,C=DoneC secs l n d m H c hid:=⟨_,rfl⟩
 rw[←hC]
 have ex:∃r H',C r H':=by
  rw[hC]
  by_cases h0:moveE secs l d m=0
  ·obtain⟨H',h1,h2⟩:=clk_ex hk (goH l m) (n+1) m.Day
   exact⟨_,H',rfl,fun e=>absurd h0 e,fun _=>⟨hid,h1,fun x o hx _=>hx,h2⟩⟩
  ·exact⟨_,H,rfl,fun _=>kept_refl _ _,fun e=>absurd e h0⟩
 refine mfun_intro Tryz.func162 rfl (by simp[Tryz.f162]) (by kernel_rfl) (ex) ?_
 intro E hP hr hs hN
 simp -dsimp -implicitDefEqProofs [-getElem?_pos,go_sem,hP,cMov]
 obtain⟨H1,hH1⟩:∃H1:Heap,H1=H++[some ⟨70,7,[[iv m.Number,iv m.Day,iv m.Kind,iv m.Security,iv m.From,iv m.To,iv m.Amount]]⟩]:=⟨_,rfl⟩
 have k1:Kept [] H H1:=by rw[hH1];exact kept_app _ _ _
 have a1:H1[H.length]?=some (some ⟨70,7,[[iv m.Number,iv m.Day,iv m.Kind,iv m.Security,iv m.From,iv m.To,iv m.Amount]]⟩):=by rw[hH1];simp
 have c1:=(hk.kept k1).oc
 have lt1:=(gsI a1)
 have lc1:=(gsI c1)
 simp only[←hH1]
 obtain⟨p,hp⟩:∃p,p=H.length:=⟨_,rfl⟩
 rw[←hp]at a1 lt1
 simp only[←hp]
 have hk1:=hk.kept k1
 have npc:¬p=c:=fun e=>by
  have:=(List.getElem?_eq_some_iff.1 hk.oc).1
  omega
 have npc':¬c=p:=fun e=>npc e.symm
 have am:amax [iv d,iv (findR secs m.Security).1.Issued]=some (iv (max d (findR secs m.Security).1.Issued)):=by simp[amax,amaxFrom]
 have gf:=gfind_pf secs m.Security (by omega)
 refine adrawQ (fun i=>decide (i<H1.length)) [11] [6] hP (by kernel_rfl) (by kernel_rfl) ?_
 simp -dsimp -implicitDefEqProofs [-getElem?_pos,go_sem,hP,restr_get,c1,a1,lt1,lc1]
 cases hf:findS secs m.Security with
 |none=>
  have e0:moveE secs l d m=76:=by rw[moveE,hf]
  have ef:findR secs m.Security=(zSec,false):=by rw[findR,hf]
  rw[ef]at gf
  refine callQ_is (gf.lift _ _) hP en_229 (by simp[imm_secs,imm_sc]) (imm_pair (show Imm (.agg zSec.cells)from imm_sec _) .sc) ?_
  simp -dsimp -implicitDefEqProofs [-getElem?_pos,go_sem,hP,cSec]
  refine⟨agree_push (Nat.le_refl _),?_⟩
  by_cases k3:m.Kind=3
  all_goals
   simp -dsimp -implicitDefEqProofs [-getElem?_pos,go_sem,hP,a1,lt1,k3,List.getElem?_append]
   rw[hC]
   exact⟨by rw[e0],fun _=>k1.trans (kept_app _ _ _),fun e=>by rw[e0]at e;cases e⟩
 |some s=>
  have ef:findR secs m.Security=(s,true):=by rw[findR,hf]
  rw[ef]at gf am
  refine callQ_is (gf.lift _ _) hP en_229 (by simp[imm_secs,imm_sc]) (imm_pair (imm_sec _) .sc) ?_
  have so:=secOk (hso s (List.mem_of_find?_eq_some hf))
  simp -dsimp -implicitDefEqProofs [-getElem?_pos,go_sem,hP,cSec]
  refine⟨agree_push (Nat.le_refl _),?_⟩
  obtain⟨H2,hH2⟩:∃H2:Heap,H2=H1++[some ⟨89,7,[[iv s.ID,iv s.Unit,iv s.Issued,iv s.Maturity,iv s.Rate,iv s.Every,bv s.Indexed]]⟩]:=⟨_,rfl⟩
  have k2:Kept [] H H2:=k1.trans (by rw[hH2];exact kept_app _ _ _)
  have k12:Kept [] H1 H2:=by rw[hH2];exact kept_app _ _ _
  obtain⟨q,hq⟩:∃q,q=H1.length:=⟨_,rfl⟩
  have b2:H2[q]?=some (some ⟨89,7,[[iv s.ID,iv s.Unit,iv s.Issued,iv s.Maturity,iv s.Rate,iv s.Every,bv s.Indexed]]⟩):=by rw[hH2,hq];simp
  rw[←hH2,←hq]
  have a2:=k12 _ _ (by simp) a1
  have hk2:=hk1.kept k12
  have c2:=hk2.oc
  have lp2:=(gsI a2)
  have lq2:=(gsI b2)
  have lc2:=(gsI c2)
  dsimp only at am
  have gs:=gstrange_pf m
  rw[cMov]at gs
  have hm:=fun {row src:Option Nat}=>held_m (row:=row) (src:=src) c _ _ _ _ l m.Security m.From H2 c2 hk2.sl (by omega) ho.srt
  have om:=fun {row src:Option Nat}=>outst_m (row:=row) (src:=src) c _ _ _ _ l N m.Security H2 c2 hk2.sl (by omega) ho
  have nph:¬p=hid:=fun e=>by
   have:=(List.getElem?_eq_some_iff.1 hk.oh).1
   omega
  by_cases k3:m.Kind=3
  ·by_cases cday:max d s.Issued≤m.Day∧m.Day≤if m.Kind=3 then 36000 else s.Maturity
   rotate_left
   ·have e0:moveE secs l d m=8:=by rw[moveE,hf];dsimp only;rw[if_pos (by simpa using cday)]
    have hb:bet m.Day (max d s.Issued) (36000)=false:=bet_no (by rw[if_pos k3]at cday;exact cday)
    simp -dsimp -implicitDefEqProofs [-getElem?_pos,go_sem,hP,a2,b2,c2,lp2,lq2,lc2,k3,am]
    refine adrawB (fun _=>true) [] hP (by kernel_rfl) (by kernel_rfl) ?_
    simp -dsimp -implicitDefEqProofs [-getElem?_pos,go_sem,hP,a2,b2,c2,lp2,lq2,lc2,k3,am]
    refine callB_pure (gamong_pf m.Day (max d s.Issued) (36000)) hP en_104 (args_same (by simp -dsimp[-getElem?_pos,go_sem])) .sc ?_
    simp -dsimp -implicitDefEqProofs [-getElem?_pos,go_sem,hP,hb]
    rw[hC]
    exact⟨by rw[e0],fun _=>k2,fun e=>by rw[e0]at e;cases e⟩
   have hb:bet m.Day (max d s.Issued) (36000)=true:=bet_yes (by rw[if_pos k3]at cday;exact cday)
   simp -dsimp -implicitDefEqProofs [-getElem?_pos,go_sem,hP,a2,b2,c2,lp2,lq2,lc2,k3,am]
   refine adrawB (fun _=>true) [] hP (by kernel_rfl) (by kernel_rfl) ?_
   simp -dsimp -implicitDefEqProofs [-getElem?_pos,go_sem,hP,a2,b2,c2,lp2,lq2,lc2,k3,am]
   refine callB_pure (gamong_pf m.Day (max d s.Issued) (36000)) hP en_104 (args_same (by simp -dsimp[-getElem?_pos,go_sem])) .sc ?_
   by_cases a0:m.Amount≤0
   ·have e0:moveE secs l d m=79:=by rw[moveE,hf];dsimp only;rw[if_neg (by simpa using cday),if_pos (.inl a0)]
    have d0:decide (m.Amount≤0)=true:=decide_eq_true a0
    simp -dsimp -implicitDefEqProofs [-getElem?_pos,go_sem,hP,hb,a2,b2,lp2,lq2,d0]
    rw[hC]
    exact⟨by rw[e0],fun _=>k2,fun e=>by rw[e0]at e;cases e⟩
   have d0:decide (m.Amount≤0)=false:=decide_eq_false a0
   simp -dsimp -implicitDefEqProofs [-getElem?_pos,go_sem,hP,hb,a2,b2,lp2,lq2,d0]
   refine callB_pure (gvalid_pf m.Amount) hP en_50 (args_same (by simp -dsimp[-getElem?_pos,go_sem])) .sc ?_
   by_cases a9:1000000000000<m.Amount
   ·have e0:moveE secs l d m=79:=by rw[moveE,hf];dsimp only;rw[if_neg (by simpa using cday),if_pos (.inr (.inl a9))]
    have hv:bet m.Amount 0 1000000000000=false:=bet_no (by omega)
    simp -dsimp -implicitDefEqProofs [-getElem?_pos,go_sem,hP,hv]
    rw[hC]
    exact⟨by rw[e0],fun _=>k2,fun e=>by rw[e0]at e;cases e⟩
   have hv:bet m.Amount 0 1000000000000=true:=bet_yes (by omega)
   have ht:m.Amount.tmod s.Unit=m.Amount%s.Unit:=Int.tmod_eq_emod_of_nonneg (by omega)
   have u0:¬s.Unit=0:=by have:=so.unit;omega
   by_cases am0:m.Amount%s.Unit=0
   rotate_left
   ·have e0:moveE secs l d m=79:=by rw[moveE,hf];dsimp only;rw[if_neg (by simpa using cday),if_pos (.inr (.inr am0))]
    simp -dsimp -implicitDefEqProofs [-getElem?_pos,go_sem,hP,hv,a2,b2,lp2,lq2,ht,u0,am0]
    rw[hC]
    exact⟨by rw[e0],fun _=>k2,fun e=>by rw[e0]at e;cases e⟩
   simp -dsimp -implicitDefEqProofs [-getElem?_pos,go_sem,hP,hv,a2,b2,lp2,lq2,ht,u0,am0]
   refine callB_pure gs hP en_230 (args_same (by simp -dsimp[-getElem?_pos,go_sem])) .sc ?_
   cases cs:strangeB m with
   |true=>
    have e0:moveE secs l d m=6:=by rw[moveE,hf];dsimp only;rw[if_neg (by simpa using cday),if_neg (by omega),if_pos cs]
    simp -dsimp -implicitDefEqProofs [-getElem?_pos,go_sem,hP]
    rw[hC]
    exact⟨by rw[e0],fun _=>k2,fun e=>by rw[e0]at e;cases e⟩
   |false=>
    simp -dsimp -implicitDefEqProofs [-getElem?_pos,go_sem,hP]
    refine adrawB (fun i=>decide (i=p)) [] hP (by kernel_rfl) (by kernel_rfl) ?_
    by_cases f0:m.From=0
    ·simp -dsimp -implicitDefEqProofs [-getElem?_pos,go_sem,hP,restr_get,a2,lp2,f0]
     refine adrawB (fun i=>decide (i=p)) [] hP (by kernel_rfl) (by kernel_rfl) ?_
     simp -dsimp -implicitDefEqProofs [-getElem?_pos,go_sem,hP,restr_get,a2,lp2,f0]
     refine callB_m (by rw[hr,hs];exact om) hP en_232 ?_
     rintro r H3 ⟨rfl,kp3⟩
     have a3:=kp3 _ _ (by simp) a2
     have hk3:=hk2.kept kp3
     have k3':Kept [] H H3:=k2.trans kp3
     have lp3:=(gsI a3)
     have ho3:=outH_take ho m.Security l.length
     rw[List.take_length]at ho3
     have wo:=wrap_in (outH l m.Security+m.Amount) (by omega)
     by_cases o9:1000000000000<outH l m.Security+m.Amount
     ·have e0:moveE secs l d m=2:=by rw[moveE,hf];dsimp only;rw[if_neg (by simpa using cday),if_neg (by omega),if_neg (by simp[cs]),if_neg (fun e=>e.1 f0),if_pos ⟨f0,o9⟩]
      have d9:decide (1000000000000<outH l m.Security+m.Amount)=true:=decide_eq_true o9
      simp -dsimp -implicitDefEqProofs [-getElem?_pos,go_sem,hP]
      refine⟨agree_p kp3 a2,?_⟩
      simp -dsimp -implicitDefEqProofs [-getElem?_pos,go_sem,hP,restr_get,a3,lp3,wo,d9]
      rw[hC]
      exact⟨by rw[e0],fun _=>k3',fun e=>by rw[e0]at e;cases e⟩
     have d9:decide (1000000000000<outH l m.Security+m.Amount)=false:=decide_eq_false o9
     simp -dsimp -implicitDefEqProofs [-getElem?_pos,go_sem,hP]
     refine⟨agree_p kp3 a2,?_⟩
     simp -dsimp -implicitDefEqProofs [-getElem?_pos,go_sem,hP,restr_get,a3,lp3,wo,d9]
     have mok:MoveOk secs l d m s:=⟨hf,cday,⟨by omega,by omega,am0⟩,cs,fun e=>by first|exact absurd f0 e|omega,fun e=>by first|exact absurd e f0|omega⟩
     have e0:=moveE_zero mok
     have ho1:=goH1_ok ho mok
     have wn:=wrap_in (-m.Amount) (by omega)
     have ad1:=fun {row src:Option Nat}=>cadd_m (row:=row) (src:=src) c hid (secsL secs) n d l m.Security m.From (-m.Amount) H3 hk3 rfl (by omega) ho.srt (fun x hx=>ho.am hx) (by omega) (by omega)
     simp -dsimp -implicitDefEqProofs [-getElem?_pos,go_sem,hP,a3,lp3,wn]
     refine callB_m (by rw[hr,hs];exact ad1) hP en_233 ?_
     rintro _ H4 c24
     obtain⟨hid4,hk4,pr4,kp4⟩:=c24
     have a4:=kp4 _ _ (by simpa using⟨npc,nph⟩) a3
     have lp4:=(gsI a4)
     have ad2:=fun {row src:Option Nat}=>cadd_m (row:=row) (src:=src) c hid4 (secsL secs) n d (addH l m.Security m.From (-m.Amount)) m.Security m.To m.Amount H4 hk4 rfl (by have:=ho1.2;omega) ho1.1.srt (fun x hx=>ho1.1.am hx) (by omega) (by omega)
     simp -dsimp -implicitDefEqProofs [-getElem?_pos,go_sem,hP,a4,lp4]
     refine callB_m (by rw[hr,hs];exact ad2) hP en_233 ?_
     rintro _ H5 c25
     have cl5:Clk2 H c hid (secsL secs) (goH l m) n d H5:=clk2_comp (clk2_pre k3' hk ⟨hid4,hk4,pr4,kp4⟩) hid4 hk4 (fun x o hx he=>pr4 x o hx (k3' x o (by simp) he)) c25
     obtain⟨hid5,hk5,pr5,kp5⟩:=c25
     have a5:=kp5 _ _ (by simpa using⟨npc,pr4 p _ nph a3⟩) a4
     have lp5:=(gsI a5)
     have c5:=hk5.oc
     have lc5:=(gsI c5)
     have wn1:=wrap_in (n+1) (by omega)
     simp -dsimp -implicitDefEqProofs [-getElem?_pos,go_sem,hP]
     refine adrawB (fun i=>decide (i=p)) [3,4,5,9,10,12,13] hP (by kernel_rfl) (by kernel_rfl) ?_
     simp -dsimp -implicitDefEqProofs [-getElem?_pos,go_sem,hP,restr_get,a5,lp5,c5,lc5,npc,npc',wn1]
     refine⟨agree_ps npc,agree_ps2 npc,?_⟩
     rw[hC]
     exact clk2_end cl5 hk5 e0
    ·simp -dsimp -implicitDefEqProofs [-getElem?_pos,go_sem,hP,restr_get,a2,lp2,f0]
     refine callB_m (by rw[hr,hs];exact hm) hP en_231 ?_
     rintro r H3 ⟨rfl,kp3⟩
     have a3:=kp3 _ _ (by simp) a2
     have hk3:=hk2.kept kp3
     have k3':Kept [] H H3:=k2.trans kp3
     have lp3:=(gsI a3)
     by_cases o9:heldH l m.Security m.From<m.Amount
     ·have e0:moveE secs l d m=77:=by rw[moveE,hf];dsimp only;rw[if_neg (by simpa using cday),if_neg (by omega),if_neg (by simp[cs]),if_pos ⟨f0,o9⟩]
      have d9:decide (heldH l m.Security m.From<m.Amount)=true:=decide_eq_true o9
      simp -dsimp -implicitDefEqProofs [-getElem?_pos,go_sem,hP]
      refine⟨agree_p kp3 a2,?_⟩
      simp -dsimp -implicitDefEqProofs [-getElem?_pos,go_sem,hP,restr_get,a3,lp3,d9]
      rw[hC]
      exact⟨by rw[e0],fun _=>k3',fun e=>by rw[e0]at e;cases e⟩
     have d9:decide (heldH l m.Security m.From<m.Amount)=false:=decide_eq_false o9
     simp -dsimp -implicitDefEqProofs [-getElem?_pos,go_sem,hP]
     refine⟨agree_p kp3 a2,?_⟩
     simp -dsimp -implicitDefEqProofs [-getElem?_pos,go_sem,hP,restr_get,a3,lp3,d9]
     refine adrawB (fun i=>decide (i=p)) [] hP (by kernel_rfl) (by kernel_rfl) ?_
     simp -dsimp -implicitDefEqProofs [-getElem?_pos,go_sem,hP,restr_get,a3,lp3,f0]
     have mok:MoveOk secs l d m s:=⟨hf,cday,⟨by omega,by omega,am0⟩,cs,fun e=>by first|exact absurd f0 e|omega,fun e=>by first|exact absurd e f0|omega⟩
     have e0:=moveE_zero mok
     have ho1:=goH1_ok ho mok
     have wn:=wrap_in (-m.Amount) (by omega)
     have ad1:=fun {row src:Option Nat}=>cadd_m (row:=row) (src:=src) c hid (secsL secs) n d l m.Security m.From (-m.Amount) H3 hk3 rfl (by omega) ho.srt (fun x hx=>ho.am hx) (by omega) (by omega)
     simp -dsimp -implicitDefEqProofs [-getElem?_pos,go_sem,hP,a3,lp3,wn]
     refine callB_m (by rw[hr,hs];exact ad1) hP en_233 ?_
     rintro _ H4 c24
     obtain⟨hid4,hk4,pr4,kp4⟩:=c24
     have a4:=kp4 _ _ (by simpa using⟨npc,nph⟩) a3
     have lp4:=(gsI a4)
     have ad2:=fun {row src:Option Nat}=>cadd_m (row:=row) (src:=src) c hid4 (secsL secs) n d (addH l m.Security m.From (-m.Amount)) m.Security m.To m.Amount H4 hk4 rfl (by have:=ho1.2;omega) ho1.1.srt (fun x hx=>ho1.1.am hx) (by omega) (by omega)
     simp -dsimp -implicitDefEqProofs [-getElem?_pos,go_sem,hP,a4,lp4]
     refine callB_m (by rw[hr,hs];exact ad2) hP en_233 ?_
     rintro _ H5 c25
     have cl5:Clk2 H c hid (secsL secs) (goH l m) n d H5:=clk2_comp (clk2_pre k3' hk ⟨hid4,hk4,pr4,kp4⟩) hid4 hk4 (fun x o hx he=>pr4 x o hx (k3' x o (by simp) he)) c25
     obtain⟨hid5,hk5,pr5,kp5⟩:=c25
     have a5:=kp5 _ _ (by simpa using⟨npc,pr4 p _ nph a3⟩) a4
     have lp5:=(gsI a5)
     have c5:=hk5.oc
     have lc5:=(gsI c5)
     have wn1:=wrap_in (n+1) (by omega)
     simp -dsimp -implicitDefEqProofs [-getElem?_pos,go_sem,hP]
     refine adrawB (fun i=>decide (i=p)) [3,4,5,9,10,12,13] hP (by kernel_rfl) (by kernel_rfl) ?_
     simp -dsimp -implicitDefEqProofs [-getElem?_pos,go_sem,hP,restr_get,a5,lp5,c5,lc5,npc,npc',wn1]
     refine⟨agree_ps npc,agree_ps2 npc,?_⟩
     rw[hC]
     exact clk2_end cl5 hk5 e0
  ·by_cases cday:max d s.Issued≤m.Day∧m.Day≤if m.Kind=3 then 36000 else s.Maturity
   rotate_left
   ·have e0:moveE secs l d m=8:=by rw[moveE,hf];dsimp only;rw[if_pos (by simpa using cday)]
    have hb:bet m.Day (max d s.Issued) (s.Maturity)=false:=bet_no (by rw[if_neg k3]at cday;exact cday)
    simp -dsimp -implicitDefEqProofs [-getElem?_pos,go_sem,hP,a2,b2,c2,lp2,lq2,lc2,k3,am]
    refine adrawB (fun _=>true) [] hP (by kernel_rfl) (by kernel_rfl) ?_
    simp -dsimp -implicitDefEqProofs [-getElem?_pos,go_sem,hP,a2,b2,c2,lp2,lq2,lc2,k3,am]
    refine callB_pure (gamong_pf m.Day (max d s.Issued) (s.Maturity)) hP en_104 (args_same (by simp -dsimp[-getElem?_pos,go_sem])) .sc ?_
    simp -dsimp -implicitDefEqProofs [-getElem?_pos,go_sem,hP,hb]
    rw[hC]
    exact⟨by rw[e0],fun _=>k2,fun e=>by rw[e0]at e;cases e⟩
   have hb:bet m.Day (max d s.Issued) (s.Maturity)=true:=bet_yes (by rw[if_neg k3]at cday;exact cday)
   simp -dsimp -implicitDefEqProofs [-getElem?_pos,go_sem,hP,a2,b2,c2,lp2,lq2,lc2,k3,am]
   refine adrawB (fun _=>true) [] hP (by kernel_rfl) (by kernel_rfl) ?_
   simp -dsimp -implicitDefEqProofs [-getElem?_pos,go_sem,hP,a2,b2,c2,lp2,lq2,lc2,k3,am]
   refine callB_pure (gamong_pf m.Day (max d s.Issued) (s.Maturity)) hP en_104 (args_same (by simp -dsimp[-getElem?_pos,go_sem])) .sc ?_
   by_cases a0:m.Amount≤0
   ·have e0:moveE secs l d m=79:=by rw[moveE,hf];dsimp only;rw[if_neg (by simpa using cday),if_pos (.inl a0)]
    have d0:decide (m.Amount≤0)=true:=decide_eq_true a0
    simp -dsimp -implicitDefEqProofs [-getElem?_pos,go_sem,hP,hb,a2,b2,lp2,lq2,d0]
    rw[hC]
    exact⟨by rw[e0],fun _=>k2,fun e=>by rw[e0]at e;cases e⟩
   have d0:decide (m.Amount≤0)=false:=decide_eq_false a0
   simp -dsimp -implicitDefEqProofs [-getElem?_pos,go_sem,hP,hb,a2,b2,lp2,lq2,d0]
   refine callB_pure (gvalid_pf m.Amount) hP en_50 (args_same (by simp -dsimp[-getElem?_pos,go_sem])) .sc ?_
   by_cases a9:1000000000000<m.Amount
   ·have e0:moveE secs l d m=79:=by rw[moveE,hf];dsimp only;rw[if_neg (by simpa using cday),if_pos (.inr (.inl a9))]
    have hv:bet m.Amount 0 1000000000000=false:=bet_no (by omega)
    simp -dsimp -implicitDefEqProofs [-getElem?_pos,go_sem,hP,hv]
    rw[hC]
    exact⟨by rw[e0],fun _=>k2,fun e=>by rw[e0]at e;cases e⟩
   have hv:bet m.Amount 0 1000000000000=true:=bet_yes (by omega)
   have ht:m.Amount.tmod s.Unit=m.Amount%s.Unit:=Int.tmod_eq_emod_of_nonneg (by omega)
   have u0:¬s.Unit=0:=by have:=so.unit;omega
   by_cases am0:m.Amount%s.Unit=0
   rotate_left
   ·have e0:moveE secs l d m=79:=by rw[moveE,hf];dsimp only;rw[if_neg (by simpa using cday),if_pos (.inr (.inr am0))]
    simp -dsimp -implicitDefEqProofs [-getElem?_pos,go_sem,hP,hv,a2,b2,lp2,lq2,ht,u0,am0]
    rw[hC]
    exact⟨by rw[e0],fun _=>k2,fun e=>by rw[e0]at e;cases e⟩
   simp -dsimp -implicitDefEqProofs [-getElem?_pos,go_sem,hP,hv,a2,b2,lp2,lq2,ht,u0,am0]
   refine callB_pure gs hP en_230 (args_same (by simp -dsimp[-getElem?_pos,go_sem])) .sc ?_
   cases cs:strangeB m with
   |true=>
    have e0:moveE secs l d m=6:=by rw[moveE,hf];dsimp only;rw[if_neg (by simpa using cday),if_neg (by omega),if_pos cs]
    simp -dsimp -implicitDefEqProofs [-getElem?_pos,go_sem,hP]
    rw[hC]
    exact⟨by rw[e0],fun _=>k2,fun e=>by rw[e0]at e;cases e⟩
   |false=>
    simp -dsimp -implicitDefEqProofs [-getElem?_pos,go_sem,hP]
    refine adrawB (fun i=>decide (i=p)) [] hP (by kernel_rfl) (by kernel_rfl) ?_
    by_cases f0:m.From=0
    ·simp -dsimp -implicitDefEqProofs [-getElem?_pos,go_sem,hP,restr_get,a2,lp2,f0]
     refine adrawB (fun i=>decide (i=p)) [] hP (by kernel_rfl) (by kernel_rfl) ?_
     simp -dsimp -implicitDefEqProofs [-getElem?_pos,go_sem,hP,restr_get,a2,lp2,f0]
     refine callB_m (by rw[hr,hs];exact om) hP en_232 ?_
     rintro r H3 ⟨rfl,kp3⟩
     have a3:=kp3 _ _ (by simp) a2
     have hk3:=hk2.kept kp3
     have k3':Kept [] H H3:=k2.trans kp3
     have lp3:=(gsI a3)
     have ho3:=outH_take ho m.Security l.length
     rw[List.take_length]at ho3
     have wo:=wrap_in (outH l m.Security+m.Amount) (by omega)
     by_cases o9:1000000000000<outH l m.Security+m.Amount
     ·have e0:moveE secs l d m=2:=by rw[moveE,hf];dsimp only;rw[if_neg (by simpa using cday),if_neg (by omega),if_neg (by simp[cs]),if_neg (fun e=>e.1 f0),if_pos ⟨f0,o9⟩]
      have d9:decide (1000000000000<outH l m.Security+m.Amount)=true:=decide_eq_true o9
      simp -dsimp -implicitDefEqProofs [-getElem?_pos,go_sem,hP]
      refine⟨agree_p kp3 a2,?_⟩
      simp -dsimp -implicitDefEqProofs [-getElem?_pos,go_sem,hP,restr_get,a3,lp3,wo,d9]
      rw[hC]
      exact⟨by rw[e0],fun _=>k3',fun e=>by rw[e0]at e;cases e⟩
     have d9:decide (1000000000000<outH l m.Security+m.Amount)=false:=decide_eq_false o9
     simp -dsimp -implicitDefEqProofs [-getElem?_pos,go_sem,hP]
     refine⟨agree_p kp3 a2,?_⟩
     simp -dsimp -implicitDefEqProofs [-getElem?_pos,go_sem,hP,restr_get,a3,lp3,wo,d9]
     have mok:MoveOk secs l d m s:=⟨hf,cday,⟨by omega,by omega,am0⟩,cs,fun e=>by first|exact absurd f0 e|omega,fun e=>by first|exact absurd e f0|omega⟩
     have e0:=moveE_zero mok
     have ho1:=goH1_ok ho mok
     have wn:=wrap_in (-m.Amount) (by omega)
     have ad1:=fun {row src:Option Nat}=>cadd_m (row:=row) (src:=src) c hid (secsL secs) n d l m.Security m.From (-m.Amount) H3 hk3 rfl (by omega) ho.srt (fun x hx=>ho.am hx) (by omega) (by omega)
     simp -dsimp -implicitDefEqProofs [-getElem?_pos,go_sem,hP,a3,lp3,wn]
     refine callB_m (by rw[hr,hs];exact ad1) hP en_233 ?_
     rintro _ H4 c24
     obtain⟨hid4,hk4,pr4,kp4⟩:=c24
     have a4:=kp4 _ _ (by simpa using⟨npc,nph⟩) a3
     have lp4:=(gsI a4)
     have ad2:=fun {row src:Option Nat}=>cadd_m (row:=row) (src:=src) c hid4 (secsL secs) n d (addH l m.Security m.From (-m.Amount)) m.Security m.To m.Amount H4 hk4 rfl (by have:=ho1.2;omega) ho1.1.srt (fun x hx=>ho1.1.am hx) (by omega) (by omega)
     simp -dsimp -implicitDefEqProofs [-getElem?_pos,go_sem,hP,a4,lp4]
     refine callB_m (by rw[hr,hs];exact ad2) hP en_233 ?_
     rintro _ H5 c25
     have cl5:Clk2 H c hid (secsL secs) (goH l m) n d H5:=clk2_comp (clk2_pre k3' hk ⟨hid4,hk4,pr4,kp4⟩) hid4 hk4 (fun x o hx he=>pr4 x o hx (k3' x o (by simp) he)) c25
     obtain⟨hid5,hk5,pr5,kp5⟩:=c25
     have a5:=kp5 _ _ (by simpa using⟨npc,pr4 p _ nph a3⟩) a4
     have lp5:=(gsI a5)
     have c5:=hk5.oc
     have lc5:=(gsI c5)
     have wn1:=wrap_in (n+1) (by omega)
     simp -dsimp -implicitDefEqProofs [-getElem?_pos,go_sem,hP]
     refine adrawB (fun i=>decide (i=p)) [3,4,5,9,10,12,13] hP (by kernel_rfl) (by kernel_rfl) ?_
     simp -dsimp -implicitDefEqProofs [-getElem?_pos,go_sem,hP,restr_get,a5,lp5,c5,lc5,npc,npc',wn1]
     refine⟨agree_ps npc,agree_ps2 npc,?_⟩
     rw[hC]
     exact clk2_end cl5 hk5 e0
    ·simp -dsimp -implicitDefEqProofs [-getElem?_pos,go_sem,hP,restr_get,a2,lp2,f0]
     refine callB_m (by rw[hr,hs];exact hm) hP en_231 ?_
     rintro r H3 ⟨rfl,kp3⟩
     have a3:=kp3 _ _ (by simp) a2
     have hk3:=hk2.kept kp3
     have k3':Kept [] H H3:=k2.trans kp3
     have lp3:=(gsI a3)
     by_cases o9:heldH l m.Security m.From<m.Amount
     ·have e0:moveE secs l d m=77:=by rw[moveE,hf];dsimp only;rw[if_neg (by simpa using cday),if_neg (by omega),if_neg (by simp[cs]),if_pos ⟨f0,o9⟩]
      have d9:decide (heldH l m.Security m.From<m.Amount)=true:=decide_eq_true o9
      simp -dsimp -implicitDefEqProofs [-getElem?_pos,go_sem,hP]
      refine⟨agree_p kp3 a2,?_⟩
      simp -dsimp -implicitDefEqProofs [-getElem?_pos,go_sem,hP,restr_get,a3,lp3,d9]
      rw[hC]
      exact⟨by rw[e0],fun _=>k3',fun e=>by rw[e0]at e;cases e⟩
     have d9:decide (heldH l m.Security m.From<m.Amount)=false:=decide_eq_false o9
     simp -dsimp -implicitDefEqProofs [-getElem?_pos,go_sem,hP]
     refine⟨agree_p kp3 a2,?_⟩
     simp -dsimp -implicitDefEqProofs [-getElem?_pos,go_sem,hP,restr_get,a3,lp3,d9]
     refine adrawB (fun i=>decide (i=p)) [] hP (by kernel_rfl) (by kernel_rfl) ?_
     simp -dsimp -implicitDefEqProofs [-getElem?_pos,go_sem,hP,restr_get,a3,lp3,f0]
     have mok:MoveOk secs l d m s:=⟨hf,cday,⟨by omega,by omega,am0⟩,cs,fun e=>by first|exact absurd f0 e|omega,fun e=>by first|exact absurd e f0|omega⟩
     have e0:=moveE_zero mok
     have ho1:=goH1_ok ho mok
     have wn:=wrap_in (-m.Amount) (by omega)
     have ad1:=fun {row src:Option Nat}=>cadd_m (row:=row) (src:=src) c hid (secsL secs) n d l m.Security m.From (-m.Amount) H3 hk3 rfl (by omega) ho.srt (fun x hx=>ho.am hx) (by omega) (by omega)
     simp -dsimp -implicitDefEqProofs [-getElem?_pos,go_sem,hP,a3,lp3,wn]
     refine callB_m (by rw[hr,hs];exact ad1) hP en_233 ?_
     rintro _ H4 c24
     obtain⟨hid4,hk4,pr4,kp4⟩:=c24
     have a4:=kp4 _ _ (by simpa using⟨npc,nph⟩) a3
     have lp4:=(gsI a4)
     have ad2:=fun {row src:Option Nat}=>cadd_m (row:=row) (src:=src) c hid4 (secsL secs) n d (addH l m.Security m.From (-m.Amount)) m.Security m.To m.Amount H4 hk4 rfl (by have:=ho1.2;omega) ho1.1.srt (fun x hx=>ho1.1.am hx) (by omega) (by omega)
     simp -dsimp -implicitDefEqProofs [-getElem?_pos,go_sem,hP,a4,lp4]
     refine callB_m (by rw[hr,hs];exact ad2) hP en_233 ?_
     rintro _ H5 c25
     have cl5:Clk2 H c hid (secsL secs) (goH l m) n d H5:=clk2_comp (clk2_pre k3' hk ⟨hid4,hk4,pr4,kp4⟩) hid4 hk4 (fun x o hx he=>pr4 x o hx (k3' x o (by simp) he)) c25
     obtain⟨hid5,hk5,pr5,kp5⟩:=c25
     have a5:=kp5 _ _ (by simpa using⟨npc,pr4 p _ nph a3⟩) a4
     have lp5:=(gsI a5)
     have c5:=hk5.oc
     have lc5:=(gsI c5)
     have wn1:=wrap_in (n+1) (by omega)
     simp -dsimp -implicitDefEqProofs [-getElem?_pos,go_sem,hP]
     refine adrawB (fun i=>decide (i=p)) [3,4,5,9,10,12,13] hP (by kernel_rfl) (by kernel_rfl) ?_
     simp -dsimp -implicitDefEqProofs [-getElem?_pos,go_sem,hP,restr_get,a5,lp5,c5,lc5,npc,npc',wn1]
     refine⟨agree_ps npc,agree_ps2 npc,?_⟩
     rw[hC]
     exact clk2_end cl5 hk5 e0
end Go.Proofs.YtaenimpfelpafaaGreatDoor
namespace Go.PA
open Go.RowKit
section
variable {E:Env}
theorem weaker_owncell {s:St} {o ty k:Nat} {cs:List AV} (j:Nat) (ty' k':Nat) (h:s.H[o]?=some (some ⟨ty,k,[cs]⟩)) (hk:k≠2) (hi:∀es,cs[2]?≠some (.imap es)) (hj:cs[j]?=some .nil):
  Weaker E s ⟨s.t,(s.H++[some (AObj.mk ty' k' [])]).set o (some ⟨ty,k,[cs.set j (.sref s.H.length 0 0)]⟩)⟩:=by
 rintro a w ⟨ρ,ok,g,hx,hd,hs,hr⟩
 obtain⟨g1,x1⟩:=g.add ⟨ty',k',[]⟩ none rfl (by simp) (by simp)
 have lt:=(gsI h)
 have h1:(s.H++[some ⟨ty',k',[]⟩])[o]?=some (some ⟨ty,k,[cs]⟩):=by rw[List.getElem?_append_left lt];exact h
 have hobj:=g1.obj o _ h1
 have hlen:=g1.len o _ h1 cs (by simp)
 obtain⟨ρ1,hρ1⟩:∃ρ1,ρ1=updP ρ s.H.length none:=⟨_,rfl⟩
 rw[←hρ1]at g1 x1 hobj
 have hnew:ρ1 s.H.length=none:=by rw[hρ1];simp[updP]
 cases hρ:ρ1 o with
 |none=>rw[hρ]at hobj;cases hobj
 |some bc=>
  obtain⟨b,cap⟩:=bc
  rw[hρ]at hobj
  obtain⟨g',x'⟩:=g1.change (w':=w) h1 hρ ⟨ty,k,[cs.set j (.sref s.H.length 0 0)]⟩ rfl (Nat.le_refl _) (by simpa using hlen) rfl rfl rfl rfl (fun _ _=>rfl) fun hx'=>by
   rcases hobj with⟨cur,h1',h2,h3,h4,h5⟩|⟨_,hk',_⟩|⟨_,hk',he⟩
   ·refine .inl ⟨cur,h1',h2,h3,h4,fun i e q a he ha=>?_⟩
    match i,he with
    |0,he=>
     simp only[List.getElem?_cons_zero,Option.some.injEq]at he
     subst he
     by_cases hq:j=q
     ·subst hq
      obtain⟨c,c1,c2,c3⟩:=h5 0 cs j .nil rfl hj
      have hjl:=(gsI hj)
      rw[List.getElem?_set,if_pos rfl,if_pos hjl]at ha
      cases ha
      refine⟨c,c1,c2,?_⟩
      cases c3
      refine .srefNil (o:=⟨ty',k',[]⟩) ?_ hnew
      rw[List.getElem?_set_ne (by omega)]
      exact push_new
     ·rw[List.getElem?_set_ne hq]at ha
      obtain⟨c,c1,c2,c3⟩:=h5 0 cs q a rfl ha
      exact⟨c,c1,c2,c3.ext hx'⟩
   ·exact absurd hk' hk
   ·exfalso
    rcases he with⟨he,_⟩|⟨m,clk,seen,ents,c1,c2,_,_,_,_,he,_⟩
    ·simp only[List.cons.injEq,and_true]at he
     exact hi [] (by rw[he];rfl)
    ·simp only[List.cons.injEq,and_true]at he
     exact hi _ (by rw[he];rfl)
  exact⟨ρ1,ok,g',(hx.trans x1).trans x',hd,hs,fun i=>((hr i).ext x1).ext x'⟩
theorem aloop_owncell {c:Code} {s:St} {Q:Exit→St→Prop} {b:Bx (c,Q)} {o ty k:Nat} {cs:List AV} (j:Nat) (ty' k':Nat) (h:s.H[o]?=some (some ⟨ty,k,[cs]⟩)) (hk:k≠2) (hi:∀es,cs[2]?≠some (.imap es)) (hj:cs[j]?=some .nil)
  (hl:ALoop E c ⟨s.t,(s.H++[some (AObj.mk ty' k' [])]).set o (some ⟨ty,k,[cs.set j (.sref s.H.length 0 0)]⟩)⟩ Q .mk):ALoop E c s Q b:=
 AWp.weaken (weaker_owncell j ty' k' h hk hi hj) hl
end
end Go.PA
namespace Go.Proofs.YtaenimpfelpafaaGreatDoor
open Go.PA
open Go.RowKit
theorem secsB_all:∀(l:List TSecurity) (p:Int),secsB p l=true→(∀s,s∈l→secB s=true)∧∀(i:Nat) (s t:TSecurity),l[i]?=some s→l[i+1]?=some t→s.ID<t.ID
 |[],_,_=>⟨fun _ h=>(by cases h),fun i s t h=>by simp at h⟩
 |x::l,p,h=>by
  unfold secsB at h
  rw[Bool.and_eq_true,Bool.and_eq_true]at h
  obtain⟨⟨h1,h2⟩,h3⟩:=h
  obtain⟨g1,g2⟩:=secsB_all l _ h3
  refine⟨fun s hs=>?_,fun i s t hs ht=>?_⟩
  ·rcases List.mem_cons.1 hs with rfl|hs
   ·exact h1
   ·exact g1 s hs
  ·cases i with
   |zero=>
    simp only[List.getElem?_cons_zero,Option.some.injEq]at hs
    subst hs
    cases l with
    |nil=>simp at ht
    |cons y l=>
     simp only[List.getElem?_cons_succ,List.getElem?_cons_zero,Option.some.injEq]at ht
     subst ht
     unfold secsB at h3
     rw[Bool.and_eq_true,Bool.and_eq_true,decide_eq_true_eq]at h3
     exact h3.1.2
   |succ i=>exact g2 i s t (by simpa using hs) (by simpa using ht)
theorem gall_pf (m:TMove):PFun Tryz.prog none none 101 [.agg m.cells] (·=bv true):=by
 refine pfun_intro Tryz.func101 rfl (by simp[Tryz.f101]) (by kernel_rfl) ?_
 intro E hP hr hs hW hN
 simp -dsimp -implicitDefEqProofs [-getElem?_pos,go_sem,hP,cMov]
def NewC (H:Heap) (sx:AV) (t:RepSt) (r:AV) (H':Heap):Prop:=∃c hid,r= .tup [.ref c 0 0,bv true]∧Clk H' c hid sx t.l t.n t.d∧H.length≤c∧(∀(z:Nat) (o:AObj),H[z]?=some (some o)→z≠hid)∧Kept [] H H'
set_option maxHeartbeats 4000000 in
theorem greplay_m {row src:Option Nat} (r:TRegister) (g:FuncId) (caps:List AV) (t:RepSt) (H:Heap) (hrun:Runs r.Securities rep0 r.Moves t) (hml:r.Moves.length≤400) (hsl:r.Securities.length≤1000) (hso:∀s,s∈r.Securities→secB s=true) (hen:enterable Tryz.prog g=true)
  (hg:∀m,m∈r.Moves→∀H',Kept [] H H'→MFun Tryz.prog row src g (.agg m.cells::caps) H' (fun r H''=>r=bv true∧Kept [] H' H'')):
  MFun Tryz.prog row src 100 [.agg r.cells,.fn g caps] H (NewC H (secsL r.Securities) t):=by
 obtain⟨C,hC⟩:∃C:AV→Heap→Prop,C=NewC H (secsL r.Securities) t:=⟨_,rfl⟩
 rw[←hC]
 have ex:∃x H',C x H':=by
  rw[hC]
  refine⟨_,H++[some ⟨183,4,[[secsL r.Securities,.sref (H.length+1) 0 t.l.length,iv t.n,iv t.d]]⟩,some ⟨173,3,encL THolding.cells t.l⟩],H.length,H.length+1,rfl,⟨by simp,?_,by omega⟩,Nat.le_refl _,fun z o hz=>by have:=(gsI hz);omega,kept_app _ _ _⟩
  rw[List.getElem?_append_right (by omega)]
  simp
 refine mfun_intro Tryz.func100 rfl (by simp[Tryz.f100]) (by kernel_rfl) (ex) ?_
 intro E hP hr hs hN
 simp -dsimp -implicitDefEqProofs [-getElem?_pos,go_sem,hP,cReg]
 refine aloop_owncell (o:=H.length+1) (ty:=183) (k:=4) (cs:=[secsL r.Securities,.nil,iv 0,iv 0]) 1 173 3 (by simp) (by decide) (by simp) rfl ?_
 obtain⟨I,hI⟩:∃I:Nat→St→Prop,I=fun m s=>∃(k c hid:Nat) (v:RepSt),k≤r.Moves.length∧m=r.Moves.length-k∧Runs r.Securities rep0 (r.Moves.take k) v∧s.t 1= .fn g caps∧s.t 6= .ref c 0 0∧s.t 14=movesL r.Moves∧s.t 15=iv r.Moves.length∧s.t 16=iv k∧Clk s.H c hid (secsL r.Securities) v.l v.n v.d∧H.length≤c∧(∀(z:Nat) (o:AObj),H[z]?=some (some o)→z≠hid)∧Kept [] H s.H:=⟨_,rfl⟩
 refine aloop0 I (r.Moves.length) (by rw[hN];rfl) ?_ ?_
 ·rw[hI]
  refine⟨0,H.length+1,H.length+2,rep0,by omega,by omega,by simpa using Runs.nil,by simp -dsimp[-getElem?_pos,go_sem],by simp -dsimp[-getElem?_pos,go_sem],by simp -dsimp[-getElem?_pos,go_sem],by simp -dsimp[-getElem?_pos,go_sem],by simp -dsimp[-getElem?_pos,go_sem],⟨?_,?_,by omega⟩,by omega,fun z o hz=>by have:=(gsI hz);omega,?_⟩
  ·simp[rep0]
  ·simp[rep0,encL]
  ·simp
   exact kept_app _ _ _
 intro m s hs'
 rw[hI]at hs'
 obtain⟨k,c,hid,v,hk,hm,hv,t1,t6,t14,t15,t16,hc,hcl,hhl,kp⟩:=hs'
 simp -dsimp -implicitDefEqProofs [-getElem?_pos,go_sem,hP,t15,t16]
 refine condP (fun hq=>?_) (fun hq=>?_)
 ·have hk:k<r.Moves.length:=by simpa using hq
  obtain⟨a,ha⟩:∃a,r.Moves[k]?=some a:=⟨_,List.getElem?_eq_getElem hk⟩
  have wk:=wrap_in ((k:Int)+1) (by omega)
  obtain⟨v',hv',hst⟩:=hrun.take k
  have e:v'=v:=by rw[hv'.det,hv.det]
  subst e
  obtain⟨⟨s1,s2,s3⟩,hv2⟩:=hst a ha
  have hnn:=hv.n
  have hho:=hv.ok
  have htl:(r.Moves.take k).length=k:=by simp;omega
  rw[htl]at hnn hho
  have h00:rep0.n=0:=rfl
  have wn:=wrap_in ((v'.n:Int)+1) (by omega)
  have kb:=bet_yes s2
  simp -dsimp -implicitDefEqProofs [-getElem?_pos,go_sem,hP,t14,t16,ha,cMov]
  obtain⟨b,hb⟩:∃b,b=s.H.length:=⟨_,rfl⟩
  obtain⟨H1,hH1⟩:∃H1:Heap,H1=s.H++[some ⟨70,7,[[iv a.Number,iv a.Day,iv a.Kind,iv a.Security,iv a.From,iv a.To,iv a.Amount]]⟩]:=⟨_,rfl⟩
  have k1:Kept [] s.H H1:=by rw[hH1];exact kept_app _ _ _
  have a1:H1[b]?=some (some ⟨70,7,[[iv a.Number,iv a.Day,iv a.Kind,iv a.Security,iv a.From,iv a.To,iv a.Amount]]⟩):=by rw[hH1,hb];simp
  have c1:=hc.kept k1
  have lb1:=(gsI a1)
  rw[←hH1,←hb]
  have gm:=hg a (List.mem_of_getElem? ha) H1 (kp.trans k1)
  rw[cMov]at gm
  simp -dsimp -implicitDefEqProofs [-getElem?_pos,go_sem,hP,t1,a1,lb1]
  refine callB_m (by rw[hr,hs];exact gm) hP hen ?_
  rintro x H2 ⟨rfl,k2⟩
  have a2:=k2 _ _ (by simp) a1
  have c2:=c1.kept k2
  have lb2:=(gsI a2)
  have oc2:=c2.oc
  have lc2:=(gsI oc2)
  simp -dsimp -implicitDefEqProofs [-getElem?_pos,go_sem,hP]
  refine adrawB (fun _=>true) [17] hP (by kernel_rfl) (by kernel_rfl) ?_
  simp -dsimp -implicitDefEqProofs [-getElem?_pos,go_sem,hP,t6,a2,lb2,oc2,lc2,s1,wn]
  refine callB_pure (gamong_pf a.Kind 1 3) hP en_104 (args_same (by simp -dsimp[-getElem?_pos,go_sem])) .sc ?_
  have dm:=fun {row src:Option Nat}=>do_m (row:=row) (src:=src) c hid r.Securities v'.l v'.n v'.d a (2*k) H2 c2 (by have:=hho.len;omega) hsl hso hho (by omega)
  rw[cMov]at dm
  simp -dsimp -implicitDefEqProofs [-getElem?_pos,go_sem,hP,kb,t6,a2,lb2,oc2,lc2]
  refine callB_m (by rw[hr,hs];exact dm) hP en_162 ?_
  rintro x H3 ⟨rfl,_,hd⟩
  obtain⟨hid',c3,p3,k3⟩:=hd s3
  simp -dsimp -implicitDefEqProofs [-getElem?_pos,go_sem,hP,s3,t16,wk]
  refine⟨r.Moves.length-(k+1),by omega,?_⟩
  rw[hI]
  refine⟨k+1,c,hid',stepR v' a,by omega,rfl,hv2,by simp -dsimp[-getElem?_pos,go_sem,t1],by simp -dsimp[-getElem?_pos,go_sem,t6],by simp -dsimp[-getElem?_pos,go_sem,t14],by simp -dsimp[-getElem?_pos,go_sem,t15],by simp -dsimp[-getElem?_pos,go_sem],?_,hcl,?_,?_⟩
  ·simpa[stepR]using c3
  ·exact fun z o hz=>p3 z o (hhl z o hz) (((kp.trans k1).trans k2) z o (by simp) hz)
  ·intro z o _ hz
   have h2:=((kp.trans k1).trans k2) z o (by simp) hz
   have:=(gsI hz)
   have n1:¬z=c:=by omega
   exact k3 z o (by simp[n1,hhl z o hz]) h2
 ·have hk:k=r.Moves.length:=by simp at hq;omega
  subst hk
  rw[List.take_length]at hv
  have e:v=t:=by rw[hv.det,hrun.det]
  subst e
  simp -dsimp -implicitDefEqProofs [-getElem?_pos,go_sem,hP,t6]
  rw[hC]
  exact⟨c,hid,rfl,hc,hcl,hhl,kp⟩
theorem listEq_pf_hol (a b:List THolding) (ha:a.length≤100000) (hb:b.length≤100000):
  PFun Tryz.prog none none 102 [.list 3 (encL THolding.cells a),.list 3 (encL THolding.cells b)] (·=bv (decide (a=b))):=by
 refine pfun_intro Tryz.func102 rfl (by simp[Tryz.f102]) (by kernel_rfl) ?_
 intro E hP hr hs hW hN
 by_cases hlen:a.length=b.length
 rotate_left
 ·have hne:¬a=b:=fun h=>hlen (by rw[h])
  have hl:decide ((a.length:Int)=(b.length:Int))=false:=by simp;omega
  simp -dsimp -implicitDefEqProofs [-getElem?_pos,go_sem,hP,hl,hne]
 have hl:decide ((a.length:Int)=(b.length:Int))=true:=by simp;omega
 simp -dsimp -implicitDefEqProofs [-getElem?_pos,go_sem,hP,hl]
 obtain⟨I,hI⟩:∃I:Nat→St→Prop,I=fun m s=>∃k:Nat,k≤a.length∧m=a.length-k∧s.t 0= .list 3 (encL THolding.cells a)∧s.t 1= .list 3 (encL THolding.cells b)∧s.t 12=iv a.length∧s.t 13=iv k∧a.take k=b.take k:=⟨_,rfl⟩
 refine aloop0 I (a.length) (by rw[hN];rfl) ?_ ?_
 ·rw[hI]
  exact⟨0,by omega,by omega,by simp -dsimp[-getElem?_pos,go_sem],by simp -dsimp[-getElem?_pos,go_sem],by simp -dsimp[-getElem?_pos,go_sem],by simp -dsimp[-getElem?_pos,go_sem],by simp⟩
 intro m s hs'
 rw[hI]at hs'
 obtain⟨k,hk,hm,t0,t1,t12,t13,heq⟩:=hs'
 simp -dsimp -implicitDefEqProofs [-getElem?_pos,go_sem,hP,t12,t13]
 refine condP (fun h=>?_) (fun h=>?_)
 ·have hk:k<a.length:=by simpa using h
  obtain⟨x,hx⟩:∃x,a[k]?=some x:=⟨_,List.getElem?_eq_getElem hk⟩
  obtain⟨y,hy⟩:∃y,b[k]?=some y:=⟨_,List.getElem?_eq_getElem (by omega)⟩
  have wk:=wrap_in ((k:Int)+1) (by omega)
  have tx:a.take (k+1)=a.take k++[x]:=by rw[List.take_add_one,hx];rfl
  have ty:b.take (k+1)=b.take k++[y]:=by rw[List.take_add_one,hy];rfl
  simp -dsimp -implicitDefEqProofs [-getElem?_pos,go_sem,hP,t13]
  refine adrawB (fun _=>true) [] hP (by kernel_rfl) (by kernel_rfl) ?_
  by_cases hxy:x=y
  ·subst hxy
   simp -dsimp -implicitDefEqProofs [-getElem?_pos,go_sem,hP,t0,t1,hx,hy,THolding.cells,t13,wk]
   refine⟨a.length-(k+1),by omega,?_⟩
   rw[hI]
   exact⟨k+1,by omega,rfl,by simp -dsimp[-getElem?_pos,go_sem,t0],by simp -dsimp[-getElem?_pos,go_sem,t1],by simp -dsimp[-getElem?_pos,go_sem,t12],by simp -dsimp[-getElem?_pos,go_sem],by rw[tx,ty,heq]⟩
  ·have hne:¬a=b:=fun h=>by
    subst h
    rw[hx]at hy
    exact hxy (Option.some.inj hy)
   simp -dsimp -implicitDefEqProofs [-getElem?_pos,go_sem,hP,t0,t1,hx,hy,THolding.cells,t13,wk]
   refine condP (fun h=>?_) (fun h=>?_)
   ·simp -dsimp -implicitDefEqProofs [-getElem?_pos,go_sem,hP,hne]
   ·exact absurd (by cases x;cases y;simp at h;simp[h]) hxy
 ·have hk:k=a.length:=by simp at h;omega
  subst hk
  rw[List.take_length]at heq
  rw[hlen,List.take_length]at heq
  simp -dsimp -implicitDefEqProofs [-getElem?_pos,go_sem,hP,heq]
structure RegIn (r:TRegister):Prop where
 ml:r.Moves.length≤400
 sl:r.Securities.length≤20
 so:∀s,s∈r.Securities→secB s=true
 asc:∀(i:Nat) (s t:TSecurity),r.Securities[i]?=some s→r.Securities[i+1]?=some t→s.ID<t.ID
theorem RegOk.regIn {r:TRegister} {d:Int} (h:RegOk r d):RegIn r:=by
 obtain⟨h1,h2⟩:=secsB_all _ _ h.secs
 exact⟨h.mlen,h.slen,h1,h2⟩
theorem RegOk.hl {r:TRegister} {d:Int} (h:RegOk r d):HoldOk r.Holdings (2*r.Moves.length):=h.run.ok
set_option maxHeartbeats 4000000 in
theorem gcheck_pf (r:TRegister) (d:Int) (h:RegOk r d):PFun Tryz.prog none none 52 [.agg r.cells] (·=iv 0):=by
 have hin:=h.regIn
 have h1:=hin.ml
 have h2:=hin.sl
 have h4:=h.hl
 refine pfun_intro Tryz.func52 rfl (by simp[Tryz.f52]) (by kernel_rfl) ?_
 intro E hP hr hs hW hN
 have d1:decide (20<(r.Securities.length:Int))=false:=decide_eq_false (by omega)
 have d2:decide (400<(r.Moves.length:Int))=false:=decide_eq_false (by omega)
 have ir:=imm_reg r
 simp -dsimp -implicitDefEqProofs [-getElem?_pos,go_sem,hP,cReg,encL_len,d1,d2]
 obtain⟨I,hI⟩:∃I:Nat→St→Prop,I=fun m s=>∃k:Nat,k≤r.Securities.length∧m=r.Securities.length-k∧s.t 1= .ref 0 0 0∧s.t 18=secsL r.Securities∧s.t 19=iv r.Securities.length∧s.t 20=iv k∧s.H[0]?=some (some ⟨45,3,[[secsL r.Securities,holdsL r.Holdings,movesL r.Moves]]⟩):=⟨_,rfl⟩
 refine aloop0 I (r.Securities.length) (by rw[hN];rfl) ?_ ?_
 ·rw[hI]
  exact⟨0,by omega,by omega,by simp -dsimp[-getElem?_pos,go_sem],by simp -dsimp[-getElem?_pos,go_sem],by simp -dsimp[-getElem?_pos,go_sem,encL_len],by simp -dsimp[-getElem?_pos,go_sem],by simp -dsimp[-getElem?_pos,go_sem]⟩
 intro m s hs'
 rw[hI]at hs'
 obtain⟨k,hk,hm,t1,t18,t19,t20,g0⟩:=hs'
 have l0:=(gsI g0)
 simp -dsimp -implicitDefEqProofs [-getElem?_pos,go_sem,hP,t19,t20]
 refine condP (fun hq=>?_) (fun hq=>?_)
 ·have hk:k<r.Securities.length:=by simpa using hq
  obtain⟨a,ha⟩:∃a,r.Securities[k]?=some a:=⟨_,List.getElem?_eq_getElem hk⟩
  have wk:=wrap_in ((k:Int)+1) (by omega)
  have sp:=gsec_pf a (hin.so a (List.mem_of_getElem? ha))
  rw[cSec]at sp
  have g0':∀x:Heap,(s.H++x)[0]?=some (some ⟨45,3,[[secsL r.Securities,holdsL r.Holdings,movesL r.Moves]]⟩):=fun x=>by rw[List.getElem?_append_left l0];exact g0
  simp -dsimp -implicitDefEqProofs [-getElem?_pos,go_sem,hP,t18,t20,ha,cSec]
  refine adrawB (fun _=>true) [] hP (by kernel_rfl) (by kernel_rfl) ?_
  simp -dsimp -implicitDefEqProofs [-getElem?_pos,go_sem,hP]
  refine callB_pure sp hP en_56 (args_same (by simp -dsimp[-getElem?_pos,go_sem])) .sc ?_
  by_cases k0:k=0
  ·subst k0
   have w1:=wrap_in 1 (by omega)
   simp -dsimp -implicitDefEqProofs [-getElem?_pos,go_sem,hP,t1,g0',t20,wk,w1]
   refine⟨r.Securities.length-1,by omega,?_⟩
   rw[hI]
   exact⟨1,by omega,rfl,by simp -dsimp[-getElem?_pos,go_sem,t1],by simp -dsimp[-getElem?_pos,go_sem,t18],by simp -dsimp[-getElem?_pos,go_sem,t19],by simp -dsimp[-getElem?_pos,go_sem,w1],by simp -dsimp[-getElem?_pos,go_sem,g0']⟩
  ·obtain⟨j,rfl⟩:∃j,k=j+1:=⟨k-1,by omega⟩
   obtain⟨z,hz⟩:∃z,r.Securities[j]?=some z:=⟨_,List.getElem?_eq_getElem (by omega)⟩
   have lt:=hin.asc j z a hz ha
   have dj:decide ((0:Int)<((j+1:Nat):Int))=true:=decide_eq_true (by omega)
   have wj:=wrap_in (((j+1:Nat):Int)-1) (by omega)
   have ej:((j+1:Nat):Int)-1=(j:Int):=by omega
   have dl:decide (a.ID≤z.ID)=false:=decide_eq_false (by omega)
   have lj:j<r.Securities.length:=by omega
   rw[ej]at wj
   have wk2:=wrap_in ((j:Int)+1+1) (by omega)
   simp -dsimp -implicitDefEqProofs [-getElem?_pos,go_sem,hP,t1,g0',t20,wk,wk2,dj,wj,ej,hz,cSec,dl,lj]
   refine⟨r.Securities.length-(j+1+1),by omega,?_⟩
   rw[hI]
   exact⟨j+1+1,by omega,rfl,by simp -dsimp[-getElem?_pos,go_sem,t1],by simp -dsimp[-getElem?_pos,go_sem,t18],by simp -dsimp[-getElem?_pos,go_sem,t19],by simp -dsimp[-getElem?_pos,go_sem,wk2],by simp -dsimp[-getElem?_pos,go_sem,g0']⟩
 ·have hk:k=r.Securities.length:=by simp at hq;omega
  subst hk
  have rm:=fun {row src:Option Nat}=>greplay_m (row:=row) (src:=src) r 101 [] ⟨r.Holdings,r.Moves.length,d⟩ s.H h.run hin.ml (by omega) hin.so en_101 fun m hm H' hk=>(mfun_of_flat ((gall_pf m).lift _ _) (args_same (by simp[imm_mov])) ⟨_,rfl⟩ (by rintro _ rfl;simp[flat_sc])).mono (by rintro x H'' ⟨rfl,rfl⟩;exact⟨rfl,kept_refl _ _⟩)
  rw[cReg]at rm
  simp -dsimp -implicitDefEqProofs [-getElem?_pos,go_sem,hP,t1,g0]
  refine callB_m (by rw[hr,hs];exact rm) hP en_100 ?_
  rintro x H1 ⟨c,hid,rfl,hc,_,_,kp⟩
  have a1:=kp _ _ (by simp) g0
  have l1:=(gsI a1)
  have oc:=hc.oc
  have lc:=(gsI oc)
  have ihl:=imm_holds r.Holdings
  have lq:=listEq_pf_hol r.Holdings r.Holdings (by have:=h4.len;omega) (by have:=h4.len;omega)
  rw[decide_eq_true rfl]at lq
  simp -dsimp -implicitDefEqProofs [-getElem?_pos,go_sem,hP]
  refine adrawB (fun _=>true) [] hP (by kernel_rfl) (by kernel_rfl) ?_
  simp -dsimp -implicitDefEqProofs [-getElem?_pos,go_sem,hP,t1,a1,l1,oc,lc]
  refine callB_flat (lq.lift _ _) hP en_102 (args_sref hc.oh (by rw[encL_len]) ihl (args_imm ihl (args_nil.2 trivial))) ⟨_,rfl⟩ (by rintro x rfl;simp[flat_sc]) ?_
  rintro x rfl
  simp -dsimp -implicitDefEqProofs [-getElem?_pos,go_sem,hP]
open Go.PA
open Go.RowKit
theorem clone_m_sec {row src:Option Nat} (l:List TSecurity) (H:Heap) (hl:l.length≤1000000):MFun Tryz.prog row src 105 [.list 7 (encL TSecurity.cells l)] H (fun r H'=>∃id,r= .sref id 0 l.length∧H.length≤id∧H'[id]?=some (some ⟨89,7,encL TSecurity.cells l⟩)∧Kept [] H H'):=by
 have own:MFun Tryz.prog row src 105 [.list 7 (encL TSecurity.cells l)] H (fun r H'=>(r= .nil∧l=[]∧H'=H)∨∃id,r= .sref id 0 l.length∧H.length≤id∧H'[id]?=some (some ⟨89,7,encL TSecurity.cells l⟩)∧Kept [] H H'):=by
  cases l with
  |nil=>
   refine mfun_list_nil fun A c=>?_
   refine mfun_intro Tryz.func105 rfl (by simp[Tryz.f105]) (by kernel_rfl) ⟨.nil,H,.inl ⟨rfl,rfl,rfl⟩⟩ ?_
   intro E hP hr hs hN
   cases A with
   |none=>simp -dsimp -implicitDefEqProofs [-getElem?_pos,go_sem,hP]
   |some a=>
    simp -dsimp -implicitDefEqProofs [-getElem?_pos,go_sem,hP]
    exact kept_app _ _ _
  |cons a l=>
   refine mfun_intro Tryz.func105 rfl (by simp[Tryz.f105]) (by kernel_rfl) ⟨_,H++[some ⟨89,7,encL TSecurity.cells (a::l)⟩],.inr ⟨H.length,rfl,Nat.le_refl _,by simp,kept_push _ (kept_refl _ _)⟩⟩ ?_
   intro E hP hr hs hN
   simp only[List.length_cons]at hl
   have e:encL TSecurity.cells (a::l)=TSecurity.cells a::encL TSecurity.cells l:=rfl
   simp -dsimp -implicitDefEqProofs [-getElem?_pos,go_sem,hP,e]
   refine⟨by omega,by omega,?_⟩
   exact kept_app _ _ _
 refine (own.ownNil 89 7).mono ?_
 rintro r H' (⟨H0,h0,rfl,rfl⟩|⟨hne,h⟩)
 ·rcases h0 with⟨_,rfl,rfl⟩|⟨id,h,_⟩
  ·exact⟨_,rfl,Nat.le_refl _,by simp[encL],kept_push _ (kept_refl _ _)⟩
  ·cases h
 ·rcases h with⟨h,_⟩|h
  ·exact absurd h hne
  ·exact h
theorem clone_m_hol {row src:Option Nat} (l:List THolding) (H:Heap) (hl:l.length≤1000000):MFun Tryz.prog row src 106 [.list 3 (encL THolding.cells l)] H (fun r H'=>∃id,r= .sref id 0 l.length∧H.length≤id∧H'[id]?=some (some ⟨173,3,encL THolding.cells l⟩)∧Kept [] H H'):=by
 have own:MFun Tryz.prog row src 106 [.list 3 (encL THolding.cells l)] H (fun r H'=>(r= .nil∧l=[]∧H'=H)∨∃id,r= .sref id 0 l.length∧H.length≤id∧H'[id]?=some (some ⟨173,3,encL THolding.cells l⟩)∧Kept [] H H'):=by
  cases l with
  |nil=>
   refine mfun_list_nil fun A c=>?_
   refine mfun_intro Tryz.func106 rfl (by simp[Tryz.f106]) (by kernel_rfl) ⟨.nil,H,.inl ⟨rfl,rfl,rfl⟩⟩ ?_
   intro E hP hr hs hN
   cases A with
   |none=>simp -dsimp -implicitDefEqProofs [-getElem?_pos,go_sem,hP]
   |some a=>
    simp -dsimp -implicitDefEqProofs [-getElem?_pos,go_sem,hP]
    exact kept_app _ _ _
  |cons a l=>
   refine mfun_intro Tryz.func106 rfl (by simp[Tryz.f106]) (by kernel_rfl) ⟨_,H++[some ⟨173,3,encL THolding.cells (a::l)⟩],.inr ⟨H.length,rfl,Nat.le_refl _,by simp,kept_push _ (kept_refl _ _)⟩⟩ ?_
   intro E hP hr hs hN
   simp only[List.length_cons]at hl
   have e:encL THolding.cells (a::l)=THolding.cells a::encL THolding.cells l:=rfl
   simp -dsimp -implicitDefEqProofs [-getElem?_pos,go_sem,hP,e]
   refine⟨by omega,by omega,?_⟩
   exact kept_app _ _ _
 refine (own.ownNil 173 3).mono ?_
 rintro r H' (⟨H0,h0,rfl,rfl⟩|⟨hne,h⟩)
 ·rcases h0 with⟨_,rfl,rfl⟩|⟨id,h,_⟩
  ·exact⟨_,rfl,Nat.le_refl _,by simp[encL],kept_push _ (kept_refl _ _)⟩
  ·cases h
 ·rcases h with⟨h,_⟩|h
  ·exact absurd h hne
  ·exact h
theorem clone_m_mov {row src:Option Nat} (l:List TMove) (H:Heap) (hl:l.length≤1000000):MFun Tryz.prog row src 33 [.list 7 (encL TMove.cells l)] H (fun r H'=>∃id,r= .sref id 0 l.length∧H.length≤id∧H'[id]?=some (some ⟨70,7,encL TMove.cells l⟩)∧Kept [] H H'):=by
 have own:MFun Tryz.prog row src 33 [.list 7 (encL TMove.cells l)] H (fun r H'=>(r= .nil∧l=[]∧H'=H)∨∃id,r= .sref id 0 l.length∧H.length≤id∧H'[id]?=some (some ⟨70,7,encL TMove.cells l⟩)∧Kept [] H H'):=by
  cases l with
  |nil=>
   refine mfun_list_nil fun A c=>?_
   refine mfun_intro Tryz.func33 rfl (by simp[Tryz.f33]) (by kernel_rfl) ⟨.nil,H,.inl ⟨rfl,rfl,rfl⟩⟩ ?_
   intro E hP hr hs hN
   cases A with
   |none=>simp -dsimp -implicitDefEqProofs [-getElem?_pos,go_sem,hP]
   |some a=>
    simp -dsimp -implicitDefEqProofs [-getElem?_pos,go_sem,hP]
    exact kept_app _ _ _
  |cons a l=>
   refine mfun_intro Tryz.func33 rfl (by simp[Tryz.f33]) (by kernel_rfl) ⟨_,H++[some ⟨70,7,encL TMove.cells (a::l)⟩],.inr ⟨H.length,rfl,Nat.le_refl _,by simp,kept_push _ (kept_refl _ _)⟩⟩ ?_
   intro E hP hr hs hN
   simp only[List.length_cons]at hl
   have e:encL TMove.cells (a::l)=TMove.cells a::encL TMove.cells l:=rfl
   simp -dsimp -implicitDefEqProofs [-getElem?_pos,go_sem,hP,e]
   refine⟨by omega,by omega,?_⟩
   exact kept_app _ _ _
 refine (own.ownNil 70 7).mono ?_
 rintro r H' (⟨H0,h0,rfl,rfl⟩|⟨hne,h⟩)
 ·rcases h0 with⟨_,rfl,rfl⟩|⟨id,h,_⟩
  ·exact⟨_,rfl,Nat.le_refl _,by simp[encL],kept_push _ (kept_refl _ _)⟩
  ·cases h
 ·rcases h with⟨h,_⟩|h
  ·exact absurd h hne
  ·exact h
structure RegC (H:Heap) (r:TRegister) (i1 i2 i3:Nat):Prop where
 o1:H[i1]?=some (some ⟨89,7,encL TSecurity.cells r.Securities⟩)
 o2:H[i2]?=some (some ⟨173,3,encL THolding.cells r.Holdings⟩)
 o3:H[i3]?=some (some ⟨70,7,encL TMove.cells r.Moves⟩)
theorem RegC.kept {H H':Heap} {r:TRegister} {i1 i2 i3:Nat} (h:RegC H r i1 i2 i3) (k:Kept [] H H'):RegC H' r i1 i2 i3:=⟨k _ _ (by simp) h.o1,k _ _ (by simp) h.o2,k _ _ (by simp) h.o3⟩
def regR (r:TRegister) (i1 i2 i3:Nat):List AV:=[.sref i1 0 r.Securities.length,.sref i2 0 r.Holdings.length,.sref i3 0 r.Moves.length]
theorem RegC.cw {H:Heap} {r:TRegister} {i1 i2 i3:Nat} (h:RegC H r i1 i2 i3):CW H (regR r i1 i2 i3) r.cells:=
 cw_sref h.o1 (by rw[encL_len]) (imm_secs _) (cw_sref h.o2 (by rw[encL_len]) (imm_holds _) (cw_sref h.o3 (by rw[encL_len]) (imm_moves _) .nil))
def CopyR (H:Heap) (r:TRegister) (x:AV) (H':Heap):Prop:=∃i1 i2 i3,x= .agg (regR r i1 i2 i3)∧RegC H' r i1 i2 i3∧H.length≤i1∧i1<i2∧i2<i3∧Kept [] H H'
set_option maxHeartbeats 4000000 in
theorem gcopy_m {row src:Option Nat} (r:TRegister) (H:Heap) (h1:r.Securities.length≤100000) (h2:r.Holdings.length≤100000) (h3:r.Moves.length≤100000):MFun Tryz.prog row src 57 [.agg r.cells] H (CopyR H r):=by
 obtain⟨C,hC⟩:∃C:AV→Heap→Prop,C=CopyR H r:=⟨_,rfl⟩
 rw[←hC]
 have ex:∃x H',C x H':=by
  rw[hC]
  refine⟨_,H++[some ⟨89,7,encL TSecurity.cells r.Securities⟩,some ⟨173,3,encL THolding.cells r.Holdings⟩,some ⟨70,7,encL TMove.cells r.Moves⟩],H.length,H.length+1,H.length+2,rfl,⟨by simp,?_,?_⟩,by omega,by omega,by omega,kept_app _ _ _⟩
  all_goals
   rw[List.getElem?_append_right (by omega)]
   simp
 refine mfun_intro Tryz.func57 rfl (by simp[Tryz.f57]) (by kernel_rfl) (ex) ?_
 intro E hP hr hs hN
 have i1:=imm_secs r.Securities
 have i2:=imm_holds r.Holdings
 have i3:=imm_moves r.Moves
 simp -dsimp -implicitDefEqProofs [-getElem?_pos,go_sem,hP,cReg]
 obtain⟨O,hO⟩:∃O:AObj,O=⟨45,3,[[secsL r.Securities,holdsL r.Holdings,movesL r.Moves]]⟩:=⟨_,rfl⟩
 obtain⟨Z,hZ⟩:∃Z:AObj,Z=⟨45,3,[[.nil,.nil,.nil]]⟩:=⟨_,rfl⟩
 obtain⟨H0,hH0⟩:∃H0:Heap,H0=H++[some O,some Z]:=⟨_,rfl⟩
 obtain⟨p,hp⟩:∃p,p=H.length:=⟨_,rfl⟩
 have a0:H0[p]?=some (some O):=by rw[hH0,hp];simp
 have z0:H0[p+1]?=some (some Z):=by rw[hH0,hp,List.getElem?_append_right (by omega)];simp
 have k0:Kept [] H H0:=by rw[hH0];exact kept_app _ _ _
 have l0:H0.length=p+2:=by rw[hH0,hp];simp
 rw[←hO,←hZ,←hH0,←hp]
 refine adrawB (fun i=>decide (i=p)) [] hP (by kernel_rfl) (by kernel_rfl) ?_
 simp -dsimp -implicitDefEqProofs [-getElem?_pos,go_sem,hP,restr_get,a0,hO]
 refine callB_m (by rw[hr,hs];exact clone_m_sec r.Securities H0 (by omega)) hP en_105 ?_
 rintro x H1 ⟨id1,rfl,hid1,ho1,hk1⟩
 have a1:=hk1 _ _ (by simp) a0
 have z1:=hk1 _ _ (by simp) z0
 simp -dsimp -implicitDefEqProofs [-getElem?_pos,go_sem,hP]
 refine⟨agree_p hk1 a0,?_⟩
 simp -dsimp -implicitDefEqProofs [-getElem?_pos,go_sem,hP,restr_get,a1,hO]
 refine callB_m (by rw[hr,hs];exact clone_m_hol r.Holdings H1 (by omega)) hP en_106 ?_
 rintro x H2 ⟨id2,rfl,hid2,ho2,hk2⟩
 have a2:=hk2 _ _ (by simp) a1
 have z2:=hk2 _ _ (by simp) z1
 simp -dsimp -implicitDefEqProofs [-getElem?_pos,go_sem,hP]
 refine⟨agree_p hk2 a1,?_⟩
 simp -dsimp -implicitDefEqProofs [-getElem?_pos,go_sem,hP,restr_get,a2,hO]
 refine callB_m (by rw[hr,hs];exact clone_m_mov r.Moves H2 (by omega)) hP en_33 ?_
 rintro x H3 ⟨id3,rfl,hid3,ho3,hk3⟩
 have a3:=hk3 _ _ (by simp) a2
 have z3:=hk3 _ _ (by simp) z2
 have lz3:=(gsI z3)
 have lz1:=(gsI z1)
 have lz2:=(gsI z2)
 have np:¬p=p+1:=by omega
 simp -dsimp -implicitDefEqProofs [-getElem?_pos,go_sem,hP]
 refine⟨agree_p hk3 a2,?_⟩
 simp -dsimp -implicitDefEqProofs [-getElem?_pos,go_sem,hP,restr_get,z3,lz3,hZ]
 refine⟨agree_ps np,?_⟩
 rw[hC]
 have n1:¬p+1=id1:=by omega
 have n2:¬p+1=id2:=by omega
 have n3:¬p+1=id3:=by omega
 have m1:=(gsI ho1)
 have m2:=(gsI ho2)
 refine⟨id1,id2,id3,rfl,⟨?_,?_,?_⟩,by omega,by omega,by omega,?_⟩
 ·rw[List.getElem?_set_ne n1];exact hk3 _ _ (by simp) (hk2 _ _ (by simp) ho1)
 ·rw[List.getElem?_set_ne n2];exact hk3 _ _ (by simp) ho2
 ·rw[List.getElem?_set_ne n3];exact ho3
 ·exact kept_new _ (by omega) (((k0.trans hk1).trans hk2).trans hk3)
end Go.Proofs.YtaenimpfelpafaaGreatDoor
