/- Several texts of this claim, joined: Reg4 Reg5 Reg6 Reg7 PaCell Reg8 Reg9 Reg10 Led1 Led2 Led3 Rec17 Rec18 Crt1 Rr1. -/
import Derived.Test.YtaenimpfelpafaaGreatDoorPk6
set_option linter.unusedSimpArgs false
set_option linter.unusedVariables false
set_option maxRecDepth 4000
namespace Go.Proofs.YtaenimpfelpafaaGreatDoor
open Go.PA
open Go.RowKit
set_option maxRecDepth 8000 in
set_option maxHeartbeats 2000000 in
theorem z7 {row src:Option Nat} (es:List (List AV)) (e:List AV) (i id:Nat) (H:ac) (hi:i≤es.length) (hl:es.length≤100000) (ho:H[id]?=some (some ⟨173,3,es⟩)) (he0:e≠[]):
  MFun Tryz.prog row src 283 [.sref id 0 es.length,iv i,.list 3 [e]] H (fun r H'=>∃jd,r= .sref jd 0 (es.length+1)∧(jd=id∨H.length≤jd)∧H'[jd]?=some (some ⟨173,3,es.take i++e::es.drop i⟩)∧Kept [id] H H'):=by
 obtain⟨C,hC⟩:∃C:AV→ac→Prop,C=fun r H'=>∃jd,r= .sref jd 0 (es.length+1)∧(jd=id∨H.length≤jd)∧H'[jd]?=some (some ⟨173,3,es.take i++e::es.drop i⟩)∧Kept [id] H H':=⟨_,rfl⟩
 rw[←hC]
 have ex:∃r H',C r H':=by
  rw[hC]
  exact⟨.sref H.length 0 (es.length+1),H++[some ⟨173,3,es.take i++e::es.drop i⟩],H.length,rfl,.inr (Nat.le_refl _),by simp,aK _ _ _⟩
 have lid:=(gsI ho)
 obtain⟨n,hn⟩:∃n,n=es.length:=⟨_,rfl⟩
 rw[←hn]at hi hl hC⊢
 by_cases hin:i=n
 ·subst hin
  refine aI Tryz.func283 rfl (by simp[Tryz.f283]) (by kernel_rfl) (ex) ?_
  intro E hP hr hs hN
  by_cases h0:i=0
  ·subst h0
   simp -dsimp -implicitDefEqProofs [-getElem?_pos,go_sem,hP,ho,←hn,bg,cK,cD]
   rw[hC]
   exact⟨H.length,rfl,.inr (Nat.le_refl _),by simp -dsimp[-getElem?_pos,go_sem,List.eq_nil_of_length_eq_zero hn.symm],(bK none (by simp) (au _ _)).trans (aK _ _ _)⟩
  ·simp -dsimp -implicitDefEqProofs [-getElem?_pos,go_sem,hP,ho,←hn,h0,bg,cK,cD]
   refine⟨by omega,by omega,?_⟩
   rw[hC]
   exact⟨H.length,rfl,.inr (Nat.le_refl _),by simp -dsimp[-getElem?_pos,go_sem,hn],(bK none (by simp) (au _ _)).trans (aK _ _ _)⟩
 ·have hlt:i<n:=by omega
  have hin':¬(i:Int)=n:=by omega
  have w1:=af ((n:Int)+1) (by omega)
  have w2:=af ((i:Int)+1) (by omega)
  have w3:=af ((n:Int)+1-i) (by omega)
  have hesne:es≠[]:=by intro e0;simp[e0]at hn;omega
  refine sK (C:=fun r H'=>C r H'∨∃N,r= .full id 0 (n+1) N∧∃o,H'[id]?=some (some o)∧n+1≤o.es.length∧C (.sref id 0 (n+1)) H') ?_ (fun r H' h=>?_)
  rotate_left
  ·rcases h with h|⟨N,h1,o,h2,h3,h4⟩
   ·exact .inl h
   ·exact .inr ⟨id,n+1,N,o,h1,h2,h3,h4⟩
  refine yF ho hesne (by dsimp only;omega) fun N hN0=>?_
  dsimp only at hN0
  obtain⟨D,hD⟩:∃D:AV→ac→Prop,D=fun r H'=>C r H'∨∃N,r= .full id 0 (n+1) N∧∃o,H'[id]?=some (some o)∧n+1≤o.es.length∧C (.sref id 0 (n+1)) H':=⟨_,rfl⟩
  rw[←hD]
  have exD:∃r H',D r H':=by
   obtain⟨r,H',h⟩:=ex
   rw[hD]
   exact⟨r,H',.inl h⟩
  have fx:∀(id n N:Nat),(if i=0 then some (AV.full id 0 n N)else some (AV.full id i (n-i) N))=some (.full id i (n-i) N):=fun id n N=>by
   split
   ·subst i;rfl
   ·rfl
  have nN:n≤N:=by omega
  have iN:i≤N:=by omega
  have a1:(0:Int)≤(n:Int)+1:=by omega
  have a3:(0:Int)≤(i:Int)+1:=by omega
  have a4:(i:Int)+1≤(n:Int)+1:=by omega
  refine aI Tryz.func283 rfl (by simp[Tryz.f283]) (by kernel_rfl) (exD) ?_
  intro E hP hr hs hN
  by_cases hroom:N<n+1
  ·have dN:decide ((N:Int)<(n:Int)+1)=true:=decide_eq_true (by omega)
   obtain⟨zs,hz⟩:=Option.isSome_iff_exists.1 (show (bP Tryz.prog 173).isSome=true by kernel_rfl)
   have hbt:bX Tryz.prog 173=24:=by kernel_rfl
   have hm:(n:Int)+1-i=((n+1-i:Nat):Int):=by omega
   have sx:∀(id n:Nat),(if i=0 then some (AV.sref id 0 n)else some (AV.sref id i (n-i)))=some (.sref id i (n-i)):=fun id n=>by
    split
    ·subst i;rfl
    ·rfl
   simp -dsimp -implicitDefEqProofs [-getElem?_pos,go_sem,hP,dN,ho,←hn,hin,hin',bg,cK,cD,w1,w2,w3,hroom,hi,nN,iN,a1,a3,a4,fx]
   refine De (e:=173) (m:=n+1-i) (L:=n+1) (kn:= .i64) (zs:=zs) ho (by rw[hP];kernel_rfl) (by rw[hP];kernel_rfl) (by rw[hP];kernel_rfl) (by omega) rfl (by rw[hP];exact hz) (by omega) hm (by omega) (by omega) hroom (by omega) (by rw[hP,hbt];omega) ?_
   have ho2:(H++[some (⟨173,3,es.take i++List.replicate (n+1-i) zs⟩:AObj)])[id]?=some (some ⟨173,3,es⟩):=by rw[List.getElem?_append_left lid];exact ho
   have hl1:(es.take i++List.replicate (n+1-i) zs).length=n+1:=by simp;omega
   have a7:(i:Int)≤(n:Int)+1:=by omega
   have a8:¬((i:Int)=(n:Int)+1):=by omega
   have a9:i≤n+1:=by omega
   have a10:¬i=n+1:=by omega
   have hA:(es.take i).length=i:=by simp;omega
   have d1:(es.take i++List.replicate (n+1-i) zs).drop (i+1)=List.replicate (n-i) zs:=by
    rw[List.drop_append,List.drop_of_length_le (by omega),hA,List.nil_append,List.drop_replicate]
    congr 1
    omega
   simp -dsimp -implicitDefEqProofs [-getElem?_pos,go_sem,hP,ho2,bg,cK,cD,a7,a8,a9,a10,sx]
   refine pK (e:=173) (ty:=173) (k:=3) (lo:=i) (dn:=n+1-i) (m:=1) (es:=es.take i++List.replicate (n+1-i) zs) (news:=[e]) (es':=es.take i++e::List.replicate (n-i) zs) (by simp) (.inl rfl) (by rw[hP];kernel_rfl) (by rw[hP];kernel_rfl) (by omega) (by rw[hP];kernel_rfl) ?_ rfl (by omega) (by omega) (by simp;omega) ?_ ?_
   ·simp only[je]
    rw[if_pos (by rw[hP];kernel_rfl)]
   ·rw[d1,List.take_append_of_le_length (by omega),List.take_of_length_le (by omega)]
    simp
   have ho3:(H++[some (⟨173,3,es.take i++e::List.replicate (n-i) zs⟩:AObj)])[id]?=some (some ⟨173,3,es⟩):=by rw[List.getElem?_append_left lid];exact ho
   have a5:¬((i:Int)+1=0):=by omega
   have a6:((n:Int)+1-((i:Int)+1)).toNat=n-i:=by omega
   have a11:¬((i:Int)+1=(n:Int)+1):=by omega
   simp -dsimp -implicitDefEqProofs [-getElem?_pos,go_sem,hP]
   refine ao (fun _=>true) [8] hP (by kernel_rfl) (by kernel_rfl) ?_
   simp -dsimp -implicitDefEqProofs [-getElem?_pos,go_sem,hP,ho3,←hn,hin,hin',bg,cK,cD,w1,w2,hi,nN,iN,a1,a3,a4,a5,a6,a7,a8,a11,fx,sx]
   refine pK (e:=173) (ty:=173) (k:=3) (lo:=i+1) (dn:=n-i) (m:=n-i) (es:=es.take i++e::List.replicate (n-i) zs) (news:=es.drop i) (es':=es.take i++e::es.drop i) (by simp) (.inl rfl) (by rw[hP];kernel_rfl) (by rw[hP];kernel_rfl) (by omega) (by rw[hP];kernel_rfl) ?_ (by simp[←hn]) (by omega) (by omega) (by simp;omega) ?_ ?_
   ·simp only[je,ho3]
    rw[if_pos ⟨by rw[hP];kernel_rfl,by omega⟩,List.take_of_length_le (by simp;omega)]
   ·rw[show es.take i++e::List.replicate (n-i) zs=(es.take i++[e])++List.replicate (n-i) zs from by simp,List.take_append_of_le_length (by simp;omega),List.take_of_length_le (by simp;omega),List.drop_of_length_le (show ((es.take i++[e])++List.replicate (n-i) zs).length≤i+1+(n-i) by simp;omega)]
    simp
   simp -dsimp -implicitDefEqProofs [-getElem?_pos,go_sem,hP]
   rw[hD,hC]
   exact .inl ⟨H.length,rfl,.inr (Nat.le_refl _),by simp,aK _ _ _⟩
  ·have dN:decide ((N:Int)<(n:Int)+1)=false:=decide_eq_false (by omega)
   have a2:(n:Int)+1≤N:=by omega
   have a5:¬((i:Int)+1=0):=by omega
   have a6:((n:Int)+1-((i:Int)+1)).toNat=n-i:=by omega
   have a7:(i:Int)≤(n:Int)+1:=by omega
   have a8:¬((i:Int)=(n:Int)+1):=by omega
   simp -dsimp -implicitDefEqProofs [-getElem?_pos,go_sem,hP,dN,ho,←hn,hin,hin',bg,cK,cD,w1,w2,w3,hroom,hi,nN,iN,a1,a2,a3,a4,a5,a6,a7,a8,fx]
   refine tT (t:=42) (e:=173) (tR:=4) (fn:=Tryz.f307) (id':=id) (lo':=i+1) (dn':=n-i) (by rw[hP];exact Tryz.func307) (by kernel_rfl) (by kernel_rfl) (by kernel_rfl) (by kernel_rfl) (by rw[hP];kernel_rfl) (by rw[hP];kernel_rfl) he0 (.inr ⟨N,rfl⟩) ho (by omega) ?_
   simp -dsimp -implicitDefEqProofs [-getElem?_pos,go_sem,hP]
   refine ao (fun _=>true) [8] hP (by kernel_rfl) (by kernel_rfl) ?_
   simp -dsimp -implicitDefEqProofs [-getElem?_pos,go_sem,hP,dN,ho,←hn,hin,hin',bg,cK,cD,w1,w2,w3,hroom,hi,nN,iN,a1,a2,a3,a4,a5,a6,a7,a8,fx]
   refine D9 (e:=173) (lo:=i+1) (dn:=n-i) (news:=es.drop i) (es':=es.take (i+1)++es.drop i) ho (.inr ⟨N,rfl⟩) (by rw[hP];kernel_rfl) (by rw[hP];kernel_rfl) (by omega) (by rw[hP];kernel_rfl) ?_ (by simp[←hn]) (by omega) (by omega) (by omega) (by rw[List.drop_of_length_le (show es.length≤i+1+(n-i) by omega),List.append_nil]) ?_
   ·simp only[je,ho]
    rw[if_pos ⟨by rw[hP];kernel_rfl,by omega⟩,List.take_of_length_le (by simp;omega)]
   simp -dsimp -implicitDefEqProofs [-getElem?_pos,go_sem,hP,lid,ho,bg,cK,cD,a2,a7,a8,fx]
   refine pK (e:=173) (ty:=173) (k:=3) (lo:=i) (dn:=n+1-i) (m:=1) (es:=es.take (i+1)++es.drop i) (news:=[e]) (es':=es.take i++e::es.drop i) (by simp[lid]) (.inr ⟨N,rfl⟩) (by rw[hP];kernel_rfl) (by rw[hP];kernel_rfl) (by omega) (by rw[hP];kernel_rfl) ?_ rfl (by omega) (by omega) (by simp[←hn];omega) ?_ ?_
   ·simp only[je]
    rw[if_pos (by rw[hP];kernel_rfl)]
   ·rw[List.take_append_of_le_length (by simp;omega),List.take_take,Nat.min_eq_left (by omega),List.drop_append_of_le_length (by simp;omega),List.drop_of_length_le (by simp;omega)]
    simp
   simp -dsimp -implicitDefEqProofs [-getElem?_pos,go_sem,hP,lid]
   rw[hD,hC]
   simp only[List.set_set]
   exact .inr ⟨N,rfl,⟨173,3,es.take i++e::es.drop i⟩,by simp[lid],by simp[←hn];omega,id,rfl,.inl rfl,by simp[lid],bK _ (by simp) (au _ _)⟩
set_option maxHeartbeats 2000000 in
theorem Am {row src:Option Nat} (es:List (List AV)) (i id:Nat) (H:ac) (hi:i<es.length) (hl:es.length≤100000) (ho:H[id]?=some (some ⟨173,3,es⟩)):
  MFun Tryz.prog row src 284 [.sref id 0 es.length,iv i,iv ((i:Int)+1)] H (fun r H'=>∃tl,r= .sref id 0 (es.length-1)∧H'[id]?=some (some ⟨173,3,es.take i++es.drop (i+1)++tl⟩)∧Kept [id] H H'):=by
 obtain⟨C,hC⟩:∃C:AV→ac→Prop,C=fun r H'=>∃tl,r= .sref id 0 (es.length-1)∧H'[id]?=some (some ⟨173,3,es.take i++es.drop (i+1)++tl⟩)∧Kept [id] H H':=⟨_,rfl⟩
 rw[←hC]
 have lid:=(gsI ho)
 have ex:∃r H',C r H':=by
  rw[hC]
  exact⟨.sref id 0 (es.length-1),H.set id (some ⟨173,3,es.take i++es.drop (i+1)++[]⟩),[],rfl,by simp[lid],bK _ (by simp) (au _ _)⟩
 obtain⟨n,hn⟩:∃n,n=es.length:=⟨_,rfl⟩
 rw[←hn]at hi hl hC⊢
 have hesne:es≠[]:=by intro e0;simp[e0]at hn;omega
 refine sK (C:=fun r H'=>∃N,r= .full id 0 (n-1) N∧∃o,H'[id]?=some (some o)∧n-1≤o.es.length∧C (.sref id 0 (n-1)) H') ?_ (fun r H' h=>?_)
 rotate_left
 ·obtain⟨N,h1,o,h2,h3,h4⟩:=h
  exact .inr ⟨id,n-1,N,o,h1,h2,h3,h4⟩
 refine yF ho hesne (by dsimp only;omega) fun N hN0=>?_
 dsimp only at hN0
 obtain⟨D,hD⟩:∃D:AV→ac→Prop,D=fun r H'=>∃N,r= .full id 0 (n-1) N∧∃o,H'[id]?=some (some o)∧n-1≤o.es.length∧C (.sref id 0 (n-1)) H':=⟨_,rfl⟩
 rw[←hD]
 have exD:∃r H',D r H':=by
  rw[hD,hC]
  refine⟨.full id 0 (n-1) n,H.set id (some ⟨173,3,es.take i++es.drop (i+1)++[]⟩),n,rfl,⟨173,3,es.take i++es.drop (i+1)++[]⟩,by simp[lid],by simp;omega,[],rfl,by simp[lid],bK _ (by simp) (au _ _)⟩
 obtain⟨zs,hz⟩:=Option.isSome_iff_exists.1 (show (bP Tryz.prog 173).isSome=true by kernel_rfl)
 have nN:n≤N:=by omega
 have iN:i≤N:=by omega
 have b1:(0:Int)≤i:=by omega
 have b2:(i:Int)≤(i:Int)+1:=by omega
 have b3:(i:Int)+1≤n:=by omega
 have b4:¬(i:Int)=(i:Int)+1:=by omega
 have b5:(0:Int)≤(i:Int)+1:=by omega
 have b6:¬((i:Int)+1=0):=by omega
 have fin:∀(es1:List (List AV)),es1.take (n-1)=es.take i++es.drop (i+1)→es1.length=n→(H1:ac)→H1[id]?=some (some ⟨173,3,es1⟩)→Kept [id] H H1→D (.full id 0 (n-1) N) (H1.set id (some ⟨173,3,es.take i++es.drop (i+1)++[zs]⟩)):=fun es1 h1 h2 H1 h3 h4=>by
  have l1:=(gsI h3)
  rw[hD,hC]
  exact⟨N,rfl,⟨173,3,es.take i++es.drop (i+1)++[zs]⟩,by simp[l1],by simp[←hn];omega,[zs],rfl,by simp[l1],bK _ (by simp) h4⟩
 refine aI Tryz.func284 rfl (by simp[Tryz.f284]) (by kernel_rfl) (exD) ?_
 intro E hP hr hs hN
 simp -dsimp -implicitDefEqProofs [-getElem?_pos,go_sem,hP,ho,←hn,bg,cK,cD,nP,b1,b2,b3,b4,b5]
 refine ao (fun _=>true) [6] hP (by kernel_rfl) (by kernel_rfl) ?_
 have sx:(if n-1=0 then some (AV.full id 0 n N)else some (AV.full id (n-1) 1 N))=some (.full id (n-1) 1 N):=by
  split
  ·rename_i h0;rw[h0,show n=1 by omega]
  ·rfl
 have n4:¬(((n-1:Nat):Int)=(n:Int)):=by omega
 have n1:n-(n-1)=1:=by omega
 have n2:n-1≤n:=by omega
 have n3:¬(n-1=n):=by omega
 have n0:¬n=0:=by omega
 by_cases hlast:i+1=n
 ·have c1:(i:Int)+1=n:=by omega
  have iN1:i=n-1:=by omega
  simp -dsimp -implicitDefEqProofs [-getElem?_pos,go_sem,hP,ho,←hn,bg,cK,cD,b1,b2,b3,b4,b5,b6,c1,iN,nN,n0]
  refine As (e:=173) (L:=n-1) (o:=⟨173,3,es⟩) ho (by rw[hP];kernel_rfl) (by rw[hP];kernel_rfl) iN iN1 ?_
  simp -dsimp -implicitDefEqProofs [-getElem?_pos,go_sem,hP,ho,bg,cK,cD,n1,n2,n3,n4,nN,sx]
  refine ky (e:=173) (es':=es.take i++es.drop (i+1)++[zs]) ho (.inr ⟨N,rfl⟩) (by rw[hP];kernel_rfl) (by rw[hP];kernel_rfl) (by omega) (by rw[hP];exact hz) (by omega) (by omega) ?_ ?_
  ·rw[List.drop_of_length_le (show es.length≤n-1+1 by omega),List.drop_of_length_le (show es.length≤i+1 by omega),iN1]
   simp
  simp -dsimp -implicitDefEqProofs [-getElem?_pos,go_sem,hP]
  have:=fin es (by rw[List.drop_of_length_le (show es.length≤i+1 by omega),iN1];simp) hn.symm H ho (au _ _)
  simpa using this
 ·have c1:¬(i:Int)+1=n:=by omega
  have c2:(n:Int)-((i:Int)+1)=((n-(i+1):Nat):Int):=by omega
  simp -dsimp -implicitDefEqProofs [-getElem?_pos,go_sem,hP,ho,←hn,bg,cK,cD,b1,b2,b3,b4,b5,b6,c1,c2,iN,nN]
  refine Ak (e:=173) (L:=n-1) (m:=n-(i+1)) (news:=es.drop (i+1)) (es':=es.take i++es.drop (i+1)++es.drop (n-1)) ho (by rw[hP];kernel_rfl) (by rw[hP];kernel_rfl) (by omega) (by rw[hP];kernel_rfl) ?_ (by simp[←hn]) (by omega) (by omega) (by omega) rfl (by omega) ?_
  ·simp only[je,ho]
   rw[if_pos ⟨by rw[hP];kernel_rfl,by omega⟩,List.take_of_length_le (by simp;omega)]
  simp -dsimp -implicitDefEqProofs [-getElem?_pos,go_sem,hP,lid,bg,cK,cD,n1,n2,n3,n4,nN,sx]
  have hl2:(es.take i++es.drop (i+1)).length=n-1:=by simp;omega
  refine ky (e:=173) (ty:=173) (k:=3) (es:=es.take i++es.drop (i+1)++es.drop (n-1)) (es':=es.take i++es.drop (i+1)++[zs]) (by simp[lid]) (.inr ⟨N,rfl⟩) (by rw[hP];kernel_rfl) (by rw[hP];kernel_rfl) (by omega) (by rw[hP];exact hz) (by omega) (by simp;omega) ?_ ?_
  ·rw[List.take_append_of_le_length (by omega),List.take_of_length_le (by omega),List.drop_of_length_le (show (es.take i++es.drop (i+1)++es.drop (n-1)).length≤n-1+1 by rw[List.length_append,hl2,List.length_drop];omega)]
   simp
  simp -dsimp -implicitDefEqProofs [-getElem?_pos,go_sem,hP]
  have:=fin (es.take i++es.drop (i+1)++es.drop (n-1)) (by rw[List.take_append_of_le_length (by omega),List.take_of_length_le (by omega)]) (by rw[List.length_append,hl2,List.length_drop];omega) (H.set id (some ⟨173,3,es.take i++es.drop (i+1)++es.drop (n-1)⟩)) (by simp[lid]) (bK _ (by simp) (au _ _))
  simpa using this
theorem Cb {row src:Option Nat} (es:List (List AV)) (i id:Nat) (H:ac) (hi:i<es.length) (hl:es.length≤100000) (ho:H[id]?=some (some ⟨173,3,es⟩)):
  MFun Tryz.prog row src 284 [.sref id 0 es.length,iv i,iv ((i:Int)+1)] H (fun r H'=>∃jd,r= .sref jd 0 (es.length-1)∧(∀(x:Nat) (o:AObj),x≠id→H[x]?=some (some o)→x<jd)∧H'[jd]?=some (some ⟨173,3,es.take i++es.drop (i+1)⟩)∧Kept [id] H H'):=by
 refine Ki (Am es i id H hi hl ho) ?_
 rintro r H' ⟨tl,rfl,h1,h2⟩
 have hn:(es.take i++es.drop (i+1)).length=es.length-1:=by simp;omega
 refine⟨id,_,_,rfl,h1,by dsimp only;rw[List.length_append,hn];omega,H'.length,rfl,fun x o hx e=>?_,?_,?_⟩
 ·exact (List.getElem?_eq_some_iff.1 (h2 x o (by simpa using hx) e)).1
 ·dsimp only
  rw[List.take_append_of_le_length (by omega),List.take_of_length_le (by omega)]
  simp
 ·exact h2.trans ((bK none (by simp) (au _ _)).trans (aK _ _ _))
theorem OE {row src:Option Nat} (c:Nat) (sx hx n d:AV) (l:List THolding) (id h:Int) (H:ac) (hc:H[c]?=some (some ⟨183,4,[[sx,hx,n,d]]⟩)) (hsl:SlIs H hx 3 (aj THolding.cells l)) (hl:l.length≤100000) (ho:l.Pairwise hR):
  MFun Tryz.prog row src 231 [.ref c 0 0,iv id,iv h] H (fun r H'=>r=iv (ff l id h)∧Kept [] H H'):=by
 obtain⟨v,hv⟩:∃v,v=ff l id h:=⟨_,rfl⟩
 rw[←hv]
 obtain⟨C,hC⟩:∃C:AV→ac→Prop,C=fun r H'=>r=iv v∧Kept [] H H':=⟨_,rfl⟩
 rw[←hC]
 have ex:∃r H',C r H':=⟨_,H,by rw[hC];exact⟨rfl,au _ _⟩⟩
 obtain⟨k,hk,hm,hcase⟩:=mf (hOk id h) ho
 have pm:=fun {row src:Option Nat}=>Bp (row:=row) (src:=src) c sx hx n d l id h k H hc hsl hl hk hm
 rcases hcase with⟨x,e1,e2,e3,_⟩|⟨e1,e3,_⟩
 ·have hb:(l[k]?).any (hIs id h)=true:=by rw[e1];exact e2
  have ev:v=x.Amount:=by rw[hv];exact e3
  have lk:=(gsI e1)
  rw[hb]at pm
  refine aI Tryz.func231 rfl (by simp[Tryz.f231]) (by kernel_rfl) (ex) ?_
  intro E hP hr hs hN
  simp -dsimp -implicitDefEqProofs [-getElem?_pos,go_sem,hP]
  refine aM (by rw[hr,hs];exact pm) hP zI ?_
  rintro r H' ⟨rfl,kp⟩
  have c1:=kp _ _ (by simp) hc
  have s1:=hsl.kept kp
  have lc1:=(gsI c1)
  rcases s1 with rfl|⟨rfl,e⟩|⟨hid,ty,rfl,hh⟩
  ·simp -dsimp -implicitDefEqProofs [-getElem?_pos,go_sem,hP,c1,lc1,e1,fP]
   rw[hC]
   exact⟨by rw[ev],kp⟩
  ·exfalso
   cases l with
   |nil=>simp at lk
   |cons _ _=>simp[aj]at e
  ·have lh:=(gsI hh)
   simp -dsimp -implicitDefEqProofs [-getElem?_pos,go_sem,hP,c1,lc1,hh,lh,e1,fP,al,lk]
   rw[hC]
   exact⟨by rw[ev],kp⟩
 ·have hb:(l[k]?).any (hIs id h)=false:=by
   cases e:l[k]? with
   |none=>rfl
   |some x=>simpa using e1 x e
  have ev:v=0:=by rw[hv];exact e3
  rw[hb]at pm
  refine aI Tryz.func231 rfl (by simp[Tryz.f231]) (by kernel_rfl) (ex) ?_
  intro E hP hr hs hN
  simp -dsimp -implicitDefEqProofs [-getElem?_pos,go_sem,hP]
  refine aM (by rw[hr,hs];exact pm) hP zI ?_
  rintro r H' ⟨rfl,kp⟩
  simp -dsimp -implicitDefEqProofs [-getElem?_pos,go_sem,hP]
  rw[hC]
  exact⟨by rw[ev],kp⟩
theorem qY {l:List THolding} {N:Nat} (h:HoldOk l N) (id:Int) (k:Nat):0≤eh (l.take k) id∧eh (l.take k) id≤1000000000000:=by
 have h1:=iu (pN id) hAm (l.take k) fun x hx=>h.pos x (List.mem_of_mem_take hx)
 have h2:=iu (pN id) hAm (l.drop k) fun x hx=>h.pos x (List.mem_of_mem_drop hx)
 have h3:=kC (pN id) hAm (l.take k) (l.drop k)
 rw[List.take_append_drop]at h3
 have h4:=h.tot id
 unfold eh at*
 omega
theorem HJ {l:List THolding} {k:Nat} {x:THolding} (hx:l[k]?=some x) (id:Int):eh (l.take (k+1)) id=eh (l.take k) id+if x.Security=id then x.Amount else 0:=by
 unfold eh
 rw[List.take_add_one,hx,kC]
 simp only[Option.toList_some,cZ,pU,pN,decide_eq_true_eq,hAm]
 omega
theorem MN {row src:Option Nat} (c:Nat) (sx hx n d:AV) (l:List THolding) (N:Nat) (id:Int) (H:ac) (hc:H[c]?=some (some ⟨183,4,[[sx,hx,n,d]]⟩)) (hsl:SlIs H hx 3 (aj THolding.cells l)) (hl:l.length≤100000) (ho:HoldOk l N):
  MFun Tryz.prog row src 232 [.ref c 0 0,iv id] H (fun r H'=>r=iv (eh l id)∧Kept [] H H'):=by
 obtain⟨v,hv⟩:∃v,v=eh l id:=⟨_,rfl⟩
 rw[←hv]
 obtain⟨C,hC⟩:∃C:AV→ac→Prop,C=fun r H'=>r=iv v∧Kept [] H H':=⟨_,rfl⟩
 rw[←hC]
 have ex:∃r H',C r H':=⟨_,H,by rw[hC];exact⟨rfl,au _ _⟩⟩
 have lc:=(gsI hc)
 have hlen:=hsl.len
 rw[al]at hlen
 refine aI Tryz.func232 rfl (by simp[Tryz.f232]) (by kernel_rfl) (ex) ?_
 intro E hP hr hs hN
 simp -dsimp -implicitDefEqProofs [-getElem?_pos,go_sem,hP,hc,lc,hlen]
 obtain⟨I,hI⟩:∃I:Nat→St→Prop,I=fun m s=>∃(k:Nat) (w:Int),k≤l.length∧m=l.length-k∧w=eh (l.take k) id∧s.t 0= .ref c 0 0∧s.t 1=iv id∧s.t 5=iv w∧s.t 11=hx∧s.t 12=iv l.length∧s.t 13=iv k∧Kept [] H s.H:=⟨_,rfl⟩
 refine ay I (l.length) (by rw[hN];rfl) ?_ ?_
 ·rw[hI]
  exact⟨0,0,by omega,by omega,rfl,by simp -dsimp[-getElem?_pos,go_sem],by simp -dsimp[-getElem?_pos,go_sem],by simp -dsimp[-getElem?_pos,go_sem],by simp -dsimp[-getElem?_pos,go_sem],by simp -dsimp[-getElem?_pos,go_sem],by simp -dsimp[-getElem?_pos,go_sem],by simp -dsimp[-getElem?_pos,go_sem];exact au _ _⟩
 intro m s hs'
 rw[hI]at hs'
 obtain⟨k,w,hk,hm,hw,t0,t1,t5,t11,t12,t13,kp⟩:=hs'
 simp -dsimp -implicitDefEqProofs [-getElem?_pos,go_sem,hP,t12,t13]
 refine aB (fun hq=>?_) (fun hq=>?_)
 ·have hk:k<l.length:=by simpa using hq
  obtain⟨a,ha⟩:∃a,l[k]?=some a:=⟨_,List.getElem?_eq_getElem hk⟩
  have wk:=af ((k:Int)+1) (by omega)
  obtain⟨ad,h1,h2⟩:=(hsl.kept kp).idx (P:=Tryz.prog) (t:=42) (e:=173) PP (by rw[Oy]) Pi k (by rw[al];exact hk)
  have h2':aJ s.H ad=some [iv a.Security,iv a.Holder,iv a.Amount]:=by
   rw[h2]
   have:=wr THolding.cells l k
   rw[ha,List.getElem?_eq_getElem (by rw[al];exact hk)]at this
   exact this
  have hs2:=HJ ha id
  have hb:=qY ho id (k+1)
  rw[←hw]at hs2
  by_cases e:a.Security=id
  ·rw[if_pos e]at hs2
   have wa:=af (w+a.Amount) (by omega)
   simp -dsimp -implicitDefEqProofs [-getElem?_pos,go_sem,hP,t13,t11,h1,h2',t1,t5,e,wa,wk]
   refine⟨l.length-(k+1),by omega,?_⟩
   rw[hI]
   exact⟨k+1,_,by omega,rfl,hs2.symm,by simp -dsimp[-getElem?_pos,go_sem,t0],by simp -dsimp[-getElem?_pos,go_sem,t1],by simp -dsimp[-getElem?_pos,go_sem],by simp -dsimp[-getElem?_pos,go_sem,t11],by simp -dsimp[-getElem?_pos,go_sem,t12],by simp -dsimp[-getElem?_pos,go_sem],by simp -dsimp[-getElem?_pos,go_sem];exact kp.trans (aK _ _ _)⟩
  ·rw[if_neg e,Int.add_zero]at hs2
   simp -dsimp -implicitDefEqProofs [-getElem?_pos,go_sem,hP,t13,t11,h1,h2',t1,t5,e,wk]
   refine⟨l.length-(k+1),by omega,?_⟩
   rw[hI]
   exact⟨k+1,_,by omega,rfl,hs2.symm,by simp -dsimp[-getElem?_pos,go_sem,t0],by simp -dsimp[-getElem?_pos,go_sem,t1],by simp -dsimp[-getElem?_pos,go_sem,t5],by simp -dsimp[-getElem?_pos,go_sem,t11],by simp -dsimp[-getElem?_pos,go_sem,t12],by simp -dsimp[-getElem?_pos,go_sem],by simp -dsimp[-getElem?_pos,go_sem];exact kp.trans (aK _ _ _)⟩
 ·have hk:k=l.length:=by simp at hq;omega
  subst hk
  rw[List.take_length,←hv]at hw
  simp -dsimp -implicitDefEqProofs [-getElem?_pos,go_sem,hP,t5]
  rw[hC]
  exact⟨by rw[hw],kp⟩
open Go.PA
open Go.RowKit
structure Clk (H:ac) (c hid:Nat) (sx:AV) (l:List THolding) (n d:Int):Prop where
 oc:H[c]?=some (some ⟨183,4,[[sx,.sref hid 0 l.length,iv n,iv d]]⟩)
 oh:H[hid]?=some (some ⟨173,3,aj THolding.cells l⟩)
 ne:c≠hid
theorem Clk.kept {H H':ac} {c hid:Nat} {sx:AV} {l:List THolding} {n d:Int} (h:Clk H c hid sx l n d) (k:Kept [] H H'):Clk H' c hid sx l n d:=⟨k _ _ (by simp) h.oc,k _ _ (by simp) h.oh,h.ne⟩
theorem Clk.sl {H:ac} {c hid:Nat} {sx:AV} {l:List THolding} {n d:Int} (h:Clk H c hid sx l n d):SlIs H (.sref hid 0 l.length) 3 (aj THolding.cells l):= .inr (.inr ⟨hid,_,by rw[al],h.oh⟩)
theorem rG {α:Type} (enc:α→List AV):∀(l:List α) (k:Nat) (x:α),(aj enc l).set k (enc x)=aj enc (l.set k x)
 |[],_,_=>rfl
 |_::_,0,_=>rfl
 |y::l,k+1,x=>by
  have:=rG enc l k x
  simp only[aj,List.map_cons,List.set_cons_succ]at*
  rw[this]
def tJ (H:ac) (c hid:Nat) (sx:AV) (l:List THolding) (n d:Int) (H':ac):Prop:=∃hid',Clk H' c hid' sx l n d∧(∀(x:Nat) (o:AObj),x≠hid→H[x]?=some (some o)→x≠hid')∧Kept [c,hid] H H'
set_option maxHeartbeats 4000000 in
theorem nr {row src:Option Nat} (c hid:Nat) (sx:AV) (n d:Int) (l:List THolding) (id h am:Int) (H:ac) (hk:Clk H c hid sx l n d) (hsx:sx.cellish=true) (hl:l.length≤10000) (ho:l.Pairwise hR) (hb:∀x,x∈l→0<x.Amount∧x.Amount≤1000000000000) (ham: -1000000000000≤am∧am≤1000000000000) (ha0:am≠0):
  MFun Tryz.prog row src 233 [.ref c 0 0,iv id,iv h,iv am] H (fun _ H'=>tJ H c hid sx (ni l id h am) n d H'):=by
 by_cases hz:h=0
 ·have ea:ni l id h am=l:=by rw[ni,if_pos hz]
  rw[ea]
  refine aI Tryz.func233 rfl (by simp[Tryz.f233]) (by kernel_rfl) (⟨.tup [],H,hid,hk,fun x o hx _=>hx,au _ _⟩) ?_
  intro E hP hr hs hN
  simp -dsimp -implicitDefEqProofs [-getElem?_pos,go_sem,hP,hz]
  exact⟨hid,hk,fun x o hx _=>hx,au _ _⟩
 have ea:ni l id h am=kQ l id h am:=by rw[ni,if_neg hz]
 rw[ea]
 obtain⟨l',hl'⟩:∃l',l'=kQ l id h am:=⟨_,rfl⟩
 rw[←hl']
 obtain⟨C,hC⟩:∃C:AV→ac→Prop,C=fun _ H'=>tJ H c hid sx l' n d H':=⟨_,rfl⟩
 rw[←hC]
 have lc:=(List.getElem?_eq_some_iff.1 hk.oc).1
 have lh:=(List.getElem?_eq_some_iff.1 hk.oh).1
 have ne:=hk.ne
 have ex:∃r H',C r H':=by
  rw[hC]
  refine⟨.tup [],(H.set c (some ⟨183,4,[[sx,.sref hid 0 l'.length,iv n,iv d]]⟩)).set hid (some ⟨173,3,aj THolding.cells l'⟩),hid,⟨?_,?_,ne⟩,fun x o hx _=>hx,?_⟩
  ·rw[List.getElem?_set_ne (fun e=>ne e.symm)]
   simp[lc]
  ·simp[lh]
  ·exact bK _ (by simp) (bK _ (by simp) (au _ _))
 obtain⟨k,hkl,hm,hcase⟩:=mf (hOk id h) ho
 have pm:=fun {row src:Option Nat}=>Bp (row:=row) (src:=src) c sx _ _ _ l id h k H hk.oc hk.sl (by omega) hkl hm
 have wk:=af ((k:Int)+1) (by omega)
 rcases hcase with⟨x,e1,e2,e3,e4⟩|⟨e1,e3,e4⟩
 ·have hbt:(l[k]?).any (hIs id h)=true:=by rw[e1];exact e2
  have lk:=(gsI e1)
  have bx:=hb x (List.mem_of_getElem? e1)
  have wa:=af (x.Amount+am) (by omega)
  have e4:l'=if x.Amount+am=0 then l.take k++l.drop (k+1)else l.take k++hMk id h (x.Amount+am)::l.drop (k+1):=by rw[hl'];exact e4 am
  have hx2:=gl.1 e2
  rw[hbt]at pm
  refine aI Tryz.func233 rfl (by simp[Tryz.f233]) (by kernel_rfl) (ex) ?_
  intro E hP hr hs hN
  simp -dsimp -implicitDefEqProofs [-getElem?_pos,go_sem,hP,hz]
  refine aM (by rw[hr,hs];exact pm) hP zI ?_
  rintro r H1 ⟨rfl,kp⟩
  have k1:=hk.kept kp
  have c1:=k1.oc
  have h1:=k1.oh
  have lc1:=(gsI c1)
  have lh1:=(gsI h1)
  obtain⟨y,hy⟩:∃y:THolding,y=⟨x.Security,x.Holder,x.Amount+am⟩:=⟨_,rfl⟩
  have ey:(aj THolding.cells l).set k [iv x.Security,iv x.Holder,iv (x.Amount+am)]=aj THolding.cells (l.set k y):=by rw[←rG,hy,fP]
  have lk2:(l.set k y)[k]?=some y:=by simp[lk]
  have ne':¬hid=c:=fun e=>ne e.symm
  simp -dsimp -implicitDefEqProofs [-getElem?_pos,go_sem,hP,c1,lc1,h1,lh1,e1,fP,al,lk,wa,ey,ne,ne']
  have es:l.set k y=l.take k++y::l.drop (k+1):=List.set_eq_take_append_cons_drop.trans (if_pos lk)
  obtain⟨H2,hH2⟩:∃H2,H2=H1.set hid (some ⟨173,3,aj THolding.cells (l.set k y)⟩):=⟨_,rfl⟩
  have k12:Kept [c,hid] H1 H2:=by rw[hH2];exact bK _ (by simp) (au _ _)
  have c2:H2[c]?=some (some ⟨183,4,[[sx,.sref hid 0 l.length,iv n,iv d]]⟩):=by rw[hH2,List.getElem?_set_ne ne'];exact c1
  have h2:H2[hid]?=some (some ⟨173,3,aj THolding.cells (l.set k y)⟩):=by rw[hH2];simp[lh1]
  have hye:y.Amount=x.Amount+am:=by rw[hy]
  rw[←hH2]
  refine aB (fun hq=>?_) (fun hq=>?_)
  ·have hq:y.Amount=0:=by simpa using hq
   have el:l'=l.take k++l.drop (k+1):=by rw[e4,if_pos (by omega)]
   have dm:=fun {row src:Option Nat}=>Cb (row:=row) (src:=src) (aj THolding.cells (l.set k y)) k hid H2 (by rw[al,List.length_set];exact lk) (by rw[al,List.length_set];omega) h2
   rw[al,List.length_set]at dm
   simp -dsimp -implicitDefEqProofs [-getElem?_pos,go_sem,hP,c2,wk]
   refine aM (by rw[hr,hs];exact dm) hP Pj ?_
   rintro r H3 ⟨jd,rfl,hj,h3,kp3⟩
   have c3:=kp3 _ _ (by simpa using ne) c2
   have lc3:=(gsI c3)
   have nj:c≠jd:=fun e=>by
    have:=hj c _ ne c2
    omega
   simp -dsimp -implicitDefEqProofs [-getElem?_pos,go_sem,hP,c3,lc3,hsx]
   rw[hC]
   refine⟨jd,⟨?_,?_,nj⟩,fun z o hz he=>?_,?_⟩
   ·have:l'.length=l.length-1:=by rw[el];simp;omega
    rw[this]
    simp[lc3]
   ·rw[List.getElem?_set_ne nj,h3,es,el]
    rw[eX,du,lr,←es,List.take_set_of_le (Nat.le_refl _),List.drop_set_of_lt (by omega)]
   ·by_cases hzc:z=c
    ·rw[hzc];exact nj
    ·have:=hj z o hz (k12 z o (by simp[hzc,hz]) (kp z o (by simp) he))
     omega
   ·exact (((kp.mono (by simp)).trans k12).trans (kp3.mono (by simp))).trans (bK _ (by simp) (au _ _))
  ·have hq:¬y.Amount=0:=by simpa using hq
   have el:l'=l.set k y:=by rw[e4,if_neg (by omega),es,hy,hx2.1,hx2.2];rfl
   simp -dsimp -implicitDefEqProofs [-getElem?_pos,go_sem,hP]
   rw[hC,el]
   exact⟨hid,⟨by rw[List.length_set];exact c2,h2,ne⟩,fun z o hz _=>hz,(kp.mono (by simp)).trans k12⟩
 ·have hbt:(l[k]?).any (hIs id h)=false:=by
   cases e:l[k]? with
   |none=>rfl
   |some x=>simpa using e1 x e
  have e4:l'=l.take k++hMk id h am::l.drop k:=by rw[hl',kQ,e4 am,if_neg ha0]
  rw[hbt]at pm
  refine aI Tryz.func233 rfl (by simp[Tryz.f233]) (by kernel_rfl) (ex) ?_
  intro E hP hr hs hN
  simp -dsimp -implicitDefEqProofs [-getElem?_pos,go_sem,hP,hz]
  refine aM (by rw[hr,hs];exact pm) hP zI ?_
  rintro r H1 ⟨rfl,kp⟩
  have k1:=hk.kept kp
  have c1:=k1.oc
  have h1:=k1.oh
  have lc1:=(gsI c1)
  have lh1:=(gsI h1)
  have im:=fun {row src:Option Nat}=>z7 (row:=row) (src:=src) (aj THolding.cells l) [iv id,iv h,iv 0] k hid H1 (by rw[al];exact hkl) (by rw[al];omega) h1 (by simp)
  rw[al]at im
  simp -dsimp -implicitDefEqProofs [-getElem?_pos,go_sem,hP,c1,lc1]
  refine aM (by rw[hr,hs];exact im) hP Pn ?_
  rintro r H2 ⟨jd,rfl,hj,h2,kp2⟩
  have c2:=kp2 _ _ (by simpa using ne) c1
  have lc2:=(gsI c2)
  have lh2:=(gsI h2)
  have nj:c≠jd:=by rcases hj with rfl|hj<;>omega
  have nj':¬jd=c:=fun e=>nj e.symm
  obtain⟨y0,hy0⟩:∃y0:THolding,y0=⟨id,h,0⟩:=⟨_,rfl⟩
  obtain⟨y,hy⟩:∃y:THolding,y=⟨id,h,am⟩:=⟨_,rfl⟩
  obtain⟨l1,hl1⟩:∃l1,l1=l.take k++y0::l.drop k:=⟨_,rfl⟩
  have h2':(aj THolding.cells l).take k++[iv id,iv h,iv 0]::(aj THolding.cells l).drop k=aj THolding.cells l1:=by
   rw[eX,du,hl1,←lr,hy0]
   rfl
  rw[h2']at h2
  have ll1:l1.length=l.length+1:=by rw[hl1];simp;omega
  have e1k:l1[k]?=some y0:=by rw[hl1,List.getElem?_append_right (by simp;omega)];simp[Nat.min_eq_left hkl]
  have lk:k<l1.length:=by omega
  have lkl:k<l.length+1:=by omega
  have lki:(k:Int)<(l.length:Int)+1:=by omega
  have lk2:(l1.set k y)[k]?=some y:=by simp[lk]
  have wa:=af (0+am) (by omega)
  have wa':=af am (by omega)
  have es1:l1.set k y=l':=by
   rw[e4,hl1,List.set_append_right _ _ (by simp;omega)]
   simp[Nat.min_eq_left hkl,hy]
   rfl
  have ey:(aj THolding.cells l1).set k [iv id,iv h,iv am]=aj THolding.cells (l1.set k y):=by rw[←rG,hy,fP]
  have c0:y0.cells=[iv id,iv h,iv 0]:=by rw[hy0];rfl
  have cy:y.cells=[iv id,iv h,iv am]:=by rw[hy];rfl
  have hya:¬y.Amount=0:=by rw[hy];exact ha0
  simp -dsimp -implicitDefEqProofs [-getElem?_pos,go_sem,hP,c2,lc2,hsx,h2,lh2,e1k,c0,al,lk,lkl,lki,ll1,wa,wa',ey,nj,nj',lk2,cy,ha0]
  obtain⟨H3,hH3⟩:∃H3,H3=(H2.set c (some ⟨183,4,[[sx,.sref jd 0 (l.length+1),iv n,iv d]]⟩)).set jd (some ⟨173,3,aj THolding.cells (l1.set k y)⟩):=⟨_,rfl⟩
  rw[←hH3]
  rw[hC,←es1,hH3]
  have lset:(l1.set k y).length=l.length+1:=by simp[ll1]
  refine⟨jd,⟨?_,?_,nj⟩,fun z o hz he=>?_,?_⟩
  ·rw[lset]
   simp[nj',lc2]
  ·simp[lh2]
  ·rcases hj with rfl|hj
   ·exact hz
   ·have:=(List.getElem?_eq_some_iff.1 (kp z o (by simp) he)).1
    omega
  ·intro z o hz he
   have h2z:=kp2 z o (by simp at hz;simp[hz]) (kp z o (by simp) he)
   have n1:jd≠z:=fun e=>by
    rcases hj with rfl|hj
    ·simp[e]at hz
    ·have:=(List.getElem?_eq_some_iff.1 (kp z o (by simp) he)).1
     omega
   have n2:c≠z:=fun e=>by simp[e]at hz
   rw[List.getElem?_set_ne n1,List.getElem?_set_ne n2]
   exact h2z
open Go.PA
open Go.RowKit
theorem Au (l:List TSecurity) (g:FuncId) (caps:List AV) (p:TSecurity→Bool) (hl:l.length≤1000000) (hen:aa Tryz.prog g=true) (hcap:∀a,a∈caps→Imm a)
  (hg:∀a,a∈l→PFun Tryz.prog none none g (.agg (TSecurity.cells a)::caps) (·=bv (p a))):
  PFun Tryz.prog none none 279 [.list 7 (aj TSecurity.cells l),.fn g caps] (·=iv (fA p l)):=by
 refine ab Tryz.func279 rfl (by simp[Tryz.f279]) (by kernel_rfl) ?_
 intro E hP hr hs hW hN
 simp -dsimp -implicitDefEqProofs [-getElem?_pos,go_sem,hP]
 obtain⟨I,hI⟩:∃I:Nat→St→Prop,I=fun m s=>∃k:Nat,k≤l.length∧m=l.length-k∧fA p l=bE p k (l.drop k)∧s.t 0= .list 7 (aj TSecurity.cells l)∧s.t 1= .fn g caps∧s.t 7=iv l.length∧s.t 8=iv k:=⟨_,rfl⟩
 refine ay I (l.length) (by rw[hN];rfl) ?_ ?_
 ·rw[hI]
  exact⟨0,by omega,by omega,by simp[fA],by simp -dsimp[-getElem?_pos,go_sem],by simp -dsimp[-getElem?_pos,go_sem],by simp -dsimp[-getElem?_pos,go_sem],by simp -dsimp[-getElem?_pos,go_sem]⟩
 intro m s hs'
 rw[hI]at hs'
 obtain⟨k,hk,hm,hi,t0,t1,t7,t8⟩:=hs'
 simp -dsimp -implicitDefEqProofs [-getElem?_pos,go_sem,hP,t7,t8]
 refine aB (fun h=>?_) (fun h=>?_)
 ·have hk:k<l.length:=by simpa using h
  obtain⟨a,ha⟩:∃a,l[k]?=some a:=⟨_,List.getElem?_eq_getElem hk⟩
  have wk:=af ((k:Int)+1) (by omega)
  have hz:(TSecurity.cells a).take 7=TSecurity.cells a:=List.take_of_length_le (by rw[TSecurity.len];omega)
  have hd:l.drop k=a::l.drop (k+1):=by
   rw[List.getElem?_eq_getElem hk]at ha
   rw[List.drop_eq_getElem_cons hk,Option.some.inj ha]
  simp -dsimp -implicitDefEqProofs [-getElem?_pos,go_sem,hP,t8,t1,t0,ha,TSecurity.len,hz]
  refine ae ((hg a (List.mem_of_getElem? ha)).lift _ _) hP hen (fun x hx=>?_) .sc ?_
  ·rcases List.mem_cons.1 hx with rfl|hx
   ·exact az.2 (TSecurity.imm a)
   ·exact hcap x hx
  rw[hd]at hi
  simp only[bE]at hi
  simp -dsimp -implicitDefEqProofs [-getElem?_pos,go_sem,hP]
  refine aB (fun hp=>?_) (fun hp=>?_)
  ·rw[if_pos hp]at hi
   simp -dsimp -implicitDefEqProofs [-getElem?_pos,go_sem,hP]
   exact hi.symm
  ·rw[hp,if_neg (by simp)]at hi
   simp -dsimp -implicitDefEqProofs [-getElem?_pos,go_sem,hP,t8,wk]
   refine⟨l.length-(k+1),by omega,?_⟩
   rw[hI]
   exact⟨k+1,by omega,rfl,hi,by simp -dsimp[-getElem?_pos,go_sem,t0],by simp -dsimp[-getElem?_pos,go_sem,t1],by simp -dsimp[-getElem?_pos,go_sem,t7],by simp -dsimp[-getElem?_pos,go_sem]⟩
 ·have hk:k=l.length:=by simp at h;omega
  subst hk
  rw[List.drop_length]at hi
  simp -dsimp -implicitDefEqProofs [-getElem?_pos,go_sem,hP]
  exact hi.symm
theorem FX (x:TSecurity) (id:Int):PFun Tryz.prog none none 280 [.agg x.cells,.iref [iv id]] (·=bv (decide (x.ID=id))):=by
 refine ab Tryz.func280 rfl (by simp[Tryz.f280]) (by kernel_rfl) ?_
 intro E hP hr hs hW hN
 simp -dsimp -implicitDefEqProofs [-getElem?_pos,go_sem,hP,jU]
def vJ:TSecurity:=⟨0,0,0,0,0,0,false⟩
def eI (l:List TSecurity) (id:Int):TSecurity×Bool:=match kF l id with
 |some s=>(s,true)
 |none=>(vJ,false)
theorem JK {α:Type} (p:α→Bool) (l:List α):(fA p l= -1∧l.find? p=none)∨∃(i:Nat) (a:α),l[i]?=some a∧fA p l=(i:Int)∧l.find? p=some a:=by
 rcases dY p l with⟨h1,h2⟩|⟨i,a,h1,h2,h3,h4⟩
 ·exact .inl ⟨h1,List.find?_eq_none.2 fun x hx=>by simp[h2 x hx]⟩
 ·refine .inr ⟨i,a,h1,h3,?_⟩
  rw[List.find?_eq_some_iff_getElem]
  have hi:=(gsI h1)
  refine⟨h2,i,hi,(List.getElem?_eq_some_iff.1 h1).2,fun j hj=>?_⟩
  rw[h4 j l[j] hj (List.getElem?_eq_getElem (by omega))]
  rfl
theorem JJ (l:List TSecurity) (id:Int) (hl:l.length≤100000):PFun Tryz.prog none none 229 [bb l,iv id] (·= .tup [.agg (eI l id).1.cells,bv (eI l id).2]):=by
 have il:=iV l
 refine ab Tryz.func229 rfl (by simp[Tryz.f229]) (by kernel_rfl) ?_
 intro E hP hr hs hW hN
 simp -dsimp -implicitDefEqProofs [-getElem?_pos,go_sem,hP]
 refine ah (Au l 280 [.iref [iv id]] (fun x=>decide (x.ID=id)) (by omega) Ot (by simp[fN,ar]) fun x _=>FX x id) hP NN (aH il (nM (cs:=[.ref 0 0 0]) (by simp -dsimp[-getElem?_pos,go_sem,nX]) (by simp[fN,ar]) (be.2 trivial))) .sc ?_
 rcases JK (fun x:TSecurity=>decide (x.ID=id)) l with⟨h1,h2⟩|⟨i,a,h1,h2,h3⟩
 ·have e:eI l id=(vJ,false):=by rw[eI,kF,h2]
  simp -dsimp -implicitDefEqProofs [-getElem?_pos,go_sem,hP,h1]
  exact aw (ak (show Imm (.agg vJ.cells)from ug _) .sc) (by rw[e];rfl)
 ·have e:eI l id=(a,true):=by rw[eI,kF,h3]
  have d:decide ((i:Int)<0)=false:=decide_eq_false (by omega)
  have li:=(gsI h1)
  simp -dsimp -implicitDefEqProofs [-getElem?_pos,go_sem,hP,h2,d,h1,jU,li]
  exact aw (ak (by rw[←jU];exact ug _) .sc) (by rw[e];rfl)
theorem BZ (m:TMove):PFun Tryz.prog none none 230 [.agg m.cells] (·=bv (dP m)):=by
 refine ab Tryz.func230 rfl (by simp[Tryz.f230]) (by kernel_rfl) ?_
 intro E hP hr hs hW hN
 simp -dsimp -implicitDefEqProofs [-getElem?_pos,go_sem,hP,fb]
 refine ao (fun _=>true) [] hP (by kernel_rfl) (by kernel_rfl) ?_
 simp -dsimp -implicitDefEqProofs [-getElem?_pos,go_sem,hP]
 refine ah (v5 m.From) hP IZ (ai (by simp -dsimp[-getElem?_pos,go_sem])) .sc ?_
 simp -dsimp -implicitDefEqProofs [-getElem?_pos,go_sem,hP]
 refine ah (v5 m.To) hP IZ (ai (by simp -dsimp[-getElem?_pos,go_sem])) .sc ?_
 by_cases k1:m.Kind=1
 ·by_cases f:m.From=0<;>cases h:dA m.To<;>simp -dsimp -implicitDefEqProofs [-getElem?_pos,go_sem,hP,k1,f,h,dP]
 ·by_cases k2:m.Kind=2
  ·cases h1:dA m.From<;>cases h2:dA m.To<;>by_cases f:m.From=m.To<;>simp -dsimp -implicitDefEqProofs [-getElem?_pos,go_sem,hP,k1,k2,f,h1,h2,dP]
  ·by_cases f:m.To=0<;>cases h:dA m.From<;>simp -dsimp -implicitDefEqProofs [-getElem?_pos,go_sem,hP,k1,k2,f,h,dP]
open Go.PA
open Go.RowKit
def K1 (secs:List TSecurity) (l:List THolding) (n d:Int) (m:TMove) (H:ac) (c hid:Nat) (r:AV) (H':ac):Prop:=
 r=iv (bA secs l d m)∧(bA secs l d m≠0→Kept [] H H')∧(bA secs l d m=0→∃hid',Clk H' c hid' (bb secs) (goH l m) (n+1) m.Day∧(∀(x:Nat) (o:AObj),x≠hid→H[x]?=some (some o)→x≠hid')∧Kept [c,hid] H H')
theorem Pa {H:ac} {c hid:Nat} {sx:AV} {l:List THolding} {n d:Int} (hk:Clk H c hid sx l n d) (l':List THolding) (n' d':Int):∃H',Clk H' c hid sx l' n' d'∧Kept [c,hid] H H':=by
 have lc:=(List.getElem?_eq_some_iff.1 hk.oc).1
 have lh:=(List.getElem?_eq_some_iff.1 hk.oh).1
 have ne:=hk.ne
 refine⟨(H.set c (some ⟨183,4,[[sx,.sref hid 0 l'.length,iv n',iv d']]⟩)).set hid (some ⟨173,3,aj THolding.cells l'⟩),⟨?_,?_,ne⟩,?_⟩
 ·rw[List.getElem?_set_ne (fun e=>ne e.symm)]
  simp[lc]
 ·simp[lh]
 ·exact bK _ (by simp) (bK _ (by simp) (au _ _))
theorem kI {H H':ac} {p:Nat} {o:AObj} (k:Kept [] H H') (h:H[p]?=some (some o)):Agree (fun i=>decide (i=p)) H H':=fun i hi=>by
 have:=of_decide_eq_true hi
 subst this
 rw[h,k _ _ (by simp) h]
theorem pW {H:ac} {p c:Nat} {o:Option AObj} (h:¬p=c):Agree (fun i=>decide (i=p)) H (H.set c o):=fun i hi=>by
 have:=of_decide_eq_true hi
 subst this
 rw[List.getElem?_set_ne (fun e=>h e.symm)]
theorem oo {H:ac} {p c:Nat} {o o':Option AObj} (h:¬p=c):Agree (fun i=>decide (i=p)) (H.set c o) (H.set c o'):=fun i hi=>by
 have:=of_decide_eq_true hi
 subst this
 rw[List.getElem?_set_ne (fun e=>h e.symm),List.getElem?_set_ne (fun e=>h e.symm)]
theorem qy {H0 H H':ac} {c hid:Nat} {sx:AV} {l l':List THolding} {n d n' d':Int} (k:Kept [] H0 H) (hk:Clk H0 c hid sx l n d) (h:tJ H c hid sx l' n' d' H'):tJ H0 c hid sx l' n' d' H':=by
 obtain⟨hid',h1,h2,h3⟩:=h
 exact⟨hid',h1,fun x o hx he=>h2 x o hx (k x o (by simp) he),(k.mono (by simp)).trans h3⟩
theorem nZ {H H' H'':ac} {c hid:Nat} {sx:AV} {l1 l2:List THolding} {n d:Int} (h:tJ H c hid sx l1 n d H') (hid1:Nat) (hk:Clk H' c hid1 sx l1 n d) (hp:∀(x:Nat) (o:AObj),x≠hid→H[x]?=some (some o)→x≠hid1) (h2:tJ H' c hid1 sx l2 n d H''):tJ H c hid sx l2 n d H'':=by
 obtain⟨_,_,_,kp⟩:=h
 obtain⟨hid2,g1,g2,g3⟩:=h2
 refine⟨hid2,g1,fun x o hx he=>?_,fun x o hx he=>?_⟩
 ·by_cases hc:x=c
  ·rw[hc];exact g1.ne
  ·exact g2 x o (hp x o hx he) (kp x o (by simp[hc,hx]) he)
 ·have hx':¬x=c∧¬x=hid:=by simpa using hx
  exact g3 x o (by simp[hx'.1,hp x o hx'.2 he]) (kp x o hx he)
theorem pV {secs:List TSecurity} {l:List THolding} {n d:Int} {m:TMove} {H H5:ac} {c hid hid5:Nat} (cl:tJ H c hid (bb secs) (goH l m) n d H5) (hk:Clk H5 c hid5 (bb secs) (goH l m) n d) (e0:bA secs l d m=0):
  K1 secs l n d m H c hid (iv 0) (H5.set c (some ⟨183,4,[[bb secs,.sref hid5 0 (goH l m).length,iv (n+1),iv m.Day]]⟩)):=by
 obtain⟨hid',h1,h2,h3⟩:=cl
 have lc:=(List.getElem?_eq_some_iff.1 h1.oc).1
 have e:hid'=hid5:=by
  have:=h1.oc.symm.trans hk.oc
  simpa using this
 subst e
 refine⟨by rw[e0],fun e=>absurd e0 e,fun _=>⟨hid',⟨by simp[lc],by rw[List.getElem?_set_ne h1.ne];exact h1.oh,h1.ne⟩,h2,h3.trans (bK _ (by simp) (au _ _))⟩⟩
set_option maxHeartbeats 4000000 in
theorem Pq {row src:Option Nat} (c hid:Nat) (secs:List TSecurity) (l:List THolding) (n d:Int) (m:TMove) (N:Nat) (H:ac) (hk:Clk H c hid (bb secs) l n d) (hl:l.length≤5000) (hsl:secs.length≤1000) (hso:∀s,s∈secs→rQ s=true) (ho:HoldOk l N) (hn:0≤n∧n≤1000000):
  MFun Tryz.prog row src 162 [.ref c 0 0,.agg m.cells] H (K1 secs l n d m H c hid):=by
 obtain⟨C,hC⟩:∃C:AV→ac→Prop,C=K1 secs l n d m H c hid:=⟨_,rfl⟩
 rw[←hC]
 have ex:∃r H',C r H':=by
  rw[hC]
  by_cases h0:bA secs l d m=0
  ·obtain⟨H',h1,h2⟩:=Pa hk (goH l m) (n+1) m.Day
   exact⟨_,H',rfl,fun e=>absurd h0 e,fun _=>⟨hid,h1,fun x o hx _=>hx,h2⟩⟩
  ·exact⟨_,H,rfl,fun _=>au _ _,fun e=>absurd e h0⟩
 refine aI Tryz.func162 rfl (by simp[Tryz.f162]) (by kernel_rfl) (ex) ?_
 intro E hP hr hs hN
 simp -dsimp -implicitDefEqProofs [-getElem?_pos,go_sem,hP,fb]
 obtain⟨H1,hH1⟩:∃H1:ac,H1=H++[some ⟨70,7,[[iv m.Number,iv m.Day,iv m.Kind,iv m.Security,iv m.From,iv m.To,iv m.Amount]]⟩]:=⟨_,rfl⟩
 have k1:Kept [] H H1:=by rw[hH1];exact aK _ _ _
 have a1:H1[H.length]?=some (some ⟨70,7,[[iv m.Number,iv m.Day,iv m.Kind,iv m.Security,iv m.From,iv m.To,iv m.Amount]]⟩):=by rw[hH1];simp
 have c1:=(hk.kept k1).oc
 have lt1:=(gsI a1)
 have lc1:=(gsI c1)
 simp only[←hH1]
 obtain⟨p,hp⟩:∃p,p=H.length:=⟨_,rfl⟩
 rw[←hp]at a1 lt1
 simp only[←hp]
 have hk1:=hk.kept k1
 have npc:¬p=c:=fun e=>by
  have:=(List.getElem?_eq_some_iff.1 hk.oc).1
  omega
 have npc':¬c=p:=fun e=>npc e.symm
 have am:rY [iv d,iv (eI secs m.Security).1.Issued]=some (iv (max d (eI secs m.Security).1.Issued)):=by simp[rY,fK]
 have gf:=JJ secs m.Security (by omega)
 refine sa (fun i=>decide (i<H1.length)) [11] [6] hP (by kernel_rfl) (by kernel_rfl) ?_
 simp -dsimp -implicitDefEqProofs [-getElem?_pos,go_sem,hP,ax,c1,a1,lt1,lc1]
 cases hf:kF secs m.Security with
 |none=>
  have e0:bA secs l d m=76:=by rw[bA,hf]
  have ef:eI secs m.Security=(vJ,false):=by rw[eI,hf]
  rw[ef]at gf
  refine ke (gf.lift _ _) hP IX (by simp[iV,ar]) (ak (show Imm (.agg vJ.cells)from ug _) .sc) ?_
  simp -dsimp -implicitDefEqProofs [-getElem?_pos,go_sem,hP,jU]
  refine⟨jP (Nat.le_refl _),?_⟩
  by_cases k3:m.Kind=3
  all_goals
   simp -dsimp -implicitDefEqProofs [-getElem?_pos,go_sem,hP,a1,lt1,k3,List.getElem?_append]
   rw[hC]
   exact⟨by rw[e0],fun _=>k1.trans (aK _ _ _),fun e=>by rw[e0]at e;cases e⟩
 |some s=>
  have ef:eI secs m.Security=(s,true):=by rw[eI,hf]
  rw[ef]at gf am
  refine ke (gf.lift _ _) hP IX (by simp[iV,ar]) (ak (ug _) .sc) ?_
  have so:=CG (hso s (List.mem_of_find?_eq_some hf))
  simp -dsimp -implicitDefEqProofs [-getElem?_pos,go_sem,hP,jU]
  refine⟨jP (Nat.le_refl _),?_⟩
  obtain⟨H2,hH2⟩:∃H2:ac,H2=H1++[some ⟨89,7,[[iv s.ID,iv s.Unit,iv s.Issued,iv s.Maturity,iv s.Rate,iv s.Every,bv s.Indexed]]⟩]:=⟨_,rfl⟩
  have k2:Kept [] H H2:=k1.trans (by rw[hH2];exact aK _ _ _)
  have k12:Kept [] H1 H2:=by rw[hH2];exact aK _ _ _
  obtain⟨q,hq⟩:∃q,q=H1.length:=⟨_,rfl⟩
  have b2:H2[q]?=some (some ⟨89,7,[[iv s.ID,iv s.Unit,iv s.Issued,iv s.Maturity,iv s.Rate,iv s.Every,bv s.Indexed]]⟩):=by rw[hH2,hq];simp
  rw[←hH2,←hq]
  have a2:=k12 _ _ (by simp) a1
  have hk2:=hk1.kept k12
  have c2:=hk2.oc
  have lp2:=(gsI a2)
  have lq2:=(gsI b2)
  have lc2:=(gsI c2)
  dsimp only at am
  have gs:=BZ m
  rw[fb]at gs
  have hm:=fun {row src:Option Nat}=>OE (row:=row) (src:=src) c _ _ _ _ l m.Security m.From H2 c2 hk2.sl (by omega) ho.srt
  have om:=fun {row src:Option Nat}=>MN (row:=row) (src:=src) c _ _ _ _ l N m.Security H2 c2 hk2.sl (by omega) ho
  have nph:¬p=hid:=fun e=>by
   have:=(List.getElem?_eq_some_iff.1 hk.oh).1
   omega
  by_cases k3:m.Kind=3
  ·by_cases cday:max d s.Issued≤m.Day∧m.Day≤if m.Kind=3 then 36000 else s.Maturity
   rotate_left
   ·have e0:bA secs l d m=8:=by rw[bA,hf];dsimp only;rw[if_pos (by simpa using cday)]
    have hb:bet m.Day (max d s.Issued) (36000)=false:=zo (by rw[if_pos k3]at cday;exact cday)
    simp -dsimp -implicitDefEqProofs [-getElem?_pos,go_sem,hP,a2,b2,c2,lp2,lq2,lc2,k3,am]
    refine ao (fun _=>true) [] hP (by kernel_rfl) (by kernel_rfl) ?_
    simp -dsimp -implicitDefEqProofs [-getElem?_pos,go_sem,hP,a2,b2,c2,lp2,lq2,lc2,k3,am]
    refine ah (dX m.Day (max d s.Issued) (36000)) hP ji (ai (by simp -dsimp[-getElem?_pos,go_sem])) .sc ?_
    simp -dsimp -implicitDefEqProofs [-getElem?_pos,go_sem,hP,hb]
    rw[hC]
    exact⟨by rw[e0],fun _=>k2,fun e=>by rw[e0]at e;cases e⟩
   have hb:bet m.Day (max d s.Issued) (36000)=true:=gK (by rw[if_pos k3]at cday;exact cday)
   simp -dsimp -implicitDefEqProofs [-getElem?_pos,go_sem,hP,a2,b2,c2,lp2,lq2,lc2,k3,am]
   refine ao (fun _=>true) [] hP (by kernel_rfl) (by kernel_rfl) ?_
   simp -dsimp -implicitDefEqProofs [-getElem?_pos,go_sem,hP,a2,b2,c2,lp2,lq2,lc2,k3,am]
   refine ah (dX m.Day (max d s.Issued) (36000)) hP ji (ai (by simp -dsimp[-getElem?_pos,go_sem])) .sc ?_
   by_cases a0:m.Amount≤0
   ·have e0:bA secs l d m=79:=by rw[bA,hf];dsimp only;rw[if_neg (by simpa using cday),if_pos (.inl a0)]
    have d0:decide (m.Amount≤0)=true:=decide_eq_true a0
    simp -dsimp -implicitDefEqProofs [-getElem?_pos,go_sem,hP,hb,a2,b2,lp2,lq2,d0]
    rw[hC]
    exact⟨by rw[e0],fun _=>k2,fun e=>by rw[e0]at e;cases e⟩
   have d0:decide (m.Amount≤0)=false:=decide_eq_false a0
   simp -dsimp -implicitDefEqProofs [-getElem?_pos,go_sem,hP,hb,a2,b2,lp2,lq2,d0]
   refine ah (xY m.Amount) hP CH (ai (by simp -dsimp[-getElem?_pos,go_sem])) .sc ?_
   by_cases a9:1000000000000<m.Amount
   ·have e0:bA secs l d m=79:=by rw[bA,hf];dsimp only;rw[if_neg (by simpa using cday),if_pos (.inr (.inl a9))]
    have hv:bet m.Amount 0 1000000000000=false:=zo (by omega)
    simp -dsimp -implicitDefEqProofs [-getElem?_pos,go_sem,hP,hv]
    rw[hC]
    exact⟨by rw[e0],fun _=>k2,fun e=>by rw[e0]at e;cases e⟩
   have hv:bet m.Amount 0 1000000000000=true:=gK (by omega)
   have ht:m.Amount.tmod s.Unit=m.Amount%s.Unit:=Int.tmod_eq_emod_of_nonneg (by omega)
   have u0:¬s.Unit=0:=by have:=so.unit;omega
   by_cases am0:m.Amount%s.Unit=0
   rotate_left
   ·have e0:bA secs l d m=79:=by rw[bA,hf];dsimp only;rw[if_neg (by simpa using cday),if_pos (.inr (.inr am0))]
    simp -dsimp -implicitDefEqProofs [-getElem?_pos,go_sem,hP,hv,a2,b2,lp2,lq2,ht,u0,am0]
    rw[hC]
    exact⟨by rw[e0],fun _=>k2,fun e=>by rw[e0]at e;cases e⟩
   simp -dsimp -implicitDefEqProofs [-getElem?_pos,go_sem,hP,hv,a2,b2,lp2,lq2,ht,u0,am0]
   refine ah gs hP IU (ai (by simp -dsimp[-getElem?_pos,go_sem])) .sc ?_
   cases cs:dP m with
   |true=>
    have e0:bA secs l d m=6:=by rw[bA,hf];dsimp only;rw[if_neg (by simpa using cday),if_neg (by omega),if_pos cs]
    simp -dsimp -implicitDefEqProofs [-getElem?_pos,go_sem,hP]
    rw[hC]
    exact⟨by rw[e0],fun _=>k2,fun e=>by rw[e0]at e;cases e⟩
   |false=>
    simp -dsimp -implicitDefEqProofs [-getElem?_pos,go_sem,hP]
    refine ao (fun i=>decide (i=p)) [] hP (by kernel_rfl) (by kernel_rfl) ?_
    by_cases f0:m.From=0
    ·simp -dsimp -implicitDefEqProofs [-getElem?_pos,go_sem,hP,ax,a2,lp2,f0]
     refine ao (fun i=>decide (i=p)) [] hP (by kernel_rfl) (by kernel_rfl) ?_
     simp -dsimp -implicitDefEqProofs [-getElem?_pos,go_sem,hP,ax,a2,lp2,f0]
     refine aM (by rw[hr,hs];exact om) hP IR ?_
     rintro r H3 ⟨rfl,kp3⟩
     have a3:=kp3 _ _ (by simp) a2
     have hk3:=hk2.kept kp3
     have k3':Kept [] H H3:=k2.trans kp3
     have lp3:=(gsI a3)
     have ho3:=qY ho m.Security l.length
     rw[List.take_length]at ho3
     have wo:=af (eh l m.Security+m.Amount) (by omega)
     by_cases o9:1000000000000<eh l m.Security+m.Amount
     ·have e0:bA secs l d m=2:=by rw[bA,hf];dsimp only;rw[if_neg (by simpa using cday),if_neg (by omega),if_neg (by simp[cs]),if_neg (fun e=>e.1 f0),if_pos ⟨f0,o9⟩]
      have d9:decide (1000000000000<eh l m.Security+m.Amount)=true:=decide_eq_true o9
      simp -dsimp -implicitDefEqProofs [-getElem?_pos,go_sem,hP]
      refine⟨kI kp3 a2,?_⟩
      simp -dsimp -implicitDefEqProofs [-getElem?_pos,go_sem,hP,ax,a3,lp3,wo,d9]
      rw[hC]
      exact⟨by rw[e0],fun _=>k3',fun e=>by rw[e0]at e;cases e⟩
     have d9:decide (1000000000000<eh l m.Security+m.Amount)=false:=decide_eq_false o9
     simp -dsimp -implicitDefEqProofs [-getElem?_pos,go_sem,hP]
     refine⟨kI kp3 a2,?_⟩
     simp -dsimp -implicitDefEqProofs [-getElem?_pos,go_sem,hP,ax,a3,lp3,wo,d9]
     have mok:MoveOk secs l d m s:=⟨hf,cday,⟨by omega,by omega,am0⟩,cs,fun e=>by first|exact absurd f0 e|omega,fun e=>by first|exact absurd e f0|omega⟩
     have e0:=mq mok
     have ho1:=pX ho mok
     have wn:=af (-m.Amount) (by omega)
     have ad1:=fun {row src:Option Nat}=>nr (row:=row) (src:=src) c hid (bb secs) n d l m.Security m.From (-m.Amount) H3 hk3 rfl (by omega) ho.srt (fun x hx=>ho.am hx) (by omega) (by omega)
     simp -dsimp -implicitDefEqProofs [-getElem?_pos,go_sem,hP,a3,lp3,wn]
     refine aM (by rw[hr,hs];exact ad1) hP mW ?_
     rintro _ H4 c24
     obtain⟨hid4,hk4,pr4,kp4⟩:=c24
     have a4:=kp4 _ _ (by simpa using⟨npc,nph⟩) a3
     have lp4:=(gsI a4)
     have ad2:=fun {row src:Option Nat}=>nr (row:=row) (src:=src) c hid4 (bb secs) n d (ni l m.Security m.From (-m.Amount)) m.Security m.To m.Amount H4 hk4 rfl (by have:=ho1.2;omega) ho1.1.srt (fun x hx=>ho1.1.am hx) (by omega) (by omega)
     simp -dsimp -implicitDefEqProofs [-getElem?_pos,go_sem,hP,a4,lp4]
     refine aM (by rw[hr,hs];exact ad2) hP mW ?_
     rintro _ H5 c25
     have cl5:tJ H c hid (bb secs) (goH l m) n d H5:=nZ (qy k3' hk ⟨hid4,hk4,pr4,kp4⟩) hid4 hk4 (fun x o hx he=>pr4 x o hx (k3' x o (by simp) he)) c25
     obtain⟨hid5,hk5,pr5,kp5⟩:=c25
     have a5:=kp5 _ _ (by simpa using⟨npc,pr4 p _ nph a3⟩) a4
     have lp5:=(gsI a5)
     have c5:=hk5.oc
     have lc5:=(gsI c5)
     have wn1:=af (n+1) (by omega)
     simp -dsimp -implicitDefEqProofs [-getElem?_pos,go_sem,hP]
     refine ao (fun i=>decide (i=p)) [3,4,5,9,10,12,13] hP (by kernel_rfl) (by kernel_rfl) ?_
     simp -dsimp -implicitDefEqProofs [-getElem?_pos,go_sem,hP,ax,a5,lp5,c5,lc5,npc,npc',wn1]
     refine⟨pW npc,oo npc,?_⟩
     rw[hC]
     exact pV cl5 hk5 e0
    ·simp -dsimp -implicitDefEqProofs [-getElem?_pos,go_sem,hP,ax,a2,lp2,f0]
     refine aM (by rw[hr,hs];exact hm) hP Iz ?_
     rintro r H3 ⟨rfl,kp3⟩
     have a3:=kp3 _ _ (by simp) a2
     have hk3:=hk2.kept kp3
     have k3':Kept [] H H3:=k2.trans kp3
     have lp3:=(gsI a3)
     by_cases o9:ff l m.Security m.From<m.Amount
     ·have e0:bA secs l d m=77:=by rw[bA,hf];dsimp only;rw[if_neg (by simpa using cday),if_neg (by omega),if_neg (by simp[cs]),if_pos ⟨f0,o9⟩]
      have d9:decide (ff l m.Security m.From<m.Amount)=true:=decide_eq_true o9
      simp -dsimp -implicitDefEqProofs [-getElem?_pos,go_sem,hP]
      refine⟨kI kp3 a2,?_⟩
      simp -dsimp -implicitDefEqProofs [-getElem?_pos,go_sem,hP,ax,a3,lp3,d9]
      rw[hC]
      exact⟨by rw[e0],fun _=>k3',fun e=>by rw[e0]at e;cases e⟩
     have d9:decide (ff l m.Security m.From<m.Amount)=false:=decide_eq_false o9
     simp -dsimp -implicitDefEqProofs [-getElem?_pos,go_sem,hP]
     refine⟨kI kp3 a2,?_⟩
     simp -dsimp -implicitDefEqProofs [-getElem?_pos,go_sem,hP,ax,a3,lp3,d9]
     refine ao (fun i=>decide (i=p)) [] hP (by kernel_rfl) (by kernel_rfl) ?_
     simp -dsimp -implicitDefEqProofs [-getElem?_pos,go_sem,hP,ax,a3,lp3,f0]
     have mok:MoveOk secs l d m s:=⟨hf,cday,⟨by omega,by omega,am0⟩,cs,fun e=>by first|exact absurd f0 e|omega,fun e=>by first|exact absurd e f0|omega⟩
     have e0:=mq mok
     have ho1:=pX ho mok
     have wn:=af (-m.Amount) (by omega)
     have ad1:=fun {row src:Option Nat}=>nr (row:=row) (src:=src) c hid (bb secs) n d l m.Security m.From (-m.Amount) H3 hk3 rfl (by omega) ho.srt (fun x hx=>ho.am hx) (by omega) (by omega)
     simp -dsimp -implicitDefEqProofs [-getElem?_pos,go_sem,hP,a3,lp3,wn]
     refine aM (by rw[hr,hs];exact ad1) hP mW ?_
     rintro _ H4 c24
     obtain⟨hid4,hk4,pr4,kp4⟩:=c24
     have a4:=kp4 _ _ (by simpa using⟨npc,nph⟩) a3
     have lp4:=(gsI a4)
     have ad2:=fun {row src:Option Nat}=>nr (row:=row) (src:=src) c hid4 (bb secs) n d (ni l m.Security m.From (-m.Amount)) m.Security m.To m.Amount H4 hk4 rfl (by have:=ho1.2;omega) ho1.1.srt (fun x hx=>ho1.1.am hx) (by omega) (by omega)
     simp -dsimp -implicitDefEqProofs [-getElem?_pos,go_sem,hP,a4,lp4]
     refine aM (by rw[hr,hs];exact ad2) hP mW ?_
     rintro _ H5 c25
     have cl5:tJ H c hid (bb secs) (goH l m) n d H5:=nZ (qy k3' hk ⟨hid4,hk4,pr4,kp4⟩) hid4 hk4 (fun x o hx he=>pr4 x o hx (k3' x o (by simp) he)) c25
     obtain⟨hid5,hk5,pr5,kp5⟩:=c25
     have a5:=kp5 _ _ (by simpa using⟨npc,pr4 p _ nph a3⟩) a4
     have lp5:=(gsI a5)
     have c5:=hk5.oc
     have lc5:=(gsI c5)
     have wn1:=af (n+1) (by omega)
     simp -dsimp -implicitDefEqProofs [-getElem?_pos,go_sem,hP]
     refine ao (fun i=>decide (i=p)) [3,4,5,9,10,12,13] hP (by kernel_rfl) (by kernel_rfl) ?_
     simp -dsimp -implicitDefEqProofs [-getElem?_pos,go_sem,hP,ax,a5,lp5,c5,lc5,npc,npc',wn1]
     refine⟨pW npc,oo npc,?_⟩
     rw[hC]
     exact pV cl5 hk5 e0
  ·by_cases cday:max d s.Issued≤m.Day∧m.Day≤if m.Kind=3 then 36000 else s.Maturity
   rotate_left
   ·have e0:bA secs l d m=8:=by rw[bA,hf];dsimp only;rw[if_pos (by simpa using cday)]
    have hb:bet m.Day (max d s.Issued) (s.Maturity)=false:=zo (by rw[if_neg k3]at cday;exact cday)
    simp -dsimp -implicitDefEqProofs [-getElem?_pos,go_sem,hP,a2,b2,c2,lp2,lq2,lc2,k3,am]
    refine ao (fun _=>true) [] hP (by kernel_rfl) (by kernel_rfl) ?_
    simp -dsimp -implicitDefEqProofs [-getElem?_pos,go_sem,hP,a2,b2,c2,lp2,lq2,lc2,k3,am]
    refine ah (dX m.Day (max d s.Issued) (s.Maturity)) hP ji (ai (by simp -dsimp[-getElem?_pos,go_sem])) .sc ?_
    simp -dsimp -implicitDefEqProofs [-getElem?_pos,go_sem,hP,hb]
    rw[hC]
    exact⟨by rw[e0],fun _=>k2,fun e=>by rw[e0]at e;cases e⟩
   have hb:bet m.Day (max d s.Issued) (s.Maturity)=true:=gK (by rw[if_neg k3]at cday;exact cday)
   simp -dsimp -implicitDefEqProofs [-getElem?_pos,go_sem,hP,a2,b2,c2,lp2,lq2,lc2,k3,am]
   refine ao (fun _=>true) [] hP (by kernel_rfl) (by kernel_rfl) ?_
   simp -dsimp -implicitDefEqProofs [-getElem?_pos,go_sem,hP,a2,b2,c2,lp2,lq2,lc2,k3,am]
   refine ah (dX m.Day (max d s.Issued) (s.Maturity)) hP ji (ai (by simp -dsimp[-getElem?_pos,go_sem])) .sc ?_
   by_cases a0:m.Amount≤0
   ·have e0:bA secs l d m=79:=by rw[bA,hf];dsimp only;rw[if_neg (by simpa using cday),if_pos (.inl a0)]
    have d0:decide (m.Amount≤0)=true:=decide_eq_true a0
    simp -dsimp -implicitDefEqProofs [-getElem?_pos,go_sem,hP,hb,a2,b2,lp2,lq2,d0]
    rw[hC]
    exact⟨by rw[e0],fun _=>k2,fun e=>by rw[e0]at e;cases e⟩
   have d0:decide (m.Amount≤0)=false:=decide_eq_false a0
   simp -dsimp -implicitDefEqProofs [-getElem?_pos,go_sem,hP,hb,a2,b2,lp2,lq2,d0]
   refine ah (xY m.Amount) hP CH (ai (by simp -dsimp[-getElem?_pos,go_sem])) .sc ?_
   by_cases a9:1000000000000<m.Amount
   ·have e0:bA secs l d m=79:=by rw[bA,hf];dsimp only;rw[if_neg (by simpa using cday),if_pos (.inr (.inl a9))]
    have hv:bet m.Amount 0 1000000000000=false:=zo (by omega)
    simp -dsimp -implicitDefEqProofs [-getElem?_pos,go_sem,hP,hv]
    rw[hC]
    exact⟨by rw[e0],fun _=>k2,fun e=>by rw[e0]at e;cases e⟩
   have hv:bet m.Amount 0 1000000000000=true:=gK (by omega)
   have ht:m.Amount.tmod s.Unit=m.Amount%s.Unit:=Int.tmod_eq_emod_of_nonneg (by omega)
   have u0:¬s.Unit=0:=by have:=so.unit;omega
   by_cases am0:m.Amount%s.Unit=0
   rotate_left
   ·have e0:bA secs l d m=79:=by rw[bA,hf];dsimp only;rw[if_neg (by simpa using cday),if_pos (.inr (.inr am0))]
    simp -dsimp -implicitDefEqProofs [-getElem?_pos,go_sem,hP,hv,a2,b2,lp2,lq2,ht,u0,am0]
    rw[hC]
    exact⟨by rw[e0],fun _=>k2,fun e=>by rw[e0]at e;cases e⟩
   simp -dsimp -implicitDefEqProofs [-getElem?_pos,go_sem,hP,hv,a2,b2,lp2,lq2,ht,u0,am0]
   refine ah gs hP IU (ai (by simp -dsimp[-getElem?_pos,go_sem])) .sc ?_
   cases cs:dP m with
   |true=>
    have e0:bA secs l d m=6:=by rw[bA,hf];dsimp only;rw[if_neg (by simpa using cday),if_neg (by omega),if_pos cs]
    simp -dsimp -implicitDefEqProofs [-getElem?_pos,go_sem,hP]
    rw[hC]
    exact⟨by rw[e0],fun _=>k2,fun e=>by rw[e0]at e;cases e⟩
   |false=>
    simp -dsimp -implicitDefEqProofs [-getElem?_pos,go_sem,hP]
    refine ao (fun i=>decide (i=p)) [] hP (by kernel_rfl) (by kernel_rfl) ?_
    by_cases f0:m.From=0
    ·simp -dsimp -implicitDefEqProofs [-getElem?_pos,go_sem,hP,ax,a2,lp2,f0]
     refine ao (fun i=>decide (i=p)) [] hP (by kernel_rfl) (by kernel_rfl) ?_
     simp -dsimp -implicitDefEqProofs [-getElem?_pos,go_sem,hP,ax,a2,lp2,f0]
     refine aM (by rw[hr,hs];exact om) hP IR ?_
     rintro r H3 ⟨rfl,kp3⟩
     have a3:=kp3 _ _ (by simp) a2
     have hk3:=hk2.kept kp3
     have k3':Kept [] H H3:=k2.trans kp3
     have lp3:=(gsI a3)
     have ho3:=qY ho m.Security l.length
     rw[List.take_length]at ho3
     have wo:=af (eh l m.Security+m.Amount) (by omega)
     by_cases o9:1000000000000<eh l m.Security+m.Amount
     ·have e0:bA secs l d m=2:=by rw[bA,hf];dsimp only;rw[if_neg (by simpa using cday),if_neg (by omega),if_neg (by simp[cs]),if_neg (fun e=>e.1 f0),if_pos ⟨f0,o9⟩]
      have d9:decide (1000000000000<eh l m.Security+m.Amount)=true:=decide_eq_true o9
      simp -dsimp -implicitDefEqProofs [-getElem?_pos,go_sem,hP]
      refine⟨kI kp3 a2,?_⟩
      simp -dsimp -implicitDefEqProofs [-getElem?_pos,go_sem,hP,ax,a3,lp3,wo,d9]
      rw[hC]
      exact⟨by rw[e0],fun _=>k3',fun e=>by rw[e0]at e;cases e⟩
     have d9:decide (1000000000000<eh l m.Security+m.Amount)=false:=decide_eq_false o9
     simp -dsimp -implicitDefEqProofs [-getElem?_pos,go_sem,hP]
     refine⟨kI kp3 a2,?_⟩
     simp -dsimp -implicitDefEqProofs [-getElem?_pos,go_sem,hP,ax,a3,lp3,wo,d9]
     have mok:MoveOk secs l d m s:=⟨hf,cday,⟨by omega,by omega,am0⟩,cs,fun e=>by first|exact absurd f0 e|omega,fun e=>by first|exact absurd e f0|omega⟩
     have e0:=mq mok
     have ho1:=pX ho mok
     have wn:=af (-m.Amount) (by omega)
     have ad1:=fun {row src:Option Nat}=>nr (row:=row) (src:=src) c hid (bb secs) n d l m.Security m.From (-m.Amount) H3 hk3 rfl (by omega) ho.srt (fun x hx=>ho.am hx) (by omega) (by omega)
     simp -dsimp -implicitDefEqProofs [-getElem?_pos,go_sem,hP,a3,lp3,wn]
     refine aM (by rw[hr,hs];exact ad1) hP mW ?_
     rintro _ H4 c24
     obtain⟨hid4,hk4,pr4,kp4⟩:=c24
     have a4:=kp4 _ _ (by simpa using⟨npc,nph⟩) a3
     have lp4:=(gsI a4)
     have ad2:=fun {row src:Option Nat}=>nr (row:=row) (src:=src) c hid4 (bb secs) n d (ni l m.Security m.From (-m.Amount)) m.Security m.To m.Amount H4 hk4 rfl (by have:=ho1.2;omega) ho1.1.srt (fun x hx=>ho1.1.am hx) (by omega) (by omega)
     simp -dsimp -implicitDefEqProofs [-getElem?_pos,go_sem,hP,a4,lp4]
     refine aM (by rw[hr,hs];exact ad2) hP mW ?_
     rintro _ H5 c25
     have cl5:tJ H c hid (bb secs) (goH l m) n d H5:=nZ (qy k3' hk ⟨hid4,hk4,pr4,kp4⟩) hid4 hk4 (fun x o hx he=>pr4 x o hx (k3' x o (by simp) he)) c25
     obtain⟨hid5,hk5,pr5,kp5⟩:=c25
     have a5:=kp5 _ _ (by simpa using⟨npc,pr4 p _ nph a3⟩) a4
     have lp5:=(gsI a5)
     have c5:=hk5.oc
     have lc5:=(gsI c5)
     have wn1:=af (n+1) (by omega)
     simp -dsimp -implicitDefEqProofs [-getElem?_pos,go_sem,hP]
     refine ao (fun i=>decide (i=p)) [3,4,5,9,10,12,13] hP (by kernel_rfl) (by kernel_rfl) ?_
     simp -dsimp -implicitDefEqProofs [-getElem?_pos,go_sem,hP,ax,a5,lp5,c5,lc5,npc,npc',wn1]
     refine⟨pW npc,oo npc,?_⟩
     rw[hC]
     exact pV cl5 hk5 e0
    ·simp -dsimp -implicitDefEqProofs [-getElem?_pos,go_sem,hP,ax,a2,lp2,f0]
     refine aM (by rw[hr,hs];exact hm) hP Iz ?_
     rintro r H3 ⟨rfl,kp3⟩
     have a3:=kp3 _ _ (by simp) a2
     have hk3:=hk2.kept kp3
     have k3':Kept [] H H3:=k2.trans kp3
     have lp3:=(gsI a3)
     by_cases o9:ff l m.Security m.From<m.Amount
     ·have e0:bA secs l d m=77:=by rw[bA,hf];dsimp only;rw[if_neg (by simpa using cday),if_neg (by omega),if_neg (by simp[cs]),if_pos ⟨f0,o9⟩]
      have d9:decide (ff l m.Security m.From<m.Amount)=true:=decide_eq_true o9
      simp -dsimp -implicitDefEqProofs [-getElem?_pos,go_sem,hP]
      refine⟨kI kp3 a2,?_⟩
      simp -dsimp -implicitDefEqProofs [-getElem?_pos,go_sem,hP,ax,a3,lp3,d9]
      rw[hC]
      exact⟨by rw[e0],fun _=>k3',fun e=>by rw[e0]at e;cases e⟩
     have d9:decide (ff l m.Security m.From<m.Amount)=false:=decide_eq_false o9
     simp -dsimp -implicitDefEqProofs [-getElem?_pos,go_sem,hP]
     refine⟨kI kp3 a2,?_⟩
     simp -dsimp -implicitDefEqProofs [-getElem?_pos,go_sem,hP,ax,a3,lp3,d9]
     refine ao (fun i=>decide (i=p)) [] hP (by kernel_rfl) (by kernel_rfl) ?_
     simp -dsimp -implicitDefEqProofs [-getElem?_pos,go_sem,hP,ax,a3,lp3,f0]
     have mok:MoveOk secs l d m s:=⟨hf,cday,⟨by omega,by omega,am0⟩,cs,fun e=>by first|exact absurd f0 e|omega,fun e=>by first|exact absurd e f0|omega⟩
     have e0:=mq mok
     have ho1:=pX ho mok
     have wn:=af (-m.Amount) (by omega)
     have ad1:=fun {row src:Option Nat}=>nr (row:=row) (src:=src) c hid (bb secs) n d l m.Security m.From (-m.Amount) H3 hk3 rfl (by omega) ho.srt (fun x hx=>ho.am hx) (by omega) (by omega)
     simp -dsimp -implicitDefEqProofs [-getElem?_pos,go_sem,hP,a3,lp3,wn]
     refine aM (by rw[hr,hs];exact ad1) hP mW ?_
     rintro _ H4 c24
     obtain⟨hid4,hk4,pr4,kp4⟩:=c24
     have a4:=kp4 _ _ (by simpa using⟨npc,nph⟩) a3
     have lp4:=(gsI a4)
     have ad2:=fun {row src:Option Nat}=>nr (row:=row) (src:=src) c hid4 (bb secs) n d (ni l m.Security m.From (-m.Amount)) m.Security m.To m.Amount H4 hk4 rfl (by have:=ho1.2;omega) ho1.1.srt (fun x hx=>ho1.1.am hx) (by omega) (by omega)
     simp -dsimp -implicitDefEqProofs [-getElem?_pos,go_sem,hP,a4,lp4]
     refine aM (by rw[hr,hs];exact ad2) hP mW ?_
     rintro _ H5 c25
     have cl5:tJ H c hid (bb secs) (goH l m) n d H5:=nZ (qy k3' hk ⟨hid4,hk4,pr4,kp4⟩) hid4 hk4 (fun x o hx he=>pr4 x o hx (k3' x o (by simp) he)) c25
     obtain⟨hid5,hk5,pr5,kp5⟩:=c25
     have a5:=kp5 _ _ (by simpa using⟨npc,pr4 p _ nph a3⟩) a4
     have lp5:=(gsI a5)
     have c5:=hk5.oc
     have lc5:=(gsI c5)
     have wn1:=af (n+1) (by omega)
     simp -dsimp -implicitDefEqProofs [-getElem?_pos,go_sem,hP]
     refine ao (fun i=>decide (i=p)) [3,4,5,9,10,12,13] hP (by kernel_rfl) (by kernel_rfl) ?_
     simp -dsimp -implicitDefEqProofs [-getElem?_pos,go_sem,hP,ax,a5,lp5,c5,lc5,npc,npc',wn1]
     refine⟨pW npc,oo npc,?_⟩
     rw[hC]
     exact pV cl5 hk5 e0
end Go.Proofs.YtaenimpfelpafaaGreatDoor
namespace Go.PA
open Go.RowKit
section
variable {E:Env}
theorem wD {s:St} {o ty k:Nat} {cs:List AV} (j:Nat) (ty' k':Nat) (h:s.H[o]?=some (some ⟨ty,k,[cs]⟩)) (hk:k≠2) (hi:∀es,cs[2]?≠some (.imap es)) (hj:cs[j]?=some .nil):
  Weaker E s ⟨s.t,(s.H++[some (AObj.mk ty' k' [])]).set o (some ⟨ty,k,[cs.set j (.sref s.H.length 0 0)]⟩)⟩:=by
 rintro a w ⟨ρ,ok,g,hx,hd,hs,hr⟩
 obtain⟨g1,x1⟩:=g.add ⟨ty',k',[]⟩ none rfl (by simp) (by simp)
 have lt:=(gsI h)
 have h1:(s.H++[some ⟨ty',k',[]⟩])[o]?=some (some ⟨ty,k,[cs]⟩):=by rw[List.getElem?_append_left lt];exact h
 have hobj:=g1.obj o _ h1
 have hlen:=g1.len o _ h1 cs (by simp)
 obtain⟨ρ1,hρ1⟩:∃ρ1,ρ1=fH ρ s.H.length none:=⟨_,rfl⟩
 rw[←hρ1]at g1 x1 hobj
 have hnew:ρ1 s.H.length=none:=by rw[hρ1];simp[fH]
 cases hρ:ρ1 o with
 |none=>rw[hρ]at hobj;cases hobj
 |some bc=>
  obtain⟨b,cap⟩:=bc
  rw[hρ]at hobj
  obtain⟨g',x'⟩:=g1.change (w':=w) h1 hρ ⟨ty,k,[cs.set j (.sref s.H.length 0 0)]⟩ rfl (Nat.le_refl _) (by simpa using hlen) rfl rfl rfl rfl (fun _ _=>rfl) fun hx'=>by
   rcases hobj with⟨cur,h1',h2,h3,h4,h5⟩|⟨_,hk',_⟩|⟨_,hk',he⟩
   ·refine .inl ⟨cur,h1',h2,h3,h4,fun i e q a he ha=>?_⟩
    match i,he with
    |0,he=>
     simp only[List.getElem?_cons_zero,Option.some.injEq]at he
     subst he
     by_cases hq:j=q
     ·subst hq
      obtain⟨c,c1,c2,c3⟩:=h5 0 cs j .nil rfl hj
      have hjl:=(gsI hj)
      rw[List.getElem?_set,if_pos rfl,if_pos hjl]at ha
      cases ha
      refine⟨c,c1,c2,?_⟩
      cases c3
      refine .srefNil (o:=⟨ty',k',[]⟩) ?_ hnew
      rw[List.getElem?_set_ne (by omega)]
      exact cS
     ·rw[List.getElem?_set_ne hq]at ha
      obtain⟨c,c1,c2,c3⟩:=h5 0 cs q a rfl ha
      exact⟨c,c1,c2,c3.ext hx'⟩
   ·exact absurd hk' hk
   ·exfalso
    rcases he with⟨he,_⟩|⟨m,clk,seen,ents,c1,c2,_,_,_,_,he,_⟩
    ·simp only[List.cons.injEq,and_true]at he
     exact hi [] (by rw[he];rfl)
    ·simp only[List.cons.injEq,and_true]at he
     exact hi _ (by rw[he];rfl)
  exact⟨ρ1,ok,g',(hx.trans x1).trans x',hd,hs,fun i=>((hr i).ext x1).ext x'⟩
theorem oH {c:Code} {s:St} {Q:Exit→St→Prop} {b:Bx (c,Q)} {o ty k:Nat} {cs:List AV} (j:Nat) (ty' k':Nat) (h:s.H[o]?=some (some ⟨ty,k,[cs]⟩)) (hk:k≠2) (hi:∀es,cs[2]?≠some (.imap es)) (hj:cs[j]?=some .nil)
  (hl:sj E c ⟨s.t,(s.H++[some (AObj.mk ty' k' [])]).set o (some ⟨ty,k,[cs.set j (.sref s.H.length 0 0)]⟩)⟩ Q .mk):sj E c s Q b:=
 AWp.weaken (wD j ty' k' h hk hi hj) hl
end
end Go.PA
namespace Go.Proofs.YtaenimpfelpafaaGreatDoor
open Go.PA
open Go.RowKit
theorem yL:∀(l:List TSecurity) (p:Int),BK p l=true→(∀s,s∈l→rQ s=true)∧∀(i:Nat) (s t:TSecurity),l[i]?=some s→l[i+1]?=some t→s.ID<t.ID
 |[],_,_=>⟨fun _ h=>(by cases h),fun i s t h=>by simp at h⟩
 |x::l,p,h=>by
  unfold BK at h
  rw[Bool.and_eq_true,Bool.and_eq_true]at h
  obtain⟨⟨h1,h2⟩,h3⟩:=h
  obtain⟨g1,g2⟩:=yL l _ h3
  refine⟨fun s hs=>?_,fun i s t hs ht=>?_⟩
  ·rcases List.mem_cons.1 hs with rfl|hs
   ·exact h1
   ·exact g1 s hs
  ·cases i with
   |zero=>
    simp only[List.getElem?_cons_zero,Option.some.injEq]at hs
    subst hs
    cases l with
    |nil=>simp at ht
    |cons y l=>
     simp only[List.getElem?_cons_succ,List.getElem?_cons_zero,Option.some.injEq]at ht
     subst ht
     unfold BK at h3
     rw[Bool.and_eq_true,Bool.and_eq_true,decide_eq_true_eq]at h3
     exact h3.1.2
   |succ i=>exact g2 i s t (by simpa using hs) (by simpa using ht)
theorem Ft (m:TMove):PFun Tryz.prog none none 101 [.agg m.cells] (·=bv true):=by
 refine ab Tryz.func101 rfl (by simp[Tryz.f101]) (by kernel_rfl) ?_
 intro E hP hr hs hW hN
 simp -dsimp -implicitDefEqProofs [-getElem?_pos,go_sem,hP,fb]
def Qp (H:ac) (sx:AV) (t:RepSt) (r:AV) (H':ac):Prop:=∃c hid,r= .tup [.ref c 0 0,bv true]∧Clk H' c hid sx t.l t.n t.d∧H.length≤c∧(∀(z:Nat) (o:AObj),H[z]?=some (some o)→z≠hid)∧Kept [] H H'
set_option maxHeartbeats 4000000 in
theorem yl {row src:Option Nat} (r:TRegister) (g:FuncId) (caps:List AV) (t:RepSt) (H:ac) (hrun:Runs r.Securities gu r.Moves t) (hml:r.Moves.length≤400) (hsl:r.Securities.length≤1000) (hso:∀s,s∈r.Securities→rQ s=true) (hen:aa Tryz.prog g=true)
  (hg:∀m,m∈r.Moves→∀H',Kept [] H H'→MFun Tryz.prog row src g (.agg m.cells::caps) H' (fun r H''=>r=bv true∧Kept [] H' H'')):
  MFun Tryz.prog row src 100 [.agg r.cells,.fn g caps] H (Qp H (bb r.Securities) t):=by
 obtain⟨C,hC⟩:∃C:AV→ac→Prop,C=Qp H (bb r.Securities) t:=⟨_,rfl⟩
 rw[←hC]
 have ex:∃x H',C x H':=by
  rw[hC]
  refine⟨_,H++[some ⟨183,4,[[bb r.Securities,.sref (H.length+1) 0 t.l.length,iv t.n,iv t.d]]⟩,some ⟨173,3,aj THolding.cells t.l⟩],H.length,H.length+1,rfl,⟨by simp,?_,by omega⟩,Nat.le_refl _,fun z o hz=>by have:=(gsI hz);omega,aK _ _ _⟩
  rw[List.getElem?_append_right (by omega)]
  simp
 refine aI Tryz.func100 rfl (by simp[Tryz.f100]) (by kernel_rfl) (ex) ?_
 intro E hP hr hs hN
 simp -dsimp -implicitDefEqProofs [-getElem?_pos,go_sem,hP,dQ]
 refine oH (o:=H.length+1) (ty:=183) (k:=4) (cs:=[bb r.Securities,.nil,iv 0,iv 0]) 1 173 3 (by simp) (by decide) (by simp) rfl ?_
 obtain⟨I,hI⟩:∃I:Nat→St→Prop,I=fun m s=>∃(k c hid:Nat) (v:RepSt),k≤r.Moves.length∧m=r.Moves.length-k∧Runs r.Securities gu (r.Moves.take k) v∧s.t 1= .fn g caps∧s.t 6= .ref c 0 0∧s.t 14=cB r.Moves∧s.t 15=iv r.Moves.length∧s.t 16=iv k∧Clk s.H c hid (bb r.Securities) v.l v.n v.d∧H.length≤c∧(∀(z:Nat) (o:AObj),H[z]?=some (some o)→z≠hid)∧Kept [] H s.H:=⟨_,rfl⟩
 refine ay I (r.Moves.length) (by rw[hN];rfl) ?_ ?_
 ·rw[hI]
  refine⟨0,H.length+1,H.length+2,gu,by omega,by omega,by simpa using Runs.nil,by simp -dsimp[-getElem?_pos,go_sem],by simp -dsimp[-getElem?_pos,go_sem],by simp -dsimp[-getElem?_pos,go_sem],by simp -dsimp[-getElem?_pos,go_sem],by simp -dsimp[-getElem?_pos,go_sem],⟨?_,?_,by omega⟩,by omega,fun z o hz=>by have:=(gsI hz);omega,?_⟩
  ·simp[gu]
  ·simp[gu,aj]
  ·simp
   exact aK _ _ _
 intro m s hs'
 rw[hI]at hs'
 obtain⟨k,c,hid,v,hk,hm,hv,t1,t6,t14,t15,t16,hc,hcl,hhl,kp⟩:=hs'
 simp -dsimp -implicitDefEqProofs [-getElem?_pos,go_sem,hP,t15,t16]
 refine aB (fun hq=>?_) (fun hq=>?_)
 ·have hk:k<r.Moves.length:=by simpa using hq
  obtain⟨a,ha⟩:∃a,r.Moves[k]?=some a:=⟨_,List.getElem?_eq_getElem hk⟩
  have wk:=af ((k:Int)+1) (by omega)
  obtain⟨v',hv',hst⟩:=hrun.take k
  have e:v'=v:=by rw[hv'.det,hv.det]
  subst e
  obtain⟨⟨s1,s2,s3⟩,hv2⟩:=hst a ha
  have hnn:=hv.n
  have hho:=hv.ok
  have htl:(r.Moves.take k).length=k:=by simp;omega
  rw[htl]at hnn hho
  have h00:gu.n=0:=rfl
  have wn:=af ((v'.n:Int)+1) (by omega)
  have kb:=gK s2
  simp -dsimp -implicitDefEqProofs [-getElem?_pos,go_sem,hP,t14,t16,ha,fb]
  obtain⟨b,hb⟩:∃b,b=s.H.length:=⟨_,rfl⟩
  obtain⟨H1,hH1⟩:∃H1:ac,H1=s.H++[some ⟨70,7,[[iv a.Number,iv a.Day,iv a.Kind,iv a.Security,iv a.From,iv a.To,iv a.Amount]]⟩]:=⟨_,rfl⟩
  have k1:Kept [] s.H H1:=by rw[hH1];exact aK _ _ _
  have a1:H1[b]?=some (some ⟨70,7,[[iv a.Number,iv a.Day,iv a.Kind,iv a.Security,iv a.From,iv a.To,iv a.Amount]]⟩):=by rw[hH1,hb];simp
  have c1:=hc.kept k1
  have lb1:=(gsI a1)
  rw[←hH1,←hb]
  have gm:=hg a (List.mem_of_getElem? ha) H1 (kp.trans k1)
  rw[fb]at gm
  simp -dsimp -implicitDefEqProofs [-getElem?_pos,go_sem,hP,t1,a1,lb1]
  refine aM (by rw[hr,hs];exact gm) hP hen ?_
  rintro x H2 ⟨rfl,k2⟩
  have a2:=k2 _ _ (by simp) a1
  have c2:=c1.kept k2
  have lb2:=(gsI a2)
  have oc2:=c2.oc
  have lc2:=(gsI oc2)
  simp -dsimp -implicitDefEqProofs [-getElem?_pos,go_sem,hP]
  refine ao (fun _=>true) [17] hP (by kernel_rfl) (by kernel_rfl) ?_
  simp -dsimp -implicitDefEqProofs [-getElem?_pos,go_sem,hP,t6,a2,lb2,oc2,lc2,s1,wn]
  refine ah (dX a.Kind 1 3) hP ji (ai (by simp -dsimp[-getElem?_pos,go_sem])) .sc ?_
  have dm:=fun {row src:Option Nat}=>Pq (row:=row) (src:=src) c hid r.Securities v'.l v'.n v'.d a (2*k) H2 c2 (by have:=hho.len;omega) hsl hso hho (by omega)
  rw[fb]at dm
  simp -dsimp -implicitDefEqProofs [-getElem?_pos,go_sem,hP,kb,t6,a2,lb2,oc2,lc2]
  refine aM (by rw[hr,hs];exact dm) hP KI ?_
  rintro x H3 ⟨rfl,_,hd⟩
  obtain⟨hid',c3,p3,k3⟩:=hd s3
  simp -dsimp -implicitDefEqProofs [-getElem?_pos,go_sem,hP,s3,t16,wk]
  refine⟨r.Moves.length-(k+1),by omega,?_⟩
  rw[hI]
  refine⟨k+1,c,hid',mK v' a,by omega,rfl,hv2,by simp -dsimp[-getElem?_pos,go_sem,t1],by simp -dsimp[-getElem?_pos,go_sem,t6],by simp -dsimp[-getElem?_pos,go_sem,t14],by simp -dsimp[-getElem?_pos,go_sem,t15],by simp -dsimp[-getElem?_pos,go_sem],?_,hcl,?_,?_⟩
  ·simpa[mK]using c3
  ·exact fun z o hz=>p3 z o (hhl z o hz) (((kp.trans k1).trans k2) z o (by simp) hz)
  ·intro z o _ hz
   have h2:=((kp.trans k1).trans k2) z o (by simp) hz
   have:=(gsI hz)
   have n1:¬z=c:=by omega
   exact k3 z o (by simp[n1,hhl z o hz]) h2
 ·have hk:k=r.Moves.length:=by simp at hq;omega
  subst hk
  rw[List.take_length]at hv
  have e:v=t:=by rw[hv.det,hrun.det]
  subst e
  simp -dsimp -implicitDefEqProofs [-getElem?_pos,go_sem,hP,t6]
  rw[hC]
  exact⟨c,hid,rfl,hc,hcl,hhl,kp⟩
theorem oN (a b:List THolding) (ha:a.length≤100000) (hb:b.length≤100000):
  PFun Tryz.prog none none 102 [.list 3 (aj THolding.cells a),.list 3 (aj THolding.cells b)] (·=bv (decide (a=b))):=by
 refine ab Tryz.func102 rfl (by simp[Tryz.f102]) (by kernel_rfl) ?_
 intro E hP hr hs hW hN
 by_cases hlen:a.length=b.length
 rotate_left
 ·have hne:¬a=b:=fun h=>hlen (by rw[h])
  have hl:decide ((a.length:Int)=(b.length:Int))=false:=by simp;omega
  simp -dsimp -implicitDefEqProofs [-getElem?_pos,go_sem,hP,hl,hne]
 have hl:decide ((a.length:Int)=(b.length:Int))=true:=by simp;omega
 simp -dsimp -implicitDefEqProofs [-getElem?_pos,go_sem,hP,hl]
 obtain⟨I,hI⟩:∃I:Nat→St→Prop,I=fun m s=>∃k:Nat,k≤a.length∧m=a.length-k∧s.t 0= .list 3 (aj THolding.cells a)∧s.t 1= .list 3 (aj THolding.cells b)∧s.t 12=iv a.length∧s.t 13=iv k∧a.take k=b.take k:=⟨_,rfl⟩
 refine ay I (a.length) (by rw[hN];rfl) ?_ ?_
 ·rw[hI]
  exact⟨0,by omega,by omega,by simp -dsimp[-getElem?_pos,go_sem],by simp -dsimp[-getElem?_pos,go_sem],by simp -dsimp[-getElem?_pos,go_sem],by simp -dsimp[-getElem?_pos,go_sem],by simp⟩
 intro m s hs'
 rw[hI]at hs'
 obtain⟨k,hk,hm,t0,t1,t12,t13,heq⟩:=hs'
 simp -dsimp -implicitDefEqProofs [-getElem?_pos,go_sem,hP,t12,t13]
 refine aB (fun h=>?_) (fun h=>?_)
 ·have hk:k<a.length:=by simpa using h
  obtain⟨x,hx⟩:∃x,a[k]?=some x:=⟨_,List.getElem?_eq_getElem hk⟩
  obtain⟨y,hy⟩:∃y,b[k]?=some y:=⟨_,List.getElem?_eq_getElem (by omega)⟩
  have wk:=af ((k:Int)+1) (by omega)
  have tx:a.take (k+1)=a.take k++[x]:=by rw[List.take_add_one,hx];rfl
  have ty:b.take (k+1)=b.take k++[y]:=by rw[List.take_add_one,hy];rfl
  simp -dsimp -implicitDefEqProofs [-getElem?_pos,go_sem,hP,t13]
  refine ao (fun _=>true) [] hP (by kernel_rfl) (by kernel_rfl) ?_
  by_cases hxy:x=y
  ·subst hxy
   simp -dsimp -implicitDefEqProofs [-getElem?_pos,go_sem,hP,t0,t1,hx,hy,THolding.cells,t13,wk]
   refine⟨a.length-(k+1),by omega,?_⟩
   rw[hI]
   exact⟨k+1,by omega,rfl,by simp -dsimp[-getElem?_pos,go_sem,t0],by simp -dsimp[-getElem?_pos,go_sem,t1],by simp -dsimp[-getElem?_pos,go_sem,t12],by simp -dsimp[-getElem?_pos,go_sem],by rw[tx,ty,heq]⟩
  ·have hne:¬a=b:=fun h=>by
    subst h
    rw[hx]at hy
    exact hxy (Option.some.inj hy)
   simp -dsimp -implicitDefEqProofs [-getElem?_pos,go_sem,hP,t0,t1,hx,hy,THolding.cells,t13,wk]
   refine aB (fun h=>?_) (fun h=>?_)
   ·simp -dsimp -implicitDefEqProofs [-getElem?_pos,go_sem,hP,hne]
   ·exact absurd (by cases x;cases y;simp at h;simp[h]) hxy
 ·have hk:k=a.length:=by simp at h;omega
  subst hk
  rw[List.take_length]at heq
  rw[hlen,List.take_length]at heq
  simp -dsimp -implicitDefEqProofs [-getElem?_pos,go_sem,hP,heq]
structure RegIn (r:TRegister):Prop where
 ml:r.Moves.length≤400
 sl:r.Securities.length≤20
 so:∀s,s∈r.Securities→rQ s=true
 asc:∀(i:Nat) (s t:TSecurity),r.Securities[i]?=some s→r.Securities[i+1]?=some t→s.ID<t.ID
theorem RegOk.regIn {r:TRegister} {d:Int} (h:RegOk r d):RegIn r:=by
 obtain⟨h1,h2⟩:=yL _ _ h.secs
 exact⟨h.mlen,h.slen,h1,h2⟩
theorem RegOk.hl {r:TRegister} {d:Int} (h:RegOk r d):HoldOk r.Holdings (2*r.Moves.length):=h.run.ok
set_option maxHeartbeats 4000000 in
theorem Gg (r:TRegister) (d:Int) (h:RegOk r d):PFun Tryz.prog none none 52 [.agg r.cells] (·=iv 0):=by
 have hin:=h.regIn
 have h1:=hin.ml
 have h2:=hin.sl
 have h4:=h.hl
 refine ab Tryz.func52 rfl (by simp[Tryz.f52]) (by kernel_rfl) ?_
 intro E hP hr hs hW hN
 have d1:decide (20<(r.Securities.length:Int))=false:=decide_eq_false (by omega)
 have d2:decide (400<(r.Moves.length:Int))=false:=decide_eq_false (by omega)
 have ir:=gJ r
 simp -dsimp -implicitDefEqProofs [-getElem?_pos,go_sem,hP,dQ,al,d1,d2]
 obtain⟨I,hI⟩:∃I:Nat→St→Prop,I=fun m s=>∃k:Nat,k≤r.Securities.length∧m=r.Securities.length-k∧s.t 1= .ref 0 0 0∧s.t 18=bb r.Securities∧s.t 19=iv r.Securities.length∧s.t 20=iv k∧s.H[0]?=some (some ⟨45,3,[[bb r.Securities,aQ r.Holdings,cB r.Moves]]⟩):=⟨_,rfl⟩
 refine ay I (r.Securities.length) (by rw[hN];rfl) ?_ ?_
 ·rw[hI]
  exact⟨0,by omega,by omega,by simp -dsimp[-getElem?_pos,go_sem],by simp -dsimp[-getElem?_pos,go_sem],by simp -dsimp[-getElem?_pos,go_sem,al],by simp -dsimp[-getElem?_pos,go_sem],by simp -dsimp[-getElem?_pos,go_sem]⟩
 intro m s hs'
 rw[hI]at hs'
 obtain⟨k,hk,hm,t1,t18,t19,t20,g0⟩:=hs'
 have l0:=(gsI g0)
 simp -dsimp -implicitDefEqProofs [-getElem?_pos,go_sem,hP,t19,t20]
 refine aB (fun hq=>?_) (fun hq=>?_)
 ·have hk:k<r.Securities.length:=by simpa using hq
  obtain⟨a,ha⟩:∃a,r.Securities[k]?=some a:=⟨_,List.getElem?_eq_getElem hk⟩
  have wk:=af ((k:Int)+1) (by omega)
  have sp:=Fx a (hin.so a (List.mem_of_getElem? ha))
  rw[jU]at sp
  have g0':∀x:ac,(s.H++x)[0]?=some (some ⟨45,3,[[bb r.Securities,aQ r.Holdings,cB r.Moves]]⟩):=fun x=>by rw[List.getElem?_append_left l0];exact g0
  simp -dsimp -implicitDefEqProofs [-getElem?_pos,go_sem,hP,t18,t20,ha,jU]
  refine ao (fun _=>true) [] hP (by kernel_rfl) (by kernel_rfl) ?_
  simp -dsimp -implicitDefEqProofs [-getElem?_pos,go_sem,hP]
  refine ah sp hP M0 (ai (by simp -dsimp[-getElem?_pos,go_sem])) .sc ?_
  by_cases k0:k=0
  ·subst k0
   have w1:=af 1 (by omega)
   simp -dsimp -implicitDefEqProofs [-getElem?_pos,go_sem,hP,t1,g0',t20,wk,w1]
   refine⟨r.Securities.length-1,by omega,?_⟩
   rw[hI]
   exact⟨1,by omega,rfl,by simp -dsimp[-getElem?_pos,go_sem,t1],by simp -dsimp[-getElem?_pos,go_sem,t18],by simp -dsimp[-getElem?_pos,go_sem,t19],by simp -dsimp[-getElem?_pos,go_sem,w1],by simp -dsimp[-getElem?_pos,go_sem,g0']⟩
  ·obtain⟨j,rfl⟩:∃j,k=j+1:=⟨k-1,by omega⟩
   obtain⟨z,hz⟩:∃z,r.Securities[j]?=some z:=⟨_,List.getElem?_eq_getElem (by omega)⟩
   have lt:=hin.asc j z a hz ha
   have dj:decide ((0:Int)<((j+1:Nat):Int))=true:=decide_eq_true (by omega)
   have wj:=af (((j+1:Nat):Int)-1) (by omega)
   have ej:((j+1:Nat):Int)-1=(j:Int):=by omega
   have dl:decide (a.ID≤z.ID)=false:=decide_eq_false (by omega)
   have lj:j<r.Securities.length:=by omega
   rw[ej]at wj
   have wk2:=af ((j:Int)+1+1) (by omega)
   simp -dsimp -implicitDefEqProofs [-getElem?_pos,go_sem,hP,t1,g0',t20,wk,wk2,dj,wj,ej,hz,jU,dl,lj]
   refine⟨r.Securities.length-(j+1+1),by omega,?_⟩
   rw[hI]
   exact⟨j+1+1,by omega,rfl,by simp -dsimp[-getElem?_pos,go_sem,t1],by simp -dsimp[-getElem?_pos,go_sem,t18],by simp -dsimp[-getElem?_pos,go_sem,t19],by simp -dsimp[-getElem?_pos,go_sem,wk2],by simp -dsimp[-getElem?_pos,go_sem,g0']⟩
 ·have hk:k=r.Securities.length:=by simp at hq;omega
  subst hk
  have rm:=fun {row src:Option Nat}=>yl (row:=row) (src:=src) r 101 [] ⟨r.Holdings,r.Moves.length,d⟩ s.H h.run hin.ml (by omega) hin.so Em fun m hm H' hk=>(qm ((Ft m).lift _ _) (ai (by simp[nU])) ⟨_,rfl⟩ (by rintro _ rfl;simp[kH])).mono (by rintro x H'' ⟨rfl,rfl⟩;exact⟨rfl,au _ _⟩)
  rw[dQ]at rm
  simp -dsimp -implicitDefEqProofs [-getElem?_pos,go_sem,hP,t1,g0]
  refine aM (by rw[hr,hs];exact rm) hP Ed ?_
  rintro x H1 ⟨c,hid,rfl,hc,_,_,kp⟩
  have a1:=kp _ _ (by simp) g0
  have l1:=(gsI a1)
  have oc:=hc.oc
  have lc:=(gsI oc)
  have ihl:=bD r.Holdings
  have lq:=oN r.Holdings r.Holdings (by have:=h4.len;omega) (by have:=h4.len;omega)
  rw[decide_eq_true rfl]at lq
  simp -dsimp -implicitDefEqProofs [-getElem?_pos,go_sem,hP]
  refine ao (fun _=>true) [] hP (by kernel_rfl) (by kernel_rfl) ?_
  simp -dsimp -implicitDefEqProofs [-getElem?_pos,go_sem,hP,t1,a1,l1,oc,lc]
  refine bM (lq.lift _ _) hP Lu (cY hc.oh (by rw[al]) ihl (aH ihl (be.2 trivial))) ⟨_,rfl⟩ (by rintro x rfl;simp[kH]) ?_
  rintro x rfl
  simp -dsimp -implicitDefEqProofs [-getElem?_pos,go_sem,hP]
open Go.PA
open Go.RowKit
theorem sQ {row src:Option Nat} (l:List TMove) (H:ac) (hl:l.length≤1000000):MFun Tryz.prog row src 33 [.list 7 (aj TMove.cells l)] H (fun r H'=>∃id,r= .sref id 0 l.length∧H.length≤id∧H'[id]?=some (some ⟨70,7,aj TMove.cells l⟩)∧Kept [] H H'):=by
 have own:MFun Tryz.prog row src 33 [.list 7 (aj TMove.cells l)] H (fun r H'=>(r= .nil∧l=[]∧H'=H)∨∃id,r= .sref id 0 l.length∧H.length≤id∧H'[id]?=some (some ⟨70,7,aj TMove.cells l⟩)∧Kept [] H H'):=by
  cases l with
  |nil=>
   refine kY fun A c=>?_
   refine aI Tryz.func33 rfl (by simp[Tryz.f33]) (by kernel_rfl) ⟨.nil,H,.inl ⟨rfl,rfl,rfl⟩⟩ ?_
   intro E hP hr hs hN
   cases A with
   |none=>simp -dsimp -implicitDefEqProofs [-getElem?_pos,go_sem,hP]
   |some a=>
    simp -dsimp -implicitDefEqProofs [-getElem?_pos,go_sem,hP]
    exact aK _ _ _
  |cons a l=>
   refine aI Tryz.func33 rfl (by simp[Tryz.f33]) (by kernel_rfl) ⟨_,H++[some ⟨70,7,aj TMove.cells (a::l)⟩],.inr ⟨H.length,rfl,Nat.le_refl _,by simp,eQ _ (au _ _)⟩⟩ ?_
   intro E hP hr hs hN
   simp only[List.length_cons]at hl
   have e:aj TMove.cells (a::l)=TMove.cells a::aj TMove.cells l:=rfl
   simp -dsimp -implicitDefEqProofs [-getElem?_pos,go_sem,hP,e]
   refine⟨by omega,by omega,?_⟩
   exact aK _ _ _
 refine (own.ownNil 70 7).mono ?_
 rintro r H' (⟨H0,h0,rfl,rfl⟩|⟨hne,h⟩)
 ·rcases h0 with⟨_,rfl,rfl⟩|⟨id,h,_⟩
  ·exact⟨_,rfl,Nat.le_refl _,by simp[aj],eQ _ (au _ _)⟩
  ·cases h
 ·rcases h with⟨h,_⟩|h
  ·exact absurd h hne
  ·exact h
structure RegC (H:ac) (r:TRegister) (i1 i2 i3:Nat):Prop where
 o1:H[i1]?=some (some ⟨89,7,aj TSecurity.cells r.Securities⟩)
 o2:H[i2]?=some (some ⟨173,3,aj THolding.cells r.Holdings⟩)
 o3:H[i3]?=some (some ⟨70,7,aj TMove.cells r.Moves⟩)
def So (r:TRegister) (i1 i2 i3:Nat):List AV:=[.sref i1 0 r.Securities.length,.sref i2 0 r.Holdings.length,.sref i3 0 r.Moves.length]
theorem RegC.cw {H:ac} {r:TRegister} {i1 i2 i3:Nat} (h:RegC H r i1 i2 i3):CW H (So r i1 i2 i3) r.cells:=
 da h.o1 (by rw[al]) (iV _) (da h.o2 (by rw[al]) (bD _) (da h.o3 (by rw[al]) (jF _) .nil))
open Go.PA
open Go.RowKit
theorem BS {H:ac}:CW H [.nil,.nil,.nil] (⟨[],[],[]⟩:TRegister).cells:=bW (bW (bW .nil))
open Go.PA
abbrev ce (l:List TPosting):AV:= .list 8 (aj TPosting.cells l)
theorem cP (p:TPosting):p.cells=[iv p.Number,iv p.Day,iv p.Entity,iv p.Debit,iv p.Credit,iv p.Amount,iv p.Partner,iv p.Ref]:=rfl
theorem dG (l:List TPosting):Imm (ce l):=aV _ TPosting.imm _
def dF (n lo hi:Int):Bool:=decide (lo≤n)&&decide (n≤hi)
theorem qB {n lo hi:Int}:dF n lo hi=true↔lo≤n∧n≤hi:=by simp[dF]
def gH (a:Int):Int:=if 100≤a∧a≤599 then a / 100 else 0
theorem El (a:Int):0<gH a↔100≤a∧a≤599:=by
 unfold gH
 split<;>omega
theorem AU (n:Int):0≤gH n∧gH n≤5:=by
 unfold gH
 split<;>omega
def iQ (p:TPosting):Bool:=
 dF p.Number 1 1000000&&dF p.Day 0 36000&&dF p.Entity 1 10&&dF p.Debit 100 599&&dF p.Credit 100 599&&!decide (p.Debit=p.Credit)&&dF p.Amount 1 1000000000000&&dF p.Partner 0 10&&!decide (p.Partner=p.Entity)&&dF p.Ref 0 1000000
structure PostOk (p:TPosting):Prop where
 num:1≤p.Number∧p.Number≤1000000
 day:0≤p.Day∧p.Day≤36000
 ent:1≤p.Entity∧p.Entity≤10
 deb:100≤p.Debit∧p.Debit≤599
 cre:100≤p.Credit∧p.Credit≤599
 ne:p.Debit≠p.Credit
 amt:1≤p.Amount∧p.Amount≤1000000000000
 par:0≤p.Partner∧p.Partner≤10
 pne:p.Partner≠p.Entity
 ref:0≤p.Ref∧p.Ref≤1000000
theorem g8 (p:TPosting):iQ p=true↔PostOk p:=by
 simp only[iQ,Bool.and_eq_true,qB,Bool.not_eq_true',decide_eq_false_iff_not]
 constructor
 ·rintro⟨⟨⟨⟨⟨⟨⟨⟨⟨h1,h2⟩,h3⟩,h4⟩,h5⟩,h6⟩,h7⟩,h8⟩,h9⟩,h10⟩
  exact⟨h1,h2,h3,h4,h5,h6,h7,h8,h9,h10⟩
 ·rintro⟨h1,h2,h3,h4,h5,h6,h7,h8,h9,h10⟩
  exact⟨⟨⟨⟨⟨⟨⟨⟨⟨h1,h2⟩,h3⟩,h4⟩,h5⟩,h6⟩,h7⟩,h8⟩,h9⟩,h10⟩
open Go.PA
open Go.RowKit
theorem gS (n lo hi:Int):PFun Tryz.prog none none 191 [iv n,iv lo,iv hi] (·=bv (dF n lo hi)):=by
 refine ab Tryz.func191 rfl (by simp[Tryz.f191]) (by kernel_rfl) ?_
 intro E hP hr hs hW hN
 by_cases h1:lo≤n<;>by_cases h2:n≤hi<;>simp -dsimp -implicitDefEqProofs [-getElem?_pos,go_sem,hP,h1,h2,dF]
theorem Hh (n:Int):PFun Tryz.prog none none 192 [iv n] (·=bv (dF n 1 10)):=by
 refine ab Tryz.func192 rfl (by simp[Tryz.f192]) (by kernel_rfl) ?_
 intro E hP hr hs hW hN
 simp -dsimp -implicitDefEqProofs [-getElem?_pos,go_sem,hP]
 refine ah (gS n 1 10) hP pG (ai (by simp -dsimp[-getElem?_pos,go_sem])) .sc ?_
 simp -dsimp -implicitDefEqProofs [-getElem?_pos,go_sem,hP]
theorem FM {a:Int} (h:100≤a∧a≤599):IntKind.i64.wrap (a.tdiv 100)=a / 100:=by
 rw[Int.tdiv_eq_ediv_of_nonneg (by omega)]
 exact af _ (by omega)
theorem Bz (n:Int):PFun Tryz.prog none none 193 [iv n] (·=iv (gH n)):=by
 refine ab Tryz.func193 rfl (by simp[Tryz.f193]) (by kernel_rfl) ?_
 intro E hP hr hs hW hN
 simp -dsimp -implicitDefEqProofs [-getElem?_pos,go_sem,hP]
 refine ah (gS n 100 599) hP pG (ai (by simp -dsimp[-getElem?_pos,go_sem])) .sc ?_
 by_cases h:100≤n∧n≤599
 ·have h1:dF n 100 599=true:=qB.2 h
  have h2:gH n=n / 100:=if_pos h
  simp -dsimp -implicitDefEqProofs [-getElem?_pos,go_sem,hP,h1,FM h,h2]
 ·have h1:dF n 100 599=false:=by
   rw[Bool.eq_false_iff]
   exact fun e=>h (qB.1 e)
  have h2:gH n=0:=if_neg h
  simp -dsimp -implicitDefEqProofs [-getElem?_pos,go_sem,hP,h1,h2]
theorem oX (n:Int):decide (0<gH n)=dF n 100 599:=by
 rw[Bool.eq_iff_iff,decide_eq_true_eq,qB,El]
set_option maxHeartbeats 2000000 in
theorem DM (p:TPosting):PFun Tryz.prog none none 129 [.agg p.cells] (·=bv (iQ p)):=by
 refine ab Tryz.func129 rfl (by simp[Tryz.f129]) (by kernel_rfl) ?_
 intro E hP hr hs hW hN
 have i1:=gS p.Number 1 1000000
 have i2:=gS p.Day 0 36000
 have i3:=Hh p.Entity
 have i4:=oX p.Debit
 have i5:=oX p.Credit
 have i7:=gS p.Amount 1 1000000000000
 have i8:=gS p.Partner 0 10
 have i10:=gS p.Ref 0 1000000
 have pb:iQ p=(dF p.Number 1 1000000&&dF p.Day 0 36000&&dF p.Entity 1 10&&dF p.Debit 100 599&&dF p.Credit 100 599&&!decide (p.Debit=p.Credit)&&dF p.Amount 1 1000000000000&&dF p.Partner 0 10&&!decide (p.Partner=p.Entity)&&dF p.Ref 0 1000000):=rfl
 generalize dF p.Number 1 1000000=b1 at i1 pb
 generalize dF p.Day 0 36000=b2 at i2 pb
 generalize dF p.Entity 1 10=b3 at i3 pb
 generalize dF p.Debit 100 599=b4 at i4 pb
 generalize dF p.Credit 100 599=b5 at i5 pb
 generalize dF p.Amount 1 1000000000000=b7 at i7 pb
 generalize dF p.Partner 0 10=b8 at i8 pb
 generalize dF p.Ref 0 1000000=b10 at i10 pb
 rw[pb]
 simp -dsimp -implicitDefEqProofs [-getElem?_pos,go_sem,hP,cP]
 refine ah i1 hP pG (ai (by simp -dsimp[-getElem?_pos,go_sem])) .sc ?_
 cases b1
 ·simp -dsimp -implicitDefEqProofs [-getElem?_pos,go_sem,hP,Bool.false_and]
 simp -dsimp -implicitDefEqProofs [-getElem?_pos,go_sem,hP]
 refine ah i2 hP pG (ai (by simp -dsimp[-getElem?_pos,go_sem])) .sc ?_
 cases b2
 ·simp -dsimp -implicitDefEqProofs [-getElem?_pos,go_sem,hP,Bool.false_and,Bool.true_and]
 simp -dsimp -implicitDefEqProofs [-getElem?_pos,go_sem,hP]
 refine ah i3 hP Pk (ai (by simp -dsimp[-getElem?_pos,go_sem])) .sc ?_
 cases b3
 ·simp -dsimp -implicitDefEqProofs [-getElem?_pos,go_sem,hP,Bool.false_and,Bool.true_and]
 simp -dsimp -implicitDefEqProofs [-getElem?_pos,go_sem,hP]
 refine ah (Bz p.Debit) hP IK (ai (by simp -dsimp[-getElem?_pos,go_sem])) .sc ?_
 cases b4
 ·simp -dsimp -implicitDefEqProofs [-getElem?_pos,go_sem,hP,i4,Bool.false_and,Bool.true_and]
 simp -dsimp -implicitDefEqProofs [-getElem?_pos,go_sem,hP,i4]
 refine ah (Bz p.Credit) hP IK (ai (by simp -dsimp[-getElem?_pos,go_sem])) .sc ?_
 cases b5
 ·simp -dsimp -implicitDefEqProofs [-getElem?_pos,go_sem,hP,i5,Bool.false_and,Bool.true_and]
 by_cases h6:p.Debit=p.Credit
 ·simp -dsimp -implicitDefEqProofs [-getElem?_pos,go_sem,hP,i5,h6,decide_true,Bool.not_true,Bool.and_false,Bool.false_and,Bool.true_and]
 have d6:decide (p.Debit=p.Credit)=false:=decide_eq_false h6
 simp -dsimp -implicitDefEqProofs [-getElem?_pos,go_sem,hP,i5,d6]
 refine ah i7 hP pG (ai (by simp -dsimp[-getElem?_pos,go_sem])) .sc ?_
 cases b7
 ·simp -dsimp -implicitDefEqProofs [-getElem?_pos,go_sem,hP,Bool.false_and,Bool.true_and,Bool.and_false]
 simp -dsimp -implicitDefEqProofs [-getElem?_pos,go_sem,hP]
 refine ah i8 hP pG (ai (by simp -dsimp[-getElem?_pos,go_sem])) .sc ?_
 cases b8
 ·simp -dsimp -implicitDefEqProofs [-getElem?_pos,go_sem,hP,Bool.false_and,Bool.true_and,Bool.and_false]
 by_cases h9:p.Partner=p.Entity
 ·simp -dsimp -implicitDefEqProofs [-getElem?_pos,go_sem,hP,h9,decide_true,Bool.not_true,Bool.and_false,Bool.false_and,Bool.true_and]
 have d9:decide (p.Partner=p.Entity)=false:=decide_eq_false h9
 simp -dsimp -implicitDefEqProofs [-getElem?_pos,go_sem,hP,d9]
 refine ah i10 hP pG (ai (by simp -dsimp[-getElem?_pos,go_sem])) .sc ?_
 simp -dsimp -implicitDefEqProofs [-getElem?_pos,go_sem,hP,d6,d9,Bool.not_false,Bool.true_and]
theorem Mv (p:TPosting):PFun Tryz.prog none none 142 [.agg p.cells] (·=bv (!iQ p)):=by
 refine ab Tryz.func142 rfl (by simp[Tryz.f142]) (by kernel_rfl) ?_
 intro E hP hr hs hW hN
 have hi:=DM p
 rw[cP]at hi
 simp -dsimp -implicitDefEqProofs [-getElem?_pos,go_sem,hP,cP]
 refine ah hi hP N4 (ai (by simp -dsimp[-getElem?_pos,go_sem])) .sc ?_
 simp -dsimp -implicitDefEqProofs [-getElem?_pos,go_sem,hP]
theorem rg (l:List TPosting) (g:FuncId) (caps:List AV) (p:TPosting→Bool) (hl:l.length≤1000000) (hen:aa Tryz.prog g=true) (hcap:∀a,a∈caps→Imm a)
  (hg:∀a,a∈l→PFun Tryz.prog none none g (.agg (TPosting.cells a)::caps) (·=bv (p a))):
  PFun Tryz.prog none none 205 [.list 8 (aj TPosting.cells l),.fn g caps] (·=iv (fA p l)):=by
 refine ab Tryz.func205 rfl (by simp[Tryz.f205]) (by kernel_rfl) ?_
 intro E hP hr hs hW hN
 simp -dsimp -implicitDefEqProofs [-getElem?_pos,go_sem,hP]
 obtain⟨I,hI⟩:∃I:Nat→St→Prop,I=fun m s=>∃k:Nat,k≤l.length∧m=l.length-k∧fA p l=bE p k (l.drop k)∧s.t 0= .list 8 (aj TPosting.cells l)∧s.t 1= .fn g caps∧s.t 7=iv l.length∧s.t 8=iv k:=⟨_,rfl⟩
 refine ay I (l.length) (by rw[hN];rfl) ?_ ?_
 ·rw[hI]
  exact⟨0,by omega,by omega,by simp[fA],by simp -dsimp[-getElem?_pos,go_sem],by simp -dsimp[-getElem?_pos,go_sem],by simp -dsimp[-getElem?_pos,go_sem],by simp -dsimp[-getElem?_pos,go_sem]⟩
 intro m s hs'
 rw[hI]at hs'
 obtain⟨k,hk,hm,hi,t0,t1,t7,t8⟩:=hs'
 simp -dsimp -implicitDefEqProofs [-getElem?_pos,go_sem,hP,t7,t8]
 refine aB (fun h=>?_) (fun h=>?_)
 ·have hk:k<l.length:=by simpa using h
  obtain⟨a,ha⟩:∃a,l[k]?=some a:=⟨_,List.getElem?_eq_getElem hk⟩
  have wk:=af ((k:Int)+1) (by omega)
  have hz:(TPosting.cells a).take 8=TPosting.cells a:=List.take_of_length_le (by rw[TPosting.len];omega)
  have hd:l.drop k=a::l.drop (k+1):=by
   rw[List.getElem?_eq_getElem hk]at ha
   rw[List.drop_eq_getElem_cons hk,Option.some.inj ha]
  simp -dsimp -implicitDefEqProofs [-getElem?_pos,go_sem,hP,t8,t1,t0,ha,TPosting.len,hz]
  refine ae ((hg a (List.mem_of_getElem? ha)).lift _ _) hP hen (fun x hx=>?_) .sc ?_
  ·rcases List.mem_cons.1 hx with rfl|hx
   ·exact az.2 (TPosting.imm a)
   ·exact hcap x hx
  rw[hd]at hi
  simp only[bE]at hi
  simp -dsimp -implicitDefEqProofs [-getElem?_pos,go_sem,hP]
  refine aB (fun hp=>?_) (fun hp=>?_)
  ·rw[if_pos hp]at hi
   simp -dsimp -implicitDefEqProofs [-getElem?_pos,go_sem,hP]
   exact hi.symm
  ·rw[hp,if_neg (by simp)]at hi
   simp -dsimp -implicitDefEqProofs [-getElem?_pos,go_sem,hP,t8,wk]
   refine⟨l.length-(k+1),by omega,?_⟩
   rw[hI]
   exact⟨k+1,by omega,rfl,hi,by simp -dsimp[-getElem?_pos,go_sem,t0],by simp -dsimp[-getElem?_pos,go_sem,t1],by simp -dsimp[-getElem?_pos,go_sem,t7],by simp -dsimp[-getElem?_pos,go_sem]⟩
 ·have hk:k=l.length:=by simp at h;omega
  subst hk
  rw[List.drop_length]at hi
  simp -dsimp -implicitDefEqProofs [-getElem?_pos,go_sem,hP]
  exact hi.symm
theorem oy (l:List TPosting) (g:FuncId) (caps:List AV) (p:TPosting→Bool) (hl:l.length≤1000000) (hen:aa Tryz.prog g=true) (hcap:∀a,a∈caps→Imm a)
  (hg:∀a,a∈l→PFun Tryz.prog none none g (.agg (TPosting.cells a)::caps) (·=bv (p a))):
  PFun Tryz.prog none none 141 [.list 8 (aj TPosting.cells l),.fn g caps] (·=bv (l.any p)):=by
 refine ab Tryz.func141 rfl (by simp[Tryz.f141]) (by kernel_rfl) ?_
 intro E hP hr hs hW hN
 obtain⟨w,hw⟩:∃w,w=l.any p:=⟨_,rfl⟩
 rw[←hw]
 have hi:∀a,a∈[AV.list 8 (aj TPosting.cells l),.fn g caps]→Imm a:=fun a ha=>by
  simp only[List.mem_cons,List.not_mem_nil,or_false]at ha
  rcases ha with rfl|rfl
  ·exact aV _ TPosting.imm _
  ·exact eW.2 hcap
 simp -dsimp -implicitDefEqProofs [-getElem?_pos,go_sem,hP]
 refine ae ((rg l g caps p hl hen hcap hg).lift _ _) hP Pd hi .sc ?_
 rcases dY p l with⟨h1,h2⟩|⟨i,a,h1,h2,h3,_⟩
 ·have:w=false:=by rw[hw];exact List.any_eq_false.2 fun a ha=>by simp[h2 a ha]
  simp -dsimp -implicitDefEqProofs [-getElem?_pos,go_sem,hP,h1,this]
 ·have d:decide ((0:Int)≤(i:Int))=true:=decide_eq_true (by omega)
  have:w=true:=by rw[hw];exact List.any_eq_true.2 ⟨a,List.mem_of_getElem? h1,h2⟩
  simp -dsimp -implicitDefEqProofs [-getElem?_pos,go_sem,hP,h3,d,this]
open Go.PA
open Go.RowKit
def dT:Nat→Int→List TPosting→Bool
 |_,_,[]=>true
 |k,d,p::l=>decide (p.Number=(k:Int)+1)&&(decide (d≤p.Day)&&dT (k+1) p.Day l)
def bY (l:List TPosting):Int:=if 400<l.length then 3 else if l.any (fun p=>!iQ p)=true then 85 else if dT 0 0 l=true then 0 else 86
def yS (l:List TPosting):Int:=(l.getLast?.map (·.Day)).getD 0
theorem nS {l:List TPosting} (h:bY l=0):l.length≤400∧(∀p,p∈l→PostOk p)∧dT 0 0 l=true:=by
 unfold bY at h
 split at h
 ·cases h
 split at h
 ·cases h
 split at h
 ·rename_i h1 h2 h3
  refine⟨by omega,fun p hp=>(g8 p).1 ?_,h3⟩
  cases hb:iQ p with
  |true=>rfl
  |false=>exact absurd (List.any_eq_true.2 ⟨p,hp,by simp[hb]⟩) h2
 ·cases h
theorem qM {l:List TPosting} {k:Nat} {p:TPosting} (hp:l[k]?=some p):∀(j:Nat) (x:TPosting),k+1=j+1→l[j]?=some x→p.Day=x.Day:=fun j x h hx=>by
 have:j=k:=by omega
 subst this
 rw[hp]at hx
 rw[Option.some.inj hx]
abbrev cL (l:TLedger):l.cells=[ce l.Postings]:=rfl
set_option maxHeartbeats 1000000 in
theorem yd (l:TLedger) (hl:l.Postings.length≤100000):PFun Tryz.prog none none 85 [.agg l.cells] (·=iv (bY l.Postings)):=by
 refine ab Tryz.func85 rfl (by simp[Tryz.f85]) (by kernel_rfl) ?_
 intro E hP hr hs hW hN
 obtain⟨l⟩:=l
 simp only at hl
 have ip:=dG l
 simp -dsimp -implicitDefEqProofs [-getElem?_pos,go_sem,hP,cL]
 refine aB (fun h=>?_) (fun h=>?_)
 ·have h':400<l.length:=by simp at h;omega
  have:bY l=3:=if_pos h'
  simp -dsimp -implicitDefEqProofs [-getElem?_pos,go_sem,hP,this]
 have h0:¬400<l.length:=by simp at h;omega
 simp -dsimp -implicitDefEqProofs [-getElem?_pos,go_sem,hP]
 refine ae ((oy l 142 [] (fun p=>!iQ p) (by omega) Pg (by simp) fun p _=>Mv p).lift _ _) hP NI (by simp[ip,eW]) .sc ?_
 by_cases h1:l.any (fun p=>!iQ p)=true
 ·have:bY l=85:=by rw[bY,if_neg h0,if_pos h1]
  simp -dsimp -implicitDefEqProofs [-getElem?_pos,go_sem,hP,h1,this]
 have h1':(l.any fun p=>!iQ p)=false:=by simpa using h1
 have hv:∀p,p∈l→PostOk p:=fun p hp=>(g8 p).1 (by have:=List.any_eq_false.1 h1' p hp;simpa using this)
 have tc:bY l=if dT 0 0 l=true then 0 else 86:=by rw[bY,if_neg h0,if_neg h1]
 simp -dsimp -implicitDefEqProofs [-getElem?_pos,go_sem,hP,h1']
 obtain⟨I,hI⟩:∃I:Nat→St→Prop,I=fun m s=>∃(k:Nat) (d:Int),k≤l.length∧m=l.length-k∧dT 0 0 l=dT k d (l.drop k)∧(k=0→d=0)∧(∀j x,k=j+1→l[j]?=some x→d=x.Day)∧s.t 1= .ref 0 0 0∧s.t 15=ce l∧s.t 16=iv l.length∧s.t 17=iv k∧s.H[0]?=some (some ⟨48,1,[[ce l]]⟩):=⟨_,rfl⟩
 refine ay I (l.length) (by rw[hN];rfl) ?_ ?_
 ·rw[hI]
  exact⟨0,0,by omega,by omega,by simp,by simp,by omega,by simp -dsimp[-getElem?_pos,go_sem],by simp -dsimp[-getElem?_pos,go_sem],by simp -dsimp[-getElem?_pos,go_sem],by simp -dsimp[-getElem?_pos,go_sem],by simp -dsimp[-getElem?_pos,go_sem]⟩
 intro m s hs'
 rw[hI]at hs'
 obtain⟨k,d,hk,hm,hq,hd0,hd1,t1,t15,t16,t17,hH⟩:=hs'
 have hlt:=(gsI hH)
 simp -dsimp -implicitDefEqProofs [-getElem?_pos,go_sem,hP,t16,t17]
 refine aB (fun h=>?_) (fun h=>?_)
 ·have hk:k<l.length:=by simpa using h
  obtain⟨p,hp⟩:∃p,l[k]?=some p:=⟨_,List.getElem?_eq_getElem hk⟩
  have hpo:=hv p (List.mem_of_getElem? hp)
  have wk:=af ((k:Int)+1) (by omega)
  have hdr:l.drop k=p::l.drop (k+1):=by
   rw[List.getElem?_eq_getElem hk]at hp
   rw[List.drop_eq_getElem_cons hk,Option.some.inj hp]
  rw[hdr,dT]at hq
  have nx:IntKind.i64.wrap ((k:Int)+1)=((k+1:Nat):Int):=by rw[wk];omega
  have g0:∀x:Option AObj,(s.H++[x])[0]?=some (some ⟨48,1,[[ce l]]⟩):=fun x=>by rw[List.getElem?_append_left hlt];exact hH
  simp -dsimp -implicitDefEqProofs [-getElem?_pos,go_sem,hP,t17,t15,hp,cP]
  refine ao (fun _=>true) [] hP (by kernel_rfl) (by kernel_rfl) ?_
  by_cases c1:p.Number=(k:Int)+1
  ·have d1:decide (p.Number=(k:Int)+1)=true:=decide_eq_true c1
   rcases Nat.eq_zero_or_pos k with k0|k0
   ·have hdd:d≤p.Day:=by rw[hd0 k0];exact hpo.day.1
    rw[d1,decide_eq_true hdd,Bool.true_and,Bool.true_and]at hq
    have k0':¬0<k:=by omega
    have hjk:decide ((0:Int)<(k:Int))=false:=decide_eq_false (by omega)
    simp -dsimp -implicitDefEqProofs [-getElem?_pos,go_sem,hP,wk,d1,t1,t17,k0',hjk]
    refine⟨l.length-(k+1),by omega,?_⟩
    rw[hI]
    exact⟨k+1,p.Day,by omega,rfl,hq,by omega,qM hp,by simp -dsimp[-getElem?_pos,go_sem,t1],by simp -dsimp[-getElem?_pos,go_sem,t15],by simp -dsimp[-getElem?_pos,go_sem,t16],by simp -dsimp[-getElem?_pos,go_sem],by simp -dsimp[-getElem?_pos,go_sem,g0]⟩
   ·obtain⟨j,hj⟩:∃j,k=j+1:=⟨k-1,by omega⟩
    obtain⟨x,hx⟩:∃x,l[j]?=some x:=⟨_,List.getElem?_eq_getElem (by omega)⟩
    have hdx:=hd1 j x hj hx
    have hjk:decide ((0:Int)<(k:Int))=true:=decide_eq_true (by omega)
    have wj:IntKind.i64.wrap ((k:Int)-1)=(j:Int):=by rw[af _ (by omega)];omega
    have s1:=g0 (some ⟨77,8,[[iv p.Number,iv p.Day,iv p.Entity,iv p.Debit,iv p.Credit,iv p.Amount,iv p.Partner,iv p.Ref]]⟩)
    rw[hdx,d1,Bool.true_and]at hq
    by_cases c2:x.Day≤p.Day
    ·have d2:decide (p.Day<x.Day)=false:=decide_eq_false (by omega)
     rw[decide_eq_true c2,Bool.true_and]at hq
     simp -dsimp -implicitDefEqProofs [-getElem?_pos,go_sem,hP,wk,d1,t1,t17,k0,hjk,wj,s1,hx,cP,d2]
     refine⟨l.length-(k+1),by omega,?_⟩
     rw[hI]
     exact⟨k+1,p.Day,by omega,rfl,hq,by omega,qM hp,by simp -dsimp[-getElem?_pos,go_sem,t1],by simp -dsimp[-getElem?_pos,go_sem,t15],by simp -dsimp[-getElem?_pos,go_sem,t16],by simp -dsimp[-getElem?_pos,go_sem],by simp -dsimp[-getElem?_pos,go_sem,g0]⟩
    ·have d2:decide (p.Day<x.Day)=true:=decide_eq_true (by omega)
     rw[decide_eq_false c2,Bool.false_and]at hq
     have:bY l=86:=by rw[tc,hq];rfl
     simp -dsimp -implicitDefEqProofs [-getElem?_pos,go_sem,hP,wk,d1,t1,k0,hjk,wj,s1,hx,cP,d2,this]
  ·have d1:decide (p.Number=(k:Int)+1)=false:=decide_eq_false c1
   rw[d1,Bool.false_and]at hq
   have:bY l=86:=by rw[tc,hq];rfl
   simp -dsimp -implicitDefEqProofs [-getElem?_pos,go_sem,hP,wk,d1,this]
 ·have hk:k=l.length:=by simp at h;omega
  subst hk
  rw[List.drop_length,dT]at hq
  have:bY l=0:=by rw[tc,hq];rfl
  simp -dsimp -implicitDefEqProofs [-getElem?_pos,go_sem,hP,this]
theorem FS:yS []=0:=rfl
theorem HE {l:List TPosting} {k:Nat} {p:TPosting} (h:l.length=k+1) (hp:l[k]?=some p):yS l=p.Day:=by
 rw[yS,List.getLast?_eq_getElem?,h]
 simp[hp]
abbrev PH:TLedger:=⟨[]⟩
def dM (l:List TPosting) (p:TPosting):List TPosting×Int:=
 if bY l=0 then
  if iQ p=false then ([],85)else if l.length=400 then ([],3)else if¬p.Number=(l.length:Int)+1 then ([],65)else if p.Day<yS l then ([],8)else (l++[p],0)
 else ([],bY l)
theorem jM {H:ac} {n:Int} {Q:AV→Prop} {b:Bx Q} (h:Q (.tup [.agg PH.cells,iv n])):jO H (.tup [.agg [.nil],iv n]) Q b:=
 aP (bW .nil) h
open Go.PA
open Go.RowKit
theorem Dj {q:TQueue} (hq:QOk q) {x:TItem}:nh q x=true↔(x.State=1∧x.Payment∈q.Waiting)∨(x.State≠1∧∀p,p∈q.Waiting→p.Warrant≠x.Payment.Warrant):=by
 unfold nh
 cases hw:js q x.Payment.Warrant with
 |none=>
  have h:=lY.1 hw
  simp only[Bool.not_eq_true',decide_eq_false_iff_not]
  constructor
  ·intro e
   exact .inr ⟨e,h⟩
  ·rintro (⟨_,hm⟩|⟨e,_⟩)
   ·exact absurd rfl (h _ hm)
   ·exact e
 |some w=>
  obtain⟨h1,h2⟩:=mj hw
  simp only[Bool.and_eq_true,decide_eq_true_eq]
  constructor
  ·rintro⟨e,he⟩
   exact .inl ⟨e,he▸h1⟩
  ·rintro (⟨e,hm⟩|⟨_,hn⟩)
   ·exact⟨e,wF hq.asc.nd h1 hm h2⟩
   ·exact absurd h2 (hn _ h1)
theorem Fl {a:TAccount} {id:Int}:(bC a id).2=true↔aD a=0∧id∈ids a.Subs:=by
 unfold bC
 split
 ·rename_i h
  constructor
  ·intro e
   refine⟨h,?_⟩
   cases hf:a.Subs.find? (fun s=>decide (s.ID=id))with
   |none=>rw[hf]at e;cases e
   |some s=>exact List.mem_map.2 ⟨s,List.mem_of_find?_eq_some hf,by simpa using List.find?_some hf⟩
  ·rintro⟨_,hm⟩
   obtain⟨s,hs,e⟩:=List.mem_map.1 hm
   cases hf:a.Subs.find? (fun s=>decide (s.ID=id))with
   |none=>
    have:=List.find?_eq_none.1 hf s hs
    simp[e]at this
   |some s=>rfl
 ·rename_i h
  exact⟨fun e=>(by cases e),fun e=>absurd e.1 h⟩
structure IOk (d:TDesk) (x:TItem):Prop where
 pay:PayOk x.Payment
 sub:aD d.Account=0∧x.Payment.Sub∈ids d.Account.Subs
 st:1≤x.State∧x.State≤5
 att:0≤x.Attempts∧x.Attempts≤5
 a5:¬(x.Attempts=5∧x.State=1)
 a0:¬(x.Attempts=0∧x.State≠1∧x.State≠5)
 w:(x.State=1∧x.Payment∈d.Queue.Waiting)∨(x.State≠1∧∀p,p∈d.Queue.Waiting→p.Warrant≠x.Payment.Warrant)
 bat:(mQ d.Queue x.Payment.Warrant:Int)=x.Attempts
 all:∀e,e∈d.Account.Entries→e.Ref=x.Payment.Warrant→e.Amount=x.Payment.Amount∧(e.From=x.Payment.Sub∧e.To=0∨e.From=0∧e.To=x.Payment.Sub)
 outs:(d.Account.Entries.countP (eT x.Payment):Int)=x.Attempts
 ins:(d.Account.Entries.countP (inE x.Payment):Int)+dW x=x.Attempts
theorem L6 {p:TPayment} {e:TEntry}:okE p e=true↔(e.Ref=p.Warrant→e.Amount=p.Amount∧(e.From=p.Sub∧e.To=0∨e.From=0∧e.To=p.Sub)):=by
 unfold okE
 by_cases h:e.Ref=p.Warrant
 ·simp[h]
 ·simp[h]
theorem Lo {x:TItem}:Ai x=true↔(0≤x.Attempts∧x.Attempts≤5)∧¬(x.Attempts=5∧x.State=1)∧¬(x.Attempts=0∧x.State≠1∧x.State≠5):=by
 unfold Ai
 rw[Bool.and_eq_true,Bool.and_eq_true,dS,Bool.not_eq_true',Bool.not_eq_true',Bool.and_eq_false_iff,Bool.and_eq_false_iff,Bool.not_eq_false',Bool.or_eq_true,decide_eq_false_iff_not,decide_eq_false_iff_not,decide_eq_false_iff_not,decide_eq_true_eq,decide_eq_true_eq]
 omega
theorem yW {d:TDesk} (hq:QOk d.Queue) {x:TItem}:qz d x=true↔IOk d x:=by
 simp only[qz,kO,Bool.and_eq_true,g7,Fl,dS,Lo,Dj hq,decide_eq_true_eq,List.all_eq_true,L6]
 constructor
 ·rintro⟨h1,h2,h3,⟨h4,h5,h6⟩,h7,h8,h9,h10,h11⟩
  exact⟨h1,h2,h3,h4,h5,h6,h7,h8,h9,h10,h11⟩
 ·rintro⟨h1,h2,h3,h4,h5,h6,h7,h8,h9,h10,h11⟩
  exact⟨h1,h2,h3,⟨h4,h5,h6⟩,h7,h8,h9,h10,h11⟩
theorem DOk.io {d:TDesk} (h:DOk d) {x:TItem} (hx:x∈d.Items):IOk d x:=(yW h.q).1 (h.i x hx)
theorem DOk.mk' {d:TDesk} (a:aD d.Account=0) (q:QOk d.Queue) (k:d.Items.map wrt=d.Queue.Known) (i:∀x,x∈d.Items→IOk d x):DOk d:=⟨a,q,k,fun x hx=>(yW q).2 (i x hx)⟩
theorem oW {α β:Type} (f:α→β) (p:β→Bool):∀l:List α,(l.map f).takeWhile p=(l.takeWhile fun x=>p (f x)).map f
 |[]=>rfl
 |a::l=>by
  rw[List.map_cons,List.takeWhile_cons,List.takeWhile_cons,oW f p l]
  cases p (f a)<;>rfl
theorem oK {α β:Type} (f:α→β) (p:β→Bool):∀l:List α,(l.map f).dropWhile p=(l.dropWhile fun x=>p (f x)).map f
 |[]=>rfl
 |a::l=>by
  rw[List.map_cons,List.dropWhile_cons,List.dropWhile_cons,oK f p l]
  cases p (f a)<;>rfl
theorem L7 (l:List TItem) (y:TItem):(ins ltI l y).map wrt=ins ltB (l.map wrt) (wrt y):=by
 unfold ins
 rw[List.map_append,List.map_cons,oW,oK]
 rfl
theorem HX {q:TQueue} (h:QOk q) {w:Int} (hw:w∉q.Known):mQ q w=0:=by
 unfold mQ
 have:∀b,b∈q.Batches→b.Payments.countP (df w)=0:=fun b hb=>by
  rw[List.countP_eq_zero]
  intro p hp e
  have e:p.Warrant=w:=by simpa[df]using e
  exact hw (e▸(jC h.bats b hb).2.2.1.kn p hp)
 rw[List.map_congr_left (g:=fun _=>0) this]
 induction q.Batches with
 |nil=>rfl
 |cons a l ih=>rw[List.map_cons,List.sum_cons,ih]
theorem xX {d x:TDesk} {p:TPayment} (h:dq d p=(x,0)):DOk d∧PayOk p∧p.Warrant∉d.Queue.Known∧x=⟨d.Account,⟨ins iX d.Queue.Waiting p,ins ltB d.Queue.Known p.Warrant,d.Queue.Batches⟩,ins ltI d.Items ⟨p,1,0⟩⟩∧DOk x:=by
 unfold dq at h
 by_cases c1:bH d=0
 rotate_left
 ·rw[if_neg c1]at h
  exact absurd (congrArg Prod.snd h) c1
 rw[if_pos c1]at h
 by_cases c2:(jh d.Queue p).2=0
 rotate_left
 ·rw[if_neg c2]at h
  exact absurd (congrArg Prod.snd h) c2
 rw[if_pos c2]at h
 by_cases c3:(bC d.Account p.Sub).2=true
 rotate_left
 ·rw[if_neg c3]at h
  simp at h
 rw[if_pos c3]at h
 by_cases c4:d.Account.Entries.any (wA p.Warrant)=true
 ·rw[if_pos c4]at h
  simp at h
 rw[if_neg c4]at h
 have hd:=dK.1 c1
 obtain⟨a1,a2,a3,a4,a5,a6,a7⟩:=LR (x:=(jh d.Queue p).1) (q:=d.Queue) (p:=p) (by rw[←c2])
 have hx:=(congrArg Prod.fst h).symm
 simp only at hx
 rw[a6]at hx a7
 have hne:∀e,e∈d.Account.Entries→e.Ref≠p.Warrant:=fun e he=>by
  have:=List.any_eq_false.1 (Bool.eq_false_iff.2 c4) e he
  simpa[wA]using this
 refine⟨hd,a2,a3,hx,?_⟩
 rw[hx]
 refine DOk.mk' hd.a a7 ?_ fun y hy=>?_
 ·rw[L7,hd.k]
  rfl
 rcases jt.1 hy with rfl|hy
 ·refine⟨a2,Fl.1 c3,by simp,by simp,by simp,by simp,.inl ⟨rfl,jt.2 (.inl rfl)⟩,?_,fun e he er=>absurd er (hne e he),?_,?_⟩
  ·exact (show ((mQ d.Queue p.Warrant:Nat):Int)=0 by rw[HX hd.q a3];rfl)
  ·rw[List.countP_eq_zero.2 fun e he=>by simp[eT,hne e he]];rfl
  ·rw[List.countP_eq_zero.2 fun e he=>by simp[inE,hne e he]];rfl
 ·have io:=hd.io hy
  have hyk:y.Payment.Warrant∈d.Queue.Known:=by rw[←hd.k];exact List.mem_map.2 ⟨y,hy,rfl⟩
  have hyp:p.Warrant≠y.Payment.Warrant:=fun e=>a3 (e▸hyk)
  refine⟨io.pay,io.sub,io.st,io.att,io.a5,io.a0,?_,io.bat,io.all,io.outs,io.ins⟩
  rcases io.w with⟨h1,h2⟩|⟨h1,h2⟩
  ·exact .inl ⟨h1,jt.2 (.inr h2)⟩
  ·refine .inr ⟨h1,fun z hz=>?_⟩
   rcases jt.1 hz with rfl|hz
   ·exact hyp
   ·exact h2 z hz
theorem zf {l:List TItem} {k:Nat} {x y:TItem} (hx:l[k]?=some x) (e:y.Payment.Warrant=x.Payment.Warrant):(l.set k y).map wrt=l.map wrt:=by
 rw[List.map_set]
 apply List.ext_getElem?
 intro j
 rw[List.getElem?_set,List.length_map]
 by_cases hj:k=j
 ·subst hj
  rw[if_pos rfl,if_pos (gsI hx),List.getElem?_map,hx]
  exact congrArg some e
 ·rw[if_neg hj]
theorem kM {l:List TItem} (hn:(l.map wrt).Nodup) {k:Nat} {x y z:TItem} (hx:l[k]?=some x) (hz:z∈l.set k y):z=y∨(z∈l∧z.Payment.Warrant≠x.Payment.Warrant):=by
 obtain⟨j,hj⟩:=List.getElem?_of_mem hz
 rw[List.getElem?_set]at hj
 by_cases hk:k=j
 ·subst hk
  rw[if_pos rfl,if_pos (gsI hx)]at hj
  exact .inl (Option.some.inj hj).symm
 ·rw[if_neg hk]at hj
  refine .inr ⟨List.mem_of_getElem? hj,fun e=>hk ?_⟩
  have e1:(l.map wrt)[k]?=some x.Payment.Warrant:=by rw[List.getElem?_map,hx];rfl
  have e2:(l.map wrt)[j]?=some x.Payment.Warrant:=by rw[List.getElem?_map,hj,←e];rfl
  exact (List.getElem?_inj (gsI e1) hn).1 (e1.trans e2.symm)
theorem pO {d x:TDesk} {w st:Int} {f:TDesk→TItem→Done1} (h:gk d w st f=(x,0)):DOk d∧∃(k:Nat) (y:TItem),d.Items[k]?=some y∧y.Payment.Warrant=w∧y.State=st∧(f d y).e=0∧x=⟨(f d y).a,(f d y).q,d.Items.set k (f d y).x⟩:=by
 by_cases c1:bH d=0
 rotate_left
 ·rw[sU c1]at h
  exact absurd (congrArg Prod.snd h) c1
 by_cases c2:w∈d.Items.map wrt
 rotate_left
 ·rw[qt c1 c2]at h
  simp at h
 obtain⟨y,hy,e⟩:=List.mem_map.1 c2
 obtain⟨k,hk⟩:=List.getElem?_of_mem hy
 have e:y.Payment.Warrant=w:=e
 subst e
 rw[pL c1 hk]at h
 by_cases c3:y.State=st
 ·rw[if_pos c3]at h
  by_cases c4:(f d y).e=0
  ·rw[if_pos c4]at h
   exact⟨dK.1 c1,k,y,hk,rfl,c3,c4,(congrArg Prod.fst h).symm⟩
  ·rw[if_neg c4]at h
   exact absurd (congrArg Prod.snd h) c4
 ·rw[if_neg c3]at h
  simp at h
theorem uy {d x:TDesk} {w:Int} (h:ez d w=(x,0)):DOk d∧(∃(k:Nat) (y:TItem),d.Items[k]?=some y∧y.Payment.Warrant=w∧y.State=2∧x=⟨d.Account,d.Queue,d.Items.set k ⟨y.Payment,3,y.Attempts⟩⟩)∧DOk x:=by
 obtain⟨hd,k,y,h1,h2,h3,_,h5⟩:=pO h
 have hx:x=⟨d.Account,d.Queue,d.Items.set k ⟨y.Payment,3,y.Attempts⟩⟩:=h5
 refine⟨hd,⟨k,y,h1,h2,h3,hx⟩,?_⟩
 rw[hx]
 refine DOk.mk' hd.a hd.q ((zf (y:=⟨y.Payment,3,y.Attempts⟩) h1 rfl).trans hd.k) fun z hz=>?_
 rcases kM hd.nd h1 hz with rfl|⟨hz,hne⟩
 ·have io:=hd.io (List.mem_of_getElem? h1)
  refine⟨io.pay,io.sub,by simp,io.att,by simp,fun e=>io.a0 ⟨e.1,by omega,by omega⟩,.inr ⟨by simp,?_⟩,io.bat,io.all,io.outs,?_⟩
  ·rcases io.w with⟨e,_⟩|⟨_,e⟩
   ·omega
   ·exact e
  ·have:=io.ins
   simpa[dW,gO,h3]using this
 ·have io:=hd.io hz
  exact⟨io.pay,io.sub,io.st,io.att,io.a5,io.a0,io.w,io.bat,io.all,io.outs,io.ins⟩
theorem r4 {q:TQueue} (hq:QOk q) {w:Int} {p:TPayment} (hp:p∈q.Waiting) (hw:p.Warrant=w) {z:TPayment}:z∈q.Waiting.eraseIdx (ge q w).toNat↔z∈q.Waiting∧z.Warrant≠w:=by
 have hn:¬ge q w<0:=fun h=>vj.1 h p hp hw
 obtain⟨i,y,h1,h2,h3,h4⟩:=mm hn
 rw[h1,Int.toNat_natCast,List.mem_eraseIdx_iff_getElem?]
 constructor
 ·rintro⟨j,hj,hz⟩
  refine⟨List.mem_of_getElem? hz,fun e=>hj ?_⟩
  have e1:(q.Waiting.map (·.Warrant))[i]?=some w:=by rw[List.getElem?_map,h2,←h3];rfl
  have e2:(q.Waiting.map (·.Warrant))[j]?=some w:=by rw[List.getElem?_map,hz,←e];rfl
  exact ((List.getElem?_inj (gsI e1) hq.asc.nd).1 (e1.trans e2.symm)).symm
 ·rintro⟨hz,hne⟩
  obtain⟨j,hj⟩:=List.getElem?_of_mem hz
  refine⟨j,fun e=>hne ?_,hj⟩
  subst e
  rw[h2]at hj
  cases hj
  exact h3
theorem vI {d x:TDesk} {w:Int} (h:eD d w=(x,0)):DOk d∧(∃(k:Nat) (y:TItem),d.Items[k]?=some y∧y.Payment.Warrant=w∧y.State=1∧x=⟨d.Account,⟨d.Queue.Waiting.eraseIdx (ge d.Queue w).toNat,d.Queue.Known,d.Queue.Batches⟩,d.Items.set k ⟨y.Payment,5,y.Attempts⟩⟩)∧DOk x:=by
 obtain⟨hd,k,y,h1,h2,h3,h4,h5⟩:=pO h
 have h4:(fR d.Queue w).2=0:=h4
 obtain⟨q1,⟨p0,q2,q2'⟩,q3,q4⟩:=Ls (q:=d.Queue) (w:=w) (x:=(fR d.Queue w).1) (by rw[←h4])
 have hx:x=⟨d.Account,(fR d.Queue w).1,d.Items.set k ⟨y.Payment,5,y.Attempts⟩⟩:=h5
 rw[q3]at hx q4
 refine⟨hd,⟨k,y,h1,h2,h3,hx⟩,?_⟩
 rw[hx]
 refine DOk.mk' hd.a q4 ((zf (y:=⟨y.Payment,5,y.Attempts⟩) h1 rfl).trans hd.k) fun z hz=>?_
 rcases kM hd.nd h1 hz with rfl|⟨hz,hne⟩
 ·have io:=hd.io (List.mem_of_getElem? h1)
  refine⟨io.pay,io.sub,by simp,io.att,by simp,by simp,.inr ⟨by simp,fun p hp=>?_⟩,io.bat,io.all,io.outs,?_⟩
  ·simp only at hp⊢
   rw[h2]
   exact ((r4 hd.q q2 q2').1 hp).2
  ·have:=io.ins
   simpa[dW,gO,h3]using this
 ·have io:=hd.io hz
  refine⟨io.pay,io.sub,io.st,io.att,io.a5,io.a0,?_,io.bat,io.all,io.outs,io.ins⟩
  rcases io.w with⟨e1,e2⟩|⟨e1,e2⟩
  ·exact .inl ⟨e1,(r4 hd.q q2 q2').2 ⟨e2,by rw[←h2];exact hne⟩⟩
  ·exact .inr ⟨e1,fun p hp=>e2 p ((r4 hd.q q2 q2').1 hp).1⟩
theorem uD {d x:TDesk} {w day:Int} (h:eu d w day=(x,0)):DOk d∧(∃(k:Nat) (y:TItem),d.Items[k]?=some y∧y.Payment.Warrant=w∧y.State=2∧(bF d.Account (bT d.Account day 0 y.Payment.Sub y.Payment.Amount w)).2=0∧x=⟨(bF d.Account (bT d.Account day 0 y.Payment.Sub y.Payment.Amount w)).1,d.Queue,d.Items.set k ⟨y.Payment,4,y.Attempts⟩⟩)∧DOk x:=by
 obtain⟨hd,k,y,h1,h2,h3,h4,h5⟩:=pO h
 have h4:(bF d.Account (bT d.Account day 0 y.Payment.Sub y.Payment.Amount w)).2=0:=h4
 have h5:x=⟨(bF d.Account (bT d.Account day 0 y.Payment.Sub y.Payment.Amount w)).1,d.Queue,d.Items.set k ⟨y.Payment,4,y.Attempts⟩⟩:=h5
 refine⟨hd,⟨k,y,h1,h2,h3,h4,h5⟩,?_⟩
 rw[h5]
 have p1:=gr h4
 have p2:=uE h4
 have p3:=gT h4
 have io0:=hd.io (List.mem_of_getElem? h1)
 refine DOk.mk' p1 hd.q ((zf (y:=⟨y.Payment,4,y.Attempts⟩) h1 rfl).trans hd.k) fun z hz=>?_
 rcases kM hd.nd h1 hz with rfl|⟨hz,hne⟩
 ·refine⟨io0.pay,⟨p1,by rw[p2];exact io0.sub.2⟩,by simp,io0.att,by simp,fun e=>io0.a0 ⟨e.1,by omega,by omega⟩,.inr ⟨by simp,?_⟩,io0.bat,fun e he er=>?_,?_,?_⟩
  ·rcases io0.w with⟨e,_⟩|⟨_,e⟩
   ·omega
   ·exact e
  ·rw[p3]at he
   rcases List.mem_append.1 he with he|he
   ·exact io0.all e he er
   ·rw[List.mem_singleton]at he
    rw[he]
    exact⟨rfl,.inr ⟨rfl,rfl⟩⟩
  ·rw[p3,List.countP_append]
   have hs:=io0.pay.sub.1
   have:eT y.Payment (bT d.Account day 0 y.Payment.Sub y.Payment.Amount w)=false:=by
    show (decide (w=y.Payment.Warrant)&&(decide ((0:Int)=y.Payment.Sub)&&decide (y.Payment.Sub=0)))=false
    rw[decide_eq_false (p:=(0:Int)=y.Payment.Sub) (by omega),Bool.false_and,Bool.and_false]
   simp only[List.countP_cons,List.countP_nil,this]
   simpa using io0.outs
  ·rw[p3,List.countP_append]
   have:inE y.Payment (bT d.Account day 0 y.Payment.Sub y.Payment.Amount w)=true:=by simp[inE,bT,h2]
   simp only[List.countP_cons,List.countP_nil,this]
   have hi:=io0.ins
   simp[dW,gO,h3]at hi
   simp[dW,gO]
   omega
 ·have io:=hd.io hz
  refine⟨io.pay,⟨p1,by rw[p2];exact io.sub.2⟩,io.st,io.att,io.a5,io.a0,io.w,io.bat,fun e he er=>?_,?_,?_⟩
  ·rw[p3]at he
   rcases List.mem_append.1 he with he|he
   ·exact io.all e he er
   ·rw[List.mem_singleton]at he
    rw[he]at er
    exact absurd (er.symm.trans h2.symm) hne
  ·rw[p3,List.countP_append]
   have:eT z.Payment (bT d.Account day 0 y.Payment.Sub y.Payment.Amount w)=false:=by
    show (decide (w=z.Payment.Warrant)&&_)=false
    rw[decide_eq_false (p:=w=z.Payment.Warrant) (fun e=>hne (e.symm.trans h2.symm)),Bool.false_and]
   simp only[List.countP_cons,List.countP_nil,this]
   simpa using io.outs
  ·rw[p3,List.countP_append]
   have:inE z.Payment (bT d.Account day 0 y.Payment.Sub y.Payment.Amount w)=false:=by
    show (decide (w=z.Payment.Warrant)&&_)=false
    rw[decide_eq_false (p:=w=z.Payment.Warrant) (fun e=>hne (e.symm.trans h2.symm)),Bool.false_and]
   simp only[List.countP_cons,List.countP_nil,this]
   simpa using io.ins
open Go.PA
open Go.RowKit
def CF (e:TEntry):Int×Int×Int×Int:=(e.Ref,e.From,e.To,e.Amount)
def tQ (p:TPayment):Int×Int×Int×Int:=(p.Warrant,p.Sub,0,p.Amount)
structure Sent (day:Int) (a:TAccount) (ps:List TPayment) (b:TAccount):Prop where
 ok:aD b=0
 ents:∃es,b.Entries=a.Entries++es∧es.map CF=ps.map tQ∧∀e,e∈es→e.Day=day
 ids:ids b.Subs=ids a.Subs
 cred:b.Credit=a.Credit
theorem Sent.refl {day:Int} {a:TAccount} (h:aD a=0):Sent day a [] a:=⟨h,⟨[],by simp,rfl,by simp⟩,rfl,rfl⟩
theorem Sent.snoc {day:Int} {a b:TAccount} {ps:List TPayment} {p:TPayment} (h:Sent day a ps b) (hp:(bF b (bT b day p.Sub 0 p.Amount p.Warrant)).2=0):Sent day a (ps++[p]) (bF b (bT b day p.Sub 0 p.Amount p.Warrant)).1:=by
 obtain⟨h1,⟨es,h2,h3,h4⟩,h5,h6⟩:=h
 refine⟨gr hp,⟨es++[bT b day p.Sub 0 p.Amount p.Warrant],?_,?_,?_⟩,(uE hp).trans h5,(BM hp).trans h6⟩
 ·rw[gT hp,h2,List.append_assoc]
 ·rw[List.map_append,List.map_append,h3];rfl
 ·intro e he
  rcases List.mem_append.1 he with he|he
  ·exact h4 e he
  ·rw[List.mem_singleton]at he
   rw[he]
   rfl
theorem pq (day:Int) (a0:TAccount):∀(l:List TPayment) (a:TAccount) (ps:List TPayment) (full:Bool),Sent day a0 ps a→∃qs,qs.Sublist l∧(eL day l a (ps.map (·.Warrant)) full).2.1=(ps++qs).map (·.Warrant)∧Sent day a0 (ps++qs) (eL day l a (ps.map (·.Warrant)) full).1
 |[],a,ps,full,h=>⟨[],by simp,by simp[eL],by simpa[eL]using h⟩
 |p::l,a,ps,full,h=>by
  rw[eL]
  split
  ·exact⟨[],by simp,by simp,by simpa using h⟩
  ·split
   ·rename_i hp
    have e:ps.map (·.Warrant)++[p.Warrant]=(ps++[p]).map (·.Warrant):=by simp
    rw[e]
    obtain⟨qs,h1,h2,h3⟩:=pq day a0 l _ (ps++[p]) full (h.snoc hp)
    exact⟨p::qs,h1.cons_cons p,by rw[h2];simp,by rw[show ps++p::qs=ps++[p]++qs by simp];exact h3⟩
   ·obtain⟨qs,h1,h2,h3⟩:=pq day a0 l a ps _ h
    exact⟨qs,h1.cons p,h2,h3⟩
theorem Mb {d:TDesk} (hd:DOk d) (day:Int):∃ps,ps.Sublist (fU d.Queue day)∧(goD d day).2.1=ps.map (·.Warrant)∧Sent day d.Account ps (goD d day).1:=by
 obtain⟨qs,h1,h2,h3⟩:=pq day d.Account (fU d.Queue day) d.Account [] false (Sent.refl hd.a)
 exact⟨qs,h1,h2,h3⟩
theorem K6 {l:List TPayment} (hn:(l.map (·.Warrant)).Nodup) (w:Int):l.countP (df w)=if w∈l.map (·.Warrant)then 1 else 0:=by
 induction l with
 |nil=>rfl
 |cons p l ih=>
  rw[List.map_cons,List.nodup_cons]at hn
  rw[List.countP_cons,ih hn.2]
  by_cases h:p.Warrant=w
  ·subst h
   rw[if_neg hn.1,if_pos (by simp[df]),if_pos (by simp)]
  ·have e:df w p=false:=by simp[df,h]
   have e2:w∈(p::l).map (·.Warrant)↔w∈l.map (·.Warrant):=by
    rw[List.map_cons,List.mem_cons]
    exact⟨fun o=>o.resolve_left fun e=>h e.symm,.inr⟩
   by_cases hm:w∈l.map (·.Warrant)
   ·rw[if_pos hm,if_pos (e2.2 hm),e];rfl
   ·rw[if_neg hm,if_neg (mt e2.1 hm),e];rfl
theorem EQ {l:List TPayment} (hn:(l.map (·.Warrant)).Nodup) {w:Int} (h:w∈l.map (·.Warrant)):l.countP (df w)=1:=by rw[K6 hn,if_pos h]
def MI (p:TPayment) (k:Int×Int×Int×Int):Bool:=decide (k.1=p.Warrant)&&(decide (k.2.1=p.Sub)&&decide (k.2.2.1=0))
def MS (p:TPayment) (k:Int×Int×Int×Int):Bool:=decide (k.1=p.Warrant)&&(decide (k.2.1=0)&&decide (k.2.2.1=p.Sub))
theorem B0 {p y:TPayment}:MI p (tQ y)=true↔y.Warrant=p.Warrant∧y.Sub=p.Sub:=by
 unfold MI tQ
 rw[Bool.and_eq_true,Bool.and_eq_true]
 exact⟨fun⟨a,b,_⟩=>⟨of_decide_eq_true a,of_decide_eq_true b⟩,fun⟨a,b⟩=>⟨decide_eq_true a,decide_eq_true b,rfl⟩⟩
theorem Mw {p y:TPayment}:MS p (tQ y)=true↔y.Warrant=p.Warrant∧y.Sub=0∧0=p.Sub:=by
 unfold MS tQ
 rw[Bool.and_eq_true,Bool.and_eq_true]
 exact⟨fun⟨a,b,c⟩=>⟨of_decide_eq_true a,of_decide_eq_true b,of_decide_eq_true c⟩,fun⟨a,b,c⟩=>⟨decide_eq_true a,decide_eq_true b,decide_eq_true c⟩⟩
theorem FQ {es:List TEntry} {ps:List TPayment} (h:es.map CF=ps.map tQ) (p:TPayment):es.countP (eT p)=ps.countP (fun y=>MI p (tQ y))∧es.countP (inE p)=ps.countP (fun y=>MS p (tQ y)):=by
 have e1:es.countP (eT p)=(es.map CF).countP (MI p):=by rw[List.countP_map];rfl
 have e2:es.countP (inE p)=(es.map CF).countP (MS p):=by rw[List.countP_map];rfl
 rw[e1,e2,h,List.countP_map,List.countP_map]
 exact⟨rfl,rfl⟩
theorem FK {es:List TEntry} {ps:List TPayment} (h:es.map CF=ps.map tQ) {e:TEntry} (he:e∈es):∃p,p∈ps∧e.Ref=p.Warrant∧e.From=p.Sub∧e.To=0∧e.Amount=p.Amount:=by
 have:CF e∈ps.map tQ:=h▸List.mem_map.2 ⟨e,he,rfl⟩
 obtain⟨p,hp,k⟩:=List.mem_map.1 this
 simp only[CF,tQ,Prod.mk.injEq]at k
 exact⟨p,hp,k.1.symm,k.2.1.symm,k.2.2.1.symm,k.2.2.2.symm⟩
theorem FV {d:TDesk} (hd:DOk d) {day:Int} {ps:List TPayment} {a:TAccount} (hsub:ps.Sublist d.Queue.Waiting) (hs:Sent day d.Account ps a) {b:TBatch} (hb:b.Payments=d.Queue.Waiting.filter (bN (ps.map (·.Warrant))))
  (hq:QOk ⟨d.Queue.Waiting.filter (fun p=>!bN (ps.map (·.Warrant)) p),d.Queue.Known,d.Queue.Batches++[b]⟩):DOk ⟨a,⟨d.Queue.Waiting.filter (fun p=>!bN (ps.map (·.Warrant)) p),d.Queue.Known,d.Queue.Batches++[b]⟩,d.Items.map (fa (ps.map (·.Warrant)))⟩:=by
 obtain⟨es,e1,e2,e3⟩:=hs.ents
 have hnW:=hd.q.asc.nd
 have hn:(ps.map (·.Warrant)).Nodup:=hnW.sublist (hsub.map _)
 refine DOk.mk' hs.ok hq ((yY _ _).trans hd.k) fun z hz=>?_
 obtain⟨x,hx,rfl⟩:=List.mem_map.1 hz
 have io:=hd.io hx
 have hbat:mQ ⟨d.Queue.Waiting.filter (fun p=>!bN (ps.map (·.Warrant)) p),d.Queue.Known,d.Queue.Batches++[b]⟩ x.Payment.Warrant=mQ d.Queue x.Payment.Warrant+if x.Payment.Warrant∈b.Payments.map (·.Warrant)then 1 else 0:=by
  have:(b.Payments.map (·.Warrant)).Nodup:=by rw[hb];exact hnW.sublist (List.filter_sublist.map _)
  rw[mQ,List.map_append,List.sum_append]
  simp only[List.map_cons,List.map_nil,List.sum_cons,List.sum_nil,Nat.add_zero]
  rw[K6 this,mQ]
 have hmem:x.Payment.Warrant∈b.Payments.map (·.Warrant)↔x.Payment.Warrant∈ps.map (·.Warrant):=by
  rw[hb]
  constructor
  ·intro h
   obtain⟨p,hp,e⟩:=List.mem_map.1 h
   have:=(List.mem_filter.1 hp).2
   rw[←e]
   simpa[bN]using this
  ·intro h
   obtain⟨p,hp,e⟩:=List.mem_map.1 h
   exact List.mem_map.2 ⟨p,List.mem_filter.2 ⟨hsub.subset hp,by simp only[bN,decide_eq_true_eq];exact List.mem_map.2 ⟨p,hp,rfl⟩⟩,e⟩
 obtain⟨co,ci⟩:=FQ e2 x.Payment
 have ci0:es.countP (inE x.Payment)=0:=by
  rw[ci,List.countP_eq_zero]
  intro p hp e
  have h1:=(hd.q.asc.pay p (hsub.subset hp)).sub.1
  have:=(Mw.1 e).2.1
  omega
 have hsubs:aD a=0∧(fa (ps.map (·.Warrant)) x).Payment.Sub∈ids a.Subs:=by rw[y6,hs.ids];exact⟨hs.ok,io.sub.2⟩
 by_cases hw:x.Payment.Warrant∈ps.map (·.Warrant)
 ·obtain⟨p,hp,e⟩:=List.mem_map.1 hw
  have hpW:=hsub.subset hp
  have hst:x.State=1∧x.Payment∈d.Queue.Waiting:=by
   rcases io.w with h|⟨_,h⟩
   ·exact h
   ·exact absurd e (h p hpW)
  have hpx:p=x.Payment:=wF hnW hpW hst.2 e
  have co1:es.countP (eT x.Payment)=1:=by
   rw[co,←EQ hn hw]
   refine List.countP_congr fun y hy=>?_
   rw[B0,df,decide_eq_true_eq]
   refine⟨fun h=>h.1,fun h=>⟨h,?_⟩⟩
   rw[wF hnW (hsub.subset hy) hst.2 h]
  have hsx:fa (ps.map (·.Warrant)) x=⟨x.Payment,2,x.Attempts+1⟩:=by rw[fa,if_pos hw]
  have h5:=io.a5
  have h0:=io.att
  rw[hsx]at hsubs⊢
  refine⟨io.pay,hsubs,by simp,by dsimp only;omega,by simp,by dsimp only;omega,.inr ⟨by simp,fun p' hp' e'=>?_⟩,?_,fun e' he' er=>?_,?_,?_⟩
  ·have:=(List.mem_filter.1 hp').2
   rw[bN,e',decide_eq_true hw]at this
   cases this
  ·dsimp only
   rw[hbat,if_pos (hmem.2 hw)]
   have:=io.bat
   omega
  ·dsimp only at he' er⊢
   rw[e1]at he'
   rcases List.mem_append.1 he' with he'|he'
   ·exact io.all e' he' er
   ·obtain⟨p',hp',k1,k2,k3,k4⟩:=FK e2 he'
    have:p'=x.Payment:=wF hnW (hsub.subset hp') hst.2 (k1.symm.trans er)
    rw[this]at k2 k4
    exact⟨k4,.inl ⟨k2,k3⟩⟩
  ·dsimp only
   rw[e1,List.countP_append,co1]
   have:=io.outs
   omega
  ·dsimp only
   rw[e1,List.countP_append,ci0]
   have h1:=io.ins
   have g0:dW x=0:=by simp[dW,gO,hst.1]
   have g1:dW ⟨x.Payment,2,x.Attempts+1⟩=1:=by simp[dW,gO]
   rw[g0]at h1
   rw[g1]
   omega
 ·have co0:es.countP (eT x.Payment)=0:=by
   rw[co,List.countP_eq_zero]
   intro p hp e
   exact hw (List.mem_map.2 ⟨p,hp,(B0.1 e).1⟩)
  have hsx:fa (ps.map (·.Warrant)) x=x:=by rw[fa,if_neg hw]
  rw[hsx]at hsubs⊢
  refine⟨io.pay,hsubs,io.st,io.att,io.a5,io.a0,?_,?_,fun e' he' er=>?_,?_,?_⟩
  ·rcases io.w with⟨h1,h2⟩|⟨h1,h2⟩
   ·refine .inl ⟨h1,List.mem_filter.2 ⟨h2,?_⟩⟩
    rw[bN,decide_eq_false hw]
    rfl
   ·exact .inr ⟨h1,fun p hp=>h2 p (List.mem_filter.1 hp).1⟩
  ·dsimp only
   rw[hbat,if_neg (mt hmem.1 hw)]
   exact io.bat
  ·dsimp only at he'
   rw[e1]at he'
   rcases List.mem_append.1 he' with he'|he'
   ·exact io.all e' he' er
   ·obtain⟨p',hp',k1,k2,k3,k4⟩:=FK e2 he'
    exact absurd (List.mem_map.2 ⟨p',hp',k1.symm.trans er⟩) hw
  ·dsimp only
   rw[e1,List.countP_append,co0]
   exact io.outs
  ·dsimp only
   rw[e1,List.countP_append,ci0]
   exact io.ins
theorem Cl {d x:TDesk} {b:TBatch} {day:Int} (h:dD d day=(x,b,0)):DOk d∧gW day=true∧fQ d.Queue≤day∧iF d.Account≤day∧∃ps a,ps.Sublist (fU d.Queue day)∧1≤ps.length∧ps.length≤10∧(goD d day).2.1=ps.map (·.Warrant)∧(goD d day).1=a∧Sent day d.Account ps a∧b=p9 d.Queue day (ps.map (·.Warrant))∧
  x=⟨a,⟨d.Queue.Waiting.filter (fun p=>!bN (ps.map (·.Warrant)) p),d.Queue.Known,d.Queue.Batches++[b]⟩,d.Items.map (fa (ps.map (·.Warrant)))⟩∧DOk x:=by
 unfold dD at h
 by_cases c1:bH d=0
 rotate_left
 ·rw[if_neg c1]at h
  exact absurd (congrArg (fun r=>r.2.2) h) c1
 rw[if_pos c1]at h
 by_cases c2:gW day=true
 rotate_left
 ·rw[if_neg c2]at h
  simp at h
 rw[if_pos c2]at h
 by_cases c3:day<fQ d.Queue∨day<iF d.Account
 ·rw[if_pos c3]at h
  simp at h
 rw[if_neg c3]at h
 by_cases c4:(goD d day).2.1.length=0
 ·rw[if_pos c4]at h
  have:=congrArg (fun r=>r.2.2) h
  simp only at this
  split at this<;>cases this
 rw[if_neg c4]at h
 by_cases c5:(cC d.Queue day (goD d day).2.1).2.2=0
 rotate_left
 ·rw[if_neg c5]at h
  exact absurd (congrArg (fun r=>r.2.2) h) c5
 rw[if_pos c5]at h
 have hd:=dK.1 c1
 obtain⟨ps,h1,h2,h3⟩:=Mb hd day
 obtain⟨_,_,_,t4,t5,_,t7,t8,t9⟩:=Kv (q:=d.Queue) (day:=day) (ws:=(goD d day).2.1) (x:=(cC d.Queue day (goD d day).2.1).1) (b:=(cC d.Queue day (goD d day).2.1).2.1) (by rw[←c5])
 have hx:=(congrArg Prod.fst h).symm
 have hb:=(congrArg (fun r=>r.2.1) h).symm
 simp only at hx hb
 rw[t8]at hb
 rw[t7]at hx t9
 rw[h2]at hx hb t4 t5 t9
 rw[List.length_map]at t4 t5
 rw[←hb]at hx t9
 refine⟨hd,c2,by omega,by omega,ps,_,h1,t4,t5,h2,rfl,h3,hb,hx,?_⟩
 rw[hx]
 exact FV hd (h1.trans (mn _ _)) h3 (by rw[hb];rfl) t9
open Go.PA
open Go.RowKit
def dw:TState:=⟨cR,⟨[],[],[],[]⟩,⟨[],[],[]⟩,⟨[]⟩⟩
def dZ (s:TState) (d:TDesk):TState:=⟨d,s.Cash,s.Register,s.Ledger⟩
def zZ (s:TState) (a:TAccount):TState:=dZ s ⟨a,s.Desk.Queue,s.Desk.Items⟩
def fT (s:TState) (day f t n:Int):TState×Int:=
 if (bF s.Desk.Account (bT s.Desk.Account day f t n 0)).2=0 then (zZ s (bF s.Desk.Account (bT s.Desk.Account day f t n 0)).1,0)else (s,(bF s.Desk.Account (bT s.Desk.Account day f t n 0)).2)
def fC (s:TState) (d:TDesk) (e:Int):TState×Int:=if e=0 then (dZ s d,0)else (s,e)
def yG (c:TCash):Int:=match c.Incomes.getLast? with|none=>1|some x=>IntKind.i64.wrap (x.Number+1)
def At (s:TState) (d:TDeed):TIncome:=⟨yG s.Cash,d.Day,d.Who,d.Amount,d.Ref⟩
def fZ (s:TState) (d:TDeed):TState×Int:=
 if d.Sub=1 then (s,60)else if sV s.Cash.Incomes (At s d)=0 then fT ⟨s.Desk,csh (s.Cash.Incomes++[At s d]),s.Register,s.Ledger⟩ d.Day 0 d.Sub d.Amount else (s,sV s.Cash.Incomes (At s d))
def fd (r:TRegister) (day kind ref f t n:Int):TMove:=⟨(r.Moves.length:Int)+1,day,kind,ref,f,t,n⟩
def jQ (s:TState) (m:TMove) (e f t n:Int):TState×Int:=if e=0 then fT ⟨s.Desk,s.Cash,jq s.Register m,s.Ledger⟩ m.Day f t n else (s,e)
def dR (r:TRegister):Int:=((r.Moves.getLast?).map (·.Day)).getD 0
def tF (r:TRegister) (m:TMove):Int:=bA r.Securities r.Holdings (dR r) m
def Jf (s:TState) (d:TDeed):TMove:=fd s.Register d.Day 1 d.Ref 0 d.Who d.Amount
def Ll (s:TState) (d:TDeed):TMove:=fd s.Register d.Day 3 d.Ref d.Who 0 d.Amount
def tP (d:TDeed):TPayment:=⟨d.Ref,d.Who,d.Amount,d.Due,d.Sub⟩
def doK (s:TState) (d:TDeed):TState×Int:=
 if d.Kind=1 then fZ s d else if d.Kind=2 then fC s (dq s.Desk (tP d)).1 (dq s.Desk (tP d)).2 else if d.Kind=3 then fC s (dD s.Desk d.Day).1 (dD s.Desk d.Day).2.2 else
 if d.Kind=4 then fC s (ez s.Desk d.Ref).1 (ez s.Desk d.Ref).2 else if d.Kind=5 then fC s (eu s.Desk d.Ref d.Day).1 (eu s.Desk d.Ref d.Day).2 else if d.Kind=6 then fC s (eD s.Desk d.Ref).1 (eD s.Desk d.Ref).2 else
 if d.Kind=7 then jQ s (Jf s d) (tF s.Register (Jf s d)) 0 1 d.Amount else if d.Kind=8 then jQ s (Ll s d) (tF s.Register (Ll s d)) 1 0 d.Amount else
 if d.Kind=9 then (if d.Sub=0∨d.Who=0 then (s,60)else fT s d.Day d.Sub d.Who d.Amount)else (s,91)
structure FitS (j:Nat) (s:TState):Prop where
 d:FitD s.Desk
 c:s.Cash=csh s.Cash.Incomes
 cl:CsOk s.Cash.Incomes
 r:RegOk s.Register (dR s.Register)
 rm:s.Register.Moves.length≤j
 l:s.Ledger.Postings.length≤400
theorem FitS.fc {j:Nat} {s:TState} (h:FitS j s):FitC s.Cash:=by
 rw[h.c]
 exact h.cl.fit
theorem LI (d:TDesk):d.cells=[iv d.Account.Credit,aL d.Account.Subs,bu d.Account.Entries,aC d.Queue.Waiting,.list 1 (aj aS d.Queue.Known),aX d.Queue.Batches,bI d.Items]:=rfl
theorem fV (s:TState):s.cells=[iv s.Desk.Account.Credit,aL s.Desk.Account.Subs,bu s.Desk.Account.Entries,aC s.Desk.Queue.Waiting,.list 1 (aj aS s.Desk.Queue.Known),aX s.Desk.Queue.Batches,bI s.Desk.Items,dt s.Cash.Claims,aR s.Cash.Incomes,cu s.Cash.Matches,.list 1 (aj aS s.Cash.Loose),bb s.Register.Securities,aQ s.Register.Holdings,cB s.Register.Moves,ce s.Ledger.Postings]:=rfl
theorem dJ (d:TDeed):d.cells=[iv d.Kind,iv d.Day,iv d.Sub,iv d.Who,iv d.Ref,iv d.Amount,iv d.Due]:=rfl
theorem cM (s:TState):Imm (.agg s.cells):=az.2 s.imm
theorem Ah (c:TCash):Imm (.agg c.cells):=az.2 c.imm
open Go.PA
open Go.RowKit
def gQ (l:List THolding) (id h:Int):Int:=((l.find? (hIs id h)).map (·.Amount)).getD 0
theorem o6 (x:THolding) (l:List THolding) (id h:Int):gQ (x::l) id h=if hIs id h x=true then x.Amount else gQ l id h:=by
 unfold gQ
 rw[List.find?_cons]
 cases hIs id h x<;>simp
theorem Ds {l:List THolding} {id h:Int} (hn:∀x,x∈l→hIs id h x=false):gQ l id h=0:=by
 unfold gQ
 rw[List.find?_eq_none.2 fun x hx=>by simp[hn x hx]]
 rfl
theorem qG {id h:Int}:∀{l:List THolding},l.Pairwise hR→gQ l id h=ff l id h
 |[],_=>rfl
 |x::l,hp=>by
  obtain⟨h1,h2⟩:=List.pairwise_cons.1 hp
  rw[o6]
  unfold ff
  rw[cZ]
  cases hi:hIs id h x
  ·rw[if_neg (by simp),if_neg (by simp),qG h2]
   unfold ff
   omega
  ·rw[if_pos rfl,if_pos rfl,r5 _ _ l fun y hy=>(hOk id h).irr x y hi (h1 y hy)]
   show x.Amount=hAm x+0
   unfold hAm
   omega
def oA (id h n:Int):Bool→List THolding→List THolding
 |put,[]=>if put=true then []else [⟨id,h,n⟩]
 |put,x::l=>if hIs id h x=true then oA id h n put l else if put=false∧hLt id h x=false then⟨id,h,n⟩::x::oA id h n true l else x::oA id h n put l
theorem kZ {id h n:Int}:∀{l:List THolding},(∀x,x∈l→hIs id h x=false)→oA id h n true l=l
 |[],_=>rfl
 |x::l,hn=>by
  rw[oA,if_neg (by rw[hn x (by simp)];simp),if_neg (by simp),kZ fun y hy=>hn y (by simp[hy])]
theorem FN {id h n:Int}:∀{l:List THolding},l.Pairwise hR→oA id h (gQ l id h+n) (decide (gQ l id h+n=0)) l=kQ l id h n
 |[],_=>by
  have:gQ [] id h=0:=rfl
  rw[this,Int.zero_add,oA]
  unfold kQ ju
  by_cases c:n=0<;>simp[c,hMk]
 |x::l,hp=>by
  obtain⟨h1,h2⟩:=List.pairwise_cons.1 hp
  have ih:=FN (id:=id) (h:=h) (n:=n) h2
  have e:kQ (x::l) id h n=if hLt id h x=true then x::kQ l id h n else if hIs id h x=true then (if hAm x+n=0 then l else hMk id h (hAm x+n)::l)else if n=0 then x::l else hMk id h n::x::l:=by
   unfold kQ
   rw[ju]
  rw[e,o6,oA]
  cases hi:hIs id h x
  ·simp only[Bool.false_eq_true,if_false]
   cases hlt:hLt id h x
   ·have no:∀y,y∈l→hIs id h y=false:=fun y hy=>(hOk id h).aft x y hlt hi (h1 y hy)
    simp only[Bool.false_eq_true,if_false,and_true]
    rw[Ds no,Int.zero_add]
    by_cases c:n=0
    ·rw[if_pos c,decide_eq_true c,kZ no,if_neg (by simp)]
    ·rw[if_neg c,decide_eq_false c,if_pos rfl,kZ no]
     rfl
   ·simp only[Bool.true_eq_false,and_false,if_false,if_true]
    rw[ih]
  ·have hlt:hLt id h x=false:=by
    cases hl:hLt id h x
    ·rfl
    ·have:=(hOk id h).dis x hl
     rw[hi]at this
     cases this
   have no:∀y,y∈l→hIs id h y=false:=fun y hy=>(hOk id h).irr x y hi (h1 y hy)
   have gt:∀y,y∈l→hLt id h y=false:=fun y hy=>by
    cases hl:hLt id h y
    ·rfl
    ·have:=(hOk id h).mono x y (h1 y hy) hl
     rw[hlt]at this
     cases this
   rw[if_pos rfl,if_pos rfl,hlt,if_neg (by simp),if_pos rfl]
   show oA id h (x.Amount+n) _ l=if x.Amount+n=0 then l else⟨id,h,x.Amount+n⟩::l
   by_cases c:x.Amount+n=0
   ·rw[decide_eq_true c,kZ no,if_pos c]
   ·rw[decide_eq_false c,if_neg c]
    cases l with
    |nil=>rfl
    |cons y l=>
     rw[oA,if_neg (by rw[no y (by simp)];simp),if_pos ⟨rfl,gt y (by simp)⟩,kZ fun z hz=>no z (by simp[hz])]
theorem vX (n:Int):PFun Tryz.prog none none 296 [iv n] (·=bv (dA n)):=by
 refine ab Tryz.func296 rfl (by simp[Tryz.f296]) (by kernel_rfl) ?_
 intro E hP hr hs hW hN
 rw[show dA n=(decide (1≤n)&&decide (n≤1000))from rfl]
 by_cases h:1≤n
 ·have d:decide (1≤n)=true:=decide_eq_true h
  simp -dsimp -implicitDefEqProofs [-getElem?_pos,go_sem,hP,d]
 ·have d:decide (1≤n)=false:=decide_eq_false h
  simp -dsimp -implicitDefEqProofs [-getElem?_pos,go_sem,hP,d]
theorem Cs (l:List THolding) (id h:Int) (hl:l.length≤100000):PFun Tryz.prog none none 297 [aQ l,iv id,iv h] (·=iv (gQ l id h)):=by
 refine ab Tryz.func297 rfl (by simp[Tryz.f297]) (by kernel_rfl) ?_
 intro E hP hr hs hW hN
 obtain⟨R,hR'⟩:∃R,R=gQ l id h:=⟨_,rfl⟩
 rw[←hR']
 simp -dsimp -implicitDefEqProofs [-getElem?_pos,go_sem,hP]
 obtain⟨I,hI⟩:∃I:Nat→St→Prop,I=fun m s=>∃k:Nat,k≤l.length∧m=l.length-k∧R=gQ (l.drop k) id h∧s.t 1=iv id∧s.t 2=iv h∧s.t 9=aQ l∧s.t 10=iv l.length∧s.t 11=iv k:=⟨_,rfl⟩
 refine ay I (l.length) (by rw[hN];rfl) ?_ ?_
 ·rw[hI]
  exact⟨0,by omega,by omega,by rw[List.drop_zero,hR'],by simp -dsimp[-getElem?_pos,go_sem],by simp -dsimp[-getElem?_pos,go_sem],by simp -dsimp[-getElem?_pos,go_sem],by simp -dsimp[-getElem?_pos,go_sem],by simp -dsimp[-getElem?_pos,go_sem]⟩
 intro m s hs'
 rw[hI]at hs'
 obtain⟨k,hk,hm,hq,t1,t2,t9,t10,t11⟩:=hs'
 simp -dsimp -implicitDefEqProofs [-getElem?_pos,go_sem,hP,t10,t11]
 refine aB (fun hh=>?_) (fun hh=>?_)
 ·have hk:k<l.length:=by simpa using hh
  obtain⟨x,hx⟩:∃x,l[k]?=some x:=⟨_,List.getElem?_eq_getElem hk⟩
  have wk:=af ((k:Int)+1) (by omega)
  have hd:l.drop k=x::l.drop (k+1):=by
   obtain⟨h2,h3⟩:=List.getElem?_eq_some_iff.1 hx
   rw[List.drop_eq_getElem_cons h2,h3]
  rw[hd,o6]at hq
  have nxt:¬hIs id h x=true→R=gQ (l.drop (k+1)) id h:=fun hn=>by rw[hq,if_neg hn]
  by_cases c1:x.Security=id
  ·by_cases c2:x.Holder=h
   ·rw[if_pos (gl.2 ⟨c1,c2⟩)]at hq
    have d1:decide (x.Security=id)=true:=decide_eq_true c1
    have d2:decide (x.Holder=h)=true:=decide_eq_true c2
    simp -dsimp -implicitDefEqProofs [-getElem?_pos,go_sem,hP,t9,t11,hx,fP,t1,t2,d1,d2,hq]
   ·have d1:decide (x.Security=id)=true:=decide_eq_true c1
    have d2:decide (x.Holder=h)=false:=decide_eq_false c2
    simp -dsimp -implicitDefEqProofs [-getElem?_pos,go_sem,hP,t9,t11,hx,fP,t1,t2,d1,d2,wk]
    refine⟨l.length-(k+1),by omega,?_⟩
    rw[hI]
    exact⟨k+1,by omega,rfl,nxt (by rw[gl];exact fun e=>c2 e.2),by simp -dsimp[-getElem?_pos,go_sem,t1],by simp -dsimp[-getElem?_pos,go_sem,t2],by simp -dsimp[-getElem?_pos,go_sem,t9],by simp -dsimp[-getElem?_pos,go_sem,t10],by simp -dsimp[-getElem?_pos,go_sem]⟩
  ·have d1:decide (x.Security=id)=false:=decide_eq_false c1
   simp -dsimp -implicitDefEqProofs [-getElem?_pos,go_sem,hP,t9,t11,hx,fP,t1,t2,d1,wk]
   refine⟨l.length-(k+1),by omega,?_⟩
   rw[hI]
   exact⟨k+1,by omega,rfl,nxt (by rw[gl];exact fun e=>c1 e.1),by simp -dsimp[-getElem?_pos,go_sem,t1],by simp -dsimp[-getElem?_pos,go_sem,t2],by simp -dsimp[-getElem?_pos,go_sem,t9],by simp -dsimp[-getElem?_pos,go_sem,t10],by simp -dsimp[-getElem?_pos,go_sem]⟩
 ·have hk:k=l.length:=by simp at hh;omega
  subst hk
  rw[List.drop_length]at hq
  have:R=0:=hq
  simp -dsimp -implicitDefEqProofs [-getElem?_pos,go_sem,hP,this]
theorem MJ (l:List THolding) (id:Int) {N:Nat} (ok:HoldOk l N) (hl:l.length≤100000):PFun Tryz.prog none none 298 [aQ l,iv id] (·=iv (eh l id)):=by
 refine ab Tryz.func298 rfl (by simp[Tryz.f298]) (by kernel_rfl) ?_
 intro E hP hr hs hW hN
 have part:∀k,0≤eh (l.take k) id∧eh (l.take k) id≤1000000000000:=fun k=>by
  have e:eh l id=eh (l.take k) id+eh (l.drop k) id:=by
   unfold eh
   rw[←kC,List.take_append_drop]
  have a:=(iu (pN id) hAm (l.take k) fun x hx=>ok.pos x (List.mem_of_mem_take hx)).1
  have b:=(iu (pN id) hAm (l.drop k) fun x hx=>ok.pos x (List.mem_of_mem_drop hx)).1
  have:=ok.tot id
  unfold eh at*
  omega
 simp -dsimp -implicitDefEqProofs [-getElem?_pos,go_sem,hP]
 obtain⟨I,hI⟩:∃I:Nat→St→Prop,I=fun m s=>∃k:Nat,k≤l.length∧m=l.length-k∧s.t 1=iv id∧s.t 5=iv (eh (l.take k) id)∧s.t 8=aQ l∧s.t 9=iv l.length∧s.t 10=iv k:=⟨_,rfl⟩
 refine ay I (l.length) (by rw[hN];rfl) ?_ ?_
 ·rw[hI]
  exact⟨0,by omega,by omega,by simp -dsimp[-getElem?_pos,go_sem],by simp -dsimp[-getElem?_pos,go_sem];rfl,by simp -dsimp[-getElem?_pos,go_sem],by simp -dsimp[-getElem?_pos,go_sem],by simp -dsimp[-getElem?_pos,go_sem]⟩
 intro m s hs'
 rw[hI]at hs'
 obtain⟨k,hk,hm,t1,t5,t8,t9,t10⟩:=hs'
 simp -dsimp -implicitDefEqProofs [-getElem?_pos,go_sem,hP,t9,t10]
 refine aB (fun hh=>?_) (fun hh=>?_)
 ·have hk:k<l.length:=by simpa using hh
  obtain⟨x,hx⟩:∃x,l[k]?=some x:=⟨_,List.getElem?_eq_getElem hk⟩
  have wk:=af ((k:Int)+1) (by omega)
  have e1:eh (l.take (k+1)) id=eh (l.take k) id+if pN id x=true then x.Amount else 0:=by
   rw[List.take_add_one,hx]
   unfold eh
   rw[kC]
   show _+kL _ _ [x]=_
   rw[cZ,pU]
   show _+((if _ then hAm x else 0)+0)=_
   unfold hAm
   omega
  have pk:=part (k+1)
  by_cases c1:x.Security=id
  ·have d1:decide (x.Security=id)=true:=decide_eq_true c1
   rw[if_pos (show pN id x=true from d1)]at e1
   have w1:=af (eh (l.take k) id+x.Amount) (by omega)
   simp -dsimp -implicitDefEqProofs [-getElem?_pos,go_sem,hP,t8,t10,hx,fP,t1,t5,d1,w1,wk]
   refine⟨l.length-(k+1),by omega,?_⟩
   rw[hI]
   exact⟨k+1,by omega,rfl,by simp -dsimp[-getElem?_pos,go_sem,t1],by simp -dsimp[-getElem?_pos,go_sem,e1],by simp -dsimp[-getElem?_pos,go_sem,t8],by simp -dsimp[-getElem?_pos,go_sem,t9],by simp -dsimp[-getElem?_pos,go_sem]⟩
  ·have d1:decide (x.Security=id)=false:=decide_eq_false c1
   rw[if_neg (by rw[show pN id x=false from d1];simp)]at e1
   simp -dsimp -implicitDefEqProofs [-getElem?_pos,go_sem,hP,t8,t10,hx,fP,t1,t5,d1,wk]
   refine⟨l.length-(k+1),by omega,?_⟩
   rw[hI]
   exact⟨k+1,by omega,rfl,by simp -dsimp[-getElem?_pos,go_sem,t1],by simp -dsimp[-getElem?_pos,go_sem,t5,e1],by simp -dsimp[-getElem?_pos,go_sem,t8],by simp -dsimp[-getElem?_pos,go_sem,t9],by simp -dsimp[-getElem?_pos,go_sem]⟩
 ·have hk:k=l.length:=by simp at hh;omega
  subst hk
  rw[List.take_length]at t5
  simp -dsimp -implicitDefEqProofs [-getElem?_pos,go_sem,hP,t5]
end Go.Proofs.YtaenimpfelpafaaGreatDoor
