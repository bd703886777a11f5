/- Several texts of this claim, joined: Reg10 Led1 Led2 Led3 Rec17 Rec18 Crt1 Crt2 LedP Crt3 Crt4 Crt5 Crt6 Crt7. -/
import Derived.Test.YtaenimpfelpafaaGreatDoorPk7
set_option linter.unusedSimpArgs false
set_option linter.unusedVariables false
namespace Go.Proofs.YtaenimpfelpafaaGreatDoor
open Go.PA
open Go.RowKit
theorem cw_zeroR {H:Heap}:CW H [.nil,.nil,.nil] (⟨[],[],[]⟩:TRegister).cells:=cw_nil (cw_nil (cw_nil .nil))
def MoveQ (r:TRegister) (d:Int) (m:TMove) (x:AV):Prop:=∃r',x= .tup [.agg r'.cells,iv (moveE r.Securities r.Holdings d m)]∧(moveE r.Securities r.Holdings d m=0→r'=moved r m)
theorem moveQ_ex (r:TRegister) (d:Int) (m:TMove):∃x,MoveQ r d m x∧Imm x:=by
 by_cases h:moveE r.Securities r.Holdings d m=0
 ·exact⟨_,⟨_,rfl,fun _=>rfl⟩,imm_pair (imm_reg _) .sc⟩
 ·exact⟨_,⟨⟨[],[],[]⟩,rfl,fun e=>absurd e h⟩,imm_pair (imm_reg _) .sc⟩
set_option maxHeartbeats 4000000 in
theorem gmove_pf (r:TRegister) (d:Int) (m:TMove) (k0:Int) (ok:RegOk r d) (hl:r.Moves.length<400) (hmn:m.Number=(r.Moves.length:Int)+1):PFun Tryz.prog none none 128 [.agg r.cells,.agg [iv k0,iv m.Day,iv m.Kind,iv m.Security,iv m.From,iv m.To,iv m.Amount]] (MoveQ r d m):=by
 obtain⟨Q,hQ⟩:∃Q,Q=MoveQ r d m:=⟨_,rfl⟩
 rw[←hQ]
 have ir:=imm_reg r
 have ck:=gcheck_pf r d ok
 have h4:=ok.hl
 have hin:=ok.regIn
 have g4:=h4.len
 have g2:=hin.sl
 rw[cReg]at ir ck
 have dl:decide ((r.Moves.length:Int)=400)=false:=decide_eq_false (by omega)
 have w1:=wrap_in ((r.Moves.length:Int)+1) (by omega)
 refine pfun_intro Tryz.func128 rfl (by simp[Tryz.f128]) (by kernel_rfl) ?_
 intro E hP hr hs hW hN
 simp -dsimp -implicitDefEqProofs [-getElem?_pos,go_sem,hP,cReg]
 refine callB_is (ck.lift _ _) hP en_52 (by simpa using ir) .sc ?_
 have rm:=fun (H:Heap)=>greplay_m (row:=none) (src:=none) r 101 [] ⟨r.Holdings,r.Moves.length,d⟩ H ok.run hin.ml (by omega) hin.so en_101 fun m hm H' hk=>(mfun_of_flat ((gall_pf m).lift _ _) (args_same (by simp[imm_mov])) ⟨_,rfl⟩ (by rintro _ rfl;simp[flat_sc])).mono (by rintro x H'' ⟨rfl,rfl⟩;exact⟨rfl,kept_refl _ _⟩)
 rw[cReg]at rm
 simp -dsimp -implicitDefEqProofs [-getElem?_pos,go_sem,hP,encL_len,dl]
 refine callB_m (by rw[hr,hs];exact rm _) hP en_100 ?_
 rintro x H1 ⟨c,hid,rfl,hc,hcl,hhn,kp⟩
 simp only[List.length_cons,List.length_nil]at hcl
 have a0:=kp 0 _ (by simp) (by rfl)
 have a1:=kp 1 _ (by simp) (by rfl)
 have a2:=kp 2 _ (by simp) (by rfl)
 have n0:=hhn 0 _ (by rfl)
 have n1:=hhn 1 _ (by rfl)
 have n2:=hhn 2 _ (by rfl)
 have oc:=hc.oc
 have lc:=(gsI oc)
 have l1:=(gsI a1)
 dsimp only at oc
 simp -dsimp -implicitDefEqProofs [-getElem?_pos,go_sem,hP,oc,lc,a1,l1,w1]
 obtain⟨H2,hH2⟩:∃H2,H2=H1.set 1 (some ⟨70,7,[[iv ((r.Moves.length:Int)+1),iv m.Day,iv m.Kind,iv m.Security,iv m.From,iv m.To,iv m.Amount]]⟩):=⟨_,rfl⟩
 have nc:¬1=c:=by omega
 have cc:Clk H2 c hid (secsL r.Securities) r.Holdings r.Moves.length d:=by
  refine⟨?_,?_,hc.ne⟩
  ·rw[hH2,List.getElem?_set_ne nc];exact oc
  ·rw[hH2,List.getElem?_set_ne n1];exact hc.oh
 have b0:H2[0]?=some (some ⟨45,3,[[secsL r.Securities,holdsL r.Holdings,movesL r.Moves]]⟩):=by rw[hH2,List.getElem?_set_ne (by omega)];exact a0
 have b1:H2[1]?=some (some ⟨70,7,[m.cells]⟩):=by rw[hH2,cMov,hmn];simp[l1]
 have b2:H2[2]?=some (some ⟨45,3,[[.nil,.nil,.nil]]⟩):=by rw[hH2,List.getElem?_set_ne (by omega)];exact a2
 rw[←hH2,←hmn,←cMov m]
 have dm:=do_m (row:=none) (src:=none) c hid r.Securities r.Holdings r.Moves.length d m (2*r.Moves.length) H2 cc (by omega) (by omega) hin.so h4 (by omega)
 clear oc a0 a1 a2 hc kp hhn hH2
 refine callB_m (by rw[hr,hs];exact dm) hP en_162 ?_
 rintro x H3 ⟨rfl,hbad,hgood⟩
 by_cases e0:moveE r.Securities r.Holdings d m=0
 rotate_left
 ·have kp:=hbad e0
  have c2:=kp _ _ (by simp) b2
  have l2:=(gsI c2)
  simp -dsimp -implicitDefEqProofs [-getElem?_pos,go_sem,hP,e0,c2,l2]
  refine done_agg2 (cs':=(⟨[],[],[]⟩:TRegister).cells) cw_zeroR ?_
  rw[hQ]
  exact⟨_,rfl,fun e=>absurd e e0⟩
 obtain⟨hid',hc,hp,kp⟩:=hgood e0
 have m0:(0:Nat)∉[c,hid]:=by simp;omega
 have m1:(1:Nat)∉[c,hid]:=by simp;omega
 have m2:(2:Nat)∉[c,hid]:=by simp;omega
 have c0:=kp _ _ m0 b0
 have c1:=kp _ _ m1 b1
 have c2:=kp _ _ m2 b2
 have p0:=hp 0 _ n0 b0
 have p1:=hp 1 _ n1 b1
 have p2:=hp 2 _ n2 b2
 have gc:=gcopy_m (row:=none) (src:=none) r H3 (by omega) (by omega) (by omega)
 rw[cReg]at gc
 have l0:=(gsI c0)
 simp -dsimp -implicitDefEqProofs [-getElem?_pos,go_sem,hP,e0,c0,l0]
 refine callB_m (by rw[hr,hs];exact gc) hP en_57 ?_
 rintro x H4 ⟨i1,i2,i3,rfl,hrc,q1,q2,q3,kp4⟩
 have d0:=kp4 _ _ (by simp) c0
 have d1:=kp4 _ _ (by simp) c1
 have d2:=kp4 _ _ (by simp) c2
 have l04:=(gsI d0)
 have hc4:=hc.kept kp4
 have oc4:=hc4.oc
 have lc4:=(gsI oc4)
 have lc3:=(List.getElem?_eq_some_iff.1 hc.oc).1
 have lh3:=(List.getElem?_eq_some_iff.1 hc.oh).1
 simp -dsimp -implicitDefEqProofs [-getElem?_pos,go_sem,hP,regR,d0,l04]
 obtain⟨H5,hH5⟩:∃H5,H5=H4.set 0 (some ⟨45,3,[[.sref i1 0 r.Securities.length,.sref i2 0 r.Holdings.length,.sref i3 0 r.Moves.length]]⟩):=⟨_,rfl⟩
 rw[←hH5]
 have nx:∀z:Nat,0<z→H5[z]?=H4[z]?:=fun z hz=>by rw[hH5,List.getElem?_set_ne (by omega)]
 have f0:H5[0]?=some (some ⟨45,3,[[.sref i1 0 r.Securities.length,.sref i2 0 r.Holdings.length,.sref i3 0 r.Moves.length]]⟩):=by rw[hH5];simp[l04]
 have f1:H5[1]?=some (some ⟨70,7,[m.cells]⟩):=by rw[nx 1 (by omega)];exact d1
 have f2:H5[2]?=some (some ⟨45,3,[[.nil,.nil,.nil]]⟩):=by rw[nx 2 (by omega)];exact d2
 have fc:H5[c]?=some (some ⟨183,4,[[secsL r.Securities,.sref hid' 0 (goH r.Holdings m).length,iv ((r.Moves.length:Int)+1),iv m.Day]]⟩):=by rw[nx c (by omega)];exact oc4
 have fh:H5[hid']?=some (some ⟨173,3,encL THolding.cells (goH r.Holdings m)⟩):=by rw[nx hid' (by omega)];exact hc4.oh
 have g1:H5[i1]?=some (some ⟨89,7,encL TSecurity.cells r.Securities⟩):=by rw[nx i1 (by omega)];exact hrc.o1
 have g3:H5[i3]?=some (some ⟨70,7,encL TMove.cells r.Moves⟩):=by rw[nx i3 (by omega)];exact hrc.o3
 have v0:=(gsI f0)
 have v1:=(gsI f1)
 have v2:=(gsI f2)
 have vc:=(gsI fc)
 have v3:=(gsI g3)
 have vh:=(gsI fh)
 have vi:=(gsI g1)
 clear hrc hc4 oc4 d0 d1 d2 hH5 nx
 refine adrawB (fun i=>decide (i<2)||decide (i=c)) [10,12] hP (by kernel_rfl) (by kernel_rfl) ?_
 simp -dsimp -implicitDefEqProofs [-getElem?_pos,go_sem,hP,restr_get,f0,f1,fc,g3,v0,v1,vc,v3,cMov,encL_len]
 refine⟨by omega,by omega,?_,?_⟩
 ·intro i hi
  simp only[Bool.or_eq_true,decide_eq_true_eq]at hi
  rw[List.getElem?_append_left (by simp;omega),List.getElem?_set_ne (by omega)]
 obtain⟨N,hN6⟩:∃N,N=H5.length:=⟨_,rfl⟩
 obtain⟨H6,hH6⟩:∃H6,H6=H5.set i3 none++[some ⟨70,7,encL TMove.cells r.Moves++[[iv m.Number,iv m.Day,iv m.Kind,iv m.Security,iv m.From,iv m.To,iv m.Amount]]⟩]:=⟨_,rfl⟩
 dsimp only
 rw[←hH6,←hN6]
 have hx:∀z:Nat,z<H5.length→z≠i3→H6[z]?=H5[z]?:=fun z h1 h2=>by rw[hH6,List.getElem?_append_left (by simpa using h1),List.getElem?_set_ne (fun e=>h2 e.symm)]
 have k0:=(hx 0 (by omega) (by omega)).trans f0
 have k2:=(hx 2 (by omega) (by omega)).trans f2
 have kh:=(hx hid' (by omega) (by omega)).trans fh
 have k1:=(hx i1 (by omega) (by omega)).trans g1
 have kn:H6[N]?=some (some ⟨70,7,encL TMove.cells (r.Moves++[m])⟩):=by
  rw[hH6,hN6,List.getElem?_append_right (by simp)]
  simp[encL,cMov]
 have w0:=(gsI k0)
 have w2:=(gsI k2)
 have s0:(H5.set i3 none)[0]?=some (some ⟨45,3,[[.sref i1 0 r.Securities.length,.sref i2 0 r.Holdings.length,.sref i3 0 r.Moves.length]]⟩):=by rw[List.getElem?_set_ne (by omega)];exact f0
 clear f0 f1 f2 fc fh g1 g3 hx hH6
 have n02:¬(0:Nat)=2:=by omega
 simp -dsimp -implicitDefEqProofs [-getElem?_pos,go_sem,hP,restr_get,s0,k0,w0,k2,w2]
 rw[hQ]
 refine done_agg2 (cs':=(moved r m).cells) ?_ ⟨_,by rw[e0],fun _=>rfl⟩
 have hy:∀(z:Nat) (x y:Option AObj) (w:Option (Option AObj)),z≠0→z≠2→H6[z]?=w→((H6.set 0 x).set 2 y)[z]?=w:=fun z x y w h0 h2 h=>by rw[List.getElem?_set_ne (fun e=>h2 e.symm),List.getElem?_set_ne (fun e=>h0 e.symm)];exact h
 refine cw_sref (hy i1 _ _ _ (by omega) (by omega) k1) (by rw[encL_len];rfl) (imm_secs _) (cw_sref (hy hid' _ _ _ (by omega) (by omega) kh) (by rw[encL_len];rfl) (imm_holds _) (cw_sref (hy N _ _ _ (by omega) (by omega) kn) (by rw[encL_len];simp[moved]) (imm_moves _) .nil))
theorem imm_mv (a b c d e f g:Int):Imm (.agg [iv a,iv b,iv c,iv d,iv e,iv f,iv g]):=imm_mov ⟨a,b,c,d,e,f,g⟩
theorem gissue_pf (r:TRegister) (d:Int) (m:TMove) (ok:RegOk r d) (hl:r.Moves.length<400) (hmn:m.Number=(r.Moves.length:Int)+1) (h:m.Kind=1∧m.From=0):PFun Tryz.prog none none 77 [.agg r.cells,iv m.Day,iv m.Security,iv m.To,iv m.Amount] (MoveQ r d m):=by
 obtain⟨Q,hQ⟩:∃Q,Q=MoveQ r d m:=⟨_,rfl⟩
 rw[←hQ]
 have ir:=imm_reg r
 have gm:=gmove_pf r d m 0 ok hl hmn
 have im:=imm_mv 0 m.Day m.Kind m.Security m.From m.To m.Amount
 rw[h.1,h.2]at gm im
 rw[cReg]at ir gm
 refine pfun_intro Tryz.func77 rfl (by simp[Tryz.f77]) (by kernel_rfl) ?_
 intro E hP hr hs hW hN
 simp -dsimp -implicitDefEqProofs [-getElem?_pos,go_sem,hP,cReg]
 refine callB_isQ (gm.lift _ _) hP en_128 (by simpa using⟨ir,im⟩) (moveQ_ex r d m) ?_
 rintro x ⟨r',rfl,hx⟩ _
 have ir':=imm_reg r'
 rw[cReg]at ir'
 simp -dsimp -implicitDefEqProofs [-getElem?_pos,go_sem,hP,cReg]
 exact done_imm (imm_pair ir' .sc) (by rw[hQ,←cReg];exact⟨r',rfl,hx⟩)
theorem gredeem_pf (r:TRegister) (d:Int) (m:TMove) (ok:RegOk r d) (hl:r.Moves.length<400) (hmn:m.Number=(r.Moves.length:Int)+1) (h:m.Kind=3∧m.To=0):PFun Tryz.prog none none 79 [.agg r.cells,iv m.Day,iv m.Security,iv m.From,iv m.Amount] (MoveQ r d m):=by
 obtain⟨Q,hQ⟩:∃Q,Q=MoveQ r d m:=⟨_,rfl⟩
 rw[←hQ]
 have ir:=imm_reg r
 have gm:=gmove_pf r d m 0 ok hl hmn
 have im:=imm_mv 0 m.Day m.Kind m.Security m.From m.To m.Amount
 rw[h.1,h.2]at gm im
 rw[cReg]at ir gm
 refine pfun_intro Tryz.func79 rfl (by simp[Tryz.f79]) (by kernel_rfl) ?_
 intro E hP hr hs hW hN
 simp -dsimp -implicitDefEqProofs [-getElem?_pos,go_sem,hP,cReg]
 refine callB_isQ (gm.lift _ _) hP en_128 (by simpa using⟨ir,im⟩) (moveQ_ex r d m) ?_
 rintro x ⟨r',rfl,hx⟩ _
 have ir':=imm_reg r'
 rw[cReg]at ir'
 simp -dsimp -implicitDefEqProofs [-getElem?_pos,go_sem,hP,cReg]
 exact done_imm (imm_pair ir' .sc) (by rw[hQ,←cReg];exact⟨r',rfl,hx⟩)
open Go.PA
abbrev postsL (l:List TPosting):AV:= .list 8 (encL TPosting.cells l)
theorem cP (p:TPosting):p.cells=[iv p.Number,iv p.Day,iv p.Entity,iv p.Debit,iv p.Credit,iv p.Amount,iv p.Partner,iv p.Ref]:=rfl
theorem imm_posts (l:List TPosting):Imm (postsL l):=imm_encL _ TPosting.imm _
def betw (n lo hi:Int):Bool:=decide (lo≤n)&&decide (n≤hi)
theorem betw_iff {n lo hi:Int}:betw n lo hi=true↔lo≤n∧n≤hi:=by simp[betw]
def classI (a:Int):Int:=if 100≤a∧a≤599 then a / 100 else 0
theorem classI_pos (a:Int):0<classI a↔100≤a∧a≤599:=by
 unfold classI
 split<;>omega
def postB (p:TPosting):Bool:=
 betw p.Number 1 1000000&&betw p.Day 0 36000&&betw p.Entity 1 10&&betw p.Debit 100 599&&betw p.Credit 100 599&&!decide (p.Debit=p.Credit)&&betw p.Amount 1 1000000000000&&betw p.Partner 0 10&&!decide (p.Partner=p.Entity)&&betw p.Ref 0 1000000
structure PostOk (p:TPosting):Prop where
 num:1≤p.Number∧p.Number≤1000000
 day:0≤p.Day∧p.Day≤36000
 ent:1≤p.Entity∧p.Entity≤10
 deb:100≤p.Debit∧p.Debit≤599
 cre:100≤p.Credit∧p.Credit≤599
 ne:p.Debit≠p.Credit
 amt:1≤p.Amount∧p.Amount≤1000000000000
 par:0≤p.Partner∧p.Partner≤10
 pne:p.Partner≠p.Entity
 ref:0≤p.Ref∧p.Ref≤1000000
theorem postB_iff (p:TPosting):postB p=true↔PostOk p:=by
 simp only[postB,Bool.and_eq_true,betw_iff,Bool.not_eq_true',decide_eq_false_iff_not]
 constructor
 ·rintro⟨⟨⟨⟨⟨⟨⟨⟨⟨h1,h2⟩,h3⟩,h4⟩,h5⟩,h6⟩,h7⟩,h8⟩,h9⟩,h10⟩
  exact⟨h1,h2,h3,h4,h5,h6,h7,h8,h9,h10⟩
 ·rintro⟨h1,h2,h3,h4,h5,h6,h7,h8,h9,h10⟩
  exact⟨⟨⟨⟨⟨⟨⟨⟨⟨h1,h2⟩,h3⟩,h4⟩,h5⟩,h6⟩,h7⟩,h8⟩,h9⟩,h10⟩
open Go.PA
open Go.RowKit
theorem ramong_pf (n lo hi:Int):PFun Tryz.prog none none 191 [iv n,iv lo,iv hi] (·=bv (betw n lo hi)):=by
 refine pfun_intro Tryz.func191 rfl (by simp[Tryz.f191]) (by kernel_rfl) ?_
 intro E hP hr hs hW hN
 by_cases h1:lo≤n<;>by_cases h2:n≤hi<;>simp -dsimp -implicitDefEqProofs [-getElem?_pos,go_sem,hP,h1,h2,betw]
theorem entity_pf (n:Int):PFun Tryz.prog none none 192 [iv n] (·=bv (betw n 1 10)):=by
 refine pfun_intro Tryz.func192 rfl (by simp[Tryz.f192]) (by kernel_rfl) ?_
 intro E hP hr hs hW hN
 simp -dsimp -implicitDefEqProofs [-getElem?_pos,go_sem,hP]
 refine callB_pure (ramong_pf n 1 10) hP en_191 (args_same (by simp -dsimp[-getElem?_pos,go_sem])) .sc ?_
 simp -dsimp -implicitDefEqProofs [-getElem?_pos,go_sem,hP]
theorem tdiv100 {a:Int} (h:100≤a∧a≤599):IntKind.i64.wrap (a.tdiv 100)=a / 100:=by
 rw[Int.tdiv_eq_ediv_of_nonneg (by omega)]
 exact wrap_in _ (by omega)
theorem class_pf (n:Int):PFun Tryz.prog none none 193 [iv n] (·=iv (classI n)):=by
 refine pfun_intro Tryz.func193 rfl (by simp[Tryz.f193]) (by kernel_rfl) ?_
 intro E hP hr hs hW hN
 simp -dsimp -implicitDefEqProofs [-getElem?_pos,go_sem,hP]
 refine callB_pure (ramong_pf n 100 599) hP en_191 (args_same (by simp -dsimp[-getElem?_pos,go_sem])) .sc ?_
 by_cases h:100≤n∧n≤599
 ·have h1:betw n 100 599=true:=betw_iff.2 h
  have h2:classI n=n / 100:=if_pos h
  simp -dsimp -implicitDefEqProofs [-getElem?_pos,go_sem,hP,h1,tdiv100 h,h2]
 ·have h1:betw n 100 599=false:=by
   rw[Bool.eq_false_iff]
   exact fun e=>h (betw_iff.1 e)
  have h2:classI n=0:=if_neg h
  simp -dsimp -implicitDefEqProofs [-getElem?_pos,go_sem,hP,h1,h2]
theorem class_betw (n:Int):decide (0<classI n)=betw n 100 599:=by
 rw[Bool.eq_iff_iff,decide_eq_true_eq,betw_iff,classI_pos]
set_option maxHeartbeats 2000000 in
theorem posting_pf (p:TPosting):PFun Tryz.prog none none 129 [.agg p.cells] (·=bv (postB p)):=by
 refine pfun_intro Tryz.func129 rfl (by simp[Tryz.f129]) (by kernel_rfl) ?_
 intro E hP hr hs hW hN
 have i1:=ramong_pf p.Number 1 1000000
 have i2:=ramong_pf p.Day 0 36000
 have i3:=entity_pf p.Entity
 have i4:=class_betw p.Debit
 have i5:=class_betw p.Credit
 have i7:=ramong_pf p.Amount 1 1000000000000
 have i8:=ramong_pf p.Partner 0 10
 have i10:=ramong_pf p.Ref 0 1000000
 have pb:postB p=(betw p.Number 1 1000000&&betw p.Day 0 36000&&betw p.Entity 1 10&&betw p.Debit 100 599&&betw p.Credit 100 599&&!decide (p.Debit=p.Credit)&&betw p.Amount 1 1000000000000&&betw p.Partner 0 10&&!decide (p.Partner=p.Entity)&&betw p.Ref 0 1000000):=rfl
 generalize betw p.Number 1 1000000=b1 at i1 pb
 generalize betw p.Day 0 36000=b2 at i2 pb
 generalize betw p.Entity 1 10=b3 at i3 pb
 generalize betw p.Debit 100 599=b4 at i4 pb
 generalize betw p.Credit 100 599=b5 at i5 pb
 generalize betw p.Amount 1 1000000000000=b7 at i7 pb
 generalize betw p.Partner 0 10=b8 at i8 pb
 generalize betw p.Ref 0 1000000=b10 at i10 pb
 rw[pb]
 simp -dsimp -implicitDefEqProofs [-getElem?_pos,go_sem,hP,cP]
 refine callB_pure i1 hP en_191 (args_same (by simp -dsimp[-getElem?_pos,go_sem])) .sc ?_
 cases b1
 ·simp -dsimp -implicitDefEqProofs [-getElem?_pos,go_sem,hP,Bool.false_and]
 simp -dsimp -implicitDefEqProofs [-getElem?_pos,go_sem,hP]
 refine callB_pure i2 hP en_191 (args_same (by simp -dsimp[-getElem?_pos,go_sem])) .sc ?_
 cases b2
 ·simp -dsimp -implicitDefEqProofs [-getElem?_pos,go_sem,hP,Bool.false_and,Bool.true_and]
 simp -dsimp -implicitDefEqProofs [-getElem?_pos,go_sem,hP]
 refine callB_pure i3 hP en_192 (args_same (by simp -dsimp[-getElem?_pos,go_sem])) .sc ?_
 cases b3
 ·simp -dsimp -implicitDefEqProofs [-getElem?_pos,go_sem,hP,Bool.false_and,Bool.true_and]
 simp -dsimp -implicitDefEqProofs [-getElem?_pos,go_sem,hP]
 refine callB_pure (class_pf p.Debit) hP en_193 (args_same (by simp -dsimp[-getElem?_pos,go_sem])) .sc ?_
 cases b4
 ·simp -dsimp -implicitDefEqProofs [-getElem?_pos,go_sem,hP,i4,Bool.false_and,Bool.true_and]
 simp -dsimp -implicitDefEqProofs [-getElem?_pos,go_sem,hP,i4]
 refine callB_pure (class_pf p.Credit) hP en_193 (args_same (by simp -dsimp[-getElem?_pos,go_sem])) .sc ?_
 cases b5
 ·simp -dsimp -implicitDefEqProofs [-getElem?_pos,go_sem,hP,i5,Bool.false_and,Bool.true_and]
 by_cases h6:p.Debit=p.Credit
 ·simp -dsimp -implicitDefEqProofs [-getElem?_pos,go_sem,hP,i5,h6,decide_true,Bool.not_true,Bool.and_false,Bool.false_and,Bool.true_and]
 have d6:decide (p.Debit=p.Credit)=false:=decide_eq_false h6
 simp -dsimp -implicitDefEqProofs [-getElem?_pos,go_sem,hP,i5,d6]
 refine callB_pure i7 hP en_191 (args_same (by simp -dsimp[-getElem?_pos,go_sem])) .sc ?_
 cases b7
 ·simp -dsimp -implicitDefEqProofs [-getElem?_pos,go_sem,hP,Bool.false_and,Bool.true_and,Bool.and_false]
 simp -dsimp -implicitDefEqProofs [-getElem?_pos,go_sem,hP]
 refine callB_pure i8 hP en_191 (args_same (by simp -dsimp[-getElem?_pos,go_sem])) .sc ?_
 cases b8
 ·simp -dsimp -implicitDefEqProofs [-getElem?_pos,go_sem,hP,Bool.false_and,Bool.true_and,Bool.and_false]
 by_cases h9:p.Partner=p.Entity
 ·simp -dsimp -implicitDefEqProofs [-getElem?_pos,go_sem,hP,h9,decide_true,Bool.not_true,Bool.and_false,Bool.false_and,Bool.true_and]
 have d9:decide (p.Partner=p.Entity)=false:=decide_eq_false h9
 simp -dsimp -implicitDefEqProofs [-getElem?_pos,go_sem,hP,d9]
 refine callB_pure i10 hP en_191 (args_same (by simp -dsimp[-getElem?_pos,go_sem])) .sc ?_
 simp -dsimp -implicitDefEqProofs [-getElem?_pos,go_sem,hP,d6,d9,Bool.not_false,Bool.true_and]
theorem badp_pf (p:TPosting):PFun Tryz.prog none none 142 [.agg p.cells] (·=bv (!postB p)):=by
 refine pfun_intro Tryz.func142 rfl (by simp[Tryz.f142]) (by kernel_rfl) ?_
 intro E hP hr hs hW hN
 have hi:=posting_pf p
 rw[cP]at hi
 simp -dsimp -implicitDefEqProofs [-getElem?_pos,go_sem,hP,cP]
 refine callB_pure hi hP en_129 (args_same (by simp -dsimp[-getElem?_pos,go_sem])) .sc ?_
 simp -dsimp -implicitDefEqProofs [-getElem?_pos,go_sem,hP]
theorem index_pf_posting (l:List TPosting) (g:FuncId) (caps:List AV) (p:TPosting→Bool) (hl:l.length≤1000000) (hen:enterable Tryz.prog g=true) (hcap:∀a,a∈caps→Imm a)
  (hg:∀a,a∈l→PFun Tryz.prog none none g (.agg (TPosting.cells a)::caps) (·=bv (p a))):
  PFun Tryz.prog none none 205 [.list 8 (encL TPosting.cells l),.fn g caps] (·=iv (idxI p l)):=by
 refine pfun_intro Tryz.func205 rfl (by simp[Tryz.f205]) (by kernel_rfl) ?_
 intro E hP hr hs hW hN
 simp -dsimp -implicitDefEqProofs [-getElem?_pos,go_sem,hP]
 obtain⟨I,hI⟩:∃I:Nat→St→Prop,I=fun m s=>∃k:Nat,k≤l.length∧m=l.length-k∧idxI p l=idxFrom p k (l.drop k)∧s.t 0= .list 8 (encL TPosting.cells l)∧s.t 1= .fn g caps∧s.t 7=iv l.length∧s.t 8=iv k:=⟨_,rfl⟩
 refine aloop0 I (l.length) (by rw[hN];rfl) ?_ ?_
 ·rw[hI]
  exact⟨0,by omega,by omega,by simp[idxI],by simp -dsimp[-getElem?_pos,go_sem],by simp -dsimp[-getElem?_pos,go_sem],by simp -dsimp[-getElem?_pos,go_sem],by simp -dsimp[-getElem?_pos,go_sem]⟩
 intro m s hs'
 rw[hI]at hs'
 obtain⟨k,hk,hm,hi,t0,t1,t7,t8⟩:=hs'
 simp -dsimp -implicitDefEqProofs [-getElem?_pos,go_sem,hP,t7,t8]
 refine condP (fun h=>?_) (fun h=>?_)
 ·have hk:k<l.length:=by simpa using h
  obtain⟨a,ha⟩:∃a,l[k]?=some a:=⟨_,List.getElem?_eq_getElem hk⟩
  have wk:=wrap_in ((k:Int)+1) (by omega)
  have hz:(TPosting.cells a).take 8=TPosting.cells a:=List.take_of_length_le (by rw[TPosting.len];omega)
  have hd:l.drop k=a::l.drop (k+1):=by
   rw[List.getElem?_eq_getElem hk]at ha
   rw[List.drop_eq_getElem_cons hk,Option.some.inj ha]
  simp -dsimp -implicitDefEqProofs [-getElem?_pos,go_sem,hP,t8,t1,t0,ha,TPosting.len,hz]
  refine callB_is ((hg a (List.mem_of_getElem? ha)).lift _ _) hP hen (fun x hx=>?_) .sc ?_
  ·rcases List.mem_cons.1 hx with rfl|hx
   ·exact imm_agg.2 (TPosting.imm a)
   ·exact hcap x hx
  rw[hd]at hi
  simp only[idxFrom]at hi
  simp -dsimp -implicitDefEqProofs [-getElem?_pos,go_sem,hP]
  refine condP (fun hp=>?_) (fun hp=>?_)
  ·rw[if_pos hp]at hi
   simp -dsimp -implicitDefEqProofs [-getElem?_pos,go_sem,hP]
   exact hi.symm
  ·rw[hp,if_neg (by simp)]at hi
   simp -dsimp -implicitDefEqProofs [-getElem?_pos,go_sem,hP,t8,wk]
   refine⟨l.length-(k+1),by omega,?_⟩
   rw[hI]
   exact⟨k+1,by omega,rfl,hi,by simp -dsimp[-getElem?_pos,go_sem,t0],by simp -dsimp[-getElem?_pos,go_sem,t1],by simp -dsimp[-getElem?_pos,go_sem,t7],by simp -dsimp[-getElem?_pos,go_sem]⟩
 ·have hk:k=l.length:=by simp at h;omega
  subst hk
  rw[List.drop_length]at hi
  simp -dsimp -implicitDefEqProofs [-getElem?_pos,go_sem,hP]
  exact hi.symm
theorem contains_pf_posting (l:List TPosting) (g:FuncId) (caps:List AV) (p:TPosting→Bool) (hl:l.length≤1000000) (hen:enterable Tryz.prog g=true) (hcap:∀a,a∈caps→Imm a)
  (hg:∀a,a∈l→PFun Tryz.prog none none g (.agg (TPosting.cells a)::caps) (·=bv (p a))):
  PFun Tryz.prog none none 141 [.list 8 (encL TPosting.cells l),.fn g caps] (·=bv (l.any p)):=by
 refine pfun_intro Tryz.func141 rfl (by simp[Tryz.f141]) (by kernel_rfl) ?_
 intro E hP hr hs hW hN
 obtain⟨w,hw⟩:∃w,w=l.any p:=⟨_,rfl⟩
 rw[←hw]
 have hi:∀a,a∈[AV.list 8 (encL TPosting.cells l),.fn g caps]→Imm a:=fun a ha=>by
  simp only[List.mem_cons,List.not_mem_nil,or_false]at ha
  rcases ha with rfl|rfl
  ·exact imm_encL _ TPosting.imm _
  ·exact imm_fn.2 hcap
 simp -dsimp -implicitDefEqProofs [-getElem?_pos,go_sem,hP]
 refine callB_is ((index_pf_posting l g caps p hl hen hcap hg).lift _ _) hP en_205 hi .sc ?_
 rcases idxI_spec p l with⟨h1,h2⟩|⟨i,a,h1,h2,h3,_⟩
 ·have:w=false:=by rw[hw];exact List.any_eq_false.2 fun a ha=>by simp[h2 a ha]
  simp -dsimp -implicitDefEqProofs [-getElem?_pos,go_sem,hP,h1,this]
 ·have d:decide ((0:Int)≤(i:Int))=true:=decide_eq_true (by omega)
  have:w=true:=by rw[hw];exact List.any_eq_true.2 ⟨a,List.mem_of_getElem? h1,h2⟩
  simp -dsimp -implicitDefEqProofs [-getElem?_pos,go_sem,hP,h3,d,this]
theorem clone_m_posting {row src:Option Nat} (l:List TPosting) (H:Heap) (hl:l.length≤1000000):MFun Tryz.prog row src 69 [.list 8 (encL TPosting.cells l)] H (fun r H'=>∃id,r= .sref id 0 l.length∧H.length≤id∧H'[id]?=some (some ⟨77,8,encL TPosting.cells l⟩)∧Kept [] H H'):=by
 have own:MFun Tryz.prog row src 69 [.list 8 (encL TPosting.cells l)] H (fun r H'=>(r= .nil∧l=[]∧H'=H)∨∃id,r= .sref id 0 l.length∧H.length≤id∧H'[id]?=some (some ⟨77,8,encL TPosting.cells l⟩)∧Kept [] H H'):=by
  cases l with
  |nil=>
   refine mfun_list_nil fun A c=>?_
   refine mfun_intro Tryz.func69 rfl (by simp[Tryz.f69]) (by kernel_rfl) ⟨.nil,H,.inl ⟨rfl,rfl,rfl⟩⟩ ?_
   intro E hP hr hs hN
   cases A with
   |none=>simp -dsimp -implicitDefEqProofs [-getElem?_pos,go_sem,hP]
   |some a=>
    simp -dsimp -implicitDefEqProofs [-getElem?_pos,go_sem,hP]
    exact kept_app _ _ _
  |cons a l=>
   refine mfun_intro Tryz.func69 rfl (by simp[Tryz.f69]) (by kernel_rfl) ⟨_,H++[some ⟨77,8,encL TPosting.cells (a::l)⟩],.inr ⟨H.length,rfl,Nat.le_refl _,by simp,kept_push _ (kept_refl _ _)⟩⟩ ?_
   intro E hP hr hs hN
   simp only[List.length_cons]at hl
   have e:encL TPosting.cells (a::l)=TPosting.cells a::encL TPosting.cells l:=rfl
   simp -dsimp -implicitDefEqProofs [-getElem?_pos,go_sem,hP,e]
   refine⟨by omega,by omega,?_⟩
   exact kept_app _ _ _
 refine (own.ownNil 77 8).mono ?_
 rintro r H' (⟨H0,h0,rfl,rfl⟩|⟨hne,h⟩)
 ·rcases h0 with⟨_,rfl,rfl⟩|⟨id,h,_⟩
  ·exact⟨_,rfl,Nat.le_refl _,by simp[encL],kept_push _ (kept_refl _ _)⟩
  ·cases h
 ·rcases h with⟨h,_⟩|h
  ·exact absurd h hne
  ·exact h
theorem clone_pf_posting (l:List TPosting) (hl:l.length≤1000000):PFun Tryz.prog none none 69 [.list 8 (encL TPosting.cells l)] (·= .list 8 (encL TPosting.cells l)):=by
 cases l with
 |nil=>
  refine pfun_list_nil fun A c=>?_
  refine pfun_intro Tryz.func69 rfl (by simp[Tryz.f69]) (by kernel_rfl) ?_
  intro E hP hr hs hW hN
  cases A with
  |none=>
   simp -dsimp -implicitDefEqProofs [-getElem?_pos,go_sem,hP]
   exact done_weak .nil (imm_list.2 (by simp)) (.nil _) rfl
  |some a=>
   simp -dsimp -implicitDefEqProofs [-getElem?_pos,go_sem,hP]
   refine done_weak (x:= .list 8 []) ?_ (imm_list.2 (by simp)) ?_ rfl
   ·simp -dsimp -implicitDefEqProofs [-getElem?_pos,go_sem]
   ·simp -dsimp -implicitDefEqProofs [-getElem?_pos,go_sem]
    first|exact .refl _|skip
 |cons a l=>
  refine pfun_intro Tryz.func69 rfl (by simp[Tryz.f69]) (by kernel_rfl) ?_
  intro E hP hr hs hW hN
  simp only[List.length_cons]at hl
  have e:encL TPosting.cells (a::l)=TPosting.cells a::encL TPosting.cells l:=rfl
  have im:Imm (.list 8 (TPosting.cells a::encL TPosting.cells l)):=by rw[←e];exact imm_encL _ TPosting.imm _
  have et:(TPosting.cells a::encL TPosting.cells l).take (l.length+1)=TPosting.cells a::encL TPosting.cells l:=by
   rw[←e]
   exact encL_take TPosting.cells (a::l) _ (by simp)
  simp -dsimp -implicitDefEqProofs [-getElem?_pos,go_sem,hP,e]
  refine⟨by omega,by omega,?_⟩
  refine done_weak (x:= .list 8 (TPosting.cells a::encL TPosting.cells l)) ?_ im ?_ rfl
  ·simp -dsimp -implicitDefEqProofs [-getElem?_pos,go_sem]
   first|exact im|(have h:=imm_list.1 im;simp only[List.mem_cons,forall_eq_or_imp]at h;exact h)
  ·simp -dsimp -implicitDefEqProofs [-getElem?_pos,go_sem]
   first|exact .refl _|skip
open Go.PA
open Go.RowKit
def seqFrom:Nat→Int→List TPosting→Bool
 |_,_,[]=>true
 |k,d,p::l=>decide (p.Number=(k:Int)+1)&&(decide (d≤p.Day)&&seqFrom (k+1) p.Day l)
def checkL (l:List TPosting):Int:=if 400<l.length then 3 else if l.any (fun p=>!postB p)=true then 85 else if seqFrom 0 0 l=true then 0 else 86
def lastP (l:List TPosting):Int:=(l.getLast?.map (·.Day)).getD 0
theorem checkL_ok {l:List TPosting} (h:checkL l=0):l.length≤400∧(∀p,p∈l→PostOk p)∧seqFrom 0 0 l=true:=by
 unfold checkL at h
 split at h
 ·cases h
 split at h
 ·cases h
 split at h
 ·rename_i h1 h2 h3
  refine⟨by omega,fun p hp=>(postB_iff p).1 ?_,h3⟩
  cases hb:postB p with
  |true=>rfl
  |false=>exact absurd (List.any_eq_true.2 ⟨p,hp,by simp[hb]⟩) h2
 ·cases h
theorem prev_day {l:List TPosting} {k:Nat} {p:TPosting} (hp:l[k]?=some p):∀(j:Nat) (x:TPosting),k+1=j+1→l[j]?=some x→p.Day=x.Day:=fun j x h hx=>by
 have:j=k:=by omega
 subst this
 rw[hp]at hx
 rw[Option.some.inj hx]
abbrev cL (l:TLedger):l.cells=[postsL l.Postings]:=rfl
set_option maxHeartbeats 1000000 in
theorem lcheck_pf (l:TLedger) (hl:l.Postings.length≤100000):PFun Tryz.prog none none 85 [.agg l.cells] (·=iv (checkL l.Postings)):=by
 refine pfun_intro Tryz.func85 rfl (by simp[Tryz.f85]) (by kernel_rfl) ?_
 intro E hP hr hs hW hN
 obtain⟨l⟩:=l
 simp only at hl
 have ip:=imm_posts l
 simp -dsimp -implicitDefEqProofs [-getElem?_pos,go_sem,hP,cL]
 refine condP (fun h=>?_) (fun h=>?_)
 ·have h':400<l.length:=by simp at h;omega
  have:checkL l=3:=if_pos h'
  simp -dsimp -implicitDefEqProofs [-getElem?_pos,go_sem,hP,this]
 have h0:¬400<l.length:=by simp at h;omega
 simp -dsimp -implicitDefEqProofs [-getElem?_pos,go_sem,hP]
 refine callB_is ((contains_pf_posting l 142 [] (fun p=>!postB p) (by omega) en_142 (by simp) fun p _=>badp_pf p).lift _ _) hP en_141 (by simp[ip,imm_fn]) .sc ?_
 by_cases h1:l.any (fun p=>!postB p)=true
 ·have:checkL l=85:=by rw[checkL,if_neg h0,if_pos h1]
  simp -dsimp -implicitDefEqProofs [-getElem?_pos,go_sem,hP,h1,this]
 have h1':(l.any fun p=>!postB p)=false:=by simpa using h1
 have hv:∀p,p∈l→PostOk p:=fun p hp=>(postB_iff p).1 (by have:=List.any_eq_false.1 h1' p hp;simpa using this)
 have tc:checkL l=if seqFrom 0 0 l=true then 0 else 86:=by rw[checkL,if_neg h0,if_neg h1]
 simp -dsimp -implicitDefEqProofs [-getElem?_pos,go_sem,hP,h1']
 obtain⟨I,hI⟩:∃I:Nat→St→Prop,I=fun m s=>∃(k:Nat) (d:Int),k≤l.length∧m=l.length-k∧seqFrom 0 0 l=seqFrom k d (l.drop k)∧(k=0→d=0)∧(∀j x,k=j+1→l[j]?=some x→d=x.Day)∧s.t 1= .ref 0 0 0∧s.t 15=postsL l∧s.t 16=iv l.length∧s.t 17=iv k∧s.H[0]?=some (some ⟨48,1,[[postsL l]]⟩):=⟨_,rfl⟩
 refine aloop0 I (l.length) (by rw[hN];rfl) ?_ ?_
 ·rw[hI]
  exact⟨0,0,by omega,by omega,by simp,by simp,by omega,by simp -dsimp[-getElem?_pos,go_sem],by simp -dsimp[-getElem?_pos,go_sem],by simp -dsimp[-getElem?_pos,go_sem],by simp -dsimp[-getElem?_pos,go_sem],by simp -dsimp[-getElem?_pos,go_sem]⟩
 intro m s hs'
 rw[hI]at hs'
 obtain⟨k,d,hk,hm,hq,hd0,hd1,t1,t15,t16,t17,hH⟩:=hs'
 have hlt:=(gsI hH)
 simp -dsimp -implicitDefEqProofs [-getElem?_pos,go_sem,hP,t16,t17]
 refine condP (fun h=>?_) (fun h=>?_)
 ·have hk:k<l.length:=by simpa using h
  obtain⟨p,hp⟩:∃p,l[k]?=some p:=⟨_,List.getElem?_eq_getElem hk⟩
  have hpo:=hv p (List.mem_of_getElem? hp)
  have wk:=wrap_in ((k:Int)+1) (by omega)
  have hdr:l.drop k=p::l.drop (k+1):=by
   rw[List.getElem?_eq_getElem hk]at hp
   rw[List.drop_eq_getElem_cons hk,Option.some.inj hp]
  rw[hdr,seqFrom]at hq
  have nx:IntKind.i64.wrap ((k:Int)+1)=((k+1:Nat):Int):=by rw[wk];omega
  have g0:∀x:Option AObj,(s.H++[x])[0]?=some (some ⟨48,1,[[postsL l]]⟩):=fun x=>by rw[List.getElem?_append_left hlt];exact hH
  simp -dsimp -implicitDefEqProofs [-getElem?_pos,go_sem,hP,t17,t15,hp,cP]
  refine adrawB (fun _=>true) [] hP (by kernel_rfl) (by kernel_rfl) ?_
  by_cases c1:p.Number=(k:Int)+1
  ·have d1:decide (p.Number=(k:Int)+1)=true:=decide_eq_true c1
   rcases Nat.eq_zero_or_pos k with k0|k0
   ·have hdd:d≤p.Day:=by rw[hd0 k0];exact hpo.day.1
    rw[d1,decide_eq_true hdd,Bool.true_and,Bool.true_and]at hq
    have k0':¬0<k:=by omega
    have hjk:decide ((0:Int)<(k:Int))=false:=decide_eq_false (by omega)
    simp -dsimp -implicitDefEqProofs [-getElem?_pos,go_sem,hP,wk,d1,t1,t17,k0',hjk]
    refine⟨l.length-(k+1),by omega,?_⟩
    rw[hI]
    exact⟨k+1,p.Day,by omega,rfl,hq,by omega,prev_day hp,by simp -dsimp[-getElem?_pos,go_sem,t1],by simp -dsimp[-getElem?_pos,go_sem,t15],by simp -dsimp[-getElem?_pos,go_sem,t16],by simp -dsimp[-getElem?_pos,go_sem],by simp -dsimp[-getElem?_pos,go_sem,g0]⟩
   ·obtain⟨j,hj⟩:∃j,k=j+1:=⟨k-1,by omega⟩
    obtain⟨x,hx⟩:∃x,l[j]?=some x:=⟨_,List.getElem?_eq_getElem (by omega)⟩
    have hdx:=hd1 j x hj hx
    have hjk:decide ((0:Int)<(k:Int))=true:=decide_eq_true (by omega)
    have wj:IntKind.i64.wrap ((k:Int)-1)=(j:Int):=by rw[wrap_in _ (by omega)];omega
    have s1:=g0 (some ⟨77,8,[[iv p.Number,iv p.Day,iv p.Entity,iv p.Debit,iv p.Credit,iv p.Amount,iv p.Partner,iv p.Ref]]⟩)
    rw[hdx,d1,Bool.true_and]at hq
    by_cases c2:x.Day≤p.Day
    ·have d2:decide (p.Day<x.Day)=false:=decide_eq_false (by omega)
     rw[decide_eq_true c2,Bool.true_and]at hq
     simp -dsimp -implicitDefEqProofs [-getElem?_pos,go_sem,hP,wk,d1,t1,t17,k0,hjk,wj,s1,hx,cP,d2]
     refine⟨l.length-(k+1),by omega,?_⟩
     rw[hI]
     exact⟨k+1,p.Day,by omega,rfl,hq,by omega,prev_day hp,by simp -dsimp[-getElem?_pos,go_sem,t1],by simp -dsimp[-getElem?_pos,go_sem,t15],by simp -dsimp[-getElem?_pos,go_sem,t16],by simp -dsimp[-getElem?_pos,go_sem],by simp -dsimp[-getElem?_pos,go_sem,g0]⟩
    ·have d2:decide (p.Day<x.Day)=true:=decide_eq_true (by omega)
     rw[decide_eq_false c2,Bool.false_and]at hq
     have:checkL l=86:=by rw[tc,hq];rfl
     simp -dsimp -implicitDefEqProofs [-getElem?_pos,go_sem,hP,wk,d1,t1,k0,hjk,wj,s1,hx,cP,d2,this]
  ·have d1:decide (p.Number=(k:Int)+1)=false:=decide_eq_false c1
   rw[d1,Bool.false_and]at hq
   have:checkL l=86:=by rw[tc,hq];rfl
   simp -dsimp -implicitDefEqProofs [-getElem?_pos,go_sem,hP,wk,d1,this]
 ·have hk:k=l.length:=by simp at h;omega
  subst hk
  rw[List.drop_length,seqFrom]at hq
  have:checkL l=0:=by rw[tc,hq];rfl
  simp -dsimp -implicitDefEqProofs [-getElem?_pos,go_sem,hP,this]
theorem lastD_nil:lastP []=0:=rfl
theorem lastD_get {l:List TPosting} {k:Nat} {p:TPosting} (h:l.length=k+1) (hp:l[k]?=some p):lastP l=p.Day:=by
 rw[lastP,List.getLast?_eq_getElem?,h]
 simp[hp]
theorem llast_pf (l:TLedger) (hl:l.Postings.length≤100000):PFun Tryz.prog none none 130 [.agg l.cells] (·=iv (lastP l.Postings)):=by
 refine pfun_intro Tryz.func130 rfl (by simp[Tryz.f130]) (by kernel_rfl) ?_
 intro E hP hr hs hW hN
 obtain⟨l⟩:=l
 simp only at hl
 by_cases h0:l.length=0
 ·have:l=[]:=List.eq_nil_of_length_eq_zero h0
  subst this
  simp -dsimp -implicitDefEqProofs [-getElem?_pos,go_sem,hP,cL,lastD_nil]
 ·obtain⟨k,hk⟩:∃k,l.length=k+1:=⟨l.length-1,by omega⟩
  obtain⟨p,hp⟩:∃p,l[k]?=some p:=⟨_,List.getElem?_eq_getElem (by omega)⟩
  have d0:decide ((0:Int)<(k:Int)+1)=true:=by simp
  have d1:(0:Int)<(k:Int)+1:=by omega
  have wk:=wrap_in ((k:Int)+1-1) (by omega)
  rw[Int.add_sub_cancel]at wk
  have:=lastD_get hk hp
  simp -dsimp -implicitDefEqProofs [-getElem?_pos,go_sem,hP,cL,hk,d0,d1,Int.add_sub_cancel,wk,hp,cP,this]
abbrev zeroL:TLedger:=⟨[]⟩
def postL (l:List TPosting) (p:TPosting):List TPosting×Int:=
 if checkL l=0 then
  if postB p=false then ([],85)else if l.length=400 then ([],3)else if¬p.Number=(l.length:Int)+1 then ([],65)else if p.Day<lastP l then ([],8)else (l++[p],0)
 else ([],checkL l)
theorem done_zeroL {H:Heap} {n:Int} {Q:AV→Prop} {b:Bx Q} (h:Q (.tup [.agg zeroL.cells,iv n])):Done H (.tup [.agg [.nil],iv n]) Q b:=
 done_agg2 (cw_nil .nil) h
set_option maxHeartbeats 1000000 in
theorem lpost_pf (l:TLedger) (p:TPosting) (hl:l.Postings.length≤100000):PFun Tryz.prog none none 81 [.agg l.cells,.agg p.cells] (·= .tup [.agg (TLedger.mk (postL l.Postings p).1).cells,iv (postL l.Postings p).2]):=by
 refine pfun_intro Tryz.func81 rfl (by simp[Tryz.f81]) (by kernel_rfl) ?_
 intro E hP hr hs hW hN
 have ck:=lcheck_pf l hl
 have la:=llast_pf l hl
 have po:=posting_pf p
 obtain⟨l⟩:=l
 simp only at hl ck la
 rw[cL]at ck la
 rw[cP]at po
 have ip:=imm_posts l
 have ipp:Imm (.agg [iv p.Number,iv p.Day,iv p.Entity,iv p.Debit,iv p.Credit,iv p.Amount,iv p.Partner,iv p.Ref]):=imm_agg.2 p.imm
 simp -dsimp -implicitDefEqProofs [-getElem?_pos,go_sem,hP,cL,cP]
 refine callB_is (ck.lift _ _) hP en_85 (by simp[ip,imm_agg]) .sc ?_
 by_cases c1:checkL l=0
 rotate_left
 ·have:postL l p=([],checkL l):=by rw[postL,if_neg c1]
  simp -dsimp -implicitDefEqProofs [-getElem?_pos,go_sem,hP,c1]
  refine done_zeroL ?_
  rw[this]
 obtain⟨k1,k2,k3⟩:=checkL_ok c1
 simp -dsimp -implicitDefEqProofs [-getElem?_pos,go_sem,hP,c1]
 refine callB_is (po.lift _ _) hP en_129 (by simp[ipp]) .sc ?_
 cases c2:postB p
 ·have:postL l p=([],85):=by rw[postL,if_pos c1,if_pos c2]
  simp -dsimp -implicitDefEqProofs [-getElem?_pos,go_sem,hP,c2]
  refine done_zeroL ?_
  rw[this]
 have c2':¬postB p=false:=by simp[c2]
 by_cases c3:l.length=400
 ·have:postL l p=([],3):=by rw[postL,if_pos c1,if_neg c2',if_pos c3]
  simp -dsimp -implicitDefEqProofs [-getElem?_pos,go_sem,hP,c2,c3]
  refine done_zeroL ?_
  rw[this]
 have d3:decide ((l.length:Int)=400)=false:=by simp;omega
 have wk:=wrap_in ((l.length:Int)+1) (by omega)
 by_cases c4:p.Number=(l.length:Int)+1
 rotate_left
 ·have:postL l p=([],65):=by rw[postL,if_pos c1,if_neg c2',if_neg c3,if_pos c4]
  have d4:decide (p.Number=(l.length:Int)+1)=false:=decide_eq_false c4
  simp -dsimp -implicitDefEqProofs [-getElem?_pos,go_sem,hP,c2,d3,wk,d4]
  refine done_zeroL ?_
  rw[this]
 have d4:decide (p.Number=(l.length:Int)+1)=true:=decide_eq_true c4
 simp -dsimp -implicitDefEqProofs [-getElem?_pos,go_sem,hP,c2,d3,wk,d4]
 refine adrawB (fun _=>true) [] hP (by kernel_rfl) (by kernel_rfl) ?_
 simp -dsimp -implicitDefEqProofs [-getElem?_pos,go_sem,hP]
 refine callB_is (la.lift _ _) hP en_130 (by simp[ip,imm_agg]) .sc ?_
 by_cases c5:p.Day<lastP l
 ·have:postL l p=([],8):=by rw[postL,if_pos c1,if_neg c2',if_neg c3,if_neg (by simp[c4]),if_pos c5]
  have d5:decide (p.Day<lastP l)=true:=decide_eq_true c5
  simp -dsimp -implicitDefEqProofs [-getElem?_pos,go_sem,hP,d5]
  refine done_zeroL ?_
  rw[this]
 have pA:postL l p=(l++[p],0):=by rw[postL,if_pos c1,if_neg c2',if_neg c3,if_neg (by simp[c4]),if_neg c5]
 have d5:decide (p.Day<lastP l)=false:=decide_eq_false c5
 simp -dsimp -implicitDefEqProofs [-getElem?_pos,go_sem,hP,d5]
 refine adrawB (fun i=>decide (i<2)) [7] hP (by kernel_rfl) (by kernel_rfl) ?_
 simp -dsimp -implicitDefEqProofs [-getElem?_pos,go_sem,hP]
 obtain⟨H2,hH2⟩:∃H2:Heap,H2=[some ⟨48,1,[[postsL l]]⟩,some ⟨77,8,[[iv p.Number,iv p.Day,iv p.Entity,iv p.Debit,iv p.Credit,iv p.Amount,iv p.Partner,iv p.Ref]]⟩,some ⟨48,1,[[.nil]]⟩]:=⟨_,rfl⟩
 have b0:H2[0]?=some (some ⟨48,1,[[postsL l]]⟩):=by rw[hH2];rfl
 have b1:H2[1]?=some (some ⟨77,8,[[iv p.Number,iv p.Day,iv p.Entity,iv p.Debit,iv p.Credit,iv p.Amount,iv p.Partner,iv p.Ref]]⟩):=by rw[hH2];rfl
 have b2:H2[2]?=some (some ⟨48,1,[[.nil]]⟩):=by rw[hH2];rfl
 simp only[←hH2]
 refine callB_m (by rw[hr,hs];exact clone_m_posting l H2 (by omega)) hP en_69 ?_
 rintro r H3 ⟨id,rfl,hid,ho3,hk3⟩
 have l2:H2.length=3:=by rw[hH2];rfl
 have e0:=hk3 _ _ (by simp) b0
 have e1:=hk3 _ _ (by simp) b1
 have e2:=hk3 _ _ (by simp) b2
 have n1:=(gsI e1)
 have n2:=(gsI e2)
 have n3:=(gsI ho3)
 have ne2:¬id=2:=by omega
 simp -dsimp -implicitDefEqProofs [-getElem?_pos,go_sem,hP,e1,n1,ho3,n3,e2,n2,ne2]
 have en:encL TPosting.cells l++[[iv p.Number,iv p.Day,iv p.Entity,iv p.Debit,iv p.Credit,iv p.Amount,iv p.Partner,iv p.Ref]]=encL TPosting.cells (l++[p]):=encL_snoc TPosting.cells l p
 have D:∀i,decide (i<2)=true→i<H2.length∧i≠id:=fun i hi=>by
  simp only[decide_eq_true_eq]at hi
  omega
 refine⟨hH2▸agree_live hk3 fun i hi=>⟨by simp,?_⟩,by omega,by omega,fun i hi=>?_,?_⟩
 ·simp only[decide_eq_true_eq]at hi
  rcases i with _|_|i
  ·exact⟨_,b0⟩
  ·exact⟨_,b1⟩
  ·omega
 ·obtain⟨h1,h2⟩:=D i hi
  rw[List.getElem?_append_left (by simp;omega),List.getElem?_set_ne (Ne.symm h2)]
 refine done_agg2 (cs':=[postsL (l++[p])]) (cw_sref (ty:=77) ?_ (by simp[encL]) (imm_posts _) .nil) ?_
 ·rw[List.getElem?_append_right (by simp)]
  simp[en]
 ·rw[pA]
  rfl
open Go.PA
open Go.RowKit
theorem waitB_char {q:TQueue} (hq:QOk q) {x:TItem}:waitB q x=true↔(x.State=1∧x.Payment∈q.Waiting)∨(x.State≠1∧∀p,p∈q.Waiting→p.Warrant≠x.Payment.Warrant):=by
 unfold waitB
 cases hw:waitO q x.Payment.Warrant with
 |none=>
  have h:=waitO_none.1 hw
  simp only[Bool.not_eq_true',decide_eq_false_iff_not]
  constructor
  ·intro e
   exact .inr ⟨e,h⟩
  ·rintro (⟨_,hm⟩|⟨e,_⟩)
   ·exact absurd rfl (h _ hm)
   ·exact e
 |some w=>
  obtain⟨h1,h2⟩:=waitO_some hw
  simp only[Bool.and_eq_true,decide_eq_true_eq]
  constructor
  ·rintro⟨e,he⟩
   exact .inl ⟨e,he▸h1⟩
  ·rintro (⟨e,hm⟩|⟨_,hn⟩)
   ·exact⟨e,uniqW hq.asc.nd h1 hm h2⟩
   ·exact absurd h2 (hn _ h1)
theorem bal_iff {a:TAccount} {id:Int}:(balanceA a id).2=true↔checkA a=0∧id∈ids a.Subs:=by
 unfold balanceA
 split
 ·rename_i h
  constructor
  ·intro e
   refine⟨h,?_⟩
   cases hf:a.Subs.find? (fun s=>decide (s.ID=id))with
   |none=>rw[hf]at e;cases e
   |some s=>exact List.mem_map.2 ⟨s,List.mem_of_find?_eq_some hf,by simpa using List.find?_some hf⟩
  ·rintro⟨_,hm⟩
   obtain⟨s,hs,e⟩:=List.mem_map.1 hm
   cases hf:a.Subs.find? (fun s=>decide (s.ID=id))with
   |none=>
    have:=List.find?_eq_none.1 hf s hs
    simp[e]at this
   |some s=>rfl
 ·rename_i h
  exact⟨fun e=>(by cases e),fun e=>absurd e.1 h⟩
structure IOk (d:TDesk) (x:TItem):Prop where
 pay:PayOk x.Payment
 sub:checkA d.Account=0∧x.Payment.Sub∈ids d.Account.Subs
 st:1≤x.State∧x.State≤5
 att:0≤x.Attempts∧x.Attempts≤5
 a5:¬(x.Attempts=5∧x.State=1)
 a0:¬(x.Attempts=0∧x.State≠1∧x.State≠5)
 w:(x.State=1∧x.Payment∈d.Queue.Waiting)∨(x.State≠1∧∀p,p∈d.Queue.Waiting→p.Warrant≠x.Payment.Warrant)
 bat:(batN d.Queue x.Payment.Warrant:Int)=x.Attempts
 all:∀e,e∈d.Account.Entries→e.Ref=x.Payment.Warrant→e.Amount=x.Payment.Amount∧(e.From=x.Payment.Sub∧e.To=0∨e.From=0∧e.To=x.Payment.Sub)
 outs:(d.Account.Entries.countP (outE x.Payment):Int)=x.Attempts
 ins:(d.Account.Entries.countP (inE x.Payment):Int)+goneN x=x.Attempts
theorem okE_iff {p:TPayment} {e:TEntry}:okE p e=true↔(e.Ref=p.Warrant→e.Amount=p.Amount∧(e.From=p.Sub∧e.To=0∨e.From=0∧e.To=p.Sub)):=by
 unfold okE
 by_cases h:e.Ref=p.Warrant
 ·simp[h]
 ·simp[h]
theorem attB_iff {x:TItem}:attB x=true↔(0≤x.Attempts∧x.Attempts≤5)∧¬(x.Attempts=5∧x.State=1)∧¬(x.Attempts=0∧x.State≠1∧x.State≠5):=by
 unfold attB
 rw[Bool.and_eq_true,Bool.and_eq_true,amg_iff,Bool.not_eq_true',Bool.not_eq_true',Bool.and_eq_false_iff,Bool.and_eq_false_iff,Bool.not_eq_false',Bool.or_eq_true,decide_eq_false_iff_not,decide_eq_false_iff_not,decide_eq_false_iff_not,decide_eq_true_eq,decide_eq_true_eq]
 omega
theorem itemB_iff {d:TDesk} (hq:QOk d.Queue) {x:TItem}:itemB d x=true↔IOk d x:=by
 simp only[itemB,movedB,Bool.and_eq_true,payPB_iff,bal_iff,amg_iff,attB_iff,waitB_char hq,decide_eq_true_eq,List.all_eq_true,okE_iff]
 constructor
 ·rintro⟨h1,h2,h3,⟨h4,h5,h6⟩,h7,h8,h9,h10,h11⟩
  exact⟨h1,h2,h3,h4,h5,h6,h7,h8,h9,h10,h11⟩
 ·rintro⟨h1,h2,h3,h4,h5,h6,h7,h8,h9,h10,h11⟩
  exact⟨h1,h2,h3,⟨h4,h5,h6⟩,h7,h8,h9,h10,h11⟩
theorem DOk.io {d:TDesk} (h:DOk d) {x:TItem} (hx:x∈d.Items):IOk d x:=(itemB_iff h.q).1 (h.i x hx)
theorem DOk.mk' {d:TDesk} (a:checkA d.Account=0) (q:QOk d.Queue) (k:d.Items.map wrt=d.Queue.Known) (i:∀x,x∈d.Items→IOk d x):DOk d:=⟨a,q,k,fun x hx=>(itemB_iff q).2 (i x hx)⟩
theorem takeWhile_map {α β:Type} (f:α→β) (p:β→Bool):∀l:List α,(l.map f).takeWhile p=(l.takeWhile fun x=>p (f x)).map f
 |[]=>rfl
 |a::l=>by
  rw[List.map_cons,List.takeWhile_cons,List.takeWhile_cons,takeWhile_map f p l]
  cases p (f a)<;>rfl
theorem dropWhile_map {α β:Type} (f:α→β) (p:β→Bool):∀l:List α,(l.map f).dropWhile p=(l.dropWhile fun x=>p (f x)).map f
 |[]=>rfl
 |a::l=>by
  rw[List.map_cons,List.dropWhile_cons,List.dropWhile_cons,dropWhile_map f p l]
  cases p (f a)<;>rfl
theorem ins_wrt (l:List TItem) (y:TItem):(ins ltI l y).map wrt=ins ltB (l.map wrt) (wrt y):=by
 unfold ins
 rw[List.map_append,List.map_cons,takeWhile_map,dropWhile_map]
 rfl
theorem batN_zero {q:TQueue} (h:QOk q) {w:Int} (hw:w∉q.Known):batN q w=0:=by
 unfold batN
 have:∀b,b∈q.Batches→b.Payments.countP (hasW w)=0:=fun b hb=>by
  rw[List.countP_eq_zero]
  intro p hp e
  have e:p.Warrant=w:=by simpa[hasW]using e
  exact hw (e▸(batsFrom_len h.bats b hb).2.2.1.kn p hp)
 rw[List.map_congr_left (g:=fun _=>0) this]
 induction q.Batches with
 |nil=>rfl
 |cons a l ih=>rw[List.map_cons,List.sum_cons,ih]
theorem orderD_ok {d x:TDesk} {p:TPayment} (h:orderD d p=(x,0)):DOk d∧PayOk p∧p.Warrant∉d.Queue.Known∧x=⟨d.Account,⟨ins befB d.Queue.Waiting p,ins ltB d.Queue.Known p.Warrant,d.Queue.Batches⟩,ins ltI d.Items ⟨p,1,0⟩⟩∧DOk x:=by
 unfold orderD at h
 by_cases c1:checkD d=0
 rotate_left
 ·rw[if_neg c1]at h
  exact absurd (congrArg Prod.snd h) c1
 rw[if_pos c1]at h
 by_cases c2:(addQ d.Queue p).2=0
 rotate_left
 ·rw[if_neg c2]at h
  exact absurd (congrArg Prod.snd h) c2
 rw[if_pos c2]at h
 by_cases c3:(balanceA d.Account p.Sub).2=true
 rotate_left
 ·rw[if_neg c3]at h
  simp at h
 rw[if_pos c3]at h
 by_cases c4:d.Account.Entries.any (refB p.Warrant)=true
 ·rw[if_pos c4]at h
  simp at h
 rw[if_neg c4]at h
 have hd:=checkD_iff.1 c1
 obtain⟨a1,a2,a3,a4,a5,a6,a7⟩:=addQ_ok (x:=(addQ d.Queue p).1) (q:=d.Queue) (p:=p) (by rw[←c2])
 have hx:=(congrArg Prod.fst h).symm
 simp only at hx
 rw[a6]at hx a7
 have hne:∀e,e∈d.Account.Entries→e.Ref≠p.Warrant:=fun e he=>by
  have:=List.any_eq_false.1 (Bool.eq_false_iff.2 c4) e he
  simpa[refB]using this
 refine⟨hd,a2,a3,hx,?_⟩
 rw[hx]
 refine DOk.mk' hd.a a7 ?_ fun y hy=>?_
 ·rw[ins_wrt,hd.k]
  rfl
 rcases mem_ins.1 hy with rfl|hy
 ·refine⟨a2,bal_iff.1 c3,by simp,by simp,by simp,by simp,.inl ⟨rfl,mem_ins.2 (.inl rfl)⟩,?_,fun e he er=>absurd er (hne e he),?_,?_⟩
  ·exact (show ((batN d.Queue p.Warrant:Nat):Int)=0 by rw[batN_zero hd.q a3];rfl)
  ·rw[List.countP_eq_zero.2 fun e he=>by simp[outE,hne e he]];rfl
  ·rw[List.countP_eq_zero.2 fun e he=>by simp[inE,hne e he]];rfl
 ·have io:=hd.io hy
  have hyk:y.Payment.Warrant∈d.Queue.Known:=by rw[←hd.k];exact List.mem_map.2 ⟨y,hy,rfl⟩
  have hyp:p.Warrant≠y.Payment.Warrant:=fun e=>a3 (e▸hyk)
  refine⟨io.pay,io.sub,io.st,io.att,io.a5,io.a0,?_,io.bat,io.all,io.outs,io.ins⟩
  rcases io.w with⟨h1,h2⟩|⟨h1,h2⟩
  ·exact .inl ⟨h1,mem_ins.2 (.inr h2)⟩
  ·refine .inr ⟨h1,fun z hz=>?_⟩
   rcases mem_ins.1 hz with rfl|hz
   ·exact hyp
   ·exact h2 z hz
theorem set_wrt {l:List TItem} {k:Nat} {x y:TItem} (hx:l[k]?=some x) (e:y.Payment.Warrant=x.Payment.Warrant):(l.set k y).map wrt=l.map wrt:=by
 rw[List.map_set]
 apply List.ext_getElem?
 intro j
 rw[List.getElem?_set,List.length_map]
 by_cases hj:k=j
 ·subst hj
  rw[if_pos rfl,if_pos (gsI hx),List.getElem?_map,hx]
  exact congrArg some e
 ·rw[if_neg hj]
theorem mem_set_cases {l:List TItem} (hn:(l.map wrt).Nodup) {k:Nat} {x y z:TItem} (hx:l[k]?=some x) (hz:z∈l.set k y):z=y∨(z∈l∧z.Payment.Warrant≠x.Payment.Warrant):=by
 obtain⟨j,hj⟩:=List.getElem?_of_mem hz
 rw[List.getElem?_set]at hj
 by_cases hk:k=j
 ·subst hk
  rw[if_pos rfl,if_pos (gsI hx)]at hj
  exact .inl (Option.some.inj hj).symm
 ·rw[if_neg hk]at hj
  refine .inr ⟨List.mem_of_getElem? hj,fun e=>hk ?_⟩
  have e1:(l.map wrt)[k]?=some x.Payment.Warrant:=by rw[List.getElem?_map,hx];rfl
  have e2:(l.map wrt)[j]?=some x.Payment.Warrant:=by rw[List.getElem?_map,hj,←e];rfl
  exact (List.getElem?_inj (gsI e1) hn).1 (e1.trans e2.symm)
theorem changeD_ok {d x:TDesk} {w st:Int} {f:TDesk→TItem→Done1} (h:changeD d w st f=(x,0)):DOk d∧∃(k:Nat) (y:TItem),d.Items[k]?=some y∧y.Payment.Warrant=w∧y.State=st∧(f d y).e=0∧x=⟨(f d y).a,(f d y).q,d.Items.set k (f d y).x⟩:=by
 by_cases c1:checkD d=0
 rotate_left
 ·rw[changeD_bad c1]at h
  exact absurd (congrArg Prod.snd h) c1
 by_cases c2:w∈d.Items.map wrt
 rotate_left
 ·rw[changeD_none c1 c2]at h
  simp at h
 obtain⟨y,hy,e⟩:=List.mem_map.1 c2
 obtain⟨k,hk⟩:=List.getElem?_of_mem hy
 have e:y.Payment.Warrant=w:=e
 subst e
 rw[changeD_at c1 hk]at h
 by_cases c3:y.State=st
 ·rw[if_pos c3]at h
  by_cases c4:(f d y).e=0
  ·rw[if_pos c4]at h
   exact⟨checkD_iff.1 c1,k,y,hk,rfl,c3,c4,(congrArg Prod.fst h).symm⟩
  ·rw[if_neg c4]at h
   exact absurd (congrArg Prod.snd h) c4
 ·rw[if_neg c3]at h
  simp at h
theorem settleD_ok {d x:TDesk} {w:Int} (h:settleD d w=(x,0)):DOk d∧(∃(k:Nat) (y:TItem),d.Items[k]?=some y∧y.Payment.Warrant=w∧y.State=2∧x=⟨d.Account,d.Queue,d.Items.set k ⟨y.Payment,3,y.Attempts⟩⟩)∧DOk x:=by
 obtain⟨hd,k,y,h1,h2,h3,_,h5⟩:=changeD_ok h
 have hx:x=⟨d.Account,d.Queue,d.Items.set k ⟨y.Payment,3,y.Attempts⟩⟩:=h5
 refine⟨hd,⟨k,y,h1,h2,h3,hx⟩,?_⟩
 rw[hx]
 refine DOk.mk' hd.a hd.q ((set_wrt (y:=⟨y.Payment,3,y.Attempts⟩) h1 rfl).trans hd.k) fun z hz=>?_
 rcases mem_set_cases hd.nd h1 hz with rfl|⟨hz,hne⟩
 ·have io:=hd.io (List.mem_of_getElem? h1)
  refine⟨io.pay,io.sub,by simp,io.att,by simp,fun e=>io.a0 ⟨e.1,by omega,by omega⟩,.inr ⟨by simp,?_⟩,io.bat,io.all,io.outs,?_⟩
  ·rcases io.w with⟨e,_⟩|⟨_,e⟩
   ·omega
   ·exact e
  ·have:=io.ins
   simpa[goneN,goneB,h3]using this
 ·have io:=hd.io hz
  exact⟨io.pay,io.sub,io.st,io.att,io.a5,io.a0,io.w,io.bat,io.all,io.outs,io.ins⟩
theorem mem_erase {q:TQueue} (hq:QOk q) {w:Int} {p:TPayment} (hp:p∈q.Waiting) (hw:p.Warrant=w) {z:TPayment}:z∈q.Waiting.eraseIdx (waitQ q w).toNat↔z∈q.Waiting∧z.Warrant≠w:=by
 have hn:¬waitQ q w<0:=fun h=>waitQ_none.1 h p hp hw
 obtain⟨i,y,h1,h2,h3,h4⟩:=waitQ_some hn
 rw[h1,Int.toNat_natCast,List.mem_eraseIdx_iff_getElem?]
 constructor
 ·rintro⟨j,hj,hz⟩
  refine⟨List.mem_of_getElem? hz,fun e=>hj ?_⟩
  have e1:(q.Waiting.map (·.Warrant))[i]?=some w:=by rw[List.getElem?_map,h2,←h3];rfl
  have e2:(q.Waiting.map (·.Warrant))[j]?=some w:=by rw[List.getElem?_map,hz,←e];rfl
  exact ((List.getElem?_inj (gsI e1) hq.asc.nd).1 (e1.trans e2.symm)).symm
 ·rintro⟨hz,hne⟩
  obtain⟨j,hj⟩:=List.getElem?_of_mem hz
  refine⟨j,fun e=>hne ?_,hj⟩
  subst e
  rw[h2]at hj
  cases hj
  exact h3
theorem recallD_ok {d x:TDesk} {w:Int} (h:recallD d w=(x,0)):DOk d∧(∃(k:Nat) (y:TItem),d.Items[k]?=some y∧y.Payment.Warrant=w∧y.State=1∧x=⟨d.Account,⟨d.Queue.Waiting.eraseIdx (waitQ d.Queue w).toNat,d.Queue.Known,d.Queue.Batches⟩,d.Items.set k ⟨y.Payment,5,y.Attempts⟩⟩)∧DOk x:=by
 obtain⟨hd,k,y,h1,h2,h3,h4,h5⟩:=changeD_ok h
 have h4:(dropQ d.Queue w).2=0:=h4
 obtain⟨q1,⟨p0,q2,q2'⟩,q3,q4⟩:=dropQ_ok (q:=d.Queue) (w:=w) (x:=(dropQ d.Queue w).1) (by rw[←h4])
 have hx:x=⟨d.Account,(dropQ d.Queue w).1,d.Items.set k ⟨y.Payment,5,y.Attempts⟩⟩:=h5
 rw[q3]at hx q4
 refine⟨hd,⟨k,y,h1,h2,h3,hx⟩,?_⟩
 rw[hx]
 refine DOk.mk' hd.a q4 ((set_wrt (y:=⟨y.Payment,5,y.Attempts⟩) h1 rfl).trans hd.k) fun z hz=>?_
 rcases mem_set_cases hd.nd h1 hz with rfl|⟨hz,hne⟩
 ·have io:=hd.io (List.mem_of_getElem? h1)
  refine⟨io.pay,io.sub,by simp,io.att,by simp,by simp,.inr ⟨by simp,fun p hp=>?_⟩,io.bat,io.all,io.outs,?_⟩
  ·simp only at hp⊢
   rw[h2]
   exact ((mem_erase hd.q q2 q2').1 hp).2
  ·have:=io.ins
   simpa[goneN,goneB,h3]using this
 ·have io:=hd.io hz
  refine⟨io.pay,io.sub,io.st,io.att,io.a5,io.a0,?_,io.bat,io.all,io.outs,io.ins⟩
  rcases io.w with⟨e1,e2⟩|⟨e1,e2⟩
  ·exact .inl ⟨e1,(mem_erase hd.q q2 q2').2 ⟨e2,by rw[←h2];exact hne⟩⟩
  ·exact .inr ⟨e1,fun p hp=>e2 p ((mem_erase hd.q q2 q2').1 hp).1⟩
theorem returnD_ok {d x:TDesk} {w day:Int} (h:returnD d w day=(x,0)):DOk d∧(∃(k:Nat) (y:TItem),d.Items[k]?=some y∧y.Payment.Warrant=w∧y.State=2∧(postA d.Account (nextE d.Account day 0 y.Payment.Sub y.Payment.Amount w)).2=0∧x=⟨(postA d.Account (nextE d.Account day 0 y.Payment.Sub y.Payment.Amount w)).1,d.Queue,d.Items.set k ⟨y.Payment,4,y.Attempts⟩⟩)∧DOk x:=by
 obtain⟨hd,k,y,h1,h2,h3,h4,h5⟩:=changeD_ok h
 have h4:(postA d.Account (nextE d.Account day 0 y.Payment.Sub y.Payment.Amount w)).2=0:=h4
 have h5:x=⟨(postA d.Account (nextE d.Account day 0 y.Payment.Sub y.Payment.Amount w)).1,d.Queue,d.Items.set k ⟨y.Payment,4,y.Attempts⟩⟩:=h5
 refine⟨hd,⟨k,y,h1,h2,h3,h4,h5⟩,?_⟩
 rw[h5]
 have p1:=post_check h4
 have p2:=post_ids h4
 have p3:=post_ents h4
 have io0:=hd.io (List.mem_of_getElem? h1)
 refine DOk.mk' p1 hd.q ((set_wrt (y:=⟨y.Payment,4,y.Attempts⟩) h1 rfl).trans hd.k) fun z hz=>?_
 rcases mem_set_cases hd.nd h1 hz with rfl|⟨hz,hne⟩
 ·refine⟨io0.pay,⟨p1,by rw[p2];exact io0.sub.2⟩,by simp,io0.att,by simp,fun e=>io0.a0 ⟨e.1,by omega,by omega⟩,.inr ⟨by simp,?_⟩,io0.bat,fun e he er=>?_,?_,?_⟩
  ·rcases io0.w with⟨e,_⟩|⟨_,e⟩
   ·omega
   ·exact e
  ·rw[p3]at he
   rcases List.mem_append.1 he with he|he
   ·exact io0.all e he er
   ·rw[List.mem_singleton]at he
    rw[he]
    exact⟨rfl,.inr ⟨rfl,rfl⟩⟩
  ·rw[p3,List.countP_append]
   have hs:=io0.pay.sub.1
   have:outE y.Payment (nextE d.Account day 0 y.Payment.Sub y.Payment.Amount w)=false:=by
    show (decide (w=y.Payment.Warrant)&&(decide ((0:Int)=y.Payment.Sub)&&decide (y.Payment.Sub=0)))=false
    rw[decide_eq_false (p:=(0:Int)=y.Payment.Sub) (by omega),Bool.false_and,Bool.and_false]
   simp only[List.countP_cons,List.countP_nil,this]
   simpa using io0.outs
  ·rw[p3,List.countP_append]
   have:inE y.Payment (nextE d.Account day 0 y.Payment.Sub y.Payment.Amount w)=true:=by simp[inE,nextE,h2]
   simp only[List.countP_cons,List.countP_nil,this]
   have hi:=io0.ins
   simp[goneN,goneB,h3]at hi
   simp[goneN,goneB]
   omega
 ·have io:=hd.io hz
  refine⟨io.pay,⟨p1,by rw[p2];exact io.sub.2⟩,io.st,io.att,io.a5,io.a0,io.w,io.bat,fun e he er=>?_,?_,?_⟩
  ·rw[p3]at he
   rcases List.mem_append.1 he with he|he
   ·exact io.all e he er
   ·rw[List.mem_singleton]at he
    rw[he]at er
    exact absurd (er.symm.trans h2.symm) hne
  ·rw[p3,List.countP_append]
   have:outE z.Payment (nextE d.Account day 0 y.Payment.Sub y.Payment.Amount w)=false:=by
    show (decide (w=z.Payment.Warrant)&&_)=false
    rw[decide_eq_false (p:=w=z.Payment.Warrant) (fun e=>hne (e.symm.trans h2.symm)),Bool.false_and]
   simp only[List.countP_cons,List.countP_nil,this]
   simpa using io.outs
  ·rw[p3,List.countP_append]
   have:inE z.Payment (nextE d.Account day 0 y.Payment.Sub y.Payment.Amount w)=false:=by
    show (decide (w=z.Payment.Warrant)&&_)=false
    rw[decide_eq_false (p:=w=z.Payment.Warrant) (fun e=>hne (e.symm.trans h2.symm)),Bool.false_and]
   simp only[List.countP_cons,List.countP_nil,this]
   simpa using io.ins
open Go.PA
open Go.RowKit
def keyE (e:TEntry):Int×Int×Int×Int:=(e.Ref,e.From,e.To,e.Amount)
def keyP (p:TPayment):Int×Int×Int×Int:=(p.Warrant,p.Sub,0,p.Amount)
structure Sent (day:Int) (a:TAccount) (ps:List TPayment) (b:TAccount):Prop where
 ok:checkA b=0
 ents:∃es,b.Entries=a.Entries++es∧es.map keyE=ps.map keyP∧∀e,e∈es→e.Day=day
 ids:ids b.Subs=ids a.Subs
 cred:b.Credit=a.Credit
theorem Sent.refl {day:Int} {a:TAccount} (h:checkA a=0):Sent day a [] a:=⟨h,⟨[],by simp,rfl,by simp⟩,rfl,rfl⟩
theorem Sent.snoc {day:Int} {a b:TAccount} {ps:List TPayment} {p:TPayment} (h:Sent day a ps b) (hp:(postA b (nextE b day p.Sub 0 p.Amount p.Warrant)).2=0):Sent day a (ps++[p]) (postA b (nextE b day p.Sub 0 p.Amount p.Warrant)).1:=by
 obtain⟨h1,⟨es,h2,h3,h4⟩,h5,h6⟩:=h
 refine⟨post_check hp,⟨es++[nextE b day p.Sub 0 p.Amount p.Warrant],?_,?_,?_⟩,(post_ids hp).trans h5,(post_credit hp).trans h6⟩
 ·rw[post_ents hp,h2,List.append_assoc]
 ·rw[List.map_append,List.map_append,h3];rfl
 ·intro e he
  rcases List.mem_append.1 he with he|he
  ·exact h4 e he
  ·rw[List.mem_singleton]at he
   rw[he]
   rfl
theorem sendGo_run (day:Int) (a0:TAccount):∀(l:List TPayment) (a:TAccount) (ps:List TPayment) (full:Bool),Sent day a0 ps a→∃qs,qs.Sublist l∧(sendGo day l a (ps.map (·.Warrant)) full).2.1=(ps++qs).map (·.Warrant)∧Sent day a0 (ps++qs) (sendGo day l a (ps.map (·.Warrant)) full).1
 |[],a,ps,full,h=>⟨[],by simp,by simp[sendGo],by simpa[sendGo]using h⟩
 |p::l,a,ps,full,h=>by
  rw[sendGo]
  split
  ·exact⟨[],by simp,by simp,by simpa using h⟩
  ·split
   ·rename_i hp
    have e:ps.map (·.Warrant)++[p.Warrant]=(ps++[p]).map (·.Warrant):=by simp
    rw[e]
    obtain⟨qs,h1,h2,h3⟩:=sendGo_run day a0 l _ (ps++[p]) full (h.snoc hp)
    exact⟨p::qs,h1.cons_cons p,by rw[h2];simp,by rw[show ps++p::qs=ps++[p]++qs by simp];exact h3⟩
   ·obtain⟨qs,h1,h2,h3⟩:=sendGo_run day a0 l a ps _ h
    exact⟨qs,h1.cons p,h2,h3⟩
theorem goD_run {d:TDesk} (hd:DOk d) (day:Int):∃ps,ps.Sublist (readyQ d.Queue day)∧(goD d day).2.1=ps.map (·.Warrant)∧Sent day d.Account ps (goD d day).1:=by
 obtain⟨qs,h1,h2,h3⟩:=sendGo_run day d.Account (readyQ d.Queue day) d.Account [] false (Sent.refl hd.a)
 exact⟨qs,h1,h2,h3⟩
theorem countW {l:List TPayment} (hn:(l.map (·.Warrant)).Nodup) (w:Int):l.countP (hasW w)=if w∈l.map (·.Warrant)then 1 else 0:=by
 induction l with
 |nil=>rfl
 |cons p l ih=>
  rw[List.map_cons,List.nodup_cons]at hn
  rw[List.countP_cons,ih hn.2]
  by_cases h:p.Warrant=w
  ·subst h
   rw[if_neg hn.1,if_pos (by simp[hasW]),if_pos (by simp)]
  ·have e:hasW w p=false:=by simp[hasW,h]
   have e2:w∈(p::l).map (·.Warrant)↔w∈l.map (·.Warrant):=by
    rw[List.map_cons,List.mem_cons]
    exact⟨fun o=>o.resolve_left fun e=>h e.symm,.inr⟩
   by_cases hm:w∈l.map (·.Warrant)
   ·rw[if_pos hm,if_pos (e2.2 hm),e];rfl
   ·rw[if_neg hm,if_neg (mt e2.1 hm),e];rfl
theorem countW_one {l:List TPayment} (hn:(l.map (·.Warrant)).Nodup) {w:Int} (h:w∈l.map (·.Warrant)):l.countP (hasW w)=1:=by rw[countW hn,if_pos h]
def outK (p:TPayment) (k:Int×Int×Int×Int):Bool:=decide (k.1=p.Warrant)&&(decide (k.2.1=p.Sub)&&decide (k.2.2.1=0))
def inK' (p:TPayment) (k:Int×Int×Int×Int):Bool:=decide (k.1=p.Warrant)&&(decide (k.2.1=0)&&decide (k.2.2.1=p.Sub))
theorem outK_iff {p y:TPayment}:outK p (keyP y)=true↔y.Warrant=p.Warrant∧y.Sub=p.Sub:=by
 unfold outK keyP
 rw[Bool.and_eq_true,Bool.and_eq_true]
 exact⟨fun⟨a,b,_⟩=>⟨of_decide_eq_true a,of_decide_eq_true b⟩,fun⟨a,b⟩=>⟨decide_eq_true a,decide_eq_true b,rfl⟩⟩
theorem inK_iff {p y:TPayment}:inK' p (keyP y)=true↔y.Warrant=p.Warrant∧y.Sub=0∧0=p.Sub:=by
 unfold inK' keyP
 rw[Bool.and_eq_true,Bool.and_eq_true]
 exact⟨fun⟨a,b,c⟩=>⟨of_decide_eq_true a,of_decide_eq_true b,of_decide_eq_true c⟩,fun⟨a,b,c⟩=>⟨decide_eq_true a,decide_eq_true b,decide_eq_true c⟩⟩
theorem count_key {es:List TEntry} {ps:List TPayment} (h:es.map keyE=ps.map keyP) (p:TPayment):es.countP (outE p)=ps.countP (fun y=>outK p (keyP y))∧es.countP (inE p)=ps.countP (fun y=>inK' p (keyP y)):=by
 have e1:es.countP (outE p)=(es.map keyE).countP (outK p):=by rw[List.countP_map];rfl
 have e2:es.countP (inE p)=(es.map keyE).countP (inK' p):=by rw[List.countP_map];rfl
 rw[e1,e2,h,List.countP_map,List.countP_map]
 exact⟨rfl,rfl⟩
theorem mem_key {es:List TEntry} {ps:List TPayment} (h:es.map keyE=ps.map keyP) {e:TEntry} (he:e∈es):∃p,p∈ps∧e.Ref=p.Warrant∧e.From=p.Sub∧e.To=0∧e.Amount=p.Amount:=by
 have:keyE e∈ps.map keyP:=h▸List.mem_map.2 ⟨e,he,rfl⟩
 obtain⟨p,hp,k⟩:=List.mem_map.1 this
 simp only[keyE,keyP,Prod.mk.injEq]at k
 exact⟨p,hp,k.1.symm,k.2.1.symm,k.2.2.1.symm,k.2.2.2.symm⟩
theorem sent_desk {d:TDesk} (hd:DOk d) {day:Int} {ps:List TPayment} {a:TAccount} (hsub:ps.Sublist d.Queue.Waiting) (hs:Sent day d.Account ps a) {b:TBatch} (hb:b.Payments=d.Queue.Waiting.filter (takenB (ps.map (·.Warrant))))
  (hq:QOk ⟨d.Queue.Waiting.filter (fun p=>!takenB (ps.map (·.Warrant)) p),d.Queue.Known,d.Queue.Batches++[b]⟩):DOk ⟨a,⟨d.Queue.Waiting.filter (fun p=>!takenB (ps.map (·.Warrant)) p),d.Queue.Known,d.Queue.Batches++[b]⟩,d.Items.map (sentI (ps.map (·.Warrant)))⟩:=by
 obtain⟨es,e1,e2,e3⟩:=hs.ents
 have hnW:=hd.q.asc.nd
 have hn:(ps.map (·.Warrant)).Nodup:=hnW.sublist (hsub.map _)
 refine DOk.mk' hs.ok hq ((sentI_wrt _ _).trans hd.k) fun z hz=>?_
 obtain⟨x,hx,rfl⟩:=List.mem_map.1 hz
 have io:=hd.io hx
 have hbat:batN ⟨d.Queue.Waiting.filter (fun p=>!takenB (ps.map (·.Warrant)) p),d.Queue.Known,d.Queue.Batches++[b]⟩ x.Payment.Warrant=batN d.Queue x.Payment.Warrant+if x.Payment.Warrant∈b.Payments.map (·.Warrant)then 1 else 0:=by
  have:(b.Payments.map (·.Warrant)).Nodup:=by rw[hb];exact hnW.sublist (List.filter_sublist.map _)
  rw[batN,List.map_append,List.sum_append]
  simp only[List.map_cons,List.map_nil,List.sum_cons,List.sum_nil,Nat.add_zero]
  rw[countW this,batN]
 have hmem:x.Payment.Warrant∈b.Payments.map (·.Warrant)↔x.Payment.Warrant∈ps.map (·.Warrant):=by
  rw[hb]
  constructor
  ·intro h
   obtain⟨p,hp,e⟩:=List.mem_map.1 h
   have:=(List.mem_filter.1 hp).2
   rw[←e]
   simpa[takenB]using this
  ·intro h
   obtain⟨p,hp,e⟩:=List.mem_map.1 h
   exact List.mem_map.2 ⟨p,List.mem_filter.2 ⟨hsub.subset hp,by simp only[takenB,decide_eq_true_eq];exact List.mem_map.2 ⟨p,hp,rfl⟩⟩,e⟩
 obtain⟨co,ci⟩:=count_key e2 x.Payment
 have ci0:es.countP (inE x.Payment)=0:=by
  rw[ci,List.countP_eq_zero]
  intro p hp e
  have h1:=(hd.q.asc.pay p (hsub.subset hp)).sub.1
  have:=(inK_iff.1 e).2.1
  omega
 have hsubs:checkA a=0∧(sentI (ps.map (·.Warrant)) x).Payment.Sub∈ids a.Subs:=by rw[sentI_pay,hs.ids];exact⟨hs.ok,io.sub.2⟩
 by_cases hw:x.Payment.Warrant∈ps.map (·.Warrant)
 ·obtain⟨p,hp,e⟩:=List.mem_map.1 hw
  have hpW:=hsub.subset hp
  have hst:x.State=1∧x.Payment∈d.Queue.Waiting:=by
   rcases io.w with h|⟨_,h⟩
   ·exact h
   ·exact absurd e (h p hpW)
  have hpx:p=x.Payment:=uniqW hnW hpW hst.2 e
  have co1:es.countP (outE x.Payment)=1:=by
   rw[co,←countW_one hn hw]
   refine List.countP_congr fun y hy=>?_
   rw[outK_iff,hasW,decide_eq_true_eq]
   refine⟨fun h=>h.1,fun h=>⟨h,?_⟩⟩
   rw[uniqW hnW (hsub.subset hy) hst.2 h]
  have hsx:sentI (ps.map (·.Warrant)) x=⟨x.Payment,2,x.Attempts+1⟩:=by rw[sentI,if_pos hw]
  have h5:=io.a5
  have h0:=io.att
  rw[hsx]at hsubs⊢
  refine⟨io.pay,hsubs,by simp,by dsimp only;omega,by simp,by dsimp only;omega,.inr ⟨by simp,fun p' hp' e'=>?_⟩,?_,fun e' he' er=>?_,?_,?_⟩
  ·have:=(List.mem_filter.1 hp').2
   rw[takenB,e',decide_eq_true hw]at this
   cases this
  ·dsimp only
   rw[hbat,if_pos (hmem.2 hw)]
   have:=io.bat
   omega
  ·dsimp only at he' er⊢
   rw[e1]at he'
   rcases List.mem_append.1 he' with he'|he'
   ·exact io.all e' he' er
   ·obtain⟨p',hp',k1,k2,k3,k4⟩:=mem_key e2 he'
    have:p'=x.Payment:=uniqW hnW (hsub.subset hp') hst.2 (k1.symm.trans er)
    rw[this]at k2 k4
    exact⟨k4,.inl ⟨k2,k3⟩⟩
  ·dsimp only
   rw[e1,List.countP_append,co1]
   have:=io.outs
   omega
  ·dsimp only
   rw[e1,List.countP_append,ci0]
   have h1:=io.ins
   have g0:goneN x=0:=by simp[goneN,goneB,hst.1]
   have g1:goneN ⟨x.Payment,2,x.Attempts+1⟩=1:=by simp[goneN,goneB]
   rw[g0]at h1
   rw[g1]
   omega
 ·have co0:es.countP (outE x.Payment)=0:=by
   rw[co,List.countP_eq_zero]
   intro p hp e
   exact hw (List.mem_map.2 ⟨p,hp,(outK_iff.1 e).1⟩)
  have hsx:sentI (ps.map (·.Warrant)) x=x:=by rw[sentI,if_neg hw]
  rw[hsx]at hsubs⊢
  refine⟨io.pay,hsubs,io.st,io.att,io.a5,io.a0,?_,?_,fun e' he' er=>?_,?_,?_⟩
  ·rcases io.w with⟨h1,h2⟩|⟨h1,h2⟩
   ·refine .inl ⟨h1,List.mem_filter.2 ⟨h2,?_⟩⟩
    rw[takenB,decide_eq_false hw]
    rfl
   ·exact .inr ⟨h1,fun p hp=>h2 p (List.mem_filter.1 hp).1⟩
  ·dsimp only
   rw[hbat,if_neg (mt hmem.1 hw)]
   exact io.bat
  ·dsimp only at he'
   rw[e1]at he'
   rcases List.mem_append.1 he' with he'|he'
   ·exact io.all e' he' er
   ·obtain⟨p',hp',k1,k2,k3,k4⟩:=mem_key e2 he'
    exact absurd (List.mem_map.2 ⟨p',hp',k1.symm.trans er⟩) hw
  ·dsimp only
   rw[e1,List.countP_append,co0]
   exact io.outs
  ·dsimp only
   rw[e1,List.countP_append,ci0]
   exact io.ins
theorem sendD_ok {d x:TDesk} {b:TBatch} {day:Int} (h:sendD d day=(x,b,0)):DOk d∧busB day=true∧lastQ d.Queue≤day∧lastDay d.Account≤day∧∃ps a,ps.Sublist (readyQ d.Queue day)∧1≤ps.length∧ps.length≤10∧(goD d day).2.1=ps.map (·.Warrant)∧(goD d day).1=a∧Sent day d.Account ps a∧b=takeB d.Queue day (ps.map (·.Warrant))∧
  x=⟨a,⟨d.Queue.Waiting.filter (fun p=>!takenB (ps.map (·.Warrant)) p),d.Queue.Known,d.Queue.Batches++[b]⟩,d.Items.map (sentI (ps.map (·.Warrant)))⟩∧DOk x:=by
 unfold sendD at h
 by_cases c1:checkD d=0
 rotate_left
 ·rw[if_neg c1]at h
  exact absurd (congrArg (fun r=>r.2.2) h) c1
 rw[if_pos c1]at h
 by_cases c2:busB day=true
 rotate_left
 ·rw[if_neg c2]at h
  simp at h
 rw[if_pos c2]at h
 by_cases c3:day<lastQ d.Queue∨day<lastDay d.Account
 ·rw[if_pos c3]at h
  simp at h
 rw[if_neg c3]at h
 by_cases c4:(goD d day).2.1.length=0
 ·rw[if_pos c4]at h
  have:=congrArg (fun r=>r.2.2) h
  simp only at this
  split at this<;>cases this
 rw[if_neg c4]at h
 by_cases c5:(takeQ d.Queue day (goD d day).2.1).2.2=0
 rotate_left
 ·rw[if_neg c5]at h
  exact absurd (congrArg (fun r=>r.2.2) h) c5
 rw[if_pos c5]at h
 have hd:=checkD_iff.1 c1
 obtain⟨ps,h1,h2,h3⟩:=goD_run hd day
 obtain⟨_,_,_,t4,t5,_,t7,t8,t9⟩:=takeQ_ok (q:=d.Queue) (day:=day) (ws:=(goD d day).2.1) (x:=(takeQ d.Queue day (goD d day).2.1).1) (b:=(takeQ d.Queue day (goD d day).2.1).2.1) (by rw[←c5])
 have hx:=(congrArg Prod.fst h).symm
 have hb:=(congrArg (fun r=>r.2.1) h).symm
 simp only at hx hb
 rw[t8]at hb
 rw[t7]at hx t9
 rw[h2]at hx hb t4 t5 t9
 rw[List.length_map]at t4 t5
 rw[←hb]at hx t9
 refine⟨hd,c2,by omega,by omega,ps,_,h1,t4,t5,h2,rfl,h3,hb,hx,?_⟩
 rw[hx]
 exact sent_desk hd (h1.trans (readyQ_sub _ _)) h3 (by rw[hb];rfl) t9
open Go.PA
open Go.RowKit
def zeroSt:TState:=⟨zeroD,⟨[],[],[],[]⟩,⟨[],[],[]⟩,⟨[]⟩⟩
def setDesk (s:TState) (d:TDesk):TState:=⟨d,s.Cash,s.Register,s.Ledger⟩
def setAcc (s:TState) (a:TAccount):TState:=setDesk s ⟨a,s.Desk.Queue,s.Desk.Items⟩
def moveS (s:TState) (day f t n:Int):TState×Int:=
 if (postA s.Desk.Account (nextE s.Desk.Account day f t n 0)).2=0 then (setAcc s (postA s.Desk.Account (nextE s.Desk.Account day f t n 0)).1,0)else (s,(postA s.Desk.Account (nextE s.Desk.Account day f t n 0)).2)
def deskS (s:TState) (d:TDesk) (e:Int):TState×Int:=if e=0 then (setDesk s d,0)else (s,e)
def nextN (c:TCash):Int:=match c.Incomes.getLast? with|none=>1|some x=>IntKind.i64.wrap (x.Number+1)
def incS (s:TState) (d:TDeed):TIncome:=⟨nextN s.Cash,d.Day,d.Who,d.Amount,d.Ref⟩
def receiveS (s:TState) (d:TDeed):TState×Int:=
 if d.Sub=1 then (s,60)else if takeE s.Cash.Incomes (incS s d)=0 then moveS ⟨s.Desk,csh (s.Cash.Incomes++[incS s d]),s.Register,s.Ledger⟩ d.Day 0 d.Sub d.Amount else (s,takeE s.Cash.Incomes (incS s d))
def movR (r:TRegister) (day kind ref f t n:Int):TMove:=⟨(r.Moves.length:Int)+1,day,kind,ref,f,t,n⟩
def debtS (s:TState) (m:TMove) (e f t n:Int):TState×Int:=if e=0 then moveS ⟨s.Desk,s.Cash,moved s.Register m,s.Ledger⟩ m.Day f t n else (s,e)
def dR (r:TRegister):Int:=((r.Moves.getLast?).map (·.Day)).getD 0
def movE (r:TRegister) (m:TMove):Int:=moveE r.Securities r.Holdings (dR r) m
def issM (s:TState) (d:TDeed):TMove:=movR s.Register d.Day 1 d.Ref 0 d.Who d.Amount
def redM (s:TState) (d:TDeed):TMove:=movR s.Register d.Day 3 d.Ref d.Who 0 d.Amount
def payS (d:TDeed):TPayment:=⟨d.Ref,d.Who,d.Amount,d.Due,d.Sub⟩
def doK (s:TState) (d:TDeed):TState×Int:=
 if d.Kind=1 then receiveS s d else if d.Kind=2 then deskS s (orderD s.Desk (payS d)).1 (orderD s.Desk (payS d)).2 else if d.Kind=3 then deskS s (sendD s.Desk d.Day).1 (sendD s.Desk d.Day).2.2 else
 if d.Kind=4 then deskS s (settleD s.Desk d.Ref).1 (settleD s.Desk d.Ref).2 else if d.Kind=5 then deskS s (returnD s.Desk d.Ref d.Day).1 (returnD s.Desk d.Ref d.Day).2 else if d.Kind=6 then deskS s (recallD s.Desk d.Ref).1 (recallD s.Desk d.Ref).2 else
 if d.Kind=7 then debtS s (issM s d) (movE s.Register (issM s d)) 0 1 d.Amount else if d.Kind=8 then debtS s (redM s d) (movE s.Register (redM s d)) 1 0 d.Amount else
 if d.Kind=9 then (if d.Sub=0∨d.Who=0 then (s,60)else moveS s d.Day d.Sub d.Who d.Amount)else (s,91)
structure FitS (j:Nat) (s:TState):Prop where
 d:FitD s.Desk
 c:s.Cash=csh s.Cash.Incomes
 cl:CsOk s.Cash.Incomes
 r:RegOk s.Register (dR s.Register)
 rm:s.Register.Moves.length≤j
 l:s.Ledger.Postings.length≤400
theorem FitS.fc {j:Nat} {s:TState} (h:FitS j s):FitC s.Cash:=by
 rw[h.c]
 exact h.cl.fit
theorem cDeskX (d:TDesk):d.cells=[iv d.Account.Credit,subsL d.Account.Subs,entsL d.Account.Entries,paysL d.Queue.Waiting,.list 1 (encL encI d.Queue.Known),batsL d.Queue.Batches,itemsL d.Items]:=rfl
theorem cStX (s:TState):s.cells=[iv s.Desk.Account.Credit,subsL s.Desk.Account.Subs,entsL s.Desk.Account.Entries,paysL s.Desk.Queue.Waiting,.list 1 (encL encI s.Desk.Queue.Known),batsL s.Desk.Queue.Batches,itemsL s.Desk.Items,claimsL s.Cash.Claims,incomesL s.Cash.Incomes,matchesL s.Cash.Matches,.list 1 (encL encI s.Cash.Loose),secsL s.Register.Securities,holdsL s.Register.Holdings,movesL s.Register.Moves,postsL s.Ledger.Postings]:=rfl
theorem cDeedX (d:TDeed):d.cells=[iv d.Kind,iv d.Day,iv d.Sub,iv d.Who,iv d.Ref,iv d.Amount,iv d.Due]:=rfl
theorem imm_st (s:TState):Imm (.agg s.cells):=imm_agg.2 s.imm
theorem imm_csh (c:TCash):Imm (.agg c.cells):=imm_agg.2 c.imm
abbrev crtO (s:TState) (day:Int):Option (Option AObj):=some (some ⟨96,16,[[iv s.Desk.Account.Credit,subsL s.Desk.Account.Subs,entsL s.Desk.Account.Entries,paysL s.Desk.Queue.Waiting,.list 1 (encL encI s.Desk.Queue.Known),batsL s.Desk.Queue.Batches,itemsL s.Desk.Items,claimsL s.Cash.Claims,incomesL s.Cash.Incomes,matchesL s.Cash.Matches,.list 1 (encL encI s.Cash.Loose),secsL s.Register.Securities,holdsL s.Register.Holdings,movesL s.Register.Moves,postsL s.Ledger.Postings,iv day]]⟩)
def CrtC (p:Nat) (day:Int) (H:Heap) (x:TState×Int) (r:AV) (H':Heap):Prop:=r=iv x.2∧H'[p]?=crtO x.1 day∧Kept [p] H H'
theorem crt_wit {p:Nat} {day:Int} {H:Heap} {s:TState} (h:H[p]?=crtO s day) (x:TState×Int):∃r H',CrtC p day H x r H':=by
 have lp:=(gsI h)
 exact⟨_,H.set p (some ⟨96,16,[[iv x.1.Desk.Account.Credit,subsL x.1.Desk.Account.Subs,entsL x.1.Desk.Account.Entries,paysL x.1.Desk.Queue.Waiting,.list 1 (encL encI x.1.Desk.Queue.Known),batsL x.1.Desk.Queue.Batches,itemsL x.1.Desk.Items,claimsL x.1.Cash.Claims,incomesL x.1.Cash.Incomes,matchesL x.1.Cash.Matches,.list 1 (encL encI x.1.Cash.Loose),secsL x.1.Register.Securities,holdsL x.1.Register.Holdings,movesL x.1.Register.Moves,postsL x.1.Ledger.Postings,iv day]]⟩),rfl,List.getElem?_set_self lp,kept_set _ (by simp) (kept_refl _ _)⟩
set_option maxHeartbeats 1000000 in
theorem cmove_m {row src:Option Nat} {p:Nat} {day:Int} {H:Heap} {s:TState} (h:H[p]?=crtO s day) (hf:FitD s.Desk) (f t n:Int):MFun Tryz.prog row src 80 [.ref p 0 0,iv f,iv t,iv n] H (CrtC p day H (moveS s day f t n)):=by
 obtain⟨C,hC⟩:∃C,C=CrtC p day H (moveS s day f t n):=⟨_,rfl⟩
 have wit:=crt_wit h (moveS s day f t n)
 have lp:=(gsI h)
 have nx:=next_pf s.Desk.Account day f t n 0 hf.e
 have po:=post_pf s.Desk.Account (nextE s.Desk.Account day f t n 0) hf.s hf.e
 have im:=imm_acc s.Desk.Account
 have ie:=imm_ent (nextE s.Desk.Account day f t n 0)
 obtain⟨ee,hee⟩:∃ee,ee=nextE s.Desk.Account day f t n 0:=⟨_,rfl⟩
 rw[←hC]at wit⊢
 rw[←hee]at nx po ie
 obtain⟨b,e,hb⟩:∃b e,postA s.Desk.Account ee=(b,e):=⟨_,_,rfl⟩
 rw[hb]at po
 have ib:=imm_acc b
 have hS:moveS s day f t n=if e=0 then (setAcc s b,0)else (s,e):=by rw[moveS,←hee,hb]
 rw[cA]at nx po im ib
 rw[cA]at po
 rw[cE]at nx po ie
 refine mfun_intro Tryz.func80 rfl (by simp[Tryz.f80]) (by kernel_rfl) (wit) ?_
 intro E hP hr hs hN
 simp -dsimp -implicitDefEqProofs [-getElem?_pos,go_sem,hP]
 refine adrawQ (fun i=>decide (i<H.length)) [25] [19,20] hP (by kernel_rfl) (by kernel_rfl) ?_
 simp -dsimp -implicitDefEqProofs [-getElem?_pos,go_sem,hP,restr_get,h,lp]
 refine callQ_isQ (nx.lift _ _) hP en_121 (by simp[im,imm_sc]) ⟨_,rfl,ie⟩ ?_
 rintro r rfl _
 simp -dsimp -implicitDefEqProofs [-getElem?_pos,go_sem,hP,restr_get]
 refine callQ_isQ (po.lift _ _) hP en_120 (by simp[im,ie]) ⟨_,rfl,imm_pair ib .sc⟩ ?_
 rintro r rfl _
 simp -dsimp -implicitDefEqProofs [-getElem?_pos,go_sem,hP,restr_get]
 refine⟨agree_push (Nat.le_refl _),?_⟩
 by_cases he:e=0
 ·subst he
  rw[if_pos rfl]at hS
  simp -dsimp -implicitDefEqProofs [-getElem?_pos,go_sem,hP,h,lp]
  rw[hC,hS]
  refine⟨rfl,?_,?_⟩
  ·rw[List.getElem?_append_left (by simpa using lp),List.getElem?_set_self lp]
   rfl
  ·exact kept_push _ (kept_set _ (by simp) (kept_refl _ _))
 ·rw[if_neg he]at hS
  have d1:decide (e=0)=false:=decide_eq_false he
  simp -dsimp -implicitDefEqProofs [-getElem?_pos,go_sem,hP,d1]
  rw[hC,hS]
  exact⟨rfl,by rw[List.getElem?_append_left lp];exact h,kept_push _ (kept_refl _ _)⟩
set_option maxHeartbeats 1000000 in
theorem cdesk_m {row src:Option Nat} {p:Nat} {day:Int} {H:Heap} {s:TState} (h:H[p]?=crtO s day) (d:TDesk) (e:Int):MFun Tryz.prog row src 71 [.ref p 0 0,.agg d.cells,iv e] H (CrtC p day H (deskS s d e)):=by
 obtain⟨C,hC⟩:∃C,C=CrtC p day H (deskS s d e):=⟨_,rfl⟩
 have wit:=crt_wit h (deskS s d e)
 have lp:=(gsI h)
 rw[←hC]at wit⊢
 refine mfun_intro Tryz.func71 rfl (by simp[Tryz.f71]) (by kernel_rfl) (wit) ?_
 intro E hP hr hs hN
 by_cases he:e=0
 ·subst he
  simp -dsimp -implicitDefEqProofs [-getElem?_pos,go_sem,hP,cDeskX,h,lp]
  rw[hC,deskS,if_pos rfl]
  refine⟨rfl,?_,?_⟩
  ·rw[List.getElem?_append_left (by simpa using lp),List.getElem?_set_self lp]
   rfl
  ·exact kept_push _ (kept_set _ (by simp) (kept_refl _ _))
 ·have d1:decide (e=0)=false:=decide_eq_false he
  simp -dsimp -implicitDefEqProofs [-getElem?_pos,go_sem,hP,cDeskX,d1]
  rw[hC,deskS,if_neg he]
  exact⟨rfl,by rw[List.getElem?_append_left lp];exact h,kept_push _ (kept_refl _ _)⟩
set_option maxHeartbeats 1000000 in
theorem cdebt_m {row src:Option Nat} {p:Nat} {H:Heap} {s:TState} (m:TMove) (h:H[p]?=crtO s m.Day) (hf:FitD s.Desk) (r:TRegister) (e f t n:Int) (hr0:e=0→r=moved s.Register m):
  MFun Tryz.prog row src 78 [.ref p 0 0,.agg r.cells,iv e,iv f,iv t,iv n] H (CrtC p m.Day H (debtS s m e f t n)):=by
 obtain⟨C,hC⟩:∃C,C=CrtC p m.Day H (debtS s m e f t n):=⟨_,rfl⟩
 have wit:=crt_wit h (debtS s m e f t n)
 have lp:=(gsI h)
 rw[←hC]at wit⊢
 refine mfun_intro Tryz.func78 rfl (by simp[Tryz.f78]) (by kernel_rfl) (wit) ?_
 intro E hP hr hs hN
 by_cases he:e=0
 ·have e1:=hr0 he
  subst he
  have mv:=fun (H1:Heap) (h1:H1[p]?=crtO ⟨s.Desk,s.Cash,r,s.Ledger⟩ m.Day)=>cmove_m (row:=E.row) (src:=E.src) h1 hf f t n
  simp -dsimp -implicitDefEqProofs [-getElem?_pos,go_sem,hP,cReg,h,lp]
  refine callB_m (mv _ (by rw[List.getElem?_append_left (by simpa using lp),List.getElem?_set_self lp])) hP en_80 ?_
  rintro q H2 ⟨rfl,h2,k2⟩
  simp -dsimp -implicitDefEqProofs [-getElem?_pos,go_sem,hP]
  rw[hC,debtS,if_pos rfl,←e1]
  exact⟨rfl,h2,(kept_push _ (kept_set _ (by simp) (kept_refl _ _))).trans k2⟩
 ·have d1:decide (e=0)=false:=decide_eq_false he
  simp -dsimp -implicitDefEqProofs [-getElem?_pos,go_sem,hP,cReg,d1]
  rw[hC,debtS,if_neg he]
  exact⟨rfl,by rw[List.getElem?_append_left lp];exact h,kept_push _ (kept_refl _ _)⟩
open Go.PA
open Go.RowKit
theorem cIncX (x:TIncome):x.cells=[iv x.Number,iv x.Day,iv x.Payer,iv x.Amount,iv x.Claim]:=rfl
set_option maxHeartbeats 2000000 in
theorem creceive_m {row src:Option Nat} {p:Nat} {H:Heap} {s:TState} (d:TDeed) (h:H[p]?=crtO s d.Day) (hd:FitD s.Desk) (hc:s.Cash=csh s.Cash.Incomes) (hcl:CsOk s.Cash.Incomes):
  MFun Tryz.prog row src 70 [.ref p 0 0,.agg d.cells] H (CrtC p d.Day H (receiveS s d)):=by
 obtain⟨C,hC⟩:∃C,C=CrtC p d.Day H (receiveS s d):=⟨_,rfl⟩
 have wit:=crt_wit h (receiveS s d)
 have lp:=(gsI h)
 have tk:=ctakeL_pf s.Cash.Incomes (incS s d) hcl
 rw[←hc]at tk
 have icc:=imm_csh s.Cash
 have ici:=imm_agg.2 (incS s d).imm
 obtain⟨c',e,hT⟩:∃c' e,takeL s.Cash.Incomes (incS s d)=(c',e):=⟨_,_,rfl⟩
 have hS:receiveS s d=if d.Sub=1 then (s,60)else if e=0 then moveS ⟨s.Desk,c',s.Register,s.Ledger⟩ d.Day 0 d.Sub d.Amount else (s,e):=by
  rw[receiveS]
  rw[takeL]at hT
  split at hT<;>rename_i ht<;>cases hT
  ·rw[if_pos ht,if_pos rfl]
  ·rw[if_neg ht,if_neg ht]
 rw[hT]at tk
 have icr:=imm_csh c'
 have im:Imm (.list 3 []):=imm_matches []
 have hin:(incS s d).cells=[iv (nextN s.Cash),iv d.Day,iv d.Who,iv d.Amount,iv d.Ref]:=rfl
 have mv:=fun (E:Env) (H1:Heap) (h1:H1[p]?=crtO ⟨s.Desk,c',s.Register,s.Ledger⟩ d.Day)=>cmove_m (row:=E.row) (src:=E.src) h1 hd 0 d.Sub d.Amount
 rw[←hC]at wit⊢
 rw[hin]at tk ici
 rw[cCsh]at tk icc icr
 rw[cCsh]at tk
 refine mfun_intro Tryz.func70 rfl (by simp[Tryz.f70]) (by kernel_rfl) (wit) ?_
 intro E hP hr hs hN
 have lH:=fun (y:AObj)=>(List.getElem?_append_left (l₂:=[some y]) lp).trans h
 by_cases h1:d.Sub=1
 ·have d1:decide (d.Sub=1)=true:=decide_eq_true h1
  simp -dsimp -implicitDefEqProofs [-getElem?_pos,go_sem,hP,cDeedX,d1]
  rw[hC,hS,if_pos h1]
  exact⟨rfl,lH _,kept_push _ (kept_refl _ _)⟩
 rw[if_neg h1]at hS
 have d1:decide (d.Sub=1)=false:=decide_eq_false h1
 have lp1:p<H.length+1:=by omega
 have hne:¬H.length=p:=by omega
 rcases hlast:s.Cash.Incomes.getLast? with _|x
 ·have e0:s.Cash.Incomes=[]:=List.getLast?_eq_none_iff.1 hlast
  have n1:nextN s.Cash=1:=by rw[nextN,hlast]
  have l0:(s.Cash.Incomes.length:Int)=0:=by rw[e0];rfl
  rw[n1]at tk ici
  simp -dsimp -implicitDefEqProofs [-getElem?_pos,go_sem,hP,cDeedX,d1,h,lp,lH,encL_len,l0]
  obtain⟨N,hN0⟩:∃N,N=H.length:=⟨_,rfl⟩
  obtain⟨H1,hH1⟩:∃H1:Heap,H1=H++[some ⟨59,7,[[iv d.Kind,iv d.Day,iv d.Sub,iv d.Who,iv d.Ref,iv d.Amount,iv d.Due]]⟩]:=⟨_,rfl⟩
  have k1:Kept [p] H H1:=by rw[hH1];exact kept_push _ (kept_refl _ _)
  have h1':H1[p]?=crtO s d.Day:=by rw[hH1];exact lH _
  have gN:H1[N]?=some (some ⟨59,7,[[iv d.Kind,iv d.Day,iv d.Sub,iv d.Who,iv d.Ref,iv d.Amount,iv d.Due]]⟩):=by rw[hH1,hN0];simp
  have lp':=(List.getElem?_eq_some_iff.1 h1').1
  have lN:=(gsI gN)
  have nNp:¬N=p:=by omega
  have nNp':¬p=N:=by omega
  rw[←hH1,←hN0]
  clear hH1
  refine adrawQ (fun i=>decide (i<H1.length)) [21] [15] hP (by kernel_rfl) (by kernel_rfl) ?_
  simp -dsimp -implicitDefEqProofs [-getElem?_pos,go_sem,hP,restr_get,h1',gN,lp',lN]
  refine callQ_isQ (tk.lift _ _) hP en_109 (by simp[icc,ici]) ⟨_,rfl,imm_tripC icr im .sc⟩ ?_
  rintro r rfl _
  simp -dsimp -implicitDefEqProofs [-getElem?_pos,go_sem,hP,restr_get]
  refine⟨agree_push (Nat.le_refl _),?_⟩
  by_cases he:e=0
  ·subst he
   rw[if_pos rfl]at hS
   simp -dsimp -implicitDefEqProofs [-getElem?_pos,go_sem,hP,h1',gN,lp',lN,List.getElem?_append_left,List.getElem?_set_ne,nNp,nNp']
   refine callB_m (mv E _ ?_) hP en_80 ?_
   ·simp -dsimp -implicitDefEqProofs [-getElem?_pos,go_sem,lp']
   rintro q H2 ⟨rfl,h2,k2⟩
   simp -dsimp -implicitDefEqProofs [-getElem?_pos,go_sem,hP]
   rw[hC,hS]
   refine⟨rfl,h2,?_⟩
   refine Kept.trans ?_ k2
   exact kept_push _ (kept_set _ (by simp) k1)
  ·rw[if_neg he]at hS
   have de:decide (e=0)=false:=decide_eq_false he
   simp -dsimp -implicitDefEqProofs [-getElem?_pos,go_sem,hP,de]
   rw[hC,hS]
   refine⟨rfl,?_,?_⟩
   ·rw[List.getElem?_append_left lp']
    exact h1'
   ·exact kept_push _ k1
 ·have nn:s.Cash.Incomes≠[]:=fun e0=>by rw[e0]at hlast;simp at hlast
  have n1:nextN s.Cash=IntKind.i64.wrap (x.Number+1):=by rw[nextN,hlast]
  have hfi:=hcl.2
  have lpos:0<s.Cash.Incomes.length:=List.length_pos_iff.2 nn
  have hx:s.Cash.Incomes[s.Cash.Incomes.length-1]?=some x:=by rw[←List.getLast?_eq_getElem?];exact hlast
  obtain⟨nI,hnI⟩:∃nI,s.Cash.Incomes.length=nI+1:=⟨s.Cash.Incomes.length-1,by omega⟩
  have dI:decide ((0:Int)<((nI+1:Nat):Int))=true:=decide_eq_true (by omega)
  have wI:IntKind.i64.wrap (((nI+1:Nat):Int)-1)=(nI:Int):=by rw[wrap_in _ (by omega)];omega
  have dI2:decide ((0:Int)<(nI:Int)+1)=true:=decide_eq_true (by omega)
  have wI2:=wrap_in (nI:Int) (by omega)
  have wI3:IntKind.i64.wrap ((nI:Int)+1-1)=(nI:Int):=by rw[Int.add_sub_cancel];exact wI2
  rw[hnI,Nat.add_sub_cancel]at hx
  rw[n1]at tk ici
  simp -dsimp -implicitDefEqProofs [-getElem?_pos,go_sem,hP,cDeedX,d1,h,lp,lH,encL_len,hnI,dI,wI,dI2,wI2,wI3,hx,cIncX]
  obtain⟨N,hN0⟩:∃N,N=H.length:=⟨_,rfl⟩
  obtain⟨H1,hH1⟩:∃H1:Heap,H1=H++[some ⟨59,7,[[iv d.Kind,iv d.Day,iv d.Sub,iv d.Who,iv d.Ref,iv d.Amount,iv d.Due]]⟩]:=⟨_,rfl⟩
  have k1:Kept [p] H H1:=by rw[hH1];exact kept_push _ (kept_refl _ _)
  have h1':H1[p]?=crtO s d.Day:=by rw[hH1];exact lH _
  have gN:H1[N]?=some (some ⟨59,7,[[iv d.Kind,iv d.Day,iv d.Sub,iv d.Who,iv d.Ref,iv d.Amount,iv d.Due]]⟩):=by rw[hH1,hN0];simp
  have lp':=(List.getElem?_eq_some_iff.1 h1').1
  have lN:=(gsI gN)
  have nNp:¬N=p:=by omega
  have nNp':¬p=N:=by omega
  rw[←hH1,←hN0]
  clear hH1
  refine adrawQ (fun i=>decide (i<H1.length)) [21] [15] hP (by kernel_rfl) (by kernel_rfl) ?_
  simp -dsimp -implicitDefEqProofs [-getElem?_pos,go_sem,hP,restr_get,h1',gN,lp',lN]
  refine callQ_isQ (tk.lift _ _) hP en_109 (by simp[icc,ici]) ⟨_,rfl,imm_tripC icr im .sc⟩ ?_
  rintro r rfl _
  simp -dsimp -implicitDefEqProofs [-getElem?_pos,go_sem,hP,restr_get]
  refine⟨agree_push (Nat.le_refl _),?_⟩
  by_cases he:e=0
  ·subst he
   rw[if_pos rfl]at hS
   simp -dsimp -implicitDefEqProofs [-getElem?_pos,go_sem,hP,h1',gN,lp',lN,List.getElem?_append_left,List.getElem?_set_ne,nNp,nNp']
   refine callB_m (mv E _ ?_) hP en_80 ?_
   ·simp -dsimp -implicitDefEqProofs [-getElem?_pos,go_sem,lp']
   rintro q H2 ⟨rfl,h2,k2⟩
   simp -dsimp -implicitDefEqProofs [-getElem?_pos,go_sem,hP]
   rw[hC,hS]
   refine⟨rfl,h2,?_⟩
   refine Kept.trans ?_ k2
   exact kept_push _ (kept_set _ (by simp) k1)
  ·rw[if_neg he]at hS
   have de:decide (e=0)=false:=decide_eq_false he
   simp -dsimp -implicitDefEqProofs [-getElem?_pos,go_sem,hP,de]
   rw[hC,hS]
   refine⟨rfl,?_,?_⟩
   ·rw[List.getElem?_append_left lp']
    exact h1'
   ·exact kept_push _ k1
def secE (e:TEntry):Bool:=decide (e.Ref=0)&&(decide (e.From=1)&&decide (e.To=0)||decide (e.From=0)&&decide (e.To=1))
def outsE (e:TEntry):Bool:=decide (e.From=0)||decide (e.To=0)
def postE (e:TEntry) (n:Int):TPosting:=
 ⟨n,e.Day,1,if secE e=true∧e.From≠0 then 230 else if e.To=0 then 510 else 110,if secE e=true∧e.From=0 then 230 else if e.To=0 then 110 else 410,e.Amount,0,e.Ref⟩
theorem csec_pf (e:TEntry):PFun Tryz.prog none none 37 [.agg e.cells] (·=bv (secE e)):=by
 refine pfun_intro Tryz.func37 rfl (by simp[Tryz.f37]) (by kernel_rfl) ?_
 intro E hP hr hs hW hN
 unfold secE
 by_cases h1:e.Ref=0
 ·have d1:decide (e.Ref=0)=true:=decide_eq_true h1
  by_cases h2:e.From=1
  ·have d2:decide (e.From=1)=true:=decide_eq_true h2
   have d4:decide (e.From=0)=false:=decide_eq_false (by omega)
   by_cases h3:e.To=0
   ·have d3:decide (e.To=0)=true:=decide_eq_true h3
    simp -dsimp -implicitDefEqProofs [-getElem?_pos,go_sem,hP,cE,d1,d2,d3,d4]
   ·have d3:decide (e.To=0)=false:=decide_eq_false h3
    simp -dsimp -implicitDefEqProofs [-getElem?_pos,go_sem,hP,cE,d1,d2,d3,d4]
  ·have d2:decide (e.From=1)=false:=decide_eq_false h2
   by_cases h4:e.From=0
   ·have d4:decide (e.From=0)=true:=decide_eq_true h4
    simp -dsimp -implicitDefEqProofs [-getElem?_pos,go_sem,hP,cE,d1,d2,d4]
   ·have d4:decide (e.From=0)=false:=decide_eq_false h4
    simp -dsimp -implicitDefEqProofs [-getElem?_pos,go_sem,hP,cE,d1,d2,d4]
 ·have d1:decide (e.Ref=0)=false:=decide_eq_false h1
  simp -dsimp -implicitDefEqProofs [-getElem?_pos,go_sem,hP,cE,d1]
theorem couts_pf (e:TEntry):PFun Tryz.prog none none 89 [.agg e.cells] (·=bv (outsE e)):=by
 refine pfun_intro Tryz.func89 rfl (by simp[Tryz.f89]) (by kernel_rfl) ?_
 intro E hP hr hs hW hN
 unfold outsE
 by_cases h4:e.From=0
 ·have d4:decide (e.From=0)=true:=decide_eq_true h4
  simp -dsimp -implicitDefEqProofs [-getElem?_pos,go_sem,hP,cE,d4]
 ·have d4:decide (e.From=0)=false:=decide_eq_false h4
  simp -dsimp -implicitDefEqProofs [-getElem?_pos,go_sem,hP,cE,d4]
theorem cposting_pf (e:TEntry) (n:Int):PFun Tryz.prog none none 90 [.agg e.cells,iv n] (·= .agg (postE e n).cells):=by
 refine pfun_intro Tryz.func90 rfl (by simp[Tryz.f90]) (by kernel_rfl) ?_
 intro E hP hr hs hW hN
 have cs:=csec_pf e
 have ie:=imm_ent e
 have hc:(postE e n).cells=[iv n,iv e.Day,iv 1,iv (if secE e=true∧e.From≠0 then 230 else if e.To=0 then 510 else 110),iv (if secE e=true∧e.From=0 then 230 else if e.To=0 then 110 else 410),iv e.Amount,iv 0,iv e.Ref]:=rfl
 rw[hc]
 rw[cE]at cs ie
 by_cases h3:e.To=0
 ·have d3:decide (e.To=0)=true:=decide_eq_true h3
  simp -dsimp -implicitDefEqProofs [-getElem?_pos,go_sem,hP,cE,d3]
  refine callB_is (cs.lift _ _) hP en_37 (by simpa using ie) .sc ?_
  cases h1:secE e
  ·simp -dsimp -implicitDefEqProofs [-getElem?_pos,go_sem,hP]
   exact done (by simp -dsimp[-getElem?_pos,go_sem]) rfl (by simp -dsimp[-getElem?_pos,go_sem,h3])
  ·by_cases h4:e.From=0
   ·have d4:decide (e.From=0)=true:=decide_eq_true h4
    simp -dsimp -implicitDefEqProofs [-getElem?_pos,go_sem,hP,d4]
    exact done (by simp -dsimp[-getElem?_pos,go_sem]) rfl (by simp -dsimp[-getElem?_pos,go_sem,h3,h4])
   ·have d4:decide (e.From=0)=false:=decide_eq_false h4
    simp -dsimp -implicitDefEqProofs [-getElem?_pos,go_sem,hP,d4]
    exact done (by simp -dsimp[-getElem?_pos,go_sem]) rfl (by simp -dsimp[-getElem?_pos,go_sem,h3,h4])
 ·have d3:decide (e.To=0)=false:=decide_eq_false h3
  simp -dsimp -implicitDefEqProofs [-getElem?_pos,go_sem,hP,cE,d3]
  refine callB_is (cs.lift _ _) hP en_37 (by simpa using ie) .sc ?_
  cases h1:secE e
  ·simp -dsimp -implicitDefEqProofs [-getElem?_pos,go_sem,hP]
   exact done (by simp -dsimp[-getElem?_pos,go_sem]) rfl (by simp -dsimp[-getElem?_pos,go_sem,h3])
  ·by_cases h4:e.From=0
   ·have d4:decide (e.From=0)=true:=decide_eq_true h4
    simp -dsimp -implicitDefEqProofs [-getElem?_pos,go_sem,hP,d4]
    exact done (by simp -dsimp[-getElem?_pos,go_sem]) rfl (by simp -dsimp[-getElem?_pos,go_sem,h3,h4])
   ·have d4:decide (e.From=0)=false:=decide_eq_false h4
    simp -dsimp -implicitDefEqProofs [-getElem?_pos,go_sem,hP,d4]
    exact done (by simp -dsimp[-getElem?_pos,go_sem]) rfl (by simp -dsimp[-getElem?_pos,go_sem,h3,h4])
def postsGo (b:Int):List TPosting→List TEntry→List TPosting
 |out,[]=>out
 |out,e::l=>postsGo b (if outsE e=true then out++[postE e (b+(out.length:Int)+1)]else out) l
theorem cpostings_pf (l:List TEntry) (b:Int) (hl:l.length≤100000) (hb:0≤b∧b≤100000):PFun Tryz.prog none none 39 [entsL l,iv b] (·=postsL (postsGo b [] l)):=by
 refine pfun_intro Tryz.func39 rfl (by simp[Tryz.f39]) (by kernel_rfl) ?_
 intro E hP hr hs hW hN
 have ie:=imm_ents l
 simp -dsimp -implicitDefEqProofs [-getElem?_pos,go_sem,hP]
 refine aloop_own 5 77 8 (by simp -dsimp[-getElem?_pos,go_sem]) ?_
 obtain⟨I,hI⟩:∃I:Nat→St→Prop,I=fun m s=>∃(k id:Nat) (out:List TPosting),k≤l.length∧m=l.length-k∧postsGo b [] l=postsGo b out (l.drop k)∧out.length≤k∧s.t 1=iv b∧s.t 8=entsL l∧s.t 9=iv l.length∧s.t 10=iv k∧s.t 5= .sref id 0 out.length∧s.H[id]?=some (some ⟨77,8,encL TPosting.cells out⟩):=⟨_,rfl⟩
 refine aloopF 5 hW I (l.length) (by rw[hN];rfl) ?_ ?_
 ·rw[hI]
  exact⟨0,0,[],by omega,by omega,by simp,by simp,by simp -dsimp[-getElem?_pos,go_sem],by simp -dsimp[-getElem?_pos,go_sem],by simp -dsimp[-getElem?_pos,go_sem],by simp -dsimp[-getElem?_pos,go_sem],by simp -dsimp[-getElem?_pos,go_sem],by simp -dsimp[-getElem?_pos,go_sem,encL]⟩
 intro m s hs'
 rw[hI]at hs'
 obtain⟨k,id,out,hk,hm,hgo,hol,t1,t8,t9,t10,t5,hH⟩:=hs'
 have hlt:=(gsI hH)
 simp -dsimp -implicitDefEqProofs [-getElem?_pos,go_sem,hP,t9,t10]
 refine condP (fun h=>?_) (fun h=>?_)
 ·have hk:k<l.length:=by simpa using h
  obtain⟨e,he⟩:∃e,l[k]?=some e:=⟨_,List.getElem?_eq_getElem hk⟩
  have wk:=wrap_in ((k:Int)+1) (by omega)
  have w1:=wrap_in (b+(out.length:Int)) (by omega)
  have w2:=wrap_in (b+(out.length:Int)+1) (by omega)
  have hd:l.drop k=e::l.drop (k+1):=by
   obtain⟨h2,h3⟩:=List.getElem?_eq_some_iff.1 he
   rw[List.drop_eq_getElem_cons h2,h3]
  rw[hd,postsGo]at hgo
  have iee:=imm_ent e
  have co:=couts_pf e
  have cp:=cposting_pf e (b+(out.length:Int)+1)
  rw[cE]at iee co cp
  simp -dsimp -implicitDefEqProofs [-getElem?_pos,go_sem,hP,t8,t10,he,cE]
  refine callB_is (co.lift _ _) hP en_89 (by simpa using iee) .sc ?_
  cases ho:outsE e
  ·rw[ho,if_neg (by simp)]at hgo
   simp -dsimp -implicitDefEqProofs [-getElem?_pos,go_sem,hP,t10,wk]
   refine⟨l.length-(k+1),by omega,?_⟩
   rw[hI]
   exact⟨k+1,id,out,by omega,rfl,hgo,by omega,by simp -dsimp[-getElem?_pos,go_sem,t1],by simp -dsimp[-getElem?_pos,go_sem,t8],by simp -dsimp[-getElem?_pos,go_sem,t9],by simp -dsimp[-getElem?_pos,go_sem],by simp -dsimp[-getElem?_pos,go_sem,t5],by simp -dsimp[-getElem?_pos,go_sem,List.getElem?_append_left hlt,hH]⟩
  ·rw[ho,if_pos rfl]at hgo
   obtain⟨np,hnp⟩:∃np,np=postE e (b+(out.length:Int)+1):=⟨_,rfl⟩
   rw[←hnp]at cp hgo
   have inp:=imm_agg.2 np.imm
   rw[cP]at cp inp
   have hb2:=(List.getElem?_append_left (l₂:=[some ⟨75,6,[[iv e.Number,iv e.Day,iv e.From,iv e.To,iv e.Amount,iv e.Ref]]⟩]) hlt).trans hH
   simp -dsimp -implicitDefEqProofs [-getElem?_pos,go_sem,hP,t5,hH,hb2,t1,w1,w2]
   refine callB_is (cp.lift _ _) hP en_90 (by simpa[imm_sc]using iee) inp ?_
   simp -dsimp -implicitDefEqProofs [-getElem?_pos,go_sem,hP,t5,hH,hb2,hlt,t10,wk]
   refine⟨by omega,by omega,?_⟩
   refine⟨l.length-(k+1),by omega,?_⟩
   rw[hI]
   exact⟨k+1,s.H.length+1,out++[np],by omega,rfl,hgo,by simp;omega,by simp -dsimp[-getElem?_pos,go_sem,t1],by simp -dsimp[-getElem?_pos,go_sem,t8],by simp -dsimp[-getElem?_pos,go_sem,t9],by simp -dsimp[-getElem?_pos,go_sem],by simp -dsimp[-getElem?_pos,go_sem],by rw[←encL_snoc];simp -dsimp -implicitDefEqProofs [-getElem?_pos,go_sem,cP]⟩
 ·have hk:k=l.length:=by simp at h;omega
  subst hk
  rw[List.drop_length,postsGo]at hgo
  refine frz id _ 77 8 (encL TPosting.cells out) t5 hH (by rw[encL_len]) (imm_posts out) ?_
  simp -dsimp -implicitDefEqProofs [-getElem?_pos,go_sem,hP]
  rw[hgo]
  exact done_imm (imm_posts out) rfl
open Go.PA
open Go.RowKit
theorem seqFrom_snoc (q:TPosting):∀(l:List TPosting) (k:Nat) (d:Int),seqFrom k d (l++[q])=(seqFrom k d l&&(decide (q.Number=((k+l.length:Nat):Int)+1)&&decide ((l.getLast?.map (·.Day)).getD d≤q.Day)))
 |[],k,d=>by simp[seqFrom];rfl
 |p::l,k,d=>by
  have ih:=seqFrom_snoc q l (k+1) p.Day
  have e1:(((p::l).getLast?.map (·.Day)).getD d)=(l.getLast?.map (·.Day)).getD p.Day:=by
   cases l with
   |nil=>rfl
   |cons b l=>
    rw[List.getLast?_cons_cons]
    rw[List.getLast?_eq_some_getLast (by simp)]
    rfl
  rw[List.cons_append,seqFrom,ih,seqFrom,e1,List.length_cons,show k+1+l.length=k+(l.length+1)from by omega]
  simp only[Bool.and_assoc]
theorem postL_ok {l:List TPosting} {q:TPosting} (h:(postL l q).2=0):checkL l=0∧PostOk q∧q.Number=(l.length:Int)+1∧lastP l≤q.Day∧l.length<400∧(postL l q).1=l++[q]∧checkL (l++[q])=0:=by
 unfold postL at h⊢
 by_cases c1:checkL l=0
 rotate_left
 ·rw[if_neg c1]at h;exact absurd h c1
 rw[if_pos c1]at h⊢
 split at h
 ·cases h
 rename_i c2
 split at h
 ·cases h
 rename_i c3
 split at h
 ·cases h
 rename_i c4
 split at h
 ·cases h
 rename_i c5
 rw[if_neg c2,if_neg c3,if_neg c4,if_neg c5]
 obtain⟨k1,k2,k3⟩:=checkL_ok c1
 have hq:PostOk q:=(postB_iff q).1 (by simpa using c2)
 have c4':q.Number=(l.length:Int)+1:=by omega
 refine⟨c1,hq,c4',by omega,by omega,rfl,?_⟩
 have hl:(l++[q]).length=l.length+1:=by simp
 rw[checkL,if_neg (by omega),if_neg,if_pos]
 ·rw[seqFrom_snoc,k3,Bool.true_and,decide_eq_true (by rw[c4'];simp),Bool.true_and]
  have hle:lastP l≤q.Day:=by omega
  exact decide_eq_true hle
 ·intro h
  obtain⟨p,hp,hb⟩:=List.any_eq_true.1 h
  rcases List.mem_append.1 hp with hp|hp
  ·rw[(postB_iff p).2 (k2 p hp)]at hb;cases hb
  ·simp at hp;subst hp
   rw[(postB_iff p).2 hq]at hb;cases hb
open Go.PA
open Go.RowKit
def bookGo:List TPosting→List TPosting→List TPosting×Int
 |L,[]=>(L,0)
 |L,p::l=>if (postL L p).2=0 then bookGo (postL L p).1 l else (L,(postL L p).2)
def bookS (s:TState) (n:Nat):TState×Int:=
 let r:=bookGo s.Ledger.Postings (postsGo (s.Ledger.Postings.length:Int) [] (s.Desk.Account.Entries.drop n))
 (⟨s.Desk,s.Cash,s.Register,⟨r.1⟩⟩,r.2)
theorem postL_fit {L:List TPosting} {p:TPosting} (h:(postL L p).2=0):(postL L p).1.length≤400:=by
 have o:=postL_ok h
 rw[o.2.2.2.2.2.1]
 exact (checkL_ok o.2.2.2.2.2.2).1
theorem postsGo_len (b:Int):∀(l:List TEntry) (out:List TPosting),(postsGo b out l).length≤out.length+l.length
 |[],out=>by simp[postsGo]
 |e::l,out=>by
  rw[postsGo]
  refine Nat.le_trans (postsGo_len b l _) ?_
  split<;>simp<;>omega
set_option maxHeartbeats 2000000 in
theorem cbook_m {row src:Option Nat} {p:Nat} {day:Int} {H:Heap} {s:TState} (h:H[p]?=crtO s day) (hd:FitD s.Desk) (hl:s.Ledger.Postings.length≤400) {n:Nat} (hn:n≤s.Desk.Account.Entries.length):
  MFun Tryz.prog row src 26 [.ref p 0 0,iv n] H (CrtC p day H (bookS s n)):=by
 obtain⟨C,hC⟩:∃C,C=CrtC p day H (bookS s n):=⟨_,rfl⟩
 have wit:=crt_wit h (bookS s n)
 have lp:=(gsI h)
 obtain⟨ps,hps⟩:∃ps,ps=postsGo (s.Ledger.Postings.length:Int) [] (s.Desk.Account.Entries.drop n):=⟨_,rfl⟩
 have pl:ps.length≤100000:=by
  have:=postsGo_len (s.Ledger.Postings.length:Int) (s.Desk.Account.Entries.drop n) []
  have:=hd.e
  rw[hps]
  simp at*
  omega
 have po:=cpostings_pf (s.Desk.Account.Entries.drop n) (s.Ledger.Postings.length:Int) (by have:=hd.e;simp;omega) (by omega)
 rw[←hps]at po
 have ie:=imm_ents (s.Desk.Account.Entries.drop n)
 have ip:=imm_posts ps
 have hB:bookS s n=(⟨s.Desk,s.Cash,s.Register,⟨(bookGo s.Ledger.Postings ps).1⟩⟩,(bookGo s.Ledger.Postings ps).2):=by rw[hps];rfl
 have he:=hd.e
 rw[←hC]at wit⊢
 refine mfun_intro Tryz.func26 rfl (by simp[Tryz.f26]) (by kernel_rfl) (wit) ?_
 intro E hP hr hs hN
 simp -dsimp -implicitDefEqProofs [-getElem?_pos,go_sem,hP]
 refine adrawB (fun _=>true) [] hP (by kernel_rfl) (by kernel_rfl) ?_
 simp -dsimp -implicitDefEqProofs [-getElem?_pos,go_sem,hP,h,lp,asliceOp,bound,aslice,encL_len,hn,encL_dropE,encL_takeE]
 refine callB_is (po.lift _ _) hP en_39 (by simp[ie,imm_sc]) ip ?_
 simp -dsimp -implicitDefEqProofs [-getElem?_pos,go_sem,hP]
 obtain⟨S0,hS0⟩:∃S0,S0=s:=⟨_,rfl⟩
 rw[←hS0]at h hB
 obtain⟨L0,hL0⟩:∃L0,L0=S0.Ledger.Postings:=⟨_,rfl⟩
 rw[←hS0,←hL0]at hl
 rw[←hL0]at hB
 obtain⟨I,hI⟩:∃I:Nat→St→Prop,I=fun m s=>∃(k:Nat) (L:List TPosting),k≤ps.length∧m=ps.length-k∧bookGo L0 ps=bookGo L (ps.drop k)∧L.length≤400∧s.t 0= .ref p 0 0∧s.t 25=postsL ps∧s.t 26=iv ps.length∧s.t 27=iv k∧s.H[p]?=crtO ⟨S0.Desk,S0.Cash,S0.Register,⟨L⟩⟩ day∧Kept [p] H s.H:=⟨_,rfl⟩
 refine aloop0 I (ps.length) (by rw[hN];rfl) ?_ ?_
 ·rw[hI]
  exact⟨0,L0,by omega,by omega,by simp,hl,by simp -dsimp[-getElem?_pos,go_sem],by simp -dsimp[-getElem?_pos,go_sem],by simp -dsimp[-getElem?_pos,go_sem],by simp -dsimp[-getElem?_pos,go_sem],by rw[hL0];exact h,kept_refl _ _⟩
 intro m s2 hs'
 rw[hI]at hs'
 obtain⟨k,L,hk,hm,hgo,hL,t0,t25,t26,t27,hp2,kp⟩:=hs'
 have lp2:=(gsI hp2)
 simp -dsimp -implicitDefEqProofs [-getElem?_pos,go_sem,hP,t26,t27]
 refine condP (fun hq=>?_) (fun hq=>?_)
 ·have hk:k<ps.length:=by simpa using hq
  obtain⟨q,hq2⟩:∃q,ps[k]?=some q:=⟨_,List.getElem?_eq_getElem hk⟩
  have wk:=wrap_in ((k:Int)+1) (by omega)
  have hdr:ps.drop k=q::ps.drop (k+1):=by
   obtain⟨h2,h3⟩:=List.getElem?_eq_some_iff.1 hq2
   rw[List.drop_eq_getElem_cons h2,h3]
  rw[hdr,bookGo]at hgo
  have pp:=lpost_pf ⟨L⟩ q (by show L.length≤_;omega)
  rw[cL]at pp
  have pp:PFun Tryz.prog none none 81 [.agg [postsL L],.agg q.cells] (·= .tup [.agg [postsL (postL L q).1],iv (postL L q).2]):=pp
  have fit:=postL_fit (L:=L) (p:=q)
  obtain⟨Ln,e,hpe⟩:∃Ln e,postL L q=(Ln,e):=⟨_,_,rfl⟩
  rw[hpe]at pp hgo fit
  have iL:=imm_posts L
  have iLn:=imm_posts Ln
  have iq:=imm_agg.2 q.imm
  rw[cP]at pp iq
  simp -dsimp -implicitDefEqProofs [-getElem?_pos,go_sem,hP,t25,t27,hq2,cP]
  obtain⟨N,hN0⟩:∃N,N=s2.H.length:=⟨_,rfl⟩
  obtain⟨H1,hH1⟩:∃H1:Heap,H1=s2.H++[some ⟨77,8,[[iv q.Number,iv q.Day,iv q.Entity,iv q.Debit,iv q.Credit,iv q.Amount,iv q.Partner,iv q.Ref]]⟩]:=⟨_,rfl⟩
  have k1:Kept [] s2.H H1:=by rw[hH1];exact kept_push _ (kept_refl _ _)
  have h1':=k1 _ _ (by simp) hp2
  have gN:H1[N]?=some (some ⟨77,8,[[iv q.Number,iv q.Day,iv q.Entity,iv q.Debit,iv q.Credit,iv q.Amount,iv q.Partner,iv q.Ref]]⟩):=by rw[hH1,hN0];simp
  have lp':=(List.getElem?_eq_some_iff.1 h1').1
  have lN:=(gsI gN)
  have kp1:Kept [p] H H1:=kp.trans (k1.mono (by simp))
  rw[←hH1,←hN0]
  clear hH1
  refine adrawQ (fun i=>decide (i<H1.length)) [11] [6] hP (by kernel_rfl) (by kernel_rfl) ?_
  simp -dsimp -implicitDefEqProofs [-getElem?_pos,go_sem,hP,restr_get,t0,h1',gN,lp',lN]
  refine callQ_isQ (pp.lift _ _) hP en_81 (by simp[iL,iq,imm_agg]) ⟨_,rfl,imm_pair (imm_agg.2 (by simpa using iLn)) .sc⟩ ?_
  rintro r rfl _
  simp -dsimp -implicitDefEqProofs [-getElem?_pos,go_sem,hP,restr_get]
  refine⟨agree_push (Nat.le_refl _),?_⟩
  by_cases he:e=0
  ·subst he
   rw[if_pos rfl]at hgo
   simp -dsimp -implicitDefEqProofs [-getElem?_pos,go_sem,hP,t0,h1',lp',List.getElem?_append_left,t27,wk]
   refine⟨ps.length-(k+1),by omega,?_⟩
   rw[hI]
   refine⟨k+1,Ln,by omega,rfl,hgo,fit rfl,by simp -dsimp[-getElem?_pos,go_sem,t0],by simp -dsimp[-getElem?_pos,go_sem,t25],by simp -dsimp[-getElem?_pos,go_sem,t26],by simp -dsimp[-getElem?_pos,go_sem],?_,?_⟩
   ·simp -dsimp -implicitDefEqProofs [-getElem?_pos,go_sem,lp']
   ·exact kept_push _ (kept_set _ (by simp) kp1)
  ·rw[if_neg he]at hgo
   have de:decide (e=0)=false:=decide_eq_false he
   simp -dsimp -implicitDefEqProofs [-getElem?_pos,go_sem,hP,de]
   rw[hC,←hS0,hB,hgo]
   refine⟨rfl,?_,kept_push _ kp1⟩
   rw[List.getElem?_append_left lp']
   exact h1'
 ·have hk:k=ps.length:=by simp at hq;omega
  subst hk
  rw[List.drop_length,bookGo]at hgo
  simp -dsimp -implicitDefEqProofs [-getElem?_pos,go_sem,hP]
  rw[hC,←hS0,hB,hgo]
  exact⟨rfl,hp2,kp⟩
open Go.PA
open Go.RowKit
theorem agree_app2 {H l l':Heap}:Agree (fun i=>decide (i<H.length)) (H++l) (H++l'):=fun i hi=>by
 simp only[decide_eq_true_eq]at hi
 rw[List.getElem?_append_left hi,List.getElem?_append_left hi]
set_option maxHeartbeats 8000000 in
theorem cdo_m {row src:Option Nat} {p:Nat} {H:Heap} {s:TState} {j:Nat} (d:TDeed) (h:H[p]?=crtO s d.Day) (hf:FitS j s) (hj:j<400):
  MFun Tryz.prog row src 25 [.ref p 0 0,.agg d.cells] H (CrtC p d.Day H (doK s d)):=by
 obtain⟨C,hC⟩:∃C,C=CrtC p d.Day H (doK s d):=⟨_,rfl⟩
 have wit:=crt_wit h (doK s d)
 have lp:=(gsI h)
 have idd:=imm_desk s.Desk
 have ir:=imm_reg s.Register
 rw[←hC]at wit⊢
 refine mfun_intro Tryz.func25 rfl (by simp[Tryz.f25]) (by kernel_rfl) (wit) ?_
 intro E hP hr hs hN
 obtain⟨N,hN0⟩:∃N,N=H.length:=⟨_,rfl⟩
 obtain⟨H1,hH1⟩:∃H1:Heap,H1=H++[some ⟨59,7,[[iv d.Kind,iv d.Day,iv d.Sub,iv d.Who,iv d.Ref,iv d.Amount,iv d.Due]]⟩]:=⟨_,rfl⟩
 have k1:Kept [p] H H1:=by rw[hH1];exact kept_push _ (kept_refl _ _)
 have h1:H1[p]?=crtO s d.Day:=by rw[hH1,List.getElem?_append_left lp];exact h
 have gN:H1[N]?=some (some ⟨59,7,[[iv d.Kind,iv d.Day,iv d.Sub,iv d.Who,iv d.Ref,iv d.Amount,iv d.Due]]⟩):=by rw[hH1,hN0];simp
 have lp':=(gsI h1)
 have lN:=(gsI gN)
 have nNp:¬N=p:=by omega
 have dsk:∀(x:TDesk) (e:Int) (H2:Heap),Kept [p] H H2→H2[p]?=crtO s d.Day→MFun Tryz.prog E.row E.src 71 [.ref p 0 0,.agg x.cells,iv e] H2 (fun r H3=>r=iv (deskS s x e).2∧H3[p]?=crtO (deskS s x e).1 d.Day∧Kept [p] H H3):=fun x e H2 kx hx=>(cdesk_m hx x e).mono fun r H3 ⟨a1,a2,a3⟩=>⟨a1,a2,kx.trans a3⟩
 by_cases c1:d.Kind=1
 ·have d1:decide (d.Kind=1)=true:=decide_eq_true c1
  have rc:=creceive_m (row:=E.row) (src:=E.src) d h1 hf.d hf.c hf.cl
  rw[cDeedX]at rc
  have e0:doK s d=receiveS s d:=by rw[doK,if_pos c1]
  simp -dsimp -implicitDefEqProofs [-getElem?_pos,go_sem,hP,cDeedX,d1]
  rw[←hH1,←hN0]
  try simp -dsimp -implicitDefEqProofs [-getElem?_pos,go_sem,hP,gN,lN]
  refine callB_m rc hP en_70 ?_
  rintro q H2 ⟨rfl,h2,k2⟩
  simp -dsimp -implicitDefEqProofs [-getElem?_pos,go_sem,hP]
  rw[hC,e0]
  exact⟨rfl,h2,k1.trans k2⟩
 have n1:decide (d.Kind=1)=false:=decide_eq_false c1
 by_cases c2:d.Kind=2
 ·have d2:decide (d.Kind=2)=true:=decide_eq_true c2
  have od:=rorder_pf s.Desk (payS d) hf.d
  have e0:doK s d=deskS s (orderD s.Desk (payS d)).1 (orderD s.Desk (payS d)).2:=by rw[doK,if_neg c1,if_pos c2]
  obtain⟨x,e,hx⟩:∃x e,orderD s.Desk (payS d)=(x,e):=⟨_,_,rfl⟩
  rw[hx]at od e0
  have ix:=imm_desk x
  have hp:(payS d).cells=[iv d.Ref,iv d.Who,iv d.Amount,iv d.Due,iv d.Sub]:=rfl
  have ds:=dsk x e
  rw[hp]at od
  rw[cDeskX]at od idd ix ds
  rw[cDeskX]at od
  simp -dsimp -implicitDefEqProofs [-getElem?_pos,go_sem,hP,cDeedX,n1,d2]
  rw[←hH1,←hN0]
  try simp -dsimp -implicitDefEqProofs [-getElem?_pos,go_sem,hP,gN,lN]
  refine adrawB (fun _=>true) [20] hP (by kernel_rfl) (by kernel_rfl) ?_
  simp -dsimp -implicitDefEqProofs [-getElem?_pos,go_sem,hP,h1,lp',gN,lN]
  refine callB_is (od.lift _ _) hP en_72 (by simp[idd,imm_agg,imm_sc]) (imm_pair ix .sc) ?_
  simp -dsimp -implicitDefEqProofs [-getElem?_pos,go_sem,hP]
  refine callB_m (ds H1 k1 h1) hP en_71 ?_
  rintro q H3 ⟨rfl,h3,k3⟩
  simp -dsimp -implicitDefEqProofs [-getElem?_pos,go_sem,hP]
  rw[hC,e0]
  exact⟨rfl,h3,k3⟩
 have n2:decide (d.Kind=2)=false:=decide_eq_false c2
 by_cases c3:d.Kind=3
 ·have d3:decide (d.Kind=3)=true:=decide_eq_true c3
  have od:=rsend_pf s.Desk d.Day hf.d
  have e0:doK s d=deskS s (sendD s.Desk d.Day).1 (sendD s.Desk d.Day).2.2:=by rw[doK,if_neg c1,if_neg c2,if_pos c3]
  obtain⟨x,b,e,hx⟩:∃x b e,sendD s.Desk d.Day=(x,b,e):=⟨_,_,_,rfl⟩
  rw[hx]at od e0
  have ix:=imm_desk x
  have ib:Imm (.agg b.cells):=imm_agg.2 b.imm
  have ds:=dsk x e
  have hb:b.cells=[iv b.Number,iv b.Day,paysL b.Payments]:=rfl
  rw[cDeskX]at od idd ix ds
  rw[cDeskX]at od
  rw[hb]at od ib
  simp -dsimp -implicitDefEqProofs [-getElem?_pos,go_sem,hP,cDeedX,n1,n2,d3]
  rw[←hH1,←hN0]
  refine adrawK (fun i=>decide (i<H1.length)) [14,15] [7] 12 hP (by kernel_rfl) (by kernel_rfl) (by simp) ?_
  simp -dsimp -implicitDefEqProofs [-getElem?_pos,go_sem,hP,List.take_succ_cons,List.take_zero,restr_get,h1,lp',gN,lN]
  refine callQ_isQ (od.lift _ _) hP en_73 (by simp[idd,imm_sc]) ⟨_,rfl,imm_trip ix ib .sc⟩ ?_
  rintro r rfl _
  simp -dsimp -implicitDefEqProofs [-getElem?_pos,go_sem,hP,restr_get]
  refine xany_two (i:=12) (j:=13) (by kernel_rfl) rfl rfl ?_ ?_
  ·simp -dsimp -implicitDefEqProofs [-getElem?_pos,go_sem,hP,restr_get]
   refine⟨agree_push (Nat.le_refl _),?_⟩
   refine xany_one (i:=13) (by kernel_rfl) rfl ?_
   simp -dsimp -implicitDefEqProofs [-getElem?_pos,go_sem,hP,restr_get]
   refine⟨agree_app2,?_⟩
   refine xany_one (i:=14) (by kernel_rfl) rfl ?_
   simp -dsimp -implicitDefEqProofs [-getElem?_pos,go_sem,hP,restr_get]
   refine xany_one (i:=15) (by kernel_rfl) rfl ?_
   simp -dsimp -implicitDefEqProofs [-getElem?_pos,go_sem,hP,restr_get]
   refine xany_one (i:=16) (by kernel_rfl) rfl ?_
   simp -dsimp -implicitDefEqProofs [-getElem?_pos,go_sem,hP,restr_get]
   refine xany_nil (by kernel_rfl) ?_
   simp -dsimp -implicitDefEqProofs [-getElem?_pos,go_sem,hP]
   refine callB_m (ds _ (k1.trans (kept_app _ _ _)) (by rw[List.getElem?_append_left lp'];exact h1)) hP en_71 ?_
   rintro q H3 ⟨rfl,h3,k3⟩
   simp -dsimp -implicitDefEqProofs [-getElem?_pos,go_sem,hP]
   rw[hC,e0]
   exact⟨rfl,h3,k3⟩
  ·simp -dsimp -implicitDefEqProofs [-getElem?_pos,go_sem,hP,restr_get]
   refine⟨agree_push (Nat.le_refl _),?_⟩
   refine xany_one (i:=12) (by kernel_rfl) rfl ?_
   simp -dsimp -implicitDefEqProofs [-getElem?_pos,go_sem,hP,restr_get]
   refine⟨agree_app2,?_⟩
   refine xany_one (i:=14) (by kernel_rfl) rfl ?_
   simp -dsimp -implicitDefEqProofs [-getElem?_pos,go_sem,hP,restr_get]
   refine xany_one (i:=15) (by kernel_rfl) rfl ?_
   simp -dsimp -implicitDefEqProofs [-getElem?_pos,go_sem,hP,restr_get]
   refine xany_one (i:=16) (by kernel_rfl) rfl ?_
   simp -dsimp -implicitDefEqProofs [-getElem?_pos,go_sem,hP,restr_get]
   refine xany_nil (by kernel_rfl) ?_
   simp -dsimp -implicitDefEqProofs [-getElem?_pos,go_sem,hP]
   refine callB_m (ds _ (k1.trans (kept_app _ _ _)) (by rw[List.getElem?_append_left lp'];exact h1)) hP en_71 ?_
   rintro q H3 ⟨rfl,h3,k3⟩
   simp -dsimp -implicitDefEqProofs [-getElem?_pos,go_sem,hP]
   rw[hC,e0]
   exact⟨rfl,h3,k3⟩
 have n3:decide (d.Kind=3)=false:=decide_eq_false c3
 by_cases c4:d.Kind=4
 ·have d4:decide (d.Kind=4)=true:=decide_eq_true c4
  have od:=rsettle_pf s.Desk d.Ref hf.d
  have e0:doK s d=deskS s (settleD s.Desk d.Ref).1 (settleD s.Desk d.Ref).2:=by rw[doK,if_neg c1,if_neg c2,if_neg c3,if_pos c4]
  obtain⟨x,e,hx⟩:∃x e,settleD s.Desk d.Ref=(x,e):=⟨_,_,rfl⟩
  rw[hx]at od e0
  have ix:=imm_desk x
  have ds:=dsk x e
  rw[cDeskX]at od idd ix ds
  rw[cDeskX]at od
  simp -dsimp -implicitDefEqProofs [-getElem?_pos,go_sem,hP,cDeedX,n1,n2,n3,d4]
  rw[←hH1,←hN0]
  try simp -dsimp -implicitDefEqProofs [-getElem?_pos,go_sem,hP,gN,lN]
  refine adrawB (fun _=>true) [11] hP (by kernel_rfl) (by kernel_rfl) ?_
  simp -dsimp -implicitDefEqProofs [-getElem?_pos,go_sem,hP,h1,lp',gN,lN]
  refine callB_is (od.lift _ _) hP en_74 (by simp[idd,imm_agg,imm_sc]) (imm_pair ix .sc) ?_
  simp -dsimp -implicitDefEqProofs [-getElem?_pos,go_sem,hP]
  refine callB_m (ds H1 k1 h1) hP en_71 ?_
  rintro q H3 ⟨rfl,h3,k3⟩
  simp -dsimp -implicitDefEqProofs [-getElem?_pos,go_sem,hP]
  rw[hC,e0]
  exact⟨rfl,h3,k3⟩
 have n4:decide (d.Kind=4)=false:=decide_eq_false c4
 by_cases c5:d.Kind=5
 ·have d5:decide (d.Kind=5)=true:=decide_eq_true c5
  have od:=rreturn_pf s.Desk d.Ref d.Day hf.d
  have e0:doK s d=deskS s (returnD s.Desk d.Ref d.Day).1 (returnD s.Desk d.Ref d.Day).2:=by rw[doK,if_neg c1,if_neg c2,if_neg c3,if_neg c4,if_pos c5]
  obtain⟨x,e,hx⟩:∃x e,returnD s.Desk d.Ref d.Day=(x,e):=⟨_,_,rfl⟩
  rw[hx]at od e0
  have ix:=imm_desk x
  have ds:=dsk x e
  rw[cDeskX]at od idd ix ds
  rw[cDeskX]at od
  simp -dsimp -implicitDefEqProofs [-getElem?_pos,go_sem,hP,cDeedX,n1,n2,n3,n4,d5]
  rw[←hH1,←hN0]
  try simp -dsimp -implicitDefEqProofs [-getElem?_pos,go_sem,hP,gN,lN]
  refine adrawB (fun _=>true) [13] hP (by kernel_rfl) (by kernel_rfl) ?_
  simp -dsimp -implicitDefEqProofs [-getElem?_pos,go_sem,hP,h1,lp',gN,lN]
  refine callB_is (od.lift _ _) hP en_75 (by simp[idd,imm_agg,imm_sc]) (imm_pair ix .sc) ?_
  simp -dsimp -implicitDefEqProofs [-getElem?_pos,go_sem,hP]
  refine callB_m (ds H1 k1 h1) hP en_71 ?_
  rintro q H3 ⟨rfl,h3,k3⟩
  simp -dsimp -implicitDefEqProofs [-getElem?_pos,go_sem,hP]
  rw[hC,e0]
  exact⟨rfl,h3,k3⟩
 have n5:decide (d.Kind=5)=false:=decide_eq_false c5
 by_cases c6:d.Kind=6
 ·have d6:decide (d.Kind=6)=true:=decide_eq_true c6
  have od:=rrecall_pf s.Desk d.Ref hf.d
  have e0:doK s d=deskS s (recallD s.Desk d.Ref).1 (recallD s.Desk d.Ref).2:=by rw[doK,if_neg c1,if_neg c2,if_neg c3,if_neg c4,if_neg c5,if_pos c6]
  obtain⟨x,e,hx⟩:∃x e,recallD s.Desk d.Ref=(x,e):=⟨_,_,rfl⟩
  rw[hx]at od e0
  have ix:=imm_desk x
  have ds:=dsk x e
  rw[cDeskX]at od idd ix ds
  rw[cDeskX]at od
  simp -dsimp -implicitDefEqProofs [-getElem?_pos,go_sem,hP,cDeedX,n1,n2,n3,n4,n5,d6]
  rw[←hH1,←hN0]
  try simp -dsimp -implicitDefEqProofs [-getElem?_pos,go_sem,hP,gN,lN]
  refine adrawB (fun _=>true) [11] hP (by kernel_rfl) (by kernel_rfl) ?_
  simp -dsimp -implicitDefEqProofs [-getElem?_pos,go_sem,hP,h1,lp',gN,lN]
  refine callB_is (od.lift _ _) hP en_76 (by simp[idd,imm_agg,imm_sc]) (imm_pair ix .sc) ?_
  simp -dsimp -implicitDefEqProofs [-getElem?_pos,go_sem,hP]
  refine callB_m (ds H1 k1 h1) hP en_71 ?_
  rintro q H3 ⟨rfl,h3,k3⟩
  simp -dsimp -implicitDefEqProofs [-getElem?_pos,go_sem,hP]
  rw[hC,e0]
  exact⟨rfl,h3,k3⟩
 have n6:decide (d.Kind=6)=false:=decide_eq_false c6
 by_cases c7:d.Kind=7
 ·have d7:decide (d.Kind=7)=true:=decide_eq_true c7
  have od:=gissue_pf s.Register (dR s.Register) (issM s d) hf.r (by have:=hf.rm;omega) rfl ⟨rfl,rfl⟩
  have ox:=moveQ_ex s.Register (dR s.Register) (issM s d)
  have e0:doK s d=debtS s (issM s d) (movE s.Register (issM s d)) 0 1 d.Amount:=by rw[doK,if_neg c1,if_neg c2,if_neg c3,if_neg c4,if_neg c5,if_neg c6,if_pos c7]
  have db:=fun (r':TRegister) (hr':movE s.Register (issM s d)=0→r'=moved s.Register (issM s d)) (H2:Heap) (h2:H2[p]?=crtO s d.Day)=>cdebt_m (row:=E.row) (src:=E.src) (issM s d) h2 hf.d r' (movE s.Register (issM s d)) 0 1 d.Amount hr'
  rw[cReg]at od ir
  have od:PFun Tryz.prog none none 77 [.agg [secsL s.Register.Securities,holdsL s.Register.Holdings,movesL s.Register.Moves],iv d.Day,iv d.Ref,iv d.Who,iv d.Amount] (MoveQ s.Register (dR s.Register) (issM s d)):=od
  simp -dsimp -implicitDefEqProofs [-getElem?_pos,go_sem,hP,cDeedX,n1,n2,n3,n4,n5,n6,d7]
  rw[←hH1,←hN0]
  try simp -dsimp -implicitDefEqProofs [-getElem?_pos,go_sem,hP,gN,lN]
  refine adrawQ (fun i=>decide (i<H1.length)) [18] [13] hP (by kernel_rfl) (by kernel_rfl) ?_
  simp -dsimp -implicitDefEqProofs [-getElem?_pos,go_sem,hP,restr_get,h1,lp',gN,lN]
  refine callQ_isQ (od.lift _ _) hP en_77 (by simpa[imm_sc]using ir) ox ?_
  rintro r ⟨r',rfl,hr'⟩ _
  have er:moveE s.Register.Securities s.Register.Holdings (dR s.Register) (issM s d)=movE s.Register (issM s d):=rfl
  rw[er]at hr'⊢
  obtain⟨e,he⟩:∃e,e=movE s.Register (issM s d):=⟨_,rfl⟩
  rw[←he]at hr' db e0⊢
  simp -dsimp -implicitDefEqProofs [-getElem?_pos,go_sem,hP,restr_get,cReg]
  refine⟨agree_push (Nat.le_refl _),?_⟩
  obtain⟨H2,hH2⟩:∃H2:Heap,H2=H1++[some ⟨45,3,[[secsL r'.Securities,holdsL r'.Holdings,movesL r'.Moves]]⟩]:=⟨_,rfl⟩
  have k2:Kept [p] H1 H2:=by rw[hH2];exact kept_push _ (kept_refl _ _)
  have h2:H2[p]?=crtO s d.Day:=by rw[hH2,List.getElem?_append_left lp'];exact h1
  have gN2:H2[N]?=some (some ⟨59,7,[[iv d.Kind,iv d.Day,iv d.Sub,iv d.Who,iv d.Ref,iv d.Amount,iv d.Due]]⟩):=by rw[hH2,List.getElem?_append_left lN];exact gN
  have gR:H2[H1.length]?=some (some ⟨45,3,[[secsL r'.Securities,holdsL r'.Holdings,movesL r'.Moves]]⟩):=by rw[hH2];simp
  have lN2:=(gsI gN2)
  have lR:=(gsI gR)
  have db:=db r' hr' H2 h2
  rw[cReg]at db
  try rw[←hH2]
  try simp -dsimp -implicitDefEqProofs [-getElem?_pos,go_sem,hP,gN2,lN2,gR,lR]
  refine callB_m db hP en_78 ?_
  rintro q H3 ⟨rfl,h3,k3⟩
  simp -dsimp -implicitDefEqProofs [-getElem?_pos,go_sem,hP]
  rw[hC,e0]
  exact⟨rfl,h3,(k1.trans k2).trans k3⟩
 have n7:decide (d.Kind=7)=false:=decide_eq_false c7
 by_cases c8:d.Kind=8
 ·have d8:decide (d.Kind=8)=true:=decide_eq_true c8
  have od:=gredeem_pf s.Register (dR s.Register) (redM s d) hf.r (by have:=hf.rm;omega) rfl ⟨rfl,rfl⟩
  have ox:=moveQ_ex s.Register (dR s.Register) (redM s d)
  have e0:doK s d=debtS s (redM s d) (movE s.Register (redM s d)) 1 0 d.Amount:=by rw[doK,if_neg c1,if_neg c2,if_neg c3,if_neg c4,if_neg c5,if_neg c6,if_neg c7,if_pos c8]
  have db:=fun (r':TRegister) (hr':movE s.Register (redM s d)=0→r'=moved s.Register (redM s d)) (H2:Heap) (h2:H2[p]?=crtO s d.Day)=>cdebt_m (row:=E.row) (src:=E.src) (redM s d) h2 hf.d r' (movE s.Register (redM s d)) 1 0 d.Amount hr'
  rw[cReg]at od ir
  have od:PFun Tryz.prog none none 79 [.agg [secsL s.Register.Securities,holdsL s.Register.Holdings,movesL s.Register.Moves],iv d.Day,iv d.Ref,iv d.Who,iv d.Amount] (MoveQ s.Register (dR s.Register) (redM s d)):=od
  simp -dsimp -implicitDefEqProofs [-getElem?_pos,go_sem,hP,cDeedX,n1,n2,n3,n4,n5,n6,n7,d8]
  rw[←hH1,←hN0]
  try simp -dsimp -implicitDefEqProofs [-getElem?_pos,go_sem,hP,gN,lN]
  refine adrawQ (fun i=>decide (i<H1.length)) [18] [13] hP (by kernel_rfl) (by kernel_rfl) ?_
  simp -dsimp -implicitDefEqProofs [-getElem?_pos,go_sem,hP,restr_get,h1,lp',gN,lN]
  refine callQ_isQ (od.lift _ _) hP en_79 (by simpa[imm_sc]using ir) ox ?_
  rintro r ⟨r',rfl,hr'⟩ _
  have er:moveE s.Register.Securities s.Register.Holdings (dR s.Register) (redM s d)=movE s.Register (redM s d):=rfl
  rw[er]at hr'⊢
  obtain⟨e,he⟩:∃e,e=movE s.Register (redM s d):=⟨_,rfl⟩
  rw[←he]at hr' db e0⊢
  simp -dsimp -implicitDefEqProofs [-getElem?_pos,go_sem,hP,restr_get,cReg]
  refine⟨agree_push (Nat.le_refl _),?_⟩
  obtain⟨H2,hH2⟩:∃H2:Heap,H2=H1++[some ⟨45,3,[[secsL r'.Securities,holdsL r'.Holdings,movesL r'.Moves]]⟩]:=⟨_,rfl⟩
  have k2:Kept [p] H1 H2:=by rw[hH2];exact kept_push _ (kept_refl _ _)
  have h2:H2[p]?=crtO s d.Day:=by rw[hH2,List.getElem?_append_left lp'];exact h1
  have gN2:H2[N]?=some (some ⟨59,7,[[iv d.Kind,iv d.Day,iv d.Sub,iv d.Who,iv d.Ref,iv d.Amount,iv d.Due]]⟩):=by rw[hH2,List.getElem?_append_left lN];exact gN
  have gR:H2[H1.length]?=some (some ⟨45,3,[[secsL r'.Securities,holdsL r'.Holdings,movesL r'.Moves]]⟩):=by rw[hH2];simp
  have lN2:=(gsI gN2)
  have lR:=(gsI gR)
  have db:=db r' hr' H2 h2
  rw[cReg]at db
  try rw[←hH2]
  try simp -dsimp -implicitDefEqProofs [-getElem?_pos,go_sem,hP,gN2,lN2,gR,lR]
  refine callB_m db hP en_78 ?_
  rintro q H3 ⟨rfl,h3,k3⟩
  simp -dsimp -implicitDefEqProofs [-getElem?_pos,go_sem,hP]
  rw[hC,e0]
  exact⟨rfl,h3,(k1.trans k2).trans k3⟩
 have n8:decide (d.Kind=8)=false:=decide_eq_false c8
 by_cases c9:d.Kind=9
 ·have d9:decide (d.Kind=9)=true:=decide_eq_true c9
  have e0:doK s d=if d.Sub=0∨d.Who=0 then (s,60)else moveS s d.Day d.Sub d.Who d.Amount:=by rw[doK,if_neg c1,if_neg c2,if_neg c3,if_neg c4,if_neg c5,if_neg c6,if_neg c7,if_neg c8,if_pos c9]
  have mv:=fun (H2:Heap) (h2:H2[p]?=crtO s d.Day)=>cmove_m (row:=E.row) (src:=E.src) h2 hf.d d.Sub d.Who d.Amount
  by_cases s1:d.Sub=0
  ·have b1:decide (d.Sub=0)=true:=decide_eq_true s1
   rw[if_pos (.inl s1)]at e0
   simp -dsimp -implicitDefEqProofs [-getElem?_pos,go_sem,hP,cDeedX,n1,n2,n3,n4,n5,n6,n7,n8,d9,b1]
   rw[hC,e0]
   rw[hH1]at h1 k1
   exact⟨rfl,h1,k1⟩
  have b1:decide (d.Sub=0)=false:=decide_eq_false s1
  by_cases s2:d.Who=0
  ·have b2:decide (d.Who=0)=true:=decide_eq_true s2
   rw[if_pos (.inr s2)]at e0
   simp -dsimp -implicitDefEqProofs [-getElem?_pos,go_sem,hP,cDeedX,n1,n2,n3,n4,n5,n6,n7,n8,d9,b1,b2]
   rw[hC,e0]
   rw[hH1]at h1 k1
   exact⟨rfl,h1,k1⟩
  have b2:decide (d.Who=0)=false:=decide_eq_false s2
  rw[if_neg (fun h=>h.elim s1 s2)]at e0
  simp -dsimp -implicitDefEqProofs [-getElem?_pos,go_sem,hP,cDeedX,n1,n2,n3,n4,n5,n6,n7,n8,d9,b1,b2]
  rw[←hH1]
  refine callB_m (mv H1 h1) hP en_80 ?_
  rintro q H3 ⟨rfl,h3,k3⟩
  simp -dsimp -implicitDefEqProofs [-getElem?_pos,go_sem,hP]
  rw[hC,e0]
  exact⟨rfl,h3,k1.trans k3⟩
 have n9:decide (d.Kind=9)=false:=decide_eq_false c9
 have e0:doK s d=(s,91):=by rw[doK,if_neg c1,if_neg c2,if_neg c3,if_neg c4,if_neg c5,if_neg c6,if_neg c7,if_neg c8,if_neg c9]
 simp -dsimp -implicitDefEqProofs [-getElem?_pos,go_sem,hP,cDeedX,n1,n2,n3,n4,n5,n6,n7,n8,n9]
 rw[hC,e0]
 rw[hH1]at h1 k1
 exact⟨rfl,h1,k1⟩
open Go.PA
open Go.RowKit
theorem clone_pf_subC (l:List TSub) (hl:l.length≤1000000):PFun Tryz.prog none none 61 [.list 2 (encL TSub.cells l)] (·= .list 2 (encL TSub.cells l)):=by
 cases l with
 |nil=>
  refine pfun_list_nil fun A c=>?_
  refine pfun_intro Tryz.func61 rfl (by simp[Tryz.f61]) (by kernel_rfl) ?_
  intro E hP hr hs hW hN
  cases A with
  |none=>
   simp -dsimp -implicitDefEqProofs [-getElem?_pos,go_sem,hP]
   exact done_weak .nil (imm_list.2 (by simp)) (.nil _) rfl
  |some a=>
   simp -dsimp -implicitDefEqProofs [-getElem?_pos,go_sem,hP]
   refine done_weak (x:= .list 2 []) ?_ (imm_list.2 (by simp)) ?_ rfl
   ·simp -dsimp -implicitDefEqProofs [-getElem?_pos,go_sem]
   ·simp -dsimp -implicitDefEqProofs [-getElem?_pos,go_sem]
    first|exact .refl _|skip
 |cons a l=>
  refine pfun_intro Tryz.func61 rfl (by simp[Tryz.f61]) (by kernel_rfl) ?_
  intro E hP hr hs hW hN
  simp only[List.length_cons]at hl
  have e:encL TSub.cells (a::l)=TSub.cells a::encL TSub.cells l:=rfl
  have im:Imm (.list 2 (TSub.cells a::encL TSub.cells l)):=by rw[←e];exact imm_encL _ TSub.imm _
  have et:(TSub.cells a::encL TSub.cells l).take (l.length+1)=TSub.cells a::encL TSub.cells l:=by
   rw[←e]
   exact encL_take TSub.cells (a::l) _ (by simp)
  simp -dsimp -implicitDefEqProofs [-getElem?_pos,go_sem,hP,e]
  refine⟨by omega,by omega,?_⟩
  refine done_weak (x:= .list 2 (TSub.cells a::encL TSub.cells l)) ?_ im ?_ rfl
  ·simp -dsimp -implicitDefEqProofs [-getElem?_pos,go_sem]
   first|exact im|(have h:=imm_list.1 im;simp only[List.mem_cons,forall_eq_or_imp]at h;exact h)
  ·simp -dsimp -implicitDefEqProofs [-getElem?_pos,go_sem]
   first|exact .refl _|skip
theorem clone_pf_entC (l:List TEntry) (hl:l.length≤1000000):PFun Tryz.prog none none 62 [.list 6 (encL TEntry.cells l)] (·= .list 6 (encL TEntry.cells l)):=by
 cases l with
 |nil=>
  refine pfun_list_nil fun A c=>?_
  refine pfun_intro Tryz.func62 rfl (by simp[Tryz.f62]) (by kernel_rfl) ?_
  intro E hP hr hs hW hN
  cases A with
  |none=>
   simp -dsimp -implicitDefEqProofs [-getElem?_pos,go_sem,hP]
   exact done_weak .nil (imm_list.2 (by simp)) (.nil _) rfl
  |some a=>
   simp -dsimp -implicitDefEqProofs [-getElem?_pos,go_sem,hP]
   refine done_weak (x:= .list 6 []) ?_ (imm_list.2 (by simp)) ?_ rfl
   ·simp -dsimp -implicitDefEqProofs [-getElem?_pos,go_sem]
   ·simp -dsimp -implicitDefEqProofs [-getElem?_pos,go_sem]
    first|exact .refl _|skip
 |cons a l=>
  refine pfun_intro Tryz.func62 rfl (by simp[Tryz.f62]) (by kernel_rfl) ?_
  intro E hP hr hs hW hN
  simp only[List.length_cons]at hl
  have e:encL TEntry.cells (a::l)=TEntry.cells a::encL TEntry.cells l:=rfl
  have im:Imm (.list 6 (TEntry.cells a::encL TEntry.cells l)):=by rw[←e];exact imm_encL _ TEntry.imm _
  have et:(TEntry.cells a::encL TEntry.cells l).take (l.length+1)=TEntry.cells a::encL TEntry.cells l:=by
   rw[←e]
   exact encL_take TEntry.cells (a::l) _ (by simp)
  simp -dsimp -implicitDefEqProofs [-getElem?_pos,go_sem,hP,e]
  refine⟨by omega,by omega,?_⟩
  refine done_weak (x:= .list 6 (TEntry.cells a::encL TEntry.cells l)) ?_ im ?_ rfl
  ·simp -dsimp -implicitDefEqProofs [-getElem?_pos,go_sem]
   first|exact im|(have h:=imm_list.1 im;simp only[List.mem_cons,forall_eq_or_imp]at h;exact h)
  ·simp -dsimp -implicitDefEqProofs [-getElem?_pos,go_sem]
   first|exact .refl _|skip
theorem clone_pf_payC (l:List TPayment) (hl:l.length≤1000000):PFun Tryz.prog none none 63 [.list 5 (encL TPayment.cells l)] (·= .list 5 (encL TPayment.cells l)):=by
 cases l with
 |nil=>
  refine pfun_list_nil fun A c=>?_
  refine pfun_intro Tryz.func63 rfl (by simp[Tryz.f63]) (by kernel_rfl) ?_
  intro E hP hr hs hW hN
  cases A with
  |none=>
   simp -dsimp -implicitDefEqProofs [-getElem?_pos,go_sem,hP]
   exact done_weak .nil (imm_list.2 (by simp)) (.nil _) rfl
  |some a=>
   simp -dsimp -implicitDefEqProofs [-getElem?_pos,go_sem,hP]
   refine done_weak (x:= .list 5 []) ?_ (imm_list.2 (by simp)) ?_ rfl
   ·simp -dsimp -implicitDefEqProofs [-getElem?_pos,go_sem]
   ·simp -dsimp -implicitDefEqProofs [-getElem?_pos,go_sem]
    first|exact .refl _|skip
 |cons a l=>
  refine pfun_intro Tryz.func63 rfl (by simp[Tryz.f63]) (by kernel_rfl) ?_
  intro E hP hr hs hW hN
  simp only[List.length_cons]at hl
  have e:encL TPayment.cells (a::l)=TPayment.cells a::encL TPayment.cells l:=rfl
  have im:Imm (.list 5 (TPayment.cells a::encL TPayment.cells l)):=by rw[←e];exact imm_encL _ TPayment.imm _
  have et:(TPayment.cells a::encL TPayment.cells l).take (l.length+1)=TPayment.cells a::encL TPayment.cells l:=by
   rw[←e]
   exact encL_take TPayment.cells (a::l) _ (by simp)
  simp -dsimp -implicitDefEqProofs [-getElem?_pos,go_sem,hP,e]
  refine⟨by omega,by omega,?_⟩
  refine done_weak (x:= .list 5 (TPayment.cells a::encL TPayment.cells l)) ?_ im ?_ rfl
  ·simp -dsimp -implicitDefEqProofs [-getElem?_pos,go_sem]
   first|exact im|(have h:=imm_list.1 im;simp only[List.mem_cons,forall_eq_or_imp]at h;exact h)
  ·simp -dsimp -implicitDefEqProofs [-getElem?_pos,go_sem]
   first|exact .refl _|skip
theorem clone_pf_itmC (l:List TItem) (hl:l.length≤1000000):PFun Tryz.prog none none 65 [.list 7 (encL TItem.cells l)] (·= .list 7 (encL TItem.cells l)):=by
 cases l with
 |nil=>
  refine pfun_list_nil fun A c=>?_
  refine pfun_intro Tryz.func65 rfl (by simp[Tryz.f65]) (by kernel_rfl) ?_
  intro E hP hr hs hW hN
  cases A with
  |none=>
   simp -dsimp -implicitDefEqProofs [-getElem?_pos,go_sem,hP]
   exact done_weak .nil (imm_list.2 (by simp)) (.nil _) rfl
  |some a=>
   simp -dsimp -implicitDefEqProofs [-getElem?_pos,go_sem,hP]
   refine done_weak (x:= .list 7 []) ?_ (imm_list.2 (by simp)) ?_ rfl
   ·simp -dsimp -implicitDefEqProofs [-getElem?_pos,go_sem]
   ·simp -dsimp -implicitDefEqProofs [-getElem?_pos,go_sem]
    first|exact .refl _|skip
 |cons a l=>
  refine pfun_intro Tryz.func65 rfl (by simp[Tryz.f65]) (by kernel_rfl) ?_
  intro E hP hr hs hW hN
  simp only[List.length_cons]at hl
  have e:encL TItem.cells (a::l)=TItem.cells a::encL TItem.cells l:=rfl
  have im:Imm (.list 7 (TItem.cells a::encL TItem.cells l)):=by rw[←e];exact imm_encL _ TItem.imm _
  have et:(TItem.cells a::encL TItem.cells l).take (l.length+1)=TItem.cells a::encL TItem.cells l:=by
   rw[←e]
   exact encL_take TItem.cells (a::l) _ (by simp)
  simp -dsimp -implicitDefEqProofs [-getElem?_pos,go_sem,hP,e]
  refine⟨by omega,by omega,?_⟩
  refine done_weak (x:= .list 7 (TItem.cells a::encL TItem.cells l)) ?_ im ?_ rfl
  ·simp -dsimp -implicitDefEqProofs [-getElem?_pos,go_sem]
   first|exact im|(have h:=imm_list.1 im;simp only[List.mem_cons,forall_eq_or_imp]at h;exact h)
  ·simp -dsimp -implicitDefEqProofs [-getElem?_pos,go_sem]
   first|exact .refl _|skip
theorem clone_pf_clmC (l:List TClaim) (hl:l.length≤1000000):PFun Tryz.prog none none 66 [.list 6 (encL TClaim.cells l)] (·= .list 6 (encL TClaim.cells l)):=by
 cases l with
 |nil=>
  refine pfun_list_nil fun A c=>?_
  refine pfun_intro Tryz.func66 rfl (by simp[Tryz.f66]) (by kernel_rfl) ?_
  intro E hP hr hs hW hN
  cases A with
  |none=>
   simp -dsimp -implicitDefEqProofs [-getElem?_pos,go_sem,hP]
   exact done_weak .nil (imm_list.2 (by simp)) (.nil _) rfl
  |some a=>
   simp -dsimp -implicitDefEqProofs [-getElem?_pos,go_sem,hP]
   refine done_weak (x:= .list 6 []) ?_ (imm_list.2 (by simp)) ?_ rfl
   ·simp -dsimp -implicitDefEqProofs [-getElem?_pos,go_sem]
   ·simp -dsimp -implicitDefEqProofs [-getElem?_pos,go_sem]
    first|exact .refl _|skip
 |cons a l=>
  refine pfun_intro Tryz.func66 rfl (by simp[Tryz.f66]) (by kernel_rfl) ?_
  intro E hP hr hs hW hN
  simp only[List.length_cons]at hl
  have e:encL TClaim.cells (a::l)=TClaim.cells a::encL TClaim.cells l:=rfl
  have im:Imm (.list 6 (TClaim.cells a::encL TClaim.cells l)):=by rw[←e];exact imm_encL _ TClaim.imm _
  have et:(TClaim.cells a::encL TClaim.cells l).take (l.length+1)=TClaim.cells a::encL TClaim.cells l:=by
   rw[←e]
   exact encL_take TClaim.cells (a::l) _ (by simp)
  simp -dsimp -implicitDefEqProofs [-getElem?_pos,go_sem,hP,e]
  refine⟨by omega,by omega,?_⟩
  refine done_weak (x:= .list 6 (TClaim.cells a::encL TClaim.cells l)) ?_ im ?_ rfl
  ·simp -dsimp -implicitDefEqProofs [-getElem?_pos,go_sem]
   first|exact im|(have h:=imm_list.1 im;simp only[List.mem_cons,forall_eq_or_imp]at h;exact h)
  ·simp -dsimp -implicitDefEqProofs [-getElem?_pos,go_sem]
   first|exact .refl _|skip
theorem clone_pf_incC (l:List TIncome) (hl:l.length≤1000000):PFun Tryz.prog none none 67 [.list 5 (encL TIncome.cells l)] (·= .list 5 (encL TIncome.cells l)):=by
 cases l with
 |nil=>
  refine pfun_list_nil fun A c=>?_
  refine pfun_intro Tryz.func67 rfl (by simp[Tryz.f67]) (by kernel_rfl) ?_
  intro E hP hr hs hW hN
  cases A with
  |none=>
   simp -dsimp -implicitDefEqProofs [-getElem?_pos,go_sem,hP]
   exact done_weak .nil (imm_list.2 (by simp)) (.nil _) rfl
  |some a=>
   simp -dsimp -implicitDefEqProofs [-getElem?_pos,go_sem,hP]
   refine done_weak (x:= .list 5 []) ?_ (imm_list.2 (by simp)) ?_ rfl
   ·simp -dsimp -implicitDefEqProofs [-getElem?_pos,go_sem]
   ·simp -dsimp -implicitDefEqProofs [-getElem?_pos,go_sem]
    first|exact .refl _|skip
 |cons a l=>
  refine pfun_intro Tryz.func67 rfl (by simp[Tryz.f67]) (by kernel_rfl) ?_
  intro E hP hr hs hW hN
  simp only[List.length_cons]at hl
  have e:encL TIncome.cells (a::l)=TIncome.cells a::encL TIncome.cells l:=rfl
  have im:Imm (.list 5 (TIncome.cells a::encL TIncome.cells l)):=by rw[←e];exact imm_encL _ TIncome.imm _
  have et:(TIncome.cells a::encL TIncome.cells l).take (l.length+1)=TIncome.cells a::encL TIncome.cells l:=by
   rw[←e]
   exact encL_take TIncome.cells (a::l) _ (by simp)
  simp -dsimp -implicitDefEqProofs [-getElem?_pos,go_sem,hP,e]
  refine⟨by omega,by omega,?_⟩
  refine done_weak (x:= .list 5 (TIncome.cells a::encL TIncome.cells l)) ?_ im ?_ rfl
  ·simp -dsimp -implicitDefEqProofs [-getElem?_pos,go_sem]
   first|exact im|(have h:=imm_list.1 im;simp only[List.mem_cons,forall_eq_or_imp]at h;exact h)
  ·simp -dsimp -implicitDefEqProofs [-getElem?_pos,go_sem]
   first|exact .refl _|skip
theorem clone_pf_mtcC (l:List TMatch) (hl:l.length≤1000000):PFun Tryz.prog none none 68 [.list 3 (encL TMatch.cells l)] (·= .list 3 (encL TMatch.cells l)):=by
 cases l with
 |nil=>
  refine pfun_list_nil fun A c=>?_
  refine pfun_intro Tryz.func68 rfl (by simp[Tryz.f68]) (by kernel_rfl) ?_
  intro E hP hr hs hW hN
  cases A with
  |none=>
   simp -dsimp -implicitDefEqProofs [-getElem?_pos,go_sem,hP]
   exact done_weak .nil (imm_list.2 (by simp)) (.nil _) rfl
  |some a=>
   simp -dsimp -implicitDefEqProofs [-getElem?_pos,go_sem,hP]
   refine done_weak (x:= .list 3 []) ?_ (imm_list.2 (by simp)) ?_ rfl
   ·simp -dsimp -implicitDefEqProofs [-getElem?_pos,go_sem]
   ·simp -dsimp -implicitDefEqProofs [-getElem?_pos,go_sem]
    first|exact .refl _|skip
 |cons a l=>
  refine pfun_intro Tryz.func68 rfl (by simp[Tryz.f68]) (by kernel_rfl) ?_
  intro E hP hr hs hW hN
  simp only[List.length_cons]at hl
  have e:encL TMatch.cells (a::l)=TMatch.cells a::encL TMatch.cells l:=rfl
  have im:Imm (.list 3 (TMatch.cells a::encL TMatch.cells l)):=by rw[←e];exact imm_encL _ TMatch.imm _
  have et:(TMatch.cells a::encL TMatch.cells l).take (l.length+1)=TMatch.cells a::encL TMatch.cells l:=by
   rw[←e]
   exact encL_take TMatch.cells (a::l) _ (by simp)
  simp -dsimp -implicitDefEqProofs [-getElem?_pos,go_sem,hP,e]
  refine⟨by omega,by omega,?_⟩
  refine done_weak (x:= .list 3 (TMatch.cells a::encL TMatch.cells l)) ?_ im ?_ rfl
  ·simp -dsimp -implicitDefEqProofs [-getElem?_pos,go_sem]
   first|exact im|(have h:=imm_list.1 im;simp only[List.mem_cons,forall_eq_or_imp]at h;exact h)
  ·simp -dsimp -implicitDefEqProofs [-getElem?_pos,go_sem]
   first|exact .refl _|skip
theorem Int.imm (n:Int) (c:AV) (h:c∈encI n):Imm c:=by
 simp[encI]at h
 subst h
 exact .sc
theorem clone_pf_intC (l:List Int) (hl:l.length≤1000000):PFun Tryz.prog none none 64 [.list 1 (encL encI l)] (·= .list 1 (encL encI l)):=by
 cases l with
 |nil=>
  refine pfun_list_nil fun A c=>?_
  refine pfun_intro Tryz.func64 rfl (by simp[Tryz.f64]) (by kernel_rfl) ?_
  intro E hP hr hs hW hN
  cases A with
  |none=>
   simp -dsimp -implicitDefEqProofs [-getElem?_pos,go_sem,hP]
   exact done_weak .nil (imm_list.2 (by simp)) (.nil _) rfl
  |some a=>
   simp -dsimp -implicitDefEqProofs [-getElem?_pos,go_sem,hP]
   refine done_weak (x:= .list 1 []) ?_ (imm_list.2 (by simp)) ?_ rfl
   ·simp -dsimp -implicitDefEqProofs [-getElem?_pos,go_sem]
   ·simp -dsimp -implicitDefEqProofs [-getElem?_pos,go_sem]
    first|exact .refl _|skip
 |cons a l=>
  refine pfun_intro Tryz.func64 rfl (by simp[Tryz.f64]) (by kernel_rfl) ?_
  intro E hP hr hs hW hN
  simp only[List.length_cons]at hl
  have e:encL encI (a::l)=encI a::encL encI l:=rfl
  have im:Imm (.list 1 (encI a::encL encI l)):=by rw[←e];exact imm_encL _ Int.imm _
  have et:(encI a::encL encI l).take (l.length+1)=encI a::encL encI l:=by
   rw[←e]
   exact encL_take encI (a::l) _ (by simp)
  simp -dsimp -implicitDefEqProofs [-getElem?_pos,go_sem,hP,e]
  refine⟨by omega,by omega,?_⟩
  refine done_weak (x:= .list 1 (encI a::encL encI l)) ?_ im ?_ rfl
  ·simp -dsimp -implicitDefEqProofs [-getElem?_pos,go_sem]
   first|exact im|(have h:=imm_list.1 im;simp only[List.mem_cons,forall_eq_or_imp]at h;exact h)
  ·simp -dsimp -implicitDefEqProofs [-getElem?_pos,go_sem]
   first|exact .refl _|skip
theorem gcopyC_pf (r:TRegister) (h1:r.Securities.length≤100000) (h2:r.Holdings.length≤100000) (h3:r.Moves.length≤100000):PFun Tryz.prog none none 57 [.agg r.cells] (·= .agg r.cells):=
 pfun_of_mfun_agg (gcopy_m r [] h1 h2 h3) (imm_reg r) fun x H' hc=>by
  obtain⟨i1,i2,i3,rfl,hrc,_⟩:=hc
  exact⟨_,rfl,hrc.cw⟩
theorem done_of {H:Heap} {r x:AV} {Q:AV→Prop} {b:Bx Q} (hi:Imm x) (hq:Q x) (hv:view H r=x):Done H r Q b:=done (by rw[hv];exact hi) hq hv
theorem setC_self {H:Heap} {id:Nat} {o:Option AObj} (ho:H[id]?=some o):H.set id o=H:=by
 apply List.ext_getElem?
 intro j
 rw[List.getElem?_set]
 split
 ·rename_i e
  subst e
  rw[ho,if_pos (gsI ho)]
 ·rfl
set_option maxHeartbeats 8000000 in
theorem ccopied_pf {z:TState} {j:Nat} (hf:FitS j z) (hj:j<400):PFun Tryz.prog none none 24 [.agg z.cells] (·= .agg z.cells):=by
 have q1:=clone_pf_subC z.Desk.Account.Subs (by have:=hf.d.s;omega)
 have q2:=clone_pf_entC z.Desk.Account.Entries (by have:=hf.d.e;omega)
 have q3:=clone_pf_payC z.Desk.Queue.Waiting (by have:=hf.d.q.w;omega)
 have q4:=clone_pf_intC z.Desk.Queue.Known (by have:=hf.d.q.k;omega)
 have q6:=clone_pf_itmC z.Desk.Items (by have:=hf.d.i;omega)
 have q7:=clone_pf_clmC z.Cash.Claims (by have:=hf.fc.fc;omega)
 have q8:=clone_pf_incC z.Cash.Incomes (by have:=hf.fc.fi;omega)
 have q9:=clone_pf_mtcC z.Cash.Matches (by have:=hf.fc.fm;omega)
 have qa:=clone_pf_intC z.Cash.Loose (by have:=hf.fc.fl;omega)
 have qb:=gcopyC_pf z.Register (by have:=hf.r.slen;omega) (by have:=hf.r.hl.len;have:=hf.rm;omega) (by have:=hf.rm;omega)
 have qc:=clone_pf_posting z.Ledger.Postings (by have:=hf.l;omega)
 have i1:=imm_subs z.Desk.Account.Subs
 have i2:=imm_ents z.Desk.Account.Entries
 have i3:=imm_pays z.Desk.Queue.Waiting
 have i4:Imm (.list 1 (encL encI z.Desk.Queue.Known)):=imm_encL _ Int.imm _
 have i6:=imm_items z.Desk.Items
 have i7:=imm_claims z.Cash.Claims
 have i8:=imm_incomes z.Cash.Incomes
 have i9:=imm_matches z.Cash.Matches
 have ia:Imm (.list 1 (encL encI z.Cash.Loose)):=imm_encL _ Int.imm _
 have ib:=imm_reg z.Register
 have ic:=imm_posts z.Ledger.Postings
 have ist:=imm_st z
 rw[cReg]at qb ib
 rw[cStX]at ist⊢
 refine pfun_intro Tryz.func24 rfl (by simp[Tryz.f24]) (by kernel_rfl) ?_
 intro E hP hr hs hW hN
 simp -dsimp -implicitDefEqProofs [-getElem?_pos,go_sem,hP]
 refine adrawB (fun _=>true) [14,17] hP (by kernel_rfl) (by kernel_rfl) ?_
 simp -dsimp -implicitDefEqProofs [-getElem?_pos,go_sem,hP]
 refine callB_is (q1.lift _ _) hP en_61 (by simpa using i1) i1 ?_
 simp -dsimp -implicitDefEqProofs [-getElem?_pos,go_sem,hP]
 refine callB_is (q2.lift _ _) hP en_62 (by simpa using i2) i2 ?_
 simp -dsimp -implicitDefEqProofs [-getElem?_pos,go_sem,hP]
 refine adrawB (fun _=>true) [14,17] hP (by kernel_rfl) (by kernel_rfl) ?_
 simp -dsimp -implicitDefEqProofs [-getElem?_pos,go_sem,hP]
 refine callB_is (q3.lift _ _) hP en_63 (by simpa using i3) i3 ?_
 simp -dsimp -implicitDefEqProofs [-getElem?_pos,go_sem,hP]
 refine callB_is (q4.lift _ _) hP en_64 (by simpa using i4) i4 ?_
 simp -dsimp -implicitDefEqProofs [-getElem?_pos,go_sem,hP]
 refine aloop_owncell (o:=0) (ty:=50) (k:=15) (cs:=[iv z.Desk.Account.Credit,subsL z.Desk.Account.Subs,entsL z.Desk.Account.Entries,paysL z.Desk.Queue.Waiting,.list 1 (encL encI z.Desk.Queue.Known),.nil,itemsL z.Desk.Items,claimsL z.Cash.Claims,incomesL z.Cash.Incomes,matchesL z.Cash.Matches,.list 1 (encL encI z.Cash.Loose),secsL z.Register.Securities,holdsL z.Register.Holdings,movesL z.Register.Moves,postsL z.Ledger.Postings]) 5 140 3 (by simp) (by decide) (by simp) rfl ?_
 obtain⟨bs,hbs⟩:∃bs,bs=z.Desk.Queue.Batches:=⟨_,rfl⟩
 have hbl:=hf.d.q.b
 have hbe:=hf.d.q.each
 rw[←hbs]at hbl hbe⊢
 obtain⟨I,hI⟩:∃I:Nat→St→Prop,I=fun m s=>∃k id:Nat,k≤bs.length∧m=bs.length-k∧2≤id∧s.t 1= .ref 0 0 0∧s.t 2= .ref 1 0 0∧s.t 4= .ref 0 0 3∧s.t 52=batsL bs∧s.t 53=iv bs.length∧s.t 54=iv k∧s.H[0]?=some (some ⟨50,15,[[iv z.Desk.Account.Credit,subsL z.Desk.Account.Subs,entsL z.Desk.Account.Entries,paysL z.Desk.Queue.Waiting,.list 1 (encL encI z.Desk.Queue.Known),.sref id 0 k,itemsL z.Desk.Items,claimsL z.Cash.Claims,incomesL z.Cash.Incomes,matchesL z.Cash.Matches,.list 1 (encL encI z.Cash.Loose),secsL z.Register.Securities,holdsL z.Register.Holdings,movesL z.Register.Moves,postsL z.Ledger.Postings]]⟩)∧s.H[1]?=some (some ⟨50,15,[[iv 0,.nil,.nil,.nil,.nil,.nil,.nil,.nil,.nil,.nil,.nil,.nil,.nil,.nil,.nil]]⟩)∧s.H[id]?=some (some ⟨140,3,encL TBatch.cells (bs.take k)⟩):=⟨_,rfl⟩
 refine aloop0 I (bs.length) (by rw[hN];rfl) ?_ ?_
 ·rw[hI]
  refine⟨0,2,by omega,by omega,by omega,by simp -dsimp[-getElem?_pos,go_sem],by simp -dsimp[-getElem?_pos,go_sem],by simp -dsimp[-getElem?_pos,go_sem],by simp -dsimp[-getElem?_pos,go_sem],by simp -dsimp[-getElem?_pos,go_sem],by simp -dsimp[-getElem?_pos,go_sem],?_,by simp -dsimp[-getElem?_pos,go_sem],by simp -dsimp[-getElem?_pos,go_sem,encL]⟩
  simp -dsimp -implicitDefEqProofs [-getElem?_pos,go_sem]
 intro m s hs'
 rw[hI]at hs'
 obtain⟨k,id,hk,hm,hid,t1,t2,t4,t52,t53,t54,g0,g1,gi⟩:=hs'
 have l0:=(gsI g0)
 have l1:=(gsI g1)
 have li:=(gsI gi)
 simp -dsimp -implicitDefEqProofs [-getElem?_pos,go_sem,hP,t53,t54]
 refine condP (fun hq=>?_) (fun hq=>?_)
 ·have hk:k<bs.length:=by simpa using hq
  obtain⟨b,hb⟩:∃b,bs[k]?=some b:=⟨_,List.getElem?_eq_getElem hk⟩
  have wk:=wrap_in ((k:Int)+1) (by omega)
  have hbp:=hbe b (List.mem_of_getElem? hb)
  have qp:=clone_pf_payC b.Payments (by omega)
  have ip:=imm_pays b.Payments
  have e1:bs.take (k+1)=bs.take k++[b]:=by rw[List.take_add_one,hb];rfl
  have hcb:b.cells=[iv b.Number,iv b.Day,paysL b.Payments]:=rfl
  have tl:(bs.take k).length=k:=by simp;omega
  obtain⟨bt,hbt⟩:∃bt,bt=bs.take k:=⟨_,rfl⟩
  rw[←hbt]at gi e1 tl
  simp -dsimp -implicitDefEqProofs [-getElem?_pos,go_sem,hP,t52,t54,hb,hcb]
  obtain⟨N,hN0⟩:∃N,N=s.H.length:=⟨_,rfl⟩
  obtain⟨H1,hH1⟩:∃H1:Heap,H1=s.H++[some ⟨140,3,[[iv b.Number,iv b.Day,paysL b.Payments]]⟩]:=⟨_,rfl⟩
  have k1:Kept [] s.H H1:=by rw[hH1];exact kept_push _ (kept_refl _ _)
  have gN:H1[N]?=some (some ⟨140,3,[[iv b.Number,iv b.Day,paysL b.Payments]]⟩):=by rw[hH1,hN0];simp
  have sN:H1.set N (some ⟨140,3,[[iv b.Number,iv b.Day,paysL b.Payments]]⟩)=H1:=setC_self gN
  have g0:=k1 _ _ (by simp) g0
  have g1:=k1 _ _ (by simp) g1
  have gi:=k1 _ _ (by simp) gi
  have lN:=(gsI gN)
  have l0':=(gsI g0)
  have l1':=(gsI g1)
  rw[←hH1,←hN0]
  clear hH1 k1
  refine callB_is (qp.lift _ _) hP en_63 (by simpa using ip) ip ?_
  have i0:¬id=0:=by omega
  have i1:¬id=1:=by omega
  have hp2:(H1.set id none)[0]?=some (some ⟨50,15,[[iv z.Desk.Account.Credit,subsL z.Desk.Account.Subs,entsL z.Desk.Account.Entries,paysL z.Desk.Queue.Waiting,.list 1 (encL encI z.Desk.Queue.Known),.sref id 0 k,itemsL z.Desk.Items,claimsL z.Cash.Claims,incomesL z.Cash.Incomes,matchesL z.Cash.Matches,.list 1 (encL encI z.Cash.Loose),secsL z.Register.Securities,holdsL z.Register.Holdings,movesL z.Register.Moves,postsL z.Ledger.Postings]]⟩):=by rw[List.getElem?_set_ne i0];exact g0
  have hp3:∀x:Option AObj,(H1.set id none++[x])[0]?=some (some ⟨50,15,[[iv z.Desk.Account.Credit,subsL z.Desk.Account.Subs,entsL z.Desk.Account.Entries,paysL z.Desk.Queue.Waiting,.list 1 (encL encI z.Desk.Queue.Known),.sref id 0 k,itemsL z.Desk.Items,claimsL z.Cash.Claims,incomesL z.Cash.Incomes,matchesL z.Cash.Matches,.list 1 (encL encI z.Cash.Loose),secsL z.Register.Securities,holdsL z.Register.Holdings,movesL z.Register.Moves,postsL z.Ledger.Postings]]⟩):=fun x=>by rw[List.getElem?_append_left (by simpa using l0')];exact hp2
  simp -dsimp -implicitDefEqProofs [-getElem?_pos,go_sem,hP,gN,lN,sN]
  refine adrawB (fun _=>true) [7,10] hP (by kernel_rfl) (by kernel_rfl) ?_
  simp -dsimp -implicitDefEqProofs [-getElem?_pos,go_sem,hP,t4,g0,l0',gN,lN,gi,tl,encL_len]
  refine⟨by omega,by omega,?_⟩
  simp -dsimp -implicitDefEqProofs [-getElem?_pos,go_sem,hP,hp2,hp3,l0',t4,t54,wk]
  refine⟨bs.length-(k+1),by omega,?_⟩
  rw[hI]
  refine⟨k+1,H1.length,by omega,rfl,by omega,by simp -dsimp[-getElem?_pos,go_sem,t1],by simp -dsimp[-getElem?_pos,go_sem,t2],by simp -dsimp[-getElem?_pos,go_sem,t4],by simp -dsimp[-getElem?_pos,go_sem,t52],by simp -dsimp[-getElem?_pos,go_sem,t53],by simp -dsimp[-getElem?_pos,go_sem],?_,?_,?_⟩
  ·simp -dsimp -implicitDefEqProofs [-getElem?_pos,go_sem,l0']
  ·dsimp only
   first
    |rw[List.getElem?_set_ne (by omega),List.getElem?_append_left (by simpa using l1'),List.getElem?_set_ne (by omega)]
    |rw[List.getElem?_append_left (by simpa using l1'),List.getElem?_set_ne (by omega),List.getElem?_set_ne (by omega)]
   exact g1
  ·rw[e1,←encL_snoc]
   simp -dsimp -implicitDefEqProofs [-getElem?_pos,go_sem,l0',hcb]
 ·have hk:k=bs.length:=by simp at hq;omega
  subst hk
  rw[List.take_length]at gi
  obtain⟨nb,hnb⟩:∃nb,nb=bs.length:=⟨_,rfl⟩
  rw[←hnb]at g0
  have n10:¬(1:Nat)=0:=by omega
  have ibs:=imm_bats bs
  simp -dsimp -implicitDefEqProofs [-getElem?_pos,go_sem,hP,t1,g0,l0]
  refine callB_is (q6.lift _ _) hP en_65 (by simpa using i6) i6 ?_
  have s0:s.H.set 0 (some ⟨50,15,[[iv z.Desk.Account.Credit,subsL z.Desk.Account.Subs,entsL z.Desk.Account.Entries,paysL z.Desk.Queue.Waiting,.list 1 (encL encI z.Desk.Queue.Known),.sref id 0 nb,itemsL z.Desk.Items,claimsL z.Cash.Claims,incomesL z.Cash.Incomes,matchesL z.Cash.Matches,.list 1 (encL encI z.Cash.Loose),secsL z.Register.Securities,holdsL z.Register.Holdings,movesL z.Register.Moves,postsL z.Ledger.Postings]]⟩)=s.H:=setC_self g0
  simp -dsimp -implicitDefEqProofs [-getElem?_pos,go_sem,hP,t1,g0,l0,s0]
  refine adrawB (fun _=>true) [26,29,32,35] hP (by kernel_rfl) (by kernel_rfl) ?_
  simp -dsimp -implicitDefEqProofs [-getElem?_pos,go_sem,hP,g0,l0,s0]
  refine callB_is (q7.lift _ _) hP en_66 (by simpa using i7) i7 ?_
  simp -dsimp -implicitDefEqProofs [-getElem?_pos,go_sem,hP,g0,l0,s0]
  refine callB_is (q8.lift _ _) hP en_67 (by simpa using i8) i8 ?_
  simp -dsimp -implicitDefEqProofs [-getElem?_pos,go_sem,hP,g0,l0,s0]
  refine callB_is (q9.lift _ _) hP en_68 (by simpa using i9) i9 ?_
  simp -dsimp -implicitDefEqProofs [-getElem?_pos,go_sem,hP,g0,l0,s0]
  refine callB_is (qa.lift _ _) hP en_64 (by simpa using ia) ia ?_
  simp -dsimp -implicitDefEqProofs [-getElem?_pos,go_sem,hP,g0,l0,s0,t1]
  refine adrawB (fun _=>true) [8,11] hP (by kernel_rfl) (by kernel_rfl) ?_
  simp -dsimp -implicitDefEqProofs [-getElem?_pos,go_sem,hP,g0,l0,s0,t1]
  refine callB_is (qb.lift _ _) hP en_57 (by simpa using ib) ib ?_
  simp -dsimp -implicitDefEqProofs [-getElem?_pos,go_sem,hP,g0,l0,s0,t1]
  refine callB_is (qc.lift _ _) hP en_69 (by simpa using ic) ic ?_
  simp -dsimp -implicitDefEqProofs [-getElem?_pos,go_sem,hP,g0,l0,s0,t1,t2,g1,l1]
  have gi1:∀y:Option AObj,(s.H.set 1 y)[id]?=some (some ⟨140,3,encL TBatch.cells bs⟩):=fun y=>by rw[List.getElem?_set_ne (by omega)];exact gi
  have ibs':Imm (.list 3 (encL TBatch.cells bs)):=ibs
  have lbs:(encL TBatch.cells bs).take nb=encL TBatch.cells bs:=List.take_of_length_le (by rw[encL_len];omega)
  rw[←hbs]at ist
  refine done_of ist rfl ?_
  simp -dsimp -implicitDefEqProofs [-getElem?_pos,go_sem,gi1,lbs]
open Go.PA
open Go.RowKit
theorem dok_fit {d:TDesk} (h:DOk d):FitD d:=by
 have c:=check_fit h.a
 have hk:=congrArg List.length h.k
 have:=h.q.lk
 have:=h.q.lw
 have:=h.q.lb
 rw[List.length_map]at hk
 exact⟨c.1,c.2,⟨by omega,by omega,by omega,fun b hb=>by have:=(batsFrom_len h.q.bats b hb).2.1;omega⟩,by omega⟩
theorem regOk_move0 {r:TRegister} {m:TMove} (h:RegOk r (dR r)) (hm:movE r m=0) (hn:m.Number=(r.Moves.length:Int)+1) (hk:1≤m.Kind∧m.Kind≤3) (hl:r.Moves.length<400):RegOk (moved r m) (dR (moved r m)):=by
 have e:dR (moved r m)=m.Day:=by simp[dR,moved]
 rw[e]
 exact⟨h.secs,h.slen,by
  have:=Runs.snoc h.run (m:=m) ⟨hn,hk,hm⟩
  unfold moved
  simp only[stepR]at this
  simpa using this,by unfold moved;simp;omega⟩
structure Kp (j:Nat) (s t:TState):Prop where
 f:FitS j t
 e:s.Desk.Account.Entries.length≤t.Desk.Account.Entries.length
theorem moveS_kp {j:Nat} {s:TState} {day f t n:Int} (hf:FitS j s) (h:(moveS s day f t n).2=0):Kp j s (moveS s day f t n).1:=by
 unfold moveS at h⊢
 split at h
 ·rename_i hp
  rw[if_pos hp]
  have c:=check_fit (post_check hp)
  have e:=post_ents hp
  obtain⟨h1,h2,h3,h4,h5,h6⟩:=hf
  refine⟨⟨⟨c.1,c.2,h1.q,h1.i⟩,h2,h3,h4,h5,h6⟩,?_⟩
  show _≤(postA s.Desk.Account (nextE s.Desk.Account day f t n 0)).1.Entries.length
  rw[e]
  simp
 ·rename_i hp
  exact absurd h hp
theorem deskS_kp {j:Nat} {s:TState} {d:TDesk} {e:Int} (hf:FitS j s) (h:(deskS s d e).2=0) (hd:e=0→DOk d∧s.Desk.Account.Entries.length≤d.Account.Entries.length):Kp j s (deskS s d e).1:=by
 unfold deskS at h⊢
 split at h
 ·rename_i he
  rw[if_pos he]
  obtain⟨h1,h2⟩:=hd he
  exact⟨⟨dok_fit h1,hf.c,hf.cl,hf.r,hf.rm,hf.l⟩,h2⟩
 ·rename_i he
  exact absurd h he
theorem FitS.mono {j k:Nat} {s:TState} (h:FitS j s) (hk:j≤k):FitS k s:=⟨h.d,h.c,h.cl,h.r,Nat.le_trans h.rm hk,h.l⟩
theorem receiveS_kp {j:Nat} {s:TState} {d:TDeed} (hf:FitS j s) (h:(receiveS s d).2=0):Kp j s (receiveS s d).1:=by
 unfold receiveS at h⊢
 split at h
 ·simp at h
 ·rename_i h1
  rw[if_neg h1]
  split at h
  ·rename_i h2
   rw[if_pos h2]
   have k:=moveS_kp (j:=j) (s:=⟨s.Desk,csh (s.Cash.Incomes++[incS s d]),s.Register,s.Ledger⟩) ⟨hf.d,rfl,takeE_ok hf.cl h2,hf.r,hf.rm,hf.l⟩ h
   exact⟨k.f,k.e⟩
  ·rename_i h2
   exact absurd h h2
theorem debtS_kp {j:Nat} {s:TState} {day kind ref f0 t0 n f t n1:Int} (hf:FitS j s) (hj:j<400) (hk:1≤kind∧kind≤3) (h:(debtS s (movR s.Register day kind ref f0 t0 n) (movE s.Register (movR s.Register day kind ref f0 t0 n)) f t n1).2=0):Kp (j+1) s (debtS s (movR s.Register day kind ref f0 t0 n) (movE s.Register (movR s.Register day kind ref f0 t0 n)) f t n1).1:=by
 unfold debtS at h⊢
 split at h
 ·rename_i he
  rw[if_pos he]
  have hm:=hf.rm
  have r2:=regOk_move0 hf.r he rfl hk (by omega)
  have k:=moveS_kp (j:=j+1) (s:=⟨s.Desk,s.Cash,moved s.Register (movR s.Register day kind ref f0 t0 n),s.Ledger⟩) ⟨hf.d,hf.c,hf.cl,r2,by simp[moved];omega,hf.l⟩ h
  exact⟨k.f,k.e⟩
 ·rename_i he
  exact absurd h he
theorem doK_kp {j:Nat} {s:TState} {d:TDeed} (hf:FitS j s) (hj:j<400) (h:(doK s d).2=0):Kp (j+1) s (doK s d).1:=by
 have up:∀{t:TState},Kp j s t→Kp (j+1) s t:=fun k=>⟨k.f.mono (by omega),k.e⟩
 unfold doK at h⊢
 split at h
 ·rename_i c1
  rw[if_pos c1]
  exact up (receiveS_kp hf h)
 rename_i c1
 rw[if_neg c1]
 split at h
 ·rename_i c2
  rw[if_pos c2]
  refine up (deskS_kp hf h fun he=>?_)
  have:=orderD_ok (show orderD s.Desk (payS d)=((orderD s.Desk (payS d)).1,0)from Prod.ext rfl he)
  refine⟨this.2.2.2.2,?_⟩
  rw[this.2.2.2.1]
  exact Nat.le_refl _
 rename_i c2
 rw[if_neg c2]
 split at h
 ·rename_i c3
  rw[if_pos c3]
  refine up (deskS_kp hf h fun he=>?_)
  have:=sendD_ok (show sendD s.Desk d.Day=((sendD s.Desk d.Day).1,(sendD s.Desk d.Day).2.1,0)from Prod.ext rfl (Prod.ext rfl he))
  obtain⟨_,_,_,_,ps,a,_,_,_,_,_,hs,_,hx,hd⟩:=this
  refine⟨hd,?_⟩
  obtain⟨es,he2,_⟩:=hs.ents
  rw[hx]
  show _≤a.Entries.length
  rw[he2]
  simp
 rename_i c3
 rw[if_neg c3]
 split at h
 ·rename_i c4
  rw[if_pos c4]
  refine up (deskS_kp hf h fun he=>?_)
  obtain⟨_,⟨k,y,_,_,_,hx⟩,hd⟩:=settleD_ok (show settleD s.Desk d.Ref=((settleD s.Desk d.Ref).1,0)from Prod.ext rfl he)
  refine⟨hd,?_⟩
  rw[hx]
  exact Nat.le_refl _
 rename_i c4
 rw[if_neg c4]
 split at h
 ·rename_i c5
  rw[if_pos c5]
  refine up (deskS_kp hf h fun he=>?_)
  obtain⟨_,⟨k,y,_,_,_,hp,hx⟩,hd⟩:=returnD_ok (show returnD s.Desk d.Ref d.Day=((returnD s.Desk d.Ref d.Day).1,0)from Prod.ext rfl he)
  refine⟨hd,?_⟩
  rw[hx]
  show _≤(postA s.Desk.Account _).1.Entries.length
  rw[post_ents hp]
  simp
 rename_i c5
 rw[if_neg c5]
 split at h
 ·rename_i c6
  rw[if_pos c6]
  refine up (deskS_kp hf h fun he=>?_)
  obtain⟨_,⟨k,y,_,_,_,hx⟩,hd⟩:=recallD_ok (show recallD s.Desk d.Ref=((recallD s.Desk d.Ref).1,0)from Prod.ext rfl he)
  refine⟨hd,?_⟩
  rw[hx]
  exact Nat.le_refl _
 rename_i c6
 rw[if_neg c6]
 split at h
 ·rename_i c7
  rw[if_pos c7]
  exact debtS_kp hf hj (by omega) h
 rename_i c7
 rw[if_neg c7]
 split at h
 ·rename_i c8
  rw[if_pos c8]
  exact debtS_kp hf hj (by omega) h
 rename_i c8
 rw[if_neg c8]
 split at h
 ·rename_i c9
  rw[if_pos c9]
  split at h
  ·simp at h
  ·rename_i c0
   rw[if_neg c0]
   exact up (moveS_kp hf h)
 ·simp at h
def doS (s:TState) (d:TDeed):TState×Int:=
 if (doK s d).2=0 then (if (bookS (doK s d).1 s.Desk.Account.Entries.length).2=0 then ((bookS (doK s d).1 s.Desk.Account.Entries.length).1,0)else (zeroSt,(bookS (doK s d).1 s.Desk.Account.Entries.length).2))else (zeroSt,(doK s d).2)
theorem bookGo_fit:∀(l L:List TPosting),L.length≤400→(bookGo L l).1.length≤400
 |[],L,h=>h
 |p::l,L,h=>by
  rw[bookGo]
  split
  ·rename_i hp
   exact bookGo_fit l _ (postL_fit hp)
  ·exact h
theorem doS_fit {j:Nat} {s:TState} {d:TDeed} (hf:FitS j s) (hj:j<400) (h:(doS s d).2=0):FitS (j+1) (doS s d).1:=by
 unfold doS at h⊢
 split at h
 ·rename_i h1
  rw[if_pos h1]
  have k:=doK_kp hf hj h1
  split at h
  ·rename_i h2
   rw[if_pos h2]
   obtain⟨f1,f2,f3,f4,f5,f6⟩:=k.f
   exact⟨f1,f2,f3,f4,f5,bookGo_fit _ _ f6⟩
  ·rename_i h2
   exact absurd h h2
 ·rename_i h1
  exact absurd h h1
open Go.PA
open Go.RowKit
theorem cw_zeroS {H:Heap}:CW H [iv 0,.nil,.nil,.nil,.nil,.nil,.nil,.nil,.nil,.nil,.nil,.nil,.nil,.nil,.nil] zeroSt.cells:=
 cw_sc (cw_nil (cw_nil (cw_nil (cw_nil (cw_nil (cw_nil (cw_nil (cw_nil (cw_nil (cw_nil (cw_nil (cw_nil (cw_nil (cw_nil .nil))))))))))))))
set_option maxHeartbeats 4000000 in
theorem cDo_pf {s:TState} {d:TDeed} {j:Nat} (hf:FitS j s) (hj:j<399):PFun Tryz.prog none none 12 [.agg s.cells,.agg d.cells] (·= .tup [.agg (doS s d).1.cells,iv (doS s d).2]):=by
 have cc:=ccopied_pf hf (by omega)
 have ist:=imm_st s
 have kp:=fun h=>doK_kp (d:=d) hf (by omega) h
 obtain⟨R,hR⟩:∃R,R=doS s d:=⟨_,rfl⟩
 rw[←hR]
 rw[cStX]at cc ist
 rw[cStX s]
 refine pfun_intro Tryz.func12 rfl (by simp[Tryz.f12]) (by kernel_rfl) ?_
 intro E hP hr hs hW hN
 simp -dsimp -implicitDefEqProofs [-getElem?_pos,go_sem,hP,cDeedX]
 refine adrawB (fun _=>true) [5] hP (by kernel_rfl) (by kernel_rfl) ?_
 simp -dsimp -implicitDefEqProofs [-getElem?_pos,go_sem,hP]
 refine callB_is (cc.lift _ _) hP en_24 (by simpa using ist) ist ?_
 simp -dsimp -implicitDefEqProofs [-getElem?_pos,go_sem,hP]
 have cd:=fun (H:Heap) (h:H[3]?=crtO s d.Day)=>cdo_m (row:=E.row) (src:=E.src) d h hf (by omega)
 rw[cDeedX]at cd
 refine callB_m (cd _ ?_) hP en_25 ?_
 ·rfl
 rintro r H1 ⟨rfl,h1,k1⟩
 have g0:=k1 0 _ (by simp) rfl
 have g2:=k1 2 _ (by simp) rfl
 have l0:=(gsI g0)
 have l2:=(gsI g2)
 have l3:=(gsI h1)
 obtain⟨t,e,hK⟩:∃t e,doK s d=(t,e):=⟨_,_,rfl⟩
 rw[hK]at h1 kp⊢
 by_cases he:e=0
 rotate_left
 ·have de:decide (e=0)=false:=decide_eq_false he
  have hS:R=(zeroSt,e):=by rw[hR,doS,hK,if_neg he]
  simp -dsimp -implicitDefEqProofs [-getElem?_pos,go_sem,hP,de,g2,l2]
  rw[hS]
  exact done_agg2 (cs':=zeroSt.cells) cw_zeroS rfl
 subst he
 have kf:=kp rfl
 have cb:=fun (H:Heap) (h:H[3]?=crtO t d.Day)=>cbook_m (row:=E.row) (src:=E.src) h kf.f.d kf.f.l kf.e
 simp -dsimp -implicitDefEqProofs [-getElem?_pos,go_sem,hP,g0,l0,encL_len]
 refine callB_m (cb _ h1) hP en_26 ?_
 rintro r H2 ⟨rfl,h2,k2⟩
 have g2:=k2 2 _ (by simp) g2
 have l2:=(gsI g2)
 have l3:=(gsI h2)
 obtain⟨u,e,hB⟩:∃u e,bookS t s.Desk.Account.Entries.length=(u,e):=⟨_,_,rfl⟩
 rw[hB]at h2⊢
 by_cases he:e=0
 rotate_left
 ·have de:decide (e=0)=false:=decide_eq_false he
  have hS:R=(zeroSt,e):=by rw[hR,doS,hK,if_pos rfl,hB,if_neg he]
  simp -dsimp -implicitDefEqProofs [-getElem?_pos,go_sem,hP,de,g2,l2]
  rw[hS]
  exact done_agg2 (cs':=zeroSt.cells) cw_zeroS rfl
 subst he
 have hS:R=(u,0):=by rw[hR,doS,hK,if_pos rfl,hB,if_pos rfl]
 have iu:=imm_st u
 rw[cStX]at iu
 simp -dsimp -implicitDefEqProofs [-getElem?_pos,go_sem,hP,h2,l3,g2,l2]
 rw[hS,cStX]
 exact done_imm (imm_pair iu .sc) rfl
abbrev deedsL (l:List TDeed):AV:= .list 7 (encL TDeed.cells l)
theorem imm_deeds (l:List TDeed):Imm (deedsL l):=imm_encL _ TDeed.imm _
end Go.Proofs.YtaenimpfelpafaaGreatDoor
