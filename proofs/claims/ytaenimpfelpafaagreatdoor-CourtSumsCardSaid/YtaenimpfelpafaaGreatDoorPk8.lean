/- Several texts of this claim, joined: Rr3 CrtSame Rr4 Rr5 Crt9 Crt8 CrtJ Led5 Rd1 Rec11 Rec12 Rec13 Rec14 Rec15. -/
import Derived.Test.YtaenimpfelpafaaGreatDoorPk7
set_option linter.unusedSimpArgs false
set_option linter.unusedVariables false
namespace Go.Proofs.YtaenimpfelpafaaGreatDoor
open Go.PA
open Go.RowKit
theorem held_le {l:List THolding} {N:Nat} (ok:HoldOk l N) (id h:Int):heldH l id h≤1000000000000:=by
 rw[←heldF_eq ok.srt]
 unfold heldF
 cases hf:l.find? (hIs id h)with
 |none=>decide
 |some x=>exact (ok.am (List.mem_of_find?_eq_some hf)).2
set_option maxHeartbeats 2000000 in
theorem rmove1_pf (r:TRegister) (l:List THolding) {N:Nat} (day:Int) (m:TMove) (ok:HoldOk l N) (hl:l.length≤10000) (hsec:∀s,s∈r.Securities→secB s=true) (hsl:r.Securities.length≤100000) (hk:m.Kind=1) (hz:m.From=0):
  PFun Tryz.prog none none 266 [.agg r.cells,holdsL l,iv day,.agg m.cells] (·= .tup [holdsL (if moveE r.Securities l day m=0 then goH l m else []),iv (moveE r.Securities l day m)]):=by
 refine pfun_intro Tryz.func266 rfl (by simp[Tryz.f266]) (by kernel_rfl) ?_
 intro E hP hr hs hW hN
 have ir:=imm_agg.2 r.imm
 have im:=imm_mov m
 have il:=imm_holds l
 have fi:=rfind33_pf r m.Security hsl
 obtain⟨R,hR0⟩:∃R,R=moveE r.Securities l day m:=⟨_,rfl⟩
 obtain⟨G,hG⟩:∃G,G=goH l m:=⟨_,rfl⟩
 obtain⟨Q,hQ⟩:∃Q:AV→Prop,Q=(·= .tup [holdsL (if R=0 then G else []),iv R]):=⟨_,rfl⟩
 rw[←hR0,←hG,←hQ]
 have qe:∀n:Int,R=n→n≠0→Q (.tup [.list 3 [],iv n]):=fun n e h=>by rw[hQ,e,if_neg h];rfl
 have qo:R=0→Q (.tup [holdsL G,iv 0]):=fun e=>by rw[hQ,e,if_pos rfl]
 clear hQ
 rw[cReg]at fi ir
 have hf:findS r.Securities m.Security=none∨∃s,findS r.Securities m.Security=some s∧s∈r.Securities:=by
  cases h:findS r.Securities m.Security with
  |none=>exact .inl rfl
  |some s=>exact .inr ⟨s,rfl,List.mem_of_find?_eq_some h⟩
 rcases hf with hf|⟨s,hf,hm⟩
 ·have e1:findR r.Securities m.Security=(zSec,false):=by rw[findR,hf]
  have e2:R=76:=by rw[hR0,moveE,hf]
  have iz:=imm_agg.2 zSec.imm
  rw[e1]at fi
  rw[cSec]at fi iz
  simp -dsimp -implicitDefEqProofs [-getElem?_pos,go_sem,hP,cReg,cMov]
  refine callB_is (fi.lift _ _) hP en_146 (by simp[ir,imm_sc]) (imm_pair iz .sc) ?_
  simp -dsimp -implicitDefEqProofs [-getElem?_pos,go_sem,hP]
  exact done_nil2 3 (qe 76 e2 (by omega))
 have e1:findR r.Securities m.Security=(s,true):=by rw[findR,hf]
 have so:=secOk (hsec s hm)
 have is:=imm_agg.2 s.imm
 rw[e1]at fi
 rw[cSec]at fi is
 unfold moveE at hR0
 rw[hf]at hR0
 dsimp only at hR0
 rw[hk]at hR0
 have un:¬s.Unit=0:=by have:=so.unit;omega
 have k3:decide (m.Kind=3)=false:=by rw[hk];rfl
 have k1:decide (m.Kind=1)=true:=by rw[hk];rfl
 by_cases a1:m.Day<day
 ·have d1:decide (m.Day<day)=true:=decide_eq_true a1
  have e2:R=8:=by rw[hR0,if_pos (by simp only[Int.max_def];split<;>omega)]
  simp -dsimp -implicitDefEqProofs [-getElem?_pos,go_sem,hP,cReg,cMov]
  refine callB_is (fi.lift _ _) hP en_146 (by simp[ir,imm_sc]) (imm_pair is .sc) ?_
  simp -dsimp -implicitDefEqProofs [-getElem?_pos,go_sem,hP,k3,d1]
  exact done_nil2 3 (qe 8 e2 (by omega))
 have d1:decide (m.Day<day)=false:=decide_eq_false a1
 by_cases a2:m.Day<s.Issued
 ·have d2:decide (m.Day<s.Issued)=true:=decide_eq_true a2
  have e2:R=8:=by rw[hR0,if_pos (by simp only[Int.max_def];split<;>omega)]
  simp -dsimp -implicitDefEqProofs [-getElem?_pos,go_sem,hP,cReg,cMov]
  refine callB_is (fi.lift _ _) hP en_146 (by simp[ir,imm_sc]) (imm_pair is .sc) ?_
  simp -dsimp -implicitDefEqProofs [-getElem?_pos,go_sem,hP,k3,d1,d2]
  exact done_nil2 3 (qe 8 e2 (by omega))
 have d2:decide (m.Day<s.Issued)=false:=decide_eq_false a2
 by_cases a3:s.Maturity<m.Day
 ·have d3:decide (s.Maturity<m.Day)=true:=decide_eq_true a3
  have e2:R=8:=by rw[hR0,if_pos (by rw[show (if (1:Int)=3 then (36000:Int)else s.Maturity)=s.Maturity from rfl];omega)]
  simp -dsimp -implicitDefEqProofs [-getElem?_pos,go_sem,hP,cReg,cMov]
  refine callB_is (fi.lift _ _) hP en_146 (by simp[ir,imm_sc]) (imm_pair is .sc) ?_
  simp -dsimp -implicitDefEqProofs [-getElem?_pos,go_sem,hP,k3,d1,d2,d3]
  exact done_nil2 3 (qe 8 e2 (by omega))
 have d3:decide (s.Maturity<m.Day)=false:=decide_eq_false a3
 rw[if_neg (by rw[show (if (1:Int)=3 then (36000:Int)else s.Maturity)=s.Maturity from rfl];simp only[Int.max_def];split<;>omega)]at hR0
 by_cases a4:m.Amount<1
 ·have d4:decide (m.Amount<1)=true:=decide_eq_true a4
  have e2:R=79:=by rw[hR0,if_pos (.inl (by omega))]
  simp -dsimp -implicitDefEqProofs [-getElem?_pos,go_sem,hP,cReg,cMov]
  refine callB_is (fi.lift _ _) hP en_146 (by simp[ir,imm_sc]) (imm_pair is .sc) ?_
  simp -dsimp -implicitDefEqProofs [-getElem?_pos,go_sem,hP,k3,d1,d2,d3,d4]
  exact done_nil2 3 (qe 79 e2 (by omega))
 have d4:decide (m.Amount<1)=false:=decide_eq_false a4
 by_cases a5:1000000000000<m.Amount
 ·have d5:decide (1000000000000<m.Amount)=true:=decide_eq_true a5
  have e2:R=79:=by rw[hR0,if_pos (.inr (.inl a5))]
  simp -dsimp -implicitDefEqProofs [-getElem?_pos,go_sem,hP,cReg,cMov]
  refine callB_is (fi.lift _ _) hP en_146 (by simp[ir,imm_sc]) (imm_pair is .sc) ?_
  simp -dsimp -implicitDefEqProofs [-getElem?_pos,go_sem,hP,k3,d1,d2,d3,d4,d5]
  exact done_nil2 3 (qe 79 e2 (by omega))
 have d5:decide (1000000000000<m.Amount)=false:=decide_eq_false a5
 have tm:m.Amount.tmod s.Unit=m.Amount%s.Unit:=Int.tmod_eq_emod_of_nonneg (by omega)
 by_cases a6:m.Amount%s.Unit=0
 rotate_left
 ·have d6:decide (m.Amount%s.Unit=0)=false:=decide_eq_false a6
  have e2:R=79:=by rw[hR0,if_pos (.inr (.inr a6))]
  simp -dsimp -implicitDefEqProofs [-getElem?_pos,go_sem,hP,cReg,cMov]
  refine callB_is (fi.lift _ _) hP en_146 (by simp[ir,imm_sc]) (imm_pair is .sc) ?_
  simp -dsimp -implicitDefEqProofs [-getElem?_pos,go_sem,hP,k3,d1,d2,d3,d4,d5,aint_rem un,un,tm,d6]
  exact done_nil2 3 (qe 79 e2 (by omega))
 have d6:decide (m.Amount%s.Unit=0)=true:=decide_eq_true a6
 rw[if_neg (by omega)]at hR0
 have hh:=rholder_pf m.To
 by_cases a7:holderB m.To=true
 rotate_left
 ·have d7:holderB m.To=false:=by simpa using a7
  have e2:R=6:=by
   rw[hR0,if_pos]
   simp[strangeB,hk,hz,d7]
  rw[d7]at hh
  simp -dsimp -implicitDefEqProofs [-getElem?_pos,go_sem,hP,cReg,cMov]
  refine callB_is (fi.lift _ _) hP en_146 (by simp[ir,imm_sc]) (imm_pair is .sc) ?_
  simp -dsimp -implicitDefEqProofs [-getElem?_pos,go_sem,hP,k3,k1,d1,d2,d3,d4,d5,aint_rem un,un,tm,d6]
  refine adrawB (fun _=>true) [] hP (by kernel_rfl) (by kernel_rfl) ?_
  simp -dsimp -implicitDefEqProofs [-getElem?_pos,go_sem,hP,k3,k1,d1,d2,d3,d4,d5,aint_rem un,un,tm,d6]
  refine callB_is (hh.lift _ _) hP en_296 (by simp[imm_sc]) .sc ?_
  simp -dsimp -implicitDefEqProofs [-getElem?_pos,go_sem,hP,k3,k1,d1,d2,d3,d4,d5,aint_rem un,un,tm,d6]
  exact done_nil2 3 (qe 6 e2 (by omega))
 have hb:1≤m.To∧m.To≤1000:=by simpa[holderB]using a7
 rw[a7]at hh
 rw[if_neg (by simp[strangeB,hk,hz,a7])]at hR0
 rw[if_neg (by omega)]at hR0
 have ou:=rout_pf l m.Security ok (by omega)
 have ot:=ok.tot m.Security
 have op:=(sumQ_le (secQ m.Security) hAm l ok.pos).1
 have w1:=wrap_in (outH l m.Security+m.Amount) (by unfold outH at*;omega)
 by_cases a8:1000000000000<outH l m.Security+m.Amount
 ·have d8:decide (1000000000000<outH l m.Security+m.Amount)=true:=decide_eq_true a8
  have e2:R=2:=by rw[hR0,if_pos ⟨hz,a8⟩]
  simp -dsimp -implicitDefEqProofs [-getElem?_pos,go_sem,hP,cReg,cMov]
  refine callB_is (fi.lift _ _) hP en_146 (by simp[ir,imm_sc]) (imm_pair is .sc) ?_
  simp -dsimp -implicitDefEqProofs [-getElem?_pos,go_sem,hP,k3,k1,d1,d2,d3,d4,d5,aint_rem un,un,tm,d6]
  refine adrawB (fun _=>true) [] hP (by kernel_rfl) (by kernel_rfl) ?_
  simp -dsimp -implicitDefEqProofs [-getElem?_pos,go_sem,hP,k3,k1,d1,d2,d3,d4,d5,aint_rem un,un,tm,d6]
  refine callB_is (hh.lift _ _) hP en_296 (by simp[imm_sc]) .sc ?_
  simp -dsimp -implicitDefEqProofs [-getElem?_pos,go_sem,hP,k3,k1,d1,d2,d3,d4,d5,aint_rem un,un,tm,d6]
  refine adrawB (fun _=>true) [] hP (by kernel_rfl) (by kernel_rfl) ?_
  simp -dsimp -implicitDefEqProofs [-getElem?_pos,go_sem,hP,k3,k1,d1,d2,d3,d4,d5,aint_rem un,un,tm,d6]
  refine adrawB (fun _=>true) [] hP (by kernel_rfl) (by kernel_rfl) ?_
  simp -dsimp -implicitDefEqProofs [-getElem?_pos,go_sem,hP,k3,k1,d1,d2,d3,d4,d5,aint_rem un,un,tm,d6]
  refine callB_is (ou.lift _ _) hP en_298 (by simp[il,imm_sc]) .sc ?_
  simp -dsimp -implicitDefEqProofs [-getElem?_pos,go_sem,hP,k3,k1,d1,d2,d3,d4,d5,aint_rem un,un,tm,d6,w1,d8]
  exact done_nil2 3 (qe 2 e2 (by omega))
 have d8:decide (1000000000000<outH l m.Security+m.Amount)=false:=decide_eq_false a8
 rw[if_neg (fun c=>a8 c.2)]at hR0
 have eG:G=setH l m.Security m.To m.Amount:=by rw[hG,goH,if_pos hz,if_neg (by omega)]
 have hq:=heldF_eq (id:=m.Security) (h:=m.To) ok.srt
 have hp:=(sumQ_le (hIs m.Security m.To) hAm l ok.pos).1
 have hp2:heldH l m.Security m.To≤1000000000000:=held_le ok _ _
 have st:=rset_pf l m.Security m.To m.Amount ok.srt (by omega) (by rw[hq];unfold heldH at*;omega)
 rw[←eG]at st
 simp -dsimp -implicitDefEqProofs [-getElem?_pos,go_sem,hP,cReg,cMov]
 refine callB_is (fi.lift _ _) hP en_146 (by simp[ir,imm_sc]) (imm_pair is .sc) ?_
 simp -dsimp -implicitDefEqProofs [-getElem?_pos,go_sem,hP,k3,k1,d1,d2,d3,d4,d5,aint_rem un,un,tm,d6]
 refine adrawB (fun _=>true) [] hP (by kernel_rfl) (by kernel_rfl) ?_
 simp -dsimp -implicitDefEqProofs [-getElem?_pos,go_sem,hP,k3,k1,d1,d2,d3,d4,d5,aint_rem un,un,tm,d6]
 refine callB_is (hh.lift _ _) hP en_296 (by simp[imm_sc]) .sc ?_
 simp -dsimp -implicitDefEqProofs [-getElem?_pos,go_sem,hP,k3,k1,d1,d2,d3,d4,d5,aint_rem un,un,tm,d6]
 refine adrawB (fun _=>true) [] hP (by kernel_rfl) (by kernel_rfl) ?_
 simp -dsimp -implicitDefEqProofs [-getElem?_pos,go_sem,hP,k3,k1,d1,d2,d3,d4,d5,aint_rem un,un,tm,d6]
 refine adrawB (fun _=>true) [] hP (by kernel_rfl) (by kernel_rfl) ?_
 simp -dsimp -implicitDefEqProofs [-getElem?_pos,go_sem,hP,k3,k1,d1,d2,d3,d4,d5,aint_rem un,un,tm,d6]
 refine callB_is (ou.lift _ _) hP en_298 (by simp[il,imm_sc]) .sc ?_
 simp -dsimp -implicitDefEqProofs [-getElem?_pos,go_sem,hP,k3,k1,d1,d2,d3,d4,d5,aint_rem un,un,tm,d6,w1,d8]
 refine callB_is (st.lift _ _) hP en_299 (by simp[il,imm_sc]) (imm_holds _) ?_
 simp -dsimp -implicitDefEqProofs [-getElem?_pos,go_sem,hP,k3,k1,d1,d2,d3,d4,d5,aint_rem un,un,tm,d6]
 exact done_imm (imm_pair (imm_holds _) .sc) (qo hR0)
set_option maxHeartbeats 2000000 in
theorem rmove3_pf (r:TRegister) (l:List THolding) {N:Nat} (day:Int) (m:TMove) (ok:HoldOk l N) (hl:l.length≤10000) (hsec:∀s,s∈r.Securities→secB s=true) (hsl:r.Securities.length≤100000) (hk:m.Kind=3) (hz:m.To=0):
  PFun Tryz.prog none none 266 [.agg r.cells,holdsL l,iv day,.agg m.cells] (·= .tup [holdsL (if moveE r.Securities l day m=0 then goH l m else []),iv (moveE r.Securities l day m)]):=by
 refine pfun_intro Tryz.func266 rfl (by simp[Tryz.f266]) (by kernel_rfl) ?_
 intro E hP hr hs hW hN
 have ir:=imm_agg.2 r.imm
 have im:=imm_mov m
 have il:=imm_holds l
 have fi:=rfind33_pf r m.Security hsl
 obtain⟨R,hR0⟩:∃R,R=moveE r.Securities l day m:=⟨_,rfl⟩
 obtain⟨G,hG⟩:∃G,G=goH l m:=⟨_,rfl⟩
 obtain⟨Q,hQ⟩:∃Q:AV→Prop,Q=(·= .tup [holdsL (if R=0 then G else []),iv R]):=⟨_,rfl⟩
 rw[←hR0,←hG,←hQ]
 have qe:∀n:Int,R=n→n≠0→Q (.tup [.list 3 [],iv n]):=fun n e h=>by rw[hQ,e,if_neg h];rfl
 have qo:R=0→Q (.tup [holdsL G,iv 0]):=fun e=>by rw[hQ,e,if_pos rfl]
 clear hQ
 rw[cReg]at fi ir
 have hf:findS r.Securities m.Security=none∨∃s,findS r.Securities m.Security=some s∧s∈r.Securities:=by
  cases h:findS r.Securities m.Security with
  |none=>exact .inl rfl
  |some s=>exact .inr ⟨s,rfl,List.mem_of_find?_eq_some h⟩
 rcases hf with hf|⟨s,hf,hm⟩
 ·have e1:findR r.Securities m.Security=(zSec,false):=by rw[findR,hf]
  have e2:R=76:=by rw[hR0,moveE,hf]
  have iz:=imm_agg.2 zSec.imm
  rw[e1]at fi
  rw[cSec]at fi iz
  simp -dsimp -implicitDefEqProofs [-getElem?_pos,go_sem,hP,cReg,cMov]
  refine callB_is (fi.lift _ _) hP en_146 (by simp[ir,imm_sc]) (imm_pair iz .sc) ?_
  simp -dsimp -implicitDefEqProofs [-getElem?_pos,go_sem,hP]
  exact done_nil2 3 (qe 76 e2 (by omega))
 have e1:findR r.Securities m.Security=(s,true):=by rw[findR,hf]
 have so:=secOk (hsec s hm)
 have is:=imm_agg.2 s.imm
 rw[e1]at fi
 rw[cSec]at fi is
 unfold moveE at hR0
 rw[hf]at hR0
 dsimp only at hR0
 rw[hk]at hR0
 have un:¬s.Unit=0:=by have:=so.unit;omega
 have k3:decide (m.Kind=3)=true:=by rw[hk];rfl
 have k1:decide (m.Kind=1)=false:=by rw[hk];rfl
 by_cases a1:m.Day<day
 ·have d1:decide (m.Day<day)=true:=decide_eq_true a1
  have e2:R=8:=by rw[hR0,if_pos (by simp only[Int.max_def];split<;>omega)]
  simp -dsimp -implicitDefEqProofs [-getElem?_pos,go_sem,hP,cReg,cMov]
  refine callB_is (fi.lift _ _) hP en_146 (by simp[ir,imm_sc]) (imm_pair is .sc) ?_
  simp -dsimp -implicitDefEqProofs [-getElem?_pos,go_sem,hP,k3,d1]
  exact done_nil2 3 (qe 8 e2 (by omega))
 have d1:decide (m.Day<day)=false:=decide_eq_false a1
 by_cases a2:m.Day<s.Issued
 ·have d2:decide (m.Day<s.Issued)=true:=decide_eq_true a2
  have e2:R=8:=by rw[hR0,if_pos (by simp only[Int.max_def];split<;>omega)]
  simp -dsimp -implicitDefEqProofs [-getElem?_pos,go_sem,hP,cReg,cMov]
  refine callB_is (fi.lift _ _) hP en_146 (by simp[ir,imm_sc]) (imm_pair is .sc) ?_
  simp -dsimp -implicitDefEqProofs [-getElem?_pos,go_sem,hP,k3,d1,d2]
  exact done_nil2 3 (qe 8 e2 (by omega))
 have d2:decide (m.Day<s.Issued)=false:=decide_eq_false a2
 by_cases a3:36000<m.Day
 ·have d3:decide (36000<m.Day)=true:=decide_eq_true a3
  have e2:R=8:=by rw[hR0,if_pos (by rw[show (if (3:Int)=3 then (36000:Int)else s.Maturity)=36000 from rfl];omega)]
  simp -dsimp -implicitDefEqProofs [-getElem?_pos,go_sem,hP,cReg,cMov]
  refine callB_is (fi.lift _ _) hP en_146 (by simp[ir,imm_sc]) (imm_pair is .sc) ?_
  simp -dsimp -implicitDefEqProofs [-getElem?_pos,go_sem,hP,k3,d1,d2,d3]
  exact done_nil2 3 (qe 8 e2 (by omega))
 have d3:decide (36000<m.Day)=false:=decide_eq_false a3
 rw[if_neg (by rw[show (if (3:Int)=3 then (36000:Int)else s.Maturity)=36000 from rfl];simp only[Int.max_def];split<;>omega)]at hR0
 by_cases a4:m.Amount<1
 ·have d4:decide (m.Amount<1)=true:=decide_eq_true a4
  have e2:R=79:=by rw[hR0,if_pos (.inl (by omega))]
  simp -dsimp -implicitDefEqProofs [-getElem?_pos,go_sem,hP,cReg,cMov]
  refine callB_is (fi.lift _ _) hP en_146 (by simp[ir,imm_sc]) (imm_pair is .sc) ?_
  simp -dsimp -implicitDefEqProofs [-getElem?_pos,go_sem,hP,k3,d1,d2,d3,d4]
  exact done_nil2 3 (qe 79 e2 (by omega))
 have d4:decide (m.Amount<1)=false:=decide_eq_false a4
 by_cases a5:1000000000000<m.Amount
 ·have d5:decide (1000000000000<m.Amount)=true:=decide_eq_true a5
  have e2:R=79:=by rw[hR0,if_pos (.inr (.inl a5))]
  simp -dsimp -implicitDefEqProofs [-getElem?_pos,go_sem,hP,cReg,cMov]
  refine callB_is (fi.lift _ _) hP en_146 (by simp[ir,imm_sc]) (imm_pair is .sc) ?_
  simp -dsimp -implicitDefEqProofs [-getElem?_pos,go_sem,hP,k3,d1,d2,d3,d4,d5]
  exact done_nil2 3 (qe 79 e2 (by omega))
 have d5:decide (1000000000000<m.Amount)=false:=decide_eq_false a5
 have tm:m.Amount.tmod s.Unit=m.Amount%s.Unit:=Int.tmod_eq_emod_of_nonneg (by omega)
 by_cases a6:m.Amount%s.Unit=0
 rotate_left
 ·have d6:decide (m.Amount%s.Unit=0)=false:=decide_eq_false a6
  have e2:R=79:=by rw[hR0,if_pos (.inr (.inr a6))]
  simp -dsimp -implicitDefEqProofs [-getElem?_pos,go_sem,hP,cReg,cMov]
  refine callB_is (fi.lift _ _) hP en_146 (by simp[ir,imm_sc]) (imm_pair is .sc) ?_
  simp -dsimp -implicitDefEqProofs [-getElem?_pos,go_sem,hP,k3,d1,d2,d3,d4,d5,aint_rem un,un,tm,d6]
  exact done_nil2 3 (qe 79 e2 (by omega))
 have d6:decide (m.Amount%s.Unit=0)=true:=decide_eq_true a6
 rw[if_neg (by omega)]at hR0
 have hh:=rholder_pf m.From
 by_cases a7:holderB m.From=true
 rotate_left
 ·have d7:holderB m.From=false:=by simpa using a7
  have e2:R=6:=by
   rw[hR0,if_pos]
   simp[strangeB,hk,hz,d7]
  rw[d7]at hh
  simp -dsimp -implicitDefEqProofs [-getElem?_pos,go_sem,hP,cReg,cMov]
  refine callB_is (fi.lift _ _) hP en_146 (by simp[ir,imm_sc]) (imm_pair is .sc) ?_
  simp -dsimp -implicitDefEqProofs [-getElem?_pos,go_sem,hP,k3,k1,d1,d2,d3,d4,d5,aint_rem un,un,tm,d6]
  refine adrawB (fun _=>true) [] hP (by kernel_rfl) (by kernel_rfl) ?_
  simp -dsimp -implicitDefEqProofs [-getElem?_pos,go_sem,hP,k3,k1,d1,d2,d3,d4,d5,aint_rem un,un,tm,d6]
  refine callB_is (hh.lift _ _) hP en_296 (by simp[imm_sc]) .sc ?_
  simp -dsimp -implicitDefEqProofs [-getElem?_pos,go_sem,hP,k3,k1,d1,d2,d3,d4,d5,aint_rem un,un,tm,d6]
  exact done_nil2 3 (qe 6 e2 (by omega))
 have hb:1≤m.From∧m.From≤1000:=by simpa[holderB]using a7
 rw[a7]at hh
 rw[if_neg (by simp[strangeB,hk,hz,a7])]at hR0
 have he:=rheld_pf l m.Security m.From (by omega)
 have hq:=heldF_eq (id:=m.Security) (h:=m.From) ok.srt
 rw[hq]at he
 have hp:=(sumQ_le (hIs m.Security m.From) hAm l ok.pos).1
 by_cases a8:heldH l m.Security m.From<m.Amount
 ·have d8:decide (heldH l m.Security m.From<m.Amount)=true:=decide_eq_true a8
  have e2:R=77:=by rw[hR0,if_pos ⟨by omega,a8⟩]
  simp -dsimp -implicitDefEqProofs [-getElem?_pos,go_sem,hP,cReg,cMov]
  refine callB_is (fi.lift _ _) hP en_146 (by simp[ir,imm_sc]) (imm_pair is .sc) ?_
  simp -dsimp -implicitDefEqProofs [-getElem?_pos,go_sem,hP,k3,k1,d1,d2,d3,d4,d5,aint_rem un,un,tm,d6]
  refine adrawB (fun _=>true) [] hP (by kernel_rfl) (by kernel_rfl) ?_
  simp -dsimp -implicitDefEqProofs [-getElem?_pos,go_sem,hP,k3,k1,d1,d2,d3,d4,d5,aint_rem un,un,tm,d6]
  refine callB_is (hh.lift _ _) hP en_296 (by simp[imm_sc]) .sc ?_
  simp -dsimp -implicitDefEqProofs [-getElem?_pos,go_sem,hP,k3,k1,d1,d2,d3,d4,d5,aint_rem un,un,tm,d6]
  refine adrawB (fun _=>true) [] hP (by kernel_rfl) (by kernel_rfl) ?_
  simp -dsimp -implicitDefEqProofs [-getElem?_pos,go_sem,hP,k3,k1,d1,d2,d3,d4,d5,aint_rem un,un,tm,d6]
  refine callB_is (he.lift _ _) hP en_297 (by simp[il,imm_sc]) .sc ?_
  simp -dsimp -implicitDefEqProofs [-getElem?_pos,go_sem,hP,k3,k1,d1,d2,d3,d4,d5,aint_rem un,un,tm,d6,d8]
  exact done_nil2 3 (qe 77 e2 (by omega))
 have d8:decide (heldH l m.Security m.From<m.Amount)=false:=decide_eq_false a8
 rw[if_neg (fun c=>a8 c.2),if_neg (by omega)]at hR0
 have eG:G=setH l m.Security m.From (-m.Amount):=by rw[hG,goH,if_pos hz,if_neg (by omega)]
 have hp2:heldH l m.Security m.From≤1000000000000:=held_le ok _ _
 have st:=rset_pf l m.Security m.From (-m.Amount) ok.srt (by omega) (by rw[hq];unfold heldH at*;omega)
 rw[←eG]at st
 have w1:=wrap_in (-m.Amount) (by omega)
 simp -dsimp -implicitDefEqProofs [-getElem?_pos,go_sem,hP,cReg,cMov]
 refine callB_is (fi.lift _ _) hP en_146 (by simp[ir,imm_sc]) (imm_pair is .sc) ?_
 simp -dsimp -implicitDefEqProofs [-getElem?_pos,go_sem,hP,k3,k1,d1,d2,d3,d4,d5,aint_rem un,un,tm,d6]
 refine adrawB (fun _=>true) [] hP (by kernel_rfl) (by kernel_rfl) ?_
 simp -dsimp -implicitDefEqProofs [-getElem?_pos,go_sem,hP,k3,k1,d1,d2,d3,d4,d5,aint_rem un,un,tm,d6]
 refine callB_is (hh.lift _ _) hP en_296 (by simp[imm_sc]) .sc ?_
 simp -dsimp -implicitDefEqProofs [-getElem?_pos,go_sem,hP,k3,k1,d1,d2,d3,d4,d5,aint_rem un,un,tm,d6]
 refine adrawB (fun _=>true) [] hP (by kernel_rfl) (by kernel_rfl) ?_
 simp -dsimp -implicitDefEqProofs [-getElem?_pos,go_sem,hP,k3,k1,d1,d2,d3,d4,d5,aint_rem un,un,tm,d6]
 refine callB_is (he.lift _ _) hP en_297 (by simp[il,imm_sc]) .sc ?_
 simp -dsimp -implicitDefEqProofs [-getElem?_pos,go_sem,hP,k3,k1,d1,d2,d3,d4,d5,aint_rem un,un,tm,d6,d8]
 refine adrawB (fun _=>true) [] hP (by kernel_rfl) (by kernel_rfl) ?_
 simp -dsimp -implicitDefEqProofs [-getElem?_pos,go_sem,hP,k3,k1,d1,d2,d3,d4,d5,aint_rem un,un,tm,d6,w1]
 refine callB_is (st.lift _ _) hP en_299 (by simp[il,imm_sc]) (imm_holds _) ?_
 simp -dsimp -implicitDefEqProofs [-getElem?_pos,go_sem,hP,k3,k1,d1,d2,d3,d4,d5,aint_rem un,un,tm,d6]
 exact done_imm (imm_pair (imm_holds _) .sc) (qo hR0)
open Go.PA
open Go.RowKit
theorem listRe_pf_hols (a:List THolding) (ha:a.length≤100000):
  PFun Tryz.prog none none 207 [.list 3 (encL THolding.cells a),.list 3 (encL THolding.cells a)] (·=bv true):=by
 refine pfun_intro Tryz.func207 rfl (by simp[Tryz.f207]) (by kernel_rfl) ?_
 intro E hP hr hs hW hN
 simp -dsimp -implicitDefEqProofs [-getElem?_pos,go_sem,hP]
 obtain⟨I,hI⟩:∃I:Nat→St→Prop,I=fun m s=>∃k:Nat,k≤a.length∧m=a.length-k∧s.t 0= .list 3 (encL THolding.cells a)∧s.t 1= .list 3 (encL THolding.cells a)∧s.t 12=iv a.length∧s.t 13=iv k:=⟨_,rfl⟩
 refine aloop0 I (a.length) (by rw[hN];rfl) ?_ ?_
 ·rw[hI]
  exact⟨0,by omega,by omega,by simp -dsimp[-getElem?_pos,go_sem],by simp -dsimp[-getElem?_pos,go_sem],by simp -dsimp[-getElem?_pos,go_sem],by simp -dsimp[-getElem?_pos,go_sem]⟩
 intro m s hs'
 rw[hI]at hs'
 obtain⟨k,hk,hm,t0,t1,t12,t13⟩:=hs'
 simp -dsimp -implicitDefEqProofs [-getElem?_pos,go_sem,hP,t12,t13]
 refine condP (fun h=>?_) (fun h=>?_)
 ·have hk:k<a.length:=by simpa using h
  obtain⟨x,hx⟩:∃x,a[k]?=some x:=⟨_,List.getElem?_eq_getElem hk⟩
  have wk:=wrap_in ((k:Int)+1) (by omega)
  simp -dsimp -implicitDefEqProofs [-getElem?_pos,go_sem,hP,t13]
  refine adrawB (fun _=>true) [] hP (by kernel_rfl) (by kernel_rfl) ?_
  simp -dsimp -implicitDefEqProofs [-getElem?_pos,go_sem,hP,t0,t1,hx,THolding.cells,t13,wk]
  refine⟨a.length-(k+1),by omega,?_⟩
  rw[hI]
  exact⟨k+1,by omega,rfl,by simp -dsimp[-getElem?_pos,go_sem,t0],by simp -dsimp[-getElem?_pos,go_sem,t1],by simp -dsimp[-getElem?_pos,go_sem,t12],by simp -dsimp[-getElem?_pos,go_sem]⟩
 ·simp -dsimp -implicitDefEqProofs [-getElem?_pos,go_sem,hP]
open Go.PA
open Go.RowKit
def MvOk (m:TMove):Prop:=(m.Kind=1∧m.From=0)∨(m.Kind=3∧m.To=0)
theorem rmoveK_pf (r:TRegister) (l:List THolding) {N:Nat} (day:Int) (m:TMove) (ok:HoldOk l N) (hl:l.length≤10000) (hs:∀s,s∈r.Securities→secB s=true) (hsl:r.Securities.length≤100000) (hk:MvOk m):
  PFun Tryz.prog none none 266 [.agg r.cells,holdsL l,iv day,.agg m.cells] (·= .tup [holdsL (if moveE r.Securities l day m=0 then goH l m else []),iv (moveE r.Securities l day m)]):=by
 rcases hk with⟨h1,h2⟩|⟨h1,h2⟩
 ·exact rmove1_pf r l day m ok hl hs hsl h1 h2
 ·exact rmove3_pf r l day m ok hl hs hsl h1 h2
theorem runs_days {secs:List TSecurity} (hs:∀s,s∈secs→secB s=true) {u:RepSt} {ms:List TMove} (h:Runs secs rep0 ms u):∀m,m∈ms→0≤m.Day∧m.Day≤36000:=by
 induction h with
 |nil=>intro m hm;cases hm
 |@snoc u ms m _ hst ih=>
  intro x hx
  rcases List.mem_append.1 hx with hx|hx
  ·exact ih x hx
  ·simp at hx
   subst hx
   obtain⟨s,hm⟩:=moveE_ok hst.2.2
   have so:=secOk (hs s (List.mem_of_find?_eq_some hm.sec))
   have d:=hm.day
   have i:=so.iss
   have t:=so.mat
   split at d<;>simp only[Int.max_def,Int.min_def]at d t<;>(repeat' split at d)<;>(repeat' split at t)<;>omega
theorem args_hold {X:AV} {l:List THolding} {H:Heap} {bs bs':List AV} (h:X=holdsL l∨(X= .nil∧l=[])) (ht:Args H bs bs'):Args H (X::bs) (holdsL l::bs'):=by
 rcases h with rfl|⟨rfl,rfl⟩
 ·exact args_imm (imm_holds _) ht
 ·exact args_nilL ht
theorem hold_srefs {X:AV} {l:List THolding} (h:X=holdsL l∨(X= .nil∧l=[])):srefs X=[]:=by
 rcases h with rfl|⟨rfl,rfl⟩
 ·exact srefs_imm (imm_holds l)
 ·rfl
set_option maxHeartbeats 4000000 in
theorem runtil_pf (r:TRegister) (d:Int) (h:RegOk r d) (hk:∀m,m∈r.Moves→MvOk m):PFun Tryz.prog none none 206 [.agg r.cells,iv 36000] (·= .tup [holdsL r.Holdings,bv true]):=by
 have hin:=h.regIn
 have hml:=hin.ml
 have hsl:=hin.sl
 have hd:=runs_days hin.so h.run
 refine pfun_intro Tryz.func206 rfl (by simp[Tryz.f206]) (by kernel_rfl) ?_
 intro E hP hr hs hW hN
 have ir:=imm_reg r
 simp -dsimp -implicitDefEqProofs [-getElem?_pos,go_sem,hP,cReg]
 obtain⟨I,hI⟩:∃I:Nat→St→Prop,I=fun m s=>∃(k:Nat) (v:RepSt) (X:AV),k≤r.Moves.length∧m=r.Moves.length-k∧Runs r.Securities rep0 (r.Moves.take k) v∧(X=holdsL v.l∨(X= .nil∧v.l=[]))∧s.t 1=iv 36000∧s.t 2= .ref 0 0 0∧s.t 6=X∧s.t 7=iv v.d∧s.t 13=movesL r.Moves∧s.t 14=iv r.Moves.length∧s.t 15=iv k∧s.H[0]?=some (some ⟨45,3,[[secsL r.Securities,holdsL r.Holdings,movesL r.Moves]]⟩):=⟨_,rfl⟩
 refine aloop0 I (r.Moves.length) (by rw[hN];rfl) ?_ ?_
 ·rw[hI]
  exact⟨0,rep0,.nil,by omega,by omega,by simpa using Runs.nil,.inr ⟨rfl,rfl⟩,by simp -dsimp[-getElem?_pos,go_sem],by simp -dsimp[-getElem?_pos,go_sem],by simp -dsimp[-getElem?_pos,go_sem],by simp -dsimp[-getElem?_pos,go_sem,rep0],by simp -dsimp[-getElem?_pos,go_sem],by simp -dsimp[-getElem?_pos,go_sem],by simp -dsimp[-getElem?_pos,go_sem],by simp -dsimp[-getElem?_pos,go_sem]⟩
 intro m s hs'
 rw[hI]at hs'
 obtain⟨k,v,X,hkl,hm,hv,hX,t1,t2,t6,t7,t13,t14,t15,g0⟩:=hs'
 have l0:=(gsI g0)
 simp -dsimp -implicitDefEqProofs [-getElem?_pos,go_sem,hP,t14,t15]
 refine condP (fun hq=>?_) (fun hq=>?_)
 ·have hkl:k<r.Moves.length:=by simpa using hq
  obtain⟨m,hm0⟩:∃m,r.Moves[k]?=some m:=⟨_,List.getElem?_eq_getElem hkl⟩
  have wk:=wrap_in ((k:Int)+1) (by omega)
  have hmm:=List.mem_of_getElem? hm0
  have md:=hd m hmm
  have mk:=hk m hmm
  have hvn:v.n=k:=by have:=hv.n;simp[rep0]at this;omega
  obtain⟨v',hv',hst⟩:=h.run.take k
  have ev:v'=v:=by rw[hv'.det,hv.det]
  subst ev
  obtain⟨⟨s1,s2,s3⟩,hv2⟩:=hst m hm0
  have hok:=hv.ok
  have hvl:=hok.len
  rw[List.length_take]at hvl
  have mv:=rmoveK_pf r v'.l v'.d m hok (by omega) hin.so (by omega) mk
  rw[s3,if_pos rfl]at mv
  have im:=imm_mov m
  rw[cReg]at ir mv
  rw[cMov]at im mv
  rw[hvn]at s1
  have d0:decide (36000<m.Day)=false:=decide_eq_false (by omega)
  have d1:decide (m.Number=(k:Int)+1)=true:=decide_eq_true s1
  have d2:decide (m.Kind<1)=false:=decide_eq_false (by omega)
  have d3:decide (3<m.Kind)=false:=decide_eq_false (by omega)
  have g0':∀Y:List (Option AObj),(s.H++Y)[0]?=_:=fun Y=>(List.getElem?_append_left l0).trans g0
  have l00:0<s.H.length+1:=by omega
  have fin:∀s3:St,(s3.t 1=iv 36000∧s3.t 2= .ref 0 0 0∧s3.t 6=holdsL (goH v'.l m)∧s3.t 7=iv m.Day∧s3.t 13=movesL r.Moves∧s3.t 14=iv r.Moves.length∧s3.t 15=iv ((k:Int)+1))→s3.H[0]?=some (some ⟨45,3,[[secsL r.Securities,holdsL r.Holdings,movesL r.Moves]]⟩)→I (r.Moves.length-(k+1)) s3:=by
   rintro s3 ⟨a1,a2,a3,a4,a5,a6,a7⟩ a8
   rw[hI]
   exact⟨k+1,stepR v' m,holdsL (goH v'.l m),by omega,rfl,hv2,.inl rfl,a1,a2,a3,a4,a5,a6,a7,a8⟩
  rcases mk with⟨k1,f0⟩|⟨k1,f0⟩
  ·have e1:decide (m.Kind=1)=true:=decide_eq_true k1
   have e3:decide (m.Kind=3)=false:=decide_eq_false (by omega)
   have ef:decide (m.From=0)=true:=decide_eq_true f0
   simp -dsimp -implicitDefEqProofs [-getElem?_pos,go_sem,hP,t13,t15,hm0,cMov,t1,d0,wk,d1,d2,d3,e1,e3,ef,t2,g0',l00,t6,t7]
   refine callB_imm (mv.lift _ _) hP en_266 (args_imm ir (args_hold hX (args_same (by simp[im,imm_sc])))) ?_ (imm_pair (imm_holds _) .sc) ?_
   ·simp only[List.mem_cons,List.not_mem_nil,or_false,forall_eq_or_imp,forall_eq]
    exact⟨srefs_imm ir,hold_srefs hX,rfl,srefs_imm im⟩
   simp -dsimp -implicitDefEqProofs [-getElem?_pos,go_sem,hP]
   refine adrawB (fun _=>true) [] hP (by kernel_rfl) (by kernel_rfl) ?_
   simp -dsimp -implicitDefEqProofs [-getElem?_pos,go_sem,hP,t15,wk]
   refine⟨r.Moves.length-(k+1),by omega,?_⟩
   exact fin _ ⟨by simp -dsimp[-getElem?_pos,go_sem,t1],by simp -dsimp[-getElem?_pos,go_sem,t2],by simp -dsimp[-getElem?_pos,go_sem],by simp -dsimp[-getElem?_pos,go_sem],by simp -dsimp[-getElem?_pos,go_sem,t13],by simp -dsimp[-getElem?_pos,go_sem,t14],by simp -dsimp[-getElem?_pos,go_sem]⟩ (by simp -dsimp[-getElem?_pos,go_sem,g0'])
  ·have e1:decide (m.Kind=1)=false:=decide_eq_false (by omega)
   have e3:decide (m.Kind=3)=true:=decide_eq_true k1
   have ef:decide (m.To=0)=true:=decide_eq_true f0
   simp -dsimp -implicitDefEqProofs [-getElem?_pos,go_sem,hP,t13,t15,hm0,cMov,t1,d0,wk,d1,d2,d3,e1,e3,ef,t2,g0',l00,t6,t7]
   refine callB_imm (mv.lift _ _) hP en_266 (args_imm ir (args_hold hX (args_same (by simp[im,imm_sc])))) ?_ (imm_pair (imm_holds _) .sc) ?_
   ·simp only[List.mem_cons,List.not_mem_nil,or_false,forall_eq_or_imp,forall_eq]
    exact⟨srefs_imm ir,hold_srefs hX,rfl,srefs_imm im⟩
   simp -dsimp -implicitDefEqProofs [-getElem?_pos,go_sem,hP]
   refine adrawB (fun _=>true) [] hP (by kernel_rfl) (by kernel_rfl) ?_
   simp -dsimp -implicitDefEqProofs [-getElem?_pos,go_sem,hP,t15,wk]
   refine⟨r.Moves.length-(k+1),by omega,?_⟩
   exact fin _ ⟨by simp -dsimp[-getElem?_pos,go_sem,t1],by simp -dsimp[-getElem?_pos,go_sem,t2],by simp -dsimp[-getElem?_pos,go_sem],by simp -dsimp[-getElem?_pos,go_sem],by simp -dsimp[-getElem?_pos,go_sem,t13],by simp -dsimp[-getElem?_pos,go_sem,t14],by simp -dsimp[-getElem?_pos,go_sem]⟩ (by simp -dsimp[-getElem?_pos,go_sem,g0'])
 ·have hkl:k=r.Moves.length:=by simp at hq;omega
  subst hkl
  rw[List.take_length]at hv
  have ev:v=⟨r.Holdings,r.Moves.length,d⟩:=by rw[hv.det,h.run.det]
  rw[ev]at hX
  simp -dsimp -implicitDefEqProofs [-getElem?_pos,go_sem,hP,t6]
  rcases hX with rfl|⟨rfl,e⟩
  ·exact done_imm (imm_pair (imm_holds _) .sc) rfl
  ·simp only at e
   rw[e]
   exact done_nil2 3 rfl
set_option maxHeartbeats 4000000 in
theorem rcheck33_pf (r:TRegister) (d:Int) (h:RegOk r d) (hs0:r.Securities=secs0) (hk:∀m,m∈r.Moves→MvOk m):PFun Tryz.prog none none 145 [.agg r.cells] (·=iv 0):=by
 have hin:=h.regIn
 have h1:=hin.ml
 have h2:=hin.sl
 have h4:=h.hl
 have hdays:=runs_days hin.so h.run
 refine pfun_intro Tryz.func145 rfl (by simp[Tryz.f145]) (by kernel_rfl) ?_
 intro E hP hr hs hW hN
 have d1:decide (20<(r.Securities.length:Int))=false:=decide_eq_false (by omega)
 have d2:decide (400<(r.Moves.length:Int))=false:=decide_eq_false (by omega)
 have ir:=imm_reg r
 simp -dsimp -implicitDefEqProofs [-getElem?_pos,go_sem,hP,cReg,encL_len,d1,d2]
 obtain⟨I,hI⟩:∃I:Nat→St→Prop,I=fun m s=>∃k:Nat,k≤r.Securities.length∧m=r.Securities.length-k∧s.t 1= .ref 0 0 0∧s.t 20=secsL r.Securities∧s.t 21=iv r.Securities.length∧s.t 22=iv k∧s.H[0]?=some (some ⟨45,3,[[secsL r.Securities,holdsL r.Holdings,movesL r.Moves]]⟩):=⟨_,rfl⟩
 refine aloop0 I (r.Securities.length) (by rw[hN];rfl) ?_ ?_
 ·rw[hI]
  exact⟨0,by omega,by omega,by simp -dsimp[-getElem?_pos,go_sem],by simp -dsimp[-getElem?_pos,go_sem],by simp -dsimp[-getElem?_pos,go_sem,encL_len],by simp -dsimp[-getElem?_pos,go_sem],by simp -dsimp[-getElem?_pos,go_sem]⟩
 intro m s hs'
 rw[hI]at hs'
 obtain⟨k,hk0,hm,t1,t20,t21,t22,g0⟩:=hs'
 have l0:=(gsI g0)
 simp -dsimp -implicitDefEqProofs [-getElem?_pos,go_sem,hP,t21,t22]
 refine condP (fun hq=>?_) (fun hq=>?_)
 ·have hk0:k<r.Securities.length:=by simpa using hq
  obtain⟨a,ha⟩:∃a,r.Securities[k]?=some a:=⟨_,List.getElem?_eq_getElem hk0⟩
  have wk:=wrap_in ((k:Int)+1) (by omega)
  have sp:=rsec_pf (s:=a) (by rw[←hs0];exact List.mem_of_getElem? ha)
  rw[cSec]at sp
  have g0':∀x:Heap,(s.H++x)[0]?=some (some ⟨45,3,[[secsL r.Securities,holdsL r.Holdings,movesL r.Moves]]⟩):=fun x=>by rw[List.getElem?_append_left l0];exact g0
  simp -dsimp -implicitDefEqProofs [-getElem?_pos,go_sem,hP,t20,t22,ha,cSec]
  refine adrawB (fun _=>true) [] hP (by kernel_rfl) (by kernel_rfl) ?_
  simp -dsimp -implicitDefEqProofs [-getElem?_pos,go_sem,hP]
  refine callB_pure sp hP en_147 (args_same (by simp -dsimp[-getElem?_pos,go_sem])) .sc ?_
  by_cases k0:k=0
  ·subst k0
   have w1:=wrap_in 1 (by omega)
   simp -dsimp -implicitDefEqProofs [-getElem?_pos,go_sem,hP,t1,g0',t22,wk,w1]
   refine⟨r.Securities.length-1,by omega,?_⟩
   rw[hI]
   exact⟨1,by omega,rfl,by simp -dsimp[-getElem?_pos,go_sem,t1],by simp -dsimp[-getElem?_pos,go_sem,t20],by simp -dsimp[-getElem?_pos,go_sem,t21],by simp -dsimp[-getElem?_pos,go_sem,w1],by simp -dsimp[-getElem?_pos,go_sem,g0']⟩
  ·obtain⟨j,rfl⟩:∃j,k=j+1:=⟨k-1,by omega⟩
   obtain⟨z,hz⟩:∃z,r.Securities[j]?=some z:=⟨_,List.getElem?_eq_getElem (by omega)⟩
   have lt:=hin.asc j z a hz ha
   have dj:decide ((0:Int)<((j+1:Nat):Int))=true:=decide_eq_true (by omega)
   have wj:=wrap_in (((j+1:Nat):Int)-1) (by omega)
   have ej:((j+1:Nat):Int)-1=(j:Int):=by omega
   have dl:decide (a.ID≤z.ID)=false:=decide_eq_false (by omega)
   have lj:j<r.Securities.length:=by omega
   rw[ej]at wj
   have wk2:=wrap_in ((j:Int)+1+1) (by omega)
   simp -dsimp -implicitDefEqProofs [-getElem?_pos,go_sem,hP,t1,g0',t22,wk,wk2,dj,wj,ej,hz,cSec,dl,lj]
   refine⟨r.Securities.length-(j+1+1),by omega,?_⟩
   rw[hI]
   exact⟨j+1+1,by omega,rfl,by simp -dsimp[-getElem?_pos,go_sem,t1],by simp -dsimp[-getElem?_pos,go_sem,t20],by simp -dsimp[-getElem?_pos,go_sem,t21],by simp -dsimp[-getElem?_pos,go_sem,wk2],by simp -dsimp[-getElem?_pos,go_sem,g0']⟩
 simp -dsimp -implicitDefEqProofs [-getElem?_pos,go_sem,hP,t1,g0,l0,encL_len]
 obtain⟨J,hJ⟩:∃I:Nat→St→Prop,I=fun m s=>∃k:Nat,k≤r.Moves.length∧m=r.Moves.length-k∧s.t 1= .ref 0 0 0∧s.t 48=movesL r.Moves∧s.t 49=iv r.Moves.length∧s.t 50=iv k∧s.H[0]?=some (some ⟨45,3,[[secsL r.Securities,holdsL r.Holdings,movesL r.Moves]]⟩):=⟨_,rfl⟩
 refine aloop0 J (r.Moves.length) (by rw[hN];rfl) ?_ ?_
 ·rw[hJ]
  exact⟨0,by omega,by omega,by simp -dsimp[-getElem?_pos,go_sem,t1],by simp -dsimp[-getElem?_pos,go_sem],by simp -dsimp[-getElem?_pos,go_sem,encL_len],by simp -dsimp[-getElem?_pos,go_sem],by simp -dsimp[-getElem?_pos,go_sem,g0]⟩
 clear t1 t20 t21 t22 g0 l0 hk0 hm hq s
 intro m s hs'
 rw[hJ]at hs'
 obtain⟨k,hk0,hm,t1,t48,t49,t50,g0⟩:=hs'
 have l0:=(gsI g0)
 simp -dsimp -implicitDefEqProofs [-getElem?_pos,go_sem,hP,t49,t50]
 refine condP (fun hq=>?_) (fun hq=>?_)
 ·have hk0:k<r.Moves.length:=by simpa using hq
  obtain⟨a,ha⟩:∃a,r.Moves[k]?=some a:=⟨_,List.getElem?_eq_getElem hk0⟩
  have wk:=wrap_in ((k:Int)+1) (by omega)
  have hd:=hdays a (List.mem_of_getElem? ha)
  have d3:decide (a.Day<0)=false:=decide_eq_false (by omega)
  have d4:decide (36000<a.Day)=false:=decide_eq_false (by omega)
  simp -dsimp -implicitDefEqProofs [-getElem?_pos,go_sem,hP,t48,t50,ha,cMov,d3,d4,wk]
  refine⟨r.Moves.length-(k+1),by omega,?_⟩
  rw[hJ]
  refine⟨k+1,by omega,rfl,by simp -dsimp[-getElem?_pos,go_sem,t1],by simp -dsimp[-getElem?_pos,go_sem,t48],by simp -dsimp[-getElem?_pos,go_sem,t49],by simp -dsimp[-getElem?_pos,go_sem],?_⟩
  simp -dsimp -implicitDefEqProofs [-getElem?_pos,go_sem]
  rw[List.getElem?_append_left l0]
  exact g0
 have un:=runtil_pf r d h hk
 have ihl:=imm_holds r.Holdings
 have lq:=listRe_pf_hols r.Holdings (by have:=h4.len;omega)
 rw[cReg]at un ir
 simp -dsimp -implicitDefEqProofs [-getElem?_pos,go_sem,hP,t1,g0,l0]
 refine callB_is (un.lift _ _) hP en_206 (by simp[ir,imm_sc]) (imm_pair ihl .sc) ?_
 simp -dsimp -implicitDefEqProofs [-getElem?_pos,go_sem,hP,t1,g0,l0]
 refine callB_is (lq.lift _ _) hP en_207 (by simp[ihl]) .sc ?_
 simp -dsimp -implicitDefEqProofs [-getElem?_pos,go_sem,hP]
open Go.PA
open Go.RowKit
def zeroR:TRegister:=⟨[],[],[]⟩
def chgR (r:TRegister) (m:TMove):AV:= .tup [.agg (if movE r m=0 then moved r m else zeroR).cells,iv (movE r m)]
theorem imm_chg (r:TRegister) (m:TMove):Imm (chgR r m):=imm_pair (imm_reg _) .sc
set_option maxHeartbeats 4000000 in
theorem rchange_pf (r:TRegister) (m:TMove) (k0:Int) (h:RegOk r (dR r)) (hs0:r.Securities=secs0) (hk:∀m,m∈r.Moves→MvOk m) (hl:r.Moves.length<400) (hn:m.Number=(r.Moves.length:Int)+1) (hm:MvOk m):
  PFun Tryz.prog none none 226 [.agg r.cells,.agg [iv k0,iv m.Day,iv m.Kind,iv m.Security,iv m.From,iv m.To,iv m.Amount]] (·=chgR r m):=by
 have hin:=h.regIn
 have ck:=rcheck33_pf r (dR r) h hs0 hk
 have hok:=h.hl
 have mv:=rmoveK_pf r r.Holdings (dR r) m hok (by have:=hok.len;omega) hin.so (by have:=hin.sl;omega) hm
 obtain⟨R,hR0⟩:∃R,R=movE r m:=⟨_,rfl⟩
 have hR1:moveE r.Securities r.Holdings (dR r) m=R:=hR0.symm
 rw[hR1]at mv
 obtain⟨Q,hQ⟩:∃Q:AV→Prop,Q=(·=chgR r m):=⟨_,rfl⟩
 rw[←hQ]
 have qe:R≠0→Q (.tup [.agg zeroR.cells,iv R]):=fun e=>by rw[hQ,chgR,←hR0,if_neg e]
 have qo:R=0→Q (.tup [.agg (moved r m).cells,iv 0]):=fun e=>by rw[hQ,chgR,←hR0,if_pos e,e]
 clear hQ
 have ir:=imm_reg r
 have im:=imm_mov m
 have ih:=imm_holds (if R=0 then goH r.Holdings m else [])
 rw[cMov]at im mv
 rw[cReg]at ck ir mv
 refine pfun_intro Tryz.func226 rfl (by simp[Tryz.f226]) (by kernel_rfl) ?_
 intro E hP hr hs hW hN
 have wn:=wrap_in ((r.Moves.length:Int)+1) (by omega)
 have dl:decide ((r.Moves.length:Int)=400)=false:=decide_eq_false (by omega)
 have en:encL TMove.cells r.Moves++[[iv m.Number,iv m.Day,iv m.Kind,iv m.Security,iv m.From,iv m.To,iv m.Amount]]=encL TMove.cells (r.Moves++[m]):=encL_snoc TMove.cells r.Moves m
 simp -dsimp -implicitDefEqProofs [-getElem?_pos,go_sem,hP,cReg,cMov]
 refine callB_is (ck.lift _ _) hP en_145 (by simp[ir]) .sc ?_
 have hlast:(r.Moves.length=0∧dR r=0)∨∃k x,r.Moves.length=k+1∧r.Moves[k]?=some x∧dR r=x.Day:=by
  rcases List.eq_nil_or_concat r.Moves with e|⟨l,x,e⟩
  ·exact .inl ⟨by rw[e];rfl,by rw[dR,e];rfl⟩
  ·rw[List.concat_eq_append]at e
   exact .inr ⟨l.length,x,by rw[e];simp,by rw[e];simp,by rw[dR,e];simp⟩
 rcases hlast with⟨e0,ed⟩|⟨k,x,e0,ex,ed⟩
 ·rw[ed]at mv
  have d0:decide ((0:Int)<(r.Moves.length:Int))=false:=decide_eq_false (by omega)
  have d0':¬0<r.Moves.length:=by omega
  simp -dsimp -implicitDefEqProofs [-getElem?_pos,go_sem,hP,encL_len,dl,d0,d0',wn]
  rw[←hn]
  refine callB_is (mv.lift _ _) hP en_266 (by simp[ir,im,imm_sc,imm_holds]) (imm_pair ih .sc) ?_
  by_cases he:R=0
  rotate_left
  ·have de:decide (R=0)=false:=decide_eq_false he
   simp -dsimp -implicitDefEqProofs [-getElem?_pos,go_sem,hP,de]
   exact done_agg2 cw_zeroR (qe he)
  have fin:=qo he
  subst he
  rw[if_pos rfl]at ih
  have hm0:r.Moves=[]:=List.eq_nil_of_length_eq_zero e0
  simp -dsimp -implicitDefEqProofs [-getElem?_pos,go_sem,hP]
  refine adrawB (fun id=>decide (id<2)) [7] hP (by kernel_rfl) (by kernel_rfl) ?_
  simp -dsimp -implicitDefEqProofs [-getElem?_pos,go_sem,hP,restr_get,hm0,encL]
  refine⟨agree_2,agree_2,?_⟩
  refine done_agg2 (cs':=(moved r m).cells) ?_ fin
  exact cw_imm (imm_secs _) (cw_imm ih (cw_sref (ty:=70) (id:=4) (es:=encL TMove.cells (r.Moves++[m])) (by rw[hm0];rfl) (by rw[hm0];rfl) (imm_moves _) .nil))
 ·rw[ed]at mv
  have d0:decide ((0:Int)<(r.Moves.length:Int))=true:=decide_eq_true (by omega)
  have d0':0<r.Moves.length:=by omega
  have wj:IntKind.i64.wrap ((r.Moves.length:Int)-1)=(k:Int):=by rw[wrap_in _ (by omega)];omega
  simp -dsimp -implicitDefEqProofs [-getElem?_pos,go_sem,hP,encL_len,dl,d0,d0',wn,wj,ex,cMov]
  rw[←hn]
  refine callB_is (mv.lift _ _) hP en_266 (by simp[ir,im,imm_sc,imm_holds]) (imm_pair ih .sc) ?_
  by_cases he:R=0
  rotate_left
  ·have de:decide (R=0)=false:=decide_eq_false he
   simp -dsimp -implicitDefEqProofs [-getElem?_pos,go_sem,hP,de]
   exact done_agg2 cw_zeroR (qe he)
  have fin:=qo he
  subst he
  rw[if_pos rfl]at ih
  simp -dsimp -implicitDefEqProofs [-getElem?_pos,go_sem,hP]
  refine adrawB (fun id=>decide (id<2)) [7] hP (by kernel_rfl) (by kernel_rfl) ?_
  simp -dsimp -implicitDefEqProofs [-getElem?_pos,go_sem,hP,restr_get,d0,d0',encL_len]
  refine⟨by omega,by omega,agree_2,by omega,by omega,agree_2,?_⟩
  refine done_agg2 (cs':=(moved r m).cells) ?_ fin
  exact cw_imm (imm_secs _) (cw_imm ih (cw_sref (ty:=70) (id:=4) (es:=encL TMove.cells (r.Moves++[m])) (by rw[←en];rfl) (by simp[encL]) (imm_moves _) .nil))
theorem rissue_pf (r:TRegister) (day id h n:Int) (ok:RegOk r (dR r)) (hs0:r.Securities=secs0) (hk:∀m,m∈r.Moves→MvOk m) (hl:r.Moves.length<400):
  PFun Tryz.prog none none 155 [.agg r.cells,iv day,iv id,iv h,iv n] (·=chgR r (movR r day 1 id 0 h n)):=by
 have ch:=rchange_pf r (movR r day 1 id 0 h n) 0 ok hs0 hk hl rfl (.inl ⟨rfl,rfl⟩)
 have ir:=imm_reg r
 have ic:=imm_chg r (movR r day 1 id 0 h n)
 have e:[iv 0,iv (movR r day 1 id 0 h n).Day,iv (movR r day 1 id 0 h n).Kind,iv (movR r day 1 id 0 h n).Security,iv (movR r day 1 id 0 h n).From,iv (movR r day 1 id 0 h n).To,iv (movR r day 1 id 0 h n).Amount]=[iv 0,iv day,iv 1,iv id,iv 0,iv h,iv n]:=rfl
 rw[e]at ch
 obtain⟨R,hR⟩:∃R,R=chgR r (movR r day 1 id 0 h n):=⟨_,rfl⟩
 obtain⟨y,v,hy⟩:∃(y:TRegister) (v:Int),R= .tup [.agg y.cells,iv v]:=⟨_,_,by rw[hR];rfl⟩
 rw[←hR]at ch ic⊢
 rw[hy,cReg y]at ic ch⊢
 rw[cReg r]at ir ch⊢
 refine pfun_intro Tryz.func155 rfl (by simp[Tryz.f155]) (by kernel_rfl) ?_
 intro E hP hr hs hW hN
 simp -dsimp -implicitDefEqProofs [-getElem?_pos,go_sem,hP]
 refine callB_is (ch.lift _ _) hP en_226 (by simp[ir,imm_agg,imm_sc]) ic ?_
 simp -dsimp -implicitDefEqProofs [-getElem?_pos,go_sem,hP]
 exact done_imm ic rfl
theorem rredeem_pf (r:TRegister) (day id h n:Int) (ok:RegOk r (dR r)) (hs0:r.Securities=secs0) (hk:∀m,m∈r.Moves→MvOk m) (hl:r.Moves.length<400):
  PFun Tryz.prog none none 156 [.agg r.cells,iv day,iv id,iv h,iv n] (·=chgR r (movR r day 3 id h 0 n)):=by
 have ch:=rchange_pf r (movR r day 3 id h 0 n) 0 ok hs0 hk hl rfl (.inr ⟨rfl,rfl⟩)
 have ir:=imm_reg r
 have ic:=imm_chg r (movR r day 3 id h 0 n)
 have e:[iv 0,iv (movR r day 3 id h 0 n).Day,iv (movR r day 3 id h 0 n).Kind,iv (movR r day 3 id h 0 n).Security,iv (movR r day 3 id h 0 n).From,iv (movR r day 3 id h 0 n).To,iv (movR r day 3 id h 0 n).Amount]=[iv 0,iv day,iv 3,iv id,iv h,iv 0,iv n]:=rfl
 rw[e]at ch
 obtain⟨R,hR⟩:∃R,R=chgR r (movR r day 3 id h 0 n):=⟨_,rfl⟩
 obtain⟨y,v,hy⟩:∃(y:TRegister) (v:Int),R= .tup [.agg y.cells,iv v]:=⟨_,_,by rw[hR];rfl⟩
 rw[←hR]at ch ic⊢
 rw[hy,cReg y]at ic ch⊢
 rw[cReg r]at ir ch⊢
 refine pfun_intro Tryz.func156 rfl (by simp[Tryz.f156]) (by kernel_rfl) ?_
 intro E hP hr hs hW hN
 simp -dsimp -implicitDefEqProofs [-getElem?_pos,go_sem,hP]
 refine callB_is (ch.lift _ _) hP en_226 (by simp[ir,imm_agg,imm_sc]) ic ?_
 simp -dsimp -implicitDefEqProofs [-getElem?_pos,go_sem,hP]
 exact done_imm ic rfl
open Go.PA
open Go.RowKit
def agreeB {α β:Type} (p:α→β→Bool):List α→List β→Bool
 |[],[]=>true
 |x::a,y::b=>p x y&&agreeB p a b
 |[],_::_=>false
 |_::_,[]=>false
def incE (e:TEntry):Bool:=decide (e.Ref=0)&&(decide (e.From=0)&&!decide (e.To=1))
def fitI (x:TIncome) (e:TEntry):Bool:=decide (x.Day=e.Day)&&decide (x.Amount=e.Amount)
def trfM (m:TMove):Bool:=decide (m.Kind=2)
def fitM (m:TMove) (e:TEntry):Bool:=decide (m.Day=e.Day)&&(decide (m.Amount=e.Amount)&&decide (decide (m.Kind=1)=decide (e.From=0)))
end Go.Proofs.YtaenimpfelpafaaGreatDoor
set_option maxRecDepth 100000
namespace Go.Proofs.YtaenimpfelpafaaGreatDoor
open Go.PA
open Go.RowKit
theorem pfun_weak {P:Program} {row src:Option Nat} {f:FuncId} {args:List AV} {v x:AV} (h:PFun P row src f args (·=v)) (hi:Imm x) (hw:Weak v x):PFun P row src f args (·=x):=fun w ok vs h1 h2 h3 h4=>
 (h w ok vs h1 h2 h3 h4).mono fun _ _ ⟨u,y,e,hy,_,hr,rest⟩=>by
  subst hy
  exact⟨u,x,e,rfl,hi,hr.weak hw,rest⟩
def WkL:List AV→List AV→Prop
 |[],[]=>True
 |a::us,b::zs=>Weak a b∧WkL us zs
 |_,_=>False
theorem wkL:∀{us zs:List AV},WkL us zs→us.length=zs.length∧∀(i:Nat) (a b:AV),us[i]?=some a→zs[i]?=some b→Weak a b
 |[],[],_=>⟨rfl,fun i a b h=>by simp at h⟩
 |a::us,b::zs,⟨h,h'⟩=>by
  obtain⟨h1,h2⟩:=wkL h'
  refine⟨by simp[h1],fun i x y hx hy=>?_⟩
  cases i with
  |zero=>
   cases hx;cases hy
   exact h
  |succ i=>exact h2 i x y hx hy
 |[],_::_,h=>h.elim
 |_::_,[],h=>h.elim
def startS (c:Int):TState:=⟨⟨⟨c,[⟨1,0⟩,⟨2,0⟩,⟨3,0⟩,⟨7,0⟩],[]⟩,⟨[],[],[]⟩,[]⟩,⟨[],[],[],[]⟩,⟨secs0,[],[]⟩,⟨[]⟩⟩
theorem start_weak (c:Int):Weak (.tup [.agg [iv c,.list 2 [[iv 1,iv 0],[iv 2,iv 0],[iv 3,iv 0],[iv 7,iv 0]],.nil,.nil,.nil,.nil,.nil,.nil,.nil,.nil,.nil,.list 7 [[iv 1,iv 100,iv 0,iv 7200,iv 5000,iv 6,bv false],[iv 2,iv 100,iv 90,iv 450,iv 0,iv 0,bv false]],.nil,.nil,.nil],iv 0]) (.tup [.agg (startS c).cells,iv 0]):=by
 refine weak_tup2 ?_ (.refl _)
 obtain⟨h1,h2⟩:=wkL (us:=[iv c,.list 2 [[iv 1,iv 0],[iv 2,iv 0],[iv 3,iv 0],[iv 7,iv 0]],.nil,.nil,.nil,.nil,.nil,.nil,.nil,.nil,.nil,.list 7 [[iv 1,iv 100,iv 0,iv 7200,iv 5000,iv 6,bv false],[iv 2,iv 100,iv 90,iv 450,iv 0,iv 0,bv false]],.nil,.nil,.nil]) (zs:=(startS c).cells) ⟨.refl _,.refl _,.nil _,.nil _,.nil _,.nil _,.nil _,.nil _,.nil _,.nil _,.nil _,.refl _,.nil _,.nil _,.nil _,trivial⟩
 exact .agg h1 h2
theorem start_fit (c:Int):FitS 0 (startS c) where
 d:=⟨by simp[startS],by simp[startS],⟨by simp[startS],by simp[startS],by simp[startS],by simp[startS]⟩,by simp[startS]⟩
 c:=rfl
 cl:=⟨rfl,by simp[startS]⟩
 r:=⟨by kernel_rfl,by simp[startS,secs0],.nil,by simp[startS]⟩
 rm:=by simp[startS]
 l:=by simp[startS]
open Go.PA
open Go.RowKit
theorem agree_snoc {α β:Type} {p:α→β→Bool} {x:α} {y:β} (hp:p x y=true):∀{a:List α} {b:List β},agreeB p a b=true→agreeB p (a++[x]) (b++[y])=true
 |[],[],_=>by simp[agreeB,hp]
 |x'::a,y'::b,h=>by
  rw[agreeB,Bool.and_eq_true]at h
  rw[List.cons_append,List.cons_append,agreeB,h.1,agree_snoc hp h.2]
  rfl
 |[],_::_,h=>by simp[agreeB]at h
 |_::_,[],h=>by simp[agreeB]at h
theorem postsGo_two (b:Int):∀(l m:List TEntry) (out:List TPosting),postsGo b out (l++m)=postsGo b (postsGo b out l) m
 |[],m,out=>rfl
 |e::l,m,out=>by rw[List.cons_append,postsGo,postsGo,postsGo_two b l m]
theorem postsGo_off:∀(es:List TEntry) (b:Int) (A out:List TPosting),postsGo b (A++out) es=A++postsGo (b+(A.length:Int)) out es
 |[],b,A,out=>rfl
 |e::es,b,A,out=>by
  rw[postsGo,postsGo]
  split
  ·rw[List.append_assoc,postsGo_off es,show b+((A++out).length:Int)+1=b+(A.length:Int)+(out.length:Int)+1 from by simp;omega]
  ·exact postsGo_off es b A out
theorem bookGo_ok:∀(ps L:List TPosting),checkL L=0→(bookGo L ps).2=0→(bookGo L ps).1=L++ps∧checkL (L++ps)=0
 |[],L,hL,_=>by rw[List.append_nil];exact⟨rfl,hL⟩
 |p::ps,L,hL,h=>by
  rw[bookGo]at h⊢
  split at h
  ·rename_i hp
   rw[if_pos hp]
   obtain⟨_,_,_,_,_,o1,o2⟩:=postL_ok hp
   rw[o1]at h⊢
   have:=bookGo_ok ps (L++[p]) o2 h
   rwa[List.append_assoc]at this
  ·rename_i hp
   exact absurd h hp
theorem dok_post0 {d:TDesk} {e:TEntry} (h:DOk d) (hp:(postA d.Account e).2=0) (hr:e.Ref=0):DOk ⟨(postA d.Account e).1,d.Queue,d.Items⟩:=by
 have p1:=post_check hp
 have p2:=post_ids hp
 have p3:=post_ents hp
 refine DOk.mk' p1 h.q h.k fun z hz=>?_
 have io:=h.io hz
 have hw:=io.pay.warrant.1
 refine⟨io.pay,⟨p1,by rw[p2];exact io.sub.2⟩,io.st,io.att,io.a5,io.a0,io.w,io.bat,fun y hy er=>?_,?_,?_⟩
 ·rw[p3]at hy
  rcases List.mem_append.1 hy with hy|hy
  ·exact io.all y hy er
  ·rw[List.mem_singleton]at hy
   subst hy
   omega
 ·have:outE z.Payment e=false:=by
   unfold outE
   rw[decide_eq_false (by omega),Bool.false_and]
  rw[p3,List.countP_append]
  simp only[List.countP_cons,List.countP_nil,this]
  simpa using io.outs
 ·have:inE z.Payment e=false:=by
   unfold inE
   rw[decide_eq_false (by omega),Bool.false_and]
  rw[p3,List.countP_append]
  simp only[List.countP_cons,List.countP_nil,this]
  simpa using io.ins
structure CleanS (s:TState):Prop where
 d:DOk s.Desk
 cp:checkL s.Ledger.Postings=0
 fi:agreeB fitI s.Cash.Incomes (s.Desk.Account.Entries.filter incE)=true
 fm:agreeB fitM (s.Register.Moves.filter fun m=>!trfM m) (s.Desk.Account.Entries.filter secE)=true
 fp:s.Ledger.Postings=postsGo 0 [] s.Desk.Account.Entries
structure MidS (s t:TState):Prop where
 d:DOk t.Desk
 l:t.Ledger=s.Ledger
 fi:agreeB fitI t.Cash.Incomes (t.Desk.Account.Entries.filter incE)=true
 fm:agreeB fitM (t.Register.Moves.filter fun m=>!trfM m) (t.Desk.Account.Entries.filter secE)=true
 e:∃es,t.Desk.Account.Entries=s.Desk.Account.Entries++es
theorem desk_mid {s:TState} (h:CleanS s) {d:TDesk} {e:Int} (he:(deskS s d e).2=0) (hd:e=0→DOk d∧∃es,d.Account.Entries=s.Desk.Account.Entries++es∧∀x,x∈es→x.Ref≠0):MidS s (deskS s d e).1:=by
 unfold deskS at he⊢
 split at he
 rotate_left
 ·rename_i hn
  exact absurd he hn
 rename_i e0
 rw[if_pos e0]
 obtain⟨h1,es,h2,h3⟩:=hd e0
 have f1:es.filter incE=[]:=List.filter_eq_nil_iff.2 fun x hx=>by simp[incE,h3 x hx]
 have f2:es.filter secE=[]:=List.filter_eq_nil_iff.2 fun x hx=>by simp[secE,h3 x hx]
 refine⟨h1,rfl,?_,?_,es,h2⟩
 ·show agreeB fitI s.Cash.Incomes (d.Account.Entries.filter incE)=true
  rw[h2,List.filter_append,f1,List.append_nil]
  exact h.fi
 ·show agreeB fitM _ (d.Account.Entries.filter secE)=true
  rw[h2,List.filter_append,f2,List.append_nil]
  exact h.fm
theorem move_mid {s:TState} {c:TCash} {r:TRegister} {day f t n:Int} (h:CleanS s) (he:(moveS ⟨s.Desk,c,r,s.Ledger⟩ day f t n).2=0)
  (fi:agreeB fitI c.Incomes ((s.Desk.Account.Entries++[nextE s.Desk.Account day f t n 0]).filter incE)=true) (fm:agreeB fitM (r.Moves.filter fun m=>!trfM m) ((s.Desk.Account.Entries++[nextE s.Desk.Account day f t n 0]).filter secE)=true):
  MidS s (moveS ⟨s.Desk,c,r,s.Ledger⟩ day f t n).1:=by
 unfold moveS at he⊢
 split at he
 rotate_left
 ·rename_i hn
  exact absurd he hn
 rename_i hp
 rw[if_pos hp]
 have p3:=post_ents hp
 refine⟨dok_post0 h.d hp rfl,rfl,?_,?_,_,p3⟩
 ·show agreeB fitI c.Incomes ((postA s.Desk.Account _).1.Entries.filter incE)=true
  rw[p3]
  exact fi
 ·show agreeB fitM _ ((postA s.Desk.Account _).1.Entries.filter secE)=true
  rw[p3]
  exact fm
theorem recv_mid {s:TState} {d:TDeed} (h:CleanS s) (he:(receiveS s d).2=0):MidS s (receiveS s d).1:=by
 unfold receiveS at he⊢
 split at he
 ·simp at he
 rename_i h1
 rw[if_neg h1]
 split at he
 rotate_left
 ·rename_i hn
  exact absurd he hn
 rename_i h2
 rw[if_pos h2]
 refine move_mid h he ?_ ?_
 ·rw[List.filter_append]
  have:[nextE s.Desk.Account d.Day 0 d.Sub d.Amount 0].filter incE=[nextE s.Desk.Account d.Day 0 d.Sub d.Amount 0]:=by simp[incE,nextE,h1]
  rw[this]
  exact agree_snoc (by simp[fitI,incS,nextE]) h.fi
 ·rw[List.filter_append]
  have:[nextE s.Desk.Account d.Day 0 d.Sub d.Amount 0].filter secE=[]:=by simp[secE,nextE,h1]
  rw[this,List.append_nil]
  exact h.fm
theorem debt_mid {s:TState} {day kind ref f0 t0 n e f t:Int} (h:CleanS s) (he:(debtS s (movR s.Register day kind ref f0 t0 n) e f t n).2=0) (hk:(kind=1∧f=0∧t=1)∨(kind=3∧f=1∧t=0)):MidS s (debtS s (movR s.Register day kind ref f0 t0 n) e f t n).1:=by
 unfold debtS at he⊢
 split at he
 rotate_left
 ·rename_i hn
  exact absurd he hn
 rename_i h2
 rw[if_pos h2]
 refine move_mid h he ?_ ?_
 ·rw[List.filter_append]
  have:[nextE s.Desk.Account (movR s.Register day kind ref f0 t0 n).Day f t n 0].filter incE=[]:=by
   rcases hk with⟨_,rfl,rfl⟩|⟨_,rfl,rfl⟩<;>simp[incE,nextE]
  rw[this,List.append_nil]
  exact h.fi
 ·rw[List.filter_append]
  have e1:[nextE s.Desk.Account (movR s.Register day kind ref f0 t0 n).Day f t n 0].filter secE=[nextE s.Desk.Account (movR s.Register day kind ref f0 t0 n).Day f t n 0]:=by
   rcases hk with⟨_,rfl,rfl⟩|⟨_,rfl,rfl⟩<;>simp[secE,nextE]
  have e2:(moved s.Register (movR s.Register day kind ref f0 t0 n)).Moves.filter (fun m=>!trfM m)=s.Register.Moves.filter (fun m=>!trfM m)++[movR s.Register day kind ref f0 t0 n]:=by
   show (s.Register.Moves++[_]).filter _=_
   rw[List.filter_append]
   rcases hk with⟨rfl,_,_⟩|⟨rfl,_,_⟩<;>simp[trfM,movR]
  rw[e1,e2]
  refine agree_snoc ?_ h.fm
  rcases hk with⟨rfl,rfl,rfl⟩|⟨rfl,rfl,rfl⟩<;>simp[fitM,movR,nextE]
theorem doK_mid {s:TState} {d:TDeed} (h:CleanS s) (he:(doK s d).2=0):MidS s (doK s d).1:=by
 unfold doK at he⊢
 by_cases c1:d.Kind=1
 ·rw[if_pos c1]at he⊢
  exact recv_mid h he
 rw[if_neg c1]at he⊢
 by_cases c2:d.Kind=2
 ·rw[if_pos c2]at he⊢
  refine desk_mid h he fun e0=>?_
  obtain⟨_,_,_,hx,hd⟩:=orderD_ok (show orderD s.Desk (payS d)=((orderD s.Desk (payS d)).1,0)from Prod.ext rfl e0)
  refine⟨hd,[],?_,by simp⟩
  rw[hx,List.append_nil]
 rw[if_neg c2]at he⊢
 by_cases c3:d.Kind=3
 ·rw[if_pos c3]at he⊢
  refine desk_mid h he fun e0=>?_
  obtain⟨_,_,_,_,ps,a,hsub,_,_,_,_,hs,_,hx,hd⟩:=sendD_ok (show sendD s.Desk d.Day=((sendD s.Desk d.Day).1,(sendD s.Desk d.Day).2.1,0)from Prod.ext rfl (Prod.ext rfl e0))
  obtain⟨es,h2,h3,_⟩:=hs.ents
  refine⟨hd,es,?_,fun x hx=>?_⟩
  ·rw[hx]
   exact h2
  ·have:keyE x∈ps.map keyP:=by rw[←h3];exact List.mem_map.2 ⟨x,hx,rfl⟩
   obtain⟨p,hp,hk⟩:=List.mem_map.1 this
   have hr:=hsub.subset hp
   unfold readyQ at hr
   split at hr
   ·have hw:=(List.mem_filter.1 hr).1
    have:=(h.d.q.asc.pay p hw).warrant.1
    have e1:p.Warrant=x.Ref:=congrArg Prod.fst hk
    omega
   ·cases hr
 rw[if_neg c3]at he⊢
 by_cases c4:d.Kind=4
 ·rw[if_pos c4]at he⊢
  refine desk_mid h he fun e0=>?_
  obtain⟨_,⟨k,y,_,_,_,hx⟩,hd⟩:=settleD_ok (show settleD s.Desk d.Ref=((settleD s.Desk d.Ref).1,0)from Prod.ext rfl e0)
  refine⟨hd,[],?_,by simp⟩
  rw[hx,List.append_nil]
 rw[if_neg c4]at he⊢
 by_cases c5:d.Kind=5
 ·rw[if_pos c5]at he⊢
  refine desk_mid h he fun e0=>?_
  obtain⟨hd0,⟨k,y,hy,hw,_,hp,hx⟩,hd⟩:=returnD_ok (show returnD s.Desk d.Ref d.Day=((returnD s.Desk d.Ref d.Day).1,0)from Prod.ext rfl e0)
  refine⟨hd,[nextE s.Desk.Account d.Day 0 y.Payment.Sub y.Payment.Amount d.Ref],?_,fun x hm=>?_⟩
  ·rw[hx]
   exact post_ents hp
  ·rw[List.mem_singleton]at hm
   rw[hm]
   show d.Ref≠0
   have:=(hd0.io (List.mem_of_getElem? hy)).pay.warrant.1
   omega
 rw[if_neg c5]at he⊢
 by_cases c6:d.Kind=6
 ·rw[if_pos c6]at he⊢
  refine desk_mid h he fun e0=>?_
  obtain⟨_,⟨k,y,_,_,_,hx⟩,hd⟩:=recallD_ok (show recallD s.Desk d.Ref=((recallD s.Desk d.Ref).1,0)from Prod.ext rfl e0)
  refine⟨hd,[],?_,by simp⟩
  rw[hx,List.append_nil]
 rw[if_neg c6]at he⊢
 by_cases c7:d.Kind=7
 ·rw[if_pos c7]at he⊢
  exact debt_mid h he (.inl ⟨rfl,rfl,rfl⟩)
 rw[if_neg c7]at he⊢
 by_cases c8:d.Kind=8
 ·rw[if_pos c8]at he⊢
  exact debt_mid h he (.inr ⟨rfl,rfl,rfl⟩)
 rw[if_neg c8]at he⊢
 by_cases c9:d.Kind=9
 ·rw[if_pos c9]at he⊢
  split at he
  ·simp at he
  rename_i c0
  rw[if_neg c0]
  refine move_mid (c:=s.Cash) (r:=s.Register) h he ?_ ?_
  ·rw[List.filter_append]
   have:[nextE s.Desk.Account d.Day d.Sub d.Who d.Amount 0].filter incE=[]:=by
    have:¬d.Sub=0:=fun e=>c0 (.inl e)
    simp[incE,nextE,this]
   rw[this,List.append_nil]
   exact h.fi
  ·rw[List.filter_append]
   have:[nextE s.Desk.Account d.Day d.Sub d.Who d.Amount 0].filter secE=[]:=by
    have a1:¬d.Sub=0:=fun e=>c0 (.inl e)
    have a2:¬d.Who=0:=fun e=>c0 (.inr e)
    simp[secE,nextE,a1,a2]
   rw[this,List.append_nil]
   exact h.fm
 ·rw[if_neg c9]at he
  simp at he
theorem doS_clean {s:TState} {d:TDeed} (h:CleanS s) (he:(doS s d).2=0):CleanS (doS s d).1:=by
 unfold doS at he⊢
 split at he
 rotate_left
 ·rename_i hn
  exact absurd he hn
 rename_i h1
 rw[if_pos h1]
 split at he
 rotate_left
 ·rename_i hn
  exact absurd he hn
 rename_i h2
 rw[if_pos h2]
 have m:=doK_mid h h1
 obtain⟨es,hes⟩:=m.e
 have e1:(doK s d).1.Desk.Account.Entries.drop s.Desk.Account.Entries.length=es:=by rw[hes,List.drop_left]
 unfold bookS at h2⊢
 rw[e1,m.l]at h2
 rw[e1,m.l]
 obtain⟨b1,b2⟩:=bookGo_ok _ _ h.cp h2
 refine⟨m.d,?_,m.fi,m.fm,?_⟩
 ·show checkL (bookGo _ _).1=0
  rw[b1]
  exact b2
 ·show (bookGo _ _).1=postsGo 0 [] (doK s d).1.Desk.Account.Entries
  rw[b1,hes,postsGo_two,←h.fp]
  have:=postsGo_off es 0 s.Ledger.Postings []
  rw[List.append_nil,Int.zero_add]at this
  exact this.symm
open Go.PA
open Go.RowKit
theorem rday_pf (n:Int):PFun Tryz.prog none none 161 [iv n] (·=bv (betw n 0 36000)):=by
 refine pfun_intro Tryz.func161 rfl (by simp[Tryz.f161]) (by kernel_rfl) ?_
 intro E hP hr hs hW hN
 by_cases h1:0≤n<;>by_cases h2:n≤36000<;>simp -dsimp -implicitDefEqProofs [-getElem?_pos,go_sem,hP,h1,h2,betw]
theorem rclass_pf (n:Int):PFun Tryz.prog none none 48 [iv n] (·=iv (classI n)):=by
 refine pfun_intro Tryz.func48 rfl (by simp[Tryz.f48]) (by kernel_rfl) ?_
 intro E hP hr hs hW hN
 by_cases h1:n<100
 ·have h2:classI n=0:=if_neg (by omega)
  simp -dsimp -implicitDefEqProofs [-getElem?_pos,go_sem,hP,h1,h2]
 by_cases h3:599<n
 ·have h2:classI n=0:=if_neg (by omega)
  simp -dsimp -implicitDefEqProofs [-getElem?_pos,go_sem,hP,h1,h3,h2]
 ·have h:100≤n∧n≤599:=by omega
  have h2:classI n=n / 100:=if_pos h
  simp -dsimp -implicitDefEqProofs [-getElem?_pos,go_sem,hP,h1,h3,tdiv100 h,h2]
theorem classI_zero (n:Int):decide (classI n=0)=!betw n 100 599:=by
 have h:=class_betw n
 have h2:=classI_nat' n
 cases hb:betw n 100 599<;>simp only[hb,decide_eq_false_iff_not,decide_eq_true_eq,Bool.not_false,Bool.not_true]at h⊢<;>omega
theorem ge_le (n lo hi:Int):betw n lo hi=(decide (lo≤n)&&decide (n≤hi)):=rfl
set_option maxHeartbeats 4000000 in
theorem rposting_pf (p:TPosting):PFun Tryz.prog none none 99 [.agg p.cells] (·=bv (postB p)):=by
 refine pfun_intro Tryz.func99 rfl (by simp[Tryz.f99]) (by kernel_rfl) ?_
 intro E hP hr hs hW hN
 have i2:=rday_pf p.Day
 have i4:=classI_zero p.Debit
 have i5:=classI_zero p.Credit
 have pb:postB p=(betw p.Number 1 1000000&&betw p.Day 0 36000&&betw p.Entity 1 10&&betw p.Debit 100 599&&betw p.Credit 100 599&&!decide (p.Debit=p.Credit)&&betw p.Amount 1 1000000000000&&betw p.Partner 0 10&&!decide (p.Partner=p.Entity)&&betw p.Ref 0 1000000):=rfl
 generalize betw p.Day 0 36000=b2 at i2 pb
 generalize betw p.Debit 100 599=b4 at i4 pb
 generalize betw p.Credit 100 599=b5 at i5 pb
 rw[ge_le p.Number,ge_le p.Entity,ge_le p.Amount,ge_le p.Partner,ge_le p.Ref]at pb
 rw[pb]
 by_cases a1:1≤p.Number
 rotate_left
 ·simp -dsimp -implicitDefEqProofs [-getElem?_pos,go_sem,hP,cP,a1,decide_false,Bool.false_and]
 by_cases a2:p.Number≤1000000
 rotate_left
 ·simp -dsimp -implicitDefEqProofs [-getElem?_pos,go_sem,hP,cP,a1,a2,decide_false,Bool.false_and,Bool.and_false]
 simp -dsimp -implicitDefEqProofs [-getElem?_pos,go_sem,hP,cP,a1,a2]
 refine callB_pure i2 hP en_161 (args_same (by simp -dsimp[-getElem?_pos,go_sem])) .sc ?_
 cases b2
 ·simp -dsimp -implicitDefEqProofs [-getElem?_pos,go_sem,hP,Bool.false_and,Bool.true_and]
 by_cases a3:1≤p.Entity
 rotate_left
 ·simp -dsimp -implicitDefEqProofs [-getElem?_pos,go_sem,hP,a3,Bool.false_and,Bool.and_false]
 by_cases a4:p.Entity≤10
 rotate_left
 ·simp -dsimp -implicitDefEqProofs [-getElem?_pos,go_sem,hP,a3,a4,Bool.false_and,Bool.and_false]
 by_cases h6:p.Debit=p.Credit
 ·simp -dsimp -implicitDefEqProofs [-getElem?_pos,go_sem,hP,a3,a4,h6,Bool.false_and,Bool.and_false]
 have d6:decide (p.Debit=p.Credit)=false:=decide_eq_false h6
 simp -dsimp -implicitDefEqProofs [-getElem?_pos,go_sem,hP,a3,a4,d6]
 refine callB_pure (rclass_pf p.Debit) hP en_48 (args_same (by simp -dsimp[-getElem?_pos,go_sem])) .sc ?_
 cases b4
 ·simp -dsimp -implicitDefEqProofs [-getElem?_pos,go_sem,hP,i4,Bool.false_and,Bool.and_false]
 simp -dsimp -implicitDefEqProofs [-getElem?_pos,go_sem,hP,i4]
 refine callB_pure (rclass_pf p.Credit) hP en_48 (args_same (by simp -dsimp[-getElem?_pos,go_sem])) .sc ?_
 cases b5
 ·simp -dsimp -implicitDefEqProofs [-getElem?_pos,go_sem,hP,i5,Bool.false_and,Bool.and_false]
 by_cases a7:1≤p.Amount
 rotate_left
 ·simp -dsimp -implicitDefEqProofs [-getElem?_pos,go_sem,hP,i5,a7,Bool.false_and,Bool.and_false]
 by_cases a8:p.Amount≤1000000000000
 rotate_left
 ·simp -dsimp -implicitDefEqProofs [-getElem?_pos,go_sem,hP,i5,a7,a8,Bool.false_and,Bool.and_false]
 by_cases a9:0≤p.Partner
 rotate_left
 ·simp -dsimp -implicitDefEqProofs [-getElem?_pos,go_sem,hP,i5,a7,a8,a9,Bool.false_and,Bool.and_false]
 by_cases b9:p.Partner≤10
 rotate_left
 ·simp -dsimp -implicitDefEqProofs [-getElem?_pos,go_sem,hP,i5,a7,a8,a9,b9,Bool.false_and,Bool.and_false]
 by_cases h9:p.Partner=p.Entity
 ·have b9':p.Entity≤10:=a4
  rw[h9]at a9 b9
  simp -dsimp -implicitDefEqProofs [-getElem?_pos,go_sem,hP,i5,a7,a8,a9,b9,h9,Bool.false_and,Bool.and_false]
 have d9:decide (p.Partner=p.Entity)=false:=decide_eq_false h9
 by_cases a10:0≤p.Ref<;>by_cases b10:p.Ref≤1000000<;>simp -dsimp -implicitDefEqProofs [-getElem?_pos,go_sem,hP,i5,a1,a2,a3,a4,a7,a8,a9,b9,d9,a10,b10,d6]
set_option maxHeartbeats 2000000 in
theorem rcheck_pf (l:TLedger) (hl:l.Postings.length≤100000):PFun Tryz.prog none none 47 [.agg l.cells] (·=iv (checkL l.Postings)):=by
 refine pfun_intro Tryz.func47 rfl (by simp[Tryz.f47]) (by kernel_rfl) ?_
 intro E hP hr hs hW hN
 obtain⟨l⟩:=l
 simp only at hl
 simp -dsimp -implicitDefEqProofs [-getElem?_pos,go_sem,hP,cL]
 refine condP (fun h=>?_) (fun h=>?_)
 ·have h':400<l.length:=by simp at h;omega
  have:checkL l=3:=if_pos h'
  simp -dsimp -implicitDefEqProofs [-getElem?_pos,go_sem,hP,this]
 have h0:¬400<l.length:=by simp at h;omega
 simp -dsimp -implicitDefEqProofs [-getElem?_pos,go_sem,hP]
 obtain⟨J,hJ⟩:∃I:Nat→St→Prop,I=fun m s=>∃k:Nat,k≤l.length∧m=l.length-k∧(∀p,p∈l.take k→postB p=true)∧s.t 1= .ref 0 0 0∧s.t 12=postsL l∧s.t 13=iv l.length∧s.t 14=iv k∧s.H[0]?=some (some ⟨48,1,[[postsL l]]⟩):=⟨_,rfl⟩
 refine aloop0 J (l.length) (by rw[hN];rfl) ?_ ?_
 ·rw[hJ]
  exact⟨0,by omega,by omega,by simp,by simp -dsimp[-getElem?_pos,go_sem],by simp -dsimp[-getElem?_pos,go_sem],by simp -dsimp[-getElem?_pos,go_sem],by simp -dsimp[-getElem?_pos,go_sem],by simp -dsimp[-getElem?_pos,go_sem]⟩
 intro m s hs'
 rw[hJ]at hs'
 obtain⟨k,hk,hm,hv,t1,t12,t13,t14,hH⟩:=hs'
 have hlt:=(gsI hH)
 simp -dsimp -implicitDefEqProofs [-getElem?_pos,go_sem,hP,t13,t14]
 refine condP (fun h=>?_) (fun h=>?_)
 ·have hk:k<l.length:=by simpa using h
  obtain⟨p,hp⟩:∃p,l[k]?=some p:=⟨_,List.getElem?_eq_getElem hk⟩
  have wk:=wrap_in ((k:Int)+1) (by omega)
  have po:=rposting_pf p
  rw[cP]at po
  have g0:∀x:Option AObj,(s.H++[x])[0]?=some (some ⟨48,1,[[postsL l]]⟩):=fun x=>by rw[List.getElem?_append_left hlt];exact hH
  simp -dsimp -implicitDefEqProofs [-getElem?_pos,go_sem,hP,t14,t12,hp,cP]
  refine callB_pure po hP en_99 (args_same (by simp -dsimp[-getElem?_pos,go_sem])) .sc ?_
  cases hb:postB p
  ·have:checkL l=85:=by rw[checkL,if_neg h0,if_pos (List.any_eq_true.2 ⟨p,List.mem_of_getElem? hp,by simp[hb]⟩)]
   simp -dsimp -implicitDefEqProofs [-getElem?_pos,go_sem,hP,this]
  ·simp -dsimp -implicitDefEqProofs [-getElem?_pos,go_sem,hP,t14,wk]
   refine⟨l.length-(k+1),by omega,?_⟩
   rw[hJ]
   refine⟨k+1,by omega,rfl,fun q hq=>?_,by simp -dsimp[-getElem?_pos,go_sem,t1],by simp -dsimp[-getElem?_pos,go_sem,t12],by simp -dsimp[-getElem?_pos,go_sem,t13],by simp -dsimp[-getElem?_pos,go_sem],by simp -dsimp[-getElem?_pos,go_sem,g0]⟩
   rw[List.take_add_one,hp]at hq
   rcases List.mem_append.1 hq with hq|hq
   ·exact hv q hq
   ·simp at hq;rw[hq];exact hb
 have hk:k=l.length:=by simp at h;omega
 subst hk
 rw[List.take_length]at hv
 have hvo:∀p,p∈l→PostOk p:=fun p hp=>(postB_iff p).1 (hv p hp)
 have tc:checkL l=if seqFrom 0 0 l=true then 0 else 86:=by
  rw[checkL,if_neg h0,if_neg]
  intro h
  obtain⟨p,hp,hb⟩:=List.any_eq_true.1 h
  simp[hv p hp]at hb
 simp -dsimp -implicitDefEqProofs [-getElem?_pos,go_sem,hP,t1,hH]
 obtain⟨I,hI⟩:∃I:Nat→St→Prop,I=fun m s=>∃(k:Nat) (d:Int),k≤l.length∧m=l.length-k∧seqFrom 0 0 l=seqFrom k d (l.drop k)∧(k=0→d=0)∧(∀j x,k=j+1→l[j]?=some x→d=x.Day)∧s.t 1= .ref 0 0 0∧s.t 23=postsL l∧s.t 24=iv l.length∧s.t 25=iv k∧s.H[0]?=some (some ⟨48,1,[[postsL l]]⟩):=⟨_,rfl⟩
 refine aloop0 I (l.length) (by rw[hN];rfl) ?_ ?_
 ·rw[hI]
  exact⟨0,0,by omega,by omega,by simp,by simp,by omega,by simp -dsimp[-getElem?_pos,go_sem,t1],by simp -dsimp[-getElem?_pos,go_sem],by simp -dsimp[-getElem?_pos,go_sem],by simp -dsimp[-getElem?_pos,go_sem],by simp -dsimp[-getElem?_pos,go_sem,hH]⟩
 clear hH hlt t1 t12 t13 t14
 intro m s hs'
 rw[hI]at hs'
 obtain⟨k,d,hk,hm,hq,hd0,hd1,t1,t23,t24,t25,hH⟩:=hs'
 have hlt:=(gsI hH)
 simp -dsimp -implicitDefEqProofs [-getElem?_pos,go_sem,hP,t24,t25]
 refine condP (fun h=>?_) (fun h=>?_)
 ·have hk:k<l.length:=by simpa using h
  obtain⟨p,hp⟩:∃p,l[k]?=some p:=⟨_,List.getElem?_eq_getElem hk⟩
  have hpo:=hvo p (List.mem_of_getElem? hp)
  have wk:=wrap_in ((k:Int)+1) (by omega)
  have hdr:l.drop k=p::l.drop (k+1):=by
   rw[List.getElem?_eq_getElem hk]at hp
   rw[List.drop_eq_getElem_cons hk,Option.some.inj hp]
  rw[hdr,seqFrom]at hq
  have g0:∀x:Option AObj,(s.H++[x])[0]?=some (some ⟨48,1,[[postsL l]]⟩):=fun x=>by rw[List.getElem?_append_left hlt];exact hH
  simp -dsimp -implicitDefEqProofs [-getElem?_pos,go_sem,hP,t25,t23,hp,cP]
  refine adrawB (fun _=>true) [] hP (by kernel_rfl) (by kernel_rfl) ?_
  by_cases c1:p.Number=(k:Int)+1
  ·have d1:decide (p.Number=(k:Int)+1)=true:=decide_eq_true c1
   rcases Nat.eq_zero_or_pos k with k0|k0
   ·have hdd:d≤p.Day:=by rw[hd0 k0];exact hpo.day.1
    rw[d1,decide_eq_true hdd,Bool.true_and,Bool.true_and]at hq
    have k0':¬0<k:=by omega
    have hjk:decide ((0:Int)<(k:Int))=false:=decide_eq_false (by omega)
    simp -dsimp -implicitDefEqProofs [-getElem?_pos,go_sem,hP,wk,d1,t1,t25,k0',hjk]
    refine⟨l.length-(k+1),by omega,?_⟩
    rw[hI]
    exact⟨k+1,p.Day,by omega,rfl,hq,by omega,prev_day hp,by simp -dsimp[-getElem?_pos,go_sem,t1],by simp -dsimp[-getElem?_pos,go_sem,t23],by simp -dsimp[-getElem?_pos,go_sem,t24],by simp -dsimp[-getElem?_pos,go_sem],by simp -dsimp[-getElem?_pos,go_sem,g0]⟩
   ·obtain⟨j,hj⟩:∃j,k=j+1:=⟨k-1,by omega⟩
    obtain⟨x,hx⟩:∃x,l[j]?=some x:=⟨_,List.getElem?_eq_getElem (by omega)⟩
    have hdx:=hd1 j x hj hx
    have hjk:decide ((0:Int)<(k:Int))=true:=decide_eq_true (by omega)
    have wj:IntKind.i64.wrap ((k:Int)-1)=(j:Int):=by rw[wrap_in _ (by omega)];omega
    have s1:=g0 (some ⟨77,8,[[iv p.Number,iv p.Day,iv p.Entity,iv p.Debit,iv p.Credit,iv p.Amount,iv p.Partner,iv p.Ref]]⟩)
    rw[hdx,d1,Bool.true_and]at hq
    by_cases c2:x.Day≤p.Day
    ·have d2:decide (p.Day<x.Day)=false:=decide_eq_false (by omega)
     rw[decide_eq_true c2,Bool.true_and]at hq
     simp -dsimp -implicitDefEqProofs [-getElem?_pos,go_sem,hP,wk,d1,t1,t25,k0,hjk,wj,s1,hx,cP,d2]
     refine⟨l.length-(k+1),by omega,?_⟩
     rw[hI]
     exact⟨k+1,p.Day,by omega,rfl,hq,by omega,prev_day hp,by simp -dsimp[-getElem?_pos,go_sem,t1],by simp -dsimp[-getElem?_pos,go_sem,t23],by simp -dsimp[-getElem?_pos,go_sem,t24],by simp -dsimp[-getElem?_pos,go_sem],by simp -dsimp[-getElem?_pos,go_sem,g0]⟩
    ·have d2:decide (p.Day<x.Day)=true:=decide_eq_true (by omega)
     rw[decide_eq_false c2,Bool.false_and]at hq
     have:checkL l=86:=by rw[tc,hq];rfl
     simp -dsimp -implicitDefEqProofs [-getElem?_pos,go_sem,hP,wk,d1,t1,t25,k0,hjk,wj,s1,hx,cP,d2,this]
  ·have d1:decide (p.Number=(k:Int)+1)=false:=decide_eq_false c1
   rw[d1,Bool.false_and]at hq
   have:checkL l=86:=by rw[tc,hq];rfl
   simp -dsimp -implicitDefEqProofs [-getElem?_pos,go_sem,hP,wk,d1,this]
 ·have hk:k=l.length:=by simp at h;omega
  subst hk
  rw[List.drop_length,seqFrom]at hq
  have:checkL l=0:=by rw[tc,hq];rfl
  simp -dsimp -implicitDefEqProofs [-getElem?_pos,go_sem,hP,this]
set_option maxHeartbeats 1000000 in
theorem rpost_pf (l:TLedger) (p:TPosting) (hl:l.Postings.length≤100000):PFun Tryz.prog none none 157 [.agg l.cells,.agg p.cells] (·= .tup [.agg (TLedger.mk (postL l.Postings p).1).cells,iv (postL l.Postings p).2]):=by
 refine pfun_intro Tryz.func157 rfl (by simp[Tryz.f157]) (by kernel_rfl) ?_
 intro E hP hr hs hW hN
 have ck:=rcheck_pf l hl
 have po:=rposting_pf p
 obtain⟨l⟩:=l
 simp only at hl ck
 rw[cL]at ck
 rw[cP]at po
 have ip:=imm_posts l
 have ipp:Imm (.agg [iv p.Number,iv p.Day,iv p.Entity,iv p.Debit,iv p.Credit,iv p.Amount,iv p.Partner,iv p.Ref]):=imm_agg.2 p.imm
 simp -dsimp -implicitDefEqProofs [-getElem?_pos,go_sem,hP,cL,cP]
 refine callB_is (ck.lift _ _) hP en_47 (by simp[ip,imm_agg]) .sc ?_
 by_cases c1:checkL l=0
 rotate_left
 ·have:postL l p=([],checkL l):=by rw[postL,if_neg c1]
  simp -dsimp -implicitDefEqProofs [-getElem?_pos,go_sem,hP,c1]
  refine done_zeroL ?_
  rw[this]
 obtain⟨k1,k2,k3⟩:=checkL_ok c1
 simp -dsimp -implicitDefEqProofs [-getElem?_pos,go_sem,hP,c1]
 refine callB_is (po.lift _ _) hP en_99 (by simp[ipp]) .sc ?_
 cases c2:postB p
 ·have:postL l p=([],85):=by rw[postL,if_pos c1,if_pos c2]
  simp -dsimp -implicitDefEqProofs [-getElem?_pos,go_sem,hP,c2]
  refine done_zeroL ?_
  rw[this]
 have c2':¬postB p=false:=by simp[c2]
 by_cases c3:l.length=400
 ·have:postL l p=([],3):=by rw[postL,if_pos c1,if_neg c2',if_pos c3]
  simp -dsimp -implicitDefEqProofs [-getElem?_pos,go_sem,hP,c2,c3]
  refine done_zeroL ?_
  rw[this]
 have d3:decide ((l.length:Int)=400)=false:=by simp;omega
 have wk:=wrap_in ((l.length:Int)+1) (by omega)
 by_cases c4:p.Number=(l.length:Int)+1
 rotate_left
 ·have:postL l p=([],65):=by rw[postL,if_pos c1,if_neg c2',if_neg c3,if_pos c4]
  have d4:decide (p.Number=(l.length:Int)+1)=false:=decide_eq_false c4
  simp -dsimp -implicitDefEqProofs [-getElem?_pos,go_sem,hP,c2,d3,wk,d4]
  refine done_zeroL ?_
  rw[this]
 have d4:decide (p.Number=(l.length:Int)+1)=true:=decide_eq_true c4
 simp -dsimp -implicitDefEqProofs [-getElem?_pos,go_sem,hP,c2,d3,wk,d4]
 refine adrawB (fun _=>true) [] hP (by kernel_rfl) (by kernel_rfl) ?_
 have en:encL TPosting.cells l++[[iv p.Number,iv p.Day,iv p.Entity,iv p.Debit,iv p.Credit,iv p.Amount,iv p.Partner,iv p.Ref]]=encL TPosting.cells (l++[p]):=encL_snoc TPosting.cells l p
 by_cases h0:l.length=0
 ·have hln:l=[]:=List.eq_nil_of_length_eq_zero h0
  subst hln
  have pA:postL [] p=([]++[p],0):=by
   have:=(postB_iff p).1 c2
   rw[postL,if_pos c1,if_neg c2',if_neg c3,if_neg (by simp[c4]),if_neg (by rw[lastD_nil];have:=this.day;omega)]
  simp -dsimp -implicitDefEqProofs [-getElem?_pos,go_sem,hP]
  refine adrawB (fun id=>decide (id<2)) [7] hP (by kernel_rfl) (by kernel_rfl) ?_
  simp -dsimp -implicitDefEqProofs [-getElem?_pos,go_sem,hP,restr_get]
  refine⟨agree_2,agree_2,?_⟩
  refine done_agg2 (cs':=[postsL ([]++[p])]) (cw_sref (ty:=77) rfl rfl (imm_posts [p]) .nil) ?_
  rw[pA]
  rfl
 ·obtain⟨k,hk⟩:∃k,l.length=k+1:=⟨l.length-1,by omega⟩
  obtain⟨x,hx⟩:∃x,l[k]?=some x:=⟨_,List.getElem?_eq_getElem (by omega)⟩
  have hld:=lastD_get hk hx
  have d0:decide ((0:Int)<(l.length:Int))=true:=decide_eq_true (by omega)
  have d0':0<l.length:=by omega
  have wj:IntKind.i64.wrap ((l.length:Int)-1)=(k:Int):=by rw[wrap_in _ (by omega)];omega
  by_cases c5:p.Day<x.Day
  ·have:postL l p=([],8):=by rw[postL,if_pos c1,if_neg c2',if_neg c3,if_neg (by simp[c4]),hld,if_pos c5]
   have d5:decide (p.Day<x.Day)=true:=decide_eq_true c5
   simp -dsimp -implicitDefEqProofs [-getElem?_pos,go_sem,hP,d0,d0',wj,hx,cP,d5]
   refine done_zeroL ?_
   rw[this]
  have pA:postL l p=(l++[p],0):=by rw[postL,if_pos c1,if_neg c2',if_neg c3,if_neg (by simp[c4]),hld,if_neg c5]
  have d5:decide (p.Day<x.Day)=false:=decide_eq_false c5
  simp -dsimp -implicitDefEqProofs [-getElem?_pos,go_sem,hP,d0,d0',wj,hx,cP,d5]
  refine adrawB (fun id=>decide (id<2)) [7] hP (by kernel_rfl) (by kernel_rfl) ?_
  simp -dsimp -implicitDefEqProofs [-getElem?_pos,go_sem,hP,restr_get]
  refine⟨by omega,by omega,agree_2,by omega,by omega,agree_2,?_⟩
  refine done_agg2 (cs':=[postsL (l++[p])]) (cw_sref (ty:=77) (by rw[←en];rfl) (by simp[encL]) (imm_posts _) .nil) ?_
  rw[pA]
  rfl
open Go.PA
open Go.RowKit
theorem rofsec_pf (e:TEntry):PFun Tryz.prog none none 227 [.agg e.cells] (·=bv (secE e)):=by
 refine pfun_intro Tryz.func227 rfl (by simp[Tryz.f227]) (by kernel_rfl) ?_
 intro E hP hr hs hW hN
 unfold secE
 by_cases h1:e.Ref=0
 ·have d1:decide (e.Ref=0)=true:=decide_eq_true h1
  by_cases h4:e.From=0
  ·have d4:decide (e.From=0)=true:=decide_eq_true h4
   have d2:decide (e.From=1)=false:=decide_eq_false (by omega)
   by_cases h5:e.To=1
   ·have d5:decide (e.To=1)=true:=decide_eq_true h5
    simp -dsimp -implicitDefEqProofs [-getElem?_pos,go_sem,hP,cE,d1,d4,d5,d2]
   ·have d5:decide (e.To=1)=false:=decide_eq_false h5
    simp -dsimp -implicitDefEqProofs [-getElem?_pos,go_sem,hP,cE,d1,d4,d5,d2]
  ·have d4:decide (e.From=0)=false:=decide_eq_false h4
   by_cases h2:e.From=1
   ·have d2:decide (e.From=1)=true:=decide_eq_true h2
    simp -dsimp -implicitDefEqProofs [-getElem?_pos,go_sem,hP,cE,d1,d4,d2]
   ·have d2:decide (e.From=1)=false:=decide_eq_false h2
    simp -dsimp -implicitDefEqProofs [-getElem?_pos,go_sem,hP,cE,d1,d4,d2]
 ·have d1:decide (e.Ref=0)=false:=decide_eq_false h1
  simp -dsimp -implicitDefEqProofs [-getElem?_pos,go_sem,hP,cE,d1]
theorem secE_two {e:TEntry} (h:secE e=true):(e.From=1∧e.To=0)∨(e.From=0∧e.To=1):=by
 unfold secE at h
 simp only[Bool.and_eq_true,Bool.or_eq_true,decide_eq_true_eq]at h
 exact h.2
theorem rpost45_pf (e:TEntry) (n:Int):PFun Tryz.prog none none 158 [.agg e.cells,iv n] (·= .agg (postE e n).cells):=by
 refine pfun_intro Tryz.func158 rfl (by simp[Tryz.f158]) (by kernel_rfl) ?_
 intro E hP hr hs hW hN
 have cs:=rofsec_pf e
 have ie:=imm_ent e
 have sec2:=@secE_two e
 have hc:(postE e n).cells=[iv n,iv e.Day,iv 1,iv (if secE e=true∧e.From≠0 then 230 else if e.To=0 then 510 else 110),iv (if secE e=true∧e.From=0 then 230 else if e.To=0 then 110 else 410),iv e.Amount,iv 0,iv e.Ref]:=rfl
 rw[hc]
 rw[cE]at cs ie
 by_cases h3:e.To=0
 ·have d3:decide (e.To=0)=true:=decide_eq_true h3
  simp -dsimp -implicitDefEqProofs [-getElem?_pos,go_sem,hP,cE,d3]
  refine callB_is (cs.lift _ _) hP en_227 (by simpa using ie) .sc ?_
  cases h1:secE e
  ·simp -dsimp -implicitDefEqProofs [-getElem?_pos,go_sem,hP]
   exact done (by simp -dsimp[-getElem?_pos,go_sem]) rfl (by simp -dsimp[-getElem?_pos,go_sem,h3])
  ·have h4:¬e.From=0:=by have:=sec2 h1;omega
   simp -dsimp -implicitDefEqProofs [-getElem?_pos,go_sem,hP,d3]
   exact done (by simp -dsimp[-getElem?_pos,go_sem]) rfl (by simp -dsimp[-getElem?_pos,go_sem,h3,h4])
 ·have d3:decide (e.To=0)=false:=decide_eq_false h3
  simp -dsimp -implicitDefEqProofs [-getElem?_pos,go_sem,hP,cE,d3]
  refine callB_is (cs.lift _ _) hP en_227 (by simpa using ie) .sc ?_
  cases h1:secE e
  ·simp -dsimp -implicitDefEqProofs [-getElem?_pos,go_sem,hP]
   exact done (by simp -dsimp[-getElem?_pos,go_sem]) rfl (by simp -dsimp[-getElem?_pos,go_sem,h3])
  ·have h4:e.From=0:=by have:=sec2 h1;omega
   simp -dsimp -implicitDefEqProofs [-getElem?_pos,go_sem,hP,d3]
   exact done (by simp -dsimp[-getElem?_pos,go_sem]) rfl (by simp -dsimp[-getElem?_pos,go_sem,h3,h4])
def bookR:List TPosting→List TEntry→List TPosting×Int
 |L,[]=>(L,0)
 |L,e::l=>if outsE e=true then (if (postL L (postE e ((L.length:Int)+1))).2=0 then bookR (postL L (postE e ((L.length:Int)+1))).1 l else (L,(postL L (postE e ((L.length:Int)+1))).2))else bookR L l
theorem bookR_eq:∀(es:List TEntry) (L:List TPosting),bookR L es=bookGo L (postsGo (L.length:Int) [] es)
 |[],L=>rfl
 |e::es,L=>by
  rw[bookR,postsGo]
  cases ho:outsE e
  ·rw[if_neg (by simp),if_neg (by simp),bookR_eq es L]
  ·rw[if_pos rfl,if_pos rfl]
   have e1:=postsGo_off es (L.length:Int) [postE e ((L.length:Int)+(([]:List TPosting).length:Int)+1)] []
   simp only[List.length_nil,Int.natCast_zero,Int.add_zero,List.length_singleton,List.append_nil]at e1
   simp only[List.length_nil,Int.natCast_zero,Int.add_zero,List.nil_append]
   rw[e1,List.singleton_append,bookGo]
   by_cases h:(postL L (postE e ((L.length:Int)+1))).2=0
   ·rw[if_pos h,if_pos h,bookR_eq es]
    have o:=(postL_ok h).2.2.2.2.2.1
    rw[o]
    simp
   ·rw[if_neg h,if_neg h]
def zS (r:TState×Int):TState×Int:=if r.2=0 then (r.1,0)else (zeroSt,r.2)
theorem zS_ok {x:TState}:zS (x,0)=(x,0):=rfl
theorem zS_err {x:TState} {e:Int} (h:e≠0):zS (x,e)=(zeroSt,e):=by rw[zS,if_neg h]
set_option maxHeartbeats 2000000 in
theorem rbooked_pf (s:TState) (hd:FitD s.Desk) (hl:s.Ledger.Postings.length≤400) {n:Nat} (hn:n≤s.Desk.Account.Entries.length):
  PFun Tryz.prog none none 94 [.agg s.cells,iv n] (·= .tup [.agg (zS (bookS s n)).1.cells,iv (zS (bookS s n)).2]):=by
 have he:=hd.e
 obtain⟨es,hes⟩:∃es,es=s.Desk.Account.Entries.drop n:=⟨_,rfl⟩
 have le:es.length≤100000:=by rw[hes,List.length_drop];omega
 have eB:bookS s n=(⟨s.Desk,s.Cash,s.Register,⟨(bookR s.Ledger.Postings es).1⟩⟩,(bookR s.Ledger.Postings es).2):=by rw[hes,bookR_eq];rfl
 obtain⟨Q,hQ⟩:∃Q:AV→Prop,Q=(·= .tup [.agg (zS (bookS s n)).1.cells,iv (zS (bookS s n)).2]):=⟨_,rfl⟩
 rw[←hQ]
 have qo:∀L,bookR s.Ledger.Postings es=(L,0)→Q (.tup [.agg (⟨s.Desk,s.Cash,s.Register,⟨L⟩⟩:TState).cells,iv 0]):=fun L h=>by rw[hQ,eB,h];rfl
 have qe:∀L e,bookR s.Ledger.Postings es=(L,e)→e≠0→Q (.tup [.agg zeroSt.cells,iv e]):=fun L e h h0=>by rw[hQ,eB,h,zS_err h0]
 clear hQ eB
 obtain⟨S0,hS0⟩:∃S0,S0=s:=⟨_,rfl⟩
 obtain⟨L0,hL0⟩:∃L0,L0=s.Ledger.Postings:=⟨_,rfl⟩
 have ist:=fun L=>imm_st ⟨s.Desk,s.Cash,s.Register,⟨L⟩⟩
 have cst:∀L,(⟨s.Desk,s.Cash,s.Register,⟨L⟩⟩:TState).cells=[iv s.Desk.Account.Credit,subsL s.Desk.Account.Subs,entsL s.Desk.Account.Entries,paysL s.Desk.Queue.Waiting,.list 1 (encL encI s.Desk.Queue.Known),batsL s.Desk.Queue.Batches,itemsL s.Desk.Items,claimsL s.Cash.Claims,incomesL s.Cash.Incomes,matchesL s.Cash.Matches,.list 1 (encL encI s.Cash.Loose),secsL s.Register.Securities,holdsL s.Register.Holdings,movesL s.Register.Moves,postsL L]:=fun L=>rfl
 have cs0:=cStX s
 rw[←hL0]at hl qo qe cs0
 refine pfun_intro Tryz.func94 rfl (by simp[Tryz.f94]) (by kernel_rfl) ?_
 intro E hP hr hs hW hN
 simp -dsimp -implicitDefEqProofs [-getElem?_pos,go_sem,hP,cs0,asliceOp,bound,aslice,encL_len,hn,encL_dropE,encL_takeE]
 rw[←hes]
 obtain⟨I,hI⟩:∃I:Nat→St→Prop,I=fun m s=>∃(k:Nat) (L:List TPosting),k≤es.length∧m=es.length-k∧bookR L0 es=bookR L (es.drop k)∧L.length≤400∧s.t 2= .ref 0 0 0∧s.t 4= .ref 1 0 0∧s.t 15=entsL es∧s.t 16=iv es.length∧s.t 17=iv k∧s.H[0]?=some (some ⟨50,15,[[iv S0.Desk.Account.Credit,subsL S0.Desk.Account.Subs,entsL S0.Desk.Account.Entries,paysL S0.Desk.Queue.Waiting,.list 1 (encL encI S0.Desk.Queue.Known),batsL S0.Desk.Queue.Batches,itemsL S0.Desk.Items,claimsL S0.Cash.Claims,incomesL S0.Cash.Incomes,matchesL S0.Cash.Matches,.list 1 (encL encI S0.Cash.Loose),secsL S0.Register.Securities,holdsL S0.Register.Holdings,movesL S0.Register.Moves,postsL L]]⟩)∧s.H[1]?=some (some ⟨50,15,[[iv 0,.nil,.nil,.nil,.nil,.nil,.nil,.nil,.nil,.nil,.nil,.nil,.nil,.nil,.nil]]⟩):=⟨_,rfl⟩
 refine aloop0 I (es.length) (by rw[hN];rfl) ?_ ?_
 ·rw[hI]
  have el:es.length=s.Desk.Account.Entries.length-n:=by rw[hes,List.length_drop]
  exact⟨0,L0,by omega,by omega,by simp,hl,by simp -dsimp[-getElem?_pos,go_sem],by simp -dsimp[-getElem?_pos,go_sem],by simp -dsimp[-getElem?_pos,go_sem],by simp -dsimp[-getElem?_pos,go_sem,el],by simp -dsimp[-getElem?_pos,go_sem],by rw[hS0];simp -dsimp -implicitDefEqProofs [-getElem?_pos,go_sem],by simp -dsimp[-getElem?_pos,go_sem]⟩
 intro m s2 hs'
 rw[hI]at hs'
 obtain⟨k,L,hk,hm,hgo,hL,t2,t4,t15,t16,t17,g0,g1⟩:=hs'
 have l0:=(gsI g0)
 have l1:=(gsI g1)
 simp -dsimp -implicitDefEqProofs [-getElem?_pos,go_sem,hP,t16,t17]
 refine condP (fun hq=>?_) (fun hq=>?_)
 ·have hk:k<es.length:=by simpa using hq
  obtain⟨e,hee⟩:∃e,es[k]?=some e:=⟨_,List.getElem?_eq_getElem hk⟩
  have wk:=wrap_in ((k:Int)+1) (by omega)
  have wl:=wrap_in ((L.length:Int)+1) (by omega)
  have hdr:es.drop k=e::es.drop (k+1):=by
   obtain⟨h2,h3⟩:=List.getElem?_eq_some_iff.1 hee
   rw[List.drop_eq_getElem_cons h2,h3]
  rw[hdr,bookR]at hgo
  have pp:=rpost_pf ⟨L⟩ (postE e ((L.length:Int)+1)) (by show L.length≤_;omega)
  have cp:=rpost45_pf e ((L.length:Int)+1)
  have fit:=postL_fit (L:=L) (p:=postE e ((L.length:Int)+1))
  obtain⟨q,hq0⟩:∃q,q=postE e ((L.length:Int)+1):=⟨_,rfl⟩
  rw[←hq0]at pp cp fit hgo
  rw[cL]at pp
  have pp:PFun Tryz.prog none none 157 [.agg [postsL L],.agg q.cells] (·= .tup [.agg [postsL (postL L q).1],iv (postL L q).2]):=pp
  obtain⟨Ln,er,hpe⟩:∃Ln er,postL L q=(Ln,er):=⟨_,_,rfl⟩
  rw[hpe]at pp hgo fit
  have iL:=imm_posts L
  have iLn:=imm_posts Ln
  have iq:=imm_agg.2 q.imm
  have ie:=imm_ent e
  rw[cE]at cp ie
  rw[cP]at pp iq cp
  obtain⟨N,hN0⟩:∃N,N=s2.H.length:=⟨_,rfl⟩
  obtain⟨H1,hH1⟩:∃H1:Heap,H1=s2.H++[some ⟨75,6,[[iv e.Number,iv e.Day,iv e.From,iv e.To,iv e.Amount,iv e.Ref]]⟩]:=⟨_,rfl⟩
  have kk:Kept [] s2.H H1:=by rw[hH1];exact kept_push _ (kept_refl _ _)
  have g0':=kk _ _ (by simp) g0
  have g1':=kk _ _ (by simp) g1
  have gN:H1[N]?=some (some ⟨75,6,[[iv e.Number,iv e.Day,iv e.From,iv e.To,iv e.Amount,iv e.Ref]]⟩):=by rw[hH1,hN0];simp
  have n0:¬N=0:=by omega
  have ln0:=(List.getElem?_eq_some_iff.1 g0').1
  have ln1:=(List.getElem?_eq_some_iff.1 g1').1
  have lnN:=(gsI gN)
  have stay:outsE e=false→bookR L0 es=bookR L (es.drop (k+1)):=fun h=>by rw[hgo,h,if_neg (by simp)]
  have go:outsE e=true→bookR L0 es=if er=0 then bookR Ln (es.drop (k+1))else (L,er):=fun h=>by rw[hgo,h,if_pos rfl]
  clear hgo
  have road:(e.From=0∨(¬e.From=0∧e.To=0))∨(¬e.From=0∧¬e.To=0):=by omega
  rcases road with road|⟨a1,a2⟩
  rotate_left
  ·have b1:decide (e.From=0)=false:=decide_eq_false a1
   have b2:decide (e.To=0)=false:=decide_eq_false a2
   simp -dsimp -implicitDefEqProofs [-getElem?_pos,go_sem,hP,t15,t17,hee,cE,b1,b2,wk]
   refine⟨es.length-(k+1),by omega,?_⟩
   rw[hI]
   refine⟨k+1,L,by omega,rfl,stay (by simp[outsE,b1,b2]),hL,by simp -dsimp[-getElem?_pos,go_sem,t2],by simp -dsimp[-getElem?_pos,go_sem,t4],by simp -dsimp[-getElem?_pos,go_sem,t15],by simp -dsimp[-getElem?_pos,go_sem,t16],by simp -dsimp[-getElem?_pos,go_sem],?_,?_⟩
   ·simp -dsimp -implicitDefEqProofs [-getElem?_pos,go_sem];rw[←hH1];exact g0'
   ·simp -dsimp -implicitDefEqProofs [-getElem?_pos,go_sem];rw[←hH1];exact g1'
  have ho:outsE e=true:=by
   rcases road with h|⟨_,h⟩<;>simp[outsE,h]
  have go:=go ho
  rcases road with a1|⟨a1,a2⟩
  ·have b1:decide (e.From=0)=true:=decide_eq_true a1
   simp -dsimp -implicitDefEqProofs [-getElem?_pos,go_sem,hP,t15,t17,hee,cE,b1]
   rw[←hH1,←hN0]
   clear hH1
   refine adrawQ (fun i=>decide (i<H1.length)) [14] [8,9] hP (by kernel_rfl) (by kernel_rfl) ?_
   simp -dsimp -implicitDefEqProofs [-getElem?_pos,go_sem,hP,restr_get,t2,g0',gN,ln0,lnN,wl,encL_len]
   refine callQ_isQ (cp.lift _ _) hP en_158 (by simp[ie,imm_sc]) ⟨_,rfl,iq⟩ ?_
   rintro r rfl _
   simp -dsimp -implicitDefEqProofs [-getElem?_pos,go_sem,hP,restr_get,t2,g0',gN,ln0,lnN]
   refine callQ_isQ (pp.lift _ _) hP en_157 (by simp[iL,iq,imm_agg]) ⟨_,rfl,imm_pair (imm_agg.2 (by simpa using iLn)) .sc⟩ ?_
   rintro r rfl _
   simp -dsimp -implicitDefEqProofs [-getElem?_pos,go_sem,hP,restr_get]
   refine⟨agree_push (Nat.le_refl _),?_⟩
   by_cases h0:er=0
   ·subst h0
    rw[if_pos rfl]at go
    simp -dsimp -implicitDefEqProofs [-getElem?_pos,go_sem,hP,t2,g0',ln0,List.getElem?_append_left,t17,wk]
    refine⟨es.length-(k+1),by omega,?_⟩
    rw[hI]
    refine⟨k+1,Ln,by omega,rfl,go,fit rfl,by simp -dsimp[-getElem?_pos,go_sem,t2],by simp -dsimp[-getElem?_pos,go_sem,t4],by simp -dsimp[-getElem?_pos,go_sem,t15],by simp -dsimp[-getElem?_pos,go_sem,t16],by simp -dsimp[-getElem?_pos,go_sem],?_,?_⟩
    ·simp -dsimp -implicitDefEqProofs [-getElem?_pos,go_sem,ln0]
    ·simp -dsimp -implicitDefEqProofs [-getElem?_pos,go_sem,ln0,ln1,g1',List.getElem?_append_left]
   ·rw[if_neg h0]at go
    have de:decide (er=0)=false:=decide_eq_false h0
    simp -dsimp -implicitDefEqProofs [-getElem?_pos,go_sem,hP,de,t4,g1',ln1,List.getElem?_append_left]
    exact done_agg2 (cs':=zeroSt.cells) cw_zeroS (qe L er go h0)
  ·have b1:decide (e.From=0)=false:=decide_eq_false a1
   have b2:decide (e.To=0)=true:=decide_eq_true a2
   simp -dsimp -implicitDefEqProofs [-getElem?_pos,go_sem,hP,t15,t17,hee,cE,b1,b2]
   rw[←hH1,←hN0]
   clear hH1
   refine adrawQ (fun i=>decide (i<H1.length)) [14] [8,9] hP (by kernel_rfl) (by kernel_rfl) ?_
   simp -dsimp -implicitDefEqProofs [-getElem?_pos,go_sem,hP,restr_get,t2,g0',gN,ln0,lnN,wl,encL_len]
   refine callQ_isQ (cp.lift _ _) hP en_158 (by simp[ie,imm_sc]) ⟨_,rfl,iq⟩ ?_
   rintro r rfl _
   simp -dsimp -implicitDefEqProofs [-getElem?_pos,go_sem,hP,restr_get,t2,g0',gN,ln0,lnN]
   refine callQ_isQ (pp.lift _ _) hP en_157 (by simp[iL,iq,imm_agg]) ⟨_,rfl,imm_pair (imm_agg.2 (by simpa using iLn)) .sc⟩ ?_
   rintro r rfl _
   simp -dsimp -implicitDefEqProofs [-getElem?_pos,go_sem,hP,restr_get]
   refine⟨agree_push (Nat.le_refl _),?_⟩
   by_cases h0:er=0
   ·subst h0
    rw[if_pos rfl]at go
    simp -dsimp -implicitDefEqProofs [-getElem?_pos,go_sem,hP,t2,g0',ln0,List.getElem?_append_left,t17,wk]
    refine⟨es.length-(k+1),by omega,?_⟩
    rw[hI]
    refine⟨k+1,Ln,by omega,rfl,go,fit rfl,by simp -dsimp[-getElem?_pos,go_sem,t2],by simp -dsimp[-getElem?_pos,go_sem,t4],by simp -dsimp[-getElem?_pos,go_sem,t15],by simp -dsimp[-getElem?_pos,go_sem,t16],by simp -dsimp[-getElem?_pos,go_sem],?_,?_⟩
    ·simp -dsimp -implicitDefEqProofs [-getElem?_pos,go_sem,ln0]
    ·simp -dsimp -implicitDefEqProofs [-getElem?_pos,go_sem,ln0,ln1,g1',List.getElem?_append_left]
   ·rw[if_neg h0]at go
    have de:decide (er=0)=false:=decide_eq_false h0
    simp -dsimp -implicitDefEqProofs [-getElem?_pos,go_sem,hP,de,t4,g1',ln1,List.getElem?_append_left]
    exact done_agg2 (cs':=zeroSt.cells) cw_zeroS (qe L er go h0)
 ·have hk:k=es.length:=by simp at hq;omega
  subst hk
  rw[List.drop_length,bookR]at hgo
  simp -dsimp -implicitDefEqProofs [-getElem?_pos,go_sem,hP,t2,t4,g0,g1,l0,l1]
  rw[hS0]at*
  refine done_imm (imm_pair ?_ .sc) (by rw[←cst];exact qo L hgo)
  rw[←cst]
  exact ist L
open Go.PA
open Go.RowKit
theorem rat_pf (d:TDesk) (w:Int) (hl:d.Items.length≤1000000):PFun Tryz.prog none none 222 [.agg d.cells,iv w] (·=iv (posI d.Items w)):=by
 refine pfun_intro Tryz.func222 rfl (by simp[Tryz.f222]) (by kernel_rfl) ?_
 intro E hP hr hs hW hN
 obtain⟨R,hR⟩:∃R,R=posI d.Items w:=⟨_,rfl⟩
 rw[←hR]
 rw[posI]at hR
 obtain⟨l,hll⟩:∃l,l=d.Items:=⟨_,rfl⟩
 rw[←hll]at hR hl
 simp -dsimp -implicitDefEqProofs [-getElem?_pos,go_sem,hP,cDn,←hll]
 obtain⟨I,hI⟩:∃I:Nat→St→Prop,I=fun m s=>∃k:Nat,k≤l.length∧m=l.length-k∧R=idxFrom (fun x:TItem=>decide (x.Payment.Warrant=w)) k (l.drop k)∧s.t 1=iv w∧s.t 8=itemsL l∧s.t 9=iv l.length∧s.t 10=iv k:=⟨_,rfl⟩
 refine aloop0 I (l.length) (by rw[hN];rfl) ?_ ?_
 ·rw[hI]
  exact⟨0,by omega,by omega,by rw[hR];rfl,by simp -dsimp[-getElem?_pos,go_sem],by simp -dsimp[-getElem?_pos,go_sem],by simp -dsimp[-getElem?_pos,go_sem],by simp -dsimp[-getElem?_pos,go_sem]⟩
 intro m s hs'
 rw[hI]at hs'
 obtain⟨k,hk,hm,hq,t1,t8,t9,t10⟩:=hs'
 simp -dsimp -implicitDefEqProofs [-getElem?_pos,go_sem,hP,t9,t10]
 refine condP (fun h=>?_) (fun h=>?_)
 ·have hk:k<l.length:=by simpa using h
  obtain⟨a,ha⟩:∃a,l[k]?=some a:=⟨_,List.getElem?_eq_getElem hk⟩
  have wk:=wrap_in ((k:Int)+1) (by omega)
  rw[drop_at ha,idxFrom]at hq
  by_cases c:a.Payment.Warrant=w
  ·rw[if_pos (by simpa using c)]at hq
   simp -dsimp -implicitDefEqProofs [-getElem?_pos,go_sem,hP,t8,t10,ha,cIt,t1,c,hq]
  ·rw[if_neg (by simpa using c)]at hq
   have d:=decide_eq_false c
   simp -dsimp -implicitDefEqProofs [-getElem?_pos,go_sem,hP,t8,t10,ha,cIt,t1,c,d,wk]
   refine⟨l.length-(k+1),by omega,?_⟩
   rw[hI]
   exact⟨k+1,by omega,rfl,hq,by simp -dsimp[-getElem?_pos,go_sem,t1],by simp -dsimp[-getElem?_pos,go_sem,t8],by simp -dsimp[-getElem?_pos,go_sem,t9],by simp -dsimp[-getElem?_pos,go_sem]⟩
 ·have hk:k=l.length:=by simp at h;omega
  subst hk
  rw[List.drop_length,idxFrom]at hq
  simp -dsimp -implicitDefEqProofs [-getElem?_pos,go_sem,hP,hq]
abbrev zeroP:TPayment:=⟨0,0,0,0,0⟩
theorem rwaiting_pf (q:TQueue) (w:Int) (hl:q.Waiting.length≤1000000):PFun Tryz.prog none none 272 [.agg q.cells,iv w] (·= .tup [.agg ((waitO q w).getD zeroP).cells,bv (waitO q w).isSome]):=by
 refine pfun_intro Tryz.func272 rfl (by simp[Tryz.f272]) (by kernel_rfl) ?_
 intro E hP hr hs hW hN
 obtain⟨o,ho⟩:∃o,o=waitO q w:=⟨_,rfl⟩
 rw[←ho]
 rw[waitO]at ho
 obtain⟨l,hll⟩:∃l,l=q.Waiting:=⟨_,rfl⟩
 rw[←hll]at ho hl
 simp -dsimp -implicitDefEqProofs [-getElem?_pos,go_sem,hP,cQn,←hll]
 obtain⟨I,hI⟩:∃I:Nat→St→Prop,I=fun m s=>∃k:Nat,k≤l.length∧m=l.length-k∧o=(l.drop k).find? (hasW w)∧s.t 1=iv w∧s.t 4= .ref 1 0 0∧s.t 9=paysL l∧s.t 10=iv l.length∧s.t 11=iv k∧s.H[1]?=some (some ⟨81,5,[[iv 0,iv 0,iv 0,iv 0,iv 0]]⟩):=⟨_,rfl⟩
 refine aloop0 I (l.length) (by rw[hN];rfl) ?_ ?_
 ·rw[hI]
  exact⟨0,by omega,by omega,by rw[ho];rfl,by simp -dsimp[-getElem?_pos,go_sem],by simp -dsimp[-getElem?_pos,go_sem],by simp -dsimp[-getElem?_pos,go_sem],by simp -dsimp[-getElem?_pos,go_sem],by simp -dsimp[-getElem?_pos,go_sem],by simp -dsimp[-getElem?_pos,go_sem]⟩
 intro m s hs'
 rw[hI]at hs'
 obtain⟨k,hk,hm,hq,t1,t4,t9,t10,t11,h1⟩:=hs'
 have lt1:=(gsI h1)
 simp -dsimp -implicitDefEqProofs [-getElem?_pos,go_sem,hP,t10,t11]
 refine condP (fun h=>?_) (fun h=>?_)
 ·have hk:k<l.length:=by simpa using h
  obtain⟨a,ha⟩:∃a,l[k]?=some a:=⟨_,List.getElem?_eq_getElem hk⟩
  have wk:=wrap_in ((k:Int)+1) (by omega)
  have g1:∀x:Option AObj,(s.H++[x])[1]?=some (some ⟨81,5,[[iv 0,iv 0,iv 0,iv 0,iv 0]]⟩):=fun x=>by rw[List.getElem?_append_left lt1];exact h1
  rw[drop_at ha,List.find?_cons]at hq
  by_cases c:a.Warrant=w
  ·rw[show hasW w a=true by simp[hasW,c]]at hq
   simp only at hq
   simp -dsimp -implicitDefEqProofs [-getElem?_pos,go_sem,hP,t9,t11,ha,cPy,t1,c,t4,g1,lt1,h1]
   refine done_imm (imm_pair (imm_pay ⟨w,a.Payee,a.Amount,a.Due,a.Sub⟩) .sc) ?_
   rw[hq,Option.getD_some,cPy,c]
   rfl
  ·rw[show hasW w a=false by simp[hasW,c]]at hq
   simp only at hq
   have d:=decide_eq_false c
   simp -dsimp -implicitDefEqProofs [-getElem?_pos,go_sem,hP,t9,t11,ha,cPy,t1,c,d,wk]
   refine⟨l.length-(k+1),by omega,?_⟩
   rw[hI]
   exact⟨k+1,by omega,rfl,hq,by simp -dsimp[-getElem?_pos,go_sem,t1],by simp -dsimp[-getElem?_pos,go_sem,t4],by simp -dsimp[-getElem?_pos,go_sem,t9],by simp -dsimp[-getElem?_pos,go_sem,t10],by simp -dsimp[-getElem?_pos,go_sem],by simp -dsimp[-getElem?_pos,go_sem,lt1,h1]⟩
 ·have hk:k=l.length:=by simp at h;omega
  subst hk
  rw[List.drop_length,List.find?_nil]at hq
  simp -dsimp -implicitDefEqProofs [-getElem?_pos,go_sem,hP,t4,h1,lt1,hq]
  exact done_imm (imm_pair (imm_pay zeroP) .sc) (by rw[hq];rfl)
theorem rbatched_pf (q:TQueue) (w:Int) (hf:FitQ q):PFun Tryz.prog none none 273 [.agg q.cells,iv w] (·=iv (batN q w)):=by
 refine pfun_intro Tryz.func273 rfl (by simp[Tryz.f273]) (by kernel_rfl) ?_
 intro E hP hr hs hW hN
 obtain⟨R,hR⟩:∃R,R=batN q w:=⟨_,rfl⟩
 rw[←hR]
 rw[batN]at hR
 have lb:=hf.b
 have each:=hf.each
 obtain⟨l,hl⟩:∃l,l=q.Batches:=⟨_,rfl⟩
 rw[←hl]at hR lb each
 simp -dsimp -implicitDefEqProofs [-getElem?_pos,go_sem,hP,cQn,←hl]
 obtain⟨I,hI⟩:∃I:Nat→St→Prop,I=fun m s=>∃(k c:Nat),k≤l.length∧m=l.length-k∧c=((l.take k).map fun b=>b.Payments.countP (hasW w)).sum∧c≤100000*k∧s.t 1=iv w∧s.t 5=iv c∧s.t 11=batsL l∧s.t 12=iv l.length∧s.t 13=iv k:=⟨_,rfl⟩
 refine aloop0 I (l.length) (by rw[hN];rfl) ?_ ?_
 ·rw[hI]
  exact⟨0,0,by omega,by omega,by simp,by omega,by simp -dsimp[-getElem?_pos,go_sem],by simp -dsimp[-getElem?_pos,go_sem],by simp -dsimp[-getElem?_pos,go_sem],by simp -dsimp[-getElem?_pos,go_sem],by simp -dsimp[-getElem?_pos,go_sem]⟩
 intro m s hs'
 rw[hI]at hs'
 obtain⟨k,c,hk,hm,hc,hcl,t1,t5,t11,t12,t13⟩:=hs'
 simp -dsimp -implicitDefEqProofs [-getElem?_pos,go_sem,hP,t12,t13]
 refine condP (fun h=>?_) (fun h=>?_)
 ·have hk:k<l.length:=by simpa using h
  obtain⟨b,hb⟩:∃b,l[k]?=some b:=⟨_,List.getElem?_eq_getElem hk⟩
  have wk:=wrap_in ((k:Int)+1) (by omega)
  have hbl:=each b (List.mem_of_getElem? hb)
  have es:((l.take (k+1)).map fun b=>b.Payments.countP (hasW w)).sum=((l.take k).map fun b=>b.Payments.countP (hasW w)).sum+b.Payments.countP (hasW w):=by rw[take_at hb,List.map_append,List.sum_append];simp
  have lp:=List.countP_le_length (p:=hasW w) (l:=b.Payments)
  obtain⟨P,hPP⟩:∃P,P=b.Payments:=⟨_,rfl⟩
  rw[←hPP]at hbl es lp
  simp -dsimp -implicitDefEqProofs [-getElem?_pos,go_sem,hP,t11,t13,hb,cBt,←hPP]
  obtain⟨J,hJ⟩:∃I:Nat→St→Prop,I=fun m s=>∃(j:Nat),j≤P.length∧m=P.length-j∧s.t 1=iv w∧s.t 5=iv (c+(P.take j).countP (hasW w))∧s.t 11=batsL l∧s.t 12=iv l.length∧s.t 13=iv k∧s.t 18=paysL P∧s.t 19=iv P.length∧s.t 20=iv j:=⟨_,rfl⟩
  refine aloop0 J (P.length) (by rw[hN];rfl) ?_ ?_
  ·rw[hJ]
   exact⟨0,by omega,by omega,by simp -dsimp[-getElem?_pos,go_sem,t1],by simp -dsimp[-getElem?_pos,go_sem,t5],by simp -dsimp[-getElem?_pos,go_sem,t11],by simp -dsimp[-getElem?_pos,go_sem,t12],by simp -dsimp[-getElem?_pos,go_sem,t13],by simp -dsimp[-getElem?_pos,go_sem],by simp -dsimp[-getElem?_pos,go_sem],by simp -dsimp[-getElem?_pos,go_sem]⟩
  clear t1 t5 t11 t12 t13
  intro m s hs'
  rw[hJ]at hs'
  obtain⟨j,hj,hm2,t1,t5,t11,t12,t13,t18,t19,t20⟩:=hs'
  simp -dsimp -implicitDefEqProofs [-getElem?_pos,go_sem,hP,t19,t20]
  refine condP (fun h=>?_) (fun h=>?_)
  ·have hj:j<P.length:=by simpa using h
   obtain⟨p,hp⟩:∃p,P[j]?=some p:=⟨_,List.getElem?_eq_getElem hj⟩
   have wj:=wrap_in ((j:Int)+1) (by omega)
   have ej:(P.take (j+1)).countP (hasW w)=(P.take j).countP (hasW w)+if hasW w p=true then 1 else 0:=by rw[take_at hp,List.countP_append,List.countP_cons,List.countP_nil,Nat.zero_add]
   have lj:=List.countP_le_length (p:=hasW w) (l:=P.take j)
   rw[List.length_take]at lj
   generalize (P.take j).countP (hasW w)=cj at ej t5 lj
   have wc:=wrap_in ((c:Int)+cj+1) (by omega)
   by_cases e:p.Warrant=w
   ·rw[show hasW w p=true by simp[hasW,e],if_pos rfl]at ej
    have e1:(c:Int)+((P.take (j+1)).countP (hasW w):Nat)=c+cj+1:=by rw[ej];omega
    simp -dsimp -implicitDefEqProofs [-getElem?_pos,go_sem,hP,t18,t20,hp,cPy,t1,e,t5,wc,wj]
    refine⟨P.length-(j+1),by omega,?_⟩
    rw[hJ]
    exact⟨j+1,by omega,rfl,by simp -dsimp[-getElem?_pos,go_sem,t1],by simp -dsimp[-getElem?_pos,go_sem,e1],by simp -dsimp[-getElem?_pos,go_sem,t11],by simp -dsimp[-getElem?_pos,go_sem,t12],by simp -dsimp[-getElem?_pos,go_sem,t13],by simp -dsimp[-getElem?_pos,go_sem,t18],by simp -dsimp[-getElem?_pos,go_sem,t19],by simp -dsimp[-getElem?_pos,go_sem]⟩
   ·rw[show hasW w p=false by simp[hasW,e],if_neg (by simp)]at ej
    have d:=decide_eq_false e
    simp -dsimp -implicitDefEqProofs [-getElem?_pos,go_sem,hP,t18,t20,hp,cPy,t1,e,d,wj]
    refine⟨P.length-(j+1),by omega,?_⟩
    rw[hJ]
    exact⟨j+1,by omega,rfl,by simp -dsimp[-getElem?_pos,go_sem,t1],by simp -dsimp[-getElem?_pos,go_sem,t5,ej],by simp -dsimp[-getElem?_pos,go_sem,t11],by simp -dsimp[-getElem?_pos,go_sem,t12],by simp -dsimp[-getElem?_pos,go_sem,t13],by simp -dsimp[-getElem?_pos,go_sem,t18],by simp -dsimp[-getElem?_pos,go_sem,t19],by simp -dsimp[-getElem?_pos,go_sem]⟩
  ·have hj:j=P.length:=by simp at h;omega
   subst hj
   rw[List.take_length]at t5
   simp -dsimp -implicitDefEqProofs [-getElem?_pos,go_sem,hP,t13,wk]
   refine⟨l.length-(k+1),by omega,?_⟩
   rw[hI]
   exact⟨k+1,c+P.countP (hasW w),by omega,rfl,by rw[es,hc],by omega,by simp -dsimp[-getElem?_pos,go_sem,t1],by simp -dsimp[-getElem?_pos,go_sem,t5],by simp -dsimp[-getElem?_pos,go_sem,t11],by simp -dsimp[-getElem?_pos,go_sem,t12],by simp -dsimp[-getElem?_pos,go_sem]⟩
 ·have hk:k=l.length:=by simp at h;omega
  subst hk
  rw[List.take_length]at hc
  simp -dsimp -implicitDefEqProofs [-getElem?_pos,go_sem,hP,t5,hR,hc]
theorem rcounted_pf (a:TAccount) (p:TPayment) (he:a.Entries.length≤100000) (hs1:1≤p.Sub):PFun Tryz.prog none none 274 [.agg a.cells,.agg p.cells] (·= .tup [iv (a.Entries.countP (outE p)),iv (a.Entries.countP (inE p)),bv (a.Entries.all (okE p))]):=by
 refine pfun_intro Tryz.func274 rfl (by simp[Tryz.f274]) (by kernel_rfl) ?_
 intro E hP hr hs hW hN
 obtain⟨l,hl⟩:∃l,l=a.Entries:=⟨_,rfl⟩
 rw[←hl]at he
 simp -dsimp -implicitDefEqProofs [-getElem?_pos,go_sem,hP,cA,cPy,←hl]
 obtain⟨I,hI⟩:∃I:Nat→St→Prop,I=fun m s=>∃(k o i:Nat),k≤l.length∧m=l.length-k∧o≤k∧i≤k∧o=(l.take k).countP (outE p)∧i=(l.take k).countP (inE p)∧s.t 3= .ref 1 0 0∧s.t 7=iv o∧s.t 8=iv i∧s.t 9=bv ((l.take k).all (okE p))∧s.t 13=entsL l∧s.t 14=iv l.length∧s.t 15=iv k∧s.H[1]?=some (some ⟨81,5,[[iv p.Warrant,iv p.Payee,iv p.Amount,iv p.Due,iv p.Sub]]⟩):=⟨_,rfl⟩
 refine aloop0 I (l.length) (by rw[hN];rfl) ?_ ?_
 ·rw[hI]
  exact⟨0,0,0,by omega,by omega,by omega,by omega,by simp,by simp,by simp -dsimp[-getElem?_pos,go_sem],by simp -dsimp[-getElem?_pos,go_sem],by simp -dsimp[-getElem?_pos,go_sem],by simp -dsimp[-getElem?_pos,go_sem],by simp -dsimp[-getElem?_pos,go_sem],by simp -dsimp[-getElem?_pos,go_sem],by simp -dsimp[-getElem?_pos,go_sem],by simp -dsimp[-getElem?_pos,go_sem]⟩
 intro m s hs'
 rw[hI]at hs'
 obtain⟨k,o,i,hk,hm,lo,li,ho,hi,t3,t7,t8,t9,t13,t14,t15,h1⟩:=hs'
 have lt1:=(gsI h1)
 simp -dsimp -implicitDefEqProofs [-getElem?_pos,go_sem,hP,t14,t15]
 refine condP (fun h=>?_) (fun h=>?_)
 ·have hk:k<l.length:=by simpa using h
  obtain⟨e,hee⟩:∃e,l[k]?=some e:=⟨_,List.getElem?_eq_getElem hk⟩
  have wk:=wrap_in ((k:Int)+1) (by omega)
  have g1:∀y:Option AObj,(s.H++[y])[1]?=some (some ⟨81,5,[[iv p.Warrant,iv p.Payee,iv p.Amount,iv p.Due,iv p.Sub]]⟩):=fun y=>by rw[List.getElem?_append_left lt1];exact h1
  have eo:(l.take (k+1)).countP (outE p)=(l.take k).countP (outE p)+if outE p e=true then 1 else 0:=by rw[take_at hee,List.countP_append,List.countP_cons,List.countP_nil,Nat.zero_add]
  have ei:(l.take (k+1)).countP (inE p)=(l.take k).countP (inE p)+if inE p e=true then 1 else 0:=by rw[take_at hee,List.countP_append,List.countP_cons,List.countP_nil,Nat.zero_add]
  have ea:(l.take (k+1)).all (okE p)=((l.take k).all (okE p)&&okE p e):=by rw[take_at hee,List.all_append];simp
  rw[←ho]at eo
  rw[←hi]at ei
  generalize (l.take k).all (okE p)=bk at ea t9
  have wo:=wrap_in ((o:Int)+1) (by omega)
  have wi:=wrap_in ((i:Int)+1) (by omega)
  have fin:∀(s':St) (o' i':Nat),o'≤k+1→i'≤k+1→o'=(l.take (k+1)).countP (outE p)→i'=(l.take (k+1)).countP (inE p)→s'.t 3= .ref 1 0 0→s'.t 7=iv o'→s'.t 8=iv i'→s'.t 9=bv (bk&&okE p e)→s'.t 13=entsL l→s'.t 14=iv l.length→s'.t 15=iv (k+1)→s'.H[1]?=some (some ⟨81,5,[[iv p.Warrant,iv p.Payee,iv p.Amount,iv p.Due,iv p.Sub]]⟩)→∃m',m'<m∧I m' s':=fun s' o' i' b1 b2 b3 b4 a1 a2 a3 a4 a5 a6 a7 a8=>by
   refine⟨l.length-(k+1),by omega,?_⟩
   rw[hI]
   exact⟨k+1,o',i',by omega,rfl,b1,b2,b3,b4,a1,a2,a3,by rw[ea];exact a4,a5,a6,a7,a8⟩
  by_cases c1:e.Ref=p.Warrant
  rotate_left
  ·have d1:=decide_eq_false c1
   have hok:okE p e=true:=by simp[okE,d1]
   rw[show outE p e=false by simp[outE,d1],if_neg (by simp)]at eo
   rw[show inE p e=false by simp[inE,d1],if_neg (by simp)]at ei
   simp -dsimp -implicitDefEqProofs [-getElem?_pos,go_sem,hP,t13,t15,hee,cE,t3,g1,lt1,h1,c1,d1,wk]
   exact fin _ o i (by omega) (by omega) (by omega) (by omega) (by simp -dsimp[-getElem?_pos,go_sem,t3]) (by simp -dsimp[-getElem?_pos,go_sem,t7]) (by simp -dsimp[-getElem?_pos,go_sem,t8]) (by simp -dsimp[-getElem?_pos,go_sem,t9,hok]) (by simp -dsimp[-getElem?_pos,go_sem,t13]) (by simp -dsimp[-getElem?_pos,go_sem,t14]) (by simp -dsimp[-getElem?_pos,go_sem]) (by simp -dsimp[-getElem?_pos,go_sem,lt1,h1])
  have d1:decide (e.Ref=p.Warrant)=true:=decide_eq_true c1
  by_cases c2:e.From=p.Sub
  ·have c3:¬e.From=0:=by omega
   have d3:=decide_eq_false c3
   by_cases c4:e.To=0
   ·have hok:okE p e=decide (e.Amount=p.Amount):=by simp[okE,c1,c2,c4]
    rw[show outE p e=true by simp[outE,c1,c2,c4],if_pos rfl]at eo
    rw[show inE p e=false by simp[inE,c3],if_neg (by simp)]at ei
    cases bk
    ·simp -dsimp -implicitDefEqProofs [-getElem?_pos,go_sem,hP,t13,t15,hee,cE,t3,g1,lt1,h1,c1,c2,c4,t7,t9,wo,wk]
     exact fin _ (o+1) i (by omega) (by omega) (by omega) (by omega) (by simp -dsimp[-getElem?_pos,go_sem,t3]) (by simp -dsimp[-getElem?_pos,go_sem]) (by simp -dsimp[-getElem?_pos,go_sem,t8]) (by simp -dsimp[-getElem?_pos,go_sem]) (by simp -dsimp[-getElem?_pos,go_sem,t13]) (by simp -dsimp[-getElem?_pos,go_sem,t14]) (by simp -dsimp[-getElem?_pos,go_sem]) (by simp -dsimp[-getElem?_pos,go_sem,lt1,h1])
    ·simp -dsimp -implicitDefEqProofs [-getElem?_pos,go_sem,hP,t13,t15,hee,cE,t3,g1,lt1,h1,c1,c2,c4,t7,t9,wo,wk]
     exact fin _ (o+1) i (by omega) (by omega) (by omega) (by omega) (by simp -dsimp[-getElem?_pos,go_sem,t3]) (by simp -dsimp[-getElem?_pos,go_sem]) (by simp -dsimp[-getElem?_pos,go_sem,t8]) (by simp -dsimp[-getElem?_pos,go_sem,hok]) (by simp -dsimp[-getElem?_pos,go_sem,t13]) (by simp -dsimp[-getElem?_pos,go_sem,t14]) (by simp -dsimp[-getElem?_pos,go_sem]) (by simp -dsimp[-getElem?_pos,go_sem,lt1,h1])
   ·have d4:=decide_eq_false c4
    have hok:okE p e=false:=by simp[okE,d1,d3,d4]
    rw[show outE p e=false by simp[outE,d4],if_neg (by simp)]at eo
    rw[show inE p e=false by simp[inE,d3],if_neg (by simp)]at ei
    have nz:¬p.Sub=0:=by omega
    simp -dsimp -implicitDefEqProofs [-getElem?_pos,go_sem,hP,t13,t15,hee,cE,t3,g1,lt1,h1,c1,c2,c4,d4,nz,d3,wk]
    exact fin _ o i (by omega) (by omega) (by omega) (by omega) (by simp -dsimp[-getElem?_pos,go_sem,t3]) (by simp -dsimp[-getElem?_pos,go_sem,t7]) (by simp -dsimp[-getElem?_pos,go_sem,t8]) (by simp -dsimp[-getElem?_pos,go_sem,hok]) (by simp -dsimp[-getElem?_pos,go_sem,t13]) (by simp -dsimp[-getElem?_pos,go_sem,t14]) (by simp -dsimp[-getElem?_pos,go_sem]) (by simp -dsimp[-getElem?_pos,go_sem,lt1,h1])
  ·have d2:=decide_eq_false c2
   rw[show outE p e=false by simp[outE,d2],if_neg (by simp)]at eo
   by_cases c3:e.From=0
   ·by_cases c4:e.To=p.Sub
    ·have hok:okE p e=decide (e.Amount=p.Amount):=by simp[okE,d1,c3,c4]
     rw[show inE p e=true by simp[inE,c1,c3,c4],if_pos rfl]at ei
     have d2':decide ((0:Int)=p.Sub)=false:=by rw[←c3];exact d2
     cases bk
     ·simp -dsimp -implicitDefEqProofs [-getElem?_pos,go_sem,hP,t13,t15,hee,cE,t3,g1,lt1,h1,c1,c2,d2,d2',c3,c4,t8,t9,wi,wk]
      exact fin _ o (i+1) (by omega) (by omega) (by omega) (by omega) (by simp -dsimp[-getElem?_pos,go_sem,t3]) (by simp -dsimp[-getElem?_pos,go_sem,t7]) (by simp -dsimp[-getElem?_pos,go_sem]) (by simp -dsimp[-getElem?_pos,go_sem]) (by simp -dsimp[-getElem?_pos,go_sem,t13]) (by simp -dsimp[-getElem?_pos,go_sem,t14]) (by simp -dsimp[-getElem?_pos,go_sem]) (by simp -dsimp[-getElem?_pos,go_sem,lt1,h1,c3])
     ·simp -dsimp -implicitDefEqProofs [-getElem?_pos,go_sem,hP,t13,t15,hee,cE,t3,g1,lt1,h1,c1,c2,d2,d2',c3,c4,t8,t9,wi,wk]
      exact fin _ o (i+1) (by omega) (by omega) (by omega) (by omega) (by simp -dsimp[-getElem?_pos,go_sem,t3]) (by simp -dsimp[-getElem?_pos,go_sem,t7]) (by simp -dsimp[-getElem?_pos,go_sem]) (by simp -dsimp[-getElem?_pos,go_sem,hok]) (by simp -dsimp[-getElem?_pos,go_sem,t13]) (by simp -dsimp[-getElem?_pos,go_sem,t14]) (by simp -dsimp[-getElem?_pos,go_sem]) (by simp -dsimp[-getElem?_pos,go_sem,lt1,h1,c3])
    ·have d4:=decide_eq_false c4
     have hok:okE p e=false:=by simp[okE,d1,d2,d4]
     have d2':decide ((0:Int)=p.Sub)=false:=by rw[←c3];exact d2
     rw[show inE p e=false by simp[inE,d4],if_neg (by simp)]at ei
     simp -dsimp -implicitDefEqProofs [-getElem?_pos,go_sem,hP,t13,t15,hee,cE,t3,g1,lt1,h1,c1,c2,d2,d2',c3,c4,d4,wk]
     exact fin _ o i (by omega) (by omega) (by omega) (by omega) (by simp -dsimp[-getElem?_pos,go_sem,t3]) (by simp -dsimp[-getElem?_pos,go_sem,t7]) (by simp -dsimp[-getElem?_pos,go_sem,t8]) (by simp -dsimp[-getElem?_pos,go_sem,hok]) (by simp -dsimp[-getElem?_pos,go_sem,t13]) (by simp -dsimp[-getElem?_pos,go_sem,t14]) (by simp -dsimp[-getElem?_pos,go_sem]) (by simp -dsimp[-getElem?_pos,go_sem,lt1,h1,c3])
   ·have d3:=decide_eq_false c3
    have hok:okE p e=false:=by simp[okE,d1,d2,d3]
    rw[show inE p e=false by simp[inE,d3],if_neg (by simp)]at ei
    simp -dsimp -implicitDefEqProofs [-getElem?_pos,go_sem,hP,t13,t15,hee,cE,t3,g1,lt1,h1,c1,c2,d2,c3,d3,wk]
    exact fin _ o i (by omega) (by omega) (by omega) (by omega) (by simp -dsimp[-getElem?_pos,go_sem,t3]) (by simp -dsimp[-getElem?_pos,go_sem,t7]) (by simp -dsimp[-getElem?_pos,go_sem,t8]) (by simp -dsimp[-getElem?_pos,go_sem,hok]) (by simp -dsimp[-getElem?_pos,go_sem,t13]) (by simp -dsimp[-getElem?_pos,go_sem,t14]) (by simp -dsimp[-getElem?_pos,go_sem]) (by simp -dsimp[-getElem?_pos,go_sem,lt1,h1])
 ·have hk:k=l.length:=by simp at h;omega
  subst hk
  rw[List.take_length]at t9 ho hi
  simp -dsimp -implicitDefEqProofs [-getElem?_pos,go_sem,hP,t7,t8,t9]
  exact done_imm (imm_trip .sc .sc .sc) (by rw[ho,hi,hl])
open Go.PA
open Go.RowKit
theorem pay_ext {a b:TPayment} (h1:a.Warrant=b.Warrant) (h2:a.Payee=b.Payee) (h3:a.Amount=b.Amount) (h4:a.Due=b.Due) (h5:a.Sub=b.Sub):a=b:=by
 cases a;cases b
 simp only at h1 h2 h3 h4 h5
 simp[h1,h2,h3,h4,h5]
set_option maxHeartbeats 4000000 in
theorem rcheck26_pf (d:TDesk) (hf:FitD d):PFun Tryz.prog none none 216 [.agg d.cells] (·=iv (checkD d)):=by
 refine pfun_intro Tryz.func216 rfl (by simp[Tryz.f216]) (by kernel_rfl) ?_
 intro E hP hr hs hW hN
 have ia:=imm_acc d.Account
 have iq:=imm_que d.Queue
 have cka:=check23_pf d.Account hf.s hf.e
 have ckq:=rcheck25_pf d.Queue hf.q
 rw[cA]at ia cka
 rw[cQn]at iq ckq
 have li:=hf.i
 have lk:=hf.q.k
 obtain⟨R,hR⟩:∃R,R=checkD d:=⟨_,rfl⟩
 rw[←hR]
 simp -dsimp -implicitDefEqProofs [-getElem?_pos,go_sem,hP,cDn]
 refine callB_is (cka.lift _ _) hP en_46 (by simpa using ia) .sc ?_
 by_cases c1:checkA d.Account=0
 rotate_left
 ·have:R=checkA d.Account:=by rw[hR,checkD,if_neg c1]
  simp -dsimp -implicitDefEqProofs [-getElem?_pos,go_sem,hP,c1,this]
 simp -dsimp -implicitDefEqProofs [-getElem?_pos,go_sem,hP,c1]
 refine callB_is (ckq.lift _ _) hP en_270 (by simpa using iq) .sc ?_
 by_cases c2:checkQ d.Queue=0
 rotate_left
 ·have:R=checkQ d.Queue:=by rw[hR,checkD,if_pos c1,if_neg c2]
  simp -dsimp -implicitDefEqProofs [-getElem?_pos,go_sem,hP,c2,this]
 rw[checkD,if_pos c1,if_pos c2,deskB]at hR
 obtain⟨l,hl⟩:∃l,l=d.Items:=⟨_,rfl⟩
 obtain⟨K,hK⟩:∃K,K=d.Queue.Known:=⟨_,rfl⟩
 obtain⟨itB,hit⟩:∃f,f=itemB d:=⟨_,rfl⟩
 rw[←hl,←hK,←hit]at hR
 rw[←hl]at li
 rw[←hK]at lk
 rw[←hK]at iq
 by_cases c3:l.length=K.length
 rotate_left
 ·have d3:decide ((l.length:Int)=(K.length:Int))=false:=decide_eq_false (by omega)
  have hne:¬l.map wrt=K:=fun e=>c3 (by rw[←e,List.length_map])
  rw[decide_eq_false hne,Bool.false_and,if_neg (by simp)]at hR
  simp -dsimp -implicitDefEqProofs [-getElem?_pos,go_sem,hP,c2,←hl,←hK,d3,hR]
 have d3:decide ((l.length:Int)=(K.length:Int))=true:=decide_eq_true (by omega)
 simp -dsimp -implicitDefEqProofs [-getElem?_pos,go_sem,hP,c2,←hl,←hK,d3]
 obtain⟨I,hI⟩:∃I:Nat→St→Prop,I=fun m s=>∃(k:Nat),k≤l.length∧m=l.length-k∧(l.take k).map wrt=K.take k∧(l.take k).all itB=true∧s.t 1= .ref 0 0 0∧s.t 37=itemsL l∧s.t 38=iv l.length∧s.t 39=iv k∧s.H[0]?=some (some ⟨35,7,[[iv d.Account.Credit,subsL d.Account.Subs,entsL d.Account.Entries,paysL d.Queue.Waiting,numsL K,batsL d.Queue.Batches,itemsL l]]⟩):=⟨_,rfl⟩
 refine aloop0 I (l.length) (by rw[hN];rfl) ?_ ?_
 ·rw[hI]
  exact⟨0,by omega,by omega,by simp,by simp,by simp -dsimp[-getElem?_pos,go_sem],by simp -dsimp[-getElem?_pos,go_sem],by simp -dsimp[-getElem?_pos,go_sem],by simp -dsimp[-getElem?_pos,go_sem],by simp -dsimp[-getElem?_pos,go_sem]⟩
 intro m s hs'
 rw[hI]at hs'
 obtain⟨k,hk,hm,hmap,hall,t1,t37,t38,t39,h0⟩:=hs'
 have lt0:=(gsI h0)
 simp -dsimp -implicitDefEqProofs [-getElem?_pos,go_sem,hP,t38,t39]
 refine condP (fun hh=>?_) (fun hh=>?_)
 rotate_left
 ·have hk:k=l.length:=by simp at hh;omega
  subst hk
  rw[List.take_length]at hmap hall
  rw[c3,List.take_length]at hmap
  rw[decide_eq_true hmap,hall]at hR
  simp -dsimp -implicitDefEqProofs [-getElem?_pos,go_sem,hP,hR]
 have hk:k<l.length:=by simpa using hh
 obtain⟨x,hx⟩:∃x,l[k]?=some x:=⟨_,List.getElem?_eq_getElem hk⟩
 obtain⟨w,hw⟩:∃w,K[k]?=some w:=⟨_,List.getElem?_eq_getElem (by omega)⟩
 have wk:=wrap_in ((k:Int)+1) (by omega)
 have badI:itB x=false→R=68:=fun e=>by
  rw[hR,if_neg]
  rw[Bool.and_eq_true]
  rintro⟨_,h1⟩
  have:=List.all_eq_true.1 h1 x (List.mem_of_getElem? hx)
  rw[e]at this
  cases this
 have badW:¬x.Payment.Warrant=w→R=68:=fun e=>by
  rw[hR,if_neg]
  rw[Bool.and_eq_true]
  rintro⟨h1,_⟩
  have h1:l.map wrt=K:=of_decide_eq_true h1
  have:(l.map wrt)[k]?=some x.Payment.Warrant:=by rw[List.getElem?_map,hx];rfl
  rw[h1,hw]at this
  exact e (Option.some.inj this).symm
 have hitx:itB x=(payPB x.Payment&&((balanceA d.Account x.Payment.Sub).2&&(amg x.State 1 5&&(attB x&&(waitB d.Queue x&&(decide ((batN d.Queue x.Payment.Warrant:Int)=x.Attempts)&&movedB d.Account x)))))):=by rw[hit,itemB]
 have ix:=imm_item x
 have ip:=imm_pay x.Payment
 have bl:=balance23_pf d.Account x.Payment.Sub hf.s hf.e
 have py:=rpay_pf x.Payment
 have wt:=rwaiting_pf d.Queue x.Payment.Warrant (by have:=hf.q.w;omega)
 have bt:=rbatched_pf d.Queue x.Payment.Warrant hf.q
 have ct:=fun h=>rcounted_pf d.Account x.Payment hf.e h
 rw[cIt]at ix
 simp only[cA]at bl ct
 simp only[cPy]at ip py wt ct
 simp only[cQn,←hK]at wt bt
 obtain⟨n,hn⟩:∃n,n=s.H.length:=⟨_,rfl⟩
 obtain⟨H1,hH1⟩:∃H1,H1=s.H++[some (itemO x),some (⟨81,5,[[iv x.Payment.Warrant,iv x.Payment.Payee,iv x.Payment.Amount,iv x.Payment.Due,iv x.Payment.Sub]]⟩:AObj)]:=⟨_,rfl⟩
 have l1:H1.length=n+2:=by rw[hH1,hn];simp
 have k0:H1[0]?=some (some ⟨35,7,[[iv d.Account.Credit,subsL d.Account.Subs,entsL d.Account.Entries,paysL d.Queue.Waiting,numsL K,batsL d.Queue.Batches,itemsL l]]⟩):=by rw[hH1,List.getElem?_append_left lt0];exact h0
 have kn:H1[n]?=some (some (itemO x)):=by rw[hH1,hn,List.getElem?_append_right (Nat.le_refl _),Nat.sub_self];rfl
 have kp:H1[n+1]?=some (some ⟨81,5,[[iv x.Payment.Warrant,iv x.Payment.Payee,iv x.Payment.Amount,iv x.Payment.Due,iv x.Payment.Sub]]⟩):=by rw[hH1,hn,List.getElem?_append_right (by omega),Nat.add_sub_cancel_left];rfl
 have q0:0<H1.length:=by omega
 have qn:n<H1.length:=by omega
 have qp:n+1<H1.length:=by omega
 simp -dsimp -implicitDefEqProofs [-getElem?_pos,go_sem,hP,t37,t39,hx,cIt,t1,h0,lt0]
 rw[←hH1,←hn]
 refine callB_is (bl.lift _ _) hP en_218 (by simpa[imm_sc]using ia) (imm_pair .sc .sc) ?_
 simp -dsimp -implicitDefEqProofs [-getElem?_pos,go_sem,hP]
 refine adrawB (fun _=>true) [] hP (by kernel_rfl) (by kernel_rfl) ?_
 by_cases e1:x.Payment.Warrant=w
 rotate_left
 ·have f1:=decide_eq_false e1
  simp -dsimp -implicitDefEqProofs [-getElem?_pos,go_sem,hP,kp,qp,t1,k0,q0,hw,encI,f1,badW e1]
 subst e1
 simp -dsimp -implicitDefEqProofs [-getElem?_pos,go_sem,hP,kp,qp,t1,k0,q0,hw,encI]
 refine callB_is (py.lift _ _) hP en_271 (by simpa using ip) .sc ?_
 cases e2:payPB x.Payment
 ·rw[e2,Bool.false_and]at hitx
  simp -dsimp -implicitDefEqProofs [-getElem?_pos,go_sem,hP,kn,qn,badI hitx]
 rw[e2,Bool.true_and]at hitx
 have hsub:=((payPB_iff x.Payment).1 e2).sub.1
 cases e3:(balanceA d.Account x.Payment.Sub).2
 ·rw[e3,Bool.false_and]at hitx
  simp -dsimp -implicitDefEqProofs [-getElem?_pos,go_sem,hP,kn,qn,e3,badI hitx]
 rw[e3,Bool.true_and]at hitx
 by_cases e4:x.State<1
 ·rw[amg_no (by omega),Bool.false_and]at hitx
  simp -dsimp -implicitDefEqProofs [-getElem?_pos,go_sem,hP,kn,qn,e3,e4,badI hitx]
 have f4:=decide_eq_false e4
 by_cases e5:5<x.State
 ·rw[amg_no (by omega),Bool.false_and]at hitx
  simp -dsimp -implicitDefEqProofs [-getElem?_pos,go_sem,hP,kn,qn,e3,f4,e5,badI hitx]
 have f5:=decide_eq_false e5
 rw[amg_iff.2 (by omega),Bool.true_and,attB]at hitx
 by_cases e6:x.Attempts<0
 ·rw[amg_no (by omega),Bool.false_and,Bool.false_and]at hitx
  simp -dsimp -implicitDefEqProofs [-getElem?_pos,go_sem,hP,kn,qn,e3,f4,f5,e6,badI hitx]
 have f6:=decide_eq_false e6
 by_cases e7:5<x.Attempts
 ·rw[amg_no (by omega),Bool.false_and,Bool.false_and]at hitx
  simp -dsimp -implicitDefEqProofs [-getElem?_pos,go_sem,hP,kn,qn,e3,f4,f5,f6,e7,badI hitx]
 have f7:=decide_eq_false e7
 rw[amg_iff.2 (by omega),Bool.true_and]at hitx
 simp -dsimp -implicitDefEqProofs [-getElem?_pos,go_sem,hP,kn,qn,kp,qp,t1,k0,q0,e3,f4,f5,f6,f7]
 obtain⟨y,hy⟩:∃y,y=(waitO d.Queue x.Payment.Warrant).getD zeroP:=⟨_,rfl⟩
 obtain⟨is,his⟩:∃b,b=(waitO d.Queue x.Payment.Warrant).isSome:=⟨_,rfl⟩
 rw[←hy,←his]at wt
 refine callB_is (wt.lift _ _) hP en_272 (by simpa[imm_sc]using iq) (imm_pair (imm_pay _) .sc) ?_
 simp -dsimp -implicitDefEqProofs [-getElem?_pos,go_sem,hP,kn,qn,cPy]
 obtain⟨H2,hH2⟩:∃H2,H2=H1++[some (⟨81,5,[[iv y.Warrant,iv y.Payee,iv y.Amount,iv y.Due,iv y.Sub]]⟩:AObj)]:=⟨_,rfl⟩
 have l2:H2.length=n+3:=by rw[hH2];simp;omega
 have j0:=(show H2[0]?=H1[0]? by rw[hH2,List.getElem?_append_left q0]).trans k0
 have jn:=(show H2[n]?=H1[n]? by rw[hH2,List.getElem?_append_left qn]).trans kn
 have jp:=(show H2[n+1]?=H1[n+1]? by rw[hH2,List.getElem?_append_left qp]).trans kp
 have jy:H2[n+2]?=some (some ⟨81,5,[[iv y.Warrant,iv y.Payee,iv y.Amount,iv y.Due,iv y.Sub]]⟩):=by rw[hH2,←l1,List.getElem?_append_right (Nat.le_refl _),Nat.sub_self];rfl
 have z0:0<H2.length:=by omega
 have zn:n<H2.length:=by omega
 have zp:n+1<H2.length:=by omega
 have zy:n+2<H2.length:=by omega
 rw[←hH2,l1]
 obtain⟨Inv,hInv⟩:∃Inv:St→Prop,Inv=fun s'=>(s'.t 122=bv true∧R=68∨s'.t 122=bv false∧itB x=(!(decide (x.Attempts=5)&&decide (x.State=1))&&!(decide (x.Attempts=0)&&!(decide (x.State=1)||decide (x.State=5)))&&movedB d.Account x))∧s'.t 1= .ref 0 0 0∧s'.t 6= .ref n 0 0∧s'.t 7= .ref (n+1) 0 0∧s'.t 37=itemsL l∧s'.t 38=iv l.length∧s'.t 39=iv k∧s'.H=H2:=⟨_,rfl⟩
 refine adraw_cut Inv ?_ ?_
 ·have bad':∀s':St,itB x=false→s'.t 122=bv true→s'.t 1= .ref 0 0 0→s'.t 6= .ref n 0 0→s'.t 7= .ref (n+1) 0 0→s'.t 37=itemsL l→s'.t 38=iv l.length→s'.t 39=iv k→s'.H=H2→Inv s':=fun s' a b1 b2 b3 b4 b5 b6 b7 b8=>by
   rw[hInv]
   exact⟨.inl ⟨b1,badI a⟩,b2,b3,b4,b5,b6,b7,b8⟩
  rw[waitB]at hitx
  cases hwo:waitO d.Queue x.Payment.Warrant with
  |none=>
   rw[hwo]at hitx his hy
   simp only[Option.isSome_none]at hitx his
   subst his
   by_cases e8:x.State=1
   ·rw[decide_eq_true e8,Bool.not_true,Bool.false_and,Bool.and_false]at hitx
    refine adrawB (fun _=>true) [] hP (by kernel_rfl) (by kernel_rfl) ?_
    simp -dsimp -implicitDefEqProofs [-getElem?_pos,go_sem,hP,jn,zn,e8]
    exact bad' _ hitx (by simp -dsimp[-getElem?_pos,go_sem]) (by simp -dsimp[-getElem?_pos,go_sem,t1]) (by simp -dsimp[-getElem?_pos,go_sem,hn]) (by simp -dsimp[-getElem?_pos,go_sem,hn]) (by simp -dsimp[-getElem?_pos,go_sem,t37]) (by simp -dsimp[-getElem?_pos,go_sem,t38]) (by simp -dsimp[-getElem?_pos,go_sem,t39]) rfl
   have f8:=decide_eq_false e8
   rw[f8,Bool.not_false,Bool.true_and]at hitx
   refine adrawB (fun _=>true) [] hP (by kernel_rfl) (by kernel_rfl) ?_
   simp -dsimp -implicitDefEqProofs [-getElem?_pos,go_sem,hP,jn,zn,e8,f8,t1,j0,z0,jp,zp]
   refine callB_is (bt.lift _ _) hP en_273 (by simpa[imm_sc]using iq) .sc ?_
   by_cases e10:(batN d.Queue x.Payment.Warrant:Int)=x.Attempts
   ·have f10:=decide_eq_true e10
    rw[f10,Bool.true_and]at hitx
    simp -dsimp -implicitDefEqProofs [-getElem?_pos,go_sem,hP,e8,f8,f10,jn,zn]
    rw[hInv]
    exact⟨.inr ⟨by simp -dsimp[-getElem?_pos,go_sem],by rw[hitx,f8]⟩,by simp -dsimp[-getElem?_pos,go_sem,t1],by simp -dsimp[-getElem?_pos,go_sem,hn],by simp -dsimp[-getElem?_pos,go_sem,hn],by simp -dsimp[-getElem?_pos,go_sem,t37],by simp -dsimp[-getElem?_pos,go_sem,t38],by simp -dsimp[-getElem?_pos,go_sem,t39],rfl⟩
   ·have f10:=decide_eq_false e10
    rw[f10,Bool.false_and,Bool.and_false]at hitx
    simp -dsimp -implicitDefEqProofs [-getElem?_pos,go_sem,hP,e8,f8,f10,jn,zn]
    exact bad' _ hitx (by simp -dsimp[-getElem?_pos,go_sem]) (by simp -dsimp[-getElem?_pos,go_sem,t1]) (by simp -dsimp[-getElem?_pos,go_sem,hn]) (by simp -dsimp[-getElem?_pos,go_sem,hn]) (by simp -dsimp[-getElem?_pos,go_sem,t37]) (by simp -dsimp[-getElem?_pos,go_sem,t38]) (by simp -dsimp[-getElem?_pos,go_sem,t39]) rfl
  |some w=>
   rw[hwo]at hitx his hy
   simp only[Option.isSome_some,Option.getD_some]at hitx his hy
   subst his
   subst hy
   by_cases e8:x.State=1
   rotate_left
   ·have f8:=decide_eq_false e8
    rw[f8,Bool.false_and,Bool.false_and,Bool.and_false]at hitx
    refine adrawB (fun _=>true) [] hP (by kernel_rfl) (by kernel_rfl) ?_
    simp -dsimp -implicitDefEqProofs [-getElem?_pos,go_sem,hP,jn,zn,e8,f8]
    exact bad' _ hitx (by simp -dsimp[-getElem?_pos,go_sem]) (by simp -dsimp[-getElem?_pos,go_sem,t1]) (by simp -dsimp[-getElem?_pos,go_sem,hn]) (by simp -dsimp[-getElem?_pos,go_sem,hn]) (by simp -dsimp[-getElem?_pos,go_sem,t37]) (by simp -dsimp[-getElem?_pos,go_sem,t38]) (by simp -dsimp[-getElem?_pos,go_sem,t39]) rfl
   have f8:=decide_eq_true e8
   rw[f8,Bool.true_and]at hitx
   refine adrawB (fun _=>true) [] hP (by kernel_rfl) (by kernel_rfl) ?_
   simp -dsimp -implicitDefEqProofs [-getElem?_pos,go_sem,hP,jn,zn,e8,f8,t1,j0,z0,jp,zp,jy,zy]
   by_cases e9:y=x.Payment
   rotate_left
   ·have g9:(decide (y.Warrant=x.Payment.Warrant)&&(decide (y.Payee=x.Payment.Payee)&&(decide (y.Amount=x.Payment.Amount)&&(decide (y.Due=x.Payment.Due)&&decide (y.Sub=x.Payment.Sub)))))=false:=Bool.eq_false_iff.2 fun h=>e9 (by
     obtain⟨y1,y2,y3,y4,y5⟩:=y
     simp only[Bool.and_eq_true,decide_eq_true_eq]at h
     rw[h.1,h.2.1,h.2.2.1,h.2.2.2.1,h.2.2.2.2])
    rw[decide_eq_false e9,Bool.false_and,Bool.and_false]at hitx
    simp -dsimp -implicitDefEqProofs [-getElem?_pos,go_sem,hP,g9,e8]
    exact bad' _ hitx (by
     simp -dsimp -implicitDefEqProofs [-getElem?_pos,go_sem,g9]
     exact fun h1 h2 h3 h4 h5=>absurd (pay_ext h1 h2 h3 h4 h5) e9) (by simp -dsimp[-getElem?_pos,go_sem,t1]) (by simp -dsimp[-getElem?_pos,go_sem,hn]) (by simp -dsimp[-getElem?_pos,go_sem,hn]) (by simp -dsimp[-getElem?_pos,go_sem,t37]) (by simp -dsimp[-getElem?_pos,go_sem,t38]) (by simp -dsimp[-getElem?_pos,go_sem,t39]) rfl
   have g9:(decide (y.Warrant=x.Payment.Warrant)&&(decide (y.Payee=x.Payment.Payee)&&(decide (y.Amount=x.Payment.Amount)&&(decide (y.Due=x.Payment.Due)&&decide (y.Sub=x.Payment.Sub)))))=true:=by simp[e9]
   rw[decide_eq_true e9,Bool.true_and]at hitx
   simp -dsimp -implicitDefEqProofs [-getElem?_pos,go_sem,hP,g9,e8,t1,j0,z0,jp,zp]
   refine callB_is (bt.lift _ _) hP en_273 (by simpa[imm_sc]using iq) .sc ?_
   by_cases e10:(batN d.Queue x.Payment.Warrant:Int)=x.Attempts
   ·have f10:=decide_eq_true e10
    rw[f10,Bool.true_and]at hitx
    simp -dsimp -implicitDefEqProofs [-getElem?_pos,go_sem,hP,g9,e8,f10,jn,zn]
    rw[hInv]
    exact⟨.inr ⟨(by simp -dsimp[-getElem?_pos,go_sem,g9];simp[e9]),by rw[hitx,f8]⟩,by simp -dsimp[-getElem?_pos,go_sem,t1],by simp -dsimp[-getElem?_pos,go_sem,hn],by simp -dsimp[-getElem?_pos,go_sem,hn],by simp -dsimp[-getElem?_pos,go_sem,t37],by simp -dsimp[-getElem?_pos,go_sem,t38],by simp -dsimp[-getElem?_pos,go_sem,t39],rfl⟩
   ·have f10:=decide_eq_false e10
    rw[f10,Bool.false_and,Bool.and_false]at hitx
    simp -dsimp -implicitDefEqProofs [-getElem?_pos,go_sem,hP,g9,e8,f10,jn,zn]
    exact bad' _ hitx (by simp -dsimp[-getElem?_pos,go_sem,g9]) (by simp -dsimp[-getElem?_pos,go_sem,t1]) (by simp -dsimp[-getElem?_pos,go_sem,hn]) (by simp -dsimp[-getElem?_pos,go_sem,hn]) (by simp -dsimp[-getElem?_pos,go_sem,t37]) (by simp -dsimp[-getElem?_pos,go_sem,t38]) (by simp -dsimp[-getElem?_pos,go_sem,t39]) rfl
 clear t1 t37 t38 t39
 rw[hInv]
 rintro s ⟨hA,t1,t6,t7,t37,t38,t39,hH⟩
 rcases hA with⟨t122,hA⟩|⟨t122,hA⟩
 ·simp -dsimp -implicitDefEqProofs [-getElem?_pos,go_sem,hP,t122,hA]
 clear hitx
 have fin:itB x=true→∀s':St,s'.t 1= .ref 0 0 0→s'.t 37=itemsL l→s'.t 38=iv l.length→s'.t 39=iv (k+1)→s'.H[0]?=some (some ⟨35,7,[[iv d.Account.Credit,subsL d.Account.Subs,entsL d.Account.Entries,paysL d.Queue.Waiting,numsL K,batsL d.Queue.Batches,itemsL l]]⟩)→∃m',m'<m∧I m' s':=fun e s' b1 b2 b3 b4 b5=>by
  refine⟨l.length-(k+1),by omega,?_⟩
  rw[hI]
  refine⟨k+1,by omega,rfl,?_,?_,b1,b2,b3,b4,b5⟩
  ·rw[map_snoc_take hx,hmap,take_at hw];rfl
  ·rw[take_at hx,List.all_append,hall];simp[e]
 rw[movedB]at hA
 have ct':=ct hsub
 obtain⟨co,hco⟩:∃c,c=d.Account.Entries.countP (outE x.Payment):=⟨_,rfl⟩
 obtain⟨ci,hci⟩:∃c,c=d.Account.Entries.countP (inE x.Payment):=⟨_,rfl⟩
 obtain⟨allE,hal⟩:∃c,c=d.Account.Entries.all (okE x.Payment):=⟨_,rfl⟩
 rw[←hco,←hci,←hal]at hA ct'
 by_cases e11:x.Attempts=5
 ·have f11:=decide_eq_true e11
  have f13:decide (x.Attempts=0)=false:=decide_eq_false (by omega)
  by_cases e12:x.State=1
  ·have f12:=decide_eq_true e12
   rw[f11,f12,Bool.and_self,Bool.not_true,Bool.false_and,Bool.false_and]at hA
   simp -dsimp -implicitDefEqProofs [-getElem?_pos,go_sem,hP,t122,t6,hH,jn,zn,e11,e12,badI hA]
  have f12:=decide_eq_false e12
  rw[f11,f12,f13,Bool.and_false,Bool.not_false,Bool.true_and,Bool.false_and,Bool.not_false,Bool.true_and]at hA
  simp -dsimp -implicitDefEqProofs [-getElem?_pos,go_sem,hP,t122,t6,hH,jn,zn,f11,f12,f13,t1,j0,z0,t7,jp,zp]
  refine callB_is (ct'.lift _ _) hP en_274 (by simpa using⟨ia,ip⟩) (imm_trip .sc .sc .sc) ?_
  cases ea:allE
  ·rw[ea,Bool.false_and]at hA
   rcases (show x.State=2∨x.State=3∨(¬x.State=2∧¬x.State=3) by omega)with s2|s3|⟨s2,s3⟩
   ·simp -dsimp -implicitDefEqProofs [-getElem?_pos,go_sem,hP,t6,jn,zn,s2,badI hA]
   ·simp -dsimp -implicitDefEqProofs [-getElem?_pos,go_sem,hP,t6,jn,zn,s3,badI hA]
   ·have s2d:=decide_eq_false s2
    have s3d:=decide_eq_false s3
    simp -dsimp -implicitDefEqProofs [-getElem?_pos,go_sem,hP,t6,jn,zn,s2,s3,s2d,s3d,badI hA]
  rw[ea,Bool.true_and]at hA
  rcases (show x.State=2∨x.State=3∨(¬x.State=2∧¬x.State=3) by omega)with s2|s3|⟨s2,s3⟩
  ·have hg:goneN x=1:=by simp[goneN,goneB,s2]
   have wg:=wrap_in (x.Attempts-1) (by omega)
   have wg:IntKind.i64.wrap (x.Attempts-1)=x.Attempts-1:=wg
   rw[hg]at hA
   by_cases g1:(co:Int)=x.Attempts
   rotate_left
   ·have g2:=decide_eq_false g1
    rw[g2,Bool.false_and]at hA
    simp -dsimp -implicitDefEqProofs [-getElem?_pos,go_sem,hP,t6,s2,g2,g1,jn,zn,badI hA]
   have g2:=decide_eq_true g1
   rw[g2,Bool.true_and]at hA
   by_cases g3:(ci:Int)=x.Attempts-1
   ·have g4:decide ((ci:Int)=x.Attempts-1)=true:=decide_eq_true g3
    rw[decide_eq_true (by omega)]at hA
    simp -dsimp -implicitDefEqProofs [-getElem?_pos,go_sem,hP,t6,s2,g2,g4,wg,jn,zn,t39,wk]
    exact fin hA _ (by simp -dsimp[-getElem?_pos,go_sem,t1]) (by simp -dsimp[-getElem?_pos,go_sem,t37]) (by simp -dsimp[-getElem?_pos,go_sem,t38]) (by simp -dsimp[-getElem?_pos,go_sem]) (by simp -dsimp[-getElem?_pos,go_sem,j0])
   ·have g4:decide ((ci:Int)=x.Attempts-1)=false:=decide_eq_false g3
    rw[decide_eq_false (by omega)]at hA
    simp -dsimp -implicitDefEqProofs [-getElem?_pos,go_sem,hP,t6,s2,g2,g4,wg,jn,zn,badI hA]
  ·have hg:goneN x=1:=by simp[goneN,goneB,s3]
   have wg:=wrap_in (x.Attempts-1) (by omega)
   have wg:IntKind.i64.wrap (x.Attempts-1)=x.Attempts-1:=wg
   rw[hg]at hA
   by_cases g1:(co:Int)=x.Attempts
   rotate_left
   ·have g2:=decide_eq_false g1
    rw[g2,Bool.false_and]at hA
    simp -dsimp -implicitDefEqProofs [-getElem?_pos,go_sem,hP,t6,s3,g2,g1,jn,zn,badI hA]
   have g2:=decide_eq_true g1
   rw[g2,Bool.true_and]at hA
   by_cases g3:(ci:Int)=x.Attempts-1
   ·have g4:decide ((ci:Int)=x.Attempts-1)=true:=decide_eq_true g3
    rw[decide_eq_true (by omega)]at hA
    simp -dsimp -implicitDefEqProofs [-getElem?_pos,go_sem,hP,t6,s3,g2,g4,wg,jn,zn,t39,wk]
    exact fin hA _ (by simp -dsimp[-getElem?_pos,go_sem,t1]) (by simp -dsimp[-getElem?_pos,go_sem,t37]) (by simp -dsimp[-getElem?_pos,go_sem,t38]) (by simp -dsimp[-getElem?_pos,go_sem]) (by simp -dsimp[-getElem?_pos,go_sem,j0])
   ·have g4:decide ((ci:Int)=x.Attempts-1)=false:=decide_eq_false g3
    rw[decide_eq_false (by omega)]at hA
    simp -dsimp -implicitDefEqProofs [-getElem?_pos,go_sem,hP,t6,s3,g2,g4,wg,jn,zn,badI hA]
  ·have s2d:=decide_eq_false s2
   have s3d:=decide_eq_false s3
   have hg:goneN x=0:=by simp[goneN,goneB,s2,s3]
   have wg:=wrap_in x.Attempts (by omega)
   rw[hg]at hA
   by_cases g1:(co:Int)=x.Attempts
   rotate_left
   ·have g2:=decide_eq_false g1
    rw[g2,Bool.false_and]at hA
    simp -dsimp -implicitDefEqProofs [-getElem?_pos,go_sem,hP,t6,s2,s3,s2d,s3d,g2,g1,jn,zn,badI hA]
   have g2:=decide_eq_true g1
   rw[g2,Bool.true_and]at hA
   by_cases g3:(ci:Int)=x.Attempts
   ·have g4:decide ((ci:Int)=x.Attempts)=true:=decide_eq_true g3
    rw[decide_eq_true (by omega)]at hA
    simp -dsimp -implicitDefEqProofs [-getElem?_pos,go_sem,hP,t6,s2,s3,s2d,s3d,g2,g4,wg,jn,zn,t39,wk]
    exact fin hA _ (by simp -dsimp[-getElem?_pos,go_sem,t1]) (by simp -dsimp[-getElem?_pos,go_sem,t37]) (by simp -dsimp[-getElem?_pos,go_sem,t38]) (by simp -dsimp[-getElem?_pos,go_sem]) (by simp -dsimp[-getElem?_pos,go_sem,j0])
   ·have g4:decide ((ci:Int)=x.Attempts)=false:=decide_eq_false g3
    rw[decide_eq_false (by omega)]at hA
    simp -dsimp -implicitDefEqProofs [-getElem?_pos,go_sem,hP,t6,s2,s3,s2d,s3d,g2,g4,wg,jn,zn,badI hA]
 have f11:=decide_eq_false e11
 by_cases e13:x.Attempts=0
 ·have f13:=decide_eq_true e13
  by_cases e12:x.State=1
  ·have f12:=decide_eq_true e12
   rw[f11,f12,f13,Bool.false_and,Bool.not_false,Bool.true_and,Bool.true_or,Bool.not_true,Bool.and_false,Bool.not_false,Bool.true_and]at hA
   simp -dsimp -implicitDefEqProofs [-getElem?_pos,go_sem,hP,t122,t6,hH,jn,zn,f11,f13,e12,t1,j0,z0,t7,jp,zp]
   refine callB_is (ct'.lift _ _) hP en_274 (by simpa using⟨ia,ip⟩) (imm_trip .sc .sc .sc) ?_
   cases ea:allE
   ·rw[ea,Bool.false_and]at hA
    simp -dsimp -implicitDefEqProofs [-getElem?_pos,go_sem,hP,t6,jn,zn,e12,badI hA]
   rw[ea,Bool.true_and]at hA
   have hg:goneN x=0:=by simp[goneN,goneB,e12]
   have wg:=wrap_in x.Attempts (by omega)
   rw[hg]at hA
   by_cases g1:(co:Int)=x.Attempts
   rotate_left
   ·have g2:=decide_eq_false g1
    rw[g2,Bool.false_and]at hA
    simp -dsimp -implicitDefEqProofs [-getElem?_pos,go_sem,hP,t6,e12,g2,g1,jn,zn,badI hA]
   have g2:=decide_eq_true g1
   rw[g2,Bool.true_and]at hA
   by_cases g3:(ci:Int)=x.Attempts
   ·have g4:decide ((ci:Int)=x.Attempts)=true:=decide_eq_true g3
    rw[decide_eq_true (by omega)]at hA
    simp -dsimp -implicitDefEqProofs [-getElem?_pos,go_sem,hP,t6,e12,g2,g4,wg,jn,zn,t39,wk]
    exact fin hA _ (by simp -dsimp[-getElem?_pos,go_sem,t1]) (by simp -dsimp[-getElem?_pos,go_sem,t37]) (by simp -dsimp[-getElem?_pos,go_sem,t38]) (by simp -dsimp[-getElem?_pos,go_sem]) (by simp -dsimp[-getElem?_pos,go_sem,j0])
   ·have g4:decide ((ci:Int)=x.Attempts)=false:=decide_eq_false g3
    rw[decide_eq_false (by omega)]at hA
    simp -dsimp -implicitDefEqProofs [-getElem?_pos,go_sem,hP,t6,e12,g2,g4,wg,jn,zn,badI hA]
  have f12':=decide_eq_false e12
  have n12:=e12
  clear e12
  by_cases e12:x.State=5
  ·have f12:=decide_eq_true e12
   rw[f11,f12',f12,f13,Bool.false_and,Bool.not_false,Bool.true_and,Bool.or_true,Bool.not_true,Bool.and_false,Bool.not_false,Bool.true_and]at hA
   simp -dsimp -implicitDefEqProofs [-getElem?_pos,go_sem,hP,t122,t6,hH,jn,zn,f11,f13,e12,t1,j0,z0,t7,jp,zp]
   refine callB_is (ct'.lift _ _) hP en_274 (by simpa using⟨ia,ip⟩) (imm_trip .sc .sc .sc) ?_
   cases ea:allE
   ·rw[ea,Bool.false_and]at hA
    simp -dsimp -implicitDefEqProofs [-getElem?_pos,go_sem,hP,t6,jn,zn,e12,badI hA]
   rw[ea,Bool.true_and]at hA
   have hg:goneN x=0:=by simp[goneN,goneB,e12]
   have wg:=wrap_in x.Attempts (by omega)
   rw[hg]at hA
   by_cases g1:(co:Int)=x.Attempts
   rotate_left
   ·have g2:=decide_eq_false g1
    rw[g2,Bool.false_and]at hA
    simp -dsimp -implicitDefEqProofs [-getElem?_pos,go_sem,hP,t6,e12,g2,g1,jn,zn,badI hA]
   have g2:=decide_eq_true g1
   rw[g2,Bool.true_and]at hA
   by_cases g3:(ci:Int)=x.Attempts
   ·have g4:decide ((ci:Int)=x.Attempts)=true:=decide_eq_true g3
    rw[decide_eq_true (by omega)]at hA
    simp -dsimp -implicitDefEqProofs [-getElem?_pos,go_sem,hP,t6,e12,g2,g4,wg,jn,zn,t39,wk]
    exact fin hA _ (by simp -dsimp[-getElem?_pos,go_sem,t1]) (by simp -dsimp[-getElem?_pos,go_sem,t37]) (by simp -dsimp[-getElem?_pos,go_sem,t38]) (by simp -dsimp[-getElem?_pos,go_sem]) (by simp -dsimp[-getElem?_pos,go_sem,j0])
   ·have g4:decide ((ci:Int)=x.Attempts)=false:=decide_eq_false g3
    rw[decide_eq_false (by omega)]at hA
    simp -dsimp -implicitDefEqProofs [-getElem?_pos,go_sem,hP,t6,e12,g2,g4,wg,jn,zn,badI hA]
  have f12:=decide_eq_false e12
  rw[f11,f12',f12,f13,Bool.false_and,Bool.not_false,Bool.or_self,Bool.not_false,Bool.and_self,Bool.not_true,Bool.and_false,Bool.false_and]at hA
  simp -dsimp -implicitDefEqProofs [-getElem?_pos,go_sem,hP,t122,t6,hH,jn,zn,f11,f13,f12',f12,badI hA]
 have f13:=decide_eq_false e13
 rw[f11,f13,Bool.false_and,Bool.false_and,Bool.not_false,Bool.true_and,Bool.true_and]at hA
 simp -dsimp -implicitDefEqProofs [-getElem?_pos,go_sem,hP,t122,t6,hH,jn,zn,f11,f13,t1,j0,z0,t7,jp,zp]
 refine callB_is (ct'.lift _ _) hP en_274 (by simpa using⟨ia,ip⟩) (imm_trip .sc .sc .sc) ?_
 cases ea:allE
 ·rw[ea,Bool.false_and]at hA
  rcases (show x.State=2∨x.State=3∨(¬x.State=2∧¬x.State=3) by omega)with s2|s3|⟨s2,s3⟩
  ·simp -dsimp -implicitDefEqProofs [-getElem?_pos,go_sem,hP,t6,jn,zn,s2,badI hA]
  ·simp -dsimp -implicitDefEqProofs [-getElem?_pos,go_sem,hP,t6,jn,zn,s3,badI hA]
  ·have s2d:=decide_eq_false s2
   have s3d:=decide_eq_false s3
   simp -dsimp -implicitDefEqProofs [-getElem?_pos,go_sem,hP,t6,jn,zn,s2,s3,s2d,s3d,badI hA]
 rw[ea,Bool.true_and]at hA
 rcases (show x.State=2∨x.State=3∨(¬x.State=2∧¬x.State=3) by omega)with s2|s3|⟨s2,s3⟩
 ·have hg:goneN x=1:=by simp[goneN,goneB,s2]
  have wg:=wrap_in (x.Attempts-1) (by omega)
  have wg:IntKind.i64.wrap (x.Attempts-1)=x.Attempts-1:=wg
  rw[hg]at hA
  by_cases g1:(co:Int)=x.Attempts
  rotate_left
  ·have g2:=decide_eq_false g1
   rw[g2,Bool.false_and]at hA
   simp -dsimp -implicitDefEqProofs [-getElem?_pos,go_sem,hP,t6,s2,g2,g1,jn,zn,badI hA]
  have g2:=decide_eq_true g1
  rw[g2,Bool.true_and]at hA
  by_cases g3:(ci:Int)=x.Attempts-1
  ·have g4:decide ((ci:Int)=x.Attempts-1)=true:=decide_eq_true g3
   rw[decide_eq_true (by omega)]at hA
   simp -dsimp -implicitDefEqProofs [-getElem?_pos,go_sem,hP,t6,s2,g2,g4,wg,jn,zn,t39,wk]
   exact fin hA _ (by simp -dsimp[-getElem?_pos,go_sem,t1]) (by simp -dsimp[-getElem?_pos,go_sem,t37]) (by simp -dsimp[-getElem?_pos,go_sem,t38]) (by simp -dsimp[-getElem?_pos,go_sem]) (by simp -dsimp[-getElem?_pos,go_sem,j0])
  ·have g4:decide ((ci:Int)=x.Attempts-1)=false:=decide_eq_false g3
   rw[decide_eq_false (by omega)]at hA
   simp -dsimp -implicitDefEqProofs [-getElem?_pos,go_sem,hP,t6,s2,g2,g4,wg,jn,zn,badI hA]
 ·have hg:goneN x=1:=by simp[goneN,goneB,s3]
  have wg:=wrap_in (x.Attempts-1) (by omega)
  have wg:IntKind.i64.wrap (x.Attempts-1)=x.Attempts-1:=wg
  rw[hg]at hA
  by_cases g1:(co:Int)=x.Attempts
  rotate_left
  ·have g2:=decide_eq_false g1
   rw[g2,Bool.false_and]at hA
   simp -dsimp -implicitDefEqProofs [-getElem?_pos,go_sem,hP,t6,s3,g2,g1,jn,zn,badI hA]
  have g2:=decide_eq_true g1
  rw[g2,Bool.true_and]at hA
  by_cases g3:(ci:Int)=x.Attempts-1
  ·have g4:decide ((ci:Int)=x.Attempts-1)=true:=decide_eq_true g3
   rw[decide_eq_true (by omega)]at hA
   simp -dsimp -implicitDefEqProofs [-getElem?_pos,go_sem,hP,t6,s3,g2,g4,wg,jn,zn,t39,wk]
   exact fin hA _ (by simp -dsimp[-getElem?_pos,go_sem,t1]) (by simp -dsimp[-getElem?_pos,go_sem,t37]) (by simp -dsimp[-getElem?_pos,go_sem,t38]) (by simp -dsimp[-getElem?_pos,go_sem]) (by simp -dsimp[-getElem?_pos,go_sem,j0])
  ·have g4:decide ((ci:Int)=x.Attempts-1)=false:=decide_eq_false g3
   rw[decide_eq_false (by omega)]at hA
   simp -dsimp -implicitDefEqProofs [-getElem?_pos,go_sem,hP,t6,s3,g2,g4,wg,jn,zn,badI hA]
 ·have s2d:=decide_eq_false s2
  have s3d:=decide_eq_false s3
  have hg:goneN x=0:=by simp[goneN,goneB,s2,s3]
  have wg:=wrap_in x.Attempts (by omega)
  rw[hg]at hA
  by_cases g1:(co:Int)=x.Attempts
  rotate_left
  ·have g2:=decide_eq_false g1
   rw[g2,Bool.false_and]at hA
   simp -dsimp -implicitDefEqProofs [-getElem?_pos,go_sem,hP,t6,s2,s3,s2d,s3d,g2,g1,jn,zn,badI hA]
  have g2:=decide_eq_true g1
  rw[g2,Bool.true_and]at hA
  by_cases g3:(ci:Int)=x.Attempts
  ·have g4:decide ((ci:Int)=x.Attempts)=true:=decide_eq_true g3
   rw[decide_eq_true (by omega)]at hA
   simp -dsimp -implicitDefEqProofs [-getElem?_pos,go_sem,hP,t6,s2,s3,s2d,s3d,g2,g4,wg,jn,zn,t39,wk]
   exact fin hA _ (by simp -dsimp[-getElem?_pos,go_sem,t1]) (by simp -dsimp[-getElem?_pos,go_sem,t37]) (by simp -dsimp[-getElem?_pos,go_sem,t38]) (by simp -dsimp[-getElem?_pos,go_sem]) (by simp -dsimp[-getElem?_pos,go_sem,j0])
  ·have g4:decide ((ci:Int)=x.Attempts)=false:=decide_eq_false g3
   rw[decide_eq_false (by omega)]at hA
   simp -dsimp -implicitDefEqProofs [-getElem?_pos,go_sem,hP,t6,s2,s3,s2d,s3d,g2,g4,wg,jn,zn,badI hA]
open Go.PA
open Go.RowKit
abbrev zeroI:TItem:=⟨zeroP,0,0⟩
def findD (d:TDesk) (w st:Int):Int×TItem×Int:=
 if checkD d=0 then (match d.Items[(posI d.Items w).toNat]? with
  |none=>(0,zeroI,6)
  |some x=>if posI d.Items w<0 then (0,zeroI,6)else if x.State=st then (posI d.Items w,x,0)else (0,zeroI,67))else (0,zeroI,checkD d)
theorem findD_none {d:TDesk} {w st:Int} (h:checkD d=0) (hw:w∉d.Items.map wrt):findD d w st=(0,zeroI,6):=by
 rw[findD,if_pos h]
 split
 ·rfl
 ·rw[if_pos (by rw[posI_none hw];omega)]
theorem findD_at {d:TDesk} {st:Int} (h:checkD d=0) {k:Nat} {x:TItem} (hx:d.Items[k]?=some x):findD d x.Payment.Warrant st=if x.State=st then ((k:Int),x,0)else (0,zeroI,67):=by
 have hp:=posI_at (checkD_iff.1 h).nd hx
 rw[findD,if_pos h,hp,Int.toNat_natCast,hx]
 simp only
 rw[if_neg (by omega)]
theorem find_cases (d:TDesk) (w st:Int):((findD d w st).2.2≠0∧∀f,changeD d w st f=(zeroD,(findD d w st).2.2))∨∃(k:Nat) (x:TItem),findD d w st=((k:Int),x,0)∧checkD d=0∧d.Items[k]?=some x∧x.Payment.Warrant=w∧x.State=st∧∀f:TDesk→TItem→Done1,changeD d w st f=if (f d x).e=0 then (⟨(f d x).a,(f d x).q,d.Items.set k (f d x).x⟩,0)else (zeroD,(f d x).e):=by
 by_cases c1:checkD d=0
 rotate_left
 ·have:findD d w st=(0,zeroI,checkD d):=by rw[findD,if_neg c1]
  rw[this]
  exact .inl ⟨c1,fun f=>changeD_bad c1⟩
 by_cases c2:w∈d.Items.map wrt
 rotate_left
 ·rw[findD_none c1 c2]
  exact .inl ⟨by decide,fun f=>changeD_none c1 c2⟩
 obtain⟨x,hx,e⟩:=List.mem_map.1 c2
 obtain⟨k,hk⟩:=List.getElem?_of_mem hx
 have e:x.Payment.Warrant=w:=e
 subst e
 by_cases c3:x.State=st
 ·refine .inr ⟨k,x,by rw[findD_at c1 hk,if_pos c3],c1,hk,rfl,c3,fun f=>by rw[changeD_at c1 hk,if_pos c3]⟩
 ·refine .inl ⟨by rw[findD_at c1 hk,if_neg c3];decide,fun f=>by rw[changeD_at c1 hk,if_neg c3,findD_at c1 hk,if_neg c3]⟩
theorem with_pf (d:TDesk) (i:Nat) (x:TItem) (hl:d.Items.length≤100000) (hi:i<d.Items.length):PFun Tryz.prog none none 223 [.agg d.cells,iv i,.agg x.cells] (·= .agg (TDesk.mk d.Account d.Queue (d.Items.set i x)).cells):=by
 refine pfun_intro Tryz.func223 rfl (by simp[Tryz.f223]) (by kernel_rfl) ?_
 intro E hP hr hs hW hN
 have i1:=imm_subs d.Account.Subs
 have i2:=imm_ents d.Account.Entries
 have i3:=imm_pays d.Queue.Waiting
 have i4:=imm_nums d.Queue.Known
 have i5:=imm_bats d.Queue.Batches
 have hle:(encL TItem.cells d.Items).length=d.Items.length:=encL_len _ _
 have es:=encL_set TItem.cells d.Items i x
 rw[cIt]at es
 have hne:¬d.Items.length=0:=by omega
 obtain⟨z,hz⟩:∃z,d.Items[i]?=some z:=⟨_,List.getElem?_eq_getElem hi⟩
 simp -dsimp -implicitDefEqProofs [-getElem?_pos,go_sem,hP,cDn,cIt,hle,hne,hi,hz,es]
 refine⟨by omega,by omega,?_⟩
 refine done_agg (cs':=TDesk.cells ⟨d.Account,d.Queue,d.Items.set i x⟩) ?_ rfl
 exact cw_sc (cw_imm i1 (cw_imm i2 (cw_imm i3 (cw_imm i4 (cw_imm i5 (cw_sref (ty:=83) rfl (by rw[encL_len,List.length_set]) (imm_items _) .nil))))))
set_option maxHeartbeats 1000000 in
theorem rfind_pf (d:TDesk) (w st:Int) (hf:FitD d):PFun Tryz.prog none none 224 [.agg d.cells,iv w,iv st] (·= .tup [iv (findD d w st).1,.agg (findD d w st).2.1.cells,iv (findD d w st).2.2]):=by
 refine pfun_intro Tryz.func224 rfl (by simp[Tryz.f224]) (by kernel_rfl) ?_
 intro E hP hr hs hW hN
 have li:=hf.i
 have id':=imm_desk d
 have ck:=rcheck26_pf d hf
 have rt:=rat_pf d w (by omega)
 rw[cDn]at id' ck rt
 obtain⟨R,hR⟩:∃R,R=AV.tup [iv (findD d w st).1,.agg (findD d w st).2.1.cells,iv (findD d w st).2.2]:=⟨_,rfl⟩
 rw[←hR]
 have zer:∀n,findD d w st=(0,zeroI,n)→AV.tup [iv 0,.agg zeroI.cells,iv n]=R:=fun n h=>by rw[hR,h]
 have iz:∀n,Imm (.tup [iv 0,.agg zeroI.cells,iv n]):=fun n=>imm_trip .sc (imm_item zeroI) .sc
 simp -dsimp -implicitDefEqProofs [-getElem?_pos,go_sem,hP,cDn]
 refine callB_is (ck.lift _ _) hP en_216 (by simpa using id') .sc ?_
 by_cases c1:checkD d=0
 rotate_left
 ·have:findD d w st=(0,zeroI,checkD d):=by rw[findD,if_neg c1]
  simp -dsimp -implicitDefEqProofs [-getElem?_pos,go_sem,hP,c1]
  exact done_imm (iz _) (zer _ this)
 simp -dsimp -implicitDefEqProofs [-getElem?_pos,go_sem,hP,c1]
 refine callB_is (rt.lift _ _) hP en_222 (by simpa[imm_sc]using id') .sc ?_
 by_cases c2:w∈d.Items.map wrt
 rotate_left
 ·have h:=findD_none (st:=st) c1 c2
  have hp:=posI_none c2
  simp -dsimp -implicitDefEqProofs [-getElem?_pos,go_sem,hP,hp]
  exact done_imm (iz _) (zer _ h)
 obtain⟨x,hx,e⟩:=List.mem_map.1 c2
 obtain⟨k,hk⟩:=List.getElem?_of_mem hx
 have e:x.Payment.Warrant=w:=e
 have hp:=posI_at (checkD_iff.1 c1).nd hk
 have hfi:=findD_at (st:=st) c1 hk
 rw[e]at hp hfi
 have d0:decide ((k:Int)<0)=false:=decide_eq_false (by omega)
 by_cases c3:x.State=st
 rotate_left
 ·have d3:=decide_eq_false c3
  rw[if_neg c3]at hfi
  simp -dsimp -implicitDefEqProofs [-getElem?_pos,go_sem,hP,hp,d0,hk,cIt,d3]
  exact done_imm (iz _) (zer _ hfi)
 rw[if_pos c3]at hfi
 simp -dsimp -implicitDefEqProofs [-getElem?_pos,go_sem,hP,hp,d0,hk,cIt,c3]
 refine adrawB (fun i=>decide (i=0)) [7] hP (by kernel_rfl) (by kernel_rfl) ?_
 simp -dsimp -implicitDefEqProofs [-getElem?_pos,go_sem,hP,hp,d0,hk,cIt,c3]
 refine done_imm (imm_trip .sc (by have:=imm_item x;rw[cIt,c3]at this;exact this) .sc) ?_
 rw[hR,hfi,←c3]
 rfl
open Go.PA
open Go.RowKit
theorem settle26_pf (d:TDesk) (w:Int) (hf:FitD d):PFun Tryz.prog none none 152 [.agg d.cells,iv w] (·= .tup [.agg (settleD d w).1.cells,iv (settleD d w).2]):=by
 refine pfun_intro Tryz.func152 rfl (by simp[Tryz.f152]) (by kernel_rfl) ?_
 intro E hP hr hs hW hN
 have li:=hf.i
 have id':=imm_desk d
 have fi:=rfind_pf d w 2 hf
 have ifi:=imm_item (findD d w 2).2.1
 rw[cDn]at id' fi
 rw[cIt]at ifi fi
 obtain⟨R,hR⟩:∃R,R=AV.tup [.agg (settleD d w).1.cells,iv (settleD d w).2]:=⟨_,rfl⟩
 rw[←hR]
 simp -dsimp -implicitDefEqProofs [-getElem?_pos,go_sem,hP,cDn]
 refine callB_is (fi.lift _ _) hP en_224 (by simpa[imm_sc]using id') (imm_trip .sc ifi .sc) ?_
 rcases find_cases d w 2 with⟨h1,h2⟩|⟨k,x,h1,h2,h3,h4,h5,h6⟩
 ·have d1:=decide_eq_false h1
  simp -dsimp -implicitDefEqProofs [-getElem?_pos,go_sem,hP,d1]
  refine done_zeroD ?_
  rw[hR,settleD,h2]
 have hil:=(gsI h3)
 have wt:=with_pf d k ⟨x.Payment,3,x.Attempts⟩ li hil
 have io:=imm_desk (TDesk.mk d.Account d.Queue (d.Items.set k ⟨x.Payment,3,x.Attempts⟩))
 have ia:=imm_item ⟨x.Payment,3,x.Attempts⟩
 simp only[cDn,cIt]at wt io ia
 rw[h1]
 simp -dsimp -implicitDefEqProofs [-getElem?_pos,go_sem,hP]
 refine callB_is (wt.lift _ _) hP en_223 (by simpa[imm_sc]using⟨id',ia⟩) io ?_
 simp -dsimp -implicitDefEqProofs [-getElem?_pos,go_sem,hP]
 refine done_imm (imm_pair io .sc) ?_
 rw[hR,settleD,h6]
 rfl
theorem recall26_pf (d:TDesk) (w:Int) (hf:FitD d):PFun Tryz.prog none none 154 [.agg d.cells,iv w] (·= .tup [.agg (recallD d w).1.cells,iv (recallD d w).2]):=by
 refine pfun_intro Tryz.func154 rfl (by simp[Tryz.f154]) (by kernel_rfl) ?_
 intro E hP hr hs hW hN
 have li:=hf.i
 have id':=imm_desk d
 have fi:=rfind_pf d w 1 hf
 have ifi:=imm_item (findD d w 1).2.1
 have iq:=imm_que d.Queue
 have dp:=drop25_pf d.Queue w hf.q
 have idp:=imm_que (dropQ d.Queue w).1
 rw[cDn]at id' fi
 rw[cIt]at ifi fi
 simp only[cQn]at iq dp idp
 obtain⟨R,hR⟩:∃R,R=AV.tup [.agg (recallD d w).1.cells,iv (recallD d w).2]:=⟨_,rfl⟩
 rw[←hR]
 simp -dsimp -implicitDefEqProofs [-getElem?_pos,go_sem,hP,cDn]
 refine callB_is (fi.lift _ _) hP en_224 (by simpa[imm_sc]using id') (imm_trip .sc ifi .sc) ?_
 rcases find_cases d w 1 with⟨h1,h2⟩|⟨k,x,h1,h2,h3,h4,h5,h6⟩
 ·have d1:=decide_eq_false h1
  simp -dsimp -implicitDefEqProofs [-getElem?_pos,go_sem,hP,d1]
  refine done_zeroD ?_
  rw[hR,recallD,h2]
 have hil:=(gsI h3)
 have hr6:=h6 (recallF w)
 rw[←recallD]at hr6
 have hef:recallF w d x=⟨d.Account,(dropQ d.Queue w).1,⟨x.Payment,5,x.Attempts⟩,(dropQ d.Queue w).2⟩:=rfl
 rw[hef]at hr6
 simp only at hr6
 rw[h1]
 simp -dsimp -implicitDefEqProofs [-getElem?_pos,go_sem,hP]
 refine callB_is (dp.lift _ _) hP en_225 (by simpa[imm_sc]using iq) (imm_pair idp .sc) ?_
 by_cases c1:(dropQ d.Queue w).2=0
 rotate_left
 ·have d1:=decide_eq_false c1
  rw[if_neg c1]at hr6
  simp -dsimp -implicitDefEqProofs [-getElem?_pos,go_sem,hP,d1]
  refine done_zeroD ?_
  rw[hR,hr6]
 rw[if_pos c1]at hr6
 have wt:=with_pf ⟨d.Account,(dropQ d.Queue w).1,d.Items⟩ k ⟨x.Payment,5,x.Attempts⟩ li hil
 have iw:=imm_desk ⟨d.Account,(dropQ d.Queue w).1,d.Items⟩
 have io:=imm_desk (TDesk.mk d.Account (dropQ d.Queue w).1 (d.Items.set k ⟨x.Payment,5,x.Attempts⟩))
 have ia:=imm_item ⟨x.Payment,5,x.Attempts⟩
 simp only[cDn,cIt]at wt io ia iw
 simp -dsimp -implicitDefEqProofs [-getElem?_pos,go_sem,hP,c1]
 refine callB_is (wt.lift _ _) hP en_223 (by simpa[imm_sc]using⟨iw,ia⟩) io ?_
 simp -dsimp -implicitDefEqProofs [-getElem?_pos,go_sem,hP]
 refine done_imm (imm_pair io .sc) ?_
 rw[hR,hr6]
 rfl
theorem return26_pf (d:TDesk) (w day:Int) (hf:FitD d):PFun Tryz.prog none none 153 [.agg d.cells,iv w,iv day] (·= .tup [.agg (returnD d w day).1.cells,iv (returnD d w day).2]):=by
 refine pfun_intro Tryz.func153 rfl (by simp[Tryz.f153]) (by kernel_rfl) ?_
 intro E hP hr hs hW hN
 have li:=hf.i
 have id':=imm_desk d
 have fi:=rfind_pf d w 2 hf
 have ifi:=imm_item (findD d w 2).2.1
 have iac:=imm_acc d.Account
 rw[cDn]at id' fi
 rw[cIt]at ifi fi
 simp only[cA]at iac
 obtain⟨R,hR⟩:∃R,R=AV.tup [.agg (returnD d w day).1.cells,iv (returnD d w day).2]:=⟨_,rfl⟩
 rw[←hR]
 simp -dsimp -implicitDefEqProofs [-getElem?_pos,go_sem,hP,cDn]
 refine callB_is (fi.lift _ _) hP en_224 (by simpa[imm_sc]using id') (imm_trip .sc ifi .sc) ?_
 rcases find_cases d w 2 with⟨h1,h2⟩|⟨k,x,h1,h2,h3,h4,h5,h6⟩
 ·have d1:=decide_eq_false h1
  simp -dsimp -implicitDefEqProofs [-getElem?_pos,go_sem,hP,d1]
  refine done_zeroD ?_
  rw[hR,returnD,h2]
 have hil:=(gsI h3)
 have hr6:=h6 (returnF w day)
 rw[←returnD]at hr6
 have nx:=next23_pf d.Account day 0 x.Payment.Sub x.Payment.Amount w hf.e
 obtain⟨e,hee⟩:∃e,e=nextE d.Account day 0 x.Payment.Sub x.Payment.Amount w:=⟨_,rfl⟩
 have hef:returnF w day d x=⟨(postA d.Account e).1,d.Queue,⟨x.Payment,4,x.Attempts⟩,(postA d.Account e).2⟩:=by rw[returnF,hee]
 rw[hef]at hr6
 simp only at hr6
 rw[←hee]at nx
 have ie:=imm_ent e
 have po:=post23_pf d.Account e hf.s hf.e
 have ipo:=imm_acc (postA d.Account e).1
 simp only[cA]at nx po ipo
 rw[h1]
 simp -dsimp -implicitDefEqProofs [-getElem?_pos,go_sem,hP]
 refine adrawQ (fun i=>decide (i<3)) [18] [12,13] hP (by kernel_rfl) (by kernel_rfl) ?_
 simp -dsimp -implicitDefEqProofs [-getElem?_pos,go_sem,hP]
 refine callQ_is (nx.lift _ _) hP en_215 (by simpa[imm_sc]using iac) ie ?_
 simp -dsimp -implicitDefEqProofs [-getElem?_pos,go_sem,hP]
 refine callQ_is (po.lift _ _) hP en_214 (by simpa using⟨iac,ie⟩) (imm_pair ipo .sc) ?_
 simp -dsimp -implicitDefEqProofs [-getElem?_pos,go_sem,hP]
 refine⟨agree_3,?_⟩
 by_cases c1:(postA d.Account e).2=0
 rotate_left
 ·have d1:=decide_eq_false c1
  rw[if_neg c1]at hr6
  simp -dsimp -implicitDefEqProofs [-getElem?_pos,go_sem,hP,d1]
  refine done_zeroD ?_
  rw[hR,hr6]
 rw[if_pos c1]at hr6
 have wt:=with_pf ⟨(postA d.Account e).1,d.Queue,d.Items⟩ k ⟨x.Payment,4,x.Attempts⟩ li hil
 have iw:=imm_desk ⟨(postA d.Account e).1,d.Queue,d.Items⟩
 have io:=imm_desk (TDesk.mk (postA d.Account e).1 d.Queue (d.Items.set k ⟨x.Payment,4,x.Attempts⟩))
 have ia:=imm_item ⟨x.Payment,4,x.Attempts⟩
 simp only[cDn,cIt]at wt io ia iw
 simp -dsimp -implicitDefEqProofs [-getElem?_pos,go_sem,hP,c1]
 refine callB_is (wt.lift _ _) hP en_223 (by simpa[imm_sc]using⟨iw,ia⟩) io ?_
 simp -dsimp -implicitDefEqProofs [-getElem?_pos,go_sem,hP]
 refine done_imm (imm_pair io .sc) ?_
 rw[hR,hr6]
 rfl
open Go.PA
open Go.RowKit
set_option maxHeartbeats 4000000 in
theorem order26_pf (d:TDesk) (p:TPayment) (hf:FitD d):PFun Tryz.prog none none 150 [.agg d.cells,.agg p.cells] (·= .tup [.agg (orderD d p).1.cells,iv (orderD d p).2]):=by
 refine pfun_intro Tryz.func150 rfl (by simp[Tryz.f150]) (by kernel_rfl) ?_
 intro E hP hr hs hW hN
 have li:=hf.i
 have le:=hf.e
 have id':=imm_desk d
 have ia:=imm_acc d.Account
 have iq:=imm_que d.Queue
 have ip:=imm_pay p
 have ck:=rcheck26_pf d hf
 have ad:=add25_pf d.Queue p hf.q
 have io:=imm_que (addQ d.Queue p).1
 have bl:=balance23_pf d.Account p.Sub hf.s hf.e
 simp only[cDn]at id' ck
 simp only[cA]at ia bl
 simp only[cQn,cPy]at iq ip ad io
 obtain⟨R,hR⟩:∃R,R=AV.tup [.agg (orderD d p).1.cells,iv (orderD d p).2]:=⟨_,rfl⟩
 rw[←hR]
 have zer:∀n,orderD d p=(zeroD,n)→AV.tup [.agg zeroD.cells,iv n]=R:=fun n h=>by rw[hR,h]
 simp -dsimp -implicitDefEqProofs [-getElem?_pos,go_sem,hP,cDn,cPy]
 refine callB_is (ck.lift _ _) hP en_216 (by simpa using id') .sc ?_
 by_cases c1:checkD d=0
 rotate_left
 ·have:orderD d p=(zeroD,checkD d):=by rw[orderD,if_neg c1]
  simp -dsimp -implicitDefEqProofs [-getElem?_pos,go_sem,hP,c1]
  exact done_zeroD (zer _ this)
 have hd:=checkD_iff.1 c1
 simp -dsimp -implicitDefEqProofs [-getElem?_pos,go_sem,hP,c1]
 refine callB_is (ad.lift _ _) hP en_217 (by simpa using⟨iq,ip⟩) (imm_pair io .sc) ?_
 by_cases c2:(addQ d.Queue p).2=0
 rotate_left
 ·have:orderD d p=(zeroD,(addQ d.Queue p).2):=by rw[orderD,if_pos c1,if_neg c2]
  have d2:=decide_eq_false c2
  simp -dsimp -implicitDefEqProofs [-getElem?_pos,go_sem,hP,d2]
  exact done_zeroD (zer _ this)
 simp -dsimp -implicitDefEqProofs [-getElem?_pos,go_sem,hP,c2]
 refine callB_is (bl.lift _ _) hP en_218 (by simpa[imm_sc]using ia) (imm_pair .sc .sc) ?_
 cases c3:(balanceA d.Account p.Sub).2
 ·have:orderD d p=(zeroD,60):=by rw[orderD,if_pos c1,if_pos c2,if_neg (by simp[c3])]
  simp -dsimp -implicitDefEqProofs [-getElem?_pos,go_sem,hP,c3]
  exact done_zeroD (zer _ this)
 simp -dsimp -implicitDefEqProofs [-getElem?_pos,go_sem,hP,c3]
 obtain⟨es,hes⟩:∃es,es=d.Account.Entries:=⟨_,rfl⟩
 obtain⟨l,hl⟩:∃l,l=d.Items:=⟨_,rfl⟩
 obtain⟨q',hq'⟩:∃q',q'=(addQ d.Queue p).1:=⟨_,rfl⟩
 rw[←hes]at le
 rw[←hl]at li
 have hor:es.any (refB p.Warrant)=false→orderD d p=(⟨d.Account,q',ins ltI l ⟨p,1,0⟩⟩,0):=fun h=>by rw[orderD,if_pos c1,if_pos c2,if_pos c3,if_neg (by rw[←hes,h];simp),hq',hl]
 have hknown:es.any (refB p.Warrant)=true→orderD d p=(zeroD,65):=fun h=>by rw[orderD,if_pos c1,if_pos c2,if_pos c3,if_pos (by rw[←hes,h])]
 obtain⟨I,hI⟩:∃I:Nat→St→Prop,I=fun m s=>∃k:Nat,k≤es.length∧m=es.length-k∧es.any (refB p.Warrant)=(es.drop k).any (refB p.Warrant)∧s.t 2= .ref 0 0 0∧s.t 3= .ref 1 0 0∧s.t 4= .ref 2 0 0∧s.t 7= .ref 3 0 0∧s.t 44=entsL es∧s.t 45=iv es.length∧s.t 46=iv k∧s.H[0]?=some (some ⟨35,7,[[iv d.Account.Credit,subsL d.Account.Subs,entsL es,paysL d.Queue.Waiting,numsL d.Queue.Known,batsL d.Queue.Batches,itemsL l]]⟩)∧s.H[1]?=some (some ⟨81,5,[[iv p.Warrant,iv p.Payee,iv p.Amount,iv p.Due,iv p.Sub]]⟩)∧s.H[2]?=some (some ⟨35,7,[[iv 0,.nil,.nil,.nil,.nil,.nil,.nil]]⟩)∧s.H[3]?=some (some ⟨32,3,[[paysL q'.Waiting,numsL q'.Known,batsL q'.Batches]]⟩):=⟨_,rfl⟩
 refine aloop0 I (es.length) (by rw[hN];rfl) ?_ ?_
 ·rw[hI]
  exact⟨0,by omega,by omega,by rfl,by simp -dsimp[-getElem?_pos,go_sem],by simp -dsimp[-getElem?_pos,go_sem],by simp -dsimp[-getElem?_pos,go_sem],by simp -dsimp[-getElem?_pos,go_sem],by simp -dsimp[-getElem?_pos,go_sem,hes],by simp -dsimp[-getElem?_pos,go_sem,hes],by simp -dsimp[-getElem?_pos,go_sem],by simp -dsimp[-getElem?_pos,go_sem,hes,hl],by simp -dsimp[-getElem?_pos,go_sem],by simp -dsimp[-getElem?_pos,go_sem],by simp -dsimp[-getElem?_pos,go_sem,hq']⟩
 intro m s hs'
 rw[hI]at hs'
 obtain⟨k,hk,hm,hq,t2,t3,t4,t7,t44,t45,t46,h0,h1,h2,h3⟩:=hs'
 have lt0:=(gsI h0)
 have lt1:=(gsI h1)
 have lt2:=(gsI h2)
 have lt3:=(gsI h3)
 simp -dsimp -implicitDefEqProofs [-getElem?_pos,go_sem,hP,t45,t46]
 refine condP (fun h=>?_) (fun h=>?_)
 ·have hk:k<es.length:=by simpa using h
  obtain⟨e,hee⟩:∃e,es[k]?=some e:=⟨_,List.getElem?_eq_getElem hk⟩
  have wk:=wrap_in ((k:Int)+1) (by omega)
  have g1:∀x:Option AObj,(s.H++[x])[1]?=s.H[1]?:=fun x=>List.getElem?_append_left lt1
  have g2:∀x:Option AObj,(s.H++[x])[2]?=s.H[2]?:=fun x=>List.getElem?_append_left lt2
  rw[drop_at hee,List.any_cons]at hq
  by_cases c:e.Ref=p.Warrant
  ·rw[show refB p.Warrant e=true by simp[refB,c],Bool.true_or]at hq
   simp -dsimp -implicitDefEqProofs [-getElem?_pos,go_sem,hP,t44,t46,hee,cE,t3,g1,lt1,h1,c,t4,g2,lt2,h2]
   exact done_zeroD (zer _ (hknown hq))
  ·rw[show refB p.Warrant e=false by simp[refB,c],Bool.false_or]at hq
   have dd:=decide_eq_false c
   simp -dsimp -implicitDefEqProofs [-getElem?_pos,go_sem,hP,t44,t46,hee,cE,t3,g1,lt1,h1,c,dd,wk]
   refine⟨es.length-(k+1),by omega,?_⟩
   rw[hI]
   exact⟨k+1,by omega,rfl,hq,by simp -dsimp[-getElem?_pos,go_sem,t2],by simp -dsimp[-getElem?_pos,go_sem,t3],by simp -dsimp[-getElem?_pos,go_sem,t4],by simp -dsimp[-getElem?_pos,go_sem,t7],by simp -dsimp[-getElem?_pos,go_sem,t44],by simp -dsimp[-getElem?_pos,go_sem,t45],by simp -dsimp[-getElem?_pos,go_sem],by simp -dsimp[-getElem?_pos,go_sem,lt0,h0],by simp -dsimp[-getElem?_pos,go_sem,lt1,h1],by simp -dsimp[-getElem?_pos,go_sem,lt2,h2],by simp -dsimp[-getElem?_pos,go_sem,lt3,h3]⟩
 have hk:k=es.length:=by simp at h;omega
 subst hk
 rw[List.drop_length,List.any_nil]at hq
 have hor:=hor hq
 simp -dsimp -implicitDefEqProofs [-getElem?_pos,go_sem,hP]
 clear hI I t44 t45 t46 hm hknown h
 obtain⟨J,hJ⟩:∃I:Nat→St→Prop,I=fun m s=>∃k:Nat,k≤l.length∧m=l.length-k∧ins ltI l ⟨p,1,0⟩=l.take k++ins ltI (l.drop k) ⟨p,1,0⟩∧s.t 2= .ref 0 0 0∧s.t 3= .ref 1 0 0∧s.t 4= .ref 2 0 0∧s.t 7= .ref 3 0 0∧s.t 13=iv k∧s.H[0]?=some (some ⟨35,7,[[iv d.Account.Credit,subsL d.Account.Subs,entsL es,paysL d.Queue.Waiting,numsL d.Queue.Known,batsL d.Queue.Batches,itemsL l]]⟩)∧s.H[1]?=some (some ⟨81,5,[[iv p.Warrant,iv p.Payee,iv p.Amount,iv p.Due,iv p.Sub]]⟩)∧s.H[2]?=some (some ⟨35,7,[[iv 0,.nil,.nil,.nil,.nil,.nil,.nil]]⟩)∧s.H[3]?=some (some ⟨32,3,[[paysL q'.Waiting,numsL q'.Known,batsL q'.Batches]]⟩):=⟨_,rfl⟩
 refine aloop0 J (l.length) (by rw[hN];rfl) ?_ ?_
 ·rw[hJ]
  exact⟨0,by omega,by omega,by simp,by simp -dsimp[-getElem?_pos,go_sem,t2],by simp -dsimp[-getElem?_pos,go_sem,t3],by simp -dsimp[-getElem?_pos,go_sem,t4],by simp -dsimp[-getElem?_pos,go_sem,t7],by simp -dsimp[-getElem?_pos,go_sem],by simp -dsimp[-getElem?_pos,go_sem,h0],by simp -dsimp[-getElem?_pos,go_sem,h1],by simp -dsimp[-getElem?_pos,go_sem,h2],by simp -dsimp[-getElem?_pos,go_sem,h3]⟩
 clear t2 t3 t4 t7 h0 h1 h2 h3 lt0 lt1 lt2 lt3 hk
 intro m s hs'
 rw[hJ]at hs'
 obtain⟨k,hk,hm,hi,t2,t3,t4,t7,t13,h0,h1,h2,h3⟩:=hs'
 have lt0:=(gsI h0)
 have lt1:=(gsI h1)
 have lt2:=(gsI h2)
 have lt3:=(gsI h3)
 simp -dsimp -implicitDefEqProofs [-getElem?_pos,go_sem,hP]
 obtain⟨Inv,hInv⟩:∃Inv:St→Prop,Inv=fun s'=>∃b:Bool,s'.t 73=bv b∧(b=true→∃x,l[k]?=some x∧ltI x ⟨p,1,0⟩=true)∧(b=false→ins ltI (l.drop k) ⟨p,1,0⟩=⟨p,1,0⟩::l.drop k)∧s'.t 2= .ref 0 0 0∧s'.t 3= .ref 1 0 0∧s'.t 4= .ref 2 0 0∧s'.t 7= .ref 3 0 0∧s'.t 13=iv k∧s'.H=s.H:=⟨_,rfl⟩
 refine adraw_cut Inv ?_ ?_
 ·refine adrawB (fun _=>true) [] hP (by kernel_rfl) (by kernel_rfl) ?_
  by_cases c:k<l.length
  ·obtain⟨x,hx⟩:∃x,l[k]?=some x:=⟨_,List.getElem?_eq_getElem c⟩
   have dk:decide ((k:Int)<(l.length:Int))=true:=decide_eq_true (by omega)
   by_cases cb:x.Payment.Warrant<p.Warrant
   ·have db:=decide_eq_true cb
    simp -dsimp -implicitDefEqProofs [-getElem?_pos,go_sem,hP,t2,t13,t3,h0,lt0,h1,lt1,dk,c,hx,cIt,db]
    rw[hInv]
    exact⟨true,by simp -dsimp[-getElem?_pos,go_sem],fun _=>⟨x,hx,by simp[ltI,cb]⟩,fun h=>(by cases h),by simp -dsimp[-getElem?_pos,go_sem,t2],by simp -dsimp[-getElem?_pos,go_sem,t3],by simp -dsimp[-getElem?_pos,go_sem,t4],by simp -dsimp[-getElem?_pos,go_sem,t7],by simp -dsimp[-getElem?_pos,go_sem,t13],rfl⟩
   ·have db:=decide_eq_false cb
    simp -dsimp -implicitDefEqProofs [-getElem?_pos,go_sem,hP,t2,t13,t3,h0,lt0,h1,lt1,dk,c,hx,cIt,db]
    rw[hInv]
    exact⟨false,by simp -dsimp[-getElem?_pos,go_sem],fun h=>(by cases h),fun _=>by rw[drop_at hx,ins_stop (by simp[ltI,cb])],by simp -dsimp[-getElem?_pos,go_sem,t2],by simp -dsimp[-getElem?_pos,go_sem,t3],by simp -dsimp[-getElem?_pos,go_sem,t4],by simp -dsimp[-getElem?_pos,go_sem,t7],by simp -dsimp[-getElem?_pos,go_sem,t13],rfl⟩
  ·have dk:decide ((k:Int)<(l.length:Int))=false:=decide_eq_false (by omega)
   simp -dsimp -implicitDefEqProofs [-getElem?_pos,go_sem,hP,t2,t13,t3,h0,lt0,dk,c]
   rw[hInv]
   exact⟨false,by simp -dsimp[-getElem?_pos,go_sem],fun h=>(by cases h),fun _=>by rw[List.drop_of_length_le (by omega),ins_nil],by simp -dsimp[-getElem?_pos,go_sem,t2],by simp -dsimp[-getElem?_pos,go_sem,t3],by simp -dsimp[-getElem?_pos,go_sem,t4],by simp -dsimp[-getElem?_pos,go_sem,t7],by simp -dsimp[-getElem?_pos,go_sem,t13],rfl⟩
 clear t2 t3 t4 t7 t13
 rw[hInv]
 rintro s' ⟨b,t73,hb1,hb0,t2,t3,t4,t7,t13,hH⟩
 cases b
 rotate_left
 ·obtain⟨x,hx,hlt⟩:=hb1 rfl
  have hk:k<l.length:=(gsI hx)
  have wk:=wrap_in ((k:Int)+1) (by omega)
  rw[drop_at hx,ins_step hlt]at hi
  simp -dsimp -implicitDefEqProofs [-getElem?_pos,go_sem,hP,t73,t13,wk]
  refine⟨l.length-(k+1),by omega,?_⟩
  rw[hJ]
  refine⟨k+1,by omega,rfl,by rw[hi,take_at hx];simp,by simp -dsimp[-getElem?_pos,go_sem,t2],by simp -dsimp[-getElem?_pos,go_sem,t3],by simp -dsimp[-getElem?_pos,go_sem,t4],by simp -dsimp[-getElem?_pos,go_sem,t7],by simp -dsimp[-getElem?_pos,go_sem],?_,?_,?_,?_⟩
  ·dsimp only;rw[hH];exact h0
  ·dsimp only;rw[hH];exact h1
  ·dsimp only;rw[hH];exact h2
  ·dsimp only;rw[hH];exact h3
 rw[hb0 rfl]at hi
 simp -dsimp -implicitDefEqProofs [-getElem?_pos,go_sem,hP,t73,t7,hH,h3,lt3,t2,h0,lt0]
 obtain⟨H1,hH1⟩:∃H1,H1=s.H.set 0 (some (⟨35,7,[[iv d.Account.Credit,subsL d.Account.Subs,entsL es,paysL q'.Waiting,numsL q'.Known,batsL q'.Batches,itemsL l]]⟩:AObj)):=⟨_,rfl⟩
 have k0:H1[0]?=some (some ⟨35,7,[[iv d.Account.Credit,subsL d.Account.Subs,entsL es,paysL q'.Waiting,numsL q'.Known,batsL q'.Batches,itemsL l]]⟩):=by rw[hH1,List.getElem?_set_self lt0]
 have k1:H1[1]?=_:=(show H1[1]?=s.H[1]? by rw[hH1,List.getElem?_set_ne (by omega)]).trans h1
 have k2:H1[2]?=_:=(show H1[2]?=s.H[2]? by rw[hH1,List.getElem?_set_ne (by omega)]).trans h2
 have l1:H1.length=s.H.length:=by rw[hH1,List.length_set]
 rw[←hH1]
 rw[←l1]at lt0 lt1 lt2
 obtain⟨A,hA⟩:∃A,A=l.take k:=⟨_,rfl⟩
 obtain⟨B,hB⟩:∃B,B=l.drop k:=⟨_,rfl⟩
 have lA:A.length=k:=by rw[hA,List.length_take];omega
 have lB:B.length=l.length-k:=by rw[hB,List.length_drop]
 rw[←hA,←hB]at hi
 refine adrawB (fun i=>decide (i=0)||decide (i=1)) [15] hP (by kernel_rfl) (by kernel_rfl) ?_
 simp -dsimp -implicitDefEqProofs [-getElem?_pos,go_sem,hP,t2,t3,t13,k0,lt0,k1,lt1,asliceOp,bound,aslice,hk,encL_takeE,encL_dropE,←hA,←hB,lA,lB]
 have ag:∀(x y:Heap),Agree (fun i=>decide (i=0)||decide (i=1)) (H1++x) (H1++y):=fun x y j hj=>by
  simp only[Bool.or_eq_true,decide_eq_true_eq]at hj
  rw[List.getElem?_append_left (by omega),List.getElem?_append_left (by omega)]
 have ag0:∀(y:Heap),Agree (fun i=>decide (i=0)||decide (i=1)) H1 (H1++y):=fun y=>by
  have:=ag [] y
  rwa[List.append_nil]at this
 refine⟨by omega,by omega,ag0 _,by omega,by omega,ag _ _,by omega,by omega,ag _ _,?_⟩
 have eIt:encL TItem.cells A++[iv p.Warrant,iv p.Payee,iv p.Amount,iv p.Due,iv p.Sub,AV.sc (.int .i64 1),AV.sc (.int .i64 0)]::encL TItem.cells B=encL TItem.cells (ins ltI l ⟨p,1,0⟩):=by
  rw[hi]
  simp[encL,cIt]
 have n20:¬2=0:=by omega
 have n02:¬0=2:=by omega
 have lt0':2<(H1.set 0 (some (⟨35,7,[[iv d.Account.Credit,subsL d.Account.Subs,entsL es,paysL q'.Waiting,numsL q'.Known,batsL q'.Batches,.sref (H1.length+2) 0 (k+1+(l.length-k))]]⟩:AObj))).length:=by rw[List.length_set];exact lt2
 rw[eIt]
 simp -dsimp -implicitDefEqProofs [-getElem?_pos,go_sem,hP,t4,k2,lt2,n20,n02,lt0']
 refine done_agg2 (cs':=TDesk.cells ⟨d.Account,q',ins ltI l ⟨p,1,0⟩⟩) ?_ ?_
 ·rw[cDn,←hes]
  refine cw_sc (cw_imm (imm_subs _) (cw_imm (imm_ents _) (cw_imm (imm_pays _) (cw_imm (imm_nums _) (cw_imm (imm_bats _) (cw_sref (ty:=83) ?_ ?_ (imm_items _) .nil))))))
  ·rw[List.getElem?_append_right (by simp)]
   simp
  ·rw[encL_len,ins_len];omega
 ·rw[hR,hor]
end Go.Proofs.YtaenimpfelpafaaGreatDoor
