import Derived.Test.YtojhdmfkfkfcbaaGreatDoorMB
import Derived.Test.YtojhdmfkfkfcbaaGreatDoorSxG
import Derived.Test.YtojhdmfkfkfcbaaGreatDoorMA
import Derived.Test.YtojhdmfkfkfcbaaGreatDoorSxH
import Derived.RangeFuncNested
import Derived.OwnWalkIn
import Derived.TacticsInMore
import Derived.LoopNIn
import Derived.LoopIn
namespace Go.Proofs.YtojhdmfkfkfcbaaGreatDoor
open Go.Sx
set_option linter.unusedVariables false
set_option linter.unusedSimpArgs false
set_option maxRecDepth 100000
def ins0 (at_:Int):Ins:=⟨0,0, .empty, .empty, .empty,[],[],0,at_⟩
abbrev xV (x:Ins):V:=.agg [.d (.int .u8 x.kind), .d (.int .u8 x.op),vs x.dst,vs x.ref,vs x.alt, .own 1, .own 2,vi x.num,vi x.at_]
def instrO (s:ByteArray) (l:List Tok) (c:Nat):Except (Int×Int) (Nat×Ins)->Out
 | .ok (n,x)=>.ret (xV x) [pC s l n (c+1),strC x.args,strC x.frm]
 | .error (a,e)=>dieO a e
def actV (s:ByteArray) (l:List Tok) (w:List UInt8):Option (Nat->Ins->Except (Int×Int) (Nat×Ins)):=
 if w=[115,116,111,114,101] then some (act1V s l) else
 if w=[111,117,116,112,117,116] then some (act2V s l) else
 if w=[106,117,109,112] then some (act3V s l) else
 if w=[98,114,97,110,99,104] then some (act4V s l) else
 if w=[114,101,116,117,114,110] then some (act5V s l) else
 none
def instrV (s:ByteArray) (l:List Tok) (n c:Nat):Except (Int×Int) (Nat×Ins):=
 if (isV l n 1=false∧(actV s l (txV s l n).data.toList).isNone=true) then .error (atV s l n,7)
 else if isV l n 1=true∧¬(txV s l (n+1)).data.toList=[61] then .error (atV s l (n+1),7)
 else if 4096≤c then .error (atV s l n,3)
 else match actV s l (txV s l n).data.toList with
  | some f=>f (n+1) (ins0 (atV s l n))
  | none=>bnd (nmV s l n) fun n1 d=>bnd (needV s l n1 61) fun n2 _=>valueV s l n2 {ins0 (atV s l n) with dst:=d}
section
variable (s:ByteArray) (l:List Tok) (n c:Nat) (hl:Lies s l) (hn:n≤l.length) (hc:c≤1000000)
set_option maxHeartbeats 2000000 in
include hl hn hc in
theorem instr7_spec:ProcO PG 152 1 [.ptr 0 0] [pC s l n c] (instrO s l c (instrV s l n c)):=by
 have hll:=hl.2.1
 have ei:VEq0 (vi ((n:Int)+1)) (vi ((n+1:Nat):Int)):=by rw[Int.natCast_add];rfl
 have ej:VEq0 (vi ((c:Int)+1)) (vi ((c+1:Nat):Int)):=by rw[Int.natCast_add];rfl
 refine ProcO.mk (cfgF 71 1) tysOK [0,3,4] Tryz.func152 rfl (by kernel_rfl) rfl rfl (by rcases instrV s l n c with⟨a,e⟩ | ⟨n',o⟩<;>rfl) ?_
 intro C x
 refine x.call [0] rfl tR rfl (at_spec s l n c (by omega)) rfl ⟨⟨rfl,rfl⟩,tR⟩ ⟨⟨rfl,veq0_d rfl,rfl,rfl,tR⟩,tR⟩ ?_
 refine x.op rfl tR ?_
 refine Go.ownB 2 5 9 1 (fun j=>[D.str (([]:List ByteArray).getD j .empty)]) rfl rfl ?_
 refine Go.ownB 2 6 9 1 (fun j=>[D.str (([]:List ByteArray).getD j .empty)]) rfl rfl ?_
 refine x.call [] rfl tR rfl acts_spec rfl tR tR ?_
 refine x.call [0] rfl tR rfl (text_spec s l n c hl (by omega) 0 (by omega)) rfl ⟨⟨rfl,rfl⟩,rfl,tR⟩ ⟨⟨rfl,veq0_d rfl,rfl,rfl,tR⟩,tR⟩ ?_
 obtain⟨w,hw⟩:∃w,txV s l n=w:=⟨_,rfl⟩
 rw[show n+0=n from rfl,hw]
 have hroom:=room_spec s l n c (by omega) (c:Int) 4096
 have hfail1:=fail_spec s l (n+1) c (by omega) 7
 refine x.look rfl tR rfl ⟨fun e=>?_,fun g0=>?_⟩
 ·have lt:n<l.length:=tx_lt (by rw[hw];exact e)
  have hact:actV s l w.data.toList=some (act1V s l):=by rw[e];rfl
  refine x.call [0] rfl tR rfl (is_spec s l n c 1) rfl ⟨⟨rfl,rfl⟩,rfl,tR⟩ ⟨⟨rfl,veq0_d rfl,rfl,rfl,tR⟩,tR⟩ ?_
  refine x.cond rfl tR (fun b=>?_) (fun b=>?_)
  ·have b:((!isV l n 1)&&false)=true:=b
   simp at b
  have n1:¬(isV l n 1=false∧(actV s l w.data.toList).isNone=true):=by rw[hact];simp
  refine x.call [0] rfl tR rfl (is_spec s l n c 1) rfl ⟨⟨rfl,rfl⟩,rfl,tR⟩ ⟨⟨rfl,veq0_d rfl,rfl,rfl,tR⟩,tR⟩ ?_
  refine x.callG [0] rfl tR rfl (fun _=>text_spec s l n c hl (by omega) 1 (by omega)) rfl ⟨⟨rfl,rfl⟩,rfl,tR⟩ ⟨⟨rfl,veq0_d rfl,rfl,rfl,tR⟩,tR⟩ ⟨⟨rfl,veq0_d rfl,rfl,rfl,tR⟩,⟨rfl,rfl,rfl,rfl,rfl,rfl,rfl,rfl,rfl,rfl,tR⟩,⟨rfl,rfl,rfl,rfl,rfl,rfl,rfl,rfl,rfl,tR⟩,⟨rfl,rfl,rfl,fun _ _=>rfl⟩,⟨rfl,rfl,rfl,fun _ _=>rfl⟩,⟨rfl,rfl,rfl,rfl,rfl,tR,tR,rfl,rfl,tR⟩,tR⟩ ?_
  refine x.cond rfl tR (fun b2=>?_) (fun b2=>?_)
  ·have b2:(isV l n 1&&!decide ((txV s l (n+1)).data.toList=[61]))=true:=b2
   have b2:isV l n 1=true∧¬(txV s l (n+1)).data.toList=[61]:=by simpa using b2
   refine x.die [0] rfl (by simp only[AllP,inI64];omega) rfl hfail1 ⟨⟨rfl,rfl⟩,rfl,tR⟩ rfl ⟨⟨rfl,veq0_d rfl,ei,rfl,tR⟩,tR⟩ ?_
   rw[instrV,hw,if_neg n1,if_pos b2]
   exact⟨rfl,rfl⟩
  have b2:(isV l n 1&&!decide ((txV s l (n+1)).data.toList=[61]))=false:=b2
  have n2:¬(isV l n 1=true∧¬(txV s l (n+1)).data.toList=[61]):=fun hh=>by rw[hh.1,decide_eq_false hh.2] at b2;cases b2
  by_cases h3:4096≤c
  ·rw[if_pos (by omega)] at hroom
   refine x.die [0] rfl tR rfl hroom ⟨⟨rfl,rfl⟩,rfl,rfl,tR⟩ rfl ⟨⟨rfl,veq0_d rfl,rfl,rfl,tR⟩,tR⟩ ?_
   rw[instrV,hw,if_neg n1,if_neg n2,if_pos h3]
   exact⟨rfl,rfl⟩
  rw[if_neg (by omega)] at hroom
  refine x.call [0] rfl tR rfl hroom rfl ⟨⟨rfl,rfl⟩,rfl,rfl,tR⟩ ⟨⟨rfl,veq0_d rfl,rfl,rfl,tR⟩,tR⟩ ?_
  have hv:instrV s l n c=act1V s l (n+1) (ins0 (atV s l n)):=by rw[instrV,hw,if_neg n1,if_neg n2,if_neg h3,hact]
  rw[hv]
  have h1:=act1_spec s l (n+1) (c+1) hl (by omega) (ins0 (atV s l n)) (Nat.zero_le _)
  obtain⟨V,hV⟩:∃V,act1V s l (n+1) (ins0 (atV s l n))=V:=⟨_,rfl⟩
  rw[hV] at h1 ⊢
  refine x.cond rfl (by simp only[AllP,inI64];omega) (fun _=>?_) (fun b=>by cases b)
  rcases V with⟨a,b⟩ | ⟨n',y'⟩
  ·exact x.die [0,2,3,4] rfl (by simp only[AllP,inI64];omega) rfl h1 ⟨⟨rfl,rfl⟩,⟨rfl,rfl⟩,tR⟩ rfl ⟨⟨rfl,veq0_d rfl,ei,ej,tR⟩,⟨rfl,rfl,rfl,rfl,rfl,rfl,rfl,rfl,rfl,tR⟩,⟨rfl,rfl,rfl,fun j hj=>absurd hj (Nat.not_lt_zero _)⟩,⟨rfl,rfl,rfl,fun j hj=>absurd hj (Nat.not_lt_zero _)⟩,tR⟩ ⟨rfl,rfl⟩
  ·refine x.call [0,2,3,4] rfl (by simp only[AllP,inI64];omega) rfl h1 rfl ⟨⟨rfl,rfl⟩,⟨rfl,rfl⟩,tR⟩ ⟨⟨rfl,veq0_d rfl,ei,ej,tR⟩,⟨rfl,rfl,rfl,rfl,rfl,rfl,rfl,rfl,rfl,tR⟩,⟨rfl,rfl,rfl,fun j hj=>absurd hj (Nat.not_lt_zero _)⟩,⟨rfl,rfl,rfl,fun j hj=>absurd hj (Nat.not_lt_zero _)⟩,tR⟩ ?_
   refine x.exit rfl tR ?_
   exact⟨.inr rfl,⟨rfl,rfl,rfl,rfl,rfl,rfl,rfl,rfl,rfl,tR⟩,⟨⟨rfl,veq0_d rfl,rfl,rfl,tR⟩,⟨rfl,rfl,rfl,fun _ _=>rfl⟩,⟨rfl,rfl,rfl,fun _ _=>rfl⟩,tR⟩,rfl⟩
 refine⟨fun e=>?_,fun g1=>?_⟩
 ·have lt:n<l.length:=tx_lt (by rw[hw];exact e)
  have hact:actV s l w.data.toList=some (act2V s l):=by rw[e];rfl
  refine x.call [0] rfl tR rfl (is_spec s l n c 1) rfl ⟨⟨rfl,rfl⟩,rfl,tR⟩ ⟨⟨rfl,veq0_d rfl,rfl,rfl,tR⟩,tR⟩ ?_
  refine x.cond rfl tR (fun b=>?_) (fun b=>?_)
  ·have b:((!isV l n 1)&&false)=true:=b
   simp at b
  have n1:¬(isV l n 1=false∧(actV s l w.data.toList).isNone=true):=by rw[hact];simp
  refine x.call [0] rfl tR rfl (is_spec s l n c 1) rfl ⟨⟨rfl,rfl⟩,rfl,tR⟩ ⟨⟨rfl,veq0_d rfl,rfl,rfl,tR⟩,tR⟩ ?_
  refine x.callG [0] rfl tR rfl (fun _=>text_spec s l n c hl (by omega) 1 (by omega)) rfl ⟨⟨rfl,rfl⟩,rfl,tR⟩ ⟨⟨rfl,veq0_d rfl,rfl,rfl,tR⟩,tR⟩ ⟨⟨rfl,veq0_d rfl,rfl,rfl,tR⟩,⟨rfl,rfl,rfl,rfl,rfl,rfl,rfl,rfl,rfl,rfl,tR⟩,⟨rfl,rfl,rfl,rfl,rfl,rfl,rfl,rfl,rfl,tR⟩,⟨rfl,rfl,rfl,fun _ _=>rfl⟩,⟨rfl,rfl,rfl,fun _ _=>rfl⟩,⟨rfl,rfl,rfl,rfl,rfl,tR,tR,rfl,rfl,tR⟩,tR⟩ ?_
  refine x.cond rfl tR (fun b2=>?_) (fun b2=>?_)
  ·have b2:(isV l n 1&&!decide ((txV s l (n+1)).data.toList=[61]))=true:=b2
   have b2:isV l n 1=true∧¬(txV s l (n+1)).data.toList=[61]:=by simpa using b2
   refine x.die [0] rfl (by simp only[AllP,inI64];omega) rfl hfail1 ⟨⟨rfl,rfl⟩,rfl,tR⟩ rfl ⟨⟨rfl,veq0_d rfl,ei,rfl,tR⟩,tR⟩ ?_
   rw[instrV,hw,if_neg n1,if_pos b2]
   exact⟨rfl,rfl⟩
  have b2:(isV l n 1&&!decide ((txV s l (n+1)).data.toList=[61]))=false:=b2
  have n2:¬(isV l n 1=true∧¬(txV s l (n+1)).data.toList=[61]):=fun hh=>by rw[hh.1,decide_eq_false hh.2] at b2;cases b2
  by_cases h3:4096≤c
  ·rw[if_pos (by omega)] at hroom
   refine x.die [0] rfl tR rfl hroom ⟨⟨rfl,rfl⟩,rfl,rfl,tR⟩ rfl ⟨⟨rfl,veq0_d rfl,rfl,rfl,tR⟩,tR⟩ ?_
   rw[instrV,hw,if_neg n1,if_neg n2,if_pos h3]
   exact⟨rfl,rfl⟩
  rw[if_neg (by omega)] at hroom
  refine x.call [0] rfl tR rfl hroom rfl ⟨⟨rfl,rfl⟩,rfl,rfl,tR⟩ ⟨⟨rfl,veq0_d rfl,rfl,rfl,tR⟩,tR⟩ ?_
  have hv:instrV s l n c=act2V s l (n+1) (ins0 (atV s l n)):=by rw[instrV,hw,if_neg n1,if_neg n2,if_neg h3,hact]
  rw[hv]
  have h1:=act2_spec s l (n+1) (c+1) hl (by omega) (ins0 (atV s l n)) (Nat.zero_le _)
  obtain⟨V,hV⟩:∃V,act2V s l (n+1) (ins0 (atV s l n))=V:=⟨_,rfl⟩
  rw[hV] at h1 ⊢
  refine x.cond rfl (by simp only[AllP,inI64];omega) (fun _=>?_) (fun b=>by cases b)
  rcases V with⟨a,b⟩ | ⟨n',y'⟩
  ·exact x.die [0,2,3,4] rfl (by simp only[AllP,inI64];omega) rfl h1 ⟨⟨rfl,rfl⟩,⟨rfl,rfl⟩,tR⟩ rfl ⟨⟨rfl,veq0_d rfl,ei,ej,tR⟩,⟨rfl,rfl,rfl,rfl,rfl,rfl,rfl,rfl,rfl,tR⟩,⟨rfl,rfl,rfl,fun j hj=>absurd hj (Nat.not_lt_zero _)⟩,⟨rfl,rfl,rfl,fun j hj=>absurd hj (Nat.not_lt_zero _)⟩,tR⟩ ⟨rfl,rfl⟩
  ·refine x.call [0,2,3,4] rfl (by simp only[AllP,inI64];omega) rfl h1 rfl ⟨⟨rfl,rfl⟩,⟨rfl,rfl⟩,tR⟩ ⟨⟨rfl,veq0_d rfl,ei,ej,tR⟩,⟨rfl,rfl,rfl,rfl,rfl,rfl,rfl,rfl,rfl,tR⟩,⟨rfl,rfl,rfl,fun j hj=>absurd hj (Nat.not_lt_zero _)⟩,⟨rfl,rfl,rfl,fun j hj=>absurd hj (Nat.not_lt_zero _)⟩,tR⟩ ?_
   refine x.exit rfl tR ?_
   exact⟨.inr rfl,⟨rfl,rfl,rfl,rfl,rfl,rfl,rfl,rfl,rfl,tR⟩,⟨⟨rfl,veq0_d rfl,rfl,rfl,tR⟩,⟨rfl,rfl,rfl,fun _ _=>rfl⟩,⟨rfl,rfl,rfl,fun _ _=>rfl⟩,tR⟩,rfl⟩
 refine⟨fun e=>?_,fun g2=>?_⟩
 ·have lt:n<l.length:=tx_lt (by rw[hw];exact e)
  have hact:actV s l w.data.toList=some (act3V s l):=by rw[e];rfl
  refine x.call [0] rfl tR rfl (is_spec s l n c 1) rfl ⟨⟨rfl,rfl⟩,rfl,tR⟩ ⟨⟨rfl,veq0_d rfl,rfl,rfl,tR⟩,tR⟩ ?_
  refine x.cond rfl tR (fun b=>?_) (fun b=>?_)
  ·have b:((!isV l n 1)&&false)=true:=b
   simp at b
  have n1:¬(isV l n 1=false∧(actV s l w.data.toList).isNone=true):=by rw[hact];simp
  refine x.call [0] rfl tR rfl (is_spec s l n c 1) rfl ⟨⟨rfl,rfl⟩,rfl,tR⟩ ⟨⟨rfl,veq0_d rfl,rfl,rfl,tR⟩,tR⟩ ?_
  refine x.callG [0] rfl tR rfl (fun _=>text_spec s l n c hl (by omega) 1 (by omega)) rfl ⟨⟨rfl,rfl⟩,rfl,tR⟩ ⟨⟨rfl,veq0_d rfl,rfl,rfl,tR⟩,tR⟩ ⟨⟨rfl,veq0_d rfl,rfl,rfl,tR⟩,⟨rfl,rfl,rfl,rfl,rfl,rfl,rfl,rfl,rfl,rfl,tR⟩,⟨rfl,rfl,rfl,rfl,rfl,rfl,rfl,rfl,rfl,tR⟩,⟨rfl,rfl,rfl,fun _ _=>rfl⟩,⟨rfl,rfl,rfl,fun _ _=>rfl⟩,⟨rfl,rfl,rfl,rfl,rfl,tR,tR,rfl,rfl,tR⟩,tR⟩ ?_
  refine x.cond rfl tR (fun b2=>?_) (fun b2=>?_)
  ·have b2:(isV l n 1&&!decide ((txV s l (n+1)).data.toList=[61]))=true:=b2
   have b2:isV l n 1=true∧¬(txV s l (n+1)).data.toList=[61]:=by simpa using b2
   refine x.die [0] rfl (by simp only[AllP,inI64];omega) rfl hfail1 ⟨⟨rfl,rfl⟩,rfl,tR⟩ rfl ⟨⟨rfl,veq0_d rfl,ei,rfl,tR⟩,tR⟩ ?_
   rw[instrV,hw,if_neg n1,if_pos b2]
   exact⟨rfl,rfl⟩
  have b2:(isV l n 1&&!decide ((txV s l (n+1)).data.toList=[61]))=false:=b2
  have n2:¬(isV l n 1=true∧¬(txV s l (n+1)).data.toList=[61]):=fun hh=>by rw[hh.1,decide_eq_false hh.2] at b2;cases b2
  by_cases h3:4096≤c
  ·rw[if_pos (by omega)] at hroom
   refine x.die [0] rfl tR rfl hroom ⟨⟨rfl,rfl⟩,rfl,rfl,tR⟩ rfl ⟨⟨rfl,veq0_d rfl,rfl,rfl,tR⟩,tR⟩ ?_
   rw[instrV,hw,if_neg n1,if_neg n2,if_pos h3]
   exact⟨rfl,rfl⟩
  rw[if_neg (by omega)] at hroom
  refine x.call [0] rfl tR rfl hroom rfl ⟨⟨rfl,rfl⟩,rfl,rfl,tR⟩ ⟨⟨rfl,veq0_d rfl,rfl,rfl,tR⟩,tR⟩ ?_
  have hv:instrV s l n c=act3V s l (n+1) (ins0 (atV s l n)):=by rw[instrV,hw,if_neg n1,if_neg n2,if_neg h3,hact]
  rw[hv]
  have h1:=act3_spec s l (n+1) (c+1) hl (by omega) (ins0 (atV s l n))
  obtain⟨V,hV⟩:∃V,act3V s l (n+1) (ins0 (atV s l n))=V:=⟨_,rfl⟩
  rw[hV] at h1 ⊢
  refine x.cond rfl (by simp only[AllP,inI64];omega) (fun _=>?_) (fun b=>by cases b)
  rcases V with⟨a,b⟩ | ⟨n',y'⟩
  ·exact x.die [0,2,3,4] rfl (by simp only[AllP,inI64];omega) rfl h1 ⟨⟨rfl,rfl⟩,⟨rfl,rfl⟩,tR⟩ rfl ⟨⟨rfl,veq0_d rfl,ei,ej,tR⟩,⟨rfl,rfl,rfl,rfl,rfl,rfl,rfl,rfl,rfl,tR⟩,⟨rfl,rfl,rfl,fun j hj=>absurd hj (Nat.not_lt_zero _)⟩,⟨rfl,rfl,rfl,fun j hj=>absurd hj (Nat.not_lt_zero _)⟩,tR⟩ ⟨rfl,rfl⟩
  ·refine x.call [0,2,3,4] rfl (by simp only[AllP,inI64];omega) rfl h1 rfl ⟨⟨rfl,rfl⟩,⟨rfl,rfl⟩,tR⟩ ⟨⟨rfl,veq0_d rfl,ei,ej,tR⟩,⟨rfl,rfl,rfl,rfl,rfl,rfl,rfl,rfl,rfl,tR⟩,⟨rfl,rfl,rfl,fun j hj=>absurd hj (Nat.not_lt_zero _)⟩,⟨rfl,rfl,rfl,fun j hj=>absurd hj (Nat.not_lt_zero _)⟩,tR⟩ ?_
   refine x.exit rfl tR ?_
   exact⟨.inr rfl,⟨rfl,rfl,rfl,rfl,rfl,rfl,rfl,rfl,rfl,tR⟩,⟨⟨rfl,veq0_d rfl,rfl,rfl,tR⟩,⟨rfl,rfl,rfl,fun _ _=>rfl⟩,⟨rfl,rfl,rfl,fun _ _=>rfl⟩,tR⟩,rfl⟩
 refine⟨fun e=>?_,fun g3=>?_⟩
 ·have lt:n<l.length:=tx_lt (by rw[hw];exact e)
  have hact:actV s l w.data.toList=some (act4V s l):=by rw[e];rfl
  refine x.call [0] rfl tR rfl (is_spec s l n c 1) rfl ⟨⟨rfl,rfl⟩,rfl,tR⟩ ⟨⟨rfl,veq0_d rfl,rfl,rfl,tR⟩,tR⟩ ?_
  refine x.cond rfl tR (fun b=>?_) (fun b=>?_)
  ·have b:((!isV l n 1)&&false)=true:=b
   simp at b
  have n1:¬(isV l n 1=false∧(actV s l w.data.toList).isNone=true):=by rw[hact];simp
  refine x.call [0] rfl tR rfl (is_spec s l n c 1) rfl ⟨⟨rfl,rfl⟩,rfl,tR⟩ ⟨⟨rfl,veq0_d rfl,rfl,rfl,tR⟩,tR⟩ ?_
  refine x.callG [0] rfl tR rfl (fun _=>text_spec s l n c hl (by omega) 1 (by omega)) rfl ⟨⟨rfl,rfl⟩,rfl,tR⟩ ⟨⟨rfl,veq0_d rfl,rfl,rfl,tR⟩,tR⟩ ⟨⟨rfl,veq0_d rfl,rfl,rfl,tR⟩,⟨rfl,rfl,rfl,rfl,rfl,rfl,rfl,rfl,rfl,rfl,tR⟩,⟨rfl,rfl,rfl,rfl,rfl,rfl,rfl,rfl,rfl,tR⟩,⟨rfl,rfl,rfl,fun _ _=>rfl⟩,⟨rfl,rfl,rfl,fun _ _=>rfl⟩,⟨rfl,rfl,rfl,rfl,rfl,tR,tR,rfl,rfl,tR⟩,tR⟩ ?_
  refine x.cond rfl tR (fun b2=>?_) (fun b2=>?_)
  ·have b2:(isV l n 1&&!decide ((txV s l (n+1)).data.toList=[61]))=true:=b2
   have b2:isV l n 1=true∧¬(txV s l (n+1)).data.toList=[61]:=by simpa using b2
   refine x.die [0] rfl (by simp only[AllP,inI64];omega) rfl hfail1 ⟨⟨rfl,rfl⟩,rfl,tR⟩ rfl ⟨⟨rfl,veq0_d rfl,ei,rfl,tR⟩,tR⟩ ?_
   rw[instrV,hw,if_neg n1,if_pos b2]
   exact⟨rfl,rfl⟩
  have b2:(isV l n 1&&!decide ((txV s l (n+1)).data.toList=[61]))=false:=b2
  have n2:¬(isV l n 1=true∧¬(txV s l (n+1)).data.toList=[61]):=fun hh=>by rw[hh.1,decide_eq_false hh.2] at b2;cases b2
  by_cases h3:4096≤c
  ·rw[if_pos (by omega)] at hroom
   refine x.die [0] rfl tR rfl hroom ⟨⟨rfl,rfl⟩,rfl,rfl,tR⟩ rfl ⟨⟨rfl,veq0_d rfl,rfl,rfl,tR⟩,tR⟩ ?_
   rw[instrV,hw,if_neg n1,if_neg n2,if_pos h3]
   exact⟨rfl,rfl⟩
  rw[if_neg (by omega)] at hroom
  refine x.call [0] rfl tR rfl hroom rfl ⟨⟨rfl,rfl⟩,rfl,rfl,tR⟩ ⟨⟨rfl,veq0_d rfl,rfl,rfl,tR⟩,tR⟩ ?_
  have hv:instrV s l n c=act4V s l (n+1) (ins0 (atV s l n)):=by rw[instrV,hw,if_neg n1,if_neg n2,if_neg h3,hact]
  rw[hv]
  have h1:=act4_spec s l (n+1) (c+1) hl (by omega) (ins0 (atV s l n)) (Nat.zero_le _)
  obtain⟨V,hV⟩:∃V,act4V s l (n+1) (ins0 (atV s l n))=V:=⟨_,rfl⟩
  rw[hV] at h1 ⊢
  refine x.cond rfl (by simp only[AllP,inI64];omega) (fun _=>?_) (fun b=>by cases b)
  rcases V with⟨a,b⟩ | ⟨n',y'⟩
  ·exact x.die [0,2,3,4] rfl (by simp only[AllP,inI64];omega) rfl h1 ⟨⟨rfl,rfl⟩,⟨rfl,rfl⟩,tR⟩ rfl ⟨⟨rfl,veq0_d rfl,ei,ej,tR⟩,⟨rfl,rfl,rfl,rfl,rfl,rfl,rfl,rfl,rfl,tR⟩,⟨rfl,rfl,rfl,fun j hj=>absurd hj (Nat.not_lt_zero _)⟩,⟨rfl,rfl,rfl,fun j hj=>absurd hj (Nat.not_lt_zero _)⟩,tR⟩ ⟨rfl,rfl⟩
  ·refine x.call [0,2,3,4] rfl (by simp only[AllP,inI64];omega) rfl h1 rfl ⟨⟨rfl,rfl⟩,⟨rfl,rfl⟩,tR⟩ ⟨⟨rfl,veq0_d rfl,ei,ej,tR⟩,⟨rfl,rfl,rfl,rfl,rfl,rfl,rfl,rfl,rfl,tR⟩,⟨rfl,rfl,rfl,fun j hj=>absurd hj (Nat.not_lt_zero _)⟩,⟨rfl,rfl,rfl,fun j hj=>absurd hj (Nat.not_lt_zero _)⟩,tR⟩ ?_
   refine x.exit rfl tR ?_
   exact⟨.inr rfl,⟨rfl,rfl,rfl,rfl,rfl,rfl,rfl,rfl,rfl,tR⟩,⟨⟨rfl,veq0_d rfl,rfl,rfl,tR⟩,⟨rfl,rfl,rfl,fun _ _=>rfl⟩,⟨rfl,rfl,rfl,fun _ _=>rfl⟩,tR⟩,rfl⟩
 refine⟨fun e=>?_,fun g4=>?_⟩
 ·have lt:n<l.length:=tx_lt (by rw[hw];exact e)
  have hact:actV s l w.data.toList=some (act5V s l):=by rw[e];rfl
  refine x.call [0] rfl tR rfl (is_spec s l n c 1) rfl ⟨⟨rfl,rfl⟩,rfl,tR⟩ ⟨⟨rfl,veq0_d rfl,rfl,rfl,tR⟩,tR⟩ ?_
  refine x.cond rfl tR (fun b=>?_) (fun b=>?_)
  ·have b:((!isV l n 1)&&false)=true:=b
   simp at b
  have n1:¬(isV l n 1=false∧(actV s l w.data.toList).isNone=true):=by rw[hact];simp
  refine x.call [0] rfl tR rfl (is_spec s l n c 1) rfl ⟨⟨rfl,rfl⟩,rfl,tR⟩ ⟨⟨rfl,veq0_d rfl,rfl,rfl,tR⟩,tR⟩ ?_
  refine x.callG [0] rfl tR rfl (fun _=>text_spec s l n c hl (by omega) 1 (by omega)) rfl ⟨⟨rfl,rfl⟩,rfl,tR⟩ ⟨⟨rfl,veq0_d rfl,rfl,rfl,tR⟩,tR⟩ ⟨⟨rfl,veq0_d rfl,rfl,rfl,tR⟩,⟨rfl,rfl,rfl,rfl,rfl,rfl,rfl,rfl,rfl,rfl,tR⟩,⟨rfl,rfl,rfl,rfl,rfl,rfl,rfl,rfl,rfl,tR⟩,⟨rfl,rfl,rfl,fun _ _=>rfl⟩,⟨rfl,rfl,rfl,fun _ _=>rfl⟩,⟨rfl,rfl,rfl,rfl,rfl,tR,tR,rfl,rfl,tR⟩,tR⟩ ?_
  refine x.cond rfl tR (fun b2=>?_) (fun b2=>?_)
  ·have b2:(isV l n 1&&!decide ((txV s l (n+1)).data.toList=[61]))=true:=b2
   have b2:isV l n 1=true∧¬(txV s l (n+1)).data.toList=[61]:=by simpa using b2
   refine x.die [0] rfl (by simp only[AllP,inI64];omega) rfl hfail1 ⟨⟨rfl,rfl⟩,rfl,tR⟩ rfl ⟨⟨rfl,veq0_d rfl,ei,rfl,tR⟩,tR⟩ ?_
   rw[instrV,hw,if_neg n1,if_pos b2]
   exact⟨rfl,rfl⟩
  have b2:(isV l n 1&&!decide ((txV s l (n+1)).data.toList=[61]))=false:=b2
  have n2:¬(isV l n 1=true∧¬(txV s l (n+1)).data.toList=[61]):=fun hh=>by rw[hh.1,decide_eq_false hh.2] at b2;cases b2
  by_cases h3:4096≤c
  ·rw[if_pos (by omega)] at hroom
   refine x.die [0] rfl tR rfl hroom ⟨⟨rfl,rfl⟩,rfl,rfl,tR⟩ rfl ⟨⟨rfl,veq0_d rfl,rfl,rfl,tR⟩,tR⟩ ?_
   rw[instrV,hw,if_neg n1,if_neg n2,if_pos h3]
   exact⟨rfl,rfl⟩
  rw[if_neg (by omega)] at hroom
  refine x.call [0] rfl tR rfl hroom rfl ⟨⟨rfl,rfl⟩,rfl,rfl,tR⟩ ⟨⟨rfl,veq0_d rfl,rfl,rfl,tR⟩,tR⟩ ?_
  have hv:instrV s l n c=act5V s l (n+1) (ins0 (atV s l n)):=by rw[instrV,hw,if_neg n1,if_neg n2,if_neg h3,hact]
  rw[hv]
  have h1:=act5_spec s l (n+1) (c+1) hl (by omega) (ins0 (atV s l n)) (Nat.zero_le _)
  obtain⟨V,hV⟩:∃V,act5V s l (n+1) (ins0 (atV s l n))=V:=⟨_,rfl⟩
  rw[hV] at h1 ⊢
  refine x.cond rfl (by simp only[AllP,inI64];omega) (fun _=>?_) (fun b=>by cases b)
  rcases V with⟨a,b⟩ | ⟨n',y'⟩
  ·exact x.die [0,2,3,4] rfl (by simp only[AllP,inI64];omega) rfl h1 ⟨⟨rfl,rfl⟩,⟨rfl,rfl⟩,tR⟩ rfl ⟨⟨rfl,veq0_d rfl,ei,ej,tR⟩,⟨rfl,rfl,rfl,rfl,rfl,rfl,rfl,rfl,rfl,tR⟩,⟨rfl,rfl,rfl,fun j hj=>absurd hj (Nat.not_lt_zero _)⟩,⟨rfl,rfl,rfl,fun j hj=>absurd hj (Nat.not_lt_zero _)⟩,tR⟩ ⟨rfl,rfl⟩
  ·refine x.call [0,2,3,4] rfl (by simp only[AllP,inI64];omega) rfl h1 rfl ⟨⟨rfl,rfl⟩,⟨rfl,rfl⟩,tR⟩ ⟨⟨rfl,veq0_d rfl,ei,ej,tR⟩,⟨rfl,rfl,rfl,rfl,rfl,rfl,rfl,rfl,rfl,tR⟩,⟨rfl,rfl,rfl,fun j hj=>absurd hj (Nat.not_lt_zero _)⟩,⟨rfl,rfl,rfl,fun j hj=>absurd hj (Nat.not_lt_zero _)⟩,tR⟩ ?_
   refine x.exit rfl tR ?_
   exact⟨.inr rfl,⟨rfl,rfl,rfl,rfl,rfl,rfl,rfl,rfl,rfl,tR⟩,⟨⟨rfl,veq0_d rfl,rfl,rfl,tR⟩,⟨rfl,rfl,rfl,fun _ _=>rfl⟩,⟨rfl,rfl,rfl,fun _ _=>rfl⟩,tR⟩,rfl⟩
 have hact:actV s l w.data.toList=none:=by rw[actV,if_neg g0,if_neg g1,if_neg g2,if_neg g3,if_neg g4]
 refine x.call [0] rfl tR rfl (is_spec s l n c 1) rfl ⟨⟨rfl,rfl⟩,rfl,tR⟩ ⟨⟨rfl,veq0_d rfl,rfl,rfl,tR⟩,tR⟩ ?_
 refine x.cond rfl tR (fun b=>?_) (fun b=>?_)
 ·have b:((!isV l n 1)&&true)=true:=b
  have b:isV l n 1=false:=by simpa using b
  refine x.die [0] rfl tR rfl (fail_spec s l n c (by omega) 7) ⟨⟨rfl,rfl⟩,rfl,tR⟩ rfl ⟨⟨rfl,veq0_d rfl,rfl,rfl,tR⟩,tR⟩ ?_
  rw[instrV,hw,hact,if_pos ⟨b,rfl⟩]
  exact⟨rfl,rfl⟩
 have b:((!isV l n 1)&&true)=false:=b
 have b:isV l n 1=true:=by simpa using b
 have n1:¬(isV l n 1=false∧(actV s l w.data.toList).isNone=true):=by rw[b];simp
 refine x.call [0] rfl tR rfl (is_spec s l n c 1) rfl ⟨⟨rfl,rfl⟩,rfl,tR⟩ ⟨⟨rfl,veq0_d rfl,rfl,rfl,tR⟩,tR⟩ ?_
 refine x.callG [0] rfl tR rfl (fun _=>text_spec s l n c hl (by omega) 1 (by omega)) rfl ⟨⟨rfl,rfl⟩,rfl,tR⟩ ⟨⟨rfl,veq0_d rfl,rfl,rfl,tR⟩,tR⟩ ⟨⟨rfl,veq0_d rfl,rfl,rfl,tR⟩,⟨rfl,rfl,rfl,rfl,rfl,rfl,rfl,rfl,rfl,rfl,tR⟩,⟨rfl,rfl,rfl,rfl,rfl,rfl,rfl,rfl,rfl,tR⟩,⟨rfl,rfl,rfl,fun _ _=>rfl⟩,⟨rfl,rfl,rfl,fun _ _=>rfl⟩,⟨rfl,rfl,rfl,rfl,rfl,tR,tR,rfl,rfl,tR⟩,tR⟩ ?_
 refine x.cond rfl tR (fun b2=>?_) (fun b2=>?_)
 ·have b2:(isV l n 1&&!decide ((txV s l (n+1)).data.toList=[61]))=true:=b2
  have b2:isV l n 1=true∧¬(txV s l (n+1)).data.toList=[61]:=by simpa using b2
  refine x.die [0] rfl (by simp only[AllP,inI64];omega) rfl hfail1 ⟨⟨rfl,rfl⟩,rfl,tR⟩ rfl ⟨⟨rfl,veq0_d rfl,ei,rfl,tR⟩,tR⟩ ?_
  rw[instrV,hw,if_neg n1,if_pos b2]
  exact⟨rfl,rfl⟩
 have b2:(isV l n 1&&!decide ((txV s l (n+1)).data.toList=[61]))=false:=b2
 have n2:¬(isV l n 1=true∧¬(txV s l (n+1)).data.toList=[61]):=fun hh=>by rw[hh.1,decide_eq_false hh.2] at b2;cases b2
 by_cases h3:4096≤c
 ·rw[if_pos (by omega)] at hroom
  refine x.die [0] rfl tR rfl hroom ⟨⟨rfl,rfl⟩,rfl,rfl,tR⟩ rfl ⟨⟨rfl,veq0_d rfl,rfl,rfl,tR⟩,tR⟩ ?_
  rw[instrV,hw,if_neg n1,if_neg n2,if_pos h3]
  exact⟨rfl,rfl⟩
 rw[if_neg (by omega)] at hroom
 refine x.call [0] rfl tR rfl hroom rfl ⟨⟨rfl,rfl⟩,rfl,rfl,tR⟩ ⟨⟨rfl,veq0_d rfl,rfl,rfl,tR⟩,tR⟩ ?_
 have lt:=isV_lt b
 have h61:(txV s l (n+1)).data.toList=[61]:=Classical.byContradiction fun hh=>n2 ⟨b,hh⟩
 have lt2:=tx_lt h61
 have hv:instrV s l n c=valueV s l (n+1+1) {ins0 (atV s l n) with dst:=w}:=by
  rw[instrV,hw,if_neg n1,if_neg n2,if_neg h3,hact]
  simp only[nmV,needV,bnd,b,h61,if_true,hw]
 rw[hv]
 refine x.cond rfl (by simp only[AllP,inI64];omega) (fun b=>by cases b) (fun _=>?_)
 have h1:=name7_spec s l n (c+1) hl (by omega)
 rw[b,if_pos rfl,hw] at h1
 refine x.call [0] rfl tR rfl h1 rfl ⟨⟨rfl,rfl⟩,tR⟩ ⟨⟨rfl,veq0_d rfl,rfl,ej,tR⟩,tR⟩ ?_
 have h2:=need_spec s l (n+1) (c+1) hl (by omega) ⟨#[61]⟩
 rw[if_pos h61] at h2
 refine x.call [0] rfl tR rfl h2 rfl ⟨⟨rfl,rfl⟩,rfl,tR⟩ ⟨⟨rfl,veq0_d rfl,rfl,rfl,tR⟩,tR⟩ ?_
 have h4:=value7_spec s l (n+1+1) (c+1) hl (by omega) {ins0 (atV s l n) with dst:=w} (Nat.zero_le _) (Nat.zero_le _)
 obtain⟨V,hV⟩:∃V,valueV s l (n+1+1) {ins0 (atV s l n) with dst:=w}=V:=⟨_,rfl⟩
 rw[hV] at h4 ⊢
 rcases V with⟨a,b⟩ | ⟨n',y'⟩
 ·exact x.die [0,2,3,4] rfl tR rfl h4 ⟨⟨rfl,rfl⟩,⟨rfl,rfl⟩,tR⟩ rfl ⟨⟨rfl,veq0_d rfl,rfl,rfl,tR⟩,⟨rfl,rfl,rfl,rfl,rfl,rfl,rfl,rfl,rfl,tR⟩,⟨rfl,rfl,rfl,fun j hj=>absurd hj (Nat.not_lt_zero _)⟩,⟨rfl,rfl,rfl,fun j hj=>absurd hj (Nat.not_lt_zero _)⟩,tR⟩ ⟨rfl,rfl⟩
 ·refine x.call [0,2,3,4] rfl tR rfl h4 rfl ⟨⟨rfl,rfl⟩,⟨rfl,rfl⟩,tR⟩ ⟨⟨rfl,veq0_d rfl,rfl,rfl,tR⟩,⟨rfl,rfl,rfl,rfl,rfl,rfl,rfl,rfl,rfl,tR⟩,⟨rfl,rfl,rfl,fun j hj=>absurd hj (Nat.not_lt_zero _)⟩,⟨rfl,rfl,rfl,fun j hj=>absurd hj (Nat.not_lt_zero _)⟩,tR⟩ ?_
  refine x.exit rfl tR ?_
  exact⟨.inr rfl,⟨rfl,rfl,rfl,rfl,rfl,rfl,rfl,rfl,rfl,tR⟩,⟨⟨rfl,veq0_d rfl,rfl,rfl,tR⟩,⟨rfl,rfl,rfl,fun _ _=>rfl⟩,⟨rfl,rfl,rfl,fun _ _=>rfl⟩,tR⟩,rfl⟩
end
end Go.Proofs.YtojhdmfkfkfcbaaGreatDoor
namespace Go.Proofs.YtojhdmfkfkfcbaaGreatDoor
open Go.Sx
set_option linter.unusedVariables false
set_option linter.unusedSimpArgs false
def Up {α:Type} (l:List Tok) (n:Nat) (r:Except (Int×Int) (Nat×α)):Prop:=∀n' x,r=.ok (n',x)->n<n'∧n'≤l.length
def Upw {α:Type} (l:List Tok) (n:Nat) (r:Except (Int×Int) (Nat×α)):Prop:=∀n' x,r=.ok (n',x)->n≤n'∧n'≤l.length
section
variable {α β:Type} {s:ByteArray} {l:List Tok} {n:Nat}
theorem Up.weak {r:Except (Int×Int) (Nat×α)} (h:Up l n r):Upw l n r:=fun n' x e=>⟨Nat.le_of_lt (h n' x e).1,(h n' x e).2⟩
theorem up_err {e:Int×Int}:Up (α:=α) l n (.error e):=fun n' x h=>by cases h
theorem upw_ok {x:α} (h:n≤l.length):Upw l n (.ok (n,x)):=fun n' y e=>by
 simp only[Except.ok.injEq,Prod.mk.injEq] at e
 omega
theorem up_bnd {r:Except (Int×Int) (Nat×α)} {k:Nat->α->Except (Int×Int) (Nat×β)} (h1:Up l n r) (h2:∀n' a,n<n'->n'≤l.length->Upw l n' (k n' a)):Up l n (bnd r k):=fun n' x e=>by
 rcases r with e1 | ⟨n1,a⟩
 ·cases e
 ·obtain⟨p1,p2⟩:=h1 n1 a rfl
  obtain⟨q1,q2⟩:=h2 n1 a p1 p2 n' x e
  exact⟨by omega,q2⟩
theorem up_one {x:α} (h:n<l.length):Up l n (.ok (n+1,x)):=fun n' y e=>by
 simp only[Except.ok.injEq,Prod.mk.injEq] at e
 omega
theorem nm_up:Up l n (nmV s l n):=by
 unfold nmV
 split
 ·rename_i h;exact up_one (isV_lt h)
 ·exact up_err
theorem need_up {b:UInt8}:Up l n (needV s l n b):=by
 unfold needV
 split
 ·rename_i h;exact up_one (tx_lt h)
 ·exact up_err
theorem arg_up {x:Ins}:Up l n (argV s l n x):=up_bnd nm_up fun n' a _ h=>upw_ok h
theorem one_up {x:Ins}:Up l n (oneV7 s l n x):=up_bnd nm_up fun n' a _ h=>upw_ok h
theorem ref_up {x:Ins}:Up l n (refV s l n x):=up_bnd nm_up fun n' a _ h=>upw_ok h
theorem act1_up {x:Ins}:Up l n (act1V s l n x):=up_bnd nm_up fun _ _ _ _=>(up_bnd arg_up fun _ _ _ _=>(up_bnd arg_up fun _ _ _ h=>upw_ok h).weak).weak
theorem act2_up {x:Ins}:Up l n (act2V s l n x):=up_bnd nm_up fun _ _ _ _=>(up_bnd arg_up fun _ _ _ h=>upw_ok h).weak
theorem act3_up {x:Ins}:Up l n (act3V s l n x):=up_bnd nm_up fun _ _ _ h=>upw_ok h
theorem act4_up {x:Ins}:Up l n (act4V s l n x):=up_bnd arg_up fun _ _ _ _=>(up_bnd nm_up fun _ _ _ _=>(up_bnd nm_up fun _ _ _ h=>upw_ok h).weak).weak
theorem act5_up {x:Ins}:Up l n (act5V s l n x):=up_bnd arg_up fun _ _ _ h=>upw_ok h
theorem const_up {x:Ins}:Up l n (constV s l n x):=by
 unfold constV
 split
 ·rename_i h;exact up_one (isV_lt h)
 ·exact up_err
theorem close_up {b:UInt8} {r:Except (Int×Int) (Nat×α)} (h:Up l n r):Up l n (closeV s l b r):=by
 rcases r with e | ⟨n1,a⟩
 ·exact up_err
 ·unfold closeV
  dsimp only
  split
  ·rename_i hb
   obtain⟨p1,p2⟩:=h n1 a rfl
   intro n' x e
   have:=tx_lt hb
   simp only[Except.ok.injEq,Prod.mk.injEq] at e
   omega
  ·exact up_err
theorem names_up:Up l n (namesV s l n):=by
 unfold namesV
 split
 ·rename_i h
  have h1:=tx_lt h
  split
  ·rename_i h2
   have h3:=tx_lt h2
   intro n' x e
   simp only[Except.ok.injEq,Prod.mk.injEq] at e
   omega
  ·refine close_up fun n' x e=>?_
   obtain⟨p1,p2,_⟩:=namesF_le e
   exact⟨by omega,p1⟩
 ·exact up_err
theorem input_up {x:Ins}:Up l n (inputV s l n x):=ref_up
theorem call_up {x:Ins}:Up l n (callV s l n x):=up_bnd ref_up fun _ _ _ _=>(up_bnd names_up fun _ _ _ h=>upw_ok h).weak
theorem release_up {x:Ins}:Up l n (releaseV s l n x):=up_bnd one_up fun _ _ _ _=>ref_up.weak
theorem cell_up {k:Int} {x:Ins}:Up l n (cellV k s l n x):=up_bnd ref_up fun _ _ _ _=>one_up.weak
theorem phi_up {x:Ins}:Up l n (phiV s l n x):=up_bnd need_up fun _ _ _ _=>(close_up fun n' x e=>by
 obtain⟨p1,p2⟩:=pairsF_ok e
 exact⟨p1,p2⟩).weak
theorem up_step {r:Except (Int×Int) (Nat×α)} (h:Up l (n+1) r):Up l n r:=fun n' x e=>⟨by have:=(h n' x e).1;omega,(h n' x e).2⟩
theorem word_up {x:Ins} {w:List UInt8}:Up l n (wordV s l n x w):=by
 unfold wordV
 split
 ·exact up_step const_up
 split
 ·exact up_step cell_up
 split
 ·exact up_step cell_up
 split
 ·exact up_step input_up
 split
 ·exact up_step call_up
 split
 ·exact up_step release_up
 split
 ·exact up_step phi_up
 ·exact up_err
theorem value_up {x:Ins}:Up l n (valueV s l n x):=by
 unfold valueV
 split
 ·exact up_step (up_bnd arg_up fun _ _ _ _=>arg_up.weak)
 ·exact word_up
theorem act_up {w:List UInt8} {f:Nat->Ins->Except (Int×Int) (Nat×Ins)} (h:actV s l w=some f) {x:Ins}:Up l n (f n x):=by
 unfold actV at h
 split at h
 ·cases h;exact act1_up
 split at h
 ·cases h;exact act2_up
 split at h
 ·cases h;exact act3_up
 split at h
 ·cases h;exact act4_up
 split at h
 ·cases h;exact act5_up
 ·cases h
theorem instr_up {c:Nat}:Up l n (instrV s l n c):=by
 unfold instrV
 split
 ·exact up_err
 split
 ·exact up_err
 split
 ·exact up_err
 cases h:actV s l (txV s l n).data.toList with
 | some f=>exact up_step (act_up h)
 | none=>exact up_bnd nm_up fun _ _ _ _=>(up_bnd need_up fun _ _ _ _=>value_up.weak).weak
theorem instr_c {c n':Nat} {x:Ins} (h:instrV s l n c=.ok (n',x)):c<4096:=by
 unfold instrV at h
 split at h
 ·cases h
 split at h
 ·cases h
 split at h
 ·cases h
 ·omega
end
end Go.Proofs.YtojhdmfkfkfcbaaGreatDoor
namespace Go.Proofs.YtojhdmfkfkfcbaaGreatDoor
open Go.Sx
set_option linter.unusedVariables false
set_option linter.unusedSimpArgs false
set_option maxRecDepth 100000
theorem zipIte_pos {c:Prop} [Decidable c] (h:c):∀(ps qs:List D),ps.length=qs.length->zipIte c ps qs=ps
 | [],[],_=>by simp [zipIte]
 | a::ps,b::qs,e=>by rw[zipIte,iteD_pos h,zipIte_pos h ps qs (by simpa using e)]
 | [],_::_,e=>by simp at e
 | _::_,[],e=>by simp at e
theorem zipIte_neg {c:Prop} [Decidable c] (h:¬c):∀(ps qs:List D),ps.length=qs.length->zipIte c ps qs=qs
 | [],[],_=>by simp [zipIte]
 | a::ps,b::qs,e=>by rw[zipIte,iteD_neg h,zipIte_neg h ps qs (by simpa using e)]
 | [],_::_,e=>by simp at e
 | _::_,[],e=>by simp at e
theorem app_gen {α:Type} (d:α->List D) (N:Nat) (hd:∀a,(d a).length=N) (x0:α) (xs:List α) (x:α) (j:Nat) (hj:j<xs.length+1):app xs.length (fun i=>d (xs.getD i x0)) (fun _=>d x) j=d ((xs++[x]).getD j x0):=by
 unfold app
 show zipIte (j<xs.length) (d (xs.getD j x0)) (d x)=_
 by_cases h:j<xs.length
 ·rw[zipIte_pos h _ _ (by rw[hd,hd]),List.getD_eq_getElem?_getD,List.getD_eq_getElem?_getD,List.getElem?_append_left h]
 ·have e:j=xs.length:=by omega
  rw[zipIte_neg h _ _ (by rw[hd,hd]),List.getD_eq_getElem?_getD (l:=xs++[x]),List.getElem?_append_right (by omega),e,Nat.sub_self]
  rfl
abbrev dStrs (o:List ByteArray):D:=.sl 1 o.length fun i=>[.str (o.getD i .empty)]
abbrev dIns (x:Ins):List D:=[.int .u8 x.kind, .int .u8 x.op, .str x.dst, .str x.ref, .str x.alt,dStrs x.args,dStrs x.frm, .int .i64 x.num, .int .i64 x.at_]
abbrev codeC (xs:List Ins):Ch:=.vec 87 9 xs.length fun i=>dIns (xs.getD i (ins0 0))
def codeF (s:ByteArray) (l:List Tok):Nat->Nat->Nat->List Ins->Except (Int×Int) (Nat×(Nat×List Ins))
 | 0,_,_,_=>.error (0,0)
 | f+1,n,c,xs=>
  if (txV s l n).data.toList=[125]∨begB s l n=true then .ok (n,(c,xs))
  else bnd (instrV s l n c) fun n x=>codeF s l f n (c+1) (xs++[x])
structure Blk where
 name:ByteArray
 code:List Ins
 at_:Int
def blockV (s:ByteArray) (l:List Tok) (n c:Nat):Except (Int×Int) (Nat×(Nat×Blk)):=
 bnd (nmV s l n) fun n1 nm=>bnd (needV s l n1 58) fun n2 _=>bnd (codeF s l 4098 n2 c []) fun n3 r=>.ok (n3,(r.1,⟨nm,r.2,atV s l n⟩))
def blockO (s:ByteArray) (l:List Tok):Except (Int×Int) (Nat×(Nat×Blk))->Out
 | .ok (n,(c,b))=>.ret (.agg [vs b.name, .own 1,vi b.at_]) [pC s l n c,codeC b.code]
 | .error (a,e)=>dieO a e
structure BW7 (s:ByteArray) (l:List Tok) (R:Except (Int×Int) (Nat×(Nat×List Ins))) where
 f:Nat
 n:Nat
 c:Nat
 xs:List Ins
 hf:4098≤f+c
 hn:n≤l.length
 hc:c≤4096
 hx:xs.length≤c
 same:codeF s l f n c xs=R
section
variable (s:ByteArray) (l:List Tok) (n c:Nat) (hl:Lies s l) (hn:n≤l.length) (hc:c≤4096)
include hl hn hc in
theorem block7_spec:ProcO PG 96 1 [.ptr 0 0] [pC s l n c] (blockO s l (blockV s l n c)):=by
 have hll:=hl.2.1
 refine ProcO.mk (cfgF 27 1) tysOK [0,3] Tryz.func96 rfl (by kernel_rfl) rfl rfl (by rcases blockV s l n c with⟨a,e⟩ | ⟨n',c',o⟩<;>rfl) ?_
 intro C x
 refine x.call [0] rfl tR rfl (at_spec s l n c (by omega)) rfl ⟨⟨rfl,rfl⟩,tR⟩ ⟨⟨rfl,veq0_d rfl,rfl,rfl,tR⟩,tR⟩ ?_
 have h1:=name7_spec s l n c hl (by omega)
 cases e1:isV l n 1 with
 | false=>
  rw[e1,if_neg (by simp)] at h1
  refine x.die [0] rfl tR rfl h1 ⟨⟨rfl,rfl⟩,tR⟩ rfl ⟨⟨rfl,veq0_d rfl,rfl,rfl,tR⟩,tR⟩ ?_
  simp only[blockV,nmV,bnd,e1,if_true,Bool.false_eq_true,if_false]
  exact⟨rfl,rfl⟩
 | true=>
  rw[e1,if_pos rfl] at h1
  have l1:=isV_lt e1
  refine x.call [0] rfl tR rfl h1 rfl ⟨⟨rfl,rfl⟩,tR⟩ ⟨⟨rfl,veq0_d rfl,rfl,rfl,tR⟩,tR⟩ ?_
  have h2:=need_spec s l (n+1) c hl (by omega) ⟨#[58]⟩
  by_cases e2:(txV s l (n+1)).data.toList=[58]
  ·rw[if_pos e2] at h2
   have l2:=tx_lt e2
   refine x.call [0] rfl tR rfl h2 rfl ⟨⟨rfl,rfl⟩,rfl,tR⟩ ⟨⟨rfl,veq0_d rfl,rfl,rfl,tR⟩,tR⟩ ?_
   obtain⟨R,hR⟩:∃R,codeF s l 4098 (n+1+1) c []=R:=⟨_,rfl⟩
   have hV:blockV s l n c=bnd R fun n3 r=>.ok (n3,(r.1,⟨txV s l n,r.2,atV s l n⟩)):=by
    simp only[blockV,nmV,needV,bnd,e1,e2,if_true,hR]
   rw[hV]
   refine x.toLoop rfl tR ?_
   refine Go.ownB 2 1 87 9 (fun i=>dIns (([]:List Ins).getD i (ins0 0))) rfl rfl ?_
   refine x.loop (α:=BW7 s l R) (fun y=>⟨[(0, .ptr 0 0),(2, .ptr 1 0),(3, .ptr 2 0)],[(0,pC s l y.n y.c),(1, .box [vs .empty, .nils,vi 0]),(2, .box [vs (txV s l n), .own 3,vi (atV s l n)]),(3,codeC y.xs)],4⟩) (fun y=>y.f) ⟨4098,n+1+1,c,[],by omega,by omega,hc,Nat.zero_le _,hR⟩ rfl tR ⟨⟨⟨rfl,rfl⟩,⟨rfl,rfl⟩,⟨rfl,rfl⟩,tR⟩,⟨⟨rfl,veq0_d rfl,rfl,rfl,tR⟩,⟨rfl,tR,rfl,tR⟩,⟨rfl,rfl,rfl,tR⟩,⟨rfl,rfl,rfl,fun j hj=>absurd hj (Nat.not_lt_zero _)⟩,tR⟩,rfl⟩ (fun y=>?_)
   obtain⟨f,m,c,xs,hf,hm,hc,hx,same⟩:=y
   change Go C _ ⟨[(0, .ptr 0 0),(2, .ptr 1 0),(3, .ptr 2 0)],[(0,pC s l m c),(1, .box [vs .empty, .nils,vi 0]),(2, .box [vs (txV s l n), .own 3,vi (atV s l n)]),(3,codeC xs)],4⟩ _
   obtain⟨f,rfl⟩:∃f',f=f'+1:=⟨f-1,by omega⟩
   rw[codeF] at same
   refine x.call [0] rfl tR rfl (text_spec s l m c hl (by omega) 0 (by omega)) rfl ⟨⟨rfl,rfl⟩,rfl,tR⟩ ⟨⟨rfl,veq0_d rfl,rfl,rfl,tR⟩,tR⟩ ?_
   refine x.callG [0] rfl tR rfl (fun _=>begins_spec s l m c hl (by omega)) rfl ⟨⟨rfl,rfl⟩,tR⟩ ⟨⟨rfl,veq0_d rfl,rfl,rfl,tR⟩,tR⟩ ⟨⟨rfl,veq0_d rfl,rfl,rfl,tR⟩,⟨rfl,tR,rfl,tR⟩,⟨rfl,rfl,rfl,tR⟩,⟨rfl,rfl,rfl,fun _ _=>rfl⟩,tR⟩ ?_
   refine x.cond rfl tR (fun b=>?_) (fun b=>?_)
   ·have b:((!decide ((txV s l m).data.toList=[125]))&&!begB s l m)=true:=b
    have b:¬((txV s l m).data.toList=[125]∨begB s l m=true):=by simpa using b
    rw[if_neg b] at same
    have h3:=instr7_spec s l m c hl hm (by omega)
    obtain⟨V,hW⟩:∃V,instrV s l m c=V:=⟨_,rfl⟩
    rw[hW] at h3 same
    rcases V with⟨a,e⟩ | ⟨n',x'⟩
    ·refine x.draw [0] [2] [0,1] [3,4] [5,6,7] rfl tR mixedP (by kernel_rfl) RetO.quiet rfl tR (fun C1 x1=>?_)
     refine x1.die [0] rfl tR rfl h3 ⟨⟨rfl,rfl⟩,tR⟩ rfl ⟨⟨rfl,veq0_d rfl,rfl,rfl,tR⟩,tR⟩ ⟨⟨_,rfl⟩,rfl,?_⟩
     rw[←same]
     exact⟨rfl,rfl⟩
    ·obtain⟨p1,p2⟩:=instr_up _ _ hW
     have p3:=instr_c hW
     simp only[bnd] at same
     refine x.draw [0] [2] [0,1] [3,4] [5,6,7] rfl tR mixedP (by kernel_rfl) RetO.quiet rfl tR (fun C1 x1=>?_)
     refine x1.call [0] rfl tR rfl h3 rfl ⟨⟨rfl,rfl⟩,tR⟩ ⟨⟨rfl,veq0_d rfl,rfl,rfl,tR⟩,tR⟩ ?_
     refine Sx.Go.freeze 4 ?_
     refine Sx.Go.freeze 5 ?_
     refine x1.back rfl tR ?_
     refine x1.back rfl tR ?_
     refine x.back rfl ?_ ⟨⟨f,n',c+1,xs++[x'],by omega,p2,by omega,by rw[List.length_append];simp only[List.length_cons,List.length_nil];omega,same⟩,by show f<f+1;omega,⟨⟨rfl,rfl⟩,⟨rfl,rfl⟩,⟨rfl,rfl⟩,tR⟩,⟨⟨rfl,veq0_d rfl,rfl,rfl,tR⟩,⟨rfl,tR,rfl,tR⟩,⟨rfl,rfl,rfl,tR⟩,⟨rfl,rfl,by simp,fun j hj=>app_gen dIns 9 (fun _=>rfl) (ins0 0) xs x' j hj⟩,tR⟩,rfl⟩
     simp only[AllP,big];omega
   ·have b:((!decide ((txV s l m).data.toList=[125]))&&!begB s l m)=false:=b
    have b:(txV s l m).data.toList=[125]∨begB s l m=true:=by
     refine Classical.byContradiction fun hh=>?_
     simp only[not_or] at hh
     rw[decide_eq_false hh.1,(by simpa using hh.2:begB s l m=false)] at b
     cases b
    rw[if_pos b] at same
    refine x.exit rfl tR ?_
    rw[←same]
    exact⟨.inr rfl,⟨rfl,rfl,rfl,tR⟩,⟨⟨rfl,veq0_d rfl,rfl,rfl,tR⟩,⟨rfl,rfl,rfl,fun _ _=>rfl⟩,tR⟩,rfl⟩
  ·rw[if_neg e2] at h2
   refine x.die [0] rfl tR rfl h2 ⟨⟨rfl,rfl⟩,rfl,tR⟩ rfl ⟨⟨rfl,veq0_d rfl,rfl,rfl,tR⟩,tR⟩ ?_
   simp only[blockV,nmV,needV,bnd,e1,e2,if_true,if_false]
   exact⟨rfl,rfl⟩
end
theorem code_up {s:ByteArray} {l:List Tok}:∀{f n c:Nat} {xs:List Ins} {n' c':Nat} {ys:List Ins},n≤l.length->c≤4096->codeF s l f n c xs=.ok (n',(c',ys))->n≤n'∧n'≤l.length∧c'≤4096
 | 0,n,c,xs,n',c',ys,hn,hc,h=>by simp [codeF] at h
 | f+1,n,c,xs,n',c',ys,hn,hc,h=>by
  rw[codeF] at h
  split at h
  ·simp only[Except.ok.injEq,Prod.mk.injEq] at h
   omega
  ·obtain⟨V,hV⟩:∃V,instrV s l n c=V:=⟨_,rfl⟩
   rw[hV] at h
   rcases V with e | ⟨n1,x⟩
   ·cases h
   ·obtain⟨p1,p2⟩:=instr_up _ _ hV
    have p3:=instr_c hV
    obtain⟨q1,q2,q3⟩:=code_up p2 (by omega) h
    exact⟨by omega,q2,q3⟩
theorem block_up {s:ByteArray} {l:List Tok} {n c n' c':Nat} {b:Blk} (hc:c≤4096) (h:blockV s l n c=.ok (n',(c',b))):n<n'∧n'≤l.length∧c'≤4096:=by
 unfold blockV at h
 obtain⟨V,hV⟩:∃V,nmV s l n=V:=⟨_,rfl⟩
 rw[hV] at h
 rcases V with e | ⟨n1,nm⟩
 ·cases h
 obtain⟨p1,p2⟩:=nm_up _ _ hV
 simp only[bnd] at h
 obtain⟨V,hV⟩:∃V,needV s l n1 58=V:=⟨_,rfl⟩
 rw[hV] at h
 rcases V with e | ⟨n2,u⟩
 ·cases h
 obtain⟨q1,q2⟩:=need_up _ _ hV
 simp only at h
 obtain⟨V,hV⟩:∃V,codeF s l 4098 n2 c []=V:=⟨_,rfl⟩
 rw[hV] at h
 rcases V with e | ⟨n3,c3,ys⟩
 ·cases h
 obtain⟨r1,r2,r3⟩:=code_up q2 hc hV
 simp only[Except.ok.injEq,Prod.mk.injEq] at h
 omega
abbrev dCode (xs:List Ins):D:=.sl 9 xs.length fun i=>dIns (xs.getD i (ins0 0))
abbrev dBlk (b:Blk):List D:=[.str b.name,dCode b.code, .int .i64 b.at_]
def blk0:Blk:=⟨.empty,[],0⟩
abbrev blksC (bs:List Blk):Ch:=.vec 85 3 bs.length fun i=>dBlk (bs.getD i blk0)
def blocksF (s:ByteArray) (l:List Tok):Nat->Nat->Nat->List Blk->Except (Int×Int) (Nat×(Nat×List Blk))
 | 0,_,_,_=>.error (0,0)
 | f+1,n,c,bs=>
  if begB s l n=true then
   if 64≤bs.length then .error (atV s l n,3)
   else bnd (blockV s l n c) fun n r=>blocksF s l f n r.1 (bs++[r.2])
  else .ok (n,(c,bs))
structure Fun where
 name:ByteArray
 params:List ByteArray
 blocks:List Blk
 at_:Int
def funcV (s:ByteArray) (l:List Tok) (n c:Nat):Except (Int×Int) (Nat×(Nat×Fun)):=
 bnd (nmV s l (n+1)) fun n1 nm=>bnd (namesV s l n1) fun n2 ps=>bnd (needV s l n2 123) fun n3 _=>bnd (blockV s l n3 c) fun n4 r=>
  bnd (blocksF s l 65 n4 r.1 [r.2]) fun n5 q=>bnd (needV s l n5 125) fun n6 _=>.ok (n6,(q.1,⟨nm,ps,q.2,atV s l n⟩))
def funcO (s:ByteArray) (l:List Tok):Except (Int×Int) (Nat×(Nat×Fun))->Out
 | .ok (n,(c,b))=>.ret (.agg [vs b.name, .own 1, .own 2,vi b.at_]) [pC s l n c,strC b.params,blksC b.blocks]
 | .error (a,e)=>dieO a e
structure FW (s:ByteArray) (l:List Tok) (R:Except (Int×Int) (Nat×(Nat×List Blk))) where
 f:Nat
 n:Nat
 c:Nat
 bs:List Blk
 hf:f+bs.length=66
 hb:bs.length≤64
 hn:n≤l.length
 hc:c≤4096
 same:blocksF s l f n c bs=R
section
variable (s:ByteArray) (l:List Tok) (n c:Nat) (hl:Lies s l) (hn:n<l.length) (hc:c≤4096)
set_option maxHeartbeats 1000000 in
include hl hn hc in
theorem function7_spec:ProcO PG 47 1 [.ptr 0 0] [pC s l n c] (funcO s l (funcV s l n c)):=by
 have hll:=hl.2.1
 have ei:VEq0 (vi ((n:Int)+1)) (vi ((n+1:Nat):Int)):=by rw[Int.natCast_add];rfl
 refine ProcO.mk (cfgF 46 1) tysOK [0,3,4] Tryz.func47 rfl (by kernel_rfl) rfl rfl (by rcases funcV s l n c with⟨a,e⟩ | ⟨n',c',o⟩<;>rfl) ?_
 intro C x
 refine x.call [0] rfl tR rfl (at_spec s l n c (by omega)) rfl ⟨⟨rfl,rfl⟩,tR⟩ ⟨⟨rfl,veq0_d rfl,rfl,rfl,tR⟩,tR⟩ ?_
 have h1:=name7_spec s l (n+1) c hl (by omega)
 cases e1:isV l (n+1) 1 with
 | false=>
  rw[e1,if_neg (by simp)] at h1
  refine x.die [0] rfl (by simp only[AllP,inI64];omega) rfl h1 ⟨⟨rfl,rfl⟩,tR⟩ rfl ⟨⟨rfl,veq0_d rfl,ei,rfl,tR⟩,tR⟩ ?_
  simp only[funcV,nmV,bnd,e1,if_true,Bool.false_eq_true,if_false]
  exact⟨rfl,rfl⟩
 | true=>
 rw[e1,if_pos rfl] at h1
 have l1:=isV_lt e1
 refine x.call [0] rfl (by simp only[AllP,inI64];omega) rfl h1 rfl ⟨⟨rfl,rfl⟩,tR⟩ ⟨⟨rfl,veq0_d rfl,ei,rfl,tR⟩,tR⟩ ?_
 have h2:=names7_spec s l (n+1+1) c hl (by omega)
 obtain⟨N,hN⟩:∃N,namesV s l (n+1+1)=N:=⟨_,rfl⟩
 rw[hN] at h2
 rcases N with⟨a,e⟩ | ⟨n2,ps⟩
 ·refine x.die [0] rfl tR rfl h2 ⟨⟨rfl,rfl⟩,tR⟩ rfl ⟨⟨rfl,veq0_d rfl,rfl,rfl,tR⟩,tR⟩ ?_
  simp only[funcV,nmV,bnd,e1,if_true,hN]
  exact⟨rfl,rfl⟩
 obtain⟨q1,q2⟩:=names_up _ _ hN
 refine x.call [0] rfl tR rfl h2 rfl ⟨⟨rfl,rfl⟩,tR⟩ ⟨⟨rfl,veq0_d rfl,rfl,rfl,tR⟩,tR⟩ ?_
 have h3:=need_spec s l n2 c hl (by omega) ⟨#[123]⟩
 by_cases e3:(txV s l n2).data.toList=[123]
 rotate_left
 ·rw[if_neg e3] at h3
  refine x.die [0] rfl tR rfl h3 ⟨⟨rfl,rfl⟩,rfl,tR⟩ rfl ⟨⟨rfl,veq0_d rfl,rfl,rfl,tR⟩,tR⟩ ?_
  simp only[funcV,nmV,needV,bnd,e1,e3,if_true,if_false,hN]
  exact⟨rfl,rfl⟩
 rw[if_pos e3] at h3
 have l3:=tx_lt e3
 refine x.call [0] rfl tR rfl h3 rfl ⟨⟨rfl,rfl⟩,rfl,tR⟩ ⟨⟨rfl,veq0_d rfl,rfl,rfl,tR⟩,tR⟩ ?_
 refine x.code rfl tR ?_
 refine Go.ownB 2 2 85 3 (fun i=>dBlk (([]:List Blk).getD i blk0)) rfl rfl ?_
 have h4:=block7_spec s l (n2+1) c hl (by omega) hc
 obtain⟨B,hB⟩:∃B,blockV s l (n2+1) c=B:=⟨_,rfl⟩
 rw[hB] at h4
 rcases B with⟨a,e⟩ | ⟨n4,c4,b4⟩
 ·refine x.draw [0] [2] [0,1] [3,4] [5,6,7] rfl tR mixedP (by kernel_rfl) RetO.quiet rfl tR (fun C1 x1=>?_)
  refine x1.die [0] rfl tR rfl h4 ⟨⟨rfl,rfl⟩,tR⟩ rfl ⟨⟨rfl,veq0_d rfl,rfl,rfl,tR⟩,tR⟩ ⟨⟨_,rfl⟩,rfl,?_⟩
  simp only[funcV,nmV,needV,bnd,e1,e3,if_true,hN,hB]
  exact⟨rfl,rfl⟩
 obtain⟨r1,r2,r3⟩:=block_up hc hB
 refine x.draw [0] [2] [0,1] [3,4] [5,6,7] rfl tR mixedP (by kernel_rfl) RetO.quiet rfl tR (fun C1 x1=>?_)
 refine x1.call [0] rfl tR rfl h4 rfl ⟨⟨rfl,rfl⟩,tR⟩ ⟨⟨rfl,veq0_d rfl,rfl,rfl,tR⟩,tR⟩ ?_
 refine Sx.Go.freeze 5 ?_
 refine x1.back rfl tR ?_
 refine x1.back rfl tR ?_
 obtain⟨R,hR⟩:∃R,blocksF s l 65 n4 c4 [b4]=R:=⟨_,rfl⟩
 have hV:funcV s l n c=bnd R fun n5 q=>bnd (needV s l n5 125) fun n6 _=>.ok (n6,(q.1,⟨txV s l (n+1),ps,q.2,atV s l n⟩)):=by
  simp only[funcV,nmV,needV,bnd,e1,e3,if_true,hN,hB,hR]
 rw[hV]
 refine x.loop (α:=FW s l R) (fun y=>⟨[(0, .ptr 0 0),(2, .ptr 1 0),(3, .ptr 2 0)],[(0,pC s l y.n y.c),(1, .box [vs .empty, .nils, .nils,vi 0]),(2, .box [vs (txV s l (n+1)), .own 3, .own 4,vi (atV s l n)]),(3,strC ps),(4,blksC y.bs)],5⟩) (fun y=>y.f) ⟨65,n4,c4,[b4],rfl,by simp,r2,r3,hR⟩ rfl (by simp only[AllP,big,List.length_cons,List.length_nil];omega) ⟨⟨⟨rfl,rfl⟩,⟨rfl,rfl⟩,⟨rfl,rfl⟩,tR⟩,⟨⟨rfl,veq0_d rfl,rfl,rfl,tR⟩,⟨rfl,tR,tR,rfl,tR⟩,⟨rfl,rfl,rfl,rfl,tR⟩,⟨rfl,rfl,rfl,fun _ _=>rfl⟩,⟨rfl,rfl,rfl,fun j hj=>app_gen dBlk 3 (fun _=>rfl) blk0 [] b4 j hj⟩,tR⟩,rfl⟩ (fun y=>?_)
 obtain⟨f,m,c,bs,hf,hb,hm,hc,same⟩:=y
 change Go C _ ⟨[(0, .ptr 0 0),(2, .ptr 1 0),(3, .ptr 2 0)],[(0,pC s l m c),(1, .box [vs .empty, .nils, .nils,vi 0]),(2, .box [vs (txV s l (n+1)), .own 3, .own 4,vi (atV s l n)]),(3,strC ps),(4,blksC bs)],5⟩ _
 obtain⟨f,rfl⟩:∃f',f=f'+1:=⟨f-1,by omega⟩
 rw[blocksF] at same
 refine x.call [0] rfl tR rfl (begins_spec s l m c hl (by omega)) rfl ⟨⟨rfl,rfl⟩,tR⟩ ⟨⟨rfl,veq0_d rfl,rfl,rfl,tR⟩,tR⟩ ?_
 refine x.cond rfl tR (fun b=>?_) (fun b=>?_)
 ·have b:begB s l m=true:=b
  rw[if_pos b] at same
  have h5:=room_spec s l m c (by omega) (bs.length:Int) 64
  by_cases h6:64≤bs.length
  ·rw[if_pos (by omega)] at h5
   rw[if_pos h6] at same
   refine x.die [0] rfl tR rfl h5 ⟨⟨rfl,rfl⟩,rfl,rfl,tR⟩ rfl ⟨⟨rfl,veq0_d rfl,rfl,rfl,tR⟩,tR⟩ ?_
   rw[←same]
   exact⟨rfl,rfl⟩
  rw[if_neg (by omega)] at h5
  rw[if_neg h6] at same
  refine x.call [0] rfl tR rfl h5 rfl ⟨⟨rfl,rfl⟩,rfl,rfl,tR⟩ ⟨⟨rfl,veq0_d rfl,rfl,rfl,tR⟩,tR⟩ ?_
  have h7:=block7_spec s l m c hl hm hc
  obtain⟨V,hW⟩:∃V,blockV s l m c=V:=⟨_,rfl⟩
  rw[hW] at h7 same
  rcases V with⟨a,e⟩ | ⟨n',c',b'⟩
  ·refine x.draw [0] [2] [0,1] [3,4] [5,6,7] rfl tR mixedP (by kernel_rfl) RetO.quiet rfl tR (fun C1 x1=>?_)
   refine x1.die [0] rfl tR rfl h7 ⟨⟨rfl,rfl⟩,tR⟩ rfl ⟨⟨rfl,veq0_d rfl,rfl,rfl,tR⟩,tR⟩ ⟨⟨_,rfl⟩,rfl,?_⟩
   rw[←same]
   exact⟨rfl,rfl⟩
  ·obtain⟨p1,p2,p3⟩:=block_up hc hW
   simp only[bnd] at same
   refine x.draw [0] [2] [0,1] [3,4] [5,6,7] rfl tR mixedP (by kernel_rfl) RetO.quiet rfl tR (fun C1 x1=>?_)
   refine x1.call [0] rfl tR rfl h7 rfl ⟨⟨rfl,rfl⟩,tR⟩ ⟨⟨rfl,veq0_d rfl,rfl,rfl,tR⟩,tR⟩ ?_
   refine Sx.Go.freeze 5 ?_
   refine x1.back rfl tR ?_
   refine x1.back rfl tR ?_
   refine x.back rfl (by simp only[AllP,big,List.length_cons,List.length_nil];omega) ⟨⟨f,n',c',bs++[b'],by rw[List.length_append];simp only[List.length_cons,List.length_nil];omega,by rw[List.length_append];simp only[List.length_cons,List.length_nil];omega,p2,p3,same⟩,by show f<f+1;omega,⟨⟨rfl,rfl⟩,⟨rfl,rfl⟩,⟨rfl,rfl⟩,tR⟩,⟨⟨rfl,veq0_d rfl,rfl,rfl,tR⟩,⟨rfl,tR,tR,rfl,tR⟩,⟨rfl,rfl,rfl,rfl,tR⟩,⟨rfl,rfl,rfl,fun _ _=>rfl⟩,⟨rfl,rfl,by simp,fun j hj=>app_gen dBlk 3 (fun _=>rfl) blk0 bs b' j hj⟩,tR⟩,rfl⟩
 ·have b:begB s l m=false:=b
  rw[b,if_neg (by simp)] at same
  have h8:=need_spec s l m c hl (by omega) ⟨#[125]⟩
  by_cases e8:(txV s l m).data.toList=[125]
  ·rw[if_pos e8] at h8
   refine x.call [0] rfl tR rfl h8 rfl ⟨⟨rfl,rfl⟩,rfl,tR⟩ ⟨⟨rfl,veq0_d rfl,rfl,rfl,tR⟩,tR⟩ ?_
   refine x.exit rfl tR ?_
   rw[←same,bnd,needV,if_pos e8]
   exact⟨.inr rfl,⟨rfl,rfl,rfl,rfl,tR⟩,⟨⟨rfl,veq0_d rfl,rfl,rfl,tR⟩,⟨rfl,rfl,rfl,fun _ _=>rfl⟩,⟨rfl,rfl,rfl,fun _ _=>rfl⟩,tR⟩,rfl⟩
  ·rw[if_neg e8] at h8
   refine x.die [0] rfl tR rfl h8 ⟨⟨rfl,rfl⟩,rfl,tR⟩ rfl ⟨⟨rfl,veq0_d rfl,rfl,rfl,tR⟩,tR⟩ ?_
   rw[←same,bnd,needV,if_neg e8]
   exact⟨rfl,rfl⟩
end
theorem parse1_pan (f1 f2:Nat->List D) (a e:Int):Later PG 43 [.ptr 0 0, .ptr 1 0, .ptr 2 0] [.box [.dead, .dead], .box [.dead], .box [.dead]] (.pan stopT [(.i64,a),(.i64,e)]) [.box [.d (.sl 4 0 f1), .d (.sl 4 0 f2)], .box [vi a], .box [vi e]]:=by
 refine Later.mk (cfgF 22 3) tysOK [0,1,2] Tryz.func43 rfl (by kernel_rfl) rfl rfl rfl rfl rfl rfl rfl rfl rfl rfl ?_
 intro C x
 refine x.cond rfl tR (fun h=>?_) (fun h=>?_)
 rotate_left
 ·cases h
 refine x.cond rfl tR (fun h=>?_) (fun h=>?_)
 ·cases h
 refine x.draw [0,1] [] [0,1,2,3,4] [5,6] [7] rfl tR mixedP (by kernel_rfl) (NoPanic.quiet Ret.noPanic) rfl tR (fun C1 x1=>?_)
 refine x1.back rfl tR ?_
 refine x1.back rfl tR ?_
 refine x.exit rfl tR ?_
 exact⟨.inl rfl,tR,⟨⟨rfl,rfl,tR⟩,⟨rfl,tR⟩,⟨rfl,tR⟩,tR⟩,rfl⟩
theorem parse1_back (z1 n1 z2 n2:Nat) (f1 f2:Nat->List D) (a e:Int):Later PG 43 [.ptr 0 0, .ptr 1 0, .ptr 2 0] [.box [.d (.sl z1 n1 f1), .d (.sl z2 n2 f2)], .box [vi a], .box [vi e]] .back [.box [.d (.sl z1 n1 f1), .d (.sl z2 n2 f2)], .box [vi a], .box [vi e]]:=by
 refine Later.mk (cfgF 22 3) tysOK [0,1,2] Tryz.func43 rfl (by kernel_rfl) rfl rfl rfl rfl rfl rfl rfl rfl rfl rfl ?_
 intro C x
 refine x.cond rfl tR (fun h=>?_) (fun h=>?_)
 ·cases h
 refine x.exit rfl tR ?_
 exact⟨.inl rfl,tR,⟨⟨veq0_d rfl,veq0_d rfl,tR⟩,⟨rfl,tR⟩,⟨rfl,tR⟩,tR⟩,rfl⟩
abbrev dBlks (bs:List Blk):D:=.sl 3 bs.length fun i=>dBlk (bs.getD i blk0)
abbrev dFun (f:Fun):List D:=[.str f.name,dStrs f.params,dBlks f.blocks, .int .i64 f.at_]
abbrev dArr (a:Arr):List D:=[.str a.name, .int .i64 a.size, .str a.level, .int .i64 a.at_]
def fun0:Fun:=⟨.empty,[],[],0⟩
def arr0:Arr:=⟨.empty,0, .empty,0⟩
abbrev funsC (fs:List Fun):Ch:=.vec 82 4 fs.length fun i=>dFun (fs.getD i fun0)
abbrev arrsC (xs:List Arr):Ch:=.vec 78 4 xs.length fun i=>dArr (xs.getD i arr0)
abbrev dFuns (fs:List Fun):D:=.sl 4 fs.length fun i=>dFun (fs.getD i fun0)
abbrev dArrs (xs:List Arr):D:=.sl 4 xs.length fun i=>dArr (xs.getD i arr0)
abbrev xD (x:Ins):V:=.agg [.d (.int .u8 x.kind), .d (.int .u8 x.op),vs x.dst,vs x.ref,vs x.alt, .d (dStrs x.args), .d (dStrs x.frm),vi x.num,vi x.at_]
abbrev fnV (f:Fun):V:=.agg [vs f.name, .d (dStrs f.params), .d (dBlks f.blocks),vi f.at_]
structure Prg where
 arrays:List Arr
 funcs:List Fun
abbrev prgV (p:Prg):V:=.agg [.d (dArrs p.arrays), .d (dFuns p.funcs)]
def progF (s:ByteArray) (l:List Tok):Nat->Nat->Nat->Prg->Except (Int×Int) (Nat×Prg)
 | 0,_,_,_=>.error (0,0)
 | f+1,n,c,p=>
  if n<l.length then
   if (txV s l n).data.toList=[97,114,114,97,121] then
    if 16≤p.arrays.length then .error (atV s l n,3)
    else bnd (arrV s l n) fun n x=>progF s l f n c ⟨p.arrays++[x],p.funcs⟩
   else if (txV s l n).data.toList=[102,110] then
    if 64≤p.funcs.length then .error (atV s l n,3)
    else bnd (funcV s l n c) fun n r=>progF s l f n r.1 ⟨p.arrays,p.funcs++[r.2]⟩
   else .error (atV s l n,7)
  else .ok (n,p)
def progO:Except (Int×Int) (Nat×Prg)->Prg×Int×Int
 | .ok (_,p)=>(p,0,0)
 | .error (a,e)=>(⟨[],[]⟩,a,e)
def parseV (s:ByteArray):Prg×Int×Int:=
 if (allV s).2.2=0 then progO (progF s (allV s).1 ((allV s).1.length+1) 0 0 ⟨[],[]⟩) else (⟨[],[]⟩,(allV s).2.1,(allV s).2.2)
theorem arr_up {s:ByteArray} {l:List Tok} {n n':Nat} {x:Arr} (h:arrV s l n=.ok (n',x)):n<n'∧n'≤l.length:=by
 unfold arrV at h
 obtain⟨V,hV⟩:∃V,nmV s l (n+1)=V:=⟨_,rfl⟩
 rw[hV] at h
 rcases V with e | ⟨n1,nm⟩
 ·cases h
 obtain⟨p1,p2⟩:=nm_up _ _ hV
 simp only[bnd] at h
 split at h
 ·rename_i h3
  have l3:=isV_lt h3
  split at h
  ·cases h
  ·obtain⟨V,hV⟩:∃V,nmV s l (n1+1)=V:=⟨_,rfl⟩
   rw[hV] at h
   rcases V with e | ⟨n2,lv⟩
   ·cases h
   obtain⟨q1,q2⟩:=nm_up _ _ hV
   simp only[Except.ok.injEq,Prod.mk.injEq] at h
   omega
 ·cases h
theorem blocks_up {s:ByteArray} {l:List Tok}:∀{f n c:Nat} {bs:List Blk} {n' c':Nat} {ys:List Blk},n≤l.length->c≤4096->blocksF s l f n c bs=.ok (n',(c',ys))->n≤n'∧n'≤l.length∧c'≤4096
 | 0,n,c,bs,n',c',ys,hn,hc,h=>by simp [blocksF] at h
 | f+1,n,c,bs,n',c',ys,hn,hc,h=>by
  rw[blocksF] at h
  split at h
  ·split at h
   ·cases h
   ·obtain⟨V,hV⟩:∃V,blockV s l n c=V:=⟨_,rfl⟩
    rw[hV] at h
    rcases V with e | ⟨n1,c1,b⟩
    ·cases h
    ·obtain⟨p1,p2,p3⟩:=block_up hc hV
     obtain⟨q1,q2,q3⟩:=blocks_up p2 p3 h
     exact⟨by omega,q2,q3⟩
  ·simp only[Except.ok.injEq,Prod.mk.injEq] at h
   omega
theorem func_up {s:ByteArray} {l:List Tok} {n c n' c':Nat} {x:Fun} (hc:c≤4096) (h:funcV s l n c=.ok (n',(c',x))):n<n'∧n'≤l.length∧c'≤4096:=by
 unfold funcV at h
 obtain⟨V,hV⟩:∃V,nmV s l (n+1)=V:=⟨_,rfl⟩
 rw[hV] at h
 rcases V with e | ⟨n1,nm⟩
 ·cases h
 obtain⟨p1,p2⟩:=nm_up _ _ hV
 simp only[bnd] at h
 obtain⟨V,hV⟩:∃V,namesV s l n1=V:=⟨_,rfl⟩
 rw[hV] at h
 rcases V with e | ⟨n2,ps⟩
 ·cases h
 obtain⟨q1,q2⟩:=names_up _ _ hV
 simp only at h
 obtain⟨V,hV⟩:∃V,needV s l n2 123=V:=⟨_,rfl⟩
 rw[hV] at h
 rcases V with e | ⟨n3,u⟩
 ·cases h
 obtain⟨r1,r2⟩:=need_up _ _ hV
 simp only at h
 obtain⟨V,hV⟩:∃V,blockV s l n3 c=V:=⟨_,rfl⟩
 rw[hV] at h
 rcases V with e | ⟨n4,c4,b⟩
 ·cases h
 obtain⟨t1,t2,t3⟩:=block_up hc hV
 simp only at h
 obtain⟨V,hV⟩:∃V,blocksF s l 65 n4 c4 [b]=V:=⟨_,rfl⟩
 rw[hV] at h
 rcases V with e | ⟨n5,c5,bs⟩
 ·cases h
 obtain⟨u1,u2,u3⟩:=blocks_up t2 t3 hV
 simp only at h
 obtain⟨V,hV⟩:∃V,needV s l n5 125=V:=⟨_,rfl⟩
 rw[hV] at h
 rcases V with e | ⟨n6,u⟩
 ·cases h
 obtain⟨w1,w2⟩:=need_up _ _ hV
 simp only[Except.ok.injEq,Prod.mk.injEq] at h
 omega
theorem toks_lie (s:ByteArray):∀(n a:Nat) (out:List Tok),a≤s.size->(∀t,t∈out->0≤t.f∧t.f<t.t∧t.t≤s.size)->∀t,t∈(toksF s n a out).1->0≤t.f∧t.f<t.t∧t.t≤s.size
 | 0,a,out,_,_=>by simp [toksF]
 | n+1,a,out,ha,ho=>by
  rw[toksF]
  split
  ·exact ho
  ·split
   ·rename_i h0
    have hf:=one_facts ha
    have hb:(a:Int)≤(oneN s a).1.f∧(oneN s a).1.f<(oneN s a).1.t∧(oneN s a).1.t≤s.size:=by
     rcases hf with h | h | h
     ·exact h.2
     ·omega
     ·omega
    refine toks_lie s n _ _ (by omega) fun t ht=>?_
    rcases List.mem_append.1 ht with ht | ht
    ·exact ho t ht
    ·obtain rfl:=List.mem_singleton.1 ht
     omega
   ·simp
theorem all_lies (s:ByteArray) (hs:s.size≤65536):Lies s (allV s).1:=by
 have hl:=all_len s
 refine⟨fun t ht=>?_,by omega,by omega⟩
 unfold allV at ht
 rw[if_neg (by omega)] at ht
 split at ht
 ·simp at ht
 ·exact toks_lie s _ 0 [] (by omega) (by simp) t ht
theorem all_small {s:ByteArray} (h:(allV s).2.2=0):s.size≤65536:=by
 rcases Nat.lt_or_ge 65536 s.size with h1 | h1
 ·rw[allV,if_pos h1] at h;cases h
 ·exact h1
theorem closeV_bnd {α:Type} {s:ByteArray} {l:List Tok} {b:UInt8} {V:Except (Int×Int) (Nat×α)}:closeV s l b V=bnd V fun n o=>bnd (needV s l n b) fun n _=>.ok (n,o):=by
 rcases V with e | ⟨n,o⟩
 ·rfl
 ·simp only[closeV,bnd,needV]
  split<;>rfl
structure PLW (s:ByteArray) (l:List Tok) (R:Except (Int×Int) (Nat×Prg)) where
 f:Nat
 n:Nat
 c:Nat
 p:Prg
 hf:l.length+1≤f+n
 hn:n≤l.length
 hc:c≤4096
 ha:p.arrays.length≤16
 hp:p.funcs.length≤64
 same:progF s l f n c p=R
abbrev parseR (R:Prg×Int×Int):V:=.tup [prgV R.1,vi R.2.1,vi R.2.2]
set_option maxHeartbeats 4000000 in
theorem parse7_spec (s:ByteArray) (hs:s.size≤4611686018427387904):Pure PG 16 [vs s] (parseR (parseV s)) []:=by
 refine Proc.mkDefer (cfg 63) tysOK [] 3 [2,3,4] Tryz.func16 rfl rfl (by kernel_rfl) rfl rfl rfl ?_
 intro C x
 refine x.pure rfl tR rfl (toks_spec s hs) ⟨rfl,tR⟩ ?_
 refine x.cond rfl tR (fun h=>?_) (fun h=>?_)
 ·have h:(!decide ((allV s).2.2=0))=true:=h
  have h:¬(allV s).2.2=0:=by simpa using h
  rw[parseV,if_neg h]
  refine x.every (.fork 0 (.fork 1 (.fork 2 (.fork 3 (.fork 4 (.fork 5 .leaf .no) .no) .no) (.fork 3 (.fork 2 (.fork 4 (.fork 5 .leaf .no) .no) (.fork 4 (.fork 2 (.fork 5 .leaf .no) .no) .no)) .no)) (.fork 2 (.fork 1 (.fork 3 (.fork 4 (.fork 5 .leaf .no) .no) .no) (.fork 3 (.fork 1 (.fork 4 (.fork 5 .leaf .no) .no) .no) .no)) (.fork 3 (.fork 1 (.fork 2 (.fork 4 (.fork 5 .leaf .no) .no) (.fork 4 (.fork 2 (.fork 5 .leaf .no) .no) .no)) (.fork 2 (.fork 1 (.fork 4 (.fork 5 .leaf .no) .no) .no) .no)) .no))) (.fork 1 (.fork 0 (.fork 2 (.fork 3 (.fork 4 (.fork 5 .leaf .no) .no) .no) (.fork 3 (.fork 2 (.fork 4 (.fork 5 .leaf .no) .no) (.fork 4 (.fork 2 (.fork 5 .leaf .no) .no) .no)) .no)) (.fork 2 (.fork 0 (.fork 3 (.fork 4 (.fork 5 .leaf .no) .no) .no) .no) .no)) (.fork 2 (.fork 0 (.fork 1 (.fork 3 (.fork 4 (.fork 5 .leaf .no) .no) .no) (.fork 3 (.fork 1 (.fork 4 (.fork 5 .leaf .no) .no) .no) .no)) (.fork 1 (.fork 0 (.fork 3 (.fork 4 (.fork 5 .leaf .no) .no) .no) .no) .no)) .no))) ⟨[(2, .ptr 0 0),(3, .ptr 1 0),(4, .ptr 2 0)],[(0, .box [.nils, .nils]),(1, .box [vi (allV s).2.1]),(2, .box [vi (allV s).2.2])],3⟩ rfl tR mixedP (by kernel_rfl) ?_ ?_
  ·repeat' (first | exact tR | exact⟨⟨⟨rfl,rfl⟩,⟨rfl,rfl⟩,⟨rfl,rfl⟩,tR⟩,⟨⟨tR,tR,tR⟩,⟨rfl,tR⟩,⟨rfl,tR⟩,tR⟩,rfl⟩ | refine⟨?_,?_⟩ | refine x.back rfl tR ?_)
  refine Go.ownB 0 0 78 4 (fun i=>dArr (([]:List Arr).getD i arr0)) rfl rfl ?_
  refine Go.ownB 0 1 82 4 (fun i=>dFun (([]:List Fun).getD i fun0)) rfl rfl ?_
  refine Sx.Go.freeze 3 ?_
  refine Sx.Go.freeze 4 ?_
  refine x.exit rfl tR ?_
  exact⟨.inr rfl,⟨rfl,rfl,rfl,tR⟩,tR,rfl⟩
 have h:(!decide ((allV s).2.2=0))=false:=h
 have h0:(allV s).2.2=0:=by simpa using h
 have hsm:=all_small h0
 have hl:=all_lies s hsm
 rw[parseV,if_pos h0]
 obtain⟨l,hL⟩:∃l,(allV s).1=l:=⟨_,rfl⟩
 rw[hL] at hl ⊢
 have hll:=hl.2.1
 refine x.back rfl tR ?_
 refine x.back rfl tR ?_
 refine⟨_,_,3,rfl,rfl,⟨_,Tryz.func43,rfl,by kernel_rfl⟩,fun C1 x1=>?_⟩
 clear x
 obtain⟨a0,ha0⟩:∃a,(allV s).2.1=a:=⟨_,rfl⟩
 obtain⟨e0,he0⟩:∃e,(allV s).2.2=e:=⟨_,rfl⟩
 rw[ha0,he0]
 obtain⟨R,hR⟩:∃R,progF s l (l.length+1) 0 0 ⟨[],[]⟩=R:=⟨_,rfl⟩
 rw[hR]
 refine x1.toLoop rfl tR ?_
 refine Go.ownB 0 0 78 4 (fun i=>dArr (([]:List Arr).getD i arr0)) rfl rfl ?_
 refine Go.ownB 0 1 82 4 (fun i=>dFun (([]:List Fun).getD i fun0)) rfl rfl ?_
 refine x1.loop (α:=PLW s l R) (fun y=>⟨[(2, .ptr 0 0),(3, .ptr 1 0),(4, .ptr 2 0),(5,tv l),(6, .ptr 3 0)],[(0, .box [.own 4, .own 5]),(1, .box [vi a0]),(2, .box [vi e0]),(3,pC s l y.n y.c),(4,arrsC y.p.arrays),(5,funsC y.p.funcs)],6⟩) (fun y=>y.f) ⟨l.length+1,0,0,⟨[],[]⟩,by omega,by omega,by omega,by simp,by simp,hR⟩ rfl tR ?_ (fun y=>?_)
 ·exact⟨⟨⟨rfl,rfl⟩,⟨rfl,rfl⟩,⟨rfl,rfl⟩,veq_d rfl,⟨rfl,rfl⟩,tR⟩,⟨⟨rfl,rfl,tR⟩,⟨rfl,tR⟩,⟨rfl,tR⟩,⟨rfl,veq0_d rfl,rfl,rfl,tR⟩,⟨rfl,rfl,rfl,fun j hj=>absurd hj (Nat.not_lt_zero _)⟩,⟨rfl,rfl,rfl,fun j hj=>absurd hj (Nat.not_lt_zero _)⟩,tR⟩,rfl⟩
 obtain⟨f,n,c,p,hf,hn,hc,ha,hp,same⟩:=y
 change Go C1 _ ⟨[(2, .ptr 0 0),(3, .ptr 1 0),(4, .ptr 2 0),(5,tv l),(6, .ptr 3 0)],[(0, .box [.own 4, .own 5]),(1, .box [vi a0]),(2, .box [vi e0]),(3,pC s l n c),(4,arrsC p.arrays),(5,funsC p.funcs)],6⟩ _
 obtain⟨f,rfl⟩:∃f',f=f'+1:=⟨f-1,by omega⟩
 rw[progF] at same
 refine x1.cond rfl tR (fun b=>?_) (fun b=>?_)
 rotate_left
 ·have b:decide ((n:Int)<(l.length:Int))=false:=b
  have b:¬n<l.length:=by simpa using b
  rw[if_neg b] at same
  refine Sx.Go.freeze 4 ?_
  refine Sx.Go.freeze 5 ?_
  refine x1.exit rfl tR ?_
  rw[←same]
  exact⟨.back,[.ptr 0 0, .ptr 1 0, .ptr 2 0],[0,1,2],_,_,_, .inr rfl,fun h=>(by obtain⟨_,h⟩:=h;cases h),fun _ _ _ _ h=>h,parse1_back 4 p.arrays.length 4 p.funcs.length (fun i=>dArr (p.arrays.getD i arr0)) (fun i=>dFun (p.funcs.getD i fun0)) 0 0,⟨⟨rfl,rfl⟩,⟨rfl,rfl⟩,⟨rfl,rfl⟩,tR⟩,rfl,⟨⟨veq0_d rfl,veq0_d rfl,tR⟩,⟨rfl,tR⟩,⟨rfl,tR⟩,tR⟩, .inr rfl,⟨rfl,rfl,rfl,tR⟩,tR,rfl⟩
 have b:decide ((n:Int)<(l.length:Int))=true:=b
 have b:n<l.length:=by simpa using b
 rw[if_pos b] at same
 refine x1.call [3] rfl tR rfl (text_spec s l n c hl (by omega) 0 (by omega)) rfl ⟨⟨rfl,rfl⟩,rfl,tR⟩ ⟨⟨rfl,veq0_d rfl,rfl,rfl,tR⟩,tR⟩ ?_
 refine x1.cond rfl tR (fun b2=>?_) (fun b2=>?_)
 ·have b2:decide ((txV s l n).data.toList=[97,114,114,97,121])=true:=b2
  have b2:(txV s l n).data.toList=[97,114,114,97,121]:=of_decide_eq_true b2
  rw[if_pos b2] at same
  have h5:=room_spec s l n c (by omega) (p.arrays.length:Int) 16
  by_cases h6:16≤p.arrays.length
  ·rw[if_pos (by omega)] at h5
   rw[if_pos h6] at same
   refine x1.dieP [2,3,4] [3] rfl tR rfl h5 ⟨⟨rfl,rfl⟩,rfl,rfl,tR⟩ rfl ⟨⟨rfl,veq0_d rfl,rfl,rfl,tR⟩,tR⟩ ?_
   rw[←same]
   exact⟨.pan stopT [(.i64,_),(.i64,_)],[.ptr 0 0, .ptr 1 0, .ptr 2 0],[0,1,2],_,_,_,rfl,fun _=>rfl,fun _ _ _ _ h=>((h.dim 0).dim 1).dim 2,parse1_pan (fun i=>dArr (([]:List Arr).getD i arr0)) (fun i=>dFun (([]:List Fun).getD i fun0)) _ _,⟨⟨rfl,rfl⟩,⟨rfl,rfl⟩,⟨rfl,rfl⟩,tR⟩,rfl,⟨⟨rfl,rfl,tR⟩,⟨rfl,tR⟩,⟨rfl,tR⟩,tR⟩, .inr rfl,⟨rfl,rfl,rfl,tR⟩,tR,rfl⟩
  rw[if_neg (by omega)] at h5
  rw[if_neg h6] at same
  refine x1.call [3] rfl tR rfl h5 rfl ⟨⟨rfl,rfl⟩,rfl,rfl,tR⟩ ⟨⟨rfl,veq0_d rfl,rfl,rfl,tR⟩,tR⟩ ?_
  have h7:=array7_spec s l n c hl b
  obtain⟨V,hW⟩:∃V,arrV s l n=V:=⟨_,rfl⟩
  rw[hW] at h7 same
  rcases V with⟨a,e⟩ | ⟨n',x'⟩
  ·refine x1.draw [3] [2] [0,1] [3,4] [5,6,7] rfl tR mixedP (by kernel_rfl) (RetLater.quiet (by kernel_rfl)) rfl tR (fun C2 x2=>?_)
   refine x2.dieP [2,3,4] [3] rfl tR rfl h7 ⟨⟨rfl,rfl⟩,tR⟩ rfl ⟨⟨rfl,veq0_d rfl,rfl,rfl,tR⟩,tR⟩ ⟨⟨_,rfl⟩,rfl,?_⟩
   rw[←same]
   exact⟨.pan stopT [(.i64,_),(.i64,_)],[.ptr 0 0, .ptr 1 0, .ptr 2 0],[0,1,2],_,_,_,rfl,fun _=>rfl,fun _ _ _ _ h=>((h.dim 0).dim 1).dim 2,parse1_pan (fun i=>dArr (([]:List Arr).getD i arr0)) (fun i=>dFun (([]:List Fun).getD i fun0)) _ _,⟨⟨rfl,rfl⟩,⟨rfl,rfl⟩,⟨rfl,rfl⟩,tR⟩,rfl,⟨⟨rfl,rfl,tR⟩,⟨rfl,tR⟩,⟨rfl,tR⟩,tR⟩, .inr rfl,⟨rfl,rfl,rfl,tR⟩,tR,rfl⟩
  ·obtain⟨p1,p2⟩:=arr_up hW
   simp only[bnd] at same
   refine x1.draw [3] [2] [0,1] [3,4] [5,6,7] rfl tR mixedP (by kernel_rfl) (RetLater.quiet (by kernel_rfl)) rfl tR (fun C2 x2=>?_)
   refine x2.call [3] rfl tR rfl h7 rfl ⟨⟨rfl,rfl⟩,tR⟩ ⟨⟨rfl,veq0_d rfl,rfl,rfl,tR⟩,tR⟩ ?_
   refine x2.back rfl tR ?_
   refine x2.back rfl tR ?_
   refine x1.back rfl (by simp only[AllP,big];omega) ⟨⟨f,n',c,⟨p.arrays++[x'],p.funcs⟩,by omega,by omega,by omega,by rw[List.length_append];simp only[List.length_cons,List.length_nil];omega,hp,same⟩,by show f<f+1;omega,⟨⟨⟨rfl,rfl⟩,⟨rfl,rfl⟩,⟨rfl,rfl⟩,veq_d rfl,⟨rfl,rfl⟩,tR⟩,⟨⟨rfl,rfl,tR⟩,⟨rfl,tR⟩,⟨rfl,tR⟩,⟨rfl,veq0_d rfl,rfl,rfl,tR⟩,⟨rfl,rfl,by simp,fun j hj=>app_gen dArr 4 (fun _=>rfl) arr0 p.arrays x' j hj⟩,⟨rfl,rfl,rfl,fun _ _=>rfl⟩,tR⟩,rfl⟩⟩
 ·have b2:decide ((txV s l n).data.toList=[97,114,114,97,121])=false:=b2
  have b1:¬(txV s l n).data.toList=[97,114,114,97,121]:=of_decide_eq_false b2
  refine x1.cond rfl tR (fun b2=>?_) (fun b2=>?_)
  ·have b2:decide ((txV s l n).data.toList=[102,110])=true:=b2
   have b2:(txV s l n).data.toList=[102,110]:=of_decide_eq_true b2
   rw[if_neg b1] at same
   rw[if_pos b2] at same
   have h5:=room_spec s l n c (by omega) (p.funcs.length:Int) 64
   by_cases h6:64≤p.funcs.length
   ·rw[if_pos (by omega)] at h5
    rw[if_pos h6] at same
    refine x1.dieP [2,3,4] [3] rfl tR rfl h5 ⟨⟨rfl,rfl⟩,rfl,rfl,tR⟩ rfl ⟨⟨rfl,veq0_d rfl,rfl,rfl,tR⟩,tR⟩ ?_
    rw[←same]
    exact⟨.pan stopT [(.i64,_),(.i64,_)],[.ptr 0 0, .ptr 1 0, .ptr 2 0],[0,1,2],_,_,_,rfl,fun _=>rfl,fun _ _ _ _ h=>((h.dim 0).dim 1).dim 2,parse1_pan (fun i=>dArr (([]:List Arr).getD i arr0)) (fun i=>dFun (([]:List Fun).getD i fun0)) _ _,⟨⟨rfl,rfl⟩,⟨rfl,rfl⟩,⟨rfl,rfl⟩,tR⟩,rfl,⟨⟨rfl,rfl,tR⟩,⟨rfl,tR⟩,⟨rfl,tR⟩,tR⟩, .inr rfl,⟨rfl,rfl,rfl,tR⟩,tR,rfl⟩
   rw[if_neg (by omega)] at h5
   rw[if_neg h6] at same
   refine x1.call [3] rfl tR rfl h5 rfl ⟨⟨rfl,rfl⟩,rfl,rfl,tR⟩ ⟨⟨rfl,veq0_d rfl,rfl,rfl,tR⟩,tR⟩ ?_
   have h7:=function7_spec s l n c hl b hc
   obtain⟨V,hW⟩:∃V,funcV s l n c=V:=⟨_,rfl⟩
   rw[hW] at h7 same
   rcases V with⟨a,e⟩ | ⟨n',c',x'⟩
   ·refine x1.draw [3] [2] [0,1] [3,4] [5,6,7] rfl tR mixedP (by kernel_rfl) (RetLater.quiet (by kernel_rfl)) rfl tR (fun C2 x2=>?_)
    refine x2.dieP [2,3,4] [3] rfl tR rfl h7 ⟨⟨rfl,rfl⟩,tR⟩ rfl ⟨⟨rfl,veq0_d rfl,rfl,rfl,tR⟩,tR⟩ ⟨⟨_,rfl⟩,rfl,?_⟩
    rw[←same]
    exact⟨.pan stopT [(.i64,_),(.i64,_)],[.ptr 0 0, .ptr 1 0, .ptr 2 0],[0,1,2],_,_,_,rfl,fun _=>rfl,fun _ _ _ _ h=>((h.dim 0).dim 1).dim 2,parse1_pan (fun i=>dArr (([]:List Arr).getD i arr0)) (fun i=>dFun (([]:List Fun).getD i fun0)) _ _,⟨⟨rfl,rfl⟩,⟨rfl,rfl⟩,⟨rfl,rfl⟩,tR⟩,rfl,⟨⟨rfl,rfl,tR⟩,⟨rfl,tR⟩,⟨rfl,tR⟩,tR⟩, .inr rfl,⟨rfl,rfl,rfl,tR⟩,tR,rfl⟩
   ·obtain⟨p1,p2,p3⟩:=func_up hc hW
    simp only[bnd] at same
    refine x1.draw [3] [2] [0,1] [3,4] [5,6,7] rfl tR mixedP (by kernel_rfl) (RetLater.quiet (by kernel_rfl)) rfl tR (fun C2 x2=>?_)
    refine x2.call [3] rfl tR rfl h7 rfl ⟨⟨rfl,rfl⟩,tR⟩ ⟨⟨rfl,veq0_d rfl,rfl,rfl,tR⟩,tR⟩ ?_
    refine Sx.Go.freeze 6 ?_
    refine Sx.Go.freeze 7 ?_
    refine x2.back rfl tR ?_
    refine x2.back rfl tR ?_
    refine x1.back rfl (by simp only[AllP,big];omega) ⟨⟨f,n',c',⟨p.arrays,p.funcs++[x']⟩,by omega,by omega,by omega,ha,by rw[List.length_append];simp only[List.length_cons,List.length_nil];omega,same⟩,by show f<f+1;omega,⟨⟨⟨rfl,rfl⟩,⟨rfl,rfl⟩,⟨rfl,rfl⟩,veq_d rfl,⟨rfl,rfl⟩,tR⟩,⟨⟨rfl,rfl,tR⟩,⟨rfl,tR⟩,⟨rfl,tR⟩,⟨rfl,veq0_d rfl,rfl,rfl,tR⟩,⟨rfl,rfl,rfl,fun _ _=>rfl⟩,⟨rfl,rfl,by simp,fun j hj=>app_gen dFun 4 (fun _=>rfl) fun0 p.funcs x' j hj⟩,tR⟩,rfl⟩⟩
  ·have b2:decide ((txV s l n).data.toList=[102,110])=false:=b2
   have b3:¬(txV s l n).data.toList=[102,110]:=of_decide_eq_false b2
   rw[if_neg b1,if_neg b3] at same
   refine x1.dieP [2,3,4] [3] rfl tR rfl (fail_spec s l n c (by omega) 7) ⟨⟨rfl,rfl⟩,rfl,tR⟩ rfl ⟨⟨rfl,veq0_d rfl,rfl,rfl,tR⟩,tR⟩ ?_
   rw[←same]
   exact⟨.pan stopT [(.i64,_),(.i64,_)],[.ptr 0 0, .ptr 1 0, .ptr 2 0],[0,1,2],_,_,_,rfl,fun _=>rfl,fun _ _ _ _ h=>((h.dim 0).dim 1).dim 2,parse1_pan (fun i=>dArr (([]:List Arr).getD i arr0)) (fun i=>dFun (([]:List Fun).getD i fun0)) _ _,⟨⟨rfl,rfl⟩,⟨rfl,rfl⟩,⟨rfl,rfl⟩,tR⟩,rfl,⟨⟨rfl,rfl,tR⟩,⟨rfl,tR⟩,⟨rfl,tR⟩,tR⟩, .inr rfl,⟨rfl,rfl,rfl,tR⟩,tR,rfl⟩
def allF7 (f:Nat->Bool):Nat->Nat->Bool
 | 0,_=>true
 | k+1,i=>f i&&allF7 f k (i+1)
theorem allF7_iff {f:Nat->Bool}:∀{k i:Nat},allF7 f k i=true↔∀j,i≤j->j<i+k->f j=true
 | 0,i=>by simp only[allF7,true_iff];intro j h1 h2;omega
 | k+1,i=>by
  simp only[allF7,Bool.and_eq_true,allF7_iff]
  constructor
  ·rintro ⟨h1,h2⟩ j h3 h4
   by_cases e:j=i
   ·subst e;exact h1
   ·exact h2 j (by omega) (by omega)
  ·intro h
   exact⟨h i (by omega) (by omega),fun j h3 h4=>h j (by omega) (by omega)⟩
abbrev beq (a b:ByteArray):Bool:=decide (a.data.toList=b.data.toList)
structure AW (f:Nat->Bool) (n:Nat) (R:Bool) where
 i:Nat
 hi:i≤n
 same:allF7 f (n-i) i=R
theorem AW.step {f:Nat->Bool} {n:Nat} {R:Bool} {i:Nat} (hi:i<n) (same:allF7 f (n-i) i=R) (h:f i=true):allF7 f (n-(i+1)) (i+1)=R:=by
 rw[show n-i=(n-(i+1))+1 by omega,allF7,h] at same
 simpa using same
theorem AW.stop {f:Nat->Bool} {n:Nat} {R:Bool} {i:Nat} (hi:i<n) (same:allF7 f (n-i) i=R) (h:f i=false):R=false:=by
 rw[show n-i=(n-(i+1))+1 by omega,allF7,h] at same
 simpa using same.symm
theorem AW.fin {f:Nat->Bool} {n:Nat} {R:Bool} {i:Nat} (hi:¬i<n) (hn:i≤n) (same:allF7 f (n-i) i=R):R=true:=by
 rw[show n-i=0 by omega,allF7] at same
 exact same.symm
abbrev bigL:Nat:=1000000000000
theorem getD_mem {α:Type} {l:List α} {i:Nat} {d:α} (h:i<l.length):l.getD i d∈l:=by
 rw[List.getD_eq_getElem?_getD,List.getElem?_eq_getElem h]
 exact List.getElem_mem h
theorem join_data (xs:List ByteArray) (sep:ByteArray):(joinB xs sep).data.toList=Lib.join (xs.map (·.data.toList)) sep.data.toList:=by
 simp [joinB]
theorem joinB_one (a sep:ByteArray):joinB [a] sep=a:=ba_inj8 (by rw[join_data,List.map_cons,List.map_nil,Lib.join_one])
where ba_inj8 {a b:ByteArray} (h:a.data.toList=b.data.toList):a=b:=by rw[ba_eq a,ba_eq b,h]
theorem joinB_cons (a b:ByteArray) (l:List ByteArray) (sep:ByteArray):joinB (a::b::l) sep=a++(sep++joinB (b::l) sep):=by
 refine joinB_one.ba_inj8 ?_
 rw[join_data,app_data,app_data,join_data]
 simp only[List.map_cons,Lib.join_cons,Lib.joinTail,List.flatten_cons,List.append_assoc]
theorem nameW_size (s:ByteArray):∀(n p:Nat) (c:Int),s.size≤p+n->0≤c->c≤24->nameW s n p c=true->s.size≤p+4*(24-c.toNat)
 | 0,p,c,h,_,_,_=>by omega
 | n+1,p,c,h,h0,h1,hw=>by
  rw[nameW] at hw
  split at hw
  ·split at hw
   ·cases hw
   ·split at hw
    ·cases hw
    ·have hd:=decode_pos s p
     have:=nameW_size s n (p+(Utf8.decode s p).2) (c+1) (by omega) (by omega) (by omega) hw
     omega
  ·omega
theorem name_size {s:ByteArray} (h:nameT s=true):s.size≤96:=by
 have:=nameW_size s s.size 0 0 (by omega) (by omega) (by omega) h
 omega
def okN (s:ByteArray):Bool:=nameT s&&!wordB s
theorem okN_size {s:ByteArray} (h:okN s=true):s.size≤96:=by
 unfold okN at h
 simp only[Bool.and_eq_true] at h
 exact name_size h.1
def allN (l:List ByteArray):Bool:=l.all okN
theorem allN_size {l:List ByteArray} (h:allN l=true):∀a,a∈l->a.size≤96:=fun a ha=>okN_size (List.all_eq_true.1 h a ha)
def shapeV (k:Int):Option (Int×Bool×Bool×Bool):=
 if k=1 then some (0,true,false,false) else if k=2 then some (2,true,false,false) else if k=4 then some (1,true,true,false)
 else if k=5 then some (1,true,true,false) else if k=6 then some (2,false,true,false) else if k=7 then some (-1,true,true,false)
 else if k=8 then some (0,true,true,false) else if k=9 then some (1,false,true,false) else if k=10 then some (1,true,true,false)
 else if k=11 then some (0,false,true,false) else if k=12 then some (1,false,true,true) else if k=13 then some (1,false,false,false) else none
def fitsV (s:ByteArray) (wanted:Bool):Bool:=wanted&&okN s||!wanted&&decide (s.data.toList=[])
def opName (o:Int):ByteArray:=if 13≤o then .empty else opAt o.toNat
def rightI (x:Ins):Bool:=
 if (decide (x.op≠0) != decide (x.kind=2))||(decide (x.op≠0)&&decide ((opName x.op).data.toList=[]))||(decide (x.num≠0)&&decide (x.kind≠1))||!allN x.args||!allN x.frm then false
 else if x.kind=3 then okN x.dst&&decide (x.ref.data.toList=[])&&decide (x.alt.data.toList=[])&&decide (x.frm.length=x.args.length)&&decide (1≤x.frm.length)&&decide (x.frm.length≤64)
 else match shapeV x.kind with
  | none=>false
  | some (n,d,r,a)=>!(decide (0<x.frm.length)||(decide (0≤n)&&decide ((x.args.length:Int)≠n))||decide (6<x.args.length))&&(fitsV x.dst d&&fitsV x.ref r&&fitsV x.alt a)
abbrev spS:ByteArray:=⟨#[32]⟩
theorem join4 (a b c d s:ByteArray):joinB [a,b,c,d] s=a++(s++(b++(s++(c++(s++d))))):=by rw[joinB_cons,joinB_cons,joinB_cons,joinB_one]
theorem show_size {n:Int} (h:inI64 n):(showV n).size≤20:=by
 unfold inI64 at h
 have hd:=digs_len 19 n.natAbs (by omega)
 unfold showV sgV
 show (ba _).size≤20
 have hs:∀l:List UInt8,(ba l).size=l.length:=fun l=>by show l.toArray.size=l.length;simp
 rw[hs,List.length_append]
 by_cases h0:n<0
 ·rw[if_pos h0]
  have hd2:=digs_len 18 n.natAbs (by omega)
  simp only[List.length_cons,List.length_nil];omega
 ·rw[if_neg h0];simp only[List.length_nil];omega
structure SmallN (x:Ins):Prop where
 dst:x.dst.size≤96
 ref:x.ref.size≤96
 alt:x.alt.size≤96
 args:∀a,a∈x.args->a.size≤96
 frm:∀a,a∈x.frm->a.size≤96
 alen:x.args.length≤64
 flen:x.frm.length≤64
theorem size_nil {s:ByteArray} (h:s.data.toList=[]):s.size=0:=by rw[size_list,h];rfl
theorem fits_size {s:ByteArray} {b:Bool} (h:fitsV s b=true):s.size≤96:=by
 unfold fitsV at h
 cases b with
 | true=>simp at h;exact okN_size h
 | false=>simp at h;rw[size_nil (by simpa using h)];omega
theorem right_small {x:Ins} (h:rightI x=true):SmallN x:=by
 unfold rightI at h
 split at h
 ·cases h
 rename_i h0
 simp only[Bool.or_eq_true,not_or,Bool.not_eq_true,Bool.not_eq_false'] at h0
 obtain⟨⟨⟨_,_⟩,ha⟩,hf⟩:=h0
 have ha:=allN_size ha
 have hf:=allN_size hf
 split at h
 ·simp only[Bool.and_eq_true,decide_eq_true_eq] at h
  obtain⟨⟨⟨⟨⟨h1,h2⟩,h3⟩,h4⟩,h5⟩,h6⟩:=h
  exact⟨okN_size h1,by rw[size_nil h2];omega,by rw[size_nil h3];omega,ha,hf,by omega,h6⟩
 ·split at h
  ·cases h
  ·rename_i n d r a hs
   simp only[Bool.and_eq_true,Bool.not_eq_true',Bool.or_eq_false_iff,decide_eq_false_iff_not] at h
   obtain⟨⟨⟨h1,h2⟩,h3⟩,⟨h4,h5⟩,h6⟩:=h
   exact⟨fits_size h4,fits_size h5,fits_size h6,ha,hf,by omega,by omega⟩
def arrOK (a:Arr):Bool:=!(!okN a.name||!okN a.level||decide (a.size<1)||decide (256<a.size))
def blkOK (b:Blk):Bool:=okN b.name&&b.code.all rightI
def funOK (f:Fun):Bool:=!(!okN f.name||!allN f.params||decide (6<f.params.length)||decide (f.blocks.length<1)||decide (64<f.blocks.length))&&f.blocks.all blkOK
def progN8 (fs:List Fun):Nat:=(fs.map fun f=>(f.blocks.map fun b=>b.code.length).sum).sum
def rightG (p:Prg):Bool:=!(decide (16<p.arrays.length)||decide (64<p.funcs.length))&&p.arrays.all arrOK&&p.funcs.all funOK&&decide (progN8 p.funcs≤4096)
def arrLine (a:Arr):ByteArray:=joinB [⟨#[97,114,114,97,121]⟩,a.name,showV a.size,a.level] spS
def putP (acc l:ByteArray):ByteArray:=acc++(l++(⟨#[10]⟩:ByteArray))
def dSs (l:List ByteArray):D:=.sl 1 l.length fun i=>[.str (l.getD i .empty)]
abbrev Chan:=ByteArray×Int
def chan0:Chan:=(.empty,0)
def dChs (l:List Chan):D:=.sl 2 l.length fun i=>[.str (l.getD i chan0).1, .int .i64 (l.getD i chan0).2]
abbrev vSs (l:List ByteArray):V:=.d (dSs l)
abbrev vChs (l:List Chan):V:=.d (dChs l)
def idxF (p:Nat->Bool):Nat->Nat->Int
 | 0,_=>-1
 | n+1,i=>if p i then (i:Int) else idxF p n (i+1)
theorem idxF_range {p:Nat->Bool}:∀{n i:Nat},idxF p n i=-1∨((i:Int)≤idxF p n i∧idxF p n i<(i:Int)+n)
 | 0,_=>.inl rfl
 | n+1,i=>by
  rw[idxF]
  split
  ·right;omega
  ·rcases idxF_range (p:=p) (n:=n) (i:=i+1) with h | h
   ·exact .inl h
   ·right;omega
def idxS (l:List ByteArray) (s:ByteArray):Int:=idxF (fun i=>decide ((l.getD i .empty).data.toList=s.data.toList)) l.length 0
def idxC (l:List Chan) (s:ByteArray):Int:=idxF (fun i=>decide ((l.getD i chan0).1.data.toList=s.data.toList)) l.length 0
theorem itself_spec (s:ByteArray):Pure PG 101 [vs s] (vs s) []:=by
 refine Proc.mk (cfg 4) tysOK [] Tryz.func101 rfl (by kernel_rfl) rfl rfl rfl ?_
 intro C x
 exact x.exit rfl tR ⟨.inr rfl,rfl,tR,rfl⟩
theorem called_spec (s:ByteArray) (k:Int):Pure PG 121 [.agg [vs s,vi k]] (vs s) []:=by
 refine Proc.mk (cfg 5) tysOK [] Tryz.func121 rfl (by kernel_rfl) rfl rfl rfl ?_
 intro C x
 exact x.exit rfl tR ⟨.inr rfl,rfl,tR,rfl⟩
abbrev findH (f:Nat) (s:ByteArray):List Ch:=[.box [.fn f []], .box [vs s]]
theorem isS_spec (t s:ByteArray):Proc PG 156 2 [vs t, .ptr 0 0, .ptr 1 0] (findH 101 s) (vb (decide (t.data.toList=s.data.toList))) (findH 101 s):=by
 refine Proc.mk (cfgF 10 2) tysOK [0,1] Tryz.func156 rfl (by kernel_rfl) rfl rfl rfl ?_
 intro C x
 refine x.quiet rfl tR mixedP (by kernel_rfl) ?_
 refine x.qcall rfl tR rfl (itself_spec t) rfl rfl ⟨rfl,tR⟩ ?_
 refine x.qdone rfl tR ?_
 exact x.exit rfl tR ⟨.inr rfl,rfl,⟨⟨rfl,tR⟩,⟨rfl,tR⟩,tR⟩,rfl⟩
theorem isC_spec (c:Chan) (s:ByteArray):Proc PG 166 2 [.agg [vs c.1,vi c.2], .ptr 0 0, .ptr 1 0] (findH 121 s) (vb (decide (c.1.data.toList=s.data.toList))) (findH 121 s):=by
 refine Proc.mk (cfgF 10 2) tysOK [0,1] Tryz.func166 rfl (by kernel_rfl) rfl rfl rfl ?_
 intro C x
 refine x.quiet rfl tR mixedP (by kernel_rfl) ?_
 refine x.qcall rfl tR rfl (called_spec c.1 c.2) rfl rfl ⟨⟨rfl,rfl,tR⟩,tR⟩ ?_
 refine x.qdone rfl tR ?_
 exact x.exit rfl tR ⟨.inr rfl,rfl,⟨⟨rfl,tR⟩,⟨rfl,tR⟩,tR⟩,rfl⟩
theorem indexS_spec (l:List ByteArray) (s:ByteArray) (hl:inI64 (l.length:Int)):Proc PG 155 2 [vSs l, .fn 156 [.ptr 0 0, .ptr 1 0]] (findH 101 s) (vi (idxS l s)) (findH 101 s):=by
 refine Proc.mk (cfgF 19 2) tysOK [0,1] Tryz.func155 rfl (by kernel_rfl) rfl rfl rfl ?_
 intro C x
 unfold inI64 at hl
 refine x.loop (α:={i:Nat // i≤l.length∧idxF (fun i=>decide ((l.getD i .empty).data.toList=s.data.toList)) (l.length-i) i=idxS l s}) (fun y=>⟨[(0,vSs l),(1, .fn 156 [.ptr 0 0, .ptr 1 0]),(7,vi (l.length:Int)),(8,vi (y.1:Int))],[(0, .box [.fn 101 []]),(1, .box [vs s])],2⟩) (fun y=>l.length-y.1) ⟨0,by omega,rfl⟩ rfl tR ?_ (fun y=>?_)
 ·exact⟨⟨veq_d rfl,rfl,rfl,rfl,tR⟩,⟨⟨rfl,tR⟩,⟨rfl,tR⟩,tR⟩,rfl⟩
 obtain⟨i,hi,hsame⟩:=y
 change Go C _ ⟨[(0,vSs l),(1, .fn 156 [.ptr 0 0, .ptr 1 0]),(7,vi (l.length:Int)),(8,vi (i:Int))],[(0, .box [.fn 101 []]),(1, .box [vs s])],2⟩ _
 refine x.cond rfl tR (fun h1=>?_) (fun h1=>?_)
 ·have h1:i<l.length:=by have:=of_decide_eq_true h1;omega
  rw[show l.length-i=(l.length-(i+1))+1 by omega,idxF] at hsame
  refine x.call [0,1] rfl ?_ rfl (isS_spec (l.getD i .empty) s) rfl ⟨rfl,⟨rfl,rfl⟩,⟨rfl,rfl⟩,tR⟩ ⟨⟨rfl,tR⟩,⟨rfl,tR⟩,tR⟩ ?_
  ·simp only[AllP];omega
  refine x.cond rfl tR (fun h2=>?_) (fun h2=>?_)
  ·rw[if_pos h2] at hsame
   refine x.exit rfl tR ⟨.inr rfl,?_,⟨⟨rfl,tR⟩,⟨rfl,tR⟩,tR⟩,rfl⟩
   show VEq0 (vi (i:Int)) (vi (idxS l s))
   rw[hsame];exact rfl
  ·rw[if_neg (by rw[h2];simp)] at hsame
   refine x.back rfl ?_ ⟨⟨i+1,by omega,hsame⟩,by show l.length-(i+1)<l.length-i;omega,⟨veq_d rfl,rfl,rfl,(show VEq0 (vi ((i:Int)+1)) (vi ((i+1:Nat):Int)) by rw[Int.natCast_add];rfl),tR⟩,⟨⟨rfl,tR⟩,⟨rfl,tR⟩,tR⟩,rfl⟩
   simp only[AllP,inI64];omega
 ·have h1:i=l.length:=by have:=of_decide_eq_false h1;omega
  refine x.exit rfl tR ⟨.inr rfl,?_,⟨⟨rfl,tR⟩,⟨rfl,tR⟩,tR⟩,rfl⟩
  show VEq0 (vi (-1)) (vi (idxS l s))
  rw[←hsame,show l.length-i=0 by omega];exact rfl
theorem indexC_spec (l:List Chan) (s:ByteArray) (hl:inI64 (l.length:Int)):Proc PG 165 2 [vChs l, .fn 166 [.ptr 0 0, .ptr 1 0]] (findH 121 s) (vi (idxC l s)) (findH 121 s):=by
 refine Proc.mk (cfgF 19 2) tysOK [0,1] Tryz.func165 rfl (by kernel_rfl) rfl rfl rfl ?_
 intro C x
 unfold inI64 at hl
 refine x.loop (α:={i:Nat // i≤l.length∧idxF (fun i=>decide ((l.getD i chan0).1.data.toList=s.data.toList)) (l.length-i) i=idxC l s}) (fun y=>⟨[(0,vChs l),(1, .fn 166 [.ptr 0 0, .ptr 1 0]),(7,vi (l.length:Int)),(8,vi (y.1:Int))],[(0, .box [.fn 121 []]),(1, .box [vs s])],2⟩) (fun y=>l.length-y.1) ⟨0,by omega,rfl⟩ rfl tR ?_ (fun y=>?_)
 ·exact⟨⟨veq_d rfl,rfl,rfl,rfl,tR⟩,⟨⟨rfl,tR⟩,⟨rfl,tR⟩,tR⟩,rfl⟩
 obtain⟨i,hi,hsame⟩:=y
 change Go C _ ⟨[(0,vChs l),(1, .fn 166 [.ptr 0 0, .ptr 1 0]),(7,vi (l.length:Int)),(8,vi (i:Int))],[(0, .box [.fn 121 []]),(1, .box [vs s])],2⟩ _
 refine x.cond rfl tR (fun h1=>?_) (fun h1=>?_)
 ·have h1:i<l.length:=by have:=of_decide_eq_true h1;omega
  rw[show l.length-i=(l.length-(i+1))+1 by omega,idxF] at hsame
  refine x.call [0,1] rfl ?_ rfl (isC_spec (l.getD i chan0) s) rfl ⟨⟨rfl,rfl,tR⟩,⟨rfl,rfl⟩,⟨rfl,rfl⟩,tR⟩ ⟨⟨rfl,tR⟩,⟨rfl,tR⟩,tR⟩ ?_
  ·simp only[AllP];omega
  refine x.cond rfl tR (fun h2=>?_) (fun h2=>?_)
  ·rw[if_pos h2] at hsame
   refine x.exit rfl tR ⟨.inr rfl,?_,⟨⟨rfl,tR⟩,⟨rfl,tR⟩,tR⟩,rfl⟩
   show VEq0 (vi (i:Int)) (vi (idxC l s))
   rw[hsame];exact rfl
  ·rw[if_neg (by rw[h2];simp)] at hsame
   refine x.back rfl ?_ ⟨⟨i+1,by omega,hsame⟩,by show l.length-(i+1)<l.length-i;omega,⟨veq_d rfl,rfl,rfl,(show VEq0 (vi ((i:Int)+1)) (vi ((i+1:Nat):Int)) by rw[Int.natCast_add];rfl),tR⟩,⟨⟨rfl,tR⟩,⟨rfl,tR⟩,tR⟩,rfl⟩
   simp only[AllP,inI64];omega
 ·have h1:i=l.length:=by have:=of_decide_eq_false h1;omega
  refine x.exit rfl tR ⟨.inr rfl,?_,⟨⟨rfl,tR⟩,⟨rfl,tR⟩,tR⟩,rfl⟩
  show VEq0 (vi (-1)) (vi (idxC l s))
  rw[←hsame,show l.length-i=0 by omega];exact rfl
def foundV (k:Int):V:=.tup [vi (if 0 > k then 0 else k),vb (decide (0≤k))]
theorem findS_spec (l:List ByteArray) (s:ByteArray) (hl:inI64 (l.length:Int)):Pure PG 100 [vSs l, .fn 101 [],vs s] (foundV (idxS l s)) []:=by
 refine Proc.mk (cfg 16) tysOK [] Tryz.func100 rfl (by kernel_rfl) rfl rfl rfl ?_
 intro C x
 refine x.call [0,1] rfl tR rfl (indexS_spec l s hl) rfl ⟨veq_d rfl,rfl,tR⟩ ⟨⟨rfl,tR⟩,⟨rfl,tR⟩,tR⟩ ?_
 exact x.exit rfl tR ⟨.inr rfl,⟨rfl,rfl,tR⟩,tR,rfl⟩
theorem findC_spec (l:List Chan) (s:ByteArray) (hl:inI64 (l.length:Int)):Pure PG 120 [vChs l, .fn 121 [],vs s] (foundV (idxC l s)) []:=by
 refine Proc.mk (cfg 16) tysOK [] Tryz.func120 rfl (by kernel_rfl) rfl rfl rfl ?_
 intro C x
 refine x.call [0,1] rfl tR rfl (indexC_spec l s hl) rfl ⟨veq_d rfl,rfl,tR⟩ ⟨⟨rfl,tR⟩,⟨rfl,tR⟩,tR⟩ ?_
 exact x.exit rfl tR ⟨.inr rfl,⟨rfl,rfl,tR⟩,tR,rfl⟩
theorem level_spec (l:List ByteArray) (s:ByteArray) (hl:inI64 (l.length:Int)):Pure PG 52 [.agg [vSs l, .dead, .dead, .dead, .dead],vs s] (foundV (idxS l s)) []:=by
 refine Proc.mk (cfg 12) tysOK [] Tryz.func52 rfl (by kernel_rfl) rfl rfl rfl ?_
 intro C x
 refine x.pure rfl tR rfl (findS_spec l s hl) ⟨veq_d rfl,rfl,rfl,tR⟩ ?_
 exact x.exit rfl tR ⟨.inr rfl,⟨rfl,rfl,tR⟩,tR,rfl⟩
theorem input_spec (l:List Chan) (s:ByteArray) (hl:inI64 (l.length:Int)):Pure PG 184 [.agg [.dead, .dead,vChs l, .dead, .dead],vs s] (foundV (idxC l s)) []:=by
 refine Proc.mk (cfg 12) tysOK [] Tryz.func184 rfl (by kernel_rfl) rfl rfl rfl ?_
 intro C x
 refine x.pure rfl tR rfl (findC_spec l s hl) ⟨veq_d rfl,rfl,rfl,tR⟩ ?_
 exact x.exit rfl tR ⟨.inr rfl,⟨rfl,rfl,tR⟩,tR,rfl⟩
theorem output_spec (l:List Chan) (s:ByteArray) (hl:inI64 (l.length:Int)):Pure PG 185 [.agg [.dead, .dead, .dead,vChs l, .dead],vs s] (foundV (idxC l s)) []:=by
 refine Proc.mk (cfg 12) tysOK [] Tryz.func185 rfl (by kernel_rfl) rfl rfl rfl ?_
 intro C x
 refine x.pure rfl tR rfl (findC_spec l s hl) ⟨veq_d rfl,rfl,rfl,tR⟩ ?_
 exact x.exit rfl tR ⟨.inr rfl,⟨rfl,rfl,tR⟩,tR,rfl⟩
def nameB (s:ByteArray):Bool:=nameW s s.size 0 0&&!wordB s
theorem name6_spec (s:ByteArray) (hs:s.size≤9223372036854775807):Pure PG 71 [vs s] (vb (nameB s)) []:=by
 refine Proc.mk (cfg 10) tysOK [] Tryz.func71 rfl (by kernel_rfl) rfl rfl rfl ?_
 intro C x
 refine x.pure rfl tR rfl (name_spec s hs) ⟨rfl,tR⟩ ?_
 refine x.pureG rfl tR rfl (fun _=>word_spec s) rfl ⟨rfl,tR⟩ ?_
 exact x.exit rfl tR ⟨.inr rfl,rfl,tR,rfl⟩
abbrev M64:=BitVec 64
abbrev dm (x:M64):D:=.int .u64 (x.toNat:Int)
abbrev vm (x:M64):V:=.d (dm x)
theorem wrap_u64 (n:Int):IntKind.u64.wrap n=n%18446744073709551616:=rfl
theorem wrap_nat {n:Nat} (h:n<18446744073709551616):IntKind.u64.wrap (n:Int)=n:=by
 rw[wrap_u64];omega
theorem toNat_lt (x:M64):x.toNat<18446744073709551616:=x.isLt
theorem ofInt_m (x:M64):BitVec.ofInt IntKind.u64.bits (x.toNat:Int)=x:=by
 show BitVec.ofInt 64 (x.toNat:Int)=x
 apply BitVec.eq_of_toNat_eq
 rw[BitVec.toNat_ofInt]
 have:=toNat_lt x
 show ((x.toNat:Int)%((2 ^ 64:Nat):Int)).toNat=x.toNat
 omega
theorem and_m (x y:M64):bitI .and .u64 (x.toNat:Int) (y.toNat:Int)=((x&&& y).toNat:Int):=by
 unfold bitI
 simp only[ofInt_m]
 exact wrap_nat (toNat_lt _)
theorem or_m (x y:M64):bitI .or .u64 (x.toNat:Int) (y.toNat:Int)=((x||| y).toNat:Int):=by
 unfold bitI
 simp only[ofInt_m]
 exact wrap_nat (toNat_lt _)
theorem andNot_m (x y:M64):bitI .andNot .u64 (x.toNat:Int) (y.toNat:Int)=((x&&& ~~~y).toNat:Int):=by
 unfold bitI
 simp only[ofInt_m]
 exact wrap_nat (toNat_lt _)
theorem sub1_m (x:M64):IntKind.u64.wrap ((x.toNat:Int)-1)=((x-1#64).toNat:Int):=by
 rw[wrap_u64,BitVec.toNat_sub]
 have:=toNat_lt x
 show ((x.toNat:Int)-1)%18446744073709551616=(((2 ^ 64-1+x.toNat)%2 ^ 64:Nat):Int)
 omega
theorem neg_m (x:M64):IntKind.u64.wrap (0-(x.toNat:Int))=((-x).toNat:Int):=by
 rw[wrap_u64,BitVec.toNat_neg]
 have:=toNat_lt x
 show (0-(x.toNat:Int))%18446744073709551616=(((2 ^ 64-x.toNat)%2 ^ 64:Nat):Int)
 omega
theorem mul_m (x y:M64):IntKind.u64.wrap ((x.toNat:Int)*(y.toNat:Int))=((x*y).toNat:Int):=by
 rw[wrap_u64,BitVec.toNat_mul]
 show ((x.toNat:Int)*(y.toNat:Int))%18446744073709551616=(((x.toNat*y.toNat)%2 ^ 64:Nat):Int)
 rw[Int.natCast_emod,Int.natCast_mul]
 rfl
theorem shl_m {i:Nat} (hi:i<64):IntKind.u64.wrap (1*2 ^ (min ((i:Int)).toNat IntKind.u64.bits))=((1#64 <<< i).toNat:Int):=by
 rw[wrap_u64,BitVec.toNat_shiftLeft]
 have e:min ((i:Int)).toNat IntKind.u64.bits=i:=by
  show min i 64=i
  omega
 rw[e,Int.one_mul]
 show (2:Int) ^ i%18446744073709551616=(((1 <<< i)%2 ^ 64:Nat):Int)
 rw[Nat.shiftLeft_eq,Nat.one_mul,Int.natCast_emod,Int.natCast_pow]
 rfl
theorem shr_m (x:M64) {i:Nat} (hi:i<64):((x.toNat:Int)).fdiv (2 ^ (min ((i:Int)).toNat IntKind.u64.bits))=((x >>> i).toNat:Int):=by
 rw[BitVec.toNat_ushiftRight]
 have e:min ((i:Int)).toNat IntKind.u64.bits=i:=by
  show min i 64=i
  omega
 rw[e,Nat.shiftRight_eq_div_pow,Int.fdiv_eq_ediv_of_nonneg _ (Int.pow_nonneg (by omega)),Int.natCast_ediv,Int.natCast_pow]
 rfl
abbrev bit (x:M64) (i:Nat):Bool:=x.getLsbD i
theorem m_ext {x y:M64} (h:∀i,i<64->bit x i=bit y i):x=y:=BitVec.eq_of_getLsbD_eq h
theorem bit_ge (x:M64) {i:Nat} (h:64≤i):bit x i=false:=BitVec.getLsbD_of_ge x i h
def one (i:Nat):M64:=1#64 <<< i
theorem bit_one {i j:Nat} (hi:i<64):bit (one i) j=decide (j=i):=by
 unfold bit one
 rw[BitVec.getLsbD_shiftLeft]
 by_cases h:j=i
 ·subst h;simp [hi]
 ·by_cases h2:j<i
  ·simp [h,h2]
  ·have:0<j-i:=by omega
   by_cases h3:j<64
   ·simp [h,h2,h3,BitVec.getLsbD_one];omega
   ·simp [h,h3]
theorem bit_and (x y:M64) (i:Nat):bit (x&&& y) i=(bit x i&&bit y i):=BitVec.getLsbD_and
theorem bit_or (x y:M64) (i:Nat):bit (x||| y) i=(bit x i||bit y i):=BitVec.getLsbD_or
theorem bit_andNot (x y:M64) {i:Nat}:bit (x&&& ~~~y) i=(bit x i&&!bit y i):=by
 unfold bit
 rw[BitVec.getLsbD_and,BitVec.getLsbD_not]
 by_cases h:i<64
 ·simp [h]
 ·rw[BitVec.getLsbD_of_ge x i (by omega)];rfl
theorem m_zero {x:M64}:x=0#64↔∀i,i<64->bit x i=false:=by
 constructor
 ·rintro rfl i _;exact BitVec.getLsbD_zero
 ·intro h;exact m_ext fun i hi=>by rw[h i hi];exact BitVec.getLsbD_zero.symm
theorem toNat_zero_iff {x:M64}:((x.toNat:Int)=0)↔x=0#64:=by
 constructor
 ·intro h;apply BitVec.eq_of_toNat_eq;show x.toNat=0;omega
 ·rintro rfl;rfl
theorem has_shift (x:M64) {i:Nat}:decide ((((x >>> i)&&& 1#64).toNat:Int)=1)=bit x i:=by
 have h:((x >>> i)&&& 1#64).toNat=if bit x i then 1 else 0:=by
  have e:(x >>> i)&&& 1#64=if bit x i then 1#64 else 0#64:=by
   apply BitVec.eq_of_getLsbD_eq
   intro j hj
   rw[BitVec.getLsbD_and,BitVec.getLsbD_ushiftRight,BitVec.getLsbD_one]
   unfold bit
   by_cases h0:j=0
   ·subst h0;cases hb:x.getLsbD i<;>simp [hb]
   ·cases hb:x.getLsbD i<;>simp [h0,BitVec.getLsbD_one]
  rw[e];split<;>rfl
 rw[h]
 cases bit x i<;>rfl
def tz (x:M64):Nat:=((List.range 64).find? fun i=>bit x i).getD 64
def bits (x:M64):List Nat:=(List.range 64).filter fun i=>bit x i
theorem mem_bits {x:M64} {i:Nat}:i∈bits x↔bit x i=true:=by
 unfold bits
 rw[List.mem_filter,List.mem_range]
 constructor
 ·exact fun h=>h.2
 ·intro h
  refine⟨?_,h⟩
  by_cases hi:i<64
  ·exact hi
  ·rw[bit_ge x (by omega)] at h;cases h
theorem find_range {p:Nat->Bool}:∀{n k:Nat},(List.range n).find? p=some k↔k<n∧p k=true∧∀j,j<k->p j=false:=by
 intro n k
 rw[List.find?_range_eq_some]
 simp only[List.mem_range,Bool.not_eq_true',Bool.not_eq_eq_eq_not,Bool.not_true]
 constructor
 ·rintro ⟨h1,h2,h3⟩;exact⟨h2,h1,h3⟩
 ·rintro ⟨h1,h2,h3⟩;exact⟨h2,h1,h3⟩
theorem tz_spec {x:M64} (h:x≠0#64):tz x<64∧bit x (tz x)=true∧∀j,j<tz x->bit x j=false:=by
 have hex:∃k,(List.range 64).find? (fun i=>bit x i)=some k:=by
  cases hf:(List.range 64).find? (fun i=>bit x i) with
  | some k=>exact⟨k,rfl⟩
  | none=>
   exfalso
   rw[List.find?_eq_none] at hf
   refine h (m_zero.2 fun i hi=>?_)
   have:=hf i (List.mem_range.2 hi)
   simpa using this
 obtain⟨k,hk⟩:=hex
 have e:tz x=k:=by unfold tz;rw[hk];rfl
 rw[e]
 exact find_range.1 hk
theorem split_low {x:M64} (h:x≠0#64):∃q,x.toNat=2 ^ (tz x+1)*q+2 ^ tz x:=by
 obtain⟨h1,h2,h3⟩:=tz_spec h
 generalize hk:tz x=k at *
 refine⟨x.toNat/2 ^ (k+1),?_⟩
 have hmod:x.toNat%2 ^ (k+1)=2 ^ k:=by
  apply Nat.eq_of_testBit_eq
  intro j
  rw[Nat.testBit_mod_two_pow,Nat.testBit_two_pow]
  by_cases hj:j<k+1
  ·simp only[hj,decide_true,Bool.true_and]
   by_cases hjk:k=j
   ·subst hjk;simp only[decide_true];exact h2
   ·have:j<k:=by omega
    simp only[hjk,decide_false]
    exact h3 j this
  ·have:¬k=j:=by omega
   simp [hj,this]
 have:=Nat.div_add_mod x.toNat (2 ^ (k+1))
 omega
theorem bit_sub1 {x:M64} (h:x≠0#64) {i:Nat} (hi:i<64):bit (x-1#64) i=if i<tz x then true else if i=tz x then false else bit x i:=by
 obtain⟨q,hq⟩:=split_low h
 obtain⟨h1,h2,h3⟩:=tz_spec h
 generalize hk:tz x=k at *
 have hpos:0<2 ^ k:=Nat.two_pow_pos k
 have e:(x-1#64).toNat=2 ^ (k+1)*q+(2 ^ k-1):=by
  rw[BitVec.toNat_sub]
  have hx:=toNat_lt x
  show (2 ^ 64-1+x.toNat)%2 ^ 64=_
  omega
 have hlt:2 ^ k-1<2 ^ (k+1):=by rw[Nat.pow_succ];omega
 have hlt2:2 ^ k<2 ^ (k+1):=by rw[Nat.pow_succ];omega
 show (x-1#64).toNat.testBit i=if i<k then true else if i=k then false else x.toNat.testBit i
 rw[e,hq,Nat.testBit_two_pow_mul_add _ hlt,Nat.testBit_two_pow_mul_add _ hlt2,Nat.testBit_two_pow_sub_one,Nat.testBit_two_pow]
 by_cases c1:i<k
 ·simp [c1,show i<k+1 by omega]
 ·by_cases c2:i=k
  ·subst c2;simp
  ·simp [c1,c2,show ¬i<k+1 by omega]
theorem bit_rest {x:M64} (h:x≠0#64) {i:Nat} (hi:i<64):bit (x&&& (x-1#64)) i=(bit x i&&!decide (i=tz x)):=by
 rw[bit_and,bit_sub1 h hi]
 obtain⟨h1,h2,h3⟩:=tz_spec h
 by_cases c1:i<tz x
 ·rw[h3 i c1];rfl
 ·by_cases c2:i=tz x
  ·simp [c2]
  ·simp [c1,c2]
theorem low_one {x:M64} (h:x≠0#64):x&&& (-x)=one (tz x):=by
 obtain⟨h1,h2,h3⟩:=tz_spec h
 have e:-x = ~~~(x-1#64):=by
  have:=BitVec.neg_eq_not_add x
  apply BitVec.eq_of_toNat_eq
  rw[BitVec.toNat_neg,BitVec.toNat_not,BitVec.toNat_sub]
  have hx:=toNat_lt x
  have h0:x.toNat≠0:=fun h0=>h (by apply BitVec.eq_of_toNat_eq;exact h0)
  show (2 ^ 64-x.toNat)%2 ^ 64=2 ^ 64-1-(2 ^ 64-1+x.toNat)%2 ^ 64
  omega
 rw[e]
 refine m_ext fun i hi=>?_
 rw[bit_andNot,bit_sub1 h hi,bit_one h1]
 by_cases c1:i<tz x
 ·rw[h3 i c1];simp;omega
 ·by_cases c2:i=tz x
  ·rw[c2,h2];simp
  ·simp [c1,c2]
theorem bits_step {x:M64} (h:x≠0#64):bits x=tz x::bits (x&&& (x-1#64)):=by
 obtain⟨h1,h2,h3⟩:=tz_spec h
 have e:List.range 64=List.range (tz x)++tz x::(List.range (63-tz x)).map (fun i=>tz x+1+i):=by
  have:List.range 64=List.range (tz x+(1+(63-tz x))):=by congr 1;omega
  rw[this,List.range_add,List.range_add]
  simp [List.range_succ,List.map_map]
  intro a _
  omega
 unfold bits
 have f:∀(p:Nat->Bool),(∀j,j<tz x->p j=false)->(List.range (tz x)).filter p=[]:=fun p hp=>List.filter_eq_nil_iff.2 fun j hj=>by rw[hp j (List.mem_range.1 hj)];simp
 rw[e,List.filter_append,List.filter_append,f _ h3,f (fun i=>bit (x&&& (x-1#64)) i) (fun j hj=>by rw[bit_rest h (by omega),h3 j hj];rfl),List.nil_append,List.nil_append,List.filter_cons_of_pos h2,List.filter_cons_of_neg (by rw[bit_rest h h1];simp)]
 congr 1
 refine List.filter_congr fun j hj=>?_
 obtain⟨k,hk,rfl⟩:=List.mem_map.1 hj
 have:=List.mem_range.1 hk
 rw[bit_rest h (by omega)]
 simp;omega
theorem bits_zero:bits 0#64=[]:=List.filter_eq_nil_iff.2 fun j _=>by simp [bit]
theorem bits_lt {x:M64} {i:Nat} (h:i∈bits x):i<64:=List.mem_range.1 (List.mem_filter.1 h).1
theorem bits_nodup (x:M64):(bits x).Nodup:=List.nodup_range.filter _
def inM (i:Int):Bool:=decide (0≤i)&&decide (i<64)
theorem mright_spec (i:Int):Pure PG 145 [vi i] (vb (inM i)) []:=by
 refine Proc.mk (cfg 9) tysOK [] Tryz.func145 rfl (by kernel_rfl) rfl rfl rfl ?_
 intro C x
 refine x.exit rfl tR ?_
 exact⟨.inr rfl,rfl,tR,rfl⟩
def hasM (m:M64) (i:Int):Bool:=inM i&&bit m i.toNat
theorem hasM_nat (m:M64) (i:Nat):hasM m (i:Int)=bit m i:=by
 unfold hasM inM
 by_cases h:i<64
 ·simp;omega
 ·rw[show ((i:Int)).toNat=i by omega,bit_ge m (by omega)];simp
theorem has_spec (m:M64) (i:Int):Pure PG 87 [vm m,vi i] (vb (hasM m i)) []:=by
 refine Proc.mk (cfg 14) tysOK [] Tryz.func87 rfl (by kernel_rfl) rfl rfl rfl ?_
 intro C x
 refine x.pure rfl tR rfl (mright_spec i) ⟨rfl,tR⟩ ?_
 refine x.exit rfl (by simp only[AllP,imps,imp];intro h;simp [inM] at h;exact h.1) ?_
 refine⟨.inr rfl,?_,tR,rfl⟩
 show VEq0 (.d (.bool _)) (vb (hasM m i))
 refine veq0_d (congrArg D.bool ?_)
 unfold hasM
 cases hi:inM i with
 | false=>rfl
 | true=>
  simp only[inM,Bool.and_eq_true,decide_eq_true_eq] at hi
  obtain⟨n,rfl⟩:=Int.eq_ofNat_of_zero_le hi.1
  have e:=shr_m m (i:=n) (by omega)
  have e2:=and_m (m >>> n) 1#64
  show decide (bitI .and .u64 (((m.toNat:Int)).fdiv (2 ^ (min ((n:Int)).toNat IntKind.u64.bits))) 1=1)=_
  rw[e,show (1:Int)=((1#64:M64).toNat:Int) from rfl,e2]
  exact has_shift m
def withM (m:M64) (i:Int):M64:=if inM i then m||| one i.toNat else m
theorem with_spec (m:M64) (i:Int):Pure PG 86 [vm m,vi i] (vm (withM m i)) []:=by
 refine Proc.mk (cfg 12) tysOK [] Tryz.func86 rfl (by kernel_rfl) rfl rfl rfl ?_
 intro C x
 refine x.pure rfl tR rfl (mright_spec i) ⟨rfl,tR⟩ ?_
 refine x.cond rfl tR (fun h=>?_) (fun h=>?_)
 ·have hi:=h
  simp only[inM,Bool.and_eq_true,decide_eq_true_eq] at hi
  obtain⟨n,rfl⟩:=Int.eq_ofNat_of_zero_le hi.1
  refine x.exit rfl (by simp only[AllP];omega) ?_
  refine⟨.inr rfl,?_,tR,rfl⟩
  refine veq0_d (congrArg (D.int .u64) ?_)
  rw[shl_m (i:=n) (by omega),or_m]
  unfold withM
  rw[if_pos h];rfl
 ·refine x.exit rfl tR ?_
  refine⟨.inr rfl,?_,tR,rfl⟩
  unfold withM
  rw[if_neg (by rw[h];simp)]
  exact (show VEq0 (vm m) (vm m) from veq0_d rfl)
def withoutM (m:M64) (i:Int):M64:=if inM i then m&&& ~~~ one i.toNat else m
theorem bit_withM (m:M64) (i:Int) (j:Nat):bit (withM m i) j=(bit m j||decide (j<64∧(j:Int)=i)):=by
 unfold withM
 split
 ·rename_i h
  simp only[inM,Bool.and_eq_true,decide_eq_true_eq] at h
  rw[bit_or,bit_one (by omega)]
  congr 1
  simp only[decide_eq_decide]
  omega
 ·rename_i h
  simp only[inM,Bool.and_eq_true,decide_eq_true_eq] at h
  have:¬(j<64∧(j:Int)=i):=by omega
  simp [this]
theorem bit_withoutM (m:M64) (i:Int) (j:Nat):bit (withoutM m i) j=(bit m j&&!decide ((j:Int)=i)):=by
 unfold withoutM
 split
 ·rename_i h
  simp only[inM,Bool.and_eq_true,decide_eq_true_eq] at h
  rw[bit_andNot,bit_one (by omega)]
  congr 2
  simp only[decide_eq_decide]
  omega
 ·rename_i h
  simp only[inM,Bool.and_eq_true,decide_eq_true_eq] at h
  by_cases hj:j<64
  ·have:¬((j:Int)=i):=by omega
   simp [this]
  ·rw[bit_ge m (by omega)];rfl
def belowN:Nat->M64
 | 0=>0#64
 | n+1=>belowN n||| one n
def clampN (n:Int):Int:=if 64<(if 0 > n then 0 else n) then 64 else if 0 > n then 0 else n
theorem clampN_eq (n:Int):clampN n=min (max n 0) 64:=by unfold clampN;split<;>split<;>omega
def belowM (n:Int):M64:=belowN (clampN n).toNat
theorem bit_belowN:∀{n:Nat},n≤64->∀j,bit (belowN n) j=decide (j<n)
 | 0,_,j=>by simp [belowN,bit]
 | n+1,h,j=>by
  rw[belowN,bit_or,bit_belowN (by omega),bit_one (by omega)]
  by_cases h1:j<n
  ·simp [h1];omega
  ·by_cases h2:j=n
   ·simp [h2]
   ·simp [h1,h2];omega
theorem bit_belowM (n:Int) (j:Nat):bit (belowM n) j=decide (j<64∧(j:Int)<n):=by
 unfold belowM
 have:=clampN_eq n
 rw[bit_belowN (by omega)]
 simp only[decide_eq_decide]
 omega
theorem below_spec (n:Int) (hn:inI64 n):Pure PG 162 [vi n] (vm (belowM n)) []:=by
 refine Proc.mk (cfg 17) tysOK [] Tryz.func162 rfl (by kernel_rfl) rfl rfl rfl ?_
 intro C x
 unfold inI64 at hn
 have hcl:=clampN_eq n
 refine x.loop (α:={k:Nat // (k:Int)≤clampN n}) (fun y=>⟨[(3,vm (belowN y.1)),(7,vi (clampN n)),(8,vi (y.1:Int))],[],0⟩) (fun y=>64-y.1) ⟨0,by omega⟩ rfl tR ?_ (fun y=>?_)
 ·exact⟨⟨rfl,rfl,rfl,tR⟩,tR,rfl⟩
 obtain⟨k,hk⟩:=y
 refine x.cond rfl tR (fun h=>?_) (fun h=>?_)
 ·have h:(k:Int)<clampN n:=by simpa using h
  refine x.back rfl (by simp only[AllP,inI64];omega) ⟨⟨k+1,by omega⟩,by show 64-(k+1)<64-k;omega,?_⟩
  refine⟨⟨veq0_d (congrArg (D.int .u64) ?_),rfl,by show VEq0 (vi ((k:Int)+1)) (vi ((k+1:Nat):Int));rw[Int.natCast_add];rfl,tR⟩,tR,rfl⟩
  rw[shl_m (i:=k) (by omega),or_m];rfl
 ·have h:¬(k:Int)<clampN n:=by simpa using h
  refine x.exit rfl tR ?_
  refine⟨.inr rfl,veq0_d (congrArg (D.int .u64) ?_),tR,rfl⟩
  unfold belowM
  rw[show (clampN n).toNat=k by omega]
theorem tzTab_ok:∀k:Fin 64,tzTab.getD (((one k.1*285870213051353865#64) >>> 58).toNat) 0=(k.1:Int):=by decide
theorem tzTab_at:GlobAt PG.env 4 64 (fun c=>.int .u8 (tzTab.getD c 0)):=by
 refine⟨fun c=>.int .u8 (tzTab.getD c 0),?_,fun j hj=>rfl⟩
 show _∈PG.env
 unfold PG
 simp
theorem trailing_spec (m:M64):Pure PG 188 [vm m] (vi (tz m:Int)) []:=by
 refine Proc.mk (cfg 14) tysOK [] Tryz.func188 rfl (by kernel_rfl) rfl rfl rfl ?_
 intro C x
 refine x.cond rfl tR (fun h=>?_) (fun h=>?_)
 ·have h:(m.toNat:Int)=0:=by simpa using h
  refine x.exit rfl tR ?_
  refine⟨.inr rfl,?_,tR,rfl⟩
  rw[toNat_zero_iff.1 h]
  exact (show VEq0 (vi 64) (vi ((tz 0#64:Nat):Int)) from rfl)
 ·have h:¬(m.toNat:Int)=0:=by simpa using h
  have h0:m≠0#64:=fun e=>h (toNat_zero_iff.2 e)
  obtain⟨t1,t2,t3⟩:=tz_spec h0
  have e:(IntKind.u64.wrap (bitI .and .u64 (m.toNat:Int) (IntKind.u64.wrap (0-(m.toNat:Int)))*285870213051353865)).fdiv (2 ^ (min (58:Int).toNat IntKind.u64.bits))=(((one (tz m)*285870213051353865#64) >>> 58).toNat:Int):=by
   rw[neg_m,and_m,low_one h0,show (285870213051353865:Int)=((285870213051353865#64:M64).toNat:Int) from rfl,mul_m]
   exact shr_m _ (i:=58) (by omega)
  have hb:(((one (tz m)*285870213051353865#64) >>> 58).toNat)<64:=by
   rw[BitVec.toNat_ushiftRight,Nat.shiftRight_eq_div_pow]
   have:=toNat_lt (one (tz m)*285870213051353865#64)
   omega
  refine x.glob (fun c=>.int .u8 (tzTab.getD c 0)) rfl (by simp only[AllP];omega) rfl tzTab_at ?_ ?_
  ·rw[e];omega
  have hk:=tzTab_ok ⟨tz m,t1⟩
  refine x.exit rfl ?_ ?_
  ·show inI64 _
   rw[e,Int.toNat_natCast,hk]
   show inI64 (tz m:Int)
   unfold inI64;omega
  refine⟨.inr rfl,?_,tR,rfl⟩
  refine veq0_d (congrArg (D.int .i64) ?_)
  rw[e,Int.toNat_natCast,hk]
theorem all_spec (m:M64):Pure PG 163 [vm m] (.fn 187 [.ptr 0 0]) [.box [vm m]]:=by
 refine Proc.mk (cfg 4) tysOK [0] Tryz.func163 rfl (by kernel_rfl) rfl rfl rfl ?_
 intro C x
 refine x.exit rfl tR ?_
 exact⟨.inr rfl,rfl,⟨⟨rfl,tR⟩,tR⟩,rfl⟩
theorem and_sub1 {y:M64} (hy0:y≠0#64):Go.bits BinOp.and IntKind.u64 (y.toNat:Int) ((y.toNat:Int)-1)=((y&&& (y-1#64)).toNat:Int):=by
 rw[←and_m,←sub1_m,wrap_u64]
 have:=toNat_lt y
 have:y.toNat≠0:=fun e=>hy0 (by apply BitVec.eq_of_toNat_eq;exact e)
 rw[Int.emod_eq_of_lt (by omega) (by omega)]
 rfl
theorem all_rounds (m:M64) (l:Nat) (J Jx:Nat->World->Prop) (W:World) (b:Nat) (hJm:∀k W W',J k W->Mod none W W'->J k W') (hE:∀k W,J k W->∃F',EnvOK PG.env F' W∧(∀k,F' k->k<W.heap.size)) (h0:J 0 W)
  (hb:W.cell? ⟨b,0,none⟩=some (.int .u64 (m.toNat:Int)))
  (hY:∀(k:Nat) (i:Nat) W1,(bits m)[k]?=some i->J k W1->YieldAt Fence.wide 7 Tryz.prog l #[.int .i64 (i:Int)] W1 fun e W'=>(e=.returned (.bool true)∧J (k+1) W')∨(e=.returned (.bool false)∧Jx k W')) :
  CallsIn Fence.wide 8 Tryz.prog 187 #[.func (.yield l) #[] #[], .pointer (some ⟨b,0,none⟩)] W fun e W'=>(∃v,e=.returned v)∧(J (bits m).length W'∨∃k,k<(bits m).length∧Jx k W'):=by
 refine callsIn_of_wp Tryz.func187 rfl tR ?_ rfl
 simp only[Tryz.ntmps187,List.size_toArray,List.length_cons,List.length_nil,Nat.reduceAdd,Nat.reduceSub,Array.replicate_succ,Array.replicate_zero,List.push_toArray,List.append_toArray,List.nil_append,List.cons_append]
 gi_wp2
 gi_loopw [3] (fun p wr=>∃(k:Nat) (y:M64),p=.int .u64 (y.toNat:Int)∧k≤(bits m).length∧bits y=(bits m).drop k∧J k wr) (fun p wr=>match p with | .int _ n=>n.toNat | _=>0)
 case atStart=>exact⟨0,m,rfl,Nat.zero_le _,rfl,h0⟩
 case round=>
  obtain⟨k,y,rfl,hkl,hk,hJ⟩:=hrel
  by_cases hy0:y=0#64
  ·subst hy0
   have hkl2:k=(bits m).length:=by
    rw[bits_zero] at hk
    have:=congrArg List.length hk
    simp at this
    omega
   gi_wp2
   go_end0
   exact⟨⟨_,rfl⟩, .inl (hkl2▸hJ)⟩
  ·have hne:¬((y.toNat:Int)=0):=fun e=>hy0 (toNat_zero_iff.1 e)
   have hst:=bits_step hy0
   have hget:(bits m)[k]?=some (tz y):=by
    have:((bits m).drop k)[0]?=some (tz y):=by rw[←hk,hst];rfl
    simpa using this
   have hkl3:k<(bits m).length:=(List.getElem?_eq_some_iff.1 hget).1
   obtain⟨F',hE',hF'⟩:=hE k wr hJ
   have hTZ:Calls Tryz.prog 188 #[.int .u64 (y.toNat:Int)] wr fun e w'=>e=.returned (.int .i64 (tz y:Int))∧Sx.Mod none wr w':=by
    refine ((trailing_spec y).2.2.2.2.2 wr F' (fun _=>.bool true) [.int .u64 (y.toNat:Int)] hF' hE' ⟨fun i c hc=>by simp at hc,fun i j b hi=>absurd hi (Nat.not_lt_zero _),fun i b hi=>absurd hi (Nat.not_lt_zero _)⟩ ⟨RD.int _ _,tR⟩).mono ?_
    rintro e w' ⟨v,ρ',F'',rfl,hk,_,_,_,_,hr,_⟩
    refine⟨?_,⟨hk.os,hk.tape,hk.output,hk.size,fun k hlt _=>hk.block k hlt (fun ⟨i,hi,_⟩=>absurd hi (Nat.not_lt_zero _))⟩⟩
    cases (show RD F'' w' (.int .i64 (tz y:Int)) v from hr);rfl
   gi_wp2_with (refine⟨tR,?_⟩;gi_at_call 188;refine (callsIn_wide.2 hTZ).mono ?_;rintro e w1 ⟨rfl,hm⟩)
   obtain⟨fn,tmps,assign,body,hy,hR⟩:=hY k (tz y) w1 hget (hJm k _ _ hJ hm)
   gi_wp2
   rw[hy,Oper.uponIn_round]
   refine⟨fun h=>(by cases h),hR.mono ?_⟩
   rintro e W3 (⟨rfl,hJ3⟩ | ⟨rfl,hJx3⟩)
   ·gi_wp2
    go_roundw
    case rel=>
     refine⟨k+1,y&&& (y-1#64),?_,hkl3,?_,hJ3⟩
     ·rw[and_sub1 hy0]
     ·rw[←List.drop_drop,←hk,hst];rfl
    case measure=>
     rw[and_sub1 hy0]
     show ((y&&& (y-1#64)).toNat:Int).toNat<(y.toNat:Int).toNat
     have h1:(y&&& (y-1#64)).toNat≤(y-1#64).toNat:=by rw[BitVec.toNat_and];exact Nat.and_le_right
     have h2:(y-1#64).toNat<y.toNat:=by
      rw[BitVec.toNat_sub]
      have:=toNat_lt y
      have:y.toNat≠0:=fun e=>hy0 (by apply BitVec.eq_of_toNat_eq;exact e)
      show (2 ^ 64-1+y.toNat)%2 ^ 64<y.toNat
      omega
     omega
   ·gi_wp2
    refine bodyPost_ret (results_none rfl _ _ _) rfl ?_
    exact⟨⟨_,rfl⟩, .inr ⟨k,hkl3,hJx3⟩⟩
theorem all_seq (m:M64):Its PG 187 [.ptr 0 0] [.box [vm m]] ((bits m).map fun (i:Nat)=>[vi (i:Int)]):=by
 refine⟨callable_of Tryz.func187 (by kernel_rfl) (by kernel_rfl),rfl,fun x hx=>?_,fun w F ρ cs hF hE hH hargs l J Jx hJm hJe h0 hY=>?_⟩
 ·obtain⟨i,_,rfl⟩:=List.mem_map.1 hx
  rfl
 obtain⟨b,cs',T,e1,e2,e3⟩:=hH.ch 0 _ rfl
 match cs,hargs with
 | [v],⟨⟨b',f1,f2⟩,_⟩=>
  rw[e1] at f1
  simp only[Value.pointer.injEq,Option.some.injEq,Addr.mk.injEq,and_true] at f1
  subst f1 f2
  match cs',e3 with
  | [c],⟨hc,_⟩=>
   have hc2:c=.int .u64 (m.toNat:Int):=by cases (show RD F w (dm m) c from hc);rfl
   subst hc2
   have hb:w.cell? ⟨b,0,none⟩=some (.int .u64 (m.toNat:Int)):=by simp [World.cell?,e2]
   have:=all_rounds m l J Jx w b hJm (fun k W hJ=>(hJe k W hJ).1) h0 hb (fun k i W1 hk hJ=>hY k [vi (i:Int)] W1 [.int .i64 (i:Int)] (by rw[List.getElem?_map,hk];rfl) hJ ⟨RD.int _ _,tR⟩)
   rw[List.length_map]
   exact this
  | [],h=>exact h.elim
  | _::_::_,⟨_,h⟩=>exact h.elim
 | [],h=>exact h.elim
 | _::_::_,⟨_,h⟩=>exact h.elim
def countM (m:M64):Int:=((bits m).length:Int)
def upA (up:List M64) (i:Nat):M64:=up.getD i 0#64
def dUp (up:List M64):D:=.sl 1 up.length (fun i=>[dm (upA up i)])
abbrev vU (up:List M64):V:=.d (dUp up)
def InU (n:Nat) (m:M64):Prop:=∀i,bit m i=true->i<n
def ofPn (p:Nat->Bool):Nat->M64
 | 0=>0#64
 | n+1=>ofPn p n||| (if p n then one n else 0#64)
def ofP (p:Nat->Bool):M64:=ofPn p 64
theorem bit_ofPn (p:Nat->Bool):∀{n:Nat},n≤64->∀i,bit (ofPn p n) i=(decide (i<n)&&p i)
 | 0,_,i=>by simp [ofPn,bit]
 | n+1,h,i=>by
  have hb:bit (if p n then one n else 0#64) i=(decide (i=n)&&p n):=by
   cases hp:p n with
   | true=>rw[if_pos rfl,bit_one (by omega)];simp
   | false=>simp [bit]
  rw[ofPn,bit_or,bit_ofPn p (by omega),hb]
  by_cases h1:i<n
  ·have h2:¬i=n:=by omega
   have h3:i<n+1:=by omega
   simp [h1,h2,h3]
  ·by_cases h2:i=n
   ·subst h2;simp
   ·have h3:¬i<n+1:=by omega
    simp [h1,h2,h3]
theorem bit_ofP (p:Nat->Bool) {i:Nat} (hi:i<64):bit (ofP p) i=p i:=by
 unfold ofP
 rw[bit_ofPn p (Nat.le_refl _)]
 simp [hi]
theorem ofP_congr {p q:Nat->Bool} (h:∀i,i<64->p i=q i):ofP p=ofP q:=m_ext fun i hi=>by rw[bit_ofP p hi,bit_ofP q hi,h i hi]
def leastF (up:List M64) (set:M64):List Nat->Int
 | []=>-1
 | k::r=>if set&&& ~~~ upA up k=0#64 then (k:Int) else leastF up set r
def leastM (up:List M64) (set:M64):Int:=leastF up set (bits set)
def orderRow (up:List M64) (i:Nat):Bool:=
 bit (upA up i) i&&decide (upA up i&&& ~~~ ofP (fun j=>decide (j<up.length))=0#64)&&(bits (upA up i)).all fun k=>decide (upA up k&&& ~~~ upA up i=0#64)&&!(decide (k≠i)&&bit (upA up k) i)
def orderM (up:List M64):Bool:=decide (1≤up.length)&&decide (up.length≤64)&&(List.range up.length).all (orderRow up)
def eachM (up:List M64):Bool:=(List.range up.length).all fun a=>(List.range a).all fun b=>decide (0≤leastM up (upA up a&&& upA up b))
def turnedM (up:List M64):List M64:=(List.range up.length).map fun k=>ofP fun i=>decide (i<up.length)&&bit (upA up i) k
def rightM (up:List M64):Bool:=orderM up&&(eachM up&&eachM (turnedM up))
theorem turned_len (up:List M64):(turnedM up).length=up.length:=by simp [turnedM]
theorem upA_turned (up:List M64) {k:Nat} (hk:k<up.length):upA (turnedM up) k=ofP fun i=>decide (i<up.length)&&bit (upA up i) k:=by
 unfold upA turnedM
 rw[List.getD_eq_getElem?_getD,List.getElem?_map,List.getElem?_range hk];rfl
theorem zero_iff_sub {x y:M64}:x&&& ~~~ y=0#64↔∀i,bit x i=true->bit y i=true:=by
 rw[m_zero]
 constructor
 ·intro h i hi
  by_cases h64:i<64
  ·have:=h i h64
   rw[bit_andNot,hi] at this
   simpa using this
  ·rw[bit_ge x (by omega)] at hi;cases hi
 ·intro h i hi
  rw[bit_andNot]
  cases hx:bit x i with
  | false=>rfl
  | true=>rw[h i hx];rfl
theorem inU_order {up:List M64} (h:orderM up=true) {i:Nat} (hi:i<up.length):InU up.length (upA up i):=by
 unfold orderM at h
 simp only[Bool.and_eq_true,decide_eq_true_eq,List.all_eq_true] at h
 have:=h.2 i (List.mem_range.2 hi)
 unfold orderRow at this
 simp only[Bool.and_eq_true,decide_eq_true_eq] at this
 intro j hj
 have h2:=zero_iff_sub.1 this.1.2 j hj
 have hj64:j<64:=by
  by_cases h64:j<64
  ·exact h64
  ·rw[bit_ge _ (by omega)] at hj;cases hj
 rw[bit_ofP _ hj64] at h2
 simpa using h2
theorem order_len {up:List M64} (h:orderM up=true):1≤up.length∧up.length≤64:=by
 unfold orderM at h
 simp only[Bool.and_eq_true,decide_eq_true_eq] at h
 exact h.1
theorem inU_turned {up:List M64} {k:Nat} (hk:k<up.length):InU (turnedM up).length (upA (turnedM up) k):=by
 intro i hi
 rw[turned_len,upA_turned up hk] at *
 have h64:i<64:=by
  by_cases h64:i<64
  ·exact h64
  ·rw[bit_ge _ (by omega)] at hi;cases hi
 rw[bit_ofP _ h64] at hi
 simp only[Bool.and_eq_true,decide_eq_true_eq] at hi
 exact hi.1
theorem inU_and {n:Nat} {x y:M64} (h:InU n x):InU n (x&&& y):=fun i hi=>h i (by rw[bit_and] at hi;simp at hi;exact hi.1)
end Go.Proofs.YtojhdmfkfkfcbaaGreatDoor
