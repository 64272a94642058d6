import Derived.Test.YtojhdmfkfkfcbaaGreatDoorMB
import Derived.Test.YtojhdmfkfkfcbaaGreatDoorSxG
import Derived.Test.YtojhdmfkfkfcbaaGreatDoorMA
import Derived.Test.YtojhdmfkfkfcbaaGreatDoorSxH
import Derived.RangeFuncNested
import Derived.OwnWalkIn
import Derived.TacticsInMore
import Derived.LoopNIn
import Derived.LoopIn
namespace Go.Proofs.YtojhdmfkfkfcbaaGreatDoor
open Go.Sx
set_option linter.unusedVariables false
set_option linter.unusedSimpArgs false
set_option maxRecDepth 100000
def aN (at_:Int):Ins:=⟨0,0, .empty, .empty, .empty,[],[],0,at_⟩
abbrev xV (x:Ins):V:=.agg [.d (.int .u8 x.kind), .d (.int .u8 x.op),vs x.dst,vs x.ref,vs x.alt, .own 1, .own 2,vi x.num,vi x.at_]
def aad (s:ByteArray) (l:List Tok) (c:Nat):Except (Int×Int) (Nat×Ins)->Out
 | .ok (n,x)=>.ret (xV x) [pC s l n (c+1),gQ x.args,gQ x.frm]
 | .error (a,e)=>wS a e
def qw (s:ByteArray) (l:List Tok) (w:List UInt8):Option (Nat->Ins->Except (Int×Int) (Nat×Ins)):=
 if w=[115,116,111,114,101] then some (uX s l) else
 if w=[111,117,116,112,117,116] then some (xE s l) else
 if w=[106,117,109,112] then some (zA s l) else
 if w=[98,114,97,110,99,104] then some (uY s l) else
 if w=[114,101,116,117,114,110] then some (Cu s l) else
 none
def bN (s:ByteArray) (l:List Tok) (n c:Nat):Except (Int×Int) (Nat×Ins):=
 if (isV l n 1=false∧(qw s l (txV s l n).data.toList).isNone=true) then .error (atV s l n,7)
 else if isV l n 1=true∧¬(txV s l (n+1)).data.toList=[61] then .error (atV s l (n+1),7)
 else if 4096≤c then .error (atV s l n,3)
 else match qw s l (txV s l n).data.toList with
  | some f=>f (n+1) (aN (atV s l n))
  | none=>bnd (nmV s l n) fun n1 d=>bnd (dO s l n1 61) fun n2 _=>dM s l n2 {aN (atV s l n) with dst:=d}
section
variable (s:ByteArray) (l:List Tok) (n c:Nat) (hl:oW s l) (hn:n≤l.length) (hc:c≤1000000)
set_option maxHeartbeats 2000000 in
include hl hn hc in
theorem Ls:aW PG 152 1 [.ptr 0 0] [pC s l n c] (aad s l c (bN s l n c)):=by
 have hll:=hl.2.1
 have ei:aG (vi ((n:Int)+1)) (vi ((n+1:Nat):Int)):=by rw[ads];rfl
 have ej:aG (vi ((c:Int)+1)) (vi ((c+1:Nat):Int)):=by rw[ads];rfl
 refine aW.mk (dG 71 1) av [0,3,4] Tryz.func152 rfl (by kernel_rfl) rfl rfl (by rcases bN s l n c with⟨a,e⟩ | ⟨n',o⟩<;>rfl) ?_
 intro C x
 refine x.call [0] rfl tR rfl (zx s l n c (by omega)) rfl ⟨⟨rfl,rfl⟩,tR⟩ ⟨⟨rfl,ah rfl,rfl,rfl,tR⟩,tR⟩ ?_
 refine x.op rfl tR ?_
 refine Go.ownB 2 5 9 1 (fun j=>[D.str (([]:List ByteArray).getD j .empty)]) rfl rfl ?_
 refine Go.ownB 2 6 9 1 (fun j=>[D.str (([]:List ByteArray).getD j .empty)]) rfl rfl ?_
 refine x.call [] rfl tR rfl Sr rfl tR tR ?_
 refine x.call [0] rfl tR rfl (dA s l n c hl (by omega) 0 (by omega)) rfl ⟨⟨rfl,rfl⟩,rfl,tR⟩ ⟨⟨rfl,ah rfl,rfl,rfl,tR⟩,tR⟩ ?_
 obtain⟨w,hw⟩:∃w,txV s l n=w:=⟨_,rfl⟩
 rw[show n+0=n from rfl,hw]
 have hroom:=nM s l n c (by omega) (c:Int) 4096
 have AX:=kJ s l (n+1) c (by omega) 7
 refine x.look rfl tR rfl ⟨fun e=>?_,fun g0=>?_⟩
 ·have lt:n<l.length:=jl (by rw[hw];exact e)
  have hact:qw s l w.data.toList=some (uX s l):=by rw[e];rfl
  refine x.call [0] rfl tR rfl (gI s l n c 1) rfl ⟨⟨rfl,rfl⟩,rfl,tR⟩ ⟨⟨rfl,ah rfl,rfl,rfl,tR⟩,tR⟩ ?_
  refine x.cond rfl tR (fun b=>?_) (fun b=>?_)
  ·have b:((!isV l n 1)&&false)=true:=b
   simp at b
  have n1:¬(isV l n 1=false∧(qw s l w.data.toList).isNone=true):=by rw[hact];simp
  refine x.call [0] rfl tR rfl (gI s l n c 1) rfl ⟨⟨rfl,rfl⟩,rfl,tR⟩ ⟨⟨rfl,ah rfl,rfl,rfl,tR⟩,tR⟩ ?_
  refine x.nS [0] rfl tR rfl (fun _=>dA s l n c hl (by omega) 1 (by omega)) rfl ⟨⟨rfl,rfl⟩,rfl,tR⟩ ⟨⟨rfl,ah rfl,rfl,rfl,tR⟩,tR⟩ ⟨⟨rfl,ah rfl,rfl,rfl,tR⟩,⟨rfl,rfl,rfl,rfl,rfl,rfl,rfl,rfl,rfl,rfl,tR⟩,⟨rfl,rfl,rfl,rfl,rfl,rfl,rfl,rfl,rfl,tR⟩,⟨rfl,rfl,rfl,fun _ _=>rfl⟩,⟨rfl,rfl,rfl,fun _ _=>rfl⟩,⟨rfl,rfl,rfl,rfl,rfl,tR,tR,rfl,rfl,tR⟩,tR⟩ ?_
  refine x.cond rfl tR (fun b2=>?_) (fun b2=>?_)
  ·have b2:(isV l n 1&&!decide ((txV s l (n+1)).data.toList=[61]))=true:=b2
   have b2:isV l n 1=true∧¬(txV s l (n+1)).data.toList=[61]:=by simpa using b2
   refine x.die [0] rfl (by simp only[aj,ak];omega) rfl AX ⟨⟨rfl,rfl⟩,rfl,tR⟩ rfl ⟨⟨rfl,ah rfl,ei,rfl,tR⟩,tR⟩ ?_
   rw[bN,hw,if_neg n1,if_pos b2]
   exact⟨rfl,rfl⟩
  have b2:(isV l n 1&&!decide ((txV s l (n+1)).data.toList=[61]))=false:=b2
  have n2:¬(isV l n 1=true∧¬(txV s l (n+1)).data.toList=[61]):=fun hh=>by rw[hh.1,decide_eq_false hh.2] at b2;cases b2
  by_cases h3:4096≤c
  ·rw[if_pos (by omega)] at hroom
   refine x.die [0] rfl tR rfl hroom ⟨⟨rfl,rfl⟩,rfl,rfl,tR⟩ rfl ⟨⟨rfl,ah rfl,rfl,rfl,tR⟩,tR⟩ ?_
   rw[bN,hw,if_neg n1,if_neg n2,if_pos h3]
   exact⟨rfl,rfl⟩
  rw[if_neg (by omega)] at hroom
  refine x.call [0] rfl tR rfl hroom rfl ⟨⟨rfl,rfl⟩,rfl,rfl,tR⟩ ⟨⟨rfl,ah rfl,rfl,rfl,tR⟩,tR⟩ ?_
  have hv:bN s l n c=uX s l (n+1) (aN (atV s l n)):=by rw[bN,hw,if_neg n1,if_neg n2,if_neg h3,hact]
  rw[hv]
  have h1:=Sc s l (n+1) (c+1) hl (by omega) (aN (atV s l n)) (Nat.zero_le _)
  obtain⟨V,hV⟩:∃V,uX s l (n+1) (aN (atV s l n))=V:=⟨_,rfl⟩
  rw[hV] at h1 ⊢
  refine x.cond rfl (by simp only[aj,ak];omega) (fun _=>?_) (fun b=>by cases b)
  rcases V with⟨a,b⟩ | ⟨n',y'⟩
  ·exact x.die [0,2,3,4] rfl (by simp only[aj,ak];omega) rfl h1 ⟨⟨rfl,rfl⟩,⟨rfl,rfl⟩,tR⟩ rfl ⟨⟨rfl,ah rfl,ei,ej,tR⟩,⟨rfl,rfl,rfl,rfl,rfl,rfl,rfl,rfl,rfl,tR⟩,⟨rfl,rfl,rfl,fun j hj=>absurd hj (adp _)⟩,⟨rfl,rfl,rfl,fun j hj=>absurd hj (adp _)⟩,tR⟩ ⟨rfl,rfl⟩
  ·refine x.call [0,2,3,4] rfl (by simp only[aj,ak];omega) rfl h1 rfl ⟨⟨rfl,rfl⟩,⟨rfl,rfl⟩,tR⟩ ⟨⟨rfl,ah rfl,ei,ej,tR⟩,⟨rfl,rfl,rfl,rfl,rfl,rfl,rfl,rfl,rfl,tR⟩,⟨rfl,rfl,rfl,fun j hj=>absurd hj (adp _)⟩,⟨rfl,rfl,rfl,fun j hj=>absurd hj (adp _)⟩,tR⟩ ?_
   refine x.exit rfl tR ?_
   exact⟨.inr rfl,⟨rfl,rfl,rfl,rfl,rfl,rfl,rfl,rfl,rfl,tR⟩,⟨⟨rfl,ah rfl,rfl,rfl,tR⟩,⟨rfl,rfl,rfl,fun _ _=>rfl⟩,⟨rfl,rfl,rfl,fun _ _=>rfl⟩,tR⟩,rfl⟩
 refine⟨fun e=>?_,fun g1=>?_⟩
 ·have lt:n<l.length:=jl (by rw[hw];exact e)
  have hact:qw s l w.data.toList=some (xE s l):=by rw[e];rfl
  refine x.call [0] rfl tR rfl (gI s l n c 1) rfl ⟨⟨rfl,rfl⟩,rfl,tR⟩ ⟨⟨rfl,ah rfl,rfl,rfl,tR⟩,tR⟩ ?_
  refine x.cond rfl tR (fun b=>?_) (fun b=>?_)
  ·have b:((!isV l n 1)&&false)=true:=b
   simp at b
  have n1:¬(isV l n 1=false∧(qw s l w.data.toList).isNone=true):=by rw[hact];simp
  refine x.call [0] rfl tR rfl (gI s l n c 1) rfl ⟨⟨rfl,rfl⟩,rfl,tR⟩ ⟨⟨rfl,ah rfl,rfl,rfl,tR⟩,tR⟩ ?_
  refine x.nS [0] rfl tR rfl (fun _=>dA s l n c hl (by omega) 1 (by omega)) rfl ⟨⟨rfl,rfl⟩,rfl,tR⟩ ⟨⟨rfl,ah rfl,rfl,rfl,tR⟩,tR⟩ ⟨⟨rfl,ah rfl,rfl,rfl,tR⟩,⟨rfl,rfl,rfl,rfl,rfl,rfl,rfl,rfl,rfl,rfl,tR⟩,⟨rfl,rfl,rfl,rfl,rfl,rfl,rfl,rfl,rfl,tR⟩,⟨rfl,rfl,rfl,fun _ _=>rfl⟩,⟨rfl,rfl,rfl,fun _ _=>rfl⟩,⟨rfl,rfl,rfl,rfl,rfl,tR,tR,rfl,rfl,tR⟩,tR⟩ ?_
  refine x.cond rfl tR (fun b2=>?_) (fun b2=>?_)
  ·have b2:(isV l n 1&&!decide ((txV s l (n+1)).data.toList=[61]))=true:=b2
   have b2:isV l n 1=true∧¬(txV s l (n+1)).data.toList=[61]:=by simpa using b2
   refine x.die [0] rfl (by simp only[aj,ak];omega) rfl AX ⟨⟨rfl,rfl⟩,rfl,tR⟩ rfl ⟨⟨rfl,ah rfl,ei,rfl,tR⟩,tR⟩ ?_
   rw[bN,hw,if_neg n1,if_pos b2]
   exact⟨rfl,rfl⟩
  have b2:(isV l n 1&&!decide ((txV s l (n+1)).data.toList=[61]))=false:=b2
  have n2:¬(isV l n 1=true∧¬(txV s l (n+1)).data.toList=[61]):=fun hh=>by rw[hh.1,decide_eq_false hh.2] at b2;cases b2
  by_cases h3:4096≤c
  ·rw[if_pos (by omega)] at hroom
   refine x.die [0] rfl tR rfl hroom ⟨⟨rfl,rfl⟩,rfl,rfl,tR⟩ rfl ⟨⟨rfl,ah rfl,rfl,rfl,tR⟩,tR⟩ ?_
   rw[bN,hw,if_neg n1,if_neg n2,if_pos h3]
   exact⟨rfl,rfl⟩
  rw[if_neg (by omega)] at hroom
  refine x.call [0] rfl tR rfl hroom rfl ⟨⟨rfl,rfl⟩,rfl,rfl,tR⟩ ⟨⟨rfl,ah rfl,rfl,rfl,tR⟩,tR⟩ ?_
  have hv:bN s l n c=xE s l (n+1) (aN (atV s l n)):=by rw[bN,hw,if_neg n1,if_neg n2,if_neg h3,hact]
  rw[hv]
  have h1:=Sd s l (n+1) (c+1) hl (by omega) (aN (atV s l n)) (Nat.zero_le _)
  obtain⟨V,hV⟩:∃V,xE s l (n+1) (aN (atV s l n))=V:=⟨_,rfl⟩
  rw[hV] at h1 ⊢
  refine x.cond rfl (by simp only[aj,ak];omega) (fun _=>?_) (fun b=>by cases b)
  rcases V with⟨a,b⟩ | ⟨n',y'⟩
  ·exact x.die [0,2,3,4] rfl (by simp only[aj,ak];omega) rfl h1 ⟨⟨rfl,rfl⟩,⟨rfl,rfl⟩,tR⟩ rfl ⟨⟨rfl,ah rfl,ei,ej,tR⟩,⟨rfl,rfl,rfl,rfl,rfl,rfl,rfl,rfl,rfl,tR⟩,⟨rfl,rfl,rfl,fun j hj=>absurd hj (adp _)⟩,⟨rfl,rfl,rfl,fun j hj=>absurd hj (adp _)⟩,tR⟩ ⟨rfl,rfl⟩
  ·refine x.call [0,2,3,4] rfl (by simp only[aj,ak];omega) rfl h1 rfl ⟨⟨rfl,rfl⟩,⟨rfl,rfl⟩,tR⟩ ⟨⟨rfl,ah rfl,ei,ej,tR⟩,⟨rfl,rfl,rfl,rfl,rfl,rfl,rfl,rfl,rfl,tR⟩,⟨rfl,rfl,rfl,fun j hj=>absurd hj (adp _)⟩,⟨rfl,rfl,rfl,fun j hj=>absurd hj (adp _)⟩,tR⟩ ?_
   refine x.exit rfl tR ?_
   exact⟨.inr rfl,⟨rfl,rfl,rfl,rfl,rfl,rfl,rfl,rfl,rfl,tR⟩,⟨⟨rfl,ah rfl,rfl,rfl,tR⟩,⟨rfl,rfl,rfl,fun _ _=>rfl⟩,⟨rfl,rfl,rfl,fun _ _=>rfl⟩,tR⟩,rfl⟩
 refine⟨fun e=>?_,fun g2=>?_⟩
 ·have lt:n<l.length:=jl (by rw[hw];exact e)
  have hact:qw s l w.data.toList=some (zA s l):=by rw[e];rfl
  refine x.call [0] rfl tR rfl (gI s l n c 1) rfl ⟨⟨rfl,rfl⟩,rfl,tR⟩ ⟨⟨rfl,ah rfl,rfl,rfl,tR⟩,tR⟩ ?_
  refine x.cond rfl tR (fun b=>?_) (fun b=>?_)
  ·have b:((!isV l n 1)&&false)=true:=b
   simp at b
  have n1:¬(isV l n 1=false∧(qw s l w.data.toList).isNone=true):=by rw[hact];simp
  refine x.call [0] rfl tR rfl (gI s l n c 1) rfl ⟨⟨rfl,rfl⟩,rfl,tR⟩ ⟨⟨rfl,ah rfl,rfl,rfl,tR⟩,tR⟩ ?_
  refine x.nS [0] rfl tR rfl (fun _=>dA s l n c hl (by omega) 1 (by omega)) rfl ⟨⟨rfl,rfl⟩,rfl,tR⟩ ⟨⟨rfl,ah rfl,rfl,rfl,tR⟩,tR⟩ ⟨⟨rfl,ah rfl,rfl,rfl,tR⟩,⟨rfl,rfl,rfl,rfl,rfl,rfl,rfl,rfl,rfl,rfl,tR⟩,⟨rfl,rfl,rfl,rfl,rfl,rfl,rfl,rfl,rfl,tR⟩,⟨rfl,rfl,rfl,fun _ _=>rfl⟩,⟨rfl,rfl,rfl,fun _ _=>rfl⟩,⟨rfl,rfl,rfl,rfl,rfl,tR,tR,rfl,rfl,tR⟩,tR⟩ ?_
  refine x.cond rfl tR (fun b2=>?_) (fun b2=>?_)
  ·have b2:(isV l n 1&&!decide ((txV s l (n+1)).data.toList=[61]))=true:=b2
   have b2:isV l n 1=true∧¬(txV s l (n+1)).data.toList=[61]:=by simpa using b2
   refine x.die [0] rfl (by simp only[aj,ak];omega) rfl AX ⟨⟨rfl,rfl⟩,rfl,tR⟩ rfl ⟨⟨rfl,ah rfl,ei,rfl,tR⟩,tR⟩ ?_
   rw[bN,hw,if_neg n1,if_pos b2]
   exact⟨rfl,rfl⟩
  have b2:(isV l n 1&&!decide ((txV s l (n+1)).data.toList=[61]))=false:=b2
  have n2:¬(isV l n 1=true∧¬(txV s l (n+1)).data.toList=[61]):=fun hh=>by rw[hh.1,decide_eq_false hh.2] at b2;cases b2
  by_cases h3:4096≤c
  ·rw[if_pos (by omega)] at hroom
   refine x.die [0] rfl tR rfl hroom ⟨⟨rfl,rfl⟩,rfl,rfl,tR⟩ rfl ⟨⟨rfl,ah rfl,rfl,rfl,tR⟩,tR⟩ ?_
   rw[bN,hw,if_neg n1,if_neg n2,if_pos h3]
   exact⟨rfl,rfl⟩
  rw[if_neg (by omega)] at hroom
  refine x.call [0] rfl tR rfl hroom rfl ⟨⟨rfl,rfl⟩,rfl,rfl,tR⟩ ⟨⟨rfl,ah rfl,rfl,rfl,tR⟩,tR⟩ ?_
  have hv:bN s l n c=zA s l (n+1) (aN (atV s l n)):=by rw[bN,hw,if_neg n1,if_neg n2,if_neg h3,hact]
  rw[hv]
  have h1:=Sg s l (n+1) (c+1) hl (by omega) (aN (atV s l n))
  obtain⟨V,hV⟩:∃V,zA s l (n+1) (aN (atV s l n))=V:=⟨_,rfl⟩
  rw[hV] at h1 ⊢
  refine x.cond rfl (by simp only[aj,ak];omega) (fun _=>?_) (fun b=>by cases b)
  rcases V with⟨a,b⟩ | ⟨n',y'⟩
  ·exact x.die [0,2,3,4] rfl (by simp only[aj,ak];omega) rfl h1 ⟨⟨rfl,rfl⟩,⟨rfl,rfl⟩,tR⟩ rfl ⟨⟨rfl,ah rfl,ei,ej,tR⟩,⟨rfl,rfl,rfl,rfl,rfl,rfl,rfl,rfl,rfl,tR⟩,⟨rfl,rfl,rfl,fun j hj=>absurd hj (adp _)⟩,⟨rfl,rfl,rfl,fun j hj=>absurd hj (adp _)⟩,tR⟩ ⟨rfl,rfl⟩
  ·refine x.call [0,2,3,4] rfl (by simp only[aj,ak];omega) rfl h1 rfl ⟨⟨rfl,rfl⟩,⟨rfl,rfl⟩,tR⟩ ⟨⟨rfl,ah rfl,ei,ej,tR⟩,⟨rfl,rfl,rfl,rfl,rfl,rfl,rfl,rfl,rfl,tR⟩,⟨rfl,rfl,rfl,fun j hj=>absurd hj (adp _)⟩,⟨rfl,rfl,rfl,fun j hj=>absurd hj (adp _)⟩,tR⟩ ?_
   refine x.exit rfl tR ?_
   exact⟨.inr rfl,⟨rfl,rfl,rfl,rfl,rfl,rfl,rfl,rfl,rfl,tR⟩,⟨⟨rfl,ah rfl,rfl,rfl,tR⟩,⟨rfl,rfl,rfl,fun _ _=>rfl⟩,⟨rfl,rfl,rfl,fun _ _=>rfl⟩,tR⟩,rfl⟩
 refine⟨fun e=>?_,fun g3=>?_⟩
 ·have lt:n<l.length:=jl (by rw[hw];exact e)
  have hact:qw s l w.data.toList=some (uY s l):=by rw[e];rfl
  refine x.call [0] rfl tR rfl (gI s l n c 1) rfl ⟨⟨rfl,rfl⟩,rfl,tR⟩ ⟨⟨rfl,ah rfl,rfl,rfl,tR⟩,tR⟩ ?_
  refine x.cond rfl tR (fun b=>?_) (fun b=>?_)
  ·have b:((!isV l n 1)&&false)=true:=b
   simp at b
  have n1:¬(isV l n 1=false∧(qw s l w.data.toList).isNone=true):=by rw[hact];simp
  refine x.call [0] rfl tR rfl (gI s l n c 1) rfl ⟨⟨rfl,rfl⟩,rfl,tR⟩ ⟨⟨rfl,ah rfl,rfl,rfl,tR⟩,tR⟩ ?_
  refine x.nS [0] rfl tR rfl (fun _=>dA s l n c hl (by omega) 1 (by omega)) rfl ⟨⟨rfl,rfl⟩,rfl,tR⟩ ⟨⟨rfl,ah rfl,rfl,rfl,tR⟩,tR⟩ ⟨⟨rfl,ah rfl,rfl,rfl,tR⟩,⟨rfl,rfl,rfl,rfl,rfl,rfl,rfl,rfl,rfl,rfl,tR⟩,⟨rfl,rfl,rfl,rfl,rfl,rfl,rfl,rfl,rfl,tR⟩,⟨rfl,rfl,rfl,fun _ _=>rfl⟩,⟨rfl,rfl,rfl,fun _ _=>rfl⟩,⟨rfl,rfl,rfl,rfl,rfl,tR,tR,rfl,rfl,tR⟩,tR⟩ ?_
  refine x.cond rfl tR (fun b2=>?_) (fun b2=>?_)
  ·have b2:(isV l n 1&&!decide ((txV s l (n+1)).data.toList=[61]))=true:=b2
   have b2:isV l n 1=true∧¬(txV s l (n+1)).data.toList=[61]:=by simpa using b2
   refine x.die [0] rfl (by simp only[aj,ak];omega) rfl AX ⟨⟨rfl,rfl⟩,rfl,tR⟩ rfl ⟨⟨rfl,ah rfl,ei,rfl,tR⟩,tR⟩ ?_
   rw[bN,hw,if_neg n1,if_pos b2]
   exact⟨rfl,rfl⟩
  have b2:(isV l n 1&&!decide ((txV s l (n+1)).data.toList=[61]))=false:=b2
  have n2:¬(isV l n 1=true∧¬(txV s l (n+1)).data.toList=[61]):=fun hh=>by rw[hh.1,decide_eq_false hh.2] at b2;cases b2
  by_cases h3:4096≤c
  ·rw[if_pos (by omega)] at hroom
   refine x.die [0] rfl tR rfl hroom ⟨⟨rfl,rfl⟩,rfl,rfl,tR⟩ rfl ⟨⟨rfl,ah rfl,rfl,rfl,tR⟩,tR⟩ ?_
   rw[bN,hw,if_neg n1,if_neg n2,if_pos h3]
   exact⟨rfl,rfl⟩
  rw[if_neg (by omega)] at hroom
  refine x.call [0] rfl tR rfl hroom rfl ⟨⟨rfl,rfl⟩,rfl,rfl,tR⟩ ⟨⟨rfl,ah rfl,rfl,rfl,tR⟩,tR⟩ ?_
  have hv:bN s l n c=uY s l (n+1) (aN (atV s l n)):=by rw[bN,hw,if_neg n1,if_neg n2,if_neg h3,hact]
  rw[hv]
  have h1:=Si s l (n+1) (c+1) hl (by omega) (aN (atV s l n)) (Nat.zero_le _)
  obtain⟨V,hV⟩:∃V,uY s l (n+1) (aN (atV s l n))=V:=⟨_,rfl⟩
  rw[hV] at h1 ⊢
  refine x.cond rfl (by simp only[aj,ak];omega) (fun _=>?_) (fun b=>by cases b)
  rcases V with⟨a,b⟩ | ⟨n',y'⟩
  ·exact x.die [0,2,3,4] rfl (by simp only[aj,ak];omega) rfl h1 ⟨⟨rfl,rfl⟩,⟨rfl,rfl⟩,tR⟩ rfl ⟨⟨rfl,ah rfl,ei,ej,tR⟩,⟨rfl,rfl,rfl,rfl,rfl,rfl,rfl,rfl,rfl,tR⟩,⟨rfl,rfl,rfl,fun j hj=>absurd hj (adp _)⟩,⟨rfl,rfl,rfl,fun j hj=>absurd hj (adp _)⟩,tR⟩ ⟨rfl,rfl⟩
  ·refine x.call [0,2,3,4] rfl (by simp only[aj,ak];omega) rfl h1 rfl ⟨⟨rfl,rfl⟩,⟨rfl,rfl⟩,tR⟩ ⟨⟨rfl,ah rfl,ei,ej,tR⟩,⟨rfl,rfl,rfl,rfl,rfl,rfl,rfl,rfl,rfl,tR⟩,⟨rfl,rfl,rfl,fun j hj=>absurd hj (adp _)⟩,⟨rfl,rfl,rfl,fun j hj=>absurd hj (adp _)⟩,tR⟩ ?_
   refine x.exit rfl tR ?_
   exact⟨.inr rfl,⟨rfl,rfl,rfl,rfl,rfl,rfl,rfl,rfl,rfl,tR⟩,⟨⟨rfl,ah rfl,rfl,rfl,tR⟩,⟨rfl,rfl,rfl,fun _ _=>rfl⟩,⟨rfl,rfl,rfl,fun _ _=>rfl⟩,tR⟩,rfl⟩
 refine⟨fun e=>?_,fun g4=>?_⟩
 ·have lt:n<l.length:=jl (by rw[hw];exact e)
  have hact:qw s l w.data.toList=some (Cu s l):=by rw[e];rfl
  refine x.call [0] rfl tR rfl (gI s l n c 1) rfl ⟨⟨rfl,rfl⟩,rfl,tR⟩ ⟨⟨rfl,ah rfl,rfl,rfl,tR⟩,tR⟩ ?_
  refine x.cond rfl tR (fun b=>?_) (fun b=>?_)
  ·have b:((!isV l n 1)&&false)=true:=b
   simp at b
  have n1:¬(isV l n 1=false∧(qw s l w.data.toList).isNone=true):=by rw[hact];simp
  refine x.call [0] rfl tR rfl (gI s l n c 1) rfl ⟨⟨rfl,rfl⟩,rfl,tR⟩ ⟨⟨rfl,ah rfl,rfl,rfl,tR⟩,tR⟩ ?_
  refine x.nS [0] rfl tR rfl (fun _=>dA s l n c hl (by omega) 1 (by omega)) rfl ⟨⟨rfl,rfl⟩,rfl,tR⟩ ⟨⟨rfl,ah rfl,rfl,rfl,tR⟩,tR⟩ ⟨⟨rfl,ah rfl,rfl,rfl,tR⟩,⟨rfl,rfl,rfl,rfl,rfl,rfl,rfl,rfl,rfl,rfl,tR⟩,⟨rfl,rfl,rfl,rfl,rfl,rfl,rfl,rfl,rfl,tR⟩,⟨rfl,rfl,rfl,fun _ _=>rfl⟩,⟨rfl,rfl,rfl,fun _ _=>rfl⟩,⟨rfl,rfl,rfl,rfl,rfl,tR,tR,rfl,rfl,tR⟩,tR⟩ ?_
  refine x.cond rfl tR (fun b2=>?_) (fun b2=>?_)
  ·have b2:(isV l n 1&&!decide ((txV s l (n+1)).data.toList=[61]))=true:=b2
   have b2:isV l n 1=true∧¬(txV s l (n+1)).data.toList=[61]:=by simpa using b2
   refine x.die [0] rfl (by simp only[aj,ak];omega) rfl AX ⟨⟨rfl,rfl⟩,rfl,tR⟩ rfl ⟨⟨rfl,ah rfl,ei,rfl,tR⟩,tR⟩ ?_
   rw[bN,hw,if_neg n1,if_pos b2]
   exact⟨rfl,rfl⟩
  have b2:(isV l n 1&&!decide ((txV s l (n+1)).data.toList=[61]))=false:=b2
  have n2:¬(isV l n 1=true∧¬(txV s l (n+1)).data.toList=[61]):=fun hh=>by rw[hh.1,decide_eq_false hh.2] at b2;cases b2
  by_cases h3:4096≤c
  ·rw[if_pos (by omega)] at hroom
   refine x.die [0] rfl tR rfl hroom ⟨⟨rfl,rfl⟩,rfl,rfl,tR⟩ rfl ⟨⟨rfl,ah rfl,rfl,rfl,tR⟩,tR⟩ ?_
   rw[bN,hw,if_neg n1,if_neg n2,if_pos h3]
   exact⟨rfl,rfl⟩
  rw[if_neg (by omega)] at hroom
  refine x.call [0] rfl tR rfl hroom rfl ⟨⟨rfl,rfl⟩,rfl,rfl,tR⟩ ⟨⟨rfl,ah rfl,rfl,rfl,tR⟩,tR⟩ ?_
  have hv:bN s l n c=Cu s l (n+1) (aN (atV s l n)):=by rw[bN,hw,if_neg n1,if_neg n2,if_neg h3,hact]
  rw[hv]
  have h1:=Sj s l (n+1) (c+1) hl (by omega) (aN (atV s l n)) (Nat.zero_le _)
  obtain⟨V,hV⟩:∃V,Cu s l (n+1) (aN (atV s l n))=V:=⟨_,rfl⟩
  rw[hV] at h1 ⊢
  refine x.cond rfl (by simp only[aj,ak];omega) (fun _=>?_) (fun b=>by cases b)
  rcases V with⟨a,b⟩ | ⟨n',y'⟩
  ·exact x.die [0,2,3,4] rfl (by simp only[aj,ak];omega) rfl h1 ⟨⟨rfl,rfl⟩,⟨rfl,rfl⟩,tR⟩ rfl ⟨⟨rfl,ah rfl,ei,ej,tR⟩,⟨rfl,rfl,rfl,rfl,rfl,rfl,rfl,rfl,rfl,tR⟩,⟨rfl,rfl,rfl,fun j hj=>absurd hj (adp _)⟩,⟨rfl,rfl,rfl,fun j hj=>absurd hj (adp _)⟩,tR⟩ ⟨rfl,rfl⟩
  ·refine x.call [0,2,3,4] rfl (by simp only[aj,ak];omega) rfl h1 rfl ⟨⟨rfl,rfl⟩,⟨rfl,rfl⟩,tR⟩ ⟨⟨rfl,ah rfl,ei,ej,tR⟩,⟨rfl,rfl,rfl,rfl,rfl,rfl,rfl,rfl,rfl,tR⟩,⟨rfl,rfl,rfl,fun j hj=>absurd hj (adp _)⟩,⟨rfl,rfl,rfl,fun j hj=>absurd hj (adp _)⟩,tR⟩ ?_
   refine x.exit rfl tR ?_
   exact⟨.inr rfl,⟨rfl,rfl,rfl,rfl,rfl,rfl,rfl,rfl,rfl,tR⟩,⟨⟨rfl,ah rfl,rfl,rfl,tR⟩,⟨rfl,rfl,rfl,fun _ _=>rfl⟩,⟨rfl,rfl,rfl,fun _ _=>rfl⟩,tR⟩,rfl⟩
 have hact:qw s l w.data.toList=none:=by rw[qw,if_neg g0,if_neg g1,if_neg g2,if_neg g3,if_neg g4]
 refine x.call [0] rfl tR rfl (gI s l n c 1) rfl ⟨⟨rfl,rfl⟩,rfl,tR⟩ ⟨⟨rfl,ah rfl,rfl,rfl,tR⟩,tR⟩ ?_
 refine x.cond rfl tR (fun b=>?_) (fun b=>?_)
 ·have b:((!isV l n 1)&&true)=true:=b
  have b:isV l n 1=false:=by simpa using b
  refine x.die [0] rfl tR rfl (kJ s l n c (by omega) 7) ⟨⟨rfl,rfl⟩,rfl,tR⟩ rfl ⟨⟨rfl,ah rfl,rfl,rfl,tR⟩,tR⟩ ?_
  rw[bN,hw,hact,if_pos ⟨b,rfl⟩]
  exact⟨rfl,rfl⟩
 have b:((!isV l n 1)&&true)=false:=b
 have b:isV l n 1=true:=by simpa using b
 have n1:¬(isV l n 1=false∧(qw s l w.data.toList).isNone=true):=by rw[b];simp
 refine x.call [0] rfl tR rfl (gI s l n c 1) rfl ⟨⟨rfl,rfl⟩,rfl,tR⟩ ⟨⟨rfl,ah rfl,rfl,rfl,tR⟩,tR⟩ ?_
 refine x.nS [0] rfl tR rfl (fun _=>dA s l n c hl (by omega) 1 (by omega)) rfl ⟨⟨rfl,rfl⟩,rfl,tR⟩ ⟨⟨rfl,ah rfl,rfl,rfl,tR⟩,tR⟩ ⟨⟨rfl,ah rfl,rfl,rfl,tR⟩,⟨rfl,rfl,rfl,rfl,rfl,rfl,rfl,rfl,rfl,rfl,tR⟩,⟨rfl,rfl,rfl,rfl,rfl,rfl,rfl,rfl,rfl,tR⟩,⟨rfl,rfl,rfl,fun _ _=>rfl⟩,⟨rfl,rfl,rfl,fun _ _=>rfl⟩,⟨rfl,rfl,rfl,rfl,rfl,tR,tR,rfl,rfl,tR⟩,tR⟩ ?_
 refine x.cond rfl tR (fun b2=>?_) (fun b2=>?_)
 ·have b2:(isV l n 1&&!decide ((txV s l (n+1)).data.toList=[61]))=true:=b2
  have b2:isV l n 1=true∧¬(txV s l (n+1)).data.toList=[61]:=by simpa using b2
  refine x.die [0] rfl (by simp only[aj,ak];omega) rfl AX ⟨⟨rfl,rfl⟩,rfl,tR⟩ rfl ⟨⟨rfl,ah rfl,ei,rfl,tR⟩,tR⟩ ?_
  rw[bN,hw,if_neg n1,if_pos b2]
  exact⟨rfl,rfl⟩
 have b2:(isV l n 1&&!decide ((txV s l (n+1)).data.toList=[61]))=false:=b2
 have n2:¬(isV l n 1=true∧¬(txV s l (n+1)).data.toList=[61]):=fun hh=>by rw[hh.1,decide_eq_false hh.2] at b2;cases b2
 by_cases h3:4096≤c
 ·rw[if_pos (by omega)] at hroom
  refine x.die [0] rfl tR rfl hroom ⟨⟨rfl,rfl⟩,rfl,rfl,tR⟩ rfl ⟨⟨rfl,ah rfl,rfl,rfl,tR⟩,tR⟩ ?_
  rw[bN,hw,if_neg n1,if_neg n2,if_pos h3]
  exact⟨rfl,rfl⟩
 rw[if_neg (by omega)] at hroom
 refine x.call [0] rfl tR rfl hroom rfl ⟨⟨rfl,rfl⟩,rfl,rfl,tR⟩ ⟨⟨rfl,ah rfl,rfl,rfl,tR⟩,tR⟩ ?_
 have lt:=dn b
 have h61:(txV s l (n+1)).data.toList=[61]:=Classical.byContradiction fun hh=>n2 ⟨b,hh⟩
 have lt2:=jl h61
 have hv:bN s l n c=dM s l (n+1+1) {aN (atV s l n) with dst:=w}:=by
  rw[bN,hw,if_neg n1,if_neg n2,if_neg h3,hact]
  simp only[nmV,dO,bnd,b,h61,if_true,hw]
 rw[hv]
 refine x.cond rfl (by simp only[aj,ak];omega) (fun b=>by cases b) (fun _=>?_)
 have h1:=aX s l n (c+1) hl (by omega)
 rw[b,if_pos rfl,hw] at h1
 refine x.call [0] rfl tR rfl h1 rfl ⟨⟨rfl,rfl⟩,tR⟩ ⟨⟨rfl,ah rfl,rfl,ej,tR⟩,tR⟩ ?_
 have h2:=iX s l (n+1) (c+1) hl (by omega) ⟨#[61]⟩
 rw[if_pos h61] at h2
 refine x.call [0] rfl tR rfl h2 rfl ⟨⟨rfl,rfl⟩,rfl,tR⟩ ⟨⟨rfl,ah rfl,rfl,rfl,tR⟩,tR⟩ ?_
 have h4:=Lr s l (n+1+1) (c+1) hl (by omega) {aN (atV s l n) with dst:=w} (Nat.zero_le _) (Nat.zero_le _)
 obtain⟨V,hV⟩:∃V,dM s l (n+1+1) {aN (atV s l n) with dst:=w}=V:=⟨_,rfl⟩
 rw[hV] at h4 ⊢
 rcases V with⟨a,b⟩ | ⟨n',y'⟩
 ·exact x.die [0,2,3,4] rfl tR rfl h4 ⟨⟨rfl,rfl⟩,⟨rfl,rfl⟩,tR⟩ rfl ⟨⟨rfl,ah rfl,rfl,rfl,tR⟩,⟨rfl,rfl,rfl,rfl,rfl,rfl,rfl,rfl,rfl,tR⟩,⟨rfl,rfl,rfl,fun j hj=>absurd hj (adp _)⟩,⟨rfl,rfl,rfl,fun j hj=>absurd hj (adp _)⟩,tR⟩ ⟨rfl,rfl⟩
 ·refine x.call [0,2,3,4] rfl tR rfl h4 rfl ⟨⟨rfl,rfl⟩,⟨rfl,rfl⟩,tR⟩ ⟨⟨rfl,ah rfl,rfl,rfl,tR⟩,⟨rfl,rfl,rfl,rfl,rfl,rfl,rfl,rfl,rfl,tR⟩,⟨rfl,rfl,rfl,fun j hj=>absurd hj (adp _)⟩,⟨rfl,rfl,rfl,fun j hj=>absurd hj (adp _)⟩,tR⟩ ?_
  refine x.exit rfl tR ?_
  exact⟨.inr rfl,⟨rfl,rfl,rfl,rfl,rfl,rfl,rfl,rfl,rfl,tR⟩,⟨⟨rfl,ah rfl,rfl,rfl,tR⟩,⟨rfl,rfl,rfl,fun _ _=>rfl⟩,⟨rfl,rfl,rfl,fun _ _=>rfl⟩,tR⟩,rfl⟩
end
end Go.Proofs.YtojhdmfkfkfcbaaGreatDoor
namespace Go.Proofs.YtojhdmfkfkfcbaaGreatDoor
open Go.Sx
set_option linter.unusedVariables false
set_option linter.unusedSimpArgs false
def Up {α:Type} (l:List Tok) (n:Nat) (r:Except (Int×Int) (Nat×α)):Prop:=∀n' x,r=.ok (n',x)->n<n'∧n'≤l.length
def Upw {α:Type} (l:List Tok) (n:Nat) (r:Except (Int×Int) (Nat×α)):Prop:=∀n' x,r=.ok (n',x)->n≤n'∧n'≤l.length
section
variable {α β:Type} {s:ByteArray} {l:List Tok} {n:Nat}
theorem Up.weak {r:Except (Int×Int) (Nat×α)} (h:Up l n r):Upw l n r:=fun n' x e=>⟨Nat.le_of_lt (h n' x e).1,(h n' x e).2⟩
theorem qx {e:Int×Int}:Up (α:=α) l n (.error e):=fun n' x h=>by cases h
theorem sH {x:α} (h:n≤l.length):Upw l n (.ok (n,x)):=fun n' y e=>by
 simp only[Except.ok.injEq,adq] at e
 omega
theorem gT {r:Except (Int×Int) (Nat×α)} {k:Nat->α->Except (Int×Int) (Nat×β)} (h1:Up l n r) (h2:∀n' a,n<n'->n'≤l.length->Upw l n' (k n' a)):Up l n (bnd r k):=fun n' x e=>by
 rcases r with e1 | ⟨n1,a⟩
 ·cases e
 ·obtain⟨p1,p2⟩:=h1 n1 a rfl
  obtain⟨q1,q2⟩:=h2 n1 a p1 p2 n' x e
  exact⟨by omega,q2⟩
theorem Om {x:α} (h:n<l.length):Up l n (.ok (n+1,x)):=fun n' y e=>by
 simp only[Except.ok.injEq,adq] at e
 omega
theorem ou:Up l n (nmV s l n):=by
 unfold nmV
 split
 ·rename_i h;exact Om (dn h)
 ·exact qx
theorem sI {b:UInt8}:Up l n (dO s l n b):=by
 unfold dO
 split
 ·rename_i h;exact Om (jl h)
 ·exact qx
theorem yj {x:Ins}:Up l n (kT s l n x):=gT ou fun n' a _ h=>sH h
theorem VF {x:Ins}:Up l n (mG s l n x):=gT ou fun n' a _ h=>sH h
theorem Jo {x:Ins}:Up l n (sG s l n x):=gT ou fun n' a _ h=>sH h
theorem XR {x:Ins}:Up l n (uX s l n x):=gT ou fun _ _ _ _=>(gT yj fun _ _ _ _=>(gT yj fun _ _ _ h=>sH h).weak).weak
theorem XT {x:Ins}:Up l n (xE s l n x):=gT ou fun _ _ _ _=>(gT yj fun _ _ _ h=>sH h).weak
theorem XU {x:Ins}:Up l n (zA s l n x):=gT ou fun _ _ _ h=>sH h
theorem XV {x:Ins}:Up l n (uY s l n x):=gT yj fun _ _ _ _=>(gT ou fun _ _ _ _=>(gT ou fun _ _ _ h=>sH h).weak).weak
theorem XW {x:Ins}:Up l n (Cu s l n x):=gT yj fun _ _ _ h=>sH h
theorem VG {x:Ins}:Up l n (qp s l n x):=by
 unfold qp
 split
 ·rename_i h;exact Om (dn h)
 ·exact qx
theorem Lu {b:UInt8} {r:Except (Int×Int) (Nat×α)} (h:Up l n r):Up l n (j6 s l b r):=by
 rcases r with e | ⟨n1,a⟩
 ·exact qx
 ·unfold j6
  dsimp only
  split
  ·rename_i hb
   obtain⟨p1,p2⟩:=h n1 a rfl
   intro n' x e
   have:=jl hb
   simp only[Except.ok.injEq,adq] at e
   omega
  ·exact qx
theorem zB:Up l n (iL s l n):=by
 unfold iL
 split
 ·rename_i h
  have h1:=jl h
  split
  ·rename_i h2
   have h3:=jl h2
   intro n' x e
   simp only[Except.ok.injEq,adq] at e
   omega
  ·refine Lu fun n' x e=>?_
   obtain⟨p1,p2,_⟩:=AU e
   exact⟨by omega,p1⟩
 ·exact qx
theorem VH {x:Ins}:Up l n (yh s l n x):=Jo
theorem XY {x:Ins}:Up l n (Cv s l n x):=gT Jo fun _ _ _ _=>(gT zB fun _ _ _ h=>sH h).weak
theorem Oo {x:Ins}:Up l n (mH s l n x):=gT VF fun _ _ _ _=>Jo.weak
theorem Qh {k:Int} {x:Ins}:Up l n (cellV k s l n x):=gT Jo fun _ _ _ _=>VF.weak
theorem aae {x:Ins}:Up l n (Lp s l n x):=gT sI fun _ _ _ _=>(Lu fun n' x e=>by
 obtain⟨p1,p2⟩:=AV e
 exact⟨p1,p2⟩).weak
theorem nA {r:Except (Int×Int) (Nat×α)} (h:Up l (n+1) r):Up l n r:=fun n' x e=>⟨by have:=(h n' x e).1;omega,(h n' x e).2⟩
theorem XZ {x:Ins} {w:List UInt8}:Up l n (Cw s l n x w):=by
 unfold Cw
 split
 ·exact nA VG
 split
 ·exact nA Qh
 split
 ·exact nA Qh
 split
 ·exact nA VH
 split
 ·exact nA XY
 split
 ·exact nA Oo
 split
 ·exact nA aae
 ·exact qx
theorem VI {x:Ins}:Up l n (dM s l n x):=by
 unfold dM
 split
 ·exact nA (gT yj fun _ _ _ _=>yj.weak)
 ·exact XZ
theorem aaf {w:List UInt8} {f:Nat->Ins->Except (Int×Int) (Nat×Ins)} (h:qw s l w=some f) {x:Ins}:Up l n (f n x):=by
 unfold qw at h
 split at h
 ·cases h;exact XR
 split at h
 ·cases h;exact XT
 split at h
 ·cases h;exact XU
 split at h
 ·cases h;exact XV
 split at h
 ·cases h;exact XW
 ·cases h
theorem EY {c:Nat}:Up l n (bN s l n c):=by
 unfold bN
 split
 ·exact qx
 split
 ·exact qx
 split
 ·exact qx
 cases h:qw s l (txV s l n).data.toList with
 | some f=>exact nA (aaf h)
 | none=>exact gT ou fun _ _ _ _=>(gT sI fun _ _ _ _=>VI.weak).weak
theorem Qi {c n':Nat} {x:Ins} (h:bN s l n c=.ok (n',x)):c<4096:=by
 unfold bN at h
 split at h
 ·cases h
 split at h
 ·cases h
 split at h
 ·cases h
 ·omega
end
end Go.Proofs.YtojhdmfkfkfcbaaGreatDoor
namespace Go.Proofs.YtojhdmfkfkfcbaaGreatDoor
open Go.Sx
set_option linter.unusedVariables false
set_option linter.unusedSimpArgs false
set_option maxRecDepth 100000
theorem jZ {c:Prop} [Decidable c] (h:c):∀(ps qs:List D),ps.length=qs.length->cB c ps qs=ps
 | [],[],_=>by simp [cB]
 | a::ps,b::qs,e=>by rw[cB,um h,jZ h ps qs (by simpa using e)]
 | [],_::_,e=>by simp at e
 | _::_,[],e=>by simp at e
theorem j3 {c:Prop} [Decidable c] (h:¬c):∀(ps qs:List D),ps.length=qs.length->cB c ps qs=qs
 | [],[],_=>by simp [cB]
 | a::ps,b::qs,e=>by rw[cB,uo h,j3 h ps qs (by simpa using e)]
 | [],_::_,e=>by simp at e
 | _::_,[],e=>by simp at e
theorem wC {α:Type} (d:α->List D) (N:Nat) (hd:∀a,(d a).length=N) (x0:α) (xs:List α) (x:α) (j:Nat) (hj:j<xs.length+1):app xs.length (fun i=>d (xs.getD i x0)) (fun _=>d x) j=d ((xs++[x]).getD j x0):=by
 unfold app
 show cB (j<xs.length) (d (xs.getD j x0)) (d x)=_
 by_cases h:j<xs.length
 ·rw[jZ h _ _ (by rw[hd,hd]),adf,adf,List.getElem?_append_left h]
 ·have e:j=xs.length:=by omega
  rw[j3 h _ _ (by rw[hd,hd]),adf (l:=xs++[x]),List.getElem?_append_right (by omega),e,Nat.sub_self]
  rfl
abbrev bQ (o:List ByteArray):D:=.sl 1 o.length fun i=>[.str (o.getD i .empty)]
abbrev Lv (x:Ins):List D:=[.int .u8 x.kind, .int .u8 x.op, .str x.dst, .str x.ref, .str x.alt,bQ x.args,bQ x.frm, .int .i64 x.num, .int .i64 x.at_]
abbrev HV (xs:List Ins):Ch:=.vec 87 9 xs.length fun i=>Lv (xs.getD i (aN 0))
def codeF (s:ByteArray) (l:List Tok):Nat->Nat->Nat->List Ins->Except (Int×Int) (Nat×(Nat×List Ins))
 | 0,_,_,_=>.error (0,0)
 | f+1,n,c,xs=>
  if (txV s l n).data.toList=[125]∨Gv s l n=true then .ok (n,(c,xs))
  else bnd (bN s l n c) fun n x=>codeF s l f n (c+1) (xs++[x])
structure Blk where
 name:ByteArray
 code:List Ins
 at_:Int
def gD (s:ByteArray) (l:List Tok) (n c:Nat):Except (Int×Int) (Nat×(Nat×Blk)):=
 bnd (nmV s l n) fun n1 nm=>bnd (dO s l n1 58) fun n2 _=>bnd (codeF s l 4098 n2 c []) fun n3 r=>.ok (n3,(r.1,⟨nm,r.2,atV s l n⟩))
def aag (s:ByteArray) (l:List Tok):Except (Int×Int) (Nat×(Nat×Blk))->Out
 | .ok (n,(c,b))=>.ret (.agg [vs b.name, .own 1,vi b.at_]) [pC s l n c,HV b.code]
 | .error (a,e)=>wS a e
structure BW7 (s:ByteArray) (l:List Tok) (R:Except (Int×Int) (Nat×(Nat×List Ins))) where
 f:Nat
 n:Nat
 c:Nat
 xs:List Ins
 hf:4098≤f+c
 hn:n≤l.length
 hc:c≤4096
 hx:xs.length≤c
 same:codeF s l f n c xs=R
section
variable (s:ByteArray) (l:List Tok) (n c:Nat) (hl:oW s l) (hn:n≤l.length) (hc:c≤4096)
include hl hn hc in
theorem Cy:aW PG 96 1 [.ptr 0 0] [pC s l n c] (aag s l (gD s l n c)):=by
 have hll:=hl.2.1
 refine aW.mk (dG 27 1) av [0,3] Tryz.func96 rfl (by kernel_rfl) rfl rfl (by rcases gD s l n c with⟨a,e⟩ | ⟨n',c',o⟩<;>rfl) ?_
 intro C x
 refine x.call [0] rfl tR rfl (zx s l n c (by omega)) rfl ⟨⟨rfl,rfl⟩,tR⟩ ⟨⟨rfl,ah rfl,rfl,rfl,tR⟩,tR⟩ ?_
 have h1:=aX s l n c hl (by omega)
 cases e1:isV l n 1 with
 | false=>
  rw[e1,if_neg (by simp)] at h1
  refine x.die [0] rfl tR rfl h1 ⟨⟨rfl,rfl⟩,tR⟩ rfl ⟨⟨rfl,ah rfl,rfl,rfl,tR⟩,tR⟩ ?_
  simp only[gD,nmV,bnd,e1,if_true,adu,if_false]
  exact⟨rfl,rfl⟩
 | true=>
  rw[e1,if_pos rfl] at h1
  have l1:=dn e1
  refine x.call [0] rfl tR rfl h1 rfl ⟨⟨rfl,rfl⟩,tR⟩ ⟨⟨rfl,ah rfl,rfl,rfl,tR⟩,tR⟩ ?_
  have h2:=iX s l (n+1) c hl (by omega) ⟨#[58]⟩
  by_cases e2:(txV s l (n+1)).data.toList=[58]
  ·rw[if_pos e2] at h2
   have l2:=jl e2
   refine x.call [0] rfl tR rfl h2 rfl ⟨⟨rfl,rfl⟩,rfl,tR⟩ ⟨⟨rfl,ah rfl,rfl,rfl,tR⟩,tR⟩ ?_
   obtain⟨R,hR⟩:∃R,codeF s l 4098 (n+1+1) c []=R:=⟨_,rfl⟩
   have hV:gD s l n c=bnd R fun n3 r=>.ok (n3,(r.1,⟨txV s l n,r.2,atV s l n⟩)):=by
    simp only[gD,nmV,dO,bnd,e1,e2,if_true,hR]
   rw[hV]
   refine x.toLoop rfl tR ?_
   refine Go.ownB 2 1 87 9 (fun i=>Lv (([]:List Ins).getD i (aN 0))) rfl rfl ?_
   refine x.loop (α:=BW7 s l R) (fun y=>⟨[(0, .ptr 0 0),(2, .ptr 1 0),(3, .ptr 2 0)],[(0,pC s l y.n y.c),(1, .box [vs .empty, .aB,vi 0]),(2, .box [vs (txV s l n), .own 3,vi (atV s l n)]),(3,HV y.xs)],4⟩) (fun y=>y.f) ⟨4098,n+1+1,c,[],by omega,by omega,hc,Nat.zero_le _,hR⟩ rfl tR ⟨⟨⟨rfl,rfl⟩,⟨rfl,rfl⟩,⟨rfl,rfl⟩,tR⟩,⟨⟨rfl,ah rfl,rfl,rfl,tR⟩,⟨rfl,tR,rfl,tR⟩,⟨rfl,rfl,rfl,tR⟩,⟨rfl,rfl,rfl,fun j hj=>absurd hj (adp _)⟩,tR⟩,rfl⟩ (fun y=>?_)
   obtain⟨f,m,c,xs,hf,hm,hc,hx,same⟩:=y
   change Go C _ ⟨[(0, .ptr 0 0),(2, .ptr 1 0),(3, .ptr 2 0)],[(0,pC s l m c),(1, .box [vs .empty, .aB,vi 0]),(2, .box [vs (txV s l n), .own 3,vi (atV s l n)]),(3,HV xs)],4⟩ _
   obtain⟨f,rfl⟩:∃f',f=f'+1:=⟨f-1,by omega⟩
   rw[codeF] at same
   refine x.call [0] rfl tR rfl (dA s l m c hl (by omega) 0 (by omega)) rfl ⟨⟨rfl,rfl⟩,rfl,tR⟩ ⟨⟨rfl,ah rfl,rfl,rfl,tR⟩,tR⟩ ?_
   refine x.nS [0] rfl tR rfl (fun _=>Cq s l m c hl (by omega)) rfl ⟨⟨rfl,rfl⟩,tR⟩ ⟨⟨rfl,ah rfl,rfl,rfl,tR⟩,tR⟩ ⟨⟨rfl,ah rfl,rfl,rfl,tR⟩,⟨rfl,tR,rfl,tR⟩,⟨rfl,rfl,rfl,tR⟩,⟨rfl,rfl,rfl,fun _ _=>rfl⟩,tR⟩ ?_
   refine x.cond rfl tR (fun b=>?_) (fun b=>?_)
   ·have b:((!decide ((txV s l m).data.toList=[125]))&&!Gv s l m)=true:=b
    have b:¬((txV s l m).data.toList=[125]∨Gv s l m=true):=by simpa using b
    rw[if_neg b] at same
    have h3:=Ls s l m c hl hm (by omega)
    obtain⟨V,hW⟩:∃V,bN s l m c=V:=⟨_,rfl⟩
    rw[hW] at h3 same
    rcases V with⟨a,e⟩ | ⟨n',x'⟩
    ·refine x.draw [0] [2] [0,1] [3,4] [5,6,7] rfl tR ay (by kernel_rfl) fU.quiet rfl tR (fun C1 x1=>?_)
     refine x1.die [0] rfl tR rfl h3 ⟨⟨rfl,rfl⟩,tR⟩ rfl ⟨⟨rfl,ah rfl,rfl,rfl,tR⟩,tR⟩ ⟨⟨_,rfl⟩,rfl,?_⟩
     rw[←same]
     exact⟨rfl,rfl⟩
    ·obtain⟨p1,p2⟩:=EY _ _ hW
     have p3:=Qi hW
     simp only[bnd] at same
     refine x.draw [0] [2] [0,1] [3,4] [5,6,7] rfl tR ay (by kernel_rfl) fU.quiet rfl tR (fun C1 x1=>?_)
     refine x1.call [0] rfl tR rfl h3 rfl ⟨⟨rfl,rfl⟩,tR⟩ ⟨⟨rfl,ah rfl,rfl,rfl,tR⟩,tR⟩ ?_
     refine Sx.Go.freeze 4 ?_
     refine Sx.Go.freeze 5 ?_
     refine x1.back rfl tR ?_
     refine x1.back rfl tR ?_
     refine x.back rfl ?_ ⟨⟨f,n',c+1,xs++[x'],by omega,p2,by omega,by rw[List.length_append];simp only[List.length_cons,List.length_nil];omega,same⟩,by show f<f+1;omega,⟨⟨rfl,rfl⟩,⟨rfl,rfl⟩,⟨rfl,rfl⟩,tR⟩,⟨⟨rfl,ah rfl,rfl,rfl,tR⟩,⟨rfl,tR,rfl,tR⟩,⟨rfl,rfl,rfl,tR⟩,⟨rfl,rfl,by simp,fun j hj=>wC Lv 9 (fun _=>rfl) (aN 0) xs x' j hj⟩,tR⟩,rfl⟩
     simp only[aj,big];omega
   ·have b:((!decide ((txV s l m).data.toList=[125]))&&!Gv s l m)=false:=b
    have b:(txV s l m).data.toList=[125]∨Gv s l m=true:=by
     refine Classical.byContradiction fun hh=>?_
     simp only[not_or] at hh
     rw[decide_eq_false hh.1,(by simpa using hh.2:Gv s l m=false)] at b
     cases b
    rw[if_pos b] at same
    refine x.exit rfl tR ?_
    rw[←same]
    exact⟨.inr rfl,⟨rfl,rfl,rfl,tR⟩,⟨⟨rfl,ah rfl,rfl,rfl,tR⟩,⟨rfl,rfl,rfl,fun _ _=>rfl⟩,tR⟩,rfl⟩
  ·rw[if_neg e2] at h2
   refine x.die [0] rfl tR rfl h2 ⟨⟨rfl,rfl⟩,rfl,tR⟩ rfl ⟨⟨rfl,ah rfl,rfl,rfl,tR⟩,tR⟩ ?_
   simp only[gD,nmV,dO,bnd,e1,e2,if_true,if_false]
   exact⟨rfl,rfl⟩
end
theorem Qj {s:ByteArray} {l:List Tok}:∀{f n c:Nat} {xs:List Ins} {n' c':Nat} {ys:List Ins},n≤l.length->c≤4096->codeF s l f n c xs=.ok (n',(c',ys))->n≤n'∧n'≤l.length∧c'≤4096
 | 0,n,c,xs,n',c',ys,hn,hc,h=>by simp [codeF] at h
 | f+1,n,c,xs,n',c',ys,hn,hc,h=>by
  rw[codeF] at h
  split at h
  ·simp only[Except.ok.injEq,adq] at h
   omega
  ·obtain⟨V,hV⟩:∃V,bN s l n c=V:=⟨_,rfl⟩
   rw[hV] at h
   rcases V with e | ⟨n1,x⟩
   ·cases h
   ·obtain⟨p1,p2⟩:=EY _ _ hV
    have p3:=Qi hV
    obtain⟨q1,q2,q3⟩:=Qj p2 (by omega) h
    exact⟨by omega,q2,q3⟩
theorem qR {s:ByteArray} {l:List Tok} {n c n' c':Nat} {b:Blk} (hc:c≤4096) (h:gD s l n c=.ok (n',(c',b))):n<n'∧n'≤l.length∧c'≤4096:=by
 unfold gD at h
 obtain⟨V,hV⟩:∃V,nmV s l n=V:=⟨_,rfl⟩
 rw[hV] at h
 rcases V with e | ⟨n1,nm⟩
 ·cases h
 obtain⟨p1,p2⟩:=ou _ _ hV
 simp only[bnd] at h
 obtain⟨V,hV⟩:∃V,dO s l n1 58=V:=⟨_,rfl⟩
 rw[hV] at h
 rcases V with e | ⟨n2,u⟩
 ·cases h
 obtain⟨q1,q2⟩:=sI _ _ hV
 simp only at h
 obtain⟨V,hV⟩:∃V,codeF s l 4098 n2 c []=V:=⟨_,rfl⟩
 rw[hV] at h
 rcases V with e | ⟨n3,c3,ys⟩
 ·cases h
 obtain⟨r1,r2,r3⟩:=Qj q2 hc hV
 simp only[Except.ok.injEq,adq] at h
 omega
abbrev uZ (xs:List Ins):D:=.sl 9 xs.length fun i=>Lv (xs.getD i (aN 0))
abbrev Jp (b:Blk):List D:=[.str b.name,uZ b.code, .int .i64 b.at_]
def bH:Blk:=⟨.empty,[],0⟩
abbrev Cz (bs:List Blk):Ch:=.vec 85 3 bs.length fun i=>Jp (bs.getD i bH)
def gJ (s:ByteArray) (l:List Tok):Nat->Nat->Nat->List Blk->Except (Int×Int) (Nat×(Nat×List Blk))
 | 0,_,_,_=>.error (0,0)
 | f+1,n,c,bs=>
  if Gv s l n=true then
   if 64≤bs.length then .error (atV s l n,3)
   else bnd (gD s l n c) fun n r=>gJ s l f n r.1 (bs++[r.2])
  else .ok (n,(c,bs))
structure Fun where
 name:ByteArray
 params:List ByteArray
 blocks:List Blk
 at_:Int
def lF (s:ByteArray) (l:List Tok) (n c:Nat):Except (Int×Int) (Nat×(Nat×Fun)):=
 bnd (nmV s l (n+1)) fun n1 nm=>bnd (iL s l n1) fun n2 ps=>bnd (dO s l n2 123) fun n3 _=>bnd (gD s l n3 c) fun n4 r=>
  bnd (gJ s l 65 n4 r.1 [r.2]) fun n5 q=>bnd (dO s l n5 125) fun n6 _=>.ok (n6,(q.1,⟨nm,ps,q.2,atV s l n⟩))
def acO (s:ByteArray) (l:List Tok):Except (Int×Int) (Nat×(Nat×Fun))->Out
 | .ok (n,(c,b))=>.ret (.agg [vs b.name, .own 1, .own 2,vi b.at_]) [pC s l n c,gQ b.params,Cz b.blocks]
 | .error (a,e)=>wS a e
structure FW (s:ByteArray) (l:List Tok) (R:Except (Int×Int) (Nat×(Nat×List Blk))) where
 f:Nat
 n:Nat
 c:Nat
 bs:List Blk
 hf:f+bs.length=66
 hb:bs.length≤64
 hn:n≤l.length
 hc:c≤4096
 same:gJ s l f n c bs=R
section
variable (s:ByteArray) (l:List Tok) (n c:Nat) (hl:oW s l) (hn:n<l.length) (hc:c≤4096)
set_option maxHeartbeats 1000000 in
include hl hn hc in
theorem EZ:aW PG 47 1 [.ptr 0 0] [pC s l n c] (acO s l (lF s l n c)):=by
 have hll:=hl.2.1
 have ei:aG (vi ((n:Int)+1)) (vi ((n+1:Nat):Int)):=by rw[ads];rfl
 refine aW.mk (dG 46 1) av [0,3,4] Tryz.func47 rfl (by kernel_rfl) rfl rfl (by rcases lF s l n c with⟨a,e⟩ | ⟨n',c',o⟩<;>rfl) ?_
 intro C x
 refine x.call [0] rfl tR rfl (zx s l n c (by omega)) rfl ⟨⟨rfl,rfl⟩,tR⟩ ⟨⟨rfl,ah rfl,rfl,rfl,tR⟩,tR⟩ ?_
 have h1:=aX s l (n+1) c hl (by omega)
 cases e1:isV l (n+1) 1 with
 | false=>
  rw[e1,if_neg (by simp)] at h1
  refine x.die [0] rfl (by simp only[aj,ak];omega) rfl h1 ⟨⟨rfl,rfl⟩,tR⟩ rfl ⟨⟨rfl,ah rfl,ei,rfl,tR⟩,tR⟩ ?_
  simp only[lF,nmV,bnd,e1,if_true,adu,if_false]
  exact⟨rfl,rfl⟩
 | true=>
 rw[e1,if_pos rfl] at h1
 have l1:=dn e1
 refine x.call [0] rfl (by simp only[aj,ak];omega) rfl h1 rfl ⟨⟨rfl,rfl⟩,tR⟩ ⟨⟨rfl,ah rfl,ei,rfl,tR⟩,tR⟩ ?_
 have h2:=Ct s l (n+1+1) c hl (by omega)
 obtain⟨N,hN⟩:∃N,iL s l (n+1+1)=N:=⟨_,rfl⟩
 rw[hN] at h2
 rcases N with⟨a,e⟩ | ⟨n2,ps⟩
 ·refine x.die [0] rfl tR rfl h2 ⟨⟨rfl,rfl⟩,tR⟩ rfl ⟨⟨rfl,ah rfl,rfl,rfl,tR⟩,tR⟩ ?_
  simp only[lF,nmV,bnd,e1,if_true,hN]
  exact⟨rfl,rfl⟩
 obtain⟨q1,q2⟩:=zB _ _ hN
 refine x.call [0] rfl tR rfl h2 rfl ⟨⟨rfl,rfl⟩,tR⟩ ⟨⟨rfl,ah rfl,rfl,rfl,tR⟩,tR⟩ ?_
 have h3:=iX s l n2 c hl (by omega) ⟨#[123]⟩
 by_cases e3:(txV s l n2).data.toList=[123]
 rotate_left
 ·rw[if_neg e3] at h3
  refine x.die [0] rfl tR rfl h3 ⟨⟨rfl,rfl⟩,rfl,tR⟩ rfl ⟨⟨rfl,ah rfl,rfl,rfl,tR⟩,tR⟩ ?_
  simp only[lF,nmV,dO,bnd,e1,e3,if_true,if_false,hN]
  exact⟨rfl,rfl⟩
 rw[if_pos e3] at h3
 have l3:=jl e3
 refine x.call [0] rfl tR rfl h3 rfl ⟨⟨rfl,rfl⟩,rfl,tR⟩ ⟨⟨rfl,ah rfl,rfl,rfl,tR⟩,tR⟩ ?_
 refine x.code rfl tR ?_
 refine Go.ownB 2 2 85 3 (fun i=>Jp (([]:List Blk).getD i bH)) rfl rfl ?_
 have h4:=Cy s l (n2+1) c hl (by omega) hc
 obtain⟨B,hB⟩:∃B,gD s l (n2+1) c=B:=⟨_,rfl⟩
 rw[hB] at h4
 rcases B with⟨a,e⟩ | ⟨n4,c4,b4⟩
 ·refine x.draw [0] [2] [0,1] [3,4] [5,6,7] rfl tR ay (by kernel_rfl) fU.quiet rfl tR (fun C1 x1=>?_)
  refine x1.die [0] rfl tR rfl h4 ⟨⟨rfl,rfl⟩,tR⟩ rfl ⟨⟨rfl,ah rfl,rfl,rfl,tR⟩,tR⟩ ⟨⟨_,rfl⟩,rfl,?_⟩
  simp only[lF,nmV,dO,bnd,e1,e3,if_true,hN,hB]
  exact⟨rfl,rfl⟩
 obtain⟨r1,r2,r3⟩:=qR hc hB
 refine x.draw [0] [2] [0,1] [3,4] [5,6,7] rfl tR ay (by kernel_rfl) fU.quiet rfl tR (fun C1 x1=>?_)
 refine x1.call [0] rfl tR rfl h4 rfl ⟨⟨rfl,rfl⟩,tR⟩ ⟨⟨rfl,ah rfl,rfl,rfl,tR⟩,tR⟩ ?_
 refine Sx.Go.freeze 5 ?_
 refine x1.back rfl tR ?_
 refine x1.back rfl tR ?_
 obtain⟨R,hR⟩:∃R,gJ s l 65 n4 c4 [b4]=R:=⟨_,rfl⟩
 have hV:lF s l n c=bnd R fun n5 q=>bnd (dO s l n5 125) fun n6 _=>.ok (n6,(q.1,⟨txV s l (n+1),ps,q.2,atV s l n⟩)):=by
  simp only[lF,nmV,dO,bnd,e1,e3,if_true,hN,hB,hR]
 rw[hV]
 refine x.loop (α:=FW s l R) (fun y=>⟨[(0, .ptr 0 0),(2, .ptr 1 0),(3, .ptr 2 0)],[(0,pC s l y.n y.c),(1, .box [vs .empty, .aB, .aB,vi 0]),(2, .box [vs (txV s l (n+1)), .own 3, .own 4,vi (atV s l n)]),(3,gQ ps),(4,Cz y.bs)],5⟩) (fun y=>y.f) ⟨65,n4,c4,[b4],rfl,by simp,r2,r3,hR⟩ rfl (by simp only[aj,big,List.length_cons,List.length_nil];omega) ⟨⟨⟨rfl,rfl⟩,⟨rfl,rfl⟩,⟨rfl,rfl⟩,tR⟩,⟨⟨rfl,ah rfl,rfl,rfl,tR⟩,⟨rfl,tR,tR,rfl,tR⟩,⟨rfl,rfl,rfl,rfl,tR⟩,⟨rfl,rfl,rfl,fun _ _=>rfl⟩,⟨rfl,rfl,rfl,fun j hj=>wC Jp 3 (fun _=>rfl) bH [] b4 j hj⟩,tR⟩,rfl⟩ (fun y=>?_)
 obtain⟨f,m,c,bs,hf,hb,hm,hc,same⟩:=y
 change Go C _ ⟨[(0, .ptr 0 0),(2, .ptr 1 0),(3, .ptr 2 0)],[(0,pC s l m c),(1, .box [vs .empty, .aB, .aB,vi 0]),(2, .box [vs (txV s l (n+1)), .own 3, .own 4,vi (atV s l n)]),(3,gQ ps),(4,Cz bs)],5⟩ _
 obtain⟨f,rfl⟩:∃f',f=f'+1:=⟨f-1,by omega⟩
 rw[gJ] at same
 refine x.call [0] rfl tR rfl (Cq s l m c hl (by omega)) rfl ⟨⟨rfl,rfl⟩,tR⟩ ⟨⟨rfl,ah rfl,rfl,rfl,tR⟩,tR⟩ ?_
 refine x.cond rfl tR (fun b=>?_) (fun b=>?_)
 ·have b:Gv s l m=true:=b
  rw[if_pos b] at same
  have h5:=nM s l m c (by omega) (bs.length:Int) 64
  by_cases h6:64≤bs.length
  ·rw[if_pos (by omega)] at h5
   rw[if_pos h6] at same
   refine x.die [0] rfl tR rfl h5 ⟨⟨rfl,rfl⟩,rfl,rfl,tR⟩ rfl ⟨⟨rfl,ah rfl,rfl,rfl,tR⟩,tR⟩ ?_
   rw[←same]
   exact⟨rfl,rfl⟩
  rw[if_neg (by omega)] at h5
  rw[if_neg h6] at same
  refine x.call [0] rfl tR rfl h5 rfl ⟨⟨rfl,rfl⟩,rfl,rfl,tR⟩ ⟨⟨rfl,ah rfl,rfl,rfl,tR⟩,tR⟩ ?_
  have h7:=Cy s l m c hl hm hc
  obtain⟨V,hW⟩:∃V,gD s l m c=V:=⟨_,rfl⟩
  rw[hW] at h7 same
  rcases V with⟨a,e⟩ | ⟨n',c',b'⟩
  ·refine x.draw [0] [2] [0,1] [3,4] [5,6,7] rfl tR ay (by kernel_rfl) fU.quiet rfl tR (fun C1 x1=>?_)
   refine x1.die [0] rfl tR rfl h7 ⟨⟨rfl,rfl⟩,tR⟩ rfl ⟨⟨rfl,ah rfl,rfl,rfl,tR⟩,tR⟩ ⟨⟨_,rfl⟩,rfl,?_⟩
   rw[←same]
   exact⟨rfl,rfl⟩
  ·obtain⟨p1,p2,p3⟩:=qR hc hW
   simp only[bnd] at same
   refine x.draw [0] [2] [0,1] [3,4] [5,6,7] rfl tR ay (by kernel_rfl) fU.quiet rfl tR (fun C1 x1=>?_)
   refine x1.call [0] rfl tR rfl h7 rfl ⟨⟨rfl,rfl⟩,tR⟩ ⟨⟨rfl,ah rfl,rfl,rfl,tR⟩,tR⟩ ?_
   refine Sx.Go.freeze 5 ?_
   refine x1.back rfl tR ?_
   refine x1.back rfl tR ?_
   refine x.back rfl (by simp only[aj,big,List.length_cons,List.length_nil];omega) ⟨⟨f,n',c',bs++[b'],by rw[List.length_append];simp only[List.length_cons,List.length_nil];omega,by rw[List.length_append];simp only[List.length_cons,List.length_nil];omega,p2,p3,same⟩,by show f<f+1;omega,⟨⟨rfl,rfl⟩,⟨rfl,rfl⟩,⟨rfl,rfl⟩,tR⟩,⟨⟨rfl,ah rfl,rfl,rfl,tR⟩,⟨rfl,tR,tR,rfl,tR⟩,⟨rfl,rfl,rfl,rfl,tR⟩,⟨rfl,rfl,rfl,fun _ _=>rfl⟩,⟨rfl,rfl,by simp,fun j hj=>wC Jp 3 (fun _=>rfl) bH bs b' j hj⟩,tR⟩,rfl⟩
 ·have b:Gv s l m=false:=b
  rw[b,if_neg (by simp)] at same
  have h8:=iX s l m c hl (by omega) ⟨#[125]⟩
  by_cases e8:(txV s l m).data.toList=[125]
  ·rw[if_pos e8] at h8
   refine x.call [0] rfl tR rfl h8 rfl ⟨⟨rfl,rfl⟩,rfl,tR⟩ ⟨⟨rfl,ah rfl,rfl,rfl,tR⟩,tR⟩ ?_
   refine x.exit rfl tR ?_
   rw[←same,bnd,dO,if_pos e8]
   exact⟨.inr rfl,⟨rfl,rfl,rfl,rfl,tR⟩,⟨⟨rfl,ah rfl,rfl,rfl,tR⟩,⟨rfl,rfl,rfl,fun _ _=>rfl⟩,⟨rfl,rfl,rfl,fun _ _=>rfl⟩,tR⟩,rfl⟩
  ·rw[if_neg e8] at h8
   refine x.die [0] rfl tR rfl h8 ⟨⟨rfl,rfl⟩,rfl,tR⟩ rfl ⟨⟨rfl,ah rfl,rfl,rfl,tR⟩,tR⟩ ?_
   rw[←same,bnd,dO,if_neg e8]
   exact⟨rfl,rfl⟩
end
theorem ow (f1 f2:Nat->List D) (a e:Int):Later PG 43 [.ptr 0 0, .ptr 1 0, .ptr 2 0] [.box [.dead, .dead], .box [.dead], .box [.dead]] (.pan Co [(.i64,a),(.i64,e)]) [.box [.d (.sl 4 0 f1), .d (.sl 4 0 f2)], .box [vi a], .box [vi e]]:=by
 refine Later.mk (dG 22 3) av [0,1,2] Tryz.func43 rfl (by kernel_rfl) rfl rfl rfl rfl rfl rfl rfl rfl rfl rfl ?_
 intro C x
 refine x.cond rfl tR (fun h=>?_) (fun h=>?_)
 rotate_left
 ·cases h
 refine x.cond rfl tR (fun h=>?_) (fun h=>?_)
 ·cases h
 refine x.draw [0,1] [] [0,1,2,3,4] [5,6] [7] rfl tR ay (by kernel_rfl) (NoPanic.quiet Ret.bT) rfl tR (fun C1 x1=>?_)
 refine x1.back rfl tR ?_
 refine x1.back rfl tR ?_
 refine x.exit rfl tR ?_
 exact⟨.inl rfl,tR,⟨⟨rfl,rfl,tR⟩,⟨rfl,tR⟩,⟨rfl,tR⟩,tR⟩,rfl⟩
theorem Lx (z1 n1 z2 n2:Nat) (f1 f2:Nat->List D) (a e:Int):Later PG 43 [.ptr 0 0, .ptr 1 0, .ptr 2 0] [.box [.d (.sl z1 n1 f1), .d (.sl z2 n2 f2)], .box [vi a], .box [vi e]] .back [.box [.d (.sl z1 n1 f1), .d (.sl z2 n2 f2)], .box [vi a], .box [vi e]]:=by
 refine Later.mk (dG 22 3) av [0,1,2] Tryz.func43 rfl (by kernel_rfl) rfl rfl rfl rfl rfl rfl rfl rfl rfl rfl ?_
 intro C x
 refine x.cond rfl tR (fun h=>?_) (fun h=>?_)
 ·cases h
 refine x.exit rfl tR ?_
 exact⟨.inl rfl,tR,⟨⟨ah rfl,ah rfl,tR⟩,⟨rfl,tR⟩,⟨rfl,tR⟩,tR⟩,rfl⟩
abbrev jN (bs:List Blk):D:=.sl 3 bs.length fun i=>Jp (bs.getD i bH)
abbrev yt (f:Fun):List D:=[.str f.name,bQ f.params,jN f.blocks, .int .i64 f.at_]
abbrev AY (a:Arr):List D:=[.str a.name, .int .i64 a.size, .str a.level, .int .i64 a.at_]
def bD:Fun:=⟨.empty,[],[],0⟩
def dY:Arr:=⟨.empty,0, .empty,0⟩
abbrev qU (fs:List Fun):Ch:=.vec 82 4 fs.length fun i=>yt (fs.getD i bD)
abbrev LA (xs:List Arr):Ch:=.vec 78 4 xs.length fun i=>AY (xs.getD i dY)
abbrev dU (fs:List Fun):D:=.sl 4 fs.length fun i=>yt (fs.getD i bD)
abbrev dH (xs:List Arr):D:=.sl 4 xs.length fun i=>AY (xs.getD i dY)
abbrev xD (x:Ins):V:=.agg [.d (.int .u8 x.kind), .d (.int .u8 x.op),vs x.dst,vs x.ref,vs x.alt, .d (bQ x.args), .d (bQ x.frm),vi x.num,vi x.at_]
abbrev fnV (f:Fun):V:=.agg [vs f.name, .d (bQ f.params), .d (jN f.blocks),vi f.at_]
structure Prg where
 arrays:List Arr
 funcs:List Fun
abbrev LB (p:Prg):V:=.agg [.d (dH p.arrays), .d (dU p.funcs)]
def oz (s:ByteArray) (l:List Tok):Nat->Nat->Nat->Prg->Except (Int×Int) (Nat×Prg)
 | 0,_,_,_=>.error (0,0)
 | f+1,n,c,p=>
  if n<l.length then
   if (txV s l n).data.toList=[97,114,114,97,121] then
    if 16≤p.arrays.length then .error (atV s l n,3)
    else bnd (wT s l n) fun n x=>oz s l f n c ⟨p.arrays++[x],p.funcs⟩
   else if (txV s l n).data.toList=[102,110] then
    if 64≤p.funcs.length then .error (atV s l n,3)
    else bnd (lF s l n c) fun n r=>oz s l f n r.1 ⟨p.arrays,p.funcs++[r.2]⟩
   else .error (atV s l n,7)
  else .ok (n,p)
def acP:Except (Int×Int) (Nat×Prg)->Prg×Int×Int
 | .ok (_,p)=>(p,0,0)
 | .error (a,e)=>(⟨[],[]⟩,a,e)
def bX (s:ByteArray):Prg×Int×Int:=
 if (eU s).2.2=0 then acP (oz s (eU s).1 ((eU s).1.length+1) 0 0 ⟨[],[]⟩) else (⟨[],[]⟩,(eU s).2.1,(eU s).2.2)
theorem aah {s:ByteArray} {l:List Tok} {n n':Nat} {x:Arr} (h:wT s l n=.ok (n',x)):n<n'∧n'≤l.length:=by
 unfold wT at h
 obtain⟨V,hV⟩:∃V,nmV s l (n+1)=V:=⟨_,rfl⟩
 rw[hV] at h
 rcases V with e | ⟨n1,nm⟩
 ·cases h
 obtain⟨p1,p2⟩:=ou _ _ hV
 simp only[bnd] at h
 split at h
 ·rename_i h3
  have l3:=dn h3
  split at h
  ·cases h
  ·obtain⟨V,hV⟩:∃V,nmV s l (n1+1)=V:=⟨_,rfl⟩
   rw[hV] at h
   rcases V with e | ⟨n2,lv⟩
   ·cases h
   obtain⟨q1,q2⟩:=ou _ _ hV
   simp only[Except.ok.injEq,adq] at h
   omega
 ·cases h
theorem HY {s:ByteArray} {l:List Tok}:∀{f n c:Nat} {bs:List Blk} {n' c':Nat} {ys:List Blk},n≤l.length->c≤4096->gJ s l f n c bs=.ok (n',(c',ys))->n≤n'∧n'≤l.length∧c'≤4096
 | 0,n,c,bs,n',c',ys,hn,hc,h=>by simp [gJ] at h
 | f+1,n,c,bs,n',c',ys,hn,hc,h=>by
  rw[gJ] at h
  split at h
  ·split at h
   ·cases h
   ·obtain⟨V,hV⟩:∃V,gD s l n c=V:=⟨_,rfl⟩
    rw[hV] at h
    rcases V with e | ⟨n1,c1,b⟩
    ·cases h
    ·obtain⟨p1,p2,p3⟩:=qR hc hV
     obtain⟨q1,q2,q3⟩:=HY p2 p3 h
     exact⟨by omega,q2,q3⟩
  ·simp only[Except.ok.injEq,adq] at h
   omega
theorem Qk {s:ByteArray} {l:List Tok} {n c n' c':Nat} {x:Fun} (hc:c≤4096) (h:lF s l n c=.ok (n',(c',x))):n<n'∧n'≤l.length∧c'≤4096:=by
 unfold lF at h
 obtain⟨V,hV⟩:∃V,nmV s l (n+1)=V:=⟨_,rfl⟩
 rw[hV] at h
 rcases V with e | ⟨n1,nm⟩
 ·cases h
 obtain⟨p1,p2⟩:=ou _ _ hV
 simp only[bnd] at h
 obtain⟨V,hV⟩:∃V,iL s l n1=V:=⟨_,rfl⟩
 rw[hV] at h
 rcases V with e | ⟨n2,ps⟩
 ·cases h
 obtain⟨q1,q2⟩:=zB _ _ hV
 simp only at h
 obtain⟨V,hV⟩:∃V,dO s l n2 123=V:=⟨_,rfl⟩
 rw[hV] at h
 rcases V with e | ⟨n3,u⟩
 ·cases h
 obtain⟨r1,r2⟩:=sI _ _ hV
 simp only at h
 obtain⟨V,hV⟩:∃V,gD s l n3 c=V:=⟨_,rfl⟩
 rw[hV] at h
 rcases V with e | ⟨n4,c4,b⟩
 ·cases h
 obtain⟨t1,t2,t3⟩:=qR hc hV
 simp only at h
 obtain⟨V,hV⟩:∃V,gJ s l 65 n4 c4 [b]=V:=⟨_,rfl⟩
 rw[hV] at h
 rcases V with e | ⟨n5,c5,bs⟩
 ·cases h
 obtain⟨u1,u2,u3⟩:=HY t2 t3 hV
 simp only at h
 obtain⟨V,hV⟩:∃V,dO s l n5 125=V:=⟨_,rfl⟩
 rw[hV] at h
 rcases V with e | ⟨n6,u⟩
 ·cases h
 obtain⟨w1,w2⟩:=sI _ _ hV
 simp only[Except.ok.injEq,adq] at h
 omega
theorem LC (s:ByteArray):∀(n a:Nat) (out:List Tok),a≤s.size->(∀t,t∈out->0≤t.f∧t.f<t.t∧t.t≤s.size)->∀t,t∈(oq s n a out).1->0≤t.f∧t.f<t.t∧t.t≤s.size
 | 0,a,out,_,_=>by simp [oq]
 | n+1,a,out,ha,ho=>by
  rw[oq]
  split
  ·exact ho
  ·split
   ·rename_i h0
    have hf:=qP ha
    have hb:(a:Int)≤(gP s a).1.f∧(gP s a).1.f<(gP s a).1.t∧(gP s a).1.t≤s.size:=by
     rcases hf with h | h | h
     ·exact h.2
     ·omega
     ·omega
    refine LC s n _ _ (by omega) fun t ht=>?_
    rcases List.mem_append.1 ht with ht | ht
    ·exact ho t ht
    ·obtain rfl:=List.mem_singleton.1 ht
     omega
   ·simp
theorem E5 (s:ByteArray) (hs:s.size≤65536):oW s (eU s).1:=by
 have hl:=XP s
 refine⟨fun t ht=>?_,by omega,by omega⟩
 unfold eU at ht
 rw[if_neg (by omega)] at ht
 split at ht
 ·simp at ht
 ·exact LC s _ 0 [] (by omega) (by simp) t ht
theorem A8 {s:ByteArray} (h:(eU s).2.2=0):s.size≤65536:=by
 rcases Nat.lt_or_ge 65536 s.size with h1 | h1
 ·rw[eU,if_pos h1] at h;cases h
 ·exact h1
theorem Oq {α:Type} {s:ByteArray} {l:List Tok} {b:UInt8} {V:Except (Int×Int) (Nat×α)}:j6 s l b V=bnd V fun n o=>bnd (dO s l n b) fun n _=>.ok (n,o):=by
 rcases V with e | ⟨n,o⟩
 ·rfl
 ·simp only[j6,bnd,dO]
  split<;>rfl
structure PLW (s:ByteArray) (l:List Tok) (R:Except (Int×Int) (Nat×Prg)) where
 f:Nat
 n:Nat
 c:Nat
 p:Prg
 hf:l.length+1≤f+n
 hn:n≤l.length
 hc:c≤4096
 ha:p.arrays.length≤16
 hp:p.funcs.length≤64
 same:oz s l f n c p=R
abbrev aai (R:Prg×Int×Int):V:=.tup [LB R.1,vi R.2.1,vi R.2.2]
set_option maxHeartbeats 4000000 in
theorem vg (s:ByteArray) (hs:s.size≤4611686018427387904):Pure PG 16 [vs s] (aai (bX s)) []:=by
 refine aI.Qa (cfg 63) av [] 3 [2,3,4] Tryz.func16 rfl rfl (by kernel_rfl) rfl rfl rfl ?_
 intro C x
 refine x.pure rfl tR rfl (Sb s hs) ⟨rfl,tR⟩ ?_
 refine x.cond rfl tR (fun h=>?_) (fun h=>?_)
 ·have h:(!decide ((eU s).2.2=0))=true:=h
  have h:¬(eU s).2.2=0:=by simpa using h
  rw[bX,if_neg h]
  refine x.every (.fork 0 (.fork 1 (.fork 2 (.fork 3 (.fork 4 (.fork 5 .leaf .no) .no) .no) (.fork 3 (.fork 2 (.fork 4 (.fork 5 .leaf .no) .no) (.fork 4 (.fork 2 (.fork 5 .leaf .no) .no) .no)) .no)) (.fork 2 (.fork 1 (.fork 3 (.fork 4 (.fork 5 .leaf .no) .no) .no) (.fork 3 (.fork 1 (.fork 4 (.fork 5 .leaf .no) .no) .no) .no)) (.fork 3 (.fork 1 (.fork 2 (.fork 4 (.fork 5 .leaf .no) .no) (.fork 4 (.fork 2 (.fork 5 .leaf .no) .no) .no)) (.fork 2 (.fork 1 (.fork 4 (.fork 5 .leaf .no) .no) .no) .no)) .no))) (.fork 1 (.fork 0 (.fork 2 (.fork 3 (.fork 4 (.fork 5 .leaf .no) .no) .no) (.fork 3 (.fork 2 (.fork 4 (.fork 5 .leaf .no) .no) (.fork 4 (.fork 2 (.fork 5 .leaf .no) .no) .no)) .no)) (.fork 2 (.fork 0 (.fork 3 (.fork 4 (.fork 5 .leaf .no) .no) .no) .no) .no)) (.fork 2 (.fork 0 (.fork 1 (.fork 3 (.fork 4 (.fork 5 .leaf .no) .no) .no) (.fork 3 (.fork 1 (.fork 4 (.fork 5 .leaf .no) .no) .no) .no)) (.fork 1 (.fork 0 (.fork 3 (.fork 4 (.fork 5 .leaf .no) .no) .no) .no) .no)) .no))) ⟨[(2, .ptr 0 0),(3, .ptr 1 0),(4, .ptr 2 0)],[(0, .box [.aB, .aB]),(1, .box [vi (eU s).2.1]),(2, .box [vi (eU s).2.2])],3⟩ rfl tR ay (by kernel_rfl) ?_ ?_
  ·repeat' (first | exact tR | exact⟨⟨⟨rfl,rfl⟩,⟨rfl,rfl⟩,⟨rfl,rfl⟩,tR⟩,⟨⟨tR,tR,tR⟩,⟨rfl,tR⟩,⟨rfl,tR⟩,tR⟩,rfl⟩ | refine⟨?_,?_⟩ | refine x.back rfl tR ?_)
  refine Go.ownB 0 0 78 4 (fun i=>AY (([]:List Arr).getD i dY)) rfl rfl ?_
  refine Go.ownB 0 1 82 4 (fun i=>yt (([]:List Fun).getD i bD)) rfl rfl ?_
  refine Sx.Go.freeze 3 ?_
  refine Sx.Go.freeze 4 ?_
  refine x.exit rfl tR ?_
  exact⟨.inr rfl,⟨rfl,rfl,rfl,tR⟩,tR,rfl⟩
 have h:(!decide ((eU s).2.2=0))=false:=h
 have h0:(eU s).2.2=0:=by simpa using h
 have hsm:=A8 h0
 have hl:=E5 s hsm
 rw[bX,if_pos h0]
 obtain⟨l,hL⟩:∃l,(eU s).1=l:=⟨_,rfl⟩
 rw[hL] at hl ⊢
 have hll:=hl.2.1
 refine x.back rfl tR ?_
 refine x.back rfl tR ?_
 refine⟨_,_,3,rfl,rfl,⟨_,Tryz.func43,rfl,by kernel_rfl⟩,fun C1 x1=>?_⟩
 clear x
 obtain⟨a0,ha0⟩:∃a,(eU s).2.1=a:=⟨_,rfl⟩
 obtain⟨e0,he0⟩:∃e,(eU s).2.2=e:=⟨_,rfl⟩
 rw[ha0,he0]
 obtain⟨R,hR⟩:∃R,oz s l (l.length+1) 0 0 ⟨[],[]⟩=R:=⟨_,rfl⟩
 rw[hR]
 refine x1.toLoop rfl tR ?_
 refine Go.ownB 0 0 78 4 (fun i=>AY (([]:List Arr).getD i dY)) rfl rfl ?_
 refine Go.ownB 0 1 82 4 (fun i=>yt (([]:List Fun).getD i bD)) rfl rfl ?_
 refine x1.loop (α:=PLW s l R) (fun y=>⟨[(2, .ptr 0 0),(3, .ptr 1 0),(4, .ptr 2 0),(5,tv l),(6, .ptr 3 0)],[(0, .box [.own 4, .own 5]),(1, .box [vi a0]),(2, .box [vi e0]),(3,pC s l y.n y.c),(4,LA y.p.arrays),(5,qU y.p.funcs)],6⟩) (fun y=>y.f) ⟨l.length+1,0,0,⟨[],[]⟩,by omega,by omega,by omega,by simp,by simp,hR⟩ rfl tR ?_ (fun y=>?_)
 ·exact⟨⟨⟨rfl,rfl⟩,⟨rfl,rfl⟩,⟨rfl,rfl⟩,au rfl,⟨rfl,rfl⟩,tR⟩,⟨⟨rfl,rfl,tR⟩,⟨rfl,tR⟩,⟨rfl,tR⟩,⟨rfl,ah rfl,rfl,rfl,tR⟩,⟨rfl,rfl,rfl,fun j hj=>absurd hj (adp _)⟩,⟨rfl,rfl,rfl,fun j hj=>absurd hj (adp _)⟩,tR⟩,rfl⟩
 obtain⟨f,n,c,p,hf,hn,hc,ha,hp,same⟩:=y
 change Go C1 _ ⟨[(2, .ptr 0 0),(3, .ptr 1 0),(4, .ptr 2 0),(5,tv l),(6, .ptr 3 0)],[(0, .box [.own 4, .own 5]),(1, .box [vi a0]),(2, .box [vi e0]),(3,pC s l n c),(4,LA p.arrays),(5,qU p.funcs)],6⟩ _
 obtain⟨f,rfl⟩:∃f',f=f'+1:=⟨f-1,by omega⟩
 rw[oz] at same
 refine x1.cond rfl tR (fun b=>?_) (fun b=>?_)
 rotate_left
 ·have b:decide ((n:Int)<(l.length:Int))=false:=b
  have b:¬n<l.length:=by simpa using b
  rw[if_neg b] at same
  refine Sx.Go.freeze 4 ?_
  refine Sx.Go.freeze 5 ?_
  refine x1.exit rfl tR ?_
  rw[←same]
  exact⟨.back,[.ptr 0 0, .ptr 1 0, .ptr 2 0],[0,1,2],_,_,_, .inr rfl,fun h=>(by obtain⟨_,h⟩:=h;cases h),fun _ _ _ _ h=>h,Lx 4 p.arrays.length 4 p.funcs.length (fun i=>AY (p.arrays.getD i dY)) (fun i=>yt (p.funcs.getD i bD)) 0 0,⟨⟨rfl,rfl⟩,⟨rfl,rfl⟩,⟨rfl,rfl⟩,tR⟩,rfl,⟨⟨ah rfl,ah rfl,tR⟩,⟨rfl,tR⟩,⟨rfl,tR⟩,tR⟩, .inr rfl,⟨rfl,rfl,rfl,tR⟩,tR,rfl⟩
 have b:decide ((n:Int)<(l.length:Int))=true:=b
 have b:n<l.length:=by simpa using b
 rw[if_pos b] at same
 refine x1.call [3] rfl tR rfl (dA s l n c hl (by omega) 0 (by omega)) rfl ⟨⟨rfl,rfl⟩,rfl,tR⟩ ⟨⟨rfl,ah rfl,rfl,rfl,tR⟩,tR⟩ ?_
 refine x1.cond rfl tR (fun b2=>?_) (fun b2=>?_)
 ·have b2:decide ((txV s l n).data.toList=[97,114,114,97,121])=true:=b2
  have b2:(txV s l n).data.toList=[97,114,114,97,121]:=adi b2
  rw[if_pos b2] at same
  have h5:=nM s l n c (by omega) (p.arrays.length:Int) 16
  by_cases h6:16≤p.arrays.length
  ·rw[if_pos (by omega)] at h5
   rw[if_pos h6] at same
   refine x1.Da [2,3,4] [3] rfl tR rfl h5 ⟨⟨rfl,rfl⟩,rfl,rfl,tR⟩ rfl ⟨⟨rfl,ah rfl,rfl,rfl,tR⟩,tR⟩ ?_
   rw[←same]
   exact⟨.pan Co [(.i64,_),(.i64,_)],[.ptr 0 0, .ptr 1 0, .ptr 2 0],[0,1,2],_,_,_,rfl,fun _=>rfl,fun _ _ _ _ h=>((h.dim 0).dim 1).dim 2,ow (fun i=>AY (([]:List Arr).getD i dY)) (fun i=>yt (([]:List Fun).getD i bD)) _ _,⟨⟨rfl,rfl⟩,⟨rfl,rfl⟩,⟨rfl,rfl⟩,tR⟩,rfl,⟨⟨rfl,rfl,tR⟩,⟨rfl,tR⟩,⟨rfl,tR⟩,tR⟩, .inr rfl,⟨rfl,rfl,rfl,tR⟩,tR,rfl⟩
  rw[if_neg (by omega)] at h5
  rw[if_neg h6] at same
  refine x1.call [3] rfl tR rfl h5 rfl ⟨⟨rfl,rfl⟩,rfl,rfl,tR⟩ ⟨⟨rfl,ah rfl,rfl,rfl,tR⟩,tR⟩ ?_
  have h7:=Ll s l n c hl b
  obtain⟨V,hW⟩:∃V,wT s l n=V:=⟨_,rfl⟩
  rw[hW] at h7 same
  rcases V with⟨a,e⟩ | ⟨n',x'⟩
  ·refine x1.draw [3] [2] [0,1] [3,4] [5,6,7] rfl tR ay (by kernel_rfl) (iD.quiet (by kernel_rfl)) rfl tR (fun C2 x2=>?_)
   refine x2.Da [2,3,4] [3] rfl tR rfl h7 ⟨⟨rfl,rfl⟩,tR⟩ rfl ⟨⟨rfl,ah rfl,rfl,rfl,tR⟩,tR⟩ ⟨⟨_,rfl⟩,rfl,?_⟩
   rw[←same]
   exact⟨.pan Co [(.i64,_),(.i64,_)],[.ptr 0 0, .ptr 1 0, .ptr 2 0],[0,1,2],_,_,_,rfl,fun _=>rfl,fun _ _ _ _ h=>((h.dim 0).dim 1).dim 2,ow (fun i=>AY (([]:List Arr).getD i dY)) (fun i=>yt (([]:List Fun).getD i bD)) _ _,⟨⟨rfl,rfl⟩,⟨rfl,rfl⟩,⟨rfl,rfl⟩,tR⟩,rfl,⟨⟨rfl,rfl,tR⟩,⟨rfl,tR⟩,⟨rfl,tR⟩,tR⟩, .inr rfl,⟨rfl,rfl,rfl,tR⟩,tR,rfl⟩
  ·obtain⟨p1,p2⟩:=aah hW
   simp only[bnd] at same
   refine x1.draw [3] [2] [0,1] [3,4] [5,6,7] rfl tR ay (by kernel_rfl) (iD.quiet (by kernel_rfl)) rfl tR (fun C2 x2=>?_)
   refine x2.call [3] rfl tR rfl h7 rfl ⟨⟨rfl,rfl⟩,tR⟩ ⟨⟨rfl,ah rfl,rfl,rfl,tR⟩,tR⟩ ?_
   refine x2.back rfl tR ?_
   refine x2.back rfl tR ?_
   refine x1.back rfl (by simp only[aj,big];omega) ⟨⟨f,n',c,⟨p.arrays++[x'],p.funcs⟩,by omega,by omega,by omega,by rw[List.length_append];simp only[List.length_cons,List.length_nil];omega,hp,same⟩,by show f<f+1;omega,⟨⟨⟨rfl,rfl⟩,⟨rfl,rfl⟩,⟨rfl,rfl⟩,au rfl,⟨rfl,rfl⟩,tR⟩,⟨⟨rfl,rfl,tR⟩,⟨rfl,tR⟩,⟨rfl,tR⟩,⟨rfl,ah rfl,rfl,rfl,tR⟩,⟨rfl,rfl,by simp,fun j hj=>wC AY 4 (fun _=>rfl) dY p.arrays x' j hj⟩,⟨rfl,rfl,rfl,fun _ _=>rfl⟩,tR⟩,rfl⟩⟩
 ·have b2:decide ((txV s l n).data.toList=[97,114,114,97,121])=false:=b2
  have b1:¬(txV s l n).data.toList=[97,114,114,97,121]:=adj b2
  refine x1.cond rfl tR (fun b2=>?_) (fun b2=>?_)
  ·have b2:decide ((txV s l n).data.toList=[102,110])=true:=b2
   have b2:(txV s l n).data.toList=[102,110]:=adi b2
   rw[if_neg b1] at same
   rw[if_pos b2] at same
   have h5:=nM s l n c (by omega) (p.funcs.length:Int) 64
   by_cases h6:64≤p.funcs.length
   ·rw[if_pos (by omega)] at h5
    rw[if_pos h6] at same
    refine x1.Da [2,3,4] [3] rfl tR rfl h5 ⟨⟨rfl,rfl⟩,rfl,rfl,tR⟩ rfl ⟨⟨rfl,ah rfl,rfl,rfl,tR⟩,tR⟩ ?_
    rw[←same]
    exact⟨.pan Co [(.i64,_),(.i64,_)],[.ptr 0 0, .ptr 1 0, .ptr 2 0],[0,1,2],_,_,_,rfl,fun _=>rfl,fun _ _ _ _ h=>((h.dim 0).dim 1).dim 2,ow (fun i=>AY (([]:List Arr).getD i dY)) (fun i=>yt (([]:List Fun).getD i bD)) _ _,⟨⟨rfl,rfl⟩,⟨rfl,rfl⟩,⟨rfl,rfl⟩,tR⟩,rfl,⟨⟨rfl,rfl,tR⟩,⟨rfl,tR⟩,⟨rfl,tR⟩,tR⟩, .inr rfl,⟨rfl,rfl,rfl,tR⟩,tR,rfl⟩
   rw[if_neg (by omega)] at h5
   rw[if_neg h6] at same
   refine x1.call [3] rfl tR rfl h5 rfl ⟨⟨rfl,rfl⟩,rfl,rfl,tR⟩ ⟨⟨rfl,ah rfl,rfl,rfl,tR⟩,tR⟩ ?_
   have h7:=EZ s l n c hl b hc
   obtain⟨V,hW⟩:∃V,lF s l n c=V:=⟨_,rfl⟩
   rw[hW] at h7 same
   rcases V with⟨a,e⟩ | ⟨n',c',x'⟩
   ·refine x1.draw [3] [2] [0,1] [3,4] [5,6,7] rfl tR ay (by kernel_rfl) (iD.quiet (by kernel_rfl)) rfl tR (fun C2 x2=>?_)
    refine x2.Da [2,3,4] [3] rfl tR rfl h7 ⟨⟨rfl,rfl⟩,tR⟩ rfl ⟨⟨rfl,ah rfl,rfl,rfl,tR⟩,tR⟩ ⟨⟨_,rfl⟩,rfl,?_⟩
    rw[←same]
    exact⟨.pan Co [(.i64,_),(.i64,_)],[.ptr 0 0, .ptr 1 0, .ptr 2 0],[0,1,2],_,_,_,rfl,fun _=>rfl,fun _ _ _ _ h=>((h.dim 0).dim 1).dim 2,ow (fun i=>AY (([]:List Arr).getD i dY)) (fun i=>yt (([]:List Fun).getD i bD)) _ _,⟨⟨rfl,rfl⟩,⟨rfl,rfl⟩,⟨rfl,rfl⟩,tR⟩,rfl,⟨⟨rfl,rfl,tR⟩,⟨rfl,tR⟩,⟨rfl,tR⟩,tR⟩, .inr rfl,⟨rfl,rfl,rfl,tR⟩,tR,rfl⟩
   ·obtain⟨p1,p2,p3⟩:=Qk hc hW
    simp only[bnd] at same
    refine x1.draw [3] [2] [0,1] [3,4] [5,6,7] rfl tR ay (by kernel_rfl) (iD.quiet (by kernel_rfl)) rfl tR (fun C2 x2=>?_)
    refine x2.call [3] rfl tR rfl h7 rfl ⟨⟨rfl,rfl⟩,tR⟩ ⟨⟨rfl,ah rfl,rfl,rfl,tR⟩,tR⟩ ?_
    refine Sx.Go.freeze 6 ?_
    refine Sx.Go.freeze 7 ?_
    refine x2.back rfl tR ?_
    refine x2.back rfl tR ?_
    refine x1.back rfl (by simp only[aj,big];omega) ⟨⟨f,n',c',⟨p.arrays,p.funcs++[x']⟩,by omega,by omega,by omega,ha,by rw[List.length_append];simp only[List.length_cons,List.length_nil];omega,same⟩,by show f<f+1;omega,⟨⟨⟨rfl,rfl⟩,⟨rfl,rfl⟩,⟨rfl,rfl⟩,au rfl,⟨rfl,rfl⟩,tR⟩,⟨⟨rfl,rfl,tR⟩,⟨rfl,tR⟩,⟨rfl,tR⟩,⟨rfl,ah rfl,rfl,rfl,tR⟩,⟨rfl,rfl,rfl,fun _ _=>rfl⟩,⟨rfl,rfl,by simp,fun j hj=>wC yt 4 (fun _=>rfl) bD p.funcs x' j hj⟩,tR⟩,rfl⟩⟩
  ·have b2:decide ((txV s l n).data.toList=[102,110])=false:=b2
   have b3:¬(txV s l n).data.toList=[102,110]:=adj b2
   rw[if_neg b1,if_neg b3] at same
   refine x1.Da [2,3,4] [3] rfl tR rfl (kJ s l n c (by omega) 7) ⟨⟨rfl,rfl⟩,rfl,tR⟩ rfl ⟨⟨rfl,ah rfl,rfl,rfl,tR⟩,tR⟩ ?_
   rw[←same]
   exact⟨.pan Co [(.i64,_),(.i64,_)],[.ptr 0 0, .ptr 1 0, .ptr 2 0],[0,1,2],_,_,_,rfl,fun _=>rfl,fun _ _ _ _ h=>((h.dim 0).dim 1).dim 2,ow (fun i=>AY (([]:List Arr).getD i dY)) (fun i=>yt (([]:List Fun).getD i bD)) _ _,⟨⟨rfl,rfl⟩,⟨rfl,rfl⟩,⟨rfl,rfl⟩,tR⟩,rfl,⟨⟨rfl,rfl,tR⟩,⟨rfl,tR⟩,⟨rfl,tR⟩,tR⟩, .inr rfl,⟨rfl,rfl,rfl,tR⟩,tR,rfl⟩
def lG (f:Nat->Bool):Nat->Nat->Bool
 | 0,_=>true
 | k+1,i=>f i&&lG f k (i+1)
theorem wD {f:Nat->Bool}:∀{k i:Nat},lG f k i=true↔∀j,i≤j->j<i+k->f j=true
 | 0,i=>by simp only[lG,true_iff];intro j h1 h2;omega
 | k+1,i=>by
  simp only[lG,adg,wD]
  constructor
  ·rintro ⟨h1,h2⟩ j h3 h4
   by_cases e:j=i
   ·subst e;exact h1
   ·exact h2 j (by omega) (by omega)
  ·intro h
   exact⟨h i (by omega) (by omega),fun j h3 h4=>h j (by omega) (by omega)⟩
abbrev beq (a b:ByteArray):Bool:=decide (a.data.toList=b.data.toList)
structure AW (f:Nat->Bool) (n:Nat) (R:Bool) where
 i:Nat
 hi:i≤n
 same:lG f (n-i) i=R
theorem AW.step {f:Nat->Bool} {n:Nat} {R:Bool} {i:Nat} (hi:i<n) (same:lG f (n-i) i=R) (h:f i=true):lG f (n-(i+1)) (i+1)=R:=by
 rw[show n-i=(n-(i+1))+1 by omega,lG,h] at same
 simpa using same
theorem AW.stop {f:Nat->Bool} {n:Nat} {R:Bool} {i:Nat} (hi:i<n) (same:lG f (n-i) i=R) (h:f i=false):R=false:=by
 rw[show n-i=(n-(i+1))+1 by omega,lG,h] at same
 simpa using same.symm
theorem AW.fin {f:Nat->Bool} {n:Nat} {R:Bool} {i:Nat} (hi:¬i<n) (hn:i≤n) (same:lG f (n-i) i=R):R=true:=by
 rw[show n-i=0 by omega,lG] at same
 exact same.symm
abbrev ug:Nat:=1000000000000
theorem dB {α:Type} {l:List α} {i:Nat} {d:α} (h:i<l.length):l.getD i d∈l:=by
 rw[adf,adh h]
 exact List.getElem_mem h
theorem A9 (xs:List ByteArray) (sep:ByteArray):(EJ xs sep).data.toList=Lib.join (xs.map (·.data.toList)) sep.data.toList:=by
 simp [EJ]
theorem nN (a sep:ByteArray):EJ [a] sep=a:=wE (by rw[A9,List.map_cons,List.map_nil,Lib.join_one])
where wE {a b:ByteArray} (h:a.data.toList=b.data.toList):a=b:=by rw[ba_eq a,ba_eq b,h]
theorem yu (a b:ByteArray) (l:List ByteArray) (sep:ByteArray):EJ (a::b::l) sep=a++(sep++EJ (b::l) sep):=by
 refine nN.wE ?_
 rw[A9,fJ,fJ,A9]
 simp only[List.map_cons,Lib.join_cons,Lib.joinTail,List.flatten_cons,List.append_assoc]
theorem E8 (s:ByteArray):∀(n p:Nat) (c:Int),s.size≤p+n->0≤c->c≤24->gH s n p c=true->s.size≤p+4*(24-c.toNat)
 | 0,p,c,h,_,_,_=>by omega
 | n+1,p,c,h,h0,h1,hw=>by
  rw[gH] at hw
  split at hw
  ·split at hw
   ·cases hw
   ·split at hw
    ·cases hw
    ·have hd:=bB s p
     have:=E8 s n (p+(Utf8.decode s p).2) (c+1) (by omega) (by omega) (by omega) hw
     omega
  ·omega
theorem Sy {s:ByteArray} (h:Cn s=true):s.size≤96:=by
 have:=E8 s s.size 0 0 (by omega) (by omega) (by omega) h
 omega
def okN (s:ByteArray):Bool:=Cn s&&!pR s
theorem kV {s:ByteArray} (h:okN s=true):s.size≤96:=by
 unfold okN at h
 simp only[adg] at h
 exact Sy h.1
def dZ (l:List ByteArray):Bool:=l.all okN
theorem Ba {l:List ByteArray} (h:dZ l=true):∀a,a∈l->a.size≤96:=fun a ha=>kV (List.all_eq_true.1 h a ha)
def jm (k:Int):Option (Int×Bool×Bool×Bool):=
 if k=1 then some (0,true,false,false) else if k=2 then some (2,true,false,false) else if k=4 then some (1,true,true,false)
 else if k=5 then some (1,true,true,false) else if k=6 then some (2,false,true,false) else if k=7 then some (-1,true,true,false)
 else if k=8 then some (0,true,true,false) else if k=9 then some (1,false,true,false) else if k=10 then some (1,true,true,false)
 else if k=11 then some (0,false,true,false) else if k=12 then some (1,false,true,true) else if k=13 then some (1,false,false,false) else none
def cZ (s:ByteArray) (wanted:Bool):Bool:=wanted&&okN s||!wanted&&decide (s.data.toList=[])
def opName (o:Int):ByteArray:=if 13≤o then .empty else opAt o.toNat
def bS (x:Ins):Bool:=
 if (decide (x.op≠0) != decide (x.kind=2))||(decide (x.op≠0)&&decide ((opName x.op).data.toList=[]))||(decide (x.num≠0)&&decide (x.kind≠1))||!dZ x.args||!dZ x.frm then false
 else if x.kind=3 then okN x.dst&&decide (x.ref.data.toList=[])&&decide (x.alt.data.toList=[])&&decide (x.frm.length=x.args.length)&&decide (1≤x.frm.length)&&decide (x.frm.length≤64)
 else match jm x.kind with
  | none=>false
  | some (n,d,r,a)=>!(decide (0<x.frm.length)||(decide (0≤n)&&decide ((x.args.length:Int)≠n))||decide (6<x.args.length))&&(cZ x.dst d&&cZ x.ref r&&cZ x.alt a)
abbrev spS:ByteArray:=⟨#[32]⟩
theorem acQ (a b c d s:ByteArray):EJ [a,b,c,d] s=a++(s++(b++(s++(c++(s++d))))):=by rw[yu,yu,yu,nN]
theorem HZ {n:Int} (h:ak n):(jD n).size≤20:=by
 unfold ak at h
 have hd:=uV 19 n.natAbs (by omega)
 unfold jD sgV
 show (ba _).size≤20
 have hs:∀l:List UInt8,(ba l).size=l.length:=fun l=>by show l.toArray.size=l.length;simp
 rw[hs,List.length_append]
 by_cases h0:n<0
 ·rw[if_pos h0]
  have hd2:=uV 18 n.natAbs (by omega)
  simp only[List.length_cons,List.length_nil];omega
 ·rw[if_neg h0];simp only[List.length_nil];omega
structure aaj (x:Ins):Prop where
 dst:x.dst.size≤96
 ref:x.ref.size≤96
 alt:x.alt.size≤96
 args:∀a,a∈x.args->a.size≤96
 frm:∀a,a∈x.frm->a.size≤96
 yw:x.args.length≤64
 zC:x.frm.length≤64
theorem E9 {s:ByteArray} (h:s.data.toList=[]):s.size=0:=by rw[iW,h];rfl
theorem Bb {s:ByteArray} {b:Bool} (h:cZ s b=true):s.size≤96:=by
 unfold cZ at h
 cases b with
 | true=>simp at h;exact kV h
 | false=>simp at h;rw[E9 (by simpa using h)];omega
theorem LD {x:Ins} (h:bS x=true):aaj x:=by
 unfold bS at h
 split at h
 ·cases h
 rename_i h0
 simp only[Bool.or_eq_true,not_or,Bool.not_eq_true,Bool.not_eq_false'] at h0
 obtain⟨⟨⟨_,_⟩,ha⟩,hf⟩:=h0
 have ha:=Ba ha
 have hf:=Ba hf
 split at h
 ·simp only[adg,adn] at h
  obtain⟨⟨⟨⟨⟨h1,h2⟩,h3⟩,h4⟩,h5⟩,h6⟩:=h
  exact⟨kV h1,by rw[E9 h2];omega,by rw[E9 h3];omega,ha,hf,by omega,h6⟩
 ·split at h
  ·cases h
  ·rename_i n d r a hs
   simp only[adg,adt,adw,adr] at h
   obtain⟨⟨⟨h1,h2⟩,h3⟩,⟨h4,h5⟩,h6⟩:=h
   exact⟨Bb h4,Bb h5,Bb h6,ha,hf,by omega,by omega⟩
def kK (a:Arr):Bool:=!(!okN a.name||!okN a.level||decide (a.size<1)||decide (256<a.size))
def oC (b:Blk):Bool:=okN b.name&&b.code.all bS
def kL (f:Fun):Bool:=!(!okN f.name||!dZ f.params||decide (6<f.params.length)||decide (f.blocks.length<1)||decide (64<f.blocks.length))&&f.blocks.all oC
def iF (fs:List Fun):Nat:=(fs.map fun f=>(f.blocks.map fun b=>b.code.length).sum).sum
def rightG (p:Prg):Bool:=!(decide (16<p.arrays.length)||decide (64<p.funcs.length))&&p.arrays.all kK&&p.funcs.all kL&&decide (iF p.funcs≤4096)
def Ql (a:Arr):ByteArray:=EJ [⟨#[97,114,114,97,121]⟩,a.name,jD a.size,a.level] spS
def KX (acc l:ByteArray):ByteArray:=acc++(l++(⟨#[10]⟩:ByteArray))
def dSs (l:List ByteArray):D:=.sl 1 l.length fun i=>[.str (l.getD i .empty)]
abbrev Chan:=ByteArray×Int
def aZ:Chan:=(.empty,0)
def dChs (l:List Chan):D:=.sl 2 l.length fun i=>[.str (l.getD i aZ).1, .int .i64 (l.getD i aZ).2]
abbrev vSs (l:List ByteArray):V:=.d (dSs l)
abbrev jC (l:List Chan):V:=.d (dChs l)
def sJ (p:Nat->Bool):Nat->Nat->Int
 | 0,_=>-1
 | n+1,i=>if p i then (i:Int) else sJ p n (i+1)
theorem yx {p:Nat->Bool}:∀{n i:Nat},sJ p n i=-1∨((i:Int)≤sJ p n i∧sJ p n i<(i:Int)+n)
 | 0,_=>.inl rfl
 | n+1,i=>by
  rw[sJ]
  split
  ·right;omega
  ·rcases yx (p:=p) (n:=n) (i:=i+1) with h | h
   ·exact .inl h
   ·right;omega
def bE (l:List ByteArray) (s:ByteArray):Int:=sJ (fun i=>decide ((l.getD i .empty).data.toList=s.data.toList)) l.length 0
def fV (l:List Chan) (s:ByteArray):Int:=sJ (fun i=>decide ((l.getD i aZ).1.data.toList=s.data.toList)) l.length 0
theorem LG (s:ByteArray):Pure PG 101 [vs s] (vs s) []:=by
 refine aI.mk (cfg 4) av [] Tryz.func101 rfl (by kernel_rfl) rfl rfl rfl ?_
 intro C x
 exact x.exit rfl tR ⟨.inr rfl,rfl,tR,rfl⟩
theorem LH (s:ByteArray) (k:Int):Pure PG 121 [.agg [vs s,vi k]] (vs s) []:=by
 refine aI.mk (cfg 5) av [] Tryz.func121 rfl (by kernel_rfl) rfl rfl rfl ?_
 intro C x
 exact x.exit rfl tR ⟨.inr rfl,rfl,tR,rfl⟩
abbrev CB (f:Nat) (s:ByteArray):List Ch:=[.box [.fn f []], .box [vs s]]
theorem VJ (t s:ByteArray):aI PG 156 2 [vs t, .ptr 0 0, .ptr 1 0] (CB 101 s) (vb (decide (t.data.toList=s.data.toList))) (CB 101 s):=by
 refine aI.mk (dG 10 2) av [0,1] Tryz.func156 rfl (by kernel_rfl) rfl rfl rfl ?_
 intro C x
 refine x.quiet rfl tR ay (by kernel_rfl) ?_
 refine x.qL rfl tR rfl (LG t) rfl rfl ⟨rfl,tR⟩ ?_
 refine x.dW rfl tR ?_
 exact x.exit rfl tR ⟨.inr rfl,rfl,⟨⟨rfl,tR⟩,⟨rfl,tR⟩,tR⟩,rfl⟩
theorem VK (c:Chan) (s:ByteArray):aI PG 166 2 [.agg [vs c.1,vi c.2], .ptr 0 0, .ptr 1 0] (CB 121 s) (vb (decide (c.1.data.toList=s.data.toList))) (CB 121 s):=by
 refine aI.mk (dG 10 2) av [0,1] Tryz.func166 rfl (by kernel_rfl) rfl rfl rfl ?_
 intro C x
 refine x.quiet rfl tR ay (by kernel_rfl) ?_
 refine x.qL rfl tR rfl (LH c.1 c.2) rfl rfl ⟨⟨rfl,rfl,tR⟩,tR⟩ ?_
 refine x.dW rfl tR ?_
 exact x.exit rfl tR ⟨.inr rfl,rfl,⟨⟨rfl,tR⟩,⟨rfl,tR⟩,tR⟩,rfl⟩
theorem LJ (l:List ByteArray) (s:ByteArray) (hl:ak (l.length:Int)):aI PG 155 2 [vSs l, .fn 156 [.ptr 0 0, .ptr 1 0]] (CB 101 s) (vi (bE l s)) (CB 101 s):=by
 refine aI.mk (dG 19 2) av [0,1] Tryz.func155 rfl (by kernel_rfl) rfl rfl rfl ?_
 intro C x
 unfold ak at hl
 refine x.loop (α:={i:Nat // i≤l.length∧sJ (fun i=>decide ((l.getD i .empty).data.toList=s.data.toList)) (l.length-i) i=bE l s}) (fun y=>⟨[(0,vSs l),(1, .fn 156 [.ptr 0 0, .ptr 1 0]),(7,vi (l.length:Int)),(8,vi (y.1:Int))],[(0, .box [.fn 101 []]),(1, .box [vs s])],2⟩) (fun y=>l.length-y.1) ⟨0,by omega,rfl⟩ rfl tR ?_ (fun y=>?_)
 ·exact⟨⟨au rfl,rfl,rfl,rfl,tR⟩,⟨⟨rfl,tR⟩,⟨rfl,tR⟩,tR⟩,rfl⟩
 obtain⟨i,hi,hsame⟩:=y
 change Go C _ ⟨[(0,vSs l),(1, .fn 156 [.ptr 0 0, .ptr 1 0]),(7,vi (l.length:Int)),(8,vi (i:Int))],[(0, .box [.fn 101 []]),(1, .box [vs s])],2⟩ _
 refine x.cond rfl tR (fun h1=>?_) (fun h1=>?_)
 ·have h1:i<l.length:=by have:=adi h1;omega
  rw[show l.length-i=(l.length-(i+1))+1 by omega,sJ] at hsame
  refine x.call [0,1] rfl ?_ rfl (VJ (l.getD i .empty) s) rfl ⟨rfl,⟨rfl,rfl⟩,⟨rfl,rfl⟩,tR⟩ ⟨⟨rfl,tR⟩,⟨rfl,tR⟩,tR⟩ ?_
  ·simp only[aj];omega
  refine x.cond rfl tR (fun h2=>?_) (fun h2=>?_)
  ·rw[if_pos h2] at hsame
   refine x.exit rfl tR ⟨.inr rfl,?_,⟨⟨rfl,tR⟩,⟨rfl,tR⟩,tR⟩,rfl⟩
   show aG (vi (i:Int)) (vi (bE l s))
   rw[hsame];exact rfl
  ·rw[if_neg (by rw[h2];simp)] at hsame
   refine x.back rfl ?_ ⟨⟨i+1,by omega,hsame⟩,by show l.length-(i+1)<l.length-i;omega,⟨au rfl,rfl,rfl,(show aG (vi ((i:Int)+1)) (vi ((i+1:Nat):Int)) by rw[ads];rfl),tR⟩,⟨⟨rfl,tR⟩,⟨rfl,tR⟩,tR⟩,rfl⟩
   simp only[aj,ak];omega
 ·have h1:i=l.length:=by have:=adj h1;omega
  refine x.exit rfl tR ⟨.inr rfl,?_,⟨⟨rfl,tR⟩,⟨rfl,tR⟩,tR⟩,rfl⟩
  show aG (vi (-1)) (vi (bE l s))
  rw[←hsame,show l.length-i=0 by omega];exact rfl
theorem LK (l:List Chan) (s:ByteArray) (hl:ak (l.length:Int)):aI PG 165 2 [jC l, .fn 166 [.ptr 0 0, .ptr 1 0]] (CB 121 s) (vi (fV l s)) (CB 121 s):=by
 refine aI.mk (dG 19 2) av [0,1] Tryz.func165 rfl (by kernel_rfl) rfl rfl rfl ?_
 intro C x
 unfold ak at hl
 refine x.loop (α:={i:Nat // i≤l.length∧sJ (fun i=>decide ((l.getD i aZ).1.data.toList=s.data.toList)) (l.length-i) i=fV l s}) (fun y=>⟨[(0,jC l),(1, .fn 166 [.ptr 0 0, .ptr 1 0]),(7,vi (l.length:Int)),(8,vi (y.1:Int))],[(0, .box [.fn 121 []]),(1, .box [vs s])],2⟩) (fun y=>l.length-y.1) ⟨0,by omega,rfl⟩ rfl tR ?_ (fun y=>?_)
 ·exact⟨⟨au rfl,rfl,rfl,rfl,tR⟩,⟨⟨rfl,tR⟩,⟨rfl,tR⟩,tR⟩,rfl⟩
 obtain⟨i,hi,hsame⟩:=y
 change Go C _ ⟨[(0,jC l),(1, .fn 166 [.ptr 0 0, .ptr 1 0]),(7,vi (l.length:Int)),(8,vi (i:Int))],[(0, .box [.fn 121 []]),(1, .box [vs s])],2⟩ _
 refine x.cond rfl tR (fun h1=>?_) (fun h1=>?_)
 ·have h1:i<l.length:=by have:=adi h1;omega
  rw[show l.length-i=(l.length-(i+1))+1 by omega,sJ] at hsame
  refine x.call [0,1] rfl ?_ rfl (VK (l.getD i aZ) s) rfl ⟨⟨rfl,rfl,tR⟩,⟨rfl,rfl⟩,⟨rfl,rfl⟩,tR⟩ ⟨⟨rfl,tR⟩,⟨rfl,tR⟩,tR⟩ ?_
  ·simp only[aj];omega
  refine x.cond rfl tR (fun h2=>?_) (fun h2=>?_)
  ·rw[if_pos h2] at hsame
   refine x.exit rfl tR ⟨.inr rfl,?_,⟨⟨rfl,tR⟩,⟨rfl,tR⟩,tR⟩,rfl⟩
   show aG (vi (i:Int)) (vi (fV l s))
   rw[hsame];exact rfl
  ·rw[if_neg (by rw[h2];simp)] at hsame
   refine x.back rfl ?_ ⟨⟨i+1,by omega,hsame⟩,by show l.length-(i+1)<l.length-i;omega,⟨au rfl,rfl,rfl,(show aG (vi ((i:Int)+1)) (vi ((i+1:Nat):Int)) by rw[ads];rfl),tR⟩,⟨⟨rfl,tR⟩,⟨rfl,tR⟩,tR⟩,rfl⟩
   simp only[aj,ak];omega
 ·have h1:i=l.length:=by have:=adj h1;omega
  refine x.exit rfl tR ⟨.inr rfl,?_,⟨⟨rfl,tR⟩,⟨rfl,tR⟩,tR⟩,rfl⟩
  show aG (vi (-1)) (vi (fV l s))
  rw[←hsame,show l.length-i=0 by omega];exact rfl
def Fa (k:Int):V:=.tup [vi (if 0 > k then 0 else k),vb (decide (0≤k))]
theorem Ot (l:List ByteArray) (s:ByteArray) (hl:ak (l.length:Int)):Pure PG 100 [vSs l, .fn 101 [],vs s] (Fa (bE l s)) []:=by
 refine aI.mk (cfg 16) av [] Tryz.func100 rfl (by kernel_rfl) rfl rfl rfl ?_
 intro C x
 refine x.call [0,1] rfl tR rfl (LJ l s hl) rfl ⟨au rfl,rfl,tR⟩ ⟨⟨rfl,tR⟩,⟨rfl,tR⟩,tR⟩ ?_
 exact x.exit rfl tR ⟨.inr rfl,⟨rfl,rfl,tR⟩,tR,rfl⟩
theorem oD (l:List Chan) (s:ByteArray) (hl:ak (l.length:Int)):Pure PG 120 [jC l, .fn 121 [],vs s] (Fa (fV l s)) []:=by
 refine aI.mk (cfg 16) av [] Tryz.func120 rfl (by kernel_rfl) rfl rfl rfl ?_
 intro C x
 refine x.call [0,1] rfl tR rfl (LK l s hl) rfl ⟨au rfl,rfl,tR⟩ ⟨⟨rfl,tR⟩,⟨rfl,tR⟩,tR⟩ ?_
 exact x.exit rfl tR ⟨.inr rfl,⟨rfl,rfl,tR⟩,tR,rfl⟩
theorem jo (l:List ByteArray) (s:ByteArray) (hl:ak (l.length:Int)):Pure PG 52 [.agg [vSs l, .dead, .dead, .dead, .dead],vs s] (Fa (bE l s)) []:=by
 refine aI.mk (cfg 12) av [] Tryz.func52 rfl (by kernel_rfl) rfl rfl rfl ?_
 intro C x
 refine x.pure rfl tR rfl (Ot l s hl) ⟨au rfl,rfl,rfl,tR⟩ ?_
 exact x.exit rfl tR ⟨.inr rfl,⟨rfl,rfl,tR⟩,tR,rfl⟩
theorem Ou (l:List Chan) (s:ByteArray) (hl:ak (l.length:Int)):Pure PG 184 [.agg [.dead, .dead,jC l, .dead, .dead],vs s] (Fa (fV l s)) []:=by
 refine aI.mk (cfg 12) av [] Tryz.func184 rfl (by kernel_rfl) rfl rfl rfl ?_
 intro C x
 refine x.pure rfl tR rfl (oD l s hl) ⟨au rfl,rfl,rfl,tR⟩ ?_
 exact x.exit rfl tR ⟨.inr rfl,⟨rfl,rfl,tR⟩,tR,rfl⟩
theorem LM (l:List Chan) (s:ByteArray) (hl:ak (l.length:Int)):Pure PG 185 [.agg [.dead, .dead, .dead,jC l, .dead],vs s] (Fa (fV l s)) []:=by
 refine aI.mk (cfg 12) av [] Tryz.func185 rfl (by kernel_rfl) rfl rfl rfl ?_
 intro C x
 refine x.pure rfl tR rfl (oD l s hl) ⟨au rfl,rfl,rfl,tR⟩ ?_
 exact x.exit rfl tR ⟨.inr rfl,⟨rfl,rfl,tR⟩,tR,rfl⟩
def jq (s:ByteArray):Bool:=gH s s.size 0 0&&!pR s
theorem yA (s:ByteArray) (hs:s.size≤9223372036854775807):Pure PG 71 [vs s] (vb (jq s)) []:=by
 refine aI.mk (cfg 10) av [] Tryz.func71 rfl (by kernel_rfl) rfl rfl rfl ?_
 intro C x
 refine x.pure rfl tR rfl (AB s hs) ⟨rfl,tR⟩ ?_
 refine x.gW rfl tR rfl (fun _=>AJ s) rfl ⟨rfl,tR⟩ ?_
 exact x.exit rfl tR ⟨.inr rfl,rfl,tR,rfl⟩
abbrev M64:=BitVec 64
abbrev dm (x:M64):D:=.int .u64 (x.toNat:Int)
abbrev vm (x:M64):V:=.d (dm x)
theorem wrap_u64 (n:Int):IntKind.u64.wrap n=n%18446744073709551616:=rfl
theorem Fb {n:Nat} (h:n<18446744073709551616):IntKind.u64.wrap (n:Int)=n:=by
 rw[wrap_u64];omega
theorem toNat_lt (x:M64):x.toNat<18446744073709551616:=x.isLt
theorem Jq (x:M64):BitVec.ofInt IntKind.u64.bits (x.toNat:Int)=x:=by
 show BitVec.ofInt 64 (x.toNat:Int)=x
 apply BitVec.eq_of_toNat_eq
 rw[BitVec.toNat_ofInt]
 have:=toNat_lt x
 show ((x.toNat:Int)%((2 ^ 64:Nat):Int)).toNat=x.toNat
 omega
theorem Qm (x y:M64):jJ .and .u64 (x.toNat:Int) (y.toNat:Int)=((x&&& y).toNat:Int):=by
 unfold jJ
 simp only[Jq]
 exact Fb (toNat_lt _)
theorem aak (x y:M64):jJ .or .u64 (x.toNat:Int) (y.toNat:Int)=((x||| y).toNat:Int):=by
 unfold jJ
 simp only[Jq]
 exact Fb (toNat_lt _)
theorem VL (x y:M64):jJ .andNot .u64 (x.toNat:Int) (y.toNat:Int)=((x&&& ~~~y).toNat:Int):=by
 unfold jJ
 simp only[Jq]
 exact Fb (toNat_lt _)
theorem aal (x:M64):IntKind.u64.wrap ((x.toNat:Int)-1)=((x-1#64).toNat:Int):=by
 rw[wrap_u64,BitVec.toNat_sub]
 have:=toNat_lt x
 show ((x.toNat:Int)-1)%18446744073709551616=(((2 ^ 64-1+x.toNat)%2 ^ 64:Nat):Int)
 omega
theorem acR (x:M64):IntKind.u64.wrap (0-(x.toNat:Int))=((-x).toNat:Int):=by
 rw[wrap_u64,BitVec.toNat_neg]
 have:=toNat_lt x
 show (0-(x.toNat:Int))%18446744073709551616=(((2 ^ 64-x.toNat)%2 ^ 64:Nat):Int)
 omega
theorem acS (x y:M64):IntKind.u64.wrap ((x.toNat:Int)*(y.toNat:Int))=((x*y).toNat:Int):=by
 rw[wrap_u64,BitVec.toNat_mul]
 show ((x.toNat:Int)*(y.toNat:Int))%18446744073709551616=(((x.toNat*y.toNat)%2 ^ 64:Nat):Int)
 rw[Int.natCast_emod,Int.natCast_mul]
 rfl
theorem Y1 {i:Nat} (hi:i<64):IntKind.u64.wrap (1*2 ^ (min ((i:Int)).toNat IntKind.u64.bits))=((1#64 <<< i).toNat:Int):=by
 rw[wrap_u64,BitVec.toNat_shiftLeft]
 have e:min ((i:Int)).toNat IntKind.u64.bits=i:=by
  show min i 64=i
  omega
 rw[e,Int.one_mul]
 show (2:Int) ^ i%18446744073709551616=(((1 <<< i)%2 ^ 64:Nat):Int)
 rw[Nat.shiftLeft_eq,Nat.one_mul,Int.natCast_emod,Int.natCast_pow]
 rfl
theorem Y2 (x:M64) {i:Nat} (hi:i<64):((x.toNat:Int)).fdiv (2 ^ (min ((i:Int)).toNat IntKind.u64.bits))=((x >>> i).toNat:Int):=by
 rw[BitVec.toNat_ushiftRight]
 have e:min ((i:Int)).toNat IntKind.u64.bits=i:=by
  show min i 64=i
  omega
 rw[e,Nat.shiftRight_eq_div_pow,Int.fdiv_eq_ediv_of_nonneg _ (Int.pow_nonneg (by omega)),Int.natCast_ediv,Int.natCast_pow]
 rfl
abbrev bit (x:M64) (i:Nat):Bool:=x.getLsbD i
theorem vo {x y:M64} (h:∀i,i<64->bit x i=bit y i):x=y:=BitVec.eq_of_getLsbD_eq h
theorem sK (x:M64) {i:Nat} (h:64≤i):bit x i=false:=BitVec.getLsbD_of_ge x i h
def one (i:Nat):M64:=1#64 <<< i
theorem sM {i j:Nat} (hi:i<64):bit (one i) j=decide (j=i):=by
 unfold bit one
 rw[BitVec.getLsbD_shiftLeft]
 by_cases h:j=i
 ·subst h;simp [hi]
 ·by_cases h2:j<i
  ·simp [h,h2]
  ·have:0<j-i:=by omega
   by_cases h3:j<64
   ·simp [h,h2,h3,BitVec.getLsbD_one];omega
   ·simp [h,h3]
theorem Jr (x y:M64) (i:Nat):bit (x&&& y) i=(bit x i&&bit y i):=BitVec.getLsbD_and
theorem Bc (x y:M64) (i:Nat):bit (x||| y) i=(bit x i||bit y i):=BitVec.getLsbD_or
theorem sN (x y:M64) {i:Nat}:bit (x&&& ~~~y) i=(bit x i&&!bit y i):=by
 unfold bit
 rw[BitVec.getLsbD_and,BitVec.getLsbD_not]
 by_cases h:i<64
 ·simp [h]
 ·rw[BitVec.getLsbD_of_ge x i (by omega)];rfl
theorem Ov {x:M64}:x=0#64↔∀i,i<64->bit x i=false:=by
 constructor
 ·rintro rfl i _;exact BitVec.getLsbD_zero
 ·intro h;exact vo fun i hi=>by rw[h i hi];exact BitVec.getLsbD_zero.symm
theorem toNat_zero_iff {x:M64}:((x.toNat:Int)=0)↔x=0#64:=by
 constructor
 ·intro h;apply BitVec.eq_of_toNat_eq;show x.toNat=0;omega
 ·rintro rfl;rfl
theorem Sz (x:M64) {i:Nat}:decide ((((x >>> i)&&& 1#64).toNat:Int)=1)=bit x i:=by
 have h:((x >>> i)&&& 1#64).toNat=if bit x i then 1 else 0:=by
  have e:(x >>> i)&&& 1#64=if bit x i then 1#64 else 0#64:=by
   apply BitVec.eq_of_getLsbD_eq
   intro j hj
   rw[BitVec.getLsbD_and,BitVec.getLsbD_ushiftRight,BitVec.getLsbD_one]
   unfold bit
   by_cases h0:j=0
   ·subst h0;cases hb:x.getLsbD i<;>simp [hb]
   ·cases hb:x.getLsbD i<;>simp [h0,BitVec.getLsbD_one]
  rw[e];split<;>rfl
 rw[h]
 cases bit x i<;>rfl
def tz (x:M64):Nat:=((List.range 64).find? fun i=>bit x i).getD 64
def bits (x:M64):List Nat:=(List.range 64).filter fun i=>bit x i
theorem kW {x:M64} {i:Nat}:i∈bits x↔bit x i=true:=by
 unfold bits
 rw[List.mem_filter,List.mem_range]
 constructor
 ·exact fun h=>h.2
 ·intro h
  refine⟨?_,h⟩
  by_cases hi:i<64
  ·exact hi
  ·rw[sK x (by omega)] at h;cases h
theorem find_range {p:Nat->Bool}:∀{n k:Nat},(List.range n).find? p=some k↔k<n∧p k=true∧∀j,j<k->p j=false:=by
 intro n k
 rw[List.find?_range_eq_some]
 simp only[List.mem_range,adt,Bool.not_eq_eq_eq_not,Bool.not_true]
 constructor
 ·rintro ⟨h1,h2,h3⟩;exact⟨h2,h1,h3⟩
 ·rintro ⟨h1,h2,h3⟩;exact⟨h2,h1,h3⟩
theorem wF {x:M64} (h:x≠0#64):tz x<64∧bit x (tz x)=true∧∀j,j<tz x->bit x j=false:=by
 have hex:∃k,(List.range 64).find? (fun i=>bit x i)=some k:=by
  cases hf:(List.range 64).find? (fun i=>bit x i) with
  | some k=>exact⟨k,rfl⟩
  | none=>
   exfalso
   rw[List.find?_eq_none] at hf
   refine h (Ov.2 fun i hi=>?_)
   have:=hf i (List.mem_range.2 hi)
   simpa using this
 obtain⟨k,hk⟩:=hex
 have e:tz x=k:=by unfold tz;rw[hk];rfl
 rw[e]
 exact find_range.1 hk
theorem SA {x:M64} (h:x≠0#64):∃q,x.toNat=2 ^ (tz x+1)*q+2 ^ tz x:=by
 obtain⟨h1,h2,h3⟩:=wF h
 generalize hk:tz x=k at *
 refine⟨x.toNat/2 ^ (k+1),?_⟩
 have hmod:x.toNat%2 ^ (k+1)=2 ^ k:=by
  apply Nat.eq_of_testBit_eq
  intro j
  rw[Nat.testBit_mod_two_pow,Nat.testBit_two_pow]
  by_cases hj:j<k+1
  ·simp only[hj,decide_true,Bool.true_and]
   by_cases hjk:k=j
   ·subst hjk;simp only[decide_true];exact h2
   ·have:j<k:=by omega
    simp only[hjk,decide_false]
    exact h3 j this
  ·have:¬k=j:=by omega
   simp [hj,this]
 have:=Nat.div_add_mod x.toNat (2 ^ (k+1))
 omega
theorem LP {x:M64} (h:x≠0#64) {i:Nat} (hi:i<64):bit (x-1#64) i=if i<tz x then true else if i=tz x then false else bit x i:=by
 obtain⟨q,hq⟩:=SA h
 obtain⟨h1,h2,h3⟩:=wF h
 generalize hk:tz x=k at *
 have hpos:0<2 ^ k:=Nat.two_pow_pos k
 have e:(x-1#64).toNat=2 ^ (k+1)*q+(2 ^ k-1):=by
  rw[BitVec.toNat_sub]
  have hx:=toNat_lt x
  show (2 ^ 64-1+x.toNat)%2 ^ 64=_
  omega
 have hlt:2 ^ k-1<2 ^ (k+1):=by rw[Nat.pow_succ];omega
 have hlt2:2 ^ k<2 ^ (k+1):=by rw[Nat.pow_succ];omega
 show (x-1#64).toNat.testBit i=if i<k then true else if i=k then false else x.toNat.testBit i
 rw[e,hq,Nat.testBit_two_pow_mul_add _ hlt,Nat.testBit_two_pow_mul_add _ hlt2,Nat.testBit_two_pow_sub_one,Nat.testBit_two_pow]
 by_cases c1:i<k
 ·simp [c1,show i<k+1 by omega]
 ·by_cases c2:i=k
  ·subst c2;simp
  ·simp [c1,c2,show ¬i<k+1 by omega]
theorem Fe {x:M64} (h:x≠0#64) {i:Nat} (hi:i<64):bit (x&&& (x-1#64)) i=(bit x i&&!decide (i=tz x)):=by
 rw[Jr,LP h hi]
 obtain⟨h1,h2,h3⟩:=wF h
 by_cases c1:i<tz x
 ·rw[h3 i c1];rfl
 ·by_cases c2:i=tz x
  ·simp [c2]
  ·simp [c1,c2]
theorem X0 {x:M64} (h:x≠0#64):x&&& (-x)=one (tz x):=by
 obtain⟨h1,h2,h3⟩:=wF h
 have e:-x = ~~~(x-1#64):=by
  have:=BitVec.neg_eq_not_add x
  apply BitVec.eq_of_toNat_eq
  rw[BitVec.toNat_neg,BitVec.toNat_not,BitVec.toNat_sub]
  have hx:=toNat_lt x
  have h0:x.toNat≠0:=fun h0=>h (by apply BitVec.eq_of_toNat_eq;exact h0)
  show (2 ^ 64-x.toNat)%2 ^ 64=2 ^ 64-1-(2 ^ 64-1+x.toNat)%2 ^ 64
  omega
 rw[e]
 refine vo fun i hi=>?_
 rw[sN,LP h hi,sM h1]
 by_cases c1:i<tz x
 ·rw[h3 i c1];simp;omega
 ·by_cases c2:i=tz x
  ·rw[c2,h2];simp
  ·simp [c1,c2]
theorem SB {x:M64} (h:x≠0#64):bits x=tz x::bits (x&&& (x-1#64)):=by
 obtain⟨h1,h2,h3⟩:=wF h
 have e:List.range 64=List.range (tz x)++tz x::(List.range (63-tz x)).map (fun i=>tz x+1+i):=by
  have:List.range 64=List.range (tz x+(1+(63-tz x))):=by congr 1;omega
  rw[this,List.range_add,List.range_add]
  simp [List.range_succ,List.map_map]
  intro a _
  omega
 unfold bits
 have f:∀(p:Nat->Bool),(∀j,j<tz x->p j=false)->(List.range (tz x)).filter p=[]:=fun p hp=>List.filter_eq_nil_iff.2 fun j hj=>by rw[hp j (List.mem_range.1 hj)];simp
 rw[e,List.filter_append,List.filter_append,f _ h3,f (fun i=>bit (x&&& (x-1#64)) i) (fun j hj=>by rw[Fe h (by omega),h3 j hj];rfl),List.nil_append,List.nil_append,List.filter_cons_of_pos h2,List.filter_cons_of_neg (by rw[Fe h h1];simp)]
 congr 1
 refine List.filter_congr fun j hj=>?_
 obtain⟨k,hk,rfl⟩:=List.mem_map.1 hj
 have:=List.mem_range.1 hk
 rw[Fe h (by omega)]
 simp;omega
theorem SC:bits 0#64=[]:=List.filter_eq_nil_iff.2 fun j _=>by simp [bit]
theorem X3 {x:M64} {i:Nat} (h:i∈bits x):i<64:=List.mem_range.1 (List.mem_filter.1 h).1
theorem Ow (x:M64):(bits x).Nodup:=List.nodup_range.filter _
def inM (i:Int):Bool:=decide (0≤i)&&decide (i<64)
theorem CF (i:Int):Pure PG 145 [vi i] (vb (inM i)) []:=by
 refine aI.mk (cfg 9) av [] Tryz.func145 rfl (by kernel_rfl) rfl rfl rfl ?_
 intro C x
 refine x.exit rfl tR ?_
 exact⟨.inr rfl,rfl,tR,rfl⟩
def Gw (m:M64) (i:Int):Bool:=inM i&&bit m i.toNat
theorem vv (m:M64) (i:Nat):Gw m (i:Int)=bit m i:=by
 unfold Gw inM
 by_cases h:i<64
 ·simp;omega
 ·rw[show ((i:Int)).toNat=i by omega,sK m (by omega)];simp
theorem Fg (m:M64) (i:Int):Pure PG 87 [vm m,vi i] (vb (Gw m i)) []:=by
 refine aI.mk (cfg 14) av [] Tryz.func87 rfl (by kernel_rfl) rfl rfl rfl ?_
 intro C x
 refine x.pure rfl tR rfl (CF i) ⟨rfl,tR⟩ ?_
 refine x.exit rfl (by simp only[aj,Ry,imp];intro h;simp [inM] at h;exact h.1) ?_
 refine⟨.inr rfl,?_,tR,rfl⟩
 show aG (.d (.bool _)) (vb (Gw m i))
 refine ah (congrArg D.bool ?_)
 unfold Gw
 cases hi:inM i with
 | false=>rfl
 | true=>
  simp only[inM,adg,adn] at hi
  obtain⟨n,rfl⟩:=Int.eq_ofNat_of_zero_le hi.1
  have e:=Y2 m (i:=n) (by omega)
  have e2:=Qm (m >>> n) 1#64
  show decide (jJ .and .u64 (((m.toNat:Int)).fdiv (2 ^ (min ((n:Int)).toNat IntKind.u64.bits))) 1=1)=_
  rw[e,show (1:Int)=((1#64:M64).toNat:Int) from rfl,e2]
  exact Sz m
def vw (m:M64) (i:Int):M64:=if inM i then m||| one i.toNat else m
theorem Bd (m:M64) (i:Int):Pure PG 86 [vm m,vi i] (vm (vw m i)) []:=by
 refine aI.mk (cfg 12) av [] Tryz.func86 rfl (by kernel_rfl) rfl rfl rfl ?_
 intro C x
 refine x.pure rfl tR rfl (CF i) ⟨rfl,tR⟩ ?_
 refine x.cond rfl tR (fun h=>?_) (fun h=>?_)
 ·have hi:=h
  simp only[inM,adg,adn] at hi
  obtain⟨n,rfl⟩:=Int.eq_ofNat_of_zero_le hi.1
  refine x.exit rfl (by simp only[aj];omega) ?_
  refine⟨.inr rfl,?_,tR,rfl⟩
  refine ah (congrArg (D.int .u64) ?_)
  rw[Y1 (i:=n) (by omega),aak]
  unfold vw
  rw[if_pos h];rfl
 ·refine x.exit rfl tR ?_
  refine⟨.inr rfl,?_,tR,rfl⟩
  unfold vw
  rw[if_neg (by rw[h];simp)]
  exact (show aG (vm m) (vm m) from ah rfl)
def Fh (m:M64) (i:Int):M64:=if inM i then m&&& ~~~ one i.toNat else m
theorem Bf (m:M64) (i:Int) (j:Nat):bit (vw m i) j=(bit m j||decide (j<64∧(j:Int)=i)):=by
 unfold vw
 split
 ·rename_i h
  simp only[inM,adg,adn] at h
  rw[Bc,sM (by omega)]
  congr 1
  simp only[decide_eq_decide]
  omega
 ·rename_i h
  simp only[inM,adg,adn] at h
  have:¬(j<64∧(j:Int)=i):=by omega
  simp [this]
theorem Js (m:M64) (i:Int) (j:Nat):bit (Fh m i) j=(bit m j&&!decide ((j:Int)=i)):=by
 unfold Fh
 split
 ·rename_i h
  simp only[inM,adg,adn] at h
  rw[sN,sM (by omega)]
  congr 2
  simp only[decide_eq_decide]
  omega
 ·rename_i h
  simp only[inM,adg,adn] at h
  by_cases hj:j<64
  ·have:¬((j:Int)=i):=by omega
   simp [this]
  ·rw[sK m (by omega)];rfl
def Bg:Nat->M64
 | 0=>0#64
 | n+1=>Bg n||| one n
def vB (n:Int):Int:=if 64<(if 0 > n then 0 else n) then 64 else if 0 > n then 0 else n
theorem H6 (n:Int):vB n=min (max n 0) 64:=by unfold vB;split<;>split<;>omega
def qy (n:Int):M64:=Bg (vB n).toNat
theorem Fj:∀{n:Nat},n≤64->∀j,bit (Bg n) j=decide (j<n)
 | 0,_,j=>by simp [Bg,bit]
 | n+1,h,j=>by
  rw[Bg,Bc,Fj (by omega),sM (by omega)]
  by_cases h1:j<n
  ·simp [h1];omega
  ·by_cases h2:j=n
   ·simp [h2]
   ·simp [h1,h2];omega
theorem Ox (n:Int) (j:Nat):bit (qy n) j=decide (j<64∧(j:Int)<n):=by
 unfold qy
 have:=H6 n
 rw[Fj (by omega)]
 simp only[decide_eq_decide]
 omega
theorem Oy (n:Int) (hn:ak n):Pure PG 162 [vi n] (vm (qy n)) []:=by
 refine aI.mk (cfg 17) av [] Tryz.func162 rfl (by kernel_rfl) rfl rfl rfl ?_
 intro C x
 unfold ak at hn
 have hcl:=H6 n
 refine x.loop (α:={k:Nat // (k:Int)≤vB n}) (fun y=>⟨[(3,vm (Bg y.1)),(7,vi (vB n)),(8,vi (y.1:Int))],[],0⟩) (fun y=>64-y.1) ⟨0,by omega⟩ rfl tR ?_ (fun y=>?_)
 ·exact⟨⟨rfl,rfl,rfl,tR⟩,tR,rfl⟩
 obtain⟨k,hk⟩:=y
 refine x.cond rfl tR (fun h=>?_) (fun h=>?_)
 ·have h:(k:Int)<vB n:=by simpa using h
  refine x.back rfl (by simp only[aj,ak];omega) ⟨⟨k+1,by omega⟩,by show 64-(k+1)<64-k;omega,?_⟩
  refine⟨⟨ah (congrArg (D.int .u64) ?_),rfl,by show aG (vi ((k:Int)+1)) (vi ((k+1:Nat):Int));rw[ads];rfl,tR⟩,tR,rfl⟩
  rw[Y1 (i:=k) (by omega),aak];rfl
 ·have h:¬(k:Int)<vB n:=by simpa using h
  refine x.exit rfl tR ?_
  refine⟨.inr rfl,ah (congrArg (D.int .u64) ?_),tR,rfl⟩
  unfold qy
  rw[show (vB n).toNat=k by omega]
theorem VN:∀k:Fin 64,xB.getD (((one k.1*285870213051353865#64) >>> 58).toNat) 0=(k.1:Int):=by decide
theorem VO:Je PG.env 4 64 (fun c=>.int .u8 (xB.getD c 0)):=by
 refine⟨fun c=>.int .u8 (xB.getD c 0),?_,fun j hj=>rfl⟩
 show _∈PG.env
 unfold PG
 simp
theorem Gx (m:M64):Pure PG 188 [vm m] (vi (tz m:Int)) []:=by
 refine aI.mk (cfg 14) av [] Tryz.func188 rfl (by kernel_rfl) rfl rfl rfl ?_
 intro C x
 refine x.cond rfl tR (fun h=>?_) (fun h=>?_)
 ·have h:(m.toNat:Int)=0:=by simpa using h
  refine x.exit rfl tR ?_
  refine⟨.inr rfl,?_,tR,rfl⟩
  rw[toNat_zero_iff.1 h]
  exact (show aG (vi 64) (vi ((tz 0#64:Nat):Int)) from rfl)
 ·have h:¬(m.toNat:Int)=0:=by simpa using h
  have h0:m≠0#64:=fun e=>h (toNat_zero_iff.2 e)
  obtain⟨t1,t2,t3⟩:=wF h0
  have e:(IntKind.u64.wrap (jJ .and .u64 (m.toNat:Int) (IntKind.u64.wrap (0-(m.toNat:Int)))*285870213051353865)).fdiv (2 ^ (min (58:Int).toNat IntKind.u64.bits))=(((one (tz m)*285870213051353865#64) >>> 58).toNat:Int):=by
   rw[acR,Qm,X0 h0,show (285870213051353865:Int)=((285870213051353865#64:M64).toNat:Int) from rfl,acS]
   exact Y2 _ (i:=58) (by omega)
  have hb:(((one (tz m)*285870213051353865#64) >>> 58).toNat)<64:=by
   rw[BitVec.toNat_ushiftRight,Nat.shiftRight_eq_div_pow]
   have:=toNat_lt (one (tz m)*285870213051353865#64)
   omega
  refine x.abp (fun c=>.int .u8 (xB.getD c 0)) rfl (by simp only[aj];omega) rfl VO ?_ ?_
  ·rw[e];omega
  have hk:=VN ⟨tz m,t1⟩
  refine x.exit rfl ?_ ?_
  ·show ak _
   rw[e,adv,hk]
   show ak (tz m:Int)
   unfold ak;omega
  refine⟨.inr rfl,?_,tR,rfl⟩
  refine ah (congrArg (D.int .i64) ?_)
  rw[e,adv,hk]
theorem Fp (m:M64):Pure PG 163 [vm m] (.fn 187 [.ptr 0 0]) [.box [vm m]]:=by
 refine aI.mk (cfg 4) av [0] Tryz.func163 rfl (by kernel_rfl) rfl rfl rfl ?_
 intro C x
 refine x.exit rfl tR ?_
 exact⟨.inr rfl,rfl,⟨⟨rfl,tR⟩,tR⟩,rfl⟩
theorem LQ {y:M64} (hy0:y≠0#64):Go.bits BinOp.and IntKind.u64 (y.toNat:Int) ((y.toNat:Int)-1)=((y&&& (y-1#64)).toNat:Int):=by
 rw[←Qm,←aal,wrap_u64]
 have:=toNat_lt y
 have:y.toNat≠0:=fun e=>hy0 (by apply BitVec.eq_of_toNat_eq;exact e)
 rw[Int.emod_eq_of_lt (by omega) (by omega)]
 rfl
theorem Oz (m:M64) (l:Nat) (J Jx:Nat->World->Prop) (W:World) (b:Nat) (hJm:∀k W W',J k W->Mod none W W'->J k W') (hE:∀k W,J k W->∃F',je PG.env F' W∧(∀k,F' k->k<W.heap.size)) (h0:J 0 W)
  (hb:W.cell? ⟨b,0,none⟩=some (.int .u64 (m.toNat:Int)))
  (hY:∀(k:Nat) (i:Nat) W1,(bits m)[k]?=some i->J k W1->YieldAt Fence.wide 7 Tryz.prog l #[.int .i64 (i:Int)] W1 fun e W'=>(e=.returned (.bool true)∧J (k+1) W')∨(e=.returned (.bool false)∧Jx k W')) :
  CallsIn Fence.wide 8 Tryz.prog 187 #[.func (.yield l) #[] #[], .pointer (some ⟨b,0,none⟩)] W fun e W'=>(∃v,e=.returned v)∧(J (bits m).length W'∨∃k,k<(bits m).length∧Jx k W'):=by
 refine callsIn_of_wp Tryz.func187 rfl tR ?_ rfl
 simp only[Tryz.ntmps187,List.size_toArray,List.length_cons,List.length_nil,Nat.reduceAdd,Nat.reduceSub,Array.replicate_succ,Array.replicate_zero,List.push_toArray,List.append_toArray,List.nil_append,List.cons_append]
 gi_wp2
 gi_loopw [3] (fun p wr=>∃(k:Nat) (y:M64),p=.int .u64 (y.toNat:Int)∧k≤(bits m).length∧bits y=(bits m).drop k∧J k wr) (fun p wr=>match p with | .int _ n=>n.toNat | _=>0)
 case atStart=>exact⟨0,m,rfl,Nat.zero_le _,rfl,h0⟩
 case round=>
  obtain⟨k,y,rfl,hkl,hk,hJ⟩:=hrel
  by_cases hy0:y=0#64
  ·subst hy0
   have hkl2:k=(bits m).length:=by
    rw[SC] at hk
    have:=congrArg List.length hk
    simp at this
    omega
   gi_wp2
   go_end0
   exact⟨⟨_,rfl⟩, .inl (hkl2▸hJ)⟩
  ·have hne:¬((y.toNat:Int)=0):=fun e=>hy0 (toNat_zero_iff.1 e)
   have hst:=SB hy0
   have hget:(bits m)[k]?=some (tz y):=by
    have:((bits m).drop k)[0]?=some (tz y):=by rw[←hk,hst];rfl
    simpa using this
   have acT:k<(bits m).length:=(List.getElem?_eq_some_iff.1 hget).1
   obtain⟨F',hE',hF'⟩:=hE k wr hJ
   have hTZ:Calls Tryz.prog 188 #[.int .u64 (y.toNat:Int)] wr fun e w'=>e=.returned (.int .i64 (tz y:Int))∧Sx.Mod none wr w':=by
    refine ((Gx y).2.2.2.2.2 wr F' (fun _=>.bool true) [.int .u64 (y.toNat:Int)] hF' hE' ⟨fun i c hc=>by simp at hc,fun i j b hi=>absurd hi (adp _),fun i b hi=>absurd hi (adp _)⟩ ⟨RD.int _ _,tR⟩).mono ?_
    rintro e w' ⟨v,ρ',F'',rfl,hk,_,_,_,_,hr,_⟩
    refine⟨?_,⟨hk.os,hk.tape,hk.output,hk.size,fun k hlt _=>hk.block k hlt (fun ⟨i,hi,_⟩=>absurd hi (adp _))⟩⟩
    cases (show RD F'' w' (.int .i64 (tz y:Int)) v from hr);rfl
   gi_wp2_with (refine⟨tR,?_⟩;gi_at_call 188;refine (callsIn_wide.2 hTZ).mono ?_;rintro e w1 ⟨rfl,hm⟩)
   obtain⟨fn,tmps,assign,body,hy,hR⟩:=hY k (tz y) w1 hget (hJm k _ _ hJ hm)
   gi_wp2
   rw[hy,Oper.uponIn_round]
   refine⟨fun h=>(by cases h),hR.mono ?_⟩
   rintro e W3 (⟨rfl,hJ3⟩ | ⟨rfl,hJx3⟩)
   ·gi_wp2
    go_roundw
    case rel=>
     refine⟨k+1,y&&& (y-1#64),?_,acT,?_,hJ3⟩
     ·rw[LQ hy0]
     ·rw[←List.drop_drop,←hk,hst];rfl
    case measure=>
     rw[LQ hy0]
     show ((y&&& (y-1#64)).toNat:Int).toNat<(y.toNat:Int).toNat
     have h1:(y&&& (y-1#64)).toNat≤(y-1#64).toNat:=by rw[BitVec.toNat_and];exact Nat.and_le_right
     have h2:(y-1#64).toNat<y.toNat:=by
      rw[BitVec.toNat_sub]
      have:=toNat_lt y
      have:y.toNat≠0:=fun e=>hy0 (by apply BitVec.eq_of_toNat_eq;exact e)
      show (2 ^ 64-1+y.toNat)%2 ^ 64<y.toNat
      omega
     omega
   ·gi_wp2
    refine bodyPost_ret (results_none rfl _ _ _) rfl ?_
    exact⟨⟨_,rfl⟩, .inr ⟨k,acT,hJx3⟩⟩
theorem Jt (m:M64):Its PG 187 [.ptr 0 0] [.box [vm m]] ((bits m).map fun (i:Nat)=>[vi (i:Int)]):=by
 refine⟨jk Tryz.func187 (by kernel_rfl) (by kernel_rfl),rfl,fun x hx=>?_,fun w F ρ cs hF hE hH hargs l J Jx hJm hJe h0 hY=>?_⟩
 ·obtain⟨i,_,rfl⟩:=List.mem_map.1 hx
  rfl
 obtain⟨b,cs',T,e1,e2,e3⟩:=hH.ch 0 _ rfl
 match cs,hargs with
 | [v],⟨⟨b',f1,f2⟩,_⟩=>
  rw[e1] at f1
  simp only[Value.pointer.injEq,adk,Addr.mk.injEq,and_true] at f1
  subst f1 f2
  match cs',e3 with
  | [c],⟨hc,_⟩=>
   have hc2:c=.int .u64 (m.toNat:Int):=by cases (show RD F w (dm m) c from hc);rfl
   subst hc2
   have hb:w.cell? ⟨b,0,none⟩=some (.int .u64 (m.toNat:Int)):=by simp [World.cell?,e2]
   have:=Oz m l J Jx w b hJm (fun k W hJ=>(hJe k W hJ).1) h0 hb (fun k i W1 hk hJ=>hY k [vi (i:Int)] W1 [.int .i64 (i:Int)] (by rw[List.getElem?_map,hk];rfl) hJ ⟨RD.int _ _,tR⟩)
   rw[List.length_map]
   exact this
  | [],h=>exact h.elim
  | _::_::_,⟨_,h⟩=>exact h.elim
 | [],h=>exact h.elim
 | _::_::_,⟨_,h⟩=>exact h.elim
def VP (m:M64):Int:=((bits m).length:Int)
def upA (up:List M64) (i:Nat):M64:=up.getD i 0#64
def dUp (up:List M64):D:=.sl 1 up.length (fun i=>[dm (upA up i)])
abbrev vU (up:List M64):V:=.d (dUp up)
def InU (n:Nat) (m:M64):Prop:=∀i,bit m i=true->i<n
def VQ (p:Nat->Bool):Nat->M64
 | 0=>0#64
 | n+1=>VQ p n||| (if p n then one n else 0#64)
def ofP (p:Nat->Bool):M64:=VQ p 64
theorem LU (p:Nat->Bool):∀{n:Nat},n≤64->∀i,bit (VQ p n) i=(decide (i<n)&&p i)
 | 0,_,i=>by simp [VQ,bit]
 | n+1,h,i=>by
  have hb:bit (if p n then one n else 0#64) i=(decide (i=n)&&p n):=by
   cases hp:p n with
   | true=>rw[if_pos rfl,sM (by omega)];simp
   | false=>simp [bit]
  rw[VQ,Bc,LU p (by omega),hb]
  by_cases h1:i<n
  ·have h2:¬i=n:=by omega
   have h3:i<n+1:=by omega
   simp [h1,h2,h3]
  ·by_cases h2:i=n
   ·subst h2;simp
   ·have h3:¬i<n+1:=by omega
    simp [h1,h2,h3]
theorem gK (p:Nat->Bool) {i:Nat} (hi:i<64):bit (ofP p) i=p i:=by
 unfold ofP
 rw[LU p (Nat.le_refl _)]
 simp [hi]
theorem H7 {p q:Nat->Bool} (h:∀i,i<64->p i=q i):ofP p=ofP q:=vo fun i hi=>by rw[gK p hi,gK q hi,h i hi]
def Fq (up:List M64) (set:M64):List Nat->Int
 | []=>-1
 | k::r=>if set&&& ~~~ upA up k=0#64 then (k:Int) else Fq up set r
def vC (up:List M64) (set:M64):Int:=Fq up set (bits set)
def mI (up:List M64) (i:Nat):Bool:=
 bit (upA up i) i&&decide (upA up i&&& ~~~ ofP (fun j=>decide (j<up.length))=0#64)&&(bits (upA up i)).all fun k=>decide (upA up k&&& ~~~ upA up i=0#64)&&!(decide (k≠i)&&bit (upA up k) i)
def eY (up:List M64):Bool:=decide (1≤up.length)&&decide (up.length≤64)&&(List.range up.length).all (mI up)
def zD (up:List M64):Bool:=(List.range up.length).all fun a=>(List.range a).all fun b=>decide (0≤vC up (upA up a&&& upA up b))
def iq (up:List M64):List M64:=(List.range up.length).map fun k=>ofP fun i=>decide (i<up.length)&&bit (upA up i) k
def eZ (up:List M64):Bool:=eY up&&(zD up&&zD (iq up))
theorem sO (up:List M64):(iq up).length=up.length:=by simp [iq]
theorem yB (up:List M64) {k:Nat} (hk:k<up.length):upA (iq up) k=ofP fun i=>decide (i<up.length)&&bit (upA up i) k:=by
 unfold upA iq
 rw[adf,List.getElem?_map,List.getElem?_range hk];rfl
theorem sP {x y:M64}:x&&& ~~~ y=0#64↔∀i,bit x i=true->bit y i=true:=by
 rw[Ov]
 constructor
 ·intro h i hi
  by_cases h64:i<64
  ·have:=h i h64
   rw[sN,hi] at this
   simpa using this
  ·rw[sK x (by omega)] at hi;cases hi
 ·intro h i hi
  rw[sN]
  cases hx:bit x i with
  | false=>rfl
  | true=>rw[h i hx];rfl
theorem H8 {up:List M64} (h:eY up=true) {i:Nat} (hi:i<up.length):InU up.length (upA up i):=by
 unfold eY at h
 simp only[adg,adn,List.all_eq_true] at h
 have:=h.2 i (List.mem_range.2 hi)
 unfold mI at this
 simp only[adg,adn] at this
 intro j hj
 have h2:=sP.1 this.1.2 j hj
 have hj64:j<64:=by
  by_cases h64:j<64
  ·exact h64
  ·rw[sK _ (by omega)] at hj;cases hj
 rw[gK _ hj64] at h2
 simpa using h2
theorem qV {up:List M64} (h:eY up=true):1≤up.length∧up.length≤64:=by
 unfold eY at h
 simp only[adg,adn] at h
 exact h.1
theorem OA {up:List M64} {k:Nat} (hk:k<up.length):InU (iq up).length (upA (iq up) k):=by
 intro i hi
 rw[sO,yB up hk] at *
 have h64:i<64:=by
  by_cases h64:i<64
  ·exact h64
  ·rw[sK _ (by omega)] at hi;cases hi
 rw[gK _ h64] at hi
 simp only[adg,adn] at hi
 exact hi.1
theorem X4 {n:Nat} {x y:M64} (h:InU n x):InU n (x&&& y):=fun i hi=>h i (by rw[Jr] at hi;simp at hi;exact hi.1)
end Go.Proofs.YtojhdmfkfkfcbaaGreatDoor
