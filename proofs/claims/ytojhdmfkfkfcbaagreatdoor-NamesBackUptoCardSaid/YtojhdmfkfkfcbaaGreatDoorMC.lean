import Derived.Test.YtojhdmfkfkfcbaaGreatDoorMB
import Derived.Test.YtojhdmfkfkfcbaaGreatDoorSxG
import Derived.Test.YtojhdmfkfkfcbaaGreatDoorMA
import Derived.Test.YtojhdmfkfkfcbaaGreatDoorSxH
import Derived.RangeFuncNested
import Derived.OwnWalkIn
import Derived.TacticsInMore
import Derived.LoopNIn
import Derived.LoopIn
set_option maxHeartbeats 1000000000
set_option linter.unusedSimpArgs false
set_option linter.unusedVariables false
namespace Go.Proofs.YtojhdmfkfkfcbaaGreatDoor
open Go.Sx
set_option maxRecDepth 100000
def aM(at_:Int):Ins:=⟨0,0,.empty,.empty,.empty,[],[],0,at_⟩
abbrev xV(x:Ins):V:=.agg [.d (.int .u8 x.kind),.d (.int .u8 x.op),vs x.dst,vs x.ref,vs x.alt,.own 1,.own 2,vi x.num,vi x.at_]
def adr(s:BY)(l:List Tok)(c:Nat):Except (Int×Int) (Nat×Ins)->Out
 | .ok (n,x)=>.ret (xV x) [pC s l n (c+1),jh x.args,jh x.frm]
 | .error (a,e)=>yI a e
def oJ(s:BY)(l:List Tok)(w:List UInt8):Option (Nat->Ins->Except (Int×Int) (Nat×Ins)):=
 if w=[115,116,111,114,101] then some (sG s l) else
 if w=[111,117,116,112,117,116] then some (vg s l) else
 if w=[106,117,109,112] then some (wI s l) else
 if w=[98,114,97,110,99,104] then some (sH s l) else
 if w=[114,101,116,117,114,110] then some (yT s l) else
 none
def bI(s:BY)(l:List Tok)(n c:Nat):Except (Int×Int) (Nat×Ins):=
 if (isV l n 1=false∧(oJ s l (txV s l n).data.toList).isNone=true) then .error (atV s l n,7)
 else if isV l n 1=true∧¬(txV s l (n+1)).data.toList=[61] then .error (atV s l (n+1),7)
 else if 4096≤c then .error (atV s l n,3)
 else match oJ s l (txV s l n).data.toList with
  | some f=>f (n+1) (aM (atV s l n))
  | none=>bnd (nmV s l n) λn1 d=>bnd (dX s l n1 61) λn2 _=>dG s l n2 {aM (atV s l n) with dst:=d}
section
variable(s:BY)(l:List Tok)(n c:Nat)(hl:qD s l)(hn:n≤l.length)(hc:c≤1000000)
include hl hn hc in
theorem Nl:aX PG 152 1 [.ptr 0 0] [pC s l n c] (adr s l c (bI s l n c)):=by
 have hll:=hl.2.1
 have ei:aI (vi ((n:Int)+1)) (vi ((n+1:Nat):Int)):=by rw[agY];rfl
 have ej:aI (vi ((c:Int)+1)) (vi ((c+1:Nat):Int)):=by rw[agY];rfl
 refine aX.mk (dP 71 1) aA [0,3,4] Tryz.func152 rfl (by kernel_rfl) rfl rfl (by rcases bI s l n c with⟨a,e⟩ | ⟨n',o⟩<;>rfl) ?_
 intro C x
 refine x.call [0] Z tR Z (AV s l n c (by omega)) Z ⟨⟨Z,Z⟩,tR⟩ ⟨⟨Z,ah Z,Z,Z,tR⟩,tR⟩ ?_
 refine x.op Z tR ?_
 refine Go.ownB 2 5 9 1 (λj=>[D.str (([]:List BY).getD j .empty)]) Z Z ?_
 refine Go.ownB 2 6 9 1 (λj=>[D.str (([]:List BY).getD j .empty)]) Z Z ?_
 refine x.call [] Z tR Z Vs Z tR tR ?_
 refine x.call [0] Z tR Z (dJ s l n c hl (by omega) 0 (by omega)) Z ⟨⟨Z,Z⟩,Z,tR⟩ ⟨⟨Z,ah Z,Z,Z,tR⟩,tR⟩ ?_
 obtain⟨w,hw⟩:∃w,txV s l n=w:=⟨_,Z⟩
 rw[show n+0=n from rfl,hw]
 have hroom:=o9 s l n c (by omega) (c:Int) 4096
 have CF:=lN s l (n+1) c (by omega) 7
 refine x.look Z tR Z ⟨λe=>?_,λg0=>?_⟩
 ·have lt:n<l.length:=jP (by rw[hw];exact e)
  have hact:oJ s l w.data.toList=some (sG s l):=by rw[e];rfl
  refine x.call [0] Z tR Z (iy s l n c 1) Z ⟨⟨Z,Z⟩,Z,tR⟩ ⟨⟨Z,ah Z,Z,Z,tR⟩,tR⟩ ?_
  refine x.cond Z tR (λb=>?_) (λb=>?_)
  ·have b:((!isV l n 1)&&false)=true:=b
   simp at b
  have n1:¬(isV l n 1=false∧(oJ s l w.data.toList).isNone=true):=by rw[hact];simp
  refine x.call [0] Z tR Z (iy s l n c 1) Z ⟨⟨Z,Z⟩,Z,tR⟩ ⟨⟨Z,ah Z,Z,Z,tR⟩,tR⟩ ?_
  refine x.pF [0] Z tR Z (λ_=>dJ s l n c hl (by omega) 1 (by omega)) Z ⟨⟨Z,Z⟩,Z,tR⟩ ⟨⟨Z,ah Z,Z,Z,tR⟩,tR⟩ ⟨⟨Z,ah Z,Z,Z,tR⟩,⟨Z,Z,Z,Z,Z,Z,Z,Z,Z,Z,tR⟩,⟨Z,Z,Z,Z,Z,Z,Z,Z,Z,tR⟩,⟨Z,Z,Z,λ_ _=>rfl⟩,⟨Z,Z,Z,λ_ _=>rfl⟩,⟨Z,Z,Z,Z,Z,tR,tR,Z,Z,tR⟩,tR⟩ ?_
  refine x.cond Z tR (λb2=>?_) (λb2=>?_)
  ·have b2:(isV l n 1&&!decide ((txV s l (n+1)).data.toList=[61]))=true:=b2
   have b2:isV l n 1=true∧¬(txV s l (n+1)).data.toList=[61]:=by simpa using b2
   refine x.die [0] Z (by simp only[ak,aj];omega) Z CF ⟨⟨Z,Z⟩,Z,tR⟩ Z ⟨⟨Z,ah Z,ei,Z,tR⟩,tR⟩ ?_
   rw[bI,hw,if_neg n1,if_pos b2]
   exact⟨Z,Z⟩
  have b2:(isV l n 1&&!decide ((txV s l (n+1)).data.toList=[61]))=false:=b2
  have n2:¬(isV l n 1=true∧¬(txV s l (n+1)).data.toList=[61]):=λhh=>by rw[hh.1,decide_eq_false hh.2] at b2;cases b2
  by_cases h3:4096≤c
  ·rw[if_pos (by omega)] at hroom
   refine x.die [0] Z tR Z hroom ⟨⟨Z,Z⟩,Z,Z,tR⟩ Z ⟨⟨Z,ah Z,Z,Z,tR⟩,tR⟩ ?_
   rw[bI,hw,if_neg n1,if_neg n2,if_pos h3]
   exact⟨Z,Z⟩
  rw[if_neg (by omega)] at hroom
  refine x.call [0] Z tR Z hroom Z ⟨⟨Z,Z⟩,Z,Z,tR⟩ ⟨⟨Z,ah Z,Z,Z,tR⟩,tR⟩ ?_
  have hv:bI s l n c=sG s l (n+1) (aM (atV s l n)):=by rw[bI,hw,if_neg n1,if_neg n2,if_neg h3,hact]
  rw[hv]
  have h1:=Vj s l (n+1) (c+1) hl (by omega) (aM (atV s l n)) (Nat.zero_le _)
  obtain⟨V,hV⟩:∃V,sG s l (n+1) (aM (atV s l n))=V:=⟨_,Z⟩
  rw[hV] at h1 ⊢
  refine x.cond rfl (by simp only[ak,aj];omega) (λ_=>?_) (λb=>by cases b)
  rcases V with⟨a,b⟩ | ⟨n',y'⟩
  ·exact x.die [0,2,3,4] Z (by simp only[ak,aj];omega) Z h1 ⟨⟨Z,Z⟩,⟨Z,Z⟩,tR⟩ Z ⟨⟨Z,ah Z,ei,ej,tR⟩,⟨Z,Z,Z,Z,Z,Z,Z,Z,Z,tR⟩,⟨Z,Z,Z,λj hj=>absurd hj (agV _)⟩,⟨Z,Z,Z,λj hj=>absurd hj (agV _)⟩,tR⟩ ⟨Z,Z⟩
  ·refine x.call [0,2,3,4] Z (by simp only[ak,aj];omega) Z h1 Z ⟨⟨Z,Z⟩,⟨Z,Z⟩,tR⟩ ⟨⟨Z,ah Z,ei,ej,tR⟩,⟨Z,Z,Z,Z,Z,Z,Z,Z,Z,tR⟩,⟨Z,Z,Z,λj hj=>absurd hj (agV _)⟩,⟨Z,Z,Z,λj hj=>absurd hj (agV _)⟩,tR⟩ ?_
   refine x.exit Z tR ?_
   exact⟨.inr Z,⟨Z,Z,Z,Z,Z,Z,Z,Z,Z,tR⟩,⟨⟨Z,ah Z,Z,Z,tR⟩,⟨Z,Z,Z,λ_ _=>rfl⟩,⟨Z,Z,Z,λ_ _=>rfl⟩,tR⟩,Z⟩
 refine⟨λe=>?_,λg1=>?_⟩
 ·have lt:n<l.length:=jP (by rw[hw];exact e)
  have hact:oJ s l w.data.toList=some (vg s l):=by rw[e];rfl
  refine x.call [0] Z tR Z (iy s l n c 1) Z ⟨⟨Z,Z⟩,Z,tR⟩ ⟨⟨Z,ah Z,Z,Z,tR⟩,tR⟩ ?_
  refine x.cond Z tR (λb=>?_) (λb=>?_)
  ·have b:((!isV l n 1)&&false)=true:=b
   simp at b
  have n1:¬(isV l n 1=false∧(oJ s l w.data.toList).isNone=true):=by rw[hact];simp
  refine x.call [0] Z tR Z (iy s l n c 1) Z ⟨⟨Z,Z⟩,Z,tR⟩ ⟨⟨Z,ah Z,Z,Z,tR⟩,tR⟩ ?_
  refine x.pF [0] Z tR Z (λ_=>dJ s l n c hl (by omega) 1 (by omega)) Z ⟨⟨Z,Z⟩,Z,tR⟩ ⟨⟨Z,ah Z,Z,Z,tR⟩,tR⟩ ⟨⟨Z,ah Z,Z,Z,tR⟩,⟨Z,Z,Z,Z,Z,Z,Z,Z,Z,Z,tR⟩,⟨Z,Z,Z,Z,Z,Z,Z,Z,Z,tR⟩,⟨Z,Z,Z,λ_ _=>rfl⟩,⟨Z,Z,Z,λ_ _=>rfl⟩,⟨Z,Z,Z,Z,Z,tR,tR,Z,Z,tR⟩,tR⟩ ?_
  refine x.cond Z tR (λb2=>?_) (λb2=>?_)
  ·have b2:(isV l n 1&&!decide ((txV s l (n+1)).data.toList=[61]))=true:=b2
   have b2:isV l n 1=true∧¬(txV s l (n+1)).data.toList=[61]:=by simpa using b2
   refine x.die [0] Z (by simp only[ak,aj];omega) Z CF ⟨⟨Z,Z⟩,Z,tR⟩ Z ⟨⟨Z,ah Z,ei,Z,tR⟩,tR⟩ ?_
   rw[bI,hw,if_neg n1,if_pos b2]
   exact⟨Z,Z⟩
  have b2:(isV l n 1&&!decide ((txV s l (n+1)).data.toList=[61]))=false:=b2
  have n2:¬(isV l n 1=true∧¬(txV s l (n+1)).data.toList=[61]):=λhh=>by rw[hh.1,decide_eq_false hh.2] at b2;cases b2
  by_cases h3:4096≤c
  ·rw[if_pos (by omega)] at hroom
   refine x.die [0] Z tR Z hroom ⟨⟨Z,Z⟩,Z,Z,tR⟩ Z ⟨⟨Z,ah Z,Z,Z,tR⟩,tR⟩ ?_
   rw[bI,hw,if_neg n1,if_neg n2,if_pos h3]
   exact⟨Z,Z⟩
  rw[if_neg (by omega)] at hroom
  refine x.call [0] Z tR Z hroom Z ⟨⟨Z,Z⟩,Z,Z,tR⟩ ⟨⟨Z,ah Z,Z,Z,tR⟩,tR⟩ ?_
  have hv:bI s l n c=vg s l (n+1) (aM (atV s l n)):=by rw[bI,hw,if_neg n1,if_neg n2,if_neg h3,hact]
  rw[hv]
  have h1:=Vk s l (n+1) (c+1) hl (by omega) (aM (atV s l n)) (Nat.zero_le _)
  obtain⟨V,hV⟩:∃V,vg s l (n+1) (aM (atV s l n))=V:=⟨_,Z⟩
  rw[hV] at h1 ⊢
  refine x.cond rfl (by simp only[ak,aj];omega) (λ_=>?_) (λb=>by cases b)
  rcases V with⟨a,b⟩ | ⟨n',y'⟩
  ·exact x.die [0,2,3,4] Z (by simp only[ak,aj];omega) Z h1 ⟨⟨Z,Z⟩,⟨Z,Z⟩,tR⟩ Z ⟨⟨Z,ah Z,ei,ej,tR⟩,⟨Z,Z,Z,Z,Z,Z,Z,Z,Z,tR⟩,⟨Z,Z,Z,λj hj=>absurd hj (agV _)⟩,⟨Z,Z,Z,λj hj=>absurd hj (agV _)⟩,tR⟩ ⟨Z,Z⟩
  ·refine x.call [0,2,3,4] Z (by simp only[ak,aj];omega) Z h1 Z ⟨⟨Z,Z⟩,⟨Z,Z⟩,tR⟩ ⟨⟨Z,ah Z,ei,ej,tR⟩,⟨Z,Z,Z,Z,Z,Z,Z,Z,Z,tR⟩,⟨Z,Z,Z,λj hj=>absurd hj (agV _)⟩,⟨Z,Z,Z,λj hj=>absurd hj (agV _)⟩,tR⟩ ?_
   refine x.exit Z tR ?_
   exact⟨.inr Z,⟨Z,Z,Z,Z,Z,Z,Z,Z,Z,tR⟩,⟨⟨Z,ah Z,Z,Z,tR⟩,⟨Z,Z,Z,λ_ _=>rfl⟩,⟨Z,Z,Z,λ_ _=>rfl⟩,tR⟩,Z⟩
 refine⟨λe=>?_,λg2=>?_⟩
 ·have lt:n<l.length:=jP (by rw[hw];exact e)
  have hact:oJ s l w.data.toList=some (wI s l):=by rw[e];rfl
  refine x.call [0] Z tR Z (iy s l n c 1) Z ⟨⟨Z,Z⟩,Z,tR⟩ ⟨⟨Z,ah Z,Z,Z,tR⟩,tR⟩ ?_
  refine x.cond Z tR (λb=>?_) (λb=>?_)
  ·have b:((!isV l n 1)&&false)=true:=b
   simp at b
  have n1:¬(isV l n 1=false∧(oJ s l w.data.toList).isNone=true):=by rw[hact];simp
  refine x.call [0] Z tR Z (iy s l n c 1) Z ⟨⟨Z,Z⟩,Z,tR⟩ ⟨⟨Z,ah Z,Z,Z,tR⟩,tR⟩ ?_
  refine x.pF [0] Z tR Z (λ_=>dJ s l n c hl (by omega) 1 (by omega)) Z ⟨⟨Z,Z⟩,Z,tR⟩ ⟨⟨Z,ah Z,Z,Z,tR⟩,tR⟩ ⟨⟨Z,ah Z,Z,Z,tR⟩,⟨Z,Z,Z,Z,Z,Z,Z,Z,Z,Z,tR⟩,⟨Z,Z,Z,Z,Z,Z,Z,Z,Z,tR⟩,⟨Z,Z,Z,λ_ _=>rfl⟩,⟨Z,Z,Z,λ_ _=>rfl⟩,⟨Z,Z,Z,Z,Z,tR,tR,Z,Z,tR⟩,tR⟩ ?_
  refine x.cond Z tR (λb2=>?_) (λb2=>?_)
  ·have b2:(isV l n 1&&!decide ((txV s l (n+1)).data.toList=[61]))=true:=b2
   have b2:isV l n 1=true∧¬(txV s l (n+1)).data.toList=[61]:=by simpa using b2
   refine x.die [0] Z (by simp only[ak,aj];omega) Z CF ⟨⟨Z,Z⟩,Z,tR⟩ Z ⟨⟨Z,ah Z,ei,Z,tR⟩,tR⟩ ?_
   rw[bI,hw,if_neg n1,if_pos b2]
   exact⟨Z,Z⟩
  have b2:(isV l n 1&&!decide ((txV s l (n+1)).data.toList=[61]))=false:=b2
  have n2:¬(isV l n 1=true∧¬(txV s l (n+1)).data.toList=[61]):=λhh=>by rw[hh.1,decide_eq_false hh.2] at b2;cases b2
  by_cases h3:4096≤c
  ·rw[if_pos (by omega)] at hroom
   refine x.die [0] Z tR Z hroom ⟨⟨Z,Z⟩,Z,Z,tR⟩ Z ⟨⟨Z,ah Z,Z,Z,tR⟩,tR⟩ ?_
   rw[bI,hw,if_neg n1,if_neg n2,if_pos h3]
   exact⟨Z,Z⟩
  rw[if_neg (by omega)] at hroom
  refine x.call [0] Z tR Z hroom Z ⟨⟨Z,Z⟩,Z,Z,tR⟩ ⟨⟨Z,ah Z,Z,Z,tR⟩,tR⟩ ?_
  have hv:bI s l n c=wI s l (n+1) (aM (atV s l n)):=by rw[bI,hw,if_neg n1,if_neg n2,if_neg h3,hact]
  rw[hv]
  have h1:=Vl s l (n+1) (c+1) hl (by omega) (aM (atV s l n))
  obtain⟨V,hV⟩:∃V,wI s l (n+1) (aM (atV s l n))=V:=⟨_,Z⟩
  rw[hV] at h1 ⊢
  refine x.cond rfl (by simp only[ak,aj];omega) (λ_=>?_) (λb=>by cases b)
  rcases V with⟨a,b⟩ | ⟨n',y'⟩
  ·exact x.die [0,2,3,4] Z (by simp only[ak,aj];omega) Z h1 ⟨⟨Z,Z⟩,⟨Z,Z⟩,tR⟩ Z ⟨⟨Z,ah Z,ei,ej,tR⟩,⟨Z,Z,Z,Z,Z,Z,Z,Z,Z,tR⟩,⟨Z,Z,Z,λj hj=>absurd hj (agV _)⟩,⟨Z,Z,Z,λj hj=>absurd hj (agV _)⟩,tR⟩ ⟨Z,Z⟩
  ·refine x.call [0,2,3,4] Z (by simp only[ak,aj];omega) Z h1 Z ⟨⟨Z,Z⟩,⟨Z,Z⟩,tR⟩ ⟨⟨Z,ah Z,ei,ej,tR⟩,⟨Z,Z,Z,Z,Z,Z,Z,Z,Z,tR⟩,⟨Z,Z,Z,λj hj=>absurd hj (agV _)⟩,⟨Z,Z,Z,λj hj=>absurd hj (agV _)⟩,tR⟩ ?_
   refine x.exit Z tR ?_
   exact⟨.inr Z,⟨Z,Z,Z,Z,Z,Z,Z,Z,Z,tR⟩,⟨⟨Z,ah Z,Z,Z,tR⟩,⟨Z,Z,Z,λ_ _=>rfl⟩,⟨Z,Z,Z,λ_ _=>rfl⟩,tR⟩,Z⟩
 refine⟨λe=>?_,λg3=>?_⟩
 ·have lt:n<l.length:=jP (by rw[hw];exact e)
  have hact:oJ s l w.data.toList=some (sH s l):=by rw[e];rfl
  refine x.call [0] Z tR Z (iy s l n c 1) Z ⟨⟨Z,Z⟩,Z,tR⟩ ⟨⟨Z,ah Z,Z,Z,tR⟩,tR⟩ ?_
  refine x.cond Z tR (λb=>?_) (λb=>?_)
  ·have b:((!isV l n 1)&&false)=true:=b
   simp at b
  have n1:¬(isV l n 1=false∧(oJ s l w.data.toList).isNone=true):=by rw[hact];simp
  refine x.call [0] Z tR Z (iy s l n c 1) Z ⟨⟨Z,Z⟩,Z,tR⟩ ⟨⟨Z,ah Z,Z,Z,tR⟩,tR⟩ ?_
  refine x.pF [0] Z tR Z (λ_=>dJ s l n c hl (by omega) 1 (by omega)) Z ⟨⟨Z,Z⟩,Z,tR⟩ ⟨⟨Z,ah Z,Z,Z,tR⟩,tR⟩ ⟨⟨Z,ah Z,Z,Z,tR⟩,⟨Z,Z,Z,Z,Z,Z,Z,Z,Z,Z,tR⟩,⟨Z,Z,Z,Z,Z,Z,Z,Z,Z,tR⟩,⟨Z,Z,Z,λ_ _=>rfl⟩,⟨Z,Z,Z,λ_ _=>rfl⟩,⟨Z,Z,Z,Z,Z,tR,tR,Z,Z,tR⟩,tR⟩ ?_
  refine x.cond Z tR (λb2=>?_) (λb2=>?_)
  ·have b2:(isV l n 1&&!decide ((txV s l (n+1)).data.toList=[61]))=true:=b2
   have b2:isV l n 1=true∧¬(txV s l (n+1)).data.toList=[61]:=by simpa using b2
   refine x.die [0] Z (by simp only[ak,aj];omega) Z CF ⟨⟨Z,Z⟩,Z,tR⟩ Z ⟨⟨Z,ah Z,ei,Z,tR⟩,tR⟩ ?_
   rw[bI,hw,if_neg n1,if_pos b2]
   exact⟨Z,Z⟩
  have b2:(isV l n 1&&!decide ((txV s l (n+1)).data.toList=[61]))=false:=b2
  have n2:¬(isV l n 1=true∧¬(txV s l (n+1)).data.toList=[61]):=λhh=>by rw[hh.1,decide_eq_false hh.2] at b2;cases b2
  by_cases h3:4096≤c
  ·rw[if_pos (by omega)] at hroom
   refine x.die [0] Z tR Z hroom ⟨⟨Z,Z⟩,Z,Z,tR⟩ Z ⟨⟨Z,ah Z,Z,Z,tR⟩,tR⟩ ?_
   rw[bI,hw,if_neg n1,if_neg n2,if_pos h3]
   exact⟨Z,Z⟩
  rw[if_neg (by omega)] at hroom
  refine x.call [0] Z tR Z hroom Z ⟨⟨Z,Z⟩,Z,Z,tR⟩ ⟨⟨Z,ah Z,Z,Z,tR⟩,tR⟩ ?_
  have hv:bI s l n c=sH s l (n+1) (aM (atV s l n)):=by rw[bI,hw,if_neg n1,if_neg n2,if_neg h3,hact]
  rw[hv]
  have h1:=Vm s l (n+1) (c+1) hl (by omega) (aM (atV s l n)) (Nat.zero_le _)
  obtain⟨V,hV⟩:∃V,sH s l (n+1) (aM (atV s l n))=V:=⟨_,Z⟩
  rw[hV] at h1 ⊢
  refine x.cond rfl (by simp only[ak,aj];omega) (λ_=>?_) (λb=>by cases b)
  rcases V with⟨a,b⟩ | ⟨n',y'⟩
  ·exact x.die [0,2,3,4] Z (by simp only[ak,aj];omega) Z h1 ⟨⟨Z,Z⟩,⟨Z,Z⟩,tR⟩ Z ⟨⟨Z,ah Z,ei,ej,tR⟩,⟨Z,Z,Z,Z,Z,Z,Z,Z,Z,tR⟩,⟨Z,Z,Z,λj hj=>absurd hj (agV _)⟩,⟨Z,Z,Z,λj hj=>absurd hj (agV _)⟩,tR⟩ ⟨Z,Z⟩
  ·refine x.call [0,2,3,4] Z (by simp only[ak,aj];omega) Z h1 Z ⟨⟨Z,Z⟩,⟨Z,Z⟩,tR⟩ ⟨⟨Z,ah Z,ei,ej,tR⟩,⟨Z,Z,Z,Z,Z,Z,Z,Z,Z,tR⟩,⟨Z,Z,Z,λj hj=>absurd hj (agV _)⟩,⟨Z,Z,Z,λj hj=>absurd hj (agV _)⟩,tR⟩ ?_
   refine x.exit Z tR ?_
   exact⟨.inr Z,⟨Z,Z,Z,Z,Z,Z,Z,Z,Z,tR⟩,⟨⟨Z,ah Z,Z,Z,tR⟩,⟨Z,Z,Z,λ_ _=>rfl⟩,⟨Z,Z,Z,λ_ _=>rfl⟩,tR⟩,Z⟩
 refine⟨λe=>?_,λg4=>?_⟩
 ·have lt:n<l.length:=jP (by rw[hw];exact e)
  have hact:oJ s l w.data.toList=some (yT s l):=by rw[e];rfl
  refine x.call [0] Z tR Z (iy s l n c 1) Z ⟨⟨Z,Z⟩,Z,tR⟩ ⟨⟨Z,ah Z,Z,Z,tR⟩,tR⟩ ?_
  refine x.cond Z tR (λb=>?_) (λb=>?_)
  ·have b:((!isV l n 1)&&false)=true:=b
   simp at b
  have n1:¬(isV l n 1=false∧(oJ s l w.data.toList).isNone=true):=by rw[hact];simp
  refine x.call [0] Z tR Z (iy s l n c 1) Z ⟨⟨Z,Z⟩,Z,tR⟩ ⟨⟨Z,ah Z,Z,Z,tR⟩,tR⟩ ?_
  refine x.pF [0] Z tR Z (λ_=>dJ s l n c hl (by omega) 1 (by omega)) Z ⟨⟨Z,Z⟩,Z,tR⟩ ⟨⟨Z,ah Z,Z,Z,tR⟩,tR⟩ ⟨⟨Z,ah Z,Z,Z,tR⟩,⟨Z,Z,Z,Z,Z,Z,Z,Z,Z,Z,tR⟩,⟨Z,Z,Z,Z,Z,Z,Z,Z,Z,tR⟩,⟨Z,Z,Z,λ_ _=>rfl⟩,⟨Z,Z,Z,λ_ _=>rfl⟩,⟨Z,Z,Z,Z,Z,tR,tR,Z,Z,tR⟩,tR⟩ ?_
  refine x.cond Z tR (λb2=>?_) (λb2=>?_)
  ·have b2:(isV l n 1&&!decide ((txV s l (n+1)).data.toList=[61]))=true:=b2
   have b2:isV l n 1=true∧¬(txV s l (n+1)).data.toList=[61]:=by simpa using b2
   refine x.die [0] Z (by simp only[ak,aj];omega) Z CF ⟨⟨Z,Z⟩,Z,tR⟩ Z ⟨⟨Z,ah Z,ei,Z,tR⟩,tR⟩ ?_
   rw[bI,hw,if_neg n1,if_pos b2]
   exact⟨Z,Z⟩
  have b2:(isV l n 1&&!decide ((txV s l (n+1)).data.toList=[61]))=false:=b2
  have n2:¬(isV l n 1=true∧¬(txV s l (n+1)).data.toList=[61]):=λhh=>by rw[hh.1,decide_eq_false hh.2] at b2;cases b2
  by_cases h3:4096≤c
  ·rw[if_pos (by omega)] at hroom
   refine x.die [0] Z tR Z hroom ⟨⟨Z,Z⟩,Z,Z,tR⟩ Z ⟨⟨Z,ah Z,Z,Z,tR⟩,tR⟩ ?_
   rw[bI,hw,if_neg n1,if_neg n2,if_pos h3]
   exact⟨Z,Z⟩
  rw[if_neg (by omega)] at hroom
  refine x.call [0] Z tR Z hroom Z ⟨⟨Z,Z⟩,Z,Z,tR⟩ ⟨⟨Z,ah Z,Z,Z,tR⟩,tR⟩ ?_
  have hv:bI s l n c=yT s l (n+1) (aM (atV s l n)):=by rw[bI,hw,if_neg n1,if_neg n2,if_neg h3,hact]
  rw[hv]
  have h1:=Vn s l (n+1) (c+1) hl (by omega) (aM (atV s l n)) (Nat.zero_le _)
  obtain⟨V,hV⟩:∃V,yT s l (n+1) (aM (atV s l n))=V:=⟨_,Z⟩
  rw[hV] at h1 ⊢
  refine x.cond rfl (by simp only[ak,aj];omega) (λ_=>?_) (λb=>by cases b)
  rcases V with⟨a,b⟩ | ⟨n',y'⟩
  ·exact x.die [0,2,3,4] Z (by simp only[ak,aj];omega) Z h1 ⟨⟨Z,Z⟩,⟨Z,Z⟩,tR⟩ Z ⟨⟨Z,ah Z,ei,ej,tR⟩,⟨Z,Z,Z,Z,Z,Z,Z,Z,Z,tR⟩,⟨Z,Z,Z,λj hj=>absurd hj (agV _)⟩,⟨Z,Z,Z,λj hj=>absurd hj (agV _)⟩,tR⟩ ⟨Z,Z⟩
  ·refine x.call [0,2,3,4] Z (by simp only[ak,aj];omega) Z h1 Z ⟨⟨Z,Z⟩,⟨Z,Z⟩,tR⟩ ⟨⟨Z,ah Z,ei,ej,tR⟩,⟨Z,Z,Z,Z,Z,Z,Z,Z,Z,tR⟩,⟨Z,Z,Z,λj hj=>absurd hj (agV _)⟩,⟨Z,Z,Z,λj hj=>absurd hj (agV _)⟩,tR⟩ ?_
   refine x.exit Z tR ?_
   exact⟨.inr Z,⟨Z,Z,Z,Z,Z,Z,Z,Z,Z,tR⟩,⟨⟨Z,ah Z,Z,Z,tR⟩,⟨Z,Z,Z,λ_ _=>rfl⟩,⟨Z,Z,Z,λ_ _=>rfl⟩,tR⟩,Z⟩
 have hact:oJ s l w.data.toList=none:=by rw[oJ,if_neg g0,if_neg g1,if_neg g2,if_neg g3,if_neg g4]
 refine x.call [0] Z tR Z (iy s l n c 1) Z ⟨⟨Z,Z⟩,Z,tR⟩ ⟨⟨Z,ah Z,Z,Z,tR⟩,tR⟩ ?_
 refine x.cond Z tR (λb=>?_) (λb=>?_)
 ·have b:((!isV l n 1)&&true)=true:=b
  have b:isV l n 1=false:=by simpa using b
  refine x.die [0] Z tR Z (lN s l n c (by omega) 7) ⟨⟨Z,Z⟩,Z,tR⟩ Z ⟨⟨Z,ah Z,Z,Z,tR⟩,tR⟩ ?_
  rw[bI,hw,hact,if_pos ⟨b,Z⟩]
  exact⟨Z,Z⟩
 have b:((!isV l n 1)&&true)=false:=b
 have b:isV l n 1=true:=by simpa using b
 have n1:¬(isV l n 1=false∧(oJ s l w.data.toList).isNone=true):=by rw[b];simp
 refine x.call [0] Z tR Z (iy s l n c 1) Z ⟨⟨Z,Z⟩,Z,tR⟩ ⟨⟨Z,ah Z,Z,Z,tR⟩,tR⟩ ?_
 refine x.pF [0] Z tR Z (λ_=>dJ s l n c hl (by omega) 1 (by omega)) Z ⟨⟨Z,Z⟩,Z,tR⟩ ⟨⟨Z,ah Z,Z,Z,tR⟩,tR⟩ ⟨⟨Z,ah Z,Z,Z,tR⟩,⟨Z,Z,Z,Z,Z,Z,Z,Z,Z,Z,tR⟩,⟨Z,Z,Z,Z,Z,Z,Z,Z,Z,tR⟩,⟨Z,Z,Z,λ_ _=>rfl⟩,⟨Z,Z,Z,λ_ _=>rfl⟩,⟨Z,Z,Z,Z,Z,tR,tR,Z,Z,tR⟩,tR⟩ ?_
 refine x.cond Z tR (λb2=>?_) (λb2=>?_)
 ·have b2:(isV l n 1&&!decide ((txV s l (n+1)).data.toList=[61]))=true:=b2
  have b2:isV l n 1=true∧¬(txV s l (n+1)).data.toList=[61]:=by simpa using b2
  refine x.die [0] Z (by simp only[ak,aj];omega) Z CF ⟨⟨Z,Z⟩,Z,tR⟩ Z ⟨⟨Z,ah Z,ei,Z,tR⟩,tR⟩ ?_
  rw[bI,hw,if_neg n1,if_pos b2]
  exact⟨Z,Z⟩
 have b2:(isV l n 1&&!decide ((txV s l (n+1)).data.toList=[61]))=false:=b2
 have n2:¬(isV l n 1=true∧¬(txV s l (n+1)).data.toList=[61]):=λhh=>by rw[hh.1,decide_eq_false hh.2] at b2;cases b2
 by_cases h3:4096≤c
 ·rw[if_pos (by omega)] at hroom
  refine x.die [0] Z tR Z hroom ⟨⟨Z,Z⟩,Z,Z,tR⟩ Z ⟨⟨Z,ah Z,Z,Z,tR⟩,tR⟩ ?_
  rw[bI,hw,if_neg n1,if_neg n2,if_pos h3]
  exact⟨Z,Z⟩
 rw[if_neg (by omega)] at hroom
 refine x.call [0] Z tR Z hroom Z ⟨⟨Z,Z⟩,Z,Z,tR⟩ ⟨⟨Z,ah Z,Z,Z,tR⟩,tR⟩ ?_
 have lt:=dF b
 have h61:(txV s l (n+1)).data.toList=[61]:=Classical.byContradiction λhh=>n2 ⟨b,hh⟩
 have lt2:=jP h61
 have hv:bI s l n c=dG s l (n+1+1) {aM (atV s l n) with dst:=w}:=by
  rw[bI,hw,if_neg n1,if_neg n2,if_neg h3,hact]
  simp only[nmV,dX,bnd,b,h61,if_true,hw]
 rw[hv]
 refine x.cond rfl (by simp only[ak,aj];omega) (λb=>by cases b) (λ_=>?_)
 have h1:=aZ s l n (c+1) hl (by omega)
 rw[b,if_pos Z,hw] at h1
 refine x.call [0] Z tR Z h1 Z ⟨⟨Z,Z⟩,tR⟩ ⟨⟨Z,ah Z,Z,ej,tR⟩,tR⟩ ?_
 have h2:=jC s l (n+1) (c+1) hl (by omega) ⟨#[61]⟩
 rw[if_pos h61] at h2
 refine x.call [0] Z tR Z h2 Z ⟨⟨Z,Z⟩,Z,tR⟩ ⟨⟨Z,ah Z,Z,Z,tR⟩,tR⟩ ?_
 have h4:=Nk s l (n+1+1) (c+1) hl (by omega) {aM (atV s l n) with dst:=w} (Nat.zero_le _) (Nat.zero_le _)
 obtain⟨V,hV⟩:∃V,dG s l (n+1+1) {aM (atV s l n) with dst:=w}=V:=⟨_,Z⟩
 rw[hV] at h4 ⊢
 rcases V with⟨a,b⟩ | ⟨n',y'⟩
 ·exact x.die [0,2,3,4] Z tR Z h4 ⟨⟨Z,Z⟩,⟨Z,Z⟩,tR⟩ Z ⟨⟨Z,ah Z,Z,Z,tR⟩,⟨Z,Z,Z,Z,Z,Z,Z,Z,Z,tR⟩,⟨Z,Z,Z,λj hj=>absurd hj (agV _)⟩,⟨Z,Z,Z,λj hj=>absurd hj (agV _)⟩,tR⟩ ⟨Z,Z⟩
 ·refine x.call [0,2,3,4] Z tR Z h4 Z ⟨⟨Z,Z⟩,⟨Z,Z⟩,tR⟩ ⟨⟨Z,ah Z,Z,Z,tR⟩,⟨Z,Z,Z,Z,Z,Z,Z,Z,Z,tR⟩,⟨Z,Z,Z,λj hj=>absurd hj (agV _)⟩,⟨Z,Z,Z,λj hj=>absurd hj (agV _)⟩,tR⟩ ?_
  refine x.exit Z tR ?_
  exact⟨.inr Z,⟨Z,Z,Z,Z,Z,Z,Z,Z,Z,tR⟩,⟨⟨Z,ah Z,Z,Z,tR⟩,⟨Z,Z,Z,λ_ _=>rfl⟩,⟨Z,Z,Z,λ_ _=>rfl⟩,tR⟩,Z⟩
end
end Go.Proofs.YtojhdmfkfkfcbaaGreatDoor
namespace Go.Proofs.YtojhdmfkfkfcbaaGreatDoor
open Go.Sx
def Up{α:Type}(l:List Tok)(n:Nat)(r:Except (Int×Int) (Nat×α)):Prop:=∀n' x,r=.ok (n',x)->n<n'∧n'≤l.length
def Upw{α:Type}(l:List Tok)(n:Nat)(r:Except (Int×Int) (Nat×α)):Prop:=∀n' x,r=.ok (n',x)->n≤n'∧n'≤l.length
section
variable{α β:Type}{s:BY}{l:List Tok}{n:Nat}
theorem Up.weak{r:Except (Int×Int) (Nat×α)}(h:Up l n r):Upw l n r:=λn' x e=>⟨Nat.le_of_lt (h n' x e).1,(h n' x e).2⟩
theorem rG{e:Int×Int}:Up (α:=α) l n (.error e):=λn' x h=>by cases h
theorem uz{x:α}(h:n≤l.length):Upw l n (.ok (n,x)):=λn' y e=>by
 simp only[Except.ok.injEq,agW] at e
 omega
theorem iI{r:Except (Int×Int) (Nat×α)}{k:Nat->α->Except (Int×Int) (Nat×β)}(h1:Up l n r)(h2:∀n' a,n<n'->n'≤l.length->Upw l n' (k n' a)):Up l n (bnd r k):=λn' x e=>by
 rcases r with e1 | ⟨n1,a⟩
 ·cases e
 ·obtain⟨p1,p2⟩:=h1 n1 a Z
  obtain⟨q1,q2⟩:=h2 n1 a p1 p2 n' x e
  exact⟨by omega,q2⟩
theorem Qx{x:α}(h:n<l.length):Up l n (.ok (n+1,x)):=λn' y e=>by
 simp only[Except.ok.injEq,agW] at e
 omega
theorem pX:Up l n (nmV s l n):=by
 unfold nmV
 split
 ·rename_i h;exact Qx (dF h)
 ·exact rG
theorem uD{b:UInt8}:Up l n (dX s l n b):=by
 unfold dX
 split
 ·rename_i h;exact Qx (jP h)
 ·exact rG
theorem zF{x:Ins}:Up l n (lq s l n x):=iI pX λn' a _ h=>uz h
theorem Yx{x:Ins}:Up l n (l9 s l n x):=iI pX λn' a _ h=>uz h
theorem KU{x:Ins}:Up l n (rF s l n x):=iI pX λn' a _ h=>uz h
theorem aaX{x:Ins}:Up l n (sG s l n x):=iI pX λ_ _ _ _=>(iI zF λ_ _ _ _=>(iI zF λ_ _ _ h=>uz h).weak).weak
theorem aaY{x:Ins}:Up l n (vg s l n x):=iI pX λ_ _ _ _=>(iI zF λ_ _ _ h=>uz h).weak
theorem aaZ{x:Ins}:Up l n (wI s l n x):=iI pX λ_ _ _ h=>uz h
theorem aa0{x:Ins}:Up l n (sH s l n x):=iI zF λ_ _ _ _=>(iI pX λ_ _ _ _=>(iI pX λ_ _ _ h=>uz h).weak).weak
theorem aa1{x:Ins}:Up l n (yT s l n x):=iI zF λ_ _ _ h=>uz h
theorem Yy{x:Ins}:Up l n (oh s l n x):=by
 unfold oh
 split
 ·rename_i h;exact Qx (dF h)
 ·exact rG
theorem Nn{b:UInt8}{r:Except (Int×Int) (Nat×α)}(h:Up l n r):Up l n (jQ s l b r):=by
 rcases r with e | ⟨n1,a⟩
 ·exact rG
 ·unfold jQ
  dsimp only
  split
  ·rename_i hb
   obtain⟨p1,p2⟩:=h n1 a Z
   intro n' x e
   have:=jP hb
   simp only[Except.ok.injEq,agW] at e
   omega
  ·exact rG
theorem A8:Up l n (iH s l n):=by
 unfold iH
 split
 ·rename_i h
  have h1:=jP h
  split
  ·rename_i h2
   have h3:=jP h2
   intro n' x e
   simp only[Except.ok.injEq,agW] at e
   omega
  ·refine Nn λn' x e=>?_
   obtain⟨p1,p2,_⟩:=Cz e
   exact⟨by omega,p1⟩
 ·exact rG
theorem Yz{x:Ins}:Up l n (uy s l n x):=KU
theorem aa2{x:Ins}:Up l n (yU s l n x):=iI KU λ_ _ _ _=>(iI A8 λ_ _ _ h=>uz h).weak
theorem Qy{x:Ins}:Up l n (kJ s l n x):=iI Yx λ_ _ _ _=>KU.weak
theorem SX{k:Int}{x:Ins}:Up l n (cellV k s l n x):=iI KU λ_ _ _ _=>Yx.weak
theorem ads{x:Ins}:Up l n (Gw s l n x):=iI uD λ_ _ _ _=>(Nn λn' x e=>by
 obtain⟨p1,p2⟩:=CB e
 exact⟨p1,p2⟩).weak
theorem oK{r:Except (Int×Int) (Nat×α)}(h:Up l (n+1) r):Up l n r:=λn' x e=>⟨by have:=(h n' x e).1;omega,(h n' x e).2⟩
theorem aa3{x:Ins}{w:List UInt8}:Up l n (AY s l n x w):=by
 unfold AY
 split
 ·exact oK Yy
 split
 ·exact oK SX
 split
 ·exact oK SX
 split
 ·exact oK Yz
 split
 ·exact oK aa2
 split
 ·exact oK Qy
 split
 ·exact oK ads
 ·exact rG
theorem YA{x:Ins}:Up l n (dG s l n x):=by
 unfold dG
 split
 ·exact oK (iI zF λ_ _ _ _=>zF.weak)
 ·exact aa3
theorem adt{w:List UInt8}{f:Nat->Ins->Except (Int×Int) (Nat×Ins)}(h:oJ s l w=some f){x:Ins}:Up l n (f n x):=by
 unfold oJ at h
 split at h
 ·cases h;exact aaX
 split at h
 ·cases h;exact aaY
 split at h
 ·cases h;exact aaZ
 split at h
 ·cases h;exact aa0
 split at h
 ·cases h;exact aa1
 ·cases h
theorem Gx{c:Nat}:Up l n (bI s l n c):=by
 unfold bI
 split
 ·exact rG
 split
 ·exact rG
 split
 ·exact rG
 cases h:oJ s l (txV s l n).data.toList with
 | some f=>exact oK (adt h)
 | none=>exact iI pX λ_ _ _ _=>(iI uD λ_ _ _ _=>YA.weak).weak
theorem SY{c n':Nat}{x:Ins}(h:bI s l n c=.ok (n',x)):c<4096:=by
 unfold bI at h
 split at h
 ·cases h
 split at h
 ·cases h
 split at h
 ·cases h
 ·omega
end
end Go.Proofs.YtojhdmfkfkfcbaaGreatDoor
namespace Go.Proofs.YtojhdmfkfkfcbaaGreatDoor
open Go.Sx
set_option maxRecDepth 100000
theorem jI{c:Prop}[Decidable c](h:c):∀(ps qs:List D),ps.length=qs.length->dh c ps qs=ps
 | [],[],_=>by simp [dh]
 | a::ps,b::qs,e=>by rw[dh,vI h,jI h ps qs (by simpa using e)]
 | [],_::_,e=>by simp at e
 | _::_,[],e=>by simp at e
theorem jJ{c:Prop}[Decidable c](h:¬c):∀(ps qs:List D),ps.length=qs.length->dh c ps qs=qs
 | [],[],_=>by simp [dh]
 | a::ps,b::qs,e=>by rw[dh,vJ h,jJ h ps qs (by simpa using e)]
 | [],_::_,e=>by simp at e
 | _::_,[],e=>by simp at e
theorem xU{α:Type}(d:α->List D)(N:Nat)(hd:∀a,(d a).length=N)(x0:α)(xs:List α)(x:α)(j:Nat)(hj:j<xs.length+1):app xs.length (λi=>d (xs.getD i x0)) (λ_=>d x) j=d ((xs++[x]).getD j x0):=by
 unfold app
 show dh (j<xs.length) (d (xs.getD j x0)) (d x)=_
 by_cases h:j<xs.length
 ·rw[jI h _ _ (by rw[hd,hd]),agM,agM,List.getElem?_append_left h]
 ·have e:j=xs.length:=by omega
  rw[jJ h _ _ (by rw[hd,hd]),agM (l:=xs++[x]),List.getElem?_append_right (by omega),e,Nat.sub_self]
  rfl
abbrev bE(o:List BY):D:=.sl 1 o.length λi=>[.str (o.getD i .empty)]
abbrev Vv(x:Ins):List D:=[.int .u8 x.kind,.int .u8 x.op,.str x.dst,.str x.ref,.str x.alt,bE x.args,bE x.frm,.int .i64 x.num,.int .i64 x.at_]
abbrev Np(xs:List Ins):Ch:=.vec 87 9 xs.length λi=>Vv (xs.getD i (aM 0))
def codeF(s:BY)(l:List Tok):Nat->Nat->Nat->List Ins->Except (Int×Int) (Nat×(Nat×List Ins))
 | 0,_,_,_=>.error (0,0)
 | f+1,n,c,xs=>
  if (txV s l n).data.toList=[125]∨zD s l n=true then .ok (n,(c,xs))
  else bnd (bI s l n c) λn x=>codeF s l f n (c+1) (xs++[x])
structure Blk where
 name:BY
 code:List Ins
 at_:Int
def fU(s:BY)(l:List Tok)(n c:Nat):Except (Int×Int) (Nat×(Nat×Blk)):=
 bnd (nmV s l n) λn1 nm=>bnd (dX s l n1 58) λn2 _=>bnd (codeF s l 4098 n2 c []) λn3 r=>.ok (n3,(r.1,⟨nm,r.2,atV s l n⟩))
def adu(s:BY)(l:List Tok):Except (Int×Int) (Nat×(Nat×Blk))->Out
 | .ok (n,(c,b))=>.ret (.agg [vs b.name,.own 1,vi b.at_]) [pC s l n c,Np b.code]
 | .error (a,e)=>yI a e
structure BW7 (s:BY) (l:List Tok) (R:Except (Int×Int) (Nat×(Nat×List Ins))) where
 f:Nat
 n:Nat
 c:Nat
 xs:List Ins
 hf:4098≤f+c
 hn:n≤l.length
 hc:c≤4096
 hx:xs.length≤c
 same:codeF s l f n c xs=R
section
variable(s:BY)(l:List Tok)(n c:Nat)(hl:qD s l)(hn:n≤l.length)(hc:c≤4096)
include hl hn hc in
theorem Ed:aX PG 96 1 [.ptr 0 0] [pC s l n c] (adu s l (fU s l n c)):=by
 have hll:=hl.2.1
 refine aX.mk (dP 27 1) aA [0,3] Tryz.func96 rfl (by kernel_rfl) rfl rfl (by rcases fU s l n c with⟨a,e⟩ | ⟨n',c',o⟩<;>rfl) ?_
 intro C x
 refine x.call [0] Z tR Z (AV s l n c (by omega)) Z ⟨⟨Z,Z⟩,tR⟩ ⟨⟨Z,ah Z,Z,Z,tR⟩,tR⟩ ?_
 have h1:=aZ s l n c hl (by omega)
 cases e1:isV l n 1 with
 | false=>
  rw[e1,if_neg (by simp)] at h1
  refine x.die [0] Z tR Z h1 ⟨⟨Z,Z⟩,tR⟩ Z ⟨⟨Z,ah Z,Z,Z,tR⟩,tR⟩ ?_
  simp only[fU,nmV,bnd,e1,if_true,ag0,if_false]
  exact⟨Z,Z⟩
 | true=>
  rw[e1,if_pos rfl] at h1
  have l1:=dF e1
  refine x.call [0] Z tR Z h1 Z ⟨⟨Z,Z⟩,tR⟩ ⟨⟨Z,ah Z,Z,Z,tR⟩,tR⟩ ?_
  have h2:=jC s l (n+1) c hl (by omega) ⟨#[58]⟩
  by_cases e2:(txV s l (n+1)).data.toList=[58]
  ·rw[if_pos e2] at h2
   have l2:=jP e2
   refine x.call [0] Z tR Z h2 Z ⟨⟨Z,Z⟩,Z,tR⟩ ⟨⟨Z,ah Z,Z,Z,tR⟩,tR⟩ ?_
   obtain⟨R,hR⟩:∃R,codeF s l 4098 (n+1+1) c []=R:=⟨_,Z⟩
   have hV:fU s l n c=bnd R λn3 r=>.ok (n3,(r.1,⟨txV s l n,r.2,atV s l n⟩)):=by
    simp only[fU,nmV,dX,bnd,e1,e2,if_true,hR]
   rw[hV]
   refine x.toLoop Z tR ?_
   refine Go.ownB 2 1 87 9 (λi=>Vv (([]:List Ins).getD i (aM 0))) Z Z ?_
   refine x.loop (α:=BW7 s l R) (λy=>⟨[(0,.ptr 0 0),(2,.ptr 1 0),(3,.ptr 2 0)],[(0,pC s l y.n y.c),(1,.box [vs .empty,.aD,vi 0]),(2,.box [vs (txV s l n),.own 3,vi (atV s l n)]),(3,Np y.xs)],4⟩) (λy=>y.f) ⟨4098,n+1+1,c,[],by omega,by omega,hc,Nat.zero_le _,hR⟩ Z tR ⟨⟨⟨Z,Z⟩,⟨Z,Z⟩,⟨Z,Z⟩,tR⟩,⟨⟨Z,ah Z,Z,Z,tR⟩,⟨Z,tR,Z,tR⟩,⟨Z,Z,Z,tR⟩,⟨Z,Z,Z,λj hj=>absurd hj (agV _)⟩,tR⟩,Z⟩ (λy=>?_)
   obtain⟨f,m,c,xs,hf,hm,hc,hx,same⟩:=y
   change Go C _ ⟨[(0,.ptr 0 0),(2,.ptr 1 0),(3,.ptr 2 0)],[(0,pC s l m c),(1,.box [vs .empty,.aD,vi 0]),(2,.box [vs (txV s l n),.own 3,vi (atV s l n)]),(3,Np xs)],4⟩ _
   obtain⟨f,rfl⟩:∃f',f=f'+1:=⟨f-1,by omega⟩
   rw[codeF] at same
   refine x.call [0] Z tR Z (dJ s l m c hl (by omega) 0 (by omega)) Z ⟨⟨Z,Z⟩,Z,tR⟩ ⟨⟨Z,ah Z,Z,Z,tR⟩,tR⟩ ?_
   refine x.pF [0] Z tR Z (λ_=>Eb s l m c hl (by omega)) Z ⟨⟨Z,Z⟩,tR⟩ ⟨⟨Z,ah Z,Z,Z,tR⟩,tR⟩ ⟨⟨Z,ah Z,Z,Z,tR⟩,⟨Z,tR,Z,tR⟩,⟨Z,Z,Z,tR⟩,⟨Z,Z,Z,λ_ _=>rfl⟩,tR⟩ ?_
   refine x.cond Z tR (λb=>?_) (λb=>?_)
   ·have b:((!decide ((txV s l m).data.toList=[125]))&&!zD s l m)=true:=b
    have b:¬((txV s l m).data.toList=[125]∨zD s l m=true):=by simpa using b
    rw[if_neg b] at same
    have h3:=Nl s l m c hl hm (by omega)
    obtain⟨V,hW⟩:∃V,bI s l m c=V:=⟨_,Z⟩
    rw[hW] at h3 same
    rcases V with⟨a,e⟩ | ⟨n',x'⟩
    ·refine x.draw [0] [2] [0,1] [3,4] [5,6,7] Z tR ay (by kernel_rfl) gQ.quiet Z tR (λC1 x1=>?_)
     refine x1.die [0] Z tR Z h3 ⟨⟨Z,Z⟩,tR⟩ Z ⟨⟨Z,ah Z,Z,Z,tR⟩,tR⟩ ⟨⟨_,Z⟩,Z,?_⟩
     rw[←same]
     exact⟨Z,Z⟩
    ·obtain⟨p1,p2⟩:=Gx _ _ hW
     have p3:=SY hW
     simp only[bnd] at same
     refine x.draw [0] [2] [0,1] [3,4] [5,6,7] Z tR ay (by kernel_rfl) gQ.quiet Z tR (λC1 x1=>?_)
     refine x1.call [0] Z tR Z h3 Z ⟨⟨Z,Z⟩,tR⟩ ⟨⟨Z,ah Z,Z,Z,tR⟩,tR⟩ ?_
     refine Sx.Go.freeze 4 ?_
     refine Sx.Go.freeze 5 ?_
     refine x1.back Z tR ?_
     refine x1.back Z tR ?_
     refine x.back Z ?_ ⟨⟨f,n',c+1,xs++[x'],by omega,p2,by omega,by rw[List.length_append];simp only[List.length_cons,List.length_nil];omega,same⟩,by show f<f+1;omega,⟨⟨Z,Z⟩,⟨Z,Z⟩,⟨Z,Z⟩,tR⟩,⟨⟨Z,ah Z,Z,Z,tR⟩,⟨Z,tR,Z,tR⟩,⟨Z,Z,Z,tR⟩,⟨Z,Z,by simp,λj hj=>xU Vv 9 (λ_=>rfl) (aM 0) xs x' j hj⟩,tR⟩,Z⟩
     simp only[ak,big];omega
   ·have b:((!decide ((txV s l m).data.toList=[125]))&&!zD s l m)=false:=b
    have b:(txV s l m).data.toList=[125]∨zD s l m=true:=by
     refine Classical.byContradiction λhh=>?_
     simp only[not_or] at hh
     rw[decide_eq_false hh.1,(by simpa using hh.2:zD s l m=false)] at b
     cases b
    rw[if_pos b] at same
    refine x.exit Z tR ?_
    rw[←same]
    exact⟨.inr Z,⟨Z,Z,Z,tR⟩,⟨⟨Z,ah Z,Z,Z,tR⟩,⟨Z,Z,Z,λ_ _=>rfl⟩,tR⟩,Z⟩
  ·rw[if_neg e2] at h2
   refine x.die [0] Z tR Z h2 ⟨⟨Z,Z⟩,Z,tR⟩ Z ⟨⟨Z,ah Z,Z,Z,tR⟩,tR⟩ ?_
   simp only[fU,nmV,dX,bnd,e1,e2,if_true,if_false]
   exact⟨Z,Z⟩
end
theorem S9{s:BY}{l:List Tok}:∀{f n c:Nat} {xs:List Ins} {n' c':Nat} {ys:List Ins},n≤l.length->c≤4096->codeF s l f n c xs=.ok (n',(c',ys))->n≤n'∧n'≤l.length∧c'≤4096
 | 0,n,c,xs,n',c',ys,hn,hc,h=>by simp [codeF] at h
 | f+1,n,c,xs,n',c',ys,hn,hc,h=>by
  rw[codeF] at h
  split at h
  ·simp only[Except.ok.injEq,agW] at h
   omega
  ·obtain⟨V,hV⟩:∃V,bI s l n c=V:=⟨_,Z⟩
   rw[hV] at h
   rcases V with e | ⟨n1,x⟩
   ·cases h
   ·obtain⟨p1,p2⟩:=Gx _ _ hV
    have p3:=SY hV
    obtain⟨q1,q2,q3⟩:=S9 p2 (by omega) h
    exact⟨by omega,q2,q3⟩
theorem sI{s:BY}{l:List Tok}{n c n' c':Nat}{b:Blk}(hc:c≤4096)(h:fU s l n c=.ok (n',(c',b))):n<n'∧n'≤l.length∧c'≤4096:=by
 unfold fU at h
 obtain⟨V,hV⟩:∃V,nmV s l n=V:=⟨_,Z⟩
 rw[hV] at h
 rcases V with e | ⟨n1,nm⟩
 ·cases h
 obtain⟨p1,p2⟩:=pX _ _ hV
 simp only[bnd] at h
 obtain⟨V,hV⟩:∃V,dX s l n1 58=V:=⟨_,Z⟩
 rw[hV] at h
 rcases V with e | ⟨n2,u⟩
 ·cases h
 obtain⟨q1,q2⟩:=uD _ _ hV
 simp only at h
 obtain⟨V,hV⟩:∃V,codeF s l 4098 n2 c []=V:=⟨_,Z⟩
 rw[hV] at h
 rcases V with e | ⟨n3,c3,ys⟩
 ·cases h
 obtain⟨r1,r2,r3⟩:=S9 q2 hc hV
 simp only[Except.ok.injEq,agW] at h
 omega
abbrev pY(xs:List Ins):D:=.sl 9 xs.length λi=>Vv (xs.getD i (aM 0))
abbrev Qz(b:Blk):List D:=[.str b.name,pY b.code,.int .i64 b.at_]
def bN:Blk:=⟨.empty,[],0⟩
abbrev Gy(bs:List Blk):Ch:=.vec 85 3 bs.length λi=>Qz (bs.getD i bN)
def fq(s:BY)(l:List Tok):Nat->Nat->Nat->List Blk->Except (Int×Int) (Nat×(Nat×List Blk))
 | 0,_,_,_=>.error (0,0)
 | f+1,n,c,bs=>
  if zD s l n=true then
   if 64≤bs.length then .error (atV s l n,3)
   else bnd (fU s l n c) λn r=>fq s l f n r.1 (bs++[r.2])
  else .ok (n,(c,bs))
structure Fun where
 name:BY
 params:List BY
 blocks:List Blk
 at_:Int
def lQ(s:BY)(l:List Tok)(n c:Nat):Except (Int×Int) (Nat×(Nat×Fun)):=
 bnd (nmV s l (n+1)) λn1 nm=>bnd (iH s l n1) λn2 ps=>bnd (dX s l n2 123) λn3 _=>bnd (fU s l n3 c) λn4 r=>
  bnd (fq s l 65 n4 r.1 [r.2]) λn5 q=>bnd (dX s l n5 125) λn6 _=>.ok (n6,(q.1,⟨nm,ps,q.2,atV s l n⟩))
def af0(s:BY)(l:List Tok):Except (Int×Int) (Nat×(Nat×Fun))->Out
 | .ok (n,(c,b))=>.ret (.agg [vs b.name,.own 1,.own 2,vi b.at_]) [pC s l n c,jh b.params,Gy b.blocks]
 | .error (a,e)=>yI a e
structure FW (s:BY) (l:List Tok) (R:Except (Int×Int) (Nat×(Nat×List Blk))) where
 f:Nat
 n:Nat
 c:Nat
 bs:List Blk
 hf:f+bs.length=66
 hb:bs.length≤64
 hn:n≤l.length
 hc:c≤4096
 same:fq s l f n c bs=R
section
variable(s:BY)(l:List Tok)(n c:Nat)(hl:qD s l)(hn:n<l.length)(hc:c≤4096)
include hl hn hc in
theorem Gz:aX PG 47 1 [.ptr 0 0] [pC s l n c] (af0 s l (lQ s l n c)):=by
 have hll:=hl.2.1
 have ei:aI (vi ((n:Int)+1)) (vi ((n+1:Nat):Int)):=by rw[agY];rfl
 refine aX.mk (dP 46 1) aA [0,3,4] Tryz.func47 rfl (by kernel_rfl) rfl rfl (by rcases lQ s l n c with⟨a,e⟩ | ⟨n',c',o⟩<;>rfl) ?_
 intro C x
 refine x.call [0] Z tR Z (AV s l n c (by omega)) Z ⟨⟨Z,Z⟩,tR⟩ ⟨⟨Z,ah Z,Z,Z,tR⟩,tR⟩ ?_
 have h1:=aZ s l (n+1) c hl (by omega)
 cases e1:isV l (n+1) 1 with
 | false=>
  rw[e1,if_neg (by simp)] at h1
  refine x.die [0] Z (by simp only[ak,aj];omega) Z h1 ⟨⟨Z,Z⟩,tR⟩ Z ⟨⟨Z,ah Z,ei,Z,tR⟩,tR⟩ ?_
  simp only[lQ,nmV,bnd,e1,if_true,ag0,if_false]
  exact⟨Z,Z⟩
 | true=>
 rw[e1,if_pos rfl] at h1
 have l1:=dF e1
 refine x.call [0] Z (by simp only[ak,aj];omega) Z h1 Z ⟨⟨Z,Z⟩,tR⟩ ⟨⟨Z,ah Z,ei,Z,tR⟩,tR⟩ ?_
 have h2:=Ec s l (n+1+1) c hl (by omega)
 obtain⟨N,hN⟩:∃N,iH s l (n+1+1)=N:=⟨_,Z⟩
 rw[hN] at h2
 rcases N with⟨a,e⟩ | ⟨n2,ps⟩
 ·refine x.die [0] Z tR Z h2 ⟨⟨Z,Z⟩,tR⟩ Z ⟨⟨Z,ah Z,Z,Z,tR⟩,tR⟩ ?_
  simp only[lQ,nmV,bnd,e1,if_true,hN]
  exact⟨Z,Z⟩
 obtain⟨q1,q2⟩:=A8 _ _ hN
 refine x.call [0] Z tR Z h2 Z ⟨⟨Z,Z⟩,tR⟩ ⟨⟨Z,ah Z,Z,Z,tR⟩,tR⟩ ?_
 have h3:=jC s l n2 c hl (by omega) ⟨#[123]⟩
 by_cases e3:(txV s l n2).data.toList=[123]
 rotate_left
 ·rw[if_neg e3] at h3
  refine x.die [0] Z tR Z h3 ⟨⟨Z,Z⟩,Z,tR⟩ Z ⟨⟨Z,ah Z,Z,Z,tR⟩,tR⟩ ?_
  simp only[lQ,nmV,dX,bnd,e1,e3,if_true,if_false,hN]
  exact⟨Z,Z⟩
 rw[if_pos e3] at h3
 have l3:=jP e3
 refine x.call [0] Z tR Z h3 Z ⟨⟨Z,Z⟩,Z,tR⟩ ⟨⟨Z,ah Z,Z,Z,tR⟩,tR⟩ ?_
 refine x.code Z tR ?_
 refine Go.ownB 2 2 85 3 (λi=>Qz (([]:List Blk).getD i bN)) Z Z ?_
 have h4:=Ed s l (n2+1) c hl (by omega) hc
 obtain⟨B,hB⟩:∃B,fU s l (n2+1) c=B:=⟨_,Z⟩
 rw[hB] at h4
 rcases B with⟨a,e⟩ | ⟨n4,c4,b4⟩
 ·refine x.draw [0] [2] [0,1] [3,4] [5,6,7] Z tR ay (by kernel_rfl) gQ.quiet Z tR (λC1 x1=>?_)
  refine x1.die [0] Z tR Z h4 ⟨⟨Z,Z⟩,tR⟩ Z ⟨⟨Z,ah Z,Z,Z,tR⟩,tR⟩ ⟨⟨_,Z⟩,Z,?_⟩
  simp only[lQ,nmV,dX,bnd,e1,e3,if_true,hN,hB]
  exact⟨Z,Z⟩
 obtain⟨r1,r2,r3⟩:=sI hc hB
 refine x.draw [0] [2] [0,1] [3,4] [5,6,7] Z tR ay (by kernel_rfl) gQ.quiet Z tR (λC1 x1=>?_)
 refine x1.call [0] Z tR Z h4 Z ⟨⟨Z,Z⟩,tR⟩ ⟨⟨Z,ah Z,Z,Z,tR⟩,tR⟩ ?_
 refine Sx.Go.freeze 5 ?_
 refine x1.back Z tR ?_
 refine x1.back Z tR ?_
 obtain⟨R,hR⟩:∃R,fq s l 65 n4 c4 [b4]=R:=⟨_,Z⟩
 have hV:lQ s l n c=bnd R λn5 q=>bnd (dX s l n5 125) λn6 _=>.ok (n6,(q.1,⟨txV s l (n+1),ps,q.2,atV s l n⟩)):=by
  simp only[lQ,nmV,dX,bnd,e1,e3,if_true,hN,hB,hR]
 rw[hV]
 refine x.loop (α:=FW s l R) (λy=>⟨[(0,.ptr 0 0),(2,.ptr 1 0),(3,.ptr 2 0)],[(0,pC s l y.n y.c),(1,.box [vs .empty,.aD,.aD,vi 0]),(2,.box [vs (txV s l (n+1)),.own 3,.own 4,vi (atV s l n)]),(3,jh ps),(4,Gy y.bs)],5⟩) (λy=>y.f) ⟨65,n4,c4,[b4],Z,by simp,r2,r3,hR⟩ Z (by simp only[ak,big,List.length_cons,List.length_nil];omega) ⟨⟨⟨Z,Z⟩,⟨Z,Z⟩,⟨Z,Z⟩,tR⟩,⟨⟨Z,ah Z,Z,Z,tR⟩,⟨Z,tR,tR,Z,tR⟩,⟨Z,Z,Z,Z,tR⟩,⟨Z,Z,Z,λ_ _=>rfl⟩,⟨Z,Z,Z,λj hj=>xU Qz 3 (λ_=>rfl) bN [] b4 j hj⟩,tR⟩,Z⟩ (λy=>?_)
 obtain⟨f,m,c,bs,hf,hb,hm,hc,same⟩:=y
 change Go C _ ⟨[(0,.ptr 0 0),(2,.ptr 1 0),(3,.ptr 2 0)],[(0,pC s l m c),(1,.box [vs .empty,.aD,.aD,vi 0]),(2,.box [vs (txV s l (n+1)),.own 3,.own 4,vi (atV s l n)]),(3,jh ps),(4,Gy bs)],5⟩ _
 obtain⟨f,rfl⟩:∃f',f=f'+1:=⟨f-1,by omega⟩
 rw[fq] at same
 refine x.call [0] Z tR Z (Eb s l m c hl (by omega)) Z ⟨⟨Z,Z⟩,tR⟩ ⟨⟨Z,ah Z,Z,Z,tR⟩,tR⟩ ?_
 refine x.cond Z tR (λb=>?_) (λb=>?_)
 ·have b:zD s l m=true:=b
  rw[if_pos b] at same
  have h5:=o9 s l m c (by omega) (bs.length:Int) 64
  by_cases h6:64≤bs.length
  ·rw[if_pos (by omega)] at h5
   rw[if_pos h6] at same
   refine x.die [0] Z tR Z h5 ⟨⟨Z,Z⟩,Z,Z,tR⟩ Z ⟨⟨Z,ah Z,Z,Z,tR⟩,tR⟩ ?_
   rw[←same]
   exact⟨Z,Z⟩
  rw[if_neg (by omega)] at h5
  rw[if_neg h6] at same
  refine x.call [0] Z tR Z h5 Z ⟨⟨Z,Z⟩,Z,Z,tR⟩ ⟨⟨Z,ah Z,Z,Z,tR⟩,tR⟩ ?_
  have h7:=Ed s l m c hl hm hc
  obtain⟨V,hW⟩:∃V,fU s l m c=V:=⟨_,Z⟩
  rw[hW] at h7 same
  rcases V with⟨a,e⟩ | ⟨n',c',b'⟩
  ·refine x.draw [0] [2] [0,1] [3,4] [5,6,7] Z tR ay (by kernel_rfl) gQ.quiet Z tR (λC1 x1=>?_)
   refine x1.die [0] Z tR Z h7 ⟨⟨Z,Z⟩,tR⟩ Z ⟨⟨Z,ah Z,Z,Z,tR⟩,tR⟩ ⟨⟨_,Z⟩,Z,?_⟩
   rw[←same]
   exact⟨Z,Z⟩
  ·obtain⟨p1,p2,p3⟩:=sI hc hW
   simp only[bnd] at same
   refine x.draw [0] [2] [0,1] [3,4] [5,6,7] Z tR ay (by kernel_rfl) gQ.quiet Z tR (λC1 x1=>?_)
   refine x1.call [0] Z tR Z h7 Z ⟨⟨Z,Z⟩,tR⟩ ⟨⟨Z,ah Z,Z,Z,tR⟩,tR⟩ ?_
   refine Sx.Go.freeze 5 ?_
   refine x1.back Z tR ?_
   refine x1.back Z tR ?_
   refine x.back Z (by simp only[ak,big,List.length_cons,List.length_nil];omega) ⟨⟨f,n',c',bs++[b'],by rw[List.length_append];simp only[List.length_cons,List.length_nil];omega,by rw[List.length_append];simp only[List.length_cons,List.length_nil];omega,p2,p3,same⟩,by show f<f+1;omega,⟨⟨Z,Z⟩,⟨Z,Z⟩,⟨Z,Z⟩,tR⟩,⟨⟨Z,ah Z,Z,Z,tR⟩,⟨Z,tR,tR,Z,tR⟩,⟨Z,Z,Z,Z,tR⟩,⟨Z,Z,Z,λ_ _=>rfl⟩,⟨Z,Z,by simp,λj hj=>xU Qz 3 (λ_=>rfl) bN bs b' j hj⟩,tR⟩,Z⟩
 ·have b:zD s l m=false:=b
  rw[b,if_neg (by simp)] at same
  have h8:=jC s l m c hl (by omega) ⟨#[125]⟩
  by_cases e8:(txV s l m).data.toList=[125]
  ·rw[if_pos e8] at h8
   refine x.call [0] Z tR Z h8 Z ⟨⟨Z,Z⟩,Z,tR⟩ ⟨⟨Z,ah Z,Z,Z,tR⟩,tR⟩ ?_
   refine x.exit Z tR ?_
   rw[←same,bnd,dX,if_pos e8]
   exact⟨.inr Z,⟨Z,Z,Z,Z,tR⟩,⟨⟨Z,ah Z,Z,Z,tR⟩,⟨Z,Z,Z,λ_ _=>rfl⟩,⟨Z,Z,Z,λ_ _=>rfl⟩,tR⟩,Z⟩
  ·rw[if_neg e8] at h8
   refine x.die [0] Z tR Z h8 ⟨⟨Z,Z⟩,Z,tR⟩ Z ⟨⟨Z,ah Z,Z,Z,tR⟩,tR⟩ ?_
   rw[←same,bnd,dX,if_neg e8]
   exact⟨Z,Z⟩
end
theorem p8(f1 f2:Nat->List D)(a e:Int):Later PG 43 [.ptr 0 0,.ptr 1 0,.ptr 2 0] [.box [.dead,.dead],.box [.dead],.box [.dead]] (.pan Ea [(.i64,a),(.i64,e)]) [.box [.d (.sl 4 0 f1),.d (.sl 4 0 f2)],.box [vi a],.box [vi e]]:=by
 refine Later.mk (dP 22 3) aA [0,1,2] Tryz.func43 Z (by kernel_rfl) Z Z Z Z Z Z Z Z Z Z ?_
 intro C x
 refine x.cond Z tR (λh=>?_) (λh=>?_)
 rotate_left
 ·cases h
 refine x.cond Z tR (λh=>?_) (λh=>?_)
 ·cases h
 refine x.draw [0,1] [] [0,1,2,3,4] [5,6] [7] Z tR ay (by kernel_rfl) (NoPanic.quiet Ret.bG) Z tR (λC1 x1=>?_)
 refine x1.back Z tR ?_
 refine x1.back Z tR ?_
 refine x.exit Z tR ?_
 exact⟨.inl Z,tR,⟨⟨Z,Z,tR⟩,⟨Z,tR⟩,⟨Z,tR⟩,tR⟩,Z⟩
theorem Nq(z1 n1 z2 n2:Nat)(f1 f2:Nat->List D)(a e:Int):Later PG 43 [.ptr 0 0,.ptr 1 0,.ptr 2 0] [.box [.d (.sl z1 n1 f1),.d (.sl z2 n2 f2)],.box [vi a],.box [vi e]] .back [.box [.d (.sl z1 n1 f1),.d (.sl z2 n2 f2)],.box [vi a],.box [vi e]]:=by
 refine Later.mk (dP 22 3) aA [0,1,2] Tryz.func43 Z (by kernel_rfl) Z Z Z Z Z Z Z Z Z Z ?_
 intro C x
 refine x.cond Z tR (λh=>?_) (λh=>?_)
 ·cases h
 refine x.exit Z tR ?_
 exact⟨.inl Z,tR,⟨⟨ah Z,ah Z,tR⟩,⟨Z,tR⟩,⟨Z,tR⟩,tR⟩,Z⟩
abbrev iA(bs:List Blk):D:=.sl 3 bs.length λi=>Qz (bs.getD i bN)
abbrev CG(f:Fun):List D:=[.str f.name,bE f.params,iA f.blocks,.int .i64 f.at_]
abbrev CJ(a:Arr):List D:=[.str a.name,.int .i64 a.size,.str a.level,.int .i64 a.at_]
def bM:Fun:=⟨.empty,[],[],0⟩
def dZ:Arr:=⟨.empty,0,.empty,0⟩
abbrev vo(fs:List Fun):Ch:=.vec 82 4 fs.length λi=>CG (fs.getD i bM)
abbrev Nr(xs:List Arr):Ch:=.vec 78 4 xs.length λi=>CJ (xs.getD i dZ)
abbrev bW(fs:List Fun):D:=.sl 4 fs.length λi=>CG (fs.getD i bM)
abbrev bX(xs:List Arr):D:=.sl 4 xs.length λi=>CJ (xs.getD i dZ)
abbrev xD(x:Ins):V:=.agg [.d (.int .u8 x.kind),.d (.int .u8 x.op),vs x.dst,vs x.ref,vs x.alt,.d (bE x.args),.d (bE x.frm),vi x.num,vi x.at_]
abbrev fnV(f:Fun):V:=.agg [vs f.name,.d (bE f.params),.d (iA f.blocks),vi f.at_]
structure Prg where
 arrays:List Arr
 funcs:List Fun
abbrev Ns(p:Prg):V:=.agg [.d (bX p.arrays),.d (bW p.funcs)]
def lS(s:BY)(l:List Tok):Nat->Nat->Nat->Prg->Except (Int×Int) (Nat×Prg)
 | 0,_,_,_=>.error (0,0)
 | f+1,n,c,p=>
  if n<l.length then
   if (txV s l n).data.toList=[97,114,114,97,121] then
    if 16≤p.arrays.length then .error (atV s l n,3)
    else bnd (vD s l n) λn x=>lS s l f n c ⟨p.arrays++[x],p.funcs⟩
   else if (txV s l n).data.toList=[102,110] then
    if 64≤p.funcs.length then .error (atV s l n,3)
    else bnd (lQ s l n c) λn r=>lS s l f n r.1 ⟨p.arrays,p.funcs++[r.2]⟩
   else .error (atV s l n,7)
  else .ok (n,p)
def af2:Except (Int×Int) (Nat×Prg)->Prg×Int×Int
 | .ok (_,p)=>(p,0,0)
 | .error (a,e)=>(⟨[],[]⟩,a,e)
def bJ(s:BY):Prg×Int×Int:=
 if (eH s).2.2=0 then af2 (lS s (eH s).1 ((eH s).1.length+1) 0 0 ⟨[],[]⟩) else (⟨[],[]⟩,(eH s).2.1,(eH s).2.2)
theorem adv{s:BY}{l:List Tok}{n n':Nat}{x:Arr}(h:vD s l n=.ok (n',x)):n<n'∧n'≤l.length:=by
 unfold vD at h
 obtain⟨V,hV⟩:∃V,nmV s l (n+1)=V:=⟨_,Z⟩
 rw[hV] at h
 rcases V with e | ⟨n1,nm⟩
 ·cases h
 obtain⟨p1,p2⟩:=pX _ _ hV
 simp only[bnd] at h
 split at h
 ·rename_i h3
  have l3:=dF h3
  split at h
  ·cases h
  ·obtain⟨V,hV⟩:∃V,nmV s l (n1+1)=V:=⟨_,Z⟩
   rw[hV] at h
   rcases V with e | ⟨n2,lv⟩
   ·cases h
   obtain⟨q1,q2⟩:=pX _ _ hV
   simp only[Except.ok.injEq,agW] at h
   omega
 ·cases h
theorem JG{s:BY}{l:List Tok}:∀{f n c:Nat} {bs:List Blk} {n' c':Nat} {ys:List Blk},n≤l.length->c≤4096->fq s l f n c bs=.ok (n',(c',ys))->n≤n'∧n'≤l.length∧c'≤4096
 | 0,n,c,bs,n',c',ys,hn,hc,h=>by simp [fq] at h
 | f+1,n,c,bs,n',c',ys,hn,hc,h=>by
  rw[fq] at h
  split at h
  ·split at h
   ·cases h
   ·obtain⟨V,hV⟩:∃V,fU s l n c=V:=⟨_,Z⟩
    rw[hV] at h
    rcases V with e | ⟨n1,c1,b⟩
    ·cases h
    ·obtain⟨p1,p2,p3⟩:=sI hc hV
     obtain⟨q1,q2,q3⟩:=JG p2 p3 h
     exact⟨by omega,q2,q3⟩
  ·simp only[Except.ok.injEq,agW] at h
   omega
theorem Ta{s:BY}{l:List Tok}{n c n' c':Nat}{x:Fun}(hc:c≤4096)(h:lQ s l n c=.ok (n',(c',x))):n<n'∧n'≤l.length∧c'≤4096:=by
 unfold lQ at h
 obtain⟨V,hV⟩:∃V,nmV s l (n+1)=V:=⟨_,Z⟩
 rw[hV] at h
 rcases V with e | ⟨n1,nm⟩
 ·cases h
 obtain⟨p1,p2⟩:=pX _ _ hV
 simp only[bnd] at h
 obtain⟨V,hV⟩:∃V,iH s l n1=V:=⟨_,Z⟩
 rw[hV] at h
 rcases V with e | ⟨n2,ps⟩
 ·cases h
 obtain⟨q1,q2⟩:=A8 _ _ hV
 simp only at h
 obtain⟨V,hV⟩:∃V,dX s l n2 123=V:=⟨_,Z⟩
 rw[hV] at h
 rcases V with e | ⟨n3,u⟩
 ·cases h
 obtain⟨r1,r2⟩:=uD _ _ hV
 simp only at h
 obtain⟨V,hV⟩:∃V,fU s l n3 c=V:=⟨_,Z⟩
 rw[hV] at h
 rcases V with e | ⟨n4,c4,b⟩
 ·cases h
 obtain⟨t1,t2,t3⟩:=sI hc hV
 simp only at h
 obtain⟨V,hV⟩:∃V,fq s l 65 n4 c4 [b]=V:=⟨_,Z⟩
 rw[hV] at h
 rcases V with e | ⟨n5,c5,bs⟩
 ·cases h
 obtain⟨u1,u2,u3⟩:=JG t2 t3 hV
 simp only at h
 obtain⟨V,hV⟩:∃V,dX s l n5 125=V:=⟨_,Z⟩
 rw[hV] at h
 rcases V with e | ⟨n6,u⟩
 ·cases h
 obtain⟨w1,w2⟩:=uD _ _ hV
 simp only[Except.ok.injEq,agW] at h
 omega
theorem Nt(s:BY):∀(n a:Nat) (out:List Tok),a≤s.size->(∀t,t∈out->0≤t.f∧t.f<t.t∧t.t≤s.size)->∀t,t∈(pV s n a out).1->0≤t.f∧t.f<t.t∧t.t≤s.size
 | 0,a,out,_,_=>by simp [pV]
 | n+1,a,out,ha,ho=>by
  rw[pV]
  split
  ·exact ho
  ·split
   ·rename_i h0
    have hf:=sF ha
    have hb:(a:Int)≤(gB s a).1.f∧(gB s a).1.f<(gB s a).1.t∧(gB s a).1.t≤s.size:=by
     rcases hf with h | h | h
     ·exact h.2
     ·omega
     ·omega
    refine Nt s n _ _ (by omega) λt ht=>?_
    rcases List.mem_append.1 ht with ht | ht
    ·exact ho t ht
    ·obtain rfl:=List.mem_singleton.1 ht
     omega
   ·simp
theorem GA(s:BY)(hs:s.size≤65536):qD s (eH s).1:=by
 have hl:=aaV s
 refine⟨λt ht=>?_,by omega,by omega⟩
 unfold eH at ht
 rw[if_neg (by omega)] at ht
 split at ht
 ·simp at ht
 ·exact Nt s _ 0 [] (by omega) (by simp) t ht
theorem CK{s:BY}(h:(eH s).2.2=0):s.size≤65536:=by
 rcases Nat.lt_or_ge 65536 s.size with h1 | h1
 ·rw[eH,if_pos h1] at h;cases h
 ·exact h1
theorem QA{α:Type}{s:BY}{l:List Tok}{b:UInt8}{V:Except (Int×Int) (Nat×α)}:jQ s l b V=bnd V λn o=>bnd (dX s l n b) λn _=>.ok (n,o):=by
 rcases V with e | ⟨n,o⟩
 ·rfl
 ·simp only[jQ,bnd,dX]
  split<;>rfl
structure PLW (s:BY) (l:List Tok) (R:Except (Int×Int) (Nat×Prg)) where
 f:Nat
 n:Nat
 c:Nat
 p:Prg
 hf:l.length+1≤f+n
 hn:n≤l.length
 hc:c≤4096
 ha:p.arrays.length≤16
 hp:p.funcs.length≤64
 same:lS s l f n c p=R
abbrev adw(R:Prg×Int×Int):V:=.tup [Ns R.1,vi R.2.1,vi R.2.2]
theorem wJ(s:BY)(hs:s.size≤4611686018427387904):Pure PG 16 [vs s] (adw (bJ s)) []:=by
 refine aG.SH (cfg 63) aA [] 3 [2,3,4] Tryz.func16 Z Z (by kernel_rfl) Z Z Z ?_
 intro C x
 refine x.pure Z tR Z (Vi s hs) ⟨Z,tR⟩ ?_
 refine x.cond Z tR (λh=>?_) (λh=>?_)
 ·have h:(!decide ((eH s).2.2=0))=true:=h
  have h:¬(eH s).2.2=0:=by simpa using h
  rw[bJ,if_neg h]
  refine x.every (mkO [(0,[]),(1,[]),(2,[]),(3,[0]),(4,[1,3]),(5,[2,4])] 7 []) ⟨[(2,.ptr 0 0),(3,.ptr 1 0),(4,.ptr 2 0)],[(0,.box [.aD,.aD]),(1,.box [vi (eH s).2.1]),(2,.box [vi (eH s).2.2])],3⟩ Z tR ay (by kernel_rfl) ?_ ?_
  ·repeat' (first | exact tR | exact⟨⟨⟨Z,Z⟩,⟨Z,Z⟩,⟨Z,Z⟩,tR⟩,⟨⟨tR,tR,tR⟩,⟨Z,tR⟩,⟨Z,tR⟩,tR⟩,Z⟩ | refine⟨?_,?_⟩ | refine x.back Z tR ?_)
  refine Go.ownB 0 0 78 4 (λi=>CJ (([]:List Arr).getD i dZ)) Z Z ?_
  refine Go.ownB 0 1 82 4 (λi=>CG (([]:List Fun).getD i bM)) Z Z ?_
  refine Sx.Go.freeze 3 ?_
  refine Sx.Go.freeze 4 ?_
  refine x.exit Z tR ?_
  exact⟨.inr Z,⟨Z,Z,Z,tR⟩,tR,Z⟩
 have h:(!decide ((eH s).2.2=0))=false:=h
 have h0:(eH s).2.2=0:=by simpa using h
 have hsm:=CK h0
 have hl:=GA s hsm
 rw[bJ,if_pos h0]
 obtain⟨l,hL⟩:∃l,(eH s).1=l:=⟨_,Z⟩
 rw[hL] at hl ⊢
 have hll:=hl.2.1
 refine x.back Z tR ?_
 refine x.back Z tR ?_
 refine⟨_,_,3,Z,Z,⟨_,Tryz.func43,Z,by kernel_rfl⟩,λC1 x1=>?_⟩
 clear x
 obtain⟨a0,ha0⟩:∃a,(eH s).2.1=a:=⟨_,Z⟩
 obtain⟨e0,he0⟩:∃e,(eH s).2.2=e:=⟨_,Z⟩
 rw[ha0,he0]
 obtain⟨R,hR⟩:∃R,lS s l (l.length+1) 0 0 ⟨[],[]⟩=R:=⟨_,Z⟩
 rw[hR]
 refine x1.toLoop Z tR ?_
 refine Go.ownB 0 0 78 4 (λi=>CJ (([]:List Arr).getD i dZ)) Z Z ?_
 refine Go.ownB 0 1 82 4 (λi=>CG (([]:List Fun).getD i bM)) Z Z ?_
 refine x1.loop (α:=PLW s l R) (λy=>⟨[(2,.ptr 0 0),(3,.ptr 1 0),(4,.ptr 2 0),(5,tv l),(6,.ptr 3 0)],[(0,.box [.own 4,.own 5]),(1,.box [vi a0]),(2,.box [vi e0]),(3,pC s l y.n y.c),(4,Nr y.p.arrays),(5,vo y.p.funcs)],6⟩) (λy=>y.f) ⟨l.length+1,0,0,⟨[],[]⟩,by omega,by omega,by omega,by simp,by simp,hR⟩ Z tR ?_ (λy=>?_)
 ·exact⟨⟨⟨Z,Z⟩,⟨Z,Z⟩,⟨Z,Z⟩,av Z,⟨Z,Z⟩,tR⟩,⟨⟨Z,Z,tR⟩,⟨Z,tR⟩,⟨Z,tR⟩,⟨Z,ah Z,Z,Z,tR⟩,⟨Z,Z,Z,λj hj=>absurd hj (agV _)⟩,⟨Z,Z,Z,λj hj=>absurd hj (agV _)⟩,tR⟩,Z⟩
 obtain⟨f,n,c,p,hf,hn,hc,ha,hp,same⟩:=y
 change Go C1 _ ⟨[(2,.ptr 0 0),(3,.ptr 1 0),(4,.ptr 2 0),(5,tv l),(6,.ptr 3 0)],[(0,.box [.own 4,.own 5]),(1,.box [vi a0]),(2,.box [vi e0]),(3,pC s l n c),(4,Nr p.arrays),(5,vo p.funcs)],6⟩ _
 obtain⟨f,rfl⟩:∃f',f=f'+1:=⟨f-1,by omega⟩
 rw[lS] at same
 refine x1.cond Z tR (λb=>?_) (λb=>?_)
 rotate_left
 ·have b:decide ((n:Int)<(l.length:Int))=false:=b
  have b:¬n<l.length:=by simpa using b
  rw[if_neg b] at same
  refine Sx.Go.freeze 4 ?_
  refine Sx.Go.freeze 5 ?_
  refine x1.exit Z tR ?_
  rw[←same]
  exact⟨.back,[.ptr 0 0,.ptr 1 0,.ptr 2 0],[0,1,2],_,_,_,.inr rfl,λh=>(by obtain⟨_,h⟩:=h;cases h),λ_ _ _ _ h=>h,Nq 4 p.arrays.length 4 p.funcs.length (λi=>CJ (p.arrays.getD i dZ)) (λi=>CG (p.funcs.getD i bM)) 0 0,⟨⟨rfl,rfl⟩,⟨rfl,rfl⟩,⟨rfl,rfl⟩,tR⟩,rfl,⟨⟨ah rfl,ah rfl,tR⟩,⟨rfl,tR⟩,⟨rfl,tR⟩,tR⟩,.inr rfl,⟨rfl,rfl,rfl,tR⟩,tR,rfl⟩
 have b:decide ((n:Int)<(l.length:Int))=true:=b
 have b:n<l.length:=by simpa using b
 rw[if_pos b] at same
 refine x1.call [3] Z tR Z (dJ s l n c hl (by omega) 0 (by omega)) Z ⟨⟨Z,Z⟩,Z,tR⟩ ⟨⟨Z,ah Z,Z,Z,tR⟩,tR⟩ ?_
 refine x1.cond Z tR (λb2=>?_) (λb2=>?_)
 ·have b2:decide ((txV s l n).data.toList=[97,114,114,97,121])=true:=b2
  have b2:(txV s l n).data.toList=[97,114,114,97,121]:=agP b2
  rw[if_pos b2] at same
  have h5:=o9 s l n c (by omega) (p.arrays.length:Int) 16
  by_cases h6:16≤p.arrays.length
  ·rw[if_pos (by omega)] at h5
   rw[if_pos h6] at same
   refine x1.ED [2,3,4] [3] Z tR Z h5 ⟨⟨Z,Z⟩,Z,Z,tR⟩ Z ⟨⟨Z,ah Z,Z,Z,tR⟩,tR⟩ ?_
   rw[←same]
   exact⟨.pan Ea [(.i64,_),(.i64,_)],[.ptr 0 0,.ptr 1 0,.ptr 2 0],[0,1,2],_,_,_,Z,λ_=>rfl,λ_ _ _ _ h=>((h.dim 0).dim 1).dim 2,p8 (λi=>CJ (([]:List Arr).getD i dZ)) (λi=>CG (([]:List Fun).getD i bM)) _ _,⟨⟨Z,Z⟩,⟨Z,Z⟩,⟨Z,Z⟩,tR⟩,Z,⟨⟨Z,Z,tR⟩,⟨Z,tR⟩,⟨Z,tR⟩,tR⟩,.inr Z,⟨Z,Z,Z,tR⟩,tR,Z⟩
  rw[if_neg (by omega)] at h5
  rw[if_neg h6] at same
  refine x1.call [3] Z tR Z h5 Z ⟨⟨Z,Z⟩,Z,Z,tR⟩ ⟨⟨Z,ah Z,Z,Z,tR⟩,tR⟩ ?_
  have h7:=Ni s l n c hl b
  obtain⟨V,hW⟩:∃V,vD s l n=V:=⟨_,Z⟩
  rw[hW] at h7 same
  rcases V with⟨a,e⟩ | ⟨n',x'⟩
  ·refine x1.draw [3] [2] [0,1] [3,4] [5,6,7] Z tR ay (by kernel_rfl) (iU.quiet (by kernel_rfl)) Z tR (λC2 x2=>?_)
   refine x2.ED [2,3,4] [3] Z tR Z h7 ⟨⟨Z,Z⟩,tR⟩ Z ⟨⟨Z,ah Z,Z,Z,tR⟩,tR⟩ ⟨⟨_,Z⟩,Z,?_⟩
   rw[←same]
   exact⟨.pan Ea [(.i64,_),(.i64,_)],[.ptr 0 0,.ptr 1 0,.ptr 2 0],[0,1,2],_,_,_,Z,λ_=>rfl,λ_ _ _ _ h=>((h.dim 0).dim 1).dim 2,p8 (λi=>CJ (([]:List Arr).getD i dZ)) (λi=>CG (([]:List Fun).getD i bM)) _ _,⟨⟨Z,Z⟩,⟨Z,Z⟩,⟨Z,Z⟩,tR⟩,Z,⟨⟨Z,Z,tR⟩,⟨Z,tR⟩,⟨Z,tR⟩,tR⟩,.inr Z,⟨Z,Z,Z,tR⟩,tR,Z⟩
  ·obtain⟨p1,p2⟩:=adv hW
   simp only[bnd] at same
   refine x1.draw [3] [2] [0,1] [3,4] [5,6,7] Z tR ay (by kernel_rfl) (iU.quiet (by kernel_rfl)) Z tR (λC2 x2=>?_)
   refine x2.call [3] Z tR Z h7 Z ⟨⟨Z,Z⟩,tR⟩ ⟨⟨Z,ah Z,Z,Z,tR⟩,tR⟩ ?_
   refine x2.back Z tR ?_
   refine x2.back Z tR ?_
   refine x1.back rfl (by simp only[ak,big];omega) ⟨⟨f,n',c,⟨p.arrays++[x'],p.funcs⟩,by omega,by omega,by omega,by rw[List.length_append];simp only[List.length_cons,List.length_nil];omega,hp,same⟩,by show f<f+1;omega,⟨⟨⟨rfl,rfl⟩,⟨rfl,rfl⟩,⟨rfl,rfl⟩,av rfl,⟨rfl,rfl⟩,tR⟩,⟨⟨rfl,rfl,tR⟩,⟨rfl,tR⟩,⟨rfl,tR⟩,⟨rfl,ah rfl,rfl,rfl,tR⟩,⟨rfl,rfl,by simp,λj hj=>xU CJ 4 (λ_=>rfl) dZ p.arrays x' j hj⟩,⟨rfl,rfl,rfl,λ_ _=>rfl⟩,tR⟩,rfl⟩⟩
 ·have b2:decide ((txV s l n).data.toList=[97,114,114,97,121])=false:=b2
  have b1:¬(txV s l n).data.toList=[97,114,114,97,121]:=agQ b2
  refine x1.cond Z tR (λb2=>?_) (λb2=>?_)
  ·have b2:decide ((txV s l n).data.toList=[102,110])=true:=b2
   have b2:(txV s l n).data.toList=[102,110]:=agP b2
   rw[if_neg b1] at same
   rw[if_pos b2] at same
   have h5:=o9 s l n c (by omega) (p.funcs.length:Int) 64
   by_cases h6:64≤p.funcs.length
   ·rw[if_pos (by omega)] at h5
    rw[if_pos h6] at same
    refine x1.ED [2,3,4] [3] Z tR Z h5 ⟨⟨Z,Z⟩,Z,Z,tR⟩ Z ⟨⟨Z,ah Z,Z,Z,tR⟩,tR⟩ ?_
    rw[←same]
    exact⟨.pan Ea [(.i64,_),(.i64,_)],[.ptr 0 0,.ptr 1 0,.ptr 2 0],[0,1,2],_,_,_,Z,λ_=>rfl,λ_ _ _ _ h=>((h.dim 0).dim 1).dim 2,p8 (λi=>CJ (([]:List Arr).getD i dZ)) (λi=>CG (([]:List Fun).getD i bM)) _ _,⟨⟨Z,Z⟩,⟨Z,Z⟩,⟨Z,Z⟩,tR⟩,Z,⟨⟨Z,Z,tR⟩,⟨Z,tR⟩,⟨Z,tR⟩,tR⟩,.inr Z,⟨Z,Z,Z,tR⟩,tR,Z⟩
   rw[if_neg (by omega)] at h5
   rw[if_neg h6] at same
   refine x1.call [3] Z tR Z h5 Z ⟨⟨Z,Z⟩,Z,Z,tR⟩ ⟨⟨Z,ah Z,Z,Z,tR⟩,tR⟩ ?_
   have h7:=Gz s l n c hl b hc
   obtain⟨V,hW⟩:∃V,lQ s l n c=V:=⟨_,Z⟩
   rw[hW] at h7 same
   rcases V with⟨a,e⟩ | ⟨n',c',x'⟩
   ·refine x1.draw [3] [2] [0,1] [3,4] [5,6,7] Z tR ay (by kernel_rfl) (iU.quiet (by kernel_rfl)) Z tR (λC2 x2=>?_)
    refine x2.ED [2,3,4] [3] Z tR Z h7 ⟨⟨Z,Z⟩,tR⟩ Z ⟨⟨Z,ah Z,Z,Z,tR⟩,tR⟩ ⟨⟨_,Z⟩,Z,?_⟩
    rw[←same]
    exact⟨.pan Ea [(.i64,_),(.i64,_)],[.ptr 0 0,.ptr 1 0,.ptr 2 0],[0,1,2],_,_,_,Z,λ_=>rfl,λ_ _ _ _ h=>((h.dim 0).dim 1).dim 2,p8 (λi=>CJ (([]:List Arr).getD i dZ)) (λi=>CG (([]:List Fun).getD i bM)) _ _,⟨⟨Z,Z⟩,⟨Z,Z⟩,⟨Z,Z⟩,tR⟩,Z,⟨⟨Z,Z,tR⟩,⟨Z,tR⟩,⟨Z,tR⟩,tR⟩,.inr Z,⟨Z,Z,Z,tR⟩,tR,Z⟩
   ·obtain⟨p1,p2,p3⟩:=Ta hc hW
    simp only[bnd] at same
    refine x1.draw [3] [2] [0,1] [3,4] [5,6,7] Z tR ay (by kernel_rfl) (iU.quiet (by kernel_rfl)) Z tR (λC2 x2=>?_)
    refine x2.call [3] Z tR Z h7 Z ⟨⟨Z,Z⟩,tR⟩ ⟨⟨Z,ah Z,Z,Z,tR⟩,tR⟩ ?_
    refine Sx.Go.freeze 6 ?_
    refine Sx.Go.freeze 7 ?_
    refine x2.back Z tR ?_
    refine x2.back Z tR ?_
    refine x1.back rfl (by simp only[ak,big];omega) ⟨⟨f,n',c',⟨p.arrays,p.funcs++[x']⟩,by omega,by omega,by omega,ha,by rw[List.length_append];simp only[List.length_cons,List.length_nil];omega,same⟩,by show f<f+1;omega,⟨⟨⟨rfl,rfl⟩,⟨rfl,rfl⟩,⟨rfl,rfl⟩,av rfl,⟨rfl,rfl⟩,tR⟩,⟨⟨rfl,rfl,tR⟩,⟨rfl,tR⟩,⟨rfl,tR⟩,⟨rfl,ah rfl,rfl,rfl,tR⟩,⟨rfl,rfl,rfl,λ_ _=>rfl⟩,⟨rfl,rfl,by simp,λj hj=>xU CG 4 (λ_=>rfl) bM p.funcs x' j hj⟩,tR⟩,rfl⟩⟩
  ·have b2:decide ((txV s l n).data.toList=[102,110])=false:=b2
   have b3:¬(txV s l n).data.toList=[102,110]:=agQ b2
   rw[if_neg b1,if_neg b3] at same
   refine x1.ED [2,3,4] [3] Z tR Z (lN s l n c (by omega) 7) ⟨⟨Z,Z⟩,Z,tR⟩ Z ⟨⟨Z,ah Z,Z,Z,tR⟩,tR⟩ ?_
   rw[←same]
   exact⟨.pan Ea [(.i64,_),(.i64,_)],[.ptr 0 0,.ptr 1 0,.ptr 2 0],[0,1,2],_,_,_,Z,λ_=>rfl,λ_ _ _ _ h=>((h.dim 0).dim 1).dim 2,p8 (λi=>CJ (([]:List Arr).getD i dZ)) (λi=>CG (([]:List Fun).getD i bM)) _ _,⟨⟨Z,Z⟩,⟨Z,Z⟩,⟨Z,Z⟩,tR⟩,Z,⟨⟨Z,Z,tR⟩,⟨Z,tR⟩,⟨Z,tR⟩,tR⟩,.inr Z,⟨Z,Z,Z,tR⟩,tR,Z⟩
def mO(f:Nat->Bool):Nat->Nat->Bool
 | 0,_=>true
 | k+1,i=>f i&&mO f k (i+1)
theorem xW{f:Nat->Bool}:∀{k i:Nat},mO f k i=true↔∀j,i≤j->j<i+k->f j=true
 | 0,i=>by simp only[mO,true_iff];intro j h1 h2;omega
 | k+1,i=>by
  simp only[mO,agN,xW]
  constructor
  ·rintro ⟨h1,h2⟩ j h3 h4
   by_cases e:j=i
   ·subst e;exact h1
   ·exact h2 j (by omega) (by omega)
  ·intro h
   exact⟨h i (by omega) (by omega),λj h3 h4=>h j (by omega) (by omega)⟩
abbrev beq(a b:BY):Bool:=decide (a.data.toList=b.data.toList)
structure AW (f:Nat->Bool) (n:Nat) (R:Bool) where
 i:Nat
 hi:i≤n
 same:mO f (n-i) i=R
theorem AW.step{f:Nat->Bool}{n:Nat}{R:Bool}{i:Nat}(hi:i<n)(same:mO f (n-i) i=R)(h:f i=true):mO f (n-(i+1)) (i+1)=R:=by
 rw[show n-i=(n-(i+1))+1 by omega,mO,h] at same
 simpa using same
theorem AW.stop{f:Nat->Bool}{n:Nat}{R:Bool}{i:Nat}(hi:i<n)(same:mO f (n-i) i=R)(h:f i=false):R=false:=by
 rw[show n-i=(n-(i+1))+1 by omega,mO,h] at same
 simpa using same.symm
theorem AW.fin{f:Nat->Bool}{n:Nat}{R:Bool}{i:Nat}(hi:¬i<n)(hn:i≤n)(same:mO f (n-i) i=R):R=true:=by
 rw[show n-i=0 by omega,mO] at same
 exact same.symm
abbrev uE:Nat:=1000000000000
theorem bZ{α:Type}{l:List α}{i:Nat}{d:α}(h:i<l.length):l.getD i d∈l:=by
 rw[agM,agO h]
 exact List.getElem_mem h
theorem CO(xs:List BY)(sep:BY):(bq xs sep).data.toList=Lib.join (xs.map (·.data.toList)) sep.data.toList:=by
 simp [bq]
theorem JH(sep:BY):bq [] sep=.empty:=rfl
theorem gY(a sep:BY):bq [a] sep=a:=uF (by rw[CO,List.map_cons,List.map_nil,Lib.join_one])
where uF {a b:BY} (h:a.data.toList=b.data.toList):a=b:=by rw[ba_eq a,ba_eq b,h]
theorem jk(a b:BY)(l:List BY)(sep:BY):bq (a::b::l) sep=a++(sep++bq (b::l) sep):=by
 refine gY.uF ?_
 rw[CO,fG,fG,CO]
 simp only[List.map_cons,Lib.join_cons,Lib.joinTail,List.flatten_cons,List.append_assoc]
theorem lu(sep:BY)(k:Nat):∀(l:List BY),(∀a,a∈l->a.size≤k)->(bq l sep).size≤l.length*(k+sep.size)
 | [],h=>by rw[JH];exact Nat.zero_le _
 | [b],h=>by rw[gY];have:=h b (by simp);simp;omega
 | b::c::l,h=>by
  have ih:=lu sep k (c::l) (λa ha=>h a (by simp [List.mem_cons] at ha ⊢;exact .inr ha))
  have hb:=h b (by simp)
  rw[jk,au,au,List.length_cons,Nat.succ_mul]
  omega
theorem GD(s:BY):∀(n p:Nat) (c:Int),s.size≤p+n->0≤c->c≤24->jd s n p c=true->s.size≤p+4*(24-c.toNat)
 | 0,p,c,h,_,_,_=>by omega
 | n+1,p,c,h,h0,h1,hw=>by
  rw[jd] at hw
  split at hw
  ·split at hw
   ·cases hw
   ·split at hw
    ·cases hw
    ·have hd:=aY s p
     have:=GD s n (p+(Utf8.decode s p).2) (c+1) (by omega) (by omega) (by omega) hw
     omega
  ·omega
theorem Vw{s:BY}(h:AU s=true):s.size≤96:=by
 have:=GD s s.size 0 0 (by omega) (by omega) (by omega) h
 omega
def okN(s:BY):Bool:=AU s&&!nR s
theorem iW{s:BY}(h:okN s=true):s.size≤96:=by
 unfold okN at h
 simp only[agN] at h
 exact Vw h.1
def fV(l:List BY):Bool:=l.all okN
theorem sJ{l:List BY}(h:fV l=true):∀a,a∈l->a.size≤96:=λa ha=>iW (List.all_eq_true.1 h a ha)
def cB(k:Int):Option (Int×Bool×Bool×Bool):=
 if k=1 then some (0,true,false,false) else if k=2 then some (2,true,false,false) else if k=4 then some (1,true,true,false)
 else if k=5 then some (1,true,true,false) else if k=6 then some (2,false,true,false) else if k=7 then some (-1,true,true,false)
 else if k=8 then some (0,true,true,false) else if k=9 then some (1,false,true,false) else if k=10 then some (1,true,true,false)
 else if k=11 then some (0,false,true,false) else if k=12 then some (1,false,true,true) else if k=13 then some (1,false,false,false) else none
def eu(s:BY)(wanted:Bool):Bool:=wanted&&okN s||!wanted&&decide (s.data.toList=[])
def opName(o:Int):BY:=if 13≤o then .empty else opAt o.toNat
def bC(x:Ins):Bool:=
 if (decide (x.op≠0) != decide (x.kind=2))||(decide (x.op≠0)&&decide ((opName x.op).data.toList=[]))||(decide (x.num≠0)&&decide (x.kind≠1))||!fV x.args||!fV x.frm then false
 else if x.kind=3 then okN x.dst&&decide (x.ref.data.toList=[])&&decide (x.alt.data.toList=[])&&decide (x.frm.length=x.args.length)&&decide (1≤x.frm.length)&&decide (x.frm.length≤64)
 else match cB x.kind with
  | none=>false
  | some (n,d,r,a)=>!(decide (0<x.frm.length)||(decide (0≤n)&&decide ((x.args.length:Int)≠n))||decide (6<x.args.length))&&(eu x.dst d&&eu x.ref r&&eu x.alt a)
abbrev spS:BY:=⟨#[32]⟩
abbrev d9:BY:=⟨#[44,32]⟩
def sK(x:Ins)(n:Nat):List BY:=(List.range n).map λi=>(x.frm.getD i .empty++(⟨#[58,32]⟩:BY))++x.args.getD i .empty
theorem Vx(x:Ins)(n:Nat):sK x (n+1)=sK x n++[(x.frm.getD n .empty++(⟨#[58,32]⟩:BY))++x.args.getD n .empty]:=by
 unfold sK
 rw[List.range_succ,List.map_append]
 rfl
theorem sM(x:Ins)(n:Nat):(sK x n).length=n:=by unfold sK;simp
def fZ(x:Ins):BY:=
 if x.kind=1 then bq [⟨#[99,111,110,115,116]⟩,bF x.num] spS
 else if x.kind=2 then bq [opName x.op,x.args.getD 0 .empty,x.args.getD 1 .empty] spS
 else if x.kind=3 then ((⟨#[112,104,105,32,91]⟩:BY)++bq (sK x x.frm.length) d9)++(⟨#[93]⟩:BY)
 else if x.kind=4 then bq [⟨#[108,111,97,100]⟩,x.ref,x.args.getD 0 .empty] spS
 else if x.kind=5 then bq [⟨#[119,114,97,112]⟩,x.ref,x.args.getD 0 .empty] spS
 else if x.kind=7 then bq [⟨#[99,97,108,108]⟩,((x.ref++(⟨#[40]⟩:BY))++bq x.args d9)++(⟨#[41]⟩:BY)] spS
 else if x.kind=8 then bq [⟨#[105,110,112,117,116]⟩,x.ref] spS
 else bq [⟨#[114,101,108,101,97,115,101]⟩,x.args.getD 0 .empty,x.ref] spS
def mP(x:Ins):BY:=
 if x.kind=6 then bq [⟨#[115,116,111,114,101]⟩,x.ref,x.args.getD 0 .empty,x.args.getD 1 .empty] spS
 else if x.kind=9 then bq [⟨#[111,117,116,112,117,116]⟩,x.ref,x.args.getD 0 .empty] spS
 else if x.kind=11 then bq [⟨#[106,117,109,112]⟩,x.ref] spS
 else if x.kind=12 then bq [⟨#[98,114,97,110,99,104]⟩,x.args.getD 0 .empty,x.ref,x.alt] spS
 else if x.kind=13 then bq [⟨#[114,101,116,117,114,110]⟩,x.args.getD 0 .empty] spS
 else bq [x.dst,⟨#[61]⟩,fZ x] spS
theorem Nu(a b s:BY):bq [a,b] s=a++(s++b):=by rw[jk,gY]
theorem JI(a b c s:BY):bq [a,b,c] s=a++(s++(b++(s++c))):=by rw[jk,jk,gY]
theorem YB(a b c d s:BY):bq [a,b,c,d] s=a++(s++(b++(s++(c++(s++d))))):=by rw[jk,jk,jk,gY]
theorem xX{n:Int}(h:aj n):(bF n).size≤20:=by
 unfold aj at h
 have hd:=wE 19 n.natAbs (by omega)
 unfold bF sgV
 show (ba _).size≤20
 have hs:∀l:List UInt8,(ba l).size=l.length:=λl=>by show l.toArray.size=l.length;simp
 rw[hs,List.length_append]
 by_cases h0:n<0
 ·rw[if_pos h0]
  have hd2:=wE 18 n.natAbs (by omega)
  simp only[List.length_cons,List.length_nil];omega
 ·rw[if_neg h0];simp only[List.length_nil];omega
theorem jS{l:List BY}{k:Nat}(h:∀a,a∈l->a.size≤k)(i:Nat):(l.getD i .empty).size≤k:=by
 by_cases hi:i<l.length
 ·exact h _ (bZ hi)
 ·rw[agM,List.getElem?_eq_none (by omega)]
  exact Nat.zero_le _
structure KV(x:Ins):Prop where
 dst:x.dst.size≤96
 ref:x.ref.size≤96
 alt:x.alt.size≤96
 args:∀a,a∈x.args->a.size≤96
 frm:∀a,a∈x.frm->a.size≤96
 jF:x.args.length≤64
 A9:x.frm.length≤64
theorem GH{s:BY}(h:s.data.toList=[]):s.size=0:=by rw[eZ,h];rfl
theorem CP{s:BY}{b:Bool}(h:eu s b=true):s.size≤96:=by
 unfold eu at h
 cases b with
 | true=>simp at h;exact iW h
 | false=>simp at h;rw[GH (by simpa using h)];omega
theorem nT{x:Ins}(h:bC x=true):KV x:=by
 unfold bC at h
 split at h
 ·cases h
 rename_i h0
 simp only[Bool.or_eq_true,not_or,Bool.not_eq_true,Bool.not_eq_false'] at h0
 obtain⟨⟨⟨_,_⟩,ha⟩,hf⟩:=h0
 have ha:=sJ ha
 have hf:=sJ hf
 split at h
 ·simp only[agN,agT] at h
  obtain⟨⟨⟨⟨⟨h1,h2⟩,h3⟩,h4⟩,h5⟩,h6⟩:=h
  exact⟨iW h1,by rw[GH h2];omega,by rw[GH h3];omega,ha,hf,by omega,h6⟩
 ·split at h
  ·cases h
  ·rename_i n d r a hs
   simp only[agN,agZ,ag2,agX] at h
   obtain⟨⟨⟨h1,h2⟩,h3⟩,⟨h4,h5⟩,h6⟩:=h
   exact⟨CP h4,CP h5,CP h6,ha,hf,by omega,by omega⟩
theorem Nv{x:Ins}(h:KV x)(n:Nat):∀a,a∈sK x n->a.size≤194:=λa ha=>by
 unfold sK at ha
 obtain⟨i,_,rfl⟩:=List.mem_map.1 ha
 have h1:=jS h.frm i
 have h2:=jS h.args i
 rw[au,au]
 show (x.frm.getD i .empty).size+2+(x.args.getD i .empty).size≤194
 omega
theorem Nw(o:Int):(opName o).size≤4:=by
 unfold opName
 split
 ·exact Nat.zero_le _
 ·have:∀n,n<13->(opAt n).size≤4:=by decide +kernel
  exact this _ (by omega)
theorem GI{x:Ins}(h:KV x)(hn:aj x.num):(fZ x).size≤13000:=by
 have a0:=jS h.args 0
 have a1:=jS h.args 1
 have hr:=h.ref
 have hw:=xX hn
 have ho:=Nw x.op
 have hp:=lu d9 194 (sK x x.frm.length) (Nv h _)
 rw[sM] at hp
 have hp2:(bq (sK x x.frm.length) d9).size≤64*196:=Nat.le_trans hp (Nat.mul_le_mul_right _ h.A9)
 have hq:=lu d9 96 x.args h.args
 have hq2:(bq x.args d9).size≤64*98:=Nat.le_trans hq (Nat.mul_le_mul_right _ h.jF)
 unfold fZ
 split
 ·rw[Nu,au,au];show 5+(1+_)≤_;omega
 split
 ·rw[JI,au,au,au,au];show _+(1+(_+(1+_)))≤_;omega
 split
 ·rw[au,au];show 5+_+1≤_;omega
 split
 ·rw[JI,au,au,au,au];show 4+(1+(_+(1+_)))≤_;omega
 split
 ·rw[JI,au,au,au,au];show 4+(1+(_+(1+_)))≤_;omega
 split
 ·rw[Nu,au,au,au,au,au];show 4+(1+(_+1+_+1))≤_;omega
 split
 ·rw[Nu,au,au];show 5+(1+_)≤_;omega
 ·rw[JI,au,au,au,au];show 7+(1+(_+(1+_)))≤_;omega
theorem CQ{x:Ins}(h:KV x)(hn:aj x.num):(mP x).size≤14000:=by
 have a0:=jS h.args 0
 have a1:=jS h.args 1
 have hr:=h.ref
 have hd:=h.dst
 have hal:=h.alt
 have hv:=GI h hn
 unfold mP
 split
 ·rw[YB,au,au,au,au,au,au];show 5+(1+(_+(1+(_+(1+_)))))≤_;omega
 split
 ·rw[JI,au,au,au,au];show 6+(1+(_+(1+_)))≤_;omega
 split
 ·rw[Nu,au,au];show 4+(1+_)≤_;omega
 split
 ·rw[YB,au,au,au,au,au,au];show 6+(1+(_+(1+(_+(1+_)))))≤_;omega
 split
 ·rw[Nu,au,au];show 6+(1+_)≤_;omega
 ·rw[JI,au,au,au,au];show _+(1+(1+(1+_)))≤_;omega
def je(a:Arr):Bool:=!(!okN a.name||!okN a.level||decide (a.size<1)||decide (256<a.size))
def p9(b:Blk):Bool:=okN b.name&&b.code.all bC
def kK(f:Fun):Bool:=!(!okN f.name||!fV f.params||decide (6<f.params.length)||decide (f.blocks.length<1)||decide (64<f.blocks.length))&&f.blocks.all p9
def kr(fs:List Fun):Nat:=(fs.map λf=>(f.blocks.map λb=>b.code.length).sum).sum
def rightG(p:Prg):Bool:=!(decide (16<p.arrays.length)||decide (64<p.funcs.length))&&p.arrays.all je&&p.funcs.all kK&&decide (kr p.funcs≤4096)
def mg(a:Arr):BY:=bq [⟨#[97,114,114,97,121]⟩,a.name,bF a.size,a.level] spS
def jD(f:Fun):BY:=((((⟨#[102,110,32]⟩:BY)++f.name)++(⟨#[40]⟩:BY))++bq f.params d9)++(⟨#[41,32,123]⟩:BY)
def iB(b:Blk):BY:=b.name++(⟨#[58]⟩:BY)
def nK(x:Ins):BY:=(⟨#[32,32]⟩:BY)++mP x
def eG(acc l:BY):BY:=acc++(l++(⟨#[10]⟩:BY))
def mQ(acc:BY)(l:List Arr):BY:=l.foldl (λacc a=>eG acc (mg a)) acc
def qc(acc:BY)(l:List Ins):BY:=l.foldl (λacc x=>eG acc (nK x)) acc
def nU(acc:BY)(l:List Blk):BY:=l.foldl (λacc b=>qc (eG acc (iB b)) b.code) acc
def vv(acc:BY)(l:List Fun):BY:=l.foldl (λacc f=>eG (nU (eG acc (jD f)) f.blocks) ⟨#[125]⟩) acc
def kg(p:Prg):BY:=vv (mQ .empty p.arrays) p.funcs
def GJ(p:Prg):BY×Int:=if rightG p=true then (if 65536<(kg p).size then (.empty,2) else (kg p,0)) else (.empty,1)
theorem xY{α β:Type}(f:β->α->β)(b:β){l:List α}{i:Nat}(h:i<l.length)(d:α):(l.take (i+1)).foldl f b=f ((l.take i).foldl f b) (l.getD i d):=by
 rw[List.take_succ_eq_append_getElem h,List.foldl_append,agM,agO h]
 rfl
def dSs(l:List BY):D:=.sl 1 l.length λi=>[.str (l.getD i .empty)]
abbrev Chan:=BY×Int
def bf:Chan:=(.empty,0)
def af3(l:List Chan):D:=.sl 2 l.length λi=>[.str (l.getD i bf).1,.int .i64 (l.getD i bf).2]
abbrev vSs(l:List BY):V:=.d (dSs l)
abbrev j4(l:List Chan):V:=.d (af3 l)
def uG(p:Nat->Bool):Nat->Nat->Int
 | 0,_=>-1
 | n+1,i=>if p i then (i:Int) else uG p n (i+1)
theorem zG{p:Nat->Bool}:∀{n i:Nat},uG p n i=-1∨((i:Int)≤uG p n i∧uG p n i<(i:Int)+n)
 | 0,_=>.inl rfl
 | n+1,i=>by
  rw[uG]
  split
  ·right;omega
  ·rcases zG (p:=p) (n:=n) (i:=i+1) with h | h
   ·exact .inl h
   ·right;omega
def bH(l:List BY)(s:BY):Int:=uG (λi=>decide ((l.getD i .empty).data.toList=s.data.toList)) l.length 0
def gT(l:List Chan)(s:BY):Int:=uG (λi=>decide ((l.getD i bf).1.data.toList=s.data.toList)) l.length 0
theorem Ny(s:BY):Pure PG 101 [vs s] (vs s) []:=by
 refine aG.mk (cfg 4) aA [] Tryz.func101 Z (by kernel_rfl) Z Z Z ?_
 intro C x
 exact x.exit Z tR ⟨.inr Z,Z,tR,Z⟩
theorem Nz(s:BY)(k:Int):Pure PG 121 [.agg [vs s,vi k]] (vs s) []:=by
 refine aG.mk (cfg 5) aA [] Tryz.func121 Z (by kernel_rfl) Z Z Z ?_
 intro C x
 exact x.exit Z tR ⟨.inr Z,Z,tR,Z⟩
abbrev Ee(f:Nat)(s:BY):List Ch:=[.box [.fn f []],.box [vs s]]
theorem YC(t s:BY):aG PG 156 2 [vs t,.ptr 0 0,.ptr 1 0] (Ee 101 s) (vb (decide (t.data.toList=s.data.toList))) (Ee 101 s):=by
 refine aG.mk (dP 10 2) aA [0,1] Tryz.func156 Z (by kernel_rfl) Z Z Z ?_
 intro C x
 refine x.quiet Z tR ay (by kernel_rfl) ?_
 refine x.rZ Z tR Z (Ny t) Z Z ⟨Z,tR⟩ ?_
 refine x.eY Z tR ?_
 exact x.exit Z tR ⟨.inr Z,Z,⟨⟨Z,tR⟩,⟨Z,tR⟩,tR⟩,Z⟩
theorem YD(c:Chan)(s:BY):aG PG 166 2 [.agg [vs c.1,vi c.2],.ptr 0 0,.ptr 1 0] (Ee 121 s) (vb (decide (c.1.data.toList=s.data.toList))) (Ee 121 s):=by
 refine aG.mk (dP 10 2) aA [0,1] Tryz.func166 Z (by kernel_rfl) Z Z Z ?_
 intro C x
 refine x.quiet Z tR ay (by kernel_rfl) ?_
 refine x.rZ Z tR Z (Nz c.1 c.2) Z Z ⟨⟨Z,Z,tR⟩,tR⟩ ?_
 refine x.eY Z tR ?_
 exact x.exit Z tR ⟨.inr Z,Z,⟨⟨Z,tR⟩,⟨Z,tR⟩,tR⟩,Z⟩
theorem NA(l:List BY)(s:BY)(hl:aj (l.length:Int)):aG PG 155 2 [vSs l,.fn 156 [.ptr 0 0,.ptr 1 0]] (Ee 101 s) (vi (bH l s)) (Ee 101 s):=by
 refine aG.mk (dP 19 2) aA [0,1] Tryz.func155 Z (by kernel_rfl) Z Z Z ?_
 intro C x
 unfold aj at hl
 refine x.loop (α:={i:Nat // i≤l.length∧uG (λi=>decide ((l.getD i .empty).data.toList=s.data.toList)) (l.length-i) i=bH l s}) (λy=>⟨[(0,vSs l),(1,.fn 156 [.ptr 0 0,.ptr 1 0]),(7,vi (l.length:Int)),(8,vi (y.1:Int))],[(0,.box [.fn 101 []]),(1,.box [vs s])],2⟩) (λy=>l.length-y.1) ⟨0,by omega,Z⟩ Z tR ?_ (λy=>?_)
 ·exact⟨⟨av Z,Z,Z,Z,tR⟩,⟨⟨Z,tR⟩,⟨Z,tR⟩,tR⟩,Z⟩
 obtain⟨i,hi,hsame⟩:=y
 change Go C _ ⟨[(0,vSs l),(1,.fn 156 [.ptr 0 0,.ptr 1 0]),(7,vi (l.length:Int)),(8,vi (i:Int))],[(0,.box [.fn 101 []]),(1,.box [vs s])],2⟩ _
 refine x.cond Z tR (λh1=>?_) (λh1=>?_)
 ·have h1:i<l.length:=by have:=agP h1;omega
  rw[show l.length-i=(l.length-(i+1))+1 by omega,uG] at hsame
  refine x.call [0,1] Z ?_ Z (YC (l.getD i .empty) s) Z ⟨Z,⟨Z,Z⟩,⟨Z,Z⟩,tR⟩ ⟨⟨Z,tR⟩,⟨Z,tR⟩,tR⟩ ?_
  ·simp only[ak];omega
  refine x.cond Z tR (λh2=>?_) (λh2=>?_)
  ·rw[if_pos h2] at hsame
   refine x.exit Z tR ⟨.inr Z,?_,⟨⟨Z,tR⟩,⟨Z,tR⟩,tR⟩,Z⟩
   show aI (vi (i:Int)) (vi (bH l s))
   rw[hsame];exact Z
  ·rw[if_neg (by rw[h2];simp)] at hsame
   refine x.back Z ?_ ⟨⟨i+1,by omega,hsame⟩,by show l.length-(i+1)<l.length-i;omega,⟨av Z,Z,Z,(show aI (vi ((i:Int)+1)) (vi ((i+1:Nat):Int)) by rw[agY];rfl),tR⟩,⟨⟨Z,tR⟩,⟨Z,tR⟩,tR⟩,Z⟩
   simp only[ak,aj];omega
 ·have h1:i=l.length:=by have:=agQ h1;omega
  refine x.exit Z tR ⟨.inr Z,?_,⟨⟨Z,tR⟩,⟨Z,tR⟩,tR⟩,Z⟩
  show aI (vi (-1)) (vi (bH l s))
  rw[←hsame,show l.length-i=0 by omega];exact Z
theorem ND(l:List Chan)(s:BY)(hl:aj (l.length:Int)):aG PG 165 2 [j4 l,.fn 166 [.ptr 0 0,.ptr 1 0]] (Ee 121 s) (vi (gT l s)) (Ee 121 s):=by
 refine aG.mk (dP 19 2) aA [0,1] Tryz.func165 Z (by kernel_rfl) Z Z Z ?_
 intro C x
 unfold aj at hl
 refine x.loop (α:={i:Nat // i≤l.length∧uG (λi=>decide ((l.getD i bf).1.data.toList=s.data.toList)) (l.length-i) i=gT l s}) (λy=>⟨[(0,j4 l),(1,.fn 166 [.ptr 0 0,.ptr 1 0]),(7,vi (l.length:Int)),(8,vi (y.1:Int))],[(0,.box [.fn 121 []]),(1,.box [vs s])],2⟩) (λy=>l.length-y.1) ⟨0,by omega,Z⟩ Z tR ?_ (λy=>?_)
 ·exact⟨⟨av Z,Z,Z,Z,tR⟩,⟨⟨Z,tR⟩,⟨Z,tR⟩,tR⟩,Z⟩
 obtain⟨i,hi,hsame⟩:=y
 change Go C _ ⟨[(0,j4 l),(1,.fn 166 [.ptr 0 0,.ptr 1 0]),(7,vi (l.length:Int)),(8,vi (i:Int))],[(0,.box [.fn 121 []]),(1,.box [vs s])],2⟩ _
 refine x.cond Z tR (λh1=>?_) (λh1=>?_)
 ·have h1:i<l.length:=by have:=agP h1;omega
  rw[show l.length-i=(l.length-(i+1))+1 by omega,uG] at hsame
  refine x.call [0,1] Z ?_ Z (YD (l.getD i bf) s) Z ⟨⟨Z,Z,tR⟩,⟨Z,Z⟩,⟨Z,Z⟩,tR⟩ ⟨⟨Z,tR⟩,⟨Z,tR⟩,tR⟩ ?_
  ·simp only[ak];omega
  refine x.cond Z tR (λh2=>?_) (λh2=>?_)
  ·rw[if_pos h2] at hsame
   refine x.exit Z tR ⟨.inr Z,?_,⟨⟨Z,tR⟩,⟨Z,tR⟩,tR⟩,Z⟩
   show aI (vi (i:Int)) (vi (gT l s))
   rw[hsame];exact Z
  ·rw[if_neg (by rw[h2];simp)] at hsame
   refine x.back Z ?_ ⟨⟨i+1,by omega,hsame⟩,by show l.length-(i+1)<l.length-i;omega,⟨av Z,Z,Z,(show aI (vi ((i:Int)+1)) (vi ((i+1:Nat):Int)) by rw[agY];rfl),tR⟩,⟨⟨Z,tR⟩,⟨Z,tR⟩,tR⟩,Z⟩
   simp only[ak,aj];omega
 ·have h1:i=l.length:=by have:=agQ h1;omega
  refine x.exit Z tR ⟨.inr Z,?_,⟨⟨Z,tR⟩,⟨Z,tR⟩,tR⟩,Z⟩
  show aI (vi (-1)) (vi (gT l s))
  rw[←hsame,show l.length-i=0 by omega];exact Z
def GK(k:Int):V:=.tup [vi (if 0 > k then 0 else k),vb (decide (0≤k))]
theorem QB(l:List BY)(s:BY)(hl:aj (l.length:Int)):Pure PG 100 [vSs l,.fn 101 [],vs s] (GK (bH l s)) []:=by
 refine aG.mk (cfg 16) aA [] Tryz.func100 Z (by kernel_rfl) Z Z Z ?_
 intro C x
 refine x.call [0,1] Z tR Z (NA l s hl) Z ⟨av Z,Z,tR⟩ ⟨⟨Z,tR⟩,⟨Z,tR⟩,tR⟩ ?_
 exact x.exit Z tR ⟨.inr Z,⟨Z,Z,tR⟩,tR,Z⟩
theorem qd(l:List Chan)(s:BY)(hl:aj (l.length:Int)):Pure PG 120 [j4 l,.fn 121 [],vs s] (GK (gT l s)) []:=by
 refine aG.mk (cfg 16) aA [] Tryz.func120 Z (by kernel_rfl) Z Z Z ?_
 intro C x
 refine x.call [0,1] Z tR Z (ND l s hl) Z ⟨av Z,Z,tR⟩ ⟨⟨Z,tR⟩,⟨Z,tR⟩,tR⟩ ?_
 exact x.exit Z tR ⟨.inr Z,⟨Z,Z,tR⟩,tR,Z⟩
theorem jT(l:List BY)(s:BY)(hl:aj (l.length:Int)):Pure PG 52 [.agg [vSs l,.dead,.dead,.dead,.dead],vs s] (GK (bH l s)) []:=by
 refine aG.mk (cfg 12) aA [] Tryz.func52 Z (by kernel_rfl) Z Z Z ?_
 intro C x
 refine x.pure Z tR Z (QB l s hl) ⟨av Z,Z,Z,tR⟩ ?_
 exact x.exit Z tR ⟨.inr Z,⟨Z,Z,tR⟩,tR,Z⟩
theorem QC(l:List Chan)(s:BY)(hl:aj (l.length:Int)):Pure PG 184 [.agg [.dead,.dead,j4 l,.dead,.dead],vs s] (GK (gT l s)) []:=by
 refine aG.mk (cfg 12) aA [] Tryz.func184 Z (by kernel_rfl) Z Z Z ?_
 intro C x
 refine x.pure Z tR Z (qd l s hl) ⟨av Z,Z,Z,tR⟩ ?_
 exact x.exit Z tR ⟨.inr Z,⟨Z,Z,tR⟩,tR,Z⟩
theorem NG(l:List Chan)(s:BY)(hl:aj (l.length:Int)):Pure PG 185 [.agg [.dead,.dead,.dead,j4 l,.dead],vs s] (GK (gT l s)) []:=by
 refine aG.mk (cfg 12) aA [] Tryz.func185 Z (by kernel_rfl) Z Z Z ?_
 intro C x
 refine x.pure Z tR Z (qd l s hl) ⟨av Z,Z,Z,tR⟩ ?_
 exact x.exit Z tR ⟨.inr Z,⟨Z,Z,tR⟩,tR,Z⟩
def jU(s:BY):Bool:=jd s s.size 0 0&&!nR s
theorem zH(s:BY)(hs:s.size≤9223372036854775807):Pure PG 71 [vs s] (vb (jU s)) []:=by
 refine aG.mk (cfg 10) aA [] Tryz.func71 Z (by kernel_rfl) Z Z Z ?_
 intro C x
 refine x.pure Z tR Z (Ct s hs) ⟨Z,tR⟩ ?_
 refine x.gG Z tR Z (λ_=>Cu s) Z ⟨Z,tR⟩ ?_
 exact x.exit Z tR ⟨.inr Z,Z,tR,Z⟩
abbrev M64:=BitVec 64
abbrev dm(x:M64):D:=.int .u64 (x.toNat:Int)
abbrev vm(x:M64):V:=.d (dm x)
theorem wrap_u64(n:Int):IntKind.u64.wrap n=n%18446744073709551616:=rfl
theorem GN{n:Nat}(h:n<18446744073709551616):IntKind.u64.wrap (n:Int)=n:=by
 rw[wrap_u64];omega
theorem toNat_lt(x:M64):x.toNat<18446744073709551616:=x.isLt
theorem KW(x:M64):BitVec.ofInt IntKind.u64.bits (x.toNat:Int)=x:=by
 show BitVec.ofInt 64 (x.toNat:Int)=x
 apply BitVec.eq_of_toNat_eq
 rw[BitVec.toNat_ofInt]
 have:=toNat_lt x
 show ((x.toNat:Int)%((2 ^ 64:Nat):Int)).toNat=x.toNat
 omega
theorem Tc(x y:M64):ou .and .u64 (x.toNat:Int) (y.toNat:Int)=((x&&& y).toNat:Int):=by
 unfold ou
 simp only[KW]
 exact GN (toNat_lt _)
theorem adx(x y:M64):ou .or .u64 (x.toNat:Int) (y.toNat:Int)=((x||| y).toNat:Int):=by
 unfold ou
 simp only[KW]
 exact GN (toNat_lt _)
theorem YE(x y:M64):ou .andNot .u64 (x.toNat:Int) (y.toNat:Int)=((x&&& ~~~y).toNat:Int):=by
 unfold ou
 simp only[KW]
 exact GN (toNat_lt _)
theorem ady(x:M64):IntKind.u64.wrap ((x.toNat:Int)-1)=((x-1#64).toNat:Int):=by
 rw[wrap_u64,BitVec.toNat_sub]
 have:=toNat_lt x
 show ((x.toNat:Int)-1)%18446744073709551616=(((2 ^ 64-1+x.toNat)%2 ^ 64:Nat):Int)
 omega
theorem af4(x:M64):IntKind.u64.wrap (0-(x.toNat:Int))=((-x).toNat:Int):=by
 rw[wrap_u64,BitVec.toNat_neg]
 have:=toNat_lt x
 show (0-(x.toNat:Int))%18446744073709551616=(((2 ^ 64-x.toNat)%2 ^ 64:Nat):Int)
 omega
theorem af5(x y:M64):IntKind.u64.wrap ((x.toNat:Int)*(y.toNat:Int))=((x*y).toNat:Int):=by
 rw[wrap_u64,BitVec.toNat_mul]
 show ((x.toNat:Int)*(y.toNat:Int))%18446744073709551616=(((x.toNat*y.toNat)%2 ^ 64:Nat):Int)
 rw[Int.natCast_emod,Int.natCast_mul]
 rfl
theorem ab8{i:Nat}(hi:i<64):IntKind.u64.wrap (1*2 ^ (min ((i:Int)).toNat IntKind.u64.bits))=((1#64 <<< i).toNat:Int):=by
 rw[wrap_u64,BitVec.toNat_shiftLeft]
 have e:min ((i:Int)).toNat IntKind.u64.bits=i:=by
  show min i 64=i
  omega
 rw[e,Int.one_mul]
 show (2:Int) ^ i%18446744073709551616=(((1 <<< i)%2 ^ 64:Nat):Int)
 rw[Nat.shiftLeft_eq,Nat.one_mul,Int.natCast_emod,Int.natCast_pow]
 rfl
theorem ab9(x:M64){i:Nat}(hi:i<64):((x.toNat:Int)).fdiv (2 ^ (min ((i:Int)).toNat IntKind.u64.bits))=((x >>> i).toNat:Int):=by
 rw[BitVec.toNat_ushiftRight]
 have e:min ((i:Int)).toNat IntKind.u64.bits=i:=by
  show min i 64=i
  omega
 rw[e,Nat.shiftRight_eq_div_pow,Int.fdiv_eq_ediv_of_nonneg _ (Int.pow_nonneg (by omega)),Int.natCast_ediv,Int.natCast_pow]
 rfl
abbrev bit(x:M64)(i:Nat):Bool:=x.getLsbD i
theorem Ef{x y:M64}(h:∀i,i<64->bit x i=bit y i):x=y:=BitVec.eq_of_getLsbD_eq h
theorem wK(x:M64){i:Nat}(h:64≤i):bit x i=false:=BitVec.getLsbD_of_ge x i h
def one(i:Nat):M64:=1#64 <<< i
theorem uH{i j:Nat}(hi:i<64):bit (one i) j=decide (j=i):=by
 unfold bit one
 rw[BitVec.getLsbD_shiftLeft]
 by_cases h:j=i
 ·subst h;simp [hi]
 ·by_cases h2:j<i
  ·simp [h,h2]
  ·have:0<j-i:=by omega
   by_cases h3:j<64
   ·simp [h,h2,h3,BitVec.getLsbD_one];omega
   ·simp [h,h3]
theorem KX(x y:M64)(i:Nat):bit (x&&& y) i=(bit x i&&bit y i):=BitVec.getLsbD_and
theorem QD(x y:M64)(i:Nat):bit (x||| y) i=(bit x i||bit y i):=BitVec.getLsbD_or
theorem uI(x y:M64){i:Nat}:bit (x&&& ~~~y) i=(bit x i&&!bit y i):=by
 unfold bit
 rw[BitVec.getLsbD_and,BitVec.getLsbD_not]
 by_cases h:i<64
 ·simp [h]
 ·rw[BitVec.getLsbD_of_ge x i (by omega)];rfl
theorem QE{x:M64}:x=0#64↔∀i,i<64->bit x i=false:=by
 constructor
 ·rintro rfl i _;exact BitVec.getLsbD_zero
 ·intro h;exact Ef λi hi=>by rw[h i hi];exact BitVec.getLsbD_zero.symm
theorem toNat_zero_iff{x:M64}:((x.toNat:Int)=0)↔x=0#64:=by
 constructor
 ·intro h;apply BitVec.eq_of_toNat_eq;show x.toNat=0;omega
 ·rintro rfl;rfl
theorem Vy(x:M64){i:Nat}:decide ((((x >>> i)&&& 1#64).toNat:Int)=1)=bit x i:=by
 have h:((x >>> i)&&& 1#64).toNat=if bit x i then 1 else 0:=by
  have e:(x >>> i)&&& 1#64=if bit x i then 1#64 else 0#64:=by
   apply BitVec.eq_of_getLsbD_eq
   intro j hj
   rw[BitVec.getLsbD_and,BitVec.getLsbD_ushiftRight,BitVec.getLsbD_one]
   unfold bit
   by_cases h0:j=0
   ·subst h0;cases hb:x.getLsbD i<;>simp [hb]
   ·cases hb:x.getLsbD i<;>simp [h0,BitVec.getLsbD_one]
  rw[e];split<;>rfl
 rw[h]
 cases bit x i<;>rfl
def tz(x:M64):Nat:=((List.range 64).find? λi=>bit x i).getD 64
def bits(x:M64):List Nat:=(List.range 64).filter λi=>bit x i
theorem mh{x:M64}{i:Nat}:i∈bits x↔bit x i=true:=by
 unfold bits
 rw[List.mem_filter,List.mem_range]
 constructor
 ·exact λh=>h.2
 ·intro h
  refine⟨?_,h⟩
  by_cases hi:i<64
  ·exact hi
  ·rw[wK x (by omega)] at h;cases h
theorem find_range{p:Nat->Bool}:∀{n k:Nat},(List.range n).find? p=some k↔k<n∧p k=true∧∀j,j<k->p j=false:=by
 intro n k
 rw[List.find?_range_eq_some]
 simp only[List.mem_range,agZ,Bool.not_eq_eq_eq_not,Bool.not_true]
 constructor
 ·rintro ⟨h1,h2,h3⟩;exact⟨h2,h1,h3⟩
 ·rintro ⟨h1,h2,h3⟩;exact⟨h2,h1,h3⟩
theorem xZ{x:M64}(h:x≠0#64):tz x<64∧bit x (tz x)=true∧∀j,j<tz x->bit x j=false:=by
 have hex:∃k,(List.range 64).find? (λi=>bit x i)=some k:=by
  cases hf:(List.range 64).find? (λi=>bit x i) with
  | some k=>exact⟨k,rfl⟩
  | none=>
   exfalso
   rw[List.find?_eq_none] at hf
   refine h (QE.2 λi hi=>?_)
   have:=hf i (List.mem_range.2 hi)
   simpa using this
 obtain⟨k,hk⟩:=hex
 have e:tz x=k:=by unfold tz;rw[hk];rfl
 rw[e]
 exact find_range.1 hk
theorem Vz{x:M64}(h:x≠0#64):∃q,x.toNat=2 ^ (tz x+1)*q+2 ^ tz x:=by
 obtain⟨h1,h2,h3⟩:=xZ h
 generalize hk:tz x=k at *
 refine⟨x.toNat/2 ^ (k+1),?_⟩
 have hmod:x.toNat%2 ^ (k+1)=2 ^ k:=by
  apply Nat.eq_of_testBit_eq
  intro j
  rw[Nat.testBit_mod_two_pow,Nat.testBit_two_pow]
  by_cases hj:j<k+1
  ·simp only[hj,decide_true,Bool.true_and]
   by_cases hjk:k=j
   ·subst hjk;simp only[decide_true];exact h2
   ·have:j<k:=by omega
    simp only[hjk,decide_false]
    exact h3 j this
  ·have:¬k=j:=by omega
   simp [hj,this]
 have:=Nat.div_add_mod x.toNat (2 ^ (k+1))
 omega
theorem NH{x:M64}(h:x≠0#64){i:Nat}(hi:i<64):bit (x-1#64) i=if i<tz x then true else if i=tz x then false else bit x i:=by
 obtain⟨q,hq⟩:=Vz h
 obtain⟨h1,h2,h3⟩:=xZ h
 generalize hk:tz x=k at *
 have hpos:0<2 ^ k:=Nat.two_pow_pos k
 have e:(x-1#64).toNat=2 ^ (k+1)*q+(2 ^ k-1):=by
  rw[BitVec.toNat_sub]
  have hx:=toNat_lt x
  show (2 ^ 64-1+x.toNat)%2 ^ 64=_
  omega
 have hlt:2 ^ k-1<2 ^ (k+1):=by rw[Nat.pow_succ];omega
 have hlt2:2 ^ k<2 ^ (k+1):=by rw[Nat.pow_succ];omega
 show (x-1#64).toNat.testBit i=if i<k then true else if i=k then false else x.toNat.testBit i
 rw[e,hq,Nat.testBit_two_pow_mul_add _ hlt,Nat.testBit_two_pow_mul_add _ hlt2,Nat.testBit_two_pow_sub_one,Nat.testBit_two_pow]
 by_cases c1:i<k
 ·simp [c1,show i<k+1 by omega]
 ·by_cases c2:i=k
  ·subst c2;simp
  ·simp [c1,c2,show ¬i<k+1 by omega]
theorem GQ{x:M64}(h:x≠0#64){i:Nat}(hi:i<64):bit (x&&& (x-1#64)) i=(bit x i&&!decide (i=tz x)):=by
 rw[KX,NH h hi]
 obtain⟨h1,h2,h3⟩:=xZ h
 by_cases c1:i<tz x
 ·rw[h3 i c1];rfl
 ·by_cases c2:i=tz x
  ·simp [c2]
  ·simp [c1,c2]
theorem aa4{x:M64}(h:x≠0#64):x&&& (-x)=one (tz x):=by
 obtain⟨h1,h2,h3⟩:=xZ h
 have e:-x = ~~~(x-1#64):=by
  have:=BitVec.neg_eq_not_add x
  apply BitVec.eq_of_toNat_eq
  rw[BitVec.toNat_neg,BitVec.toNat_not,BitVec.toNat_sub]
  have hx:=toNat_lt x
  have h0:x.toNat≠0:=λh0=>h (by apply BitVec.eq_of_toNat_eq;exact h0)
  show (2 ^ 64-x.toNat)%2 ^ 64=2 ^ 64-1-(2 ^ 64-1+x.toNat)%2 ^ 64
  omega
 rw[e]
 refine Ef λi hi=>?_
 rw[uI,NH h hi,uH h1]
 by_cases c1:i<tz x
 ·rw[h3 i c1];simp;omega
 ·by_cases c2:i=tz x
  ·rw[c2,h2];simp
  ·simp [c1,c2]
theorem VA{x:M64}(h:x≠0#64):bits x=tz x::bits (x&&& (x-1#64)):=by
 obtain⟨h1,h2,h3⟩:=xZ h
 have e:List.range 64=List.range (tz x)++tz x::(List.range (63-tz x)).map (λi=>tz x+1+i):=by
  have:List.range 64=List.range (tz x+(1+(63-tz x))):=by congr 1;omega
  rw[this,List.range_add,List.range_add]
  simp [List.range_succ,List.map_map]
  intro a _
  omega
 unfold bits
 have f:∀(p:Nat->Bool),(∀j,j<tz x->p j=false)->(List.range (tz x)).filter p=[]:=λp hp=>List.filter_eq_nil_iff.2 λj hj=>by rw[hp j (List.mem_range.1 hj)];simp
 rw[e,List.filter_append,List.filter_append,f _ h3,f (λi=>bit (x&&& (x-1#64)) i) (λj hj=>by rw[GQ h (by omega),h3 j hj];rfl),List.nil_append,List.nil_append,List.filter_cons_of_pos h2,List.filter_cons_of_neg (by rw[GQ h h1];simp)]
 congr 1
 refine List.filter_congr λj hj=>?_
 obtain⟨k,hk,rfl⟩:=List.mem_map.1 hj
 have:=List.mem_range.1 hk
 rw[GQ h (by omega)]
 simp;omega
theorem VB:bits 0#64=[]:=List.filter_eq_nil_iff.2 λj _=>by simp [bit]
theorem aa5{x:M64}{i:Nat}(h:i∈bits x):i<64:=List.mem_range.1 (List.mem_filter.1 h).1
theorem QF(x:M64):(bits x).Nodup:=List.nodup_range.filter _
def inM(i:Int):Bool:=decide (0≤i)&&decide (i<64)
theorem Eh(i:Int):Pure PG 145 [vi i] (vb (inM i)) []:=by
 refine aG.mk (cfg 9) aA [] Tryz.func145 Z (by kernel_rfl) Z Z Z ?_
 intro C x
 refine x.exit Z tR ?_
 exact⟨.inr Z,Z,tR,Z⟩
def IX(m:M64)(i:Int):Bool:=inM i&&bit m i.toNat
theorem wL(m:M64)(i:Nat):IX m (i:Int)=bit m i:=by
 unfold IX inM
 by_cases h:i<64
 ·simp;omega
 ·rw[show ((i:Int)).toNat=i by omega,wK m (by omega)];simp
theorem GR(m:M64)(i:Int):Pure PG 87 [vm m,vi i] (vb (IX m i)) []:=by
 refine aG.mk (cfg 14) aA [] Tryz.func87 Z (by kernel_rfl) Z Z Z ?_
 intro C x
 refine x.pure Z tR Z (Eh i) ⟨Z,tR⟩ ?_
 refine x.exit Z (by simp only[ak,UN,imp];intro h;simp [inM] at h;exact h.1) ?_
 refine⟨.inr Z,?_,tR,Z⟩
 show aI (.d (.bool _)) (vb (IX m i))
 refine ah (congrArg D.bool ?_)
 unfold IX
 cases hi:inM i with
 | false=>rfl
 | true=>
  simp only[inM,agN,agT] at hi
  obtain⟨n,rfl⟩:=Int.eq_ofNat_of_zero_le hi.1
  have e:=ab9 m (i:=n) (by omega)
  have e2:=Tc (m >>> n) 1#64
  show decide (ou .and .u64 (((m.toNat:Int)).fdiv (2 ^ (min ((n:Int)).toNat IntKind.u64.bits))) 1=1)=_
  rw[e,show (1:Int)=((1#64:M64).toNat:Int) from rfl,e2]
  exact Vy m
def wM(m:M64)(i:Int):M64:=if inM i then m||| one i.toNat else m
theorem CR(m:M64)(i:Int):Pure PG 86 [vm m,vi i] (vm (wM m i)) []:=by
 refine aG.mk (cfg 12) aA [] Tryz.func86 Z (by kernel_rfl) Z Z Z ?_
 intro C x
 refine x.pure Z tR Z (Eh i) ⟨Z,tR⟩ ?_
 refine x.cond Z tR (λh=>?_) (λh=>?_)
 ·have hi:=h
  simp only[inM,agN,agT] at hi
  obtain⟨n,rfl⟩:=Int.eq_ofNat_of_zero_le hi.1
  refine x.exit Z (by simp only[ak];omega) ?_
  refine⟨.inr Z,?_,tR,Z⟩
  refine ah (congrArg (D.int .u64) ?_)
  rw[ab8 (i:=n) (by omega),adx]
  unfold wM
  rw[if_pos h];rfl
 ·refine x.exit Z tR ?_
  refine⟨.inr Z,?_,tR,Z⟩
  unfold wM
  rw[if_neg (by rw[h];simp)]
  exact (show aI (vm m) (vm m) from ah Z)
def GU(m:M64)(i:Int):M64:=if inM i then m&&& ~~~ one i.toNat else m
theorem CS(m:M64)(i:Int)(j:Nat):bit (wM m i) j=(bit m j||decide (j<64∧(j:Int)=i)):=by
 unfold wM
 split
 ·rename_i h
  simp only[inM,agN,agT] at h
  rw[QD,uH (by omega)]
  congr 1
  simp only[decide_eq_decide]
  omega
 ·rename_i h
  simp only[inM,agN,agT] at h
  have:¬(j<64∧(j:Int)=i):=by omega
  simp [this]
theorem KY(m:M64)(i:Int)(j:Nat):bit (GU m i) j=(bit m j&&!decide ((j:Int)=i)):=by
 unfold GU
 split
 ·rename_i h
  simp only[inM,agN,agT] at h
  rw[uI,uH (by omega)]
  congr 2
  simp only[decide_eq_decide]
  omega
 ·rename_i h
  simp only[inM,agN,agT] at h
  by_cases hj:j<64
  ·have:¬((j:Int)=i):=by omega
   simp [this]
  ·rw[wK m (by omega)];rfl
def CU:Nat->M64
 | 0=>0#64
 | n+1=>CU n||| one n
def wN(n:Int):Int:=if 64<(if 0 > n then 0 else n) then 64 else if 0 > n then 0 else n
theorem JJ(n:Int):wN n=min (max n 0) 64:=by unfold wN;split<;>split<;>omega
def rH(n:Int):M64:=CU (wN n).toNat
theorem GV:∀{n:Nat},n≤64->∀j,bit (CU n) j=decide (j<n)
 | 0,_,j=>by simp [CU,bit]
 | n+1,h,j=>by
  rw[CU,QD,GV (by omega),uH (by omega)]
  by_cases h1:j<n
  ·simp [h1];omega
  ·by_cases h2:j=n
   ·simp [h2]
   ·simp [h1,h2];omega
theorem QG(n:Int)(j:Nat):bit (rH n) j=decide (j<64∧(j:Int)<n):=by
 unfold rH
 have:=JJ n
 rw[GV (by omega)]
 simp only[decide_eq_decide]
 omega
theorem QH(n:Int)(hn:aj n):Pure PG 162 [vi n] (vm (rH n)) []:=by
 refine aG.mk (cfg 17) aA [] Tryz.func162 Z (by kernel_rfl) Z Z Z ?_
 intro C x
 unfold aj at hn
 have hcl:=JJ n
 refine x.loop (α:={k:Nat // (k:Int)≤wN n}) (λy=>⟨[(3,vm (CU y.1)),(7,vi (wN n)),(8,vi (y.1:Int))],[],0⟩) (λy=>64-y.1) ⟨0,by omega⟩ Z tR ?_ (λy=>?_)
 ·exact⟨⟨Z,Z,Z,tR⟩,tR,Z⟩
 obtain⟨k,hk⟩:=y
 refine x.cond Z tR (λh=>?_) (λh=>?_)
 ·have h:(k:Int)<wN n:=by simpa using h
  refine x.back Z (by simp only[ak,aj];omega) ⟨⟨k+1,by omega⟩,by show 64-(k+1)<64-k;omega,?_⟩
  refine⟨⟨ah (congrArg (D.int .u64) ?_),Z,by show aI (vi ((k:Int)+1)) (vi ((k+1:Nat):Int));rw[agY];rfl,tR⟩,tR,Z⟩
  rw[ab8 (i:=k) (by omega),adx];rfl
 ·have h:¬(k:Int)<wN n:=by simpa using h
  refine x.exit Z tR ?_
  refine⟨.inr Z,ah (congrArg (D.int .u64) ?_),tR,Z⟩
  unfold rH
  rw[show (wN n).toNat=k by omega]
theorem YF:∀k:Fin 64,yS.getD (((one k.1*285870213051353865#64) >>> 58).toNat) 0=(k.1:Int):=by decide
theorem YG:KI PG.env 4 64 (λc=>.int .u8 (yS.getD c 0)):=by
 refine⟨λc=>.int .u8 (yS.getD c 0),?_,λj hj=>rfl⟩
 show _∈PG.env
 unfold PG
 simp
theorem IY(m:M64):Pure PG 188 [vm m] (vi (tz m:Int)) []:=by
 refine aG.mk (cfg 14) aA [] Tryz.func188 Z (by kernel_rfl) Z Z Z ?_
 intro C x
 refine x.cond Z tR (λh=>?_) (λh=>?_)
 ·have h:(m.toNat:Int)=0:=by simpa using h
  refine x.exit Z tR ?_
  refine⟨.inr Z,?_,tR,Z⟩
  rw[toNat_zero_iff.1 h]
  exact (show aI (vi 64) (vi ((tz 0#64:Nat):Int)) from rfl)
 ·have h:¬(m.toNat:Int)=0:=by simpa using h
  have h0:m≠0#64:=λe=>h (toNat_zero_iff.2 e)
  obtain⟨t1,t2,t3⟩:=xZ h0
  have e:(IntKind.u64.wrap (ou .and .u64 (m.toNat:Int) (IntKind.u64.wrap (0-(m.toNat:Int)))*285870213051353865)).fdiv (2 ^ (min (58:Int).toNat IntKind.u64.bits))=(((one (tz m)*285870213051353865#64) >>> 58).toNat:Int):=by
   rw[af4,Tc,aa4 h0,show (285870213051353865:Int)=((285870213051353865#64:M64).toNat:Int) from rfl,af5]
   exact ab9 _ (i:=58) (by omega)
  have hb:(((one (tz m)*285870213051353865#64) >>> 58).toNat)<64:=by
   rw[BitVec.toNat_ushiftRight,Nat.shiftRight_eq_div_pow]
   have:=toNat_lt (one (tz m)*285870213051353865#64)
   omega
  refine x.aeJ (λc=>.int .u8 (yS.getD c 0)) Z (by simp only[ak];omega) Z YG ?_ ?_
  ·rw[e];omega
  have hk:=YF ⟨tz m,t1⟩
  refine x.exit Z ?_ ?_
  ·show aj _
   rw[e,ag1,hk]
   show aj (tz m:Int)
   unfold aj;omega
  refine⟨.inr Z,?_,tR,Z⟩
  refine ah (congrArg (D.int .i64) ?_)
  rw[e,ag1,hk]
theorem GX(m:M64):Pure PG 163 [vm m] (.fn 187 [.ptr 0 0]) [.box [vm m]]:=by
 refine aG.mk (cfg 4) aA [0] Tryz.func163 Z (by kernel_rfl) Z Z Z ?_
 intro C x
 refine x.exit Z tR ?_
 exact⟨.inr Z,Z,⟨⟨Z,tR⟩,tR⟩,Z⟩
theorem NJ{y:M64}(hy0:y≠0#64):Go.bits BinOp.and IntKind.u64 (y.toNat:Int) ((y.toNat:Int)-1)=((y&&& (y-1#64)).toNat:Int):=by
 rw[←Tc,←ady,wrap_u64]
 have:=toNat_lt y
 have:y.toNat≠0:=λe=>hy0 (by apply BitVec.eq_of_toNat_eq;exact e)
 rw[Int.emod_eq_of_lt (by omega) (by omega)]
 rfl
theorem QI(m:M64)(l:Nat)(J Jx:Nat->World->Prop)(W:World)(b:Nat)(hJm:∀k W W',J k W->Mod none W W'->J k W')(hE:∀k W,J k W->∃F',jG PG.env F' W∧(∀k,F' k->k<W.heap.size))(h0:J 0 W)
  (hb:W.cell? ⟨b,0,none⟩=some (.int .u64 (m.toNat:Int)))
  (hY:∀(k:Nat) (i:Nat) W1,(bits m)[k]?=some i->J k W1->YieldAt Fence.wide 7 Tryz.prog l #[.int .i64 (i:Int)] W1 λe W'=>(e=.returned (.bool true)∧J (k+1) W')∨(e=.returned (.bool false)∧Jx k W')) :
  CallsIn Fence.wide 8 Tryz.prog 187 #[.func (.yield l) #[] #[],.pointer (some ⟨b,0,none⟩)] W λe W'=>(∃v,e=.returned v)∧(J (bits m).length W'∨∃k,k<(bits m).length∧Jx k W'):=by
 refine callsIn_of_wp Tryz.func187 Z tR ?_ Z
 simp only[Tryz.ntmps187,List.size_toArray,List.length_cons,List.length_nil,Nat.reduceAdd,Nat.reduceSub,Array.replicate_succ,Array.replicate_zero,List.push_toArray,List.append_toArray,List.nil_append,List.cons_append]
 gi_wp2
 gi_loopw [3] (λp wr=>∃(k:Nat) (y:M64),p=.int .u64 (y.toNat:Int)∧k≤(bits m).length∧bits y=(bits m).drop k∧J k wr) (λp wr=>match p with | .int _ n=>n.toNat | _=>0)
 case atStart=>exact⟨0,m,Z,Nat.zero_le _,Z,h0⟩
 case round=>
  obtain⟨k,y,rfl,hkl,hk,hJ⟩:=hrel
  by_cases hy0:y=0#64
  ·subst hy0
   have hkl2:k=(bits m).length:=by
    rw[VB] at hk
    have:=congrArg List.length hk
    simp at this
    omega
   gi_wp2
   go_end0
   exact⟨⟨_,Z⟩,.inl (hkl2▸hJ)⟩
  ·have hne:¬((y.toNat:Int)=0):=λe=>hy0 (toNat_zero_iff.1 e)
   have hst:=VA hy0
   have hget:(bits m)[k]?=some (tz y):=by
    have:((bits m).drop k)[0]?=some (tz y):=by rw[←hk,hst];rfl
    simpa using this
   have af6:k<(bits m).length:=(List.getElem?_eq_some_iff.1 hget).1
   obtain⟨F',hE',hF'⟩:=hE k wr hJ
   have hTZ:Calls Tryz.prog 188 #[.int .u64 (y.toNat:Int)] wr λe w'=>e=.returned (.int .i64 (tz y:Int))∧Sx.Mod none wr w':=by
    refine ((IY y).2.2.2.2.2 wr F' (λ_=>.bool true) [.int .u64 (y.toNat:Int)] hF' hE' ⟨λi c hc=>by simp at hc,λi j b hi=>absurd hi (agV _),λi b hi=>absurd hi (agV _)⟩ ⟨RD.int _ _,tR⟩).mono ?_
    rintro e w' ⟨v,ρ',F'',rfl,hk,_,_,_,_,hr,_⟩
    refine⟨?_,⟨hk.os,hk.tape,hk.output,hk.size,λk hlt _=>hk.block k hlt (λ⟨i,hi,_⟩=>absurd hi (agV _))⟩⟩
    cases (show RD F'' w' (.int .i64 (tz y:Int)) v from hr);rfl
   gi_wp2_with (refine⟨tR,?_⟩;gi_at_call 188;refine (callsIn_wide.2 hTZ).mono ?_;rintro e w1 ⟨rfl,hm⟩)
   obtain⟨fn,tmps,assign,body,hy,hR⟩:=hY k (tz y) w1 hget (hJm k _ _ hJ hm)
   gi_wp2
   rw[hy,Oper.uponIn_round]
   refine⟨λh=>(by cases h),hR.mono ?_⟩
   rintro e W3 (⟨rfl,hJ3⟩ | ⟨rfl,hJx3⟩)
   ·gi_wp2
    go_roundw
    case rel=>
     refine⟨k+1,y&&& (y-1#64),?_,af6,?_,hJ3⟩
     ·rw[NJ hy0]
     ·rw[←List.drop_drop,←hk,hst];rfl
    case measure=>
     rw[NJ hy0]
     show ((y&&& (y-1#64)).toNat:Int).toNat<(y.toNat:Int).toNat
     have h1:(y&&& (y-1#64)).toNat≤(y-1#64).toNat:=by rw[BitVec.toNat_and];exact Nat.and_le_right
     have h2:(y-1#64).toNat<y.toNat:=by
      rw[BitVec.toNat_sub]
      have:=toNat_lt y
      have:y.toNat≠0:=λe=>hy0 (by apply BitVec.eq_of_toNat_eq;exact e)
      show (2 ^ 64-1+y.toNat)%2 ^ 64<y.toNat
      omega
     omega
   ·gi_wp2
    refine bodyPost_ret (results_none Z _ _ _) Z ?_
    exact⟨⟨_,Z⟩,.inr ⟨k,af6,hJx3⟩⟩
theorem KZ(m:M64):Its PG 187 [.ptr 0 0] [.box [vm m]] ((bits m).map λ(i:Nat)=>[vi (i:Int)]):=by
 refine⟨eT Tryz.func187 (by kernel_rfl) (by kernel_rfl),Z,λx hx=>?_,λw F ρ cs hF hE hH hargs l J Jx hJm hJe h0 hY=>?_⟩
 ·obtain⟨i,_,rfl⟩:=List.mem_map.1 hx
  rfl
 obtain⟨b,cs',T,e1,e2,e3⟩:=hH.ch 0 _ Z
 match cs,hargs with
 | [v],⟨⟨b',f1,f2⟩,_⟩=>
  rw[e1] at f1
  simp only[Value.pointer.injEq,agR,Addr.mk.injEq,and_true] at f1
  subst f1 f2
  match cs',e3 with
  | [c],⟨hc,_⟩=>
   have hc2:c=.int .u64 (m.toNat:Int):=by cases (show RD F w (dm m) c from hc);rfl
   subst hc2
   have hb:w.cell? ⟨b,0,none⟩=some (.int .u64 (m.toNat:Int)):=by simp [World.cell?,e2]
   have:=QI m l J Jx w b hJm (λk W hJ=>(hJe k W hJ).1) h0 hb (λk i W1 hk hJ=>hY k [vi (i:Int)] W1 [.int .i64 (i:Int)] (by rw[List.getElem?_map,hk];rfl) hJ ⟨RD.int _ _,tR⟩)
   rw[List.length_map]
   exact this
  | [],h=>exact h.elim
  | _::_::_,⟨_,h⟩=>exact h.elim
 | [],h=>exact h.elim
 | _::_::_,⟨_,h⟩=>exact h.elim
def YH(m:M64):Int:=((bits m).length:Int)
def upA(up:List M64)(i:Nat):M64:=up.getD i 0#64
def dUp(up:List M64):D:=.sl 1 up.length (λi=>[dm (upA up i)])
abbrev vU(up:List M64):V:=.d (dUp up)
def InU(n:Nat)(m:M64):Prop:=∀i,bit m i=true->i<n
def YI(p:Nat->Bool):Nat->M64
 | 0=>0#64
 | n+1=>YI p n||| (if p n then one n else 0#64)
def ofP(p:Nat->Bool):M64:=YI p 64
theorem NK(p:Nat->Bool):∀{n:Nat},n≤64->∀i,bit (YI p n) i=(decide (i<n)&&p i)
 | 0,_,i=>by simp [YI,bit]
 | n+1,h,i=>by
  have hb:bit (if p n then one n else 0#64) i=(decide (i=n)&&p n):=by
   cases hp:p n with
   | true=>rw[if_pos rfl,uH (by omega)];simp
   | false=>simp [bit]
  rw[YI,QD,NK p (by omega),hb]
  by_cases h1:i<n
  ·have h2:¬i=n:=by omega
   have h3:i<n+1:=by omega
   simp [h1,h2,h3]
  ·by_cases h2:i=n
   ·subst h2;simp
   ·have h3:¬i<n+1:=by omega
    simp [h1,h2,h3]
theorem jl(p:Nat->Bool){i:Nat}(hi:i<64):bit (ofP p) i=p i:=by
 unfold ofP
 rw[NK p (Nat.le_refl _)]
 simp [hi]
theorem JK{p q:Nat->Bool}(h:∀i,i<64->p i=q i):ofP p=ofP q:=Ef λi hi=>by rw[jl p hi,jl q hi,h i hi]
def GY(up:List M64)(set:M64):List Nat->Int
 | []=>-1
 | k::r=>if set&&& ~~~ upA up k=0#64 then (k:Int) else GY up set r
def wO(up:List M64)(set:M64):Int:=GY up set (bits set)
def nV(up:List M64)(i:Nat):Bool:=
 bit (upA up i) i&&decide (upA up i&&& ~~~ ofP (λj=>decide (j<up.length))=0#64)&&(bits (upA up i)).all λk=>decide (upA up k&&& ~~~ upA up i=0#64)&&!(decide (k≠i)&&bit (upA up k) i)
def gI(up:List M64):Bool:=decide (1≤up.length)&&decide (up.length≤64)&&(List.range up.length).all (nV up)
def Ba(up:List M64):Bool:=(List.range up.length).all λa=>(List.range a).all λb=>decide (0≤wO up (upA up a&&& upA up b))
def iP(up:List M64):List M64:=(List.range up.length).map λk=>ofP λi=>decide (i<up.length)&&bit (upA up i) k
def gJ(up:List M64):Bool:=gI up&&(Ba up&&Ba (iP up))
theorem uJ(up:List M64):(iP up).length=up.length:=by simp [iP]
theorem zI(up:List M64){k:Nat}(hk:k<up.length):upA (iP up) k=ofP λi=>decide (i<up.length)&&bit (upA up i) k:=by
 unfold upA iP
 rw[agM,List.getElem?_map,List.getElem?_range hk];rfl
theorem uK{x y:M64}:x&&& ~~~ y=0#64↔∀i,bit x i=true->bit y i=true:=by
 rw[QE]
 constructor
 ·intro h i hi
  by_cases h64:i<64
  ·have:=h i h64
   rw[uI,hi] at this
   simpa using this
  ·rw[wK x (by omega)] at hi;cases hi
 ·intro h i hi
  rw[uI]
  cases hx:bit x i with
  | false=>rfl
  | true=>rw[h i hx];rfl
theorem JL{up:List M64}(h:gI up=true){i:Nat}(hi:i<up.length):InU up.length (upA up i):=by
 unfold gI at h
 simp only[agN,agT,List.all_eq_true] at h
 have:=h.2 i (List.mem_range.2 hi)
 unfold nV at this
 simp only[agN,agT] at this
 intro j hj
 have h2:=uK.1 this.1.2 j hj
 have hj64:j<64:=by
  by_cases h64:j<64
  ·exact h64
  ·rw[wK _ (by omega)] at hj;cases hj
 rw[jl _ hj64] at h2
 simpa using h2
theorem x9{up:List M64}(h:gI up=true):1≤up.length∧up.length≤64:=by
 unfold gI at h
 simp only[agN,agT] at h
 exact h.1
theorem QJ{up:List M64}{k:Nat}(hk:k<up.length):InU (iP up).length (upA (iP up) k):=by
 intro i hi
 rw[uJ,zI up hk] at *
 have h64:i<64:=by
  by_cases h64:i<64
  ·exact h64
  ·rw[wK _ (by omega)] at hi;cases hi
 rw[jl _ h64] at hi
 simp only[agN,agT] at hi
 exact hi.1
theorem aa6{n:Nat}{x y:M64}(h:InU n x):InU n (x&&& y):=λi hi=>h i (by rw[KX] at hi;simp at hi;exact hi.1)
end Go.Proofs.YtojhdmfkfkfcbaaGreatDoor
