import Derived.Test.YtojhdmfkfkfcbaaGreatDoorME
import Derived.Test.YtojhdmfkfkfcbaaGreatDoorMD
import Derived.Test.YtojhdmfkfkfcbaaGreatDoorSxG
import Derived.Test.YtojhdmfkfkfcbaaGreatDoorMA
import Derived.Test.YtojhdmfkfkfcbaaGreatDoorMB
import Derived.Test.YtojhdmfkfkfcbaaGreatDoorMC
import Derived.Test.YtojhdmfkfkfcbaaGreatDoorSxF
import Derived.Test.YtojhdmfkfkfcbaaGreatDoorShelf
import Derived.Test.YtojhdmfkfkfcbaaGreatDoorSxH
set_option maxHeartbeats 1000000000
set_option linter.unusedSimpArgs false
set_option linter.unusedVariables false
namespace Go.Proofs.YtojhdmfkfkfcbaaGreatDoor
open Go.Sx
set_option maxRecDepth 100000
abbrev bkC(b:Blk):Ch:=.box [vs b.name,.d (nN b.code),vi b.at_]
theorem Yq(b:Blk):mE (bkC b) (bkC b):=⟨Z,ah Z,Z,tR⟩
abbrev abo(l:List Op9):Ch:=.vec 72 9 l.length λi=>dOp (l.getD i op0)
structure abp(b:Blk):Prop where
 c:b.code.length*120≤140737488355328
 x:∀x∈b.code,ND x
abbrev bkO(r:Res):Flt (List Op9)->Out
 | .ok l=>.ret (.d (tY l)) [kX r]
 | .error (a,e)=>Ny a e
structure BkW (r:Res) (s:Scp) (code:List Ins) (R:Flt (List Op9)) where
 i:Nat
 acc:List Op9
 hi:i≤code.length
 ha:acc.length=i
 same:KF r s code (code.length-i) i acc=R
theorem NG(r:Res)(s:Scp)(b:Blk)(hz:PolSz r.p)(hb:abp b)(hfn:r.fns.length=r.q.funcs.length):aX PG 58 1 [.ptr 0 0,scW s,acL b] [kX r] (bkO r (yc r s b)):=by
 have hbc:=hb.c
 obtain⟨Q,hQ⟩:∃Q,yc r s b=Q:=⟨_,Z⟩
 rw[hQ]
 unfold yc at hQ
 refine aX.mk (dM 79 1) av [0] Tryz.func58 rfl (by kernel_rfl) rfl rfl (by rcases Q with⟨a,e⟩ | o<;>rfl) ?_
 intro C x
 have hval:(decide (0≤(b.code.length:Int)-1)&&j5 (b.code.getD (if (0:Int) > (b.code.length:Int)-1 then 0 else (b.code.length:Int)-1).toNat (aP 0)).kind)=Gv b:=by
  unfold Gv
  by_cases h:1≤b.code.length
  ·rw[if_neg (by omega),show ((b.code.length:Int)-1).toNat=b.code.length-1 by omega,decide_eq_true (by omega),decide_eq_true h]
  ·rw[decide_eq_false (by omega),decide_eq_false h];rfl
 cases he:Gv b with
 | false=>
  rw[he,if_neg (by simp)] at hQ
  subst hQ
  refine x.qK 3 [] [0,1,2,3,4,5,6,7,8,9,12,13] (mkO [(10,[]),(11,[10]),(14,[11])] 4 []) Z (by simp only[ak,aj];omega) ay Z (by kernel_rfl) gD.quiet Z ?_ (λC1 x1=>?_)
  ·simp only[ak]
   intro h
   have h:=afH h
   rw[if_neg (by omega)]
   omega
  ·refine⟨x1.bK Z tR Z (λ_=>xw (b.code.getD (if (0:Int) > (b.code.length:Int)-1 then 0 else (b.code.length:Int)-1).toNat (aP 0)).kind) Z ⟨Z,tR⟩ (x1.back Z tR ⟨x1.back Z tR ⟨?_,tR⟩,tR⟩),tR⟩
   exact x1.die [] Z tR Z (jf b.at_ 15) ⟨(show aB (vb (decide (0≤(b.code.length:Int)-1)&&j5 (b.code.getD (if (0:Int) > (b.code.length:Int)-1 then 0 else (b.code.length:Int)-1).toNat (aP 0)).kind)) (vb false) by rw[hval,he];exact Z),Z,Z,tR⟩ Z tR ⟨⟨_,Z⟩,Z,Z,Z⟩
 | true=>
  rw[he,if_pos rfl] at hQ
  refine x.quiet Z (by simp only[ak,aj];omega) ay (by kernel_rfl) ?_
  refine x.E9 Z ?_ Z (λ_=>xw (b.code.getD (if (0:Int) > (b.code.length:Int)-1 then 0 else (b.code.length:Int)-1).toNat (aP 0)).kind) Z Z ⟨Z,tR⟩ ?_
  ·simp only[ak]
   intro h
   have h:=afH h
   rw[if_neg (by omega)]
   omega
  refine x.lS Z tR Z (kP b.at_ 15) Z Z ⟨(show aB (vb (decide (0≤(b.code.length:Int)-1)&&j5 (b.code.getD (if (0:Int) > (b.code.length:Int)-1 then 0 else (b.code.length:Int)-1).toNat (aP 0)).kind)) (vb true) by rw[hval,he];exact Z),Z,Z,tR⟩ ?_
  refine x.bS Z tR ?_
  refine x.toLoop Z tR ?_
  refine Go.own 8 72 9 (λi=>dOp (([]:List Op9).getD i op0)) Z ?_
  refine x.loop (α:=BkW r s b.code Q) (λy=>⟨[(0,.ptr 0 0),(4,.ptr 1 0),(5,.ptr 2 0),(7,vi ((b.code.length:Int)-1)),(8,.own 3),(31,.d (nN b.code)),(32,vi (b.code.length:Int)),(33,vi (y.i:Int))],[(0,kX r),(1,scC s),(2,bkC b),(3,abo y.acc)],4⟩) (λy=>b.code.length-y.i) ⟨0,[],Nat.zero_le _,Z,hQ⟩ Z tR ⟨⟨⟨Z,Z⟩,⟨Z,Z⟩,⟨Z,Z⟩,Z,Z,au Z,Z,Z,tR⟩,⟨aW r,qh s,Yq b,⟨Z,Z,Z,λ_ h=>absurd h (afN _)⟩,tR⟩,Z⟩ (λy=>?_)
  obtain⟨i,acc,hi,ha,same⟩:=y
  change Go C _ ⟨[(0,.ptr 0 0),(4,.ptr 1 0),(5,.ptr 2 0),(7,vi ((b.code.length:Int)-1)),(8,.own 3),(31,.d (nN b.code)),(32,vi (b.code.length:Int)),(33,vi (i:Int))],[(0,kX r),(1,scC s),(2,bkC b),(3,abo acc)],4⟩ _
  refine x.cond Z tR (λh1=>?_) (λh1=>?_)
  rotate_left
  ·have h1:i=b.code.length:=by have:=afI h1;omega
   rw[h1,Nat.sub_self,KF] at same
   subst same
   refine Sx.Go.freeze 3 ?_
   exact x.exit Z tR ⟨.inr Z,au Z,⟨aW r,tR⟩,Z⟩
  have h1:i<b.code.length:=by have:=afH h1;omega
  rw[show b.code.length-i=(b.code.length-(i+1))+1 by omega,KF] at same
  have hxs:ND (b.code.getD i (aP 0)):=hb.x _ (by rw[afE,afG h1];exact List.getElem_mem h1)
  have hop:=Yp r s (b.code.getD i (aP 0)) hz hxs hfn
  have v1:((!j5 (b.code.getD i (aP 0)).kind)||decide ((i:Int)=(b.code.length:Int)-1))=!decide (j5 (b.code.getD i (aP 0)).kind=true∧i+1≠b.code.length):=by
   rw[show decide ((i:Int)=(b.code.length:Int)-1)=!decide (i+1≠b.code.length) by rw[←decide_not,decide_eq_decide];omega]
   cases j5 (b.code.getD i (aP 0)).kind<;>cases hd:decide (i+1≠b.code.length)<;>simp_all
  have v2:(((!decide ((b.code.getD i (aP 0)).kind=3))||decide ((i:Int)=0))||decide ((b.code.getD ((i:Int)-1).toNat (aP 0)).kind=3))=!decide ((b.code.getD i (aP 0)).kind=3∧i≠0∧(b.code.getD (i-1) (aP 0)).kind≠3):=by
   rw[show ((i:Int)-1).toNat=i-1 by omega,show decide ((i:Int)=0)=!decide (i≠0) by rw[←decide_not,decide_eq_decide];omega]
   by_cases c1:(b.code.getD i (aP 0)).kind=3<;>by_cases c2:i≠0<;>by_cases c3:(b.code.getD (i-1) (aP 0)).kind=3<;>simp [c1,c2,c3]
  have hidx:((!decide ((b.code.getD i (aP 0)).kind=3))||decide ((i:Int)=0))=false->0≤(i:Int)-1∧(i:Int)-1<(b.code.length:Int):=λh=>by
   rw[afU] at h
   have:=afI h.2
   omega
  by_cases c1:j5 (b.code.getD i (aP 0)).kind=true∧i+1≠b.code.length
  ·rw[Ai,if_pos c1,bd] at same
   subst same
   refine x.qK 5 [] [0,1,9,10] (mkO [(2,[]),(3,[2]),(4,[3]),(5,[4]),(6,[4]),(7,[5,6]),(8,[7]),(11,[8])] 9 []) Z (by simp only[ak];omega) ay Z (by kernel_rfl) gD.quiet Z tR (λC1 x1=>?_)
   repeat' first
    | exact True.intro
    | refine And.intro ?_ ?_
    | refine x1.pure rfl tR rfl (xw (b.code.getD i (aP 0)).kind) ⟨rfl,tR⟩ (x1.back rfl tR ?_)
    | exact x1.die [] rfl tR rfl (jf (b.code.getD i (aP 0)).at_ 15) ⟨(show aB (vb ((!j5 (b.code.getD i (aP 0)).kind)||decide ((i:Int)=(b.code.length:Int)-1))) (vb false) by rw[v1,decide_eq_true c1];exact rfl),rfl,rfl,tR⟩ rfl tR ⟨⟨_,rfl⟩,rfl,rfl,rfl⟩
    | refine x1.back rfl tR ?_
  refine x.quiet Z (by simp only[ak];omega) ay (by kernel_rfl) ?_
  refine x.lS Z tR Z (xw (b.code.getD i (aP 0)).kind) Z Z ⟨Z,tR⟩ ?_
  refine x.lS Z tR Z (kP (b.code.getD i (aP 0)).at_ 15) Z Z ⟨(show aB (vb ((!j5 (b.code.getD i (aP 0)).kind)||decide ((i:Int)=(b.code.length:Int)-1))) (vb true) by rw[v1,decide_eq_false c1];exact Z),Z,Z,tR⟩ ?_
  refine x.bS Z tR ?_
  by_cases c2:(b.code.getD i (aP 0)).kind=3∧i≠0∧(b.code.getD (i-1) (aP 0)).kind≠3
  ·rw[Ai,if_neg c1,if_pos c2,bd] at same
   subst same
   refine x.qK 5 [] [0,1,2,3,4,5,6,7,8,9,10,11,12,13,14,15,16,17,18] (.fork 19 .leaf .no) Z tR ay Z (by kernel_rfl) gD.quiet Z ?_ (λC1 x1=>?_)
   ·simp only[ak,aj]
    refine⟨λh=>?_,λh=>?_⟩
    all_goals (have:=hidx h;omega)
   ·exact⟨x1.die [] Z tR Z (jf (b.code.getD i (aP 0)).at_ 18) ⟨(show aB (vb (((!decide ((b.code.getD i (aP 0)).kind=3))||decide ((i:Int)=0))||decide ((b.code.getD ((i:Int)-1).toNat (aP 0)).kind=3))) (vb false) by rw[v2,decide_eq_true c2];exact Z),Z,Z,tR⟩ Z tR ⟨⟨_,Z⟩,Z,Z,Z⟩,tR⟩
  refine x.quiet Z tR ay (by kernel_rfl) ?_
  refine x.lS Z ?_ Z (kP (b.code.getD i (aP 0)).at_ 18) Z Z ⟨(show aB (vb (((!decide ((b.code.getD i (aP 0)).kind=3))||decide ((i:Int)=0))||decide ((b.code.getD ((i:Int)-1).toNat (aP 0)).kind=3))) (vb true) by rw[v2,decide_eq_false c2];exact Z),Z,Z,tR⟩ ?_
  ·simp only[ak,aj]
   refine⟨λh=>?_,λh=>?_⟩
   all_goals (have:=hidx h;omega)
  refine x.bS Z tR ?_
  rw[Ai,if_neg c1,if_neg c2] at same
  obtain⟨Y,hY⟩:∃Y,Cb r s (b.code.getD i (aP 0))=Y:=⟨_,Z⟩
  rw[hY] at hop same
  rcases Y with⟨a,e⟩ | y
  ·rw[bd] at same
   subst same
   exact x.die [0] Z tR Z hop ⟨⟨Z,Z⟩,⟨Z,Z,tR⟩,⟨Z,Z,Z,Z,Z,ah Z,ah Z,Z,Z,tR⟩,tR⟩ Z ⟨aW r,tR⟩ ⟨Z,Z⟩
  ·rw[bd] at same
   refine x.call [0] Z tR Z hop Z ⟨⟨Z,Z⟩,⟨Z,Z,tR⟩,⟨Z,Z,Z,Z,Z,ah Z,ah Z,Z,Z,tR⟩,tR⟩ ⟨aW r,tR⟩ ?_
   exact x.back Z (by simp only[ak,aj,big];omega) ⟨⟨i+1,acc++[y],by omega,by simp [ha],same⟩,by show b.code.length-(i+1)<b.code.length-i;omega,⟨⟨Z,Z⟩,⟨Z,Z⟩,⟨Z,Z⟩,Z,Z,au Z,Z,(show aB (vi ((i:Int)+1)) (vi ((i+1:Nat):Int)) by rw[afQ];rfl),tR⟩,⟨aW r,qh s,Yq b,⟨Z,Z,by simp,λj hj=>gX dOp 9 (λ_=>rfl) op0 acc y j hj⟩,tR⟩,Z⟩
abbrev okL:Nat:=140737488355328
abbrev Eb:Nat:=10000000000000
theorem kY(s:BY)(hs:s.size≤okL):Pure PG 98 [vs s] (vb (okN s)) []:=by
 refine aD.mk (cfg 10) av [] Tryz.func98 Z (by kernel_rfl) Z Z Z ?_
 intro C x
 refine x.pure Z tR Z (Bz s (by unfold okL at hs;omega)) ⟨Z,tR⟩ ?_
 refine x.bK Z tR Z (λ_=>BA s) Z ⟨Z,tR⟩ ?_
 refine x.exit Z tR ?_
 refine⟨.inr Z,?_,tR,Z⟩
 rfl
theorem acM(l:List BY):gT (λi=>okN (l.getD i .empty)) l.length 0=gU l:=by
 rw[Bool.eq_iff_iff,sD]
 unfold gU
 rw[List.all_eq_true]
 constructor
 ·intro h x hx
  obtain⟨i,hi,rfl⟩:=List.getElem_of_mem hx
  have:=h i (Nat.zero_le _) (by omega)
  rwa [afE,afG hi] at this
 ·intro h j _ hj
  exact h _ (eX (by omega))
theorem wJ(l:List BY)(hl:l.length≤Eb)(hs:∀a,a∈l->a.size≤okL):Pure PG 153 [.d (aZ l)] (vb (gU l)) []:=by
 refine aD.mk (cfg 15) av [] Tryz.func153 Z (by kernel_rfl) Z Z Z ?_
 intro C x
 unfold Eb at hl
 obtain⟨R,hR⟩:∃R,gU l=R:=⟨_,Z⟩
 have hR2:gT (λi=>okN (l.getD i .empty)) l.length 0=R:=by rw[acM];exact hR
 rw[hR]
 refine x.loop (α:=AW (λi=>okN (l.getD i .empty)) l.length R) (λy=>⟨[(5,.d (aZ l)),(6,vi l.length),(7,vi (y.i:Int))],[],0⟩) (λy=>l.length-y.i) ⟨0,Nat.zero_le _,hR2⟩ Z tR ⟨⟨au Z,Z,Z,tR⟩,tR,Z⟩ (λy=>?_)
 obtain⟨i,hi,same⟩:=y
 change Go C _ ⟨[(5,.d (aZ l)),(6,vi l.length),(7,vi (i:Int))],[],0⟩ _
 refine x.cond Z tR (λh2=>?_) (λh2=>?_)
 ·have h2:(i:Int)<(l.length:Int):=afH h2
  have h2:i<l.length:=by omega
  refine x.pure Z (by simp only[ak];omega) Z (kY (l.getD ((i:Int).toNat) .empty) (hs _ (by rw[afT];exact eX h2))) ⟨Z,tR⟩ ?_
  rw[afT]
  refine x.cond Z tR (λh3=>?_) (λh3=>?_)
  ·have h3:(!okN (l.getD i .empty))=true:=h3
   refine x.exit Z tR ?_
   rw[AW.stop h2 same (by simpa using h3)]
   exact⟨.inr Z,Z,tR,Z⟩
  ·have h3:(!okN (l.getD i .empty))=false:=h3
   refine x.back Z (by simp only[ak,aj];omega) ⟨⟨i+1,by omega,AW.step h2 same (by simpa using h3)⟩,by show l.length-(i+1)<l.length-i;omega,⟨au Z,Z,?_,tR⟩,tR,Z⟩
   show aB (vi ((i:Int)+1)) (vi ((i+1:Nat):Int));rw[afQ];rfl
 ·have h2:¬(i:Int)<(l.length:Int):=afI h2
  refine x.exit Z tR ?_
  rw[AW.fin (by omega) hi same]
  exact⟨.inr Z,Z,tR,Z⟩
theorem Cg(s:BY)(b:Bool)(hs:s.size≤okL):Pure PG 183 [vs s,vb b] (vb (dZ s b)) []:=by
 refine aD.mk (cfg 18) av [] Tryz.func183 Z (by kernel_rfl) Z Z Z ?_
 intro C x
 refine x.bK Z tR Z (λ_=>kY s hs) Z ⟨Z,tR⟩ ?_
 refine x.exit Z tR ?_
 refine⟨.inr Z,?_,tR,Z⟩
 unfold dZ
 cases b
 ·rfl
 ·cases okN s<;>rfl
theorem NH(o:Int)(h0:0≤o)(h1:o<256):Pure PG 161 [.d (.int .u8 o)] (vs (opName o)) []:=by
 refine aD.mk (cfg 9) av [] Tryz.func161 Z (by kernel_rfl) Z Z Z ?_
 intro C x
 refine x.cond Z (by simp only[ak,aj];omega) (λh=>?_) (λh=>?_)
 ·have h:13≤o:=afH h
  refine x.exit Z tR ?_
  unfold opName
  rw[if_pos h]
  exact⟨.inr Z,Z,tR,Z⟩
 ·have h:¬13≤o:=afI h
  refine x.adD (λj=>.str (opAt j)) Z tR Z MK ⟨h0,by omega⟩ ?_
  refine x.exit Z tR ?_
  unfold opName
  rw[if_neg h]
  exact⟨.inr Z,Z,tR,Z⟩
def Ak:List (Key×V):=[(.inr 1,.agg [vi 0,vb true,vb false,vb false]),(.inr 2,.agg [vi 2,vb true,vb false,vb false]),(.inr 4,.agg [vi 1,vb true,vb true,vb false]),(.inr 5,.agg [vi 1,vb true,vb true,vb false]),(.inr 6,.agg [vi 2,vb false,vb true,vb false]),(.inr 7,.agg [vi (-1),vb true,vb true,vb false]),(.inr 8,.agg [vi 0,vb true,vb true,vb false]),(.inr 9,.agg [vi 1,vb false,vb true,vb false]),(.inr 10,.agg [vi 1,vb true,vb true,vb false]),(.inr 11,.agg [vi 0,vb false,vb true,vb false]),(.inr 12,.agg [vi 1,vb false,vb true,vb true]),(.inr 13,.agg [vi 1,vb false,vb false,vb false])]
theorem DK:Pure PG 182 [] (.own 0) [.tbl Ak]:=by
 refine aD.mk (cfg 15) av [0] Tryz.func182 Z (by kernel_rfl) Z Z Z ?_
 intro C x
 refine x.exit Z ?_ ?_
 ·simp only[ak,tu,qE]
  simp
 ·exact⟨.inr Z,Z,⟨⟨Z,Z,Z,Z,Z,Z,Z,Z,Z,Z,Z,Z,Z,Z,Z,Z,Z,Z,Z,Z,Z,Z,Z,Z,tR⟩,tR⟩,Z⟩
theorem zi{k:Key}{G:V->Bool->Prop}{z:V}:∀{es:List (Key×V)},G ((dN k es).getD z) (dN k es).isSome->oh k G z es
 | [],h=>h
 | (a,v)::r,h=>by
  unfold dN at h
  refine⟨λhk=>?_,λhk=>?_⟩
  ·rw[if_pos hk] at h;exact h
  ·rw[if_neg hk] at h;exact zi h
theorem kQ{k n:Int}{v:V}{r:List (Key×V)}(e:k=n):dN (.inr k) ((.inr n,v)::r)=some v:=by
 unfold dN
 exact if_pos e
theorem kR{k n:Int}{v:V}{r:List (Key×V)}(e:¬k=n):dN (.inr k) ((.inr n,v)::r)=dN (.inr k) r:=by
 conv=>lhs;unfold dN
 exact if_neg e
def shV(p:Int×Bool×Bool×Bool):V:=.agg [vi p.1,vb p.2.1,vb p.2.2.1,vb p.2.2.2]
theorem Jp(k:Int):dN (.inr k) Ak=(jL k).map shV:=by
 unfold Ak jL
 by_cases e1:k=1
 ·rw[kQ e1,if_pos e1];rfl
 rw[kR e1,if_neg e1]
 by_cases e2:k=2
 ·rw[kQ e2,if_pos e2];rfl
 rw[kR e2,if_neg e2]
 by_cases e4:k=4
 ·rw[kQ e4,if_pos e4];rfl
 rw[kR e4,if_neg e4]
 by_cases e5:k=5
 ·rw[kQ e5,if_pos e5];rfl
 rw[kR e5,if_neg e5]
 by_cases e6:k=6
 ·rw[kQ e6,if_pos e6];rfl
 rw[kR e6,if_neg e6]
 by_cases e7:k=7
 ·rw[kQ e7,if_pos e7];rfl
 rw[kR e7,if_neg e7]
 by_cases e8:k=8
 ·rw[kQ e8,if_pos e8];rfl
 rw[kR e8,if_neg e8]
 by_cases e9:k=9
 ·rw[kQ e9,if_pos e9];rfl
 rw[kR e9,if_neg e9]
 by_cases e10:k=10
 ·rw[kQ e10,if_pos e10];rfl
 rw[kR e10,if_neg e10]
 by_cases e11:k=11
 ·rw[kQ e11,if_pos e11];rfl
 rw[kR e11,if_neg e11]
 by_cases e12:k=12
 ·rw[kQ e12,if_pos e12];rfl
 rw[kR e12,if_neg e12]
 by_cases e13:k=13
 ·rw[kQ e13,if_pos e13];rfl
 rw[kR e13,if_neg e13]
 rfl
theorem aao{k:Int}{G:V->Bool->Prop}{z:V}{q:Int×Bool×Bool×Bool}(h:jL k=some q)(g:G (shV q) true):oh (.inr k) G z Ak:=
 zi (by rw[Jp,h];exact g)
theorem aap{k:Int}{G:V->Bool->Prop}{z:V}(h:jL k=none)(g:G z false):oh (.inr k) G z Ak:=
 zi (by rw[Jp,h];exact g)
end Go.Proofs.YtojhdmfkfkfcbaaGreatDoor
namespace Go.Proofs.YtojhdmfkfkfcbaaGreatDoor
open Go.Sx
abbrev insV(x:Ins):V:=.agg [.d (.int .u8 x.kind),.d (.int .u8 x.op),vs x.dst,vs x.ref,vs x.alt,.d (aZ x.args),.d (aZ x.frm),vi x.num,vi x.at_]
end Go.Proofs.YtojhdmfkfkfcbaaGreatDoor
namespace Go.Proofs.YtojhdmfkfkfcbaaGreatDoor
open Go.Sx
set_option maxRecDepth 100000
structure acN(x:Ins):Prop where
 kind:0≤x.kind∧x.kind<256
 op:0≤x.op∧x.op<256
 dst:x.dst.size≤okL
 ref:x.ref.size≤okL
 alt:x.alt.size≤okL
 yT:x.args.length≤Eb
 Ku:x.frm.length≤Eb
 args:∀a,a∈x.args->a.size≤okL
 frm:∀a,a∈x.frm->a.size≤okL
 num:aj x.num
theorem Qu(x0:Ins)(hx:acN x0):Pure PG 154 [insV x0] (vb (cZ x0)) []:=by
 refine aD.mk (cfg 135) av [] Tryz.func154 Z (by kernel_rfl) Z Z Z ?_
 intro C x
 have ha:=hx.yT;have hf:=hx.Ku
 unfold Eb at ha hf
 refine x.bK Z tR Z (λ_ _=>NH x0.op hx.op.1 hx.op.2) Z ⟨Z,tR⟩ ?_
 refine x.bK Z tR Z (λ_=>wJ x0.args hx.yT hx.args) Z ⟨au Z,tR⟩ ?_
 refine x.bK Z tR Z (λ_=>wJ x0.frm hx.Ku hx.frm) Z ⟨au Z,tR⟩ ?_
 refine x.cond Z tR (λh=>?_) (λh=>?_)
 ·have h:(!((!decide (x0.op=0)) == decide (x0.kind=2))||(!decide (x0.op=0)&&decide ((opName x0.op).data.toList=[]))||(!decide (x0.num=0)&&!decide (x0.kind=1))||!gU x0.args||!gU x0.frm)=true:=h
  refine x.exit Z tR ?_
  refine⟨.inr Z,?_,tR,Z⟩
  show false=cZ x0
  unfold cZ
  rw[if_pos (by simpa only[ne_eq,decide_not,bne] using h)]
 have h:(!((!decide (x0.op=0)) == decide (x0.kind=2))||(!decide (x0.op=0)&&decide ((opName x0.op).data.toList=[]))||(!decide (x0.num=0)&&!decide (x0.kind=1))||!gU x0.args||!gU x0.frm)=false:=h
 have hA:((decide (x0.op≠0) != decide (x0.kind=2))||(decide (x0.op≠0)&&decide ((opName x0.op).data.toList=[]))||(decide (x0.num≠0)&&decide (x0.kind≠1))||!gU x0.args||!gU x0.frm)=false:=by simpa only[ne_eq,decide_not,bne] using h
 clear h
 unfold cZ
 rw[if_neg (by rw[hA];decide)]
 refine x.cond Z tR (λh2=>?_) (λh2=>?_)
 ·have h2:x0.kind=3:=afH h2
  rw[if_pos h2]
  refine x.pure Z tR Z (kY x0.dst hx.dst) ⟨Z,tR⟩ ?_
  refine x.exit Z tR ?_
  refine⟨.inr Z,?_,tR,Z⟩
  show (okN x0.dst&&decide (x0.ref.data.toList=[])&&decide (x0.alt.data.toList=[])&&decide ((x0.frm.length:Int)=x0.args.length)&&decide (1≤(x0.frm.length:Int))&&decide ((x0.frm.length:Int)≤64))=_
  rw[show decide ((x0.frm.length:Int)=x0.args.length)=decide (x0.frm.length=x0.args.length) by rw[decide_eq_decide];omega,show decide (1≤(x0.frm.length:Int))=decide (1≤x0.frm.length) by rw[decide_eq_decide];omega,show decide ((x0.frm.length:Int)≤64)=decide (x0.frm.length≤64) by rw[decide_eq_decide];omega]
 have h2:¬x0.kind=3:=afI h2
 rw[if_neg h2]
 cases hsh:jL x0.kind with
 | none=>
  refine x.rz [] [1,2] (mkO [(0,[]),(3,[0]),(4,[3]),(5,[4]),(6,[4]),(7,[]),(8,[5,7]),(9,[6,8])] 9 [])
   ⟨[(1,.ptr 0 0),(3,.ptr 2 0),(4,vb false)],[(2,.box [vi 0,vb false,vb false,vb false])],3⟩
   rfl tR ay (by kernel_rfl) Ret.bP Z tR (λC2 x2=>?_) ?_
  ·repeat' first
    | exact True.intro
    | refine And.intro ?_ ?_
    | refine x2.back rfl tR ?_
    | refine x2.call [] rfl tR rfl DK rfl tR tR (x2.back rfl tR ?_)
    | refine x2.look rfl tR rfl (aap hsh ?_)
    | exact .inl ⟨⟨⟨rfl,rfl⟩,⟨rfl,rfl⟩,rfl,tR⟩,⟨⟨rfl,rfl,rfl,rfl,tR⟩,tR⟩,rfl⟩
    | exact .inr ⟨[0,2,1],rfl,⟨⟨rfl,rfl⟩,⟨rfl,rfl⟩,rfl,tR⟩,⟨⟨rfl,rfl,rfl,rfl,tR⟩,tR⟩,rfl⟩
  refine x.cond Z tR (λh3=>?_) (λh3=>?_)
  ·refine x.exit Z tR ?_
   exact⟨.inr Z,Z,tR,Z⟩
  ·have h3:((!false||decide ((0:Int)<x0.frm.length))||(decide ((0:Int)≤0)&&!decide ((x0.args.length:Int)=0))||decide ((6:Int)<x0.args.length))=false:=h3
   simp at h3
 | some q=>
  obtain⟨n,d,r,b⟩:=q
  refine x.rz [] [1,2] (mkO [(0,[]),(3,[0]),(4,[3]),(5,[4]),(6,[4]),(7,[]),(8,[5,7]),(9,[6,8])] 9 [])
   ⟨[(1,.ptr 0 0),(3,.ptr 2 0),(4,vb true)],[(2,.box [vi n,vb d,vb r,vb b])],3⟩
   rfl tR ay (by kernel_rfl) Ret.bP Z tR (λC2 x2=>?_) ?_
  ·repeat' first
    | exact True.intro
    | refine And.intro ?_ ?_
    | refine x2.back rfl tR ?_
    | refine x2.call [] rfl tR rfl DK rfl tR tR (x2.back rfl tR ?_)
    | refine x2.look rfl tR rfl (aao hsh ?_)
    | exact .inl ⟨⟨⟨rfl,rfl⟩,⟨rfl,rfl⟩,rfl,tR⟩,⟨⟨rfl,rfl,rfl,rfl,tR⟩,tR⟩,rfl⟩
    | exact .inr ⟨[0,2,1],rfl,⟨⟨rfl,rfl⟩,⟨rfl,rfl⟩,rfl,tR⟩,⟨⟨rfl,rfl,rfl,rfl,tR⟩,tR⟩,rfl⟩
  have eb:(decide (0<x0.frm.length)||(decide (0≤n)&&decide ((x0.args.length:Int)≠n))||decide (6<x0.args.length))=(((!true||decide ((0:Int)<x0.frm.length))||(decide (0≤n)&&!decide ((x0.args.length:Int)=n)))||decide ((6:Int)<x0.args.length)):=by
   rw[show decide ((0:Int)<x0.frm.length)=decide (0<x0.frm.length) by rw[decide_eq_decide];omega,show decide ((6:Int)<x0.args.length)=decide (6<x0.args.length) by rw[decide_eq_decide];omega]
   simp only[ne_eq,decide_not,Bool.not_true,Bool.false_or]
  refine x.cond Z tR (λh3=>?_) (λh3=>?_)
  ·have h3:(((!true||decide ((0:Int)<x0.frm.length))||(decide (0≤n)&&!decide ((x0.args.length:Int)=n)))||decide ((6:Int)<x0.args.length))=true:=h3
   refine x.exit Z tR ?_
   refine⟨.inr Z,?_,tR,Z⟩
   show false=(!(_||_||_)&&_)
   rw[eb,h3]
   rfl
  ·have h3:(((!true||decide ((0:Int)<x0.frm.length))||(decide (0≤n)&&!decide ((x0.args.length:Int)=n)))||decide ((6:Int)<x0.args.length))=false:=h3
   refine x.pure Z tR Z (Cg x0.dst d hx.dst) ⟨Z,Z,tR⟩ ?_
   refine x.bK Z tR Z (λ_=>Cg x0.ref r hx.ref) Z ⟨Z,Z,tR⟩ ?_
   refine x.bK Z tR Z (λ_=>Cg x0.alt b hx.alt) Z ⟨Z,Z,tR⟩ ?_
   refine x.exit Z tR ?_
   refine⟨.inr Z,?_,tR,Z⟩
   show (dZ x0.dst d&&dZ x0.ref r&&dZ x0.alt b)=(!(_||_||_)&&_)
   rw[eb,h3]
   rfl
theorem R9{s:BY}(h:dZ s true=true):okN s=true:=by unfold dZ at h;simpa using h
theorem GA{s:BY}(h:dZ s false=true):s=.empty:=oN.w9 (by unfold dZ at h;simpa using h)
structure RIn(x:Ins)(n:Int)(d r a:Bool):Prop where
 args:gU x.args=true
 frm:x.frm=[]
 yT:(0≤n->(x.args.length:Int)=n)∧x.args.length≤6
 dst:dZ x.dst d=true
 ref:dZ x.ref r=true
 alt:dZ x.alt a=true
 op:x.op≠0↔x.kind=2
 num:x.num≠0->x.kind=1
structure afc(x:Ins):Prop where
 args:gU x.args=true
 frm:gU x.frm=true
 dst:okN x.dst=true
 ref:x.ref=.empty
 alt:x.alt=.empty
 len:x.frm.length=x.args.length∧1≤x.frm.length∧x.frm.length≤64
 op:x.op=0
 num:x.num=0
theorem jP{x:Ins}(h:cZ x=true):(x.kind=3∧afc x)∨∃n d r a,jL x.kind=some (n,d,r,a)∧x.kind≠3∧RIn x n d r a∧(x.kind=2->(opName x.op).data.toList≠[]):=by
 unfold cZ at h
 split at h
 ·cases h
 rename_i h0
 simp only[Bool.or_eq_true,not_or,Bool.not_eq_true,Bool.not_eq_false'] at h0
 obtain⟨⟨⟨⟨ho,hop⟩,Pq⟩,ha⟩,hf⟩:=h0
 have ho:x.op≠0↔x.kind=2:=by
  by_cases c1:x.op=0<;>by_cases c2:x.kind=2<;>simp [c1,c2] at ho ⊢
 have Pq:x.num≠0->x.kind=1:=λh=>by
  by_cases c2:x.kind=1
  ·exact c2
  ·simp [h,c2] at Pq
 have hop:x.op≠0->(opName x.op).data.toList≠[]:=λh h2=>by simp [h,h2] at hop
 split at h
 ·rename_i hk
  simp only[afF,afL] at h
  obtain⟨⟨⟨⟨⟨h1,h2⟩,h3⟩,h4⟩,h5⟩,h6⟩:=h
  refine .inl ⟨hk,ha,hf,h1,oN.w9 h2,oN.w9 h3,⟨h4,h5,h6⟩,?_,?_⟩
  ·exact Classical.byContradiction λhne=>by have:=ho.1 hne;omega
  ·exact Classical.byContradiction λhne=>by have:=Pq hne;omega
 ·rename_i hk
  split at h
  ·cases h
  ·rename_i n d r a hs
   simp only[afF,afR,afU,afP] at h
   obtain⟨⟨⟨h1,h2⟩,h3⟩,⟨h4,h5⟩,h6⟩:=h
   have hlen:0≤n->(x.args.length:Int)=n:=λhn=>by
    by_cases c:(x.args.length:Int)=n
    ·exact c
    ·simp [hn,c] at h2
   exact .inr ⟨n,d,r,a,hs,hk,⟨ha,List.eq_nil_of_length_eq_zero (by omega),⟨hlen,by omega⟩,h4,h5,h6,ho,Pq⟩,λhk2=>hop (ho.2 hk2)⟩
def uW(n i:Nat)(b:Nat->Int):Nat->Int:=λk=>if k<i∨n≤k+i then b (n-1-k) else b k
theorem KI(n:Nat)(b:Nat->Int)(hn:n≤big):aD PG 111 1 [.own 0] [.vec 5 1 n λk=>[.int .u8 (b k)]] (.tup []) [.vec 5 1 n λk=>[.int .u8 (b (n-1-k))]]:=by
 refine aD.mk (aeR 28) av [0] Tryz.func111 Z (by kernel_rfl) Z Z Z ?_
 intro C x
 unfold big at hn
 refine x.loop (α:={i:Nat // 2*i≤n+1}) (λy=>⟨[(0,.own 0),(2,vi (y.1:Int)),(3,vi ((n:Int)-1-(y.1:Int)))],[(0,.vec 5 1 n λk=>[.int .u8 (uW n y.1 b k)])],1⟩) (λy=>n-y.1) ⟨0,by omega⟩ Z (show aj ((n:Int)-1) by unfold aj;omega) ?_ (λy=>?_)
 ·refine⟨⟨Z,Z,?_,tR⟩,⟨⟨Z,Z,Z,λi hi=>?_⟩,tR⟩,Z⟩
  ·show (n:Int)-1=(n:Int)-1-0;omega
  ·show [D.int .u8 (b i)]=[D.int .u8 (uW n 0 b i)]
   rw[uW,if_neg (by omega)]
 obtain⟨i,hi⟩:=y
 change Go C _ ⟨[(0,.own 0),(2,vi (i:Int)),(3,vi ((n:Int)-1-(i:Int)))],[(0,.vec 5 1 n λk=>[.int .u8 (uW n i b k)])],1⟩ _
 refine x.cond Z tR (λh=>?_) (λh=>?_)
 ·have h':(i:Int)<(n:Int)-1-i:=by simpa using h
  refine x.plan [0,1,2,3,4,5,8,9] [6,7,10,11,12] [13,14,15] Z tR ay (by kernel_rfl) Ret.bP ?_
  refine x.bS Z ?_ ?_
  ·simp only[ak];omega
  refine x.back Z ?_ ?_
  ·simp only[ak,List.length,aj];omega
  refine⟨⟨i+1,by omega⟩,by show n-(i+1)<n-i;omega,⟨Z,?_,?_,tR⟩,⟨⟨Z,Z,Z,λk hk=>?_⟩,tR⟩,Z⟩
  ·show (i:Int)+1=((i+1:Nat):Int);omega
  ·show (n:Int)-1-i-1=(n:Int)-1-((i+1:Nat):Int);omega
  ·rw[rW,rW]
   show [D.int .u8 (if k=((n:Int)-1-i).toNat then uW n i b (i:Int).toNat else if k=(i:Int).toNat then uW n i b ((n:Int)-1-i).toNat else uW n i b k)]=[D.int .u8 (uW n (i+1) b k)]
   congr 2
   rw[show ((n:Int)-1-i).toNat=n-1-i by omega,show (i:Int).toNat=i by omega]
   have e1:uW n i b i=b i:=by rw[uW,if_neg (by omega)]
   have e2:uW n i b (n-1-i)=b (n-1-i):=by rw[uW,if_neg (by omega)]
   rw[e1,e2]
   by_cases h1:k=n-1-i
   ·rw[if_pos h1,uW,if_pos (by omega),h1,show n-1-(n-1-i)=i by omega]
   ·rw[if_neg h1]
    by_cases h2:k=i
    ·rw[if_pos h2,uW,if_pos (by omega),h2]
    ·rw[if_neg h2,uW,uW]
     by_cases h3:k<i∨n≤k+i
     ·rw[if_pos h3,if_pos (by omega)]
     ·rw[if_neg h3,if_neg (by omega)]
 ·have h':¬(i:Int)<(n:Int)-1-i:=by simpa using h
  refine x.exit Z tR ?_
  refine⟨.inl Z,tR,⟨⟨Z,Z,Z,λk hk=>?_⟩,tR⟩,Z⟩
  show [D.int .u8 (uW n i b k)]=[D.int .u8 (b (n-1-k))]
  rw[uW]
  split
  ·rfl
  ·rw[show n-1-k=k by omega]
structure SI (u0:Nat) where
 u:Nat
 l:List Int
 lo:∀x∈l,48≤x∧x≤57
 same:zY u++(l.map λx=>UInt8.ofNat x.toNat).reverse=if l=[] then zY u0 else kg u0
 first:l=[]->u=u0
 len:l.length≤20∧u<10 ^ (20-l.length)
theorem Vi(l:List Int):(List.range l.length).map (λi=>UInt8.ofNat (l.getD (l.length-1-i) 0).toNat)=(l.map λx=>UInt8.ofNat x.toNat).reverse:=by
 apply List.ext_getElem
 ·simp
 ·intro i h1 h2
  simp at h1
  have:l.length-1-i<l.length:=by omega
  simp [this]
theorem Vj(n:Int)(hn:aj n):Pure PG 65 [vi n] (vs (gM n)) []:=by
 refine aD.mk ⟨34,0,false,tys⟩ av [] Tryz.func65 Z (by kernel_rfl) Z Z Z ?_
 intro C x
 unfold aj at hn
 refine x.ite (α:=Unit) (λ_=>⟨[(3,.d (.int .u64 (n.natAbs:Int))),(4,vs (ba (sgV n)))],[],0⟩) Z tR (λh=>?_) (λh=>?_) (λ_=>?_)
 ·refine x.back Z tR ⟨(),⟨?_,?_,tR⟩,tR,Z⟩
  ·show IntKind.u64.wrap (0-IntKind.u64.wrap n)=n.natAbs
   have:n<0:=by simpa using h
   rw[IntKind.wrap_u64,IntKind.wrap_u64]
   omega
  ·show _=ba (sgV n)
   rw[sgV,if_pos (by simpa using h)]
   rfl
 ·refine x.back Z tR ⟨(),⟨?_,?_,tR⟩,tR,Z⟩
  ·show IntKind.u64.wrap n=n.natAbs
   have:¬n<0:=by simpa using h
   rw[IntKind.wrap_u64]
   omega
  ·show _=ba (sgV n)
   rw[sgV,if_neg (by simpa using h)]
   rfl
 refine x.toLoop Z tR ?_
 refine Go.own 5 5 1 (λ_=>[]) Z ?_
 refine x.loop (α:=SI n.natAbs) (λy=>⟨[(3,.d (.int .u64 (y.u:Int))),(4,vs (ba (sgV n))),(5,.own 0)],[(0,.vec 5 1 y.l.length λi=>[.int .u8 (y.l.getD i 0)])],1⟩) (λy=>21-y.l.length)
  ⟨n.natAbs,[],by simp,by simp,λ_=>rfl,by simp,by show n.natAbs<100000000000000000000;omega⟩ Z tR ?_ (λy=>?_)
 ·exact⟨⟨Z,Z,Z,tR⟩,⟨⟨Z,Z,Z,λi hi=>absurd hi (afN _)⟩,tR⟩,Z⟩
 obtain⟨u,l,lo,same,first,len⟩:=y
 change Go C _ ⟨[(3,.d (.int .u64 (u:Int))),(4,vs (ba (sgV n))),(5,.own 0)],[(0,.vec 5 1 l.length λi=>[.int .u8 (l.getD i 0)])],1⟩ _
 refine x.cond Z tR (λh=>?_) (λh=>?_)
 ·have h':0<u∨l=[]:=by
   simp only[Bool.or_eq_true,afL] at h
   rcases h with h | h
   ·exact .inl (by omega)
   ·exact .inr (List.length_eq_zero_iff.1 (by omega))
  have hl:l.length≤19:=by
   rcases h' with h' | rfl
   ·refine Classical.byContradiction λhh=>?_
    have:l.length=20:=by omega
    rw[this] at len
    simp at len
    omega
   ·simp
  refine x.back Z ?_ ?_
  ·simp only[ak,big];omega
  have hd:IntKind.u8.wrap (IntKind.u64.wrap (48+(u:Int).tmod 10))=48+((u%10:Nat):Int):=by
   rw[IntKind.wrap_u64,IntKind.wrap_u8,Int.tmod_eq_emod_of_nonneg (by omega)]
   omega
  have hq:IntKind.u64.wrap ((u:Int).tdiv 10)=((u/10:Nat):Int):=by
   have h1:u<10 ^ 20:=Nat.lt_of_lt_of_le len.2 (Nat.pow_le_pow_right (by omega) (by omega))
   have h2:u/10<10000000000000000000:=by omega
   rw[Int.tdiv_eq_ediv_of_nonneg (by omega),IntKind.wrap_u64]
   omega
  refine⟨⟨u/10,l++[48+((u%10:Nat):Int)],?_,?_,?_,?_⟩,?_,⟨?_,Z,Z,tR⟩,⟨⟨Z,Z,?_,?_⟩,tR⟩,Z⟩
  ·intro y hy
   rcases List.mem_append.1 hy with hy | hy
   ·exact lo y hy
   ·rw[List.mem_singleton.1 hy];omega
  ·rw[if_neg (by simp)]
   simp only[List.map_append,List.map_cons,List.map_nil,List.reverse_append,List.reverse_cons,List.reverse_nil,List.nil_append,List.singleton_append]
   rw[show (48+((u%10:Nat):Int)).toNat=48+u%10 by omega]
   rw[show zY (u/10)++UInt8.ofNat (48+u%10)::(l.map λx=>UInt8.ofNat x.toNat).reverse=(zY (u/10)++[UInt8.ofNat (48+u%10)])++(l.map λx=>UInt8.ofNat x.toNat).reverse by simp]
   rw[Ul]
   rcases h' with h' | rfl
   ·by_cases hl0:l=[]
    ·rw[hl0,first hl0];simp
    ·rw[if_neg hl0,zY,if_neg (by omega)] at same
     exact same
   ·rw[first rfl];simp
  ·intro h;simp at h
  ·refine⟨by simp;omega,?_⟩
   have h1:20-l.length=(19-l.length)+1:=by omega
   rw[h1,Nat.pow_succ] at len
   rw[List.length_append,List.length_singleton,show 20-(l.length+1)=19-l.length by omega]
   omega
  ·show 21-(l++[_]).length<21-l.length
   simp;omega
  ·exact hq
  ·show l.length+1=(l++[_]).length
   simp
  ·intro i hi
   have:=Xb .u8 l (48+((u%10:Nat):Int)) i hi
   refine Eq.trans ?_ this
   show app l.length _ (λ_=>[D.int .u8 (IntKind.u8.wrap (IntKind.u64.wrap (48+(u:Int).tmod 10)))]) i=_
   rw[hd]
 ·have h':u=0∧l≠[]:=by
   simp only[afU,afP] at h
   exact⟨by omega,λe=>h.2 (by rw[e];rfl)⟩
  obtain⟨rfl,hne⟩:=h'
  rw[if_neg hne,zY,if_pos Z,List.nil_append] at same
  refine x.call [0] Z tR Z (KI l.length (λk=>l.getD k 0) (by unfold big;omega)) Z ⟨Z,tR⟩ ⟨⟨Z,Z,Z,λ_ _=>rfl⟩,tR⟩ ?_
  refine x.exit Z ?_ ?_
  ·refine⟨λi hi=>trivial,?_⟩
   show (((ba (sgV n)).size+(bytesOf l.length λk=>[D.int .u8 (l.getD (l.length-1-k) 0)]).size:Nat):Int)≤9223372036854775807
   rw[Fq,qI,qI]
   have:(sgV n).length≤1:=by unfold sgV;split<;>simp
   simp only[List.length_map,List.length_range]
   omega
  refine⟨.inr Z,?_,tR,Z⟩
  show ba (sgV n)++bytesOf l.length (λk=>[D.int .u8 (l.getD (l.length-1-k) 0)])=gM n
  rw[Fq,Vi,same,J7]
  rfl
theorem Al{α:Type}(l:List α)(p:α->Bool)(d:α):gT (λi=>p (l.getD i d)) l.length 0=l.all p:=by
 rw[Bool.eq_iff_iff,sD,List.all_eq_true]
 constructor
 ·intro h x hx
  obtain⟨i,hi,rfl⟩:=List.getElem_of_mem hx
  have:=h i (Nat.zero_le _) (by omega)
  rwa [afE,afG hi] at this
 ·intro h j _ hj
  exact h _ (eX (by omega))
theorem Sb{l:List Nat}{a:Nat}(h:a∈l):a≤l.sum:=by
 induction l with
 | nil=>cases h
 | cons b r ih=>
  rw[List.sum_cons]
  rcases List.mem_cons.1 h with rfl | h
  ·omega
  ·have:=ih h;omega
def Ci(bs:List Blk)(i:Nat):Nat:=((bs.take i).map λb=>b.code.length).sum
theorem Jq{bs:List Blk}{i:Nat}(h:i<bs.length):Ci bs (i+1)=Ci bs i+(bs.getD i bq).code.length:=by
 unfold Ci
 rw[List.take_succ_eq_append_getElem h,List.map_append,List.sum_append,afE,afG h]
 simp
theorem KJ{bs:List Blk}{k:Nat}(h:∀b,b∈bs->b.code.length≤k):∀i,i≤bs.length->Ci bs i≤i*k
 | 0,_=>by simp [Ci]
 | i+1,hi=>by
  have:=KJ h i (by omega)
  have h2:=h _ (eX (d:=bq) (show i<bs.length by omega))
  rw[Jq (by omega),Nat.succ_mul]
  omega
structure FitB(b:Blk):Prop where
 name:b.name.size≤okL
 len:b.code.length≤jY
 code:∀x,x∈b.code->acN x
structure acO(f:Fun):Prop where
 name:f.name.size≤okL
 acP:f.params.length≤Eb
 params:∀a,a∈f.params->a.size≤okL
 aaq:f.blocks.length≤jY
 blocks:∀b,b∈f.blocks->FitB b
structure FitA(a:Arr):Prop where
 name:a.name.size≤okL
 level:a.level.size≤okL
 size:aj a.size
structure NJ(p:Prg):Prop where
 yT:p.arrays.length≤jY
 arrays:∀a,a∈p.arrays->FitA a
 Ku:p.funcs.length≤jY
 funcs:∀f,f∈p.funcs->acO f
def fN(f:Fun):Nat:=(f.blocks.map λb=>b.code.length).sum
theorem NK(f:Fun):Ci f.blocks f.blocks.length=fN f:=by unfold Ci fN;rw[List.take_length]
def GD(f:Fun):Int×Bool:=if lH f=true then ((fN f:Int),true) else (0,false)
theorem Ii(f:Fun)(hf:acO f):Pure PG 99 [fnV f] (.tup [vi (GD f).1,vb (GD f).2]) []:=by
 refine aD.mk (cfg 66) av [] Tryz.func99 Z (by kernel_rfl) Z Z Z ?_
 intro C x
 obtain⟨f1,f2,f3,f4,f5⟩:=hf
 have f4':=f4
 unfold jY at f4'
 refine x.pure Z tR Z (kY f.name f1) ⟨Z,tR⟩ ?_
 refine x.bK Z tR Z (λ_=>wJ f.params f2 f3) Z ⟨au Z,tR⟩ ?_
 have ec:(!okN f.name||!gU f.params||decide (6<f.params.length)||decide (f.blocks.length<1)||decide (64<f.blocks.length))=(((((!okN f.name||!gU f.params)||decide ((6:Int)<f.params.length))||decide ((f.blocks.length:Int)<1)))||decide ((64:Int)<f.blocks.length)):=by
  rw[show decide ((6:Int)<f.params.length)=decide (6<f.params.length) by rw[decide_eq_decide];omega,show decide ((f.blocks.length:Int)<1)=decide (f.blocks.length<1) by rw[decide_eq_decide];omega,show decide ((64:Int)<f.blocks.length)=decide (64<f.blocks.length) by rw[decide_eq_decide];omega]
 refine x.cond Z tR (λh=>?_) (λh=>?_)
 ·have h:(((((!okN f.name||!gU f.params)||decide ((6:Int)<f.params.length))||decide ((f.blocks.length:Int)<1)))||decide ((64:Int)<f.blocks.length))=true:=h
  have hF:lH f=false:=by unfold lH;rw[ec,h];rfl
  refine x.exit Z tR ?_
  unfold GD
  rw[hF]
  exact⟨.inr Z,⟨Z,Z,tR⟩,tR,Z⟩
 have h:(((((!okN f.name||!gU f.params)||decide ((6:Int)<f.params.length))||decide ((f.blocks.length:Int)<1)))||decide ((64:Int)<f.blocks.length))=false:=h
 have h64:f.blocks.length≤64:=by
  simp only[afU,afP] at h
  omega
 obtain⟨R,hR⟩:∃R,f.blocks.all pU=R:=⟨_,Z⟩
 have hF:lH f=R:=by unfold lH;rw[ec,h,hR];simp
 have hR2:gT (λi=>pU (f.blocks.getD i bq)) f.blocks.length 0=R:=by rw[Al];exact hR
 have bad:R=false->GD f=(0,false):=λe=>by unfold GD;rw[hF,e];rfl
 have good:R=true->GD f=((fN f:Int),true):=λe=>by unfold GD;rw[hF,e];rfl
 clear h ec
 have hsum:=KJ (k:=jY) (λb hb=>(f5 b hb).len)
 unfold jY at hsum
 refine x.loop (α:=AW (λi=>pU (f.blocks.getD i bq)) f.blocks.length R) (λy=>⟨[(1,.ptr 0 0),(4,vi (Ci f.blocks y.i)),(38,.d (gQ f.blocks)),(39,vi f.blocks.length),(40,vi (y.i:Int))],[(0,.box [vs f.name,.d (aZ f.params),.d (gQ f.blocks),vi f.at_])],1⟩) (λy=>f.blocks.length-y.i) ⟨0,Nat.zero_le _,hR2⟩ Z tR ⟨⟨⟨Z,Z⟩,Z,au Z,Z,Z,tR⟩,⟨⟨Z,ah Z,ah Z,Z,tR⟩,tR⟩,Z⟩ (λy=>?_)
 obtain⟨i,hi,same⟩:=y
 change Go C _ ⟨[(1,.ptr 0 0),(4,vi (Ci f.blocks i)),(38,.d (gQ f.blocks)),(39,vi f.blocks.length),(40,vi (i:Int))],[(0,.box [vs f.name,.d (aZ f.params),.d (gQ f.blocks),vi f.at_])],1⟩ _
 refine x.cond Z tR (λh2=>?_) (λh2=>?_)
 rotate_left
 ·have h2:¬(i:Int)<(f.blocks.length:Int):=afI h2
  refine x.exit Z tR ?_
  rw[good (AW.fin (by omega) hi same)]
  obtain rfl:i=f.blocks.length:=by omega
  rw[←NK]
  exact⟨.inr Z,⟨Z,Z,tR⟩,tR,Z⟩
 have h2:(i:Int)<(f.blocks.length:Int):=afH h2
 have h2:i<f.blocks.length:=by omega
 have hb:=f5 _ (eX (d:=bq) h2)
 have hs2:=Jq h2
 have hs3:=hsum i hi
 have hs4:i*1000000000000≤64*1000000000000:=Nat.mul_le_mul_right _ (by omega)
 have hfi:∀v,pU (f.blocks.getD i bq)=v->(λi=>pU (f.blocks.getD i bq)) i=v:=λv h=>h
 have ei:((i:Int).toNat)=i:=afT i
 obtain⟨b,hbe⟩:∃b,f.blocks.getD i bq=b:=⟨_,Z⟩
 have afd:f.blocks.getD ((i:Int).toNat) bq=b:=by rw[ei];exact hbe
 rw[hbe] at hb hs2 hfi
 obtain⟨b1,b2,b3⟩:=hb
 unfold jY at b2
 refine x.pure Z (by simp only[ak];omega) Z (show Pure PG _ [vs (f.blocks.getD ((i:Int).toNat) bq).name] _ [] from by rw[afd];exact kY b.name b1) ⟨Z,tR⟩ ?_
 refine x.cond Z tR (λh3=>?_) (λh3=>?_)
 ·have h3:(!okN b.name)=true:=h3
  have hv:pU b=false:=by unfold pU;rw[show okN b.name=false by simpa using h3];rfl
  refine x.exit Z tR ?_
  rw[bad (AW.stop h2 same (hfi _ hv))]
  exact⟨.inr Z,⟨Z,Z,tR⟩,tR,Z⟩
 have h3:(!okN b.name)=false:=h3
 obtain⟨Q,hQ⟩:∃Q,b.code.all cZ=Q:=⟨_,Z⟩
 have hv:pU b=Q:=by unfold pU;rw[show okN b.name=true by simpa using h3,hQ];rfl
 have hQ2:gT (λi=>cZ (b.code.getD i (aP 0))) b.code.length 0=Q:=by rw[Al];exact hQ
 rw[hv] at hfi
 rw[afd]
 refine x.loop (α:=AW (λi=>cZ (b.code.getD i (aP 0))) b.code.length Q) (λy=>⟨[(1,.ptr 0 0),(4,vi (Ci f.blocks i)),(38,.d (gQ f.blocks)),(39,vi f.blocks.length),(40,vi (i:Int)),(6,.ptr 1 0),(49,.d (nN b.code)),(50,vi b.code.length),(51,vi (y.i:Int))],[(0,.box [vs f.name,.d (aZ f.params),.d (gQ f.blocks),vi f.at_]),(1,.box [vs b.name,.d (nN b.code),vi b.at_])],2⟩) (λy=>b.code.length-y.i) ⟨0,Nat.zero_le _,hQ2⟩ Z tR ⟨⟨⟨Z,Z⟩,Z,au Z,Z,Z,⟨Z,Z⟩,au Z,Z,Z,tR⟩,⟨⟨Z,ah Z,ah Z,Z,tR⟩,⟨Z,ah Z,Z,tR⟩,tR⟩,Z⟩ (λy=>?_)
 obtain⟨k,hk,Gc⟩:=y
 change Go C _ ⟨[(1,.ptr 0 0),(4,vi (Ci f.blocks i)),(38,.d (gQ f.blocks)),(39,vi f.blocks.length),(40,vi (i:Int)),(6,.ptr 1 0),(49,.d (nN b.code)),(50,vi b.code.length),(51,vi (k:Int))],[(0,.box [vs f.name,.d (aZ f.params),.d (gQ f.blocks),vi f.at_]),(1,.box [vs b.name,.d (nN b.code),vi b.at_])],2⟩ _
 refine x.cond Z tR (λh4=>?_) (λh4=>?_)
 rotate_left
 ·have h4:¬(k:Int)<(b.code.length:Int):=afI h4
  have hv:=AW.fin (by omega) hk Gc
  refine x.back Z (by simp only[ak,aj];omega) ⟨⟨i+1,by omega,AW.step h2 same (hfi _ hv)⟩,by show f.blocks.length-(i+1)<f.blocks.length-i;omega,⟨⟨Z,Z⟩,?_,au Z,Z,?_,tR⟩,⟨⟨Z,ah Z,ah Z,Z,tR⟩,tR⟩,Z⟩
  ·show aB (vi ((Ci f.blocks i:Int)+b.code.length)) (vi (Ci f.blocks (i+1):Int))
   rw[hs2,afQ];rfl
  ·show aB (vi ((i:Int)+1)) (vi ((i+1:Nat):Int));rw[afQ];rfl
 have h4:(k:Int)<(b.code.length:Int):=afH h4
 have h4:k<b.code.length:=by omega
 refine x.pure Z (by simp only[ak];omega) Z (Qu (b.code.getD ((k:Int).toNat) (aP 0)) (by rw[afT];exact b3 _ (eX h4))) ⟨⟨Z,Z,Z,Z,Z,ah Z,ah Z,Z,Z,tR⟩,tR⟩ ?_
 rw[afT]
 refine x.cond Z tR (λh5=>?_) (λh5=>?_)
 ·have h5:(!cZ (b.code.getD k (aP 0)))=true:=h5
  refine x.exit Z tR ?_
  rw[bad (AW.stop h2 same (hfi _ (AW.stop h4 Gc (by simpa using h5))))]
  exact⟨.inr Z,⟨Z,Z,tR⟩,tR,Z⟩
 ·have h5:(!cZ (b.code.getD k (aP 0)))=false:=h5
  refine x.back Z (by simp only[ak,aj];omega) ⟨⟨k+1,by omega,AW.step h4 Gc (by simpa using h5)⟩,by show b.code.length-(k+1)<b.code.length-k;omega,⟨⟨Z,Z⟩,Z,au Z,Z,Z,⟨Z,Z⟩,au Z,Z,?_,tR⟩,⟨⟨Z,ah Z,ah Z,Z,tR⟩,⟨Z,ah Z,Z,tR⟩,tR⟩,Z⟩
  show aB (vi ((k:Int)+1)) (vi ((k+1:Nat):Int));rw[afQ];rfl
def xL(fs:List Fun)(i:Nat):Nat:=((fs.take i).map fN).sum
theorem Vk{fs:List Fun}{i:Nat}(h:i<fs.length):xL fs (i+1)=xL fs i+fN (fs.getD i bG):=by
 unfold xL
 rw[List.take_succ_eq_append_getElem h,List.map_append,List.sum_append,afE,afG h]
 simp
theorem aar(fs:List Fun)(i:Nat):xL fs i≤ko fs:=by
 have h:ko fs=((fs.take i++fs.drop i).map fN).sum:=by rw[List.take_append_drop];rfl
 rw[h,List.map_append,List.sum_append]
 exact Nat.le_add_right _ _
theorem Yr(fs:List Fun):xL fs fs.length=ko fs:=by unfold xL;rw[List.take_length];rfl
structure RW (fs:List Fun) where
 i:Nat
 hi:i≤fs.length
 ok:∀j,j<i->lH (fs.getD j bG)=true
 few:xL fs i≤4096
theorem afe{f:Fun}(hf:acO f)(h:lH f=true):fN f≤64*1000000000000:=by
 have h64:f.blocks.length≤64:=by
  unfold lH at h
  simp only[afF,afR,afU,afP] at h
  omega
 have:=KJ (k:=jY) (λb hb=>(hf.blocks b hb).len) f.blocks.length (Nat.le_refl _)
 rw[NK] at this
 unfold jY at this
 exact Nat.le_trans this (Nat.mul_le_mul_right _ h64)
theorem NM(p:Prg)(hp:NJ p):Pure PG 49 [H8 p] (vb (rightG p)) []:=by
 refine aD.mk (cfg 70) av [] Tryz.func49 Z (by kernel_rfl) Z Z Z ?_
 intro C x
 obtain⟨p1,p2,p3,p4⟩:=hp
 unfold jY at p1 p3
 have ec:(decide (16<p.arrays.length)||decide (64<p.funcs.length))=(decide ((16:Int)<p.arrays.length)||decide ((64:Int)<p.funcs.length)):=by
  rw[show decide ((16:Int)<p.arrays.length)=decide (16<p.arrays.length) by rw[decide_eq_decide];omega,show decide ((64:Int)<p.funcs.length)=decide (64<p.funcs.length) by rw[decide_eq_decide];omega]
 refine x.cond Z tR (λh=>?_) (λh=>?_)
 ·have h:(decide ((16:Int)<p.arrays.length)||decide ((64:Int)<p.funcs.length))=true:=h
  refine x.exit Z tR ?_
  refine⟨.inr Z,?_,tR,Z⟩
  show false=rightG p
  unfold rightG
  rw[ec,h];rfl
 have h:(decide ((16:Int)<p.arrays.length)||decide ((64:Int)<p.funcs.length))=false:=h
 obtain⟨R,hR⟩:∃R,p.arrays.all lG=R:=⟨_,Z⟩
 have hF:rightG p=(R&&p.funcs.all lH&&decide (ko p.funcs≤4096)):=by unfold rightG;rw[ec,h,hR];rfl
 have hR2:gT (λi=>lG (p.arrays.getD i bR)) p.arrays.length 0=R:=by rw[Al];exact hR
 rw[hF]
 have h64:p.funcs.length≤64:=by
  simp only[afU,afP] at h
  omega
 clear h ec hF
 refine x.loop (α:=AW (λi=>lG (p.arrays.getD i bR)) p.arrays.length R) (λy=>⟨[(1,.ptr 0 0),(21,.d (bV p.arrays)),(22,vi p.arrays.length),(23,vi (y.i:Int))],[(0,.box [.d (bV p.arrays),.d (dn p.funcs)])],1⟩) (λy=>p.arrays.length-y.i) ⟨0,Nat.zero_le _,hR2⟩ Z tR ⟨⟨⟨Z,Z⟩,au Z,Z,Z,tR⟩,⟨⟨ah Z,ah Z,tR⟩,tR⟩,Z⟩ (λy=>?_)
 obtain⟨i,hi,same⟩:=y
 change Go C _ ⟨[(1,.ptr 0 0),(21,.d (bV p.arrays)),(22,vi p.arrays.length),(23,vi (i:Int))],[(0,.box [.d (bV p.arrays),.d (dn p.funcs)])],1⟩ _
 refine x.cond Z tR (λh2=>?_) (λh2=>?_)
 ·have h2:(i:Int)<(p.arrays.length:Int):=afH h2
  have h2:i<p.arrays.length:=by omega
  have ei:((i:Int).toNat)=i:=afT i
  have ha:=p2 _ (eX (d:=bR) h2)
  have hfi:∀v,lG (p.arrays.getD i bR)=v->(λi=>lG (p.arrays.getD i bR)) i=v:=λv h=>h
  obtain⟨a,hae⟩:∃a,p.arrays.getD i bR=a:=⟨_,Z⟩
  have aff:p.arrays.getD ((i:Int).toNat) bR=a:=by rw[ei];exact hae
  rw[hae] at ha hfi
  refine x.pure Z (by simp only[ak];omega) Z (show Pure PG _ [vs (p.arrays.getD ((i:Int).toNat) bR).name] _ [] from by rw[aff];exact kY a.name ha.name) ⟨Z,tR⟩ ?_
  rw[aff]
  refine x.bK Z tR Z (λ_=>kY a.level ha.level) Z ⟨Z,tR⟩ ?_
  refine x.cond Z tR (λh3=>?_) (λh3=>?_)
  ·have h3:(((!okN a.name||!okN a.level)||decide (a.size<1))||decide (256<a.size))=true:=h3
   have hv:lG a=false:=by unfold lG;rw[h3];rfl
   refine x.exit Z tR ?_
   rw[AW.stop h2 same (hfi _ hv)]
   exact⟨.inr Z,Z,tR,Z⟩
  ·have h3:(((!okN a.name||!okN a.level)||decide (a.size<1))||decide (256<a.size))=false:=h3
   have hv:lG a=true:=by unfold lG;rw[h3];rfl
   refine x.back Z (by simp only[ak,aj];omega) ⟨⟨i+1,by omega,AW.step h2 same (hfi _ hv)⟩,by show p.arrays.length-(i+1)<p.arrays.length-i;omega,⟨⟨Z,Z⟩,au Z,Z,?_,tR⟩,⟨⟨ah Z,ah Z,tR⟩,tR⟩,Z⟩
   show aB (vi ((i:Int)+1)) (vi ((i+1:Nat):Int));rw[afQ];rfl
 have h2:¬(i:Int)<(p.arrays.length:Int):=afI h2
 have eR:=AW.fin (by omega) hi same
 subst eR
 refine x.loop (α:=RW p.funcs) (λy=>⟨[(1,.ptr 0 0),(5,vi (xL p.funcs y.i)),(49,.d (dn p.funcs)),(50,vi p.funcs.length),(51,vi (y.i:Int))],[(0,.box [.d (bV p.arrays),.d (dn p.funcs)])],1⟩) (λy=>p.funcs.length-y.i) ⟨0,Nat.zero_le _,λj hj=>by omega,by simp [xL]⟩ Z tR ⟨⟨⟨Z,Z⟩,Z,au Z,Z,Z,tR⟩,⟨⟨ah Z,ah Z,tR⟩,tR⟩,Z⟩ (λy=>?_)
 obtain⟨k,hk,ok,few⟩:=y
 change Go C _ ⟨[(1,.ptr 0 0),(5,vi (xL p.funcs k)),(49,.d (dn p.funcs)),(50,vi p.funcs.length),(51,vi (k:Int))],[(0,.box [.d (bV p.arrays),.d (dn p.funcs)])],1⟩ _
 refine x.cond Z tR (λh3=>?_) (λh3=>?_)
 rotate_left
 ·have h3:¬(k:Int)<(p.funcs.length:Int):=afI h3
  obtain rfl:k=p.funcs.length:=by omega
  refine x.exit Z tR ?_
  have e1:p.funcs.all lH=true:=by
   rw[←Al p.funcs lH bG,sD]
   exact λj _ hj=>ok j (by omega)
  rw[Yr] at few
  rw[e1,decide_eq_true few]
  exact⟨.inr Z,Z,tR,Z⟩
 have h3:(k:Int)<(p.funcs.length:Int):=afH h3
 have h3:k<p.funcs.length:=by omega
 have hff:=p4 _ (eX (d:=bG) h3)
 have hs:=Vk h3
 obtain⟨f,hfe⟩:∃f,p.funcs.getD k bG=f:=⟨_,Z⟩
 have afg:p.funcs.getD ((k:Int).toNat) bG=f:=by rw[afT];exact hfe
 rw[hfe] at hff hs
 refine x.pure Z (by simp only[ak];omega) Z (show Pure PG _ [fnV (p.funcs.getD ((k:Int).toNat) bG)] _ [] from by rw[afg];exact Ii f hff) ⟨⟨Z,ah Z,ah Z,Z,tR⟩,tR⟩ ?_
 rw[afg]
 have hin:f∈p.funcs:=by rw[←hfe];exact eX h3
 cases hok:lH f with
 | false=>
  have eR:GD f=(0,false):=by unfold GD;rw[hok];rfl
  have e1:p.funcs.all lH=false:=by
   rw[Bool.eq_false_iff,Ne,List.all_eq_true]
   intro h;rw[h f hin] at hok;cases hok
  rw[eR,e1]
  refine x.cond Z (by simp only[ak,aj];omega) (λh4=>?_) (λh4=>?_)
  ·refine x.exit Z tR ?_
   exact⟨.inr Z,Z,tR,Z⟩
  ·have h4:(!false||_)=false:=h4
   simp at h4
 | true=>
  have eR:GD f=((fN f:Int),true):=by unfold GD;rw[hok];rfl
  have hN:=afe hff hok
  rw[eR]
  refine x.cond Z (by simp only[ak,aj];omega) (λh4=>?_) (λh4=>?_)
  ·have h4:(!true||decide ((4096:Int)<(xL p.funcs k:Int)+(fN f:Int)))=true:=h4
   have h4:(4096:Int)<(xL p.funcs k:Int)+(fN f:Int):=by simpa using h4
   have hle:=aar p.funcs (k+1)
   refine x.exit Z tR ?_
   rw[decide_eq_false (show ¬ko p.funcs≤4096 by omega),Bool.and_false]
   exact⟨.inr Z,Z,tR,Z⟩
  ·have h4:(!true||decide ((4096:Int)<(xL p.funcs k:Int)+(fN f:Int)))=false:=h4
   have h4:¬(4096:Int)<(xL p.funcs k:Int)+(fN f:Int):=by simpa using h4
   refine x.back Z (by simp only[ak,aj];omega) ⟨⟨k+1,by omega,λj hj=>?_,by omega⟩,by show p.funcs.length-(k+1)<p.funcs.length-k;omega,⟨⟨Z,Z⟩,?_,au Z,Z,?_,tR⟩,⟨⟨ah Z,ah Z,tR⟩,tR⟩,Z⟩
   ·by_cases e:j=k
    ·rw[e,hfe];exact hok
    ·exact ok j (by omega)
   ·show aB (vi ((xL p.funcs k:Int)+(fN f:Int))) (vi (xL p.funcs (k+1):Int))
    rw[hs,afQ];rfl
   ·show aB (vi ((k:Int)+1)) (vi ((k+1:Nat):Int));rw[afQ];rfl
theorem sK(f1 f2:Nat->List D)(a e:Int):Later PG 50 [.ptr 0 0,.ptr 1 0,.ptr 2 0] [.box [.dead,.dead,.dead],.box [.dead],.box [.dead]] (.pan wI [(.i64,a),(.i64,e)]) [.box [.d (.sl 2 0 f1),.d (.sl 3 0 f2),vi 0],.box [vi a],.box [vi e]]:=by
 refine Later.mk (dM 22 3) av [0,1,2] Tryz.func50 Z (by kernel_rfl) Z Z Z Z Z Z Z Z Z Z ?_
 intro C x
 refine x.cond Z tR (λh=>?_) (λh=>?_)
 rotate_left
 ·cases h
 refine x.cond Z tR (λh=>?_) (λh=>?_)
 ·cases h
 refine x.draw [0,1] [] [0,1,2,3,4] [5,6] [7] Z tR ay (by kernel_rfl) (NoPanic.quiet Ret.bP) Z tR (λC1 x1=>?_)
 refine x1.back Z tR ?_
 refine x1.back Z tR ?_
 refine x.exit Z tR ?_
 exact⟨.inl Z,tR,⟨⟨Z,Z,Z,tR⟩,⟨Z,tR⟩,⟨Z,tR⟩,tR⟩,Z⟩
theorem Vl(z1 n1 z2 n2:Nat)(f1 f2:Nat->List D)(k a e:Int):Later PG 50 [.ptr 0 0,.ptr 1 0,.ptr 2 0] [.box [.d (.sl z1 n1 f1),.d (.sl z2 n2 f2),vi k],.box [vi a],.box [vi e]] .back [.box [.d (.sl z1 n1 f1),.d (.sl z2 n2 f2),vi k],.box [vi a],.box [vi e]]:=by
 refine Later.mk (dM 22 3) av [0,1,2] Tryz.func50 Z (by kernel_rfl) Z Z Z Z Z Z Z Z Z Z ?_
 intro C x
 refine x.cond Z tR (λh=>?_) (λh=>?_)
 ·cases h
 refine x.exit Z tR ?_
 exact⟨.inl Z,tR,⟨⟨ah Z,ah Z,Z,tR⟩,⟨Z,tR⟩,⟨Z,tR⟩,tR⟩,Z⟩
theorem wK{α:Type}{g:α->Nat}{l:List α}{a:α}(h:a∈l):g a≤(l.map g).sum:=by
 induction l with
 | nil=>cases h
 | cons b l ih=>
  simp only[List.map_cons,List.sum_cons]
  rcases List.mem_cons.1 h with rfl | h
  ·omega
  ·have:=ih h;omega
structure NN(q:Prg):Prop where
 al:q.arrays.length≤16
 fl:q.funcs.length≤64
 f:∀f∈q.funcs,f.params.length≤6∧f.blocks.length≤64∧∀b∈f.blocks,b.code.length≤4096∧∀x∈b.code,ND x
theorem acQ{x:Ins}(h:cZ x=true):ND x:=by
 unfold cZ at h
 split at h
 ·cases h
 ·split at h
  ·simp only[afF,afL] at h
   exact⟨by omega,by omega⟩
  ·split at h
   ·cases h
   ·rw[afF,afR] at h
    have h1:=h.1
    simp only[afU,afP] at h1
    exact⟨by omega,by omega⟩
theorem Yt{q:Prg}(h:rightG q=true):NN q:=by
 unfold rightG at h
 simp only[afF,afR,afU,afL,afP,List.all_eq_true] at h
 obtain⟨⟨⟨⟨h1,h2⟩,h3⟩,h4⟩,h5⟩:=h
 refine⟨by omega,by omega,λf hf=>?_⟩
 have h6:=h4 f hf
 unfold lH at h6
 simp only[afF,afR,afU,afP,List.all_eq_true] at h6
 obtain⟨⟨⟨⟨⟨g1,g2⟩,g3⟩,g4⟩,g5⟩,g6⟩:=h6
 refine⟨by omega,by omega,λb hb=>?_⟩
 have h7:=g6 b hb
 unfold pU at h7
 rw[afF,List.all_eq_true] at h7
 refine⟨?_,λx hx=>acQ (h7.2 x hx)⟩
 have e1:=wK (g:=λb:Blk=>b.code.length) hb
 have e2:=wK (g:=λf:Fun=>(f.blocks.map λb=>b.code.length).sum) hf
 unfold ko at h5
 omega
theorem KL{q:Prg}{i:Nat}(h:i<q.funcs.length):q.funcs.getD i bG∈q.funcs:=by rw[afE,afG h];exact List.getElem_mem h
theorem acR{f:Fun}{i:Nat}(h:i<f.blocks.length):f.blocks.getD i bq∈f.blocks:=by rw[afE,afG h];exact List.getElem_mem h
theorem NN.fn{q:Prg}(h:NN q){f:Fun}(hf:f∈q.funcs):R7 f:=by
 obtain⟨h1,h2,h3⟩:=h.f f hf
 exact⟨by omega,by omega,λb hb=>by have:=(h3 b hb).1;omega⟩
theorem NN.bk{q:Prg}(h:NN q){f:Fun}(hf:f∈q.funcs){b:Blk}(hb:b∈f.blocks):abp b:=by
 obtain⟨h1,h2⟩:=(h.f f hf).2.2 b hb
 exact⟨by omega,h2⟩
theorem NP:∀{L:List (BY×Int)} {acc o:List BY},iB acc L=.ok o->o.length=acc.length+L.length
 | [],acc,o,h=>by cases h;rfl
 | (s,a)::r,acc,o,h=>by
  rw[iB] at h
  split at h
  ·cases h
  ·have:=NP h
   simp only[List.length_append,List.length_cons,List.length_nil] at this ⊢
   omega
structure ArW (p:Pol) (q:Prg) (R:Flt (List BY×List Cel)) where
 i:Nat
 acc:List BY
 cs:List Cel
 hi:i≤q.arrays.length
 ha:acc.length=i
 hc:cs.length=i
 same:nW p (q.arrays.drop i) acc cs=R
theorem Vm{p:Pol}{q:Prg}{i:Nat}(h:i<q.arrays.length)(acc:List BY)(cs:List Cel):nW p (q.arrays.drop i) acc cs=if posB acc (q.arrays.getD i bR).name=true then .error ((q.arrays.getD i bR).at_,9) else bd (gJ (bE p.lev (q.arrays.getD i bR).level) (q.arrays.getD i bR).at_) λk=>nW p (q.arrays.drop (i+1)) (acc++[(q.arrays.getD i bR).name]) (cs++[((q.arrays.getD i bR).size,k)]):=by
 have e:q.arrays[i]=q.arrays.getD i bR:=by rw[afE,afG h];rfl
 rw[List.drop_eq_getElem_cons h,e,nW]
structure ScW (q:Prg) (R:Flt (List Scp)) where
 i:Nat
 acc:List Scp
 hi:i≤q.funcs.length
 ha:acc.length=i
 same:wH (q.funcs.drop i) acc=R
theorem Vn{q:Prg}{i:Nat}(h:i<q.funcs.length)(acc:List Scp):wH (q.funcs.drop i) acc=bd (KG (q.funcs.getD i bG)) λs=>wH (q.funcs.drop (i+1)) (acc++[s]):=by
 have e:q.funcs[i]=q.funcs.getD i bG:=by rw[afE,afG h];rfl
 rw[List.drop_eq_getElem_cons h,e,wH]
structure BoW (r:Res) (ss:List Scp) (R:Flt (List Bod)) where
 i:Nat
 acc:List Bod
 hi:i≤r.q.funcs.length
 ha:acc.length=i
 same:sJ r ss (r.q.funcs.drop i) i acc=R
theorem Vo{r:Res}{ss:List Scp}{i:Nat}(h:i<r.q.funcs.length)(acc:List Bod):sJ r ss (r.q.funcs.drop i) i acc=bd (Vb r (ss.getD i qC) (r.q.funcs.getD i bG)) λb=>sJ r ss (r.q.funcs.drop (i+1)) (i+1) (acc++[b]):=by
 have e:r.q.funcs[i]=r.q.funcs.getD i bG:=by rw[afE,afG h];rfl
 rw[List.drop_eq_getElem_cons h,e,sJ]
structure BlW (r:Res) (s:Scp) (f:Fun) (R:Flt (List (List Op9))) where
 j:Nat
 acc:List (List Op9)
 hj:j≤f.blocks.length
 ha:acc.length=j
 same:rJ r s (f.blocks.drop j) acc=R
theorem Qv{r:Res}{s:Scp}{f:Fun}{i:Nat}(h:i<f.blocks.length)(acc:List (List Op9)):rJ r s (f.blocks.drop i) acc=bd (yc r s (f.blocks.getD i bq)) λy=>rJ r s (f.blocks.drop (i+1)) (acc++[y]):=by
 have e:f.blocks[i]=f.blocks.getD i bq:=by rw[afE,afG h];rfl
 rw[List.drop_eq_getElem_cons h,e,rJ]
abbrev acS(l:List Cel):Ch:=.vec 66 2 l.length λi=>[.int .i64 (l.getD i bB).1,.int .i64 (l.getD i bB).2]
abbrev spC(l:List Scp):Ch:=.vec 133 2 l.length λi=>[.mp (l.getD i qC).blks,.mp (l.getD i qC).vals]
abbrev aas(l:List (List Op9)):Ch:=.vec 61 1 l.length λi=>[tY (l.getD i [])]
abbrev aat(l:List Bod):Ch:=.vec 60 3 l.length λi=>za (l.getD i aA)
abbrev Vp(l:List Scp):D:=.sl 2 l.length λi=>[.mp (l.getD i qC).blks,.mp (l.getD i qC).vals]
abbrev resR(R:Cod×Int×Int):V:=.tup [rM R.1,vi R.2.1,vi R.2.2]
theorem uG(p:Pol)(q:Prg)(hz:Ie p)(hq:NJ q):Pure PG 17 [qB p,H8 q] (resR (iG p q)) []:=by
 obtain⟨i1,i2,i3,i4⟩:=oO hz.toPolSz
 refine aD.Rz (cfg 182) av [] 2 [4,5,6] Tryz.func17 Z Z (by kernel_rfl) Z Z Z ?_
 intro C x
 refine x.pure Z tR Z (DJ p hz) ⟨⟨ah Z,ah Z,ah Z,ah Z,Z,tR⟩,tR⟩ ?_
 refine x.bK Z tR Z (λ_=>NM q hq) Z ⟨⟨ah Z,ah Z,tR⟩,tR⟩ ?_
 refine x.cond Z tR (λh=>?_) (λh=>?_)
 ·have h:(!dQ p||!rightG q)=true:=h
  rw[iG,if_neg (by revert h;cases dQ p<;>cases rightG q<;>simp)]
  refine x.lU ?_
  exact x.exit Z tR ⟨⟨[(4,.ptr 2 0),(5,.ptr 3 0),(6,.ptr 4 0)],[(2,.box [.d (dR []),.d (dL []),vi 0]),(3,.box [vi 0]),(4,.box [vi 1])],5⟩,⟨⟨⟨Z,Z⟩,⟨Z,Z⟩,⟨Z,Z⟩,tR⟩,⟨⟨Z,Z,Z,tR⟩,⟨Z,tR⟩,⟨Z,tR⟩,tR⟩,Z⟩,.inr Z,⟨Z,Z,Z,tR⟩,tR,Z⟩
 have h:(!dQ p||!rightG q)=false:=h
 have hR:(dQ p&&rightG q)=true:=by revert h;cases dQ p<;>cases rightG q<;>simp
 have hs:=Yt (afF _ _▸hR).2
 rw[iG,if_pos hR]
 refine x.back Z tR ?_
 refine x.back Z tR ?_
 refine⟨_,_,5,Z,Z,⟨_,Tryz.func50,Z,by kernel_rfl⟩,λC1 x1=>?_⟩
 clear x
 obtain⟨AR,hAR⟩:∃AR,nW p q.arrays [] []=AR:=⟨_,Z⟩
 have qD:Gx p q=bd AR λac=>bd (iB [] (q.funcs.map λf=>(f.name,f.at_))) λfn=>if Gw q fn=true then bd (wH q.funcs []) λss=>bd (sJ ⟨p,q,ac.1,fn⟩ ss q.funcs 0 []) λbs=>.ok ⟨ac.2,bs,dJ fn eH⟩ else .error (0,14):=by rw[←hAR];rfl
 obtain⟨CV,hCV⟩:∃CV,Gx p q=CV:=⟨_,Z⟩
 rw[hCV] at qD ⊢
 have hal:=hs.al
 have hfl:=hs.fl
 refine x1.toLoop Z tR ?_
 refine Go.ownB 2 0 66 2 (λi=>[.int .i64 (([]:List Cel).getD i bB).1,.int .i64 (([]:List Cel).getD i bB).2]) Z Z ?_
 refine x1.loop (α:=ArW p q AR) (λy=>⟨[(2,.ptr 0 0),(3,.ptr 1 0),(4,.ptr 2 0),(5,.ptr 3 0),(6,.ptr 4 0),(7,.ptr 6 0),(40,.d (bV q.arrays)),(41,vi (q.arrays.length:Int)),(42,vi (y.i:Int))],[(0,j3 p),(1,.box [.d (bV q.arrays),.d (dn q.funcs)]),(2,.box [.own 7,.aF,vi 0]),(3,.box [vi 0]),(4,.box [vi 0]),(5,.pos y.acc),(6,.box [vSs p.lev,vU p.up,iT p.ins,iT p.outs,vi p.depth,.d (bV q.arrays),.d (dn q.funcs),.own 5,.dead]),(7,acS y.cs)],8⟩) (λy=>q.arrays.length-y.i) ⟨0,[],[],Nat.zero_le _,Z,Z,hAR⟩ Z tR ⟨⟨⟨Z,Z⟩,⟨Z,Z⟩,⟨Z,Z⟩,⟨Z,Z⟩,⟨Z,Z⟩,⟨Z,Z⟩,au Z,Z,Z,tR⟩,⟨bL p,⟨ah Z,ah Z,tR⟩,⟨Z,tR,Z,tR⟩,⟨Z,tR⟩,⟨Z,tR⟩,tR,⟨ah Z,ah Z,ah Z,ah Z,Z,ah Z,ah Z,Z,Z,tR⟩,⟨Z,Z,Z,λ_ h=>absurd h (afN _)⟩,tR⟩,Z⟩ (λy=>?_)
 obtain⟨i,acc,cs,hi,ha,hc,same⟩:=y
 change Go C1 _ ⟨[(2,.ptr 0 0),(3,.ptr 1 0),(4,.ptr 2 0),(5,.ptr 3 0),(6,.ptr 4 0),(7,.ptr 6 0),(40,.d (bV q.arrays)),(41,vi (q.arrays.length:Int)),(42,vi (i:Int))],[(0,j3 p),(1,.box [.d (bV q.arrays),.d (dn q.funcs)]),(2,.box [.own 7,.aF,vi 0]),(3,.box [vi 0]),(4,.box [vi 0]),(5,.pos acc),(6,.box [vSs p.lev,vU p.up,iT p.ins,iT p.outs,vi p.depth,.d (bV q.arrays),.d (dn q.funcs),.own 5,.dead]),(7,acS cs)],8⟩ _
 refine x1.cond Z tR (λh1=>?_) (λh1=>?_)
 ·have h1:i<q.arrays.length:=by have:=afH h1;omega
  rw[Vm h1] at same
  refine x1.quiet Z (by simp only[ak];omega) ay (by kernel_rfl) ?_
  refine x1.bS Z tR ?_
  cases hp:posB acc (q.arrays.getD i bR).name with
  | true=>
   rw[hp,if_pos rfl] at same
   subst same
   rw[bd] at qD
   subst qD
   refine x1.D5 [4,5,6] [] Z tR Z (jf (q.arrays.getD i bR).at_ 9) ⟨(show aB (vb (!posB acc (q.arrays.getD i bR).name)) (vb false) by rw[hp];exact Z),Z,Z,tR⟩ Z tR ?_
   exact⟨.pan wI [(.i64,_),(.i64,_)],[.ptr 0 0,.ptr 1 0,.ptr 2 0],[2,3,4],_,_,_,Z,λ_=>rfl,λ_ _ _ _ h=>(((h.dim 2).dim 3).dim 4),sK (λi=>[.int .i64 (([]:List Cel).getD i bB).1,.int .i64 (([]:List Cel).getD i bB).2]) (λi=>za (([]:List Bod).getD i aA)) _ _,⟨⟨Z,Z⟩,⟨Z,Z⟩,⟨Z,Z⟩,tR⟩,Z,⟨⟨Z,Z,Z,tR⟩,⟨Z,tR⟩,⟨Z,tR⟩,tR⟩,.inr Z,⟨Z,Z,Z,tR⟩,tR,Z⟩
  | false=>
   rw[hp,if_neg (by simp)] at same
   refine x1.pure Z tR Z (kP (q.arrays.getD i bR).at_ 9) ⟨(show aB (vb (!posB acc (q.arrays.getD i bR).name)) (vb true) by rw[hp];exact Z),Z,Z,tR⟩ ?_
   refine x1.wX 9 [5] [0,1,2,3,4,5,6] (.fork 7 .leaf .no)
    ⟨[(2,.ptr 0 0),(3,.ptr 1 0),(4,.ptr 2 0),(5,.ptr 3 0),(6,.ptr 4 0),(7,.ptr 6 0),(40,.d (bV q.arrays)),(41,vi (q.arrays.length:Int)),(42,vi (i:Int)),(9,.ptr 8 0)],[(5,.pos (acc++[(q.arrays.getD i bR).name]))],9⟩ Z tR ay Z (by kernel_rfl) (iP.quiet (by kernel_rfl)) Z tR (λC2 x2=>?_) ?_
   ·exact⟨x2.back Z (by refine⟨hp,?_⟩;simp only[ak];omega) (Or.inl ⟨⟨⟨Z,Z⟩,⟨Z,Z⟩,⟨Z,Z⟩,⟨Z,Z⟩,⟨Z,Z⟩,⟨Z,Z⟩,au Z,Z,Z,⟨Z,Z⟩,tR⟩,⟨Z,tR⟩,Z⟩),tR⟩
   refine x1.pure Z tR Z (jM p.lev (q.arrays.getD i bR).level i1) ⟨⟨ah Z,Z,Z,Z,Z,tR⟩,Z,tR⟩ ?_
   refine x1.code Z tR ?_
   refine x1.perm [0,1,2,3,4,5,6,8,7] Z ?_
   by_cases hk:0≤bE p.lev (q.arrays.getD i bR).level
   rotate_left
   ·rw[gJ,if_neg hk,bd] at same
    subst same
    rw[bd] at qD
    subst qD
    refine x1.qK 8 [2,8] [0,2,3,4,5,6,7] (mkO [(1,[]),(8,[]),(9,[8]),(10,[9]),(11,[1,10]),(12,[11]),(13,[12])] 8 []) Z tR ay Z (by kernel_rfl) (iP.quiet (by kernel_rfl)) Z tR (λC2 x2=>?_)
    repeat' first
     | exact True.intro
     | refine And.intro ?_ ?_
     | refine x2.D5 [4,5,6] [] rfl tR rfl (xu _ (q.arrays.getD i bR).at_) ⟨rfl,(show aB (vb (decide (0≤bE p.lev (q.arrays.getD i bR).level))) (vb false) by rw[decide_eq_false hk];exact rfl),rfl,tR⟩ rfl tR ⟨⟨_,rfl⟩,rfl,?_⟩
     | exact⟨.pan wI [(.i64,_),(.i64,_)],[.ptr 0 0,.ptr 1 0,.ptr 2 0],[2,3,4],_,_,_,rfl,λ_=>rfl,λ_ _ _ _ h=>(((h.dim 2).dim 3).dim 4),sK (λi=>[.int .i64 (([]:List Cel).getD i bB).1,.int .i64 (([]:List Cel).getD i bB).2]) (λi=>za (([]:List Bod).getD i aA)) _ _,⟨⟨rfl,rfl⟩,⟨rfl,rfl⟩,⟨rfl,rfl⟩,tR⟩,rfl,⟨⟨rfl,rfl,rfl,tR⟩,⟨rfl,tR⟩,⟨rfl,tR⟩,tR⟩,.inr rfl,⟨rfl,rfl,rfl,tR⟩,tR,rfl⟩
     | refine x2.back rfl tR ?_
   ·rw[gJ,if_pos hk,bd] at same
    refine x1.wX 8 [2,8] [0,2,3,4,5,6,7] (mkO [(1,[]),(8,[]),(9,[8]),(10,[9]),(11,[1,10]),(12,[11]),(13,[12])] 8 [])
     ⟨[(2,.ptr 0 0),(3,.ptr 1 0),(4,.ptr 2 0),(5,.ptr 3 0),(6,.ptr 4 0),(7,.ptr 6 0),(40,.d (bV q.arrays)),(41,vi (q.arrays.length:Int)),(42,vi (i:Int))],[(2,.box [.own 8,.aF,vi 0]),(8,acS (cs++[((q.arrays.getD i bR).size,bE p.lev (q.arrays.getD i bR).level)]))],9⟩ Z tR ay Z (by kernel_rfl) (iP.quiet (by kernel_rfl)) Z tR (λC2 x2=>?_) ?_
    ·repeat' first
      | exact True.intro
      | refine And.intro ?_ ?_
      | refine x2.pure rfl tR rfl (Aj (bE p.lev (q.arrays.getD i bR).level) (q.arrays.getD i bR).at_) ⟨(show aB (vi (if 0 > bE p.lev (q.arrays.getD i bR).level then 0 else bE p.lev (q.arrays.getD i bR).level)) (vi (bE p.lev (q.arrays.getD i bR).level)) by rw[if_neg (by omega)];exact rfl),(show aB (vb (decide (0≤bE p.lev (q.arrays.getD i bR).level))) (vb true) by rw[decide_eq_true hk];exact rfl),rfl,tR⟩ (x2.back rfl tR ?_)
      | refine x2.back rfl tR ?_
      | refine x2.back rfl (by simp only[ak,big];omega) ?_
      | exact Or.inl ⟨⟨⟨rfl,rfl⟩,⟨rfl,rfl⟩,⟨rfl,rfl⟩,⟨rfl,rfl⟩,⟨rfl,rfl⟩,⟨rfl,rfl⟩,au rfl,rfl,rfl,tR⟩,⟨⟨rfl,tR,rfl,tR⟩,⟨rfl,rfl,by simp,λj hj=>gX (λc:Cel=>[D.int .i64 c.1,D.int .i64 c.2]) 2 (λ_=>rfl) bB cs ((q.arrays.getD i bR).size,bE p.lev (q.arrays.getD i bR).level) j hj⟩,tR⟩,rfl⟩
    refine x1.perm [0,1,2,3,4,5,6,8,7] Z ?_
    exact x1.back Z (by simp only[ak,aj];omega) ⟨⟨i+1,acc++[(q.arrays.getD i bR).name],cs++[((q.arrays.getD i bR).size,bE p.lev (q.arrays.getD i bR).level)],by omega,by simp [ha],by simp [hc],same⟩,by show q.arrays.length-(i+1)<q.arrays.length-i;omega,⟨⟨Z,Z⟩,⟨Z,Z⟩,⟨Z,Z⟩,⟨Z,Z⟩,⟨Z,Z⟩,⟨Z,Z⟩,au Z,Z,(show aB (vi ((i:Int)+1)) (vi ((i+1:Nat):Int)) by rw[afQ];rfl),tR⟩,⟨bL p,⟨ah Z,ah Z,tR⟩,⟨Z,tR,Z,tR⟩,⟨Z,tR⟩,⟨Z,tR⟩,Z,⟨ah Z,ah Z,ah Z,ah Z,Z,ah Z,ah Z,Z,Z,tR⟩,⟨Z,Z,Z,λ_ _=>rfl⟩,tR⟩,Z⟩
 have h1:i=q.arrays.length:=by have:=afI h1;omega
 rw[List.drop_of_length_le (by omega),nW] at same
 subst same
 rw[bd] at qD
 refine Sx.Go.freeze 5 ?_
 refine Sx.Go.freeze 7 ?_
 have hnf:=Vf q.funcs (by omega)
 obtain⟨FN,hFN⟩:∃FN,iB [] (q.funcs.map λf=>(f.name,f.at_))=FN:=⟨_,Z⟩
 rw[hFN] at hnf qD
 rcases FN with⟨a,e⟩ | fn
 ·rw[bd] at qD
  subst qD
  refine x1.D5 [4,5,6] [] Z tR Z hnf ⟨au Z,Z,Z,tR⟩ Z tR ?_
  exact⟨.pan wI [(.i64,_),(.i64,_)],[.ptr 0 0,.ptr 1 0,.ptr 2 0],[2,3,4],_,_,_,Z,λ_=>rfl,λ_ _ _ _ h=>(((h.dim 2).dim 3).dim 4),sK (λi=>[.int .i64 (([]:List Cel).getD i bB).1,.int .i64 (([]:List Cel).getD i bB).2]) (λi=>za (([]:List Bod).getD i aA)) _ _,⟨⟨Z,Z⟩,⟨Z,Z⟩,⟨Z,Z⟩,tR⟩,Z,⟨⟨Z,Z,Z,tR⟩,⟨Z,tR⟩,⟨Z,tR⟩,tR⟩,.inr Z,⟨Z,Z,Z,tR⟩,tR,Z⟩
 rw[bd] at qD
 have hfn:fn.length=q.funcs.length:=by have:=NP hFN;simpa using this
 refine x1.call [] Z tR Z hnf Z ⟨au Z,Z,Z,tR⟩ tR ?_
 have hmi:posB fn eH=true->0≤dJ fn eH∧dJ fn eH<(q.funcs.length:Int):=λh=>by have:=uF h;omega
 have hmv:(posB fn eH&&decide (((q.funcs.getD (dJ fn eH).toNat bG).params.length:Int)=0))=Gw q fn:=rfl
 cases hm:Gw q fn with
 | false=>
  rw[hm,if_neg (by simp)] at qD
  subst qD
  refine x1.D5 [4,5,6] [] Z (by simp only[ak];exact hmi) Z (jf 0 14) ⟨(show aB (vb (posB fn eH&&decide (((q.funcs.getD (dJ fn eH).toNat bG).params.length:Int)=0))) (vb false) by rw[hmv,hm];exact Z),Z,Z,tR⟩ Z tR ?_
  exact⟨.pan wI [(.i64,_),(.i64,_)],[.ptr 0 0,.ptr 1 0,.ptr 2 0],[2,3,4],_,_,_,Z,λ_=>rfl,λ_ _ _ _ h=>(((h.dim 2).dim 3).dim 4),sK (λi=>[.int .i64 (([]:List Cel).getD i bB).1,.int .i64 (([]:List Cel).getD i bB).2]) (λi=>za (([]:List Bod).getD i aA)) _ _,⟨⟨Z,Z⟩,⟨Z,Z⟩,⟨Z,Z⟩,tR⟩,Z,⟨⟨Z,Z,Z,tR⟩,⟨Z,tR⟩,⟨Z,tR⟩,tR⟩,.inr Z,⟨Z,Z,Z,tR⟩,tR,Z⟩
 | true=>
  rw[hm,if_pos rfl] at qD
  refine x1.pure Z (by simp only[ak];exact hmi) Z (kP 0 14) ⟨(show aB (vb (posB fn eH&&decide (((q.funcs.getD (dJ fn eH).toNat bG).params.length:Int)=0))) (vb true) by rw[hmv,hm];exact Z),Z,Z,tR⟩ ?_
  refine x1.toLoop Z (by simp only[ak,big,afT];omega) ?_
  refine Sx.Go.freeze 8 ?_
  obtain⟨SR,hSR⟩:∃SR,wH q.funcs []=SR:=⟨_,Z⟩
  rw[hSR] at qD
  refine x1.loop (α:=ScW q SR) (λy=>⟨[(2,.ptr 0 0),(3,.ptr 1 0),(4,.ptr 2 0),(5,.ptr 3 0),(6,.ptr 4 0),(7,.ptr 6 0),(16,.own 9),(123,.d (dn q.funcs)),(124,vi (q.funcs.length:Int)),(125,vi (y.i:Int))],[(0,j3 p),(1,.box [.d (bV q.arrays),.d (dn q.funcs)]),(2,.box [.d (dR cs),.aF,vi (dJ fn eH)]),(3,.box [vi 0]),(4,.box [vi 0]),(6,kX ⟨p,q,acc,fn⟩),(9,spC y.acc)],10⟩) (λy=>q.funcs.length-y.i) ⟨0,[],Nat.zero_le _,rfl,hSR⟩ rfl tR ⟨⟨⟨rfl,rfl⟩,⟨rfl,rfl⟩,⟨rfl,rfl⟩,⟨rfl,rfl⟩,⟨rfl,rfl⟩,⟨rfl,rfl⟩,rfl,au rfl,rfl,rfl,tR⟩,⟨bL p,⟨ah rfl,ah rfl,tR⟩,⟨ah rfl,tR,rfl,tR⟩,⟨rfl,tR⟩,⟨rfl,tR⟩,aW ⟨p,q,acc,fn⟩,⟨rfl,rfl,rfl,λ_ h=>absurd h (afN _)⟩,tR⟩,rfl⟩ (λy=>?_)
  obtain⟨i2,nU,hi2,hsa,same⟩:=y
  change Go C1 _ ⟨[(2,.ptr 0 0),(3,.ptr 1 0),(4,.ptr 2 0),(5,.ptr 3 0),(6,.ptr 4 0),(7,.ptr 6 0),(16,.own 9),(123,.d (dn q.funcs)),(124,vi (q.funcs.length:Int)),(125,vi (i2:Int))],[(0,j3 p),(1,.box [.d (bV q.arrays),.d (dn q.funcs)]),(2,.box [.d (dR cs),.aF,vi (dJ fn eH)]),(3,.box [vi 0]),(4,.box [vi 0]),(6,kX ⟨p,q,acc,fn⟩),(9,spC nU)],10⟩ _
  have hfn0:fn.length=q.funcs.length:=hfn
  refine x1.cond Z tR (λh3=>?_) (λh3=>?_)
  ·have h3:i2<q.funcs.length:=by have:=afH h3;omega
   rw[Vn h3] at same
   have hsc:=Qt ⟨p,q,acc,fn⟩ (q.funcs.getD i2 bG) (hs.fn (KL h3))
   obtain⟨V,hV⟩:∃V,KG (q.funcs.getD i2 bG)=V:=⟨_,Z⟩
   rw[hV] at hsc same
   rcases V with⟨a,e⟩ | sc
   ·rw[bd] at same
    subst same
    rw[bd] at qD
    subst qD
    refine x1.D5 [4,5,6] [6] Z (by simp only[ak];omega) Z hsc ⟨⟨Z,Z⟩,⟨Z,ah Z,ah Z,Z,tR⟩,tR⟩ Z ⟨aW ⟨p,q,acc,fn⟩,tR⟩ ?_
    exact⟨.pan wI [(.i64,_),(.i64,_)],[.ptr 0 0,.ptr 1 0,.ptr 2 0],[2,3,4],_,_,_,Z,λ_=>rfl,λ_ _ _ _ h=>(((h.dim 2).dim 3).dim 4),sK (λi=>[.int .i64 (([]:List Cel).getD i bB).1,.int .i64 (([]:List Cel).getD i bB).2]) (λi=>za (([]:List Bod).getD i aA)) _ _,⟨⟨Z,Z⟩,⟨Z,Z⟩,⟨Z,Z⟩,tR⟩,Z,⟨⟨Z,Z,Z,tR⟩,⟨Z,tR⟩,⟨Z,tR⟩,tR⟩,.inr Z,⟨Z,Z,Z,tR⟩,tR,Z⟩
   ·rw[bd] at same
    refine x1.call [6] Z (by simp only[ak];omega) Z hsc Z ⟨⟨Z,Z⟩,⟨Z,ah Z,ah Z,Z,tR⟩,tR⟩ ⟨aW ⟨p,q,acc,fn⟩,tR⟩ ?_
    exact x1.back rfl (by simp only[ak,aj,big];omega) ⟨⟨i2+1,nU++[sc],by omega,by simp [hsa],same⟩,by show q.funcs.length-(i2+1)<q.funcs.length-i2;omega,⟨⟨rfl,rfl⟩,⟨rfl,rfl⟩,⟨rfl,rfl⟩,⟨rfl,rfl⟩,⟨rfl,rfl⟩,⟨rfl,rfl⟩,rfl,au rfl,rfl,(show aB (vi ((i2:Int)+1)) (vi ((i2+1:Nat):Int)) by rw[afQ];rfl),tR⟩,⟨bL p,⟨ah rfl,ah rfl,tR⟩,⟨ah rfl,tR,rfl,tR⟩,⟨rfl,tR⟩,⟨rfl,tR⟩,aW ⟨p,q,acc,fn⟩,⟨rfl,rfl,by simp,λj hj=>gX (λs:Scp=>[D.mp s.blks,D.mp s.vals]) 2 (λ_=>rfl) qC nU sc j hj⟩,tR⟩,rfl⟩
  have h3:i2=q.funcs.length:=by have:=afI h3;omega
  rw[List.drop_of_length_le (by omega),wH] at same
  subst same
  rw[bd] at qD
  obtain⟨ss,hss⟩:∃ss,nU=ss:=⟨_,Z⟩
  have hsl:nU.length=q.funcs.length:=by omega
  refine Sx.Go.freeze 9 ?_
  refine x1.toLoop Z tR ?_
  refine Go.ownB 2 1 60 3 (λi=>za (([]:List Bod).getD i aA)) Z Z ?_
  obtain⟨BR,hBR⟩:∃BR,sJ ⟨p,q,acc,fn⟩ nU q.funcs 0 []=BR:=⟨_,Z⟩
  rw[hBR] at qD
  refine x1.loop (α:=BoW ⟨p,q,acc,fn⟩ nU BR) (λy=>⟨[(2,.ptr 0 0),(3,.ptr 1 0),(4,.ptr 2 0),(5,.ptr 3 0),(6,.ptr 4 0),(7,.ptr 6 0),(16,.d (Vp nU)),(137,.d (dn q.funcs)),(138,vi (q.funcs.length:Int)),(139,vi (y.i:Int))],[(0,j3 p),(1,.box [.d (bV q.arrays),.d (dn q.funcs)]),(2,.box [.d (dR cs),.own 10,vi (dJ fn eH)]),(3,.box [vi 0]),(4,.box [vi 0]),(6,kX ⟨p,q,acc,fn⟩),(10,aat y.acc)],11⟩) (λy=>q.funcs.length-y.i) ⟨0,[],Nat.zero_le _,rfl,hBR⟩ rfl tR ⟨⟨⟨rfl,rfl⟩,⟨rfl,rfl⟩,⟨rfl,rfl⟩,⟨rfl,rfl⟩,⟨rfl,rfl⟩,⟨rfl,rfl⟩,au rfl,au rfl,rfl,rfl,tR⟩,⟨bL p,⟨ah rfl,ah rfl,tR⟩,⟨ah rfl,rfl,rfl,tR⟩,⟨rfl,tR⟩,⟨rfl,tR⟩,aW ⟨p,q,acc,fn⟩,⟨rfl,rfl,rfl,λ_ h=>absurd h (afN _)⟩,tR⟩,rfl⟩ (λy=>?_)
  obtain⟨i3,NQ,hi3,hba,same⟩:=y
  have hi3:i3≤q.funcs.length:=hi3
  change Go C1 _ ⟨[(2,.ptr 0 0),(3,.ptr 1 0),(4,.ptr 2 0),(5,.ptr 3 0),(6,.ptr 4 0),(7,.ptr 6 0),(16,.d (Vp nU)),(137,.d (dn q.funcs)),(138,vi (q.funcs.length:Int)),(139,vi (i3:Int))],[(0,j3 p),(1,.box [.d (bV q.arrays),.d (dn q.funcs)]),(2,.box [.d (dR cs),.own 10,vi (dJ fn eH)]),(3,.box [vi 0]),(4,.box [vi 0]),(6,kX ⟨p,q,acc,fn⟩),(10,aat NQ)],11⟩ _
  refine x1.cond Z tR (λh4=>?_) (λh4=>?_)
  rotate_left
  ·have h4:i3=q.funcs.length:=by have:=afI h4;omega
   rw[List.drop_of_length_le (by show q.funcs.length≤i3;omega),sJ] at same
   subst same
   rw[bd] at qD
   subst qD
   refine Sx.Go.freeze 10 ?_
   refine x1.exit Z tR ?_
   exact⟨.back,[.ptr 0 0,.ptr 1 0,.ptr 2 0],[2,3,4],_,_,_,.inr rfl,λh=>(by obtain⟨_,h⟩:=h;cases h),λ_ _ _ _ h=>h,Vl 2 cs.length 3 NQ.length (λi=>[.int .i64 (cs.getD i bB).1,.int .i64 (cs.getD i bB).2]) (λi=>za (NQ.getD i aA)) (dJ fn eH) 0 0,⟨⟨rfl,rfl⟩,⟨rfl,rfl⟩,⟨rfl,rfl⟩,tR⟩,rfl,⟨⟨ah rfl,ah rfl,rfl,tR⟩,⟨rfl,tR⟩,⟨rfl,tR⟩,tR⟩,.inr rfl,⟨rfl,rfl,rfl,tR⟩,tR,rfl⟩
  have h4:i3<q.funcs.length:=by have:=afH h4;omega
  rw[Vo (r:=⟨p,q,acc,fn⟩) h4] at same
  have hfs:=hs.fn (KL h4)
  obtain⟨q1,q2,q3⟩:=hs.f _ (KL h4)
  refine x1.wX 12 [] [0,1,2,3,4,5,6,7,8,9] (.fork 10 (.fork 11 .leaf .no) .no)
   ⟨[(2,.ptr 0 0),(3,.ptr 1 0),(4,.ptr 2 0),(5,.ptr 3 0),(6,.ptr 4 0),(7,.ptr 6 0),(16,.d (Vp nU)),(137,.d (dn q.funcs)),(138,vi (q.funcs.length:Int)),(139,vi (i3:Int)),(19,vi (i3:Int)),(20,.ptr 11 0),(21,.ptr 12 0)],[(12,.box [vi ((q.funcs.getD i3 bG).params.length:Int),vi ((nU.getD i3 qC).vals.length:Int),.aF])],13⟩ Z (by simp only[ak];omega) ay Z (by kernel_rfl) (iP.quiet (by kernel_rfl)) Z (by simp only[ak];omega) (λC2 x2=>?_) ?_
  ·exact⟨x2.back Z tR ⟨x2.back Z tR (Or.inl ⟨⟨⟨Z,Z⟩,⟨Z,Z⟩,⟨Z,Z⟩,⟨Z,Z⟩,⟨Z,Z⟩,⟨Z,Z⟩,au Z,au Z,Z,Z,Z,⟨Z,Z⟩,⟨Z,Z⟩,tR⟩,⟨⟨Z,Z,tR,tR⟩,tR⟩,Z⟩),tR⟩,tR⟩
  refine x1.toLoop Z tR ?_
  refine Go.ownB 12 2 61 1 (λi=>[tY (([]:List (List Op9)).getD i [])]) Z Z ?_
  obtain⟨LR,hLR⟩:∃LR,rJ ⟨p,q,acc,fn⟩ (nU.getD i3 qC) (q.funcs.getD i3 bG).blocks []=LR:=⟨_,Z⟩
  have same:bd (bd LR λbs=>.ok ⟨((q.funcs.getD i3 bG).params.length:Int),((nU.getD i3 qC).vals.length:Int),bs⟩) (λb=>sJ ⟨p,q,acc,fn⟩ nU (q.funcs.drop (i3+1)) (i3+1) (NQ++[b]))=BR:=by rw[←hLR];exact same
  refine x1.loop (α:=BlW ⟨p,q,acc,fn⟩ (nU.getD i3 qC) (q.funcs.getD i3 bG) LR) (λz=>⟨[(2,.ptr 0 0),(3,.ptr 1 0),(4,.ptr 2 0),(5,.ptr 3 0),(6,.ptr 4 0),(7,.ptr 6 0),(16,.d (Vp nU)),(19,vi (i3:Int)),(21,.ptr 12 0),(137,.d (dn q.funcs)),(138,vi (q.funcs.length:Int)),(139,vi (i3:Int)),(155,.d (gQ (q.funcs.getD i3 bG).blocks)),(156,vi ((q.funcs.getD i3 bG).blocks.length:Int)),(157,vi (z.j:Int))],[(0,j3 p),(1,.box [.d (bV q.arrays),.d (dn q.funcs)]),(2,.box [.d (dR cs),.own 10,vi (dJ fn eH)]),(3,.box [vi 0]),(4,.box [vi 0]),(6,kX ⟨p,q,acc,fn⟩),(10,aat NQ),(12,.box [vi ((q.funcs.getD i3 bG).params.length:Int),vi ((nU.getD i3 qC).vals.length:Int),.own 13]),(13,aas z.acc)],14⟩) (λz=>(q.funcs.getD i3 bG).blocks.length-z.j) ⟨0,[],Nat.zero_le _,rfl,hLR⟩ rfl tR ⟨⟨⟨rfl,rfl⟩,⟨rfl,rfl⟩,⟨rfl,rfl⟩,⟨rfl,rfl⟩,⟨rfl,rfl⟩,⟨rfl,rfl⟩,au rfl,rfl,⟨rfl,rfl⟩,au rfl,rfl,rfl,au rfl,rfl,rfl,tR⟩,⟨bL p,⟨ah rfl,ah rfl,tR⟩,⟨ah rfl,rfl,rfl,tR⟩,⟨rfl,tR⟩,⟨rfl,tR⟩,aW ⟨p,q,acc,fn⟩,⟨rfl,rfl,rfl,λ_ _=>rfl⟩,⟨rfl,rfl,rfl,tR⟩,⟨rfl,rfl,rfl,λ_ h=>absurd h (afN _)⟩,tR⟩,rfl⟩ (λz=>?_)
  obtain⟨j,Vq,hj,hla,DL⟩:=z
  change Go C1 _ ⟨[(2,.ptr 0 0),(3,.ptr 1 0),(4,.ptr 2 0),(5,.ptr 3 0),(6,.ptr 4 0),(7,.ptr 6 0),(16,.d (Vp nU)),(19,vi (i3:Int)),(21,.ptr 12 0),(137,.d (dn q.funcs)),(138,vi (q.funcs.length:Int)),(139,vi (i3:Int)),(155,.d (gQ (q.funcs.getD i3 bG).blocks)),(156,vi ((q.funcs.getD i3 bG).blocks.length:Int)),(157,vi (j:Int))],[(0,j3 p),(1,.box [.d (bV q.arrays),.d (dn q.funcs)]),(2,.box [.d (dR cs),.own 10,vi (dJ fn eH)]),(3,.box [vi 0]),(4,.box [vi 0]),(6,kX ⟨p,q,acc,fn⟩),(10,aat NQ),(12,.box [vi ((q.funcs.getD i3 bG).params.length:Int),vi ((nU.getD i3 qC).vals.length:Int),.own 13]),(13,aas Vq)],14⟩ _
  refine x1.cond Z tR (λh5=>?_) (λh5=>?_)
  rotate_left
  ·have h5:j=(q.funcs.getD i3 bG).blocks.length:=by have:=afI h5;omega
   rw[List.drop_of_length_le (by omega),rJ] at DL
   subst DL
   rw[bd,bd] at same
   refine Sx.Go.freeze 13 ?_
   exact x1.back rfl (by simp only[ak,aj,big];omega) ⟨⟨i3+1,NQ++[(⟨((q.funcs.getD i3 bG).params.length:Int),((nU.getD i3 qC).vals.length:Int),Vq⟩:Bod)],by show i3+1≤q.funcs.length;omega,by simp [hba],same⟩,by show q.funcs.length-(i3+1)<q.funcs.length-i3;omega,⟨⟨rfl,rfl⟩,⟨rfl,rfl⟩,⟨rfl,rfl⟩,⟨rfl,rfl⟩,⟨rfl,rfl⟩,⟨rfl,rfl⟩,au rfl,au rfl,rfl,(show aB (vi ((i3:Int)+1)) (vi ((i3+1:Nat):Int)) by rw[afQ];rfl),tR⟩,⟨bL p,⟨ah rfl,ah rfl,tR⟩,⟨ah rfl,rfl,rfl,tR⟩,⟨rfl,tR⟩,⟨rfl,tR⟩,aW ⟨p,q,acc,fn⟩,⟨rfl,rfl,by simp,λj hj=>gX za 3 (λ_=>rfl) aA NQ (⟨((q.funcs.getD i3 bG).params.length:Int),((nU.getD i3 qC).vals.length:Int),Vq⟩:Bod) j hj⟩,tR⟩,rfl⟩
  have h5:j<(q.funcs.getD i3 bG).blocks.length:=by have:=afH h5;omega
  rw[Qv h5] at DL
  have hbl:=NG ⟨p,q,acc,fn⟩ (nU.getD i3 qC) ((q.funcs.getD i3 bG).blocks.getD j bq) hz.toPolSz (hs.bk (KL h4) (acR h5)) hfn0
  obtain⟨V,hV⟩:∃V,yc ⟨p,q,acc,fn⟩ (nU.getD i3 qC) ((q.funcs.getD i3 bG).blocks.getD j bq)=V:=⟨_,Z⟩
  rw[hV] at hbl DL
  refine x1.code Z (by simp only[ak];omega) ?_
  refine x1.perm [0,1,2,3,4,5,6,7,8,9,10,11,12,14,13] Z ?_
  rcases V with⟨a,e⟩ | y
  ·rw[bd] at DL
   subst DL
   rw[bd,bd] at same
   subst same
   rw[bd] at qD
   subst qD
   refine x1.qK 14 [6,12,14] [0,2,3,4,5,6,7] (mkO [(1,[]),(8,[]),(9,[8]),(10,[1,9]),(11,[10]),(12,[11])] 7 []) Z tR ay Z (by kernel_rfl) (iP.quiet (by kernel_rfl)) Z (by simp only[ak];omega) (λC2 x2=>?_)
   repeat' first
    | exact True.intro
    | refine And.intro ?_ ?_
    | refine x2.D5 [4,5,6] [6] rfl tR rfl hbl ⟨⟨rfl,rfl⟩,⟨rfl,rfl,tR⟩,⟨rfl,ah rfl,rfl,tR⟩,tR⟩ rfl ⟨aW ⟨p,q,acc,fn⟩,tR⟩ ⟨⟨_,rfl⟩,rfl,?_⟩
    | exact⟨.pan wI [(.i64,_),(.i64,_)],[.ptr 0 0,.ptr 1 0,.ptr 2 0],[2,3,4],_,_,_,rfl,λ_=>rfl,λ_ _ _ _ h=>(((h.dim 2).dim 3).dim 4),sK (λi=>[.int .i64 (([]:List Cel).getD i bB).1,.int .i64 (([]:List Cel).getD i bB).2]) (λi=>za (([]:List Bod).getD i aA)) _ _,⟨⟨rfl,rfl⟩,⟨rfl,rfl⟩,⟨rfl,rfl⟩,tR⟩,rfl,⟨⟨rfl,rfl,rfl,tR⟩,⟨rfl,tR⟩,⟨rfl,tR⟩,tR⟩,.inr rfl,⟨rfl,rfl,rfl,tR⟩,tR,rfl⟩
    | refine x2.back rfl tR ?_
  ·rw[bd] at DL
   refine x1.wX 14 [6,12,14] [0,2,3,4,5,6,7] (mkO [(1,[]),(8,[]),(9,[8]),(10,[1,9]),(11,[10]),(12,[11])] 7 [])
    ⟨[(2,.ptr 0 0),(3,.ptr 1 0),(4,.ptr 2 0),(5,.ptr 3 0),(6,.ptr 4 0),(7,.ptr 6 0),(16,.d (Vp nU)),(19,vi (i3:Int)),(21,.ptr 12 0),(137,.d (dn q.funcs)),(138,vi (q.funcs.length:Int)),(139,vi (i3:Int)),(155,.d (gQ (q.funcs.getD i3 bG).blocks)),(156,vi ((q.funcs.getD i3 bG).blocks.length:Int)),(157,vi (j:Int))],[(6,kX ⟨p,q,acc,fn⟩),(12,.box [vi ((q.funcs.getD i3 bG).params.length:Int),vi ((nU.getD i3 qC).vals.length:Int),.own 14]),(14,aas (Vq++[y]))],15⟩ Z tR ay Z (by kernel_rfl) (iP.quiet (by kernel_rfl)) Z (by simp only[ak];omega) (λC2 x2=>?_) ?_
   ·repeat' first
     | exact True.intro
     | refine And.intro ?_ ?_
     | refine x2.call [6] rfl tR rfl hbl rfl ⟨⟨rfl,rfl⟩,⟨rfl,rfl,tR⟩,⟨rfl,ah rfl,rfl,tR⟩,tR⟩ ⟨aW ⟨p,q,acc,fn⟩,tR⟩ (x2.back rfl tR ?_)
     | refine x2.back rfl tR ?_
     | refine x2.back rfl (by simp only[ak,big];omega) ?_
     | exact Or.inl ⟨⟨⟨rfl,rfl⟩,⟨rfl,rfl⟩,⟨rfl,rfl⟩,⟨rfl,rfl⟩,⟨rfl,rfl⟩,⟨rfl,rfl⟩,au rfl,rfl,⟨rfl,rfl⟩,au rfl,rfl,rfl,au rfl,rfl,rfl,tR⟩,⟨aW ⟨p,q,acc,fn⟩,⟨rfl,rfl,rfl,tR⟩,⟨rfl,rfl,by simp,λk hk=>gX (λl:List Op9=>[tY l]) 1 (λ_=>rfl) [] Vq y k hk⟩,tR⟩,rfl⟩
   refine x1.perm [0,1,2,3,4,5,6,7,8,9,10,11,12,14,13] Z ?_
   exact x1.back rfl (by simp only[ak,aj];omega) ⟨⟨j+1,Vq++[y],by omega,by simp [hla],DL⟩,by show (q.funcs.getD i3 bG).blocks.length-(j+1)<(q.funcs.getD i3 bG).blocks.length-j;omega,⟨⟨rfl,rfl⟩,⟨rfl,rfl⟩,⟨rfl,rfl⟩,⟨rfl,rfl⟩,⟨rfl,rfl⟩,⟨rfl,rfl⟩,au rfl,rfl,⟨rfl,rfl⟩,au rfl,rfl,rfl,au rfl,rfl,(show aB (vi ((j:Int)+1)) (vi ((j+1:Nat):Int)) by rw[afQ];rfl),tR⟩,⟨bL p,⟨ah rfl,ah rfl,tR⟩,⟨ah rfl,rfl,rfl,tR⟩,⟨rfl,tR⟩,⟨rfl,tR⟩,aW ⟨p,q,acc,fn⟩,⟨rfl,rfl,rfl,λ_ _=>rfl⟩,⟨rfl,rfl,rfl,tR⟩,⟨rfl,rfl,rfl,λ_ _=>rfl⟩,tR⟩,rfl⟩
def nmN(c:UInt8)(n:Int):BY:=(⟨#[c]⟩:BY)++gM n
theorem Yu{c:UInt8}{n:Int}(h:aj n):(nmN c n).size≤21:=by
 unfold nmN
 have:=xg h
 rw[bJ]
 show 1+_≤_;omega
theorem kS(c:UInt8)(n:Int)(h:aj n):Pure PG 73 [vs ⟨#[c]⟩,vi n] (vs (nmN c n)) []:=by
 have hs:=xg h
 refine aD.mk (cfg 9) av [] Tryz.func73 Z (by kernel_rfl) Z Z Z ?_
 intro C x
 refine x.pure Z tR Z (Vj n h) ⟨Z,tR⟩ ?_
 refine x.exit Z ?_ ⟨.inr Z,Z,tR,Z⟩
 simp only[ak]
 show (((1+(gM n).size:Nat)):Int)≤9223372036854775807
 omega
def KM(n most:Int):Int:=if (if 0 > most-1 then 0 else most-1)<(if 0 > n then 0 else n) then (if 0 > most-1 then 0 else most-1) else (if 0 > n then 0 else n)
theorem Vr{n most:Int}(h:0≤n)(h2:n<most):KM n most=n:=by
 unfold KM
 rw[if_neg (show ¬0 > most-1 by omega),if_neg (show ¬0 > n by omega),if_neg (by omega)]
def lK(n:Int)(most:Nat):Bool:=decide (0≤n)&&decide (n<(most:Int))
theorem Vs(n:Int)(most:Nat)(hm:aj (most:Int)):aD PG 122 1 [vi n,vi (most:Int),.ptr 0 0] [.box [vb true]] (vi (KM n most)) [.box [vb (lK n most)]]:=by
 refine aD.mk (dM 22 1) av [0] Tryz.func122 Z (by kernel_rfl) Z Z Z ?_
 intro C x
 unfold aj at hm
 refine x.exit Z (by simp only[ak,aj];omega) ⟨.inr Z,Z,⟨⟨?_,tR⟩,tR⟩,Z⟩
 show aB (vb ((true&&decide (0≤n))&&decide (n<(most:Int)))) (vb (lK n most))
 rw[Bool.true_and];exact Z
theorem GH(l:List Chan)(hl:l.length≤1000000000):Pure PG 124 [iT l] (vSs (l.map (·.1))) []:=by
 refine aD.mk (cfg 18) av [] Tryz.func124 Z (by kernel_rfl) Z Z Z ?_
 intro C x
 refine x.toLoop Z tR ?_
 refine Go.own 2 9 1 (λi=>[.str (([]:List BY).getD i .empty)]) Z ?_
 refine x.loop (α:={i:Nat // i≤l.length}) (λy=>⟨[(2,.own 0),(5,iT l),(6,vi (l.length:Int)),(7,vi (y.1:Int))],[(0,iw ((l.take y.1).map (·.1)))],1⟩) (λy=>l.length-y.1) ⟨0,by omega⟩ Z tR ⟨⟨Z,au Z,Z,Z,tR⟩,⟨⟨Z,Z,Z,λ_ h=>absurd h (afN _)⟩,tR⟩,Z⟩ (λy=>?_)
 obtain⟨i,hi⟩:=y
 change Go C _ ⟨[(2,.own 0),(5,iT l),(6,vi (l.length:Int)),(7,vi (i:Int))],[(0,iw ((l.take i).map (·.1)))],1⟩ _
 refine x.cond Z tR (λh1=>?_) (λh1=>?_)
 ·have h1:i<l.length:=by have:=afH h1;omega
  have htl:((l.take i).map (·.1)).length=i:=by rw[List.length_map,List.length_take];omega
  have e:l[i]?=some (l.getD i aL):=by rw[afE,afG h1];rfl
  have et:(l.take (i+1)).map (·.1)=(l.take i).map (·.1)++[(l.getD i aL).1]:=by rw[take_succ e,List.map_append];rfl
  refine x.back Z (by simp only[ak,aj,big,htl];omega) ⟨⟨i+1,by omega⟩,by show l.length-(i+1)<l.length-i;omega,⟨Z,au Z,Z,(show aB (vi ((i:Int)+1)) (vi ((i+1:Nat):Int)) by rw[afQ];rfl),tR⟩,⟨⟨Z,Z,by rw[et];simp,λj hj=>?_⟩,tR⟩,Z⟩
  rw[et]
  exact jr _ _ j hj
 ·have h1:i=l.length:=by have:=afI h1;omega
  subst h1
  rw[List.take_length]
  refine Sx.Go.freeze 0 ?_
  exact x.exit Z tR ⟨.inr Z,au Z,tR,Z⟩
def iE(p:Pol)(main:Int)(x:Op9):BY×Bool:=
 if x.kind=4∨x.kind=5∨x.kind=6 then (nmN 97 x.ref,true)
 else if x.kind=7 then (if x.ref=main then eH else nmN 102 x.ref,true)
 else if x.kind=8 then (if lK x.ref p.ins.length=true then (p.ins.getD x.ref.toNat aL).1 else .empty,lK x.ref p.ins.length)
 else if x.kind=9 then (if lK x.ref p.outs.length=true then (p.outs.getD x.ref.toNat aL).1 else .empty,lK x.ref p.outs.length)
 else if x.kind=10 then (if lK x.ref p.lev.length=true then p.lev.getD x.ref.toNat .empty else .empty,lK x.ref p.lev.length)
 else if x.kind=11∨x.kind=12 then (nmN 98 x.ref,true)
 else (.empty,true)
def aN(p:Pol)(main:Int)(x:Op9):Ins:=⟨x.kind,x.op,if 0≤x.dst then nmN 118 x.dst else .empty,(iE p main x).1,if x.kind=12 then nmN 98 x.alt else .empty,x.args.map (nmN 118),x.frm.map (nmN 98),x.num,x.at_⟩
structure Yv(x:Op9):Prop where
 a:x.args.length*16≤140737488355328
 f:x.frm.length*16≤140737488355328
 ai:∀n∈x.args,aj n
 fi:∀n∈x.frm,aj n
 dst:aj x.dst
 ref:aj x.ref
 alt:aj x.alt
abbrev opC(x:Op9):Ch:=.box [.d (.int .u8 x.kind),.d (.int .u8 x.op),vi x.dst,vi x.ref,vi x.alt,.d (gY x.args),.d (gY x.frm),vi x.num,vi x.at_]
theorem gu(x:Op9):mE (opC x) (opC x):=⟨Z,Z,Z,Z,Z,ah Z,ah Z,Z,Z,tR⟩
theorem zk(x0:Op9)(d a ar:BY)(az fz:List BY)(l:List BY)(hl:aj (l.length:Int)):aD PG 123 4 [vSs l,.ptr 0 0,.ptr 1 0,.ptr 2 0,.ptr 3 0] [.box [.fn 122 [.ptr 2 0]],opC x0,.box [vb true],.box [.d (.int .u8 x0.kind),.d (.int .u8 x0.op),vs d,vs .empty,vs a,.d (aZ az),.d (aZ fz),vi x0.num,vi x0.at_]] (.tup []) [.box [.fn 122 [.ptr 2 0]],opC x0,.box [vb (lK x0.ref l.length)],.box [.d (.int .u8 x0.kind),.d (.int .u8 x0.op),vs d,vs (if lK x0.ref l.length=true then l.getD x0.ref.toNat .empty else .empty),vs a,.d (aZ az),.d (aZ fz),vi x0.num,vi x0.at_]]:=by
 refine aD.mk (dM 19 4) av [0,1,2,3] Tryz.func123 Z (by kernel_rfl) Z Z Z ?_
 intro C x
 refine x.call [2] Z tR Z (Vs x0.ref l.length hl) Z ⟨Z,Z,⟨Z,Z⟩,tR⟩ ⟨⟨Z,tR⟩,tR⟩ ?_
 refine x.cond Z tR (λh=>?_) (λh=>?_)
 ·have h:lK x0.ref l.length=true:=h
  have hb:0≤x0.ref∧x0.ref<(l.length:Int):=by
   unfold lK at h
   rw[afF,afL,afL] at h;exact h
  have hcl:=Vr hb.1 hb.2
  refine x.exit Z (by simp only[ak,hcl];omega) ⟨.inl Z,tR,⟨⟨Z,tR⟩,gu x0,⟨Z,tR⟩,⟨Z,Z,Z,?_,Z,ah Z,ah Z,Z,Z,tR⟩,tR⟩,Z⟩
  show aB (vs (l.getD (KM x0.ref l.length).toNat .empty)) (vs _)
  rw[hcl,if_pos h];exact Z
 ·have h:lK x0.ref l.length=false:=h
  refine x.exit Z tR ⟨.inl Z,tR,⟨⟨Z,tR⟩,gu x0,⟨Z,tR⟩,⟨Z,Z,Z,?_,Z,ah Z,ah Z,Z,Z,tR⟩,tR⟩,Z⟩
  show aB (vs .empty) (vs _)
  rw[h,if_neg (by simp)];exact Z
theorem Am(l:List Chan)(i:Nat):(l.map (·.1)).getD i ByteArray.empty=(l.getD i aL).1:=by
 rw[afE,afE,List.getElem?_map]
 cases l[i]?<;>rfl
theorem NR(p:Pol)(c:Cod)(x0:Op9)(hz:PolSz p)(hp:p.ins.length≤1000000000∧p.outs.length≤1000000000)(hx:Yv x0):Pure PG 74 [qB p,rM c,opW x0] (.tup [xD (aN p c.main x0),vb (iE p c.main x0).2]) []:=by
 have hxa:=hx.a
 have hxf:=hx.f
 obtain⟨dS,hdS⟩:∃d,(if 0≤x0.dst then nmN 118 x0.dst else .empty)=d:=⟨_,Z⟩
 unfold aN
 rw[hdS]
 obtain⟨i1,i2,i3,i4⟩:=oO hz
 refine aD.mk (cfg 125) av [] Tryz.func74 Z (by kernel_rfl) Z Z Z ?_
 intro C x
 refine x.ite (α:=Unit) (λ_=>⟨[(3,.ptr 0 0),(4,.ptr 1 0),(5,.ptr 2 0),(6,.ptr 3 0),(8,.ptr 4 0),(9,.ptr 5 0),(10,.ptr 6 0)],[(0,j3 p),(1,.box [.d (dR c.arrays),.d (dL c.funcs),vi c.main]),(2,opC x0),(3,.box [.dead,.dead,.dead,.dead,.dead,.dead,.dead,.dead,.dead]),(4,.box [.d (.int .u8 x0.kind),.d (.int .u8 x0.op),vs dS,vs .empty,vs .empty,.aF,.aF,vi x0.num,vi x0.at_]),(5,.box [vb true]),(6,.box [.fn 122 [.ptr 5 0]])],7⟩) Z tR (λh=>?_) (λh=>?_) (λ_=>?_)
 ·have h:0≤x0.dst:=afH h
  rw[if_pos h] at hdS
  subst hdS
  refine x.pure Z tR Z (kS 118 x0.dst hx.dst) ⟨Z,Z,tR⟩ ?_
  exact x.back Z tR ⟨(),⟨⟨Z,Z⟩,⟨Z,Z⟩,⟨Z,Z⟩,⟨Z,Z⟩,⟨Z,Z⟩,⟨Z,Z⟩,⟨Z,Z⟩,tR⟩,⟨bL p,⟨ah Z,ah Z,Z,tR⟩,gu x0,⟨Z,Z,Z,Z,Z,Z,Z,Z,Z,tR⟩,⟨Z,Z,Z,Z,Z,tR,tR,Z,Z,tR⟩,⟨Z,tR⟩,⟨Z,tR⟩,tR⟩,Z⟩
 ·have h:¬0≤x0.dst:=afI h
  rw[if_neg h] at hdS
  subst hdS
  exact x.back Z tR ⟨(),⟨⟨Z,Z⟩,⟨Z,Z⟩,⟨Z,Z⟩,⟨Z,Z⟩,⟨Z,Z⟩,⟨Z,Z⟩,⟨Z,Z⟩,tR⟩,⟨bL p,⟨ah Z,ah Z,Z,tR⟩,gu x0,⟨Z,Z,Z,Z,Z,Z,Z,Z,Z,tR⟩,⟨Z,Z,Z,Z,Z,tR,tR,Z,Z,tR⟩,⟨Z,tR⟩,⟨Z,tR⟩,tR⟩,Z⟩
 change Go C _ ⟨[(3,.ptr 0 0),(4,.ptr 1 0),(5,.ptr 2 0),(6,.ptr 3 0),(8,.ptr 4 0),(9,.ptr 5 0),(10,.ptr 6 0)],[(0,j3 p),(1,.box [.d (dR c.arrays),.d (dL c.funcs),vi c.main]),(2,opC x0),(3,.box [.dead,.dead,.dead,.dead,.dead,.dead,.dead,.dead,.dead]),(4,.box [.d (.int .u8 x0.kind),.d (.int .u8 x0.op),vs dS,vs .empty,vs .empty,.aF,.aF,vi x0.num,vi x0.at_]),(5,.box [vb true]),(6,.box [.fn 122 [.ptr 5 0]])],7⟩ _
 refine x.toLoop Z tR ?_
 refine Go.ownB 4 5 9 1 (λi=>[.str (([]:List BY).getD i .empty)]) Z Z ?_
 refine x.loop (α:={i:Nat // i≤x0.args.length}) (λy=>⟨[(3,.ptr 0 0),(4,.ptr 1 0),(5,.ptr 2 0),(6,.ptr 3 0),(8,.ptr 4 0),(9,.ptr 5 0),(10,.ptr 6 0),(35,.d (gY x0.args)),(36,vi (x0.args.length:Int)),(37,vi (y.1:Int))],[(0,j3 p),(1,.box [.d (dR c.arrays),.d (dL c.funcs),vi c.main]),(2,opC x0),(3,.box [.dead,.dead,.dead,.dead,.dead,.dead,.dead,.dead,.dead]),(4,.box [.d (.int .u8 x0.kind),.d (.int .u8 x0.op),vs dS,vs .empty,vs .empty,.own 7,.aF,vi x0.num,vi x0.at_]),(5,.box [vb true]),(6,.box [.fn 122 [.ptr 5 0]]),(7,iw ((x0.args.take y.1).map (nmN 118)))],8⟩) (λy=>x0.args.length-y.1) ⟨0,by omega⟩ Z tR ⟨⟨⟨Z,Z⟩,⟨Z,Z⟩,⟨Z,Z⟩,⟨Z,Z⟩,⟨Z,Z⟩,⟨Z,Z⟩,⟨Z,Z⟩,au Z,Z,Z,tR⟩,⟨bL p,⟨ah Z,ah Z,Z,tR⟩,gu x0,⟨Z,Z,Z,Z,Z,Z,Z,Z,Z,tR⟩,⟨Z,Z,Z,Z,Z,Z,tR,Z,Z,tR⟩,⟨Z,tR⟩,⟨Z,tR⟩,⟨Z,Z,Z,λ_ h=>absurd h (afN _)⟩,tR⟩,Z⟩ (λy=>?_)
 obtain⟨i,hi⟩:=y
 change Go C _ ⟨[(3,.ptr 0 0),(4,.ptr 1 0),(5,.ptr 2 0),(6,.ptr 3 0),(8,.ptr 4 0),(9,.ptr 5 0),(10,.ptr 6 0),(35,.d (gY x0.args)),(36,vi (x0.args.length:Int)),(37,vi (i:Int))],[(0,j3 p),(1,.box [.d (dR c.arrays),.d (dL c.funcs),vi c.main]),(2,opC x0),(3,.box [.dead,.dead,.dead,.dead,.dead,.dead,.dead,.dead,.dead]),(4,.box [.d (.int .u8 x0.kind),.d (.int .u8 x0.op),vs dS,vs .empty,vs .empty,.own 7,.aF,vi x0.num,vi x0.at_]),(5,.box [vb true]),(6,.box [.fn 122 [.ptr 5 0]]),(7,iw ((x0.args.take i).map (nmN 118)))],8⟩ _
 refine x.cond Z tR (λh1=>?_) (λh1=>?_)
 ·have h1:i<x0.args.length:=by have:=afH h1;omega
  have htl:((x0.args.take i).map (nmN 118)).length=i:=by rw[List.length_map,List.length_take];omega
  have e:x0.args[i]?=some (x0.args.getD i 0):=by rw[afE,afG h1];rfl
  have et:(x0.args.take (i+1)).map (nmN 118)=(x0.args.take i).map (nmN 118)++[nmN 118 (x0.args.getD i 0)]:=by rw[take_succ e,List.map_append];rfl
  have hin:aj (x0.args.getD i 0):=hx.ai _ (by rw[afE,afG h1];exact List.getElem_mem h1)
  refine x.FJ 7 [4,7] [0,2] (mkO [(1,[]),(3,[]),(4,[3]),(5,[1,4]),(6,[5]),(7,[6])] 7 [])
   ⟨[(3,.ptr 0 0),(4,.ptr 1 0),(5,.ptr 2 0),(6,.ptr 3 0),(8,.ptr 4 0),(9,.ptr 5 0),(10,.ptr 6 0),(35,.d (gY x0.args)),(36,vi (x0.args.length:Int)),(37,vi (i:Int))],[(4,.box [.d (.int .u8 x0.kind),.d (.int .u8 x0.op),vs dS,vs .empty,vs .empty,.own 7,.aF,vi x0.num,vi x0.at_]),(7,iw ((x0.args.take (i+1)).map (nmN 118)))],8⟩ Z (by simp only[ak];omega) ay Z (by kernel_rfl) Ret.bP Z tR (λC2 x2=>?_) ?_
  ·repeat' first
    | exact True.intro
    | refine And.intro ?_ ?_
    | refine x2.pure rfl tR rfl (kS 118 (x0.args.getD i 0) hin) ⟨rfl,rfl,tR⟩ (x2.back rfl tR ?_)
    | refine x2.back rfl tR ?_
    | refine x2.back rfl (by simp only[ak,big,htl];omega) ?_
    | exact Or.inl ⟨⟨⟨rfl,rfl⟩,⟨rfl,rfl⟩,⟨rfl,rfl⟩,⟨rfl,rfl⟩,⟨rfl,rfl⟩,⟨rfl,rfl⟩,⟨rfl,rfl⟩,au rfl,rfl,rfl,tR⟩,⟨⟨rfl,rfl,rfl,rfl,rfl,rfl,tR,rfl,rfl,tR⟩,⟨rfl,rfl,by rw[et];simp,λj hj=>by rw[et];exact jr _ _ j hj⟩,tR⟩,rfl⟩
  exact x.back Z (by simp only[ak,aj];omega) ⟨⟨i+1,by omega⟩,by show x0.args.length-(i+1)<x0.args.length-i;omega,⟨⟨Z,Z⟩,⟨Z,Z⟩,⟨Z,Z⟩,⟨Z,Z⟩,⟨Z,Z⟩,⟨Z,Z⟩,⟨Z,Z⟩,au Z,Z,(show aB (vi ((i:Int)+1)) (vi ((i+1:Nat):Int)) by rw[afQ];rfl),tR⟩,⟨bL p,⟨ah Z,ah Z,Z,tR⟩,gu x0,⟨Z,Z,Z,Z,Z,Z,Z,Z,Z,tR⟩,⟨Z,Z,Z,Z,Z,Z,tR,Z,Z,tR⟩,⟨Z,tR⟩,⟨Z,tR⟩,⟨Z,Z,Z,λ_ _=>rfl⟩,tR⟩,Z⟩
 have h1:i=x0.args.length:=by have:=afI h1;omega
 subst h1
 rw[List.take_length]
 refine Sx.Go.freeze 7 ?_
 refine x.toLoop Z tR ?_
 refine Go.ownB 4 6 9 1 (λi=>[.str (([]:List BY).getD i .empty)]) Z Z ?_
 refine x.loop (α:={i:Nat // i≤x0.frm.length}) (λy=>⟨[(3,.ptr 0 0),(4,.ptr 1 0),(5,.ptr 2 0),(6,.ptr 3 0),(8,.ptr 4 0),(9,.ptr 5 0),(10,.ptr 6 0),(50,.d (gY x0.frm)),(51,vi (x0.frm.length:Int)),(52,vi (y.1:Int))],[(0,j3 p),(1,.box [.d (dR c.arrays),.d (dL c.funcs),vi c.main]),(2,opC x0),(3,.box [.dead,.dead,.dead,.dead,.dead,.dead,.dead,.dead,.dead]),(4,.box [.d (.int .u8 x0.kind),.d (.int .u8 x0.op),vs dS,vs .empty,vs .empty,.d (aZ (x0.args.map (nmN 118))),.own 8,vi x0.num,vi x0.at_]),(5,.box [vb true]),(6,.box [.fn 122 [.ptr 5 0]]),(8,iw ((x0.frm.take y.1).map (nmN 98)))],9⟩) (λy=>x0.frm.length-y.1) ⟨0,by omega⟩ Z tR ⟨⟨⟨Z,Z⟩,⟨Z,Z⟩,⟨Z,Z⟩,⟨Z,Z⟩,⟨Z,Z⟩,⟨Z,Z⟩,⟨Z,Z⟩,au Z,Z,Z,tR⟩,⟨bL p,⟨ah Z,ah Z,Z,tR⟩,gu x0,⟨Z,Z,Z,Z,Z,Z,Z,Z,Z,tR⟩,⟨Z,Z,Z,Z,Z,ah Z,Z,Z,Z,tR⟩,⟨Z,tR⟩,⟨Z,tR⟩,⟨Z,Z,Z,λ_ h=>absurd h (afN _)⟩,tR⟩,Z⟩ (λy=>?_)
 obtain⟨i,hi⟩:=y
 change Go C _ ⟨[(3,.ptr 0 0),(4,.ptr 1 0),(5,.ptr 2 0),(6,.ptr 3 0),(8,.ptr 4 0),(9,.ptr 5 0),(10,.ptr 6 0),(50,.d (gY x0.frm)),(51,vi (x0.frm.length:Int)),(52,vi (i:Int))],[(0,j3 p),(1,.box [.d (dR c.arrays),.d (dL c.funcs),vi c.main]),(2,opC x0),(3,.box [.dead,.dead,.dead,.dead,.dead,.dead,.dead,.dead,.dead]),(4,.box [.d (.int .u8 x0.kind),.d (.int .u8 x0.op),vs dS,vs .empty,vs .empty,.d (aZ (x0.args.map (nmN 118))),.own 8,vi x0.num,vi x0.at_]),(5,.box [vb true]),(6,.box [.fn 122 [.ptr 5 0]]),(8,iw ((x0.frm.take i).map (nmN 98)))],9⟩ _
 refine x.cond Z tR (λh1=>?_) (λh1=>?_)
 ·have h1:i<x0.frm.length:=by have:=afH h1;omega
  have htl:((x0.frm.take i).map (nmN 98)).length=i:=by rw[List.length_map,List.length_take];omega
  have e:x0.frm[i]?=some (x0.frm.getD i 0):=by rw[afE,afG h1];rfl
  have et:(x0.frm.take (i+1)).map (nmN 98)=(x0.frm.take i).map (nmN 98)++[nmN 98 (x0.frm.getD i 0)]:=by rw[take_succ e,List.map_append];rfl
  have hin:aj (x0.frm.getD i 0):=hx.fi _ (by rw[afE,afG h1];exact List.getElem_mem h1)
  refine x.FJ 7 [4,8] [0,2] (mkO [(1,[]),(3,[]),(4,[3]),(5,[1,4]),(6,[5]),(7,[6])] 7 [])
   ⟨[(3,.ptr 0 0),(4,.ptr 1 0),(5,.ptr 2 0),(6,.ptr 3 0),(8,.ptr 4 0),(9,.ptr 5 0),(10,.ptr 6 0),(50,.d (gY x0.frm)),(51,vi (x0.frm.length:Int)),(52,vi (i:Int))],[(4,.box [.d (.int .u8 x0.kind),.d (.int .u8 x0.op),vs dS,vs .empty,vs .empty,.d (aZ (x0.args.map (nmN 118))),.own 8,vi x0.num,vi x0.at_]),(8,iw ((x0.frm.take (i+1)).map (nmN 98)))],9⟩ Z (by simp only[ak];omega) ay Z (by kernel_rfl) Ret.bP Z tR (λC2 x2=>?_) ?_
  ·repeat' first
    | exact True.intro
    | refine And.intro ?_ ?_
    | refine x2.pure rfl tR rfl (kS 98 (x0.frm.getD i 0) hin) ⟨rfl,rfl,tR⟩ (x2.back rfl tR ?_)
    | refine x2.back rfl tR ?_
    | refine x2.back rfl (by simp only[ak,big,htl];omega) ?_
    | exact Or.inl ⟨⟨⟨rfl,rfl⟩,⟨rfl,rfl⟩,⟨rfl,rfl⟩,⟨rfl,rfl⟩,⟨rfl,rfl⟩,⟨rfl,rfl⟩,⟨rfl,rfl⟩,au rfl,rfl,rfl,tR⟩,⟨⟨rfl,rfl,rfl,rfl,rfl,ah rfl,rfl,rfl,rfl,tR⟩,⟨rfl,rfl,by rw[et];simp,λj hj=>by rw[et];exact jr _ _ j hj⟩,tR⟩,rfl⟩
  exact x.back Z (by simp only[ak,aj];omega) ⟨⟨i+1,by omega⟩,by show x0.frm.length-(i+1)<x0.frm.length-i;omega,⟨⟨Z,Z⟩,⟨Z,Z⟩,⟨Z,Z⟩,⟨Z,Z⟩,⟨Z,Z⟩,⟨Z,Z⟩,⟨Z,Z⟩,au Z,Z,(show aB (vi ((i:Int)+1)) (vi ((i+1:Nat):Int)) by rw[afQ];rfl),tR⟩,⟨bL p,⟨ah Z,ah Z,Z,tR⟩,gu x0,⟨Z,Z,Z,Z,Z,Z,Z,Z,Z,tR⟩,⟨Z,Z,Z,Z,Z,ah Z,Z,Z,Z,tR⟩,⟨Z,tR⟩,⟨Z,tR⟩,⟨Z,Z,Z,λ_ _=>rfl⟩,tR⟩,Z⟩
 have h1:i=x0.frm.length:=by have:=afI h1;omega
 subst h1
 rw[List.take_length]
 refine Sx.Go.freeze 8 ?_
 have hr:iE p c.main x0=iE p c.main x0:=rfl
 conv at hr=>rhs;unfold iE
 refine x.ite (α:=Unit) (λ_=>⟨[(5,.ptr 2 0),(6,.ptr 3 0),(8,.ptr 4 0),(9,.ptr 5 0),(10,.ptr 6 0),(3,.ptr 0 0),(4,.ptr 1 0),(15,.fn 123 [.ptr 6 0,.ptr 2 0,.ptr 5 0,.ptr 4 0]),(16,.fn 124 []),(66,.d (.int .u8 x0.kind)),(67,vb (decide (x0.kind=4∨x0.kind=5∨x0.kind=6)))],[(0,j3 p),(1,.box [.d (dR c.arrays),.d (dL c.funcs),vi c.main]),(2,opC x0),(3,.box [.dead,.dead,.dead,.dead,.dead,.dead,.dead,.dead,.dead]),(4,.box [.d (.int .u8 x0.kind),.d (.int .u8 x0.op),vs dS,vs .empty,vs .empty,.d (aZ (x0.args.map (nmN 118))),.d (aZ (x0.frm.map (nmN 98))),vi x0.num,vi x0.at_]),(5,.box [vb true]),(6,.box [.fn 122 [.ptr 5 0]])],9⟩) Z tR (λh=>?_) (λh=>?_) (λ_=>?_)
 ·have h:x0.kind=4:=afH h
  refine x.back Z tR ⟨(),⟨⟨Z,Z⟩,⟨Z,Z⟩,⟨Z,Z⟩,⟨Z,Z⟩,⟨Z,Z⟩,⟨Z,Z⟩,⟨Z,Z⟩,Z,Z,Z,?_,tR⟩,⟨bL p,⟨ah Z,ah Z,Z,tR⟩,gu x0,⟨Z,Z,Z,Z,Z,Z,Z,Z,Z,tR⟩,⟨Z,Z,Z,Z,Z,ah Z,ah Z,Z,Z,tR⟩,⟨Z,tR⟩,⟨Z,tR⟩,tR⟩,Z⟩
  show aB (vb (decide (x0.kind=4))) (vb _)
  rw[decide_eq_true h,decide_eq_true (.inl h)];exact Z
 ·have h:¬x0.kind=4:=afI h
  refine x.cond Z tR (λh5=>?_) (λh5=>?_)
  ·have h5:x0.kind=5:=afH h5
   refine x.back Z tR ⟨(),⟨⟨Z,Z⟩,⟨Z,Z⟩,⟨Z,Z⟩,⟨Z,Z⟩,⟨Z,Z⟩,⟨Z,Z⟩,⟨Z,Z⟩,Z,Z,Z,?_,tR⟩,⟨bL p,⟨ah Z,ah Z,Z,tR⟩,gu x0,⟨Z,Z,Z,Z,Z,Z,Z,Z,Z,tR⟩,⟨Z,Z,Z,Z,Z,ah Z,ah Z,Z,Z,tR⟩,⟨Z,tR⟩,⟨Z,tR⟩,tR⟩,Z⟩
   show aB (vb (decide (x0.kind=5))) (vb _)
   rw[decide_eq_true h5,decide_eq_true (.inr (.inl h5))];exact Z
  ·have h5:¬x0.kind=5:=afI h5
   refine x.back Z tR ⟨(),⟨⟨Z,Z⟩,⟨Z,Z⟩,⟨Z,Z⟩,⟨Z,Z⟩,⟨Z,Z⟩,⟨Z,Z⟩,⟨Z,Z⟩,Z,Z,Z,?_,tR⟩,⟨bL p,⟨ah Z,ah Z,Z,tR⟩,gu x0,⟨Z,Z,Z,Z,Z,Z,Z,Z,Z,tR⟩,⟨Z,Z,Z,Z,Z,ah Z,ah Z,Z,Z,tR⟩,⟨Z,tR⟩,⟨Z,tR⟩,tR⟩,Z⟩
   show aB (vb (decide (x0.kind=6))) (vb _)
   rw[show decide (x0.kind=4∨x0.kind=5∨x0.kind=6)=decide (x0.kind=6) by rw[decide_eq_decide];omega];exact Z
 change Go C _ ⟨[(5,.ptr 2 0),(6,.ptr 3 0),(8,.ptr 4 0),(9,.ptr 5 0),(10,.ptr 6 0),(3,.ptr 0 0),(4,.ptr 1 0),(15,.fn 123 [.ptr 6 0,.ptr 2 0,.ptr 5 0,.ptr 4 0]),(16,.fn 124 []),(66,.d (.int .u8 x0.kind)),(67,vb (decide (x0.kind=4∨x0.kind=5∨x0.kind=6)))],[(0,j3 p),(1,.box [.d (dR c.arrays),.d (dL c.funcs),vi c.main]),(2,opC x0),(3,.box [.dead,.dead,.dead,.dead,.dead,.dead,.dead,.dead,.dead]),(4,.box [.d (.int .u8 x0.kind),.d (.int .u8 x0.op),vs dS,vs .empty,vs .empty,.d (aZ (x0.args.map (nmN 118))),.d (aZ (x0.frm.map (nmN 98))),vi x0.num,vi x0.at_]),(5,.box [vb true]),(6,.box [.fn 122 [.ptr 5 0]])],9⟩ _
 refine x.ite (α:=Unit) (λ_=>⟨[(5,.ptr 2 0),(6,.ptr 3 0),(8,.ptr 4 0),(9,.ptr 5 0)],[(2,opC x0),(3,.box [.dead,.dead,.dead,.dead,.dead,.dead,.dead,.dead,.dead]),(4,.box [.d (.int .u8 x0.kind),.d (.int .u8 x0.op),vs dS,vs (iE p c.main x0).1,vs .empty,.d (aZ (x0.args.map (nmN 118))),.d (aZ (x0.frm.map (nmN 98))),vi x0.num,vi x0.at_]),(5,.box [vb (iE p c.main x0).2])],9⟩) Z tR (λh=>?_) (λh=>?_) (λ_=>?_)
 ·have h:x0.kind=4∨x0.kind=5∨x0.kind=6:=afH h
  rw[if_pos h] at hr
  refine x.pure Z tR Z (kS 97 x0.ref hx.ref) ⟨Z,Z,tR⟩ ?_
  refine x.back Z tR ⟨(),⟨⟨Z,Z⟩,⟨Z,Z⟩,⟨Z,Z⟩,⟨Z,Z⟩,tR⟩,⟨gu x0,⟨Z,Z,Z,Z,Z,Z,Z,Z,Z,tR⟩,⟨Z,Z,Z,?_,Z,ah Z,ah Z,Z,Z,tR⟩,⟨?_,tR⟩,tR⟩,Z⟩
  ·show aB (vs _) (vs (iE p c.main x0).1)
   rw[hr];exact Z
  ·show aB (vb _) (vb (iE p c.main x0).2)
   rw[hr];exact Z
 ·have h4:¬(x0.kind=4∨x0.kind=5∨x0.kind=6):=afI h
  rw[if_neg h4] at hr
  refine x.cond Z tR (λh=>?_) (λh=>?_)
  ·have h:x0.kind=7:=afH h
   rw[if_pos h] at hr
   refine x.pure Z tR Z (kS 102 x0.ref hx.ref) ⟨Z,Z,tR⟩ ?_
   refine x.cond Z tR (λh7=>?_) (λh7=>?_)
   ·have h7:x0.ref=c.main:=afH h7
    rw[if_pos h7] at hr
    refine x.back Z tR ⟨(),⟨⟨Z,Z⟩,⟨Z,Z⟩,⟨Z,Z⟩,⟨Z,Z⟩,tR⟩,⟨gu x0,⟨Z,Z,Z,Z,Z,Z,Z,Z,Z,tR⟩,⟨Z,Z,Z,?_,Z,ah Z,ah Z,Z,Z,tR⟩,⟨?_,tR⟩,tR⟩,Z⟩
    ·show aB (vs _) (vs (iE p c.main x0).1)
     rw[hr];exact Z
    ·show aB (vb _) (vb (iE p c.main x0).2)
     rw[hr];exact Z
   ·have h7:¬x0.ref=c.main:=afI h7
    rw[if_neg h7] at hr
    refine x.back Z tR ⟨(),⟨⟨Z,Z⟩,⟨Z,Z⟩,⟨Z,Z⟩,⟨Z,Z⟩,tR⟩,⟨gu x0,⟨Z,Z,Z,Z,Z,Z,Z,Z,Z,tR⟩,⟨Z,Z,Z,?_,Z,ah Z,ah Z,Z,Z,tR⟩,⟨?_,tR⟩,tR⟩,Z⟩
    ·show aB (vs _) (vs (iE p c.main x0).1)
     rw[hr];exact Z
    ·show aB (vb _) (vb (iE p c.main x0).2)
     rw[hr];exact Z
  have h7:¬x0.kind=7:=afI h
  rw[if_neg h7] at hr
  refine x.cond Z tR (λh=>?_) (λh=>?_)
  ·have h:x0.kind=8:=afH h
   rw[if_pos h] at hr
   refine x.pure Z tR Z (GH p.ins hp.1) ⟨au Z,tR⟩ ?_
   refine x.call [6,2,5,4] Z tR Z (zk x0 dS .empty .empty _ _ (p.ins.map (·.1)) (by rw[List.length_map];exact i3)) Z ⟨au Z,⟨Z,Z⟩,⟨Z,Z⟩,⟨Z,Z⟩,⟨Z,Z⟩,tR⟩ ⟨⟨Z,tR⟩,gu x0,⟨Z,tR⟩,⟨Z,Z,Z,Z,Z,ah Z,ah Z,Z,Z,tR⟩,tR⟩ ?_
   have hm:(if lK x0.ref (p.ins.map (·.1)).length=true then (p.ins.map (·.1)).getD x0.ref.toNat .empty else ByteArray.empty)=(if lK x0.ref p.ins.length=true then (p.ins.getD x0.ref.toNat aL).1 else .empty):=by rw[List.length_map,Am]
   refine x.back Z tR ⟨(),⟨⟨Z,Z⟩,⟨Z,Z⟩,⟨Z,Z⟩,⟨Z,Z⟩,tR⟩,⟨gu x0,⟨Z,Z,Z,Z,Z,Z,Z,Z,Z,tR⟩,⟨Z,Z,Z,?_,Z,ah Z,ah Z,Z,Z,tR⟩,⟨?_,tR⟩,tR⟩,Z⟩
   ·show aB (vs (if lK x0.ref (p.ins.map (·.1)).length=true then (p.ins.map (·.1)).getD x0.ref.toNat .empty else ByteArray.empty)) (vs (iE p c.main x0).1)
    rw[hr,hm];exact Z
   ·show aB (vb (lK x0.ref (p.ins.map (·.1)).length)) (vb (iE p c.main x0).2)
    rw[hr,List.length_map];exact Z
  have h8:¬x0.kind=8:=afI h
  rw[if_neg h8] at hr
  refine x.cond Z tR (λh=>?_) (λh=>?_)
  ·have h:x0.kind=9:=afH h
   rw[if_pos h] at hr
   refine x.pure Z tR Z (GH p.outs hp.2) ⟨au Z,tR⟩ ?_
   refine x.call [6,2,5,4] Z tR Z (zk x0 dS .empty .empty _ _ (p.outs.map (·.1)) (by rw[List.length_map];exact i4)) Z ⟨au Z,⟨Z,Z⟩,⟨Z,Z⟩,⟨Z,Z⟩,⟨Z,Z⟩,tR⟩ ⟨⟨Z,tR⟩,gu x0,⟨Z,tR⟩,⟨Z,Z,Z,Z,Z,ah Z,ah Z,Z,Z,tR⟩,tR⟩ ?_
   have hm:(if lK x0.ref (p.outs.map (·.1)).length=true then (p.outs.map (·.1)).getD x0.ref.toNat .empty else ByteArray.empty)=(if lK x0.ref p.outs.length=true then (p.outs.getD x0.ref.toNat aL).1 else .empty):=by rw[List.length_map,Am]
   refine x.back Z tR ⟨(),⟨⟨Z,Z⟩,⟨Z,Z⟩,⟨Z,Z⟩,⟨Z,Z⟩,tR⟩,⟨gu x0,⟨Z,Z,Z,Z,Z,Z,Z,Z,Z,tR⟩,⟨Z,Z,Z,?_,Z,ah Z,ah Z,Z,Z,tR⟩,⟨?_,tR⟩,tR⟩,Z⟩
   ·show aB (vs (if lK x0.ref (p.outs.map (·.1)).length=true then (p.outs.map (·.1)).getD x0.ref.toNat .empty else ByteArray.empty)) (vs (iE p c.main x0).1)
    rw[hr,hm];exact Z
   ·show aB (vb (lK x0.ref (p.outs.map (·.1)).length)) (vb (iE p c.main x0).2)
    rw[hr,List.length_map];exact Z
  have h9:¬x0.kind=9:=afI h
  rw[if_neg h9] at hr
  refine x.cond Z tR (λh=>?_) (λh=>?_)
  ·have h:x0.kind=10:=afH h
   rw[if_pos h] at hr
   refine x.call [6,2,5,4] Z tR Z (zk x0 dS .empty .empty _ _ p.lev i1) Z ⟨au Z,⟨Z,Z⟩,⟨Z,Z⟩,⟨Z,Z⟩,⟨Z,Z⟩,tR⟩ ⟨⟨Z,tR⟩,gu x0,⟨Z,tR⟩,⟨Z,Z,Z,Z,Z,ah Z,ah Z,Z,Z,tR⟩,tR⟩ ?_
   refine x.back Z tR ⟨(),⟨⟨Z,Z⟩,⟨Z,Z⟩,⟨Z,Z⟩,⟨Z,Z⟩,tR⟩,⟨gu x0,⟨Z,Z,Z,Z,Z,Z,Z,Z,Z,tR⟩,⟨Z,Z,Z,?_,Z,ah Z,ah Z,Z,Z,tR⟩,⟨?_,tR⟩,tR⟩,Z⟩
   ·show aB (vs _) (vs (iE p c.main x0).1)
    rw[hr];exact Z
   ·show aB (vb _) (vb (iE p c.main x0).2)
    rw[hr];exact Z
  have h10:¬x0.kind=10:=afI h
  rw[if_neg h10] at hr
  refine x.cond Z tR (λh=>?_) (λh=>?_)
  ·have h:x0.kind=11:=afH h
   rw[if_pos (.inl h)] at hr
   refine x.cond Z tR (λh2=>?_) (λh2=>?_)
   ·refine x.pure Z tR Z (kS 98 x0.ref hx.ref) ⟨Z,Z,tR⟩ ?_
    refine x.back Z tR ⟨(),⟨⟨Z,Z⟩,⟨Z,Z⟩,⟨Z,Z⟩,⟨Z,Z⟩,tR⟩,⟨gu x0,⟨Z,Z,Z,Z,Z,Z,Z,Z,Z,tR⟩,⟨Z,Z,Z,?_,Z,ah Z,ah Z,Z,Z,tR⟩,⟨?_,tR⟩,tR⟩,Z⟩
    ·show aB (vs _) (vs (iE p c.main x0).1)
     rw[hr];exact Z
    ·show aB (vb _) (vb (iE p c.main x0).2)
     rw[hr];exact Z
   ·exact absurd h (afI h2)
  have h11:¬x0.kind=11:=afI h
  refine x.cond Z tR (λh=>?_) (λh=>?_)
  ·have h:x0.kind=12:=afH h
   rw[if_pos (.inr h)] at hr
   refine x.pure Z tR Z (kS 98 x0.ref hx.ref) ⟨Z,Z,tR⟩ ?_
   refine x.back Z tR ⟨(),⟨⟨Z,Z⟩,⟨Z,Z⟩,⟨Z,Z⟩,⟨Z,Z⟩,tR⟩,⟨gu x0,⟨Z,Z,Z,Z,Z,Z,Z,Z,Z,tR⟩,⟨Z,Z,Z,?_,Z,ah Z,ah Z,Z,Z,tR⟩,⟨?_,tR⟩,tR⟩,Z⟩
   ·show aB (vs _) (vs (iE p c.main x0).1)
    rw[hr];exact Z
   ·show aB (vb _) (vb (iE p c.main x0).2)
    rw[hr];exact Z
  ·have h12:¬x0.kind=12:=afI h
   rw[if_neg (by omega)] at hr
   refine x.back Z tR ⟨(),⟨⟨Z,Z⟩,⟨Z,Z⟩,⟨Z,Z⟩,⟨Z,Z⟩,tR⟩,⟨gu x0,⟨Z,Z,Z,Z,Z,Z,Z,Z,Z,tR⟩,⟨Z,Z,Z,?_,Z,ah Z,ah Z,Z,Z,tR⟩,⟨?_,tR⟩,tR⟩,Z⟩
   ·show aB (vs _) (vs (iE p c.main x0).1)
    rw[hr];exact Z
   ·show aB (vb _) (vb (iE p c.main x0).2)
    rw[hr];exact Z
 clear hr
 change Go C _ ⟨[(5,.ptr 2 0),(6,.ptr 3 0),(8,.ptr 4 0),(9,.ptr 5 0)],[(2,opC x0),(3,.box [.dead,.dead,.dead,.dead,.dead,.dead,.dead,.dead,.dead]),(4,.box [.d (.int .u8 x0.kind),.d (.int .u8 x0.op),vs dS,vs (iE p c.main x0).1,vs .empty,.d (aZ (x0.args.map (nmN 118))),.d (aZ (x0.frm.map (nmN 98))),vi x0.num,vi x0.at_]),(5,.box [vb (iE p c.main x0).2])],9⟩ _
 refine x.cond Z tR (λh=>?_) (λh=>?_)
 ·have h:x0.kind=12:=afH h
  rw[if_pos h]
  refine x.pure Z tR Z (kS 98 x0.alt hx.alt) ⟨Z,Z,tR⟩ ?_
  refine x.rz [3] [0,1] (mkO [(2,[]),(3,[2])] 3 [])
   ⟨[(6,.ptr 3 0),(7,vb (iE p c.main x0).2)],[(3,.box [.d (.int .u8 x0.kind),.d (.int .u8 x0.op),vs dS,vs (iE p c.main x0).1,vs (nmN 98 x0.alt),.d (aZ (x0.args.map (nmN 118))),.d (aZ (x0.frm.map (nmN 98))),vi x0.num,vi x0.at_])],9⟩ Z tR ay (by kernel_rfl) Ret.bP Z tR (λC2 x2=>?_) ?_
  ·exact⟨x2.back Z tR ⟨x2.back Z tR (Or.inl ⟨⟨⟨Z,Z⟩,Z,tR⟩,⟨⟨Z,Z,Z,Z,Z,ah Z,ah Z,Z,Z,tR⟩,tR⟩,Z⟩),tR⟩,tR⟩
  exact x.exit Z tR ⟨.inr Z,⟨Z,Z,tR⟩,tR,Z⟩
 ·have h:¬x0.kind=12:=afI h
  rw[if_neg h]
  refine x.rz [3] [0,1] (mkO [(2,[]),(3,[2])] 3 [])
   ⟨[(6,.ptr 3 0),(7,vb (iE p c.main x0).2)],[(3,.box [.d (.int .u8 x0.kind),.d (.int .u8 x0.op),vs dS,vs (iE p c.main x0).1,vs .empty,.d (aZ (x0.args.map (nmN 118))),.d (aZ (x0.frm.map (nmN 98))),vi x0.num,vi x0.at_])],9⟩ Z tR ay (by kernel_rfl) Ret.bP Z tR (λC2 x2=>?_) ?_
  ·exact⟨x2.back Z tR ⟨x2.back Z tR (Or.inl ⟨⟨⟨Z,Z⟩,Z,tR⟩,⟨⟨Z,Z,Z,Z,Z,ah Z,ah Z,Z,Z,tR⟩,tR⟩,Z⟩),tR⟩,tR⟩
  exact x.exit Z tR ⟨.inr Z,⟨Z,Z,tR⟩,tR,Z⟩
end Go.Proofs.YtojhdmfkfkfcbaaGreatDoor
