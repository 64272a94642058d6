import Derived.Test.YtojhdmfkfkfcbaaGreatDoorMF
import Derived.Test.YtojhdmfkfkfcbaaGreatDoorME
set_option maxHeartbeats 1000000000
set_option linter.unusedSimpArgs false
set_option linter.unusedVariables false
namespace Go.Proofs.YtojhdmfkfkfcbaaGreatDoor
open Go.Sx
set_option maxRecDepth 100000
def rng{α:Type}(n:Nat)(f:Nat->α):List α:=(List.range n).map f
theorem bD{α:Type}(n:Nat)(f:Nat->α):(rng n f).length=n:=by simp [rng]
theorem aau{α:Type}{n:Nat}{f:Nat->α}{i:Nat}(h:i<n):(rng n f)[i]?=some (f i):=by unfold rng;rw[List.getElem?_map,List.getElem?_range h];rfl
theorem jQ{α:Type}(n:Nat)(f:Nat->α):rng (n+1) f=rng n f++[f n]:=by unfold rng;rw[List.range_succ,List.map_append];rfl
def uX(p:Pol)(i:Nat)(a:Cel):Arr:=⟨nmN 97 (i:Int),a.1,p.lev.getD a.2.toNat .empty,0⟩
def GI(p:Pol)(main:Int)(k:Nat)(l:List Op9):Blk:=⟨nmN 98 (k:Int),l.map (aN p main),0⟩
def fnN(main:Int)(i:Nat):BY:=if (i:Int)=main then eH else nmN 102 (i:Int)
def Cj(n:Int):List BY:=rng n.toNat λk=>nmN 118 (k:Int)
def oz(p:Pol)(main:Int)(i:Nat)(b:Bod):Fun:=⟨fnN main i,Cj b.params,rng b.blocks.length λk=>GI p main k (b.blocks.getD k []),0⟩
def wL(p:Pol)(a:Cel):Bool:=decide (0≤a.2)&&decide (a.2<(p.lev.length:Int))
def NS(p:Pol)(main:Int)(l:List Op9):Bool:=l.all λx=>(iE p main x).2
def qU(p:Pol)(main:Int)(b:Bod):Bool:=(decide (0≤b.params)&&decide (b.params≤6))&&b.blocks.all (NS p main)
def jl(p:Pol)(c:Cod):Prg:=⟨rng c.arrays.length λi=>uX p i (c.arrays.getD i bB),rng c.funcs.length λi=>oz p c.main i (c.funcs.getD i aA)⟩
def kC(p:Pol)(c:Cod):Option Prg:=if (c.arrays.all (wL p)&&c.funcs.all (qU p c.main))=true then some (jl p c) else none
abbrev acT:Option Prg->V
 | some q=>.tup [H8 q,vb true]
 | none=>.tup [.agg [.dead,.dead],vb false]
structure NT(c:Cod):Prop where
 al:c.arrays.length≤1000000
 fl:c.funcs.length≤1000000
 bl:∀b∈c.funcs,b.blocks.length*48≤140737488355328
 ll:∀b∈c.funcs,∀l∈b.blocks,l.length*120≤140737488355328∧∀x∈l,Yv x
theorem Ao{α:Type}{P:α->Bool}{l:List α}{i:Nat}{d:α}(h:i<l.length)(hp:P (l.getD i d)=false):l.all P=false:=by
 rw[List.all_eq_false]
 exact⟨l.getD i d,by rw[afE,afG h];exact List.getElem_mem h,by rw[hp];simp⟩
theorem KN{α:Type}{P:α->Bool}{l:List α}(d:α)(h:∀i,i<l.length->P (l.getD i d)=true):l.all P=true:=by
 rw[List.all_eq_true]
 intro a ha
 obtain⟨i,hi,rfl⟩:=List.getElem_of_mem ha
 have:=h i hi
 rwa [afE,afG hi] at this
theorem getD_in{α:Type}{l:List α}{i:Nat}(d:α)(h:i<l.length):l.getD i d∈l:=by rw[afE,afG h];exact List.getElem_mem h
theorem Qw(p:Pol)(c:Cod)(hz:PolSz p)(hp:p.ins.length≤1000000000∧p.outs.length≤1000000000)(hc:NT c):Pure PG 22 [qB p,rM c] (acT (kC p c)) []:=by
 obtain⟨i1,i2,i3,i4⟩:=oO hz
 have hal:=hc.al
 have hfl:=hc.fl
 refine aD.mk (cfg 144) av [] Tryz.func22 Z (by kernel_rfl) Z Z (by unfold kC;split<;>rfl) ?_
 intro C x
 refine x.toLoop Z tR ?_
 refine Go.ownB 3 0 78 4 (λi=>yQ (([]:List Arr).getD i bR)) Z Z ?_
 refine x.loop (α:={i:Nat // i≤c.arrays.length∧∀j,j<i->wL p (c.arrays.getD j bB)=true}) (λy=>⟨[(2,.ptr 0 0),(3,.ptr 1 0),(4,.ptr 2 0),(6,.ptr 3 0),(21,.d (dR c.arrays)),(22,vi (c.arrays.length:Int)),(23,vi (y.1:Int))],[(0,j3 p),(1,.box [.d (dR c.arrays),.d (dL c.funcs),vi c.main]),(2,.box [.dead,.dead]),(3,.box [.own 4,.aF]),(4,Ga (rng y.1 λi=>uX p i (c.arrays.getD i bB)))],5⟩) (λy=>c.arrays.length-y.1) ⟨0,Nat.zero_le _,λj hj=>absurd hj (afN _)⟩ Z tR ⟨⟨⟨Z,Z⟩,⟨Z,Z⟩,⟨Z,Z⟩,⟨Z,Z⟩,au Z,Z,Z,tR⟩,⟨bL p,⟨ah Z,ah Z,Z,tR⟩,⟨Z,Z,tR⟩,⟨Z,tR,tR⟩,⟨Z,Z,Z,λ_ h=>absurd h (afN _)⟩,tR⟩,Z⟩ (λy=>?_)
 obtain⟨i,hi,hlo⟩:=y
 change Go C _ ⟨[(2,.ptr 0 0),(3,.ptr 1 0),(4,.ptr 2 0),(6,.ptr 3 0),(21,.d (dR c.arrays)),(22,vi (c.arrays.length:Int)),(23,vi (i:Int))],[(0,j3 p),(1,.box [.d (dR c.arrays),.d (dL c.funcs),vi c.main]),(2,.box [.dead,.dead]),(3,.box [.own 4,.aF]),(4,Ga (rng i λi=>uX p i (c.arrays.getD i bB)))],5⟩ _
 refine x.cond Z tR (λh1=>?_) (λh1=>?_)
 ·have h1:i<c.arrays.length:=by have:=afH h1;omega
  have hva:(decide ((c.arrays.getD i bB).2<0)||decide ((p.lev.length:Int)≤(c.arrays.getD i bB).2))=!wL p (c.arrays.getD i bB):=by
   unfold wL
   rw[Bool.not_and,←decide_not,←decide_not]
   congr 1<;>rw[decide_eq_decide]<;>omega
  cases hl:wL p (c.arrays.getD i bB) with
  | false=>
   have hno:(c.arrays.all (wL p)&&c.funcs.all (qU p c.main))=false:=by rw[Ao h1 hl,Bool.false_and]
   refine x.cond Z (by simp only[ak];omega) (λh2=>?_) (λh2=>?_)
   ·rw[kC,if_neg (by rw[hno];simp)]
    refine x.lU ?_
    exact x.exit Z tR ⟨⟨[(4,.ptr 2 0),(5,vb false)],[(2,.box [.dead,.dead])],6⟩,⟨⟨⟨Z,Z⟩,Z,tR⟩,⟨⟨Z,Z,tR⟩,tR⟩,Z⟩,.inr Z,⟨Z,Z,tR⟩,tR,Z⟩
   ·have h2:(decide ((c.arrays.getD i bB).2<0)||decide ((p.lev.length:Int)≤(c.arrays.getD i bB).2))=false:=h2
    rw[hva,hl] at h2;cases h2
  | true=>
   have hlb:0≤(c.arrays.getD i bB).2∧(c.arrays.getD i bB).2<(p.lev.length:Int):=by
    unfold wL at hl
    rw[afF,afL,afL] at hl;exact hl
   refine x.cond Z (by simp only[ak];omega) (λh2=>?_) (λh2=>?_)
   ·have h2:(decide ((c.arrays.getD i bB).2<0)||decide ((p.lev.length:Int)≤(c.arrays.getD i bB).2))=true:=h2
    rw[hva,hl] at h2;cases h2
   have hrl:=bD i λi=>uX p i (c.arrays.getD i bB)
   refine x.code Z tR ?_
   refine x.perm [0,1,2,3,5,4] Z ?_
   refine x.FJ 5 [3,5] [0,2,4,5,6,7,8,9,10,11] (mkO [(1,[]),(3,[]),(12,[3]),(13,[12]),(14,[1,13]),(15,[14]),(16,[15])] 8 [])
    ⟨[(2,.ptr 0 0),(3,.ptr 1 0),(4,.ptr 2 0),(6,.ptr 3 0),(21,.d (dR c.arrays)),(22,vi (c.arrays.length:Int)),(23,vi (i:Int))],[(3,.box [.own 5,.aF]),(5,Ga (rng (i+1) λi=>uX p i (c.arrays.getD i bB)))],6⟩ Z tR ay Z (by kernel_rfl) Ret.bP Z (by simp only[ak,afT];omega) (λC2 x2=>?_) ?_
   ·repeat' first
     | exact True.intro
     | refine And.intro ?_ ?_
     | refine x2.pure rfl tR rfl (kS 97 (i:Int) (by unfold aj;omega)) ⟨rfl,rfl,tR⟩ (x2.back rfl tR ?_)
     | refine x2.back rfl tR ?_
     | refine x2.back rfl (by simp only[ak,big,hrl];omega) ?_
     | exact Or.inl ⟨⟨⟨rfl,rfl⟩,⟨rfl,rfl⟩,⟨rfl,rfl⟩,⟨rfl,rfl⟩,au rfl,rfl,rfl,tR⟩,⟨⟨rfl,tR,tR⟩,⟨rfl,rfl,by rw[jQ];simp,λj hj=>by rw[jQ];exact gX yQ 4 (λ_=>rfl) bR _ (uX p i (c.arrays.getD i bB)) j hj⟩,tR⟩,rfl⟩
   refine x.perm [0,1,2,3,5,4] Z ?_
   refine x.back Z (by simp only[ak,aj];omega) ⟨⟨i+1,by omega,λj hj=>?_⟩,by show c.arrays.length-(i+1)<c.arrays.length-i;omega,⟨⟨Z,Z⟩,⟨Z,Z⟩,⟨Z,Z⟩,⟨Z,Z⟩,au Z,Z,(show aB (vi ((i:Int)+1)) (vi ((i+1:Nat):Int)) by rw[afQ];rfl),tR⟩,⟨bL p,⟨ah Z,ah Z,Z,tR⟩,⟨Z,Z,tR⟩,⟨Z,tR,tR⟩,⟨Z,Z,Z,λ_ _=>rfl⟩,tR⟩,Z⟩
   by_cases e:j=i
   ·rw[e];exact hl
   ·exact hlo j (by omega)
 have h1:i=c.arrays.length:=by have:=afI h1;omega
 subst h1
 have hla:c.arrays.all (wL p)=true:=KN bB hlo
 refine Sx.Go.freeze 4 ?_
 refine x.toLoop Z tR ?_
 refine Go.ownB 3 1 82 4 (λi=>yP (([]:List Fun).getD i bG)) Z Z ?_
 refine x.loop (α:={i:Nat // i≤c.funcs.length∧∀j,j<i->qU p c.main (c.funcs.getD j aA)=true}) (λy=>⟨[(2,.ptr 0 0),(3,.ptr 1 0),(4,.ptr 2 0),(6,.ptr 3 0),(58,.d (dL c.funcs)),(59,vi (c.funcs.length:Int)),(60,vi (y.1:Int))],[(0,j3 p),(1,.box [.d (dR c.arrays),.d (dL c.funcs),vi c.main]),(2,.box [.dead,.dead]),(3,.box [.d (bV (rng c.arrays.length λi=>uX p i (c.arrays.getD i bB))),.own 5]),(5,sw (rng y.1 λi=>oz p c.main i (c.funcs.getD i aA)))],6⟩) (λy=>c.funcs.length-y.1) ⟨0,Nat.zero_le _,λj hj=>absurd hj (afN _)⟩ Z tR ⟨⟨⟨Z,Z⟩,⟨Z,Z⟩,⟨Z,Z⟩,⟨Z,Z⟩,au Z,Z,Z,tR⟩,⟨bL p,⟨ah Z,ah Z,Z,tR⟩,⟨Z,Z,tR⟩,⟨ah Z,Z,tR⟩,⟨Z,Z,Z,λ_ h=>absurd h (afN _)⟩,tR⟩,Z⟩ (λy=>?_)
 clear hlo
 obtain⟨i,hi,hlo⟩:=y
 change Go C _ ⟨[(2,.ptr 0 0),(3,.ptr 1 0),(4,.ptr 2 0),(6,.ptr 3 0),(58,.d (dL c.funcs)),(59,vi (c.funcs.length:Int)),(60,vi (i:Int))],[(0,j3 p),(1,.box [.d (dR c.arrays),.d (dL c.funcs),vi c.main]),(2,.box [.dead,.dead]),(3,.box [.d (bV (rng c.arrays.length λi=>uX p i (c.arrays.getD i bB))),.own 5]),(5,sw (rng i λi=>oz p c.main i (c.funcs.getD i aA)))],6⟩ _
 refine x.cond Z tR (λh1=>?_) (λh1=>?_)
 rotate_left
 ·have h1:i=c.funcs.length:=by have:=afI h1;omega
  subst h1
  have hlb:c.funcs.all (qU p c.main)=true:=KN aA hlo
  rw[kC,if_pos (by rw[hla,hlb];rfl)]
  refine Sx.Go.freeze 5 ?_
  exact x.exit Z tR ⟨.inr Z,⟨Z,Z,tR⟩,tR,Z⟩
 have h1:i<c.funcs.length:=by have:=afH h1;omega
 have hin:=getD_in aA h1
 have hbl:=hc.bl _ hin
 have hll:=hc.ll _ hin
 have hfr:=bD i λi=>oz p c.main i (c.funcs.getD i aA)
 refine x.pure Z (by simp only[ak];omega) Z (kS 102 (i:Int) (by unfold aj;omega)) ⟨Z,Z,tR⟩ ?_
 refine x.ite (α:=Unit) (λ_=>⟨[(2,.ptr 0 0),(3,.ptr 1 0),(4,.ptr 2 0),(6,.ptr 3 0),(58,.d (dL c.funcs)),(59,vi (c.funcs.length:Int)),(60,vi (i:Int)),(10,.ptr 6 0),(11,.ptr 7 0)],[(0,j3 p),(1,.box [.d (dR c.arrays),.d (dL c.funcs),vi c.main]),(2,.box [.dead,.dead]),(3,.box [.d (bV (rng c.arrays.length λi=>uX p i (c.arrays.getD i bB))),.own 5]),(5,sw (rng i λi=>oz p c.main i (c.funcs.getD i aA))),(6,.box [vi (c.funcs.getD i aA).params,vi (c.funcs.getD i aA).vars,.d (p9 (c.funcs.getD i aA).blocks)]),(7,.box [vs (fnN c.main i),.aF,.aF,vi 0])],8⟩) Z tR (λh2=>?_) (λh2=>?_) (λ_=>?_)
 ·have h2:(i:Int)=c.main:=afH h2
  have e:fnN c.main i=eH:=by unfold fnN;rw[if_pos h2]
  rw[e]
  exact x.back Z tR ⟨(),⟨⟨Z,Z⟩,⟨Z,Z⟩,⟨Z,Z⟩,⟨Z,Z⟩,au Z,Z,Z,⟨Z,Z⟩,⟨Z,Z⟩,tR⟩,⟨bL p,⟨ah Z,ah Z,Z,tR⟩,⟨Z,Z,tR⟩,⟨ah Z,Z,tR⟩,⟨Z,Z,Z,λ_ _=>rfl⟩,⟨Z,Z,ah Z,tR⟩,⟨Z,tR,tR,Z,tR⟩,tR⟩,Z⟩
 ·have h2:¬(i:Int)=c.main:=afI h2
  have e:fnN c.main i=nmN 102 (i:Int):=by unfold fnN;rw[if_neg h2]
  rw[e]
  exact x.back Z tR ⟨(),⟨⟨Z,Z⟩,⟨Z,Z⟩,⟨Z,Z⟩,⟨Z,Z⟩,au Z,Z,Z,⟨Z,Z⟩,⟨Z,Z⟩,tR⟩,⟨bL p,⟨ah Z,ah Z,Z,tR⟩,⟨Z,Z,tR⟩,⟨ah Z,Z,tR⟩,⟨Z,Z,Z,λ_ _=>rfl⟩,⟨Z,Z,ah Z,tR⟩,⟨Z,tR,tR,Z,tR⟩,tR⟩,Z⟩
 change Go C _ ⟨[(2,.ptr 0 0),(3,.ptr 1 0),(4,.ptr 2 0),(6,.ptr 3 0),(58,.d (dL c.funcs)),(59,vi (c.funcs.length:Int)),(60,vi (i:Int)),(10,.ptr 6 0),(11,.ptr 7 0)],[(0,j3 p),(1,.box [.d (dR c.arrays),.d (dL c.funcs),vi c.main]),(2,.box [.dead,.dead]),(3,.box [.d (bV (rng c.arrays.length λi=>uX p i (c.arrays.getD i bB))),.own 5]),(5,sw (rng i λi=>oz p c.main i (c.funcs.getD i aA))),(6,.box [vi (c.funcs.getD i aA).params,vi (c.funcs.getD i aA).vars,.d (p9 (c.funcs.getD i aA).blocks)]),(7,.box [vs (fnN c.main i),.aF,.aF,vi 0])],8⟩ _
 refine x.cond Z tR (λh2=>?_) (λh2=>?_)
 ·have h2:(decide ((c.funcs.getD i aA).params<0)||decide (6<(c.funcs.getD i aA).params))=true:=h2
  have hb:qU p c.main (c.funcs.getD i aA)=false:=by
   unfold qU
   rw[Bool.or_eq_true,afL,afL] at h2
   rcases h2 with h2 | h2
   ·rw[decide_eq_false (show ¬0≤(c.funcs.getD i aA).params by omega)];rfl
   ·rw[decide_eq_false (show ¬(c.funcs.getD i aA).params≤6 by omega),Bool.and_false];rfl
  have hno:(c.arrays.all (wL p)&&c.funcs.all (qU p c.main))=false:=by rw[Ao h1 hb,Bool.and_false]
  rw[kC,if_neg (by rw[hno];simp)]
  refine x.lU ?_
  exact x.exit Z tR ⟨⟨[(4,.ptr 2 0),(5,vb false)],[(2,.box [.dead,.dead])],8⟩,⟨⟨⟨Z,Z⟩,Z,tR⟩,⟨⟨Z,Z,tR⟩,tR⟩,Z⟩,.inr Z,⟨Z,Z,tR⟩,tR,Z⟩
 have h2:(decide ((c.funcs.getD i aA).params<0)||decide (6<(c.funcs.getD i aA).params))=false:=h2
 rw[afU,afP,afP] at h2
 obtain⟨P,hP⟩:∃P:Nat,(c.funcs.getD i aA).params=(P:Int):=⟨(c.funcs.getD i aA).params.toNat,by omega⟩
 refine x.toLoop Z tR ?_
 refine Go.ownB 7 1 9 1 (λi=>[.str (([]:List BY).getD i .empty)]) Z Z ?_
 refine x.loop (α:={k:Nat // k≤P}) (λy=>⟨[(2,.ptr 0 0),(3,.ptr 1 0),(4,.ptr 2 0),(6,.ptr 3 0),(58,.d (dL c.funcs)),(59,vi (c.funcs.length:Int)),(60,vi (i:Int)),(10,.ptr 6 0),(11,.ptr 7 0),(83,vi (c.funcs.getD i aA).params),(84,vi (y.1:Int))],[(0,j3 p),(1,.box [.d (dR c.arrays),.d (dL c.funcs),vi c.main]),(2,.box [.dead,.dead]),(3,.box [.d (bV (rng c.arrays.length λi=>uX p i (c.arrays.getD i bB))),.own 5]),(5,sw (rng i λi=>oz p c.main i (c.funcs.getD i aA))),(6,.box [vi (c.funcs.getD i aA).params,vi (c.funcs.getD i aA).vars,.d (p9 (c.funcs.getD i aA).blocks)]),(7,.box [vs (fnN c.main i),.own 8,.aF,vi 0]),(8,iw (rng y.1 λk=>nmN 118 (k:Int)))],9⟩) (λy=>P-y.1) ⟨0,Nat.zero_le _⟩ Z tR ⟨⟨⟨Z,Z⟩,⟨Z,Z⟩,⟨Z,Z⟩,⟨Z,Z⟩,au Z,Z,Z,⟨Z,Z⟩,⟨Z,Z⟩,Z,Z,tR⟩,⟨bL p,⟨ah Z,ah Z,Z,tR⟩,⟨Z,Z,tR⟩,⟨ah Z,Z,tR⟩,⟨Z,Z,Z,λ_ _=>rfl⟩,⟨Z,Z,ah Z,tR⟩,⟨Z,Z,tR,Z,tR⟩,⟨Z,Z,Z,λ_ h=>absurd h (afN _)⟩,tR⟩,Z⟩ (λy=>?_)
 obtain⟨k,hk⟩:=y
 change Go C _ ⟨[(2,.ptr 0 0),(3,.ptr 1 0),(4,.ptr 2 0),(6,.ptr 3 0),(58,.d (dL c.funcs)),(59,vi (c.funcs.length:Int)),(60,vi (i:Int)),(10,.ptr 6 0),(11,.ptr 7 0),(83,vi (c.funcs.getD i aA).params),(84,vi (k:Int))],[(0,j3 p),(1,.box [.d (dR c.arrays),.d (dL c.funcs),vi c.main]),(2,.box [.dead,.dead]),(3,.box [.d (bV (rng c.arrays.length λi=>uX p i (c.arrays.getD i bB))),.own 5]),(5,sw (rng i λi=>oz p c.main i (c.funcs.getD i aA))),(6,.box [vi (c.funcs.getD i aA).params,vi (c.funcs.getD i aA).vars,.d (p9 (c.funcs.getD i aA).blocks)]),(7,.box [vs (fnN c.main i),.own 8,.aF,vi 0]),(8,iw (rng k λk=>nmN 118 (k:Int)))],9⟩ _
 refine x.cond Z tR (λh3=>?_) (λh3=>?_)
 ·have h3:(k:Int)<(c.funcs.getD i aA).params:=afH h3
  have hpl:=bD k λk=>nmN 118 (k:Int)
  refine x.FJ 7 [7,8] [0,2] (mkO [(1,[]),(3,[]),(4,[3]),(5,[1,4]),(6,[5]),(7,[6])] 7 [])
   ⟨[(2,.ptr 0 0),(3,.ptr 1 0),(4,.ptr 2 0),(6,.ptr 3 0),(58,.d (dL c.funcs)),(59,vi (c.funcs.length:Int)),(60,vi (i:Int)),(10,.ptr 6 0),(11,.ptr 7 0),(83,vi (c.funcs.getD i aA).params),(84,vi (k:Int))],[(7,.box [vs (fnN c.main i),.own 8,.aF,vi 0]),(8,iw (rng (k+1) λk=>nmN 118 (k:Int)))],9⟩ Z tR ay Z (by kernel_rfl) Ret.bP Z tR (λC2 x2=>?_) ?_
  ·repeat' first
    | exact True.intro
    | refine And.intro ?_ ?_
    | refine x2.pure rfl tR rfl (kS 118 (k:Int) (by unfold aj;omega)) ⟨rfl,rfl,tR⟩ (x2.back rfl tR ?_)
    | refine x2.back rfl tR ?_
    | refine x2.back rfl (by simp only[ak,big,hpl];omega) ?_
    | exact Or.inl ⟨⟨⟨rfl,rfl⟩,⟨rfl,rfl⟩,⟨rfl,rfl⟩,⟨rfl,rfl⟩,au rfl,rfl,rfl,⟨rfl,rfl⟩,⟨rfl,rfl⟩,rfl,rfl,tR⟩,⟨⟨rfl,rfl,tR,rfl,tR⟩,⟨rfl,rfl,by rw[jQ];simp,λj hj=>by rw[jQ];exact jr _ _ j hj⟩,tR⟩,rfl⟩
  exact x.back Z (by simp only[ak,aj];omega) ⟨⟨k+1,by omega⟩,by show P-(k+1)<P-k;omega,⟨⟨Z,Z⟩,⟨Z,Z⟩,⟨Z,Z⟩,⟨Z,Z⟩,au Z,Z,Z,⟨Z,Z⟩,⟨Z,Z⟩,Z,(show aB (vi ((k:Int)+1)) (vi ((k+1:Nat):Int)) by rw[afQ];rfl),tR⟩,⟨bL p,⟨ah Z,ah Z,Z,tR⟩,⟨Z,Z,tR⟩,⟨ah Z,Z,tR⟩,⟨Z,Z,Z,λ_ _=>rfl⟩,⟨Z,Z,ah Z,tR⟩,⟨Z,Z,tR,Z,tR⟩,⟨Z,Z,Z,λ_ _=>rfl⟩,tR⟩,Z⟩
 have h3:¬(k:Int)<(c.funcs.getD i aA).params:=afI h3
 obtain rfl:k=P:=by omega
 have hpar:(rng k λk=>nmN 118 (k:Int))=Cj (c.funcs.getD i aA).params:=by unfold Cj;rw[hP];rfl
 rw[hpar]
 refine Sx.Go.freeze 8 ?_
 refine x.toLoop Z tR ?_
 refine Go.ownB 7 2 85 3 (λi=>Kn (([]:List Blk).getD i bq)) Z Z ?_
 refine x.loop (α:={k:Nat // k≤(c.funcs.getD i aA).blocks.length∧∀j,j<k->NS p c.main ((c.funcs.getD i aA).blocks.getD j [])=true}) (λy=>⟨[(2,.ptr 0 0),(3,.ptr 1 0),(4,.ptr 2 0),(6,.ptr 3 0),(58,.d (dL c.funcs)),(59,vi (c.funcs.length:Int)),(60,vi (i:Int)),(10,.ptr 6 0),(11,.ptr 7 0),(96,.d (p9 (c.funcs.getD i aA).blocks)),(97,vi ((c.funcs.getD i aA).blocks.length:Int)),(98,vi (y.1:Int))],[(0,j3 p),(1,.box [.d (dR c.arrays),.d (dL c.funcs),vi c.main]),(2,.box [.dead,.dead]),(3,.box [.d (bV (rng c.arrays.length λi=>uX p i (c.arrays.getD i bB))),.own 5]),(5,sw (rng i λi=>oz p c.main i (c.funcs.getD i aA))),(6,.box [vi (c.funcs.getD i aA).params,vi (c.funcs.getD i aA).vars,.d (p9 (c.funcs.getD i aA).blocks)]),(7,.box [vs (fnN c.main i),.d (aZ (Cj (c.funcs.getD i aA).params)),.own 9,vi 0]),(9,Dv (rng y.1 λk=>GI p c.main k ((c.funcs.getD i aA).blocks.getD k [])))],10⟩) (λy=>(c.funcs.getD i aA).blocks.length-y.1) ⟨0,Nat.zero_le _,λj hj=>absurd hj (afN _)⟩ Z tR ⟨⟨⟨Z,Z⟩,⟨Z,Z⟩,⟨Z,Z⟩,⟨Z,Z⟩,au Z,Z,Z,⟨Z,Z⟩,⟨Z,Z⟩,au Z,Z,Z,tR⟩,⟨bL p,⟨ah Z,ah Z,Z,tR⟩,⟨Z,Z,tR⟩,⟨ah Z,Z,tR⟩,⟨Z,Z,Z,λ_ _=>rfl⟩,⟨Z,Z,ah Z,tR⟩,⟨Z,ah Z,Z,Z,tR⟩,⟨Z,Z,Z,λ_ h=>absurd h (afN _)⟩,tR⟩,Z⟩ (λy=>?_)
 clear h3 hpar hP hk
 obtain⟨k,hk,hko⟩:=y
 change Go C _ ⟨[(2,.ptr 0 0),(3,.ptr 1 0),(4,.ptr 2 0),(6,.ptr 3 0),(58,.d (dL c.funcs)),(59,vi (c.funcs.length:Int)),(60,vi (i:Int)),(10,.ptr 6 0),(11,.ptr 7 0),(96,.d (p9 (c.funcs.getD i aA).blocks)),(97,vi ((c.funcs.getD i aA).blocks.length:Int)),(98,vi (k:Int))],[(0,j3 p),(1,.box [.d (dR c.arrays),.d (dL c.funcs),vi c.main]),(2,.box [.dead,.dead]),(3,.box [.d (bV (rng c.arrays.length λi=>uX p i (c.arrays.getD i bB))),.own 5]),(5,sw (rng i λi=>oz p c.main i (c.funcs.getD i aA))),(6,.box [vi (c.funcs.getD i aA).params,vi (c.funcs.getD i aA).vars,.d (p9 (c.funcs.getD i aA).blocks)]),(7,.box [vs (fnN c.main i),.d (aZ (Cj (c.funcs.getD i aA).params)),.own 9,vi 0]),(9,Dv (rng k λk=>GI p c.main k ((c.funcs.getD i aA).blocks.getD k [])))],10⟩ _
 refine x.cond Z tR (λh3=>?_) (λh3=>?_)
 rotate_left
 ·have h3:k=(c.funcs.getD i aA).blocks.length:=by have:=afI h3;omega
  subst h3
  have hbo:qU p c.main (c.funcs.getD i aA)=true:=by
   unfold qU
   rw[decide_eq_true (show 0≤(c.funcs.getD i aA).params by omega),decide_eq_true (show (c.funcs.getD i aA).params≤6 by omega),KN [] hko];rfl
  refine Sx.Go.freeze 9 ?_
  refine x.back rfl (by simp only[ak,aj,big,hfr];omega) ⟨⟨i+1,by omega,λj hj=>?_⟩,by show c.funcs.length-(i+1)<c.funcs.length-i;omega,⟨⟨rfl,rfl⟩,⟨rfl,rfl⟩,⟨rfl,rfl⟩,⟨rfl,rfl⟩,au rfl,rfl,(show aB (vi ((i:Int)+1)) (vi ((i+1:Nat):Int)) by rw[afQ];rfl),tR⟩,⟨bL p,⟨ah rfl,ah rfl,rfl,tR⟩,⟨rfl,rfl,tR⟩,⟨ah rfl,rfl,tR⟩,⟨rfl,rfl,?_,λj hj=>?_⟩,tR⟩,rfl⟩
  ·by_cases e:j=i
   ·rw[e];exact hbo
   ·exact hlo j (by omega)
  ·rw[jQ];simp
  ·rw[jQ];exact gX yP 4 (λ_=>rfl) bG _ (oz p c.main i (c.funcs.getD i aA)) j hj
 have h3:k<(c.funcs.getD i aA).blocks.length:=by have:=afH h3;omega
 obtain⟨hlk,hlx⟩:=hll _ (getD_in [] h3)
 have hbr:=bD k λk=>GI p c.main k ((c.funcs.getD i aA).blocks.getD k [])
 refine x.pure Z (by simp only[ak];omega) Z (kS 98 (k:Int) (by unfold aj;omega)) ⟨Z,Z,tR⟩ ?_
 refine x.toLoop Z tR ?_
 refine Go.ownB 10 1 87 9 (λi=>MS (([]:List Ins).getD i (aP 0))) Z Z ?_
 refine x.loop (α:={m:Nat // m≤((c.funcs.getD i aA).blocks.getD k []).length∧∀j,j<m->(iE p c.main (((c.funcs.getD i aA).blocks.getD k []).getD j op0)).2=true}) (λy=>⟨[(2,.ptr 0 0),(3,.ptr 1 0),(4,.ptr 2 0),(6,.ptr 3 0),(58,.d (dL c.funcs)),(59,vi (c.funcs.length:Int)),(60,vi (i:Int)),(10,.ptr 6 0),(11,.ptr 7 0),(96,.d (p9 (c.funcs.getD i aA).blocks)),(97,vi ((c.funcs.getD i aA).blocks.length:Int)),(98,vi (k:Int)),(15,.ptr 10 0),(106,.d (tY ((c.funcs.getD i aA).blocks.getD k []))),(107,vi (((c.funcs.getD i aA).blocks.getD k []).length:Int)),(108,vi (y.1:Int))],[(0,j3 p),(1,.box [.d (dR c.arrays),.d (dL c.funcs),vi c.main]),(2,.box [.dead,.dead]),(3,.box [.d (bV (rng c.arrays.length λi=>uX p i (c.arrays.getD i bB))),.own 5]),(5,sw (rng i λi=>oz p c.main i (c.funcs.getD i aA))),(6,.box [vi (c.funcs.getD i aA).params,vi (c.funcs.getD i aA).vars,.d (p9 (c.funcs.getD i aA).blocks)]),(7,.box [vs (fnN c.main i),.d (aZ (Cj (c.funcs.getD i aA).params)),.own 9,vi 0]),(9,Dv (rng k λk=>GI p c.main k ((c.funcs.getD i aA).blocks.getD k []))),(10,.box [vs (nmN 98 (k:Int)),.own 11,vi 0]),(11,F8 ((((c.funcs.getD i aA).blocks.getD k []).take y.1).map (aN p c.main)))],12⟩) (λy=>((c.funcs.getD i aA).blocks.getD k []).length-y.1) ⟨0,Nat.zero_le _,λj hj=>absurd hj (afN _)⟩ Z tR ⟨⟨⟨Z,Z⟩,⟨Z,Z⟩,⟨Z,Z⟩,⟨Z,Z⟩,au Z,Z,Z,⟨Z,Z⟩,⟨Z,Z⟩,au Z,Z,Z,⟨Z,Z⟩,au Z,Z,Z,tR⟩,⟨bL p,⟨ah Z,ah Z,Z,tR⟩,⟨Z,Z,tR⟩,⟨ah Z,Z,tR⟩,⟨Z,Z,Z,λ_ _=>rfl⟩,⟨Z,Z,ah Z,tR⟩,⟨Z,ah Z,Z,Z,tR⟩,⟨Z,Z,Z,λ_ _=>rfl⟩,⟨Z,Z,Z,tR⟩,⟨Z,Z,Z,λ_ h=>absurd h (afN _)⟩,tR⟩,Z⟩ (λy=>?_)
 obtain⟨m,hm,hmo⟩:=y
 change Go C _ ⟨[(2,.ptr 0 0),(3,.ptr 1 0),(4,.ptr 2 0),(6,.ptr 3 0),(58,.d (dL c.funcs)),(59,vi (c.funcs.length:Int)),(60,vi (i:Int)),(10,.ptr 6 0),(11,.ptr 7 0),(96,.d (p9 (c.funcs.getD i aA).blocks)),(97,vi ((c.funcs.getD i aA).blocks.length:Int)),(98,vi (k:Int)),(15,.ptr 10 0),(106,.d (tY ((c.funcs.getD i aA).blocks.getD k []))),(107,vi (((c.funcs.getD i aA).blocks.getD k []).length:Int)),(108,vi (m:Int))],[(0,j3 p),(1,.box [.d (dR c.arrays),.d (dL c.funcs),vi c.main]),(2,.box [.dead,.dead]),(3,.box [.d (bV (rng c.arrays.length λi=>uX p i (c.arrays.getD i bB))),.own 5]),(5,sw (rng i λi=>oz p c.main i (c.funcs.getD i aA))),(6,.box [vi (c.funcs.getD i aA).params,vi (c.funcs.getD i aA).vars,.d (p9 (c.funcs.getD i aA).blocks)]),(7,.box [vs (fnN c.main i),.d (aZ (Cj (c.funcs.getD i aA).params)),.own 9,vi 0]),(9,Dv (rng k λk=>GI p c.main k ((c.funcs.getD i aA).blocks.getD k []))),(10,.box [vs (nmN 98 (k:Int)),.own 11,vi 0]),(11,F8 ((((c.funcs.getD i aA).blocks.getD k []).take m).map (aN p c.main)))],12⟩ _
 refine x.cond Z tR (λh4=>?_) (λh4=>?_)
 rotate_left
 ·have h4:m=((c.funcs.getD i aA).blocks.getD k []).length:=by have:=afI h4;omega
  subst h4
  have hoo:NS p c.main ((c.funcs.getD i aA).blocks.getD k [])=true:=KN op0 hmo
  rw[List.take_length]
  refine Sx.Go.freeze 11 ?_
  refine x.back rfl (by simp only[ak,aj,big,hbr];omega) ⟨⟨k+1,by omega,λj hj=>?_⟩,by show (c.funcs.getD i aA).blocks.length-(k+1)<(c.funcs.getD i aA).blocks.length-k;omega,⟨⟨rfl,rfl⟩,⟨rfl,rfl⟩,⟨rfl,rfl⟩,⟨rfl,rfl⟩,au rfl,rfl,rfl,⟨rfl,rfl⟩,⟨rfl,rfl⟩,au rfl,rfl,(show aB (vi ((k:Int)+1)) (vi ((k+1:Nat):Int)) by rw[afQ];rfl),tR⟩,⟨bL p,⟨ah rfl,ah rfl,rfl,tR⟩,⟨rfl,rfl,tR⟩,⟨ah rfl,rfl,tR⟩,⟨rfl,rfl,rfl,λ_ _=>rfl⟩,⟨rfl,rfl,ah rfl,tR⟩,⟨rfl,ah rfl,rfl,rfl,tR⟩,⟨rfl,rfl,?_,λj hj=>?_⟩,tR⟩,rfl⟩
  ·by_cases e:j=k
   ·rw[e];exact hoo
   ·exact hko j (by omega)
  ·rw[jQ];simp
  ·rw[jQ];exact gX Kn 3 (λ_=>rfl) bq _ (GI p c.main k ((c.funcs.getD i aA).blocks.getD k [])) j hj
 have h4:m<((c.funcs.getD i aA).blocks.getD k []).length:=by have:=afH h4;omega
 have htl:((((c.funcs.getD i aA).blocks.getD k []).take m).map (aN p c.main)).length=m:=by rw[List.length_map,List.length_take];omega
 have et:(((c.funcs.getD i aA).blocks.getD k []).take (m+1)).map (aN p c.main)=(((c.funcs.getD i aA).blocks.getD k []).take m).map (aN p c.main)++[aN p c.main (((c.funcs.getD i aA).blocks.getD k []).getD m op0)]:=by
  have e:((c.funcs.getD i aA).blocks.getD k [])[m]?=some (((c.funcs.getD i aA).blocks.getD k []).getD m op0):=by rw[afE (l:=((c.funcs.getD i aA).blocks.getD k [])),afG h4];rfl
  rw[take_succ e,List.map_append];rfl
 refine x.pure Z (by simp only[ak];omega) Z (NR p c (((c.funcs.getD i aA).blocks.getD k []).getD m op0) hz hp (hlx _ (getD_in op0 h4))) ⟨⟨ah Z,ah Z,ah Z,ah Z,Z,tR⟩,⟨ah Z,ah Z,Z,tR⟩,⟨Z,Z,Z,Z,Z,ah Z,ah Z,Z,Z,tR⟩,tR⟩ ?_
 cases hrr:(iE p c.main (((c.funcs.getD i aA).blocks.getD k []).getD m op0)).2 with
 | false=>
  have hb:qU p c.main (c.funcs.getD i aA)=false:=by
   unfold qU
   rw[Ao h3 (P:=NS p c.main) (d:=[]) (Ao h4 (P:=λx=>(iE p c.main x).2) (d:=op0) hrr),Bool.and_false]
  have hno:(c.arrays.all (wL p)&&c.funcs.all (qU p c.main))=false:=by rw[Ao h1 hb,Bool.and_false]
  refine x.cond Z tR (λh5=>?_) (λh5=>?_)
  ·rw[kC,if_neg (by rw[hno];simp)]
   refine x.lU ?_
   exact x.exit Z tR ⟨⟨[(4,.ptr 2 0),(5,vb false)],[(2,.box [.dead,.dead])],14⟩,⟨⟨⟨Z,Z⟩,Z,tR⟩,⟨⟨Z,Z,tR⟩,tR⟩,Z⟩,.inr Z,⟨Z,Z,tR⟩,tR,Z⟩
  ·cases (show true=false from h5)
 | true=>
  refine x.cond Z tR (λh5=>?_) (λh5=>?_)
  ·cases (show false=true from h5)
  refine x.back rfl (by simp only[ak,aj,big,htl];omega) ⟨⟨m+1,by omega,λj hj=>?_⟩,by show ((c.funcs.getD i aA).blocks.getD k []).length-(m+1)<((c.funcs.getD i aA).blocks.getD k []).length-m;omega,⟨⟨rfl,rfl⟩,⟨rfl,rfl⟩,⟨rfl,rfl⟩,⟨rfl,rfl⟩,au rfl,rfl,rfl,⟨rfl,rfl⟩,⟨rfl,rfl⟩,au rfl,rfl,rfl,⟨rfl,rfl⟩,au rfl,rfl,(show aB (vi ((m:Int)+1)) (vi ((m+1:Nat):Int)) by rw[afQ];rfl),tR⟩,⟨bL p,⟨ah rfl,ah rfl,rfl,tR⟩,⟨rfl,rfl,tR⟩,⟨ah rfl,rfl,tR⟩,⟨rfl,rfl,rfl,λ_ _=>rfl⟩,⟨rfl,rfl,ah rfl,tR⟩,⟨rfl,ah rfl,rfl,rfl,tR⟩,⟨rfl,rfl,rfl,λ_ _=>rfl⟩,⟨rfl,rfl,rfl,tR⟩,⟨rfl,rfl,?_,λj hj=>?_⟩,tR⟩,rfl⟩
  ·by_cases e:j=m
   ·rw[e];exact hrr
   ·exact hmo j (by omega)
  ·rw[et];simp
  ·rw[et];exact gX MS 9 (λ_=>rfl) (aP 0) _ (aN p c.main (((c.funcs.getD i aA).blocks.getD k []).getD m op0)) j hj
def lI{α:Type}(P:α->α->Bool)(d:α)(a b:List α):Bool:=decide (a.length=b.length)&&fK (λi=>P (a.getD i d) (b.getD i d)) a.length 0
def nV(a b:Op9):Bool:=((((((decide (a.kind=b.kind)&&decide (a.op=b.op))&&decide (a.dst=b.dst))&&decide (a.ref=b.ref))&&decide (a.alt=b.alt))&&decide (a.num=b.num))&&decide (a.args=b.args))&&decide (a.frm=b.frm)
def oC(a b:List Op9):Bool:=lI nV op0 a b
def aav(a b:List (List Op9)):Bool:=lI oC [] a b
def j4(a b:Bod):Bool:=(decide (a.params=b.params)&&decide (a.vars=b.vars))&&aav a.blocks b.blocks
def sM(a b:List Bod):Bool:=lI j4 aA a b
theorem Yw{a b:List Int}(h1:a.length=b.length)(h2:∀j,j<a.length->a.getD j 0=b.getD j 0):a=b:=List.ext_getElem h1 λj hj hj'=>by
 have:=h2 j hj
 rwa [afE,afE,afG hj,afG hj'] at this
theorem Yx{a b:List Cel}(h1:a.length=b.length)(h2:∀j,j<a.length->a.getD j bB=b.getD j bB):a=b:=List.ext_getElem h1 λj hj hj'=>by
 have:=h2 j hj
 rwa [afE,afE,afG hj,afG hj'] at this
theorem NU(a b:List Int)(ha:a.length*8≤140737488355328):Pure PG 75 [.d (gY a),.d (gY b)] (vb (decide (a=b))) []:=by
 refine aD.mk (cfg 26) av [] Tryz.func75 Z (by kernel_rfl) Z Z Z ?_
 intro C x
 refine x.cond Z tR (λh=>?_) (λh=>?_)
 ·have h:(!decide ((a.length:Int)=(b.length:Int)))=true:=h
  have h:¬(a.length:Int)=b.length:=by simpa using h
  refine x.exit Z tR ⟨.inr Z,?_,tR,Z⟩
  rw[decide_eq_false (show ¬a=b from λe=>h (by rw[e]))];exact Z
 have h:(!decide ((a.length:Int)=(b.length:Int)))=false:=h
 have hl:a.length=b.length:=by
  have:(a.length:Int)=b.length:=by simpa using h
  omega
 refine x.loop (α:={i:Nat // i≤a.length∧∀j,j<i->a.getD j 0=b.getD j 0}) (λy=>⟨[(0,.d (gY a)),(1,.d (gY b)),(12,vi (a.length:Int)),(13,vi (y.1:Int))],[],0⟩) (λy=>a.length-y.1) ⟨0,Nat.zero_le _,λj hj=>by omega⟩ Z tR ⟨⟨au Z,au Z,Z,Z,tR⟩,tR,Z⟩ (λy=>?_)
 obtain⟨i,hi,hs⟩:=y
 change Go C _ ⟨[(0,.d (gY a)),(1,.d (gY b)),(12,vi (a.length:Int)),(13,vi (i:Int))],[],0⟩ _
 refine x.cond Z tR (λh1=>?_) (λh1=>?_)
 ·have h1:i<a.length:=by have:=afH h1;omega
  refine x.quiet Z tR ay (by kernel_rfl) ?_
  refine x.bS Z (by simp only[ak];omega) ?_
  have hv:decide (a.getD i 0=b.getD i 0)=decide (a.getD i 0=b.getD i 0):=by
   rfl
  refine x.cond Z tR (λh2=>?_) (λh2=>?_)
  ·have h2:(!decide (a.getD i 0=b.getD i 0))=true:=h2
   rw[hv] at h2
   refine x.exit Z tR ⟨.inr Z,?_,tR,Z⟩
   rw[decide_eq_false (show ¬a=b from λe=>by rw[e] at h2;simp at h2)];exact Z
  ·have h2:(!decide (a.getD i 0=b.getD i 0))=false:=h2
   rw[hv] at h2
   have h2:a.getD i 0=b.getD i 0:=by
    rw[Bool.not_eq_false',afL] at h2;exact h2
   refine x.back Z (by simp only[ak,aj];omega) ⟨⟨i+1,by omega,λj hj=>?_⟩,by show a.length-(i+1)<a.length-i;omega,⟨au Z,au Z,Z,(show aB (vi ((i:Int)+1)) (vi ((i+1:Nat):Int)) by rw[afQ];rfl),tR⟩,tR,Z⟩
   by_cases e:j=i
   ·rw[e];exact h2
   ·exact hs j (by omega)
 ·have h1:i=a.length:=by have:=afI h1;omega
  refine x.exit Z tR ⟨.inr Z,?_,tR,Z⟩
  rw[decide_eq_true (Yw hl λj hj=>hs j (by omega))];exact Z
theorem Yy(a b:List Cel)(ha:a.length*8≤140737488355328):Pure PG 23 [.d (dR a),.d (dR b)] (vb (decide (a=b))) []:=by
 refine aD.mk (cfg 26) av [] Tryz.func23 Z (by kernel_rfl) Z Z Z ?_
 intro C x
 refine x.cond Z tR (λh=>?_) (λh=>?_)
 ·have h:(!decide ((a.length:Int)=(b.length:Int)))=true:=h
  have h:¬(a.length:Int)=b.length:=by simpa using h
  refine x.exit Z tR ⟨.inr Z,?_,tR,Z⟩
  rw[decide_eq_false (show ¬a=b from λe=>h (by rw[e]))];exact Z
 have h:(!decide ((a.length:Int)=(b.length:Int)))=false:=h
 have hl:a.length=b.length:=by
  have:(a.length:Int)=b.length:=by simpa using h
  omega
 refine x.loop (α:={i:Nat // i≤a.length∧∀j,j<i->a.getD j bB=b.getD j bB}) (λy=>⟨[(0,.d (dR a)),(1,.d (dR b)),(12,vi (a.length:Int)),(13,vi (y.1:Int))],[],0⟩) (λy=>a.length-y.1) ⟨0,Nat.zero_le _,λj hj=>by omega⟩ Z tR ⟨⟨au Z,au Z,Z,Z,tR⟩,tR,Z⟩ (λy=>?_)
 obtain⟨i,hi,hs⟩:=y
 change Go C _ ⟨[(0,.d (dR a)),(1,.d (dR b)),(12,vi (a.length:Int)),(13,vi (i:Int))],[],0⟩ _
 refine x.cond Z tR (λh1=>?_) (λh1=>?_)
 ·have h1:i<a.length:=by have:=afH h1;omega
  refine x.quiet Z tR ay (by kernel_rfl) ?_
  refine x.bS Z (by simp only[ak];omega) ?_
  have hv:(decide ((a.getD i bB).1=(b.getD i bB).1)&&(decide ((a.getD i bB).2=(b.getD i bB).2)&&true))=decide (a.getD i bB=b.getD i bB):=by
   rw[Bool.and_true,←Bool.decide_and,decide_eq_decide,Prod.ext_iff]
  refine x.cond Z tR (λh2=>?_) (λh2=>?_)
  ·have h2:(!(decide ((a.getD i bB).1=(b.getD i bB).1)&&(decide ((a.getD i bB).2=(b.getD i bB).2)&&true)))=true:=h2
   rw[hv] at h2
   refine x.exit Z tR ⟨.inr Z,?_,tR,Z⟩
   rw[decide_eq_false (show ¬a=b from λe=>by rw[e] at h2;simp at h2)];exact Z
  ·have h2:(!(decide ((a.getD i bB).1=(b.getD i bB).1)&&(decide ((a.getD i bB).2=(b.getD i bB).2)&&true)))=false:=h2
   rw[hv] at h2
   have h2:a.getD i bB=b.getD i bB:=by
    rw[Bool.not_eq_false',afL] at h2;exact h2
   refine x.back Z (by simp only[ak,aj];omega) ⟨⟨i+1,by omega,λj hj=>?_⟩,by show a.length-(i+1)<a.length-i;omega,⟨au Z,au Z,Z,(show aB (vi ((i:Int)+1)) (vi ((i+1:Nat):Int)) by rw[afQ];rfl),tR⟩,tR,Z⟩
   by_cases e:j=i
   ·rw[e];exact h2
   ·exact hs j (by omega)
 ·have h1:i=a.length:=by have:=afI h1;omega
  refine x.exit Z tR ⟨.inr Z,?_,tR,Z⟩
  rw[decide_eq_true (Yx hl λj hj=>hs j (by omega))];exact Z
theorem NV(a b:Op9)(ha:a.args.length*8≤140737488355328)(hf:a.frm.length*8≤140737488355328):Pure PG 29 [opW a,opW b] (vb (nV a b)) []:=by
 refine aD.mk (cfg 59) av [] Tryz.func29 Z (by kernel_rfl) Z Z Z ?_
 intro C x
 refine x.bK Z tR Z (λ_=>NU a.args b.args ha) Z ⟨au Z,au Z,tR⟩ ?_
 refine x.bK Z tR Z (λ_=>NU a.frm b.frm hf) Z ⟨au Z,au Z,tR⟩ ?_
 exact x.exit Z tR ⟨.inr Z,Z,tR,Z⟩
structure OpZ(x:Op9):Prop where
 a:x.args.length*8≤140737488355328
 f:x.frm.length*8≤140737488355328
theorem Qx(a b:List Op9)(ha:a.length*8≤140737488355328)(hz:∀x∈a,OpZ x):Pure PG 28 [.d (tY a),.d (tY b),.fn 29 []] (vb (lI nV op0 a b)) []:=by
 refine aD.mk (cfg 32) av [] Tryz.func28 Z (by kernel_rfl) Z Z Z ?_
 intro C x
 refine x.cond Z tR (λh=>?_) (λh=>?_)
 ·have h:(!decide ((a.length:Int)=(b.length:Int)))=true:=h
  have h:¬(a.length:Int)=b.length:=by simpa using h
  refine x.exit Z tR ⟨.inr Z,?_,tR,Z⟩
  rw[lI,decide_eq_false (show ¬a.length=b.length by omega)];exact Z
 have h:(!decide ((a.length:Int)=(b.length:Int)))=false:=h
 have hl:a.length=b.length:=by
  have:(a.length:Int)=b.length:=by simpa using h
  omega
 have hS:lI nV op0 a b=fK (λi=>nV (a.getD i op0) (b.getD i op0)) a.length 0:=by rw[lI,decide_eq_true hl];rfl
 rw[hS]
 refine x.loop (α:={i:Nat // i≤a.length∧fK (λi=>nV (a.getD i op0) (b.getD i op0)) (a.length-i) i=fK (λi=>nV (a.getD i op0) (b.getD i op0)) a.length 0}) (λy=>⟨[(1,.d (tY b)),(2,.fn 29 []),(15,.d (tY a)),(16,vi (a.length:Int)),(17,vi (y.1:Int))],[],0⟩) (λy=>a.length-y.1) ⟨0,Nat.zero_le _,Z⟩ Z tR ⟨⟨au Z,Z,au Z,Z,Z,tR⟩,tR,Z⟩ (λy=>?_)
 obtain⟨i,hi,hs⟩:=y
 change Go C _ ⟨[(1,.d (tY b)),(2,.fn 29 []),(15,.d (tY a)),(16,vi (a.length:Int)),(17,vi (i:Int))],[],0⟩ _
 refine x.cond Z tR (λh1=>?_) (λh1=>?_)
 ·have h1:i<a.length:=by have:=afH h1;omega
  rw[mZ h1] at hs
  refine x.pure Z (by simp only[ak];omega) Z (NV (a.getD i op0) (b.getD i op0) (hz _ (getD_in op0 h1)).a (hz _ (getD_in op0 h1)).f) ⟨⟨Z,Z,Z,Z,Z,ah Z,ah Z,Z,Z,tR⟩,⟨Z,Z,Z,Z,Z,ah Z,ah Z,Z,Z,tR⟩,tR⟩ ?_
  cases hp:nV (a.getD i op0) (b.getD i op0) with
  | false=>
   refine x.cond Z tR (λh2=>?_) (λh2=>?_)
   ·refine x.exit Z tR ⟨.inr Z,?_,tR,Z⟩
    rw[←hs,hp];exact Z
   ·cases (show true=false from h2)
  | true=>
   refine x.cond Z tR (λh2=>?_) (λh2=>?_)
   ·cases (show false=true from h2)
   ·rw[hp,Bool.true_and] at hs
    exact x.back Z (by simp only[ak,aj];omega) ⟨⟨i+1,by omega,hs⟩,by show a.length-(i+1)<a.length-i;omega,⟨au Z,Z,au Z,Z,(show aB (vi ((i:Int)+1)) (vi ((i+1:Nat):Int)) by rw[afQ];rfl),tR⟩,tR,Z⟩
 ·have h1:i=a.length:=by have:=afI h1;omega
  refine x.exit Z tR ⟨.inr Z,?_,tR,Z⟩
  rw[h1,Nat.sub_self] at hs
  rw[←hs];exact Z
theorem Yz(a b:List Op9)(ha:a.length*8≤140737488355328)(hz:∀x∈a,OpZ x):Pure PG 27 [.d (tY a),.d (tY b)] (vb (oC a b)) []:=by
 refine aD.mk (cfg 8) av [] Tryz.func27 Z (by kernel_rfl) Z Z Z ?_
 intro C x
 refine x.pure Z tR Z (Qx a b ha hz) ⟨au Z,au Z,Z,tR⟩ ?_
 exact x.exit Z tR ⟨.inr Z,Z,tR,Z⟩
theorem Qy(a b:List (List Op9))(ha:a.length*8≤140737488355328)(hz:∀l∈a,l.length*8≤140737488355328∧∀x∈l,OpZ x):Pure PG 26 [.d (p9 a),.d (p9 b),.fn 27 []] (vb (lI oC ([]:List Op9) a b)) []:=by
 refine aD.mk (cfg 32) av [] Tryz.func26 Z (by kernel_rfl) Z Z Z ?_
 intro C x
 refine x.cond Z tR (λh=>?_) (λh=>?_)
 ·have h:(!decide ((a.length:Int)=(b.length:Int)))=true:=h
  have h:¬(a.length:Int)=b.length:=by simpa using h
  refine x.exit Z tR ⟨.inr Z,?_,tR,Z⟩
  rw[lI,decide_eq_false (show ¬a.length=b.length by omega)];exact Z
 have h:(!decide ((a.length:Int)=(b.length:Int)))=false:=h
 have hl:a.length=b.length:=by
  have:(a.length:Int)=b.length:=by simpa using h
  omega
 have hS:lI oC ([]:List Op9) a b=fK (λi=>oC (a.getD i ([]:List Op9)) (b.getD i ([]:List Op9))) a.length 0:=by rw[lI,decide_eq_true hl];rfl
 rw[hS]
 refine x.loop (α:={i:Nat // i≤a.length∧fK (λi=>oC (a.getD i ([]:List Op9)) (b.getD i ([]:List Op9))) (a.length-i) i=fK (λi=>oC (a.getD i ([]:List Op9)) (b.getD i ([]:List Op9))) a.length 0}) (λy=>⟨[(1,.d (p9 b)),(2,.fn 27 []),(15,.d (p9 a)),(16,vi (a.length:Int)),(17,vi (y.1:Int))],[],0⟩) (λy=>a.length-y.1) ⟨0,Nat.zero_le _,Z⟩ Z tR ⟨⟨au Z,Z,au Z,Z,Z,tR⟩,tR,Z⟩ (λy=>?_)
 obtain⟨i,hi,hs⟩:=y
 change Go C _ ⟨[(1,.d (p9 b)),(2,.fn 27 []),(15,.d (p9 a)),(16,vi (a.length:Int)),(17,vi (i:Int))],[],0⟩ _
 refine x.cond Z tR (λh1=>?_) (λh1=>?_)
 ·have h1:i<a.length:=by have:=afH h1;omega
  rw[mZ h1] at hs
  refine x.pure Z (by simp only[ak];omega) Z (Yz (a.getD i []) (b.getD i []) (hz _ (getD_in [] h1)).1 (hz _ (getD_in [] h1)).2) ⟨au Z,au Z,tR⟩ ?_
  cases hp:oC (a.getD i ([]:List Op9)) (b.getD i ([]:List Op9)) with
  | false=>
   refine x.cond Z tR (λh2=>?_) (λh2=>?_)
   ·refine x.exit Z tR ⟨.inr Z,?_,tR,Z⟩
    rw[←hs,hp];exact Z
   ·cases (show true=false from h2)
  | true=>
   refine x.cond Z tR (λh2=>?_) (λh2=>?_)
   ·cases (show false=true from h2)
   ·rw[hp,Bool.true_and] at hs
    exact x.back Z (by simp only[ak,aj];omega) ⟨⟨i+1,by omega,hs⟩,by show a.length-(i+1)<a.length-i;omega,⟨au Z,Z,au Z,Z,(show aB (vi ((i:Int)+1)) (vi ((i+1:Nat):Int)) by rw[afQ];rfl),tR⟩,tR,Z⟩
 ·have h1:i=a.length:=by have:=afI h1;omega
  refine x.exit Z tR ⟨.inr Z,?_,tR,Z⟩
  rw[h1,Nat.sub_self] at hs
  rw[←hs];exact Z
structure acU(b:Bod):Prop where
 l:b.blocks.length*8≤140737488355328
 x:∀l∈b.blocks,l.length*8≤140737488355328∧∀x∈l,OpZ x
theorem Qz(a b:Bod)(hz:acU a):Pure PG 25 [.agg [vi a.params,vi a.vars,.d (p9 a.blocks)],.agg [vi b.params,vi b.vars,.d (p9 b.blocks)]] (vb (j4 a b)) []:=by
 refine aD.mk (cfg 24) av [] Tryz.func25 Z (by kernel_rfl) Z Z Z ?_
 intro C x
 refine x.bK Z tR Z (λ_=>Qy a.blocks b.blocks hz.l hz.x) Z ⟨au Z,au Z,Z,tR⟩ ?_
 exact x.exit Z tR ⟨.inr Z,Z,tR,Z⟩
theorem NW(a b:List Bod)(ha:a.length*8≤140737488355328)(hz:∀b∈a,acU b):Pure PG 24 [.d (dL a),.d (dL b),.fn 25 []] (vb (lI j4 aA a b)) []:=by
 refine aD.mk (cfg 32) av [] Tryz.func24 Z (by kernel_rfl) Z Z Z ?_
 intro C x
 refine x.cond Z tR (λh=>?_) (λh=>?_)
 ·have h:(!decide ((a.length:Int)=(b.length:Int)))=true:=h
  have h:¬(a.length:Int)=b.length:=by simpa using h
  refine x.exit Z tR ⟨.inr Z,?_,tR,Z⟩
  rw[lI,decide_eq_false (show ¬a.length=b.length by omega)];exact Z
 have h:(!decide ((a.length:Int)=(b.length:Int)))=false:=h
 have hl:a.length=b.length:=by
  have:(a.length:Int)=b.length:=by simpa using h
  omega
 have hS:lI j4 aA a b=fK (λi=>j4 (a.getD i aA) (b.getD i aA)) a.length 0:=by rw[lI,decide_eq_true hl];rfl
 rw[hS]
 refine x.loop (α:={i:Nat // i≤a.length∧fK (λi=>j4 (a.getD i aA) (b.getD i aA)) (a.length-i) i=fK (λi=>j4 (a.getD i aA) (b.getD i aA)) a.length 0}) (λy=>⟨[(1,.d (dL b)),(2,.fn 25 []),(15,.d (dL a)),(16,vi (a.length:Int)),(17,vi (y.1:Int))],[],0⟩) (λy=>a.length-y.1) ⟨0,Nat.zero_le _,Z⟩ Z tR ⟨⟨au Z,Z,au Z,Z,Z,tR⟩,tR,Z⟩ (λy=>?_)
 obtain⟨i,hi,hs⟩:=y
 change Go C _ ⟨[(1,.d (dL b)),(2,.fn 25 []),(15,.d (dL a)),(16,vi (a.length:Int)),(17,vi (i:Int))],[],0⟩ _
 refine x.cond Z tR (λh1=>?_) (λh1=>?_)
 ·have h1:i<a.length:=by have:=afH h1;omega
  rw[mZ h1] at hs
  refine x.pure Z (by simp only[ak];omega) Z (Qz (a.getD i aA) (b.getD i aA) (hz _ (getD_in aA h1))) ⟨⟨Z,Z,ah Z,tR⟩,⟨Z,Z,ah Z,tR⟩,tR⟩ ?_
  cases hp:j4 (a.getD i aA) (b.getD i aA) with
  | false=>
   refine x.cond Z tR (λh2=>?_) (λh2=>?_)
   ·refine x.exit Z tR ⟨.inr Z,?_,tR,Z⟩
    rw[←hs,hp];exact Z
   ·cases (show true=false from h2)
  | true=>
   refine x.cond Z tR (λh2=>?_) (λh2=>?_)
   ·cases (show false=true from h2)
   ·rw[hp,Bool.true_and] at hs
    exact x.back Z (by simp only[ak,aj];omega) ⟨⟨i+1,by omega,hs⟩,by show a.length-(i+1)<a.length-i;omega,⟨au Z,Z,au Z,Z,(show aB (vi ((i:Int)+1)) (vi ((i+1:Nat):Int)) by rw[afQ];rfl),tR⟩,tR,Z⟩
 ·have h1:i=a.length:=by have:=afI h1;omega
  refine x.exit Z tR ⟨.inr Z,?_,tR,Z⟩
  rw[h1,Nat.sub_self] at hs
  rw[←hs];exact Z
def mo(p:Pol)(c:Cod):Option Prg:=
 if (dQ p&&(decide (c.funcs.length≤64)&&decide (c.arrays.length≤16)))=true then
  match kC p c with
  | none=>none
  | some q=>if (decide ((iG p q).2.2=0)&&(decide ((iG p q).1.main=c.main)&&(decide ((iG p q).1.arrays=c.arrays)&&sM (iG p q).1.funcs c.funcs)))=true then some q else none
 else none
abbrev Ck:Option Prg->V
 | some q=>.tup [H8 q,vi 0]
 | none=>.tup [H8 ⟨[],[]⟩,vi 1]
structure RsZ(c:Cod):Prop where
 a:c.arrays.length*8≤140737488355328
 f:c.funcs.length*8≤140737488355328
 b:∀b∈c.funcs,acU b
theorem nP:Ck none=.tup [.agg [.d (bV []),.d (dn [])],vi 1]:=rfl
theorem zm(p:Pol)(c:Cod)(hz:Ie p)(hp:p.ins.length≤1000000000∧p.outs.length≤1000000000)(hc:NT c)(hq:∀q,kC p c=some q->NJ q)(hr:∀q,kC p c=some q->RsZ (iG p q).1):Pure PG 8 [qB p,rM c] (Ck (mo p c)) []:=by
 have hal:=hc.al
 have hfl:=hc.fl
 refine aD.mk (cfg 71) av [] Tryz.func8 Z (by kernel_rfl) Z Z (by unfold mo;split<;>(first | rfl | (split<;>first | rfl | (split<;>rfl)))) ?_
 intro C x
 refine x.pure Z tR Z (DJ p hz) ⟨⟨ah Z,ah Z,ah Z,ah Z,Z,tR⟩,tR⟩ ?_
 have hv:((!dQ p||decide (64<(c.funcs.length:Int)))||decide (16<(c.arrays.length:Int)))=!(dQ p&&(decide (c.funcs.length≤64)&&decide (c.arrays.length≤16))):=by
  rw[show decide (64<(c.funcs.length:Int))=!decide (c.funcs.length≤64) by rw[←decide_not,decide_eq_decide];omega,show decide (16<(c.arrays.length:Int))=!decide (c.arrays.length≤16) by rw[←decide_not,decide_eq_decide];omega]
  cases dQ p<;>cases decide (c.funcs.length≤64)<;>cases decide (c.arrays.length≤16)<;>rfl
 refine x.cond Z tR (λh=>?_) (λh=>?_)
 ·have h:((!dQ p||decide (64<(c.funcs.length:Int)))||decide (16<(c.arrays.length:Int)))=true:=h
  rw[hv,afR] at h
  rw[mo,if_neg (by rw[h];simp),nP]
  refine x.lU ?_
  exact x.exit Z tR ⟨⟨[(4,.ptr 2 0),(5,vi 1)],[(2,.box [.d (bV []),.d (dn [])])],3⟩,⟨⟨⟨Z,Z⟩,Z,tR⟩,⟨⟨Z,Z,tR⟩,tR⟩,Z⟩,.inr Z,⟨Z,Z,tR⟩,tR,Z⟩
 have h:((!dQ p||decide (64<(c.funcs.length:Int)))||decide (16<(c.arrays.length:Int)))=false:=h
 rw[hv,Bool.not_eq_false'] at h
 rw[mo,if_pos h]
 have hrs:=Qw p c hz.toPolSz hp hc
 obtain⟨Q,hQ⟩:∃Q,kC p c=Q:=⟨_,Z⟩
 rw[hQ] at hrs ⊢
 refine x.pure Z tR Z hrs ⟨⟨ah Z,ah Z,ah Z,ah Z,Z,tR⟩,⟨ah Z,ah Z,Z,tR⟩,tR⟩ ?_
 rcases Q with _ | q
 ·rw[nP]
  refine x.cond Z tR (λh2=>?_) (λh2=>?_)
  ·refine x.lU ?_
   exact x.exit Z tR ⟨⟨[(4,.ptr 2 0),(5,vi 1)],[(2,.box [.d (bV []),.d (dn [])])],4⟩,⟨⟨⟨Z,Z⟩,Z,tR⟩,⟨⟨Z,Z,tR⟩,tR⟩,Z⟩,.inr Z,⟨Z,Z,tR⟩,tR,Z⟩
  ·cases (show true=false from h2)
 have hqq:=hq q hQ
 have hz9:=hr q hQ
 refine x.cond Z tR (λh2=>?_) (λh2=>?_)
 ·cases (show false=true from h2)
 have hres:=uG p q hz hqq
 obtain⟨V,hV⟩:∃V,iG p q=V:=⟨_,Z⟩
 rw[hV] at hres hz9
 obtain⟨c',a',e'⟩:=V
 have hV1:(iG p q).1=c':=by rw[hV]
 have hV2:(iG p q).2.2=e':=by rw[hV]
 simp only[hV1,hV2]
 have hz9:RsZ c':=hz9
 refine x.pure Z tR Z hres ⟨⟨ah Z,ah Z,ah Z,ah Z,Z,tR⟩,⟨ah Z,ah Z,tR⟩,tR⟩ ?_
 refine x.bK Z tR Z (λ_=>Yy c'.arrays c.arrays hz9.a) Z ⟨au Z,au Z,tR⟩ ?_
 have hv2:((!decide (e'=0)||!decide (c'.main=c.main))||!decide (c'.arrays=c.arrays))=!(decide (e'=0)&&(decide (c'.main=c.main)&&decide (c'.arrays=c.arrays))):=by
  cases decide (e'=0)<;>cases decide (c'.main=c.main)<;>cases decide (c'.arrays=c.arrays)<;>rfl
 refine x.cond Z tR (λh3=>?_) (λh3=>?_)
 ·have h3:((!decide (e'=0)||!decide (c'.main=c.main))||!decide (c'.arrays=c.arrays))=true:=h3
  rw[hv2,afR] at h3
  rw[if_neg (by revert h3;cases decide (e'=0)<;>cases decide (c'.main=c.main)<;>cases decide (c'.arrays=c.arrays)<;>simp),nP]
  refine x.lU ?_
  exact x.exit Z tR ⟨⟨[(4,.ptr 2 0),(5,vi 1)],[(2,.box [.d (bV []),.d (dn [])])],5⟩,⟨⟨⟨Z,Z⟩,Z,tR⟩,⟨⟨Z,Z,tR⟩,tR⟩,Z⟩,.inr Z,⟨Z,Z,tR⟩,tR,Z⟩
 have h3:((!decide (e'=0)||!decide (c'.main=c.main))||!decide (c'.arrays=c.arrays))=false:=h3
 rw[hv2,Bool.not_eq_false'] at h3
 have h4:(decide (e'=0)&&(decide (c'.main=c.main)&&(decide (c'.arrays=c.arrays)&&sM c'.funcs c.funcs)))=sM c'.funcs c.funcs:=by
  simp only[afF] at h3
  rw[h3.1,h3.2.1,h3.2.2];rfl
 rw[h4]
 refine x.pure Z tR Z (NW c'.funcs c.funcs hz9.f hz9.b) ⟨au Z,au Z,Z,tR⟩ ?_
 have hS:lI j4 aA c'.funcs c.funcs=sM c'.funcs c.funcs:=rfl
 rw[hS]
 cases hs:sM c'.funcs c.funcs with
 | false=>
  rw[if_neg (by simp),nP]
  refine x.cond Z tR (λh5=>?_) (λh5=>?_)
  ·refine x.lU ?_
   exact x.exit Z tR ⟨⟨[(4,.ptr 2 0),(5,vi 1)],[(2,.box [.d (bV []),.d (dn [])])],5⟩,⟨⟨⟨Z,Z⟩,Z,tR⟩,⟨⟨Z,Z,tR⟩,tR⟩,Z⟩,.inr Z,⟨Z,Z,tR⟩,tR,Z⟩
  ·cases (show true=false from h5)
 | true=>
  rw[if_pos rfl]
  refine x.cond Z tR (λh5=>?_) (λh5=>?_)
  ·cases (show false=true from h5)
  exact x.exit Z tR ⟨.inr Z,⟨Z,Z,tR⟩,tR,Z⟩
theorem DN(p:Pol)(c:Cod)(hz:Ie p)(hp:p.ins.length≤1000000000∧p.outs.length≤1000000000)(hc:NT c)(hq:∀q,kC p c=some q->NJ q)(hr:∀q,kC p c=some q->RsZ (iG p q).1):Pure PG 13 [qB p,rM c] (vb (mo p c).isSome) []:=by
 have hs:=zm p c hz hp hc hq hr
 refine aD.mk (cfg 15) av [] Tryz.func13 Z (by kernel_rfl) Z Z Z ?_
 intro C x
 obtain⟨R,hR⟩:∃R,mo p c=R:=⟨_,Z⟩
 rw[hR] at hs ⊢
 refine x.pure Z tR Z hs ⟨⟨ah Z,ah Z,ah Z,ah Z,Z,tR⟩,⟨ah Z,ah Z,Z,tR⟩,tR⟩ ?_
 rcases R with _ | q
 ·exact x.exit Z tR ⟨.inr Z,Z,tR,Z⟩
 ·exact x.exit Z tR ⟨.inr Z,Z,tR,Z⟩
theorem Ej{a b:BY}(h:a.data.toList=b.data.toList):a=b:=oN.w9 h
theorem Jr(s:BY):∀(i:Nat) (l:List BY),uV i l s=none↔s∉l
 | _,[]=>by simp [uV]
 | i,a::l=>by
  unfold uV
  split
  ·rename_i h
   simp [Ej h]
  ·rename_i h
   rw[Jr s (i+1) l,List.mem_cons,not_or]
   exact⟨λh2=>⟨λe=>h (by rw[e]),h2⟩,λh2=>h2.2⟩
theorem jR{l:List BY}{s:BY}:posB l s=true↔s∈l:=by
 have:=Jr s 0 l
 unfold posB
 cases h:uV 0 l s with
 | none=>rw[h] at this;simp [this.1 rfl]
 | some n=>
  rw[h] at this
  simp only[reduceCtorEq,false_iff,Classical.not_not] at this
  simp [this]
theorem Ap{l:List BY}{s:BY}:posB l s=false↔s∉l:=by
 rw[←jR];simp
theorem NY(s:BY):∀(i:Nat) (l:List BY) (n:Nat),uV i l s=some n->l.getD (n-i) .empty=s
 | _,[],_,h=>by cases h
 | i,a::l,n,h=>by
  unfold uV at h
  split at h
  ·rename_i e
   cases h
   rw[Nat.sub_self];exact Ej e
  ·have h1:=NY s (i+1) l n h
   have h2:=KH s (i+1) l n h
   rw[show n-i=(n-(i+1))+1 by omega,List.getD_cons_succ];exact h1
theorem aaw{l:List BY}{s:BY}(h:s∈l):l.getD (dJ l s).toNat .empty=s:=by
 have h:=jR.2 h
 unfold posB at h
 unfold dJ
 cases hp:uV 0 l s with
 | none=>rw[hp] at h;cases h
 | some n=>
  have:=NY s 0 l n hp
  show l.getD ((n:Int)).toNat .empty=s
  rw[afT];exact this
theorem Vt{α:Type}{l:List α}(hn:l.Nodup)(d:α):∀{i j:Nat},i<l.length->j<l.length->l.getD i d=l.getD j d->i=j:=by
 intro i j hi hj h
 rw[afE,afE,afG hi,afG hj] at h
 have h:l[i]=l[j]:=h
 have hp:=List.pairwise_iff_getElem.1 hn
 rcases Nat.lt_trichotomy i j with g | g | g
 ·exact absurd h (hp i j hi hj g)
 ·exact g
 ·exact absurd h.symm (hp j i hj hi g)
theorem pos_at{l:List BY}(hn:l.Nodup){i:Nat}(hi:i<l.length):dJ l (l.getD i .empty)=i:=by
 have hm:l.getD i .empty∈l:=getD_in _ hi
 have h1:=uF (jR.2 hm)
 have h2:=aaw hm
 have:=Vt hn .empty (i:=(dJ l (l.getD i .empty)).toNat) (j:=i) (by omega) hi h2
 omega
theorem Aq{l:List BY}{s:BY}{a n:Int}(h:jO l s a=.ok n):s∈l∧n=dJ l s:=by
 unfold jO at h
 split at h
 ·rename_i g
  cases h
  exact⟨jR.1 g,Z⟩
 ·cases h
theorem YA{l:List BY}(hn:l.Nodup){i:Nat}(hi:i<l.length)(a:Int):jO l (l.getD i .empty) a=.ok (i:Int):=by
 unfold jO
 rw[if_pos (jR.2 (getD_in _ hi)),pos_at hn hi]
theorem Cm{l:List BY}{a:Int}:∀{r:List BY} {acc o:List Int},iD l a r acc=.ok o->o=acc++r.map (dJ l)∧∀s∈r,s∈l
 | [],acc,o,h=>by cases h;simp
 | s::r,acc,o,h=>by
  rw[iD] at h
  obtain⟨n,h1,h2⟩:=mM h
  obtain⟨h3,rfl⟩:=Aq h1
  obtain⟨rfl,h5⟩:=Cm h2
  refine⟨by simp,λt ht=>?_⟩
  rcases List.mem_cons.1 ht with rfl | ht
  ·exact h3
  ·exact h5 t ht
theorem Cn{l:List BY}{a:Int}(f:Int->BY):∀(r:List Int) (acc:List Int),(∀n∈r,jO l (f n) a=.ok n)->iD l a (r.map f) acc=.ok (acc++r)
 | [],acc,_=>by simp [iD]
 | n::r,acc,h=>by
  rw[List.map_cons,iD,h n (.head _)]
  show iD l a (r.map f) (acc++[n])=_
  rw[Cn f r _ λm hm=>h m (.tail _ hm)]
  simp
theorem Ar:∀{L:List (BY×Int)} {acc o:List BY},iB acc L=.ok o->acc.Nodup->o=acc++L.map (·.1)∧o.Nodup
 | [],acc,o,h,hn=>by cases h;simp [hn]
 | (s,a)::r,acc,o,h,hn=>by
  rw[iB] at h
  split at h
  ·cases h
  ·rename_i g
   have g:s∉acc:=Ap.1 (by simpa using g)
   have hn2:(acc++[s]).Nodup:=by
    rw[List.nodup_append]
    refine⟨hn,by simp,λx hx y hy e=>?_⟩
    rw[List.mem_singleton] at hy
    subst hy;subst e;exact g hx
   obtain⟨rfl,h2⟩:=Ar h hn2
   exact⟨by simp,h2⟩
theorem Au:∀{L:List (BY×Int)} {acc:List BY},(acc++L.map (·.1)).Nodup->iB acc L=.ok (acc++L.map (·.1))
 | [],acc,_=>by simp [iB]
 | (s,a)::r,acc,h=>by
  have g:s∉acc:=λhm=>by
   rw[List.nodup_append] at h
   exact h.2.2 s hm s (by simp) Z
  rw[iB,if_neg (by rw[Ap.2 g];simp)]
  have:=Au (L:=r) (acc:=acc++[s]) (by simpa using h)
  rw[this];simp
theorem Av(c:UInt8)(n:Int):(nmN c n).data.toList=c::(sgV n++kg n.natAbs):=by
 unfold nmN
 rw[ByteArray.toList_data_append,pJ];rfl
theorem QA{c d:UInt8}{n m:Int}(hn:aj n)(hm:aj m)(h:nmN c n=nmN d m):c=d∧n=m:=by
 have h1:=congrArg (λb:BY=>b.data.toList) h
 simp only[Av,List.cons.injEq] at h1
 refine⟨h1.1,?_⟩
 have h2:gM n=gM m:=Ej (by rw[pJ,pJ];exact h1.2)
 have h3:=MF n hn
 rw[h2,MF m hm] at h3
 exact (Prod.ext_iff.1 h3).1.symm
theorem El{c:UInt8}{n:Int}(hc:c≠109):eH≠nmN c n:=by
 intro h
 have h1:=congrArg (λb:BY=>b.data.toList) h
 simp only[Av] at h1
 have h2:(109:UInt8)=c:=(List.cons.inj h1).1
 exact hc h2.symm
theorem YB:∀(u:Nat),∀c∈kg u,48≤c.toNat∧c.toNat≤57:=by
 intro u
 induction u using Nat.strongRecOn with
 | ind u ih=>
  intro c hc
  by_cases h:u<10
  ·rw[oo h,List.mem_singleton] at hc
   subst hc
   have:(UInt8.ofNat (48+u)).toNat=48+u:=by rw[UInt8.toNat_ofNat'];omega
   omega
  ·rw[uj h,List.mem_append] at hc
   rcases hc with hc | hc
   ·exact ih (u/10) (by omega) c hc
   ·rw[List.mem_singleton] at hc
    subst hc
    have:(UInt8.ofNat (48+u%10)).toNat=48+u%10:=by rw[UInt8.toNat_ofNat'];omega
    omega
theorem GJ{s:BY}:∀(k p:Nat) (c:Int),(∀j,p≤j->j<s.size->48≤bt s j∧bt s j≤57)->1≤p->0<c->c+((s.size:Int)-p)≤24->jq s k p c=true
 | 0,p,c,_,_,h3,_=>by rw[jq,decide_eq_true h3]
 | k+1,p,c,h1,h2,h3,h4=>by
  rw[jq]
  split
  ·rename_i hp
   have hb:=h1 p (Nat.le_refl _) hp
   rw[decode_ascii (by omega)]
   have hd:rZ ((bt s p:Nat):Int)=true:=by
    unfold rZ
    rw[decide_eq_true (show (48:Int)≤(bt s p:Int) by omega),decide_eq_true (show (bt s p:Int)≤57 by omega)];rfl
   rw[hd,decide_eq_false (show ¬((p:Int)=0) by omega)]
   rw[if_neg (by simp),if_neg (by omega)]
   exact GJ k (p+1) (c+1) (λj hj=>h1 j (by omega)) (by omega) (by omega) (by omega)
  ·exact decide_eq_true h3
theorem Vu:∀w∈yM,(w.getD 1 0).toNat<48∨57<(w.getD 1 0).toNat:=by decide
theorem yg{c:UInt8}{n:Int}(hc:rA (c.toNat:Int)=true)(h128:c.toNat<128)(h0:0≤n)(h1:n≤1000000):okN (nmN c n)=true:=by
 have hl:(nmN c n).data.toList=c::kg n.natAbs:=by rw[Av,sgV,if_neg (by omega)];rfl
 have hlen:=pI 9 n.natAbs (by show n.natAbs<10000000000;omega)
 have hsz:(nmN c n).size=(kg n.natAbs).length+1:=by
  have:=congrArg List.length hl
  rw[List.length_cons] at this
  rw[←this];exact (Array.length_toList).symm
 have hbt:∀j,bt (nmN c n) j=((c::kg n.natAbs).getD j 0).toNat:=λj=>by rw[qL,hl]
 obtain⟨d,r,e1,e2,e3,_⟩:=Ja n.natAbs
 unfold okN
 rw[afF,afR]
 constructor
 ·unfold FX
  rw[hsz,jq,if_pos (by omega)]
  have hb0:bt (nmN c n) 0=c.toNat:=hbt 0
  rw[decode_ascii (by omega),hb0]
  show (if (!rA ((c.toNat:Nat):Int)&&_)=true then false else _)=true
  rw[hc]
  rw[if_neg (by simp),if_neg (by omega)]
  refine GJ _ _ _ (λj hj hs=>?_) (by omega) (by omega) (by rw[hsz];omega)
  rw[hbt]
  obtain⟨i,rfl⟩:∃i,j=i+1:=⟨j-1,by omega⟩
  rw[List.getD_cons_succ]
  exact YB _ _ (getD_in _ (by omega))
 ·unfold mJ
  rw[afP,hl]
  intro hm
  have:=Vu _ hm
  rw[e1,List.getD_cons_succ,List.getD_cons_zero] at this
  omega
def xM{α β:Type}(g:Nat->α->Flt β):List α->Nat->List β->Flt (List β)
 | [],_,acc=>.ok acc
 | a::r,i,acc=>bd (g i a) λb=>xM g r (i+1) (acc++[b])
theorem Aw{α β:Type}{g:Nat->α->Flt β}(d:α)(e:β):∀{l:List α} {i:Nat} {acc o:List β},xM g l i acc=.ok o->∃t,o=acc++t∧t.length=l.length∧∀j,j<l.length->g (i+j) (l.getD j d)=.ok (t.getD j e)
 | [],i,acc,o,h=>by
  cases h
  exact⟨[],by simp,Z,λj hj=>absurd hj (afN _)⟩
 | a::l,i,acc,o,h=>by
  rw[xM] at h
  obtain⟨b,h1,h2⟩:=mM h
  obtain⟨t,rfl,h3,h4⟩:=Aw d e h2
  refine⟨b::t,by simp,by simp [h3],λj hj=>?_⟩
  cases j with
  | zero=>exact h1
  | succ j=>
   have:=h4 j (by simpa using hj)
   rw[show i+(j+1)=i+1+j by omega];exact this
theorem Ay{α β:Type}{g:Nat->α->Flt β}(d:α)(e:β):∀{l:List α} {t:List β} {i:Nat} {acc:List β},t.length=l.length->(∀j,j<l.length->g (i+j) (l.getD j d)=.ok (t.getD j e))->xM g l i acc=.ok (acc++t)
 | [],t,i,acc,h,_=>by rw[List.eq_nil_of_length_eq_zero h,List.append_nil];rfl
 | a::l,[],i,acc,h,_=>by cases h
 | a::l,b::t,i,acc,h,h2=>by
  have h0:g i a=.ok b:=h2 0 (Nat.zero_lt_succ _)
  rw[xM,h0]
  show xM g l (i+1) (acc++[b])=_
  rw[Ay d e (by simpa using h) λj hj=>by
   have:=h2 (j+1) (by simpa using hj)
   rw[show i+(j+1)=i+1+j by omega] at this;exact this]
  simp
theorem Co(r:Res)(s:Scp):∀(l:List Blk) (i:Nat) (acc:List (List Op9)),rJ r s l acc=xM (λ_ b=>yc r s b) l i acc
 | [],_,_=>rfl
 | b::l,i,acc=>by
  rw[rJ,xM]
  congr 1
  funext y
  exact Co r s l (i+1) _
theorem Az:∀(l:List Fun) (i:Nat) (acc:List Scp),wH l acc=xM (λ_ f=>KG f) l i acc
 | [],_,_=>rfl
 | f::l,i,acc=>by
  rw[wH,xM]
  congr 1
  funext y
  exact Az l (i+1) _
theorem AA(r:Res)(ss:List Scp):∀(l:List Fun) (i:Nat) (acc:List Bod),sJ r ss l i acc=xM (λi f=>Vb r (ss.getD i qC) f) l i acc
 | [],_,_=>rfl
 | f::l,i,acc=>by
  rw[sJ,xM]
  congr 1
  funext y
  exact AA r ss l (i+1) _
theorem Sc(r:Res)(s:Scp)(code:List Ins):∀(l:List Ins) (i:Nat) (acc:List Op9),KF r s code l.length i acc=xM (λi _=>Ai r s code i) l i acc
 | [],_,_=>rfl
 | x::l,i,acc=>by
  rw[List.length_cons,KF,xM]
  congr 1
  funext y
  exact Sc r s code l (i+1) _
structure YC(r:Res)(s:Scp)(b:Blk)(l:List Op9):Prop where
 e:Gv b=true
 len:l.length=b.code.length
 ins:∀j,j<b.code.length->Ai r s b.code j=.ok (l.getD j op0)
theorem NZ{r:Res}{s:Scp}{b:Blk}{l:List Op9}:yc r s b=.ok l↔YC r s b l:=by
 unfold yc
 rw[Sc]
 constructor
 ·intro h
  split at h
  ·rename_i he
   obtain⟨t,rfl,h1,h2⟩:=Aw (aP 0) op0 h
   exact⟨he,h1,λj hj=>by have:=h2 j hj;rwa [Nat.zero_add] at this⟩
  ·cases h
 ·intro h
  rw[if_pos h.e,Ay (aP 0) op0 h.len λj hj=>by rw[Nat.zero_add];exact h.ins j hj]
  rfl
abbrev GK(f:Fun):List BY:=f.blocks.map (·.name)
abbrev wM(f:Fun):List BY:=f.params++(p8 f.blocks).map (·.1)
abbrev qV(f:Fun):Scp:=⟨GK f,wM f⟩
theorem Sd{f:Fun}{s:Scp}:KG f=.ok s↔s=qV f∧(GK f).Nodup∧(wM f).Nodup:=by
 unfold KG
 have e1:(f.params.map λs=>(s,f.at_)).map (·.1)=f.params:=by rw[List.map_map];exact List.map_id _
 have e2:(f.blocks.map λb=>(b.name,b.at_)).map (·.1)=GK f:=by rw[List.map_map];rfl
 constructor
 ·intro h
  obtain⟨vs,h1,h⟩:=mM h
  obtain⟨bs,h2,h⟩:=mM h
  obtain⟨vs',h3,h⟩:=mM h
  cases h
  obtain⟨rfl,g1⟩:=Ar h1 List.nodup_nil
  obtain⟨rfl,g2⟩:=Ar h2 List.nodup_nil
  obtain⟨rfl,g3⟩:=Ar h3 g1
  rw[List.nil_append,e1] at g3
  rw[List.nil_append,e2] at g2
  rw[List.nil_append,List.nil_append,e1,e2]
  exact⟨Z,g2,g3⟩
 ·rintro ⟨rfl,h1,h2⟩
  have hp:f.params.Nodup:=(List.nodup_append.1 h2).1
  rw[Au (acc:=[]) (by rw[List.nil_append,e1];exact hp),List.nil_append,e1]
  show bd (iB [] _) _=_
  rw[Au (acc:=[]) (by rw[List.nil_append,e2];exact h1),List.nil_append,e2]
  show bd (iB f.params _) _=_
  rw[Au h2];rfl
structure N7(r:Res)(f:Fun)(b:Bod):Prop where
 nb:(GK f).Nodup
 nv:(wM f).Nodup
 N8:b.params=(f.params.length:Int)
 vars:b.vars=((wM f).length:Int)
 len:b.blocks.length=f.blocks.length
 blk:∀k,k<f.blocks.length->YC r (qV f) (f.blocks.getD k bq) (b.blocks.getD k [])
theorem Sg{r:Res}{f:Fun}{b:Bod}(h1:(GK f).Nodup)(h2:(wM f).Nodup):Vb r (qV f) f=.ok b↔N7 r f b:=by
 unfold Vb
 rw[Co r (qV f) f.blocks 0]
 constructor
 ·intro h
  obtain⟨t,h3,h⟩:=mM h
  cases h
  obtain⟨t,rfl,h4,h5⟩:=Aw bq [] h3
  exact⟨h1,h2,Z,Z,h4,λk hk=>NZ.1 (h5 k hk)⟩
 ·rintro ⟨_,_,h3,h4,h5,h6⟩
  rw[Ay bq [] h5 λk hk=>NZ.2 (h6 k hk)]
  obtain⟨b1,b2,b3⟩:=b
  show Except.ok _=Except.ok _
  simp only[List.nil_append]
  simp only at h3 h4
  rw[h3,h4]
theorem Si{p:Pol}:∀{l:List Arr} {acc:List BY} {cs:List Cel} {o:List BY×List Cel},nW p l acc cs=.ok o->acc.Nodup->o=(acc++l.map (·.name),cs++l.map λa=>(a.size,bE p.lev a.level))∧o.1.Nodup∧∀a∈l,0≤bE p.lev a.level
 | [],acc,cs,o,h,hn=>by cases h;simp [hn]
 | a::l,acc,cs,o,h,hn=>by
  rw[nW] at h
  split at h
  ·cases h
  ·rename_i g
   have g:a.name∉acc:=Ap.1 (by simpa using g)
   obtain⟨k,h1,h2⟩:=mM h
   unfold gJ at h1
   split at h1
   ·rename_i hk
    cases h1
    have hn2:(acc++[a.name]).Nodup:=by
     rw[List.nodup_append]
     refine⟨hn,by simp,λx hx y hy e=>?_⟩
     rw[List.mem_singleton] at hy
     subst hy;subst e;exact g hx
    obtain⟨rfl,h3,h4⟩:=Si h2 hn2
    refine⟨by simp,h3,λb hb=>?_⟩
    rcases List.mem_cons.1 hb with rfl | hb
    ·exact hk
    ·exact h4 b hb
   ·cases h1
theorem Sj{p:Pol}:∀{l:List Arr} {acc:List BY} {cs:List Cel},(acc++l.map (·.name)).Nodup->(∀a∈l,0≤bE p.lev a.level)->nW p l acc cs=.ok (acc++l.map (·.name),cs++l.map λa=>(a.size,bE p.lev a.level))
 | [],acc,cs,_,_=>by simp [nW]
 | a::l,acc,cs,h,h2=>by
  have g:a.name∉acc:=λhm=>by
   rw[List.nodup_append] at h
   exact h.2.2 _ hm a.name (by simp) Z
  rw[nW,if_neg (by rw[Ap.2 g];simp),gJ,if_pos (h2 a (.head _))]
  show nW p l (acc++[a.name]) _=_
  rw[Sj (by simpa using h) λb hb=>h2 b (.tail _ hb)]
  simp
abbrev Sk(q:Prg):List BY:=q.arrays.map (·.name)
abbrev KO(q:Prg):List BY:=q.funcs.map (·.name)
abbrev DR(p:Pol)(q:Prg):Res:=⟨p,q,Sk q,KO q⟩
structure Js(p:Pol)(q:Prg)(c:Cod):Prop where
 na:(Sk q).Nodup
 lv:∀a∈q.arrays,0≤bE p.lev a.level
 Ig:c.arrays=q.arrays.map λa=>(a.size,bE p.lev a.level)
 nf:(KO q).Nodup
 mn:eH∈KO q
 mp:qR q (dJ (KO q) eH)=0
 main:c.main=dJ (KO q) eH
 len:c.funcs.length=q.funcs.length
 fn:∀i,i<q.funcs.length->N7 (DR p q) (q.funcs.getD i bG) (c.funcs.getD i aA)
theorem Em{p:Pol}{q:Prg}{c:Cod}:Gx p q=.ok c↔Js p q c:=by
 unfold Gx
 have e2:(q.funcs.map λf=>(f.name,f.at_)).map (·.1)=KO q:=by rw[List.map_map];rfl
 constructor
 ·intro h
  obtain⟨ac,h1,h⟩:=mM h
  obtain⟨fn,h2,h⟩:=mM h
  obtain⟨rfl,g1,g2⟩:=Si h1 List.nodup_nil
  obtain⟨rfl,g3⟩:=Ar h2 List.nodup_nil
  rw[List.nil_append,e2] at g3 h
  simp only[List.nil_append] at g1 h
  split at h
  ·rename_i hm
   obtain⟨ss,h3,h⟩:=mM h
   obtain⟨bs,h4,h⟩:=mM h
   cases h
   unfold Gw at hm
   rw[afF,afL] at hm
   rw[Az q.funcs 0] at h3
   rw[AA _ _ q.funcs 0] at h4
   obtain⟨ss,rfl,g4,g5⟩:=Aw bG qC h3
   obtain⟨bs,rfl,g6,g7⟩:=Aw bG aA h4
   refine⟨g1,g2,Z,g3,jR.1 hm.1,by omega,Z,g6,λi hi=>?_⟩
   obtain⟨hs,hb,hv⟩:=Sd.1 (g5 i hi)
   have h7:=g7 i hi
   simp only[Nat.zero_add,List.nil_append] at h7
   rw[hs] at h7
   exact (Sg hb hv).1 h7
  ·cases h
 ·intro h
  rw[Sj (acc:=[]) (by simpa using h.na) h.lv]
  show bd (iB [] _) _=_
  rw[Au (acc:=[]) (by rw[List.nil_append,e2];exact h.nf),List.nil_append,e2]
  show (if Gw q (KO q)=true then _ else _)=_
  rw[if_pos (by unfold Gw;rw[jR.2 h.mn,h.mp];rfl),Az q.funcs 0,Ay (t:=q.funcs.map qV) bG qC (by simp) λj hj=>?_]
  ·show bd (sJ _ _ _ _ _) _=_
   rw[AA _ _ q.funcs 0,Ay (t:=c.funcs) bG aA h.len λj hj=>?_]
   ·obtain⟨c1,c2,c3⟩:=c
    have h1:=h.Ig
    have h2:=h.main
    simp only at h1 h2
    subst h1;subst h2
    rfl
   ·have hf:=h.fn j hj
    simp only[Nat.zero_add,List.nil_append]
    rw[show (q.funcs.map qV).getD j qC=qV (q.funcs.getD j bG) by
     rw[afE,afE,List.getElem?_map,afG hj];rfl]
    exact (Sg hf.nb hf.nv).2 hf
  ·have hf:=h.fn j hj
   refine Sd.2 ⟨?_,hf.nb,hf.nv⟩
   rw[afE,afE,List.getElem?_map,afG hj];rfl
def shp(k:Int):Option (Int×Bool×Bool×Bool):=if k=3 then some (-1,true,false,false) else jL k
def lM(k:Int):Bool:=match shp k with
 | some (_,d,_,_)=>d
 | none=>false
def uU(p:Pol)(na nf nb:Nat)(k:Int):Int:=
 if k=4∨k=5∨k=6 then (na:Int) else if k=7 then (nf:Int) else if k=8 then (p.ins.length:Int) else if k=9 then (p.outs.length:Int) else if k=10 then (p.lev.length:Int) else (nb:Int)
structure ROp(p:Pol)(c:Cod)(b:Bod)(x:Op9)(n:Int)(d r a:Bool):Prop where
 sh:shp x.kind=some (n,d,r,a)
 d0:d=false->x.dst=-1
 r0:r=false->x.ref=0
 a0:a=false->x.alt=0
 num:x.kind≠1->x.num=0
 op0:x.kind≠2->x.op=0
 op1:x.kind=2->1≤x.op∧x.op≤12
 r1:r=true->0≤x.ref∧x.ref<uU p c.arrays.length c.funcs.length b.blocks.length x.kind
 a1:a=true->0≤x.alt∧x.alt<(b.blocks.length:Int)
 phi:x.kind=3->x.frm.length=x.args.length∧1≤x.frm.length∧x.frm.length≤64
 KP:x.kind≠3->x.frm=[]∧(x.args.length:Int)=if x.kind=7 then (c.funcs.getD x.ref.toNat aA).params else n
 args:∀k∈x.args,0≤k∧k<b.vars
 frm:∀k∈x.frm,0≤k∧k<(b.blocks.length:Int)
def eG(l:List Op9):List Int:=l.filterMap λx=>if lM x.kind=true then some x.dst else none
def dw(bs:List (List Op9)):List Int:=bs.flatMap eG
structure acV(p:Pol)(c:Cod)(b:Bod)(l:List Op9):Prop where
 len:1≤l.length
 op:∀j,j<l.length->∃n d r a,ROp p c b (l.getD j op0) n d r a
 e:∀j,j<l.length->(j5 (l.getD j op0).kind=true↔j+1=l.length)
 ph:∀j,j<l.length->(l.getD j op0).kind=3->j≠0->(l.getD (j-1) op0).kind=3
structure Ij(p:Pol)(c:Cod)(b:Bod):Prop where
 p0:0≤b.params∧b.params≤6
 len:1≤b.blocks.length∧b.blocks.length≤64
 vars:b.vars=b.params+(dw b.blocks).length
 seq:∀i,i<(dw b.blocks).length->(dw b.blocks).getD i 0=b.params+i
 ops:∀l∈b.blocks,acV p c b l
structure kL(p:Pol)(c:Cod):Prop where
 pol:dQ p=true
 al:c.arrays.length≤16
 fl:c.funcs.length≤64
 m:0≤c.main∧c.main<(c.funcs.length:Int)
 mp:(c.funcs.getD c.main.toNat aA).params=0
 arr:∀a∈c.arrays,(1≤a.1∧a.1≤256)∧0≤a.2∧a.2<(p.lev.length:Int)
 bod:∀b∈c.funcs,Ij p c b
 all:(c.funcs.map λb=>(b.blocks.map λl=>l.length).sum).sum≤4096
theorem nk{k n:Int}{d r a:Bool}(h:jL k=some (n,d,r,a)):(k=1∧n=0∧d=true∧r=false∧a=false)∨(k=2∧n=2∧d=true∧r=false∧a=false)∨(k=4∧n=1∧d=true∧r=true∧a=false)∨(k=5∧n=1∧d=true∧r=true∧a=false)∨(k=6∧n=2∧d=false∧r=true∧a=false)∨(k=7∧n=-1∧d=true∧r=true∧a=false)∨(k=8∧n=0∧d=true∧r=true∧a=false)∨(k=9∧n=1∧d=false∧r=true∧a=false)∨(k=10∧n=1∧d=true∧r=true∧a=false)∨(k=11∧n=0∧d=false∧r=true∧a=false)∨(k=12∧n=1∧d=false∧r=true∧a=true)∨(k=13∧n=1∧d=false∧r=false∧a=false):=by
 by_cases g1:k=1
 ·subst g1
  have h:some ((0,true,false,false):Int×Bool×Bool×Bool)=some (n,d,r,a):=h
  cases h
  decide
 by_cases g2:k=2
 ·subst g2
  have h:some ((2,true,false,false):Int×Bool×Bool×Bool)=some (n,d,r,a):=h
  cases h
  decide
 by_cases g4:k=4
 ·subst g4
  have h:some ((1,true,true,false):Int×Bool×Bool×Bool)=some (n,d,r,a):=h
  cases h
  decide
 by_cases g5:k=5
 ·subst g5
  have h:some ((1,true,true,false):Int×Bool×Bool×Bool)=some (n,d,r,a):=h
  cases h
  decide
 by_cases g6:k=6
 ·subst g6
  have h:some ((2,false,true,false):Int×Bool×Bool×Bool)=some (n,d,r,a):=h
  cases h
  decide
 by_cases g7:k=7
 ·subst g7
  have h:some ((-1,true,true,false):Int×Bool×Bool×Bool)=some (n,d,r,a):=h
  cases h
  decide
 by_cases g8:k=8
 ·subst g8
  have h:some ((0,true,true,false):Int×Bool×Bool×Bool)=some (n,d,r,a):=h
  cases h
  decide
 by_cases g9:k=9
 ·subst g9
  have h:some ((1,false,true,false):Int×Bool×Bool×Bool)=some (n,d,r,a):=h
  cases h
  decide
 by_cases g10:k=10
 ·subst g10
  have h:some ((1,true,true,false):Int×Bool×Bool×Bool)=some (n,d,r,a):=h
  cases h
  decide
 by_cases g11:k=11
 ·subst g11
  have h:some ((0,false,true,false):Int×Bool×Bool×Bool)=some (n,d,r,a):=h
  cases h
  decide
 by_cases g12:k=12
 ·subst g12
  have h:some ((1,false,true,true):Int×Bool×Bool×Bool)=some (n,d,r,a):=h
  cases h
  decide
 by_cases g13:k=13
 ·subst g13
  have h:some ((1,false,false,false):Int×Bool×Bool×Bool)=some (n,d,r,a):=h
  cases h
  decide
 exfalso
 unfold jL at h
 rw[if_neg g1,if_neg g2,if_neg g4,if_neg g5,if_neg g6,if_neg g7,if_neg g8,if_neg g9,if_neg g10,if_neg g11,if_neg g12,if_neg g13] at h
 cases h
theorem sN{k n:Int}{d r a:Bool}(h:shp k=some (n,d,r,a)):(k=3∧n=-1∧d=true∧r=false∧a=false)∨(k≠3∧jL k=some (n,d,r,a)):=by
 unfold shp at h
 split at h
 ·rename_i g
  cases h
  exact .inl ⟨g,Z,Z,Z,Z⟩
 ·rename_i g
  exact .inr ⟨g,h⟩
theorem QB{k n:Int}{d r a:Bool}(h3:k≠3)(h:jL k=some (n,d,r,a)):shp k=some (n,d,r,a):=by unfold shp;rw[if_neg h3];exact h
theorem YD{s:BY}(h:okN s=true):s.data.toList≠[]:=by
 intro e
 have e2:s=.empty:=Ej (by rw[e];rfl)
 rw[e2] at h
 revert h;decide
theorem Jt{x:Ins}(h:cZ x=true):(x.dst.data.toList=[])↔lM x.kind=false:=by
 rcases jP h with⟨h3,hp⟩ | ⟨n,d,r,a,hs,h3,hi,_⟩
 ·have e:lM x.kind=true:=by rw[h3];rfl
  rw[e]
  exact⟨λg=>absurd g (YD hp.dst),λg=>by cases g⟩
 ·have e:lM x.kind=d:=by unfold lM;rw[QB h3 hs]
  rw[e]
  cases d with
  | true=>exact⟨λg=>absurd g (YD (R9 hi.dst)),λg=>by cases g⟩
  | false=>exact⟨λ_=>rfl,λ_=>by rw[GA hi.dst];rfl⟩
theorem GN{o:Int}:(opName o).data.toList≠[]↔1≤o∧o≤12:=by
 unfold opName
 split
 ·rename_i h
  exact⟨λg=>absurd Z g,λg=>by omega⟩
 ·rename_i h
  by_cases h0:o≤0
  ·rw[show o.toNat=0 by omega]
   exact⟨λg=>absurd (by decide) g,λg=>by omega⟩
  ·obtain⟨n,rfl⟩:∃n:Nat,o=(n:Int):=⟨o.toNat,by omega⟩
   have hn:n<13:=by omega
   rw[afT]
   refine⟨λ_=>by omega,λ_=>?_⟩
   have key:∀n:Nat,n<13->n≠0->(opAt n).data.toList≠[]:=by decide
   exact key n hn (by omega)
theorem Sl{l:List Chan}{s:BY}(h:0≤eY l s):eY l s<(l.length:Int):=by
 unfold eY at *
 rcases yU (p:=λi=>decide ((l.getD i aL).1.data.toList=s.data.toList)) (n:=l.length) (i:=0) with e | e<;>omega
theorem GQ{n a k:Int}(h:gJ n a=.ok k):0≤n∧k=n:=by
 unfold gJ at h
 split at h
 ·rename_i g
  cases h;exact⟨g,rfl⟩
 ·cases h
theorem bd1{r:Flt Int}{o:Int×Int}(h:(bd r λn=>.ok (n,(0:Int)))=.ok o):r=.ok o.1∧o.2=0:=by
 obtain⟨n,h1,h2⟩:=mM h
 cases h2
 exact⟨h1,Z⟩
theorem uH{l:List BY}{s:BY}{a n:Int}(h:jO l s a=.ok n):0≤n∧n<(l.length:Int):=by
 obtain⟨h1,rfl⟩:=Aq h
 exact uF (jR.2 h1)
theorem aax{R:Res}{s:Scp}{x:Ins}{o:Int×Int}{n:Int}{d r a:Bool}(hs:shp x.kind=some (n,d,r,a))(h:qQ R s x=.ok o):(r=false->o.1=0)∧(a=false->o.2=0)∧(r=true->0≤o.1∧o.1<uU R.p R.Ig.length R.fns.length s.blks.length x.kind)∧(a=true->0≤o.2∧o.2<(s.blks.length:Int)):=by
 unfold qQ at h
 unfold uU
 rcases sN hs with⟨hk,rfl,rfl,rfl,rfl⟩ | ⟨h3,hs⟩
 ·simp [hk] at h
  cases h;simp
 ·rcases nk hs with⟨hk,rfl,rfl,rfl,rfl⟩ | ⟨hk,rfl,rfl,rfl,rfl⟩ | ⟨hk,rfl,rfl,rfl,rfl⟩ | ⟨hk,rfl,rfl,rfl,rfl⟩ | ⟨hk,rfl,rfl,rfl,rfl⟩ | ⟨hk,rfl,rfl,rfl,rfl⟩ | ⟨hk,rfl,rfl,rfl,rfl⟩ | ⟨hk,rfl,rfl,rfl,rfl⟩ | ⟨hk,rfl,rfl,rfl,rfl⟩ | ⟨hk,rfl,rfl,rfl,rfl⟩ | ⟨hk,rfl,rfl,rfl,rfl⟩ | ⟨hk,rfl,rfl,rfl,rfl⟩
  ·simp [hk] at h;cases h;simp
  ·simp [hk] at h;cases h;simp
  ·simp [hk] at h;obtain⟨h1,h2⟩:=bd1 h;have:=uH h1;simp [hk,h2,this]
  ·simp [hk] at h;obtain⟨h1,h2⟩:=bd1 h;have:=uH h1;simp [hk,h2,this]
  ·simp [hk] at h;obtain⟨h1,h2⟩:=bd1 h;have:=uH h1;simp [hk,h2,this]
  ·simp [hk] at h;obtain⟨h1,h2⟩:=bd1 h;have:=uH h1;simp [hk,h2,this]
  ·simp [hk] at h;obtain⟨h1,h2⟩:=bd1 h;obtain⟨h3,h4⟩:=GQ h1;have:=Sl h3;simp [hk,h2,h4,this,h3]
  ·simp [hk] at h;obtain⟨h1,h2⟩:=bd1 h;obtain⟨h3,h4⟩:=GQ h1;have:=Sl h3;simp [hk,h2,h4,this,h3]
  ·simp [hk] at h;obtain⟨h1,h2⟩:=bd1 h;obtain⟨h3,h4⟩:=GQ h1;have:=Ah h3;simp [hk,h2,h4,h3];omega
  ·simp [hk] at h;obtain⟨h1,h2⟩:=bd1 h;have:=uH h1;simp [hk,h2,this]
  ·simp [hk] at h
   obtain⟨u,h1,h2⟩:=mM h
   obtain⟨v,h3,h4⟩:=mM h2
   cases h4
   have g1:=uH h1
   have g2:=uH h3
   simp [hk,g1,g2]
  ·simp [hk] at h;cases h;simp
structure acW(R:Res)(s:Scp)(x:Ins)(y:Op9)(o:Int×Int):Prop where
 refs:qQ R s x=.ok o
 y:y=⟨x.kind,x.op,if x.dst.data.toList=[] then -1 else dJ s.vals x.dst,o.1,o.2,x.args.map (dJ s.vals),x.frm.map (dJ s.blks),x.num,x.at_⟩
 args:∀t∈x.args,t∈s.vals
 frm:∀t∈x.frm,t∈s.blks
 call:x.kind=7->x.args.length=qR R.q o.1
theorem YE{R:Res}{s:Scp}{x:Ins}{y:Op9}(h:Cb R s x=.ok y):∃o,acW R s x y o:=by
 unfold Cb at h
 obtain⟨o,h1,h⟩:=mM h
 obtain⟨az,h2,h⟩:=mM h
 obtain⟨fs,h3,h⟩:=mM h
 obtain⟨rfl,g1⟩:=Cm h2
 obtain⟨rfl,g2⟩:=Cm h3
 split at h
 ·cases h
 ·rename_i hc
  cases h
  refine⟨o,h1,by simp,g1,g2,λhk=>?_⟩
  exact Classical.byContradiction λhne=>hc ⟨hk,hne⟩
structure afh(R:Res)(s:Scp)(code:List Ins)(i:Nat)(y:Op9):Prop where
 e:j5 (code.getD i (aP 0)).kind=true->i+1=code.length
 ph:(code.getD i (aP 0)).kind=3->i≠0->(code.getD (i-1) (aP 0)).kind=3
 op:Cb R s (code.getD i (aP 0))=.ok y
theorem wN{R:Res}{s:Scp}{code:List Ins}{i:Nat}{y:Op9}:Ai R s code i=.ok y↔afh R s code i y:=by
 unfold Ai
 constructor
 ·intro h
  split at h
  ·cases h
  ·rename_i h1
   split at h
   ·cases h
   ·rename_i h2
    exact⟨λg=>Classical.byContradiction λhne=>h1 ⟨g,hne⟩,λg g2=>Classical.byContradiction λhne=>h2 ⟨g,g2,hne⟩,h⟩
 ·intro h
  rw[if_neg λg=>g.2 (h.e g.1),if_neg λg=>g.2.2 (h.ph g.1 g.2.1)]
  exact h.op
structure Sn(f:Fun):Prop where
 name:okN f.name=true
 N8:gU f.params=true
 pl:f.params.length≤6
 b1:1≤f.blocks.length
 b2:f.blocks.length≤64
 blk:∀b∈f.blocks,okN b.name=true∧∀x∈b.code,cZ x=true
structure afi(a:Arr):Prop where
 name:okN a.name=true
 lev:okN a.level=true
 s1:1≤a.size
 s2:a.size≤256
structure YF(q:Prg):Prop where
 al:q.arrays.length≤16
 fl:q.funcs.length≤64
 arr:∀a∈q.arrays,afi a
 fn:∀f∈q.funcs,Sn f
 all:ko q.funcs≤4096
theorem Vv{a:Arr}:lG a=true↔afi a:=by
 unfold lG
 simp only[afR,afU,Bool.not_eq_false',afP]
 exact⟨λ⟨⟨⟨h1,h2⟩,h3⟩,h4⟩=>⟨h1,h2,by omega,by omega⟩,λh=>⟨⟨⟨h.name,h.lev⟩,by have:=h.s1;omega⟩,by have:=h.s2;omega⟩⟩
theorem Vw{f:Fun}:lH f=true↔Sn f:=by
 unfold lH pU
 simp only[afF,afR,afU,Bool.not_eq_false',afP,List.all_eq_true]
 exact⟨λ⟨⟨⟨⟨⟨h1,h2⟩,h3⟩,h4⟩,h5⟩,h6⟩=>⟨h1,h2,by omega,by omega,by omega,h6⟩,λh=>⟨⟨⟨⟨⟨h.name,h.N8⟩,by have:=h.pl;omega⟩,by have:=h.b1;omega⟩,by have:=h.b2;omega⟩,h.blk⟩⟩
theorem kZ{q:Prg}:rightG q=true↔YF q:=by
 unfold rightG
 simp only[afF,afR,afU,afL,afP,List.all_eq_true,Vv,Vw]
 exact⟨λ⟨⟨⟨⟨h1,h2⟩,h3⟩,h4⟩,h5⟩=>⟨by omega,by omega,h3,h4,h5⟩,λh=>⟨⟨⟨⟨by have:=h.al;omega,by have:=h.fl;omega⟩,h.arr⟩,h.fn⟩,h.all⟩⟩
theorem sO{α β γ:Type}{F:α->γ}{G:β->γ}(d:α)(e:β):∀{l:List α} {m:List β},l.length=m.length->(∀i,i<m.length->F (l.getD i d)=G (m.getD i e))->l.map F=m.map G
 | [],[],_,_=>rfl
 | [],_::_,h,_=>by cases h
 | _::_,[],h,_=>by cases h
 | a::l,b::m,h,h2=>by
  rw[List.map_cons,List.map_cons,show F a=G b from h2 0 (Nat.zero_lt_succ _),sO d e (by simpa using h) λi hi=>h2 (i+1) (by simpa using hi)]
theorem Sq{vals:List BY}:∀{code:List Ins} {l:List Op9},l.length=code.length->(∀j,j<code.length->(l.getD j op0).kind=(code.getD j (aP 0)).kind∧((l.getD j op0).dst=if (code.getD j (aP 0)).dst.data.toList=[] then -1 else dJ vals (code.getD j (aP 0)).dst)∧((code.getD j (aP 0)).dst.data.toList=[]↔lM (code.getD j (aP 0)).kind=false))->eG l=(Cc code).map λe=>dJ vals e.1
 | [],[],_,_=>rfl
 | [],_::_,h,_=>by cases h
 | _::_,[],h,_=>by cases h
 | x::code,y::l,h,h2=>by
  obtain⟨h3,h4,h5⟩:=h2 0 (Nat.zero_lt_succ _)
  have h3:y.kind=x.kind:=h3
  have h4:y.dst=if x.dst.data.toList=[] then -1 else dJ vals x.dst:=h4
  have h5:x.dst.data.toList=[]↔lM x.kind=false:=h5
  have ih:=Sq (vals:=vals) (code:=code) (l:=l) (by simpa using h) λj hj=>h2 (j+1) (by simpa using hj)
  unfold eG Cc at *
  by_cases e:x.dst.data.toList=[]
  ·rw[List.filterMap_cons,List.filterMap_cons,if_neg (by rw[h3,h5.1 e];simp),if_pos e]
   exact ih
  ·have e2:lM x.kind=true:=by
    cases g:lM x.kind with
    | true=>rfl
    | false=>exact absurd (h5.2 g) e
   rw[List.filterMap_cons,List.filterMap_cons,if_pos (by rw[h3];exact e2),if_neg e]
   rw[if_neg e] at h4
   simp only[List.map_cons]
   rw[h4,ih]
theorem N9{vals:List BY}:∀{bs:List Blk} {ls:List (List Op9)},ls.length=bs.length->(∀k,k<bs.length->eG (ls.getD k [])=(Cc (bs.getD k bq).code).map λe=>dJ vals e.1)->dw ls=(p8 bs).map λe=>dJ vals e.1
 | [],[],_,_=>rfl
 | [],_::_,h,_=>by cases h
 | _::_,[],h,_=>by cases h
 | b::bs,l::ls,h,h2=>by
  have ih:=N9 (vals:=vals) (bs:=bs) (ls:=ls) (by simpa using h) λj hj=>h2 (j+1) (by simpa using hj)
  have h0:eG l=(Cc b.code).map λe=>dJ vals e.1:=h2 0 (Nat.zero_lt_succ _)
  unfold dw p8 at *
  rw[List.flatMap_cons,List.flatMap_cons,List.map_append,h0,ih]
theorem YG{p:Pol}{q:Prg}{c:Cod}(hc:Js p q c){f:Fun}{b:Bod}(hb:N7 (DR p q) f b){x:Ins}(hx:cZ x=true){y:Op9}{o:Int×Int}(h:acW (DR p q) (qV f) x y o):∃n d r a,ROp p c b y n d r a:=by
 obtain⟨n,d,r,a,hs⟩:∃n d r a,shp x.kind=some (n,d,r,a):=by
  rcases jP hx with⟨h3,hp⟩ | ⟨n,d,r,a,hs,h3,hi,_⟩
  ·exact⟨-1,true,false,false,by unfold shp;rw[if_pos h3]⟩
  ·exact⟨n,d,r,a,QB h3 hs⟩
 have hla:(Sk q).length=c.arrays.length:=by rw[hc.Ig,List.length_map,List.length_map]
 have hlf:(KO q).length=c.funcs.length:=by rw[hc.len,List.length_map]
 have hlb:(GK f).length=b.blocks.length:=by rw[hb.len,List.length_map]
 obtain⟨g1,g2,g3,g4⟩:=aax hs h.refs
 have e1:(qV f).blks.length=b.blocks.length:=hlb
 have e2:(DR p q).Ig.length=c.arrays.length:=hla
 have e3:(DR p q).fns.length=c.funcs.length:=hlf
 rw[e1,e2,e3] at g3
 rw[e1] at g4
 have hy:=h.y
 have hd:=Jt hx
 have hD:lM x.kind=d:=by unfold lM;rw[hs]
 refine⟨n,d,r,a,?_⟩
 subst hy
 have hargs:∀k∈x.args.map (dJ (qV f).vals),0≤k∧k<b.vars:=λk hk=>by
  obtain⟨s,hs,rfl⟩:=List.mem_map.1 hk
  rw[hb.vars]
  exact uF (jR.2 (h.args s hs))
 have TV:∀k∈x.frm.map (dJ (qV f).blks),0≤k∧k<(b.blocks.length:Int):=λk hk=>by
  obtain⟨s,hs,rfl⟩:=List.mem_map.1 hk
  rw[←hlb]
  exact uF (jR.2 (h.frm s hs))
 have hcall:x.kind=7->(x.args.length:Int)=(c.funcs.getD o.1.toNat aA).params:=λhk=>by
  have h7:=h.call hk
  have hr:r=true:=by
   rw[hk] at hs
   have:shp 7=some (-1,true,true,false):=rfl
   rw[this] at hs;cases hs;rfl
  have hm:=g3 hr
  rw[hk] at hm
  have hm:0≤o.1∧o.1<(c.funcs.length:Int):=hm
  have:=(hc.fn o.1.toNat (by rw[←hc.len];omega)).N8
  rw[this,h7];rfl
 rcases jP hx with⟨h3,hp⟩ | ⟨n',d',r',a',hs',h3,hi,hop⟩
 ·exact⟨hs,λg=>if_pos (hd.2 (by rw[hD,g])),g1,g2,λ_=>hp.num,λ_=>hp.op,λg=>by have g:x.kind=2:=g;omega,g3,g4,λ_=>by simp only[List.length_map];exact hp.len,λg=>absurd h3 g,hargs,TV⟩
 ·have hs2:=QB h3 hs'
  rw[hs] at hs2
  cases hs2
  refine⟨hs,λg=>if_pos (hd.2 (by rw[hD,g])),g1,g2,λg=>?_,λg=>?_,λg=>GN.1 (hop g),g3,g4,λg=>absurd g h3,λ_=>⟨by show x.frm.map _=[];rw[hi.frm];rfl,?_⟩,hargs,TV⟩
  ·exact Classical.byContradiction λhne=>g (hi.num hne)
  ·exact Classical.byContradiction λhne=>g (hi.op.1 hne)
  ·show ((x.args.map (dJ (qV f).vals)).length:Int)=if x.kind=7 then _ else n
   rw[List.length_map]
   split
   ·rename_i hk;exact hcall hk
   ·rename_i hk
    refine hi.yT.1 ?_
    rcases nk hs' with g | g | g | g | g | g | g | g | g | g | g | g<;>omega
theorem Vx{p:Pol}{q:Prg}{c:Cod}(hc:Js p q c){f:Fun}{b:Bod}(hb:N7 (DR p q) f b)(hf:Sn f):Ij p c b:=by
 have hins:∀k,k<f.blocks.length->∀j,j<(f.blocks.getD k bq).code.length->∃o,acW (DR p q) (qV f) ((f.blocks.getD k bq).code.getD j (aP 0)) ((b.blocks.getD k []).getD j op0) o:=λk hk j hj=>YE (wN.1 ((hb.blk k hk).ins j hj)).op
 have hri:∀k,k<f.blocks.length->∀j,j<(f.blocks.getD k bq).code.length->cZ ((f.blocks.getD k bq).code.getD j (aP 0))=true:=λk hk j hj=>(hf.blk _ (getD_in _ hk)).2 _ (getD_in _ hj)
 have hD:dw b.blocks=(p8 f.blocks).map λe=>dJ (wM f) e.1:=by
  refine N9 hb.len λk hk=>Sq (hb.blk k hk).len λj hj=>?_
  obtain⟨o,ho⟩:=hins k hk j hj
  have hy:=ho.y
  exact⟨by rw[hy],by rw[hy],Jt (hri k hk j hj)⟩
 refine⟨⟨by rw[hb.N8];omega,by rw[hb.N8];have:=hf.pl;omega⟩,⟨by rw[hb.len];exact hf.b1,by rw[hb.len];exact hf.b2⟩,?_,λi hi=>?_,λl hl=>?_⟩
 ·rw[hb.vars,hb.N8,hD,List.length_map,List.length_append,List.length_map];omega
 ·rw[hD] at hi ⊢
  rw[List.length_map] at hi
  have hv:(wM f).getD (f.params.length+i) .empty=((p8 f.blocks).getD i (.empty,0)).1:=by
   rw[afE,afE,List.getElem?_append_right (by omega),Nat.add_sub_cancel_left,List.getElem?_map,afG hi];rfl
  have hl:f.params.length+i<(wM f).length:=by rw[List.length_append,List.length_map];omega
  have:=pos_at hb.nv hl
  rw[hv] at this
  rw[hb.N8,afE,List.getElem?_map,afG hi]
  rw[afE,afG hi] at this
  show dJ (wM f) ((p8 f.blocks)[i]).1=_
  have this:dJ (wM f) ((p8 f.blocks)[i]).1=((f.params.length+i:Nat):Int):=this
  rw[this];omega
 ·obtain⟨k,hk,rfl⟩:=List.getElem_of_mem hl
  have hk2:k<f.blocks.length:=by rw[←hb.len];exact hk
  have hB:=hb.blk k hk2
  have eL:b.blocks.getD k []=b.blocks[k]:=by rw[afE,afG hk];rfl
  rw[eL] at hB
  have hkind:∀j,j<(f.blocks.getD k bq).code.length->(b.blocks[k].getD j op0).kind=((f.blocks.getD k bq).code.getD j (aP 0)).kind:=λj hj=>by
   obtain⟨o,ho⟩:=hins k hk2 j hj
   have:=ho.y
   rw[eL] at this
   rw[this]
  have he:=hB.e
  unfold Gv at he
  rw[afF,afL] at he
  refine⟨by rw[hB.len];exact he.1,λj hj=>?_,λj hj=>?_,λj hj h3 h0=>?_⟩
  ·rw[hB.len] at hj
   obtain⟨o,ho⟩:=hins k hk2 j hj
   rw[eL] at ho
   exact YG hc hb (hri k hk2 j hj) ho
  ·rw[hB.len] at hj ⊢
   rw[hkind j hj]
   refine⟨(wN.1 (hB.ins j hj)).e,λg=>?_⟩
   rw[show j=(f.blocks.getD k bq).code.length-1 by omega];exact he.2
  ·rw[hB.len] at hj
   rw[hkind j hj] at h3
   rw[hkind (j-1) (by omega)]
   exact (wN.1 (hB.ins j hj)).ph h3 h0
theorem Cq{p:Pol}{q:Prg}{c:Cod}(hp:dQ p=true)(hq:YF q)(hc:Js p q c):kL p c:=by
 have hm:=uF (jR.2 hc.mn)
 rw[←hc.main,List.length_map,←hc.len] at hm
 have hbod:∀i,i<q.funcs.length->Ij p c (c.funcs.getD i aA):=λi hi=>Vx hc (hc.fn i hi) (hq.fn _ (getD_in _ hi))
 refine⟨hp,by rw[hc.Ig,List.length_map];exact hq.al,by rw[hc.len];exact hq.fl,hm,?_,λa ha=>?_,λb hb=>?_,?_⟩
 ·have:=(hc.fn c.main.toNat (by rw[←hc.len];omega)).N8
  rw[this]
  have h0:=hc.mp
  rw[←hc.main] at h0
  unfold qR at h0
  rw[h0];rfl
 ·rw[hc.Ig] at ha
  obtain⟨a',ha',rfl⟩:=List.mem_map.1 ha
  have h1:=hq.arr a' ha'
  have h2:=hc.lv a' ha'
  have h3:=Ah h2
  exact⟨⟨h1.s1,h1.s2⟩,h2,by show bE p.lev a'.level<_;omega⟩
 ·obtain⟨i,hi,rfl⟩:=List.getElem_of_mem hb
  have:=hbod i (by rw[←hc.len];exact hi)
  rwa [afE,afG hi] at this
 ·have:(c.funcs.map λb=>(b.blocks.map λl=>l.length).sum)=q.funcs.map λf=>(f.blocks.map λb=>b.code.length).sum:=by
   refine sO aA bG hc.len λi hi=>?_
   have hb:=hc.fn i hi
   congr 1
   exact sO [] bq hb.len λk hk=>(hb.blk k hk).len
  rw[this];exact hq.all
end Go.Proofs.YtojhdmfkfkfcbaaGreatDoor
namespace Go.Proofs.YtojhdmfkfkfcbaaGreatDoor
open Go.Sx
def Vy(b:UInt8):Bool:=decide (b=32)||decide (b=9)
def byt(s:BY)(i:Nat):UInt8:=s.data.toList.getD i 0
theorem YH(s:BY)(i:Nat):(byt s i).toNat=bt s i:=by
 have h:=nI s i
 unfold sb at h
 unfold byt
 omega
theorem acX(s:BY)(i:Nat):Vy (byt s i)=true↔(bt s i=32∨bt s i=9):=by
 rw[←YH]
 unfold Vy
 simp only[Bool.or_eq_true,afL,←UInt8.toNat_inj]
 exact Iff.rfl
theorem zn(s:BY):s.data.toList.length=s.size:=Array.length_toList
abbrev tl(s:BY):List UInt8:=s.data.toList
theorem acY(s:BY):tl s=[]↔s.size=0:=by
 rw[←List.length_eq_zero_iff,zn]
def okB(l:List UInt8):Bool:=(rl ⟨l.toArray⟩).all okR
theorem ba_l(s:BY):(⟨s.data.toList.toArray⟩:BY)=s:=by cases s;simp
theorem acZ(s:BY):0≤dA s s.size 0↔okB s.data.toList=false:=by
 unfold okB
 rw[ba_l]
 have:=(XJ s).2
 cases h:(rl s).all okR with
 | true=>rw[h] at this;have:=this.2 rfl;simp;omega
 | false=>rw[h] at this;simp at this;simp;omega
end Go.Proofs.YtojhdmfkfkfcbaaGreatDoor
namespace Go.Proofs.YtojhdmfkfkfcbaaGreatDoor
open Go.Sx
set_option maxRecDepth 100000
theorem YI{sz p a b c d:Nat}(ha:a<256)(h:rA ((dec sz p a b c d).1:Int)=true∨rZ ((dec sz p a b c d).1:Int)=true):(dec sz p a b c d).2≤2∧a≠10∧a≠32∧a≠9∧a≠35∧(1<(dec sz p a b c d).2->127<b):=by
 have hr:((dec sz p a b c d).1≤969∧48≤(dec sz p a b c d).1):=by
  unfold rA rZ at h
  simp only[Bool.or_eq_true,afF,afL] at h
  omega
 revert hr
 unfold dec
 repeat' split
 all_goals dsimp only
 all_goals omega
theorem DT(s:BY):∀(n p:Nat) (c:Int),s.size≤p+n->0≤c->c≤24->jq s n p c=true->(s.size:Int)≤p+2*(24-c)∧∀k,p≤k->k<s.size->bt s k≠10∧bt s k≠32∧bt s k≠9∧bt s k≠35
 | 0,p,c,h,_,_,_=>⟨by omega,λk h1 h2=>by omega⟩
 | n+1,p,c,h,h0,h1,hw=>by
  rw[jq] at hw
  split at hw
  ·rename_i hp
   split at hw
   ·cases hw
   ·rename_i hg
    split at hw
    ·cases hw
    ·have hd:=bF s p
     obtain⟨i1,i2⟩:=DT s n (p+(Utf8.decode s p).2) (c+1) (by omega) (by omega) (by omega) hw
     have hg:rA ((Utf8.decode s p).1:Int)=true∨rZ ((Utf8.decode s p).1:Int)=true:=by
      cases e1:rA ((Utf8.decode s p).1:Int) with
      | true=>exact .inl rfl
      | false=>
       cases e2:rZ ((Utf8.decode s p).1:Int) with
       | true=>exact .inr rfl
       | false=>rw[e1,e2] at hg;simp at hg
     rw[bH] at hg
     have:=YI (eD s p) hg
     rw[←bH] at this
     refine⟨by omega,λk k1 k2=>?_⟩
     by_cases e:k=p
     ·subst e;exact⟨this.2.1,this.2.2.1,this.2.2.2.1,this.2.2.2.2.1⟩
     ·by_cases e1:p+(Utf8.decode s p).2≤k
      ·exact i2 k e1 k2
      ·have e3:k=p+1:=by omega
       have:=this.2.2.2.2.2 (by omega)
       rw[e3];omega
  ·exact⟨by omega,λk h1 h2=>by omega⟩
theorem Oa(s:BY):∀(n p:Nat) (c:Int),jq s n p c=true->(dl s n p).all okR=true
 | 0,p,c,_=>rfl
 | n+1,p,c,hw=>by
  rw[jq] at hw
  rw[dl]
  split at hw
  ·rename_i hp
   rw[if_pos hp]
   split at hw
   ·cases hw
   ·rename_i hg
    split at hw
    ·cases hw
    ·rw[List.all_cons,Oa s n _ _ hw,Bool.and_true]
     unfold okR
     by_cases e:(Utf8.decode s p).1=65533
     ·rw[e,show rA ((65533:Nat):Int)=false from by decide,show rZ ((65533:Nat):Int)=false from by decide] at hg
      simp at hg
     ·simp [e]
  ·rename_i hp
   rw[if_neg hp];rfl
structure GW(w:BY):Prop where
 ne:tl w≠[]
 no:∀b∈tl w,b≠10∧Vy b=false
 ok:okB (tl w)=true
theorem xA{s:BY}(h:gF s=true):GW s∧s.size≤48∧sb s 0≠35:=by
 unfold gF at h
 rw[afF] at h
 have h:=h.1
 obtain⟨h1,h2⟩:=DT s s.size 0 0 (by omega) (by omega) (by omega) h
 have hne:s.size≠0:=λe=>by
  rw[e] at h
  exact absurd h (by rw[jq];decide)
 have hok:dA s s.size 0<0:=(XJ s).2.2 (Oa s s.size 0 0 h)
 refine⟨⟨λe=>hne ((acY s).1 e),λb hb=>?_,?_⟩,by omega,?_⟩
 ·obtain⟨k,hk,rfl⟩:=List.getElem_of_mem hb
  rw[zn] at hk
  have:=h2 k (Nat.zero_le _) hk
  have e:(tl s)[k]'(by rw[zn];exact hk)=byt s k:=by
   unfold byt
   rw[afE,afG (by rw[zn];exact hk)];rfl
  rw[e]
  refine⟨λq=>this.1 (by rw[←YH,q];rfl),?_⟩
  cases q:Vy (byt s k) with
  | false=>rfl
  | true=>have:=(acX s k).1 q;omega
 ·have:=acZ s
  cases q:okB (tl s) with
  | true=>rfl
  | false=>have:=this.2 q;omega
 ·have:=h2 0 (Nat.le_refl _) (by omega)
  rw[nI];omega
def joinL:List BY->List UInt8
 | []=>[]
 | [w]=>tl w
 | w::v::r=>tl w++32::joinL (v::r)
def GL(ws:List BY):Prop:=∃w r,ws=w::r∧(∀x∈ws,GW x)∧sb w 0≠35
def GR(K:List (List UInt8))(k:List UInt8):Int:=l9 (λi=>decide (K.getD i []=k)) K.length 0
theorem QC{α:Type}(f:α->List UInt8)(a0:α)(l:List α)(h0:f a0=[])(i:Nat):(l.map f).getD i []=f (l.getD i a0):=by
 rw[afE,afE,List.getElem?_map]
 cases l[i]? with
 | none=>exact h0.symm
 | some x=>rfl
theorem QD(l:List BY)(s:BY):bE l s=GR (l.map tl) (tl s):=by
 unfold bE GR
 rw[List.length_map]
 congr 1
 funext i
 rw[QC tl .empty l Z i]
theorem GU(l:List Chan)(s:BY):eY l s=GR (l.map λc=>tl c.1) (tl s):=by
 unfold eY GR
 rw[List.length_map]
 congr 1
 funext i
 rw[QC (λc:Chan=>tl c.1) aL l Z i]
theorem KQ{p:Nat->Bool}:∀{n i k:Nat},l9 p n i=(k:Int)↔i≤k∧k<i+n∧p k=true∧∀j,i≤j->j<k->p j=false
 | 0,i,k=>by
  rw[l9]
  exact⟨λh=>by omega,λh=>by omega⟩
 | n+1,i,k=>by
  rw[l9]
  cases hp:p i with
  | true=>
   rw[if_pos rfl]
   constructor
   ·intro h
    obtain rfl:i=k:=by omega
    exact⟨Nat.le_refl _,by omega,hp,λj h1 h2=>by omega⟩
   ·rintro ⟨h1,h2,h3,h4⟩
    by_cases e:i=k
    ·rw[e]
    ·have:=h4 i (Nat.le_refl _) (by omega)
     rw[hp] at this;cases this
  | false=>
   rw[if_neg (by simp),KQ]
   constructor
   ·rintro ⟨h1,h2,h3,h4⟩
    refine⟨by omega,by omega,h3,λj j1 j2=>?_⟩
    by_cases e:j=i
    ·rw[e];exact hp
    ·exact h4 j (by omega) j2
   ·rintro ⟨h1,h2,h3,h4⟩
    have:i≠k:=λe=>by rw[e] at hp;rw[hp] at h3;cases h3
    exact⟨by omega,by omega,h3,λj j1 j2=>h4 j (by omega) j2⟩
theorem Ju{K:List (List UInt8)}{i:Nat}(h:i<K.length):K.getD i []=K[i]:=by
 rw[afE,afG h];rfl
theorem Sr{K:List (List UInt8)}{k:List UInt8}:GR K k<0↔k∉K:=by
 have:0≤GR K k↔k∈K:=by
  unfold GR
  rw[wG]
  constructor
  ·rintro ⟨j,_,h1,h2⟩
   have h1:j<K.length:=by omega
   rw[afL,Ju h1] at h2
   rw[←h2];exact List.getElem_mem h1
  ·intro h
   obtain⟨j,hj,rfl⟩:=List.getElem_of_mem h
   exact⟨j,Nat.zero_le _,by omega,decide_eq_true (Ju hj)⟩
 rw[←this];omega
theorem En{K:List (List UInt8)}(hn:K.Nodup){i:Nat}(h:i<K.length):GR K (K.getD i [])=i:=by
 unfold GR
 refine KQ.2 ⟨Nat.zero_le _,by omega,decide_eq_true Z,λj _ hj=>decide_eq_false ?_⟩
 rw[Ju h,Ju (by omega)]
 intro e
 have:=(List.getElem_inj hn).1 e
 omega
theorem Ob{K:List (List UInt8)}(h:∀i,i<K.length->GR K (K.getD i [])=i):K.Nodup:=by
 rw[List.nodup_iff_pairwise_ne,List.pairwise_iff_getElem]
 intro i j hi hj hij e
 have:=h j hj
 unfold GR at this
 have:=(KQ.1 this).2.2.2 i (Nat.zero_le _) hij
 rw[afP,Ju hi,Ju hj] at this
 exact this e
def wB(l:List UInt8):BY:=⟨l.toArray⟩
def levW(l:List BY):List (List BY):=l.map λs=>[wB uD,s]
def afj(lev:List BY)(ps:List (Nat×Nat)):List (List BY):=ps.map λc=>[wB Af,lev.getD c.1 .empty,lev.getD c.2 .empty]
def abq(k:List UInt8)(lev:List BY)(l:List Chan):List (List BY):=l.map λc=>[wB k,c.1,lev.getD c.2.toNat .empty]
def depW(d:Int):List (List BY):=[[wB kr,gM d]]
abbrev NL(l:List BY):Prop:=(l.map tl).Nodup
abbrev NC(l:List Chan):Prop:=(l.map λc=>tl c.1).Nodup
theorem uI{l:List BY}(h:∀s∈l,gF s=true){i:Nat}(hi:i<l.length):gF (l.getD i .empty)=true:=h _ (by rw[afE,afG hi];exact List.getElem_mem hi)
theorem Eo{l:List BY}(hn:NL l){i:Nat}(hi:i<l.length):bE l (l.getD i .empty)=i:=by
 rw[QD,←QC tl .empty l Z i]
 exact En hn (by rw[List.length_map];exact hi)
def OKC(lev:List BY)(c:Chan):Prop:=gF c.1=true∧0≤c.2∧c.2<lev.length
theorem aay:∀k:Fin 65,1≤k.1->fF (gM (k.1:Int))=((k.1:Int),true)∧tl (gM (k.1:Int))≠[]∧(∀b∈tl (gM (k.1:Int)),b≠10∧Vy b=false)∧okB (tl (gM (k.1:Int)))=true∧(gM (k.1:Int)).size≤2:=by decide +kernel
theorem YJ{d:Int}(h1:1≤d)(h2:d≤64):fF (gM d)=(d,true)∧GW (gM d)∧(gM d).size≤2:=by
 obtain⟨k,rfl⟩:∃k:Nat,d=k:=⟨d.toNat,by omega⟩
 obtain⟨a,b,c,e,f⟩:=aay ⟨k,by omega⟩ (by show 1≤k;omega)
 exact⟨a,⟨b,c,e⟩,f⟩
structure Vz(p:Pol):Prop where
 up:dW p.up=true
 len:p.up.length=p.lev.length
 nl:NL p.lev
 names:∀s∈p.lev,gF s=true
 ni:NC p.ins
 no:NC p.outs
 il:p.ins.length≤32
 ol:p.outs.length≤32
 iok:∀c∈p.ins,OKC p.lev c
 ook:∀c∈p.outs,OKC p.lev c
 depth:1≤p.depth∧p.depth≤64
theorem VA(lev:List BY)(l:List Chan):ku lev.length l=true↔l.length≤32∧NC l∧∀c∈l,OKC lev c:=by
 unfold ku
 rw[afF,afL,iQ]
 have hm:∀{i},i<l.length->l.getD i aL∈l:=λ{i} hi=>by rw[afE,afG hi];exact List.getElem_mem hi
 have hk:∀i,(l.map λc=>tl c.1).getD i []=tl (l.getD i aL).1:=QC (λc:Chan=>tl c.1) aL l Z
 refine and_congr Iff.rfl ⟨λh=>?_,λ⟨h1,h2⟩ i _ hi=>?_⟩
 ·have each:∀i,i<l.length->gF (l.getD i aL).1=true∧eY l (l.getD i aL).1=(i:Int)∧0≤(l.getD i aL).2∧(l.getD i aL).2<(lev.length:Int):=λi hi=>by
   have:=h i (Nat.zero_le _) (by omega)
   unfold y8 at this
   simp only[afF,afL] at this
   exact⟨this.1.1.1,this.1.1.2,this.1.2,this.2⟩
  refine⟨Ob λi hi=>?_,λc hc=>?_⟩
  ·rw[List.length_map] at hi
   rw[hk,←GU];exact (each i hi).2.1
  ·obtain⟨i,hi,rfl⟩:=List.getElem_of_mem hc
   have:=each i hi
   rw[afE,afG hi] at this
   exact⟨this.1,this.2.2.1,this.2.2.2⟩
 ·have hi:i<l.length:=by omega
  obtain⟨o1,o2,o3⟩:=h2 _ (hm hi)
  unfold y8
  have:eY l (l.getD i aL).1=i:=by
   rw[GU,←hk];exact En h1 (by rw[List.length_map];exact hi)
  rw[o1,decide_eq_true this,decide_eq_true o2,decide_eq_true o3];rfl
theorem lJ(p:Pol):dQ p=true↔Vz p:=by
 unfold dQ DI
 have hk:∀i,(p.lev.map tl).getD i []=tl (p.lev.getD i .empty):=QC tl .empty p.lev Z
 simp only[afF,afL,VA,iQ]
 constructor
 ·rintro ⟨⟨⟨⟨⟨h1,h2⟩,h3⟩,h4⟩,h5⟩,h6,h7⟩
  have each:∀i,i<p.lev.length->gF (p.lev.getD i .empty)=true∧bE p.lev (p.lev.getD i .empty)=(i:Int):=λi hi=>by
   have:=h5 i (Nat.zero_le _) (by omega)
   unfold y9 at this
   simp only[afF,afL] at this
   exact this
  refine⟨h2,h1.symm,Ob λi hi=>?_,λs hs=>?_,h6.2.1,h7.2.1,h6.1,h7.1,h6.2.2,h7.2.2,h3,h4⟩
  ·rw[List.length_map] at hi
   rw[hk,←QD];exact (each i hi).2
  ·obtain⟨i,hi,rfl⟩:=List.getElem_of_mem hs
   have:=(each i hi).1
   rwa [afE,afG hi] at this
 ·intro h
  refine⟨⟨⟨⟨⟨h.len.symm,h.up⟩,h.depth.1⟩,h.depth.2⟩,λi _ hi=>?_⟩,⟨h.il,h.ni,h.iok⟩,h.ol,h.no,h.ook⟩
  have hi:i<p.lev.length:=by omega
  unfold y9
  rw[uI h.names hi,decide_eq_true (Eo h.nl hi)];rfl
theorem ac0:(∀k∈[uD,Af,uE,ou,kr],(tl (wB k)≠[]∧(∀b∈tl (wB k),b≠10∧Vy b=false)∧okB (tl (wB k))=true)∧sb (wB k) 0≠35):=by decide +kernel
theorem YK{k:List UInt8}(hk:k∈[uD,Af,uE,ou,kr]){ws:List BY}(h:∀w∈ws,GW w):GL (wB k::ws):=by
 obtain⟨⟨a,b,c⟩,d⟩:=ac0 k hk
 refine⟨_,_,Z,λx hx=>?_,d⟩
 rcases List.mem_cons.1 hx with rfl | hx
 ·exact⟨a,b,c⟩
 ·exact h x hx
theorem parts{p:Pol}(h:Vz p):(∀ws∈levW p.lev,GL ws∧(joinL ws).length+1≤55)∧(∀ws∈afj p.lev (Ei p.up),GL ws∧(joinL ws).length+1≤103)∧(∀ws∈abq uE p.lev p.ins,GL ws∧(joinL ws).length+1≤104)∧(∀ws∈abq ou p.lev p.outs,GL ws∧(joinL ws).length+1≤105)∧(∀ws∈depW p.depth,GL ws∧(joinL ws).length+1≤9):=by
 have ho:dV p.up=true:=by have:=h.up;unfold dW at this;rw[afF] at this;exact this.1
 have two:∀(k:List UInt8) (n:Nat),k∈[uD,Af,uE,ou,kr]->(wB k).size=n->∀a b:BY,gF a=true->gF b=true->GL [wB k,a,b]∧(joinL [wB k,a,b]).length+1≤n+99:=λk n hk hn a b ha hb=>by
  have qa:=xA ha
  have qb:=xA hb
  refine⟨YK hk λw hw=>?_,?_⟩
  ·simp at hw
   rcases hw with rfl | rfl
   ·exact qa.1
   ·exact qb.1
  ·simp only[joinL,List.length_append,List.length_cons,zn];omega
 refine⟨λws hws=>?_,λws hws=>?_,λws hws=>?_,λws hws=>?_,λws hws=>?_⟩
 ·obtain⟨s,hs,rfl⟩:=List.mem_map.1 hws
  have q:=xA (h.names s hs)
  refine⟨YK (by decide) λw hw=>by simp at hw;subst hw;exact q.1,?_⟩
  simp only[joinL,List.length_append,List.length_cons,zn]
  have:(wB uD).size=5:=by decide
  omega
 ·obtain⟨c,hc,rfl⟩:=List.mem_map.1 hws
  obtain⟨c1,c2⟩:=U8 (acJ ho) c hc
  rw[h.len] at c1 c2
  exact two Af 4 (by decide) (by decide) _ _ (uI h.names c1) (uI h.names c2)
 ·obtain⟨c,hc,rfl⟩:=List.mem_map.1 hws
  obtain⟨c1,c2,c3⟩:=h.iok c hc
  exact two uE 5 (by decide) (by decide) _ _ c1 (uI h.names (by omega))
 ·obtain⟨c,hc,rfl⟩:=List.mem_map.1 hws
  obtain⟨c1,c2,c3⟩:=h.ook c hc
  exact two ou 6 (by decide) (by decide) _ _ c1 (uI h.names (by omega))
 ·obtain rfl:=List.mem_singleton.1 hws
  obtain⟨_,q1,q2⟩:=YJ h.depth.1 h.depth.2
  refine⟨YK (by decide) λw hw=>by simp at hw;subst hw;exact q1,?_⟩
  simp only[joinL,List.length_append,List.length_cons,zn]
  have:(wB kr).size=5:=by decide
  omega
structure RInv(r:Rdr):Prop where
 nl:NL r.lev
 names:∀s∈r.lev,gF s=true
 ni:NC r.ins
 no:NC r.outs
 iok:∀c∈r.ins,OKC r.lev c
 ook:∀c∈r.outs,OKC r.lev c
 depth:r.depth=0∨(1≤r.depth∧r.depth≤64)
theorem Ct{w:List BY}(h:yZ w=true)(hk:(w_ w 0).data.toList≠kr){j:Nat}(hj:j<w.tail.length):gF (w_ w.tail j)=true:=by
 unfold yZ at h
 rw[List.all_eq_true] at h
 have:=h (w_ w.tail j) (by unfold w_;rw[afE,afG hj];exact List.getElem_mem hj)
 unfold okW at this
 rw[decide_eq_false hk] at this
 simpa using this
theorem Sv{α:Type}{K:List α}{k:α}(h:K.Nodup)(hk:k∉K):(K++[k]).Nodup:=by
 rw[List.nodup_append]
 exact⟨h,by simp,λa ha b hb=>by rw[List.mem_singleton.1 hb];exact λe=>hk (e▸ha)⟩
theorem Jv{lev:List BY}{l:List Chan}{w:List BY}(hN:gF (w_ w 0)=true)(hn:NC l)(hO:∀c∈l,OKC lev c):NC (kK lev l w)∧∀c∈kK lev l w,OKC lev c:=by
 unfold kK
 split
 ·rename_i h0
  unfold mh at h0
  split at h0
  ·omega
  ·rename_i h1
   split at h0
   ·omega
   ·rename_i h2
    refine⟨?_,λc hc=>?_⟩
    ·rw[NC,List.map_append]
     refine Sv hn ?_
     have:eY l (w_ w 0)<0:=by omega
     rwa [GU,Sr] at this
    ·rcases List.mem_append.1 hc with hc | hc
     ·exact hO c hc
     ·rw[List.mem_singleton.1 hc]
      have:=Ah (l:=lev) (s:=w_ w 1) (by omega)
      exact⟨hN,by show 0≤bE _ _;omega,by show bE _ _<_;omega⟩
 ·exact⟨hn,hO⟩
theorem VB{r:Rdr}(h:RInv r)(w:List BY):RInv (nO r w).1:=by
 have pick:∀{k d},(w.length=k+1->yZ w=true->RInv d.1)->RInv (uR r w k d).1:=λ{k d} hd=>by
  unfold uR;split
  ·rename_i hc;exact hd hc.1 hc.2
  ·exact h
 have QE:∀{k},w.length=k+1->w.tail.length=k:=λ{k} e=>by rw[List.length_tail];omega
 unfold nO
 split
 ·rename_i e
  refine pick λhl hw=>?_
  unfold pX
  split
  ·exact h
  ·rename_i h1
   split
   ·exact h
   ·refine⟨?_,λs hs=>?_,h.ni,h.no,λc hc=>?_,λc hc=>?_,h.depth⟩
    ·show NL (r.lev++[_])
     rw[NL,List.map_append]
     refine Sv h.nl ?_
     have:bE r.lev (w_ w.tail 0)<0:=by omega
     rwa [QD,Sr] at this
    ·rcases List.mem_append.1 hs with hs | hs
     ·exact h.names s hs
     ·rw[List.mem_singleton.1 hs]
      exact Ct hw (by rw[e];decide) (by rw[QE hl];omega)
    ·have:=h.iok c hc
     exact⟨this.1,this.2.1,by have:=this.2.2;show c.2<((r.lev++[_]).length:Int);simp;omega⟩
    ·have:=h.ook c hc
     exact⟨this.1,this.2.1,by have:=this.2.2;show c.2<((r.lev++[_]).length:Int);simp;omega⟩
 split
 ·refine pick λ_ _=>?_
  unfold x9
  split
  ·exact⟨h.nl,h.names,h.ni,h.no,h.iok,h.ook,h.depth⟩
  ·exact h
 split
 ·rename_i e
  refine pick λhl hw=>?_
  have:=Jv (lev:=r.lev) (Ct hw (by rw[e];decide) (by rw[QE hl];omega)) h.ni h.iok
  exact⟨h.nl,h.names,this.1,h.no,this.2,h.ook,h.depth⟩
 split
 ·rename_i e
  refine pick λhl hw=>?_
  have:=Jv (lev:=r.lev) (Ct hw (by rw[e];decide) (by rw[QE hl];omega)) h.no h.ook
  exact⟨h.nl,h.names,h.ni,this.1,h.iok,this.2,h.depth⟩
 split
 ·refine pick λ_ _=>?_
  unfold pY
  split
  ·exact h
  ·split
   ·exact h
   ·exact⟨h.nl,h.names,h.ni,h.no,h.iok,h.ook,.inr (by show 1≤(fF _).1∧(fF _).1≤64;omega)⟩
 ·exact h
theorem zo:∀(ls:List BY) (at_:Int) (r r':Rdr) (n:Nat),RInv r->Kept r n->n+ls.length≤100000->rG ls at_ r=.inr r'->RInv r'∧∃k,Kept r' k
 | [],at_,r,r',n,h,hk,_,e=>by cases e;exact⟨h,n,hk⟩
 | l::ls,at_,r,r',n,h,hk,hn,e=>by
  rw[List.length_cons] at hn
  rw[rG] at e
  split at e
  ·split at e
   ·cases e
   ·exact zo ls _ _ r' (n+1) (VB h _) (Ji hk (by omega) _) (by omega) e
  ·exact zo ls _ _ r' n h hk (by omega) e
theorem Oc{s:BY}(h:(dI s).2.2=0):Vz (dI s).1:=by
 revert h
 unfold dI
 split
 ·intro h;cases h
 ·rename_i hz
  split
  ·intro h;cases h
  ·split
   ·rename_i at_ e he
    intro h
    exfalso
    have:∀(ls:List BY) (a:Int) (r:Rdr) (q:Int×Int),rG ls a r=.inl q->q.2≠0:=λls=>by
     induction ls with
     | nil=>intro a r q hq;cases hq
     | cons l ls ih=>
      intro a r q hq
      rw[rG] at hq
      split at hq
      ·split at hq
       ·rename_i hne
        cases hq;exact hne
       ·exact ih _ _ _ hq
      ·exact ih _ _ _ hq
    exact this _ _ _ _ he h
   ·rename_i r he
    have i0:RInv U1:=⟨List.nodup_nil,λ_ h=>(by cases h),List.nodup_nil,List.nodup_nil,λ_ h=>(by cases h),λ_ h=>(by cases h),.inl rfl⟩
    obtain⟨hi,k,hk⟩:=zo (dH s) 0 U1 r 0 i0 abl (by have:=(Nn s).2;omega) he
    unfold Yf
    split
    ·intro h;cases h
    ·rename_i hc
     split
     ·rename_i hr
      intro _
      exact⟨hr,xq _ _,hi.nl,hi.names,hi.ni,hi.no,hk.ins,hk.outs,hi.iok,hi.ook,by have:=hi.depth;show 1≤r.depth∧r.depth≤64;omega⟩
     ·intro h;cases h
theorem kT{α:Type}{n:Nat}{f:Nat->α}{a:α}:a∈rng n f↔∃i,i<n∧f i=a:=by
 unfold rng;simp [List.mem_map,List.mem_range]
theorem kM{α:Type}{n:Nat}{f:Nat->α}(d:α){i:Nat}(h:i<n):(rng n f).getD i d=f i:=by
 rw[afE,aau h];rfl
theorem AB{α β:Type}(n:Nat)(f:Nat->α)(g:α->β):(rng n f).map g=rng n λi=>g (f i):=by
 unfold rng;rw[List.map_map];rfl
theorem Cu{n:Nat}{f:Nat->BY}(h:∀i j,i<n->j<n->f i=f j->i=j):(rng n f).Nodup:=by
 rw[List.nodup_iff_pairwise_ne,List.pairwise_iff_getElem]
 intro i j hi hj hij e
 rw[bD] at hi hj
 have e1:=kM (f:=f) .empty hi
 have e2:=kM (f:=f) .empty hj
 rw[afE,afG (by rw[bD];exact hi)] at e1
 rw[afE,afG (by rw[bD];exact hj)] at e2
 have e1:(rng n f)[i]'(by rw[bD];exact hi)=f i:=e1
 have e2:(rng n f)[j]'(by rw[bD];exact hj)=f j:=e2
 have:=h i j hi hj (by rw[←e1,←e2];exact e)
 omega
theorem Sw{α:Type}(m:Nat)(f:Nat->α):∀n:Nat,rng (m+n) f=rng m f++rng n λi=>f (m+i)
 | 0=>by simp [rng]
 | n+1=>by rw[←Nat.add_assoc,jQ,jQ,Sw m f n,List.append_assoc]
theorem Sy{α:Type}(d:α){l:List α}{n:Nat}{f:Nat->α}(h:l.length=n)(h2:∀i,i<n->l.getD i d=f i):l=rng n f:=by
 refine List.ext_getElem (by rw[h,bD]) λi hi hj=>?_
 have h3:=h2 i (by omega)
 rw[afE,afG hi] at h3
 have h4:=kM (f:=f) d (show i<n by omega)
 rw[afE,afG hj] at h4
 exact h3.trans h4.symm
theorem KR{c:UInt8}{n:Nat}(hn:n≤1000000):(rng n λk=>nmN c (k:Int)).Nodup:=Cu λi j hi hj e=>by
 have:=(QA (n:=(i:Int)) (m:=(j:Int)) (by unfold aj;omega) (by unfold aj;omega) e).2
 omega
theorem GV{n:Nat}{f:Nat->BY}(hn:(rng n f).Nodup){k:Int}(h:0≤k∧k<(n:Int))(a:Int):jO (rng n f) (f k.toNat) a=.ok k:=by
 have:=YA hn (i:=k.toNat) (by rw[bD];omega) a
 rw[kM _ (by omega)] at this
 rw[this]
 congr 1;omega
theorem oD{c:UInt8}{n:Nat}(hn:n≤1000000){k:Int}(h:0≤k∧k<(n:Int))(a:Int):jO (rng n λk=>nmN c (k:Int)) (nmN c k) a=.ok k:=by
 have this:jO (rng n λk=>nmN c (k:Int)) (nmN c ((k.toNat:Nat):Int)) a=.ok k:=GV (KR (c:=c) hn) h a
 rwa [Int.toNat_of_nonneg h.1] at this
theorem YL(l:List Op9):(eG l).length≤l.length:=List.length_filterMap_le _ _
theorem Jw:∀bs:List (List Op9),(dw bs).length≤(bs.map λl=>l.length).sum
 | []=>by simp [dw]
 | l::bs=>by
  have:=Jw bs
  have h:=YL l
  unfold dw at *
  rw[List.flatMap_cons,List.length_append,List.map_cons,List.sum_cons];omega
theorem Ep{p:Pol}{c:Cod}(h:kL p c){b:Bod}(hb:b∈c.funcs):b.vars≤5000:=by
 have h1:=h.bod b hb
 have h2:=Jw b.blocks
 have h3:=wK (g:=λb:Bod=>(b.blocks.map λl=>l.length).sum) hb
 have h4:=h.all
 have h5:=h1.vars
 have h6:=h1.p0
 omega
theorem KS{p:Pol}{c:Cod}{b:Bod}(h:Ij p c b){l:List Op9}(hl:l∈b.blocks){x:Op9}(hx:x∈l)(hd:lM x.kind=true):0≤x.dst∧x.dst<b.vars:=by
 have hm:x.dst∈dw b.blocks:=List.mem_flatMap.2 ⟨l,hl,List.mem_filterMap.2 ⟨x,hx,by rw[if_pos hd]⟩⟩
 obtain⟨i,hi,e⟩:=List.getElem_of_mem hm
 have h1:=h.seq i hi
 rw[afE,afG hi] at h1
 have h1:(dw b.blocks)[i]=b.params+i:=h1
 have h2:=h.vars
 have h3:=h.p0
 rw[←e,h1];omega
theorem Jy{p:Pol}{c:Cod}{b:Bod}(h:Ij p c b){l:List Op9}(hl:l∈b.blocks){x:Op9}(hx:x∈l):∃n d r a,ROp p c b x n d r a:=by
 obtain⟨j,hj,e⟩:=List.getElem_of_mem hx
 have:=(h.ops l hl).op j hj
 rw[afE,afG hj] at this
 have this:∃n d r a,ROp p c b l[j] n d r a:=this
 rwa [e] at this
theorem Er{p:Pol}{c:Cod}{b:Bod}{x:Op9}{n:Int}{d r a:Bool}(h:ROp p c b x n d r a):lM x.kind=d:=by unfold lM;rw[h.sh]
theorem GX{p:Pol}{c:Cod}(hc:kL p c){b:Bod}(hb:b∈c.funcs){x:Op9}{n:Int}{d r a:Bool}(h:ROp p c b x n d r a)(q:Prg):(iE p c.main x).2=true∧dZ (iE p c.main x).1 r=true∧dZ (if x.kind=12 then nmN 98 x.alt else .empty) a=true∧qQ ⟨p,q,rng c.arrays.length λk=>nmN 97 (k:Int),rng c.funcs.length λi=>fnN c.main i⟩ ⟨rng b.blocks.length λk=>nmN 98 (k:Int),rng b.vars.toNat λk=>nmN 118 (k:Int)⟩ (aN p c.main x)=.ok (x.ref,x.alt):=by
 have hal:=hc.al
 have hfl:=hc.fl
 have hB:=hc.bod b hb
 have hbl:=hB.len
 have hP:=(lJ p).1 hc.pol
 have hr1:=h.r1
 have ha1:=h.a1
 have hr0:=h.r0
 have ha0:=h.a0
 have on:∀{s:BY},okN s=true->dZ s true=true:=λh=>by unfold dZ;rw[h];rfl
 have off:dZ .empty false=true:=by decide
 have ac1:∀k:Int,0≤k∧k<(c.arrays.length:Int)->okN (nmN 97 k)=true:=λk hk=>yg (by decide) (by decide) hk.1 (by omega)
 have ac2:∀k:Int,0≤k∧k<(b.blocks.length:Int)->okN (nmN 98 k)=true:=λk hk=>yg (by decide) (by decide) hk.1 (by omega)
 unfold aN qQ
 simp only
 unfold iE
 unfold uU at hr1
 rcases sN h.sh with⟨hk,rfl,rfl,rfl,rfl⟩ | ⟨h3,hs⟩
 ·simp [hk,off,hr0 Z,ha0 rfl]
 rcases nk hs with⟨hk,rfl,rfl,rfl,rfl⟩ | ⟨hk,rfl,rfl,rfl,rfl⟩ | ⟨hk,rfl,rfl,rfl,rfl⟩ | ⟨hk,rfl,rfl,rfl,rfl⟩ | ⟨hk,rfl,rfl,rfl,rfl⟩ | ⟨hk,rfl,rfl,rfl,rfl⟩ | ⟨hk,rfl,rfl,rfl,rfl⟩ | ⟨hk,rfl,rfl,rfl,rfl⟩ | ⟨hk,rfl,rfl,rfl,rfl⟩ | ⟨hk,rfl,rfl,rfl,rfl⟩ | ⟨hk,rfl,rfl,rfl,rfl⟩ | ⟨hk,rfl,rfl,rfl,rfl⟩
 ·simp [hk,off,hr0 Z,ha0 rfl]
 ·simp [hk,off,hr0 Z,ha0 rfl]
 ·have hm:=hr1 Z
  simp only[hk,true_or,or_true,if_true] at hm
  have e:=oD (c:=97) (n:=c.arrays.length) (by omega) hm x.at_
  simp [hk,off,ha0 Z,on (ac1 _ hm),e,bd]
 ·have hm:=hr1 Z
  simp only[hk,true_or,or_true,if_true] at hm
  have e:=oD (c:=97) (n:=c.arrays.length) (by omega) hm x.at_
  simp [hk,off,ha0 Z,on (ac1 _ hm),e,bd]
 ·have hm:=hr1 Z
  simp only[hk,true_or,or_true,if_true] at hm
  have e:=oD (c:=97) (n:=c.arrays.length) (by omega) hm x.at_
  simp [hk,off,ha0 Z,on (ac1 _ hm),e,bd]
 ·have hm:0≤x.ref∧x.ref<(c.funcs.length:Int):=by
   have:=hr1 Z
   simpa [hk] using this
  have hnd:(rng c.funcs.length λi=>fnN c.main i).Nodup:=Cu λi j hi hj e=>by
   unfold fnN at e
   split at e<;>split at e
   ·omega
   ·exact absurd e (El (by decide))
   ·exact absurd e.symm (El (by decide))
   ·have:=(QA (n:=(i:Int)) (m:=(j:Int)) (by unfold aj;omega) (by unfold aj;omega) e).2
    omega
  have e:=GV hnd hm x.at_
  have ef:fnN c.main x.ref.toNat=if x.ref=c.main then eH else nmN 102 x.ref:=by
   unfold fnN;rw[Int.toNat_of_nonneg hm.1]
  rw[ef] at e
  have hok:okN (if x.ref=c.main then eH else nmN 102 x.ref)=true:=by
   split
   ·decide
   ·exact yg (by decide) (by decide) hm.1 (by omega)
  simp [hk,off,ha0 Z,on hok,e,bd]
 ·have hm:0≤x.ref∧x.ref<(p.ins.length:Int):=by
   have:=hr1 Z
   simpa [hk] using this
  have hin:lK x.ref p.ins.length=true:=by unfold lK;simp [hm.1,hm.2]
  have hi:x.ref.toNat<p.ins.length:=by omega
  have hn:=(hP.iok _ (getD_in aL hi)).1
  have e:eY p.ins (p.ins.getD x.ref.toNat aL).1=x.ref:=by
   rw[GU,←QC (λc:Chan=>tl c.1) aL p.ins Z x.ref.toNat,En hP.ni (by rw[List.length_map];exact hi)];omega
  obtain⟨v,hv⟩:∃v,(p.ins.getD x.ref.toNat aL).1=v:=⟨_,Z⟩
  have hok:okN (p.ins.getD x.ref.toNat aL).1=true:=hn
  rw[show (p.ins.getD x.ref.toNat aL).1=v from hv] at e hok
  have hok:=on hok
  simp only[hk,hin,if_true,ha0 Z,hv]
  simp [off,hok,gJ,e,hm.1,bd]
 ·have hm:0≤x.ref∧x.ref<(p.outs.length:Int):=by
   have:=hr1 Z
   simpa [hk] using this
  have hin:lK x.ref p.outs.length=true:=by unfold lK;simp [hm.1,hm.2]
  have hi:x.ref.toNat<p.outs.length:=by omega
  have hn:=(hP.ook _ (getD_in aL hi)).1
  have e:eY p.outs (p.outs.getD x.ref.toNat aL).1=x.ref:=by
   rw[GU,←QC (λc:Chan=>tl c.1) aL p.outs Z x.ref.toNat,En hP.no (by rw[List.length_map];exact hi)];omega
  obtain⟨v,hv⟩:∃v,(p.outs.getD x.ref.toNat aL).1=v:=⟨_,Z⟩
  have hok:okN (p.outs.getD x.ref.toNat aL).1=true:=hn
  rw[show (p.outs.getD x.ref.toNat aL).1=v from hv] at e hok
  have hok:=on hok
  simp only[hk,hin,if_true,ha0 Z,hv]
  simp [off,hok,gJ,e,hm.1,bd]
 ·have hm:0≤x.ref∧x.ref<(p.lev.length:Int):=by
   have:=hr1 Z
   simpa [hk] using this
  have hin:lK x.ref p.lev.length=true:=by unfold lK;simp [hm.1,hm.2]
  have hi:x.ref.toNat<p.lev.length:=by omega
  obtain⟨v,hv⟩:∃v,p.lev.getD x.ref.toNat .empty=v:=⟨_,Z⟩
  have hok:okN (p.lev.getD x.ref.toNat .empty)=true:=uI hP.names hi
  have e:bE p.lev (p.lev.getD x.ref.toNat .empty)=x.ref:=by rw[Eo hP.nl hi];omega
  rw[show p.lev.getD x.ref.toNat .empty=v from hv] at e hok
  have hok:=on hok
  simp only[hk,hin,if_true,ha0 Z,hv]
  simp [off,hok,gJ,e,hm.1,bd]
 ·have hm:0≤x.ref∧x.ref<(b.blocks.length:Int):=by
   have:=hr1 Z
   simpa [hk] using this
  have e:=oD (c:=98) (n:=b.blocks.length) (by omega) hm x.at_
  simp [hk,off,ha0 Z,on (ac2 _ hm),e,bd]
 ·have hm:0≤x.ref∧x.ref<(b.blocks.length:Int):=by
   have:=hr1 Z
   simpa [hk] using this
  have hm2:=ha1 Z
  have e:=oD (c:=98) (n:=b.blocks.length) (by omega) hm x.at_
  have e2:=oD (c:=98) (n:=b.blocks.length) (by omega) hm2 x.at_
  simp [hk,on (ac2 _ hm),on (ac2 _ hm2),e,e2,bd]
 ·simp [hk,off,hr0 Z,ha0 rfl]
end Go.Proofs.YtojhdmfkfkfcbaaGreatDoor
