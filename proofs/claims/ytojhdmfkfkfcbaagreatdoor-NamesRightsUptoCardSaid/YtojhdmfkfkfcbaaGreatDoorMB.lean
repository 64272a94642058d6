import Derived.Test.YtojhdmfkfkfcbaaGreatDoorMA
import Derived.Test.YtojhdmfkfkfcbaaGreatDoorSxF
set_option linter.unusedSimpArgs false
set_option linter.unusedVariables false
namespace Go.Proofs.YtojhdmfkfkfcbaaGreatDoor
open Go.Sx
set_option maxRecDepth 100000
def nextR(c:Nat)(rm:Bool):Bool:=if c=10 then false else if c=35 then true else rm
def uQ(rm:Bool)(c:Nat):Bool:=((!rm&&!decide (c=32))&&!decide (c=9))&&!decide (c=10)
def skF(s:BY):Nat->Bool->Nat->Nat
 | 0,_,p=>p
 | n+1,rm,p=>if p<s.size then (if uQ (nextR (bt s p) rm) (bt s p) then p else skF s n (nextR (bt s p) rm) (p+1)) else p
theorem zW(s:BY):∀(n m:Nat) (rm:Bool) (p:Nat),s.size≤p+n->s.size≤p+m->skF s n rm p=skF s m rm p
 | 0,0,_,_,_,_=>rfl
 | 0,m+1,rm,p,h,_=>by rw[skF,skF,if_neg (by omega)]
 | n+1,0,rm,p,_,h=>by rw[skF,skF,if_neg (by omega)]
 | n+1,m+1,rm,p,h1,h2=>by
  rw[skF,skF]
  split
  ·split
   ·rfl
   ·exact zW s n m _ _ (by omega) (by omega)
  ·rfl
def skV(s:BY)(rm:Bool)(p:Nat):Nat:=skF s s.size rm p
theorem qO{s:BY}{rm:Bool}{p:Nat}(h:s.size≤p):skV s rm p=p:=by
 unfold skV
 rw[zW s s.size 0 rm p (by omega) (by omega),skF]
theorem pF{s:BY}{rm:Bool}{p:Nat}(h:p<s.size):skV s rm p=if uQ (nextR (bt s p) rm) (bt s p) then p else skV s (nextR (bt s p) rm) (p+1):=by
 unfold skV
 obtain⟨n,hn⟩:∃n,s.size=n+1:=⟨s.size-1,by omega⟩
 rw[zW s s.size (n+1) rm p (by omega) (by omega),skF,if_pos h,zW s n s.size _ (p+1) (by omega) (by omega)]
theorem BD{s:BY}{rm:Bool}{p:Nat}(h:p<s.size)(hs:uQ (nextR (bt s p) rm) (bt s p)=false):skV s rm p=skV s (nextR (bt s p) rm) (p+1):=by
 rw[pF h,if_neg (by rw[hs];simp)]
theorem Mw{s:BY}{rm:Bool}{p:Nat}(h:p<s.size)(hs:uQ (nextR (bt s p) rm) (bt s p)=true):skV s rm p=p:=by
 rw[pF h,if_pos hs]
theorem FR(s:BY):∀(n:Nat) (rm:Bool) (p:Nat),s.size≤p+n->p≤s.size->p≤skV s rm p∧skV s rm p≤s.size∧(skV s rm p<s.size->uQ false (bt s (skV s rm p))=true∧bt s (skV s rm p)≠35)
 | 0,rm,p,h,hp=>by rw[qO (by omega)];exact⟨by omega,hp,λh=>by omega⟩
 | n+1,rm,p,h,hp=>by
  by_cases hl:p<s.size
  ·cases hs:uQ (nextR (bt s p) rm) (bt s p) with
   | true=>
    rw[Mw hl hs]
    refine⟨Nat.le_refl _,hp,λ_=>?_⟩
    unfold uQ at hs
    simp only[afF,afR,afP] at hs
    obtain⟨⟨⟨h1,h2⟩,h3⟩,h4⟩:=hs
    refine⟨?_,λe=>?_⟩
    ·unfold uQ;simp [h2,h3,h4]
    ·rw[e] at h1;simp [nextR] at h1
   | false=>
    rw[BD hl hs]
    have:=FR s n (nextR (bt s p) rm) (p+1) (by omega) (by omega)
    exact⟨by omega,this.2.1,this.2.2⟩
  ·rw[qO (by omega)];exact⟨by omega,hp,λh=>by omega⟩
theorem FT(s:BY):∀(k p:Nat),p+k<s.size->bt s (p+k)=10->(∀j,j<k->bt s (p+j)≠10)->skV s true p=skV s false (p+k+1)
 | 0,p,h,h10,_=>by
  have h10:bt s p=10:=h10
  have h:p<s.size:=h
  rw[BD h (by rw[h10];rfl),h10];rfl
 | k+1,p,h,h10,hno=>by
  have h0:bt s p≠10:=hno 0 (by omega)
  have e:nextR (bt s p) true=true:=by unfold nextR;rw[if_neg h0];split<;>rfl
  rw[BD (by omega) (by rw[e];rfl),e,FT s k (p+1) (by omega) (by rw[←h10];congr 1;omega) (λj hj=>by rw[show p+1+j=p+(j+1) by omega];exact hno (j+1) (by omega))]
  congr 1
  omega
theorem vX(s:BY):∀(n p:Nat),s.size≤p+n->p≤s.size->(∀j,p≤j->j<s.size->bt s j≠10)->skV s true p=s.size
 | 0,p,h,hp,_=>by rw[qO (by omega)];omega
 | n+1,p,h,hp,hno=>by
  by_cases hl:p<s.size
  ·have h0:=hno p (Nat.le_refl _) hl
   have e:nextR (bt s p) true=true:=by unfold nextR;rw[if_neg h0];split<;>rfl
   rw[BD hl (by rw[e];rfl),e]
   exact vX s n (p+1) (by omega) (by omega) λj h1 h2=>hno j (by omega) h2
  ·rw[qO (by omega)];omega
theorem Uk(s:BY)(p0:Nat)(hs:s.size≤9223372036854775807)(hp0:p0≤s.size):Pure PG 146 [vs s,vi (p0:Int)] (vi (skV s false p0:Int)) []:=by
 refine aD.mk (cfg 34) av [] Tryz.func146 Z (by kernel_rfl) Z Z Z ?_
 intro C x
 refine x.loop (α:={p:Nat // p≤s.size∧skV s false p=skV s false p0}) (λy=>⟨[(0,vs s),(1,vi (y.1:Int))],[],0⟩) (λy=>s.size-y.1) ⟨p0,hp0,Z⟩ Z tR ⟨⟨Z,Z,tR⟩,tR,Z⟩ (λy=>?_)
 obtain⟨p,hp,same⟩:=y
 change Go C _ ⟨[(0,vs s),(1,vi (p:Int))],[],0⟩ _
 refine x.cond Z tR (λh1=>?_) (λh1=>?_)
 ·have h1:p<s.size:=by have:=afH h1;omega
  have ec:sb s ((p:Int)).toNat=(bt s p:Int):=nI s p
  refine x.cond Z ?_ (λh2=>?_) (λh2=>?_)
  ·simp only[ak];omega
  ·have h2:bt s p=35:=by have h2:sb s ((p:Int)).toNat=35:=afH h2;omega
   have e1:nextR (bt s p) false=true:=by rw[h2];rfl
   have g1:=BD (rm:=false) h1 (by rw[e1,h2];rfl)
   rw[e1] at g1
   refine x.pure Z ?_ Z (vW (s.extract p s.size) 10) ⟨Z,Z,tR⟩ ?_
   ·simp only[ak];omega
   obtain⟨n,hn⟩:∃n,Lib.indexByte (s.extract p s.size).data.toList (10:Int).toNat.toUInt8=n:=⟨_,Z⟩
   rw[hn]
   have hlen:(s.extract p s.size).data.toList.length=s.size-p:=by
    rw[extract_data,List.length_drop,←ji]
   have hbt:∀j,((s.extract p s.size).data.toList.getD j 0).toNat=bt s (p+j):=λj=>by rw[←qL,mW]
   refine x.cond Z tR (λh3=>?_) (λh3=>?_)
   ·have h3:n<0:=afH h3
    have hno:=Mv (by rw[hn];exact h3)
    refine x.exit Z tR ?_
    refine⟨.inr Z,?_,tR,Z⟩
    show (s.size:Int)=(skV s false p0:Int)
    rw[←same,g1,vX s s.size (p+1) (by omega) (by omega)]
    intro j hj1 hj2 e
    refine hno (j-p) (by omega) ?_
    have:=hbt (j-p)
    rw[show p+(j-p)=j by omega,e] at this
    exact UInt8.toNat_inj.1 this
   ·have h3:0≤n:=by have:=afI h3;omega
    obtain⟨a1,a2,a3⟩:=Mt (by rw[hn];exact h3)
    rw[hn] at a1 a2 a3
    have b2:bt s (p+n.toNat)=10:=by rw[←hbt,a2];rfl
    have b3:∀j,j<n.toNat->bt s (p+j)≠10:=λj hj e=>by
     refine a3 j hj ?_
     have:=hbt j
     rw[e] at this
     exact UInt8.toNat_inj.1 this
    have hn0:n.toNat≠0:=λe=>by rw[e,Nat.add_zero] at b2;omega
    obtain⟨m,hm⟩:∃m,n.toNat=m+1:=⟨n.toNat-1,by omega⟩
    have g2:=FT s m (p+1) (by omega) (by rw[show p+1+m=p+n.toNat by omega];exact b2) (λj hj=>by rw[show p+1+j=p+(j+1) by omega];exact b3 (j+1) (by omega))
    refine x.back Z ?_ ⟨⟨p+n.toNat+1,by omega,?_⟩,by show s.size-(p+n.toNat+1)<s.size-p;omega,⟨Z,?_,tR⟩,tR,Z⟩
    ·simp only[ak,aj];omega
    ·rw[←same,g1,g2];congr 1;omega
    ·show (p:Int)+n+1=((p+n.toNat+1:Nat):Int);omega
  have h2:bt s p≠35:=by have h2:¬sb s ((p:Int)).toNat=35:=afI h2;omega
  have blank:(bt s p=32∨bt s p=9∨bt s p=10)->∃z:{p:Nat // p≤s.size∧skV s false p=skV s false p0},z.1=p+1:=λhb=>by
   refine⟨⟨p+1,by omega,?_⟩,Z⟩
   have e1:nextR (bt s p) false=false:=by unfold nextR;rw[if_neg h2];split<;>rfl
   have g1:=BD (rm:=false) h1 (by rw[e1];unfold uQ;rcases hb with e | e | e<;>rw[e]<;>rfl)
   rw[←same,g1,e1]
  refine x.cond Z tR (λh3=>?_) (λh3=>?_)
  ·have h3b:bt s p=32:=by have h3:sb s ((p:Int)).toNat=32:=afH h3;omega
   refine x.cond Z tR (λ_=>?_) (λh4=>absurd (h3.symm.trans h4) (by simp))
   obtain⟨z,hz⟩:=blank (.inl h3b)
   refine x.back Z (show aj _ by unfold aj;omega) ⟨z,by show s.size-z.1<s.size-p;omega,⟨Z,?_,tR⟩,tR,Z⟩
   show (p:Int)+1=(z.1:Int);omega
  have h3b:bt s p≠32:=by have h3:¬sb s ((p:Int)).toNat=32:=afI h3;omega
  refine x.cond Z tR (λh4=>?_) (λh4=>?_)
  ·have h4b:bt s p=9:=by have h4:sb s ((p:Int)).toNat=9:=afH h4;omega
   refine x.cond Z tR (λ_=>?_) (λh5=>absurd (h4.symm.trans h5) (by simp))
   obtain⟨z,hz⟩:=blank (.inr (.inl h4b))
   refine x.back Z (show aj _ by unfold aj;omega) ⟨z,by show s.size-z.1<s.size-p;omega,⟨Z,?_,tR⟩,tR,Z⟩
   show (p:Int)+1=(z.1:Int);omega
  have h4b:bt s p≠9:=by have h4:¬sb s ((p:Int)).toNat=9:=afI h4;omega
  refine x.cond Z tR (λh5=>?_) (λh5=>?_)
  ·have h5b:bt s p=10:=by have h5:sb s ((p:Int)).toNat=10:=afH h5;omega
   obtain⟨z,hz⟩:=blank (.inr (.inr h5b))
   refine x.back Z (show aj _ by unfold aj;omega) ⟨z,by show s.size-z.1<s.size-p;omega,⟨Z,?_,tR⟩,tR,Z⟩
   show (p:Int)+1=(z.1:Int);omega
  have h5b:bt s p≠10:=by have h5:¬sb s ((p:Int)).toNat=10:=afI h5;omega
  refine x.exit Z tR ?_
  refine⟨.inr Z,?_,tR,Z⟩
  show (p:Int)=(skV s false p0:Int)
  rw[←same,Mw h1]
  unfold nextR uQ
  rw[if_neg h5b,if_neg h2]
  simp [h3b,h4b,h5b]
 ·have h1:p=s.size:=by have:=afI h1;omega
  refine x.exit Z tR ?_
  refine⟨.inr Z,?_,tR,Z⟩
  show (p:Int)=(skV s false p0:Int)
  rw[←same,qO (by omega)]
theorem FU(r:Int):Pure PG 196 [vi r] (vb (decide (48≤r)&&decide (r≤57))) []:=by
 refine aD.mk (cfg 9) av [] Tryz.func196 Z (by kernel_rfl) Z Z Z ?_
 intro C x
 refine x.exit Z tR ?_
 exact⟨.inr Z,Z,tR,Z⟩
theorem D8(r:Int):Pure PG 195 [vi r] (vb (decide (97≤r)&&decide (r≤122)||decide (65≤r)&&decide (r≤90)||decide (r=95)||decide (945≤r)&&decide (r≤969)||decide (913≤r)&&decide (r≤937)&&!decide (r=930))) []:=by
 refine aD.mk (cfg 39) av [] Tryz.func195 Z (by kernel_rfl) Z Z Z ?_
 intro C x
 refine x.cond Z tR (λh=>?_) (λh=>?_)
 ·refine x.exit Z tR ?_
  refine⟨.inr Z,?_,tR,Z⟩
  show true=_
  simp only[Bool.or_eq_true,afF,afL] at h
  symm
  simp only[Bool.or_eq_true,afF,afL]
  omega
 ·refine x.exit Z tR ?_
  refine⟨.inr Z,?_,tR,Z⟩
  show _=_
  simp only[h,Bool.false_or]
def jH(s:BY):Nat->Int->Bool
 | 0,_=>true
 | n+1,i=>if i<s.size then
   if (!rA (cu s i).1&&(decide (i=0)||!rZ (cu s i).1))=true then false else jH s n (lW s i)
  else true
theorem zX{s:BY}{n:Nat}{i:Int}(h:¬i<s.size):jH s n i=true:=by
 cases n with
 | zero=>rfl
 | succ n=>rw[jH,if_neg h]
def pG(s:BY):Bool:=
 if (decide ((s.size:Int)=0)||decide (0≤dA s s.size 0)||decide (24<fB s s.size 0 0))=true then false else jH s s.size 0
structure OI (s:BY) where
 n:Nat
 i:Int
 fuel:(s.size:Int)≤i+n
 same:jH s n i=jH s s.size 0
 hi:0≤i∧i≤s.size
theorem HZ(s:BY)(hs:s.size≤9223372036854775807):Pure PG 170 [vs s] (vb (pG s)) []:=by
 refine aD.mk (cfg 44) av [] Tryz.func170 Z (by kernel_rfl) Z Z Z ?_
 intro C x
 refine x.bK Z tR Z (λ_=>XC s hs) Z ⟨Z,tR⟩ ?_
 refine x.bK Z tR Z (λ_=>PK s hs) Z ⟨Z,tR⟩ ?_
 refine x.cond Z tR (λh0=>?_) (λh0=>?_)
 ·refine x.exit Z tR ?_
  refine⟨.inr Z,?_,tR,Z⟩
  rw[pG,if_pos h0]
  exact Z
 have h0':pG s=jH s s.size 0:=by
  rw[pG,if_neg (by rw[h0];simp)]
 refine x.loop (α:=OI s) (λy=>⟨[(0,vs s),(3,vi y.i)],[],0⟩) (λy=>(s.size+4-y.i).toNat) ⟨s.size,0,by omega,Z,by omega⟩ Z tR ?_ (λy=>?_)
 ·exact⟨⟨Z,Z,tR⟩,tR,Z⟩
 obtain⟨n,i,fuel,same,hi⟩:=y
 change Go C _ ⟨[(0,vs s),(3,vi i)],[],0⟩ _
 refine x.cond Z tR (λh=>?_) (λh=>?_)
 ·have h':i<s.size:=by simpa using h
  have hn:=Mj s i
  have hr:=FK s i (by omega)
  refine x.pure Z tR Z (Bv s i hs) ⟨Z,Z,tR⟩ ?_
  refine x.pure Z tR Z (D8 _) ⟨Z,tR⟩ ?_
  refine x.bK Z tR Z (λ_ _=>FU _) Z ⟨Z,tR⟩ ?_
  cases n with
  | zero=>omega
  | succ n=>
   rw[jH,if_pos h'] at same
   refine x.cond Z tR (λh2=>?_) (λh2=>?_)
   ·rw[if_pos (show (!rA (cu s i).1&&(decide (i=0)||!rZ (cu s i).1))=true from h2)] at same
    refine x.exit Z tR ?_
    refine⟨.inr Z,?_,tR,Z⟩
    rw[h0',←same]
    exact Z
   ·rw[if_neg (by rw[show (!rA (cu s i).1&&(decide (i=0)||!rZ (cu s i).1))=false from h2];simp)] at same
    refine x.pure Z tR Z (I6 s i hs (by omega)) ⟨Z,Z,tR⟩ ?_
    refine x.back Z tR ?_
    refine⟨⟨n,lW s i,by omega,same,by omega⟩,by show ((s.size:Int)+4-lW s i).toNat<((s.size:Int)+4-i).toNat;omega,?_⟩
    exact⟨⟨Z,Z,tR⟩,tR,Z⟩
 ·have h':¬i<s.size:=by simpa using h
  refine x.exit Z tR ?_
  refine⟨.inr Z,?_,tR,Z⟩
  rw[h0',←same,zX h']
  exact Z
theorem BF(s:BY):∀(n:Nat) (i c:Int),c≤fB s n i c
 | 0,i,c=>Int.le_refl c
 | n+1,i,c=>by
  rw[fB]
  split
  ·have:=BF s n (lW s i) (c+1);omega
  ·exact Int.le_refl c
theorem XK(s:BY):∀(n p:Nat) (c:Int),s.size≤p+n->c≤24->
  jq s n p c=(!decide (0≤dA s n p)&&decide (fB s n p c≤24)&&jH s n p&&decide (0<fB s n p c)):=by
 intro n
 induction n with
 | zero=>
  intro p c h1 h2
  rw[jq,dA,fB,jH]
  simp [h2]
 | succ n ih=>
  intro p c h1 h2
  by_cases hp:p<s.size
  ·have hp':(p:Int)<s.size:=by omega
   have hf:=vV hp
   rw[jq,dA,fB,jH,if_pos hp,if_pos hp',if_pos hp',if_pos hp',FM hp,hf]
   by_cases hb:(Utf8.decode s p).2=1∧128≤bt s p
   ·have hr:(Utf8.decode s p).1=65533:=by
     rw[bH] at hb ⊢
     exact RN _ _ _ _ _ _ hb.1 hb.2
    rw[if_pos hb,hr]
    simp [rA,rZ]
   ·obtain⟨d1,d2,d3⟩:=bF s p
    have hz:¬(((Utf8.decode s p).2:Int)=0):=by omega
    rw[if_neg hb]
    simp only
    rw[if_neg hz]
    by_cases hc:(!rA (Utf8.decode s p).1&&(decide ((p:Int)=0)||!rZ (Utf8.decode s p).1))=true
    ·rw[if_pos hc,if_pos hc];simp
    ·rw[if_neg hc,if_neg hc]
     by_cases h24:24<c+1
     ·have:=BF s n ((p+(Utf8.decode s p).2:Nat):Int) (c+1)
      rw[if_pos h24,decide_eq_false (p:=fB s n ((p+(Utf8.decode s p).2:Nat):Int) (c+1)≤24) (by omega)]
      simp
     ·rw[if_neg h24,ih (p+(Utf8.decode s p).2) (c+1) (by omega) (by omega)]
      simp
  ·rw[I8 hp,lX (by omega),FL (by omega),zX (by omega)]
   simp [h2]
theorem ZX(s:BY):jq s s.size 0 0=pG s:=by
 rw[XK s s.size 0 0 (by omega) (by omega),pG]
 by_cases h0:s.size=0
 ·rw[if_pos (by simp [h0]),h0]
  simp [fB]
 ·have h1:0<fB s s.size 0 0:=by
   obtain⟨k,hk⟩:∃k,s.size=k+1:=⟨s.size-1,by omega⟩
   rw[hk,fB,if_pos (by omega)]
   have:=BF s k (lW s 0) (0+1)
   omega
  rw[decide_eq_false (p:=((s.size:Int)=0)) (by omega),Bool.false_or]
  by_cases h2:0≤dA s s.size 0
  ·simp [h2]
  ·by_cases h3:24<fB s s.size 0 0
   ·rw[if_pos (by simp [h3]),decide_eq_false (p:=fB s s.size ((0:Nat):Int) 0≤24) (by simp;omega)]
    simp
   ·rw[if_neg (by simp [h2];omega)]
    simp [h1,h2]
    omega
def j6(s:BY)(p:Nat):Bool:=rA (Utf8.decode s p).1||rZ (Utf8.decode s p).1
def Ki(s:BY):Nat->Nat->Nat
 | 0,p=>p
 | n+1,p=>if p<s.size then (if j6 s p then Ki s n (p+(Utf8.decode s p).2) else p) else p
theorem vY{s:BY}{n p:Nat}(h:s.size≤p):Ki s n p=p:=by
 cases n with
 | zero=>rfl
 | succ n=>rw[Ki,if_neg (by omega)]
theorem BG(s:BY):∀(n m p:Nat),s.size≤p+n->s.size≤p+m->Ki s n p=Ki s m p
 | 0,m,p,h,_=>by rw[vY (by omega),vY (by omega)]
 | n+1,0,p,_,h=>by rw[vY (by omega),vY (by omega)]
 | n+1,m+1,p,h1,h2=>by
  have:=(bF s p).1
  rw[Ki,Ki]
  split
  ·split
   ·exact BG s n m _ (by omega) (by omega)
   ·rfl
  ·rfl
def qy(s:BY)(p:Nat):Nat:=Ki s s.size p
theorem kI{s:BY}{p:Nat}(h:s.size≤p):qy s p=p:=vY h
theorem jX{s:BY}{p:Nat}(h:p<s.size):qy s p=if j6 s p then qy s (p+(Utf8.decode s p).2) else p:=by
 unfold qy
 obtain⟨n,hn⟩:∃n,s.size=n+1:=⟨s.size-1,by omega⟩
 have:=(bF s p).1
 rw[BG s s.size (n+1) p (by omega) (by omega),Ki,if_pos h,BG s n s.size _ (by omega) (by omega)]
theorem wY(s:BY):∀(n p:Nat),s.size≤p+n->p≤s.size->p≤qy s p∧qy s p≤s.size
 | 0,p,h,hp=>by rw[kI (by omega)];omega
 | n+1,p,h,hp=>by
  by_cases hl:p<s.size
  ·rw[jX hl]
   split
   ·have h1:=(bF s p).1
    have h2:=qM hl
    have:=wY s n (p+(Utf8.decode s p).2) (by omega) h2
    omega
   ·omega
  ·rw[kI (by omega)];omega
theorem decode_extract{s:BY}{p:Nat}(hp:p≤s.size)(q:Nat):Utf8.decode (s.extract p s.size) q=Utf8.decode s (p+q):=by
 have h:=I9 (s.size-p) q p (bt s (p+q)) (bt s (p+q+1)) (bt s (p+q+2)) (bt s (p+q+3))
 rw[show p+(s.size-p)=s.size by omega] at h
 rw[bH,bH,extract_size,mW,mW,mW,mW,←Nat.add_assoc,←Nat.add_assoc,←Nat.add_assoc,h]
theorem uh{s:BY}{p:Nat}(hp:p≤s.size):∀(n q:Nat),s.size≤p+q+n->p+qy (s.extract p s.size) q=qy s (p+q)
 | 0,q,h=>by rw[kI (by rw[extract_size];omega),kI (by omega)]
 | n+1,q,h=>by
  by_cases hl:p+q<s.size
  ·rw[jX (by rw[extract_size];omega),jX hl,j6,j6,decode_extract hp]
   have:=(bF s (p+q)).1
   split
   ·rw[uh hp n _ (by omega),Nat.add_assoc]
   ·rfl
  ·rw[kI (by rw[extract_size];omega),kI (by omega)]
theorem Mx(s:BY)(hs:s.size≤9223372036854775807):Pure PG 148 [vs s] (vi (qy s 0:Int)) []:=by
 refine aD.mk (cfg 22) av [] Tryz.func148 Z (by kernel_rfl) Z Z Z ?_
 intro C x
 refine x.loop (α:={p:Nat // p≤s.size∧qy s p=qy s 0}) (λy=>⟨[(0,vs s),(6,.ptr 0 0)],[(0,.iter s y.1)],1⟩) (λy=>s.size-y.1) ⟨0,by omega,Z⟩ Z tR ?_ (λy=>?_)
 ·exact⟨⟨Z,⟨Z,Z⟩,tR⟩,⟨⟨Z,Z⟩,tR⟩,Z⟩
 obtain⟨p,hp,same⟩:=y
 change Go C _ ⟨[(0,vs s),(6,.ptr 0 0)],[(0,.iter s p)],1⟩ _
 obtain⟨d1,d2,d3⟩:=bF s p
 refine x.next Z tR Z Z Z (λh=>?_) (λh=>?_)
 ·have h:p<s.size:=h
  have hr:=qM h
  rw[jX h] at same
  refine x.cond rfl tR (λ_=>?_) (λh1=>by cases h1)
  refine x.pure Z tR Z (Dl _) ⟨Z,tR⟩ ?_
  refine x.bK Z tR Z (λ_=>yK _) Z ⟨Z,tR⟩ ?_
  refine x.cond Z tR (λh2=>?_) (λh2=>?_)
  ·have h2:(!rA (Utf8.decode s p).1&&!rZ (Utf8.decode s p).1)=true:=h2
   have h3:j6 s p=false:=by
    unfold j6
    simp only[afF,afR] at h2
    rw[h2.1,h2.2];rfl
   rw[if_neg (by rw[h3];simp)] at same
   refine x.exit Z tR ?_
   refine⟨.inr Z,?_,tR,Z⟩
   rw[←same]
   exact Z
  ·have h2:(!rA (Utf8.decode s p).1&&!rZ (Utf8.decode s p).1)=false:=h2
   have h3:j6 s p=true:=by
    unfold j6
    cases e:rA (Utf8.decode s p).1 with
    | true=>rfl
    | false=>rw[e] at h2;simpa using h2
   rw[if_pos h3] at same
   refine x.back Z tR ⟨⟨p+(Utf8.decode s p).2,hr,same⟩,by show s.size-(p+(Utf8.decode s p).2)<s.size-p;omega,?_⟩
   exact⟨⟨Z,⟨Z,Z⟩,tR⟩,⟨⟨Z,Z⟩,tR⟩,Z⟩
 ·have h:¬p<s.size:=h
  refine x.cond rfl tR (λh1=>by cases h1) (λ_=>?_)
  refine x.exit Z tR ?_
  refine⟨.inr Z,?_,tR,Z⟩
  rw[kI (by omega)] at same
  show (s.size:Int)=(qy s 0:Int)
  rw[←same];omega
def kg(u:Nat):List UInt8:=if u<10 then [UInt8.ofNat (48+u)] else kg (u/10)++[UInt8.ofNat (48+u%10)]
termination_by u
decreasing_by omega
theorem oo{u:Nat}(h:u<10):kg u=[UInt8.ofNat (48+u)]:=by rw[kg,if_pos h]
theorem uj{u:Nat}(h:¬u<10):kg u=kg (u/10)++[UInt8.ofNat (48+u%10)]:=by rw[kg,if_neg h]
def zY(u:Nat):List UInt8:=if u=0 then [] else kg u
theorem Ul(u:Nat):zY (u/10)++[UInt8.ofNat (48+u%10)]=kg u:=by
 by_cases h:u<10
 ·rw[oo h,zY,if_pos (by omega),Nat.mod_eq_of_lt h];rfl
 ·rw[uj h,zY,if_neg (by omega)]
def sgV(n:Int):List UInt8:=if n<0 then [45] else []
def gM(n:Int):BY:=ba (sgV n++kg n.natAbs)
theorem pI:∀(k u:Nat),u<10 ^ (k+1)->(kg u).length≤k+1
 | 0,u,h=>by rw[oo (by simpa using h)];simp
 | k+1,u,h=>by
  by_cases hu:u<10
  ·rw[oo hu];simp
  ·rw[uj hu]
   have:=pI k (u/10) (by rw[Nat.pow_succ] at h;omega)
   simp;omega
def ten:BY:=⟨#[48,49,50,51,52,53,54,55,56,57]⟩
theorem XL(u:Nat)(h:u<10):ten.extract u (u+1)=ba [UInt8.ofNat (48+u)]:=by
 have:∀u:Fin 10,ten.extract u.1 (u.1+1)=ba [UInt8.ofNat (48+u.1)]:=by decide +kernel
 exact this ⟨u,h⟩
structure HI (u0:Nat) where
 u:Nat
 l:List UInt8
 same:kg u++l=kg u0
 le:u≤u0
 len:l.length≤20
theorem zZ(u0:Nat)(hn:u0≤9223372036854775807):Pure PG 78 [vi (u0:Int)] (vs (ba (kg u0))) []:=by
 refine aD.mk (cfg 30) av [] Tryz.func78 Z (by kernel_rfl) Z Z Z ?_
 intro C x
 refine x.cond Z tR (λh=>?_) (λ_=>?_)
 ·simp at h<;>omega
 refine x.cond Z tR (λh=>?_) (λ_=>?_)
 ·simp at h<;>omega
 have hlen:∀(l:List UInt8) u,kg u++l=kg u0->(kg u).length+l.length≤19:=λl u h=>by
  have:=pI 18 u0 (by show u0<10000000000000000000;omega)
  rw[←h] at this
  simpa using this
 refine x.loop (α:=HI u0) (λy=>⟨[(0,vi (y.u:Int)),(3,vs (ba y.l))],[],0⟩) (λy=>y.u) ⟨u0,[],by simp,Nat.le_refl _,by simp⟩ Z tR ?_ (λy=>?_)
 ·exact⟨⟨Z,Z,tR⟩,tR,Z⟩
 obtain⟨u,l,same,le,len⟩:=y
 change Go C _ ⟨[(0,vi (u:Int)),(3,vs (ba l))],[],0⟩ _
 have hl:=hlen l u same
 refine x.cond Z tR (λh=>?_) (λh=>?_)
 ·have hu:10≤u:=by
    have:(10:Int)≤u:=by simpa using h
    omega
  have hm:(u:Int).tmod 10=((u%10:Nat):Int):=by rw[Int.tmod_eq_emod_of_nonneg (by omega)];rfl
  have hd:(u:Int).tdiv 10=((u/10:Nat):Int):=by rw[Int.tdiv_eq_ediv_of_nonneg (by omega)];rfl
  have he:ten.extract ((u:Int).tmod 10).toNat ((u:Int).tmod 10+1).toNat=ba [UInt8.ofNat (48+u%10)]:=by
   rw[hm,show (((u%10:Nat):Int)+1).toNat=u%10+1 by omega,afT]
   exact XL _ (by omega)
  refine x.back Z ?_ ?_
  ·have hs:(ten.extract ((u:Int).tmod 10).toNat ((u:Int).tmod 10+1).toNat).size=1:=by rw[he];rfl
   unfold ten at hs
   simp only[ak,hs,qI,aj]
   rw[hm,hd]
   refine⟨by omega,by omega,by omega,?_,by omega,by omega,by omega⟩
   show _∧_∧_≤(10:Int)
   omega
  rw[uj (by omega),List.append_assoc] at same
  refine⟨⟨u/10,[UInt8.ofNat (48+u%10)]++l,same,by omega,by simp;omega⟩,by show u/10<u;omega,⟨hd,?_,tR⟩,tR,Z⟩
  show ten.extract _ _++ba l=ba ([_]++l)
  rw[he,J7]
 ·have hu:u<10:=by
    have:¬(10:Int)≤u:=by simpa using h
    omega
  have he:ten.extract (u:Int).toNat ((u:Int)+1).toNat=ba [UInt8.ofNat (48+u)]:=by
   rw[show ((u:Int)+1).toNat=u+1 by omega,afT]
   exact XL _ hu
  refine x.exit Z ?_ ?_
  ·have hs:(ten.extract (u:Int).toNat ((u:Int)+1).toNat).size=1:=by rw[he];rfl
   unfold ten at hs
   simp only[ak,hs,qI,aj]
   refine⟨by omega,?_,by omega⟩
   show _∧_∧_≤(10:Int)
   omega
  refine⟨.inr Z,?_,tR,Z⟩
  show ten.extract _ _++ba l=ba (kg u0)
  rw[he,J7,←same,oo hu]
theorem XM:(⟨#[45,57,50,50,51,51,55,50,48,51,54,56,53,52,55,55,53,56,48,56]⟩:BY)=gM (-9223372036854775808):=by
 unfold gM sgV
 rw[if_pos (by omega),show Int.natAbs (-9223372036854775808)=9223372036854775808 from rfl]
 repeat rw[uj (by decide)]
 rw[oo (by decide)]
 decide +kernel
theorem H6(n:Int)(hn:aj n):Pure PG 78 [vi n] (vs (gM n)) []:=by
 unfold aj at hn
 by_cases h0:0≤n
 ·have:=zZ n.toNat (by omega)
  rw[Int.toNat_of_nonneg h0] at this
  rw[gM,sgV,if_neg (by omega),show n.natAbs=n.toNat by omega]
  exact this
 refine aD.mk (cfg 30) av [] Tryz.func78 Z (by kernel_rfl) Z Z Z ?_
 intro C x
 refine x.cond Z tR (λh=>?_) (λh=>?_)
 ·refine x.exit Z tR ?_
  refine⟨.inr Z,?_,tR,Z⟩
  have:n=-9223372036854775808:=by simpa using h
  rw[this]
  exact XM
 have hne:n≠-9223372036854775808:=by simpa using h
 refine x.cond Z tR (λ_=>?_) (λh=>?_)
 ·have hp:=zZ n.natAbs (by omega)
  rw[show (n.natAbs:Int)=0-n by omega] at hp
  refine x.pure Z (show aj (0-n) by unfold aj;omega) Z hp ⟨Z,tR⟩ ?_
  refine x.exit Z ?_ ?_
  ·show ((((⟨#[45]⟩:BY).size+(ba (kg n.natAbs)).size:Nat):Int))≤9223372036854775807
   have:=pI 18 n.natAbs (by show n.natAbs<10000000000000000000;omega)
   rw[qI]
   show ((1+(kg n.natAbs).length:Nat):Int)≤_
   omega
  refine⟨.inr Z,?_,tR,Z⟩
  show ba [45]++ba (kg n.natAbs)=gM n
  rw[J7,gM,sgV,if_pos (by omega)]
 ·simp at h;omega
theorem FV(s p:BY) :
  Pure PG 197 [vs s,vs p] (vb (decide ((p.size:Int)≤s.size)&&decide ((s.extract 0 p.size).data.toList=p.data.toList))) []:=by
 refine aD.mk (cfg 18) av [] Tryz.func197 Z (by kernel_rfl) Z Z Z ?_
 intro C x
 refine x.exit Z ?_ ?_
 ·intro h
  exact⟨by omega,by simpa using h⟩
 refine⟨.inr Z,?_,tR,Z⟩
 show _=_
 rfl
def cutV(s p:BY):BY×Bool:=if (decide ((p.size:Int)≤s.size)&&decide ((s.extract 0 p.size).data.toList=p.data.toList))=true then (s.extract p.size s.size,true) else (s,false)
theorem Um(s p:BY):Pure PG 177 [vs s,vs p] (.tup [vs (cutV s p).1,vb (cutV s p).2]) []:=by
 refine aD.mk (cfg 15) av [] Tryz.func177 Z (by kernel_rfl) Z Z Z ?_
 intro C x
 refine x.pure Z tR Z (FV s p) ⟨Z,Z,tR⟩ ?_
 refine x.cond Z tR (λh=>?_) (λh=>?_)
 ·refine x.exit Z tR ?_
  refine⟨.inr Z,?_,tR,Z⟩
  rw[cutV,if_neg (by simpa only[afR,Bool.not_eq_true] using h)]
  exact⟨Z,Z,tR⟩
 ·have h':(decide ((p.size:Int)≤s.size)&&decide ((s.extract 0 p.size).data.toList=p.data.toList))=true:=by simpa using h
  refine x.exit Z ?_ ?_
  ·simp only[afF,afL] at h'
   simp only[ak]
   omega
  refine⟨.inr Z,?_,tR,Z⟩
  rw[cutV,if_pos h']
  exact⟨Z,Z,tR⟩
theorem XO(s p:BY):Pure PG 139 [vs s,vs p] (.tup [vs (cutV s p).1,vb (cutV s p).2]) []:=by
 refine aD.mk (cfg 11) av [] Tryz.func139 Z (by kernel_rfl) Z Z Z ?_
 intro C x
 refine x.pure Z tR Z (Um s p) ⟨Z,Z,tR⟩ ?_
 refine x.exit Z tR ?_
 exact⟨.inr Z,⟨Z,Z,tR⟩,tR,Z⟩
def dv(s:BY):Nat->Nat->Nat->Option Nat
 | 0,_,u=>some u
 | n+1,i,u=>if i<s.size then if 48≤bt s i∧bt s i≤57 then dv s n (i+1) (10*u+(bt s i-48)) else none else some u
theorem acr{s:BY}{n i u:Nat}(h:¬i<s.size):dv s n i u=some u:=by
 cases n with
 | zero=>rfl
 | succ n=>rw[dv,if_neg h]
theorem Un{sz p a b c d:Nat}(h:a<128):dec sz p a b c d=(a,1):=by rw[dec,if_pos h]
theorem XP{sz p a b c d:Nat}(h:¬a<128):128≤(dec sz p a b c d).1:=by
 unfold dec
 rw[if_neg h]
 split
 ·split
  ·rename_i h;exact h
  ·simp
 split
 ·split
  ·rename_i h;exact Nat.le_trans (by omega) h.1
  ·simp
 split
 ·split
  ·rename_i h;exact Nat.le_trans (by omega) h.1
  ·simp
 ·simp
theorem decode_ascii{s:BY}{p:Nat}(h:bt s p<128):Utf8.decode s p=(bt s p,1):=by rw[bH];exact Un h
theorem decode_high{s:BY}{p:Nat}(h:¬bt s p<128):128≤(Utf8.decode s p).1:=by rw[bH];exact XP h
def fF(s:BY):Int×Bool:=
 let d:=(cutV s ⟨#[45]⟩).1
 let neg:=(cutV s ⟨#[45]⟩).2
 if d.size=0∨19<d.size∨(bt d 0=48∧(neg=true∨1<d.size)) then (0,false)
 else match dv d d.size 0 0 with
  | none=>(0,false)
  | some u=>if neg=true∧u≤9223372036854775808 then (-(u:Int),true) else if neg=false∧u<9223372036854775808 then ((u:Int),true) else (0,false)
structure WI (s:BY) where
 n:Nat
 p:Nat
 u:Nat
 fuel:s.size≤p+n
 same:dv s n p u=dv s s.size 0 0
 hp:p≤s.size
 hu:u<10 ^ p
theorem nK(s:BY):Pure PG 84 [vs s] (.tup [vi (fF s).1,vb (fF s).2]) []:=by
 refine aD.mk ⟨66,0,false,tys⟩ av [] Tryz.func84 Z (by kernel_rfl) Z Z Z ?_
 intro C x
 refine x.pure Z tR Z (XO s ⟨#[45]⟩) ⟨Z,Z,tR⟩ ?_
 generalize hd:(cutV s ⟨#[45]⟩).1=d
 generalize hng:(cutV s ⟨#[45]⟩).2=ng
 have hnil:d.data.toList=(⟨#[]⟩:BY).data.toList↔d.size=0:=by
  rw[show d.size=d.data.toList.length from (Array.length_toList).symm,List.length_eq_zero_iff]
 have hsb:sb d (Int.toNat 0)=(bt d 0:Int):=nI d 0
 have hcond:(decide (d.data.toList=(⟨#[]⟩:BY).data.toList)||decide ((19:Int)<d.size)||decide (sb d (Int.toNat 0)=48)&&(ng||decide ((1:Int)<d.size)))=decide (d.size=0∨19<d.size∨(bt d 0=48∧(ng=true∨1<d.size))):=by
  rw[Bool.eq_iff_iff]
  simp only[Bool.or_eq_true,afF,afL,hnil,hsb]
  cases ng<;>simp only[afS,false_or,true_or,and_true]<;>omega
 refine x.cond Z ?_ (λh=>?_) (λh=>?_)
 ·intro h
  simp only[afU,afP] at h
  have:¬d.size=0:=λe=>h.1 (hnil.2 e)
  omega
 ·refine x.exit Z tR ?_
  refine⟨.inr Z,?_,tR,Z⟩
  have:d.size=0∨19<d.size∨(bt d 0=48∧(ng=true∨1<d.size)):=by
   rw[hcond] at h
   simpa only[afL] using h
  simp only[fF,hd,hng]
  rw[if_pos this]
  exact⟨Z,Z,tR⟩
 have hno:¬(d.size=0∨19<d.size∨(bt d 0=48∧(ng=true∨1<d.size))):=by
  rw[hcond] at h
  simpa only[afP] using h
 have hsz:d.size≤19:=by omega
 refine x.loop (α:=WI d) (λy=>⟨[(5,vb ng),(6,.d (.int .u64 (y.u:Int))),(35,.ptr 0 0)],[(0,.iter d y.p)],1⟩) (λy=>d.size+4-y.p) ⟨d.size,0,0,by omega,Z,by omega,by simp⟩ Z tR ?_ (λy=>?_)
 ·exact⟨⟨Z,Z,⟨Z,Z⟩,tR⟩,⟨⟨Z,Z⟩,tR⟩,Z⟩
 obtain⟨n,p,u,fuel,same,hp,hu⟩:=y
 change Go C _ ⟨[(5,vb ng),(6,.d (.int .u64 (u:Int))),(35,.ptr 0 0)],[(0,.iter d p)],1⟩ _
 refine x.next Z tR Z Z Z (λh=>?_) (λh=>?_)
 ·refine x.cond rfl tR (λ_=>?_) (λh1=>by cases h1)
  refine x.pure Z tR Z (yK _) ⟨Z,tR⟩ ?_
  cases n with
  | zero=>omega
  | succ n=>
   rw[dv,if_pos h] at same
   refine x.cond Z tR (λh2=>?_) (λh2=>?_)
   ·have hnd:¬(48≤bt d p∧bt d p≤57):=λhh=>by
     rw[decode_ascii (by omega)] at h2
     simp at h2
     omega
    rw[if_neg hnd] at same
    refine x.exit Z tR ?_
    refine⟨.inr Z,?_,tR,Z⟩
    simp only[fF,hd,hng]
    rw[if_neg hno,←same]
    exact⟨Z,Z,tR⟩
   ·have hdg:48≤bt d p∧bt d p≤57:=by
     by_cases ha:bt d p<128
     ·rw[decode_ascii ha] at h2
      simp at h2
      omega
     ·have:=decode_high ha
      simp at h2
      omega
    rw[if_pos hdg] at same
    have hdec:=decode_ascii (s:=d) (p:=p) (by omega)
    have hpow:10 ^ (p+1)≤10 ^ 19:=Nat.pow_le_pow_right (by omega) (by omega)
    have hu':10*u+(bt d p-48)<10 ^ (p+1):=by rw[Nat.pow_succ];omega
    refine x.back Z tR ?_
    refine⟨⟨n,p+(Utf8.decode d p).2,10*u+(bt d p-48),by rw[hdec];omega,by rw[hdec];exact same,by rw[hdec];show p+1≤_;omega,by rw[hdec];exact hu'⟩,by show d.size+4-(p+(Utf8.decode d p).2)<d.size+4-p;rw[hdec];show d.size+4-(p+1)<d.size+4-p;omega,?_⟩
    refine⟨⟨Z,?_,⟨Z,Z⟩,tR⟩,⟨⟨Z,Z⟩,tR⟩,Z⟩
    show IntKind.u64.wrap (IntKind.u64.wrap (10*(u:Int))+IntKind.u64.wrap (IntKind.i32.wrap (((Utf8.decode d p).1:Int)-48)))=((10*u+(bt d p-48):Nat):Int)
    rw[hdec,IntKind.wrap_u64,IntKind.wrap_u64,IntKind.wrap_u64,IntKind.wrap_i32]
    omega
 ·refine x.cond rfl tR (λh1=>by cases h1) (λ_=>?_)
  rw[acr h] at same
  have hpow:10 ^ p≤10 ^ 19:=Nat.pow_le_pow_right (by omega) (by omega)
  have hres:fF s=if ng=true∧u≤9223372036854775808 then (-(u:Int),true) else if ng=false∧u<9223372036854775808 then ((u:Int),true) else (0,false):=by
   simp only[fF,hd,hng]
   rw[if_neg hno,←same]
  rw[hres]
  refine x.cond Z tR (λh1=>?_) (λh1=>?_)
  ·simp only[afF,afL] at h1
   refine x.exit Z tR ?_
   refine⟨.inr Z,?_,tR,Z⟩
   rw[if_pos ⟨h1.1,by omega⟩]
   refine⟨?_,Z,tR⟩
   show IntKind.i64.wrap (IntKind.u64.wrap (0-(u:Int)))=-(u:Int)
   rw[IntKind.wrap_i64,IntKind.wrap_u64]
   omega
  ·rw[if_neg (by rintro ⟨rfl,hh⟩;simp at h1;omega)]
   refine x.cond Z tR (λh2=>?_) (λh2=>?_)
   ·simp only[afF,afR,afL] at h2
    refine x.exit Z tR ?_
    refine⟨.inr Z,?_,tR,Z⟩
    rw[if_pos ⟨h2.1,by omega⟩]
    refine⟨?_,Z,tR⟩
    show IntKind.i64.wrap (u:Int)=(u:Int)
    rw[IntKind.wrap_i64]
    omega
   ·refine x.exit Z tR ?_
    refine⟨.inr Z,?_,tR,Z⟩
    rw[if_neg (by rintro ⟨rfl,hh⟩;simp at h2;omega)]
    exact⟨Z,Z,tR⟩
def dvl:List UInt8->Nat->Option Nat
 | [],u=>some u
 | c::r,u=>if 48≤c.toNat∧c.toNat≤57 then dvl r (10*u+(c.toNat-48)) else none
theorem MB(s:BY):s.data.toList.length=s.size:=Array.length_toList
theorem RO(s:BY)(i:Nat)(h:i<s.size):∃c,s.data.toList[i]?=some c∧bt s i=c.toNat:=by
 have h':i<s.data.size:=h
 refine⟨s.data[i],by simp [h'],?_⟩
 unfold bt
 cases s with
 | mk d=>show d[i]!.toNat=_;rw[getElem!_pos d i h']
theorem Kj(s:BY):∀(n i u:Nat),s.size≤i+n->dv s n i u=dvl (s.data.toList.drop i) u
 | 0,i,u,h=>by
  rw[dv,List.drop_eq_nil_of_le (by rw[MB];omega)]
  rfl
 | n+1,i,u,h=>by
  rw[dv]
  by_cases hi:i<s.size
  ·obtain⟨c,hc,hb⟩:=RO s i hi
   have hl:i<s.data.toList.length:=(List.getElem?_eq_some_iff.1 hc).1
   rw[if_pos hi,List.drop_eq_getElem_cons hl,(List.getElem?_eq_some_iff.1 hc).2,dvl,hb,Kj s n (i+1) _ (by omega)]
  ·rw[if_neg hi,List.drop_eq_nil_of_le (by rw[MB];omega)]
   rfl
theorem RP:∀(l:List UInt8) (c:UInt8) (u:Nat),dvl (l++[c]) u=(dvl l u).bind λv=>if 48≤c.toNat∧c.toNat≤57 then some (10*v+(c.toNat-48)) else none
 | [],c,u=>rfl
 | x::l,c,u=>by
  rw[List.cons_append,dvl,dvl]
  split
  ·exact RP l c _
  ·rfl
theorem PL(v:Nat)(h:v<10):(UInt8.ofNat (48+v)).toNat=48+v:=by
 rw[UInt8.toNat_ofNat']
 omega
theorem Ja:∀(u:Nat),∃c r,kg u=c::r∧48≤c.toNat∧c.toNat≤57∧(0<u->c.toNat≠48):=by
 intro u
 induction u using Nat.strongRecOn with
 | _ u ih=>
  by_cases h:u<10
  ·refine⟨_,[],oo h,?_⟩
   rw[PL u h]
   omega
  ·obtain⟨c,r,h1,h2,h3,h4⟩:=ih (u/10) (by omega)
   exact⟨c,r++[_],by rw[uj h,h1];rfl,h2,h3,λ_=>h4 (by omega)⟩
theorem MC:∀(u:Nat),dvl (kg u) 0=some u:=by
 intro u
 induction u using Nat.strongRecOn with
 | _ u ih=>
  by_cases h:u<10
  ·rw[oo h,dvl,PL u h,if_pos (by omega)]
   show some _=some _
   congr 1
   omega
  ·rw[uj h,RP,ih (u/10) (by omega),PL _ (by omega)]
   show (if _ then some _ else none)=_
   rw[if_pos (by omega)]
   congr 1
   omega
theorem aeV(c:UInt8):UInt8.ofNat c.toNat=c:=by simp
theorem ZY{s:BY}{r:List UInt8}(h:s.data.toList=45::r):cutV s ⟨#[45]⟩=(ba r,true):=by
 have hs:s.size=r.length+1:=by rw[show s.size=s.data.toList.length from (Array.length_toList).symm,h];rfl
 have e1:(s.extract 0 (ByteArray.size ⟨#[45]⟩)).data.toList=[45]:=by
  rw[ByteArray.data_extract,Array.toList_extract,h];rfl
 have e2:s.extract (ByteArray.size ⟨#[45]⟩) s.size=ba r:=by
  apply ByteArray.ext
  apply Array.toList_inj.1
  rw[ByteArray.data_extract,Array.toList_extract,h,hs]
  simp [ba,ByteArray.size,List.extract]
 rw[cutV,if_pos,e2]
 rw[e1]
 simp only[afF,afL]
 exact⟨by rw[hs];show (1:Int)≤_;omega,tR⟩
theorem Z0{s:BY}(h:s.data.toList.head?≠some 45):cutV s ⟨#[45]⟩=(s,false):=by
 rw[cutV,if_neg]
 simp only[afF,afL]
 rintro ⟨h1,h2⟩
 apply h
 rw[ByteArray.data_extract,Array.toList_extract] at h2
 cases hl:s.data.toList with
 | nil=>rw[hl] at h2;cases h2
 | cons a b=>
  rw[hl] at h2
  have:[a]=[45]:=h2
  simp at this
  simp [this]
theorem ME{s:BY}{c:UInt8}{r:List UInt8}(h:s.data.toList=c::r):bt s 0=c.toNat∧s.size=r.length+1:=by
 have hs:s.size=r.length+1:=by rw[show s.size=s.data.toList.length from (Array.length_toList).symm,h];rfl
 obtain⟨d,hd,hb⟩:=RO s 0 (by omega)
 rw[h] at hd
 simp at hd
 subst hd
 exact⟨hb,hs⟩
theorem abg{c:UInt8}{n:Nat}(hn:n<256):c.toNat=n↔c=UInt8.ofNat n:=by
 constructor
 ·rintro rfl;exact (aeV c).symm
 ·rintro rfl;rw[UInt8.toNat_ofNat'];omega
theorem XQ{s:BY}{r:List UInt8}(h:s.data.toList=45::r) :
  fF s=if r.length=0∨19<r.length∨r.head?=some 48 then (0,false) else match dvl r 0 with
   | none=>(0,false)
   | some u=>if u≤9223372036854775808 then (-(u:Int),true) else (0,false):=by
 have hc:=ZY h
 have hd:dv (ba r) r.length 0 0=dvl r 0:=by rw[Kj _ _ _ _ (by rw[qI];omega)];rfl
 unfold fF
 rw[hc]
 simp only[qI,hd]
 cases r with
 | nil=>rw[if_pos (by simp),if_pos (by simp)]
 | cons c r=>
  have hb:bt (ba (c::r)) 0=c.toNat:=(ME (s:=ba (c::r)) Z).1
  have h48:c.toNat=48↔(c::r).head?=some 48:=by rw[abg (by omega)];simp
  refine vT (by rw[hb,h48];simp) Z ?_
  cases dvl (c::r) 0<;>simp
theorem XR{s:BY}{l:List UInt8}(hl:s.data.toList=l)(h:l.head?≠some 45) :
  fF s=if l.length=0∨19<l.length∨(l.head?=some 48∧1<l.length) then (0,false) else match dvl l 0 with
   | none=>(0,false)
   | some u=>if u<9223372036854775808 then ((u:Int),true) else (0,false):=by
 subst hl
 have hc:=Z0 h
 have hs:s.size=s.data.toList.length:=(Array.length_toList).symm
 have hd:dv s s.size 0 0=dvl s.data.toList 0:=by rw[Kj _ _ _ _ (by omega)];rfl
 unfold fF
 rw[hc]
 simp only[hd]
 rw[hs]
 cases hl:s.data.toList with
 | nil=>rw[if_pos (by simp),if_pos (by simp)]
 | cons c r=>
  have hb:=(ME hl).1
  have h48:c.toNat=48↔(c::r).head?=some 48:=by rw[abg (by omega)];simp
  refine vT (by rw[hb,h48];simp) Z ?_
  cases dvl (c::r) 0<;>simp
theorem pJ(n:Int):(gM n).data.toList=sgV n++kg n.natAbs:=rfl
theorem MF(n:Int)(hn:aj n):fF (gM n)=(n,true):=by
 unfold aj at hn
 obtain⟨c,q,e1,e2,e3,e4⟩:=Ja n.natAbs
 have hlen:=pI 18 n.natAbs (by show n.natAbs<10000000000000000000;omega)
 by_cases h0:n<0
 ·have hl:(gM n).data.toList=45::kg n.natAbs:=by rw[pJ,sgV,if_pos h0];rfl
  have h48:(kg n.natAbs).head?≠some 48:=by
   rw[e1]
   intro e
   simp at e
   exact e4 (by omega) (by rw[e];rfl)
  rw[XQ hl,if_neg,MC]
  ·simp only
   rw[if_pos (by omega)]
   congr 1
   omega
  ·rintro (h | h | h)
   ·rw[e1] at h;simp at h
   ·omega
   ·exact h48 h
 ·have hl:(gM n).data.toList=kg n.natAbs:=by rw[pJ,sgV,if_neg h0];rfl
  have h45:(kg n.natAbs).head?≠some 45:=by
   rw[e1]
   intro e
   simp at e
   rw[e] at e2
   simp at e2
  rw[XR hl h45,if_neg,MC]
  ·simp only
   rw[if_pos (by omega)]
   congr 1
   omega
  ·rintro (h | h | h)
   ·rw[e1] at h;simp at h
   ·omega
   ·by_cases hz:n.natAbs=0
    ·rw[hz,oo (by omega)] at h
     simp at h
    ·rw[e1] at h
     simp at h
     exact e4 (by omega) (by rw[h.1];rfl)
structure Tok where
 k:Int
 f:Int
 t:Int
deriving DecidableEq
abbrev D9(t:Tok):List D:=[.int .u8 t.k,.int .i64 t.f,.int .i64 t.t]
abbrev Z4(t:Tok):List V:=[.d (.int .u8 t.k),vi t.f,vi t.t]
abbrev tokV(t:Tok):V:=.agg (Z4 t)
def mX:Tok:=⟨0,0,0⟩
def FX(b:BY):Bool:=jq b b.size 0 0
def kindOf(b:BY):Int:=if mJ b then 2 else if FX b then 1 else if (fF b).2 then 3 else 0
def bC(s:BY)(p:Nat):Nat:=if bt s p=45∧qN s (p+1)=true then qy s (p+1) else qy s p
def iq(s:BY)(a:Nat):Tok×Int×Int:=
 if skV s false a=s.size then (mX,(s.size:Int),4)
 else if uP (bt s (skV s false a)) then (⟨4,skV s false a,skV s false a+1⟩,0,0)
 else if kindOf (s.extract (skV s false a) (bC s (skV s false a)))=0 then (mX,(skV s false a:Int),6)
 else (⟨kindOf (s.extract (skV s false a) (bC s (skV s false a))),skV s false a,bC s (skV s false a)⟩,0,0)
def PN(s:BY)(a:Int):Tok×Int×Int:=if a<0∨(s.size:Int)<a then (mX,0,1) else iq s a.toNat
theorem BH{s:BY}{a p:Nat}(hp:skV s false a=p)(h:p=s.size):iq s a=(mX,(s.size:Int),4):=by
 unfold iq;rw[hp,if_pos h]
theorem BJ{s:BY}{a p:Nat}(hp:skV s false a=p)(h:p≠s.size)(h2:uP (bt s p)=true):iq s a=(⟨4,p,p+1⟩,0,0):=by
 unfold iq;rw[hp,if_neg h,if_pos h2]
theorem FY{s:BY}{a p:Nat}(hp:skV s false a=p)(h:p≠s.size)(h2:uP (bt s p)=false)(h3:kindOf (s.extract p (bC s p))=0):iq s a=(mX,(p:Int),6):=by
 unfold iq;rw[hp,if_neg h,if_neg (by rw[h2];simp),if_pos h3]
theorem Kk{s:BY}{a p:Nat}(hp:skV s false a=p)(h:p≠s.size)(h2:uP (bt s p)=false)(h3:kindOf (s.extract p (bC s p))≠0):iq s a=(⟨kindOf (s.extract p (bC s p)),p,bC s p⟩,0,0):=by
 unfold iq;rw[hp,if_neg h,if_neg (by rw[h2];simp),if_neg h3]
theorem vZ{s:BY}{p:Nat}(hp:p<s.size):p≤bC s p∧bC s p≤s.size:=by
 unfold bC
 split
 ·have:=wY s s.size (p+1) (by omega) (by omega);omega
 ·exact wY s s.size p (by omega) (by omega)
theorem Uo{b:BY}(h:mJ b=true):kindOf b=2:=by unfold kindOf;rw[if_pos h]
theorem Uq{b:BY}(h:mJ b=false)(h2:FX b=true):kindOf b=1:=by unfold kindOf;rw[if_neg (by rw[h];simp),if_pos h2]
theorem XT{b:BY}(h:mJ b=false)(h2:FX b=false)(h3:(fF b).2=true):kindOf b=3:=by unfold kindOf;rw[if_neg (by rw[h];simp),if_neg (by rw[h2];simp),if_pos h3]
theorem Ur{b:BY}(h:mJ b=false)(h2:FX b=false)(h3:(fF b).2=false):kindOf b=0:=by unfold kindOf;rw[if_neg (by rw[h];simp),if_neg (by rw[h2];simp),if_neg (by rw[h3];simp)]
theorem MG(n:Nat)(hn:n<256):decide (0≤Lib.indexByte [40,41,123,125,91,93,44,58,61] n.toUInt8)=uP n:=by
 have:∀n,n<256->decide (0≤Lib.indexByte [40,41,123,125,91,93,44,58,61] n.toUInt8)=uP n:=by decide +kernel
 exact this n hn
theorem Kl(s:BY)(p q:Nat):(s.extract p q).size≤s.size:=by
 rw[ByteArray.size_extract];omega
theorem XU(s:BY)(a:Int)(hs:s.size≤4611686018427387904):Pure PG 88 [vs s,vi a] (.tup [tokV (PN s a).1,vi (PN s a).2.1,vi (PN s a).2.2]) []:=by
 refine aD.mk (cfg 104) av [] Tryz.func88 Z (by kernel_rfl) Z Z Z ?_
 intro C x
 refine x.cond Z tR (λh=>?_) (λh=>?_)
 ·have h:(decide (a<0)||decide ((s.size:Int)<a))=true:=h
  rw[Bool.or_eq_true,afL,afL] at h
  rw[PN,if_pos h]
  refine x.exit Z tR ?_
  exact⟨.inr Z,⟨Z,Z,Z,tR⟩,tR,Z⟩
 have h:(decide (a<0)||decide ((s.size:Int)<a))=false:=h
 rw[afU,afP,afP] at h
 rw[PN,if_neg (by omega)]
 obtain⟨a,rfl⟩:∃n:Nat,a=n:=⟨a.toNat,by omega⟩
 rw[afT]
 refine x.pure Z tR Z (Uk s a (by omega) (by omega)) ⟨Z,Z,tR⟩ ?_
 obtain⟨hp1,hp2,hp3⟩:=FR s s.size false a (by omega) (by omega)
 obtain⟨p,hp⟩:∃p,skV s false a=p:=⟨_,Z⟩
 rw[hp] at hp1 hp2 hp3 ⊢
 refine x.cond Z tR (λh2=>?_) (λh2=>?_)
 ·have h2:p=s.size:=by have h2:(p:Int)=s.size:=afH h2;omega
  rw[BH hp h2]
  refine x.exit Z tR ?_
  exact⟨.inr Z,⟨Z,by show (p:Int)=s.size;omega,Z,tR⟩,tR,Z⟩
 have h2:p≠s.size:=by have h2:¬(p:Int)=s.size:=afI h2;omega
 have hpl:p<s.size:=by omega
 have ec:sb s ((p:Int)).toNat=(bt s p:Int):=nI s p
 have hbl:=eD s p
 refine x.pure Z ?_ Z (vW ⟨#[40,41,123,125,91,93,44,58,61]⟩ (bt s p:Int)) ⟨Z,?_,tR⟩ ?_
 ·simp only[ak];omega
 ·exact ec
 rw[afT]
 refine x.cond Z tR (λh3=>?_) (λh3=>?_)
 ·have h3:uP (bt s p)=true:=(MG _ hbl).symm.trans h3
  rw[BJ hp h2 h3]
  refine x.exit Z ?_ ?_
  ·simp only[ak,aj];omega
  exact⟨.inr Z,⟨Z,Z,Z,tR⟩,tR,Z⟩
 have h3:uP (bt s p)=false:=(MG _ hbl).symm.trans h3
 refine x.pure Z ?_ Z (Mx (s.extract p s.size) (by have:=Kl s p s.size;omega)) ⟨Z,tR⟩ ?_
 ·simp only[ak];omega
 have er:=uh hp2 s.size 0 (by omega)
 rw[Nat.add_zero] at er
 obtain⟨e1,e2⟩:=vZ hpl
 have hrl:=wY s s.size p (by omega) hp2
 refine x.ite (α:=Unit) (λ_=>⟨[(0,vs s),(1,vi (p:Int)),(4,.ptr 0 0),(7,vi ((bC s p-p:Nat):Int))],[(0,.box (Z4 mX))],1⟩) Z ?_ (λh4=>?_) (λh4=>?_) (λ_=>?_)
 ·simp only[ak,aj,afF,afL]
  exact⟨by omega,λ_=>by omega,λ_=>by omega,λ_=>by omega,λ_=>by omega,λ_=>by omega⟩
 ·have h4:(((decide (sb s ((p:Int)).toNat=45)&&decide ((p:Int)+1<(s.size:Int)))&&decide (48≤sb s ((p:Int)+1).toNat))&&decide (sb s ((p:Int)+1).toNat≤57))=true:=h4
  have ep1:((p:Int)+1).toNat=p+1:=by omega
  rw[ec,ep1,nI] at h4
  simp only[afF,afL] at h4
  have e45:bt s p=45:=by omega
  have ed:qN s (p+1)=true:=by
   unfold qN
   simp only[afF,afL]
   omega
  have epe:bC s p=qy s (p+1):=by unfold bC;rw[if_pos ⟨e45,ed⟩]
  refine x.pure Z ?_ Z (Mx (s.extract (p+1) s.size) (by have:=Kl s (p+1) s.size;omega)) ⟨?_,tR⟩ ?_
  ·simp only[ak,aj];omega
  ·show s.extract ((p:Int)+1).toNat s.size=s.extract (p+1) s.size
   rw[ep1]
  have er1:=uh (s:=s) (p:=p+1) (by omega) s.size 0 (by omega)
  rw[Nat.add_zero] at er1
  refine x.back Z ?_ ⟨(),⟨Z,Z,⟨Z,Z⟩,?_,tR⟩,⟨⟨Z,Z,Z,tR⟩,tR⟩,Z⟩
  ·simp only[ak,aj];omega
  ·show 1+(qy (s.extract (p+1) s.size) 0:Int)=((bC s p-p:Nat):Int)
   omega
 ·have h4:(((decide (sb s ((p:Int)).toNat=45)&&decide ((p:Int)+1<(s.size:Int)))&&decide (48≤sb s ((p:Int)+1).toNat))&&decide (sb s ((p:Int)+1).toNat≤57))=false:=h4
  have ep1:((p:Int)+1).toNat=p+1:=by omega
  have epe:bC s p=qy s p:=by
   unfold bC
   rw[if_neg]
   rintro ⟨e45,ed⟩
   unfold qN at ed
   simp only[afF,afL] at ed
   rw[ec,ep1,nI] at h4
   rw[decide_eq_true (by omega),decide_eq_true (by omega),decide_eq_true (by omega),decide_eq_true (by omega)] at h4
   cases h4
  refine x.back Z tR ⟨(),⟨Z,Z,⟨Z,Z⟩,?_,tR⟩,⟨⟨Z,Z,Z,tR⟩,tR⟩,Z⟩
  show (qy (s.extract p s.size) 0:Int)=((bC s p-p:Nat):Int)
  omega
 obtain⟨q,hq⟩:∃q,bC s p=q:=⟨_,Z⟩
 rw[hq] at e1 e2 ⊢
 have eqq:(p:Int)+((q-p:Nat):Int)=(q:Int):=by omega
 obtain⟨b,hb⟩:∃b,s.extract p q=b:=⟨_,Z⟩
 have hbs:b.size≤s.size:=by rw[←hb];exact Kl s p q
 refine x.pure Z ?_ Z (nK b) ⟨?_,tR⟩ ?_
 ·simp only[ak,aj,eqq];omega
 ·show s.extract ((p:Int)).toNat ((p:Int)+((q-p:Nat):Int)).toNat=b
  rw[eqq,afT,afT,hb]
 have ebv:s.extract ((p:Int)).toNat ((p:Int)+((q-p:Nat):Int)).toNat=b:=by rw[eqq,afT,afT,hb]
 refine x.le (s':=⟨[(1,vi (p:Int)),(4,.ptr 0 0),(8,.ptr 1 0),(9,vs b),(87,.tup [vi (fF b).1,vb (fF b).2])],[(0,.box (Z4 mX)),(1,.box (Z4 ⟨0,p,q⟩))],2⟩) ?_ ?_
 ·exact⟨⟨Z,⟨Z,Z⟩,⟨Z,Z⟩,ebv,⟨Z,Z,tR⟩,tR⟩,⟨⟨Z,Z,Z,tR⟩,⟨Z,Z,eqq,tR⟩,tR⟩,Z⟩
 refine x.pure Z tR Z (BA b) ⟨Z,tR⟩ ?_
 have fin:∀k:Int,kindOf b=k->k≠0->iq s a=(⟨k,p,q⟩,0,0):=λk hk h0=>by
  rw[Kk hp h2 h3 (by rw[hq,hb,hk];exact h0),hq,hb,hk]
 refine x.cond Z tR (λh5=>?_) (λh5=>?_)
 ·rw[fin 2 (Uo h5) (by decide)]
  refine x.exit Z tR ?_
  exact⟨.inr Z,⟨Z,Z,Z,tR⟩,tR,Z⟩
 refine x.pure Z tR Z (Bz b (by omega)) ⟨Z,tR⟩ ?_
 refine x.cond Z tR (λh6=>?_) (λh6=>?_)
 ·rw[fin 1 (Uq h5 h6) (by decide)]
  refine x.exit Z tR ?_
  exact⟨.inr Z,⟨Z,Z,Z,tR⟩,tR,Z⟩
 refine x.cond Z tR (λh7=>?_) (λh7=>?_)
 ·rw[fin 3 (XT h5 h6 h7) (by decide)]
  refine x.exit Z tR ?_
  exact⟨.inr Z,⟨Z,Z,Z,tR⟩,tR,Z⟩
 ·rw[FY hp h2 h3 (by rw[hq,hb];exact Ur h5 h6 h7)]
  refine x.exit Z tR ?_
  exact⟨.inr Z,⟨Z,Z,Z,tR⟩,tR,Z⟩
def aeW(l:List Tok):D:=.sl 3 l.length λi=>D9 (l.getD i mX)
abbrev tv(l:List Tok):V:=.d (aeW l)
abbrev aeX(l:List Tok):Ch:=.vec 183 3 l.length λi=>D9 (l.getD i mX)
theorem Z5(l:List Tok)(t:Tok)(j:Nat)(hj:j<l.length+1):app l.length (λi=>D9 (l.getD i mX)) (λ_=>D9 t) j=D9 ((l++[t]).getD j mX):=by
 unfold app
 by_cases h:j<l.length
 ·show cK (j<l.length) (D9 (l.getD j mX)) (D9 t)=_
  rw[afE,afE,List.getElem?_append_left h]
  simp only[D9,cK,vg h]
  rw[if_pos h]
 ·show cK (j<l.length) (D9 (l.getD j mX)) (D9 t)=_
  have e:j=l.length:=by omega
  rw[afE (l:=l++[t]),List.getElem?_append_right (by omega),e,Nat.sub_self]
  simp only[D9,cK,vo (Nat.lt_irrefl _)]
  rw[if_neg (Nat.lt_irrefl _)]
  rfl
theorem PO{b:BY}(h:b.size=0):kindOf b=0:=by
 have e:b.data.toList=[]:=List.eq_nil_of_length_eq_zero (by rw[←ji];exact h)
 rw[ba_eq b,e]
 decide +kernel
theorem F5{s:BY}{p q:Nat}(h:kindOf (s.extract p q)≠0):p<q:=by
 rcases Nat.lt_or_ge p q with h1 | h1
 ·exact h1
 ·exact absurd (PO (by rw[ByteArray.size_extract];omega)) h
theorem r9{s:BY}{a:Nat}(ha:a≤s.size):((iq s a).2.2=0∧(a:Int)≤(iq s a).1.f∧(iq s a).1.f<(iq s a).1.t∧(iq s a).1.t≤s.size)∨(iq s a).2.2=4∨(iq s a).2.2=6:=by
 obtain⟨h1,h2,h3⟩:=FR s s.size false a (by omega) ha
 obtain⟨p,hp⟩:∃p,skV s false a=p:=⟨_,Z⟩
 rw[hp] at h1 h2
 by_cases e:p=s.size
 ·rw[BH hp e];exact .inr (.inl Z)
 ·cases hs:uP (bt s p) with
  | true=>
   rw[BJ hp e hs]
   exact .inl ⟨Z,by show (a:Int)≤p;omega,by show (p:Int)<p+1;omega,by show (p:Int)+1≤s.size;omega⟩
  | false=>
   by_cases hk:kindOf (s.extract p (bC s p))=0
   ·rw[FY hp e hs hk];exact .inr (.inr Z)
   ·rw[Kk hp e hs hk]
    have h4:=F5 hk
    have h5:=vZ (s:=s) (p:=p) (by omega)
    exact .inl ⟨Z,by show (a:Int)≤p;omega,by show (p:Int)<bC s p;omega,by show (bC s p:Int)≤s.size;omega⟩
def pK(s:BY):Nat->Nat->List Tok->List Tok×Int×Int
 | 0,_,_=>([],0,0)
 | n+1,a,out=>if (iq s a).2.2=4 then (out,0,0) else if (iq s a).2.2=0 then pK s n (iq s a).1.t.toNat (out++[(iq s a).1]) else ([],(iq s a).2.1,(iq s a).2.2)
def fG(s:BY):List Tok×Int×Int:=
 if 65536<s.size then ([],0,2)
 else if 0≤dA s s.size 0 then ([],dA s s.size 0,5)
 else pK s (s.size+1) 0 []
structure TI3 (s:BY) where
 n:Nat
 a:Nat
 out:List Tok
 ha:a≤s.size
 fuel:s.size+1≤a+n
 len:out.length≤a
 same:pK s n a out=pK s (s.size+1) 0 []
theorem PS(l:List Tok)(hl:l.length≤big):Pure PG 89 [tv l] (tv l) []:=by
 refine aD.mk (cfg 9) av [] Tryz.func89 Z (by kernel_rfl) Z Z Z ?_
 intro C x
 unfold big at hl
 refine x.exit Z ?_ ?_
 ·simp only[ak];omega
 ·exact⟨.inr Z,au Z,tR,Z⟩
theorem Us(s:BY)(hs:s.size≤4611686018427387904):Pure PG 42 [vs s] (.tup [tv (fG s).1,vi (fG s).2.1,vi (fG s).2.2]) []:=by
 refine aD.mk (cfg 40) av [] Tryz.func42 Z (by kernel_rfl) Z Z Z ?_
 intro C x
 refine x.cond Z tR (λh=>?_) (λh=>?_)
 ·have h:(65536:Int)<s.size:=afH h
  rw[fG,if_pos (by omega)]
  refine x.exit Z tR ?_
  exact⟨.inr Z,⟨Z,Z,Z,tR⟩,tR,Z⟩
 have h:¬(65536:Int)<s.size:=afI h
 rw[fG,if_neg (by omega)]
 refine x.pure Z tR Z (I7 s (by omega)) ⟨Z,tR⟩ ?_
 refine x.cond Z tR (λh2=>?_) (λh2=>?_)
 ·have h2:0≤dA s s.size 0:=afH h2
  rw[if_pos h2]
  refine x.exit Z tR ?_
  exact⟨.inr Z,⟨Z,Z,Z,tR⟩,tR,Z⟩
 have h2:¬0≤dA s s.size 0:=afI h2
 rw[if_neg h2]
 refine x.toLoop Z tR ?_
 refine Go.own 6 183 3 (λj=>D9 (([]:List Tok).getD j mX)) Z ?_
 refine x.loop (α:=TI3 s) (λy=>⟨[(0,vs s),(6,.own 0),(7,vi (y.a:Int))],[(0,aeX y.out)],1⟩) (λy=>y.n) ⟨s.size+1,0,[],by omega,by omega,by simp,Z⟩ Z tR ⟨⟨Z,Z,Z,tR⟩,⟨⟨Z,Z,Z,λj hj=>absurd hj (afN _)⟩,tR⟩,Z⟩ (λy=>?_)
 obtain⟨n,a,out,hal,fuel,len,same⟩:=y
 change Go C _ ⟨[(0,vs s),(6,.own 0),(7,vi (a:Int))],[(0,aeX out)],1⟩ _
 obtain⟨n,rfl⟩:∃m,n=m+1:=⟨n-1,by omega⟩
 refine x.pure Z tR Z (XU s (a:Int) hs) ⟨Z,Z,tR⟩ ?_
 rw[show PN s (a:Int)=iq s a by rw[PN,if_neg (by omega),afT]]
 have hf:=r9 hal
 rw[pK] at same
 obtain⟨⟨t,place,e⟩,hr⟩:∃r,iq s a=r:=⟨_,Z⟩
 rw[hr] at hf same ⊢
 dsimp only at hf same
 refine x.cond Z tR (λh3=>?_) (λh3=>?_)
 ·have h3:e=4:=afH h3
  rw[if_pos h3] at same
  rw[←same]
  refine Sx.Go.freeze 0 ?_
  refine x.pure Z tR Z (PS out (by unfold big;omega)) ⟨au Z,tR⟩ ?_
  refine x.exit Z tR ?_
  exact⟨.inr Z,⟨ah Z,Z,Z,tR⟩,tR,Z⟩
 have h3:e≠4:=afI h3
 rw[if_neg h3] at same
 refine x.cond Z tR (λh4=>?_) (λh4=>?_)
 ·have h4:(!decide (e=0))=true:=h4
  have h4:e≠0:=by simpa using h4
  rw[if_neg h4] at same
  rw[←same]
  refine x.exit Z tR ?_
  exact⟨.inr Z,⟨Z,Z,Z,tR⟩,tR,Z⟩
 have h4:(!decide (e=0))=false:=h4
 have h4:e=0:=by simpa using h4
 rw[if_pos h4] at same
 have hb:(a:Int)≤t.f∧t.f<t.t∧t.t≤s.size:=by
  rcases hf with h | h | h
  ·exact h.2
  ·omega
  ·omega
 refine x.back Z ?_ ⟨⟨n,t.t.toNat,out++[t],by omega,by omega,by rw[List.length_append];simp only[List.length_cons,List.length_nil];omega,same⟩,by show n<n+1;omega,⟨Z,Z,?_,tR⟩,⟨⟨Z,Z,?_,λj hj=>Z5 out t j hj⟩,tR⟩,Z⟩
 ·simp only[ak,big];omega
 ·show t.t=((t.t.toNat:Nat):Int);omega
 ·show out.length+1=(out++[t]).length;simp
theorem MH(s:BY):∀(n a:Nat) (out:List Tok),a≤s.size->out.length≤a->(pK s n a out).1.length≤s.size
 | 0,a,out,_,_=>by simp [pK]
 | n+1,a,out,ha,hl=>by
  rw[pK]
  split
  ·show out.length≤s.size;omega
  ·split
   ·rename_i h0
    have hf:=r9 ha
    have hb:(a:Int)≤(iq s a).1.f∧(iq s a).1.f<(iq s a).1.t∧(iq s a).1.t≤s.size:=by
     rcases hf with h | h | h
     ·exact h.2
     ·omega
     ·omega
    exact MH s n _ _ (by omega) (by rw[List.length_append];simp only[List.length_cons,List.length_nil];omega)
   ·simp
theorem Z6(s:BY):(fG s).1.length≤s.size:=by
 unfold fG
 split
 ·simp
 ·split
  ·simp
  ·exact MH s _ 0 [] (by omega) (by simp)
def qz(s:BY)(l:List Tok):Prop:=(∀t,t∈l->0≤t.f∧t.f<t.t∧t.t≤s.size)∧l.length≤140737488355328∧s.size≤140737488355328
abbrev pC(s:BY)(l:List Tok)(n c:Nat):Ch:=.box [vs s,tv l,vi (n:Int),vi (c:Int)]
def atV(s:BY)(l:List Tok)(n:Nat):Int:=if n<l.length then (l.getD n mX).f else (s.size:Int)
def txV(s:BY)(l:List Tok)(k:Nat):BY:=if k<l.length then s.extract (l.getD k mX).f.toNat (l.getD k mX).t.toNat else .empty
def isV(l:List Tok)(n:Nat)(k:Int):Bool:=decide (n<l.length)&&decide ((l.getD n mX).k=k)
abbrev Dm:Nat:=106
abbrev xJ(at_ e:Int):Out:=.die Dm [(.i64,at_),(.i64,e)]
theorem qz.get{s:BY}{l:List Tok}(h:qz s l){n:Nat}(hn:n<l.length):0≤(l.getD n mX).f∧(l.getD n mX).f<(l.getD n mX).t∧(l.getD n mX).t≤s.size:=by
 rw[afE,afG hn]
 exact h.1 _ (List.getElem_mem hn)
section
variable(s:BY)(l:List Tok)(n c:Nat)(hl:qz s l)(hn:n≤1000000000000000)(hc:c≤1000000)
include hn in
theorem z8:aD PG 90 1 [.ptr 0 0] [pC s l n c] (vi (atV s l n)) [pC s l n c]:=by
 refine aD.mk (dM 29 1) av [0] Tryz.func90 Z (by kernel_rfl) Z Z Z ?_
 intro C x
 refine x.quiet Z tR ay (by kernel_rfl) ?_
 refine x.bS Z tR ?_
 refine x.cond Z tR (λh=>?_) (λh=>?_)
 ·have h:(n:Int)<(l.length:Int):=afH h
  rw[atV,if_pos (by omega)]
  refine x.quiet Z tR ay (by kernel_rfl) ?_
  refine x.bS Z ?_ ?_
  ·show 0≤(n:Int)∧(n:Int)<(l.length:Int)
   omega
  refine x.exit Z tR ?_
  exact⟨.inr Z,Z,⟨⟨Z,ah Z,Z,Z,tR⟩,tR⟩,Z⟩
 ·have h:¬(n:Int)<(l.length:Int):=afI h
  rw[atV,if_neg (by omega)]
  refine x.exit Z tR ?_
  exact⟨.inr Z,Z,⟨⟨Z,ah Z,Z,Z,tR⟩,tR⟩,Z⟩
include hn in
theorem lF(e:Int):Hz PG 48 [.ptr 0 0,vi e] [pC s l n c] Dm [(.i64,atV s l n),(.i64,e)]:=by
 refine aX.mk (out:=xJ (atV s l n) e) (dM 9 1) av [0] Tryz.func48 Z (by kernel_rfl) Z Z Z ?_
 intro C x
 refine x.call [0] Z tR Z (z8 s l n c hn) Z ⟨⟨Z,Z⟩,tR⟩ ⟨⟨Z,ah Z,Z,Z,tR⟩,tR⟩ ?_
 exact x.raise Z tR Z Z Z ⟨Z,Z⟩
include hn in
theorem oL(a b:Int):aX PG 45 1 [.ptr 0 0,vi a,vi b] [pC s l n c] (if b≤a then xJ (atV s l n) 3 else .ret (.tup []) [pC s l n c]):=by
 refine aX.mk (dM 11 1) av [0] Tryz.func45 Z (by kernel_rfl) Z Z (by split<;>rfl) ?_
 intro C x
 refine x.cond Z tR (λh=>?_) (λh=>?_)
 ·have h:b≤a:=afH h
  rw[if_pos h]
  exact x.die [0] Z tR Z (lF s l n c hn 3) ⟨⟨Z,Z⟩,Z,tR⟩ Z ⟨⟨Z,ah Z,Z,Z,tR⟩,tR⟩ ⟨Z,Z⟩
 ·have h:¬b≤a:=afI h
  rw[if_neg h]
  refine x.exit Z tR ?_
  exact⟨.inl Z,tR,⟨⟨Z,ah Z,Z,Z,tR⟩,tR⟩,Z⟩
include hl hn in
theorem dG(k:Nat)(hk:k≤1):aD PG 44 1 [.ptr 0 0,vi (k:Int)] [pC s l n c] (vs (txV s l (n+k))) [pC s l n c]:=by
 refine aD.mk (dM 40 1) av [0] Tryz.func44 Z (by kernel_rfl) Z Z Z ?_
 intro C x
 refine x.cond Z ?_ (λh=>?_) (λh=>?_)
 ·simp only[ak,aj];omega
 ·have h:(n:Int)+k<(l.length:Int):=afH h
  have h':n+k<l.length:=by omega
  have ht:=hl.get h'
  have hi:((n:Int)+k).toNat=n+k:=by omega
  rw[txV,if_pos h']
  have hsz:s.size≤140737488355328:=hl.2.2
  refine x.quiet Z tR ay (by kernel_rfl) ?_
  refine x.bS Z ?_ ?_
  ·simp only[ak,hi]
   omega
  refine x.exit Z tR ?_
  refine⟨.inr Z,?_,⟨⟨Z,ah Z,Z,Z,tR⟩,tR⟩,Z⟩
  rw[←hi];rfl
 ·have h:¬(n:Int)+k<(l.length:Int):=afI h
  rw[txV,if_neg (by omega)]
  refine x.exit Z tR ?_
  exact⟨.inr Z,Z,⟨⟨Z,ah Z,Z,Z,tR⟩,tR⟩,Z⟩
theorem gN(k:Int):aD PG 92 1 [.ptr 0 0,.d (.int .u8 k)] [pC s l n c] (vb (isV l n k)) [pC s l n c]:=by
 refine aD.mk (dM 30 1) av [0] Tryz.func92 Z (by kernel_rfl) Z Z Z ?_
 intro C x
 refine x.quiet Z tR ay (by kernel_rfl) ?_
 refine x.bS Z ?_ ?_
 ·simp only[ak,afL]
  omega
 refine x.exit Z tR ?_
 refine⟨.inr Z,?_,⟨⟨Z,ah Z,Z,Z,tR⟩,tR⟩,Z⟩
 show aB (vb (decide ((n:Int)<(l.length:Int))&&decide ((l.getD ((n:Int).toNat) mX).k=k))) (vb (isV l n k))
 rw[isV,afT,show decide ((n:Int)<(l.length:Int))=decide (n<l.length) by simp]
 rfl
include hl hn in
theorem Jb(k:Int):aX PG 149 1 [.ptr 0 0,.d (.int .u8 k)] [pC s l n c] (if isV l n k=true then .ret (vs (txV s l n)) [pC s l (n+1) c] else xJ (atV s l n) 7):=by
 refine aX.mk (dM 22 1) av [0] Tryz.func149 Z (by kernel_rfl) Z Z (by split<;>rfl) ?_
 intro C x
 refine x.call [0] Z tR Z (gN s l n c k) Z ⟨⟨Z,Z⟩,Z,tR⟩ ⟨⟨Z,ah Z,Z,Z,tR⟩,tR⟩ ?_
 refine x.cond Z tR (λh=>?_) (λh=>?_)
 ·have h:isV l n k=false:=by simpa using h
  rw[h,if_neg (by simp)]
  exact x.die [0] Z tR Z (lF s l n c hn 7) ⟨⟨Z,Z⟩,Z,tR⟩ Z ⟨⟨Z,ah Z,Z,Z,tR⟩,tR⟩ ⟨Z,Z⟩
 ·have h:isV l n k=true:=by simpa using h
  rw[h,if_pos rfl]
  refine x.call [0] Z tR Z (dG s l n c hl hn 0 (by omega)) Z ⟨⟨Z,Z⟩,Z,tR⟩ ⟨⟨Z,ah Z,Z,Z,tR⟩,tR⟩ ?_
  refine x.exit Z ?_ ?_
  ·simp only[ak,aj];omega
  ·exact⟨.inr Z,Z,⟨⟨Z,ah Z,by show aB (vi ((n:Int)+1)) (vi ((n+1:Nat):Int));rw[afQ];rfl,Z,tR⟩,tR⟩,Z⟩
include hl hn in
theorem jk(t:BY):aX PG 95 1 [.ptr 0 0,vs t] [pC s l n c] (if (txV s l n).data.toList=t.data.toList then .ret (.tup []) [pC s l (n+1) c] else xJ (atV s l n) 7):=by
 refine aX.mk (dM 17 1) av [0] Tryz.func95 Z (by kernel_rfl) Z Z (by split<;>rfl) ?_
 intro C x
 refine x.call [0] Z tR Z (dG s l n c hl hn 0 (by omega)) Z ⟨⟨Z,Z⟩,Z,tR⟩ ⟨⟨Z,ah Z,Z,Z,tR⟩,tR⟩ ?_
 refine x.cond Z tR (λh=>?_) (λh=>?_)
 ·have h:(!decide ((txV s l n).data.toList=t.data.toList))=true:=h
  rw[if_neg (by simpa using h)]
  exact x.die [0] Z tR Z (lF s l n c hn 7) ⟨⟨Z,Z⟩,Z,tR⟩ Z ⟨⟨Z,ah Z,Z,Z,tR⟩,tR⟩ ⟨Z,Z⟩
 ·have h:(!decide ((txV s l n).data.toList=t.data.toList))=false:=h
  rw[if_pos (by simpa using h)]
  refine x.exit Z ?_ ?_
  ·simp only[ak,aj];omega
  ·exact⟨.inl Z,tR,⟨⟨Z,ah Z,by show aB (vi ((n:Int)+1)) (vi ((n+1:Nat):Int));rw[afQ];rfl,Z,tR⟩,tR⟩,Z⟩
include hl hn in
theorem aY:aX PG 91 1 [.ptr 0 0] [pC s l n c] (if isV l n 1=true then .ret (vs (txV s l n)) [pC s l (n+1) c] else xJ (atV s l n) 7):=by
 refine aX.mk (dM 5 1) av [0] Tryz.func91 Z (by kernel_rfl) Z Z (by split<;>rfl) ?_
 intro C x
 have ht:=Jb s l n c hl hn 1
 cases h:isV l n 1 with
 | false=>
  rw[h,if_neg (by simp)] at ht
  rw[if_neg (by simp)]
  exact x.die [0] Z tR Z ht ⟨⟨Z,Z⟩,Z,tR⟩ Z ⟨⟨Z,ah Z,Z,Z,tR⟩,tR⟩ ⟨Z,Z⟩
 | true=>
  rw[h,if_pos rfl] at ht
  rw[if_pos rfl]
  refine x.call [0] Z tR Z ht Z ⟨⟨Z,Z⟩,Z,tR⟩ ⟨⟨Z,ah Z,Z,Z,tR⟩,tR⟩ ?_
  refine x.exit Z tR ?_
  exact⟨.inr Z,Z,⟨⟨Z,ah Z,Z,Z,tR⟩,tR⟩,Z⟩
def H7(s:BY)(l:List Tok)(n:Nat):Bool:=isV l n 1&&decide ((txV s l (n+1)).data.toList=[58])
include hl hn in
theorem Dn:aD PG 97 1 [.ptr 0 0] [pC s l n c] (vb (H7 s l n)) [pC s l n c]:=by
 refine aD.mk (dM 10 1) av [0] Tryz.func97 Z (by kernel_rfl) Z Z Z ?_
 intro C x
 refine x.call [0] Z tR Z (gN s l n c 1) Z ⟨⟨Z,Z⟩,Z,tR⟩ ⟨⟨Z,ah Z,Z,Z,tR⟩,tR⟩ ?_
 refine x.oU [0] Z tR Z (λ_=>dG s l n c hl hn 1 (by omega)) Z ⟨⟨Z,Z⟩,Z,tR⟩ ⟨⟨Z,ah Z,Z,Z,tR⟩,tR⟩ ⟨⟨Z,ah Z,Z,Z,tR⟩,tR⟩ ?_
 refine x.exit Z tR ?_
 exact⟨.inr Z,Z,⟨⟨Z,ah Z,Z,Z,tR⟩,tR⟩,Z⟩
include hl hn in
theorem Aa:aX PG 93 1 [.ptr 0 0] [pC s l n c] (if isV l n 3=true then .ret (vi (fF (txV s l n)).1) [pC s l (n+1) c] else xJ (atV s l n) 7):=by
 refine aX.mk (dM 12 1) av [0] Tryz.func93 Z (by kernel_rfl) Z Z (by split<;>rfl) ?_
 intro C x
 have ht:=Jb s l n c hl hn 3
 cases h:isV l n 3 with
 | false=>
  rw[h,if_neg (by simp)] at ht
  rw[if_neg (by simp)]
  exact x.die [0] Z tR Z ht ⟨⟨Z,Z⟩,Z,tR⟩ Z ⟨⟨Z,ah Z,Z,Z,tR⟩,tR⟩ ⟨Z,Z⟩
 | true=>
  rw[h,if_pos rfl] at ht
  rw[if_pos rfl]
  refine x.call [0] Z tR Z ht Z ⟨⟨Z,Z⟩,Z,tR⟩ ⟨⟨Z,ah Z,Z,Z,tR⟩,tR⟩ ?_
  refine x.pure Z tR Z (nK (txV s l n)) ⟨Z,tR⟩ ?_
  refine x.exit Z tR ?_
  exact⟨.inr Z,Z,⟨⟨Z,ah Z,Z,Z,tR⟩,tR⟩,Z⟩
end
abbrev iw(o:List BY):Ch:=.vec 9 1 o.length λi=>[.str (o.getD i .empty)]
theorem jr(o:List BY)(t:BY)(j:Nat)(hj:j<o.length+1):app o.length (λi=>[D.str (o.getD i .empty)]) (λ_=>[D.str t]) j=[D.str ((o++[t]).getD j .empty)]:=by
 unfold app
 by_cases h:j<o.length
 ·show cK (j<o.length) [D.str (o.getD j .empty)] [D.str t]=_
  rw[afE,afE,List.getElem?_append_left h]
  simp only[cK,vg h]
  rw[if_pos h]
 ·show cK (j<o.length) [D.str (o.getD j .empty)] [D.str t]=_
  have e:j=o.length:=by omega
  rw[afE (l:=o++[t]),List.getElem?_append_right (by omega),e,Nat.sub_self]
  simp only[cK,vo (Nat.lt_irrefl _)]
  rw[if_neg (Nat.lt_irrefl _)]
  rfl
section
variable(s:BY)(l:List Tok)(n c:Nat)(hl:qz s l)(hn:n≤1000000000000000)(hc:c≤1000000)
include hl hn in
theorem MI(o:List BY)(ho:o.length≤1000):aX PG 151 3 [.ptr 1 0,.ptr 2 0] [pC s l n c,.box [.own 3],.box [.ptr 0 0],iw o] (if isV l n 1=true then .ret (.tup []) [pC s l (n+1) c,.box [.own 3],.box [.ptr 0 0],iw (o++[txV s l n])] else xJ (atV s l n) 7):=by
 refine aX.mk (dM 7 3) av [0,1,2,3] Tryz.func151 Z (by kernel_rfl) Z Z (by split<;>rfl) ?_
 intro C x
 have ht:=aY s l n c hl hn
 cases h:isV l n 1 with
 | false=>
  rw[h,if_neg (by simp)] at ht
  rw[if_neg (by simp)]
  refine x.draw [0] [] [0,1] [2,3] [4,5] Z tR ay (by kernel_rfl) gD.quiet Z tR (λC1 x1=>?_)
  exact x1.die [0] Z tR Z ht ⟨⟨Z,Z⟩,tR⟩ Z ⟨⟨Z,ah Z,Z,Z,tR⟩,tR⟩ ⟨⟨_,Z⟩,Z,Z,Z⟩
 | true=>
  rw[h,if_pos rfl] at ht
  rw[if_pos rfl]
  refine x.draw [0] [] [0,1] [2,3] [4,5] Z tR ay (by kernel_rfl) gD.quiet Z tR (λC1 x1=>?_)
  refine x1.call [0] Z tR Z ht Z ⟨⟨Z,Z⟩,tR⟩ ⟨⟨Z,ah Z,Z,Z,tR⟩,tR⟩ ?_
  refine x1.back Z tR ?_
  refine x1.back Z tR ?_
  refine x.exit Z ?_ ?_
  ·simp only[ak,big];omega
  ·refine⟨.inl Z,tR,⟨⟨Z,ah Z,Z,Z,tR⟩,⟨Z,tR⟩,⟨⟨Z,Z⟩,tR⟩,⟨Z,Z,?_,λj hj=>jr o _ j hj⟩,tR⟩,Z⟩
   show o.length+1=(o++[txV s l n]).length
   simp
end
def lY(s:BY)(l:List Tok):Nat->Nat->Nat->List BY->Except (Int×Int) (Nat×List BY)
 | 0,_,_,_=>.error (0,0)
 | f+1,n,k,out=>
  if isV l n 1=true then
   if 6≤k then .error (atV s l n,3)
   else if (txV s l (n+1)).data.toList=[44] then lY s l f (n+2) (k+1) (out++[txV s l n])
   else .ok (n+1,out++[txV s l n])
  else .error (atV s l n,7)
def acs(s:BY)(l:List Tok)(c:Nat):Except (Int×Int) (Nat×List BY)->Out
 | .ok (n,o)=>.ret (.tup []) [pC s l n c,.box [.own 3],.box [.ptr 0 0],iw o]
 | .error (a,e)=>xJ a e
structure LW (s:BY) (l:List Tok) (R:Except (Int×Int) (Nat×List BY)) where
 f:Nat
 n:Nat
 k:Nat
 out:List BY
 hf:l.length+2≤f+n
 hn:n≤l.length+1
 hk:k≤6
 ho:out.length=k
 same:lY s l f n k out=R
theorem dB{l:List Tok}{n:Nat}{k:Int}(h:isV l n k=true):n<l.length:=by
 unfold isV at h
 simp only[afF,afL] at h
 exact h.1
section
variable(s:BY)(l:List Tok)(n c:Nat)(hl:qz s l)(hn:n≤l.length)
include hl hn in
theorem PU:aX PG 150 3 [.ptr 0 0,vi 6,.fn 151 [.ptr 1 0,.ptr 2 0]] [pC s l n c,.box [.own 3],.box [.ptr 0 0],iw []] (acs s l c (lY s l (l.length+2) n 0 [])):=by
 obtain⟨R,hR⟩:∃R,lY s l (l.length+2) n 0 []=R:=⟨_,Z⟩
 rw[hR]
 have hll:=hl.2.1
 refine aX.mk (dM 27 3) av [0,1,2,3] Tryz.func150 rfl (by kernel_rfl) rfl rfl (by rcases R with⟨a,e⟩ | ⟨n,o⟩<;>rfl) ?_
 intro C x
 refine x.loop (α:=LW s l R) (λy=>⟨[(0,.ptr 0 0),(1,vi 6),(2,.fn 151 [.ptr 1 0,.ptr 2 0]),(6,vi (y.k:Int))],[(0,pC s l y.n c),(1,.box [.own 3]),(2,.box [.ptr 0 0]),(3,iw y.out)],4⟩) (λy=>y.f) ⟨l.length+2,n,0,[],by omega,by omega,by omega,Z,hR⟩ Z tR ⟨⟨⟨Z,Z⟩,Z,Z,Z,tR⟩,⟨⟨Z,ah Z,Z,Z,tR⟩,⟨Z,tR⟩,⟨⟨Z,Z⟩,tR⟩,⟨Z,Z,Z,λj hj=>absurd hj (afN _)⟩,tR⟩,Z⟩ (λy=>?_)
 obtain⟨f,n,k,out,hf,hn,hk,ho,same⟩:=y
 have hn2:n≤1000000000000000:=by omega
 change Go C _ ⟨[(0,.ptr 0 0),(1,vi 6),(2,.fn 151 [.ptr 1 0,.ptr 2 0]),(6,vi (k:Int))],[(0,pC s l n c),(1,.box [.own 3]),(2,.box [.ptr 0 0]),(3,iw out)],4⟩ _
 refine x.call [0] Z tR Z (gN s l n c 1) Z ⟨⟨Z,Z⟩,Z,tR⟩ ⟨⟨Z,ah Z,Z,Z,tR⟩,tR⟩ ?_
 have h1:=MI s l n c hl hn2 out (by omega)
 cases f with
 | zero=>omega
 | succ f=>
 rw[lY] at same
 refine x.cond Z tR (λh=>?_) (λh=>?_)
 ·have h:isV l n 1=true:=h
  have hlt:=dB h
  rw[if_pos h] at same h1
  have h2:=oL s l n c hn2 (k:Int) 6
  by_cases h3:6≤k
  ·rw[if_pos h3] at same
   rw[if_pos (by omega)] at h2
   exact x.die [0] Z tR Z h2 ⟨⟨Z,Z⟩,Z,Z,tR⟩ Z ⟨⟨Z,ah Z,Z,Z,tR⟩,tR⟩ (by rw[←same];exact⟨Z,Z⟩)
  ·rw[if_neg h3] at same
   rw[if_neg (by omega)] at h2
   refine x.call [0] Z tR Z h2 Z ⟨⟨Z,Z⟩,Z,Z,tR⟩ ⟨⟨Z,ah Z,Z,Z,tR⟩,tR⟩ ?_
   refine x.call [0,1,2,3] Z tR Z h1 Z ⟨⟨Z,Z⟩,⟨Z,Z⟩,tR⟩ ⟨⟨Z,ah Z,Z,Z,tR⟩,⟨Z,tR⟩,⟨⟨Z,Z⟩,tR⟩,⟨Z,Z,Z,λ_ _=>rfl⟩,tR⟩ ?_
   refine x.call [0] Z tR Z (dG s l (n+1) c hl (by omega) 0 (by omega)) Z ⟨⟨Z,Z⟩,Z,tR⟩ ⟨⟨Z,ah Z,Z,Z,tR⟩,tR⟩ ?_
   refine x.cond Z tR (λh4=>?_) (λh4=>?_)
   ·have h4:(!decide ((txV s l (n+1)).data.toList=[44]))=true:=h4
    rw[if_neg (by simpa using h4)] at same
    refine x.exit Z tR ?_
    rw[←same]
    exact⟨.inr Z,tR,⟨⟨Z,ah Z,Z,Z,tR⟩,⟨Z,tR⟩,⟨⟨Z,Z⟩,tR⟩,⟨Z,Z,Z,λ_ _=>rfl⟩,tR⟩,Z⟩
   ·have h4:(!decide ((txV s l (n+1)).data.toList=[44]))=false:=h4
    rw[if_pos (by simpa using h4)] at same
    refine x.back Z ?_ ⟨⟨f,n+2,k+1,out++[txV s l n],by omega,by omega,by omega,by rw[List.length_append,ho];rfl,same⟩,by show f<f+1;omega,⟨⟨Z,Z⟩,Z,Z,?_,tR⟩,⟨⟨Z,ah Z,?_,Z,tR⟩,⟨Z,tR⟩,⟨⟨Z,Z⟩,tR⟩,⟨Z,Z,Z,λ_ _=>rfl⟩,tR⟩,Z⟩
    ·simp only[ak,aj];omega
    ·show aB (vi ((k:Int)+1)) (vi ((k+1:Nat):Int));rw[afQ];rfl
    ·show aB (vi (((n+1:Nat):Int)+1)) (vi ((n+2:Nat):Int));rw[show (n+2:Nat)=(n+1)+1 by omega,afQ (n+1) 1];rfl
 ·have h:isV l n 1=false:=h
  rw[h,if_neg (by simp)] at same h1
  exact x.die [0,1,2,3] Z tR Z h1 ⟨⟨Z,Z⟩,⟨Z,Z⟩,tR⟩ Z ⟨⟨Z,ah Z,Z,Z,tR⟩,⟨Z,tR⟩,⟨⟨Z,Z⟩,tR⟩,⟨Z,Z,Z,λ_ _=>rfl⟩,tR⟩ (by rw[←same];exact⟨Z,Z⟩)
end
theorem BK{s:BY}{l:List Tok}:∀{f n k:Nat} {out:List BY} {n':Nat} {o:List BY},lY s l f n k out=.ok (n',o)->n'≤l.length∧n<n'∧(out.length=k->k≤6->o.length≤6)
 | 0,n,k,out,n',o,h=>by simp [lY] at h
 | f+1,n,k,out,n',o,h=>by
  rw[lY] at h
  split at h
  ·rename_i h1
   have h1:=dB h1
   split at h
   ·cases h
   ·split at h
    ·obtain⟨e1,e2,e3⟩:=BK h
     exact⟨e1,by omega,λh2 h3=>e3 (by rw[List.length_append,h2];rfl) (by omega)⟩
    ·simp only[Except.ok.injEq,afO] at h
     obtain⟨rfl,rfl⟩:=h
     exact⟨by omega,by omega,λh2 h3=>by rw[List.length_append,h2];show k+1≤6;omega⟩
  ·cases h
theorem jI{s:BY}{l:List Tok}{n:Nat}{b:UInt8}{r:List UInt8}(h:(txV s l n).data.toList=b::r):n<l.length:=by
 unfold txV at h
 split at h
 ·assumption
 ·cases h
def kW{α:Type}(s:BY)(l:List Tok)(b:UInt8):Except (Int×Int) (Nat×α)->Except (Int×Int) (Nat×α)
 | .error e=>.error e
 | .ok (n,o)=>if (txV s l n).data.toList=[b] then .ok (n+1,o) else .error (atV s l n,7)
def iX(s:BY)(l:List Tok)(n:Nat):Except (Int×Int) (Nat×List BY):=
 if (txV s l n).data.toList=[40] then
  if (txV s l (n+1)).data.toList=[41] then .ok (n+2,[])
  else kW s l 41 (lY s l (l.length+2) (n+1) 0 [])
 else .error (atV s l n,7)
def Z7(s:BY)(l:List Tok)(c:Nat):Except (Int×Int) (Nat×List BY)->Out
 | .ok (n,o)=>.ret (.own 1) [pC s l n c,iw o]
 | .error (a,e)=>xJ a e
section
variable(s:BY)(l:List Tok)(n c:Nat)(hl:qz s l)(hn:n≤l.length)
include hl hn in
theorem Dp:aX PG 94 1 [.ptr 0 0] [pC s l n c] (Z7 s l c (iX s l n)):=by
 have hll:=hl.2.1
 refine aX.mk (dM 15 1) av [0,3] Tryz.func94 rfl (by kernel_rfl) rfl rfl (by rcases iX s l n with⟨a,e⟩ | ⟨n,o⟩<;>rfl) ?_
 intro C x
 refine x.op Z tR ?_
 refine Go.ownB 2 0 9 1 (λj=>[D.str (([]:List BY).getD j .empty)]) Z Z ?_
 have h1:=jk s l n c hl (by omega) ⟨#[40]⟩
 by_cases hp:(txV s l n).data.toList=[40]
 ·rw[if_pos hp] at h1
  have hlt:=jI hp
  refine x.call [0] Z tR Z h1 Z ⟨⟨Z,Z⟩,Z,tR⟩ ⟨⟨Z,ah Z,Z,Z,tR⟩,tR⟩ ?_
  refine x.call [0] Z tR Z (dG s l (n+1) c hl (by omega) 0 (by omega)) Z ⟨⟨Z,Z⟩,Z,tR⟩ ⟨⟨Z,ah Z,Z,Z,tR⟩,tR⟩ ?_
  refine x.cond Z tR (λh2=>?_) (λh2=>?_)
  ·have h2:(!decide ((txV s l (n+1)).data.toList=[41]))=true:=h2
   have h3:¬(txV s l (n+1)).data.toList=[41]:=by simpa using h2
   have hls:=PU s l (n+1) c hl (by omega)
   obtain⟨R,hR⟩:∃R,lY s l (l.length+2) (n+1) 0 []=R:=⟨_,Z⟩
   have hV:iX s l n=kW s l 41 R:=by
    rw[iX,if_pos hp,if_neg h3,hR]
   rw[hR] at hls
   rcases R with⟨a,e⟩ | ⟨n',o⟩
   ·refine x.die [0,2,1,3] Z tR Z hls ⟨⟨Z,Z⟩,Z,Z,tR⟩ Z ⟨⟨Z,ah Z,Z,Z,tR⟩,⟨Z,tR⟩,⟨⟨Z,Z⟩,tR⟩,⟨Z,Z,Z,λ_ _=>rfl⟩,tR⟩ ?_
    rw[hV]
    exact⟨Z,Z⟩
   ·obtain⟨e1,e2,e3⟩:=BK hR
    refine x.call [0,2,1,3] Z tR Z hls Z ⟨⟨Z,Z⟩,Z,Z,tR⟩ ⟨⟨Z,ah Z,Z,Z,tR⟩,⟨Z,tR⟩,⟨⟨Z,Z⟩,tR⟩,⟨Z,Z,Z,λ_ _=>rfl⟩,tR⟩ ?_
    have h4:=jk s l n' c hl (by omega) ⟨#[41]⟩
    by_cases h5:(txV s l n').data.toList=[41]
    ·rw[if_pos h5] at h4
     refine x.call [0] Z tR Z h4 Z ⟨⟨Z,Z⟩,Z,tR⟩ ⟨⟨Z,ah Z,Z,Z,tR⟩,tR⟩ ?_
     refine x.exit Z tR ?_
     rw[hV,kW,if_pos h5]
     exact⟨.inr Z,Z,⟨⟨Z,ah Z,Z,Z,tR⟩,⟨Z,Z,Z,λ_ _=>rfl⟩,tR⟩,Z⟩
    ·rw[if_neg h5] at h4
     refine x.die [0] Z tR Z h4 ⟨⟨Z,Z⟩,Z,tR⟩ Z ⟨⟨Z,ah Z,Z,Z,tR⟩,tR⟩ ?_
     rw[hV,kW,if_neg h5]
     exact⟨Z,Z⟩
  ·have h2:(!decide ((txV s l (n+1)).data.toList=[41]))=false:=h2
   have h3:(txV s l (n+1)).data.toList=[41]:=by simpa using h2
   have h4:=jk s l (n+1) c hl (by omega) ⟨#[41]⟩
   rw[if_pos h3] at h4
   refine x.call [0] Z tR Z h4 Z ⟨⟨Z,Z⟩,Z,tR⟩ ⟨⟨Z,ah Z,Z,Z,tR⟩,tR⟩ ?_
   refine x.exit Z tR ?_
   rw[iX,if_pos hp,if_pos h3]
   exact⟨.inr Z,Z,⟨⟨Z,ah Z,Z,Z,tR⟩,⟨Z,Z,Z,λ_ _=>rfl⟩,tR⟩,Z⟩
 ·rw[if_neg hp] at h1
  refine x.die [0] Z tR Z h1 ⟨⟨Z,Z⟩,Z,tR⟩ Z ⟨⟨Z,ah Z,Z,Z,tR⟩,tR⟩ ?_
  rw[iX,if_neg hp]
  exact⟨Z,Z⟩
end
structure Ins where
 kind:Int
 op:Int
 dst:BY
 ref:BY
 alt:BY
 args:List BY
 frm:List BY
 num:Int
 at_:Int
abbrev iC(x:Ins):Ch:=.box [.d (.int .u8 x.kind),.d (.int .u8 x.op),vs x.dst,vs x.ref,vs x.alt,.own 2,.own 3,vi x.num,vi x.at_]
abbrev HX(s:BY)(l:List Tok)(n c:Nat)(x:Ins):List Ch:=[pC s l n c,iC x,iw x.args,iw x.frm]
def Ea(s:BY)(l:List Tok)(c:Nat):Except (Int×Int) (Nat×Ins)->Out
 | .ok (n,x)=>.ret (.tup []) (HX s l n c x)
 | .error (a,e)=>xJ a e
theorem okI{s:BY}{l:List Tok}{n c:Nat}{x:Ins}{m:Nat}(hm:2≤m)(r:Except (Int×Int) (Nat×Ins)):Rv (dM m 2) [.ptr 0 0,.ptr 1 0] (HX s l n c x) (Ea s l c r)=true:=by
 have h:Nat.ble 2 m=true:=by simpa using hm
 rcases r with⟨a,e⟩ | ⟨n',x'⟩
 ·show (Nat.ble 2 m&&_&&_)=true
  rw[h];rfl
 ·show (Nat.ble 2 m&&_&&_&&_&&_)=true
  rw[h];rfl
def nmV(s:BY)(l:List Tok)(n:Nat):Except (Int×Int) (Nat×BY):=if isV l n 1=true then .ok (n+1,txV s l n) else .error (atV s l n,7)
def bnd{α β:Type}(r:Except (Int×Int) (Nat×α))(k:Nat->α->Except (Int×Int) (Nat×β)):Except (Int×Int) (Nat×β):=
 match r with
 | .error e=>.error e
 | .ok (n,a)=>k n a
theorem len1(o:List BY)(t:BY):o.length+1=(o++[t]).length:=by simp
def lZ(s:BY)(l:List Tok)(n:Nat)(x:Ins):Except (Int×Int) (Nat×Ins):=bnd (nmV s l n) λn a=>.ok (n,{x with args:=x.args++[a]})
def wh(s:BY)(l:List Tok)(n:Nat)(x:Ins):Except (Int×Int) (Nat×Ins):=
 bnd (nmV s l n) λn r=>let x:Ins:={{x with kind:=6} with ref:=r};bnd (lZ s l n x) λn x=>bnd (lZ s l n x) λn x=>.ok (n,x)
def xY(s:BY)(l:List Tok)(n:Nat)(x:Ins):Except (Int×Int) (Nat×Ins):=
 bnd (nmV s l n) λn r=>let x:Ins:={{x with kind:=9} with ref:=r};bnd (lZ s l n x) λn x=>.ok (n,x)
def Ab(s:BY)(l:List Tok)(n:Nat)(x:Ins):Except (Int×Int) (Nat×Ins):=
 bnd (nmV s l n) λn r=>let x:Ins:={{x with kind:=11} with ref:=r};.ok (n,x)
def wm(s:BY)(l:List Tok)(n:Nat)(x:Ins):Except (Int×Int) (Nat×Ins):=
 bnd (lZ s l n {x with kind:=12}) λn x=>bnd (nmV s l n) λn r=>let x:Ins:={x with ref:=r};bnd (nmV s l n) λn r=>let x:Ins:={x with alt:=r};.ok (n,x)
def Dq(s:BY)(l:List Tok)(n:Nat)(x:Ins):Except (Int×Int) (Nat×Ins):=
 bnd (lZ s l n {x with kind:=13}) λn x=>.ok (n,x)
section
variable(s:BY)(l:List Tok)(n c:Nat)(hl:qz s l)(hn:n≤l.length)(y:Ins)(hy:y.args.length≤1000)
include hl hn hy in
theorem Ut:aX PG 198 2 [.ptr 0 0,.ptr 1 0] (HX s l n c y) (Ea s l c (wh s l n y)):=by
 have hll:=hl.2.1
 refine aX.mk (dM 34 2) av [0,1,2,3] Tryz.func198 Z (by kernel_rfl) Z Z (okI (by omega) _) ?_
 intro C x
 have h1:=aY s l n c hl (by omega)
 cases e1:isV l n 1 with
 | false=>
  rw[e1,if_neg (by simp)] at h1
  refine x.die [0] Z tR Z h1 ⟨⟨Z,Z⟩,tR⟩ Z ⟨⟨Z,ah Z,Z,Z,tR⟩,tR⟩ ?_
  simp only[wh,lZ,nmV,bnd,e1,if_true,afS,if_false]
  exact⟨Z,Z⟩
 | true=>
  rw[e1,if_pos rfl] at h1
  have l1:=dB e1
  refine x.call [0] Z tR Z h1 Z ⟨⟨Z,Z⟩,tR⟩ ⟨⟨Z,ah Z,Z,Z,tR⟩,tR⟩ ?_
  have h2:=aY s l (n+1) c hl (by omega)
  cases e2:isV l (n+1) 1 with
  | false=>
   rw[e2,if_neg (by simp)] at h2
   refine x.draw [0] [0,1,5] [2,3,4] [6,7] [8,9,10,11] Z tR ay (by kernel_rfl) gD.quiet Z tR (λC1 x1=>?_)
   refine x1.die [0] Z tR Z h2 ⟨⟨Z,Z⟩,tR⟩ Z ⟨⟨Z,ah Z,Z,Z,tR⟩,tR⟩ ⟨⟨_,Z⟩,Z,?_⟩
   simp only[wh,lZ,nmV,bnd,e1,e2,if_true,afS,if_false]
   exact⟨Z,Z⟩
  | true=>
   rw[e2,if_pos rfl] at h2
   have l2:=dB e2
   refine x.draw [0] [0,1,5] [2,3,4] [6,7] [8,9,10,11] Z tR ay (by kernel_rfl) gD.quiet Z tR (λC1 x1=>?_)
   refine x1.call [0] Z tR Z h2 Z ⟨⟨Z,Z⟩,tR⟩ ⟨⟨Z,ah Z,Z,Z,tR⟩,tR⟩ ?_
   refine x1.back Z tR ?_
   refine x1.back Z tR ?_
   refine x.code Z (by simp only[ak,big,List.length_append,List.length_cons,List.length_nil];omega) ?_
   refine x.le (s':=⟨[(0,.ptr 0 0),(1,.ptr 1 0)],[(0,pC s l (n+1+1) c),(1,iC {y with kind:=6,ref:=txV s l n}),(2,iw (y.args++[txV s l (n+1)])),(3,iw y.frm)],4⟩) ⟨⟨⟨Z,Z⟩,⟨Z,Z⟩,tR⟩,⟨⟨Z,ah Z,Z,Z,tR⟩,⟨Z,Z,Z,Z,Z,Z,Z,Z,Z,tR⟩,⟨Z,Z,len1 _ _,λj hj=>jr _ _ j hj⟩,⟨Z,Z,Z,λ_ _=>rfl⟩,tR⟩,Z⟩ ?_
   have h3:=aY s l (n+1+1) c hl (by omega)
   cases e3:isV l (n+1+1) 1 with
   | false=>
    rw[e3,if_neg (by simp)] at h3
    refine x.draw [0] [0,1,5] [2,3,4] [6,7] [8,9,10,11] Z tR ay (by kernel_rfl) gD.quiet Z tR (λC1 x1=>?_)
    refine x1.die [0] Z tR Z h3 ⟨⟨Z,Z⟩,tR⟩ Z ⟨⟨Z,ah Z,Z,Z,tR⟩,tR⟩ ⟨⟨_,Z⟩,Z,?_⟩
    simp only[wh,lZ,nmV,bnd,e1,e2,e3,if_true,afS,if_false]
    exact⟨Z,Z⟩
   | true=>
    rw[e3,if_pos rfl] at h3
    have l3:=dB e3
    refine x.draw [0] [0,1,5] [2,3,4] [6,7] [8,9,10,11] Z tR ay (by kernel_rfl) gD.quiet Z tR (λC1 x1=>?_)
    refine x1.call [0] Z tR Z h3 Z ⟨⟨Z,Z⟩,tR⟩ ⟨⟨Z,ah Z,Z,Z,tR⟩,tR⟩ ?_
    refine x1.back Z tR ?_
    refine x1.back Z tR ?_
    refine x.exit Z (by simp only[ak,big,List.length_append,List.length_cons,List.length_nil];omega) ?_
    simp only[wh,lZ,nmV,bnd,e1,e2,e3,if_true,afS,if_false]
    exact⟨.inl Z,tR,⟨⟨Z,ah Z,Z,Z,tR⟩,⟨Z,Z,Z,Z,Z,Z,Z,Z,Z,tR⟩,⟨Z,Z,len1 _ _,λj hj=>jr _ _ j hj⟩,⟨Z,Z,Z,λ_ _=>rfl⟩,tR⟩,Z⟩
include hl hn hy in
theorem Uu:aX PG 199 2 [.ptr 0 0,.ptr 1 0] (HX s l n c y) (Ea s l c (xY s l n y)):=by
 have hll:=hl.2.1
 refine aX.mk (dM 23 2) av [0,1,2,3] Tryz.func199 Z (by kernel_rfl) Z Z (okI (by omega) _) ?_
 intro C x
 have h1:=aY s l n c hl (by omega)
 cases e1:isV l n 1 with
 | false=>
  rw[e1,if_neg (by simp)] at h1
  refine x.die [0] Z tR Z h1 ⟨⟨Z,Z⟩,tR⟩ Z ⟨⟨Z,ah Z,Z,Z,tR⟩,tR⟩ ?_
  simp only[xY,lZ,nmV,bnd,e1,if_true,afS,if_false]
  exact⟨Z,Z⟩
 | true=>
  rw[e1,if_pos rfl] at h1
  have l1:=dB e1
  refine x.call [0] Z tR Z h1 Z ⟨⟨Z,Z⟩,tR⟩ ⟨⟨Z,ah Z,Z,Z,tR⟩,tR⟩ ?_
  have h2:=aY s l (n+1) c hl (by omega)
  cases e2:isV l (n+1) 1 with
  | false=>
   rw[e2,if_neg (by simp)] at h2
   refine x.draw [0] [0,1,5] [2,3,4] [6,7] [8,9,10,11] Z tR ay (by kernel_rfl) gD.quiet Z tR (λC1 x1=>?_)
   refine x1.die [0] Z tR Z h2 ⟨⟨Z,Z⟩,tR⟩ Z ⟨⟨Z,ah Z,Z,Z,tR⟩,tR⟩ ⟨⟨_,Z⟩,Z,?_⟩
   simp only[xY,lZ,nmV,bnd,e1,e2,if_true,afS,if_false]
   exact⟨Z,Z⟩
  | true=>
   rw[e2,if_pos rfl] at h2
   have l2:=dB e2
   refine x.draw [0] [0,1,5] [2,3,4] [6,7] [8,9,10,11] Z tR ay (by kernel_rfl) gD.quiet Z tR (λC1 x1=>?_)
   refine x1.call [0] Z tR Z h2 Z ⟨⟨Z,Z⟩,tR⟩ ⟨⟨Z,ah Z,Z,Z,tR⟩,tR⟩ ?_
   refine x1.back Z tR ?_
   refine x1.back Z tR ?_
   refine x.exit Z (by simp only[ak,big,List.length_append,List.length_cons,List.length_nil];omega) ?_
   simp only[xY,lZ,nmV,bnd,e1,e2,if_true,afS,if_false]
   exact⟨.inl Z,tR,⟨⟨Z,ah Z,Z,Z,tR⟩,⟨Z,Z,Z,Z,Z,Z,Z,Z,Z,tR⟩,⟨Z,Z,len1 _ _,λj hj=>jr _ _ j hj⟩,⟨Z,Z,Z,λ_ _=>rfl⟩,tR⟩,Z⟩
include hl hn in
theorem Uv:aX PG 200 2 [.ptr 0 0,.ptr 1 0] (HX s l n c y) (Ea s l c (Ab s l n y)):=by
 have hll:=hl.2.1
 refine aX.mk (dM 12 2) av [0,1,2,3] Tryz.func200 Z (by kernel_rfl) Z Z (okI (by omega) _) ?_
 intro C x
 have h1:=aY s l n c hl (by omega)
 cases e1:isV l n 1 with
 | false=>
  rw[e1,if_neg (by simp)] at h1
  refine x.die [0] Z tR Z h1 ⟨⟨Z,Z⟩,tR⟩ Z ⟨⟨Z,ah Z,Z,Z,tR⟩,tR⟩ ?_
  simp only[Ab,lZ,nmV,bnd,e1,if_true,afS,if_false]
  exact⟨Z,Z⟩
 | true=>
  rw[e1,if_pos rfl] at h1
  have l1:=dB e1
  refine x.call [0] Z tR Z h1 Z ⟨⟨Z,Z⟩,tR⟩ ⟨⟨Z,ah Z,Z,Z,tR⟩,tR⟩ ?_
  refine x.exit Z tR ?_
  simp only[Ab,lZ,nmV,bnd,e1,if_true,afS,if_false]
  exact⟨.inl Z,tR,⟨⟨Z,ah Z,Z,Z,tR⟩,⟨Z,Z,Z,Z,Z,Z,Z,Z,Z,tR⟩,⟨Z,Z,Z,λ_ _=>rfl⟩,⟨Z,Z,Z,λ_ _=>rfl⟩,tR⟩,Z⟩
include hl hn hy in
theorem Uw:aX PG 201 2 [.ptr 0 0,.ptr 1 0] (HX s l n c y) (Ea s l c (wm s l n y)):=by
 have hll:=hl.2.1
 refine aX.mk (dM 28 2) av [0,1,2,3] Tryz.func201 Z (by kernel_rfl) Z Z (okI (by omega) _) ?_
 intro C x
 have h1:=aY s l n c hl (by omega)
 cases e1:isV l n 1 with
 | false=>
  rw[e1,if_neg (by simp)] at h1
  refine x.draw [0] [0,1,5] [2,3,4] [6,7] [8,9,10,11] Z tR ay (by kernel_rfl) gD.quiet Z tR (λC1 x1=>?_)
  refine x1.die [0] Z tR Z h1 ⟨⟨Z,Z⟩,tR⟩ Z ⟨⟨Z,ah Z,Z,Z,tR⟩,tR⟩ ⟨⟨_,Z⟩,Z,?_⟩
  simp only[wm,lZ,nmV,bnd,e1,if_true,afS,if_false]
  exact⟨Z,Z⟩
 | true=>
  rw[e1,if_pos rfl] at h1
  have l1:=dB e1
  refine x.draw [0] [0,1,5] [2,3,4] [6,7] [8,9,10,11] Z tR ay (by kernel_rfl) gD.quiet Z tR (λC1 x1=>?_)
  refine x1.call [0] Z tR Z h1 Z ⟨⟨Z,Z⟩,tR⟩ ⟨⟨Z,ah Z,Z,Z,tR⟩,tR⟩ ?_
  refine x1.back Z tR ?_
  refine x1.back Z tR ?_
  have h2:=aY s l (n+1) c hl (by omega)
  cases e2:isV l (n+1) 1 with
  | false=>
   rw[e2,if_neg (by simp)] at h2
   refine x.die [0] Z (by simp only[ak,big,List.length_append,List.length_cons,List.length_nil];omega) Z h2 ⟨⟨Z,Z⟩,tR⟩ Z ⟨⟨Z,ah Z,Z,Z,tR⟩,tR⟩ ?_
   simp only[wm,lZ,nmV,bnd,e1,e2,if_true,afS,if_false]
   exact⟨Z,Z⟩
  | true=>
   rw[e2,if_pos rfl] at h2
   have l2:=dB e2
   refine x.call [0] Z (by simp only[ak,big,List.length_append,List.length_cons,List.length_nil];omega) Z h2 Z ⟨⟨Z,Z⟩,tR⟩ ⟨⟨Z,ah Z,Z,Z,tR⟩,tR⟩ ?_
   have h3:=aY s l (n+1+1) c hl (by omega)
   cases e3:isV l (n+1+1) 1 with
   | false=>
    rw[e3,if_neg (by simp)] at h3
    refine x.die [0] Z tR Z h3 ⟨⟨Z,Z⟩,tR⟩ Z ⟨⟨Z,ah Z,Z,Z,tR⟩,tR⟩ ?_
    simp only[wm,lZ,nmV,bnd,e1,e2,e3,if_true,afS,if_false]
    exact⟨Z,Z⟩
   | true=>
    rw[e3,if_pos rfl] at h3
    have l3:=dB e3
    refine x.call [0] Z tR Z h3 Z ⟨⟨Z,Z⟩,tR⟩ ⟨⟨Z,ah Z,Z,Z,tR⟩,tR⟩ ?_
    refine x.exit Z tR ?_
    simp only[wm,lZ,nmV,bnd,e1,e2,e3,if_true,afS,if_false]
    exact⟨.inl Z,tR,⟨⟨Z,ah Z,Z,Z,tR⟩,⟨Z,Z,Z,Z,Z,Z,Z,Z,Z,tR⟩,⟨Z,Z,len1 _ _,λj hj=>jr _ _ j hj⟩,⟨Z,Z,Z,λ_ _=>rfl⟩,tR⟩,Z⟩
include hl hn hy in
theorem Ux:aX PG 202 2 [.ptr 0 0,.ptr 1 0] (HX s l n c y) (Ea s l c (Dq s l n y)):=by
 have hll:=hl.2.1
 refine aX.mk (dM 18 2) av [0,1,2,3] Tryz.func202 Z (by kernel_rfl) Z Z (okI (by omega) _) ?_
 intro C x
 have h1:=aY s l n c hl (by omega)
 cases e1:isV l n 1 with
 | false=>
  rw[e1,if_neg (by simp)] at h1
  refine x.draw [0] [0,1,5] [2,3,4] [6,7] [8,9,10,11] Z tR ay (by kernel_rfl) gD.quiet Z tR (λC1 x1=>?_)
  refine x1.die [0] Z tR Z h1 ⟨⟨Z,Z⟩,tR⟩ Z ⟨⟨Z,ah Z,Z,Z,tR⟩,tR⟩ ⟨⟨_,Z⟩,Z,?_⟩
  simp only[Dq,lZ,nmV,bnd,e1,if_true,afS,if_false]
  exact⟨Z,Z⟩
 | true=>
  rw[e1,if_pos rfl] at h1
  have l1:=dB e1
  refine x.draw [0] [0,1,5] [2,3,4] [6,7] [8,9,10,11] Z tR ay (by kernel_rfl) gD.quiet Z tR (λC1 x1=>?_)
  refine x1.call [0] Z tR Z h1 Z ⟨⟨Z,Z⟩,tR⟩ ⟨⟨Z,ah Z,Z,Z,tR⟩,tR⟩ ?_
  refine x1.back Z tR ?_
  refine x1.back Z tR ?_
  refine x.exit Z (by simp only[ak,big,List.length_append,List.length_cons,List.length_nil];omega) ?_
  simp only[Dq,lZ,nmV,bnd,e1,if_true,afS,if_false]
  exact⟨.inl Z,tR,⟨⟨Z,ah Z,Z,Z,tR⟩,⟨Z,Z,Z,Z,Z,Z,Z,Z,Z,tR⟩,⟨Z,Z,len1 _ _,λj hj=>jr _ _ j hj⟩,⟨Z,Z,Z,λ_ _=>rfl⟩,tR⟩,Z⟩
end
def nL(s:BY)(l:List Tok)(n:Nat)(x:Ins):Except (Int×Int) (Nat×Ins):=bnd (nmV s l n) λn a=>.ok (n,{x with args:=[a]})
def um(s:BY)(l:List Tok)(n:Nat)(x:Ins):Except (Int×Int) (Nat×Ins):=bnd (nmV s l n) λn a=>.ok (n,{x with ref:=a})
def rC(s:BY)(l:List Tok)(n:Nat)(x:Ins):Except (Int×Int) (Nat×Ins):=if isV l n 3=true then .ok (n+1,{x with kind:=1,num:=(fF (txV s l n)).1}) else .error (atV s l n,7)
def yN(s:BY)(l:List Tok)(n:Nat)(x:Ins):Except (Int×Int) (Nat×Ins):=um s l n {x with kind:=8}
def Dr(s:BY)(l:List Tok)(n:Nat)(x:Ins):Except (Int×Int) (Nat×Ins):=bnd (um s l n {x with kind:=7}) λn x=>bnd (iX s l n) λn o=>.ok (n,{x with args:=o})
def nM(s:BY)(l:List Tok)(n:Nat)(x:Ins):Except (Int×Int) (Nat×Ins):=bnd (nL s l n {x with kind:=10}) λn x=>um s l n x
def cellV(k:Int)(s:BY)(l:List Tok)(n:Nat)(x:Ins):Except (Int×Int) (Nat×Ins):=bnd (um s l n {x with kind:=k}) λn x=>nL s l n x
section
variable(s:BY)(l:List Tok)(n c:Nat)(hl:qz s l)(hn:n≤l.length)(y:Ins)
include hl hn in
theorem Uy:aX PG 209 2 [.ptr 0 0,.ptr 1 0] (HX s l n c y) (Ea s l c (rC s l n y)):=by
 have hll:=hl.2.1
 refine aX.mk (dM 12 2) av [0,1,2,3] Tryz.func209 Z (by kernel_rfl) Z Z (okI (by omega) _) ?_
 intro C x
 have h1:=Aa s l n c hl (by omega)
 cases e1:isV l n 3 with
 | false=>
  rw[e1,if_neg (by simp)] at h1
  refine x.die [0] Z tR Z h1 ⟨⟨Z,Z⟩,tR⟩ Z ⟨⟨Z,ah Z,Z,Z,tR⟩,tR⟩ ?_
  simp only[rC,um,nL,nmV,bnd,e1,if_true,afS,if_false]
  exact⟨Z,Z⟩
 | true=>
  rw[e1,if_pos rfl] at h1
  have l1:=dB e1
  refine x.call [0] Z tR Z h1 Z ⟨⟨Z,Z⟩,tR⟩ ⟨⟨Z,ah Z,Z,Z,tR⟩,tR⟩ ?_
  refine x.exit Z tR ?_
  simp only[rC,um,nL,nmV,bnd,e1,if_true,afS,if_false]
  exact⟨.inl Z,tR,⟨⟨Z,ah Z,Z,Z,tR⟩,⟨Z,Z,Z,Z,Z,Z,Z,Z,Z,tR⟩,⟨Z,Z,Z,λ_ _=>rfl⟩,⟨Z,Z,Z,λ_ _=>rfl⟩,tR⟩,Z⟩
include hl hn in
theorem Uz:aX PG 210 2 [.ptr 0 0,.ptr 1 0] (HX s l n c y) (Ea s l c (yN s l n y)):=by
 have hll:=hl.2.1
 refine aX.mk (dM 12 2) av [0,1,2,3] Tryz.func210 Z (by kernel_rfl) Z Z (okI (by omega) _) ?_
 intro C x
 have h1:=aY s l n c hl (by omega)
 cases e1:isV l n 1 with
 | false=>
  rw[e1,if_neg (by simp)] at h1
  refine x.die [0] Z tR Z h1 ⟨⟨Z,Z⟩,tR⟩ Z ⟨⟨Z,ah Z,Z,Z,tR⟩,tR⟩ ?_
  simp only[yN,um,nL,nmV,bnd,e1,if_true,afS,if_false]
  exact⟨Z,Z⟩
 | true=>
  rw[e1,if_pos rfl] at h1
  have l1:=dB e1
  refine x.call [0] Z tR Z h1 Z ⟨⟨Z,Z⟩,tR⟩ ⟨⟨Z,ah Z,Z,Z,tR⟩,tR⟩ ?_
  refine x.exit Z tR ?_
  simp only[yN,um,nL,nmV,bnd,e1,if_true,afS,if_false]
  exact⟨.inl Z,tR,⟨⟨Z,ah Z,Z,Z,tR⟩,⟨Z,Z,Z,Z,Z,Z,Z,Z,Z,tR⟩,⟨Z,Z,Z,λ_ _=>rfl⟩,⟨Z,Z,Z,λ_ _=>rfl⟩,tR⟩,Z⟩
include hl hn in
theorem UA:aX PG 211 2 [.ptr 0 0,.ptr 1 0] (HX s l n c y) (Ea s l c (Dr s l n y)):=by
 have hll:=hl.2.1
 refine aX.mk (dM 17 2) av [0,1,4,3] Tryz.func211 Z (by kernel_rfl) Z Z (okI (by omega) _) ?_
 intro C x
 have h1:=aY s l n c hl (by omega)
 cases e1:isV l n 1 with
 | false=>
  rw[e1,if_neg (by simp)] at h1
  refine x.die [0] Z tR Z h1 ⟨⟨Z,Z⟩,tR⟩ Z ⟨⟨Z,ah Z,Z,Z,tR⟩,tR⟩ ?_
  simp only[Dr,um,nL,nmV,bnd,e1,if_true,afS,if_false]
  exact⟨Z,Z⟩
 | true=>
  rw[e1,if_pos rfl] at h1
  have l1:=dB e1
  refine x.call [0] Z tR Z h1 Z ⟨⟨Z,Z⟩,tR⟩ ⟨⟨Z,ah Z,Z,Z,tR⟩,tR⟩ ?_
  have h2:=Dp s l (n+1) c hl (by omega)
  obtain⟨R,e2⟩:∃R,iX s l (n+1)=R:=⟨_,Z⟩
  rw[e2] at h2
  rcases R with⟨a,b⟩ | ⟨n',o⟩
  ·refine x.die [0] Z tR Z h2 ⟨⟨Z,Z⟩,tR⟩ Z ⟨⟨Z,ah Z,Z,Z,tR⟩,tR⟩ ?_
   simp only[Dr,um,nL,nmV,bnd,e1,e2,if_true,afS,if_false]
   exact⟨Z,Z⟩
  ·refine x.call [0] Z tR Z h2 Z ⟨⟨Z,Z⟩,tR⟩ ⟨⟨Z,ah Z,Z,Z,tR⟩,tR⟩ ?_
   refine x.exit Z tR ?_
   simp only[Dr,um,nL,nmV,bnd,e1,e2,if_true,afS,if_false]
   exact⟨.inl Z,tR,⟨⟨Z,ah Z,Z,Z,tR⟩,⟨Z,Z,Z,Z,Z,Z,Z,Z,Z,tR⟩,⟨Z,Z,Z,λ_ _=>rfl⟩,⟨Z,Z,Z,λ_ _=>rfl⟩,tR⟩,Z⟩
include hl hn in
theorem UC:aX PG 212 2 [.ptr 0 0,.ptr 1 0] (HX s l n c y) (Ea s l c (nM s l n y)):=by
 have hll:=hl.2.1
 refine aX.mk (dM 18 2) av [0,1,4,3] Tryz.func212 Z (by kernel_rfl) Z Z (okI (by omega) _) ?_
 intro C x
 have h1:=aY s l n c hl (by omega)
 cases e1:isV l n 1 with
 | false=>
  rw[e1,if_neg (by simp)] at h1
  refine x.die [0] Z tR Z h1 ⟨⟨Z,Z⟩,tR⟩ Z ⟨⟨Z,ah Z,Z,Z,tR⟩,tR⟩ ?_
  simp only[nM,um,nL,nmV,bnd,e1,if_true,afS,if_false]
  exact⟨Z,Z⟩
 | true=>
  rw[e1,if_pos rfl] at h1
  have l1:=dB e1
  refine x.call [0] Z tR Z h1 Z ⟨⟨Z,Z⟩,tR⟩ ⟨⟨Z,ah Z,Z,Z,tR⟩,tR⟩ ?_
  have h2:=aY s l (n+1) c hl (by omega)
  cases e2:isV l (n+1) 1 with
  | false=>
   rw[e2,if_neg (by simp)] at h2
   refine x.die [0] Z tR Z h2 ⟨⟨Z,Z⟩,tR⟩ Z ⟨⟨Z,ah Z,Z,Z,tR⟩,tR⟩ ?_
   simp only[nM,um,nL,nmV,bnd,e1,e2,if_true,afS,if_false]
   exact⟨Z,Z⟩
  | true=>
   rw[e2,if_pos rfl] at h2
   have l2:=dB e2
   refine x.call [0] Z tR Z h2 Z ⟨⟨Z,Z⟩,tR⟩ ⟨⟨Z,ah Z,Z,Z,tR⟩,tR⟩ ?_
   refine x.exit Z tR ?_
   simp only[nM,um,nL,nmV,bnd,e1,e2,if_true,afS,if_false]
   exact⟨.inl Z,tR,⟨⟨Z,ah Z,Z,Z,tR⟩,⟨Z,Z,Z,Z,Z,Z,Z,Z,Z,tR⟩,⟨Z,Z,Z,λj hj=>by rw[show j=0 by omega];rfl⟩,⟨Z,Z,Z,λ_ _=>rfl⟩,tR⟩,Z⟩
abbrev HK(s:BY)(l:List Tok)(n c:Nat)(x:Ins)(k:Int):List Ch:=[pC s l n c,iC x,iw x.args,iw x.frm,.box [.d (.int .u8 k)]]
def outK(s:BY)(l:List Tok)(c:Nat)(k:Int):Except (Int×Int) (Nat×Ins)->Out
 | .ok (n,x)=>.ret (.tup []) (HK s l n c x k)
 | .error (a,e)=>xJ a e
include hl hn in
theorem Jc(k:Int):aX PG 208 2 [.ptr 0 0,.ptr 1 0,.ptr 4 0] (HK s l n c y k) (outK s l c k (cellV k s l n y)):=by
 have hll:=hl.2.1
 refine aX.mk (dM 20 2) av [0,1,5,3,4] Tryz.func208 rfl (by kernel_rfl) rfl rfl (by rcases cellV k s l n y with⟨a,e⟩ | ⟨n',x'⟩<;>rfl) ?_
 intro C x
 have h1:=aY s l n c hl (by omega)
 cases e1:isV l n 1 with
 | false=>
  rw[e1,if_neg (by simp)] at h1
  refine x.die [0] Z tR Z h1 ⟨⟨Z,Z⟩,tR⟩ Z ⟨⟨Z,ah Z,Z,Z,tR⟩,tR⟩ ?_
  simp only[cellV,um,nL,nmV,bnd,e1,if_true,afS,if_false]
  exact⟨Z,Z⟩
 | true=>
  rw[e1,if_pos rfl] at h1
  have l1:=dB e1
  refine x.call [0] Z tR Z h1 Z ⟨⟨Z,Z⟩,tR⟩ ⟨⟨Z,ah Z,Z,Z,tR⟩,tR⟩ ?_
  have h2:=aY s l (n+1) c hl (by omega)
  cases e2:isV l (n+1) 1 with
  | false=>
   rw[e2,if_neg (by simp)] at h2
   refine x.die [0] Z tR Z h2 ⟨⟨Z,Z⟩,tR⟩ Z ⟨⟨Z,ah Z,Z,Z,tR⟩,tR⟩ ?_
   simp only[cellV,um,nL,nmV,bnd,e1,e2,if_true,afS,if_false]
   exact⟨Z,Z⟩
  | true=>
   rw[e2,if_pos rfl] at h2
   have l2:=dB e2
   refine x.call [0] Z tR Z h2 Z ⟨⟨Z,Z⟩,tR⟩ ⟨⟨Z,ah Z,Z,Z,tR⟩,tR⟩ ?_
   refine x.exit Z tR ?_
   simp only[cellV,um,nL,nmV,bnd,e1,e2,if_true,afS,if_false]
   exact⟨.inl Z,tR,⟨⟨Z,ah Z,Z,Z,tR⟩,⟨Z,Z,Z,Z,Z,Z,Z,Z,Z,tR⟩,⟨Z,Z,Z,λj hj=>by rw[show j=0 by omega];rfl⟩,⟨Z,Z,Z,λ_ _=>rfl⟩,⟨Z,tR⟩,tR⟩,Z⟩
end
def aeY:List (Key×V):=[(.inl [115,116,111,114,101],.fn 198 []),(.inl [111,117,116,112,117,116],.fn 199 []),(.inl [106,117,109,112],.fn 200 []),(.inl [98,114,97,110,99,104],.fn 201 []),(.inl [114,101,116,117,114,110],.fn 202 [])]
theorem UD:Pure PG 180 [] (.own 0) [.tbl aeY]:=by
 refine aD.mk (cfg 3) av [0] Tryz.func180 Z (by kernel_rfl) Z Z Z ?_
 intro C x
 refine x.exit Z ?_ ?_
 ·simp only[ak,tu]
  decide
 ·exact⟨.inr Z,Z,⟨⟨Z,Z,Z,Z,Z,Z,Z,Z,Z,Z,tR⟩,tR⟩,Z⟩
theorem F6(k:Int):Pure PG 207 [.d (.int .u8 k)] (.fn 208 [.ptr 0 0]) [.box [.d (.int .u8 k)]]:=by
 refine aD.mk (cfg 4) av [0] Tryz.func207 Z (by kernel_rfl) Z Z Z ?_
 intro C x
 refine x.exit Z tR ?_
 exact⟨.inr Z,Z,⟨⟨Z,tR⟩,tR⟩,Z⟩
def aeZ:List (Key×V):=[(.inl [99,111,110,115,116],.fn 209 []),(.inl [108,111,97,100],.fn 208 [.ptr 1 0]),(.inl [119,114,97,112],.fn 208 [.ptr 2 0]),(.inl [105,110,112,117,116],.fn 210 []),(.inl [99,97,108,108],.fn 211 []),(.inl [114,101,108,101,97,115,101],.fn 212 []),(.inl [112,104,105],.fn 213 [])]
theorem MJ:Pure PG 204 [] (.own 0) [.tbl aeZ,.box [.d (.int .u8 4)],.box [.d (.int .u8 5)]]:=by
 refine aD.mk (cfg 8) av [0,1,2] Tryz.func204 Z (by kernel_rfl) Z Z Z ?_
 intro C x
 refine x.call [] Z tR Z (F6 4) Z ⟨Z,tR⟩ tR ?_
 refine x.call [] Z ?_ Z (F6 5) Z ⟨Z,tR⟩ tR ?_
 ·simp only[ak,List.map,tu]
  decide
 refine x.exit Z ?_ ?_
 ·simp only[ak,List.map,tu]
  decide
 ·exact⟨.inr Z,Z,⟨⟨Z,Z,Z,Z,Z,Z,Z,Z,Z,Z,Z,Z,Z,Z,tR⟩,⟨Z,tR⟩,⟨Z,tR⟩,tR⟩,Z⟩
theorem MK:J9 PG.env 3 13 (λj=>.str (opAt j)):=
 ⟨_,.tail _ (.tail _ (.head _)),λj hj=>rfl⟩
def opF(b:List UInt8):Nat->Nat->Nat
 | 0,_=>0
 | k+1,i=>if 0<i∧iK.getD i []=b then i else opF b k (i+1)
def opV(s:BY):Nat:=opF s.data.toList 13 0
structure OW (s:BY) where
 i:Nat
 hi:i≤13
 same:opF s.data.toList (13-i) i=opV s
theorem op_spec(s:BY):Pure PG 203 [vs s] (.tup [.d (.int .u8 (opV s:Int)),vb (decide (opV s≠0))]) []:=by
 refine aD.mk (cfg 20) av [] Tryz.func203 Z (by kernel_rfl) Z Z Z ?_
 intro C x
 refine x.loop (α:=OW s) (λy=>⟨[(0,vs s),(5,vi (y.i:Int))],[],0⟩) (λy=>13-y.i) ⟨0,by omega,Z⟩ Z tR ⟨⟨Z,Z,tR⟩,tR,Z⟩ (λy=>?_)
 obtain⟨i,hi,same⟩:=y
 change Go C _ ⟨[(0,vs s),(5,vi (i:Int))],[],0⟩ _
 refine x.cond Z tR (λh=>?_) (λh=>?_)
 ·have h:(i:Int)<13:=afH h
  refine x.adB (λj=>.str (opAt j)) Z tR Z MK (λ_=>⟨Int.natCast_nonneg _,h⟩) ?_
  have hk:13-i=(12-i)+1:=by omega
  rw[hk,opF] at same
  have e0:(opAt i).data.toList=iK.getD i []:=rfl
  refine x.cond Z tR (λh2=>?_) (λh2=>?_)
  ·have h2:(decide ((0:Int)<(i:Int))&&decide ((opAt (i:Int).toNat).data.toList=s.data.toList))=true:=h2
   simp only[afF,afL,afT,e0] at h2
   rw[if_pos ⟨by omega,h2.2⟩] at same
   refine x.exit Z tR ?_
   rw[←same]
   refine⟨.inr Z,⟨?_,?_,tR⟩,tR,Z⟩
   ·refine ah ?_
    rw[IntKind.wrap_u8]
    congr 1
    omega
   ·show aB (vb true) (vb (decide (i≠0)))
    rw[decide_eq_true (by omega)];rfl
  ·have h2:(decide ((0:Int)<(i:Int))&&decide ((opAt (i:Int).toNat).data.toList=s.data.toList))=false:=h2
   rw[afT,e0] at h2
   rw[if_neg (λhh=>by
    rw[decide_eq_true (by omega:(0:Int)<(i:Int)),decide_eq_true hh.2] at h2
    cases h2)] at same
   refine x.back Z ?_ ⟨⟨i+1,by omega,by rw[show 13-(i+1)=12-i by omega];exact same⟩,by show 13-(i+1)<13-i;omega,⟨Z,?_,tR⟩,tR,Z⟩
   ·simp only[ak,aj];omega
   ·show aB (vi ((i:Int)+1)) (vi ((i+1:Nat):Int));rw[afQ];rfl
 ·have h:¬(i:Int)<13:=afI h
  have:i=13:=by omega
  subst this
  refine x.exit Z tR ?_
  rw[←same]
  exact⟨.inr Z,⟨Z,Z,tR⟩,tR,Z⟩
structure Arr where
 name:BY
 size:Int
 level:BY
 at_:Int
abbrev aV(x:Arr):V:=.agg [vs x.name,vi x.size,vs x.level,vi x.at_]
def xK(s:BY)(l:List Tok)(n:Nat):Except (Int×Int) (Nat×Arr):=
 bnd (nmV s l (n+1)) λn1 name=>
  if isV l n1 3=true then
   if (fF (txV s l n1)).1<1∨256<(fF (txV s l n1)).1 then .error (atV s l n1,12)
   else bnd (nmV s l (n1+1)) λn2 lv=>.ok (n2,⟨name,(fF (txV s l n1)).1,lv,atV s l n⟩)
  else .error (atV s l n1,7)
def arrO(s:BY)(l:List Tok)(c:Nat):Except (Int×Int) (Nat×Arr)->Out
 | .ok (n,x)=>.ret (aV x) [pC s l n c]
 | .error (a,e)=>xJ a e
section
variable(s:BY)(l:List Tok)(n c:Nat)(hl:qz s l)(hn:n<l.length)
include hl hn in
theorem ML:aX PG 46 1 [.ptr 0 0] [pC s l n c] (arrO s l c (xK s l n)):=by
 have hll:=hl.2.1
 refine aX.mk (dM 42 1) av [0] Tryz.func46 rfl (by kernel_rfl) rfl rfl (by rcases xK s l n with⟨a,e⟩ | ⟨n',x'⟩<;>rfl) ?_
 intro C x
 refine x.call [0] Z tR Z (z8 s l n c (by omega)) Z ⟨⟨Z,Z⟩,tR⟩ ⟨⟨Z,ah Z,Z,Z,tR⟩,tR⟩ ?_
 have ei:aB (vi ((n:Int)+1)) (vi ((n+1:Nat):Int)):=by rw[afQ];rfl
 have h1:=aY s l (n+1) c hl (by omega)
 cases e1:isV l (n+1) 1 with
 | false=>
  rw[e1,if_neg (by simp)] at h1
  refine x.die [0] Z (by simp only[ak,aj];omega) Z h1 ⟨⟨Z,Z⟩,tR⟩ Z ⟨⟨Z,ah Z,ei,Z,tR⟩,tR⟩ ?_
  simp only[xK,nmV,bnd,e1,if_true,afS,if_false]
  exact⟨Z,Z⟩
 | true=>
  rw[e1,if_pos rfl] at h1
  have l1:=dB e1
  refine x.call [0] Z (by simp only[ak,aj];omega) Z h1 Z ⟨⟨Z,Z⟩,tR⟩ ⟨⟨Z,ah Z,ei,Z,tR⟩,tR⟩ ?_
  refine x.call [0] Z tR Z (gN s l (n+1+1) c 3) Z ⟨⟨Z,Z⟩,Z,tR⟩ ⟨⟨Z,ah Z,Z,Z,tR⟩,tR⟩ ?_
  have h2:=Aa s l (n+1+1) c hl (by omega)
  refine x.cond Z tR (λe2=>?_) (λe2=>?_)
  ·have e2:isV l (n+1+1) 3=true:=e2
   have l2:=dB e2
   rw[e2,if_pos rfl] at h2
   refine x.call [0] Z tR Z (dG s l (n+1+1) c hl (by omega) 0 (by omega)) Z ⟨⟨Z,Z⟩,Z,tR⟩ ⟨⟨Z,ah Z,Z,Z,tR⟩,tR⟩ ?_
   refine x.pure Z tR Z (nK (txV s l (n+1+1))) ⟨Z,tR⟩ ?_
   refine x.cond Z tR (λe3=>?_) (λe3=>?_)
   ·have e3:(decide ((fF (txV s l (n+1+1))).1<1)||decide (256<(fF (txV s l (n+1+1))).1))=true:=e3
    simp only[Bool.or_eq_true,afL] at e3
    refine x.die [0] Z tR Z (lF s l (n+1+1) c (by omega) 12) ⟨⟨Z,Z⟩,Z,tR⟩ Z ⟨⟨Z,ah Z,Z,Z,tR⟩,tR⟩ ?_
    simp only[xK,nmV,bnd,e1,e2,if_true]
    rw[if_pos e3]
    exact⟨Z,Z⟩
   ·have e3:(decide ((fF (txV s l (n+1+1))).1<1)||decide (256<(fF (txV s l (n+1+1))).1))=false:=e3
    have e3':¬((fF (txV s l (n+1+1))).1<1∨256<(fF (txV s l (n+1+1))).1):=by simpa using e3
    refine x.call [0] Z tR Z h2 Z ⟨⟨Z,Z⟩,tR⟩ ⟨⟨Z,ah Z,Z,Z,tR⟩,tR⟩ ?_
    have h4:=aY s l (n+1+1+1) c hl (by omega)
    cases e4:isV l (n+1+1+1) 1 with
    | false=>
     rw[e4,if_neg (by simp)] at h4
     refine x.die [0] Z tR Z h4 ⟨⟨Z,Z⟩,tR⟩ Z ⟨⟨Z,ah Z,Z,Z,tR⟩,tR⟩ ?_
     simp only[xK,nmV,bnd,e1,e2,e4,if_true,afS,if_false]
     rw[if_neg e3']
     exact⟨Z,Z⟩
    | true=>
     rw[e4,if_pos rfl] at h4
     refine x.call [0] Z tR Z h4 Z ⟨⟨Z,Z⟩,tR⟩ ⟨⟨Z,ah Z,Z,Z,tR⟩,tR⟩ ?_
     refine x.exit Z tR ?_
     simp only[xK,nmV,bnd,e1,e2,e4,if_true]
     rw[if_neg e3']
     exact⟨.inr Z,⟨Z,Z,Z,Z,tR⟩,⟨⟨Z,ah Z,Z,Z,tR⟩,tR⟩,Z⟩
  ·have e2:isV l (n+1+1) 3=false:=e2
   rw[e2,if_neg (by simp)] at h2
   refine x.die [0] Z tR Z h2 ⟨⟨Z,Z⟩,tR⟩ Z ⟨⟨Z,ah Z,Z,Z,tR⟩,tR⟩ ?_
   simp only[xK,nmV,bnd,e1,e2,if_true,afS,if_false]
   exact⟨Z,Z⟩
end
end Go.Proofs.YtojhdmfkfkfcbaaGreatDoor
