import Derived.Test.YtojhdmfkfkfcbaaGreatDoorMA
import Derived.Test.YtojhdmfkfkfcbaaGreatDoorSxF
import Derived.Test.YtojhdmfkfkfcbaaGreatDoorSxG
set_option linter.unusedSimpArgs false
set_option linter.unusedVariables false
namespace Go.Proofs.YtojhdmfkfkfcbaaGreatDoor
open Go.Sx
set_option maxRecDepth 100000
structure Tok where
 k:Int
 f:Int
 t:Int
deriving DecidableEq
abbrev EH(t:Tok):List D:=[.int .u8 t.k,.int .i64 t.f,.int .i64 t.t]
abbrev aaT(t:Tok):List V:=[.d (.int .u8 t.k),vi t.f,vi t.t]
abbrev tokV(t:Tok):V:=.agg (aaT t)
def nC:Tok:=⟨0,0,0⟩
def AU(b:BY):Bool:=jd b b.size 0 0
def kindOf(b:BY):Int:=if nR b then 2 else if AU b then 1 else if (fQ b).2 then 3 else 0
def aO(s:BY)(p:Nat):Nat:=if bt s p=45∧lZ s (p+1)=true then l8 s (p+1) else l8 s p
def gB(s:BY)(a:Nat):Tok×Int×Int:=
 if skV s false a=s.size then (nC,(s.size:Int),4)
 else if j6 (bt s (skV s false a)) then (⟨4,skV s false a,skV s false a+1⟩,0,0)
 else if kindOf (s.extract (skV s false a) (aO s (skV s false a)))=0 then (nC,(skV s false a:Int),6)
 else (⟨kindOf (s.extract (skV s false a) (aO s (skV s false a))),skV s false a,aO s (skV s false a)⟩,0,0)
def Qs(s:BY)(a:Int):Tok×Int×Int:=if a<0∨(s.size:Int)<a then (nC,0,1) else gB s a.toNat
theorem sD{s:BY}{a p:Nat}(hp:skV s false a=p)(h:p=s.size):gB s a=(nC,(s.size:Int),4):=by
 unfold gB;rw[hp,if_pos h]
theorem o8{s:BY}{a p:Nat}(hp:skV s false a=p)(h:p≠s.size)(h2:j6 (bt s p)=true):gB s a=(⟨4,p,p+1⟩,0,0):=by
 unfold gB;rw[hp,if_neg h,if_pos h2]
theorem wG{s:BY}{a p:Nat}(hp:skV s false a=p)(h:p≠s.size)(h2:j6 (bt s p)=false)(h3:kindOf (s.extract p (aO s p))=0):gB s a=(nC,(p:Int),6):=by
 unfold gB;rw[hp,if_neg h,if_neg (by rw[h2];simp),if_pos h3]
theorem xS{s:BY}{a p:Nat}(hp:skV s false a=p)(h:p≠s.size)(h2:j6 (bt s p)=false)(h3:kindOf (s.extract p (aO s p))≠0):gB s a=(⟨kindOf (s.extract p (aO s p)),p,aO s p⟩,0,0):=by
 unfold gB;rw[hp,if_neg h,if_neg (by rw[h2];simp),if_neg h3]
theorem wH{s:BY}{p:Nat}(hp:p<s.size):p≤aO s p∧aO s p≤s.size:=by
 unfold aO
 split
 ·have:=xQ s s.size (p+1) (by omega) (by omega);omega
 ·exact xQ s s.size p (by omega) (by omega)
theorem Vg{b:BY}(h:nR b=true):kindOf b=2:=by unfold kindOf;rw[if_pos h]
theorem JD{b:BY}(h:nR b=false)(h2:AU b=true):kindOf b=1:=by unfold kindOf;rw[if_neg (by rw[h];simp),if_pos h2]
theorem Na{b:BY}(h:nR b=false)(h2:AU b=false)(h3:(fQ b).2=true):kindOf b=3:=by unfold kindOf;rw[if_neg (by rw[h];simp),if_neg (by rw[h2];simp),if_pos h3]
theorem Vh{b:BY}(h:nR b=false)(h2:AU b=false)(h3:(fQ b).2=false):kindOf b=0:=by unfold kindOf;rw[if_neg (by rw[h];simp),if_neg (by rw[h2];simp),if_neg (by rw[h3];simp)]
theorem Nb(n:Nat)(hn:n<256):decide (0≤Lib.indexByte [40,41,123,125,91,93,44,58,61] n.toUInt8)=j6 n:=by
 have:∀n,n<256->decide (0≤Lib.indexByte [40,41,123,125,91,93,44,58,61] n.toUInt8)=j6 n:=by decide +kernel
 exact this n hn
theorem KT(s:BY)(p q:Nat):(s.extract p q).size≤s.size:=by
 rw[ByteArray.size_extract];omega
theorem Yw(s:BY)(a:Int)(hs:s.size≤4611686018427387904):Pure PG 88 [vs s,vi a] (.tup [tokV (Qs s a).1,vi (Qs s a).2.1,vi (Qs s a).2.2]) []:=by
 refine aG.mk (cfg 104) aA [] Tryz.func88 Z (by kernel_rfl) Z Z Z ?_
 intro C x
 refine x.cond Z tR (λh=>?_) (λh=>?_)
 ·have h:(decide (a<0)||decide ((s.size:Int)<a))=true:=h
  rw[Bool.or_eq_true,agT,agT] at h
  rw[Qs,if_pos h]
  refine x.exit Z tR ?_
  exact⟨.inr Z,⟨Z,Z,Z,tR⟩,tR,Z⟩
 have h:(decide (a<0)||decide ((s.size:Int)<a))=false:=h
 rw[ag2,agX,agX] at h
 rw[Qs,if_neg (by omega)]
 obtain⟨a,rfl⟩:∃n:Nat,a=n:=⟨a.toNat,by omega⟩
 rw[ag1]
 refine x.pure Z tR Z (Vb s a (by omega) (by omega)) ⟨Z,Z,tR⟩ ?_
 obtain⟨hp1,hp2,hp3⟩:=Cv s s.size false a (by omega) (by omega)
 obtain⟨p,hp⟩:∃p,skV s false a=p:=⟨_,Z⟩
 rw[hp] at hp1 hp2 hp3 ⊢
 refine x.cond Z tR (λh2=>?_) (λh2=>?_)
 ·have h2:p=s.size:=by have h2:(p:Int)=s.size:=agP h2;omega
  rw[sD hp h2]
  refine x.exit Z tR ?_
  exact⟨.inr Z,⟨Z,by show (p:Int)=s.size;omega,Z,tR⟩,tR,Z⟩
 have h2:p≠s.size:=by have h2:¬(p:Int)=s.size:=agQ h2;omega
 have hpl:p<s.size:=by omega
 have ec:sb s ((p:Int)).toNat=(bt s p:Int):=su s p
 have hbl:=AL s p
 refine x.pure Z ?_ Z (wu ⟨#[40,41,123,125,91,93,44,58,61]⟩ (bt s p:Int)) ⟨Z,?_,tR⟩ ?_
 ·simp only[ak];omega
 ·exact ec
 rw[ag1]
 refine x.cond Z tR (λh3=>?_) (λh3=>?_)
 ·have h3:j6 (bt s p)=true:=(Nb _ hbl).symm.trans h3
  rw[o8 hp h2 h3]
  refine x.exit Z ?_ ?_
  ·simp only[ak,aj];omega
  exact⟨.inr Z,⟨Z,Z,Z,tR⟩,tR,Z⟩
 have h3:j6 (bt s p)=false:=(Nb _ hbl).symm.trans h3
 refine x.pure Z ?_ Z (M6 (s.extract p s.size) (by have:=KT s p s.size;omega)) ⟨Z,tR⟩ ?_
 ·simp only[ak];omega
 have er:=uw hp2 s.size 0 (by omega)
 rw[Nat.add_zero] at er
 obtain⟨e1,e2⟩:=wH hpl
 have hrl:=xQ s s.size p (by omega) hp2
 refine x.ite (α:=Unit) (λ_=>⟨[(0,vs s),(1,vi (p:Int)),(4,.ptr 0 0),(7,vi ((aO s p-p:Nat):Int))],[(0,.box (aaT nC))],1⟩) Z ?_ (λh4=>?_) (λh4=>?_) (λ_=>?_)
 ·simp only[ak,aj,agN,agT]
  exact⟨by omega,λ_=>by omega,λ_=>by omega,λ_=>by omega,λ_=>by omega,λ_=>by omega⟩
 ·have h4:(((decide (sb s ((p:Int)).toNat=45)&&decide ((p:Int)+1<(s.size:Int)))&&decide (48≤sb s ((p:Int)+1).toNat))&&decide (sb s ((p:Int)+1).toNat≤57))=true:=h4
  have ep1:((p:Int)+1).toNat=p+1:=by omega
  rw[ec,ep1,su] at h4
  simp only[agN,agT] at h4
  have e45:bt s p=45:=by omega
  have ed:lZ s (p+1)=true:=by
   unfold lZ
   simp only[agN,agT]
   omega
  have epe:aO s p=l8 s (p+1):=by unfold aO;rw[if_pos ⟨e45,ed⟩]
  refine x.pure Z ?_ Z (M6 (s.extract (p+1) s.size) (by have:=KT s (p+1) s.size;omega)) ⟨?_,tR⟩ ?_
  ·simp only[ak,aj];omega
  ·show s.extract ((p:Int)+1).toNat s.size=s.extract (p+1) s.size
   rw[ep1]
  have er1:=uw (s:=s) (p:=p+1) (by omega) s.size 0 (by omega)
  rw[Nat.add_zero] at er1
  refine x.back Z ?_ ⟨(),⟨Z,Z,⟨Z,Z⟩,?_,tR⟩,⟨⟨Z,Z,Z,tR⟩,tR⟩,Z⟩
  ·simp only[ak,aj];omega
  ·show 1+(l8 (s.extract (p+1) s.size) 0:Int)=((aO s p-p:Nat):Int)
   omega
 ·have h4:(((decide (sb s ((p:Int)).toNat=45)&&decide ((p:Int)+1<(s.size:Int)))&&decide (48≤sb s ((p:Int)+1).toNat))&&decide (sb s ((p:Int)+1).toNat≤57))=false:=h4
  have ep1:((p:Int)+1).toNat=p+1:=by omega
  have epe:aO s p=l8 s p:=by
   unfold aO
   rw[if_neg]
   rintro ⟨e45,ed⟩
   unfold lZ at ed
   simp only[agN,agT] at ed
   rw[ec,ep1,su] at h4
   rw[decide_eq_true (by omega),decide_eq_true (by omega),decide_eq_true (by omega),decide_eq_true (by omega)] at h4
   cases h4
  refine x.back Z tR ⟨(),⟨Z,Z,⟨Z,Z⟩,?_,tR⟩,⟨⟨Z,Z,Z,tR⟩,tR⟩,Z⟩
  show (l8 (s.extract p s.size) 0:Int)=((aO s p-p:Nat):Int)
  omega
 obtain⟨q,hq⟩:∃q,aO s p=q:=⟨_,Z⟩
 rw[hq] at e1 e2 ⊢
 have eqq:(p:Int)+((q-p:Nat):Int)=(q:Int):=by omega
 obtain⟨b,hb⟩:∃b,s.extract p q=b:=⟨_,Z⟩
 have hbs:b.size≤s.size:=by rw[←hb];exact KT s p q
 refine x.pure Z ?_ Z (nS b) ⟨?_,tR⟩ ?_
 ·simp only[ak,aj,eqq];omega
 ·show s.extract ((p:Int)).toNat ((p:Int)+((q-p:Nat):Int)).toNat=b
  rw[eqq,ag1,ag1,hb]
 have ebv:s.extract ((p:Int)).toNat ((p:Int)+((q-p:Nat):Int)).toNat=b:=by rw[eqq,ag1,ag1,hb]
 refine x.le (s':=⟨[(1,vi (p:Int)),(4,.ptr 0 0),(8,.ptr 1 0),(9,vs b),(87,.tup [vi (fQ b).1,vb (fQ b).2])],[(0,.box (aaT nC)),(1,.box (aaT ⟨0,p,q⟩))],2⟩) ?_ ?_
 ·exact⟨⟨Z,⟨Z,Z⟩,⟨Z,Z⟩,ebv,⟨Z,Z,tR⟩,tR⟩,⟨⟨Z,Z,Z,tR⟩,⟨Z,Z,eqq,tR⟩,tR⟩,Z⟩
 refine x.pure Z tR Z (Cu b) ⟨Z,tR⟩ ?_
 have fin:∀k:Int,kindOf b=k->k≠0->gB s a=(⟨k,p,q⟩,0,0):=λk hk h0=>by
  rw[xS hp h2 h3 (by rw[hq,hb,hk];exact h0),hq,hb,hk]
 refine x.cond Z tR (λh5=>?_) (λh5=>?_)
 ·rw[fin 2 (Vg h5) (by decide)]
  refine x.exit Z tR ?_
  exact⟨.inr Z,⟨Z,Z,Z,tR⟩,tR,Z⟩
 refine x.pure Z tR Z (Ct b (by omega)) ⟨Z,tR⟩ ?_
 refine x.cond Z tR (λh6=>?_) (λh6=>?_)
 ·rw[fin 1 (JD h5 h6) (by decide)]
  refine x.exit Z tR ?_
  exact⟨.inr Z,⟨Z,Z,Z,tR⟩,tR,Z⟩
 refine x.cond Z tR (λh7=>?_) (λh7=>?_)
 ·rw[fin 3 (Na h5 h6 h7) (by decide)]
  refine x.exit Z tR ?_
  exact⟨.inr Z,⟨Z,Z,Z,tR⟩,tR,Z⟩
 ·rw[wG hp h2 h3 (by rw[hq,hb];exact Vh h5 h6 h7)]
  refine x.exit Z tR ?_
  exact⟨.inr Z,⟨Z,Z,Z,tR⟩,tR,Z⟩
def afV(l:List Tok):D:=.sl 3 l.length λi=>EH (l.getD i nC)
abbrev tv(l:List Tok):V:=.d (afV l)
abbrev afW(l:List Tok):Ch:=.vec 183 3 l.length λi=>EH (l.getD i nC)
theorem aaU(l:List Tok)(t:Tok)(j:Nat)(hj:j<l.length+1):app l.length (λi=>EH (l.getD i nC)) (λ_=>EH t) j=EH ((l++[t]).getD j nC):=by
 unfold app
 by_cases h:j<l.length
 ·show dh (j<l.length) (EH (l.getD j nC)) (EH t)=_
  rw[agM,agM,List.getElem?_append_left h]
  simp only[EH,dh,vI h]
  rw[if_pos h]
 ·show dh (j<l.length) (EH (l.getD j nC)) (EH t)=_
  have e:j=l.length:=by omega
  rw[agM (l:=l++[t]),List.getElem?_append_right (by omega),e,Nat.sub_self]
  simp only[EH,dh,vJ (Nat.lt_irrefl _)]
  rw[if_neg (Nat.lt_irrefl _)]
  rfl
theorem Qt{b:BY}(h:b.size=0):kindOf b=0:=by
 have e:b.data.toList=[]:=List.eq_nil_of_length_eq_zero (by rw[←eZ];exact h)
 rw[ba_eq b,e]
 decide +kernel
theorem Gu{s:BY}{p q:Nat}(h:kindOf (s.extract p q)≠0):p<q:=by
 rcases Nat.lt_or_ge p q with h1 | h1
 ·exact h1
 ·exact absurd (Qt (by rw[ByteArray.size_extract];omega)) h
theorem sF{s:BY}{a:Nat}(ha:a≤s.size):((gB s a).2.2=0∧(a:Int)≤(gB s a).1.f∧(gB s a).1.f<(gB s a).1.t∧(gB s a).1.t≤s.size)∨(gB s a).2.2=4∨(gB s a).2.2=6:=by
 obtain⟨h1,h2,h3⟩:=Cv s s.size false a (by omega) ha
 obtain⟨p,hp⟩:∃p,skV s false a=p:=⟨_,Z⟩
 rw[hp] at h1 h2
 by_cases e:p=s.size
 ·rw[sD hp e];exact .inr (.inl Z)
 ·cases hs:j6 (bt s p) with
  | true=>
   rw[o8 hp e hs]
   exact .inl ⟨Z,by show (a:Int)≤p;omega,by show (p:Int)<p+1;omega,by show (p:Int)+1≤s.size;omega⟩
  | false=>
   by_cases hk:kindOf (s.extract p (aO s p))=0
   ·rw[wG hp e hs hk];exact .inr (.inr Z)
   ·rw[xS hp e hs hk]
    have h4:=Gu hk
    have h5:=wH (s:=s) (p:=p) (by omega)
    exact .inl ⟨Z,by show (a:Int)≤p;omega,by show (p:Int)<aO s p;omega,by show (aO s p:Int)≤s.size;omega⟩
def pV(s:BY):Nat->Nat->List Tok->List Tok×Int×Int
 | 0,_,_=>([],0,0)
 | n+1,a,out=>if (gB s a).2.2=4 then (out,0,0) else if (gB s a).2.2=0 then pV s n (gB s a).1.t.toNat (out++[(gB s a).1]) else ([],(gB s a).2.1,(gB s a).2.2)
def eH(s:BY):List Tok×Int×Int:=
 if 65536<s.size then ([],0,2)
 else if 0≤dB s s.size 0 then ([],dB s s.size 0,5)
 else pV s (s.size+1) 0 []
structure TI3 (s:BY) where
 n:Nat
 a:Nat
 out:List Tok
 ha:a≤s.size
 fuel:s.size+1≤a+n
 len:out.length≤a
 same:pV s n a out=pV s (s.size+1) 0 []
theorem Qu(l:List Tok)(hl:l.length≤big):Pure PG 89 [tv l] (tv l) []:=by
 refine aG.mk (cfg 9) aA [] Tryz.func89 Z (by kernel_rfl) Z Z Z ?_
 intro C x
 unfold big at hl
 refine x.exit Z ?_ ?_
 ·simp only[ak];omega
 ·exact⟨.inr Z,av Z,tR,Z⟩
theorem Vi(s:BY)(hs:s.size≤4611686018427387904):Pure PG 42 [vs s] (.tup [tv (eH s).1,vi (eH s).2.1,vi (eH s).2.2]) []:=by
 refine aG.mk (cfg 40) aA [] Tryz.func42 Z (by kernel_rfl) Z Z Z ?_
 intro C x
 refine x.cond Z tR (λh=>?_) (λh=>?_)
 ·have h:(65536:Int)<s.size:=agP h
  rw[eH,if_pos (by omega)]
  refine x.exit Z tR ?_
  exact⟨.inr Z,⟨Z,Z,Z,tR⟩,tR,Z⟩
 have h:¬(65536:Int)<s.size:=agQ h
 rw[eH,if_neg (by omega)]
 refine x.pure Z tR Z (JB s (by omega)) ⟨Z,tR⟩ ?_
 refine x.cond Z tR (λh2=>?_) (λh2=>?_)
 ·have h2:0≤dB s s.size 0:=agP h2
  rw[if_pos h2]
  refine x.exit Z tR ?_
  exact⟨.inr Z,⟨Z,Z,Z,tR⟩,tR,Z⟩
 have h2:¬0≤dB s s.size 0:=agQ h2
 rw[if_neg h2]
 refine x.toLoop Z tR ?_
 refine Go.own 6 183 3 (λj=>EH (([]:List Tok).getD j nC)) Z ?_
 refine x.loop (α:=TI3 s) (λy=>⟨[(0,vs s),(6,.own 0),(7,vi (y.a:Int))],[(0,afW y.out)],1⟩) (λy=>y.n) ⟨s.size+1,0,[],by omega,by omega,by simp,Z⟩ Z tR ⟨⟨Z,Z,Z,tR⟩,⟨⟨Z,Z,Z,λj hj=>absurd hj (agV _)⟩,tR⟩,Z⟩ (λy=>?_)
 obtain⟨n,a,out,hal,fuel,len,same⟩:=y
 change Go C _ ⟨[(0,vs s),(6,.own 0),(7,vi (a:Int))],[(0,afW out)],1⟩ _
 obtain⟨n,rfl⟩:∃m,n=m+1:=⟨n-1,by omega⟩
 refine x.pure Z tR Z (Yw s (a:Int) hs) ⟨Z,Z,tR⟩ ?_
 rw[show Qs s (a:Int)=gB s a by rw[Qs,if_neg (by omega),ag1]]
 have hf:=sF hal
 rw[pV] at same
 obtain⟨⟨t,place,e⟩,hr⟩:∃r,gB s a=r:=⟨_,Z⟩
 rw[hr] at hf same ⊢
 dsimp only at hf same
 refine x.cond Z tR (λh3=>?_) (λh3=>?_)
 ·have h3:e=4:=agP h3
  rw[if_pos h3] at same
  rw[←same]
  refine Sx.Go.freeze 0 ?_
  refine x.pure Z tR Z (Qu out (by unfold big;omega)) ⟨av Z,tR⟩ ?_
  refine x.exit Z tR ?_
  exact⟨.inr Z,⟨ah Z,Z,Z,tR⟩,tR,Z⟩
 have h3:e≠4:=agQ h3
 rw[if_neg h3] at same
 refine x.cond Z tR (λh4=>?_) (λh4=>?_)
 ·have h4:(!decide (e=0))=true:=h4
  have h4:e≠0:=by simpa using h4
  rw[if_neg h4] at same
  rw[←same]
  refine x.exit Z tR ?_
  exact⟨.inr Z,⟨Z,Z,Z,tR⟩,tR,Z⟩
 have h4:(!decide (e=0))=false:=h4
 have h4:e=0:=by simpa using h4
 rw[if_pos h4] at same
 have hb:(a:Int)≤t.f∧t.f<t.t∧t.t≤s.size:=by
  rcases hf with h | h | h
  ·exact h.2
  ·omega
  ·omega
 refine x.back Z ?_ ⟨⟨n,t.t.toNat,out++[t],by omega,by omega,by rw[List.length_append];simp only[List.length_cons,List.length_nil];omega,same⟩,by show n<n+1;omega,⟨Z,Z,?_,tR⟩,⟨⟨Z,Z,?_,λj hj=>aaU out t j hj⟩,tR⟩,Z⟩
 ·simp only[ak,big];omega
 ·show t.t=((t.t.toNat:Nat):Int);omega
 ·show out.length+1=(out++[t]).length;simp
theorem Nc(s:BY):∀(n a:Nat) (out:List Tok),a≤s.size->out.length≤a->(pV s n a out).1.length≤s.size
 | 0,a,out,_,_=>by simp [pV]
 | n+1,a,out,ha,hl=>by
  rw[pV]
  split
  ·show out.length≤s.size;omega
  ·split
   ·rename_i h0
    have hf:=sF ha
    have hb:(a:Int)≤(gB s a).1.f∧(gB s a).1.f<(gB s a).1.t∧(gB s a).1.t≤s.size:=by
     rcases hf with h | h | h
     ·exact h.2
     ·omega
     ·omega
    exact Nc s n _ _ (by omega) (by rw[List.length_append];simp only[List.length_cons,List.length_nil];omega)
   ·simp
theorem aaV(s:BY):(eH s).1.length≤s.size:=by
 unfold eH
 split
 ·simp
 ·split
  ·simp
  ·exact Nc s _ 0 [] (by omega) (by simp)
def qD(s:BY)(l:List Tok):Prop:=(∀t,t∈l->0≤t.f∧t.f<t.t∧t.t≤s.size)∧l.length≤140737488355328∧s.size≤140737488355328
abbrev pC(s:BY)(l:List Tok)(n c:Nat):Ch:=.box [vs s,tv l,vi (n:Int),vi (c:Int)]
def atV(s:BY)(l:List Tok)(n:Nat):Int:=if n<l.length then (l.getD n nC).f else (s.size:Int)
def txV(s:BY)(l:List Tok)(k:Nat):BY:=if k<l.length then s.extract (l.getD k nC).f.toNat (l.getD k nC).t.toNat else .empty
def isV(l:List Tok)(n:Nat)(k:Int):Bool:=decide (n<l.length)&&decide ((l.getD n nC).k=k)
abbrev Ea:Nat:=106
abbrev yI(at_ e:Int):Out:=.die Ea [(.i64,at_),(.i64,e)]
theorem qD.get{s:BY}{l:List Tok}(h:qD s l){n:Nat}(hn:n<l.length):0≤(l.getD n nC).f∧(l.getD n nC).f<(l.getD n nC).t∧(l.getD n nC).t≤s.size:=by
 rw[agM,agO hn]
 exact h.1 _ (List.getElem_mem hn)
section
variable(s:BY)(l:List Tok)(n c:Nat)(hl:qD s l)(hn:n≤1000000000000000)(hc:c≤1000000)
include hn in
theorem AV:aG PG 90 1 [.ptr 0 0] [pC s l n c] (vi (atV s l n)) [pC s l n c]:=by
 refine aG.mk (dP 29 1) aA [0] Tryz.func90 Z (by kernel_rfl) Z Z Z ?_
 intro C x
 refine x.quiet Z tR ay (by kernel_rfl) ?_
 refine x.eY Z tR ?_
 refine x.cond Z tR (λh=>?_) (λh=>?_)
 ·have h:(n:Int)<(l.length:Int):=agP h
  rw[atV,if_pos (by omega)]
  refine x.quiet Z tR ay (by kernel_rfl) ?_
  refine x.eY Z ?_ ?_
  ·show 0≤(n:Int)∧(n:Int)<(l.length:Int)
   omega
  refine x.exit Z tR ?_
  exact⟨.inr Z,Z,⟨⟨Z,ah Z,Z,Z,tR⟩,tR⟩,Z⟩
 ·have h:¬(n:Int)<(l.length:Int):=agQ h
  rw[atV,if_neg (by omega)]
  refine x.exit Z tR ?_
  exact⟨.inr Z,Z,⟨⟨Z,ah Z,Z,Z,tR⟩,tR⟩,Z⟩
include hn in
theorem lN(e:Int):IQ PG 48 [.ptr 0 0,vi e] [pC s l n c] Ea [(.i64,atV s l n),(.i64,e)]:=by
 refine aX.mk (out:=yI (atV s l n) e) (dP 9 1) aA [0] Tryz.func48 Z (by kernel_rfl) Z Z Z ?_
 intro C x
 refine x.call [0] Z tR Z (AV s l n c hn) Z ⟨⟨Z,Z⟩,tR⟩ ⟨⟨Z,ah Z,Z,Z,tR⟩,tR⟩ ?_
 exact x.raise Z tR Z Z Z ⟨Z,Z⟩
include hn in
theorem o9(a b:Int):aX PG 45 1 [.ptr 0 0,vi a,vi b] [pC s l n c] (if b≤a then yI (atV s l n) 3 else .ret (.tup []) [pC s l n c]):=by
 refine aX.mk (dP 11 1) aA [0] Tryz.func45 Z (by kernel_rfl) Z Z (by split<;>rfl) ?_
 intro C x
 refine x.cond Z tR (λh=>?_) (λh=>?_)
 ·have h:b≤a:=agP h
  rw[if_pos h]
  exact x.die [0] Z tR Z (lN s l n c hn 3) ⟨⟨Z,Z⟩,Z,tR⟩ Z ⟨⟨Z,ah Z,Z,Z,tR⟩,tR⟩ ⟨Z,Z⟩
 ·have h:¬b≤a:=agQ h
  rw[if_neg h]
  refine x.exit Z tR ?_
  exact⟨.inl Z,tR,⟨⟨Z,ah Z,Z,Z,tR⟩,tR⟩,Z⟩
include hl hn in
theorem dJ(k:Nat)(hk:k≤1):aG PG 44 1 [.ptr 0 0,vi (k:Int)] [pC s l n c] (vs (txV s l (n+k))) [pC s l n c]:=by
 refine aG.mk (dP 40 1) aA [0] Tryz.func44 Z (by kernel_rfl) Z Z Z ?_
 intro C x
 refine x.cond Z ?_ (λh=>?_) (λh=>?_)
 ·simp only[ak,aj];omega
 ·have h:(n:Int)+k<(l.length:Int):=agP h
  have h':n+k<l.length:=by omega
  have ht:=hl.get h'
  have hi:((n:Int)+k).toNat=n+k:=by omega
  rw[txV,if_pos h']
  have hsz:s.size≤140737488355328:=hl.2.2
  refine x.quiet Z tR ay (by kernel_rfl) ?_
  refine x.eY Z ?_ ?_
  ·simp only[ak,hi]
   omega
  refine x.exit Z tR ?_
  refine⟨.inr Z,?_,⟨⟨Z,ah Z,Z,Z,tR⟩,tR⟩,Z⟩
  rw[←hi];rfl
 ·have h:¬(n:Int)+k<(l.length:Int):=agQ h
  rw[txV,if_neg (by omega)]
  refine x.exit Z tR ?_
  exact⟨.inr Z,Z,⟨⟨Z,ah Z,Z,Z,tR⟩,tR⟩,Z⟩
theorem iy(k:Int):aG PG 92 1 [.ptr 0 0,.d (.int .u8 k)] [pC s l n c] (vb (isV l n k)) [pC s l n c]:=by
 refine aG.mk (dP 30 1) aA [0] Tryz.func92 Z (by kernel_rfl) Z Z Z ?_
 intro C x
 refine x.quiet Z tR ay (by kernel_rfl) ?_
 refine x.eY Z ?_ ?_
 ·simp only[ak,agT]
  omega
 refine x.exit Z tR ?_
 refine⟨.inr Z,?_,⟨⟨Z,ah Z,Z,Z,tR⟩,tR⟩,Z⟩
 show aI (vb (decide ((n:Int)<(l.length:Int))&&decide ((l.getD ((n:Int).toNat) nC).k=k))) (vb (isV l n k))
 rw[isV,ag1,show decide ((n:Int)<(l.length:Int))=decide (n<l.length) by simp]
 rfl
include hl hn in
theorem JE(k:Int):aX PG 149 1 [.ptr 0 0,.d (.int .u8 k)] [pC s l n c] (if isV l n k=true then .ret (vs (txV s l n)) [pC s l (n+1) c] else yI (atV s l n) 7):=by
 refine aX.mk (dP 22 1) aA [0] Tryz.func149 Z (by kernel_rfl) Z Z (by split<;>rfl) ?_
 intro C x
 refine x.call [0] Z tR Z (iy s l n c k) Z ⟨⟨Z,Z⟩,Z,tR⟩ ⟨⟨Z,ah Z,Z,Z,tR⟩,tR⟩ ?_
 refine x.cond Z tR (λh=>?_) (λh=>?_)
 ·have h:isV l n k=false:=by simpa using h
  rw[h,if_neg (by simp)]
  exact x.die [0] Z tR Z (lN s l n c hn 7) ⟨⟨Z,Z⟩,Z,tR⟩ Z ⟨⟨Z,ah Z,Z,Z,tR⟩,tR⟩ ⟨Z,Z⟩
 ·have h:isV l n k=true:=by simpa using h
  rw[h,if_pos rfl]
  refine x.call [0] Z tR Z (dJ s l n c hl hn 0 (by omega)) Z ⟨⟨Z,Z⟩,Z,tR⟩ ⟨⟨Z,ah Z,Z,Z,tR⟩,tR⟩ ?_
  refine x.exit Z ?_ ?_
  ·simp only[ak,aj];omega
  ·exact⟨.inr Z,Z,⟨⟨Z,ah Z,by show aI (vi ((n:Int)+1)) (vi ((n+1:Nat):Int));rw[agY];rfl,Z,tR⟩,tR⟩,Z⟩
include hl hn in
theorem jC(t:BY):aX PG 95 1 [.ptr 0 0,vs t] [pC s l n c] (if (txV s l n).data.toList=t.data.toList then .ret (.tup []) [pC s l (n+1) c] else yI (atV s l n) 7):=by
 refine aX.mk (dP 17 1) aA [0] Tryz.func95 Z (by kernel_rfl) Z Z (by split<;>rfl) ?_
 intro C x
 refine x.call [0] Z tR Z (dJ s l n c hl hn 0 (by omega)) Z ⟨⟨Z,Z⟩,Z,tR⟩ ⟨⟨Z,ah Z,Z,Z,tR⟩,tR⟩ ?_
 refine x.cond Z tR (λh=>?_) (λh=>?_)
 ·have h:(!decide ((txV s l n).data.toList=t.data.toList))=true:=h
  rw[if_neg (by simpa using h)]
  exact x.die [0] Z tR Z (lN s l n c hn 7) ⟨⟨Z,Z⟩,Z,tR⟩ Z ⟨⟨Z,ah Z,Z,Z,tR⟩,tR⟩ ⟨Z,Z⟩
 ·have h:(!decide ((txV s l n).data.toList=t.data.toList))=false:=h
  rw[if_pos (by simpa using h)]
  refine x.exit Z ?_ ?_
  ·simp only[ak,aj];omega
  ·exact⟨.inl Z,tR,⟨⟨Z,ah Z,by show aI (vi ((n:Int)+1)) (vi ((n+1:Nat):Int));rw[agY];rfl,Z,tR⟩,tR⟩,Z⟩
include hl hn in
theorem aZ:aX PG 91 1 [.ptr 0 0] [pC s l n c] (if isV l n 1=true then .ret (vs (txV s l n)) [pC s l (n+1) c] else yI (atV s l n) 7):=by
 refine aX.mk (dP 5 1) aA [0] Tryz.func91 Z (by kernel_rfl) Z Z (by split<;>rfl) ?_
 intro C x
 have ht:=JE s l n c hl hn 1
 cases h:isV l n 1 with
 | false=>
  rw[h,if_neg (by simp)] at ht
  rw[if_neg (by simp)]
  exact x.die [0] Z tR Z ht ⟨⟨Z,Z⟩,Z,tR⟩ Z ⟨⟨Z,ah Z,Z,Z,tR⟩,tR⟩ ⟨Z,Z⟩
 | true=>
  rw[h,if_pos rfl] at ht
  rw[if_pos rfl]
  refine x.call [0] Z tR Z ht Z ⟨⟨Z,Z⟩,Z,tR⟩ ⟨⟨Z,ah Z,Z,Z,tR⟩,tR⟩ ?_
  refine x.exit Z tR ?_
  exact⟨.inr Z,Z,⟨⟨Z,ah Z,Z,Z,tR⟩,tR⟩,Z⟩
def zD(s:BY)(l:List Tok)(n:Nat):Bool:=isV l n 1&&decide ((txV s l (n+1)).data.toList=[58])
include hl hn in
theorem Eb:aG PG 97 1 [.ptr 0 0] [pC s l n c] (vb (zD s l n)) [pC s l n c]:=by
 refine aG.mk (dP 10 1) aA [0] Tryz.func97 Z (by kernel_rfl) Z Z Z ?_
 intro C x
 refine x.call [0] Z tR Z (iy s l n c 1) Z ⟨⟨Z,Z⟩,Z,tR⟩ ⟨⟨Z,ah Z,Z,Z,tR⟩,tR⟩ ?_
 refine x.pF [0] Z tR Z (λ_=>dJ s l n c hl hn 1 (by omega)) Z ⟨⟨Z,Z⟩,Z,tR⟩ ⟨⟨Z,ah Z,Z,Z,tR⟩,tR⟩ ⟨⟨Z,ah Z,Z,Z,tR⟩,tR⟩ ?_
 refine x.exit Z tR ?_
 exact⟨.inr Z,Z,⟨⟨Z,ah Z,Z,Z,tR⟩,tR⟩,Z⟩
include hl hn in
theorem AX:aX PG 93 1 [.ptr 0 0] [pC s l n c] (if isV l n 3=true then .ret (vi (fQ (txV s l n)).1) [pC s l (n+1) c] else yI (atV s l n) 7):=by
 refine aX.mk (dP 12 1) aA [0] Tryz.func93 Z (by kernel_rfl) Z Z (by split<;>rfl) ?_
 intro C x
 have ht:=JE s l n c hl hn 3
 cases h:isV l n 3 with
 | false=>
  rw[h,if_neg (by simp)] at ht
  rw[if_neg (by simp)]
  exact x.die [0] Z tR Z ht ⟨⟨Z,Z⟩,Z,tR⟩ Z ⟨⟨Z,ah Z,Z,Z,tR⟩,tR⟩ ⟨Z,Z⟩
 | true=>
  rw[h,if_pos rfl] at ht
  rw[if_pos rfl]
  refine x.call [0] Z tR Z ht Z ⟨⟨Z,Z⟩,Z,tR⟩ ⟨⟨Z,ah Z,Z,Z,tR⟩,tR⟩ ?_
  refine x.pure Z tR Z (nS (txV s l n)) ⟨Z,tR⟩ ?_
  refine x.exit Z tR ?_
  exact⟨.inr Z,Z,⟨⟨Z,ah Z,Z,Z,tR⟩,tR⟩,Z⟩
end
abbrev jh(o:List BY):Ch:=.vec 9 1 o.length λi=>[.str (o.getD i .empty)]
theorem ji(o:List BY)(t:BY)(j:Nat)(hj:j<o.length+1):app o.length (λi=>[D.str (o.getD i .empty)]) (λ_=>[D.str t]) j=[D.str ((o++[t]).getD j .empty)]:=by
 unfold app
 by_cases h:j<o.length
 ·show dh (j<o.length) [D.str (o.getD j .empty)] [D.str t]=_
  rw[agM,agM,List.getElem?_append_left h]
  simp only[dh,vI h]
  rw[if_pos h]
 ·show dh (j<o.length) [D.str (o.getD j .empty)] [D.str t]=_
  have e:j=o.length:=by omega
  rw[agM (l:=o++[t]),List.getElem?_append_right (by omega),e,Nat.sub_self]
  simp only[dh,vJ (Nat.lt_irrefl _)]
  rw[if_neg (Nat.lt_irrefl _)]
  rfl
section
variable(s:BY)(l:List Tok)(n c:Nat)(hl:qD s l)(hn:n≤1000000000000000)(hc:c≤1000000)
include hl hn in
theorem Nf(o:List BY)(ho:o.length≤1000):aX PG 151 3 [.ptr 1 0,.ptr 2 0] [pC s l n c,.box [.own 3],.box [.ptr 0 0],jh o] (if isV l n 1=true then .ret (.tup []) [pC s l (n+1) c,.box [.own 3],.box [.ptr 0 0],jh (o++[txV s l n])] else yI (atV s l n) 7):=by
 refine aX.mk (dP 7 3) aA [0,1,2,3] Tryz.func151 Z (by kernel_rfl) Z Z (by split<;>rfl) ?_
 intro C x
 have ht:=aZ s l n c hl hn
 cases h:isV l n 1 with
 | false=>
  rw[h,if_neg (by simp)] at ht
  rw[if_neg (by simp)]
  refine x.draw [0] [] [0,1] [2,3] [4,5] Z tR ay (by kernel_rfl) gQ.quiet Z tR (λC1 x1=>?_)
  exact x1.die [0] Z tR Z ht ⟨⟨Z,Z⟩,tR⟩ Z ⟨⟨Z,ah Z,Z,Z,tR⟩,tR⟩ ⟨⟨_,Z⟩,Z,Z,Z⟩
 | true=>
  rw[h,if_pos rfl] at ht
  rw[if_pos rfl]
  refine x.draw [0] [] [0,1] [2,3] [4,5] Z tR ay (by kernel_rfl) gQ.quiet Z tR (λC1 x1=>?_)
  refine x1.call [0] Z tR Z ht Z ⟨⟨Z,Z⟩,tR⟩ ⟨⟨Z,ah Z,Z,Z,tR⟩,tR⟩ ?_
  refine x1.back Z tR ?_
  refine x1.back Z tR ?_
  refine x.exit Z ?_ ?_
  ·simp only[ak,big];omega
  ·refine⟨.inl Z,tR,⟨⟨Z,ah Z,Z,Z,tR⟩,⟨Z,tR⟩,⟨⟨Z,Z⟩,tR⟩,⟨Z,Z,?_,λj hj=>ji o _ j hj⟩,tR⟩,Z⟩
   show o.length+1=(o++[txV s l n]).length
   simp
end
def jO(s:BY)(l:List Tok):Nat->Nat->Nat->List BY->Except (Int×Int) (Nat×List BY)
 | 0,_,_,_=>.error (0,0)
 | f+1,n,k,out=>
  if isV l n 1=true then
   if 6≤k then .error (atV s l n,3)
   else if (txV s l (n+1)).data.toList=[44] then jO s l f (n+2) (k+1) (out++[txV s l n])
   else .ok (n+1,out++[txV s l n])
  else .error (atV s l n,7)
def adq(s:BY)(l:List Tok)(c:Nat):Except (Int×Int) (Nat×List BY)->Out
 | .ok (n,o)=>.ret (.tup []) [pC s l n c,.box [.own 3],.box [.ptr 0 0],jh o]
 | .error (a,e)=>yI a e
structure LW (s:BY) (l:List Tok) (R:Except (Int×Int) (Nat×List BY)) where
 f:Nat
 n:Nat
 k:Nat
 out:List BY
 hf:l.length+2≤f+n
 hn:n≤l.length+1
 hk:k≤6
 ho:out.length=k
 same:jO s l f n k out=R
theorem dF{l:List Tok}{n:Nat}{k:Int}(h:isV l n k=true):n<l.length:=by
 unfold isV at h
 simp only[agN,agT] at h
 exact h.1
section
variable(s:BY)(l:List Tok)(n c:Nat)(hl:qD s l)(hn:n≤l.length)
include hl hn in
theorem Qv:aX PG 150 3 [.ptr 0 0,vi 6,.fn 151 [.ptr 1 0,.ptr 2 0]] [pC s l n c,.box [.own 3],.box [.ptr 0 0],jh []] (adq s l c (jO s l (l.length+2) n 0 [])):=by
 obtain⟨R,hR⟩:∃R,jO s l (l.length+2) n 0 []=R:=⟨_,Z⟩
 rw[hR]
 have hll:=hl.2.1
 refine aX.mk (dP 27 3) aA [0,1,2,3] Tryz.func150 rfl (by kernel_rfl) rfl rfl (by rcases R with⟨a,e⟩ | ⟨n,o⟩<;>rfl) ?_
 intro C x
 refine x.loop (α:=LW s l R) (λy=>⟨[(0,.ptr 0 0),(1,vi 6),(2,.fn 151 [.ptr 1 0,.ptr 2 0]),(6,vi (y.k:Int))],[(0,pC s l y.n c),(1,.box [.own 3]),(2,.box [.ptr 0 0]),(3,jh y.out)],4⟩) (λy=>y.f) ⟨l.length+2,n,0,[],by omega,by omega,by omega,Z,hR⟩ Z tR ⟨⟨⟨Z,Z⟩,Z,Z,Z,tR⟩,⟨⟨Z,ah Z,Z,Z,tR⟩,⟨Z,tR⟩,⟨⟨Z,Z⟩,tR⟩,⟨Z,Z,Z,λj hj=>absurd hj (agV _)⟩,tR⟩,Z⟩ (λy=>?_)
 obtain⟨f,n,k,out,hf,hn,hk,ho,same⟩:=y
 have hn2:n≤1000000000000000:=by omega
 change Go C _ ⟨[(0,.ptr 0 0),(1,vi 6),(2,.fn 151 [.ptr 1 0,.ptr 2 0]),(6,vi (k:Int))],[(0,pC s l n c),(1,.box [.own 3]),(2,.box [.ptr 0 0]),(3,jh out)],4⟩ _
 refine x.call [0] Z tR Z (iy s l n c 1) Z ⟨⟨Z,Z⟩,Z,tR⟩ ⟨⟨Z,ah Z,Z,Z,tR⟩,tR⟩ ?_
 have h1:=Nf s l n c hl hn2 out (by omega)
 cases f with
 | zero=>omega
 | succ f=>
 rw[jO] at same
 refine x.cond Z tR (λh=>?_) (λh=>?_)
 ·have h:isV l n 1=true:=h
  have hlt:=dF h
  rw[if_pos h] at same h1
  have h2:=o9 s l n c hn2 (k:Int) 6
  by_cases h3:6≤k
  ·rw[if_pos h3] at same
   rw[if_pos (by omega)] at h2
   exact x.die [0] Z tR Z h2 ⟨⟨Z,Z⟩,Z,Z,tR⟩ Z ⟨⟨Z,ah Z,Z,Z,tR⟩,tR⟩ (by rw[←same];exact⟨Z,Z⟩)
  ·rw[if_neg h3] at same
   rw[if_neg (by omega)] at h2
   refine x.call [0] Z tR Z h2 Z ⟨⟨Z,Z⟩,Z,Z,tR⟩ ⟨⟨Z,ah Z,Z,Z,tR⟩,tR⟩ ?_
   refine x.call [0,1,2,3] Z tR Z h1 Z ⟨⟨Z,Z⟩,⟨Z,Z⟩,tR⟩ ⟨⟨Z,ah Z,Z,Z,tR⟩,⟨Z,tR⟩,⟨⟨Z,Z⟩,tR⟩,⟨Z,Z,Z,λ_ _=>rfl⟩,tR⟩ ?_
   refine x.call [0] Z tR Z (dJ s l (n+1) c hl (by omega) 0 (by omega)) Z ⟨⟨Z,Z⟩,Z,tR⟩ ⟨⟨Z,ah Z,Z,Z,tR⟩,tR⟩ ?_
   refine x.cond Z tR (λh4=>?_) (λh4=>?_)
   ·have h4:(!decide ((txV s l (n+1)).data.toList=[44]))=true:=h4
    rw[if_neg (by simpa using h4)] at same
    refine x.exit Z tR ?_
    rw[←same]
    exact⟨.inr Z,tR,⟨⟨Z,ah Z,Z,Z,tR⟩,⟨Z,tR⟩,⟨⟨Z,Z⟩,tR⟩,⟨Z,Z,Z,λ_ _=>rfl⟩,tR⟩,Z⟩
   ·have h4:(!decide ((txV s l (n+1)).data.toList=[44]))=false:=h4
    rw[if_pos (by simpa using h4)] at same
    refine x.back Z ?_ ⟨⟨f,n+2,k+1,out++[txV s l n],by omega,by omega,by omega,by rw[List.length_append,ho];rfl,same⟩,by show f<f+1;omega,⟨⟨Z,Z⟩,Z,Z,?_,tR⟩,⟨⟨Z,ah Z,?_,Z,tR⟩,⟨Z,tR⟩,⟨⟨Z,Z⟩,tR⟩,⟨Z,Z,Z,λ_ _=>rfl⟩,tR⟩,Z⟩
    ·simp only[ak,aj];omega
    ·show aI (vi ((k:Int)+1)) (vi ((k+1:Nat):Int));rw[agY];rfl
    ·show aI (vi (((n+1:Nat):Int)+1)) (vi ((n+2:Nat):Int));rw[show (n+2:Nat)=(n+1)+1 by omega,agY (n+1) 1];rfl
 ·have h:isV l n 1=false:=h
  rw[h,if_neg (by simp)] at same h1
  exact x.die [0,1,2,3] Z tR Z h1 ⟨⟨Z,Z⟩,⟨Z,Z⟩,tR⟩ Z ⟨⟨Z,ah Z,Z,Z,tR⟩,⟨Z,tR⟩,⟨⟨Z,Z⟩,tR⟩,⟨Z,Z,Z,λ_ _=>rfl⟩,tR⟩ (by rw[←same];exact⟨Z,Z⟩)
end
theorem Cz{s:BY}{l:List Tok}:∀{f n k:Nat} {out:List BY} {n':Nat} {o:List BY},jO s l f n k out=.ok (n',o)->n'≤l.length∧n<n'∧(out.length=k->k≤6->o.length≤6)
 | 0,n,k,out,n',o,h=>by simp [jO] at h
 | f+1,n,k,out,n',o,h=>by
  rw[jO] at h
  split at h
  ·rename_i h1
   have h1:=dF h1
   split at h
   ·cases h
   ·split at h
    ·obtain⟨e1,e2,e3⟩:=Cz h
     exact⟨e1,by omega,λh2 h3=>e3 (by rw[List.length_append,h2];rfl) (by omega)⟩
    ·simp only[Except.ok.injEq,agW] at h
     obtain⟨rfl,rfl⟩:=h
     exact⟨by omega,by omega,λh2 h3=>by rw[List.length_append,h2];show k+1≤6;omega⟩
  ·cases h
theorem jP{s:BY}{l:List Tok}{n:Nat}{b:UInt8}{r:List UInt8}(h:(txV s l n).data.toList=b::r):n<l.length:=by
 unfold txV at h
 split at h
 ·assumption
 ·cases h
def jQ{α:Type}(s:BY)(l:List Tok)(b:UInt8):Except (Int×Int) (Nat×α)->Except (Int×Int) (Nat×α)
 | .error e=>.error e
 | .ok (n,o)=>if (txV s l n).data.toList=[b] then .ok (n+1,o) else .error (atV s l n,7)
def iH(s:BY)(l:List Tok)(n:Nat):Except (Int×Int) (Nat×List BY):=
 if (txV s l n).data.toList=[40] then
  if (txV s l (n+1)).data.toList=[41] then .ok (n+2,[])
  else jQ s l 41 (jO s l (l.length+2) (n+1) 0 [])
 else .error (atV s l n,7)
def aaW(s:BY)(l:List Tok)(c:Nat):Except (Int×Int) (Nat×List BY)->Out
 | .ok (n,o)=>.ret (.own 1) [pC s l n c,jh o]
 | .error (a,e)=>yI a e
section
variable(s:BY)(l:List Tok)(n c:Nat)(hl:qD s l)(hn:n≤l.length)
include hl hn in
theorem Ec:aX PG 94 1 [.ptr 0 0] [pC s l n c] (aaW s l c (iH s l n)):=by
 have hll:=hl.2.1
 refine aX.mk (dP 15 1) aA [0,3] Tryz.func94 rfl (by kernel_rfl) rfl rfl (by rcases iH s l n with⟨a,e⟩ | ⟨n,o⟩<;>rfl) ?_
 intro C x
 refine x.op Z tR ?_
 refine Go.ownB 2 0 9 1 (λj=>[D.str (([]:List BY).getD j .empty)]) Z Z ?_
 have h1:=jC s l n c hl (by omega) ⟨#[40]⟩
 by_cases hp:(txV s l n).data.toList=[40]
 ·rw[if_pos hp] at h1
  have hlt:=jP hp
  refine x.call [0] Z tR Z h1 Z ⟨⟨Z,Z⟩,Z,tR⟩ ⟨⟨Z,ah Z,Z,Z,tR⟩,tR⟩ ?_
  refine x.call [0] Z tR Z (dJ s l (n+1) c hl (by omega) 0 (by omega)) Z ⟨⟨Z,Z⟩,Z,tR⟩ ⟨⟨Z,ah Z,Z,Z,tR⟩,tR⟩ ?_
  refine x.cond Z tR (λh2=>?_) (λh2=>?_)
  ·have h2:(!decide ((txV s l (n+1)).data.toList=[41]))=true:=h2
   have h3:¬(txV s l (n+1)).data.toList=[41]:=by simpa using h2
   have hls:=Qv s l (n+1) c hl (by omega)
   obtain⟨R,hR⟩:∃R,jO s l (l.length+2) (n+1) 0 []=R:=⟨_,Z⟩
   have hV:iH s l n=jQ s l 41 R:=by
    rw[iH,if_pos hp,if_neg h3,hR]
   rw[hR] at hls
   rcases R with⟨a,e⟩ | ⟨n',o⟩
   ·refine x.die [0,2,1,3] Z tR Z hls ⟨⟨Z,Z⟩,Z,Z,tR⟩ Z ⟨⟨Z,ah Z,Z,Z,tR⟩,⟨Z,tR⟩,⟨⟨Z,Z⟩,tR⟩,⟨Z,Z,Z,λ_ _=>rfl⟩,tR⟩ ?_
    rw[hV]
    exact⟨Z,Z⟩
   ·obtain⟨e1,e2,e3⟩:=Cz hR
    refine x.call [0,2,1,3] Z tR Z hls Z ⟨⟨Z,Z⟩,Z,Z,tR⟩ ⟨⟨Z,ah Z,Z,Z,tR⟩,⟨Z,tR⟩,⟨⟨Z,Z⟩,tR⟩,⟨Z,Z,Z,λ_ _=>rfl⟩,tR⟩ ?_
    have h4:=jC s l n' c hl (by omega) ⟨#[41]⟩
    by_cases h5:(txV s l n').data.toList=[41]
    ·rw[if_pos h5] at h4
     refine x.call [0] Z tR Z h4 Z ⟨⟨Z,Z⟩,Z,tR⟩ ⟨⟨Z,ah Z,Z,Z,tR⟩,tR⟩ ?_
     refine x.exit Z tR ?_
     rw[hV,jQ,if_pos h5]
     exact⟨.inr Z,Z,⟨⟨Z,ah Z,Z,Z,tR⟩,⟨Z,Z,Z,λ_ _=>rfl⟩,tR⟩,Z⟩
    ·rw[if_neg h5] at h4
     refine x.die [0] Z tR Z h4 ⟨⟨Z,Z⟩,Z,tR⟩ Z ⟨⟨Z,ah Z,Z,Z,tR⟩,tR⟩ ?_
     rw[hV,jQ,if_neg h5]
     exact⟨Z,Z⟩
  ·have h2:(!decide ((txV s l (n+1)).data.toList=[41]))=false:=h2
   have h3:(txV s l (n+1)).data.toList=[41]:=by simpa using h2
   have h4:=jC s l (n+1) c hl (by omega) ⟨#[41]⟩
   rw[if_pos h3] at h4
   refine x.call [0] Z tR Z h4 Z ⟨⟨Z,Z⟩,Z,tR⟩ ⟨⟨Z,ah Z,Z,Z,tR⟩,tR⟩ ?_
   refine x.exit Z tR ?_
   rw[iH,if_pos hp,if_pos h3]
   exact⟨.inr Z,Z,⟨⟨Z,ah Z,Z,Z,tR⟩,⟨Z,Z,Z,λ_ _=>rfl⟩,tR⟩,Z⟩
 ·rw[if_neg hp] at h1
  refine x.die [0] Z tR Z h1 ⟨⟨Z,Z⟩,Z,tR⟩ Z ⟨⟨Z,ah Z,Z,Z,tR⟩,tR⟩ ?_
  rw[iH,if_neg hp]
  exact⟨Z,Z⟩
end
structure Ins where
 kind:Int
 op:Int
 dst:BY
 ref:BY
 alt:BY
 args:List BY
 frm:List BY
 num:Int
 at_:Int
abbrev iC(x:Ins):Ch:=.box [.d (.int .u8 x.kind),.d (.int .u8 x.op),vs x.dst,vs x.ref,vs x.alt,.own 2,.own 3,vi x.num,vi x.at_]
abbrev HX(s:BY)(l:List Tok)(n c:Nat)(x:Ins):List Ch:=[pC s l n c,iC x,jh x.args,jh x.frm]
def EJ(s:BY)(l:List Tok)(c:Nat):Except (Int×Int) (Nat×Ins)->Out
 | .ok (n,x)=>.ret (.tup []) (HX s l n c x)
 | .error (a,e)=>yI a e
theorem okI{s:BY}{l:List Tok}{n c:Nat}{x:Ins}{m:Nat}(hm:2≤m)(r:Except (Int×Int) (Nat×Ins)):SC (dP m 2) [.ptr 0 0,.ptr 1 0] (HX s l n c x) (EJ s l c r)=true:=by
 have h:Nat.ble 2 m=true:=by simpa using hm
 rcases r with⟨a,e⟩ | ⟨n',x'⟩
 ·show (Nat.ble 2 m&&_&&_)=true
  rw[h];rfl
 ·show (Nat.ble 2 m&&_&&_&&_&&_)=true
  rw[h];rfl
def nmV(s:BY)(l:List Tok)(n:Nat):Except (Int×Int) (Nat×BY):=if isV l n 1=true then .ok (n+1,txV s l n) else .error (atV s l n,7)
def bnd{α β:Type}(r:Except (Int×Int) (Nat×α))(k:Nat->α->Except (Int×Int) (Nat×β)):Except (Int×Int) (Nat×β):=
 match r with
 | .error e=>.error e
 | .ok (n,a)=>k n a
theorem len1(o:List BY)(t:BY):o.length+1=(o++[t]).length:=by simp
def lq(s:BY)(l:List Tok)(n:Nat)(x:Ins):Except (Int×Int) (Nat×Ins):=bnd (nmV s l n) λn a=>.ok (n,{x with args:=x.args++[a]})
def sG(s:BY)(l:List Tok)(n:Nat)(x:Ins):Except (Int×Int) (Nat×Ins):=
 bnd (nmV s l n) λn r=>let x:Ins:={{x with kind:=6} with ref:=r};bnd (lq s l n x) λn x=>bnd (lq s l n x) λn x=>.ok (n,x)
def vg(s:BY)(l:List Tok)(n:Nat)(x:Ins):Except (Int×Int) (Nat×Ins):=
 bnd (nmV s l n) λn r=>let x:Ins:={{x with kind:=9} with ref:=r};bnd (lq s l n x) λn x=>.ok (n,x)
def wI(s:BY)(l:List Tok)(n:Nat)(x:Ins):Except (Int×Int) (Nat×Ins):=
 bnd (nmV s l n) λn r=>let x:Ins:={{x with kind:=11} with ref:=r};.ok (n,x)
def sH(s:BY)(l:List Tok)(n:Nat)(x:Ins):Except (Int×Int) (Nat×Ins):=
 bnd (lq s l n {x with kind:=12}) λn x=>bnd (nmV s l n) λn r=>let x:Ins:={x with ref:=r};bnd (nmV s l n) λn r=>let x:Ins:={x with alt:=r};.ok (n,x)
def yT(s:BY)(l:List Tok)(n:Nat)(x:Ins):Except (Int×Int) (Nat×Ins):=
 bnd (lq s l n {x with kind:=13}) λn x=>.ok (n,x)
section
variable(s:BY)(l:List Tok)(n c:Nat)(hl:qD s l)(hn:n≤l.length)(y:Ins)(hy:y.args.length≤1000)
include hl hn hy in
theorem Vj:aX PG 198 2 [.ptr 0 0,.ptr 1 0] (HX s l n c y) (EJ s l c (sG s l n y)):=by
 have hll:=hl.2.1
 refine aX.mk (dP 34 2) aA [0,1,2,3] Tryz.func198 Z (by kernel_rfl) Z Z (okI (by omega) _) ?_
 intro C x
 have h1:=aZ s l n c hl (by omega)
 cases e1:isV l n 1 with
 | false=>
  rw[e1,if_neg (by simp)] at h1
  refine x.die [0] Z tR Z h1 ⟨⟨Z,Z⟩,tR⟩ Z ⟨⟨Z,ah Z,Z,Z,tR⟩,tR⟩ ?_
  simp only[sG,lq,nmV,bnd,e1,if_true,ag0,if_false]
  exact⟨Z,Z⟩
 | true=>
  rw[e1,if_pos rfl] at h1
  have l1:=dF e1
  refine x.call [0] Z tR Z h1 Z ⟨⟨Z,Z⟩,tR⟩ ⟨⟨Z,ah Z,Z,Z,tR⟩,tR⟩ ?_
  have h2:=aZ s l (n+1) c hl (by omega)
  cases e2:isV l (n+1) 1 with
  | false=>
   rw[e2,if_neg (by simp)] at h2
   refine x.draw [0] [0,1,5] [2,3,4] [6,7] [8,9,10,11] Z tR ay (by kernel_rfl) gQ.quiet Z tR (λC1 x1=>?_)
   refine x1.die [0] Z tR Z h2 ⟨⟨Z,Z⟩,tR⟩ Z ⟨⟨Z,ah Z,Z,Z,tR⟩,tR⟩ ⟨⟨_,Z⟩,Z,?_⟩
   simp only[sG,lq,nmV,bnd,e1,e2,if_true,ag0,if_false]
   exact⟨Z,Z⟩
  | true=>
   rw[e2,if_pos rfl] at h2
   have l2:=dF e2
   refine x.draw [0] [0,1,5] [2,3,4] [6,7] [8,9,10,11] Z tR ay (by kernel_rfl) gQ.quiet Z tR (λC1 x1=>?_)
   refine x1.call [0] Z tR Z h2 Z ⟨⟨Z,Z⟩,tR⟩ ⟨⟨Z,ah Z,Z,Z,tR⟩,tR⟩ ?_
   refine x1.back Z tR ?_
   refine x1.back Z tR ?_
   refine x.code Z (by simp only[ak,big,List.length_append,List.length_cons,List.length_nil];omega) ?_
   refine x.le (s':=⟨[(0,.ptr 0 0),(1,.ptr 1 0)],[(0,pC s l (n+1+1) c),(1,iC {y with kind:=6,ref:=txV s l n}),(2,jh (y.args++[txV s l (n+1)])),(3,jh y.frm)],4⟩) ⟨⟨⟨Z,Z⟩,⟨Z,Z⟩,tR⟩,⟨⟨Z,ah Z,Z,Z,tR⟩,⟨Z,Z,Z,Z,Z,Z,Z,Z,Z,tR⟩,⟨Z,Z,len1 _ _,λj hj=>ji _ _ j hj⟩,⟨Z,Z,Z,λ_ _=>rfl⟩,tR⟩,Z⟩ ?_
   have h3:=aZ s l (n+1+1) c hl (by omega)
   cases e3:isV l (n+1+1) 1 with
   | false=>
    rw[e3,if_neg (by simp)] at h3
    refine x.draw [0] [0,1,5] [2,3,4] [6,7] [8,9,10,11] Z tR ay (by kernel_rfl) gQ.quiet Z tR (λC1 x1=>?_)
    refine x1.die [0] Z tR Z h3 ⟨⟨Z,Z⟩,tR⟩ Z ⟨⟨Z,ah Z,Z,Z,tR⟩,tR⟩ ⟨⟨_,Z⟩,Z,?_⟩
    simp only[sG,lq,nmV,bnd,e1,e2,e3,if_true,ag0,if_false]
    exact⟨Z,Z⟩
   | true=>
    rw[e3,if_pos rfl] at h3
    have l3:=dF e3
    refine x.draw [0] [0,1,5] [2,3,4] [6,7] [8,9,10,11] Z tR ay (by kernel_rfl) gQ.quiet Z tR (λC1 x1=>?_)
    refine x1.call [0] Z tR Z h3 Z ⟨⟨Z,Z⟩,tR⟩ ⟨⟨Z,ah Z,Z,Z,tR⟩,tR⟩ ?_
    refine x1.back Z tR ?_
    refine x1.back Z tR ?_
    refine x.exit Z (by simp only[ak,big,List.length_append,List.length_cons,List.length_nil];omega) ?_
    simp only[sG,lq,nmV,bnd,e1,e2,e3,if_true,ag0,if_false]
    exact⟨.inl Z,tR,⟨⟨Z,ah Z,Z,Z,tR⟩,⟨Z,Z,Z,Z,Z,Z,Z,Z,Z,tR⟩,⟨Z,Z,len1 _ _,λj hj=>ji _ _ j hj⟩,⟨Z,Z,Z,λ_ _=>rfl⟩,tR⟩,Z⟩
include hl hn hy in
theorem Vk:aX PG 199 2 [.ptr 0 0,.ptr 1 0] (HX s l n c y) (EJ s l c (vg s l n y)):=by
 have hll:=hl.2.1
 refine aX.mk (dP 23 2) aA [0,1,2,3] Tryz.func199 Z (by kernel_rfl) Z Z (okI (by omega) _) ?_
 intro C x
 have h1:=aZ s l n c hl (by omega)
 cases e1:isV l n 1 with
 | false=>
  rw[e1,if_neg (by simp)] at h1
  refine x.die [0] Z tR Z h1 ⟨⟨Z,Z⟩,tR⟩ Z ⟨⟨Z,ah Z,Z,Z,tR⟩,tR⟩ ?_
  simp only[vg,lq,nmV,bnd,e1,if_true,ag0,if_false]
  exact⟨Z,Z⟩
 | true=>
  rw[e1,if_pos rfl] at h1
  have l1:=dF e1
  refine x.call [0] Z tR Z h1 Z ⟨⟨Z,Z⟩,tR⟩ ⟨⟨Z,ah Z,Z,Z,tR⟩,tR⟩ ?_
  have h2:=aZ s l (n+1) c hl (by omega)
  cases e2:isV l (n+1) 1 with
  | false=>
   rw[e2,if_neg (by simp)] at h2
   refine x.draw [0] [0,1,5] [2,3,4] [6,7] [8,9,10,11] Z tR ay (by kernel_rfl) gQ.quiet Z tR (λC1 x1=>?_)
   refine x1.die [0] Z tR Z h2 ⟨⟨Z,Z⟩,tR⟩ Z ⟨⟨Z,ah Z,Z,Z,tR⟩,tR⟩ ⟨⟨_,Z⟩,Z,?_⟩
   simp only[vg,lq,nmV,bnd,e1,e2,if_true,ag0,if_false]
   exact⟨Z,Z⟩
  | true=>
   rw[e2,if_pos rfl] at h2
   have l2:=dF e2
   refine x.draw [0] [0,1,5] [2,3,4] [6,7] [8,9,10,11] Z tR ay (by kernel_rfl) gQ.quiet Z tR (λC1 x1=>?_)
   refine x1.call [0] Z tR Z h2 Z ⟨⟨Z,Z⟩,tR⟩ ⟨⟨Z,ah Z,Z,Z,tR⟩,tR⟩ ?_
   refine x1.back Z tR ?_
   refine x1.back Z tR ?_
   refine x.exit Z (by simp only[ak,big,List.length_append,List.length_cons,List.length_nil];omega) ?_
   simp only[vg,lq,nmV,bnd,e1,e2,if_true,ag0,if_false]
   exact⟨.inl Z,tR,⟨⟨Z,ah Z,Z,Z,tR⟩,⟨Z,Z,Z,Z,Z,Z,Z,Z,Z,tR⟩,⟨Z,Z,len1 _ _,λj hj=>ji _ _ j hj⟩,⟨Z,Z,Z,λ_ _=>rfl⟩,tR⟩,Z⟩
include hl hn in
theorem Vl:aX PG 200 2 [.ptr 0 0,.ptr 1 0] (HX s l n c y) (EJ s l c (wI s l n y)):=by
 have hll:=hl.2.1
 refine aX.mk (dP 12 2) aA [0,1,2,3] Tryz.func200 Z (by kernel_rfl) Z Z (okI (by omega) _) ?_
 intro C x
 have h1:=aZ s l n c hl (by omega)
 cases e1:isV l n 1 with
 | false=>
  rw[e1,if_neg (by simp)] at h1
  refine x.die [0] Z tR Z h1 ⟨⟨Z,Z⟩,tR⟩ Z ⟨⟨Z,ah Z,Z,Z,tR⟩,tR⟩ ?_
  simp only[wI,lq,nmV,bnd,e1,if_true,ag0,if_false]
  exact⟨Z,Z⟩
 | true=>
  rw[e1,if_pos rfl] at h1
  have l1:=dF e1
  refine x.call [0] Z tR Z h1 Z ⟨⟨Z,Z⟩,tR⟩ ⟨⟨Z,ah Z,Z,Z,tR⟩,tR⟩ ?_
  refine x.exit Z tR ?_
  simp only[wI,lq,nmV,bnd,e1,if_true,ag0,if_false]
  exact⟨.inl Z,tR,⟨⟨Z,ah Z,Z,Z,tR⟩,⟨Z,Z,Z,Z,Z,Z,Z,Z,Z,tR⟩,⟨Z,Z,Z,λ_ _=>rfl⟩,⟨Z,Z,Z,λ_ _=>rfl⟩,tR⟩,Z⟩
include hl hn hy in
theorem Vm:aX PG 201 2 [.ptr 0 0,.ptr 1 0] (HX s l n c y) (EJ s l c (sH s l n y)):=by
 have hll:=hl.2.1
 refine aX.mk (dP 28 2) aA [0,1,2,3] Tryz.func201 Z (by kernel_rfl) Z Z (okI (by omega) _) ?_
 intro C x
 have h1:=aZ s l n c hl (by omega)
 cases e1:isV l n 1 with
 | false=>
  rw[e1,if_neg (by simp)] at h1
  refine x.draw [0] [0,1,5] [2,3,4] [6,7] [8,9,10,11] Z tR ay (by kernel_rfl) gQ.quiet Z tR (λC1 x1=>?_)
  refine x1.die [0] Z tR Z h1 ⟨⟨Z,Z⟩,tR⟩ Z ⟨⟨Z,ah Z,Z,Z,tR⟩,tR⟩ ⟨⟨_,Z⟩,Z,?_⟩
  simp only[sH,lq,nmV,bnd,e1,if_true,ag0,if_false]
  exact⟨Z,Z⟩
 | true=>
  rw[e1,if_pos rfl] at h1
  have l1:=dF e1
  refine x.draw [0] [0,1,5] [2,3,4] [6,7] [8,9,10,11] Z tR ay (by kernel_rfl) gQ.quiet Z tR (λC1 x1=>?_)
  refine x1.call [0] Z tR Z h1 Z ⟨⟨Z,Z⟩,tR⟩ ⟨⟨Z,ah Z,Z,Z,tR⟩,tR⟩ ?_
  refine x1.back Z tR ?_
  refine x1.back Z tR ?_
  have h2:=aZ s l (n+1) c hl (by omega)
  cases e2:isV l (n+1) 1 with
  | false=>
   rw[e2,if_neg (by simp)] at h2
   refine x.die [0] Z (by simp only[ak,big,List.length_append,List.length_cons,List.length_nil];omega) Z h2 ⟨⟨Z,Z⟩,tR⟩ Z ⟨⟨Z,ah Z,Z,Z,tR⟩,tR⟩ ?_
   simp only[sH,lq,nmV,bnd,e1,e2,if_true,ag0,if_false]
   exact⟨Z,Z⟩
  | true=>
   rw[e2,if_pos rfl] at h2
   have l2:=dF e2
   refine x.call [0] Z (by simp only[ak,big,List.length_append,List.length_cons,List.length_nil];omega) Z h2 Z ⟨⟨Z,Z⟩,tR⟩ ⟨⟨Z,ah Z,Z,Z,tR⟩,tR⟩ ?_
   have h3:=aZ s l (n+1+1) c hl (by omega)
   cases e3:isV l (n+1+1) 1 with
   | false=>
    rw[e3,if_neg (by simp)] at h3
    refine x.die [0] Z tR Z h3 ⟨⟨Z,Z⟩,tR⟩ Z ⟨⟨Z,ah Z,Z,Z,tR⟩,tR⟩ ?_
    simp only[sH,lq,nmV,bnd,e1,e2,e3,if_true,ag0,if_false]
    exact⟨Z,Z⟩
   | true=>
    rw[e3,if_pos rfl] at h3
    have l3:=dF e3
    refine x.call [0] Z tR Z h3 Z ⟨⟨Z,Z⟩,tR⟩ ⟨⟨Z,ah Z,Z,Z,tR⟩,tR⟩ ?_
    refine x.exit Z tR ?_
    simp only[sH,lq,nmV,bnd,e1,e2,e3,if_true,ag0,if_false]
    exact⟨.inl Z,tR,⟨⟨Z,ah Z,Z,Z,tR⟩,⟨Z,Z,Z,Z,Z,Z,Z,Z,Z,tR⟩,⟨Z,Z,len1 _ _,λj hj=>ji _ _ j hj⟩,⟨Z,Z,Z,λ_ _=>rfl⟩,tR⟩,Z⟩
include hl hn hy in
theorem Vn:aX PG 202 2 [.ptr 0 0,.ptr 1 0] (HX s l n c y) (EJ s l c (yT s l n y)):=by
 have hll:=hl.2.1
 refine aX.mk (dP 18 2) aA [0,1,2,3] Tryz.func202 Z (by kernel_rfl) Z Z (okI (by omega) _) ?_
 intro C x
 have h1:=aZ s l n c hl (by omega)
 cases e1:isV l n 1 with
 | false=>
  rw[e1,if_neg (by simp)] at h1
  refine x.draw [0] [0,1,5] [2,3,4] [6,7] [8,9,10,11] Z tR ay (by kernel_rfl) gQ.quiet Z tR (λC1 x1=>?_)
  refine x1.die [0] Z tR Z h1 ⟨⟨Z,Z⟩,tR⟩ Z ⟨⟨Z,ah Z,Z,Z,tR⟩,tR⟩ ⟨⟨_,Z⟩,Z,?_⟩
  simp only[yT,lq,nmV,bnd,e1,if_true,ag0,if_false]
  exact⟨Z,Z⟩
 | true=>
  rw[e1,if_pos rfl] at h1
  have l1:=dF e1
  refine x.draw [0] [0,1,5] [2,3,4] [6,7] [8,9,10,11] Z tR ay (by kernel_rfl) gQ.quiet Z tR (λC1 x1=>?_)
  refine x1.call [0] Z tR Z h1 Z ⟨⟨Z,Z⟩,tR⟩ ⟨⟨Z,ah Z,Z,Z,tR⟩,tR⟩ ?_
  refine x1.back Z tR ?_
  refine x1.back Z tR ?_
  refine x.exit Z (by simp only[ak,big,List.length_append,List.length_cons,List.length_nil];omega) ?_
  simp only[yT,lq,nmV,bnd,e1,if_true,ag0,if_false]
  exact⟨.inl Z,tR,⟨⟨Z,ah Z,Z,Z,tR⟩,⟨Z,Z,Z,Z,Z,Z,Z,Z,Z,tR⟩,⟨Z,Z,len1 _ _,λj hj=>ji _ _ j hj⟩,⟨Z,Z,Z,λ_ _=>rfl⟩,tR⟩,Z⟩
end
def l9(s:BY)(l:List Tok)(n:Nat)(x:Ins):Except (Int×Int) (Nat×Ins):=bnd (nmV s l n) λn a=>.ok (n,{x with args:=[a]})
def rF(s:BY)(l:List Tok)(n:Nat)(x:Ins):Except (Int×Int) (Nat×Ins):=bnd (nmV s l n) λn a=>.ok (n,{x with ref:=a})
def oh(s:BY)(l:List Tok)(n:Nat)(x:Ins):Except (Int×Int) (Nat×Ins):=if isV l n 3=true then .ok (n+1,{x with kind:=1,num:=(fQ (txV s l n)).1}) else .error (atV s l n,7)
def uy(s:BY)(l:List Tok)(n:Nat)(x:Ins):Except (Int×Int) (Nat×Ins):=rF s l n {x with kind:=8}
def yU(s:BY)(l:List Tok)(n:Nat)(x:Ins):Except (Int×Int) (Nat×Ins):=bnd (rF s l n {x with kind:=7}) λn x=>bnd (iH s l n) λn o=>.ok (n,{x with args:=o})
def kJ(s:BY)(l:List Tok)(n:Nat)(x:Ins):Except (Int×Int) (Nat×Ins):=bnd (l9 s l n {x with kind:=10}) λn x=>rF s l n x
def cellV(k:Int)(s:BY)(l:List Tok)(n:Nat)(x:Ins):Except (Int×Int) (Nat×Ins):=bnd (rF s l n {x with kind:=k}) λn x=>l9 s l n x
section
variable(s:BY)(l:List Tok)(n c:Nat)(hl:qD s l)(hn:n≤l.length)(y:Ins)
include hl hn in
theorem Vo:aX PG 209 2 [.ptr 0 0,.ptr 1 0] (HX s l n c y) (EJ s l c (oh s l n y)):=by
 have hll:=hl.2.1
 refine aX.mk (dP 12 2) aA [0,1,2,3] Tryz.func209 Z (by kernel_rfl) Z Z (okI (by omega) _) ?_
 intro C x
 have h1:=AX s l n c hl (by omega)
 cases e1:isV l n 3 with
 | false=>
  rw[e1,if_neg (by simp)] at h1
  refine x.die [0] Z tR Z h1 ⟨⟨Z,Z⟩,tR⟩ Z ⟨⟨Z,ah Z,Z,Z,tR⟩,tR⟩ ?_
  simp only[oh,rF,l9,nmV,bnd,e1,if_true,ag0,if_false]
  exact⟨Z,Z⟩
 | true=>
  rw[e1,if_pos rfl] at h1
  have l1:=dF e1
  refine x.call [0] Z tR Z h1 Z ⟨⟨Z,Z⟩,tR⟩ ⟨⟨Z,ah Z,Z,Z,tR⟩,tR⟩ ?_
  refine x.exit Z tR ?_
  simp only[oh,rF,l9,nmV,bnd,e1,if_true,ag0,if_false]
  exact⟨.inl Z,tR,⟨⟨Z,ah Z,Z,Z,tR⟩,⟨Z,Z,Z,Z,Z,Z,Z,Z,Z,tR⟩,⟨Z,Z,Z,λ_ _=>rfl⟩,⟨Z,Z,Z,λ_ _=>rfl⟩,tR⟩,Z⟩
include hl hn in
theorem Vp:aX PG 210 2 [.ptr 0 0,.ptr 1 0] (HX s l n c y) (EJ s l c (uy s l n y)):=by
 have hll:=hl.2.1
 refine aX.mk (dP 12 2) aA [0,1,2,3] Tryz.func210 Z (by kernel_rfl) Z Z (okI (by omega) _) ?_
 intro C x
 have h1:=aZ s l n c hl (by omega)
 cases e1:isV l n 1 with
 | false=>
  rw[e1,if_neg (by simp)] at h1
  refine x.die [0] Z tR Z h1 ⟨⟨Z,Z⟩,tR⟩ Z ⟨⟨Z,ah Z,Z,Z,tR⟩,tR⟩ ?_
  simp only[uy,rF,l9,nmV,bnd,e1,if_true,ag0,if_false]
  exact⟨Z,Z⟩
 | true=>
  rw[e1,if_pos rfl] at h1
  have l1:=dF e1
  refine x.call [0] Z tR Z h1 Z ⟨⟨Z,Z⟩,tR⟩ ⟨⟨Z,ah Z,Z,Z,tR⟩,tR⟩ ?_
  refine x.exit Z tR ?_
  simp only[uy,rF,l9,nmV,bnd,e1,if_true,ag0,if_false]
  exact⟨.inl Z,tR,⟨⟨Z,ah Z,Z,Z,tR⟩,⟨Z,Z,Z,Z,Z,Z,Z,Z,Z,tR⟩,⟨Z,Z,Z,λ_ _=>rfl⟩,⟨Z,Z,Z,λ_ _=>rfl⟩,tR⟩,Z⟩
include hl hn in
theorem Vq:aX PG 211 2 [.ptr 0 0,.ptr 1 0] (HX s l n c y) (EJ s l c (yU s l n y)):=by
 have hll:=hl.2.1
 refine aX.mk (dP 17 2) aA [0,1,4,3] Tryz.func211 Z (by kernel_rfl) Z Z (okI (by omega) _) ?_
 intro C x
 have h1:=aZ s l n c hl (by omega)
 cases e1:isV l n 1 with
 | false=>
  rw[e1,if_neg (by simp)] at h1
  refine x.die [0] Z tR Z h1 ⟨⟨Z,Z⟩,tR⟩ Z ⟨⟨Z,ah Z,Z,Z,tR⟩,tR⟩ ?_
  simp only[yU,rF,l9,nmV,bnd,e1,if_true,ag0,if_false]
  exact⟨Z,Z⟩
 | true=>
  rw[e1,if_pos rfl] at h1
  have l1:=dF e1
  refine x.call [0] Z tR Z h1 Z ⟨⟨Z,Z⟩,tR⟩ ⟨⟨Z,ah Z,Z,Z,tR⟩,tR⟩ ?_
  have h2:=Ec s l (n+1) c hl (by omega)
  obtain⟨R,e2⟩:∃R,iH s l (n+1)=R:=⟨_,Z⟩
  rw[e2] at h2
  rcases R with⟨a,b⟩ | ⟨n',o⟩
  ·refine x.die [0] Z tR Z h2 ⟨⟨Z,Z⟩,tR⟩ Z ⟨⟨Z,ah Z,Z,Z,tR⟩,tR⟩ ?_
   simp only[yU,rF,l9,nmV,bnd,e1,e2,if_true,ag0,if_false]
   exact⟨Z,Z⟩
  ·refine x.call [0] Z tR Z h2 Z ⟨⟨Z,Z⟩,tR⟩ ⟨⟨Z,ah Z,Z,Z,tR⟩,tR⟩ ?_
   refine x.exit Z tR ?_
   simp only[yU,rF,l9,nmV,bnd,e1,e2,if_true,ag0,if_false]
   exact⟨.inl Z,tR,⟨⟨Z,ah Z,Z,Z,tR⟩,⟨Z,Z,Z,Z,Z,Z,Z,Z,Z,tR⟩,⟨Z,Z,Z,λ_ _=>rfl⟩,⟨Z,Z,Z,λ_ _=>rfl⟩,tR⟩,Z⟩
include hl hn in
theorem Vr:aX PG 212 2 [.ptr 0 0,.ptr 1 0] (HX s l n c y) (EJ s l c (kJ s l n y)):=by
 have hll:=hl.2.1
 refine aX.mk (dP 18 2) aA [0,1,4,3] Tryz.func212 Z (by kernel_rfl) Z Z (okI (by omega) _) ?_
 intro C x
 have h1:=aZ s l n c hl (by omega)
 cases e1:isV l n 1 with
 | false=>
  rw[e1,if_neg (by simp)] at h1
  refine x.die [0] Z tR Z h1 ⟨⟨Z,Z⟩,tR⟩ Z ⟨⟨Z,ah Z,Z,Z,tR⟩,tR⟩ ?_
  simp only[kJ,rF,l9,nmV,bnd,e1,if_true,ag0,if_false]
  exact⟨Z,Z⟩
 | true=>
  rw[e1,if_pos rfl] at h1
  have l1:=dF e1
  refine x.call [0] Z tR Z h1 Z ⟨⟨Z,Z⟩,tR⟩ ⟨⟨Z,ah Z,Z,Z,tR⟩,tR⟩ ?_
  have h2:=aZ s l (n+1) c hl (by omega)
  cases e2:isV l (n+1) 1 with
  | false=>
   rw[e2,if_neg (by simp)] at h2
   refine x.die [0] Z tR Z h2 ⟨⟨Z,Z⟩,tR⟩ Z ⟨⟨Z,ah Z,Z,Z,tR⟩,tR⟩ ?_
   simp only[kJ,rF,l9,nmV,bnd,e1,e2,if_true,ag0,if_false]
   exact⟨Z,Z⟩
  | true=>
   rw[e2,if_pos rfl] at h2
   have l2:=dF e2
   refine x.call [0] Z tR Z h2 Z ⟨⟨Z,Z⟩,tR⟩ ⟨⟨Z,ah Z,Z,Z,tR⟩,tR⟩ ?_
   refine x.exit Z tR ?_
   simp only[kJ,rF,l9,nmV,bnd,e1,e2,if_true,ag0,if_false]
   exact⟨.inl Z,tR,⟨⟨Z,ah Z,Z,Z,tR⟩,⟨Z,Z,Z,Z,Z,Z,Z,Z,Z,tR⟩,⟨Z,Z,Z,λj hj=>by rw[show j=0 by omega];rfl⟩,⟨Z,Z,Z,λ_ _=>rfl⟩,tR⟩,Z⟩
abbrev HK(s:BY)(l:List Tok)(n c:Nat)(x:Ins)(k:Int):List Ch:=[pC s l n c,iC x,jh x.args,jh x.frm,.box [.d (.int .u8 k)]]
def outK(s:BY)(l:List Tok)(c:Nat)(k:Int):Except (Int×Int) (Nat×Ins)->Out
 | .ok (n,x)=>.ret (.tup []) (HK s l n c x k)
 | .error (a,e)=>yI a e
include hl hn in
theorem JF(k:Int):aX PG 208 2 [.ptr 0 0,.ptr 1 0,.ptr 4 0] (HK s l n c y k) (outK s l c k (cellV k s l n y)):=by
 have hll:=hl.2.1
 refine aX.mk (dP 20 2) aA [0,1,5,3,4] Tryz.func208 rfl (by kernel_rfl) rfl rfl (by rcases cellV k s l n y with⟨a,e⟩ | ⟨n',x'⟩<;>rfl) ?_
 intro C x
 have h1:=aZ s l n c hl (by omega)
 cases e1:isV l n 1 with
 | false=>
  rw[e1,if_neg (by simp)] at h1
  refine x.die [0] Z tR Z h1 ⟨⟨Z,Z⟩,tR⟩ Z ⟨⟨Z,ah Z,Z,Z,tR⟩,tR⟩ ?_
  simp only[cellV,rF,l9,nmV,bnd,e1,if_true,ag0,if_false]
  exact⟨Z,Z⟩
 | true=>
  rw[e1,if_pos rfl] at h1
  have l1:=dF e1
  refine x.call [0] Z tR Z h1 Z ⟨⟨Z,Z⟩,tR⟩ ⟨⟨Z,ah Z,Z,Z,tR⟩,tR⟩ ?_
  have h2:=aZ s l (n+1) c hl (by omega)
  cases e2:isV l (n+1) 1 with
  | false=>
   rw[e2,if_neg (by simp)] at h2
   refine x.die [0] Z tR Z h2 ⟨⟨Z,Z⟩,tR⟩ Z ⟨⟨Z,ah Z,Z,Z,tR⟩,tR⟩ ?_
   simp only[cellV,rF,l9,nmV,bnd,e1,e2,if_true,ag0,if_false]
   exact⟨Z,Z⟩
  | true=>
   rw[e2,if_pos rfl] at h2
   have l2:=dF e2
   refine x.call [0] Z tR Z h2 Z ⟨⟨Z,Z⟩,tR⟩ ⟨⟨Z,ah Z,Z,Z,tR⟩,tR⟩ ?_
   refine x.exit Z tR ?_
   simp only[cellV,rF,l9,nmV,bnd,e1,e2,if_true,ag0,if_false]
   exact⟨.inl Z,tR,⟨⟨Z,ah Z,Z,Z,tR⟩,⟨Z,Z,Z,Z,Z,Z,Z,Z,Z,tR⟩,⟨Z,Z,Z,λj hj=>by rw[show j=0 by omega];rfl⟩,⟨Z,Z,Z,λ_ _=>rfl⟩,⟨Z,tR⟩,tR⟩,Z⟩
end
def afX:List (Key×V):=[(.inl [115,116,111,114,101],.fn 198 []),(.inl [111,117,116,112,117,116],.fn 199 []),(.inl [106,117,109,112],.fn 200 []),(.inl [98,114,97,110,99,104],.fn 201 []),(.inl [114,101,116,117,114,110],.fn 202 [])]
theorem Vs:Pure PG 180 [] (.own 0) [.tbl afX]:=by
 refine aG.mk (cfg 3) aA [0] Tryz.func180 Z (by kernel_rfl) Z Z Z ?_
 intro C x
 refine x.exit Z ?_ ?_
 ·simp only[ak,tL]
  decide
 ·exact⟨.inr Z,Z,⟨⟨Z,Z,Z,Z,Z,Z,Z,Z,Z,Z,tR⟩,tR⟩,Z⟩
theorem Gv(k:Int):Pure PG 207 [.d (.int .u8 k)] (.fn 208 [.ptr 0 0]) [.box [.d (.int .u8 k)]]:=by
 refine aG.mk (cfg 4) aA [0] Tryz.func207 Z (by kernel_rfl) Z Z Z ?_
 intro C x
 refine x.exit Z tR ?_
 exact⟨.inr Z,Z,⟨⟨Z,tR⟩,tR⟩,Z⟩
def afY:List (Key×V):=[(.inl [99,111,110,115,116],.fn 209 []),(.inl [108,111,97,100],.fn 208 [.ptr 1 0]),(.inl [119,114,97,112],.fn 208 [.ptr 2 0]),(.inl [105,110,112,117,116],.fn 210 []),(.inl [99,97,108,108],.fn 211 []),(.inl [114,101,108,101,97,115,101],.fn 212 []),(.inl [112,104,105],.fn 213 [])]
theorem Ng:Pure PG 204 [] (.own 0) [.tbl afY,.box [.d (.int .u8 4)],.box [.d (.int .u8 5)]]:=by
 refine aG.mk (cfg 8) aA [0,1,2] Tryz.func204 Z (by kernel_rfl) Z Z Z ?_
 intro C x
 refine x.call [] Z tR Z (Gv 4) Z ⟨Z,tR⟩ tR ?_
 refine x.call [] Z ?_ Z (Gv 5) Z ⟨Z,tR⟩ tR ?_
 ·simp only[ak,List.map,tL]
  decide
 refine x.exit Z ?_ ?_
 ·simp only[ak,List.map,tL]
  decide
 ·exact⟨.inr Z,Z,⟨⟨Z,Z,Z,Z,Z,Z,Z,Z,Z,Z,Z,Z,Z,Z,tR⟩,⟨Z,tR⟩,⟨Z,tR⟩,tR⟩,Z⟩
theorem Nh:KI PG.env 3 13 (λj=>.str (opAt j)):=
 ⟨_,.tail _ (.tail _ (.head _)),λj hj=>rfl⟩
def opF(b:List UInt8):Nat->Nat->Nat
 | 0,_=>0
 | k+1,i=>if 0<i∧iO.getD i []=b then i else opF b k (i+1)
def opV(s:BY):Nat:=opF s.data.toList 13 0
structure OW (s:BY) where
 i:Nat
 hi:i≤13
 same:opF s.data.toList (13-i) i=opV s
theorem op_spec(s:BY):Pure PG 203 [vs s] (.tup [.d (.int .u8 (opV s:Int)),vb (decide (opV s≠0))]) []:=by
 refine aG.mk (cfg 20) aA [] Tryz.func203 Z (by kernel_rfl) Z Z Z ?_
 intro C x
 refine x.loop (α:=OW s) (λy=>⟨[(0,vs s),(5,vi (y.i:Int))],[],0⟩) (λy=>13-y.i) ⟨0,by omega,Z⟩ Z tR ⟨⟨Z,Z,tR⟩,tR,Z⟩ (λy=>?_)
 obtain⟨i,hi,same⟩:=y
 change Go C _ ⟨[(0,vs s),(5,vi (i:Int))],[],0⟩ _
 refine x.cond Z tR (λh=>?_) (λh=>?_)
 ·have h:(i:Int)<13:=agP h
  refine x.aeF (λj=>.str (opAt j)) Z tR Z Nh (λ_=>⟨Int.natCast_nonneg _,h⟩) ?_
  have hk:13-i=(12-i)+1:=by omega
  rw[hk,opF] at same
  have e0:(opAt i).data.toList=iO.getD i []:=rfl
  refine x.cond Z tR (λh2=>?_) (λh2=>?_)
  ·have h2:(decide ((0:Int)<(i:Int))&&decide ((opAt (i:Int).toNat).data.toList=s.data.toList))=true:=h2
   simp only[agN,agT,ag1,e0] at h2
   rw[if_pos ⟨by omega,h2.2⟩] at same
   refine x.exit Z tR ?_
   rw[←same]
   refine⟨.inr Z,⟨?_,?_,tR⟩,tR,Z⟩
   ·refine ah ?_
    rw[IntKind.wrap_u8]
    congr 1
    omega
   ·show aI (vb true) (vb (decide (i≠0)))
    rw[decide_eq_true (by omega)];rfl
  ·have h2:(decide ((0:Int)<(i:Int))&&decide ((opAt (i:Int).toNat).data.toList=s.data.toList))=false:=h2
   rw[ag1,e0] at h2
   rw[if_neg (λhh=>by
    rw[decide_eq_true (by omega:(0:Int)<(i:Int)),decide_eq_true hh.2] at h2
    cases h2)] at same
   refine x.back Z ?_ ⟨⟨i+1,by omega,by rw[show 13-(i+1)=12-i by omega];exact same⟩,by show 13-(i+1)<13-i;omega,⟨Z,?_,tR⟩,tR,Z⟩
   ·simp only[ak,aj];omega
   ·show aI (vi ((i:Int)+1)) (vi ((i+1:Nat):Int));rw[agY];rfl
 ·have h:¬(i:Int)<13:=agQ h
  have:i=13:=by omega
  subst this
  refine x.exit Z tR ?_
  rw[←same]
  exact⟨.inr Z,⟨Z,Z,tR⟩,tR,Z⟩
structure Arr where
 name:BY
 size:Int
 level:BY
 at_:Int
abbrev aV(x:Arr):V:=.agg [vs x.name,vi x.size,vs x.level,vi x.at_]
def vD(s:BY)(l:List Tok)(n:Nat):Except (Int×Int) (Nat×Arr):=
 bnd (nmV s l (n+1)) λn1 name=>
  if isV l n1 3=true then
   if (fQ (txV s l n1)).1<1∨256<(fQ (txV s l n1)).1 then .error (atV s l n1,12)
   else bnd (nmV s l (n1+1)) λn2 lv=>.ok (n2,⟨name,(fQ (txV s l n1)).1,lv,atV s l n⟩)
  else .error (atV s l n1,7)
def arrO(s:BY)(l:List Tok)(c:Nat):Except (Int×Int) (Nat×Arr)->Out
 | .ok (n,x)=>.ret (aV x) [pC s l n c]
 | .error (a,e)=>yI a e
section
variable(s:BY)(l:List Tok)(n c:Nat)(hl:qD s l)(hn:n<l.length)
include hl hn in
theorem Ni:aX PG 46 1 [.ptr 0 0] [pC s l n c] (arrO s l c (vD s l n)):=by
 have hll:=hl.2.1
 refine aX.mk (dP 42 1) aA [0] Tryz.func46 rfl (by kernel_rfl) rfl rfl (by rcases vD s l n with⟨a,e⟩ | ⟨n',x'⟩<;>rfl) ?_
 intro C x
 refine x.call [0] Z tR Z (AV s l n c (by omega)) Z ⟨⟨Z,Z⟩,tR⟩ ⟨⟨Z,ah Z,Z,Z,tR⟩,tR⟩ ?_
 have ei:aI (vi ((n:Int)+1)) (vi ((n+1:Nat):Int)):=by rw[agY];rfl
 have h1:=aZ s l (n+1) c hl (by omega)
 cases e1:isV l (n+1) 1 with
 | false=>
  rw[e1,if_neg (by simp)] at h1
  refine x.die [0] Z (by simp only[ak,aj];omega) Z h1 ⟨⟨Z,Z⟩,tR⟩ Z ⟨⟨Z,ah Z,ei,Z,tR⟩,tR⟩ ?_
  simp only[vD,nmV,bnd,e1,if_true,ag0,if_false]
  exact⟨Z,Z⟩
 | true=>
  rw[e1,if_pos rfl] at h1
  have l1:=dF e1
  refine x.call [0] Z (by simp only[ak,aj];omega) Z h1 Z ⟨⟨Z,Z⟩,tR⟩ ⟨⟨Z,ah Z,ei,Z,tR⟩,tR⟩ ?_
  refine x.call [0] Z tR Z (iy s l (n+1+1) c 3) Z ⟨⟨Z,Z⟩,Z,tR⟩ ⟨⟨Z,ah Z,Z,Z,tR⟩,tR⟩ ?_
  have h2:=AX s l (n+1+1) c hl (by omega)
  refine x.cond Z tR (λe2=>?_) (λe2=>?_)
  ·have e2:isV l (n+1+1) 3=true:=e2
   have l2:=dF e2
   rw[e2,if_pos rfl] at h2
   refine x.call [0] Z tR Z (dJ s l (n+1+1) c hl (by omega) 0 (by omega)) Z ⟨⟨Z,Z⟩,Z,tR⟩ ⟨⟨Z,ah Z,Z,Z,tR⟩,tR⟩ ?_
   refine x.pure Z tR Z (nS (txV s l (n+1+1))) ⟨Z,tR⟩ ?_
   refine x.cond Z tR (λe3=>?_) (λe3=>?_)
   ·have e3:(decide ((fQ (txV s l (n+1+1))).1<1)||decide (256<(fQ (txV s l (n+1+1))).1))=true:=e3
    simp only[Bool.or_eq_true,agT] at e3
    refine x.die [0] Z tR Z (lN s l (n+1+1) c (by omega) 12) ⟨⟨Z,Z⟩,Z,tR⟩ Z ⟨⟨Z,ah Z,Z,Z,tR⟩,tR⟩ ?_
    simp only[vD,nmV,bnd,e1,e2,if_true]
    rw[if_pos e3]
    exact⟨Z,Z⟩
   ·have e3:(decide ((fQ (txV s l (n+1+1))).1<1)||decide (256<(fQ (txV s l (n+1+1))).1))=false:=e3
    have e3':¬((fQ (txV s l (n+1+1))).1<1∨256<(fQ (txV s l (n+1+1))).1):=by simpa using e3
    refine x.call [0] Z tR Z h2 Z ⟨⟨Z,Z⟩,tR⟩ ⟨⟨Z,ah Z,Z,Z,tR⟩,tR⟩ ?_
    have h4:=aZ s l (n+1+1+1) c hl (by omega)
    cases e4:isV l (n+1+1+1) 1 with
    | false=>
     rw[e4,if_neg (by simp)] at h4
     refine x.die [0] Z tR Z h4 ⟨⟨Z,Z⟩,tR⟩ Z ⟨⟨Z,ah Z,Z,Z,tR⟩,tR⟩ ?_
     simp only[vD,nmV,bnd,e1,e2,e4,if_true,ag0,if_false]
     rw[if_neg e3']
     exact⟨Z,Z⟩
    | true=>
     rw[e4,if_pos rfl] at h4
     refine x.call [0] Z tR Z h4 Z ⟨⟨Z,Z⟩,tR⟩ ⟨⟨Z,ah Z,Z,Z,tR⟩,tR⟩ ?_
     refine x.exit Z tR ?_
     simp only[vD,nmV,bnd,e1,e2,e4,if_true]
     rw[if_neg e3']
     exact⟨.inr Z,⟨Z,Z,Z,Z,tR⟩,⟨⟨Z,ah Z,Z,Z,tR⟩,tR⟩,Z⟩
  ·have e2:isV l (n+1+1) 3=false:=e2
   rw[e2,if_neg (by simp)] at h2
   refine x.die [0] Z tR Z h2 ⟨⟨Z,Z⟩,tR⟩ Z ⟨⟨Z,ah Z,Z,Z,tR⟩,tR⟩ ?_
   simp only[vD,nmV,bnd,e1,e2,if_true,ag0,if_false]
   exact⟨Z,Z⟩
end
abbrev iC4(x:Ins):Ch:=.box [.d (.int .u8 x.kind),.d (.int .u8 x.op),vs x.dst,vs x.ref,vs x.alt,.own 4,.own 5,vi x.num,vi x.at_]
abbrev HP4(s:BY)(l:List Tok)(n c:Nat)(x:Ins):List Ch:=[pC s l n c,iC4 x,.box [.ptr 1 0],.box [.ptr 0 0],jh x.args,jh x.frm]
def dX(s:BY)(l:List Tok)(n:Nat)(b:UInt8):Except (Int×Int) (Nat×Unit):=if (txV s l n).data.toList=[b] then .ok (n+1,()) else .error (atV s l n,7)
def pW(s:BY)(l:List Tok)(n:Nat)(x:Ins):Except (Int×Int) (Nat×Ins):=
 bnd (nmV s l n) λn f=>bnd (dX s l n 58) λn _=>bnd (nmV s l n) λn a=>.ok (n,{x with frm:=x.frm++[f],args:=x.args++[a]})
def afZ(s:BY)(l:List Tok)(c:Nat):Except (Int×Int) (Nat×Ins)->Out
 | .ok (n,x)=>.ret (.tup []) (HP4 s l n c x)
 | .error (a,e)=>yI a e
section
variable(s:BY)(l:List Tok)(n c:Nat)(hl:qD s l)(hn:n≤l.length)(y:Ins)(hy:y.args.length≤1000)(hy2:y.frm.length≤1000)
include hl hn hy hy2 in
theorem Vt:aX PG 214 4 [.ptr 2 0,.ptr 3 0] (HP4 s l n c y) (afZ s l c (pW s l n y)):=by
 have hll:=hl.2.1
 refine aX.mk (dP 26 4) aA [0,1,2,3,4,5] Tryz.func214 rfl (by kernel_rfl) rfl rfl (by rcases pW s l n y with⟨a,e⟩ | ⟨n',x'⟩<;>rfl) ?_
 intro C x
 have h1:=aZ s l n c hl (by omega)
 cases e1:isV l n 1 with
 | false=>
  rw[e1,if_neg (by simp)] at h1
  refine x.SF [0,1,4,5] 4 [0,5] [0] [1,2,3,4,5] [6,7] [8,9,10,11] Z tR ay (by kernel_rfl) gQ.quiet Z Z tR Z tR (λC1 C2 x1 x2=>?_)
  refine x1.die [0] Z tR Z h1 ⟨⟨Z,Z⟩,tR⟩ Z ⟨⟨Z,ah Z,Z,Z,tR⟩,tR⟩ ⟨⟨_,Z⟩,Z,⟨_,Z⟩,Z,?_⟩
  simp only[pW,nmV,bnd,e1,if_true,ag0,if_false]
  exact⟨Z,Z⟩
 | true=>
  rw[e1,if_pos rfl] at h1
  have l1:=dF e1
  refine x.SF [0,1,4,5] 4 [0,5] [0] [1,2,3,4,5] [6,7] [8,9,10,11] Z tR ay (by kernel_rfl) gQ.quiet Z Z tR Z tR (λC1 C2 x1 x2=>?_)
  refine x1.call [0] Z tR Z h1 Z ⟨⟨Z,Z⟩,tR⟩ ⟨⟨Z,ah Z,Z,Z,tR⟩,tR⟩ ?_
  refine x1.back Z tR ?_
  refine x1.back Z tR ?_
  refine x2.back Z (by simp only[ak,big];omega) ?_
  refine x2.back Z tR ?_
  refine x2.back Z tR ?_
  refine x2.back Z tR ?_
  have h2:=jC s l (n+1) c hl (by omega) ⟨#[58]⟩
  by_cases e2:(txV s l (n+1)).data.toList=[58]
  ·rw[if_pos e2] at h2
   have l2:=jP e2
   refine x.call [0] Z tR Z h2 Z ⟨⟨Z,Z⟩,Z,tR⟩ ⟨⟨Z,ah Z,Z,Z,tR⟩,tR⟩ ?_
   have h3:=aZ s l (n+1+1) c hl (by omega)
   cases e3:isV l (n+1+1) 1 with
   | false=>
    rw[e3,if_neg (by simp)] at h3
    refine x.SF [0,1,4,5,6] 4 [0] [0] [1,2,3,4,5] [6,7] [8,9,10,11] Z tR ay (by kernel_rfl) gQ.quiet Z Z tR Z tR (λC1 C2 x1 x2=>?_)
    refine x1.die [0] Z tR Z h3 ⟨⟨Z,Z⟩,tR⟩ Z ⟨⟨Z,ah Z,Z,Z,tR⟩,tR⟩ ⟨⟨_,Z⟩,Z,⟨_,Z⟩,Z,?_⟩
    simp only[pW,dX,nmV,bnd,e1,e2,e3,if_true,ag0,if_false]
    exact⟨Z,Z⟩
   | true=>
    rw[e3,if_pos rfl] at h3
    refine x.SF [0,1,4,5,6] 4 [0] [0] [1,2,3,4,5] [6,7] [8,9,10,11] Z tR ay (by kernel_rfl) gQ.quiet Z Z tR Z tR (λC1 C2 x1 x2=>?_)
    refine x1.call [0] Z tR Z h3 Z ⟨⟨Z,Z⟩,tR⟩ ⟨⟨Z,ah Z,Z,Z,tR⟩,tR⟩ ?_
    refine x1.back Z tR ?_
    refine x1.back Z tR ?_
    refine x2.back Z (by simp only[ak,big];omega) ?_
    refine x2.back Z tR ?_
    refine x2.back Z tR ?_
    refine x2.back Z tR ?_
    refine x.exit Z tR ?_
    simp only[pW,dX,nmV,bnd,e1,e2,e3,if_true]
    exact⟨.inl Z,tR,⟨⟨Z,ah Z,Z,Z,tR⟩,⟨Z,Z,Z,Z,Z,Z,Z,Z,Z,tR⟩,⟨⟨Z,Z⟩,tR⟩,⟨⟨Z,Z⟩,tR⟩,⟨Z,Z,len1 _ _,λj hj=>ji _ _ j hj⟩,⟨Z,Z,len1 _ _,λj hj=>ji _ _ j hj⟩,tR⟩,Z⟩
  ·rw[if_neg e2] at h2
   refine x.die [0] Z tR Z h2 ⟨⟨Z,Z⟩,Z,tR⟩ Z ⟨⟨Z,ah Z,Z,Z,tR⟩,tR⟩ ?_
   simp only[pW,dX,nmV,bnd,e1,e2,if_true,if_false]
   exact⟨Z,Z⟩
end
theorem Nj{s:BY}{l:List Tok}{n:Nat}{x:Ins}{n':Nat}{x':Ins}(h:pW s l n x=.ok (n',x')):n<n'∧n'≤l.length∧isV l n 1=true∧x'.args.length=x.args.length+1∧x'.frm.length=x.frm.length+1:=by
 unfold pW nmV dX at h
 by_cases e1:isV l n 1=true
 ·simp only[e1,if_true,bnd] at h
  by_cases e2:(txV s l (n+1)).data.toList=[58]
  ·simp only[e2,if_true] at h
   by_cases e3:isV l (n+1+1) 1=true
   ·simp only[e3,if_true,Except.ok.injEq,agW] at h
    obtain⟨rfl,rfl⟩:=h
    have:=dF e3
    exact⟨by omega,by omega,e1,by simp,by simp⟩
   ·simp [e3] at h
  ·simp [e2] at h
 ·simp [e1,bnd] at h
def jR(s:BY)(l:List Tok):Nat->Nat->Nat->Ins->Except (Int×Int) (Nat×Ins)
 | 0,_,_,_=>.error (0,0)
 | f+1,n,k,x=>
  if isV l n 1=true∧64≤k then .error (atV s l n,3)
  else bnd (pW s l n x) λn x=>if (txV s l n).data.toList=[44] then jR s l f (n+1) (k+1) x else .ok (n,x)
structure PW (s:BY) (l:List Tok) (R:Except (Int×Int) (Nat×Ins)) where
 f:Nat
 n:Nat
 k:Nat
 x:Ins
 hf:l.length+1≤f+n
 hn:n≤l.length
 hk:k≤64
 ha:x.args.length≤100+k
 hb:x.frm.length≤100+k
 same:jR s l f n k x=R
section
variable(s:BY)(l:List Tok)(n c:Nat)(hl:qD s l)(hn:n≤l.length)(y:Ins)(hy:y.args.length≤100)(hy2:y.frm.length≤100)
include hl hn hy hy2 in
theorem Qw:aX PG 150 4 [.ptr 0 0,vi 64,.fn 214 [.ptr 2 0,.ptr 3 0]] (HP4 s l n c y) (afZ s l c (jR s l (l.length+1) n 0 y)):=by
 obtain⟨R,hR⟩:∃R,jR s l (l.length+1) n 0 y=R:=⟨_,Z⟩
 rw[hR]
 have hll:=hl.2.1
 refine aX.mk (dP 27 4) aA [0,1,2,3,4,5] Tryz.func150 rfl (by kernel_rfl) rfl rfl (by rcases R with⟨a,e⟩ | ⟨n,o⟩<;>rfl) ?_
 intro C x
 refine x.loop (α:=PW s l R) (λy=>⟨[(0,.ptr 0 0),(1,vi 64),(2,.fn 214 [.ptr 2 0,.ptr 3 0]),(6,vi (y.k:Int))],[(0,pC s l y.n c),(1,iC4 y.x),(2,.box [.ptr 1 0]),(3,.box [.ptr 0 0]),(4,jh y.x.args),(5,jh y.x.frm)],6⟩) (λy=>y.f) ⟨l.length+1,n,0,y,by omega,by omega,by omega,by omega,by omega,hR⟩ Z tR ⟨⟨⟨Z,Z⟩,Z,Z,Z,tR⟩,⟨⟨Z,ah Z,Z,Z,tR⟩,⟨Z,Z,Z,Z,Z,Z,Z,Z,Z,tR⟩,⟨⟨Z,Z⟩,tR⟩,⟨⟨Z,Z⟩,tR⟩,⟨Z,Z,Z,λ_ _=>rfl⟩,⟨Z,Z,Z,λ_ _=>rfl⟩,tR⟩,Z⟩ (λy=>?_)
 obtain⟨f,n,k,y,hf,hn,hk,ha,hb,same⟩:=y
 change Go C _ ⟨[(0,.ptr 0 0),(1,vi 64),(2,.fn 214 [.ptr 2 0,.ptr 3 0]),(6,vi (k:Int))],[(0,pC s l n c),(1,iC4 y),(2,.box [.ptr 1 0]),(3,.box [.ptr 0 0]),(4,jh y.args),(5,jh y.frm)],6⟩ _
 obtain⟨f,rfl⟩:∃f',f=f'+1:=⟨f-1,by omega⟩
 rw[jR] at same
 refine x.call [0] Z tR Z (iy s l n c 1) Z ⟨⟨Z,Z⟩,Z,tR⟩ ⟨⟨Z,ah Z,Z,Z,tR⟩,tR⟩ ?_
 have h1:=Vt s l n c hl hn y (by omega) (by omega)
 obtain⟨V,hV⟩:∃V,pW s l n y=V:=⟨_,Z⟩
 have bad:isV l n 1=false->V=.error (atV s l n,7):=λe=>by rw[←hV,pW,nmV,e];rfl
 rw[hV] at h1 same
 refine x.cond Z tR (λh=>?_) (λh=>?_)
 ·have h:isV l n 1=true:=h
  have h2:=o9 s l n c (by omega) (k:Int) 64
  by_cases h3:64≤k
  ·rw[if_pos ⟨h,h3⟩] at same
   rw[if_pos (by omega)] at h2
   exact x.die [0] Z tR Z h2 ⟨⟨Z,Z⟩,Z,Z,tR⟩ Z ⟨⟨Z,ah Z,Z,Z,tR⟩,tR⟩ (by rw[←same];exact⟨Z,Z⟩)
  ·rw[if_neg (λhh=>h3 hh.2)] at same
   rw[if_neg (by omega)] at h2
   refine x.call [0] Z tR Z h2 Z ⟨⟨Z,Z⟩,Z,Z,tR⟩ ⟨⟨Z,ah Z,Z,Z,tR⟩,tR⟩ ?_
   rcases V with⟨a,e⟩ | ⟨n',y'⟩
   ·exact x.die [0,1,2,3,4,5] Z tR Z h1 ⟨⟨Z,Z⟩,⟨Z,Z⟩,tR⟩ Z ⟨⟨Z,ah Z,Z,Z,tR⟩,⟨Z,Z,Z,Z,Z,Z,Z,Z,Z,tR⟩,⟨⟨Z,Z⟩,tR⟩,⟨⟨Z,Z⟩,tR⟩,⟨Z,Z,Z,λ_ _=>rfl⟩,⟨Z,Z,Z,λ_ _=>rfl⟩,tR⟩ (by rw[←same];exact⟨Z,Z⟩)
   ·obtain⟨p1,p2,_,p4,p5⟩:=Nj hV
    simp only[bnd] at same
    refine x.call [0,1,2,3,4,5] Z tR Z h1 Z ⟨⟨Z,Z⟩,⟨Z,Z⟩,tR⟩ ⟨⟨Z,ah Z,Z,Z,tR⟩,⟨Z,Z,Z,Z,Z,Z,Z,Z,Z,tR⟩,⟨⟨Z,Z⟩,tR⟩,⟨⟨Z,Z⟩,tR⟩,⟨Z,Z,Z,λ_ _=>rfl⟩,⟨Z,Z,Z,λ_ _=>rfl⟩,tR⟩ ?_
    refine x.call [0] Z tR Z (dJ s l n' c hl (by omega) 0 (by omega)) Z ⟨⟨Z,Z⟩,Z,tR⟩ ⟨⟨Z,ah Z,Z,Z,tR⟩,tR⟩ ?_
    refine x.cond Z tR (λh4=>?_) (λh4=>?_)
    ·have h4:(!decide ((txV s l n').data.toList=[44]))=true:=h4
     rw[if_neg (by simpa using h4)] at same
     refine x.exit Z tR ?_
     rw[←same]
     exact⟨.inr Z,tR,⟨⟨Z,ah Z,Z,Z,tR⟩,⟨Z,Z,Z,Z,Z,Z,Z,Z,Z,tR⟩,⟨⟨Z,Z⟩,tR⟩,⟨⟨Z,Z⟩,tR⟩,⟨Z,Z,Z,λ_ _=>rfl⟩,⟨Z,Z,Z,λ_ _=>rfl⟩,tR⟩,Z⟩
    ·have h4:(!decide ((txV s l n').data.toList=[44]))=false:=h4
     have h5:(txV s l n').data.toList=[44]:=by simpa using h4
     have h6:=jP h5
     rw[if_pos h5] at same
     refine x.back Z ?_ ⟨⟨f,n'+1,k+1,y',by omega,by omega,by omega,by omega,by omega,same⟩,by show f<f+1;omega,⟨⟨Z,Z⟩,Z,Z,?_,tR⟩,⟨⟨Z,ah Z,?_,Z,tR⟩,⟨Z,Z,Z,Z,Z,Z,Z,Z,Z,tR⟩,⟨⟨Z,Z⟩,tR⟩,⟨⟨Z,Z⟩,tR⟩,⟨Z,Z,Z,λ_ _=>rfl⟩,⟨Z,Z,Z,λ_ _=>rfl⟩,tR⟩,Z⟩
     ·simp only[ak,aj];omega
     ·show aI (vi ((k:Int)+1)) (vi ((k+1:Nat):Int));rw[agY];rfl
     ·show aI (vi ((n':Int)+1)) (vi ((n'+1:Nat):Int));rw[agY];rfl
 ·have h:isV l n 1=false:=h
  have hb:=bad h
  subst hb
  rw[if_neg (λhh=>by rw[h] at hh;exact absurd hh.1 (by simp))] at same
  exact x.die [0,1,2,3,4,5] Z tR Z h1 ⟨⟨Z,Z⟩,⟨Z,Z⟩,tR⟩ Z ⟨⟨Z,ah Z,Z,Z,tR⟩,⟨Z,Z,Z,Z,Z,Z,Z,Z,Z,tR⟩,⟨⟨Z,Z⟩,tR⟩,⟨⟨Z,Z⟩,tR⟩,⟨Z,Z,Z,λ_ _=>rfl⟩,⟨Z,Z,Z,λ_ _=>rfl⟩,tR⟩ (by rw[←same];exact⟨Z,Z⟩)
end
theorem CB{s:BY}{l:List Tok}:∀{f n k:Nat} {x:Ins} {n':Nat} {x':Ins},jR s l f n k x=.ok (n',x')->n<n'∧n'≤l.length
 | 0,n,k,x,n',x',h=>by simp [jR] at h
 | f+1,n,k,x,n',x',h=>by
  rw[jR] at h
  split at h
  ·cases h
  ·obtain⟨V,hV⟩:∃V,pW s l n x=V:=⟨_,Z⟩
   rw[hV] at h
   rcases V with⟨a,e⟩ | ⟨n1,x1⟩
   ·cases h
   ·obtain⟨p1,p2,_⟩:=Nj hV
    simp only[bnd] at h
    split at h
    ·obtain⟨q1,q2⟩:=CB h
     exact⟨by omega,q2⟩
    ·simp only[Except.ok.injEq,agW] at h
     obtain⟨rfl,rfl⟩:=h
     exact⟨p1,p2⟩
def Gw(s:BY)(l:List Tok)(n:Nat)(x:Ins):Except (Int×Int) (Nat×Ins):=
 bnd (dX s l n 91) λn _=>jQ s l 93 (jR s l (l.length+1) n 0 {x with kind:=3})
section
variable(s:BY)(l:List Tok)(n c:Nat)(hl:qD s l)(hn:n≤l.length)(y:Ins)(hy:y.args.length≤100)(hy2:y.frm.length≤100)
include hl hn hy hy2 in
theorem Vu:aX PG 213 2 [.ptr 0 0,.ptr 1 0] (HX s l n c y) (EJ s l c (Gw s l n y)):=by
 have hll:=hl.2.1
 refine aX.mk (dP 14 2) aA [0,1,2,3] Tryz.func213 Z (by kernel_rfl) Z Z (okI (by omega) _) ?_
 intro C x
 have h1:=jC s l n c hl (by omega) ⟨#[91]⟩
 by_cases e1:(txV s l n).data.toList=[91]
 ·rw[if_pos e1] at h1
  have l1:=jP e1
  refine x.call [0] Z tR Z h1 Z ⟨⟨Z,Z⟩,Z,tR⟩ ⟨⟨Z,ah Z,Z,Z,tR⟩,tR⟩ ?_
  have h2:=Qw s l (n+1) c hl (by omega) {y with kind:=3} hy hy2
  obtain⟨R,hR⟩:∃R,jR s l (l.length+1) (n+1) 0 {y with kind:=3}=R:=⟨_,Z⟩
  have hV:Gw s l n y=jQ s l 93 R:=by rw[Gw,dX,if_pos e1,bnd,hR]
  rw[hR] at h2
  rcases R with⟨a,e⟩ | ⟨n',y'⟩
  ·refine x.die [0,1,5,4,2,3] Z tR Z h2 ⟨⟨Z,Z⟩,Z,Z,tR⟩ Z ⟨⟨Z,ah Z,Z,Z,tR⟩,⟨Z,Z,Z,Z,Z,Z,Z,Z,Z,tR⟩,⟨⟨Z,Z⟩,tR⟩,⟨⟨Z,Z⟩,tR⟩,⟨Z,Z,Z,λ_ _=>rfl⟩,⟨Z,Z,Z,λ_ _=>rfl⟩,tR⟩ ?_
   rw[hV]
   exact⟨Z,Z⟩
  ·obtain⟨q1,q2⟩:=CB hR
   refine x.call [0,1,5,4,2,3] Z tR Z h2 Z ⟨⟨Z,Z⟩,Z,Z,tR⟩ ⟨⟨Z,ah Z,Z,Z,tR⟩,⟨Z,Z,Z,Z,Z,Z,Z,Z,Z,tR⟩,⟨⟨Z,Z⟩,tR⟩,⟨⟨Z,Z⟩,tR⟩,⟨Z,Z,Z,λ_ _=>rfl⟩,⟨Z,Z,Z,λ_ _=>rfl⟩,tR⟩ ?_
   have h3:=jC s l n' c hl (by omega) ⟨#[93]⟩
   by_cases e3:(txV s l n').data.toList=[93]
   ·rw[if_pos e3] at h3
    refine x.call [0] Z tR Z h3 Z ⟨⟨Z,Z⟩,Z,tR⟩ ⟨⟨Z,ah Z,Z,Z,tR⟩,tR⟩ ?_
    refine x.exit Z tR ?_
    rw[hV,jQ,if_pos e3]
    exact⟨.inl Z,tR,⟨⟨Z,ah Z,Z,Z,tR⟩,⟨Z,Z,Z,Z,Z,Z,Z,Z,Z,tR⟩,⟨Z,Z,Z,λ_ _=>rfl⟩,⟨Z,Z,Z,λ_ _=>rfl⟩,tR⟩,Z⟩
   ·rw[if_neg e3] at h3
    refine x.die [0] Z tR Z h3 ⟨⟨Z,Z⟩,Z,tR⟩ Z ⟨⟨Z,ah Z,Z,Z,tR⟩,tR⟩ ?_
    rw[hV,jQ,if_neg e3]
    exact⟨Z,Z⟩
 ·rw[if_neg e1] at h1
  refine x.die [0] Z tR Z h1 ⟨⟨Z,Z⟩,Z,tR⟩ Z ⟨⟨Z,ah Z,Z,Z,tR⟩,tR⟩ ?_
  rw[Gw,dX,if_neg e1,bnd]
  exact⟨Z,Z⟩
end
def AY(s:BY)(l:List Tok)(n:Nat)(x:Ins)(w:List UInt8):Except (Int×Int) (Nat×Ins):=
 if w=[99,111,110,115,116] then oh s l (n+1) x else
 if w=[108,111,97,100] then cellV 4 s l (n+1) x else
 if w=[119,114,97,112] then cellV 5 s l (n+1) x else
 if w=[105,110,112,117,116] then uy s l (n+1) x else
 if w=[99,97,108,108] then yU s l (n+1) x else
 if w=[114,101,108,101,97,115,101] then kJ s l (n+1) x else
 if w=[112,104,105] then Gw s l (n+1) x else
 .error (atV s l n,7)
def dG(s:BY)(l:List Tok)(n:Nat)(x:Ins):Except (Int×Int) (Nat×Ins):=
 if opV (txV s l n)≠0 then bnd (lq s l (n+1) {x with kind:=2,op:=(opV (txV s l n):Int)}) λn x=>lq s l n x
 else AY s l n x (txV s l n).data.toList
section
variable(s:BY)(l:List Tok)(n c:Nat)(hl:qD s l)(hn:n≤l.length)(y:Ins)(hy:y.args.length≤100)(hy2:y.frm.length≤100)
include hl hn hy hy2 in
theorem Nk:aX PG 181 2 [.ptr 0 0,.ptr 1 0] (HX s l n c y) (EJ s l c (dG s l n y)):=by
 have hll:=hl.2.1
 have ei:aI (vi ((n:Int)+1)) (vi ((n+1:Nat):Int)):=by rw[agY];rfl
 refine aX.mk (dP 72 2) aA [0,1,2,3] Tryz.func181 Z (by kernel_rfl) Z Z (okI (by omega) _) ?_
 intro C x
 refine x.call [0] Z tR Z (dJ s l n c hl (by omega) 0 (by omega)) Z ⟨⟨Z,Z⟩,Z,tR⟩ ⟨⟨Z,ah Z,Z,Z,tR⟩,tR⟩ ?_
 obtain⟨w,hw⟩:∃w,txV s l n=w:=⟨_,Z⟩
 rw[show n+0=n from rfl,hw]
 refine x.pure Z tR Z (op_spec w) ⟨Z,tR⟩ ?_
 refine x.call [] Z tR Z Ng Z tR tR ?_
 refine x.look Z tR Z ⟨λe=>?_,λg0=>?_⟩
 ·have ho:opV w=0:=by unfold opV;rw[e];decide
  have lt:n<l.length:=jP (by rw[hw];exact e)
  have hv:dG s l n y=oh s l (n+1) y:=by
   rw[dG,hw,if_neg (by rw[ho];simp),e];rfl
  refine x.cond Z tR (λb=>?_) (λ_=>?_)
  ·have b:decide (opV w≠0)=true:=b
   rw[ho] at b;simp at b
  refine x.cond rfl tR (λ_=>?_) (λb=>by cases b)
  have h1:=Vo s l (n+1) c hl (by omega) y
  rw[hv]
  obtain⟨V,hV⟩:∃V,oh s l (n+1) y=V:=⟨_,Z⟩
  rw[hV] at h1 ⊢
  rcases V with⟨a,b⟩ | ⟨n',y'⟩
  ·exact x.die [0,1,2,3] Z (by simp only[ak,aj];omega) Z h1 ⟨⟨Z,Z⟩,⟨Z,Z⟩,tR⟩ Z ⟨⟨Z,ah Z,ei,Z,tR⟩,⟨Z,Z,Z,Z,Z,Z,Z,Z,Z,tR⟩,⟨Z,Z,Z,λ_ _=>rfl⟩,⟨Z,Z,Z,λ_ _=>rfl⟩,tR⟩ ⟨Z,Z⟩
  ·refine x.call [0,1,2,3] Z (by simp only[ak,aj];omega) Z h1 Z ⟨⟨Z,Z⟩,⟨Z,Z⟩,tR⟩ ⟨⟨Z,ah Z,ei,Z,tR⟩,⟨Z,Z,Z,Z,Z,Z,Z,Z,Z,tR⟩,⟨Z,Z,Z,λ_ _=>rfl⟩,⟨Z,Z,Z,λ_ _=>rfl⟩,tR⟩ ?_
   refine x.exit Z tR ?_
   exact⟨.inl Z,tR,⟨⟨Z,ah Z,Z,Z,tR⟩,⟨Z,Z,Z,Z,Z,Z,Z,Z,Z,tR⟩,⟨Z,Z,Z,λ_ _=>rfl⟩,⟨Z,Z,Z,λ_ _=>rfl⟩,tR⟩,Z⟩
 refine⟨λe=>?_,λg1=>?_⟩
 ·have ho:opV w=0:=by unfold opV;rw[e];decide
  have lt:n<l.length:=jP (by rw[hw];exact e)
  have hv:dG s l n y=cellV 4 s l (n+1) y:=by
   rw[dG,hw,if_neg (by rw[ho];simp),e];rfl
  refine x.cond Z tR (λb=>?_) (λ_=>?_)
  ·have b:decide (opV w≠0)=true:=b
   rw[ho] at b;simp at b
  refine x.cond rfl tR (λ_=>?_) (λb=>by cases b)
  have h1:=JF s l (n+1) c hl (by omega) y 4
  rw[hv]
  obtain⟨V,hV⟩:∃V,cellV 4 s l (n+1) y=V:=⟨_,Z⟩
  rw[hV] at h1 ⊢
  rcases V with⟨a,b⟩ | ⟨n',y'⟩
  ·exact x.die [0,1,2,3,5] Z (by simp only[ak,aj];omega) Z h1 ⟨⟨Z,Z⟩,⟨Z,Z⟩,⟨Z,Z⟩,tR⟩ Z ⟨⟨Z,ah Z,ei,Z,tR⟩,⟨Z,Z,Z,Z,Z,Z,Z,Z,Z,tR⟩,⟨Z,Z,Z,λ_ _=>rfl⟩,⟨Z,Z,Z,λ_ _=>rfl⟩,⟨Z,tR⟩,tR⟩ ⟨Z,Z⟩
  ·refine x.call [0,1,2,3,5] Z (by simp only[ak,aj];omega) Z h1 Z ⟨⟨Z,Z⟩,⟨Z,Z⟩,⟨Z,Z⟩,tR⟩ ⟨⟨Z,ah Z,ei,Z,tR⟩,⟨Z,Z,Z,Z,Z,Z,Z,Z,Z,tR⟩,⟨Z,Z,Z,λ_ _=>rfl⟩,⟨Z,Z,Z,λ_ _=>rfl⟩,⟨Z,tR⟩,tR⟩ ?_
   refine x.exit Z tR ?_
   exact⟨.inl Z,tR,⟨⟨Z,ah Z,Z,Z,tR⟩,⟨Z,Z,Z,Z,Z,Z,Z,Z,Z,tR⟩,⟨Z,Z,Z,λ_ _=>rfl⟩,⟨Z,Z,Z,λ_ _=>rfl⟩,tR⟩,Z⟩
 refine⟨λe=>?_,λg2=>?_⟩
 ·have ho:opV w=0:=by unfold opV;rw[e];decide
  have lt:n<l.length:=jP (by rw[hw];exact e)
  have hv:dG s l n y=cellV 5 s l (n+1) y:=by
   rw[dG,hw,if_neg (by rw[ho];simp),e];rfl
  refine x.cond Z tR (λb=>?_) (λ_=>?_)
  ·have b:decide (opV w≠0)=true:=b
   rw[ho] at b;simp at b
  refine x.cond rfl tR (λ_=>?_) (λb=>by cases b)
  have h1:=JF s l (n+1) c hl (by omega) y 5
  rw[hv]
  obtain⟨V,hV⟩:∃V,cellV 5 s l (n+1) y=V:=⟨_,Z⟩
  rw[hV] at h1 ⊢
  rcases V with⟨a,b⟩ | ⟨n',y'⟩
  ·exact x.die [0,1,2,3,6] Z (by simp only[ak,aj];omega) Z h1 ⟨⟨Z,Z⟩,⟨Z,Z⟩,⟨Z,Z⟩,tR⟩ Z ⟨⟨Z,ah Z,ei,Z,tR⟩,⟨Z,Z,Z,Z,Z,Z,Z,Z,Z,tR⟩,⟨Z,Z,Z,λ_ _=>rfl⟩,⟨Z,Z,Z,λ_ _=>rfl⟩,⟨Z,tR⟩,tR⟩ ⟨Z,Z⟩
  ·refine x.call [0,1,2,3,6] Z (by simp only[ak,aj];omega) Z h1 Z ⟨⟨Z,Z⟩,⟨Z,Z⟩,⟨Z,Z⟩,tR⟩ ⟨⟨Z,ah Z,ei,Z,tR⟩,⟨Z,Z,Z,Z,Z,Z,Z,Z,Z,tR⟩,⟨Z,Z,Z,λ_ _=>rfl⟩,⟨Z,Z,Z,λ_ _=>rfl⟩,⟨Z,tR⟩,tR⟩ ?_
   refine x.exit Z tR ?_
   exact⟨.inl Z,tR,⟨⟨Z,ah Z,Z,Z,tR⟩,⟨Z,Z,Z,Z,Z,Z,Z,Z,Z,tR⟩,⟨Z,Z,Z,λ_ _=>rfl⟩,⟨Z,Z,Z,λ_ _=>rfl⟩,tR⟩,Z⟩
 refine⟨λe=>?_,λg3=>?_⟩
 ·have ho:opV w=0:=by unfold opV;rw[e];decide
  have lt:n<l.length:=jP (by rw[hw];exact e)
  have hv:dG s l n y=uy s l (n+1) y:=by
   rw[dG,hw,if_neg (by rw[ho];simp),e];rfl
  refine x.cond Z tR (λb=>?_) (λ_=>?_)
  ·have b:decide (opV w≠0)=true:=b
   rw[ho] at b;simp at b
  refine x.cond rfl tR (λ_=>?_) (λb=>by cases b)
  have h1:=Vp s l (n+1) c hl (by omega) y
  rw[hv]
  obtain⟨V,hV⟩:∃V,uy s l (n+1) y=V:=⟨_,Z⟩
  rw[hV] at h1 ⊢
  rcases V with⟨a,b⟩ | ⟨n',y'⟩
  ·exact x.die [0,1,2,3] Z (by simp only[ak,aj];omega) Z h1 ⟨⟨Z,Z⟩,⟨Z,Z⟩,tR⟩ Z ⟨⟨Z,ah Z,ei,Z,tR⟩,⟨Z,Z,Z,Z,Z,Z,Z,Z,Z,tR⟩,⟨Z,Z,Z,λ_ _=>rfl⟩,⟨Z,Z,Z,λ_ _=>rfl⟩,tR⟩ ⟨Z,Z⟩
  ·refine x.call [0,1,2,3] Z (by simp only[ak,aj];omega) Z h1 Z ⟨⟨Z,Z⟩,⟨Z,Z⟩,tR⟩ ⟨⟨Z,ah Z,ei,Z,tR⟩,⟨Z,Z,Z,Z,Z,Z,Z,Z,Z,tR⟩,⟨Z,Z,Z,λ_ _=>rfl⟩,⟨Z,Z,Z,λ_ _=>rfl⟩,tR⟩ ?_
   refine x.exit Z tR ?_
   exact⟨.inl Z,tR,⟨⟨Z,ah Z,Z,Z,tR⟩,⟨Z,Z,Z,Z,Z,Z,Z,Z,Z,tR⟩,⟨Z,Z,Z,λ_ _=>rfl⟩,⟨Z,Z,Z,λ_ _=>rfl⟩,tR⟩,Z⟩
 refine⟨λe=>?_,λg4=>?_⟩
 ·have ho:opV w=0:=by unfold opV;rw[e];decide
  have lt:n<l.length:=jP (by rw[hw];exact e)
  have hv:dG s l n y=yU s l (n+1) y:=by
   rw[dG,hw,if_neg (by rw[ho];simp),e];rfl
  refine x.cond Z tR (λb=>?_) (λ_=>?_)
  ·have b:decide (opV w≠0)=true:=b
   rw[ho] at b;simp at b
  refine x.cond rfl tR (λ_=>?_) (λb=>by cases b)
  have h1:=Vq s l (n+1) c hl (by omega) y
  rw[hv]
  obtain⟨V,hV⟩:∃V,yU s l (n+1) y=V:=⟨_,Z⟩
  rw[hV] at h1 ⊢
  rcases V with⟨a,b⟩ | ⟨n',y'⟩
  ·exact x.die [0,1,2,3] Z (by simp only[ak,aj];omega) Z h1 ⟨⟨Z,Z⟩,⟨Z,Z⟩,tR⟩ Z ⟨⟨Z,ah Z,ei,Z,tR⟩,⟨Z,Z,Z,Z,Z,Z,Z,Z,Z,tR⟩,⟨Z,Z,Z,λ_ _=>rfl⟩,⟨Z,Z,Z,λ_ _=>rfl⟩,tR⟩ ⟨Z,Z⟩
  ·refine x.call [0,1,2,3] Z (by simp only[ak,aj];omega) Z h1 Z ⟨⟨Z,Z⟩,⟨Z,Z⟩,tR⟩ ⟨⟨Z,ah Z,ei,Z,tR⟩,⟨Z,Z,Z,Z,Z,Z,Z,Z,Z,tR⟩,⟨Z,Z,Z,λ_ _=>rfl⟩,⟨Z,Z,Z,λ_ _=>rfl⟩,tR⟩ ?_
   refine x.exit Z tR ?_
   exact⟨.inl Z,tR,⟨⟨Z,ah Z,Z,Z,tR⟩,⟨Z,Z,Z,Z,Z,Z,Z,Z,Z,tR⟩,⟨Z,Z,Z,λ_ _=>rfl⟩,⟨Z,Z,Z,λ_ _=>rfl⟩,tR⟩,Z⟩
 refine⟨λe=>?_,λg5=>?_⟩
 ·have ho:opV w=0:=by unfold opV;rw[e];decide
  have lt:n<l.length:=jP (by rw[hw];exact e)
  have hv:dG s l n y=kJ s l (n+1) y:=by
   rw[dG,hw,if_neg (by rw[ho];simp),e];rfl
  refine x.cond Z tR (λb=>?_) (λ_=>?_)
  ·have b:decide (opV w≠0)=true:=b
   rw[ho] at b;simp at b
  refine x.cond rfl tR (λ_=>?_) (λb=>by cases b)
  have h1:=Vr s l (n+1) c hl (by omega) y
  rw[hv]
  obtain⟨V,hV⟩:∃V,kJ s l (n+1) y=V:=⟨_,Z⟩
  rw[hV] at h1 ⊢
  rcases V with⟨a,b⟩ | ⟨n',y'⟩
  ·exact x.die [0,1,2,3] Z (by simp only[ak,aj];omega) Z h1 ⟨⟨Z,Z⟩,⟨Z,Z⟩,tR⟩ Z ⟨⟨Z,ah Z,ei,Z,tR⟩,⟨Z,Z,Z,Z,Z,Z,Z,Z,Z,tR⟩,⟨Z,Z,Z,λ_ _=>rfl⟩,⟨Z,Z,Z,λ_ _=>rfl⟩,tR⟩ ⟨Z,Z⟩
  ·refine x.call [0,1,2,3] Z (by simp only[ak,aj];omega) Z h1 Z ⟨⟨Z,Z⟩,⟨Z,Z⟩,tR⟩ ⟨⟨Z,ah Z,ei,Z,tR⟩,⟨Z,Z,Z,Z,Z,Z,Z,Z,Z,tR⟩,⟨Z,Z,Z,λ_ _=>rfl⟩,⟨Z,Z,Z,λ_ _=>rfl⟩,tR⟩ ?_
   refine x.exit Z tR ?_
   exact⟨.inl Z,tR,⟨⟨Z,ah Z,Z,Z,tR⟩,⟨Z,Z,Z,Z,Z,Z,Z,Z,Z,tR⟩,⟨Z,Z,Z,λ_ _=>rfl⟩,⟨Z,Z,Z,λ_ _=>rfl⟩,tR⟩,Z⟩
 refine⟨λe=>?_,λg6=>?_⟩
 ·have ho:opV w=0:=by unfold opV;rw[e];decide
  have lt:n<l.length:=jP (by rw[hw];exact e)
  have hv:dG s l n y=Gw s l (n+1) y:=by
   rw[dG,hw,if_neg (by rw[ho];simp),e];rfl
  refine x.cond Z tR (λb=>?_) (λ_=>?_)
  ·have b:decide (opV w≠0)=true:=b
   rw[ho] at b;simp at b
  refine x.cond rfl tR (λ_=>?_) (λb=>by cases b)
  have h1:=Vu s l (n+1) c hl (by omega) y hy hy2
  rw[hv]
  obtain⟨V,hV⟩:∃V,Gw s l (n+1) y=V:=⟨_,Z⟩
  rw[hV] at h1 ⊢
  rcases V with⟨a,b⟩ | ⟨n',y'⟩
  ·exact x.die [0,1,2,3] Z (by simp only[ak,aj];omega) Z h1 ⟨⟨Z,Z⟩,⟨Z,Z⟩,tR⟩ Z ⟨⟨Z,ah Z,ei,Z,tR⟩,⟨Z,Z,Z,Z,Z,Z,Z,Z,Z,tR⟩,⟨Z,Z,Z,λ_ _=>rfl⟩,⟨Z,Z,Z,λ_ _=>rfl⟩,tR⟩ ⟨Z,Z⟩
  ·refine x.call [0,1,2,3] Z (by simp only[ak,aj];omega) Z h1 Z ⟨⟨Z,Z⟩,⟨Z,Z⟩,tR⟩ ⟨⟨Z,ah Z,ei,Z,tR⟩,⟨Z,Z,Z,Z,Z,Z,Z,Z,Z,tR⟩,⟨Z,Z,Z,λ_ _=>rfl⟩,⟨Z,Z,Z,λ_ _=>rfl⟩,tR⟩ ?_
   refine x.exit Z tR ?_
   exact⟨.inl Z,tR,⟨⟨Z,ah Z,Z,Z,tR⟩,⟨Z,Z,Z,Z,Z,Z,Z,Z,Z,tR⟩,⟨Z,Z,Z,λ_ _=>rfl⟩,⟨Z,Z,Z,λ_ _=>rfl⟩,tR⟩,Z⟩
 have hd:AY s l n y w.data.toList=.error (atV s l n,7):=by
  rw[AY,if_neg g0,if_neg g1,if_neg g2,if_neg g3,if_neg g4,if_neg g5,if_neg g6]
 refine x.cond Z tR (λb=>?_) (λb=>?_)
 ·have b:decide (opV w≠0)=true:=b
  have b:opV w≠0:=by simpa using b
  have lt:n<l.length:=by
   refine Classical.byContradiction λhh=>b ?_
   rw[←hw,txV,if_neg hh];decide
  have hv:dG s l n y=bnd (lq s l (n+1) {y with kind:=2,op:=(opV w:Int)}) λn x=>lq s l n x:=by
   rw[dG,hw,if_pos b]
  have h1:=aZ s l (n+1) c hl (by omega)
  cases e1:isV l (n+1) 1 with
  | false=>
   rw[e1,if_neg (by simp)] at h1
   refine x.draw [0] [0,1,5] [2,3,4] [6,7] [8,9,10,11] Z (by simp only[ak,aj];omega) ay (by kernel_rfl) gQ.quiet Z tR (λC1 x1=>?_)
   refine x1.die [0] Z tR Z h1 ⟨⟨Z,Z⟩,tR⟩ Z ⟨⟨Z,ah Z,ei,Z,tR⟩,tR⟩ ⟨⟨_,Z⟩,Z,?_⟩
   rw[hv]
   simp only[lq,nmV,bnd,e1,if_true,ag0,if_false]
   exact⟨Z,Z⟩
  | true=>
   rw[e1,if_pos rfl] at h1
   have l1:=dF e1
   refine x.draw [0] [0,1,5] [2,3,4] [6,7] [8,9,10,11] Z (by simp only[ak,aj];omega) ay (by kernel_rfl) gQ.quiet Z tR (λC1 x1=>?_)
   refine x1.call [0] Z tR Z h1 Z ⟨⟨Z,Z⟩,tR⟩ ⟨⟨Z,ah Z,ei,Z,tR⟩,tR⟩ ?_
   refine x1.back Z tR ?_
   refine x1.back Z tR ?_
   refine x.code Z (by simp only[ak,big,List.length_append,List.length_cons,List.length_nil];omega) ?_
   refine x.le (s':=⟨[(0,.ptr 0 0),(1,.ptr 1 0)],[(0,pC s l (n+1+1) c),(1,iC {y with kind:=2,op:=(opV w:Int)}),(2,jh (y.args++[txV s l (n+1)])),(3,jh y.frm)],4⟩) ⟨⟨⟨Z,Z⟩,⟨Z,Z⟩,tR⟩,⟨⟨Z,ah Z,Z,Z,tR⟩,⟨Z,Z,Z,Z,Z,Z,Z,Z,Z,tR⟩,⟨Z,Z,len1 _ _,λj hj=>ji _ _ j hj⟩,⟨Z,Z,Z,λ_ _=>rfl⟩,tR⟩,Z⟩ ?_
   have h2:=aZ s l (n+1+1) c hl (by omega)
   cases e2:isV l (n+1+1) 1 with
   | false=>
    rw[e2,if_neg (by simp)] at h2
    refine x.draw [0] [0,1,5] [2,3,4] [6,7] [8,9,10,11] Z tR ay (by kernel_rfl) gQ.quiet Z tR (λC1 x1=>?_)
    refine x1.die [0] Z tR Z h2 ⟨⟨Z,Z⟩,tR⟩ Z ⟨⟨Z,ah Z,Z,Z,tR⟩,tR⟩ ⟨⟨_,Z⟩,Z,?_⟩
    rw[hv]
    simp only[lq,nmV,bnd,e1,e2,if_true,ag0,if_false]
    exact⟨Z,Z⟩
   | true=>
    rw[e2,if_pos rfl] at h2
    refine x.draw [0] [0,1,5] [2,3,4] [6,7] [8,9,10,11] Z tR ay (by kernel_rfl) gQ.quiet Z tR (λC1 x1=>?_)
    refine x1.call [0] Z tR Z h2 Z ⟨⟨Z,Z⟩,tR⟩ ⟨⟨Z,ah Z,Z,Z,tR⟩,tR⟩ ?_
    refine x1.back Z tR ?_
    refine x1.back Z tR ?_
    refine x.exit Z (by simp only[ak,big,List.length_append,List.length_cons,List.length_nil];omega) ?_
    rw[hv]
    simp only[lq,nmV,bnd,e1,e2,if_true]
    exact⟨.inl Z,tR,⟨⟨Z,ah Z,Z,Z,tR⟩,⟨Z,Z,Z,Z,Z,Z,Z,Z,Z,tR⟩,⟨Z,Z,len1 _ _,λj hj=>ji _ _ j hj⟩,⟨Z,Z,Z,λ_ _=>rfl⟩,tR⟩,Z⟩
 ·have b:decide (opV w≠0)=false:=b
  have b:opV w=0:=by simpa using b
  refine x.cond rfl tR (λb=>by cases b) (λ_=>?_)
  refine x.die [0] Z tR Z (lN s l n c (by omega) 7) ⟨⟨Z,Z⟩,Z,tR⟩ Z ⟨⟨Z,ah Z,Z,Z,tR⟩,tR⟩ ?_
  rw[dG,hw,if_neg (by rw[b];simp),hd]
  exact⟨Z,Z⟩
end
end Go.Proofs.YtojhdmfkfkfcbaaGreatDoor
