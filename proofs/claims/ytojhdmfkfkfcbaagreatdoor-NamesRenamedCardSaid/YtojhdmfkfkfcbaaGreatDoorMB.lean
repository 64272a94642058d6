import Derived.Test.YtojhdmfkfkfcbaaGreatDoorMA
import Derived.Test.YtojhdmfkfkfcbaaGreatDoorSxF
import Derived.Test.YtojhdmfkfkfcbaaGreatDoorSxG
namespace Go.Proofs.YtojhdmfkfkfcbaaGreatDoor
open Go.Sx
set_option linter.unusedVariables false
set_option linter.unusedSimpArgs false
set_option maxRecDepth 100000
structure Tok where
 k:Int
 f:Int
 t:Int
deriving DecidableEq
abbrev Df (t:Tok):List D:=[.int .u8 t.k, .int .i64 t.f, .int .i64 t.t]
abbrev XM (t:Tok):List V:=[.d (.int .u8 t.k),vi t.f,vi t.t]
abbrev tokV (t:Tok):V:=.agg (XM t)
def lX:Tok:=⟨0,0,0⟩
def Cn (b:ByteArray):Bool:=gH b b.size 0 0
def kindOf (b:ByteArray):Int:=if pR b then 2 else if Cn b then 1 else if (eT b).2 then 3 else 0
def bC (s:ByteArray) (p:Nat):Nat:=if bt s p=45∧pU s (p+1)=true then oV s (p+1) else oV s p
def gP (s:ByteArray) (a:Nat):Tok×Int×Int:=
 if skV s false a=s.size then (lX,(s.size:Int),4)
 else if tT (bt s (skV s false a)) then (⟨4,skV s false a,skV s false a+1⟩,0,0)
 else if kindOf (s.extract (skV s false a) (bC s (skV s false a)))=0 then (lX,(skV s false a:Int),6)
 else (⟨kindOf (s.extract (skV s false a) (bC s (skV s false a))),skV s false a,bC s (skV s false a)⟩,0,0)
def Og (s:ByteArray) (a:Int):Tok×Int×Int:=if a<0∨(s.size:Int)<a then (lX,0,1) else gP s a.toNat
theorem AP {s:ByteArray} {a p:Nat} (hp:skV s false a=p) (h:p=s.size):gP s a=(lX,(s.size:Int),4):=by
 unfold gP;rw[hp,if_pos h]
theorem AQ {s:ByteArray} {a p:Nat} (hp:skV s false a=p) (h:p≠s.size) (h2:tT (bt s p)=true):gP s a=(⟨4,p,p+1⟩,0,0):=by
 unfold gP;rw[hp,if_neg h,if_pos h2]
theorem EU {s:ByteArray} {a p:Nat} (hp:skV s false a=p) (h:p≠s.size) (h2:tT (bt s p)=false) (h3:kindOf (s.extract p (bC s p))=0):gP s a=(lX,(p:Int),6):=by
 unfold gP;rw[hp,if_neg h,if_neg (by rw[h2];simp),if_pos h3]
theorem Jl {s:ByteArray} {a p:Nat} (hp:skV s false a=p) (h:p≠s.size) (h2:tT (bt s p)=false) (h3:kindOf (s.extract p (bC s p))≠0):gP s a=(⟨kindOf (s.extract p (bC s p)),p,bC s p⟩,0,0):=by
 unfold gP;rw[hp,if_neg h,if_neg (by rw[h2];simp),if_neg h3]
theorem uW {s:ByteArray} {p:Nat} (hp:p<s.size):p≤bC s p∧bC s p≤s.size:=by
 unfold bC
 split
 ·have:=wz s s.size (p+1) (by omega) (by omega);omega
 ·exact wz s s.size p (by omega) (by omega)
theorem R7 {b:ByteArray} (h:pR b=true):kindOf b=2:=by unfold kindOf;rw[if_pos h]
theorem R8 {b:ByteArray} (h:pR b=false) (h2:Cn b=true):kindOf b=1:=by unfold kindOf;rw[if_neg (by rw[h];simp),if_pos h2]
theorem VD {b:ByteArray} (h:pR b=false) (h2:Cn b=false) (h3:(eT b).2=true):kindOf b=3:=by unfold kindOf;rw[if_neg (by rw[h];simp),if_neg (by rw[h2];simp),if_pos h3]
theorem R9 {b:ByteArray} (h:pR b=false) (h2:Cn b=false) (h3:(eT b).2=false):kindOf b=0:=by unfold kindOf;rw[if_neg (by rw[h];simp),if_neg (by rw[h2];simp),if_neg (by rw[h3];simp)]
theorem Lf (n:Nat) (hn:n<256):decide (0≤Lib.indexByte [40,41,123,125,91,93,44,58,61] n.toUInt8)=tT n:=by
 have:∀n,n<256->decide (0≤Lib.indexByte [40,41,123,125,91,93,44,58,61] n.toUInt8)=tT n:=by decide +kernel
 exact this n hn
theorem Jm (s:ByteArray) (p q:Nat):(s.extract p q).size≤s.size:=by
 rw[ByteArray.size_extract];omega
theorem VE (s:ByteArray) (a:Int) (hs:s.size≤4611686018427387904):Pure PG 88 [vs s,vi a] (.tup [tokV (Og s a).1,vi (Og s a).2.1,vi (Og s a).2.2]) []:=by
 refine aI.mk (cfg 104) av [] Tryz.func88 rfl (by kernel_rfl) rfl rfl rfl ?_
 intro C x
 refine x.cond rfl tR (fun h=>?_) (fun h=>?_)
 ·have h:(decide (a<0)||decide ((s.size:Int)<a))=true:=h
  rw[Bool.or_eq_true,adn,adn] at h
  rw[Og,if_pos h]
  refine x.exit rfl tR ?_
  exact⟨.inr rfl,⟨rfl,rfl,rfl,tR⟩,tR,rfl⟩
 have h:(decide (a<0)||decide ((s.size:Int)<a))=false:=h
 rw[adw,adr,adr] at h
 rw[Og,if_neg (by omega)]
 obtain⟨a,rfl⟩:∃n:Nat,a=n:=⟨a.toNat,by omega⟩
 rw[adv]
 refine x.pure rfl tR rfl (RZ s a (by omega) (by omega)) ⟨rfl,rfl,tR⟩ ?_
 obtain⟨hp1,hp2,hp3⟩:=ER s s.size false a (by omega) (by omega)
 obtain⟨p,hp⟩:∃p,skV s false a=p:=⟨_,rfl⟩
 rw[hp] at hp1 hp2 hp3 ⊢
 refine x.cond rfl tR (fun h2=>?_) (fun h2=>?_)
 ·have h2:p=s.size:=by have h2:(p:Int)=s.size:=adi h2;omega
  rw[AP hp h2]
  refine x.exit rfl tR ?_
  exact⟨.inr rfl,⟨rfl,by show (p:Int)=s.size;omega,rfl,tR⟩,tR,rfl⟩
 have h2:p≠s.size:=by have h2:¬(p:Int)=s.size:=adj h2;omega
 have hpl:p<s.size:=by omega
 have ec:sb s ((p:Int)).toNat=(bt s p:Int):=xC s p
 have hbl:=EL s p
 refine x.pure rfl ?_ rfl (uS ⟨#[40,41,123,125,91,93,44,58,61]⟩ (bt s p:Int)) ⟨rfl,?_,tR⟩ ?_
 ·simp only[aj];omega
 ·exact ec
 rw[adv]
 refine x.cond rfl tR (fun h3=>?_) (fun h3=>?_)
 ·have h3:tT (bt s p)=true:=(Lf _ hbl).symm.trans h3
  rw[AQ hp h2 h3]
  refine x.exit rfl ?_ ?_
  ·simp only[aj,ak];omega
  exact⟨.inr rfl,⟨rfl,rfl,rfl,tR⟩,tR,rfl⟩
 have h3:tT (bt s p)=false:=(Lf _ hbl).symm.trans h3
 refine x.pure rfl ?_ rfl (La (s.extract p s.size) (by have:=Jm s p s.size;omega)) ⟨rfl,tR⟩ ?_
 ·simp only[aj];omega
 have er:=sD hp2 s.size 0 (by omega)
 rw[Nat.add_zero] at er
 obtain⟨e1,e2⟩:=uW hpl
 have hrl:=wz s s.size p (by omega) hp2
 refine x.ite (α:=Unit) (fun _=>⟨[(0,vs s),(1,vi (p:Int)),(4, .ptr 0 0),(7,vi ((bC s p-p:Nat):Int))],[(0, .box (XM lX))],1⟩) rfl ?_ (fun h4=>?_) (fun h4=>?_) (fun _=>?_)
 ·simp only[aj,ak,adg,adn]
  exact⟨by omega,fun _=>by omega,fun _=>by omega,fun _=>by omega,fun _=>by omega,fun _=>by omega⟩
 ·have h4:(((decide (sb s ((p:Int)).toNat=45)&&decide ((p:Int)+1<(s.size:Int)))&&decide (48≤sb s ((p:Int)+1).toNat))&&decide (sb s ((p:Int)+1).toNat≤57))=true:=h4
  have ep1:((p:Int)+1).toNat=p+1:=by omega
  rw[ec,ep1,xC] at h4
  simp only[adg,adn] at h4
  have e45:bt s p=45:=by omega
  have ed:pU s (p+1)=true:=by
   unfold pU
   simp only[adg,adn]
   omega
  have epe:bC s p=oV s (p+1):=by unfold bC;rw[if_pos ⟨e45,ed⟩]
  refine x.pure rfl ?_ rfl (La (s.extract (p+1) s.size) (by have:=Jm s (p+1) s.size;omega)) ⟨?_,tR⟩ ?_
  ·simp only[aj,ak];omega
  ·show s.extract ((p:Int)+1).toNat s.size=s.extract (p+1) s.size
   rw[ep1]
  have er1:=sD (s:=s) (p:=p+1) (by omega) s.size 0 (by omega)
  rw[Nat.add_zero] at er1
  refine x.back rfl ?_ ⟨(),⟨rfl,rfl,⟨rfl,rfl⟩,?_,tR⟩,⟨⟨rfl,rfl,rfl,tR⟩,tR⟩,rfl⟩
  ·simp only[aj,ak];omega
  ·show 1+(oV (s.extract (p+1) s.size) 0:Int)=((bC s p-p:Nat):Int)
   omega
 ·have h4:(((decide (sb s ((p:Int)).toNat=45)&&decide ((p:Int)+1<(s.size:Int)))&&decide (48≤sb s ((p:Int)+1).toNat))&&decide (sb s ((p:Int)+1).toNat≤57))=false:=h4
  have ep1:((p:Int)+1).toNat=p+1:=by omega
  have epe:bC s p=oV s p:=by
   unfold bC
   rw[if_neg]
   rintro ⟨e45,ed⟩
   unfold pU at ed
   simp only[adg,adn] at ed
   rw[ec,ep1,xC] at h4
   rw[decide_eq_true (by omega),decide_eq_true (by omega),decide_eq_true (by omega),decide_eq_true (by omega)] at h4
   cases h4
  refine x.back rfl tR ⟨(),⟨rfl,rfl,⟨rfl,rfl⟩,?_,tR⟩,⟨⟨rfl,rfl,rfl,tR⟩,tR⟩,rfl⟩
  show (oV (s.extract p s.size) 0:Int)=((bC s p-p:Nat):Int)
  omega
 obtain⟨q,hq⟩:∃q,bC s p=q:=⟨_,rfl⟩
 rw[hq] at e1 e2 ⊢
 have eqq:(p:Int)+((q-p:Nat):Int)=(q:Int):=by omega
 obtain⟨b,hb⟩:∃b,s.extract p q=b:=⟨_,rfl⟩
 have hbs:b.size≤s.size:=by rw[←hb];exact Jm s p q
 refine x.pure rfl ?_ rfl (mF b) ⟨?_,tR⟩ ?_
 ·simp only[aj,ak,eqq];omega
 ·show s.extract ((p:Int)).toNat ((p:Int)+((q-p:Nat):Int)).toNat=b
  rw[eqq,adv,adv,hb]
 have ebv:s.extract ((p:Int)).toNat ((p:Int)+((q-p:Nat):Int)).toNat=b:=by rw[eqq,adv,adv,hb]
 refine x.le (s':=⟨[(1,vi (p:Int)),(4, .ptr 0 0),(8, .ptr 1 0),(9,vs b),(87, .tup [vi (eT b).1,vb (eT b).2])],[(0, .box (XM lX)),(1, .box (XM ⟨0,p,q⟩))],2⟩) ?_ ?_
 ·exact⟨⟨rfl,⟨rfl,rfl⟩,⟨rfl,rfl⟩,ebv,⟨rfl,rfl,tR⟩,tR⟩,⟨⟨rfl,rfl,rfl,tR⟩,⟨rfl,rfl,eqq,tR⟩,tR⟩,rfl⟩
 refine x.pure rfl tR rfl (AJ b) ⟨rfl,tR⟩ ?_
 have fin:∀k:Int,kindOf b=k->k≠0->gP s a=(⟨k,p,q⟩,0,0):=fun k hk h0=>by
  rw[Jl hp h2 h3 (by rw[hq,hb,hk];exact h0),hq,hb,hk]
 refine x.cond rfl tR (fun h5=>?_) (fun h5=>?_)
 ·rw[fin 2 (R7 h5) (by decide)]
  refine x.exit rfl tR ?_
  exact⟨.inr rfl,⟨rfl,rfl,rfl,tR⟩,tR,rfl⟩
 refine x.pure rfl tR rfl (AB b (by omega)) ⟨rfl,tR⟩ ?_
 refine x.cond rfl tR (fun h6=>?_) (fun h6=>?_)
 ·rw[fin 1 (R8 h5 h6) (by decide)]
  refine x.exit rfl tR ?_
  exact⟨.inr rfl,⟨rfl,rfl,rfl,tR⟩,tR,rfl⟩
 refine x.cond rfl tR (fun h7=>?_) (fun h7=>?_)
 ·rw[fin 3 (VD h5 h6 h7) (by decide)]
  refine x.exit rfl tR ?_
  exact⟨.inr rfl,⟨rfl,rfl,rfl,tR⟩,tR,rfl⟩
 ·rw[EU hp h2 h3 (by rw[hq,hb];exact R9 h5 h6 h7)]
  refine x.exit rfl tR ?_
  exact⟨.inr rfl,⟨rfl,rfl,rfl,tR⟩,tR,rfl⟩
def acJ (l:List Tok):D:=.sl 3 l.length fun i=>Df (l.getD i lX)
abbrev tv (l:List Tok):V:=.d (acJ l)
abbrev acK (l:List Tok):Ch:=.vec 183 3 l.length fun i=>Df (l.getD i lX)
theorem XO (l:List Tok) (t:Tok) (j:Nat) (hj:j<l.length+1):app l.length (fun i=>Df (l.getD i lX)) (fun _=>Df t) j=Df ((l++[t]).getD j lX):=by
 unfold app
 by_cases h:j<l.length
 ·show cB (j<l.length) (Df (l.getD j lX)) (Df t)=_
  rw[adf,adf,List.getElem?_append_left h]
  simp only[Df,cB,um h]
  rw[if_pos h]
 ·show cB (j<l.length) (Df (l.getD j lX)) (Df t)=_
  have e:j=l.length:=by omega
  rw[adf (l:=l++[t]),List.getElem?_append_right (by omega),e,Nat.sub_self]
  simp only[Df,cB,uo (Nat.lt_irrefl _)]
  rw[if_neg (Nat.lt_irrefl _)]
  rfl
theorem Oh {b:ByteArray} (h:b.size=0):kindOf b=0:=by
 have e:b.data.toList=[]:=List.eq_nil_of_length_eq_zero (by rw[←iW];exact h)
 rw[ba_eq b,e]
 decide +kernel
theorem EW {s:ByteArray} {p q:Nat} (h:kindOf (s.extract p q)≠0):p<q:=by
 rcases Nat.lt_or_ge p q with h1 | h1
 ·exact h1
 ·exact absurd (Oh (by rw[ByteArray.size_extract];omega)) h
theorem qP {s:ByteArray} {a:Nat} (ha:a≤s.size):((gP s a).2.2=0∧(a:Int)≤(gP s a).1.f∧(gP s a).1.f<(gP s a).1.t∧(gP s a).1.t≤s.size)∨(gP s a).2.2=4∨(gP s a).2.2=6:=by
 obtain⟨h1,h2,h3⟩:=ER s s.size false a (by omega) ha
 obtain⟨p,hp⟩:∃p,skV s false a=p:=⟨_,rfl⟩
 rw[hp] at h1 h2
 by_cases e:p=s.size
 ·rw[AP hp e];exact .inr (.inl rfl)
 ·cases hs:tT (bt s p) with
  | true=>
   rw[AQ hp e hs]
   exact .inl ⟨rfl,by show (a:Int)≤p;omega,by show (p:Int)<p+1;omega,by show (p:Int)+1≤s.size;omega⟩
  | false=>
   by_cases hk:kindOf (s.extract p (bC s p))=0
   ·rw[EU hp e hs hk];exact .inr (.inr rfl)
   ·rw[Jl hp e hs hk]
    have h4:=EW hk
    have h5:=uW (s:=s) (p:=p) (by omega)
    exact .inl ⟨rfl,by show (a:Int)≤p;omega,by show (p:Int)<bC s p;omega,by show (bC s p:Int)≤s.size;omega⟩
def oq (s:ByteArray):Nat->Nat->List Tok->List Tok×Int×Int
 | 0,_,_=>([],0,0)
 | n+1,a,out=>if (gP s a).2.2=4 then (out,0,0) else if (gP s a).2.2=0 then oq s n (gP s a).1.t.toNat (out++[(gP s a).1]) else ([],(gP s a).2.1,(gP s a).2.2)
def eU (s:ByteArray):List Tok×Int×Int:=
 if 65536<s.size then ([],0,2)
 else if 0≤dQ s s.size 0 then ([],dQ s s.size 0,5)
 else oq s (s.size+1) 0 []
structure TI3 (s:ByteArray) where
 n:Nat
 a:Nat
 out:List Tok
 ha:a≤s.size
 fuel:s.size+1≤a+n
 len:out.length≤a
 same:oq s n a out=oq s (s.size+1) 0 []
theorem Oi (l:List Tok) (hl:l.length≤big):Pure PG 89 [tv l] (tv l) []:=by
 refine aI.mk (cfg 9) av [] Tryz.func89 rfl (by kernel_rfl) rfl rfl rfl ?_
 intro C x
 unfold big at hl
 refine x.exit rfl ?_ ?_
 ·simp only[aj];omega
 ·exact⟨.inr rfl,au rfl,tR,rfl⟩
theorem Sb (s:ByteArray) (hs:s.size≤4611686018427387904):Pure PG 42 [vs s] (.tup [tv (eU s).1,vi (eU s).2.1,vi (eU s).2.2]) []:=by
 refine aI.mk (cfg 40) av [] Tryz.func42 rfl (by kernel_rfl) rfl rfl rfl ?_
 intro C x
 refine x.cond rfl tR (fun h=>?_) (fun h=>?_)
 ·have h:(65536:Int)<s.size:=adi h
  rw[eU,if_pos (by omega)]
  refine x.exit rfl tR ?_
  exact⟨.inr rfl,⟨rfl,rfl,rfl,tR⟩,tR,rfl⟩
 have h:¬(65536:Int)<s.size:=adj h
 rw[eU,if_neg (by omega)]
 refine x.pure rfl tR rfl (Ht s (by omega)) ⟨rfl,tR⟩ ?_
 refine x.cond rfl tR (fun h2=>?_) (fun h2=>?_)
 ·have h2:0≤dQ s s.size 0:=adi h2
  rw[if_pos h2]
  refine x.exit rfl tR ?_
  exact⟨.inr rfl,⟨rfl,rfl,rfl,tR⟩,tR,rfl⟩
 have h2:¬0≤dQ s s.size 0:=adj h2
 rw[if_neg h2]
 refine x.toLoop rfl tR ?_
 refine Go.own 6 183 3 (fun j=>Df (([]:List Tok).getD j lX)) rfl ?_
 refine x.loop (α:=TI3 s) (fun y=>⟨[(0,vs s),(6, .own 0),(7,vi (y.a:Int))],[(0,acK y.out)],1⟩) (fun y=>y.n) ⟨s.size+1,0,[],by omega,by omega,by simp,rfl⟩ rfl tR ⟨⟨rfl,rfl,rfl,tR⟩,⟨⟨rfl,rfl,rfl,fun j hj=>absurd hj (adp _)⟩,tR⟩,rfl⟩ (fun y=>?_)
 obtain⟨n,a,out,hal,fuel,len,same⟩:=y
 change Go C _ ⟨[(0,vs s),(6, .own 0),(7,vi (a:Int))],[(0,acK out)],1⟩ _
 obtain⟨n,rfl⟩:∃m,n=m+1:=⟨n-1,by omega⟩
 refine x.pure rfl tR rfl (VE s (a:Int) hs) ⟨rfl,rfl,tR⟩ ?_
 rw[show Og s (a:Int)=gP s a by rw[Og,if_neg (by omega),adv]]
 have hf:=qP hal
 rw[oq] at same
 obtain⟨⟨t,place,e⟩,hr⟩:∃r,gP s a=r:=⟨_,rfl⟩
 rw[hr] at hf same ⊢
 dsimp only at hf same
 refine x.cond rfl tR (fun h3=>?_) (fun h3=>?_)
 ·have h3:e=4:=adi h3
  rw[if_pos h3] at same
  rw[←same]
  refine Sx.Go.freeze 0 ?_
  refine x.pure rfl tR rfl (Oi out (by unfold big;omega)) ⟨au rfl,tR⟩ ?_
  refine x.exit rfl tR ?_
  exact⟨.inr rfl,⟨ah rfl,rfl,rfl,tR⟩,tR,rfl⟩
 have h3:e≠4:=adj h3
 rw[if_neg h3] at same
 refine x.cond rfl tR (fun h4=>?_) (fun h4=>?_)
 ·have h4:(!decide (e=0))=true:=h4
  have h4:e≠0:=by simpa using h4
  rw[if_neg h4] at same
  rw[←same]
  refine x.exit rfl tR ?_
  exact⟨.inr rfl,⟨rfl,rfl,rfl,tR⟩,tR,rfl⟩
 have h4:(!decide (e=0))=false:=h4
 have h4:e=0:=by simpa using h4
 rw[if_pos h4] at same
 have hb:(a:Int)≤t.f∧t.f<t.t∧t.t≤s.size:=by
  rcases hf with h | h | h
  ·exact h.2
  ·omega
  ·omega
 refine x.back rfl ?_ ⟨⟨n,t.t.toNat,out++[t],by omega,by omega,by rw[List.length_append];simp only[List.length_cons,List.length_nil];omega,same⟩,by show n<n+1;omega,⟨rfl,rfl,?_,tR⟩,⟨⟨rfl,rfl,?_,fun j hj=>XO out t j hj⟩,tR⟩,rfl⟩
 ·simp only[aj,big];omega
 ·show t.t=((t.t.toNat:Nat):Int);omega
 ·show out.length+1=(out++[t]).length;simp
theorem Lg (s:ByteArray):∀(n a:Nat) (out:List Tok),a≤s.size->out.length≤a->(oq s n a out).1.length≤s.size
 | 0,a,out,_,_=>by simp [oq]
 | n+1,a,out,ha,hl=>by
  rw[oq]
  split
  ·show out.length≤s.size;omega
  ·split
   ·rename_i h0
    have hf:=qP ha
    have hb:(a:Int)≤(gP s a).1.f∧(gP s a).1.f<(gP s a).1.t∧(gP s a).1.t≤s.size:=by
     rcases hf with h | h | h
     ·exact h.2
     ·omega
     ·omega
    exact Lg s n _ _ (by omega) (by rw[List.length_append];simp only[List.length_cons,List.length_nil];omega)
   ·simp
theorem XP (s:ByteArray):(eU s).1.length≤s.size:=by
 unfold eU
 split
 ·simp
 ·split
  ·simp
  ·exact Lg s _ 0 [] (by omega) (by simp)
def oW (s:ByteArray) (l:List Tok):Prop:=(∀t,t∈l->0≤t.f∧t.f<t.t∧t.t≤s.size)∧l.length≤140737488355328∧s.size≤140737488355328
abbrev pC (s:ByteArray) (l:List Tok) (n c:Nat):Ch:=.box [vs s,tv l,vi (n:Int),vi (c:Int)]
def atV (s:ByteArray) (l:List Tok) (n:Nat):Int:=if n<l.length then (l.getD n lX).f else (s.size:Int)
def txV (s:ByteArray) (l:List Tok) (k:Nat):ByteArray:=if k<l.length then s.extract (l.getD k lX).f.toNat (l.getD k lX).t.toNat else .empty
def isV (l:List Tok) (n:Nat) (k:Int):Bool:=decide (n<l.length)&&decide ((l.getD n lX).k=k)
abbrev Co:Nat:=106
abbrev wS (at_ e:Int):Out:=.die Co [(.i64,at_),(.i64,e)]
theorem oW.get {s:ByteArray} {l:List Tok} (h:oW s l) {n:Nat} (hn:n<l.length):0≤(l.getD n lX).f∧(l.getD n lX).f<(l.getD n lX).t∧(l.getD n lX).t≤s.size:=by
 rw[adf,adh hn]
 exact h.1 _ (List.getElem_mem hn)
section
variable (s:ByteArray) (l:List Tok) (n c:Nat) (hl:oW s l) (hn:n≤1000000000000000) (hc:c≤1000000)
include hn in
theorem zx:aI PG 90 1 [.ptr 0 0] [pC s l n c] (vi (atV s l n)) [pC s l n c]:=by
 refine aI.mk (dG 29 1) av [0] Tryz.func90 rfl (by kernel_rfl) rfl rfl rfl ?_
 intro C x
 refine x.quiet rfl tR ay (by kernel_rfl) ?_
 refine x.dW rfl tR ?_
 refine x.cond rfl tR (fun h=>?_) (fun h=>?_)
 ·have h:(n:Int)<(l.length:Int):=adi h
  rw[atV,if_pos (by omega)]
  refine x.quiet rfl tR ay (by kernel_rfl) ?_
  refine x.dW rfl ?_ ?_
  ·show 0≤(n:Int)∧(n:Int)<(l.length:Int)
   omega
  refine x.exit rfl tR ?_
  exact⟨.inr rfl,rfl,⟨⟨rfl,ah rfl,rfl,rfl,tR⟩,tR⟩,rfl⟩
 ·have h:¬(n:Int)<(l.length:Int):=adj h
  rw[atV,if_neg (by omega)]
  refine x.exit rfl tR ?_
  exact⟨.inr rfl,rfl,⟨⟨rfl,ah rfl,rfl,rfl,tR⟩,tR⟩,rfl⟩
include hn in
theorem kJ (e:Int):Gs PG 48 [.ptr 0 0,vi e] [pC s l n c] Co [(.i64,atV s l n),(.i64,e)]:=by
 refine aW.mk (out:=wS (atV s l n) e) (dG 9 1) av [0] Tryz.func48 rfl (by kernel_rfl) rfl rfl rfl ?_
 intro C x
 refine x.call [0] rfl tR rfl (zx s l n c hn) rfl ⟨⟨rfl,rfl⟩,tR⟩ ⟨⟨rfl,ah rfl,rfl,rfl,tR⟩,tR⟩ ?_
 exact x.raise rfl tR rfl rfl rfl ⟨rfl,rfl⟩
include hn in
theorem nM (a b:Int):aW PG 45 1 [.ptr 0 0,vi a,vi b] [pC s l n c] (if b≤a then wS (atV s l n) 3 else .ret (.tup []) [pC s l n c]):=by
 refine aW.mk (dG 11 1) av [0] Tryz.func45 rfl (by kernel_rfl) rfl rfl (by split<;>rfl) ?_
 intro C x
 refine x.cond rfl tR (fun h=>?_) (fun h=>?_)
 ·have h:b≤a:=adi h
  rw[if_pos h]
  exact x.die [0] rfl tR rfl (kJ s l n c hn 3) ⟨⟨rfl,rfl⟩,rfl,tR⟩ rfl ⟨⟨rfl,ah rfl,rfl,rfl,tR⟩,tR⟩ ⟨rfl,rfl⟩
 ·have h:¬b≤a:=adj h
  rw[if_neg h]
  refine x.exit rfl tR ?_
  exact⟨.inl rfl,tR,⟨⟨rfl,ah rfl,rfl,rfl,tR⟩,tR⟩,rfl⟩
include hl hn in
theorem dA (k:Nat) (hk:k≤1):aI PG 44 1 [.ptr 0 0,vi (k:Int)] [pC s l n c] (vs (txV s l (n+k))) [pC s l n c]:=by
 refine aI.mk (dG 40 1) av [0] Tryz.func44 rfl (by kernel_rfl) rfl rfl rfl ?_
 intro C x
 refine x.cond rfl ?_ (fun h=>?_) (fun h=>?_)
 ·simp only[aj,ak];omega
 ·have h:(n:Int)+k<(l.length:Int):=adi h
  have h':n+k<l.length:=by omega
  have ht:=hl.get h'
  have hi:((n:Int)+k).toNat=n+k:=by omega
  rw[txV,if_pos h']
  have hsz:s.size≤140737488355328:=hl.2.2
  refine x.quiet rfl tR ay (by kernel_rfl) ?_
  refine x.dW rfl ?_ ?_
  ·simp only[aj,hi]
   omega
  refine x.exit rfl tR ?_
  refine⟨.inr rfl,?_,⟨⟨rfl,ah rfl,rfl,rfl,tR⟩,tR⟩,rfl⟩
  rw[←hi];rfl
 ·have h:¬(n:Int)+k<(l.length:Int):=adj h
  rw[txV,if_neg (by omega)]
  refine x.exit rfl tR ?_
  exact⟨.inr rfl,rfl,⟨⟨rfl,ah rfl,rfl,rfl,tR⟩,tR⟩,rfl⟩
theorem gI (k:Int):aI PG 92 1 [.ptr 0 0, .d (.int .u8 k)] [pC s l n c] (vb (isV l n k)) [pC s l n c]:=by
 refine aI.mk (dG 30 1) av [0] Tryz.func92 rfl (by kernel_rfl) rfl rfl rfl ?_
 intro C x
 refine x.quiet rfl tR ay (by kernel_rfl) ?_
 refine x.dW rfl ?_ ?_
 ·simp only[aj,adn]
  omega
 refine x.exit rfl tR ?_
 refine⟨.inr rfl,?_,⟨⟨rfl,ah rfl,rfl,rfl,tR⟩,tR⟩,rfl⟩
 show aG (vb (decide ((n:Int)<(l.length:Int))&&decide ((l.getD ((n:Int).toNat) lX).k=k))) (vb (isV l n k))
 rw[isV,adv,show decide ((n:Int)<(l.length:Int))=decide (n<l.length) by simp]
 rfl
include hl hn in
theorem Hy (k:Int):aW PG 149 1 [.ptr 0 0, .d (.int .u8 k)] [pC s l n c] (if isV l n k=true then .ret (vs (txV s l n)) [pC s l (n+1) c] else wS (atV s l n) 7):=by
 refine aW.mk (dG 22 1) av [0] Tryz.func149 rfl (by kernel_rfl) rfl rfl (by split<;>rfl) ?_
 intro C x
 refine x.call [0] rfl tR rfl (gI s l n c k) rfl ⟨⟨rfl,rfl⟩,rfl,tR⟩ ⟨⟨rfl,ah rfl,rfl,rfl,tR⟩,tR⟩ ?_
 refine x.cond rfl tR (fun h=>?_) (fun h=>?_)
 ·have h:isV l n k=false:=by simpa using h
  rw[h,if_neg (by simp)]
  exact x.die [0] rfl tR rfl (kJ s l n c hn 7) ⟨⟨rfl,rfl⟩,rfl,tR⟩ rfl ⟨⟨rfl,ah rfl,rfl,rfl,tR⟩,tR⟩ ⟨rfl,rfl⟩
 ·have h:isV l n k=true:=by simpa using h
  rw[h,if_pos rfl]
  refine x.call [0] rfl tR rfl (dA s l n c hl hn 0 (by omega)) rfl ⟨⟨rfl,rfl⟩,rfl,tR⟩ ⟨⟨rfl,ah rfl,rfl,rfl,tR⟩,tR⟩ ?_
  refine x.exit rfl ?_ ?_
  ·simp only[aj,ak];omega
  ·exact⟨.inr rfl,rfl,⟨⟨rfl,ah rfl,by show aG (vi ((n:Int)+1)) (vi ((n+1:Nat):Int));rw[ads];rfl,rfl,tR⟩,tR⟩,rfl⟩
include hl hn in
theorem iX (t:ByteArray):aW PG 95 1 [.ptr 0 0,vs t] [pC s l n c] (if (txV s l n).data.toList=t.data.toList then .ret (.tup []) [pC s l (n+1) c] else wS (atV s l n) 7):=by
 refine aW.mk (dG 17 1) av [0] Tryz.func95 rfl (by kernel_rfl) rfl rfl (by split<;>rfl) ?_
 intro C x
 refine x.call [0] rfl tR rfl (dA s l n c hl hn 0 (by omega)) rfl ⟨⟨rfl,rfl⟩,rfl,tR⟩ ⟨⟨rfl,ah rfl,rfl,rfl,tR⟩,tR⟩ ?_
 refine x.cond rfl tR (fun h=>?_) (fun h=>?_)
 ·have h:(!decide ((txV s l n).data.toList=t.data.toList))=true:=h
  rw[if_neg (by simpa using h)]
  exact x.die [0] rfl tR rfl (kJ s l n c hn 7) ⟨⟨rfl,rfl⟩,rfl,tR⟩ rfl ⟨⟨rfl,ah rfl,rfl,rfl,tR⟩,tR⟩ ⟨rfl,rfl⟩
 ·have h:(!decide ((txV s l n).data.toList=t.data.toList))=false:=h
  rw[if_pos (by simpa using h)]
  refine x.exit rfl ?_ ?_
  ·simp only[aj,ak];omega
  ·exact⟨.inl rfl,tR,⟨⟨rfl,ah rfl,by show aG (vi ((n:Int)+1)) (vi ((n+1:Nat):Int));rw[ads];rfl,rfl,tR⟩,tR⟩,rfl⟩
include hl hn in
theorem aX:aW PG 91 1 [.ptr 0 0] [pC s l n c] (if isV l n 1=true then .ret (vs (txV s l n)) [pC s l (n+1) c] else wS (atV s l n) 7):=by
 refine aW.mk (dG 5 1) av [0] Tryz.func91 rfl (by kernel_rfl) rfl rfl (by split<;>rfl) ?_
 intro C x
 have ht:=Hy s l n c hl hn 1
 cases h:isV l n 1 with
 | false=>
  rw[h,if_neg (by simp)] at ht
  rw[if_neg (by simp)]
  exact x.die [0] rfl tR rfl ht ⟨⟨rfl,rfl⟩,rfl,tR⟩ rfl ⟨⟨rfl,ah rfl,rfl,rfl,tR⟩,tR⟩ ⟨rfl,rfl⟩
 | true=>
  rw[h,if_pos rfl] at ht
  rw[if_pos rfl]
  refine x.call [0] rfl tR rfl ht rfl ⟨⟨rfl,rfl⟩,rfl,tR⟩ ⟨⟨rfl,ah rfl,rfl,rfl,tR⟩,tR⟩ ?_
  refine x.exit rfl tR ?_
  exact⟨.inr rfl,rfl,⟨⟨rfl,ah rfl,rfl,rfl,tR⟩,tR⟩,rfl⟩
def Gv (s:ByteArray) (l:List Tok) (n:Nat):Bool:=isV l n 1&&decide ((txV s l (n+1)).data.toList=[58])
include hl hn in
theorem Cq:aI PG 97 1 [.ptr 0 0] [pC s l n c] (vb (Gv s l n)) [pC s l n c]:=by
 refine aI.mk (dG 10 1) av [0] Tryz.func97 rfl (by kernel_rfl) rfl rfl rfl ?_
 intro C x
 refine x.call [0] rfl tR rfl (gI s l n c 1) rfl ⟨⟨rfl,rfl⟩,rfl,tR⟩ ⟨⟨rfl,ah rfl,rfl,rfl,tR⟩,tR⟩ ?_
 refine x.nS [0] rfl tR rfl (fun _=>dA s l n c hl hn 1 (by omega)) rfl ⟨⟨rfl,rfl⟩,rfl,tR⟩ ⟨⟨rfl,ah rfl,rfl,rfl,tR⟩,tR⟩ ⟨⟨rfl,ah rfl,rfl,rfl,tR⟩,tR⟩ ?_
 refine x.exit rfl tR ?_
 exact⟨.inr rfl,rfl,⟨⟨rfl,ah rfl,rfl,rfl,tR⟩,tR⟩,rfl⟩
include hl hn in
theorem zy:aW PG 93 1 [.ptr 0 0] [pC s l n c] (if isV l n 3=true then .ret (vi (eT (txV s l n)).1) [pC s l (n+1) c] else wS (atV s l n) 7):=by
 refine aW.mk (dG 12 1) av [0] Tryz.func93 rfl (by kernel_rfl) rfl rfl (by split<;>rfl) ?_
 intro C x
 have ht:=Hy s l n c hl hn 3
 cases h:isV l n 3 with
 | false=>
  rw[h,if_neg (by simp)] at ht
  rw[if_neg (by simp)]
  exact x.die [0] rfl tR rfl ht ⟨⟨rfl,rfl⟩,rfl,tR⟩ rfl ⟨⟨rfl,ah rfl,rfl,rfl,tR⟩,tR⟩ ⟨rfl,rfl⟩
 | true=>
  rw[h,if_pos rfl] at ht
  rw[if_pos rfl]
  refine x.call [0] rfl tR rfl ht rfl ⟨⟨rfl,rfl⟩,rfl,tR⟩ ⟨⟨rfl,ah rfl,rfl,rfl,tR⟩,tR⟩ ?_
  refine x.pure rfl tR rfl (mF (txV s l n)) ⟨rfl,tR⟩ ?_
  refine x.exit rfl tR ?_
  exact⟨.inr rfl,rfl,⟨⟨rfl,ah rfl,rfl,rfl,tR⟩,tR⟩,rfl⟩
end
abbrev gQ (o:List ByteArray):Ch:=.vec 9 1 o.length fun i=>[.str (o.getD i .empty)]
theorem jd (o:List ByteArray) (t:ByteArray) (j:Nat) (hj:j<o.length+1):app o.length (fun i=>[D.str (o.getD i .empty)]) (fun _=>[D.str t]) j=[D.str ((o++[t]).getD j .empty)]:=by
 unfold app
 by_cases h:j<o.length
 ·show cB (j<o.length) [D.str (o.getD j .empty)] [D.str t]=_
  rw[adf,adf,List.getElem?_append_left h]
  simp only[cB,um h]
  rw[if_pos h]
 ·show cB (j<o.length) [D.str (o.getD j .empty)] [D.str t]=_
  have e:j=o.length:=by omega
  rw[adf (l:=o++[t]),List.getElem?_append_right (by omega),e,Nat.sub_self]
  simp only[cB,uo (Nat.lt_irrefl _)]
  rw[if_neg (Nat.lt_irrefl _)]
  rfl
section
variable (s:ByteArray) (l:List Tok) (n c:Nat) (hl:oW s l) (hn:n≤1000000000000000) (hc:c≤1000000)
include hl hn in
theorem Lh (o:List ByteArray) (ho:o.length≤1000):aW PG 151 3 [.ptr 1 0, .ptr 2 0] [pC s l n c, .box [.own 3], .box [.ptr 0 0],gQ o] (if isV l n 1=true then .ret (.tup []) [pC s l (n+1) c, .box [.own 3], .box [.ptr 0 0],gQ (o++[txV s l n])] else wS (atV s l n) 7):=by
 refine aW.mk (dG 7 3) av [0,1,2,3] Tryz.func151 rfl (by kernel_rfl) rfl rfl (by split<;>rfl) ?_
 intro C x
 have ht:=aX s l n c hl hn
 cases h:isV l n 1 with
 | false=>
  rw[h,if_neg (by simp)] at ht
  rw[if_neg (by simp)]
  refine x.draw [0] [] [0,1] [2,3] [4,5] rfl tR ay (by kernel_rfl) fU.quiet rfl tR (fun C1 x1=>?_)
  exact x1.die [0] rfl tR rfl ht ⟨⟨rfl,rfl⟩,tR⟩ rfl ⟨⟨rfl,ah rfl,rfl,rfl,tR⟩,tR⟩ ⟨⟨_,rfl⟩,rfl,rfl,rfl⟩
 | true=>
  rw[h,if_pos rfl] at ht
  rw[if_pos rfl]
  refine x.draw [0] [] [0,1] [2,3] [4,5] rfl tR ay (by kernel_rfl) fU.quiet rfl tR (fun C1 x1=>?_)
  refine x1.call [0] rfl tR rfl ht rfl ⟨⟨rfl,rfl⟩,tR⟩ ⟨⟨rfl,ah rfl,rfl,rfl,tR⟩,tR⟩ ?_
  refine x1.back rfl tR ?_
  refine x1.back rfl tR ?_
  refine x.exit rfl ?_ ?_
  ·simp only[aj,big];omega
  ·refine⟨.inl rfl,tR,⟨⟨rfl,ah rfl,rfl,rfl,tR⟩,⟨rfl,tR⟩,⟨⟨rfl,rfl⟩,tR⟩,⟨rfl,rfl,?_,fun j hj=>jd o _ j hj⟩,tR⟩,rfl⟩
   show o.length+1=(o++[txV s l n]).length
   simp
end
def kS (s:ByteArray) (l:List Tok):Nat->Nat->Nat->List ByteArray->Except (Int×Int) (Nat×List ByteArray)
 | 0,_,_,_=>.error (0,0)
 | f+1,n,k,out=>
  if isV l n 1=true then
   if 6≤k then .error (atV s l n,3)
   else if (txV s l (n+1)).data.toList=[44] then kS s l f (n+2) (k+1) (out++[txV s l n])
   else .ok (n+1,out++[txV s l n])
  else .error (atV s l n,7)
def aac (s:ByteArray) (l:List Tok) (c:Nat):Except (Int×Int) (Nat×List ByteArray)->Out
 | .ok (n,o)=>.ret (.tup []) [pC s l n c, .box [.own 3], .box [.ptr 0 0],gQ o]
 | .error (a,e)=>wS a e
structure LW (s:ByteArray) (l:List Tok) (R:Except (Int×Int) (Nat×List ByteArray)) where
 f:Nat
 n:Nat
 k:Nat
 out:List ByteArray
 hf:l.length+2≤f+n
 hn:n≤l.length+1
 hk:k≤6
 ho:out.length=k
 same:kS s l f n k out=R
theorem dn {l:List Tok} {n:Nat} {k:Int} (h:isV l n k=true):n<l.length:=by
 unfold isV at h
 simp only[adg,adn] at h
 exact h.1
section
variable (s:ByteArray) (l:List Tok) (n c:Nat) (hl:oW s l) (hn:n≤l.length)
include hl hn in
theorem Oj:aW PG 150 3 [.ptr 0 0,vi 6, .fn 151 [.ptr 1 0, .ptr 2 0]] [pC s l n c, .box [.own 3], .box [.ptr 0 0],gQ []] (aac s l c (kS s l (l.length+2) n 0 [])):=by
 obtain⟨R,hR⟩:∃R,kS s l (l.length+2) n 0 []=R:=⟨_,rfl⟩
 rw[hR]
 have hll:=hl.2.1
 refine aW.mk (dG 27 3) av [0,1,2,3] Tryz.func150 rfl (by kernel_rfl) rfl rfl (by rcases R with⟨a,e⟩ | ⟨n,o⟩<;>rfl) ?_
 intro C x
 refine x.loop (α:=LW s l R) (fun y=>⟨[(0, .ptr 0 0),(1,vi 6),(2, .fn 151 [.ptr 1 0, .ptr 2 0]),(6,vi (y.k:Int))],[(0,pC s l y.n c),(1, .box [.own 3]),(2, .box [.ptr 0 0]),(3,gQ y.out)],4⟩) (fun y=>y.f) ⟨l.length+2,n,0,[],by omega,by omega,by omega,rfl,hR⟩ rfl tR ⟨⟨⟨rfl,rfl⟩,rfl,rfl,rfl,tR⟩,⟨⟨rfl,ah rfl,rfl,rfl,tR⟩,⟨rfl,tR⟩,⟨⟨rfl,rfl⟩,tR⟩,⟨rfl,rfl,rfl,fun j hj=>absurd hj (adp _)⟩,tR⟩,rfl⟩ (fun y=>?_)
 obtain⟨f,n,k,out,hf,hn,hk,ho,same⟩:=y
 have hn2:n≤1000000000000000:=by omega
 change Go C _ ⟨[(0, .ptr 0 0),(1,vi 6),(2, .fn 151 [.ptr 1 0, .ptr 2 0]),(6,vi (k:Int))],[(0,pC s l n c),(1, .box [.own 3]),(2, .box [.ptr 0 0]),(3,gQ out)],4⟩ _
 refine x.call [0] rfl tR rfl (gI s l n c 1) rfl ⟨⟨rfl,rfl⟩,rfl,tR⟩ ⟨⟨rfl,ah rfl,rfl,rfl,tR⟩,tR⟩ ?_
 have h1:=Lh s l n c hl hn2 out (by omega)
 cases f with
 | zero=>omega
 | succ f=>
 rw[kS] at same
 refine x.cond rfl tR (fun h=>?_) (fun h=>?_)
 ·have h:isV l n 1=true:=h
  have hlt:=dn h
  rw[if_pos h] at same h1
  have h2:=nM s l n c hn2 (k:Int) 6
  by_cases h3:6≤k
  ·rw[if_pos h3] at same
   rw[if_pos (by omega)] at h2
   exact x.die [0] rfl tR rfl h2 ⟨⟨rfl,rfl⟩,rfl,rfl,tR⟩ rfl ⟨⟨rfl,ah rfl,rfl,rfl,tR⟩,tR⟩ (by rw[←same];exact⟨rfl,rfl⟩)
  ·rw[if_neg h3] at same
   rw[if_neg (by omega)] at h2
   refine x.call [0] rfl tR rfl h2 rfl ⟨⟨rfl,rfl⟩,rfl,rfl,tR⟩ ⟨⟨rfl,ah rfl,rfl,rfl,tR⟩,tR⟩ ?_
   refine x.call [0,1,2,3] rfl tR rfl h1 rfl ⟨⟨rfl,rfl⟩,⟨rfl,rfl⟩,tR⟩ ⟨⟨rfl,ah rfl,rfl,rfl,tR⟩,⟨rfl,tR⟩,⟨⟨rfl,rfl⟩,tR⟩,⟨rfl,rfl,rfl,fun _ _=>rfl⟩,tR⟩ ?_
   refine x.call [0] rfl tR rfl (dA s l (n+1) c hl (by omega) 0 (by omega)) rfl ⟨⟨rfl,rfl⟩,rfl,tR⟩ ⟨⟨rfl,ah rfl,rfl,rfl,tR⟩,tR⟩ ?_
   refine x.cond rfl tR (fun h4=>?_) (fun h4=>?_)
   ·have h4:(!decide ((txV s l (n+1)).data.toList=[44]))=true:=h4
    rw[if_neg (by simpa using h4)] at same
    refine x.exit rfl tR ?_
    rw[←same]
    exact⟨.inr rfl,tR,⟨⟨rfl,ah rfl,rfl,rfl,tR⟩,⟨rfl,tR⟩,⟨⟨rfl,rfl⟩,tR⟩,⟨rfl,rfl,rfl,fun _ _=>rfl⟩,tR⟩,rfl⟩
   ·have h4:(!decide ((txV s l (n+1)).data.toList=[44]))=false:=h4
    rw[if_pos (by simpa using h4)] at same
    refine x.back rfl ?_ ⟨⟨f,n+2,k+1,out++[txV s l n],by omega,by omega,by omega,by rw[List.length_append,ho];rfl,same⟩,by show f<f+1;omega,⟨⟨rfl,rfl⟩,rfl,rfl,?_,tR⟩,⟨⟨rfl,ah rfl,?_,rfl,tR⟩,⟨rfl,tR⟩,⟨⟨rfl,rfl⟩,tR⟩,⟨rfl,rfl,rfl,fun _ _=>rfl⟩,tR⟩,rfl⟩
    ·simp only[aj,ak];omega
    ·show aG (vi ((k:Int)+1)) (vi ((k+1:Nat):Int));rw[ads];rfl
    ·show aG (vi (((n+1:Nat):Int)+1)) (vi ((n+2:Nat):Int));rw[show (n+2:Nat)=(n+1)+1 by omega,ads (n+1) 1];rfl
 ·have h:isV l n 1=false:=h
  rw[h,if_neg (by simp)] at same h1
  exact x.die [0,1,2,3] rfl tR rfl h1 ⟨⟨rfl,rfl⟩,⟨rfl,rfl⟩,tR⟩ rfl ⟨⟨rfl,ah rfl,rfl,rfl,tR⟩,⟨rfl,tR⟩,⟨⟨rfl,rfl⟩,tR⟩,⟨rfl,rfl,rfl,fun _ _=>rfl⟩,tR⟩ (by rw[←same];exact⟨rfl,rfl⟩)
end
theorem AU {s:ByteArray} {l:List Tok}:∀{f n k:Nat} {out:List ByteArray} {n':Nat} {o:List ByteArray},kS s l f n k out=.ok (n',o)->n'≤l.length∧n<n'∧(out.length=k->k≤6->o.length≤6)
 | 0,n,k,out,n',o,h=>by simp [kS] at h
 | f+1,n,k,out,n',o,h=>by
  rw[kS] at h
  split at h
  ·rename_i h1
   have h1:=dn h1
   split at h
   ·cases h
   ·split at h
    ·obtain⟨e1,e2,e3⟩:=AU h
     exact⟨e1,by omega,fun h2 h3=>e3 (by rw[List.length_append,h2];rfl) (by omega)⟩
    ·simp only[Except.ok.injEq,adq] at h
     obtain⟨rfl,rfl⟩:=h
     exact⟨by omega,by omega,fun h2 h3=>by rw[List.length_append,h2];show k+1≤6;omega⟩
  ·cases h
theorem jl {s:ByteArray} {l:List Tok} {n:Nat} {b:UInt8} {r:List UInt8} (h:(txV s l n).data.toList=b::r):n<l.length:=by
 unfold txV at h
 split at h
 ·assumption
 ·cases h
def j6 {α:Type} (s:ByteArray) (l:List Tok) (b:UInt8):Except (Int×Int) (Nat×α)->Except (Int×Int) (Nat×α)
 | .error e=>.error e
 | .ok (n,o)=>if (txV s l n).data.toList=[b] then .ok (n+1,o) else .error (atV s l n,7)
def iL (s:ByteArray) (l:List Tok) (n:Nat):Except (Int×Int) (Nat×List ByteArray):=
 if (txV s l n).data.toList=[40] then
  if (txV s l (n+1)).data.toList=[41] then .ok (n+2,[])
  else j6 s l 41 (kS s l (l.length+2) (n+1) 0 [])
 else .error (atV s l n,7)
def XQ (s:ByteArray) (l:List Tok) (c:Nat):Except (Int×Int) (Nat×List ByteArray)->Out
 | .ok (n,o)=>.ret (.own 1) [pC s l n c,gQ o]
 | .error (a,e)=>wS a e
section
variable (s:ByteArray) (l:List Tok) (n c:Nat) (hl:oW s l) (hn:n≤l.length)
include hl hn in
theorem Ct:aW PG 94 1 [.ptr 0 0] [pC s l n c] (XQ s l c (iL s l n)):=by
 have hll:=hl.2.1
 refine aW.mk (dG 15 1) av [0,3] Tryz.func94 rfl (by kernel_rfl) rfl rfl (by rcases iL s l n with⟨a,e⟩ | ⟨n,o⟩<;>rfl) ?_
 intro C x
 refine x.op rfl tR ?_
 refine Go.ownB 2 0 9 1 (fun j=>[D.str (([]:List ByteArray).getD j .empty)]) rfl rfl ?_
 have h1:=iX s l n c hl (by omega) ⟨#[40]⟩
 by_cases hp:(txV s l n).data.toList=[40]
 ·rw[if_pos hp] at h1
  have hlt:=jl hp
  refine x.call [0] rfl tR rfl h1 rfl ⟨⟨rfl,rfl⟩,rfl,tR⟩ ⟨⟨rfl,ah rfl,rfl,rfl,tR⟩,tR⟩ ?_
  refine x.call [0] rfl tR rfl (dA s l (n+1) c hl (by omega) 0 (by omega)) rfl ⟨⟨rfl,rfl⟩,rfl,tR⟩ ⟨⟨rfl,ah rfl,rfl,rfl,tR⟩,tR⟩ ?_
  refine x.cond rfl tR (fun h2=>?_) (fun h2=>?_)
  ·have h2:(!decide ((txV s l (n+1)).data.toList=[41]))=true:=h2
   have h3:¬(txV s l (n+1)).data.toList=[41]:=by simpa using h2
   have hls:=Oj s l (n+1) c hl (by omega)
   obtain⟨R,hR⟩:∃R,kS s l (l.length+2) (n+1) 0 []=R:=⟨_,rfl⟩
   have hV:iL s l n=j6 s l 41 R:=by
    rw[iL,if_pos hp,if_neg h3,hR]
   rw[hR] at hls
   rcases R with⟨a,e⟩ | ⟨n',o⟩
   ·refine x.die [0,2,1,3] rfl tR rfl hls ⟨⟨rfl,rfl⟩,rfl,rfl,tR⟩ rfl ⟨⟨rfl,ah rfl,rfl,rfl,tR⟩,⟨rfl,tR⟩,⟨⟨rfl,rfl⟩,tR⟩,⟨rfl,rfl,rfl,fun _ _=>rfl⟩,tR⟩ ?_
    rw[hV]
    exact⟨rfl,rfl⟩
   ·obtain⟨e1,e2,e3⟩:=AU hR
    refine x.call [0,2,1,3] rfl tR rfl hls rfl ⟨⟨rfl,rfl⟩,rfl,rfl,tR⟩ ⟨⟨rfl,ah rfl,rfl,rfl,tR⟩,⟨rfl,tR⟩,⟨⟨rfl,rfl⟩,tR⟩,⟨rfl,rfl,rfl,fun _ _=>rfl⟩,tR⟩ ?_
    have h4:=iX s l n' c hl (by omega) ⟨#[41]⟩
    by_cases h5:(txV s l n').data.toList=[41]
    ·rw[if_pos h5] at h4
     refine x.call [0] rfl tR rfl h4 rfl ⟨⟨rfl,rfl⟩,rfl,tR⟩ ⟨⟨rfl,ah rfl,rfl,rfl,tR⟩,tR⟩ ?_
     refine x.exit rfl tR ?_
     rw[hV,j6,if_pos h5]
     exact⟨.inr rfl,rfl,⟨⟨rfl,ah rfl,rfl,rfl,tR⟩,⟨rfl,rfl,rfl,fun _ _=>rfl⟩,tR⟩,rfl⟩
    ·rw[if_neg h5] at h4
     refine x.die [0] rfl tR rfl h4 ⟨⟨rfl,rfl⟩,rfl,tR⟩ rfl ⟨⟨rfl,ah rfl,rfl,rfl,tR⟩,tR⟩ ?_
     rw[hV,j6,if_neg h5]
     exact⟨rfl,rfl⟩
  ·have h2:(!decide ((txV s l (n+1)).data.toList=[41]))=false:=h2
   have h3:(txV s l (n+1)).data.toList=[41]:=by simpa using h2
   have h4:=iX s l (n+1) c hl (by omega) ⟨#[41]⟩
   rw[if_pos h3] at h4
   refine x.call [0] rfl tR rfl h4 rfl ⟨⟨rfl,rfl⟩,rfl,tR⟩ ⟨⟨rfl,ah rfl,rfl,rfl,tR⟩,tR⟩ ?_
   refine x.exit rfl tR ?_
   rw[iL,if_pos hp,if_pos h3]
   exact⟨.inr rfl,rfl,⟨⟨rfl,ah rfl,rfl,rfl,tR⟩,⟨rfl,rfl,rfl,fun _ _=>rfl⟩,tR⟩,rfl⟩
 ·rw[if_neg hp] at h1
  refine x.die [0] rfl tR rfl h1 ⟨⟨rfl,rfl⟩,rfl,tR⟩ rfl ⟨⟨rfl,ah rfl,rfl,rfl,tR⟩,tR⟩ ?_
  rw[iL,if_neg hp]
  exact⟨rfl,rfl⟩
end
structure Ins where
 kind:Int
 op:Int
 dst:ByteArray
 ref:ByteArray
 alt:ByteArray
 args:List ByteArray
 frm:List ByteArray
 num:Int
 at_:Int
abbrev iC (x:Ins):Ch:=.box [.d (.int .u8 x.kind), .d (.int .u8 x.op),vs x.dst,vs x.ref,vs x.alt, .own 2, .own 3,vi x.num,vi x.at_]
abbrev HX (s:ByteArray) (l:List Tok) (n c:Nat) (x:Ins):List Ch:=[pC s l n c,iC x,gQ x.args,gQ x.frm]
def Dg (s:ByteArray) (l:List Tok) (c:Nat):Except (Int×Int) (Nat×Ins)->Out
 | .ok (n,x)=>.ret (.tup []) (HX s l n c x)
 | .error (a,e)=>wS a e
theorem okI {s:ByteArray} {l:List Tok} {n c:Nat} {x:Ins} {m:Nat} (hm:2≤m) (r:Except (Int×Int) (Nat×Ins)):P6 (dG m 2) [.ptr 0 0, .ptr 1 0] (HX s l n c x) (Dg s l c r)=true:=by
 have h:Nat.ble 2 m=true:=by simpa using hm
 rcases r with⟨a,e⟩ | ⟨n',x'⟩
 ·show (Nat.ble 2 m&&_&&_)=true
  rw[h];rfl
 ·show (Nat.ble 2 m&&_&&_&&_&&_)=true
  rw[h];rfl
def nmV (s:ByteArray) (l:List Tok) (n:Nat):Except (Int×Int) (Nat×ByteArray):=if isV l n 1=true then .ok (n+1,txV s l n) else .error (atV s l n,7)
def bnd {α β:Type} (r:Except (Int×Int) (Nat×α)) (k:Nat->α->Except (Int×Int) (Nat×β)):Except (Int×Int) (Nat×β):=
 match r with
 | .error e=>.error e
 | .ok (n,a)=>k n a
theorem len1 (o:List ByteArray) (t:ByteArray):o.length+1=(o++[t]).length:=by simp
def kT (s:ByteArray) (l:List Tok) (n:Nat) (x:Ins):Except (Int×Int) (Nat×Ins):=bnd (nmV s l n) fun n a=>.ok (n,{x with args:=x.args++[a]})
def uX (s:ByteArray) (l:List Tok) (n:Nat) (x:Ins):Except (Int×Int) (Nat×Ins):=
 bnd (nmV s l n) fun n r=>let x:Ins:={{x with kind:=6} with ref:=r};bnd (kT s l n x) fun n x=>bnd (kT s l n x) fun n x=>.ok (n,x)
def xE (s:ByteArray) (l:List Tok) (n:Nat) (x:Ins):Except (Int×Int) (Nat×Ins):=
 bnd (nmV s l n) fun n r=>let x:Ins:={{x with kind:=9} with ref:=r};bnd (kT s l n x) fun n x=>.ok (n,x)
def zA (s:ByteArray) (l:List Tok) (n:Nat) (x:Ins):Except (Int×Int) (Nat×Ins):=
 bnd (nmV s l n) fun n r=>let x:Ins:={{x with kind:=11} with ref:=r};.ok (n,x)
def uY (s:ByteArray) (l:List Tok) (n:Nat) (x:Ins):Except (Int×Int) (Nat×Ins):=
 bnd (kT s l n {x with kind:=12}) fun n x=>bnd (nmV s l n) fun n r=>let x:Ins:={x with ref:=r};bnd (nmV s l n) fun n r=>let x:Ins:={x with alt:=r};.ok (n,x)
def Cu (s:ByteArray) (l:List Tok) (n:Nat) (x:Ins):Except (Int×Int) (Nat×Ins):=
 bnd (kT s l n {x with kind:=13}) fun n x=>.ok (n,x)
section
variable (s:ByteArray) (l:List Tok) (n c:Nat) (hl:oW s l) (hn:n≤l.length) (y:Ins) (hy:y.args.length≤1000)
include hl hn hy in
theorem Sc:aW PG 198 2 [.ptr 0 0, .ptr 1 0] (HX s l n c y) (Dg s l c (uX s l n y)):=by
 have hll:=hl.2.1
 refine aW.mk (dG 34 2) av [0,1,2,3] Tryz.func198 rfl (by kernel_rfl) rfl rfl (okI (by omega) _) ?_
 intro C x
 have h1:=aX s l n c hl (by omega)
 cases e1:isV l n 1 with
 | false=>
  rw[e1,if_neg (by simp)] at h1
  refine x.die [0] rfl tR rfl h1 ⟨⟨rfl,rfl⟩,tR⟩ rfl ⟨⟨rfl,ah rfl,rfl,rfl,tR⟩,tR⟩ ?_
  simp only[uX,kT,nmV,bnd,e1,if_true,adu,if_false]
  exact⟨rfl,rfl⟩
 | true=>
  rw[e1,if_pos rfl] at h1
  have l1:=dn e1
  refine x.call [0] rfl tR rfl h1 rfl ⟨⟨rfl,rfl⟩,tR⟩ ⟨⟨rfl,ah rfl,rfl,rfl,tR⟩,tR⟩ ?_
  have h2:=aX s l (n+1) c hl (by omega)
  cases e2:isV l (n+1) 1 with
  | false=>
   rw[e2,if_neg (by simp)] at h2
   refine x.draw [0] [0,1,5] [2,3,4] [6,7] [8,9,10,11] rfl tR ay (by kernel_rfl) fU.quiet rfl tR (fun C1 x1=>?_)
   refine x1.die [0] rfl tR rfl h2 ⟨⟨rfl,rfl⟩,tR⟩ rfl ⟨⟨rfl,ah rfl,rfl,rfl,tR⟩,tR⟩ ⟨⟨_,rfl⟩,rfl,?_⟩
   simp only[uX,kT,nmV,bnd,e1,e2,if_true,adu,if_false]
   exact⟨rfl,rfl⟩
  | true=>
   rw[e2,if_pos rfl] at h2
   have l2:=dn e2
   refine x.draw [0] [0,1,5] [2,3,4] [6,7] [8,9,10,11] rfl tR ay (by kernel_rfl) fU.quiet rfl tR (fun C1 x1=>?_)
   refine x1.call [0] rfl tR rfl h2 rfl ⟨⟨rfl,rfl⟩,tR⟩ ⟨⟨rfl,ah rfl,rfl,rfl,tR⟩,tR⟩ ?_
   refine x1.back rfl tR ?_
   refine x1.back rfl tR ?_
   refine x.code rfl (by simp only[aj,big,List.length_append,List.length_cons,List.length_nil];omega) ?_
   refine x.le (s':=⟨[(0, .ptr 0 0),(1, .ptr 1 0)],[(0,pC s l (n+1+1) c),(1,iC {y with kind:=6,ref:=txV s l n}),(2,gQ (y.args++[txV s l (n+1)])),(3,gQ y.frm)],4⟩) ⟨⟨⟨rfl,rfl⟩,⟨rfl,rfl⟩,tR⟩,⟨⟨rfl,ah rfl,rfl,rfl,tR⟩,⟨rfl,rfl,rfl,rfl,rfl,rfl,rfl,rfl,rfl,tR⟩,⟨rfl,rfl,len1 _ _,fun j hj=>jd _ _ j hj⟩,⟨rfl,rfl,rfl,fun _ _=>rfl⟩,tR⟩,rfl⟩ ?_
   have h3:=aX s l (n+1+1) c hl (by omega)
   cases e3:isV l (n+1+1) 1 with
   | false=>
    rw[e3,if_neg (by simp)] at h3
    refine x.draw [0] [0,1,5] [2,3,4] [6,7] [8,9,10,11] rfl tR ay (by kernel_rfl) fU.quiet rfl tR (fun C1 x1=>?_)
    refine x1.die [0] rfl tR rfl h3 ⟨⟨rfl,rfl⟩,tR⟩ rfl ⟨⟨rfl,ah rfl,rfl,rfl,tR⟩,tR⟩ ⟨⟨_,rfl⟩,rfl,?_⟩
    simp only[uX,kT,nmV,bnd,e1,e2,e3,if_true,adu,if_false]
    exact⟨rfl,rfl⟩
   | true=>
    rw[e3,if_pos rfl] at h3
    have l3:=dn e3
    refine x.draw [0] [0,1,5] [2,3,4] [6,7] [8,9,10,11] rfl tR ay (by kernel_rfl) fU.quiet rfl tR (fun C1 x1=>?_)
    refine x1.call [0] rfl tR rfl h3 rfl ⟨⟨rfl,rfl⟩,tR⟩ ⟨⟨rfl,ah rfl,rfl,rfl,tR⟩,tR⟩ ?_
    refine x1.back rfl tR ?_
    refine x1.back rfl tR ?_
    refine x.exit rfl (by simp only[aj,big,List.length_append,List.length_cons,List.length_nil];omega) ?_
    simp only[uX,kT,nmV,bnd,e1,e2,e3,if_true,adu,if_false]
    exact⟨.inl rfl,tR,⟨⟨rfl,ah rfl,rfl,rfl,tR⟩,⟨rfl,rfl,rfl,rfl,rfl,rfl,rfl,rfl,rfl,tR⟩,⟨rfl,rfl,len1 _ _,fun j hj=>jd _ _ j hj⟩,⟨rfl,rfl,rfl,fun _ _=>rfl⟩,tR⟩,rfl⟩
include hl hn hy in
theorem Sd:aW PG 199 2 [.ptr 0 0, .ptr 1 0] (HX s l n c y) (Dg s l c (xE s l n y)):=by
 have hll:=hl.2.1
 refine aW.mk (dG 23 2) av [0,1,2,3] Tryz.func199 rfl (by kernel_rfl) rfl rfl (okI (by omega) _) ?_
 intro C x
 have h1:=aX s l n c hl (by omega)
 cases e1:isV l n 1 with
 | false=>
  rw[e1,if_neg (by simp)] at h1
  refine x.die [0] rfl tR rfl h1 ⟨⟨rfl,rfl⟩,tR⟩ rfl ⟨⟨rfl,ah rfl,rfl,rfl,tR⟩,tR⟩ ?_
  simp only[xE,kT,nmV,bnd,e1,if_true,adu,if_false]
  exact⟨rfl,rfl⟩
 | true=>
  rw[e1,if_pos rfl] at h1
  have l1:=dn e1
  refine x.call [0] rfl tR rfl h1 rfl ⟨⟨rfl,rfl⟩,tR⟩ ⟨⟨rfl,ah rfl,rfl,rfl,tR⟩,tR⟩ ?_
  have h2:=aX s l (n+1) c hl (by omega)
  cases e2:isV l (n+1) 1 with
  | false=>
   rw[e2,if_neg (by simp)] at h2
   refine x.draw [0] [0,1,5] [2,3,4] [6,7] [8,9,10,11] rfl tR ay (by kernel_rfl) fU.quiet rfl tR (fun C1 x1=>?_)
   refine x1.die [0] rfl tR rfl h2 ⟨⟨rfl,rfl⟩,tR⟩ rfl ⟨⟨rfl,ah rfl,rfl,rfl,tR⟩,tR⟩ ⟨⟨_,rfl⟩,rfl,?_⟩
   simp only[xE,kT,nmV,bnd,e1,e2,if_true,adu,if_false]
   exact⟨rfl,rfl⟩
  | true=>
   rw[e2,if_pos rfl] at h2
   have l2:=dn e2
   refine x.draw [0] [0,1,5] [2,3,4] [6,7] [8,9,10,11] rfl tR ay (by kernel_rfl) fU.quiet rfl tR (fun C1 x1=>?_)
   refine x1.call [0] rfl tR rfl h2 rfl ⟨⟨rfl,rfl⟩,tR⟩ ⟨⟨rfl,ah rfl,rfl,rfl,tR⟩,tR⟩ ?_
   refine x1.back rfl tR ?_
   refine x1.back rfl tR ?_
   refine x.exit rfl (by simp only[aj,big,List.length_append,List.length_cons,List.length_nil];omega) ?_
   simp only[xE,kT,nmV,bnd,e1,e2,if_true,adu,if_false]
   exact⟨.inl rfl,tR,⟨⟨rfl,ah rfl,rfl,rfl,tR⟩,⟨rfl,rfl,rfl,rfl,rfl,rfl,rfl,rfl,rfl,tR⟩,⟨rfl,rfl,len1 _ _,fun j hj=>jd _ _ j hj⟩,⟨rfl,rfl,rfl,fun _ _=>rfl⟩,tR⟩,rfl⟩
include hl hn in
theorem Sg:aW PG 200 2 [.ptr 0 0, .ptr 1 0] (HX s l n c y) (Dg s l c (zA s l n y)):=by
 have hll:=hl.2.1
 refine aW.mk (dG 12 2) av [0,1,2,3] Tryz.func200 rfl (by kernel_rfl) rfl rfl (okI (by omega) _) ?_
 intro C x
 have h1:=aX s l n c hl (by omega)
 cases e1:isV l n 1 with
 | false=>
  rw[e1,if_neg (by simp)] at h1
  refine x.die [0] rfl tR rfl h1 ⟨⟨rfl,rfl⟩,tR⟩ rfl ⟨⟨rfl,ah rfl,rfl,rfl,tR⟩,tR⟩ ?_
  simp only[zA,kT,nmV,bnd,e1,if_true,adu,if_false]
  exact⟨rfl,rfl⟩
 | true=>
  rw[e1,if_pos rfl] at h1
  have l1:=dn e1
  refine x.call [0] rfl tR rfl h1 rfl ⟨⟨rfl,rfl⟩,tR⟩ ⟨⟨rfl,ah rfl,rfl,rfl,tR⟩,tR⟩ ?_
  refine x.exit rfl tR ?_
  simp only[zA,kT,nmV,bnd,e1,if_true,adu,if_false]
  exact⟨.inl rfl,tR,⟨⟨rfl,ah rfl,rfl,rfl,tR⟩,⟨rfl,rfl,rfl,rfl,rfl,rfl,rfl,rfl,rfl,tR⟩,⟨rfl,rfl,rfl,fun _ _=>rfl⟩,⟨rfl,rfl,rfl,fun _ _=>rfl⟩,tR⟩,rfl⟩
include hl hn hy in
theorem Si:aW PG 201 2 [.ptr 0 0, .ptr 1 0] (HX s l n c y) (Dg s l c (uY s l n y)):=by
 have hll:=hl.2.1
 refine aW.mk (dG 28 2) av [0,1,2,3] Tryz.func201 rfl (by kernel_rfl) rfl rfl (okI (by omega) _) ?_
 intro C x
 have h1:=aX s l n c hl (by omega)
 cases e1:isV l n 1 with
 | false=>
  rw[e1,if_neg (by simp)] at h1
  refine x.draw [0] [0,1,5] [2,3,4] [6,7] [8,9,10,11] rfl tR ay (by kernel_rfl) fU.quiet rfl tR (fun C1 x1=>?_)
  refine x1.die [0] rfl tR rfl h1 ⟨⟨rfl,rfl⟩,tR⟩ rfl ⟨⟨rfl,ah rfl,rfl,rfl,tR⟩,tR⟩ ⟨⟨_,rfl⟩,rfl,?_⟩
  simp only[uY,kT,nmV,bnd,e1,if_true,adu,if_false]
  exact⟨rfl,rfl⟩
 | true=>
  rw[e1,if_pos rfl] at h1
  have l1:=dn e1
  refine x.draw [0] [0,1,5] [2,3,4] [6,7] [8,9,10,11] rfl tR ay (by kernel_rfl) fU.quiet rfl tR (fun C1 x1=>?_)
  refine x1.call [0] rfl tR rfl h1 rfl ⟨⟨rfl,rfl⟩,tR⟩ ⟨⟨rfl,ah rfl,rfl,rfl,tR⟩,tR⟩ ?_
  refine x1.back rfl tR ?_
  refine x1.back rfl tR ?_
  have h2:=aX s l (n+1) c hl (by omega)
  cases e2:isV l (n+1) 1 with
  | false=>
   rw[e2,if_neg (by simp)] at h2
   refine x.die [0] rfl (by simp only[aj,big,List.length_append,List.length_cons,List.length_nil];omega) rfl h2 ⟨⟨rfl,rfl⟩,tR⟩ rfl ⟨⟨rfl,ah rfl,rfl,rfl,tR⟩,tR⟩ ?_
   simp only[uY,kT,nmV,bnd,e1,e2,if_true,adu,if_false]
   exact⟨rfl,rfl⟩
  | true=>
   rw[e2,if_pos rfl] at h2
   have l2:=dn e2
   refine x.call [0] rfl (by simp only[aj,big,List.length_append,List.length_cons,List.length_nil];omega) rfl h2 rfl ⟨⟨rfl,rfl⟩,tR⟩ ⟨⟨rfl,ah rfl,rfl,rfl,tR⟩,tR⟩ ?_
   have h3:=aX s l (n+1+1) c hl (by omega)
   cases e3:isV l (n+1+1) 1 with
   | false=>
    rw[e3,if_neg (by simp)] at h3
    refine x.die [0] rfl tR rfl h3 ⟨⟨rfl,rfl⟩,tR⟩ rfl ⟨⟨rfl,ah rfl,rfl,rfl,tR⟩,tR⟩ ?_
    simp only[uY,kT,nmV,bnd,e1,e2,e3,if_true,adu,if_false]
    exact⟨rfl,rfl⟩
   | true=>
    rw[e3,if_pos rfl] at h3
    have l3:=dn e3
    refine x.call [0] rfl tR rfl h3 rfl ⟨⟨rfl,rfl⟩,tR⟩ ⟨⟨rfl,ah rfl,rfl,rfl,tR⟩,tR⟩ ?_
    refine x.exit rfl tR ?_
    simp only[uY,kT,nmV,bnd,e1,e2,e3,if_true,adu,if_false]
    exact⟨.inl rfl,tR,⟨⟨rfl,ah rfl,rfl,rfl,tR⟩,⟨rfl,rfl,rfl,rfl,rfl,rfl,rfl,rfl,rfl,tR⟩,⟨rfl,rfl,len1 _ _,fun j hj=>jd _ _ j hj⟩,⟨rfl,rfl,rfl,fun _ _=>rfl⟩,tR⟩,rfl⟩
include hl hn hy in
theorem Sj:aW PG 202 2 [.ptr 0 0, .ptr 1 0] (HX s l n c y) (Dg s l c (Cu s l n y)):=by
 have hll:=hl.2.1
 refine aW.mk (dG 18 2) av [0,1,2,3] Tryz.func202 rfl (by kernel_rfl) rfl rfl (okI (by omega) _) ?_
 intro C x
 have h1:=aX s l n c hl (by omega)
 cases e1:isV l n 1 with
 | false=>
  rw[e1,if_neg (by simp)] at h1
  refine x.draw [0] [0,1,5] [2,3,4] [6,7] [8,9,10,11] rfl tR ay (by kernel_rfl) fU.quiet rfl tR (fun C1 x1=>?_)
  refine x1.die [0] rfl tR rfl h1 ⟨⟨rfl,rfl⟩,tR⟩ rfl ⟨⟨rfl,ah rfl,rfl,rfl,tR⟩,tR⟩ ⟨⟨_,rfl⟩,rfl,?_⟩
  simp only[Cu,kT,nmV,bnd,e1,if_true,adu,if_false]
  exact⟨rfl,rfl⟩
 | true=>
  rw[e1,if_pos rfl] at h1
  have l1:=dn e1
  refine x.draw [0] [0,1,5] [2,3,4] [6,7] [8,9,10,11] rfl tR ay (by kernel_rfl) fU.quiet rfl tR (fun C1 x1=>?_)
  refine x1.call [0] rfl tR rfl h1 rfl ⟨⟨rfl,rfl⟩,tR⟩ ⟨⟨rfl,ah rfl,rfl,rfl,tR⟩,tR⟩ ?_
  refine x1.back rfl tR ?_
  refine x1.back rfl tR ?_
  refine x.exit rfl (by simp only[aj,big,List.length_append,List.length_cons,List.length_nil];omega) ?_
  simp only[Cu,kT,nmV,bnd,e1,if_true,adu,if_false]
  exact⟨.inl rfl,tR,⟨⟨rfl,ah rfl,rfl,rfl,tR⟩,⟨rfl,rfl,rfl,rfl,rfl,rfl,rfl,rfl,rfl,tR⟩,⟨rfl,rfl,len1 _ _,fun j hj=>jd _ _ j hj⟩,⟨rfl,rfl,rfl,fun _ _=>rfl⟩,tR⟩,rfl⟩
end
def mG (s:ByteArray) (l:List Tok) (n:Nat) (x:Ins):Except (Int×Int) (Nat×Ins):=bnd (nmV s l n) fun n a=>.ok (n,{x with args:=[a]})
def sG (s:ByteArray) (l:List Tok) (n:Nat) (x:Ins):Except (Int×Int) (Nat×Ins):=bnd (nmV s l n) fun n a=>.ok (n,{x with ref:=a})
def qp (s:ByteArray) (l:List Tok) (n:Nat) (x:Ins):Except (Int×Int) (Nat×Ins):=if isV l n 3=true then .ok (n+1,{x with kind:=1,num:=(eT (txV s l n)).1}) else .error (atV s l n,7)
def yh (s:ByteArray) (l:List Tok) (n:Nat) (x:Ins):Except (Int×Int) (Nat×Ins):=sG s l n {x with kind:=8}
def Cv (s:ByteArray) (l:List Tok) (n:Nat) (x:Ins):Except (Int×Int) (Nat×Ins):=bnd (sG s l n {x with kind:=7}) fun n x=>bnd (iL s l n) fun n o=>.ok (n,{x with args:=o})
def mH (s:ByteArray) (l:List Tok) (n:Nat) (x:Ins):Except (Int×Int) (Nat×Ins):=bnd (mG s l n {x with kind:=10}) fun n x=>sG s l n x
def cellV (k:Int) (s:ByteArray) (l:List Tok) (n:Nat) (x:Ins):Except (Int×Int) (Nat×Ins):=bnd (sG s l n {x with kind:=k}) fun n x=>mG s l n x
section
variable (s:ByteArray) (l:List Tok) (n c:Nat) (hl:oW s l) (hn:n≤l.length) (y:Ins)
include hl hn in
theorem Sk:aW PG 209 2 [.ptr 0 0, .ptr 1 0] (HX s l n c y) (Dg s l c (qp s l n y)):=by
 have hll:=hl.2.1
 refine aW.mk (dG 12 2) av [0,1,2,3] Tryz.func209 rfl (by kernel_rfl) rfl rfl (okI (by omega) _) ?_
 intro C x
 have h1:=zy s l n c hl (by omega)
 cases e1:isV l n 3 with
 | false=>
  rw[e1,if_neg (by simp)] at h1
  refine x.die [0] rfl tR rfl h1 ⟨⟨rfl,rfl⟩,tR⟩ rfl ⟨⟨rfl,ah rfl,rfl,rfl,tR⟩,tR⟩ ?_
  simp only[qp,sG,mG,nmV,bnd,e1,if_true,adu,if_false]
  exact⟨rfl,rfl⟩
 | true=>
  rw[e1,if_pos rfl] at h1
  have l1:=dn e1
  refine x.call [0] rfl tR rfl h1 rfl ⟨⟨rfl,rfl⟩,tR⟩ ⟨⟨rfl,ah rfl,rfl,rfl,tR⟩,tR⟩ ?_
  refine x.exit rfl tR ?_
  simp only[qp,sG,mG,nmV,bnd,e1,if_true,adu,if_false]
  exact⟨.inl rfl,tR,⟨⟨rfl,ah rfl,rfl,rfl,tR⟩,⟨rfl,rfl,rfl,rfl,rfl,rfl,rfl,rfl,rfl,tR⟩,⟨rfl,rfl,rfl,fun _ _=>rfl⟩,⟨rfl,rfl,rfl,fun _ _=>rfl⟩,tR⟩,rfl⟩
include hl hn in
theorem Sl:aW PG 210 2 [.ptr 0 0, .ptr 1 0] (HX s l n c y) (Dg s l c (yh s l n y)):=by
 have hll:=hl.2.1
 refine aW.mk (dG 12 2) av [0,1,2,3] Tryz.func210 rfl (by kernel_rfl) rfl rfl (okI (by omega) _) ?_
 intro C x
 have h1:=aX s l n c hl (by omega)
 cases e1:isV l n 1 with
 | false=>
  rw[e1,if_neg (by simp)] at h1
  refine x.die [0] rfl tR rfl h1 ⟨⟨rfl,rfl⟩,tR⟩ rfl ⟨⟨rfl,ah rfl,rfl,rfl,tR⟩,tR⟩ ?_
  simp only[yh,sG,mG,nmV,bnd,e1,if_true,adu,if_false]
  exact⟨rfl,rfl⟩
 | true=>
  rw[e1,if_pos rfl] at h1
  have l1:=dn e1
  refine x.call [0] rfl tR rfl h1 rfl ⟨⟨rfl,rfl⟩,tR⟩ ⟨⟨rfl,ah rfl,rfl,rfl,tR⟩,tR⟩ ?_
  refine x.exit rfl tR ?_
  simp only[yh,sG,mG,nmV,bnd,e1,if_true,adu,if_false]
  exact⟨.inl rfl,tR,⟨⟨rfl,ah rfl,rfl,rfl,tR⟩,⟨rfl,rfl,rfl,rfl,rfl,rfl,rfl,rfl,rfl,tR⟩,⟨rfl,rfl,rfl,fun _ _=>rfl⟩,⟨rfl,rfl,rfl,fun _ _=>rfl⟩,tR⟩,rfl⟩
include hl hn in
theorem Sn:aW PG 211 2 [.ptr 0 0, .ptr 1 0] (HX s l n c y) (Dg s l c (Cv s l n y)):=by
 have hll:=hl.2.1
 refine aW.mk (dG 17 2) av [0,1,4,3] Tryz.func211 rfl (by kernel_rfl) rfl rfl (okI (by omega) _) ?_
 intro C x
 have h1:=aX s l n c hl (by omega)
 cases e1:isV l n 1 with
 | false=>
  rw[e1,if_neg (by simp)] at h1
  refine x.die [0] rfl tR rfl h1 ⟨⟨rfl,rfl⟩,tR⟩ rfl ⟨⟨rfl,ah rfl,rfl,rfl,tR⟩,tR⟩ ?_
  simp only[Cv,sG,mG,nmV,bnd,e1,if_true,adu,if_false]
  exact⟨rfl,rfl⟩
 | true=>
  rw[e1,if_pos rfl] at h1
  have l1:=dn e1
  refine x.call [0] rfl tR rfl h1 rfl ⟨⟨rfl,rfl⟩,tR⟩ ⟨⟨rfl,ah rfl,rfl,rfl,tR⟩,tR⟩ ?_
  have h2:=Ct s l (n+1) c hl (by omega)
  obtain⟨R,e2⟩:∃R,iL s l (n+1)=R:=⟨_,rfl⟩
  rw[e2] at h2
  rcases R with⟨a,b⟩ | ⟨n',o⟩
  ·refine x.die [0] rfl tR rfl h2 ⟨⟨rfl,rfl⟩,tR⟩ rfl ⟨⟨rfl,ah rfl,rfl,rfl,tR⟩,tR⟩ ?_
   simp only[Cv,sG,mG,nmV,bnd,e1,e2,if_true,adu,if_false]
   exact⟨rfl,rfl⟩
  ·refine x.call [0] rfl tR rfl h2 rfl ⟨⟨rfl,rfl⟩,tR⟩ ⟨⟨rfl,ah rfl,rfl,rfl,tR⟩,tR⟩ ?_
   refine x.exit rfl tR ?_
   simp only[Cv,sG,mG,nmV,bnd,e1,e2,if_true,adu,if_false]
   exact⟨.inl rfl,tR,⟨⟨rfl,ah rfl,rfl,rfl,tR⟩,⟨rfl,rfl,rfl,rfl,rfl,rfl,rfl,rfl,rfl,tR⟩,⟨rfl,rfl,rfl,fun _ _=>rfl⟩,⟨rfl,rfl,rfl,fun _ _=>rfl⟩,tR⟩,rfl⟩
include hl hn in
theorem Sq:aW PG 212 2 [.ptr 0 0, .ptr 1 0] (HX s l n c y) (Dg s l c (mH s l n y)):=by
 have hll:=hl.2.1
 refine aW.mk (dG 18 2) av [0,1,4,3] Tryz.func212 rfl (by kernel_rfl) rfl rfl (okI (by omega) _) ?_
 intro C x
 have h1:=aX s l n c hl (by omega)
 cases e1:isV l n 1 with
 | false=>
  rw[e1,if_neg (by simp)] at h1
  refine x.die [0] rfl tR rfl h1 ⟨⟨rfl,rfl⟩,tR⟩ rfl ⟨⟨rfl,ah rfl,rfl,rfl,tR⟩,tR⟩ ?_
  simp only[mH,sG,mG,nmV,bnd,e1,if_true,adu,if_false]
  exact⟨rfl,rfl⟩
 | true=>
  rw[e1,if_pos rfl] at h1
  have l1:=dn e1
  refine x.call [0] rfl tR rfl h1 rfl ⟨⟨rfl,rfl⟩,tR⟩ ⟨⟨rfl,ah rfl,rfl,rfl,tR⟩,tR⟩ ?_
  have h2:=aX s l (n+1) c hl (by omega)
  cases e2:isV l (n+1) 1 with
  | false=>
   rw[e2,if_neg (by simp)] at h2
   refine x.die [0] rfl tR rfl h2 ⟨⟨rfl,rfl⟩,tR⟩ rfl ⟨⟨rfl,ah rfl,rfl,rfl,tR⟩,tR⟩ ?_
   simp only[mH,sG,mG,nmV,bnd,e1,e2,if_true,adu,if_false]
   exact⟨rfl,rfl⟩
  | true=>
   rw[e2,if_pos rfl] at h2
   have l2:=dn e2
   refine x.call [0] rfl tR rfl h2 rfl ⟨⟨rfl,rfl⟩,tR⟩ ⟨⟨rfl,ah rfl,rfl,rfl,tR⟩,tR⟩ ?_
   refine x.exit rfl tR ?_
   simp only[mH,sG,mG,nmV,bnd,e1,e2,if_true,adu,if_false]
   exact⟨.inl rfl,tR,⟨⟨rfl,ah rfl,rfl,rfl,tR⟩,⟨rfl,rfl,rfl,rfl,rfl,rfl,rfl,rfl,rfl,tR⟩,⟨rfl,rfl,rfl,fun j hj=>by rw[show j=0 by omega];rfl⟩,⟨rfl,rfl,rfl,fun _ _=>rfl⟩,tR⟩,rfl⟩
abbrev HK (s:ByteArray) (l:List Tok) (n c:Nat) (x:Ins) (k:Int):List Ch:=[pC s l n c,iC x,gQ x.args,gQ x.frm, .box [.d (.int .u8 k)]]
def outK (s:ByteArray) (l:List Tok) (c:Nat) (k:Int):Except (Int×Int) (Nat×Ins)->Out
 | .ok (n,x)=>.ret (.tup []) (HK s l n c x k)
 | .error (a,e)=>wS a e
include hl hn in
theorem Hz (k:Int):aW PG 208 2 [.ptr 0 0, .ptr 1 0, .ptr 4 0] (HK s l n c y k) (outK s l c k (cellV k s l n y)):=by
 have hll:=hl.2.1
 refine aW.mk (dG 20 2) av [0,1,5,3,4] Tryz.func208 rfl (by kernel_rfl) rfl rfl (by rcases cellV k s l n y with⟨a,e⟩ | ⟨n',x'⟩<;>rfl) ?_
 intro C x
 have h1:=aX s l n c hl (by omega)
 cases e1:isV l n 1 with
 | false=>
  rw[e1,if_neg (by simp)] at h1
  refine x.die [0] rfl tR rfl h1 ⟨⟨rfl,rfl⟩,tR⟩ rfl ⟨⟨rfl,ah rfl,rfl,rfl,tR⟩,tR⟩ ?_
  simp only[cellV,sG,mG,nmV,bnd,e1,if_true,adu,if_false]
  exact⟨rfl,rfl⟩
 | true=>
  rw[e1,if_pos rfl] at h1
  have l1:=dn e1
  refine x.call [0] rfl tR rfl h1 rfl ⟨⟨rfl,rfl⟩,tR⟩ ⟨⟨rfl,ah rfl,rfl,rfl,tR⟩,tR⟩ ?_
  have h2:=aX s l (n+1) c hl (by omega)
  cases e2:isV l (n+1) 1 with
  | false=>
   rw[e2,if_neg (by simp)] at h2
   refine x.die [0] rfl tR rfl h2 ⟨⟨rfl,rfl⟩,tR⟩ rfl ⟨⟨rfl,ah rfl,rfl,rfl,tR⟩,tR⟩ ?_
   simp only[cellV,sG,mG,nmV,bnd,e1,e2,if_true,adu,if_false]
   exact⟨rfl,rfl⟩
  | true=>
   rw[e2,if_pos rfl] at h2
   have l2:=dn e2
   refine x.call [0] rfl tR rfl h2 rfl ⟨⟨rfl,rfl⟩,tR⟩ ⟨⟨rfl,ah rfl,rfl,rfl,tR⟩,tR⟩ ?_
   refine x.exit rfl tR ?_
   simp only[cellV,sG,mG,nmV,bnd,e1,e2,if_true,adu,if_false]
   exact⟨.inl rfl,tR,⟨⟨rfl,ah rfl,rfl,rfl,tR⟩,⟨rfl,rfl,rfl,rfl,rfl,rfl,rfl,rfl,rfl,tR⟩,⟨rfl,rfl,rfl,fun j hj=>by rw[show j=0 by omega];rfl⟩,⟨rfl,rfl,rfl,fun _ _=>rfl⟩,⟨rfl,tR⟩,tR⟩,rfl⟩
end
def acL:List (Key×V):=[(.inl [115,116,111,114,101], .fn 198 []),(.inl [111,117,116,112,117,116], .fn 199 []),(.inl [106,117,109,112], .fn 200 []),(.inl [98,114,97,110,99,104], .fn 201 []),(.inl [114,101,116,117,114,110], .fn 202 [])]
theorem Sr:Pure PG 180 [] (.own 0) [.tbl acL]:=by
 refine aI.mk (cfg 3) av [0] Tryz.func180 rfl (by kernel_rfl) rfl rfl rfl ?_
 intro C x
 refine x.exit rfl ?_ ?_
 ·simp only[aj,rO]
  decide
 ·exact⟨.inr rfl,rfl,⟨⟨rfl,rfl,rfl,rfl,rfl,rfl,rfl,rfl,rfl,rfl,tR⟩,tR⟩,rfl⟩
theorem EX (k:Int):Pure PG 207 [.d (.int .u8 k)] (.fn 208 [.ptr 0 0]) [.box [.d (.int .u8 k)]]:=by
 refine aI.mk (cfg 4) av [0] Tryz.func207 rfl (by kernel_rfl) rfl rfl rfl ?_
 intro C x
 refine x.exit rfl tR ?_
 exact⟨.inr rfl,rfl,⟨⟨rfl,tR⟩,tR⟩,rfl⟩
def acM:List (Key×V):=[(.inl [99,111,110,115,116], .fn 209 []),(.inl [108,111,97,100], .fn 208 [.ptr 1 0]),(.inl [119,114,97,112], .fn 208 [.ptr 2 0]),(.inl [105,110,112,117,116], .fn 210 []),(.inl [99,97,108,108], .fn 211 []),(.inl [114,101,108,101,97,115,101], .fn 212 []),(.inl [112,104,105], .fn 213 [])]
theorem Li:Pure PG 204 [] (.own 0) [.tbl acM, .box [.d (.int .u8 4)], .box [.d (.int .u8 5)]]:=by
 refine aI.mk (cfg 8) av [0,1,2] Tryz.func204 rfl (by kernel_rfl) rfl rfl rfl ?_
 intro C x
 refine x.call [] rfl tR rfl (EX 4) rfl ⟨rfl,tR⟩ tR ?_
 refine x.call [] rfl ?_ rfl (EX 5) rfl ⟨rfl,tR⟩ tR ?_
 ·simp only[aj,List.map,rO]
  decide
 refine x.exit rfl ?_ ?_
 ·simp only[aj,List.map,rO]
  decide
 ·exact⟨.inr rfl,rfl,⟨⟨rfl,rfl,rfl,rfl,rfl,rfl,rfl,rfl,rfl,rfl,rfl,rfl,rfl,rfl,tR⟩,⟨rfl,tR⟩,⟨rfl,tR⟩,tR⟩,rfl⟩
theorem Lj:Je PG.env 3 13 (fun j=>.str (opAt j)):=
 ⟨_, .tail _ (.tail _ (.head _)),fun j hj=>rfl⟩
def opF (b:List UInt8):Nat->Nat->Nat
 | 0,_=>0
 | k+1,i=>if 0<i∧ig.getD i []=b then i else opF b k (i+1)
def opV (s:ByteArray):Nat:=opF s.data.toList 13 0
structure OW (s:ByteArray) where
 i:Nat
 hi:i≤13
 same:opF s.data.toList (13-i) i=opV s
theorem op_spec (s:ByteArray):Pure PG 203 [vs s] (.tup [.d (.int .u8 (opV s:Int)),vb (decide (opV s≠0))]) []:=by
 refine aI.mk (cfg 20) av [] Tryz.func203 rfl (by kernel_rfl) rfl rfl rfl ?_
 intro C x
 refine x.loop (α:=OW s) (fun y=>⟨[(0,vs s),(5,vi (y.i:Int))],[],0⟩) (fun y=>13-y.i) ⟨0,by omega,rfl⟩ rfl tR ⟨⟨rfl,rfl,tR⟩,tR,rfl⟩ (fun y=>?_)
 obtain⟨i,hi,same⟩:=y
 change Go C _ ⟨[(0,vs s),(5,vi (i:Int))],[],0⟩ _
 refine x.cond rfl tR (fun h=>?_) (fun h=>?_)
 ·have h:(i:Int)<13:=adi h
  refine x.abn (fun j=>.str (opAt j)) rfl tR rfl Lj (fun _=>⟨Int.natCast_nonneg _,h⟩) ?_
  have hk:13-i=(12-i)+1:=by omega
  rw[hk,opF] at same
  have e0:(opAt i).data.toList=ig.getD i []:=rfl
  refine x.cond rfl tR (fun h2=>?_) (fun h2=>?_)
  ·have h2:(decide ((0:Int)<(i:Int))&&decide ((opAt (i:Int).toNat).data.toList=s.data.toList))=true:=h2
   simp only[adg,adn,adv,e0] at h2
   rw[if_pos ⟨by omega,h2.2⟩] at same
   refine x.exit rfl tR ?_
   rw[←same]
   refine⟨.inr rfl,⟨?_,?_,tR⟩,tR,rfl⟩
   ·refine ah ?_
    rw[IntKind.wrap_u8]
    congr 1
    omega
   ·show aG (vb true) (vb (decide (i≠0)))
    rw[decide_eq_true (by omega)];rfl
  ·have h2:(decide ((0:Int)<(i:Int))&&decide ((opAt (i:Int).toNat).data.toList=s.data.toList))=false:=h2
   rw[adv,e0] at h2
   rw[if_neg (fun hh=>by
    rw[decide_eq_true (by omega:(0:Int)<(i:Int)),decide_eq_true hh.2] at h2
    cases h2)] at same
   refine x.back rfl ?_ ⟨⟨i+1,by omega,by rw[show 13-(i+1)=12-i by omega];exact same⟩,by show 13-(i+1)<13-i;omega,⟨rfl,?_,tR⟩,tR,rfl⟩
   ·simp only[aj,ak];omega
   ·show aG (vi ((i:Int)+1)) (vi ((i+1:Nat):Int));rw[ads];rfl
 ·have h:¬(i:Int)<13:=adj h
  have:i=13:=by omega
  subst this
  refine x.exit rfl tR ?_
  rw[←same]
  exact⟨.inr rfl,⟨rfl,rfl,tR⟩,tR,rfl⟩
structure Arr where
 name:ByteArray
 size:Int
 level:ByteArray
 at_:Int
abbrev aV (x:Arr):V:=.agg [vs x.name,vi x.size,vs x.level,vi x.at_]
def wT (s:ByteArray) (l:List Tok) (n:Nat):Except (Int×Int) (Nat×Arr):=
 bnd (nmV s l (n+1)) fun n1 name=>
  if isV l n1 3=true then
   if (eT (txV s l n1)).1<1∨256<(eT (txV s l n1)).1 then .error (atV s l n1,12)
   else bnd (nmV s l (n1+1)) fun n2 lv=>.ok (n2,⟨name,(eT (txV s l n1)).1,lv,atV s l n⟩)
  else .error (atV s l n1,7)
def arrO (s:ByteArray) (l:List Tok) (c:Nat):Except (Int×Int) (Nat×Arr)->Out
 | .ok (n,x)=>.ret (aV x) [pC s l n c]
 | .error (a,e)=>wS a e
section
variable (s:ByteArray) (l:List Tok) (n c:Nat) (hl:oW s l) (hn:n<l.length)
include hl hn in
theorem Ll:aW PG 46 1 [.ptr 0 0] [pC s l n c] (arrO s l c (wT s l n)):=by
 have hll:=hl.2.1
 refine aW.mk (dG 42 1) av [0] Tryz.func46 rfl (by kernel_rfl) rfl rfl (by rcases wT s l n with⟨a,e⟩ | ⟨n',x'⟩<;>rfl) ?_
 intro C x
 refine x.call [0] rfl tR rfl (zx s l n c (by omega)) rfl ⟨⟨rfl,rfl⟩,tR⟩ ⟨⟨rfl,ah rfl,rfl,rfl,tR⟩,tR⟩ ?_
 have ei:aG (vi ((n:Int)+1)) (vi ((n+1:Nat):Int)):=by rw[ads];rfl
 have h1:=aX s l (n+1) c hl (by omega)
 cases e1:isV l (n+1) 1 with
 | false=>
  rw[e1,if_neg (by simp)] at h1
  refine x.die [0] rfl (by simp only[aj,ak];omega) rfl h1 ⟨⟨rfl,rfl⟩,tR⟩ rfl ⟨⟨rfl,ah rfl,ei,rfl,tR⟩,tR⟩ ?_
  simp only[wT,nmV,bnd,e1,if_true,adu,if_false]
  exact⟨rfl,rfl⟩
 | true=>
  rw[e1,if_pos rfl] at h1
  have l1:=dn e1
  refine x.call [0] rfl (by simp only[aj,ak];omega) rfl h1 rfl ⟨⟨rfl,rfl⟩,tR⟩ ⟨⟨rfl,ah rfl,ei,rfl,tR⟩,tR⟩ ?_
  refine x.call [0] rfl tR rfl (gI s l (n+1+1) c 3) rfl ⟨⟨rfl,rfl⟩,rfl,tR⟩ ⟨⟨rfl,ah rfl,rfl,rfl,tR⟩,tR⟩ ?_
  have h2:=zy s l (n+1+1) c hl (by omega)
  refine x.cond rfl tR (fun e2=>?_) (fun e2=>?_)
  ·have e2:isV l (n+1+1) 3=true:=e2
   have l2:=dn e2
   rw[e2,if_pos rfl] at h2
   refine x.call [0] rfl tR rfl (dA s l (n+1+1) c hl (by omega) 0 (by omega)) rfl ⟨⟨rfl,rfl⟩,rfl,tR⟩ ⟨⟨rfl,ah rfl,rfl,rfl,tR⟩,tR⟩ ?_
   refine x.pure rfl tR rfl (mF (txV s l (n+1+1))) ⟨rfl,tR⟩ ?_
   refine x.cond rfl tR (fun e3=>?_) (fun e3=>?_)
   ·have e3:(decide ((eT (txV s l (n+1+1))).1<1)||decide (256<(eT (txV s l (n+1+1))).1))=true:=e3
    simp only[Bool.or_eq_true,adn] at e3
    refine x.die [0] rfl tR rfl (kJ s l (n+1+1) c (by omega) 12) ⟨⟨rfl,rfl⟩,rfl,tR⟩ rfl ⟨⟨rfl,ah rfl,rfl,rfl,tR⟩,tR⟩ ?_
    simp only[wT,nmV,bnd,e1,e2,if_true]
    rw[if_pos e3]
    exact⟨rfl,rfl⟩
   ·have e3:(decide ((eT (txV s l (n+1+1))).1<1)||decide (256<(eT (txV s l (n+1+1))).1))=false:=e3
    have e3':¬((eT (txV s l (n+1+1))).1<1∨256<(eT (txV s l (n+1+1))).1):=by simpa using e3
    refine x.call [0] rfl tR rfl h2 rfl ⟨⟨rfl,rfl⟩,tR⟩ ⟨⟨rfl,ah rfl,rfl,rfl,tR⟩,tR⟩ ?_
    have h4:=aX s l (n+1+1+1) c hl (by omega)
    cases e4:isV l (n+1+1+1) 1 with
    | false=>
     rw[e4,if_neg (by simp)] at h4
     refine x.die [0] rfl tR rfl h4 ⟨⟨rfl,rfl⟩,tR⟩ rfl ⟨⟨rfl,ah rfl,rfl,rfl,tR⟩,tR⟩ ?_
     simp only[wT,nmV,bnd,e1,e2,e4,if_true,adu,if_false]
     rw[if_neg e3']
     exact⟨rfl,rfl⟩
    | true=>
     rw[e4,if_pos rfl] at h4
     refine x.call [0] rfl tR rfl h4 rfl ⟨⟨rfl,rfl⟩,tR⟩ ⟨⟨rfl,ah rfl,rfl,rfl,tR⟩,tR⟩ ?_
     refine x.exit rfl tR ?_
     simp only[wT,nmV,bnd,e1,e2,e4,if_true]
     rw[if_neg e3']
     exact⟨.inr rfl,⟨rfl,rfl,rfl,rfl,tR⟩,⟨⟨rfl,ah rfl,rfl,rfl,tR⟩,tR⟩,rfl⟩
  ·have e2:isV l (n+1+1) 3=false:=e2
   rw[e2,if_neg (by simp)] at h2
   refine x.die [0] rfl tR rfl h2 ⟨⟨rfl,rfl⟩,tR⟩ rfl ⟨⟨rfl,ah rfl,rfl,rfl,tR⟩,tR⟩ ?_
   simp only[wT,nmV,bnd,e1,e2,if_true,adu,if_false]
   exact⟨rfl,rfl⟩
end
abbrev iC4 (x:Ins):Ch:=.box [.d (.int .u8 x.kind), .d (.int .u8 x.op),vs x.dst,vs x.ref,vs x.alt, .own 4, .own 5,vi x.num,vi x.at_]
abbrev HP4 (s:ByteArray) (l:List Tok) (n c:Nat) (x:Ins):List Ch:=[pC s l n c,iC4 x, .box [.ptr 1 0], .box [.ptr 0 0],gQ x.args,gQ x.frm]
def dO (s:ByteArray) (l:List Tok) (n:Nat) (b:UInt8):Except (Int×Int) (Nat×Unit):=if (txV s l n).data.toList=[b] then .ok (n+1,()) else .error (atV s l n,7)
def qQ (s:ByteArray) (l:List Tok) (n:Nat) (x:Ins):Except (Int×Int) (Nat×Ins):=
 bnd (nmV s l n) fun n f=>bnd (dO s l n 58) fun n _=>bnd (nmV s l n) fun n a=>.ok (n,{x with frm:=x.frm++[f],args:=x.args++[a]})
def acN (s:ByteArray) (l:List Tok) (c:Nat):Except (Int×Int) (Nat×Ins)->Out
 | .ok (n,x)=>.ret (.tup []) (HP4 s l n c x)
 | .error (a,e)=>wS a e
section
variable (s:ByteArray) (l:List Tok) (n c:Nat) (hl:oW s l) (hn:n≤l.length) (y:Ins) (hy:y.args.length≤1000) (hy2:y.frm.length≤1000)
include hl hn hy hy2 in
theorem Sv:aW PG 214 4 [.ptr 2 0, .ptr 3 0] (HP4 s l n c y) (acN s l c (qQ s l n y)):=by
 have hll:=hl.2.1
 refine aW.mk (dG 26 4) av [0,1,2,3,4,5] Tryz.func214 rfl (by kernel_rfl) rfl rfl (by rcases qQ s l n y with⟨a,e⟩ | ⟨n',x'⟩<;>rfl) ?_
 intro C x
 have h1:=aX s l n c hl (by omega)
 cases e1:isV l n 1 with
 | false=>
  rw[e1,if_neg (by simp)] at h1
  refine x.P8 [0,1,4,5] 4 [0,5] [0] [1,2,3,4,5] [6,7] [8,9,10,11] rfl tR ay (by kernel_rfl) fU.quiet rfl rfl tR rfl tR (fun C1 C2 x1 x2=>?_)
  refine x1.die [0] rfl tR rfl h1 ⟨⟨rfl,rfl⟩,tR⟩ rfl ⟨⟨rfl,ah rfl,rfl,rfl,tR⟩,tR⟩ ⟨⟨_,rfl⟩,rfl,⟨_,rfl⟩,rfl,?_⟩
  simp only[qQ,nmV,bnd,e1,if_true,adu,if_false]
  exact⟨rfl,rfl⟩
 | true=>
  rw[e1,if_pos rfl] at h1
  have l1:=dn e1
  refine x.P8 [0,1,4,5] 4 [0,5] [0] [1,2,3,4,5] [6,7] [8,9,10,11] rfl tR ay (by kernel_rfl) fU.quiet rfl rfl tR rfl tR (fun C1 C2 x1 x2=>?_)
  refine x1.call [0] rfl tR rfl h1 rfl ⟨⟨rfl,rfl⟩,tR⟩ ⟨⟨rfl,ah rfl,rfl,rfl,tR⟩,tR⟩ ?_
  refine x1.back rfl tR ?_
  refine x1.back rfl tR ?_
  refine x2.back rfl (by simp only[aj,big];omega) ?_
  refine x2.back rfl tR ?_
  refine x2.back rfl tR ?_
  refine x2.back rfl tR ?_
  have h2:=iX s l (n+1) c hl (by omega) ⟨#[58]⟩
  by_cases e2:(txV s l (n+1)).data.toList=[58]
  ·rw[if_pos e2] at h2
   have l2:=jl e2
   refine x.call [0] rfl tR rfl h2 rfl ⟨⟨rfl,rfl⟩,rfl,tR⟩ ⟨⟨rfl,ah rfl,rfl,rfl,tR⟩,tR⟩ ?_
   have h3:=aX s l (n+1+1) c hl (by omega)
   cases e3:isV l (n+1+1) 1 with
   | false=>
    rw[e3,if_neg (by simp)] at h3
    refine x.P8 [0,1,4,5,6] 4 [0] [0] [1,2,3,4,5] [6,7] [8,9,10,11] rfl tR ay (by kernel_rfl) fU.quiet rfl rfl tR rfl tR (fun C1 C2 x1 x2=>?_)
    refine x1.die [0] rfl tR rfl h3 ⟨⟨rfl,rfl⟩,tR⟩ rfl ⟨⟨rfl,ah rfl,rfl,rfl,tR⟩,tR⟩ ⟨⟨_,rfl⟩,rfl,⟨_,rfl⟩,rfl,?_⟩
    simp only[qQ,dO,nmV,bnd,e1,e2,e3,if_true,adu,if_false]
    exact⟨rfl,rfl⟩
   | true=>
    rw[e3,if_pos rfl] at h3
    refine x.P8 [0,1,4,5,6] 4 [0] [0] [1,2,3,4,5] [6,7] [8,9,10,11] rfl tR ay (by kernel_rfl) fU.quiet rfl rfl tR rfl tR (fun C1 C2 x1 x2=>?_)
    refine x1.call [0] rfl tR rfl h3 rfl ⟨⟨rfl,rfl⟩,tR⟩ ⟨⟨rfl,ah rfl,rfl,rfl,tR⟩,tR⟩ ?_
    refine x1.back rfl tR ?_
    refine x1.back rfl tR ?_
    refine x2.back rfl (by simp only[aj,big];omega) ?_
    refine x2.back rfl tR ?_
    refine x2.back rfl tR ?_
    refine x2.back rfl tR ?_
    refine x.exit rfl tR ?_
    simp only[qQ,dO,nmV,bnd,e1,e2,e3,if_true]
    exact⟨.inl rfl,tR,⟨⟨rfl,ah rfl,rfl,rfl,tR⟩,⟨rfl,rfl,rfl,rfl,rfl,rfl,rfl,rfl,rfl,tR⟩,⟨⟨rfl,rfl⟩,tR⟩,⟨⟨rfl,rfl⟩,tR⟩,⟨rfl,rfl,len1 _ _,fun j hj=>jd _ _ j hj⟩,⟨rfl,rfl,len1 _ _,fun j hj=>jd _ _ j hj⟩,tR⟩,rfl⟩
  ·rw[if_neg e2] at h2
   refine x.die [0] rfl tR rfl h2 ⟨⟨rfl,rfl⟩,rfl,tR⟩ rfl ⟨⟨rfl,ah rfl,rfl,rfl,tR⟩,tR⟩ ?_
   simp only[qQ,dO,nmV,bnd,e1,e2,if_true,if_false]
   exact⟨rfl,rfl⟩
end
theorem Lm {s:ByteArray} {l:List Tok} {n:Nat} {x:Ins} {n':Nat} {x':Ins} (h:qQ s l n x=.ok (n',x')):n<n'∧n'≤l.length∧isV l n 1=true∧x'.args.length=x.args.length+1∧x'.frm.length=x.frm.length+1:=by
 unfold qQ nmV dO at h
 by_cases e1:isV l n 1=true
 ·simp only[e1,if_true,bnd] at h
  by_cases e2:(txV s l (n+1)).data.toList=[58]
  ·simp only[e2,if_true] at h
   by_cases e3:isV l (n+1+1) 1=true
   ·simp only[e3,if_true,Except.ok.injEq,adq] at h
    obtain⟨rfl,rfl⟩:=h
    have:=dn e3
    exact⟨by omega,by omega,e1,by simp,by simp⟩
   ·simp [e3] at h
  ·simp [e2] at h
 ·simp [e1,bnd] at h
def kU (s:ByteArray) (l:List Tok):Nat->Nat->Nat->Ins->Except (Int×Int) (Nat×Ins)
 | 0,_,_,_=>.error (0,0)
 | f+1,n,k,x=>
  if isV l n 1=true∧64≤k then .error (atV s l n,3)
  else bnd (qQ s l n x) fun n x=>if (txV s l n).data.toList=[44] then kU s l f (n+1) (k+1) x else .ok (n,x)
structure PW (s:ByteArray) (l:List Tok) (R:Except (Int×Int) (Nat×Ins)) where
 f:Nat
 n:Nat
 k:Nat
 x:Ins
 hf:l.length+1≤f+n
 hn:n≤l.length
 hk:k≤64
 ha:x.args.length≤100+k
 hb:x.frm.length≤100+k
 same:kU s l f n k x=R
section
variable (s:ByteArray) (l:List Tok) (n c:Nat) (hl:oW s l) (hn:n≤l.length) (y:Ins) (hy:y.args.length≤100) (hy2:y.frm.length≤100)
include hl hn hy hy2 in
theorem Ol:aW PG 150 4 [.ptr 0 0,vi 64, .fn 214 [.ptr 2 0, .ptr 3 0]] (HP4 s l n c y) (acN s l c (kU s l (l.length+1) n 0 y)):=by
 obtain⟨R,hR⟩:∃R,kU s l (l.length+1) n 0 y=R:=⟨_,rfl⟩
 rw[hR]
 have hll:=hl.2.1
 refine aW.mk (dG 27 4) av [0,1,2,3,4,5] Tryz.func150 rfl (by kernel_rfl) rfl rfl (by rcases R with⟨a,e⟩ | ⟨n,o⟩<;>rfl) ?_
 intro C x
 refine x.loop (α:=PW s l R) (fun y=>⟨[(0, .ptr 0 0),(1,vi 64),(2, .fn 214 [.ptr 2 0, .ptr 3 0]),(6,vi (y.k:Int))],[(0,pC s l y.n c),(1,iC4 y.x),(2, .box [.ptr 1 0]),(3, .box [.ptr 0 0]),(4,gQ y.x.args),(5,gQ y.x.frm)],6⟩) (fun y=>y.f) ⟨l.length+1,n,0,y,by omega,by omega,by omega,by omega,by omega,hR⟩ rfl tR ⟨⟨⟨rfl,rfl⟩,rfl,rfl,rfl,tR⟩,⟨⟨rfl,ah rfl,rfl,rfl,tR⟩,⟨rfl,rfl,rfl,rfl,rfl,rfl,rfl,rfl,rfl,tR⟩,⟨⟨rfl,rfl⟩,tR⟩,⟨⟨rfl,rfl⟩,tR⟩,⟨rfl,rfl,rfl,fun _ _=>rfl⟩,⟨rfl,rfl,rfl,fun _ _=>rfl⟩,tR⟩,rfl⟩ (fun y=>?_)
 obtain⟨f,n,k,y,hf,hn,hk,ha,hb,same⟩:=y
 change Go C _ ⟨[(0, .ptr 0 0),(1,vi 64),(2, .fn 214 [.ptr 2 0, .ptr 3 0]),(6,vi (k:Int))],[(0,pC s l n c),(1,iC4 y),(2, .box [.ptr 1 0]),(3, .box [.ptr 0 0]),(4,gQ y.args),(5,gQ y.frm)],6⟩ _
 obtain⟨f,rfl⟩:∃f',f=f'+1:=⟨f-1,by omega⟩
 rw[kU] at same
 refine x.call [0] rfl tR rfl (gI s l n c 1) rfl ⟨⟨rfl,rfl⟩,rfl,tR⟩ ⟨⟨rfl,ah rfl,rfl,rfl,tR⟩,tR⟩ ?_
 have h1:=Sv s l n c hl hn y (by omega) (by omega)
 obtain⟨V,hV⟩:∃V,qQ s l n y=V:=⟨_,rfl⟩
 have bad:isV l n 1=false->V=.error (atV s l n,7):=fun e=>by rw[←hV,qQ,nmV,e];rfl
 rw[hV] at h1 same
 refine x.cond rfl tR (fun h=>?_) (fun h=>?_)
 ·have h:isV l n 1=true:=h
  have h2:=nM s l n c (by omega) (k:Int) 64
  by_cases h3:64≤k
  ·rw[if_pos ⟨h,h3⟩] at same
   rw[if_pos (by omega)] at h2
   exact x.die [0] rfl tR rfl h2 ⟨⟨rfl,rfl⟩,rfl,rfl,tR⟩ rfl ⟨⟨rfl,ah rfl,rfl,rfl,tR⟩,tR⟩ (by rw[←same];exact⟨rfl,rfl⟩)
  ·rw[if_neg (fun hh=>h3 hh.2)] at same
   rw[if_neg (by omega)] at h2
   refine x.call [0] rfl tR rfl h2 rfl ⟨⟨rfl,rfl⟩,rfl,rfl,tR⟩ ⟨⟨rfl,ah rfl,rfl,rfl,tR⟩,tR⟩ ?_
   rcases V with⟨a,e⟩ | ⟨n',y'⟩
   ·exact x.die [0,1,2,3,4,5] rfl tR rfl h1 ⟨⟨rfl,rfl⟩,⟨rfl,rfl⟩,tR⟩ rfl ⟨⟨rfl,ah rfl,rfl,rfl,tR⟩,⟨rfl,rfl,rfl,rfl,rfl,rfl,rfl,rfl,rfl,tR⟩,⟨⟨rfl,rfl⟩,tR⟩,⟨⟨rfl,rfl⟩,tR⟩,⟨rfl,rfl,rfl,fun _ _=>rfl⟩,⟨rfl,rfl,rfl,fun _ _=>rfl⟩,tR⟩ (by rw[←same];exact⟨rfl,rfl⟩)
   ·obtain⟨p1,p2,_,p4,p5⟩:=Lm hV
    simp only[bnd] at same
    refine x.call [0,1,2,3,4,5] rfl tR rfl h1 rfl ⟨⟨rfl,rfl⟩,⟨rfl,rfl⟩,tR⟩ ⟨⟨rfl,ah rfl,rfl,rfl,tR⟩,⟨rfl,rfl,rfl,rfl,rfl,rfl,rfl,rfl,rfl,tR⟩,⟨⟨rfl,rfl⟩,tR⟩,⟨⟨rfl,rfl⟩,tR⟩,⟨rfl,rfl,rfl,fun _ _=>rfl⟩,⟨rfl,rfl,rfl,fun _ _=>rfl⟩,tR⟩ ?_
    refine x.call [0] rfl tR rfl (dA s l n' c hl (by omega) 0 (by omega)) rfl ⟨⟨rfl,rfl⟩,rfl,tR⟩ ⟨⟨rfl,ah rfl,rfl,rfl,tR⟩,tR⟩ ?_
    refine x.cond rfl tR (fun h4=>?_) (fun h4=>?_)
    ·have h4:(!decide ((txV s l n').data.toList=[44]))=true:=h4
     rw[if_neg (by simpa using h4)] at same
     refine x.exit rfl tR ?_
     rw[←same]
     exact⟨.inr rfl,tR,⟨⟨rfl,ah rfl,rfl,rfl,tR⟩,⟨rfl,rfl,rfl,rfl,rfl,rfl,rfl,rfl,rfl,tR⟩,⟨⟨rfl,rfl⟩,tR⟩,⟨⟨rfl,rfl⟩,tR⟩,⟨rfl,rfl,rfl,fun _ _=>rfl⟩,⟨rfl,rfl,rfl,fun _ _=>rfl⟩,tR⟩,rfl⟩
    ·have h4:(!decide ((txV s l n').data.toList=[44]))=false:=h4
     have h5:(txV s l n').data.toList=[44]:=by simpa using h4
     have h6:=jl h5
     rw[if_pos h5] at same
     refine x.back rfl ?_ ⟨⟨f,n'+1,k+1,y',by omega,by omega,by omega,by omega,by omega,same⟩,by show f<f+1;omega,⟨⟨rfl,rfl⟩,rfl,rfl,?_,tR⟩,⟨⟨rfl,ah rfl,?_,rfl,tR⟩,⟨rfl,rfl,rfl,rfl,rfl,rfl,rfl,rfl,rfl,tR⟩,⟨⟨rfl,rfl⟩,tR⟩,⟨⟨rfl,rfl⟩,tR⟩,⟨rfl,rfl,rfl,fun _ _=>rfl⟩,⟨rfl,rfl,rfl,fun _ _=>rfl⟩,tR⟩,rfl⟩
     ·simp only[aj,ak];omega
     ·show aG (vi ((k:Int)+1)) (vi ((k+1:Nat):Int));rw[ads];rfl
     ·show aG (vi ((n':Int)+1)) (vi ((n'+1:Nat):Int));rw[ads];rfl
 ·have h:isV l n 1=false:=h
  have hb:=bad h
  subst hb
  rw[if_neg (fun hh=>by rw[h] at hh;exact absurd hh.1 (by simp))] at same
  exact x.die [0,1,2,3,4,5] rfl tR rfl h1 ⟨⟨rfl,rfl⟩,⟨rfl,rfl⟩,tR⟩ rfl ⟨⟨rfl,ah rfl,rfl,rfl,tR⟩,⟨rfl,rfl,rfl,rfl,rfl,rfl,rfl,rfl,rfl,tR⟩,⟨⟨rfl,rfl⟩,tR⟩,⟨⟨rfl,rfl⟩,tR⟩,⟨rfl,rfl,rfl,fun _ _=>rfl⟩,⟨rfl,rfl,rfl,fun _ _=>rfl⟩,tR⟩ (by rw[←same];exact⟨rfl,rfl⟩)
end
theorem AV {s:ByteArray} {l:List Tok}:∀{f n k:Nat} {x:Ins} {n':Nat} {x':Ins},kU s l f n k x=.ok (n',x')->n<n'∧n'≤l.length
 | 0,n,k,x,n',x',h=>by simp [kU] at h
 | f+1,n,k,x,n',x',h=>by
  rw[kU] at h
  split at h
  ·cases h
  ·obtain⟨V,hV⟩:∃V,qQ s l n x=V:=⟨_,rfl⟩
   rw[hV] at h
   rcases V with⟨a,e⟩ | ⟨n1,x1⟩
   ·cases h
   ·obtain⟨p1,p2,_⟩:=Lm hV
    simp only[bnd] at h
    split at h
    ·obtain⟨q1,q2⟩:=AV h
     exact⟨by omega,q2⟩
    ·simp only[Except.ok.injEq,adq] at h
     obtain⟨rfl,rfl⟩:=h
     exact⟨p1,p2⟩
def Lp (s:ByteArray) (l:List Tok) (n:Nat) (x:Ins):Except (Int×Int) (Nat×Ins):=
 bnd (dO s l n 91) fun n _=>j6 s l 93 (kU s l (l.length+1) n 0 {x with kind:=3})
section
variable (s:ByteArray) (l:List Tok) (n c:Nat) (hl:oW s l) (hn:n≤l.length) (y:Ins) (hy:y.args.length≤100) (hy2:y.frm.length≤100)
include hl hn hy hy2 in
theorem Sw:aW PG 213 2 [.ptr 0 0, .ptr 1 0] (HX s l n c y) (Dg s l c (Lp s l n y)):=by
 have hll:=hl.2.1
 refine aW.mk (dG 14 2) av [0,1,2,3] Tryz.func213 rfl (by kernel_rfl) rfl rfl (okI (by omega) _) ?_
 intro C x
 have h1:=iX s l n c hl (by omega) ⟨#[91]⟩
 by_cases e1:(txV s l n).data.toList=[91]
 ·rw[if_pos e1] at h1
  have l1:=jl e1
  refine x.call [0] rfl tR rfl h1 rfl ⟨⟨rfl,rfl⟩,rfl,tR⟩ ⟨⟨rfl,ah rfl,rfl,rfl,tR⟩,tR⟩ ?_
  have h2:=Ol s l (n+1) c hl (by omega) {y with kind:=3} hy hy2
  obtain⟨R,hR⟩:∃R,kU s l (l.length+1) (n+1) 0 {y with kind:=3}=R:=⟨_,rfl⟩
  have hV:Lp s l n y=j6 s l 93 R:=by rw[Lp,dO,if_pos e1,bnd,hR]
  rw[hR] at h2
  rcases R with⟨a,e⟩ | ⟨n',y'⟩
  ·refine x.die [0,1,5,4,2,3] rfl tR rfl h2 ⟨⟨rfl,rfl⟩,rfl,rfl,tR⟩ rfl ⟨⟨rfl,ah rfl,rfl,rfl,tR⟩,⟨rfl,rfl,rfl,rfl,rfl,rfl,rfl,rfl,rfl,tR⟩,⟨⟨rfl,rfl⟩,tR⟩,⟨⟨rfl,rfl⟩,tR⟩,⟨rfl,rfl,rfl,fun _ _=>rfl⟩,⟨rfl,rfl,rfl,fun _ _=>rfl⟩,tR⟩ ?_
   rw[hV]
   exact⟨rfl,rfl⟩
  ·obtain⟨q1,q2⟩:=AV hR
   refine x.call [0,1,5,4,2,3] rfl tR rfl h2 rfl ⟨⟨rfl,rfl⟩,rfl,rfl,tR⟩ ⟨⟨rfl,ah rfl,rfl,rfl,tR⟩,⟨rfl,rfl,rfl,rfl,rfl,rfl,rfl,rfl,rfl,tR⟩,⟨⟨rfl,rfl⟩,tR⟩,⟨⟨rfl,rfl⟩,tR⟩,⟨rfl,rfl,rfl,fun _ _=>rfl⟩,⟨rfl,rfl,rfl,fun _ _=>rfl⟩,tR⟩ ?_
   have h3:=iX s l n' c hl (by omega) ⟨#[93]⟩
   by_cases e3:(txV s l n').data.toList=[93]
   ·rw[if_pos e3] at h3
    refine x.call [0] rfl tR rfl h3 rfl ⟨⟨rfl,rfl⟩,rfl,tR⟩ ⟨⟨rfl,ah rfl,rfl,rfl,tR⟩,tR⟩ ?_
    refine x.exit rfl tR ?_
    rw[hV,j6,if_pos e3]
    exact⟨.inl rfl,tR,⟨⟨rfl,ah rfl,rfl,rfl,tR⟩,⟨rfl,rfl,rfl,rfl,rfl,rfl,rfl,rfl,rfl,tR⟩,⟨rfl,rfl,rfl,fun _ _=>rfl⟩,⟨rfl,rfl,rfl,fun _ _=>rfl⟩,tR⟩,rfl⟩
   ·rw[if_neg e3] at h3
    refine x.die [0] rfl tR rfl h3 ⟨⟨rfl,rfl⟩,rfl,tR⟩ rfl ⟨⟨rfl,ah rfl,rfl,rfl,tR⟩,tR⟩ ?_
    rw[hV,j6,if_neg e3]
    exact⟨rfl,rfl⟩
 ·rw[if_neg e1] at h1
  refine x.die [0] rfl tR rfl h1 ⟨⟨rfl,rfl⟩,rfl,tR⟩ rfl ⟨⟨rfl,ah rfl,rfl,rfl,tR⟩,tR⟩ ?_
  rw[Lp,dO,if_neg e1,bnd]
  exact⟨rfl,rfl⟩
end
def Cw (s:ByteArray) (l:List Tok) (n:Nat) (x:Ins) (w:List UInt8):Except (Int×Int) (Nat×Ins):=
 if w=[99,111,110,115,116] then qp s l (n+1) x else
 if w=[108,111,97,100] then cellV 4 s l (n+1) x else
 if w=[119,114,97,112] then cellV 5 s l (n+1) x else
 if w=[105,110,112,117,116] then yh s l (n+1) x else
 if w=[99,97,108,108] then Cv s l (n+1) x else
 if w=[114,101,108,101,97,115,101] then mH s l (n+1) x else
 if w=[112,104,105] then Lp s l (n+1) x else
 .error (atV s l n,7)
def dM (s:ByteArray) (l:List Tok) (n:Nat) (x:Ins):Except (Int×Int) (Nat×Ins):=
 if opV (txV s l n)≠0 then bnd (kT s l (n+1) {x with kind:=2,op:=(opV (txV s l n):Int)}) fun n x=>kT s l n x
 else Cw s l n x (txV s l n).data.toList
section
variable (s:ByteArray) (l:List Tok) (n c:Nat) (hl:oW s l) (hn:n≤l.length) (y:Ins) (hy:y.args.length≤100) (hy2:y.frm.length≤100)
include hl hn hy hy2 in
theorem Lr:aW PG 181 2 [.ptr 0 0, .ptr 1 0] (HX s l n c y) (Dg s l c (dM s l n y)):=by
 have hll:=hl.2.1
 have ei:aG (vi ((n:Int)+1)) (vi ((n+1:Nat):Int)):=by rw[ads];rfl
 refine aW.mk (dG 72 2) av [0,1,2,3] Tryz.func181 rfl (by kernel_rfl) rfl rfl (okI (by omega) _) ?_
 intro C x
 refine x.call [0] rfl tR rfl (dA s l n c hl (by omega) 0 (by omega)) rfl ⟨⟨rfl,rfl⟩,rfl,tR⟩ ⟨⟨rfl,ah rfl,rfl,rfl,tR⟩,tR⟩ ?_
 obtain⟨w,hw⟩:∃w,txV s l n=w:=⟨_,rfl⟩
 rw[show n+0=n from rfl,hw]
 refine x.pure rfl tR rfl (op_spec w) ⟨rfl,tR⟩ ?_
 refine x.call [] rfl tR rfl Li rfl tR tR ?_
 refine x.look rfl tR rfl ⟨fun e=>?_,fun g0=>?_⟩
 ·have ho:opV w=0:=by unfold opV;rw[e];decide
  have lt:n<l.length:=jl (by rw[hw];exact e)
  have hv:dM s l n y=qp s l (n+1) y:=by
   rw[dM,hw,if_neg (by rw[ho];simp),e];rfl
  refine x.cond rfl tR (fun b=>?_) (fun _=>?_)
  ·have b:decide (opV w≠0)=true:=b
   rw[ho] at b;simp at b
  refine x.cond rfl tR (fun _=>?_) (fun b=>by cases b)
  have h1:=Sk s l (n+1) c hl (by omega) y
  rw[hv]
  obtain⟨V,hV⟩:∃V,qp s l (n+1) y=V:=⟨_,rfl⟩
  rw[hV] at h1 ⊢
  rcases V with⟨a,b⟩ | ⟨n',y'⟩
  ·exact x.die [0,1,2,3] rfl (by simp only[aj,ak];omega) rfl h1 ⟨⟨rfl,rfl⟩,⟨rfl,rfl⟩,tR⟩ rfl ⟨⟨rfl,ah rfl,ei,rfl,tR⟩,⟨rfl,rfl,rfl,rfl,rfl,rfl,rfl,rfl,rfl,tR⟩,⟨rfl,rfl,rfl,fun _ _=>rfl⟩,⟨rfl,rfl,rfl,fun _ _=>rfl⟩,tR⟩ ⟨rfl,rfl⟩
  ·refine x.call [0,1,2,3] rfl (by simp only[aj,ak];omega) rfl h1 rfl ⟨⟨rfl,rfl⟩,⟨rfl,rfl⟩,tR⟩ ⟨⟨rfl,ah rfl,ei,rfl,tR⟩,⟨rfl,rfl,rfl,rfl,rfl,rfl,rfl,rfl,rfl,tR⟩,⟨rfl,rfl,rfl,fun _ _=>rfl⟩,⟨rfl,rfl,rfl,fun _ _=>rfl⟩,tR⟩ ?_
   refine x.exit rfl tR ?_
   exact⟨.inl rfl,tR,⟨⟨rfl,ah rfl,rfl,rfl,tR⟩,⟨rfl,rfl,rfl,rfl,rfl,rfl,rfl,rfl,rfl,tR⟩,⟨rfl,rfl,rfl,fun _ _=>rfl⟩,⟨rfl,rfl,rfl,fun _ _=>rfl⟩,tR⟩,rfl⟩
 refine⟨fun e=>?_,fun g1=>?_⟩
 ·have ho:opV w=0:=by unfold opV;rw[e];decide
  have lt:n<l.length:=jl (by rw[hw];exact e)
  have hv:dM s l n y=cellV 4 s l (n+1) y:=by
   rw[dM,hw,if_neg (by rw[ho];simp),e];rfl
  refine x.cond rfl tR (fun b=>?_) (fun _=>?_)
  ·have b:decide (opV w≠0)=true:=b
   rw[ho] at b;simp at b
  refine x.cond rfl tR (fun _=>?_) (fun b=>by cases b)
  have h1:=Hz s l (n+1) c hl (by omega) y 4
  rw[hv]
  obtain⟨V,hV⟩:∃V,cellV 4 s l (n+1) y=V:=⟨_,rfl⟩
  rw[hV] at h1 ⊢
  rcases V with⟨a,b⟩ | ⟨n',y'⟩
  ·exact x.die [0,1,2,3,5] rfl (by simp only[aj,ak];omega) rfl h1 ⟨⟨rfl,rfl⟩,⟨rfl,rfl⟩,⟨rfl,rfl⟩,tR⟩ rfl ⟨⟨rfl,ah rfl,ei,rfl,tR⟩,⟨rfl,rfl,rfl,rfl,rfl,rfl,rfl,rfl,rfl,tR⟩,⟨rfl,rfl,rfl,fun _ _=>rfl⟩,⟨rfl,rfl,rfl,fun _ _=>rfl⟩,⟨rfl,tR⟩,tR⟩ ⟨rfl,rfl⟩
  ·refine x.call [0,1,2,3,5] rfl (by simp only[aj,ak];omega) rfl h1 rfl ⟨⟨rfl,rfl⟩,⟨rfl,rfl⟩,⟨rfl,rfl⟩,tR⟩ ⟨⟨rfl,ah rfl,ei,rfl,tR⟩,⟨rfl,rfl,rfl,rfl,rfl,rfl,rfl,rfl,rfl,tR⟩,⟨rfl,rfl,rfl,fun _ _=>rfl⟩,⟨rfl,rfl,rfl,fun _ _=>rfl⟩,⟨rfl,tR⟩,tR⟩ ?_
   refine x.exit rfl tR ?_
   exact⟨.inl rfl,tR,⟨⟨rfl,ah rfl,rfl,rfl,tR⟩,⟨rfl,rfl,rfl,rfl,rfl,rfl,rfl,rfl,rfl,tR⟩,⟨rfl,rfl,rfl,fun _ _=>rfl⟩,⟨rfl,rfl,rfl,fun _ _=>rfl⟩,tR⟩,rfl⟩
 refine⟨fun e=>?_,fun g2=>?_⟩
 ·have ho:opV w=0:=by unfold opV;rw[e];decide
  have lt:n<l.length:=jl (by rw[hw];exact e)
  have hv:dM s l n y=cellV 5 s l (n+1) y:=by
   rw[dM,hw,if_neg (by rw[ho];simp),e];rfl
  refine x.cond rfl tR (fun b=>?_) (fun _=>?_)
  ·have b:decide (opV w≠0)=true:=b
   rw[ho] at b;simp at b
  refine x.cond rfl tR (fun _=>?_) (fun b=>by cases b)
  have h1:=Hz s l (n+1) c hl (by omega) y 5
  rw[hv]
  obtain⟨V,hV⟩:∃V,cellV 5 s l (n+1) y=V:=⟨_,rfl⟩
  rw[hV] at h1 ⊢
  rcases V with⟨a,b⟩ | ⟨n',y'⟩
  ·exact x.die [0,1,2,3,6] rfl (by simp only[aj,ak];omega) rfl h1 ⟨⟨rfl,rfl⟩,⟨rfl,rfl⟩,⟨rfl,rfl⟩,tR⟩ rfl ⟨⟨rfl,ah rfl,ei,rfl,tR⟩,⟨rfl,rfl,rfl,rfl,rfl,rfl,rfl,rfl,rfl,tR⟩,⟨rfl,rfl,rfl,fun _ _=>rfl⟩,⟨rfl,rfl,rfl,fun _ _=>rfl⟩,⟨rfl,tR⟩,tR⟩ ⟨rfl,rfl⟩
  ·refine x.call [0,1,2,3,6] rfl (by simp only[aj,ak];omega) rfl h1 rfl ⟨⟨rfl,rfl⟩,⟨rfl,rfl⟩,⟨rfl,rfl⟩,tR⟩ ⟨⟨rfl,ah rfl,ei,rfl,tR⟩,⟨rfl,rfl,rfl,rfl,rfl,rfl,rfl,rfl,rfl,tR⟩,⟨rfl,rfl,rfl,fun _ _=>rfl⟩,⟨rfl,rfl,rfl,fun _ _=>rfl⟩,⟨rfl,tR⟩,tR⟩ ?_
   refine x.exit rfl tR ?_
   exact⟨.inl rfl,tR,⟨⟨rfl,ah rfl,rfl,rfl,tR⟩,⟨rfl,rfl,rfl,rfl,rfl,rfl,rfl,rfl,rfl,tR⟩,⟨rfl,rfl,rfl,fun _ _=>rfl⟩,⟨rfl,rfl,rfl,fun _ _=>rfl⟩,tR⟩,rfl⟩
 refine⟨fun e=>?_,fun g3=>?_⟩
 ·have ho:opV w=0:=by unfold opV;rw[e];decide
  have lt:n<l.length:=jl (by rw[hw];exact e)
  have hv:dM s l n y=yh s l (n+1) y:=by
   rw[dM,hw,if_neg (by rw[ho];simp),e];rfl
  refine x.cond rfl tR (fun b=>?_) (fun _=>?_)
  ·have b:decide (opV w≠0)=true:=b
   rw[ho] at b;simp at b
  refine x.cond rfl tR (fun _=>?_) (fun b=>by cases b)
  have h1:=Sl s l (n+1) c hl (by omega) y
  rw[hv]
  obtain⟨V,hV⟩:∃V,yh s l (n+1) y=V:=⟨_,rfl⟩
  rw[hV] at h1 ⊢
  rcases V with⟨a,b⟩ | ⟨n',y'⟩
  ·exact x.die [0,1,2,3] rfl (by simp only[aj,ak];omega) rfl h1 ⟨⟨rfl,rfl⟩,⟨rfl,rfl⟩,tR⟩ rfl ⟨⟨rfl,ah rfl,ei,rfl,tR⟩,⟨rfl,rfl,rfl,rfl,rfl,rfl,rfl,rfl,rfl,tR⟩,⟨rfl,rfl,rfl,fun _ _=>rfl⟩,⟨rfl,rfl,rfl,fun _ _=>rfl⟩,tR⟩ ⟨rfl,rfl⟩
  ·refine x.call [0,1,2,3] rfl (by simp only[aj,ak];omega) rfl h1 rfl ⟨⟨rfl,rfl⟩,⟨rfl,rfl⟩,tR⟩ ⟨⟨rfl,ah rfl,ei,rfl,tR⟩,⟨rfl,rfl,rfl,rfl,rfl,rfl,rfl,rfl,rfl,tR⟩,⟨rfl,rfl,rfl,fun _ _=>rfl⟩,⟨rfl,rfl,rfl,fun _ _=>rfl⟩,tR⟩ ?_
   refine x.exit rfl tR ?_
   exact⟨.inl rfl,tR,⟨⟨rfl,ah rfl,rfl,rfl,tR⟩,⟨rfl,rfl,rfl,rfl,rfl,rfl,rfl,rfl,rfl,tR⟩,⟨rfl,rfl,rfl,fun _ _=>rfl⟩,⟨rfl,rfl,rfl,fun _ _=>rfl⟩,tR⟩,rfl⟩
 refine⟨fun e=>?_,fun g4=>?_⟩
 ·have ho:opV w=0:=by unfold opV;rw[e];decide
  have lt:n<l.length:=jl (by rw[hw];exact e)
  have hv:dM s l n y=Cv s l (n+1) y:=by
   rw[dM,hw,if_neg (by rw[ho];simp),e];rfl
  refine x.cond rfl tR (fun b=>?_) (fun _=>?_)
  ·have b:decide (opV w≠0)=true:=b
   rw[ho] at b;simp at b
  refine x.cond rfl tR (fun _=>?_) (fun b=>by cases b)
  have h1:=Sn s l (n+1) c hl (by omega) y
  rw[hv]
  obtain⟨V,hV⟩:∃V,Cv s l (n+1) y=V:=⟨_,rfl⟩
  rw[hV] at h1 ⊢
  rcases V with⟨a,b⟩ | ⟨n',y'⟩
  ·exact x.die [0,1,2,3] rfl (by simp only[aj,ak];omega) rfl h1 ⟨⟨rfl,rfl⟩,⟨rfl,rfl⟩,tR⟩ rfl ⟨⟨rfl,ah rfl,ei,rfl,tR⟩,⟨rfl,rfl,rfl,rfl,rfl,rfl,rfl,rfl,rfl,tR⟩,⟨rfl,rfl,rfl,fun _ _=>rfl⟩,⟨rfl,rfl,rfl,fun _ _=>rfl⟩,tR⟩ ⟨rfl,rfl⟩
  ·refine x.call [0,1,2,3] rfl (by simp only[aj,ak];omega) rfl h1 rfl ⟨⟨rfl,rfl⟩,⟨rfl,rfl⟩,tR⟩ ⟨⟨rfl,ah rfl,ei,rfl,tR⟩,⟨rfl,rfl,rfl,rfl,rfl,rfl,rfl,rfl,rfl,tR⟩,⟨rfl,rfl,rfl,fun _ _=>rfl⟩,⟨rfl,rfl,rfl,fun _ _=>rfl⟩,tR⟩ ?_
   refine x.exit rfl tR ?_
   exact⟨.inl rfl,tR,⟨⟨rfl,ah rfl,rfl,rfl,tR⟩,⟨rfl,rfl,rfl,rfl,rfl,rfl,rfl,rfl,rfl,tR⟩,⟨rfl,rfl,rfl,fun _ _=>rfl⟩,⟨rfl,rfl,rfl,fun _ _=>rfl⟩,tR⟩,rfl⟩
 refine⟨fun e=>?_,fun g5=>?_⟩
 ·have ho:opV w=0:=by unfold opV;rw[e];decide
  have lt:n<l.length:=jl (by rw[hw];exact e)
  have hv:dM s l n y=mH s l (n+1) y:=by
   rw[dM,hw,if_neg (by rw[ho];simp),e];rfl
  refine x.cond rfl tR (fun b=>?_) (fun _=>?_)
  ·have b:decide (opV w≠0)=true:=b
   rw[ho] at b;simp at b
  refine x.cond rfl tR (fun _=>?_) (fun b=>by cases b)
  have h1:=Sq s l (n+1) c hl (by omega) y
  rw[hv]
  obtain⟨V,hV⟩:∃V,mH s l (n+1) y=V:=⟨_,rfl⟩
  rw[hV] at h1 ⊢
  rcases V with⟨a,b⟩ | ⟨n',y'⟩
  ·exact x.die [0,1,2,3] rfl (by simp only[aj,ak];omega) rfl h1 ⟨⟨rfl,rfl⟩,⟨rfl,rfl⟩,tR⟩ rfl ⟨⟨rfl,ah rfl,ei,rfl,tR⟩,⟨rfl,rfl,rfl,rfl,rfl,rfl,rfl,rfl,rfl,tR⟩,⟨rfl,rfl,rfl,fun _ _=>rfl⟩,⟨rfl,rfl,rfl,fun _ _=>rfl⟩,tR⟩ ⟨rfl,rfl⟩
  ·refine x.call [0,1,2,3] rfl (by simp only[aj,ak];omega) rfl h1 rfl ⟨⟨rfl,rfl⟩,⟨rfl,rfl⟩,tR⟩ ⟨⟨rfl,ah rfl,ei,rfl,tR⟩,⟨rfl,rfl,rfl,rfl,rfl,rfl,rfl,rfl,rfl,tR⟩,⟨rfl,rfl,rfl,fun _ _=>rfl⟩,⟨rfl,rfl,rfl,fun _ _=>rfl⟩,tR⟩ ?_
   refine x.exit rfl tR ?_
   exact⟨.inl rfl,tR,⟨⟨rfl,ah rfl,rfl,rfl,tR⟩,⟨rfl,rfl,rfl,rfl,rfl,rfl,rfl,rfl,rfl,tR⟩,⟨rfl,rfl,rfl,fun _ _=>rfl⟩,⟨rfl,rfl,rfl,fun _ _=>rfl⟩,tR⟩,rfl⟩
 refine⟨fun e=>?_,fun g6=>?_⟩
 ·have ho:opV w=0:=by unfold opV;rw[e];decide
  have lt:n<l.length:=jl (by rw[hw];exact e)
  have hv:dM s l n y=Lp s l (n+1) y:=by
   rw[dM,hw,if_neg (by rw[ho];simp),e];rfl
  refine x.cond rfl tR (fun b=>?_) (fun _=>?_)
  ·have b:decide (opV w≠0)=true:=b
   rw[ho] at b;simp at b
  refine x.cond rfl tR (fun _=>?_) (fun b=>by cases b)
  have h1:=Sw s l (n+1) c hl (by omega) y hy hy2
  rw[hv]
  obtain⟨V,hV⟩:∃V,Lp s l (n+1) y=V:=⟨_,rfl⟩
  rw[hV] at h1 ⊢
  rcases V with⟨a,b⟩ | ⟨n',y'⟩
  ·exact x.die [0,1,2,3] rfl (by simp only[aj,ak];omega) rfl h1 ⟨⟨rfl,rfl⟩,⟨rfl,rfl⟩,tR⟩ rfl ⟨⟨rfl,ah rfl,ei,rfl,tR⟩,⟨rfl,rfl,rfl,rfl,rfl,rfl,rfl,rfl,rfl,tR⟩,⟨rfl,rfl,rfl,fun _ _=>rfl⟩,⟨rfl,rfl,rfl,fun _ _=>rfl⟩,tR⟩ ⟨rfl,rfl⟩
  ·refine x.call [0,1,2,3] rfl (by simp only[aj,ak];omega) rfl h1 rfl ⟨⟨rfl,rfl⟩,⟨rfl,rfl⟩,tR⟩ ⟨⟨rfl,ah rfl,ei,rfl,tR⟩,⟨rfl,rfl,rfl,rfl,rfl,rfl,rfl,rfl,rfl,tR⟩,⟨rfl,rfl,rfl,fun _ _=>rfl⟩,⟨rfl,rfl,rfl,fun _ _=>rfl⟩,tR⟩ ?_
   refine x.exit rfl tR ?_
   exact⟨.inl rfl,tR,⟨⟨rfl,ah rfl,rfl,rfl,tR⟩,⟨rfl,rfl,rfl,rfl,rfl,rfl,rfl,rfl,rfl,tR⟩,⟨rfl,rfl,rfl,fun _ _=>rfl⟩,⟨rfl,rfl,rfl,fun _ _=>rfl⟩,tR⟩,rfl⟩
 have hd:Cw s l n y w.data.toList=.error (atV s l n,7):=by
  rw[Cw,if_neg g0,if_neg g1,if_neg g2,if_neg g3,if_neg g4,if_neg g5,if_neg g6]
 refine x.cond rfl tR (fun b=>?_) (fun b=>?_)
 ·have b:decide (opV w≠0)=true:=b
  have b:opV w≠0:=by simpa using b
  have lt:n<l.length:=by
   refine Classical.byContradiction fun hh=>b ?_
   rw[←hw,txV,if_neg hh];decide
  have hv:dM s l n y=bnd (kT s l (n+1) {y with kind:=2,op:=(opV w:Int)}) fun n x=>kT s l n x:=by
   rw[dM,hw,if_pos b]
  have h1:=aX s l (n+1) c hl (by omega)
  cases e1:isV l (n+1) 1 with
  | false=>
   rw[e1,if_neg (by simp)] at h1
   refine x.draw [0] [0,1,5] [2,3,4] [6,7] [8,9,10,11] rfl (by simp only[aj,ak];omega) ay (by kernel_rfl) fU.quiet rfl tR (fun C1 x1=>?_)
   refine x1.die [0] rfl tR rfl h1 ⟨⟨rfl,rfl⟩,tR⟩ rfl ⟨⟨rfl,ah rfl,ei,rfl,tR⟩,tR⟩ ⟨⟨_,rfl⟩,rfl,?_⟩
   rw[hv]
   simp only[kT,nmV,bnd,e1,if_true,adu,if_false]
   exact⟨rfl,rfl⟩
  | true=>
   rw[e1,if_pos rfl] at h1
   have l1:=dn e1
   refine x.draw [0] [0,1,5] [2,3,4] [6,7] [8,9,10,11] rfl (by simp only[aj,ak];omega) ay (by kernel_rfl) fU.quiet rfl tR (fun C1 x1=>?_)
   refine x1.call [0] rfl tR rfl h1 rfl ⟨⟨rfl,rfl⟩,tR⟩ ⟨⟨rfl,ah rfl,ei,rfl,tR⟩,tR⟩ ?_
   refine x1.back rfl tR ?_
   refine x1.back rfl tR ?_
   refine x.code rfl (by simp only[aj,big,List.length_append,List.length_cons,List.length_nil];omega) ?_
   refine x.le (s':=⟨[(0, .ptr 0 0),(1, .ptr 1 0)],[(0,pC s l (n+1+1) c),(1,iC {y with kind:=2,op:=(opV w:Int)}),(2,gQ (y.args++[txV s l (n+1)])),(3,gQ y.frm)],4⟩) ⟨⟨⟨rfl,rfl⟩,⟨rfl,rfl⟩,tR⟩,⟨⟨rfl,ah rfl,rfl,rfl,tR⟩,⟨rfl,rfl,rfl,rfl,rfl,rfl,rfl,rfl,rfl,tR⟩,⟨rfl,rfl,len1 _ _,fun j hj=>jd _ _ j hj⟩,⟨rfl,rfl,rfl,fun _ _=>rfl⟩,tR⟩,rfl⟩ ?_
   have h2:=aX s l (n+1+1) c hl (by omega)
   cases e2:isV l (n+1+1) 1 with
   | false=>
    rw[e2,if_neg (by simp)] at h2
    refine x.draw [0] [0,1,5] [2,3,4] [6,7] [8,9,10,11] rfl tR ay (by kernel_rfl) fU.quiet rfl tR (fun C1 x1=>?_)
    refine x1.die [0] rfl tR rfl h2 ⟨⟨rfl,rfl⟩,tR⟩ rfl ⟨⟨rfl,ah rfl,rfl,rfl,tR⟩,tR⟩ ⟨⟨_,rfl⟩,rfl,?_⟩
    rw[hv]
    simp only[kT,nmV,bnd,e1,e2,if_true,adu,if_false]
    exact⟨rfl,rfl⟩
   | true=>
    rw[e2,if_pos rfl] at h2
    refine x.draw [0] [0,1,5] [2,3,4] [6,7] [8,9,10,11] rfl tR ay (by kernel_rfl) fU.quiet rfl tR (fun C1 x1=>?_)
    refine x1.call [0] rfl tR rfl h2 rfl ⟨⟨rfl,rfl⟩,tR⟩ ⟨⟨rfl,ah rfl,rfl,rfl,tR⟩,tR⟩ ?_
    refine x1.back rfl tR ?_
    refine x1.back rfl tR ?_
    refine x.exit rfl (by simp only[aj,big,List.length_append,List.length_cons,List.length_nil];omega) ?_
    rw[hv]
    simp only[kT,nmV,bnd,e1,e2,if_true]
    exact⟨.inl rfl,tR,⟨⟨rfl,ah rfl,rfl,rfl,tR⟩,⟨rfl,rfl,rfl,rfl,rfl,rfl,rfl,rfl,rfl,tR⟩,⟨rfl,rfl,len1 _ _,fun j hj=>jd _ _ j hj⟩,⟨rfl,rfl,rfl,fun _ _=>rfl⟩,tR⟩,rfl⟩
 ·have b:decide (opV w≠0)=false:=b
  have b:opV w=0:=by simpa using b
  refine x.cond rfl tR (fun b=>by cases b) (fun _=>?_)
  refine x.die [0] rfl tR rfl (kJ s l n c (by omega) 7) ⟨⟨rfl,rfl⟩,rfl,tR⟩ rfl ⟨⟨rfl,ah rfl,rfl,rfl,tR⟩,tR⟩ ?_
  rw[dM,hw,if_neg (by rw[b];simp),hd]
  exact⟨rfl,rfl⟩
end
end Go.Proofs.YtojhdmfkfkfcbaaGreatDoor
