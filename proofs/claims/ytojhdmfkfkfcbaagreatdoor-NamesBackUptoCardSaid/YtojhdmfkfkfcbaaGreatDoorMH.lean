import Derived.Test.YtojhdmfkfkfcbaaGreatDoorMG
import Derived.Test.YtojhdmfkfkfcbaaGreatDoorMC
import Derived.Test.YtojhdmfkfkfcbaaGreatDoorME
import Derived.Test.YtojhdmfkfkfcbaaGreatDoorShelf
import Derived.Test.YtojhdmfkfkfcbaaGreatDoorMD
import Derived.Test.YtojhdmfkfkfcbaaGreatDoorSxF
import Derived.Handed
import Derived.Shelf.Vars
set_option maxHeartbeats 1000000000
set_option linter.unusedSimpArgs false
set_option linter.unusedVariables false
namespace Go.Proofs.YtojhdmfkfkfcbaaGreatDoor
open Go.Sx
set_option maxRecDepth 100000
theorem adV{sz sz' p a b c d b' c' d':Nat}(hz:sz≤sz')(hb:p+1<sz->b'=b)(hc:p+2<sz->c'=c)(hd:p+3<sz->d'=d)(h:(dec sz p a b c d).1≠65533):dec sz' p a b' c' d'=dec sz p a b c d:=by
 unfold dec at h ⊢;by_cases h1:a<128
 ·rw[if_pos h1,if_pos h1]
 rw[if_neg h1] at h ⊢;rw[if_neg h1];by_cases c2:a/32=6∧p+1<sz∧b/64=2
 ·have eb:=hb c2.2.1
  subst eb;rw[if_pos c2,if_pos ⟨c2.1,by omega,c2.2.2⟩]
 rw[if_neg c2] at h ⊢;by_cases c3:a/16=14∧p+1<sz∧b/64=2∧p+2<sz∧c/64=2
 ·have eb:=hb c3.2.1
  have ec:=hc c3.2.2.2.1;subst eb ec;rw[if_pos c3,if_neg (show ¬(a/32=6∧_) by omega),if_pos ⟨c3.1,by omega,c3.2.2.1,by omega,c3.2.2.2.2⟩]
 rw[if_neg c3] at h ⊢;by_cases c4:a/8=30∧p+1<sz∧b/64=2∧p+2<sz∧c/64=2∧p+3<sz∧d/64=2
 ·have eb:=hb c4.2.1
  have ec:=hc c4.2.2.2.1;have ed:=hd c4.2.2.2.2.2.1;subst eb ec ed;rw[if_pos c4,if_neg (show ¬(a/32=6∧_) by omega),if_neg (show ¬(a/16=14∧_) by omega),if_pos ⟨c4.1,by omega,c4.2.2.1,by omega,c4.2.2.2.2.1,by omega,c4.2.2.2.2.2.2⟩]
 rw[if_neg c4] at h;exact absurd Z h
theorem Zp{sz sz' p a b c d b' c' d':Nat}(hz:sz≤sz')(hb:p+1<sz->b'=b)(hc:p+2<sz->c'=c)(hd:p+3<sz->d'=d)(h:(dec sz' p a b' c' d').1≠65533)(hr:p+(dec sz' p a b' c' d').2≤sz):dec sz p a b c d=dec sz' p a b' c' d':=by
 unfold dec at h hr ⊢;by_cases h1:a<128
 ·rw[if_pos h1,if_pos h1]
 rw[if_neg h1] at h hr ⊢;rw[if_neg h1];by_cases c2:a/32=6∧p+1<sz'∧b'/64=2
 ·rw[if_pos c2] at h hr ⊢
  by_cases v:128≤a%32*64+b'%64
  ·rw[if_pos v] at hr
   dsimp only at hr;have eb:=hb (by omega)
   subst eb;rw[if_pos ⟨c2.1,by omega,c2.2.2⟩]
  ·rw[if_neg v] at h;exact absurd Z h
 rw[if_neg c2] at h hr ⊢;rw[if_neg (show ¬(a/32=6∧p+1<sz∧b/64=2) from λ⟨x,y,z⟩=>c2 ⟨x,by omega,by rw[hb y];exact z⟩)]
 by_cases c3:a/16=14∧p+1<sz'∧b'/64=2∧p+2<sz'∧c'/64=2
 ·rw[if_pos c3] at h hr ⊢
  split at hr
  ·rename_i v
   dsimp only at hr;have eb:=hb (by omega)
   have ec:=hc (by omega)
   subst eb ec;rw[if_pos ⟨c3.1,by omega,c3.2.2.1,by omega,c3.2.2.2.2⟩]
  ·rename_i v
   rw[if_neg v] at h;exact absurd Z h
 rw[if_neg c3] at h hr ⊢;rw[if_neg (show ¬(a/16=14∧p+1<sz∧b/64=2∧p+2<sz∧c/64=2) from λ⟨x,y,z,u,v⟩=>c3 ⟨x,by omega,by rw[hb y];exact z,by omega,by rw[hc u];exact v⟩)]
 by_cases c4:a/8=30∧p+1<sz'∧b'/64=2∧p+2<sz'∧c'/64=2∧p+3<sz'∧d'/64=2
 ·rw[if_pos c4] at h hr ⊢
  split at hr
  ·rename_i v
   dsimp only at hr;have eb:=hb (by omega)
   have ec:=hc (by omega)
   have ed:=hd (by omega)
   subst eb ec ed;rw[if_pos ⟨c4.1,by omega,c4.2.2.1,by omega,c4.2.2.2.2.1,by omega,c4.2.2.2.2.2.2⟩]
  ·rename_i v
   rw[if_neg v] at h;exact absurd Z h
 rw[if_neg c4] at h;exact absurd Z h
theorem xg{w x:BY}{p:Nat}(hp:p<w.size)(h:(Utf8.decode w p).1≠65533):Utf8.decode (w++x) p=Utf8.decode w p:=by
 rw[bK] at h ⊢;rw[bK,bQ hp];exact adV (by rw[au];omega) (λh=>bQ h) (λh=>bQ h) (λh=>bQ h) h
theorem Rq{w x:BY}{p:Nat}(hp:p<w.size)(h:(Utf8.decode (w++x) p).1≠65533)(hr:p+(Utf8.decode (w++x) p).2≤w.size):Utf8.decode w p=Utf8.decode (w++x) p:=by
 rw[bK,bQ hp] at h hr;rw[bK,bK (w++x),bQ hp];exact Zp (by rw[au];omega) (λh=>bQ h) (λh=>bQ h) (λh=>bQ h) h hr
theorem xk{s:BY}{p:Nat}(h:eX s p=true):(Utf8.decode s p).1≠65533:=λe=>by
 unfold eX at h;rw[e] at h;exact absurd h (by decide)
theorem H7{w x:BY}:∀(n p:Nat),w.size≤p+n->p≤w.size->l8 (w++x) p=w.size->l8 w p=w.size
 | n,p,h,hp,e=>by
  by_cases hl:p<w.size
  ·match n with
   | 0=>omega
   | n+1=>
    have hl2:p<(w++x).size:=by rw[au];omega
    have h1:=(aY (w++x) p).1;rw[dA hl2] at e;split at e
    ·rename_i hb
     have hle:=iw hl2;have hr:=(xQ (w++x) (w++x).size (p+(Utf8.decode (w++x) p).2) (by omega) hle).1
     have ed:=Rq hl (xk hb) (by omega)
     have hb':eX w p=true:=by
      unfold eX at hb ⊢;rw[ed];exact hb
     rw[dA hl,if_pos hb',ed];exact H7 n _ (by omega) (by omega) e
    ·omega
  ·rw[jw (by omega)];omega
theorem OO{w x:BY}(h:bt x 0=32):eX (w++x) w.size=false:=by
 have eb:bt (w++x) w.size=32:=by have:=iV w x 0;rw[Nat.add_zero] at this;rw[this,h]
 unfold eX;rw[decode_ascii (by omega),eb]
 decide
theorem Wy{w x:BY}(h32:bt x 0=32)(hx:0<x.size):∀(n p:Nat),w.size≤p+n->p≤w.size->l8 w p=w.size->l8 (w++x) p=w.size
 | n,p,h,hp,e=>by
  have hz:w.size<(w++x).size:=by rw[au];omega
  by_cases hl:p<w.size
  ·match n with
   | 0=>omega
   | n+1=>
    have h1:=(aY w p).1;have hle:=iw hl;rw[dA hl] at e;split at e
    ·rename_i hb
     have ed:=xg (x:=x) hl (xk hb)
     have hb':eX (w++x) p=true:=by
      unfold eX at hb ⊢;rw[ed];exact hb
     rw[dA (by omega),if_pos hb',ed]
     exact Wy h32 hx n _ (by omega) hle e
    ·omega
  ·obtain rfl:p=w.size:=by omega
   rw[dA hz,OO h32]
   rfl
def Pc(k:Int)(w:BY):Prop:=0<w.size∧l7 false (bt w 0)=true∧bt w 0≠35∧(j6 (bt w 0)=true∧w.size=1∧k=4∨j6 (bt w 0)=false∧aO w 0=w.size∧kindOf w=k∧k≠0)
theorem adW(s:BY){p q:Nat}(h1:p≤q)(h2:q≤s.size):s=s.extract 0 p++(s.extract p q++s.extract q s.size):=by
 refine zW ?_;rw[eZ] at h2;rw[fG,fG,qY,qY,qY,eZ,List.drop_zero,Nat.sub_zero,List.take_of_length_le (l:=s.data.toList.drop q) (by rw[List.length_drop];omega)]
 have e1:s.data.toList.drop q=(s.data.toList.drop p).drop (q-p):=by rw[List.drop_drop,Nat.add_sub_cancel' h1]
 rw[e1,List.take_append_drop,List.take_append_drop]
theorem H8(s:BY){p q:Nat}(h2:q≤s.size):(s.extract p q).size=q-p:=by
 rw[ByteArray.size_extract,Nat.min_eq_left h2]
theorem acn(s:BY){p q:Nat}(h:p<q):bt (s.extract p q) 0=bt s p:=by
 have e1:=su (s.extract p q) 0;have e2:=su s p;unfold sb at e1 e2;rw[qY,agM,List.getElem?_take,if_pos (by omega),List.getElem?_drop,Nat.add_zero,←agM,e2] at e1
 omega
theorem xq{s:BY}{p:Nat}(h:lZ s p=true):p<s.size∧48≤bt s p∧bt s p≤57:=by
 unfold lZ at h
 simpa using h
theorem J7{s:BY}{p:Nat}(h:lZ s p=true):eX s p=true∧(Utf8.decode s p).2=1:=by
 obtain⟨h1,h2,h3⟩:=xq h;unfold eX;rw[decode_ascii (by omega)]
 refine⟨?_,Z⟩;unfold oG yH;rw[decide_eq_true (show (48:Int)≤(bt s p:Int) by omega),decide_eq_true (show (bt s p:Int)≤57 by omega)]
 simp
theorem Lr{w x:BY}(hw:0<w.size)(h:aO (w++x) 0=w.size):aO w 0=w.size:=by
 unfold aO at h ⊢;rw[bQ hw] at h;by_cases c:bt w 0=45∧lZ (w++x) (0+1)=true
 ·rw[if_pos c] at h
  obtain⟨d1,d2,d3⟩:=xq c.2
  have h1:1<w.size:=by
   rcases Nat.lt_or_ge 1 w.size with h1 | h1
   ·exact h1
   ·obtain⟨p1,p2⟩:=J7 c.2
    rw[dA d1,if_pos p1,p2] at h;have:=(xQ (w++x) (w++x).size (0+1+1) (by omega) (by omega)).1
    omega
  have hd:lZ w (0+1)=true:=by
   have:=c.2;unfold lZ at this ⊢;rw[bQ h1] at this;rw[decide_eq_true (show 0+1<w.size from h1)]
   simpa using (by simpa using this:_∧_∧_).2
  rw[if_pos ⟨c.1,hd⟩];exact H7 w.size _ (by omega) (by omega) h
 ·rw[if_neg c] at h
  rw[if_neg (λhc=>c ⟨hc.1,?_⟩)]
  ·exact H7 w.size _ (by omega) (by omega) h
  ·obtain⟨d1,d2,d3⟩:=xq hc.2
   unfold lZ;rw[bQ d1,decide_eq_true (show 0+1<(w++x).size by rw[au];omega),decide_eq_true d2,decide_eq_true d3]
   rfl
theorem agi{s:BY}{a:Nat}{t:Tok}(ha:a≤s.size)(h:gB s a=(t,0,0)):Pc t.k (s.extract t.f.toNat t.t.toNat):=by
 obtain⟨h1,h2,h3⟩:=Cv s s.size false a (by omega) ha
 obtain⟨p,hp⟩:∃p,skV s false a=p:=⟨_,Z⟩;rw[hp] at h1 h2 h3;by_cases e:p=s.size
 ·rw[sD hp e] at h
  exact absurd (congrArg (λr=>r.2.2) h) (show ¬((4:Int)=0) by decide)
 obtain⟨g1,g2⟩:=h3 (by omega)
 cases hs:j6 (bt s p) with
 | true=>
  rw[o8 hp e hs] at h;obtain rfl:=(Prod.mk.inj h).1
  show Pc 4 (s.extract ((p:Int)).toNat ((p:Int)+1).toNat);rw[show ((p:Int)).toNat=p by omega,show ((p:Int)+1).toNat=p+1 by omega]
  have z2:=H8 s (p:=p) (q:=p+1) (by omega)
  rw[←acn s (show p<p+1 by omega)] at g1 g2 hs
  exact⟨by omega,g1,g2,.inl ⟨hs,by omega,Z⟩⟩
 | false=>
  by_cases hk:kindOf (s.extract p (aO s p))=0
  ·rw[wG hp e hs hk] at h
   exact absurd (congrArg (λr=>r.2.2) h) (show ¬((6:Int)=0) by decide)
  rw[xS hp e hs hk] at h;obtain rfl:=(Prod.mk.inj h).1
  obtain⟨q,hq⟩:∃q,aO s p=q:=⟨_,Z⟩;have h4:=Gu hk;have h5:=wH (s:=s) (p:=p) (by omega)
  rw[hq] at h4 h5 hk ⊢;show Pc (kindOf (s.extract p q)) (s.extract ((p:Int)).toNat ((q:Int)).toNat);rw[show ((p:Int)).toNat=p by omega,show ((q:Int)).toNat=q by omega]
  have sp:=adW s (show p≤q by omega) h5.2
  have z1:=H8 s (p:=0) (q:=p) (by omega)
  have z2:=H8 s (p:=p) (q:=q) h5.2
  have ep:aO (s.extract p q++s.extract q s.size) 0=(s.extract p q).size:=by
   have:=w9 (s.extract 0 p) (s.extract p q++s.extract q s.size) 0;rw[←sp,z1,show p-0+0=p by omega,hq] at this
   omega
  rw[←acn s h4] at g1 g2 hs;exact⟨by omega,g1,g2,.inr ⟨hs,Lr (by omega) ep,Z,hk⟩⟩
def rem:BY:=⟨#[32,35,32,114,101,109,97,114,107,10]⟩
theorem adX(y:BY){i:Nat}(hi:i<10):bt (rem++y) i=bt rem i:=bQ hi
theorem Zq(y:BY):(rem++y).size=y.size+10:=by rw[au];show 10+y.size=_;omega
theorem Zr{s:BY}{a b:Nat}(h:skV s false a=skV s false b)(hab:a≤b):∀{l:List Tok} {r:Int×Int},Run s b l r->Run s a l r
 | [],r,⟨h1,h2⟩=>⟨by unfold gB at h1 ⊢;rw[h];exact h1,h2⟩
 | t::l,r,⟨h1,h2,h3⟩=>⟨by unfold gB at h1 ⊢;rw[h];exact h1,by omega,h3⟩
def tx(s:BY)(t:Tok):Int×BY:=(t.k,s.extract t.f.toNat t.t.toNat)
theorem Rs(c y:BY):∀{m:List Tok} {q:Nat} {r:Int×Int},Run y q m r->(m.map (shT c.size)).map (tx (c++y))=m.map (tx y)
 | [],_,_,_=>rfl
 | t::m,q,r,⟨h1,h2,h3,h4,h5⟩=>by
  rw[List.map_cons,List.map_cons,List.map_cons,Rs c y h5]
  congr 1
  show (t.k,(c++y).extract (t.f+(c.size:Int)).toNat (t.t+(c.size:Int)).toNat)=(t.k,y.extract t.f.toNat t.t.toNat);rw[show (t.f+(c.size:Int)).toNat=c.size+t.f.toNat by omega,show (t.t+(c.size:Int)).toNat=c.size+t.t.toNat by omega,OJ]
theorem Zt{s:BY}{p:Nat}(hp:p<s.size)(hd:(Utf8.decode s p).1≠65533)(h:dB s s.size ((p+(Utf8.decode s p).2:Nat):Int)=-1):dB s s.size (p:Int)=-1:=by
 have h1:=(aY s p).1;have hne:¬(kI s (p:Int)).2=0:=λe=>hd ((sw hp).1 e).1
 rw[iX s s.size (s.size-1+1) p (by omega) (by omega),dB,if_pos (by omega),if_neg hne,uS hp hne,iX s (s.size-1) s.size _ (by omega) (by omega)]
 exact h
theorem yw{s:BY}{p:Nat}(hp:p<s.size)(hb:bt s p<128)(h:dB s s.size ((p+1:Nat):Int)=-1):dB s s.size (p:Int)=-1:=by
 have hd:=decode_ascii hb;refine Zt hp (by rw[hd];show bt s p≠65533;omega) ?_
 rw[hd];exact h
theorem Ls{w x:BY}:∀(n p:Nat),w.size≤p+n->p≤w.size->l8 w p=w.size->dB (w++x) (w++x).size (w.size:Int)=-1->dB (w++x) (w++x).size (p:Int)=-1
 | n,p,h,hp,e,hb=>by
  by_cases hl:p<w.size
  ·match n with
   | 0=>omega
   | n+1=>
    have h1:=(aY w p).1;have hle:=iw hl;rw[dA hl] at e;split at e
    ·rename_i hpl
     have ed:=xg (x:=x) hl (xk hpl);refine Zt (by rw[au];omega) (by rw[ed];exact xk hpl) ?_
     rw[ed];exact Ls n _ (by omega) hle e hb
    ·omega
  ·obtain rfl:p=w.size:=by omega
   exact hb
theorem agJ(y:BY)(h:dB y y.size 0=-1):dB (rem++y) (rem++y).size 0=-1:=by
 have hz:=Zq y;have h2:=uT rem y y.size 0 (by omega)
 rw[show ((0:Nat):Int)=0 from rfl,if_pos h] at h2
 have ha:∀i,i<10->bt rem i<128:=by decide +kernel
 have step:∀i,i<10->dB (rem++y) (rem++y).size ((i+1:Nat):Int)=-1->dB (rem++y) (rem++y).size (i:Int)=-1:=λi hi hb=>
  yw (by omega) (by rw[adX y hi];exact ha i hi) hb
 exact step 0 (by omega) (step 1 (by omega) (step 2 (by omega) (step 3 (by omega) (step 4 (by omega) (step 5 (by omega) (step 6 (by omega) (step 7 (by omega) (step 8 (by omega) (step 9 (by omega) h2)))))))))
theorem adY{k:Int}{w x:BY}(h:Pc k w)(hb:dB x x.size 0=-1):dB (w++x) (w++x).size 0=-1:=by
 obtain⟨h1,h2,h3,h4⟩:=h;have hx:=uT w x x.size 0 (by omega)
 rw[show ((0:Nat):Int)=0 from rfl,if_pos hb,Nat.add_zero] at hx
 have hz:0<(w++x).size:=by rw[au];omega
 rcases h4 with⟨a1,a2,_⟩ | ⟨a1,a2,a3,a4⟩
 ·have ha:∀n,n<256->j6 n=true->n<128:=by decide +kernel
  refine yw (p:=0) hz (by rw[bQ h1];exact ha _ (AL _ _) a1) ?_
  rw[show 0+1=w.size from a2.symm]
  exact hx
 ·unfold aO at a2
  split at a2
  ·rename_i c
   refine yw (p:=0) hz (by rw[bQ h1,c.1];omega) ?_
   exact Ls w.size (0+1) (by omega) (by omega) a2 hx
  ·exact Ls w.size 0 (by omega) (by omega) a2 hx
theorem abv{s:BY}(h:(eH s).2.2=0):s.size≤65536∧dB s s.size 0=-1∧∃r,r.2=4∧Run s 0 (eH s).1 r:=by
 by_cases hs:s.size≤65536
 rotate_left
 ·unfold eH at h
  rw[if_pos (by omega)] at h
  exact absurd h (show ¬((2:Int)=0) by decide)
 refine⟨hs,?_⟩
 rcases J6 s with hb | hb
 ·refine⟨hb,?_⟩
  obtain⟨l,r,hr⟩:=Rp s s.size 0 (by omega) (Nat.zero_le _)
  have e:=H6 hs hb hr;by_cases h4:r.2=4
  ·rw[if_pos h4] at e
   rw[e];exact⟨r,h4,hr⟩
  ·rw[if_neg h4] at e
   rw[e] at h;have:=run_end hr (Nat.zero_le _);have h:r.2=0:=h;omega
 ·rw[OM hs hb.1] at h
  exact absurd h (show ¬((5:Int)=0) by decide)
def QQ{α:Type}(s:BY)(p:α->Prop):Except (Int×Int) (Nat×α)->Prop
 | .ok (_,x)=>p x
 | .error e=>0≤e.1∧e.1≤s.size
section
variable{s:BY}{l:List Tok}(H:qD s l)
theorem dH{α β:Type}{p:α->Prop}{q:β->Prop}{r:Except (Int×Int) (Nat×α)}{k:Nat->α->Except (Int×Int) (Nat×β)}(h1:QQ s p r)(h2:∀n a,p a->QQ s q (k n a)):QQ s q (bnd r k):=by
 rcases r with e | ⟨n,a⟩
 ·exact h1
 ·exact h2 n a h1
theorem Zu{α:Type}{p q:α->Prop}{r:Except (Int×Int) (Nat×α)}(h:QQ s p r)(hq:∀x,p x->q x):QQ s q r:=by
 rcases r with e | ⟨n,a⟩
 ·exact h
 ·exact hq a h
theorem qq0{α:Type}{p:α->Prop}{k:Int}:QQ (α:=α) s p (.error (0,k)):=⟨Int.le_refl _,by omega⟩
include H
theorem mU{α:Type}{p:α->Prop}(n:Nat)(k:Int):QQ (α:=α) s p (.error (atV s l n,k)):=by
 show 0≤atV s l n∧atV s l n≤s.size;unfold atV;split
 ·rename_i hn
  have:=H.get hn;omega
 ·omega
abbrev TT{α:Type}:α->Prop:=λ_=>True
theorem aco{n:Nat}:QQ s (λx=>x=txV s l n) (nmV s l n):=by
 unfold nmV;split
 ·exact Z
 ·exact mU H _ _
theorem mG{n:Nat}:QQ s TT (nmV s l n):=Zu (aco H) λ_ _=>trivial
theorem uU{n:Nat}{b:UInt8}:QQ s TT (dX s l n b):=by
 unfold dX;split
 ·exact tR
 ·exact mU H _ _
theorem OP{α:Type}{p:α->Prop}{b:UInt8}{r:Except (Int×Int) (Nat×α)}(h:QQ s p r):QQ s p (jQ s l b r):=by
 rw[QA];exact dH h λn x hx=>dH (uU H) λn _ _=>hx
theorem J8:∀(f n k:Nat) (o:List BY),QQ s TT (jO s l f n k o)
 | 0,n,k,o=>qq0
 | f+1,n,k,o=>by
  rw[jO];split
  ·split
   ·exact mU H _ _
   ·split
    ·exact J8 f _ _ _
    ·exact tR
  ·exact mU H _ _
theorem OQ{n:Nat}:QQ s TT (iH s l n):=by
 unfold iH;split
 ·split
  ·exact tR
  ·exact OP H (J8 H _ _ _ _)
 ·exact mU H _ _
def KK(a:Int)(d:BY)(x:Ins):Prop:=x.at_=a∧x.dst=d
variable{a:Int}{d:BY}
theorem zY{n:Nat}{x:Ins}(h:KK a d x):QQ s (KK a d) (lq s l n x):=dH (mG H) λn _ _=>h
theorem Rt{n:Nat}{x:Ins}(h:KK a d x):QQ s (KK a d) (l9 s l n x):=dH (mG H) λn _ _=>h
theorem H9{n:Nat}{x:Ins}(h:KK a d x):QQ s (KK a d) (rF s l n x):=dH (mG H) λn _ _=>h
theorem OT:∀(f n k:Nat) (x:Ins),KK a d x->QQ s (KK a d) (jR s l f n k x)
 | 0,n,k,x,h=>qq0
 | f+1,n,k,x,h=>by
  rw[jR];split
  ·exact mU H _ _
  ·refine dH (p:=KK a d) (dH (mG H) λn _ _=>dH (uU H) λn _ _=>dH (mG H) λn _ _=>h) λn y hy=>?_
   split
   ·exact OT f _ _ _ hy
   ·exact hy
theorem abw{n:Nat}{x:Ins}{w:List UInt8}(h:KK a d x):QQ s (KK a d) (AY s l n x w):=by
 have h0:∀k:Int,KK a d ({x with kind:=k}:Ins):=λk=>h
 unfold AY;split
 ·unfold oh;split
  ·exact h
  ·exact mU H _ _
 split
 ·exact dH (H9 H (h0 4)) λn y hy=>Rt H hy
 split
 ·exact dH (H9 H (h0 5)) λn y hy=>Rt H hy
 split
 ·exact H9 H (h0 8)
 split
 ·exact dH (H9 H (h0 7)) λn y hy=>dH (OQ H) λn o _=>hy
 split
 ·exact dH (Rt H (h0 10)) λn y hy=>H9 H hy
 split
 ·exact dH (uU H) λn _ _=>OP H (OT H _ _ _ _ (h0 3))
 ·exact mU H _ _
theorem Zv{n:Nat}{x:Ins}(h:KK a d x):QQ s (KK a d) (dG s l n x):=by
 unfold dG;split
 ·exact dH (zY H (x:={x with kind:=2,op:=_}) h) λn y hy=>zY H hy
 ·exact abw H h
theorem adZ{w:List UInt8}{f:Nat->Ins->Except (Int×Int) (Nat×Ins)}(hf:oJ s l w=some f){n:Nat}{x:Ins}(h:KK a d x):QQ s (KK a d) (f n x):=by
 unfold oJ at hf;split at hf
 ·obtain rfl:=agS hf
  exact dH (mG H) λn r _=>dH (zY H (x:={{x with kind:=6} with ref:=r}) h) λn y hy=>dH (zY H hy) λn y hy=>hy
 split at hf
 ·obtain rfl:=agS hf
  exact dH (mG H) λn r _=>dH (zY H (x:={{x with kind:=9} with ref:=r}) h) λn y hy=>hy
 split at hf
 ·obtain rfl:=agS hf
  exact dH (mG H) λn r _=>h
 split at hf
 ·obtain rfl:=agS hf
  exact dH (zY H (x:={x with kind:=12}) h) λn y hy=>dH (mG H) λn _ _=>dH (mG H) λn _ _=>hy
 split at hf
 ·obtain rfl:=agS hf
  exact dH (zY H (x:={x with kind:=13}) h) λn y hy=>hy
 ·cases hf
def PI(s:BY)(l:List Tok)(n:Nat)(x:Ins):Prop:=x.at_=atV s l n∧(0<x.dst.size->x.dst=txV s l n)
theorem Zw{n c:Nat}:QQ s (PI s l n) (bI s l n c):=by
 unfold bI;split
 ·exact mU H _ _
 split
 ·exact mU H _ _
 split
 ·exact mU H _ _
 split
 ·rename_i f hf
  exact Zu (adZ H hf (a:=atV s l n) (d:=.empty) ⟨Z,Z⟩) λy hy=>⟨hy.1,λh=>by rw[hy.2] at h;exact absurd h (by decide)⟩
 ·refine dH (aco H) λn1 d hd=>dH (uU H) λn2 _ _=>?_
  exact Zu (Zv H (a:=atV s l n) (d:=d) ⟨Z,Z⟩) λy hy=>⟨hy.1,λ_=>by rw[hy.2,hd]⟩
def Chn(s:BY)(l:List Tok):Nat->List Ins->Nat->Prop
 | lo,[],hi=>lo≤hi
 | lo,x::xs,hi=>∃k,lo≤k∧k<l.length∧PI s l k x∧Chn s l (k+1) xs hi
omit H in
theorem Chn.low{lo lo':Nat}(h:lo'≤lo):∀{xs:List Ins} {hi:Nat},Chn s l lo xs hi->Chn s l lo' xs hi
 | [],hi,h1=>Nat.le_trans h h1
 | x::xs,hi,⟨k,h1,h2⟩=>⟨k,Nat.le_trans h h1,h2⟩
theorem Ia:∀{f n c:Nat} {xs:List Ins},n≤l.length->QQ s TT (codeF s l f n c xs)∧∀{n' c':Nat} {ys:List Ins},codeF s l f n c xs=.ok (n',(c',ys))->∃zs,ys=xs++zs∧Chn s l n zs n'
 | 0,n,c,xs,hn=>⟨qq0,λh=>by simp [codeF] at h⟩
 | f+1,n,c,xs,hn=>by
  rw[codeF];split
  ·refine⟨tR,λh=>?_⟩
   simp only[Except.ok.injEq,agW] at h;obtain⟨rfl,rfl,rfl⟩:=h;exact⟨[],(List.append_nil _).symm,Nat.le_refl _⟩
  ·have hq:=Zw H (n:=n) (c:=c)
   rcases hV:bI s l n c with e | ⟨n1,x⟩
   ·rw[hV] at hq
    exact⟨hq,λh=>by cases h⟩
   ·rw[hV] at hq
    obtain⟨u1,u2⟩:=Gx _ _ hV;obtain⟨g1,g2⟩:=Ia (f:=f) (n:=n1) (c:=c+1) (xs:=xs++[x]) u2;refine⟨g1,λh=>?_⟩
    obtain⟨zs,e,hc⟩:=g2 h;exact⟨x::zs,by rw[e,List.append_assoc];rfl,n,Nat.le_refl _,by omega,hq,hc.low (by omega)⟩
def ChB(s:BY)(l:List Tok):Nat->List Blk->Nat->Prop
 | lo,[],hi=>lo≤hi
 | lo,b::bs,hi=>∃k m,lo≤k∧k<l.length∧b.at_=atV s l k∧Chn s l (k+1) b.code m∧ChB s l m bs hi
theorem Ey{n c:Nat}:QQ s TT (fU s l n c)∧∀{n' c':Nat} {b:Blk},fU s l n c=.ok (n',(c',b))->b.at_=atV s l n∧n<l.length∧Chn s l (n+1) b.code n':=by
 rw[Rn];have q1:=mG H (n:=n)
 rcases h1:nmV s l n with e | ⟨n1,nm⟩
 ·rw[h1] at q1;exact⟨q1,λh=>by cases h⟩
 obtain⟨u1,u2⟩:=pX _ _ h1;simp only[bnd];have q2:=uU H (n:=n1) (b:=58)
 rcases h2:dX s l n1 58 with e | ⟨n2,u⟩
 ·rw[h2] at q2;exact⟨q2,λh=>by cases h⟩
 obtain⟨u3,u4⟩:=uD _ _ h2;simp only;obtain⟨q3,q4⟩:=Ia H (f:=4098) (n:=n2) (c:=c) (xs:=[]) u4
 rcases h3:codeF s l 4098 n2 c [] with e | ⟨n3,c3,ys⟩
 ·rw[h3] at q3;exact⟨q3,λh=>by cases h⟩
 refine⟨tR,λh=>?_⟩
 obtain⟨zs,e,hc⟩:=q4 h3;simp only[Except.ok.injEq,agW] at h;obtain⟨rfl,rfl,rfl⟩:=h;rw[List.nil_append] at e;subst e;exact⟨Z,by omega,hc.low (by omega)⟩
theorem BG:∀{f n c:Nat} {bs:List Blk},c≤4096->QQ s TT (fq s l f n c bs)∧∀{n' c':Nat} {ys:List Blk},fq s l f n c bs=.ok (n',(c',ys))->∃zs,ys=bs++zs∧ChB s l n zs n'
 | 0,n,c,bs,hc=>⟨qq0,λh=>by simp [fq] at h⟩
 | f+1,n,c,bs,hc=>by
  rw[fq];split
  ·split
   ·exact⟨mU H _ _,λh=>by cases h⟩
   ·obtain⟨q1,q2⟩:=Ey H (n:=n) (c:=c)
    rcases hV:fU s l n c with e | ⟨n1,c1,b⟩
    ·rw[hV] at q1
     exact⟨q1,λh=>by cases h⟩
    ·obtain⟨r1,r2,r3⟩:=q2 hV
     obtain⟨g1,g2⟩:=BG (f:=f) (n:=n1) (c:=c1) (bs:=bs++[b]) (sI hc hV).2.2;refine⟨g1,λh=>?_⟩
     obtain⟨zs,e,hz⟩:=g2 h;exact⟨b::zs,by rw[e,List.append_assoc];rfl,n,n1,Nat.le_refl _,r2,r1,r3,hz⟩
  ·refine⟨tR,λh=>?_⟩
   simp only[Except.ok.injEq,agW] at h;obtain⟨rfl,rfl,rfl⟩:=h;exact⟨[],(List.append_nil _).symm,Nat.le_refl _⟩
def ChF(s:BY)(l:List Tok)(f:Fun):Prop:=∃k hi,k<l.length∧(txV s l k).data.toList=[102,110]∧f.at_=atV s l k∧ChB s l (k+1) f.blocks hi
theorem Ru{n c:Nat}(hc:c≤4096):QQ s TT (lQ s l n c)∧∀{n' c':Nat} {f:Fun},lQ s l n c=.ok (n',(c',f))->∃hi,f.at_=atV s l n∧ChB s l (n+1) f.blocks hi:=by
 rw[Wx];have q1:=mG H (n:=n+1)
 rcases h1:nmV s l (n+1) with e | ⟨n1,nm⟩
 ·rw[h1] at q1;exact⟨q1,λh=>by cases h⟩
 obtain⟨u1,u2⟩:=pX _ _ h1;simp only[bnd];have q2:=OQ H (n:=n1)
 rcases h2:iH s l n1 with e | ⟨n2,ps⟩
 ·rw[h2] at q2;exact⟨q2,λh=>by cases h⟩
 obtain⟨u3,u4⟩:=A8 _ _ h2;simp only;have q3:=uU H (n:=n2) (b:=123)
 rcases h3:dX s l n2 123 with e | ⟨n3,u⟩
 ·rw[h3] at q3;exact⟨q3,λh=>by cases h⟩
 obtain⟨u5,u6⟩:=uD _ _ h3;simp only;obtain⟨q4,q5⟩:=Ey H (n:=n3) (c:=c)
 rcases h4:fU s l n3 c with e | ⟨n4,c4,b⟩
 ·rw[h4] at q4;exact⟨q4,λh=>by cases h⟩
 obtain⟨b1,b2,b3⟩:=q5 h4;obtain⟨u7,u8,u9⟩:=sI hc h4;simp only;obtain⟨q6,q7⟩:=BG H (f:=65) (n:=n4) (c:=c4) (bs:=[b]) u9
 rcases h5:fq s l 65 n4 c4 [b] with e | ⟨n5,c5,q⟩
 ·rw[h5] at q6;exact⟨q6,λh=>by cases h⟩
 obtain⟨zs,e,hz⟩:=q7 h5;simp only;have q8:=uU H (n:=n5) (b:=125)
 rcases h6:dX s l n5 125 with e | ⟨n6,u⟩
 ·rw[h6] at q8;exact⟨q8,λh=>by cases h⟩
 refine⟨tR,λh=>?_⟩
 simp only[Except.ok.injEq,agW] at h;obtain⟨rfl,rfl,rfl⟩:=h;subst e;exact⟨n5,Z,n3,n4,by omega,b2,b1,b3,hz⟩
theorem ad1{n:Nat}:QQ s TT (vD s l n):=by
 unfold vD;refine dH (mG H) λn1 nm _=>?_
 split
 ·split
  ·exact mU H _ _
  ·exact dH (mG H) λn2 lv _=>trivial
 ·exact mU H _ _
theorem zZ:∀{f n c:Nat} {p:Prg},c≤4096->(∀f,f∈p.funcs->ChF s l f)->QQ s (λq:Prg=>∀f,f∈q.funcs->ChF s l f) (lS s l f n c p)
 | 0,n,c,p,hc,hp=>qq0
 | f+1,n,c,p,hc,hp=>by
  rw[lS];split
  ·rename_i hlt
   split
   ·split
    ·exact mU H _ _
    ·refine dH (ad1 H) λn1 x _=>?_
     exact zZ (p:=⟨p.arrays++[x],p.funcs⟩) hc hp
   ·split
    ·rename_i hw
     split
     ·exact mU H _ _
     ·obtain⟨q1,q2⟩:=Ru H (n:=n) hc
      rcases hV:lQ s l n c with e | ⟨n1,c1,x⟩
      ·rw[hV] at q1;exact q1
      ·obtain⟨hi,e1,e2⟩:=q2 hV
       refine zZ (p:=⟨p.arrays,p.funcs++[x]⟩) (Ta hc hV).2.2 λg hg=>?_
       rcases List.mem_append.1 hg with hg | hg
       ·exact hp g hg
       ·obtain rfl:=List.mem_singleton.1 hg
        exact⟨n,hi,hlt,hw,e1,e2⟩
    ·exact mU H _ _
  ·exact hp
end
theorem abx{s:BY}:0≤(eH s).2.1∧(eH s).2.1≤s.size:=by
 rcases Nat.lt_or_ge 65536 s.size with h1 | h1
 ·rw[eH,if_pos h1];exact⟨Int.le_refl _,Int.natCast_nonneg _⟩
 rcases J6 s with hb | hb
 ·obtain⟨l,r,hr⟩:=Rp s s.size 0 (by omega) (Nat.zero_le _)
  rw[H6 h1 hb hr];split
  ·exact⟨Int.le_refl _,Int.natCast_nonneg _⟩
  ·rename_i h4
   have Wz:∀{l:List Tok} {a:Nat} {r:Int×Int},a≤s.size->Run s a l r->0≤r.1∧r.1≤s.size:=λ{l}=>by
    induction l with
    | nil=>
     intro a r ha h;have hle:=Cv s s.size false a (by omega) ha
     have e:=h.1;unfold gB at e;split at e
     ·subst e;exact⟨Int.natCast_nonneg _,Int.le_refl _⟩
     ·split at e
      ·subst e;exact absurd rfl h.2
      ·split at e
       ·subst e;exact⟨Int.natCast_nonneg _,by show ((skV s false a:Nat):Int)≤_;omega⟩
       ·subst e;exact absurd rfl h.2
    | cons t l ih=>
     intro a r ha ⟨g1,g2,g3,g4,g5⟩;exact ih (by omega) g5
   exact Wz (Nat.zero_le _) hr
 ·rw[OM h1 hb.1]
  exact⟨hb.1,by show dB s s.size 0≤_;omega⟩
theorem OU(s:BY):(0≤(bJ s).2.1∧(bJ s).2.1≤s.size)∧((bJ s).2.2=0->(eH s).2.2=0∧∀f,f∈(bJ s).1.funcs->ChF s (eH s).1 f):=by
 unfold bJ;split
 ·rename_i h0
  have H:=GA s (CK h0);have hp:=zZ H (f:=(eH s).1.length+1) (n:=0) (c:=0) (p:=⟨[],[]⟩) (Nat.zero_le _) (λf hf=>by cases hf)
  rcases hV:lS s (eH s).1 ((eH s).1.length+1) 0 0 ⟨[],[]⟩ with⟨a,e⟩ | ⟨n,q⟩
  ·rw[hV] at hp
   exact⟨hp,λ_=>⟨h0,λf hf=>by cases hf⟩⟩
  ·rw[hV] at hp
   exact⟨⟨Int.le_refl _,Int.natCast_nonneg _⟩,λ_=>⟨h0,hp⟩⟩
 ·rename_i h0
  exact⟨abx,λh=>absurd h h0⟩
def Ib(c:Nat):Bool:=decide (c<128)&&!oG c&&!yH c
def WA(y:BY):Prop:=y.size=0∨0<y.size∧Ib (bt y 0)=true
theorem J9(w x:BY)(h:x.size=0):w++x=w:=by
 refine zW ?_;have:x.data.toList=[]:=List.eq_nil_of_length_eq_zero (by rw[←eZ];exact h)
 rw[fG,this,List.append_nil]
theorem Ka(w:BY):ByteArray.empty++w=w:=zW (by rw[fG];rfl)
theorem TG(w x:BY):bt (w++x) w.size=bt x 0:=by have:=iV w x 0;rwa [Nat.add_zero] at this
theorem Rv{w x:BY}(h:Ib (bt x 0)=true):eX (w++x) w.size=false:=by
 unfold Ib at h;simp only[agN,agT,agZ] at h;have eb:=TG w x;unfold eX;rw[decode_ascii (by omega),eb]
 simp only[h.1.2,h.2,Bool.or_false]
theorem Dj{w x:BY}(hs:Ib (bt x 0)=true)(hx:0<x.size):∀(n p:Nat),w.size≤p+n->p≤w.size->l8 w p=w.size->l8 (w++x) p=w.size
 | n,p,h,hp,e=>by
  have hz:w.size<(w++x).size:=by rw[au];omega
  by_cases hl:p<w.size
  ·match n with
   | 0=>omega
   | n+1=>
    have h1:=(aY w p).1;have hle:=iw hl;rw[dA hl] at e;split at e
    ·rename_i hb
     have ed:=xg (x:=x) hl (xk hb)
     have hb':eX (w++x) p=true:=by
      unfold eX at hb ⊢;rw[ed];exact hb
     rw[dA (by omega),if_pos hb',ed]
     exact Dj hs hx n _ (by omega) hle e
    ·omega
  ·obtain rfl:p=w.size:=by omega
   rw[dA hz,Rv hs]
   rfl
theorem Zx{c:Nat}(h:Ib c=true):¬(48≤c∧c≤57):=λ⟨h1,h2⟩=>by
 have:∀c:Nat,c<58->48≤c->Ib c=false:=by decide +kernel
 rw[this c (by omega) h1] at h;cases h
theorem I9{w x:BY}(hw:0<w.size)(hs:WA x)(h:aO w 0=w.size):aO (w++x) 0=w.size:=by
 rcases hs with h0 | ⟨hx,hs⟩
 ·rw[J9 w x h0];exact h
 unfold aO at h ⊢;rw[bQ hw];by_cases c:bt w 0=45∧lZ w (0+1)=true
 ·rw[if_pos c] at h
  obtain⟨d1,d2,d3⟩:=xq c.2
  rw[if_pos ⟨c.1,by
   unfold lZ;rw[bQ d1,decide_eq_true (show 0+1<(w++x).size by rw[au];omega),decide_eq_true d2,decide_eq_true d3]
   rfl⟩]
  exact Dj hs hx w.size _ (by omega) (by omega) h
 ·rw[if_neg c] at h
  rw[if_neg (λhc=>c ⟨hc.1,?_⟩)]
  ·exact Dj hs hx w.size _ (by omega) (by omega) h
  ·obtain⟨d1,d2,d3⟩:=xq hc.2
   have h1:1<w.size:=by
    rcases Nat.lt_or_ge 1 w.size with h1 | h1
    ·exact h1
    ·have e:w.size=0+1:=by omega
     have:=TG w x;rw[e] at this;rw[this] at d2 d3;exact absurd ⟨d2,d3⟩ (Zx hs)
   rw[bQ h1] at d2 d3;unfold lZ;rw[decide_eq_true (show 0+1<w.size from h1),decide_eq_true d2,decide_eq_true d3]
   rfl
theorem WB(b:BY):kindOf b≠4:=by
 unfold kindOf;split
 ·decide
 split
 ·decide
 split
 ·decide
 ·decide
theorem Zy{k:Int}{w x:BY}(h:Pc k w)(hs:k=4∨WA x):gB (w++x) 0=(⟨k,0,(w.size:Int)⟩,0,0):=by
 obtain⟨h1,h2,h3,h4⟩:=h;have hz:0<(w++x).size:=by rw[au];omega
 have eb:bt (w++x) 0=bt w 0:=bQ h1
 have hsk:skV (w++x) false 0=0:=Gq hz (by
  rw[eb];unfold nextR;rw[if_neg h3]
  split<;>exact h2)
 rcases h4 with⟨a1,a2,rfl⟩ | ⟨a1,a2,a3,a4⟩
 ·rw[o8 hsk (by omega) (by rw[eb];exact a1),a2]
  rfl
 ·have hs:WA x:=by
   rcases hs with h | h
   ·exact absurd (a3.trans h) (WB w)
   ·exact h
  have ep:=I9 h1 hs a2
  have ee:(w++x).extract 0 w.size=w:=by
   refine zW ?_;rw[qY,fG,eZ];simp
  rw[xS hsk (by omega) (by rw[eb];exact a1) (by rw[ep,ee,a3];exact a4),ep,ee,a3]
  rfl
inductive Txt:List (Int×BY)->BY->Prop
 | nil:Txt [] .empty
 | blank (b:BY) (hb:b=⟨#[32]⟩∨b=⟨#[10]⟩) {l:List (Int×BY)} {y:BY} (h:Txt l y):Txt l (b++y)
 | tok {k:Int} {w:BY} {l:List (Int×BY)} {y:BY} (hp:Pc k w) (hs:k=4∨WA y) (h:Txt l y):Txt ((k,w)::l) (w++y)
theorem Rw{b:BY}(hb:b=⟨#[32]⟩∨b=⟨#[10]⟩)(y:BY):skV (b++y) false 0=skV (b++y) false 1:=by
 have hz:(b++y).size=y.size+1:=by
  rw[au]
  rcases hb with rfl | rfl
  ·show 1+y.size=_;omega
  ·show 1+y.size=_;omega
 have hc:bt (b++y) 0=32∨bt (b++y) 0=10:=by
  rcases hb with rfl | rfl
  ·left;rw[bQ (by decide)];decide +kernel
  ·right;rw[bQ (by decide)];decide +kernel
 have hn:nextR (bt (b++y) 0) false=false:=by rcases hc with h | h<;>rw[h]<;>decide
 rw[zC (by omega) (by rw[hn];rcases hc with h | h<;>rw[h]<;>decide),hn]
theorem Rx{b:BY}(hb:b=⟨#[32]⟩∨b=⟨#[10]⟩):b.size=1:=by rcases hb with rfl | rfl<;>rfl
theorem aby{l:List (Int×BY)}{y:BY}(h:Txt l y):(∃l',Run y 0 l' ((y.size:Int),4)∧l'.map (tx y)=l)∧dB y y.size 0=-1:=by
 induction h with
 | nil=>exact⟨⟨[],⟨by decide +kernel,show ¬((4:Int)=0) by decide⟩,rfl⟩,lY (by show ¬(0:Int)<((ByteArray.empty.size:Nat):Int);decide)⟩
 | blank b hb h ih=>
  rename_i l y;obtain⟨⟨l',g1,g2⟩,g3⟩:=ih;have hz:=Rx hb;refine⟨⟨l'.map (shT 1),?_,?_⟩,?_⟩
  ·have r1:=Di b y g1 (Nat.zero_le _)
   rw[hz] at r1;have e:((y.size:Int)+((1:Nat):Int))=((b++y).size:Nat):=by rw[au,hz];omega
   rw[show (((y.size:Int),(4:Int)).1+((1:Nat):Int),((y.size:Int),(4:Int)).2)=((((b++y).size:Nat):Int),(4:Int)) from Prod.ext e rfl] at r1
   exact Zr (b:=1) (Rw hb y) (by omega) r1
  ·have:=Rs b y g1
   rw[hz] at this;rw[this,g2]
  ·have hx:=uT b y y.size 0 (by omega)
   rw[show ((0:Nat):Int)=0 from rfl,if_pos g3,hz] at hx
   refine yw (p:=0) (by rw[au,hz];omega) ?_ hx
   rw[bQ (by omega)]
   rcases hb with rfl | rfl<;>decide +kernel
 | tok hp hs h ih=>
  rename_i k w l y;obtain⟨⟨l',g1,g2⟩,g3⟩:=ih;refine⟨⟨⟨k,0,(w.size:Int)⟩::l'.map (shT w.size),?_,?_⟩,adY hp g3⟩
  ·have r1:=Di w y g1 (Nat.zero_le _)
   have e:((y.size:Int)+((w.size:Nat):Int))=((w++y).size:Nat):=by rw[au];omega
   rw[show (((y.size:Int),(4:Int)).1+((w.size:Nat):Int),((y.size:Int),(4:Int)).2)=((((w++y).size:Nat):Int),(4:Int)) from Prod.ext e rfl] at r1
   refine⟨Zy hp hs,Int.le_refl _,by have:=hp.1;show (0:Int)<w.size;omega,by show (w.size:Int)≤_;rw[au];omega,r1⟩
  ·rw[List.map_cons,Rs w y g1,g2]
   congr 1
   show (k,(w++y).extract (0:Int).toNat (w.size:Int).toNat)=(k,w);rw[show (0:Int).toNat=0 from rfl,show (w.size:Int).toNat=w.size by omega]
   congr 1
   refine zW ?_;rw[qY,fG,eZ];simp
theorem abz{l:List (Int×BY)}{y:BY}(h:Txt l y)(hz:y.size≤65536):(eH y).2.2=0∧(eH y).1.map (tx y)=l:=by
 obtain⟨⟨l',g1,g2⟩,g3⟩:=aby h;have e:=H6 hz g3 g1;rw[if_pos rfl] at e;rw[e];exact⟨Z,g2⟩
def TxH(l:List (Int×BY))(y:BY):Prop:=∀m z,Txt m z->Txt (l++m) (y++z)
def TxS(l:List (Int×BY))(y:BY):Prop:=∀m z,Txt m z->WA z->Txt (l++m) (y++z)
def Beg(y:BY):Prop:=0<y.size∧Ib (bt y 0)=true
theorem Beg.app{y:BY}(h:Beg y)(z:BY):Beg (y++z):=⟨by rw[au];have:=h.1;omega,by rw[bQ h.1];exact h.2⟩
theorem Beg.soft{y:BY}(h:Beg y):WA y:=.inr h
theorem TxH.weak{l:List (Int×BY)}{y:BY}(h:TxH l y):TxS l y:=λm z hz _=>h m z hz
theorem TxH.app{l m:List (Int×BY)}{y z:BY}(h:TxH l y)(k:TxH m z):TxH (l++m) (y++z):=λn x hx=>by
 rw[List.append_assoc,nH];exact h _ _ (k _ _ hx)
theorem TxH.OV{l m:List (Int×BY)}{y z:BY}(h:TxH l y)(k:TxS m z):TxS (l++m) (y++z):=λn x hx hs=>by
 rw[List.append_assoc,nH];exact h _ _ (k _ _ hx hs)
theorem TxS.app{l m:List (Int×BY)}{y z:BY}(h:TxS l y)(k:TxH m z)(hb:Beg z):TxH (l++m) (y++z):=λn x hx=>by
 rw[List.append_assoc,nH];exact h _ _ (k _ _ hx) (hb.app x).soft
theorem TxS.OV{l m:List (Int×BY)}{y z:BY}(h:TxS l y)(k:TxS m z)(hb:Beg z):TxS (l++m) (y++z):=λn x hx hs=>by
 rw[List.append_assoc,nH];exact h _ _ (k _ _ hx hs) (hb.app x).soft
theorem abA:TxH [] .empty:=λm z hz=>by rw[Ka];exact hz
theorem xu:TxH [] ⟨#[32]⟩:=λm z hz=>.blank _ (.inl Z) hz
theorem ad2:TxH [] ⟨#[10]⟩:=λm z hz=>.blank _ (.inr Z) hz
theorem Ic{w:BY}(h:Pc 4 w):TxH [(4,w)] w:=λm z hz=>.tok h (.inl Z) hz
theorem E5{k:Int}{w:BY}(h:Pc k w):TxS [(k,w)] w:=λm z hz hs=>.tok h (.inr hs) hz
theorem Ry:Beg ⟨#[32]⟩:=by unfold Beg;decide +kernel
theorem ad3:Beg ⟨#[10]⟩:=by unfold Beg;decide +kernel
theorem TxH.txt{l:List (Int×BY)}{y:BY}(h:TxH l y):Txt l y:=by
 have:=h [] .empty .nil
 rwa [List.append_nil,J9 y _ rfl] at this
instance(k : Int)(w : BY) : Decidable (Pc k w) := by unfold Pc; exact inferInstance
theorem Zz(c:Nat)(hc:c<128)(h:oG (c:Int)=true):l7 false c=true∧c≠35∧j6 c=false∧c≠45:=by
 have:∀c:Nat,c<128->oG (c:Int)=true->l7 false c=true∧c≠35∧j6 c=false∧c≠45:=by decide +kernel
 exact this c hc h
theorem WC(c:Nat)(hc:128≤c)(h2:c<256):l7 false c=true∧c≠35∧j6 c=false∧c≠45:=by
 have:∀c:Nat,c<256->128≤c->l7 false c=true∧c≠35∧j6 c=false∧c≠45:=by decide +kernel
 exact this c h2 hc
theorem Kc(s:BY):∀(n p:Nat) (c:Int),s.size≤p+n->p≤s.size->jd s n p c=true->l8 s p=s.size
 | n,p,c,h,hp,hw=>by
  by_cases hl:p<s.size
  ·match n with
   | 0=>omega
   | n+1=>
    rw[jd,if_pos hl] at hw;split at hw
    ·cases hw
    ·rename_i h1
     split at hw
     ·cases hw
     ·have hd:=aY s p
      have hr:=iw hl
      have hb:eX s p=true:=by
       unfold eX
       revert h1
       cases oG (Utf8.decode s p).1<;>cases yH (Utf8.decode s p).1<;>simp
      rw[dA hl,if_pos hb];exact Kc s n _ (c+1) (by omega) hr hw
  ·rw[jw (by omega)];omega
theorem TH{s:BY}(h:okN s=true):Pc 1 s:=by
 unfold okN at h;simp only[agN,agZ] at h;obtain⟨hn,hw⟩:=h;have hn':jd s s.size 0 0=true:=hn
 have hpos:0<s.size:=by
  rcases Nat.eq_zero_or_pos s.size with h0 | h0
  ·rw[h0] at hn';exact absurd hn' (by rw[jd];decide)
  ·exact h0
 have hlet:oG (Utf8.decode s 0).1=true:=by
  obtain⟨n,hn2⟩:∃n,s.size=n+1:=⟨s.size-1,by omega⟩
  rw[hn2,jd,if_pos hpos] at hn';split at hn'
  ·cases hn'
  ·rename_i h1
   revert h1
   cases oG (Utf8.decode s 0).1<;>simp
 have hrow:=Kc s s.size 0 0 (by omega) (Nat.zero_le _) hn'
 have hb:l7 false (bt s 0)=true∧bt s 0≠35∧j6 (bt s 0)=false∧bt s 0≠45:=by
  rcases Nat.lt_or_ge (bt s 0) 128 with h1 | h1
  ·refine Zz _ h1 ?_
   rw[decode_ascii h1] at hlet;exact hlet
  ·exact WC _ h1 (AL _ _)
 refine⟨hpos,hb.1,hb.2.1,.inr ⟨hb.2.2.1,?_,JD hw hn,by decide⟩⟩
 unfold aO;rw[if_neg (λh=>hb.2.2.2 h.1)]
 exact hrow
theorem OX:∀(k u:Nat),u<10 ^ (k+1)->∀c,c∈nA u->48≤c.toNat∧c.toNat≤57
 | 0,u,h,c,hc=>by
  rw[oH (by simpa using h)] at hc
  obtain rfl:=List.mem_singleton.1 hc
  rw[UInt8.toNat_ofNat'];have:u<10:=by simpa using h
  omega
 | k+1,u,h,c,hc=>by
  by_cases hu:u<10
  ·rw[oH hu] at hc
   obtain rfl:=List.mem_singleton.1 hc
   rw[UInt8.toNat_ofNat'];omega
  ·rw[xR hu] at hc
   rcases List.mem_append.1 hc with hc | hc
   ·exact OX k (u/10) (by rw[Nat.pow_succ] at h;omega) c hc
   ·obtain rfl:=List.mem_singleton.1 hc
    rw[UInt8.toNat_ofNat'];omega
theorem Ie(s:BY):∀(n p:Nat),s.size≤p+n->p≤s.size->(∀i,p≤i->i<s.size->48≤bt s i∧bt s i≤57)->l8 s p=s.size
 | n,p,h,hp,hd=>by
  by_cases hl:p<s.size
  ·match n with
   | 0=>omega
   | n+1=>
    obtain⟨h1,h2⟩:=hd p (Nat.le_refl _) hl;obtain⟨b1,b2⟩:=J7 (s:=s) (p:=p) (by unfold lZ;rw[decide_eq_true hl,decide_eq_true h1,decide_eq_true h2];rfl)
    rw[dA hl,if_pos b1,b2];exact Ie s n (p+1) (by omega) (by omega) λi hi hi2=>hd i (by omega) hi2
  ·rw[jw (by omega)];omega
theorem acp(l:List UInt8)(i:Nat):bt (ba l) i=(l.getD i 0).toNat:=by
 have:=su (ba l) i;unfold sb at this;have e:(ba l).data.toList=l:=by simp [ba]
 rw[e] at this;omega
theorem xL(l:List UInt8):(ba l).size=l.length:=by show l.toArray.size=l.length;simp
theorem ZA{n:Int}(hn:aj n):Pc 3 (bF n):=by
 have hb:=wF n hn;unfold aj at hn;obtain⟨c,r,e1,e2,e3,e4⟩:=Cy n.natAbs;have hall:=OX 19 n.natAbs (by omega)
 have hsz:(bF n).size=(sgV n).length+(nA n.natAbs).length:=by unfold bF;rw[xL,List.length_append]
 have hdl:0<(nA n.natAbs).length:=by rw[e1];simp
 have hat:∀i,(sgV n).length≤i->i<(bF n).size->48≤bt (bF n) i∧bt (bF n) i≤57:=λi h1 h2=>by
  unfold bF;rw[acp,agM,List.getElem?_append_right h1];have hlt:i-(sgV n).length<(nA n.natAbs).length:=by omega
  rw[agO hlt];exact hall _ (List.getElem_mem hlt)
 have hnot:∀c0:Nat,(48≤c0∧c0≤57∨c0=45)->l7 false c0=true∧c0≠35∧j6 c0=false∧oG (c0:Int)=false:=λc0 h=>by
  have:∀c0:Nat,c0<58->(48≤c0∧c0≤57∨c0=45)->l7 false c0=true∧c0≠35∧j6 c0=false∧oG (c0:Int)=false:=by decide +kernel
  exact this c0 (by omega) h
 have h0:(48≤bt (bF n) 0∧bt (bF n) 0≤57∨bt (bF n) 0=45)∧(n<0->bt (bF n) 0=45)∧(¬n<0->bt (bF n) 0≠45):=by
  by_cases hneg:n<0
  ·have:bt (bF n) 0=45:=by unfold bF sgV;rw[if_pos hneg,acp];rfl
   exact⟨.inr this,λ_=>this,λh=>absurd hneg h⟩
  ·have:=hat 0 (by unfold sgV;rw[if_neg hneg];exact Nat.le_refl _) (by omega)
   exact⟨.inl this,λh=>absurd h hneg,λ_=>by omega⟩
 obtain⟨g1,g2,g3,g4⟩:=hnot _ h0.1;have hpos:0<(bF n).size:=by omega
 have hdec:Utf8.decode (bF n) 0=(bt (bF n) 0,1):=decode_ascii (by rcases h0.1 with h | h<;>omega)
 have hname:AU (bF n)=false:=by
  unfold AU;obtain⟨m,hm⟩:∃m,(bF n).size=m+1:=⟨(bF n).size-1,by omega⟩
  rw[hm,jd,if_pos hpos,hdec];simp [g4]
 have hword:nR (bF n)=false:=by
  unfold nR;rw[agX];intro hw;have hw2:∀l,l∈Gp->oG ((l.getD 0 0).toNat:Int)=true:=by decide +kernel
  have:=hw2 _ hw
  have e:bt (bF n) 0=((bF n).data.toList.getD 0 0).toNat:=by
   have:=su (bF n) 0;unfold sb at this;omega
  rw[←e,g4] at this
  cases this
 refine⟨hpos,g1,g2,.inr ⟨g3,?_,?_,by decide⟩⟩
 ·unfold aO
  by_cases hneg:n<0
  ·have hs1:(sgV n).length=1:=by unfold sgV;rw[if_pos hneg];rfl
   have hd1:=hat 1 (by omega) (by omega)
   rw[if_pos ⟨h0.2.1 hneg,by unfold lZ;rw[decide_eq_true (show 0+1<(bF n).size by omega),decide_eq_true hd1.1,decide_eq_true hd1.2];rfl⟩]
   exact Ie _ (bF n).size _ (by omega) (by omega) λi hi hi2=>hat i (by omega) hi2
  ·have hs1:(sgV n).length=0:=by unfold sgV;rw[if_neg hneg];rfl
   rw[if_neg (λh=>h0.2.2 hneg h.1)]
   exact Ie _ (bF n).size _ (by omega) (by omega) λi hi hi2=>hat i (by omega) hi2
 ·exact Na hword hname (by rw[hb])
abbrev Tks:=List (Int×BY)
def z8:List Tks->Tks
 | []=>[]
 | [a]=>a
 | a::b::l=>a++(4,⟨#[44]⟩)::z8 (b::l)
def kR(l:List BY):Tks:=z8 (l.map λw=>[(1,w)])
def jm(x:Ins):Tks:=z8 ((List.range x.frm.length).map λi=>[(1,x.frm.getD i .empty),(4,⟨#[58]⟩),(1,x.args.getD i .empty)])
def tkV(x:Ins):Tks:=
 if x.kind=1 then [(2,⟨#[99,111,110,115,116]⟩),(3,bF x.num)]
 else if x.kind=2 then [(2,opName x.op),(1,x.args.getD 0 .empty),(1,x.args.getD 1 .empty)]
 else if x.kind=3 then (2,⟨#[112,104,105]⟩)::(4,⟨#[91]⟩)::(jm x++[(4,⟨#[93]⟩)])
 else if x.kind=4 then [(2,⟨#[108,111,97,100]⟩),(1,x.ref),(1,x.args.getD 0 .empty)]
 else if x.kind=5 then [(2,⟨#[119,114,97,112]⟩),(1,x.ref),(1,x.args.getD 0 .empty)]
 else if x.kind=7 then (2,⟨#[99,97,108,108]⟩)::(1,x.ref)::(4,⟨#[40]⟩)::(kR x.args++[(4,⟨#[41]⟩)])
 else if x.kind=8 then [(2,⟨#[105,110,112,117,116]⟩),(1,x.ref)]
 else [(2,⟨#[114,101,108,101,97,115,101]⟩),(1,x.args.getD 0 .empty),(1,x.ref)]
def tkI(x:Ins):Tks:=
 if x.kind=6 then [(2,⟨#[115,116,111,114,101]⟩),(1,x.ref),(1,x.args.getD 0 .empty),(1,x.args.getD 1 .empty)]
 else if x.kind=9 then [(2,⟨#[111,117,116,112,117,116]⟩),(1,x.ref),(1,x.args.getD 0 .empty)]
 else if x.kind=11 then [(2,⟨#[106,117,109,112]⟩),(1,x.ref)]
 else if x.kind=12 then [(2,⟨#[98,114,97,110,99,104]⟩),(1,x.args.getD 0 .empty),(1,x.ref),(1,x.alt)]
 else if x.kind=13 then [(2,⟨#[114,101,116,117,114,110]⟩),(1,x.args.getD 0 .empty)]
 else (1,x.dst)::(4,⟨#[61]⟩)::tkV x
def tkC(l:List Ins):Tks:=(l.map tkI).flatten
def tkB(b:Blk):Tks:=(1,b.name)::(4,⟨#[58]⟩)::tkC b.code
def rP(l:List Blk):Tks:=(l.map tkB).flatten
def tkF(f:Fun):Tks:=(2,⟨#[102,110]⟩)::(1,f.name)::(4,⟨#[40]⟩)::(kR f.params++(4,⟨#[41]⟩)::(4,⟨#[123]⟩)::(rP f.blocks++[(4,⟨#[125]⟩)]))
def tkA(a:Arr):Tks:=[(2,⟨#[97,114,114,97,121]⟩),(1,a.name),(3,bF a.size),(1,a.level)]
def tkP(p:Prg):Tks:=(p.arrays.map tkA).flatten++(p.funcs.map tkF).flatten
theorem E8:∀(l:List (Tks×BY)),l≠[]->(∀a,a∈l->TxS a.1 a.2)->TxS (l.map (·.1)).flatten (bq (l.map (·.2)) spS)
 | [],h,_=>absurd rfl h
 | [a],_,h=>by
  rw[List.map_cons,List.map_nil,List.map_cons,List.map_nil,gY,List.flatten_cons,List.flatten_nil,List.append_nil];exact h a (by simp)
 | a::b::l,_,h=>by
  have ih:=E8 (b::l) (by simp) (λc hc=>h c (by simp [List.mem_cons] at hc ⊢;exact .inr hc))
  show TxS (a.1++((b::l).map (·.1)).flatten) (bq (a.2::b.2::l.map (·.2)) spS);rw[jk];refine (h a (by simp)).OV (m:=((b::l).map (·.1)).flatten) ?_ (Ry.app _)
  have:=xu.OV ih
  rwa [List.nil_append] at this
theorem WE:TxH [(4,⟨#[44]⟩)] d9:=by
 have h1:TxH [(4,(⟨#[44]⟩:BY))] ⟨#[44]⟩:=Ic (by decide +kernel)
 have:=h1.app xu
 rwa [List.append_nil,show ((⟨#[44]⟩:BY)++(⟨#[32]⟩:BY))=d9 by decide +kernel] at this
theorem WG:Beg d9:=by unfold Beg;decide +kernel
theorem Aa:∀(l:List (Tks×BY)),l≠[]->(∀a,a∈l->TxS a.1 a.2)->TxS (z8 (l.map (·.1))) (bq (l.map (·.2)) d9)
 | [],h,_=>absurd rfl h
 | [a],_,h=>by
  rw[List.map_cons,List.map_nil,List.map_cons,List.map_nil,gY];exact h a (by simp)
 | a::b::l,_,h=>by
  have ih:=Aa (b::l) (by simp) (λc hc=>h c (by simp [List.mem_cons] at hc ⊢;exact .inr hc))
  show TxS (a.1++(4,⟨#[44]⟩)::z8 ((b::l).map (·.1))) (bq (a.2::b.2::l.map (·.2)) d9);rw[jk];exact (h a (by simp)).OV (m:=(4,⟨#[44]⟩)::z8 ((b::l).map (·.1))) (WE.OV ih) (WG.app _)
theorem sp2{ta tb:Tks}{a b:BY}(h1:TxS ta a)(h2:TxS tb b):TxS (ta++tb) (bq [a,b] spS):=by
 have:=E8 [(ta,a),(tb,b)] (by simp) (λc hc=>by simp at hc;rcases hc with rfl | rfl<;>assumption)
 simpa using this
theorem sp3{ta tb tc:Tks}{a b c:BY}(h1:TxS ta a)(h2:TxS tb b)(h3:TxS tc c):TxS (ta++(tb++tc)) (bq [a,b,c] spS):=by
 have:=E8 [(ta,a),(tb,b),(tc,c)] (by simp) (λc hc=>by simp at hc;rcases hc with rfl | rfl | rfl<;>assumption)
 simpa using this
theorem sp4{ta tb tc td:Tks}{a b c d:BY}(h1:TxS ta a)(h2:TxS tb b)(h3:TxS tc c)(h4:TxS td d):TxS (ta++(tb++(tc++td))) (bq [a,b,c,d] spS):=by
 have:=E8 [(ta,a),(tb,b),(tc,c),(td,d)] (by simp) (λc hc=>by simp at hc;rcases hc with rfl | rfl | rfl | rfl<;>assumption)
 simpa using this
theorem dK{s:BY}(h:okN s=true):TxS [(1,s)] s:=E5 (TH h)
theorem sg{w:BY}(h:Pc 4 w):TxH [(4,w)] w:=Ic h
theorem acr:Beg ⟨#[40]⟩:=by unfold Beg;decide +kernel
theorem agj:Beg ⟨#[41]⟩:=by unfold Beg;decide +kernel
theorem agk:Beg ⟨#[58]⟩:=by unfold Beg;decide +kernel
theorem agl:Beg ⟨#[93]⟩:=by unfold Beg;decide +kernel
theorem OY{l:List BY}(h:fV l=true){tz:Tks}{z:BY}(hz:TxH tz z)(hb:Beg z):TxH (kR l++tz) (bq l d9++z):=by
 cases l with
 | nil=>
  rw[JH,Ka];exact hz
 | cons a l=>
  have:=Aa ((a::l).map λw=>([(1,w)],w)) (by simp) (λc hc=>by
   obtain⟨w,hw,rfl⟩:=List.mem_map.1 hc
   exact dK (List.all_eq_true.1 h w hw))
  rw[List.map_map,List.map_map] at this
  have e:((a::l).map ((λx:Tks×BY=>x.2) ∘ λw=>([(1,w)],w)))=a::l:=by
   rw[show ((λx:Tks×BY=>x.2) ∘ λw=>(([(1,w)]:Tks),w))=id from rfl,List.map_id]
  rw[e] at this;exact TxS.app this hz hb
theorem ZB{x:Ins}(h1:∀i,i<x.frm.length->okN (x.frm.getD i .empty)=true∧okN (x.args.getD i .empty)=true)(h0:1≤x.frm.length){tz:Tks}{z:BY}(hz:TxH tz z)(hb:Beg z) :
  TxH (jm x++tz) (bq (sK x x.frm.length) d9++z):=by
 have:=Aa ((List.range x.frm.length).map λi=>(([(1,x.frm.getD i .empty),(4,⟨#[58]⟩),(1,x.args.getD i .empty)]:Tks),(x.frm.getD i .empty++(⟨#[58,32]⟩:BY))++x.args.getD i .empty)) (by
   intro e;have:=congrArg List.length e;rw[List.length_map,List.length_range] at this;simp only[List.length_nil] at this
   omega) (λc hc=>by
   obtain⟨i,hi,rfl⟩:=List.mem_map.1 hc;obtain⟨g1,g2⟩:=h1 i (List.mem_range.1 hi)
   have hc:TxH [(4,(⟨#[58]⟩:BY))] ⟨#[58,32]⟩:=by
    have h1:TxH [(4,(⟨#[58]⟩:BY))] ⟨#[58]⟩:=Ic (by decide +kernel)
    have:=h1.app xu
    rwa [List.append_nil,show ((⟨#[58]⟩:BY)++(⟨#[32]⟩:BY))=⟨#[58,32]⟩ by decide +kernel] at this
   exact ((dK g1).app hc (by unfold Beg;decide +kernel)).OV (dK g2))
 rw[List.map_map,List.map_map] at this;exact TxS.app this hz hb
def hdT:Tks->BY
 | []=>.empty
 | (_,w)::_=>w
def AtT(s:BY)(l:List Tok)(n:Nat)(T:Tks):Prop:=n≤l.length∧(l.map (tx s)).drop n=T
section
variable{s:BY}{l:List Tok}{n:Nat}{T:Tks}
theorem AtT.of(h:l.map (tx s)=T):AtT s l 0 T:=⟨Nat.zero_le _,by rw[List.drop_zero];exact h⟩
theorem AtT.len(h:AtT s l n T):l.length=n+T.length:=by
 have:=congrArg List.length h.2;simp only[List.length_drop,List.length_map] at this;have:=h.1;omega
theorem AtT.hd{k:Int}{w:BY}(h:AtT s l n ((k,w)::T)):n<l.length∧(l.getD n nC).k=k∧txV s l n=w∧AtT s l (n+1) T:=by
 have hl:=h.len;rw[List.length_cons] at hl;have hn:n<l.length:=by omega
 have h2:=h.2;have hn':n<(l.map (tx s)).length:=by rw[List.length_map];exact hn
 rw[List.drop_eq_getElem_cons hn'] at h2;obtain⟨e1,e2⟩:=List.cons.inj h2;rw[List.getElem_map] at e1;have e3:l.getD n nC=l[n]:=by rw[agM,agO hn];rfl
 refine⟨hn,?_,?_,by omega,e2⟩
 ·rw[e3];exact congrArg Prod.fst e1
 ·unfold txV
  rw[if_pos hn,e3];exact congrArg Prod.snd e1
theorem AtT.app:∀{A:Tks} {n:Nat},AtT s l n (A++T)->AtT s l (n+A.length) T
 | [],n,h=>h
 | (k,w)::A,n,h=>by
  have:=AtT.app (A:=A) h.hd.2.2.2;rw[List.length_cons]
  rwa [show n+1+A.length=n+(A.length+1) by omega] at this
theorem AtT.text(h:AtT s l n T):txV s l n=hdT T:=by
 match T,h with
 | [],h=>
  have:=h.len;unfold txV;rw[if_neg (by simp at this;omega)]
  rfl
 | (k,w)::T,h=>exact h.hd.2.2.1
theorem AtT.kind{k k2:Int}{w:BY}(h:AtT s l n ((k,w)::T)):isV l n k2=decide (k=k2):=by
 unfold isV;rw[decide_eq_true h.hd.1,h.hd.2.1]
 rfl
theorem AtT.is{k:Int}{w:BY}(h:AtT s l n ((k,w)::T)):isV l n k=true:=by rw[h.kind];simp
theorem Ab{w:BY}(h:AtT s l n ((1,w)::T)):nmV s l n=.ok (n+1,w):=by
 unfold nmV;rw[if_pos h.is,h.hd.2.2.1]
theorem Dk{k:Int}{w:BY}{b:UInt8}(h:AtT s l n ((k,w)::T))(hw:w.data.toList=[b]):dX s l n b=.ok (n+1,()):=by
 unfold dX;rw[h.hd.2.2.1,if_pos hw]
theorem OZ{a:BY}(h:okN a=true){b:UInt8}(hb:j6 b.toNat=true):a.data.toList≠[b]:=λe=>by
 obtain⟨_,_,_,h4⟩:=TH h
 have e2:bt a 0=b.toNat:=by
  have:=su a 0;unfold sb at this;rw[e] at this;have h2:((b.toNat:Nat):Int)=(bt a 0:Int):=this;omega
 rcases h4 with⟨_,_,h5⟩ | ⟨h5,_⟩
 ·exact absurd h5 (by decide)
 ·rw[e2,hb] at h5;cases h5
theorem Dl(a b:BY)(r:List BY):kR (a::b::r)=(1,a)::(4,⟨#[44]⟩)::kR (b::r):=rfl
theorem O0:∀(ws:List BY) (f n k:Nat) (o:List BY),ws≠[]->ws.length≤f->k+ws.length≤6->AtT s l n (kR ws++T)->(hdT T).data.toList≠[44]->jO s l f n k o=.ok (n+(kR ws).length,o++ws)
 | [],_,_,_,_,h,_,_,_,_=>absurd rfl h
 | [a],f,n,k,o,_,hf,hk,h,ht=>by
  obtain⟨f,rfl⟩:∃g,f=g+1:=⟨f-1,by simp at hf;omega⟩
  have h:AtT s l n ((1,a)::T):=h;simp only[List.length_cons,List.length_nil] at hk;rw[jO,if_pos h.is,if_neg (by omega),h.hd.2.2.1,h.hd.2.2.2.text,if_neg ht]
  rfl
 | a::b::r,f,n,k,o,_,hf,hk,h,ht=>by
  obtain⟨f,rfl⟩:∃g,f=g+1:=⟨f-1,by simp at hf;omega⟩
  rw[Dl] at h;have h:AtT s l n ((1,a)::(4,⟨#[44]⟩)::(kR (b::r)++T)):=h;simp only[List.length_cons] at hk hf;have h2:=h.hd.2.2.2;have ih:=O0 (b::r) f (n+2) (k+1) (o++[a]) (by simp) (by simp;omega) (by simp;omega) h2.hd.2.2.2 ht
  rw[jO,if_pos h.is,if_neg (by omega),h.hd.2.2.1,h2.hd.2.2.1,if_pos Z,ih,Dl,List.append_assoc]
  simp only[List.length_cons];rw[show n+2+(kR (b::r)).length=n+((kR (b::r)).length+1+1) by omega]
  rfl
theorem TJ{ws:List BY}(hw:fV ws=true)(h6:ws.length≤6)(h:AtT s l n ((4,⟨#[40]⟩)::(kR ws++(4,⟨#[41]⟩)::T))):iH s l n=.ok (n+2+(kR ws).length,ws)∧AtT s l (n+2+(kR ws).length) T:=by
 have h1:=h.hd.2.2.2;have hl:=h.len;have h2:AtT s l (n+1+(kR ws).length) ((4,⟨#[41]⟩)::T):=h1.app;refine⟨?_,?_⟩
 ·unfold iH
  rw[h.hd.2.2.1,if_pos rfl]
  match ws,hw,h6,h1,h2,hl with
  | [],_,_,h1,h2,hl=>
   have h1:AtT s l (n+1) ((4,⟨#[41]⟩)::T):=h1;rw[h1.hd.2.2.1,if_pos rfl]
   rfl
  | a::r,hw,h6,h1,h2,hl=>
   have ha:okN a=true:=List.all_eq_true.1 hw a (by simp)
   have ht:txV s l (n+1)=a:=by
    rw[h1.text]
    cases r<;>rfl
   rw[ht,if_neg (OZ ha (by decide))]
   have hlen:(a::r).length≤(kR (a::r)).length:=by
    have:∀ws:List BY,ws.length≤(kR ws).length:=λws=>by
     induction ws with
     | nil=>exact Nat.zero_le _
     | cons a r ih=>cases r with
      | nil=>exact Nat.le_refl _
      | cons b r=>rw[Dl];simp only[List.length_cons] at ih ⊢;omega
    exact this _
   rw[O0 (a::r) (l.length+2) (n+1) 0 [] (by simp) (by rw[hl];simp only[List.length_cons,List.length_append] at hlen ⊢;omega) (by omega) h1 (show ¬([41]:List UInt8)=[44] by decide)]
   unfold jQ;dsimp only;rw[h2.hd.2.2.1,if_pos Z,show n+1+(kR (a::r)).length+1=n+2+(kR (a::r)).length by omega]
   rfl
 ·have:=h2.hd.2.2.2
  rwa [show n+1+(kR ws).length+1=n+2+(kR ws).length by omega] at this
def Ja(ps:List (BY×BY)):Tks:=z8 (ps.map λp=>[(1,p.1),(4,⟨#[58]⟩),(1,p.2)])
theorem Dm(a b:BY×BY)(r:List (BY×BY)):Ja (a::b::r)=(1,a.1)::(4,⟨#[58]⟩)::(1,a.2)::(4,⟨#[44]⟩)::Ja (b::r):=rfl
theorem ZC{p:BY×BY}{x:Ins}(h:AtT s l n ((1,p.1)::(4,⟨#[58]⟩)::(1,p.2)::T)):pW s l n x=.ok (n+3,{x with frm:=x.frm++[p.1],args:=x.args++[p.2]}):=by
 unfold pW;have h1:=h.hd.2.2.2;have h2:=h1.hd.2.2.2;rw[Ab h];simp only[bnd];rw[Dk h1 rfl];simp only;rw[Ab h2]
theorem O1:∀(ps:List (BY×BY)) (f n k:Nat) (x:Ins),ps≠[]->ps.length≤f->k+ps.length≤64->AtT s l n (Ja ps++T)->(hdT T).data.toList≠[44]->jR s l f n k x=.ok (n+(Ja ps).length,{x with frm:=x.frm++ps.map (·.1),args:=x.args++ps.map (·.2)})
 | [],_,_,_,_,h,_,_,_,_=>absurd rfl h
 | [a],f,n,k,x,_,hf,hk,h,ht=>by
  obtain⟨f,rfl⟩:∃g,f=g+1:=⟨f-1,by simp at hf;omega⟩
  have h:AtT s l n ((1,a.1)::(4,⟨#[58]⟩)::(1,a.2)::T):=h;simp only[List.length_cons,List.length_nil] at hk;rw[jR,if_neg (by omega),ZC h]
  simp only[bnd];rw[h.hd.2.2.2.hd.2.2.2.hd.2.2.2.text,if_neg ht]
  rfl
 | a::b::r,f,n,k,x,_,hf,hk,h,ht=>by
  obtain⟨f,rfl⟩:∃g,f=g+1:=⟨f-1,by simp at hf;omega⟩
  rw[Dm] at h;have h:AtT s l n ((1,a.1)::(4,⟨#[58]⟩)::(1,a.2)::(4,⟨#[44]⟩)::(Ja (b::r)++T)):=h;simp only[List.length_cons] at hk hf;have h3:=h.hd.2.2.2.hd.2.2.2.hd.2.2.2
  have ih:=O1 (b::r) f (n+4) (k+1) {x with frm:=x.frm++[a.1],args:=x.args++[a.2]} (by simp) (by simp;omega) (by simp;omega) h3.hd.2.2.2 ht
  rw[jR,if_neg (by omega),ZC h]
  simp only[bnd];rw[h3.hd.2.2.1,if_pos Z,show n+3+1=n+4 from rfl,ih,Dm]
  simp only[List.length_cons,List.map_cons,List.append_assoc,List.cons_append,List.nil_append];rw[show n+4+(Ja (b::r)).length=n+((Ja (b::r)).length+1+1+1+1) by omega]
theorem Ke{α:Type}(l:List α)(d:α):(List.range l.length).map (λi=>l.getD i d)=l:=by
 apply List.ext_getElem
 ·simp
 ·intro i h1 h2
  simp at h1;simp [h1]
theorem ZE{x:Ins}:jm x=Ja ((List.range x.frm.length).map λi=>(x.frm.getD i .empty,x.args.getD i .empty)):=by
 unfold jm Ja;rw[List.map_map]
 rfl
theorem agm{x x0:Ins}(hx:x.frm.length=x.args.length∧1≤x.frm.length∧x.frm.length≤64)(h0:x0.frm=[]∧x0.args=[])(h:AtT s l n ((4,⟨#[91]⟩)::(jm x++(4,⟨#[93]⟩)::T))) :
  Gw s l n x0=.ok (n+2+(jm x).length,{x0 with kind:=3,frm:=x.frm,args:=x.args})∧AtT s l (n+2+(jm x).length) T:=by
 have h1:=h.hd.2.2.2;have hl:=h.len;have h2:AtT s l (n+1+(jm x).length) ((4,⟨#[93]⟩)::T):=h1.app;refine⟨?_,?_⟩
 ·unfold Gw
  rw[Dk h rfl];simp only[bnd]
  have hlen:∀ps:List (BY×BY),ps.length≤(Ja ps).length:=λps=>by
   induction ps with
   | nil=>exact Nat.zero_le _
   | cons a r ih=>cases r with
    | nil=>show 1≤3;omega
    | cons b r=>rw[Dm];simp only[List.length_cons] at ih ⊢;omega
  rw[ZE] at h1 h2 hl ⊢;have hlr:((List.range x.frm.length).map λi=>(x.frm.getD i .empty,x.args.getD i .empty)).length=x.frm.length:=by simp
  have hl2:=hlen ((List.range x.frm.length).map λi=>(x.frm.getD i .empty,x.args.getD i .empty))
  rw[O1 _ (l.length+1) (n+1) 0 _ (λe=>by rw[e] at hlr;simp at hlr;omega) (by rw[hl];simp only[List.length_cons,List.length_append];omega) (by omega) h1 (show ¬([93]:List UInt8)=[44] by decide)]
  unfold jQ;dsimp only;rw[h2.hd.2.2.1,if_pos Z,h0.1,h0.2]
  have e1:((List.range x.frm.length).map λi=>(x.frm.getD i .empty,x.args.getD i .empty)).map (·.1)=x.frm:=by
   rw[List.map_map];exact Ke x.frm .empty
  have e2:((List.range x.frm.length).map λi=>(x.frm.getD i .empty,x.args.getD i .empty)).map (·.2)=x.args:=by
   rw[List.map_map,hx.1];exact Ke x.args .empty
  rw[e1,e2,List.nil_append,List.nil_append]
  congr 2
  omega
 ·have:=h2.hd.2.2.2
  rwa [show n+1+(jm x).length+1=n+2+(jm x).length by omega] at this
end
def cN(bs:List Blk):Nat:=(bs.map λb=>b.code.length).sum
theorem xw(acc l:BY):(eG acc l).size=acc.size+(l.size+1):=by
 unfold eG;rw[au,au]
 rfl
theorem Ig{k:Nat}:∀(l:List Arr) (acc:BY),(∀a,a∈l->(mg a).size≤k)->(mQ acc l).size≤acc.size+l.length*(k+1)
 | [],acc,h=>by show acc.size≤_;omega
 | a::r,acc,h=>by
  have ih:=Ig r (eG acc (mg a)) λb hb=>h b (List.mem_cons_of_mem _ hb)
  have ha:=h a (by simp)
  rw[xw] at ih;rw[List.length_cons,Nat.succ_mul];show (mQ (eG acc (mg a)) r).size≤_;omega
theorem Ih{k:Nat}:∀(l:List Ins) (acc:BY),(∀a,a∈l->(nK a).size≤k)->(qc acc l).size≤acc.size+l.length*(k+1)
 | [],acc,h=>by show acc.size≤_;omega
 | a::r,acc,h=>by
  have ih:=Ih r (eG acc (nK a)) λb hb=>h b (List.mem_cons_of_mem _ hb)
  have ha:=h a (by simp)
  rw[xw] at ih;rw[List.length_cons,Nat.succ_mul];show (qc (eG acc (nK a)) r).size≤_;omega
theorem Ii{k:Nat}:∀(l:List Blk) (acc:BY),(∀b,b∈l->∀acc:BY,(qc (eG acc (iB b)) b.code).size≤acc.size+k)->(nU acc l).size≤acc.size+l.length*k
 | [],acc,h=>by show acc.size≤_;omega
 | a::r,acc,h=>by
  have ih:=Ii r (qc (eG acc (iB a)) a.code) λb hb=>h b (List.mem_cons_of_mem _ hb)
  have ha:=h a (by simp) acc
  rw[List.length_cons,Nat.succ_mul];show (nU (qc (eG acc (iB a)) a.code) r).size≤_;omega
theorem Ij{k:Nat}:∀(l:List Fun) (acc:BY),(∀f,f∈l->∀acc:BY,(eG (nU (eG acc (jD f)) f.blocks) ⟨#[125]⟩).size≤acc.size+k)->(vv acc l).size≤acc.size+l.length*k
 | [],acc,h=>by show acc.size≤_;omega
 | a::r,acc,h=>by
  have ih:=Ij r (eG (nU (eG acc (jD a)) a.blocks) ⟨#[125]⟩) λb hb=>h b (List.mem_cons_of_mem _ hb)
  have ha:=h a (by simp) acc
  rw[List.length_cons,Nat.succ_mul];show (vv (eG (nU (eG acc (jD a)) a.blocks) ⟨#[125]⟩) r).size≤_;omega
theorem BH{a:Arr}(h:je a=true):(mg a).size≤300:=by
 unfold je at h;simp only[agZ,ag2,agX,Bool.not_eq_false'] at h;obtain⟨⟨⟨h1,h2⟩,h3⟩,h4⟩:=h;have s1:=iW h1;have s2:=iW h2;have s3:=xX (n:=a.size) (by unfold aj;omega)
 unfold mg;rw[YB,au,au,au,au,au,au];show 5+(1+(_+(1+(_+(1+_)))))≤_;omega
theorem BI{x:Ins}(h:bC x=true)(hn:aj x.num):(nK x).size≤14002:=by
 have:=CQ (nT h) hn;unfold nK;rw[au];show 2+_≤_;omega
theorem BJ{b:Blk}(h:okN b.name=true):(iB b).size≤97:=by
 have:=iW h;unfold iB;rw[au];show _+1≤_;omega
theorem Ez{f:Fun}(h:okN f.name=true)(hp:fV f.params=true)(h6:f.params.length≤6):(jD f).size≤1000:=by
 have s1:=iW h;have s2:=lu d9 96 f.params (sJ hp);have s3:(bq f.params d9).size≤6*98:=Nat.le_trans s2 (Nat.mul_le_mul_right _ h6);unfold jD;rw[au,au,au,au];show 3+_+1+_+3≤_;omega
structure ZF(b:Blk):Prop where
 name:okN b.name=true
 code:∀x,x∈b.code->bC x=true
 few:b.code.length≤4096
structure Rz(f:Fun):Prop where
 name:okN f.name=true
 params:fV f.params=true
 Og:f.params.length≤6
 V4:f.blocks.length≤64
 blocks:∀b,b∈f.blocks->ZF b
structure ad4(p:Prg):Prop where
 jF:p.arrays.length≤16
 A9:p.funcs.length≤64
 arrays:∀a,a∈p.arrays->je a=true
 funcs:∀f,f∈p.funcs->Rz f
theorem yx{p:Prg}(h:rightG p=true):ad4 p:=by
 unfold rightG at h;simp only[agN,agZ,ag2,agX,agT,List.all_eq_true] at h;obtain⟨⟨⟨⟨h1,h2⟩,h3⟩,h4⟩,h5⟩:=h;refine⟨by omega,by omega,h3,λf hf=>?_⟩
 have hk:=h4 f hf;unfold kK at hk;simp only[agN,agZ,ag2,agX,Bool.not_eq_false',List.all_eq_true] at hk;obtain⟨⟨⟨⟨⟨k1,k2⟩,k3⟩,k4⟩,k5⟩,k6⟩:=hk;refine⟨k1,k2,by omega,by omega,λb hb=>?_⟩
 have hq:=k6 b hb;unfold p9 at hq;simp only[agN,List.all_eq_true] at hq;refine⟨hq.1,hq.2,?_⟩;have s1:b.code.length≤fN f:=Ti (List.mem_map.2 ⟨b,hb,Z⟩);have s2:fN f≤kr p.funcs:=Ti (l:=p.funcs.map fN) (List.mem_map.2 ⟨f,hf,Z⟩)
 omega
theorem O3{b:Blk}(h:ZF b)(hn:∀x,x∈b.code->aj x.num)(k:Nat)(acc:BY):(qc (eG acc (iB b)) (b.code.take k)).size≤acc.size+58000000:=by
 have h1:=Ih (k:=14002) (b.code.take k) (eG acc (iB b)) λx hx=>BI (h.code x (List.mem_of_mem_take hx)) (hn x (List.mem_of_mem_take hx))
 have h2:(b.code.take k).length≤4096:=by rw[List.length_take];have:=h.few;omega
 have h3:(b.code.take k).length*(14002+1)≤4096*14003:=Nat.mul_le_mul_right _ h2;have h4:=BJ h.name;rw[xw] at h1;omega
theorem WH{f:Fun}(h:Rz f)(hn:∀b,b∈f.blocks->∀x,x∈b.code->aj x.num)(k:Nat)(acc:BY):(nU acc (f.blocks.take k)).size≤acc.size+3712000000:=by
 have h1:=Ii (k:=58000000) (f.blocks.take k) acc λb hb acc=>by
  have:=O3 (h.blocks b (List.mem_of_mem_take hb)) (hn b (List.mem_of_mem_take hb)) b.code.length acc
  rwa [List.take_length] at this
 have h2:(f.blocks.take k).length≤64:=by rw[List.length_take];have:=h.V4;omega
 have h3:(f.blocks.take k).length*58000000≤64*58000000:=Nat.mul_le_mul_right _ h2;omega
theorem O4{f:Fun}(h:Rz f)(hn:∀b,b∈f.blocks->∀x,x∈b.code->aj x.num)(k:Nat)(acc:BY):(nU (eG acc (jD f)) (f.blocks.take k)).size≤acc.size+3712002000:=by
 have h1:=WH h hn k (eG acc (jD f));have h2:=Ez h.name h.params h.Og;rw[xw] at h1;omega
theorem WJ{p:Prg}(h:ad4 p)(hn:∀f,f∈p.funcs->∀b,b∈f.blocks->∀x,x∈b.code->aj x.num)(k:Nat)(acc:BY):(vv acc (p.funcs.take k)).size≤acc.size+237568256000:=by
 have h1:=Ij (k:=3712004000) (p.funcs.take k) acc λf hf acc=>by
  have:=O4 (h.funcs f (List.mem_of_mem_take hf)) (hn f (List.mem_of_mem_take hf)) f.blocks.length acc
  rw[List.take_length] at this;rw[xw];show _+(1+1)≤_;omega
 have h2:(p.funcs.take k).length≤64:=by rw[List.length_take];have:=h.A9;omega
 have h3:(p.funcs.take k).length*3712004000≤64*3712004000:=Nat.mul_le_mul_right _ h2
 omega
theorem Kg{p:Prg}(h:ad4 p)(k:Nat):(mQ .empty (p.arrays.take k)).size≤5000:=by
 have h1:=Ig (k:=300) (p.arrays.take k) .empty λa ha=>BH (h.arrays a (List.mem_of_mem_take ha))
 have h2:(p.arrays.take k).length≤16:=by rw[List.length_take];have:=h.jF;omega
 have h3:(p.arrays.take k).length*(300+1)≤16*301:=Nat.mul_le_mul_right _ h2;have h4:ByteArray.empty.size=0:=rfl;omega
theorem agn:(⟨#[102,110,32]⟩:BY).size=3:=rfl
theorem szbr:(⟨#[41,32,123]⟩:BY).size=3:=rfl
theorem agp:(⟨#[58]⟩:BY).size=1:=rfl
theorem ad5:(⟨#[32,32]⟩:BY).size=2:=rfl
abbrev mV:TypeId:=143
abbrev uV:TypeId:=5
theorem RB(l s:BY)(h:l.size+s.size≤okL):aG PG 63 1 [.ptr 0 0,vs s] [.bld mV (.own 1),fu uV l] (.tup [vi s.size,.d .ni]) [.bld mV (.own 1),fu uV (l++s)]:=
 aG.aaO (P:=PG) (r:=Tryz.lays156_ren) {Tryz.lays156 with} Tryz.Builder_Extra_156 (eT Tryz.func63 (by kernel_rfl) (by kernel_rfl)) l s h
theorem O5(l:BY):aG PG 69 1 [.ptr 0 0] [.bld mV (.own 1),fu uV l] (vs l) [.box [.dead,.dead],.vec uV 1 0 λ_=>[]]:=
 aG.ofString (P:=PG) Tryz.lays169 Tryz.Builder_Extra_169 (eT Tryz.func69 (by kernel_rfl) (by kernel_rfl)) l
theorem ZG(l:BY):aG PG 68 1 [.ptr 0 0] [.bld mV (.own 1),fu uV l] (vi l.size) [.bld mV (.own 1),fu uV l]:=
 aG.aeI (P:=PG) Tryz.lays170 ⟨⟨Tryz.Builder_Extra_156.sizeBuilder,Tryz.Builder_Extra_156.liesBuilder⟩,Tryz.Builder_Extra_156.t5,Tryz.Builder_Extra_156.a5,Tryz.Builder_Extra_156.z5,Tryz.Builder_Extra_156.v5,Tryz.Builder_Extra_156.infoByte,Tryz.Builder_Extra_156.cellsByte,Tryz.Builder_Extra_156.sizeByte,Tryz.Builder_Extra_156.neB5⟩ (eT Tryz.func68 (by kernel_rfl) (by kernel_rfl)) l
theorem xA(l s:BY)(h:l.size+(s.size+1)≤okL):aG PG 62 1 [vs s,.ptr 0 0] [.bld mV (.own 1),fu uV l] (.tup []) [.bld mV (.own 1),fu uV (eG l s)]:=by
 refine aG.mk (dP 6 1) aA [0,1] Tryz.func62 Z (by kernel_rfl) Z Z Z ?_
 intro C x;unfold okL at h;refine x.call [0,1] Z (by simp only[ak];show ((s.size+1:Nat):Int)≤_;omega) Z (RB l (s++(⟨#[10]⟩:BY)) (by rw[au];exact h)) Z ⟨⟨Z,Z⟩,Z,tR⟩ ⟨⟨Z,Z⟩,⟨Z,Z,Z,λ_ _=>rfl⟩,tR⟩ ?_
 refine x.exit Z tR ?_;exact⟨.inl Z,tR,⟨⟨Z,Z⟩,⟨Z,Z,Z,λ_ _=>rfl⟩,tR⟩,Z⟩
structure IW (n:Nat) where
 i:Nat
 hi:i≤n
theorem Lu{T:TypeId}{a b:BY}(h:a=b):mH (fu T a) (fu T b):=by subst h;exact⟨rfl,rfl,rfl,λ_ _=>rfl⟩
theorem RF{l:List Ins}{i:Nat}(h:i<l.length)(acc:BY):eG (qc acc (l.take i)) (nK (l.getD i (aM 0)))=qc acc (l.take (i+1)):=(xY (λacc x=>eG acc (nK x)) acc h (aM 0)).symm
theorem RG{l:List Blk}{i:Nat}(h:i<l.length)(acc:BY):qc (eG (nU acc (l.take i)) (iB (l.getD i bN))) (l.getD i bN).code=nU acc (l.take (i+1)):=(xY (λacc b=>qc (eG acc (iB b)) b.code) acc h bN).symm
theorem RH{l:List Arr}{i:Nat}(h:i<l.length)(acc:BY):eG (mQ acc (l.take i)) (mg (l.getD i dZ))=mQ acc (l.take (i+1)):=(xY (λacc a=>eG acc (mg a)) acc h dZ).symm
theorem RI{l:List Fun}{i:Nat}(h:i<l.length)(acc:BY):eG (nU (eG (vv acc (l.take i)) (jD (l.getD i bM))) (l.getD i bM).blocks) ⟨#[125]⟩=vv acc (l.take (i+1)):=(xY (λacc f=>eG (nU (eG acc (jD f)) f.blocks) ⟨#[125]⟩) acc h bM).symm
theorem RJ(p:Prg)(hp:Oh p):Pure PG 20 [Ns p] (.tup [vs (GJ p).1,vi (GJ p).2]) []:=by
 refine aG.mk (cfg 87) aA [] Tryz.func20 Z (by kernel_rfl) Z Z Z ?_
 intro C x;refine x.pure Z tR Z (Ep p hp) ⟨⟨ah Z,ah Z,tR⟩,tR⟩ ?_;refine x.cond Z tR (λh=>?_) (λh=>?_)
 ·have h:(!rightG p)=true:=h
  refine x.exit Z tR ?_;unfold GJ;rw[if_neg (by simpa using h)]
  exact⟨.inr Z,⟨Z,Z,tR⟩,tR,Z⟩
 have h:(!rightG p)=false:=h;have hr:rightG p=true:=by simpa using h
 have hR:=yx hr;have IK:∀f,f∈p.funcs->∀b,b∈f.blocks->∀x,x∈b.code->aj x.num:=λf hf b hb x hx=>(((hp.funcs f hf).blocks b hb).code x hx).num
 have ha16:=hR.jF;have hf64:=hR.A9;unfold GJ;rw[if_pos hr]
 clear h
 refine x.toLoop Z tR ?_;refine Go.ac8 1 uV mV 1 (λi=>[.int .u8 (sb .empty i)]) Z ?_
 refine x.loop (α:=IW p.arrays.length) (λy=>⟨[(1,.ptr 0 0),(4,.ptr 1 0),(5,.fn 62 [.ptr 1 0]),(19,.d (bX p.arrays)),(20,vi p.arrays.length),(21,vi (y.i:Int))],[(0,.box [.d (bX p.arrays),.d (bW p.funcs)]),(1,.bld mV (.own 2)),(2,fu uV (mQ .empty (p.arrays.take y.i)))],3⟩) (λy=>p.arrays.length-y.i) ⟨0,Nat.zero_le _⟩ Z tR ⟨⟨⟨Z,Z⟩,⟨Z,Z⟩,Z,av Z,Z,Z,tR⟩,⟨⟨ah Z,ah Z,tR⟩,⟨Z,Z⟩,⟨Z,Z,Z,λ_ _=>rfl⟩,tR⟩,Z⟩ (λy=>?_)
 obtain⟨i,hi⟩:=y;change Go C _ ⟨[(1,.ptr 0 0),(4,.ptr 1 0),(5,.fn 62 [.ptr 1 0]),(19,.d (bX p.arrays)),(20,vi p.arrays.length),(21,vi (i:Int))],[(0,.box [.d (bX p.arrays),.d (bW p.funcs)]),(1,.bld mV (.own 2)),(2,fu uV (mQ .empty (p.arrays.take i)))],3⟩ _
 refine x.cond Z tR (λh2=>?_) (λh2=>?_)
 ·have h2:(i:Int)<(p.arrays.length:Int):=agP h2
  have h2:i<p.arrays.length:=by omega
  have ei:((i:Int).toNat)=i:=ag1 i;have hin:=hp.arrays _ (bZ (d:=dZ) h2);have hok:=hR.arrays _ (bZ (d:=dZ) h2);have hsz:=Kg hR i;have WK:=RH h2 .empty;obtain⟨a,hae⟩:∃a,p.arrays.getD i dZ=a:=⟨_,Z⟩;have abf:p.arrays.getD ((i:Int).toNat) dZ=a:=by rw[ei];exact hae
  rw[hae] at hin hok WK;have hls:=BH hok;refine x.draw [] [0] [1,2,3,4,6,7] [5] [8,9,10] Z (by simp only[ak];omega) ay (by kernel_rfl) Ret.bG.quiet Z tR (λC1 x1=>?_)
  rw[abf];refine x1.pure Z tR Z (CZ a.size hin.size) ⟨Z,tR⟩ ?_;refine x1.back Z tR ?_;refine x.op Z tR ?_;refine Sx.Go.freeze 4 ?_;refine x.pure Z tR Z (dU [⟨#[97,114,114,97,121]⟩,a.name,bF a.size,a.level] (Nat.le_of_ble_eq_true Z) (show (mg a).size≤_ by unfold okL;omega)) ⟨⟨Z,λ_=>rfl,ev4 Z Z Z Z⟩,tR⟩ ?_
  refine x.call [1,2] Z tR Z (xA (mQ .empty (p.arrays.take i)) (mg a) (by unfold okL;omega)) Z ⟨Z,⟨Z,Z⟩,tR⟩ ⟨⟨Z,Z⟩,⟨Z,Z,Z,λ_ _=>rfl⟩,tR⟩ ?_
  refine x.back Z (by simp only[ak,aj];omega) ⟨⟨i+1,by omega⟩,by show p.arrays.length-(i+1)<p.arrays.length-i;omega,⟨⟨Z,Z⟩,⟨Z,Z⟩,Z,av Z,Z,?_,tR⟩,⟨⟨ah Z,ah Z,tR⟩,⟨Z,Z⟩,?_,tR⟩,Z⟩
  ·show aI (vi ((i:Int)+1)) (vi ((i+1:Nat):Int));rw[agY];rfl
  ·exact Lu WK
 have h2:¬(i:Int)<(p.arrays.length:Int):=agQ h2;obtain rfl:i=p.arrays.length:=by omega
 rw[List.take_length];have hA:(mQ .empty p.arrays).size≤5000:=by have:=Kg hR p.arrays.length;rwa [List.take_length] at this
 refine x.loop (α:=IW p.funcs.length) (λy=>⟨[(1,.ptr 0 0),(4,.ptr 1 0),(5,.fn 62 [.ptr 1 0]),(38,.d (bW p.funcs)),(39,vi p.funcs.length),(40,vi (y.i:Int))],[(0,.box [.d (bX p.arrays),.d (bW p.funcs)]),(1,.bld mV (.own 2)),(2,fu uV (vv (mQ .empty p.arrays) (p.funcs.take y.i)))],3⟩) (λy=>p.funcs.length-y.i) ⟨0,Nat.zero_le _⟩ rfl tR ⟨⟨⟨rfl,rfl⟩,⟨rfl,rfl⟩,rfl,av rfl,rfl,rfl,tR⟩,⟨⟨ah rfl,ah rfl,tR⟩,⟨rfl,rfl⟩,⟨rfl,rfl,rfl,λ_ _=>rfl⟩,tR⟩,rfl⟩ (λy=>?_)
 obtain⟨i,hi⟩:=y;change Go C _ ⟨[(1,.ptr 0 0),(4,.ptr 1 0),(5,.fn 62 [.ptr 1 0]),(38,.d (bW p.funcs)),(39,vi p.funcs.length),(40,vi (i:Int))],[(0,.box [.d (bX p.arrays),.d (bW p.funcs)]),(1,.bld mV (.own 2)),(2,fu uV (vv (mQ .empty p.arrays) (p.funcs.take i)))],3⟩ _
 have hsz:=WJ hR IK i (mQ .empty p.arrays);refine x.cond Z tR (λh2=>?_) (λh2=>?_)
 rotate_left
 ·have h2:¬(i:Int)<(p.funcs.length:Int):=agQ h2
  obtain rfl:i=p.funcs.length:=by omega
  rw[List.take_length];refine x.call [1,2] rfl tR rfl (ZG (vv (mQ .empty p.arrays) p.funcs)) rfl ⟨⟨rfl,rfl⟩,tR⟩ ⟨⟨rfl,rfl⟩,⟨rfl,rfl,rfl,λ_ _=>rfl⟩,tR⟩ ?_
  refine x.cond Z tR (λh3=>?_) (λh3=>?_)
  ·have h3:(65536:Int)<((kg p).size:Int):=agP h3
   rw[if_pos (by omega)]
   refine x.exit Z tR ?_;exact⟨.inr Z,⟨Z,Z,tR⟩,tR,Z⟩
  ·have h3:¬(65536:Int)<((kg p).size:Int):=agQ h3
   rw[if_neg (by omega)]
   refine x.call [1,2] rfl tR rfl (O5 (vv (mQ .empty p.arrays) p.funcs)) rfl ⟨⟨rfl,rfl⟩,tR⟩ ⟨⟨rfl,rfl⟩,⟨rfl,rfl,rfl,λ_ _=>rfl⟩,tR⟩ ?_
   refine x.exit Z tR ?_;exact⟨.inr Z,⟨Z,Z,tR⟩,tR,Z⟩
 have h2:(i:Int)<(p.funcs.length:Int):=agP h2
 have h2:i<p.funcs.length:=by omega
 have ei:((i:Int).toNat)=i:=ag1 i;have hin:=hp.funcs _ (bZ (d:=bM) h2)
 have hok:=hR.funcs _ (bZ (d:=bM) h2)
 have hnf:=IK _ (bZ (d:=bM) h2);have WK:=RI h2 (mQ .empty p.arrays);obtain⟨f,hfe⟩:∃f,p.funcs.getD i bM=f:=⟨_,Z⟩
 have Y4:p.funcs.getD ((i:Int).toNat) bM=f:=by rw[ei];exact hfe
 rw[hfe] at hin hok hnf WK;have hls:=Ez hok.name hok.params hok.Og;have hnz:=iW hok.name;have hjz:=lu d9 96 f.params (sJ hok.params);have hjz2:(bq f.params d9).size≤6*98:=Nat.le_trans hjz (Nat.mul_le_mul_right _ hok.Og);have hpl:=hok.Og;have hbl:=hok.V4;obtain⟨acc,hacc⟩:∃acc,vv (mQ .empty p.arrays) (p.funcs.take i)=acc:=⟨_,Z⟩
 rw[hacc] at hsz WK ⊢;refine x.draw [] [0] [1,2,3,4,5,6] [7] [8,9,10] Z (by simp only[ak];omega) ay (by kernel_rfl) Ret.bG.quiet Z (by rw[Y4];simp only[ak,au,agn,abd];omega) (λC1 x1=>?_)
 rw[Y4];refine x1.pure Z tR Z (uO f.params d9 (by unfold okL;omega) (by unfold okL;omega)) ⟨av Z,Z,tR⟩ ?_
 refine x1.back Z tR ?_;refine x.call [1,2] Z (by simp only[ak,au,agn,abd,szbr];omega) Z (xA acc (jD f) (by unfold okL;omega)) Z ⟨Z,⟨Z,Z⟩,tR⟩ ⟨⟨Z,Z⟩,⟨Z,Z,Z,λ_ _=>rfl⟩,tR⟩ ?_
 refine x.loop (α:=IW f.blocks.length) (λy=>⟨[(1,.ptr 0 0),(4,.ptr 1 0),(5,.fn 62 [.ptr 1 0]),(38,.d (bW p.funcs)),(39,vi p.funcs.length),(40,vi (i:Int)),(9,.ptr 3 0),(56,.d (iA f.blocks)),(57,vi f.blocks.length),(58,vi (y.i:Int))],[(0,.box [.d (bX p.arrays),.d (bW p.funcs)]),(1,.bld mV (.own 2)),(2,fu uV (nU (eG acc (jD f)) (f.blocks.take y.i))),(3,.box [vs f.name,.d (bE f.params),.d (iA f.blocks),vi f.at_])],4⟩) (λy=>f.blocks.length-y.i) ⟨0,Nat.zero_le _⟩ Z tR ⟨⟨⟨Z,Z⟩,⟨Z,Z⟩,Z,av Z,Z,Z,⟨Z,Z⟩,av Z,Z,Z,tR⟩,⟨⟨ah Z,ah Z,tR⟩,⟨Z,Z⟩,⟨Z,Z,Z,λ_ _=>rfl⟩,⟨Z,ah Z,ah Z,Z,tR⟩,tR⟩,Z⟩ (λy=>?_)
 obtain⟨k,hk⟩:=y;change Go C _ ⟨[(1,.ptr 0 0),(4,.ptr 1 0),(5,.fn 62 [.ptr 1 0]),(38,.d (bW p.funcs)),(39,vi p.funcs.length),(40,vi (i:Int)),(9,.ptr 3 0),(56,.d (iA f.blocks)),(57,vi f.blocks.length),(58,vi (k:Int))],[(0,.box [.d (bX p.arrays),.d (bW p.funcs)]),(1,.bld mV (.own 2)),(2,fu uV (nU (eG acc (jD f)) (f.blocks.take k))),(3,.box [vs f.name,.d (bE f.params),.d (iA f.blocks),vi f.at_])],4⟩ _
 have hsz2:=O4 hok hnf k acc;refine x.cond Z tR (λh4=>?_) (λh4=>?_)
 rotate_left
 ·have h4:¬(k:Int)<(f.blocks.length:Int):=agQ h4
  obtain rfl:k=f.blocks.length:=by omega
  rw[List.take_length] at hsz2 ⊢;refine x.call [1,2] Z tR Z (xA (nU (eG acc (jD f)) f.blocks) ⟨#[125]⟩ (by unfold okL;show _+(1+1)≤_;omega)) Z ⟨Z,⟨Z,Z⟩,tR⟩ ⟨⟨Z,Z⟩,⟨Z,Z,Z,λ_ _=>rfl⟩,tR⟩ ?_
  refine x.back Z (by simp only[ak,aj];omega) ⟨⟨i+1,by omega⟩,by show p.funcs.length-(i+1)<p.funcs.length-i;omega,⟨⟨Z,Z⟩,⟨Z,Z⟩,Z,av Z,Z,?_,tR⟩,⟨⟨ah Z,ah Z,tR⟩,⟨Z,Z⟩,?_,tR⟩,Z⟩
  ·show aI (vi ((i:Int)+1)) (vi ((i+1:Nat):Int));rw[agY];rfl
  ·exact Lu WK
 have h4:(k:Int)<(f.blocks.length:Int):=agP h4;have h4:k<f.blocks.length:=by omega
 have ek:((k:Int).toNat)=k:=ag1 k;have hin2:=hin.blocks _ (bZ (d:=bN) h4);have hok2:=hok.blocks _ (bZ (d:=bN) h4);have hnb:=hnf _ (bZ (d:=bN) h4);have ZH:=RG h4 (eG acc (jD f));obtain⟨b,hbe⟩:∃b,f.blocks.getD k bN=b:=⟨_,Z⟩;have V5:f.blocks.getD ((k:Int).toNat) bN=b:=by rw[ek];exact hbe
 rw[hbe] at hin2 hok2 hnb ZH;have hls2:=BJ hok2.name;have hnz2:=iW hok2.name;have hfew:=hok2.few;obtain⟨Jb,agq⟩:∃Jb,nU (eG acc (jD f)) (f.blocks.take k)=Jb:=⟨_,Z⟩;rw[agq] at hsz2 ZH ⊢;refine x.call [1,2] Z (by rw[V5];simp only[ak,agp];omega) Z (show aG PG _ 1 [vs ((f.blocks.getD ((k:Int).toNat) bN).name++(⟨#[58]⟩:BY)),.ptr 0 0] [.bld mV (.own 1),fu uV Jb] (.tup []) [.bld mV (.own 1),fu uV (eG Jb (iB b))] from by rw[V5];exact xA Jb (iB b) (by unfold okL;omega)) Z ⟨Z,⟨Z,Z⟩,tR⟩ ⟨⟨Z,Z⟩,⟨Z,Z,Z,λ_ _=>rfl⟩,tR⟩ ?_
 rw[V5];refine x.loop (α:=IW b.code.length) (λy=>⟨[(1,.ptr 0 0),(4,.ptr 1 0),(5,.fn 62 [.ptr 1 0]),(38,.d (bW p.funcs)),(39,vi p.funcs.length),(40,vi (i:Int)),(9,.ptr 3 0),(56,.d (iA f.blocks)),(57,vi f.blocks.length),(58,vi (k:Int)),(11,.ptr 4 0),(68,.d (pY b.code)),(69,vi b.code.length),(70,vi (y.i:Int))],[(0,.box [.d (bX p.arrays),.d (bW p.funcs)]),(1,.bld mV (.own 2)),(2,fu uV (qc (eG Jb (iB b)) (b.code.take y.i))),(3,.box [vs f.name,.d (bE f.params),.d (iA f.blocks),vi f.at_]),(4,.box [vs b.name,.d (pY b.code),vi b.at_])],5⟩) (λy=>b.code.length-y.i) ⟨0,Nat.zero_le _⟩ Z tR ⟨⟨⟨Z,Z⟩,⟨Z,Z⟩,Z,av Z,Z,Z,⟨Z,Z⟩,av Z,Z,Z,⟨Z,Z⟩,av Z,Z,Z,tR⟩,⟨⟨ah Z,ah Z,tR⟩,⟨Z,Z⟩,⟨Z,Z,Z,λ_ _=>rfl⟩,⟨Z,ah Z,ah Z,Z,tR⟩,⟨Z,ah Z,Z,tR⟩,tR⟩,Z⟩ (λy=>?_)
 obtain⟨j,hj⟩:=y;change Go C _ ⟨[(1,.ptr 0 0),(4,.ptr 1 0),(5,.fn 62 [.ptr 1 0]),(38,.d (bW p.funcs)),(39,vi p.funcs.length),(40,vi (i:Int)),(9,.ptr 3 0),(56,.d (iA f.blocks)),(57,vi f.blocks.length),(58,vi (k:Int)),(11,.ptr 4 0),(68,.d (pY b.code)),(69,vi b.code.length),(70,vi (j:Int))],[(0,.box [.d (bX p.arrays),.d (bW p.funcs)]),(1,.bld mV (.own 2)),(2,fu uV (qc (eG Jb (iB b)) (b.code.take j))),(3,.box [vs f.name,.d (bE f.params),.d (iA f.blocks),vi f.at_]),(4,.box [vs b.name,.d (pY b.code),vi b.at_])],5⟩ _
 have hsz3:=O3 hok2 hnb j Jb;refine x.cond Z tR (λh6=>?_) (λh6=>?_)
 rotate_left
 ·have h6:¬(j:Int)<(b.code.length:Int):=agQ h6
  obtain rfl:j=b.code.length:=by omega
  rw[List.take_length];refine x.back Z (by simp only[ak,aj];omega) ⟨⟨k+1,by omega⟩,by show f.blocks.length-(k+1)<f.blocks.length-k;omega,⟨⟨Z,Z⟩,⟨Z,Z⟩,Z,av Z,Z,Z,⟨Z,Z⟩,av Z,Z,?_,tR⟩,⟨⟨ah Z,ah Z,tR⟩,⟨Z,Z⟩,?_,⟨Z,ah Z,ah Z,Z,tR⟩,tR⟩,Z⟩
  ·show aI (vi ((k:Int)+1)) (vi ((k+1:Nat):Int));rw[agY];rfl
  ·exact Lu ZH
 have h6:(j:Int)<(b.code.length:Int):=agP h6;have h6:j<b.code.length:=by omega
 have ej:((j:Int).toNat)=j:=ag1 j;have agr:=hin2.code _ (bZ (d:=aM 0) h6);have abB:=hok2.code _ (bZ (d:=aM 0) h6);have hni:=hnb _ (bZ (d:=aM 0) h6);have acs:=RF h6 (eG Jb (iB b));obtain⟨q,hqe⟩:∃q,b.code.getD j (aM 0)=q:=⟨_,Z⟩;have hqe2:b.code.getD ((j:Int).toNat) (aM 0)=q:=by rw[ej];exact hqe
 rw[hqe] at agr abB hni acs;have hls3:=BI abB hni;have hlz:=CQ (nT abB) hni;refine x.pure Z (by simp only[ak];omega) Z (show Pure PG _ [abb (b.code.getD ((j:Int).toNat) (aM 0))] _ [] from by rw[hqe2];exact V3 q agr abB) ⟨⟨Z,Z,Z,Z,Z,ah Z,ah Z,Z,Z,tR⟩,tR⟩ ?_
 refine x.call [1,2] Z (by simp only[ak,ad5];omega) Z (xA (qc (eG Jb (iB b)) (b.code.take j)) (nK q) (by unfold okL;omega)) Z ⟨Z,⟨Z,Z⟩,tR⟩ ⟨⟨Z,Z⟩,⟨Z,Z,Z,λ_ _=>rfl⟩,tR⟩ ?_
 refine x.back Z (by simp only[ak,aj];omega) ⟨⟨j+1,by omega⟩,by show b.code.length-(j+1)<b.code.length-j;omega,⟨⟨Z,Z⟩,⟨Z,Z⟩,Z,av Z,Z,Z,⟨Z,Z⟩,av Z,Z,Z,⟨Z,Z⟩,av Z,Z,?_,tR⟩,⟨⟨ah Z,ah Z,tR⟩,⟨Z,Z⟩,?_,⟨Z,ah Z,ah Z,Z,tR⟩,⟨Z,ah Z,Z,tR⟩,tR⟩,Z⟩
 ·show aI (vi ((j:Int)+1)) (vi ((j+1:Nat):Int));rw[agY];rfl
 ·exact Lu acs
theorem RL{k:Int}{q:Int×Bool×Bool×Bool}(h:cB k=some q):1≤k∧k≤13:=by
 refine Classical.byContradiction λhk=>?_
 unfold cB at h;rw[if_neg (by omega),if_neg (by omega),if_neg (by omega),if_neg (by omega),if_neg (by omega),if_neg (by omega),if_neg (by omega),if_neg (by omega),if_neg (by omega),if_neg (by omega),if_neg (by omega),if_neg (by omega)] at h
 cases h
theorem RN{x:Ins}(h:bC x=true):1≤x.kind∧x.kind≤13:=by
 rcases dx h with⟨h1,_⟩ | ⟨n,d,r,a,e,_,_⟩
 ·omega
 ·exact RL e
theorem Ik{x:Ins}(h:bC x=true):0≤x.op∧x.op<13:=by
 rcases dx h with⟨_,hp⟩ | ⟨n,d,r,a,e,_,hi,ho⟩
 ·have:=hp.op;omega
 ·by_cases hk:x.kind=2
  ·have:=ho hk
   refine Classical.byContradiction λhc=>this ?_
   unfold opName;by_cases h13:13≤x.op
   ·rw[if_pos h13];rfl
   ·rw[if_neg h13,show x.op.toNat=0 by omega];rfl
  ·have:x.op=0:=Classical.byContradiction λhc=>hk (hi.op.1 hc)
   omega
theorem WL{x:Ins}(h:bC x=true)(hn:aj x.num):Y0 x:=by
 have hk:=RN h;have ho:=Ik h;obtain⟨s1,s2,s3,s4,s5,s6,s7⟩:=nT h;refine⟨by omega,by omega,by unfold okL;omega,by unfold okL;omega,by unfold okL;omega,by unfold EL;omega,by unfold EL;omega,λa ha=>by have:=s4 a ha;unfold okL;omega,λa ha=>by have:=s5 a ha;unfold okL;omega,hn⟩
theorem yA{p:Prg}(h:rightG p=true)(hn:∀f,f∈p.funcs->∀b,b∈f.blocks->∀x,x∈b.code->aj x.num):Oh p:=by
 obtain⟨r1,r2,r3,r4⟩:=yx h;refine⟨by unfold uE;omega,λa ha=>?_,by unfold uE;omega,λf hf=>?_⟩
 ·have hk:=r3 a ha
  unfold je at hk;simp only[agZ,ag2,agX,Bool.not_eq_false'] at hk;obtain⟨⟨⟨h1,h2⟩,h3⟩,h4⟩:=hk;have s1:=iW h1;have s2:=iW h2;exact⟨by unfold okL;omega,by unfold okL;omega,by unfold aj;omega⟩
 ·obtain⟨f1,f2,f3,f4,f5⟩:=r4 f hf
  have s1:=iW f1;refine⟨by unfold okL;omega,by unfold EL;omega,λa ha=>by have:=sJ f2 a ha;unfold okL;omega,by unfold uE;omega,λb hb=>?_⟩
  obtain⟨b1,b2,b3⟩:=f5 b hb;have s2:=iW b1;exact⟨by unfold okL;omega,by unfold uE;omega,λx hx=>WL (b2 x hx) (hn f hf b hb x hx)⟩
theorem ZI{s:BY}:∀{l:List Tok} {a:Nat} {r:Int×Int},a≤s.size->Run s a l r->∀t,t∈l->Pc t.k (s.extract t.f.toNat t.t.toNat)
 | [],a,r,_,_,t,ht=>by cases ht
 | q::l,a,r,ha,h,t,ht=>by
  obtain⟨h1,h2,h3,h4,h5⟩:=h
  rcases List.mem_cons.1 ht with rfl | ht
  ·exact agi ha h1
  ·exact ZI (by omega) h5 t ht
theorem WM(s:BY):aj (fQ s).1:=by
 unfold fQ aj;dsimp only;split
 ·dsimp only;omega
 ·split
  ·dsimp only;omega
  ·split
   ·rename_i h
    dsimp only;omega
   ·split
    ·rename_i h
     dsimp only;omega
    ·dsimp only;omega
theorem abC{b:BY}(h:kindOf b=1):okN b=true:=by
 unfold kindOf at h;split at h
 ·cases h
 ·rename_i hw
  split at h
  ·rename_i hn
   unfold okN;rw[hn]
   simpa using hw
  ·split at h<;>cases h
def Lv(s:BY)(l:List Tok):Prop:=∀n,isV l n 1=true->okN (txV s l n)=true
theorem ZJ{s:BY}(h:(eH s).2.2=0):Lv s (eH s).1:=λn hn=>by
 obtain⟨hz,hb,r,_,hr⟩:=abv h;have hlt:=dF hn
 have hk:((eH s).1.getD n nC).k=1:=by
  unfold isV at hn;simp only[agN,agT] at hn;exact hn.2
 have hm:(eH s).1.getD n nC∈(eH s).1:=bZ hlt;have hp:=ZI (Nat.zero_le _) hr _ hm;rw[hk] at hp;unfold txV;rw[if_pos hlt];obtain⟨_,_,_,h4⟩:=hp
 rcases h4 with⟨_,_,h5⟩ | ⟨_,_,h5,_⟩
 ·exact absurd h5 (by decide)
 ·exact abC h5
theorem dY{x:Ins}{n:Int}{d r a:Bool}(hs:cB x.kind=some (n,d,r,a))(h3:x.kind≠3)(hi:RIn x n d r a)(ho:x.kind=2->(opName x.op).data.toList≠[]):bC x=true:=by
 have c1:(decide (x.op≠0) != decide (x.kind=2))=false:=by
  by_cases e:x.op=0
  ·have:¬x.kind=2:=λh=>(hi.op.2 h) e
   simp [e,this]
  ·have:=hi.op.1 e
   simp [e,this]
 have c2:(decide (x.op≠0)&&decide ((opName x.op).data.toList=[]))=false:=by
  by_cases e:x.op=0
  ·simp [e]
  ·have:=ho (hi.op.1 e)
   simp only[this,decide_false,Bool.and_false]
 have c3:(decide (x.num≠0)&&decide (x.kind≠1))=false:=by
  by_cases e:x.num=0
  ·simp [e]
  ·have:=hi.num e
   simp [this]
 unfold bC;rw[c1,c2,c3,hi.args,hi.frm,if_neg (by simp [fV]),if_neg h3,hs]
 dsimp only;rw[hi.dst,hi.ref,hi.alt];have l1:=hi.jF.1;have l2:=hi.jF.2
 have e1:(decide (0≤n)&&decide ((x.args.length:Int)≠n))=false:=by
  by_cases e:0≤n
  ·simp [l1 e]
  ·simp [e]
 rw[e1,decide_eq_false (show ¬6<x.args.length by omega)]
 rfl
theorem Lx{x:Ins}(h3:x.kind=3)(hp:aga x):bC x=true:=by
 unfold bC;rw[hp.op,hp.num,h3,hp.args,hp.frm,if_neg (by decide),if_pos Z,hp.dst,hp.ref,hp.alt]
 have h1:=hp.len;rw[decide_eq_true h1.1,decide_eq_true h1.2.1,decide_eq_true h1.2.2]
 rfl
theorem aS{α β:Type}{r:Except (Int×Int) (Nat×α)}{k:Nat->α->Except (Int×Int) (Nat×β)}{z:Nat×β}(h:bnd r k=.ok z):∃n a,r=.ok (n,a)∧k n a=.ok z:=by
 rcases r with e | ⟨n,a⟩
 ·cases h
 ·exact⟨n,a,Z,h⟩
theorem O6{α:Type}{s:BY}{l:List Tok}{b:UInt8}{r:Except (Int×Int) (Nat×α)}{n:Nat}{o:α}(h:jQ s l b r=.ok (n,o)):∃m,r=.ok (m,o):=by
 rcases r with e | ⟨m,q⟩
 ·cases h
 ·unfold jQ at h
  dsimp only at h;split at h
  ·injection h with h;obtain⟨_,rfl⟩:=Prod.mk.inj h;exact⟨m,Z⟩
  ·cases h
theorem ags(o:Int)(h:0≤o):decide ((opName o).data.toList=[])=(decide (o<1)||decide (12<o)):=by
 unfold opName;by_cases h13:13≤o
 ·rw[if_pos h13,decide_eq_true (show 12<o by omega)]
  simp
 ·rw[if_neg h13]
  have:∀n,n<13->decide ((opAt n).data.toList=[])=(decide ((n:Int)<1)||decide (12<(n:Int))):=by decide +kernel
  have h2:=this o.toNat (by omega)
  rwa [show ((o.toNat:Nat):Int)=o by omega] at h2
theorem ZK(b:List UInt8):∀(k i:Nat),i+k≤13->opF b k i<13
 | 0,i,_=>by rw[opF];omega
 | k+1,i,h=>by
  rw[opF];split
  ·omega
  ·exact ZK b k (i+1) (by omega)
theorem ad6(w:BY):opV w<13:=ZK _ 13 0 (by omega)
section
variable{s:BY}{l:List Tok}(hN:Lv s l)
include hN
theorem nI{n n':Nat}{w:BY}(h:nmV s l n=.ok (n',w)):okN w=true:=by
 unfold nmV at h;split at h
 ·rename_i hi
  injection h with h;obtain⟨_,rfl⟩:=Prod.mk.inj h
  exact hN n hi
 ·cases h
theorem O7:∀(f n k:Nat) (o:List BY) {n':Nat} {q:List BY},fV o=true->o.length=k->k≤6->jO s l f n k o=.ok (n',q)->fV q=true∧q.length≤6
 | 0,_,_,_,_,_,_,_,_,h=>by cases h
 | f+1,n,k,o,n',q,ho,hk,h6,h=>by
  rw[jO] at h;split at h
  ·rename_i hi
   split at h
   ·cases h
   ·have ho2:fV (o++[txV s l n])=true:=by
     unfold fV at ho ⊢;rw[List.all_append,ho];simp [hN n hi]
    split at h
    ·exact O7 f (n+2) (k+1) _ ho2 (by simp;omega) (by omega) h
    ·injection h with h;obtain⟨_,rfl⟩:=Prod.mk.inj h
     exact⟨ho2,by simp;omega⟩
  ·cases h
theorem TL{n n':Nat}{q:List BY}(h:iH s l n=.ok (n',q)):fV q=true∧q.length≤6:=by
 unfold iH at h;split at h
 ·split at h
  ·injection h with h;obtain⟨_,rfl⟩:=Prod.mk.inj h
   exact⟨Z,by simp⟩
  ·obtain⟨m,hm⟩:=O6 h
   exact O7 hN _ _ 0 [] Z Z (by omega) hm
 ·cases h
structure PhG(a:Int)(d:BY)(x:Ins):Prop where
 eq:x=⟨3,0,d,.empty,.empty,x.args,x.frm,0,a⟩
 args:fV x.args=true
 frm:fV x.frm=true
 len:x.frm.length=x.args.length
theorem O8{a:Int}{d:BY}:∀(f n k:Nat) (x:Ins) {n':Nat} {y:Ins},PhG a d x->x.frm.length=k->k≤64->jR s l f n k x=.ok (n',y)->PhG a d y∧1≤y.frm.length∧y.frm.length≤64
 | 0,_,_,_,_,_,_,_,_,h=>by cases h
 | f+1,n,k,x,n',y,hx,hk,h64,h=>by
  rw[jR] at h;split at h
  ·cases h
  ·rename_i hno
   obtain⟨n1,x1,hp,h⟩:=aS h;unfold pW at hp;obtain⟨m1,w1,p1,hp⟩:=aS hp;obtain⟨m2,w2,p2,hp⟩:=aS hp;obtain⟨m3,w3,p3,hp⟩:=aS hp
   injection hp with hp
   obtain⟨rfl,rfl⟩:=Prod.mk.inj hp
   have hlt:k<64:=by
    have hi:isV l n 1=true:=by
     unfold nmV at p1;split at p1
     ·assumption
     ·cases p1
    have:¬64≤k:=λh=>hno ⟨hi,h⟩
    omega
   have hx1:PhG a d {x with frm:=x.frm++[w1],args:=x.args++[w3]}:=by
    refine⟨?_,?_,?_,?_⟩
    ·rw[hx.eq]
    ·have:=hx.args
     unfold fV at this ⊢;rw[List.all_append,this];simp [nI hN p3]
    ·have:=hx.frm
     unfold fV at this ⊢;rw[List.all_append,this];simp [nI hN p1]
    ·have:=hx.len;simp;omega
   split at h
   ·exact O8 f _ (k+1) _ hx1 (by simp;omega) (by omega) h
   ·injection h with h;obtain⟨_,rfl⟩:=Prod.mk.inj h
    exact⟨hx1,by simp,by simp;omega⟩
theorem abD{n n':Nat}{a:Int}{d:BY}{x:Ins}(hd:okN d=true)(h:dG s l n {aM a with dst:=d}=.ok (n',x)):bC x=true∧aj x.num:=by
 have z0:aj 0:=by unfold aj;omega
 have hdt:eu d true=true:=by unfold eu;rw[hd];rfl
 have hrt:∀{w:BY},okN w=true->eu w true=true:=λh=>by unfold eu;rw[h];rfl
 have one:∀{w:BY},okN w=true->fV [w]=true:=λh=>by unfold fV;simp [h]
 unfold dG at h;split at h
 ·rename_i hop
  obtain⟨n1,x1,h1,h⟩:=aS h;obtain⟨m1,w1,p1,h1⟩:=aS h1
  injection h1 with h1;obtain⟨rfl,rfl⟩:=Prod.mk.inj h1
  obtain⟨m2,w2,p2,h2⟩:=aS h
  injection h2 with h2;obtain⟨rfl,rfl⟩:=Prod.mk.inj h2
  have hlt:opV (txV s l n)<13:=ad6 _
  have hne:(opName ((opV (txV s l n):Nat):Int)).data.toList≠[]:=by
   intro e;have:=ags ((opV (txV s l n):Nat):Int) (by omega)
   rw[decide_eq_true e] at this;simp only[Bool.true_eq,Bool.or_eq_true,agT] at this;omega
  refine⟨dY (n:=2) (d:=true) (r:=false) (a:=false) Z (by show (2:Int)≠3;decide) ⟨?_,Z,⟨λ_=>rfl,by show 2≤6;decide⟩,hdt,Z,Z,?_,λh=>absurd Z h⟩ λ_=>hne,z0⟩
  ·unfold fV;simp [aM,nI hN p1,nI hN p2]
  ·constructor
   ·intro _;rfl
   ·intro _
    show ((opV (txV s l n):Nat):Int)≠0;omega
 ·unfold AY at h
  split at h
  ·unfold oh at h
   split at h
   ·injection h with h;obtain⟨_,rfl⟩:=Prod.mk.inj h
    exact⟨dY (n:=0) (d:=true) (r:=false) (a:=false) Z (by show (1:Int)≠3;decide) ⟨Z,Z,⟨λ_=>rfl,by show 0≤6;decide⟩,hdt,Z,Z,⟨λh=>absurd Z h,λh=>absurd h (by show ¬(1:Int)=2;decide)⟩,λ_=>rfl⟩ (λh=>absurd h (by show ¬(1:Int)=2;decide)),WM _⟩
   ·cases h
  split at h
  ·obtain⟨n1,x1,h1,h⟩:=aS h
   obtain⟨m1,w1,p1,h1⟩:=aS h1
   injection h1 with h1;obtain⟨rfl,rfl⟩:=Prod.mk.inj h1
   obtain⟨m2,w2,p2,h2⟩:=aS h
   injection h2 with h2;obtain⟨rfl,rfl⟩:=Prod.mk.inj h2
   exact⟨dY (n:=1) (d:=true) (r:=true) (a:=false) Z (by show (4:Int)≠3;decide) ⟨one (nI hN p2),Z,⟨λ_=>rfl,by show 1≤6;decide⟩,hdt,hrt (nI hN p1),Z,⟨λh=>absurd Z h,λh=>absurd h (by show ¬(4:Int)=2;decide)⟩,λh=>absurd Z h⟩ (λh=>absurd h (by show ¬(4:Int)=2;decide)),z0⟩
  split at h
  ·obtain⟨n1,x1,h1,h⟩:=aS h
   obtain⟨m1,w1,p1,h1⟩:=aS h1
   injection h1 with h1;obtain⟨rfl,rfl⟩:=Prod.mk.inj h1
   obtain⟨m2,w2,p2,h2⟩:=aS h
   injection h2 with h2;obtain⟨rfl,rfl⟩:=Prod.mk.inj h2
   exact⟨dY (n:=1) (d:=true) (r:=true) (a:=false) Z (by show (5:Int)≠3;decide) ⟨one (nI hN p2),Z,⟨λ_=>rfl,by show 1≤6;decide⟩,hdt,hrt (nI hN p1),Z,⟨λh=>absurd Z h,λh=>absurd h (by show ¬(5:Int)=2;decide)⟩,λh=>absurd Z h⟩ (λh=>absurd h (by show ¬(5:Int)=2;decide)),z0⟩
  split at h
  ·obtain⟨m1,w1,p1,h1⟩:=aS h
   injection h1 with h1;obtain⟨rfl,rfl⟩:=Prod.mk.inj h1
   exact⟨dY (n:=0) (d:=true) (r:=true) (a:=false) Z (by show (8:Int)≠3;decide) ⟨Z,Z,⟨λ_=>rfl,by show 0≤6;decide⟩,hdt,hrt (nI hN p1),Z,⟨λh=>absurd Z h,λh=>absurd h (by show ¬(8:Int)=2;decide)⟩,λh=>absurd Z h⟩ (λh=>absurd h (by show ¬(8:Int)=2;decide)),z0⟩
  split at h
  ·obtain⟨n1,x1,h1,h⟩:=aS h
   obtain⟨m1,w1,p1,h1⟩:=aS h1
   injection h1 with h1;obtain⟨rfl,rfl⟩:=Prod.mk.inj h1
   obtain⟨m2,w2,p2,h2⟩:=aS h
   injection h2 with h2;obtain⟨rfl,rfl⟩:=Prod.mk.inj h2
   obtain⟨q1,q2⟩:=TL hN p2;exact⟨dY (n:=-1) (d:=true) (r:=true) (a:=false) Z (by show (7:Int)≠3;decide) ⟨q1,Z,⟨λh=>absurd h (by decide),q2⟩,hdt,hrt (nI hN p1),Z,⟨λh=>absurd Z h,λh=>absurd h (by show ¬(7:Int)=2;decide)⟩,λh=>absurd Z h⟩ (λh=>absurd h (by show ¬(7:Int)=2;decide)),z0⟩
  split at h
  ·obtain⟨n1,x1,h1,h⟩:=aS h
   obtain⟨m1,w1,p1,h1⟩:=aS h1
   injection h1 with h1;obtain⟨rfl,rfl⟩:=Prod.mk.inj h1
   obtain⟨m2,w2,p2,h2⟩:=aS h
   injection h2 with h2;obtain⟨rfl,rfl⟩:=Prod.mk.inj h2
   exact⟨dY (n:=1) (d:=true) (r:=true) (a:=false) Z (by show (10:Int)≠3;decide) ⟨one (nI hN p1),Z,⟨λ_=>rfl,by show 1≤6;decide⟩,hdt,hrt (nI hN p2),Z,⟨λh=>absurd Z h,λh=>absurd h (by show ¬(10:Int)=2;decide)⟩,λh=>absurd Z h⟩ (λh=>absurd h (by show ¬(10:Int)=2;decide)),z0⟩
  split at h
  ·obtain⟨n1,_,h1,h⟩:=aS h
   obtain⟨m,hm⟩:=O6 h;obtain⟨g1,g2,g3⟩:=O8 hN (a:=a) (d:=d) _ _ 0 _ ⟨Z,Z,Z,Z⟩ Z (by omega) hm
   have e:=g1.eq;have k3:x.kind=3:=by rw[e]
   have o0:x.op=0:=by rw[e]
   have d0:x.dst=d:=by rw[e]
   have r0:x.ref=.empty:=by rw[e]
   have a0:x.alt=.empty:=by rw[e]
   have m0:x.num=0:=by rw[e]
   exact⟨Lx k3 ⟨g1.args,g1.frm,by rw[d0];exact hd,r0,a0,⟨g1.len,g2,g3⟩,o0,m0⟩,by rw[m0];exact z0⟩
  ·cases h
end
theorem kD{α:Type}{a b:Nat×α}(h:(Except.ok a:Except (Int×Int) (Nat×α))=.ok b):a=b:=by cases h;rfl
section
variable{s:BY}{l:List Tok}(hN:Lv s l)
include hN
theorem abE{n n' c:Nat}{x:Ins}(h:bI s l n c=.ok (n',x)):bC x=true∧aj x.num∧c<4096:=by
 have z0:aj 0:=by unfold aj;omega
 have hrt:∀{w:BY},okN w=true->eu w true=true:=λh=>by unfold eu;rw[h];rfl
 have one:∀{w:BY},okN w=true->fV [w]=true:=λh=>by unfold fV;simp [h]
 unfold bI at h;split at h
 ·cases h
 split at h
 ·cases h
 split at h
 ·cases h
 rename_i hc;have hc:c<4096:=by omega
 split at h
 ·rename_i g hg
  unfold oJ at hg;split at hg
  ·obtain rfl:=agS hg
   unfold sG at h;dsimp only at h;obtain⟨m1,w1,p1,h1⟩:=aS h;obtain⟨m2,x2,p2,h2⟩:=aS h1;obtain⟨m3,x3,p3,h3⟩:=aS h2;obtain⟨m4,w4,p4,qp2⟩:=aS p2;obtain⟨m5,w5,p5,qp3⟩:=aS p3;obtain⟨rfl,rfl⟩:=Prod.mk.inj (kD qp2);obtain⟨rfl,rfl⟩:=Prod.mk.inj (kD qp3);obtain⟨rfl,rfl⟩:=Prod.mk.inj (kD h3);refine⟨dY (n:=2) (d:=false) (r:=true) (a:=false) Z (by show (6:Int)≠3;decide) ⟨?_,Z,⟨λ_=>rfl,by show 2≤6;decide⟩,Z,hrt (nI hN p1),Z,⟨λh=>absurd Z h,λh=>absurd h (by show ¬(6:Int)=2;decide)⟩,λh=>absurd Z h⟩ (λh=>absurd h (by show ¬(6:Int)=2;decide)),z0,hc⟩
   unfold fV;simp [aM,nI hN p4,nI hN p5]
  split at hg
  ·obtain rfl:=agS hg
   unfold vg at h;dsimp only at h;obtain⟨m1,w1,p1,h1⟩:=aS h;obtain⟨m2,x2,p2,h2⟩:=aS h1;obtain⟨m4,w4,p4,qp2⟩:=aS p2;obtain⟨rfl,rfl⟩:=Prod.mk.inj (kD qp2);obtain⟨rfl,rfl⟩:=Prod.mk.inj (kD h2);exact⟨dY (n:=1) (d:=false) (r:=true) (a:=false) Z (by show (9:Int)≠3;decide) ⟨one (nI hN p4),Z,⟨λ_=>rfl,by show 1≤6;decide⟩,Z,hrt (nI hN p1),Z,⟨λh=>absurd Z h,λh=>absurd h (by show ¬(9:Int)=2;decide)⟩,λh=>absurd Z h⟩ (λh=>absurd h (by show ¬(9:Int)=2;decide)),z0,hc⟩
  split at hg
  ·obtain rfl:=agS hg
   unfold wI at h;dsimp only at h;obtain⟨m1,w1,p1,h1⟩:=aS h;obtain⟨rfl,rfl⟩:=Prod.mk.inj (kD h1);exact⟨dY (n:=0) (d:=false) (r:=true) (a:=false) Z (by show (11:Int)≠3;decide) ⟨Z,Z,⟨λ_=>rfl,by show 0≤6;decide⟩,Z,hrt (nI hN p1),Z,⟨λh=>absurd Z h,λh=>absurd h (by show ¬(11:Int)=2;decide)⟩,λh=>absurd Z h⟩ (λh=>absurd h (by show ¬(11:Int)=2;decide)),z0,hc⟩
  split at hg
  ·obtain rfl:=agS hg
   unfold sH at h;dsimp only at h;obtain⟨m1,x1,p1,h1⟩:=aS h;obtain⟨m4,w4,p4,qp1⟩:=aS p1;obtain⟨rfl,rfl⟩:=Prod.mk.inj (kD qp1);obtain⟨m2,w2,p2,h2⟩:=aS h1;obtain⟨m3,w3,p3,h3⟩:=aS h2;obtain⟨rfl,rfl⟩:=Prod.mk.inj (kD h3);exact⟨dY (n:=1) (d:=false) (r:=true) (a:=true) Z (by show (12:Int)≠3;decide) ⟨one (nI hN p4),Z,⟨λ_=>rfl,by show 1≤6;decide⟩,Z,hrt (nI hN p2),hrt (nI hN p3),⟨λh=>absurd Z h,λh=>absurd h (by show ¬(12:Int)=2;decide)⟩,λh=>absurd Z h⟩ (λh=>absurd h (by show ¬(12:Int)=2;decide)),z0,hc⟩
  split at hg
  ·obtain rfl:=agS hg
   obtain⟨m1,x1,p1,h1⟩:=aS h;obtain⟨m4,w4,p4,qp1⟩:=aS p1;obtain⟨rfl,rfl⟩:=Prod.mk.inj (kD qp1);obtain⟨rfl,rfl⟩:=Prod.mk.inj (kD h1);exact⟨dY (n:=1) (d:=false) (r:=false) (a:=false) Z (by show (13:Int)≠3;decide) ⟨one (nI hN p4),Z,⟨λ_=>rfl,by show 1≤6;decide⟩,Z,Z,Z,⟨λh=>absurd Z h,λh=>absurd h (by show ¬(13:Int)=2;decide)⟩,λh=>absurd Z h⟩ (λh=>absurd h (by show ¬(13:Int)=2;decide)),z0,hc⟩
  ·cases hg
 ·obtain⟨m1,w1,p1,h1⟩:=aS h
  obtain⟨m2,w2,p2,h2⟩:=aS h1;obtain⟨g1,g2⟩:=abD hN (nI hN p1) h2;exact⟨g1,g2,hc⟩
def ad7(x:Ins):Prop:=bC x=true∧aj x.num
theorem ZL:∀(f n c:Nat) (xs:List Ins) {n' c':Nat} {ys:List Ins},c≤4096->(∀x,x∈xs->ad7 x)->codeF s l f n c xs=.ok (n',(c',ys))->(∀x,x∈ys->ad7 x)∧c'≤4096∧c'+xs.length=c+ys.length
 | 0,_,_,_,_,_,_,_,_,h=>by cases h
 | f+1,n,c,xs,n',c',ys,hc,hx,h=>by
  rw[codeF] at h;split at h
  ·obtain⟨_,h⟩:=Prod.mk.inj (kD h)
   obtain⟨rfl,rfl⟩:=Prod.mk.inj h;exact⟨hx,hc,Z⟩
  ·obtain⟨m,x,p,h⟩:=aS h
   obtain⟨q1,q2,q3⟩:=abE hN p
   obtain⟨k1,k2,k3⟩:=ZL f m (c+1) (xs++[x]) (by omega) (λy hy=>by
    rcases List.mem_append.1 hy with hy | hy
    ·exact hx y hy
    ·rw[List.mem_singleton.1 hy];exact⟨q1,q2⟩) h
   refine⟨k1,k2,?_⟩;simp only[List.length_append,List.length_cons,List.length_nil] at k3;omega
structure abF(b:Blk):Prop where
 name:okN b.name=true
 code:∀x,x∈b.code->ad7 x
theorem TM{n c n' c':Nat}{b:Blk}(hc:c≤4096)(h:fU s l n c=.ok (n',(c',b))):abF b∧c'≤4096∧c'=c+b.code.length:=by
 unfold fU at h;obtain⟨m1,w1,p1,h⟩:=aS h;obtain⟨m2,w2,p2,h⟩:=aS h;obtain⟨m3,⟨c3,ys⟩,p3,h⟩:=aS h;obtain⟨_,h⟩:=Prod.mk.inj (kD h);obtain⟨rfl,rfl⟩:=Prod.mk.inj h;obtain⟨k1,k2,k3⟩:=ZL hN _ _ _ [] hc (λx hx=>by cases hx) p3
 simp only[List.length_nil] at k3;exact⟨⟨nI hN p1,k1⟩,k2,by show c3=_;dsimp only;omega⟩
theorem O9:∀(f n c:Nat) (bs:List Blk) {n' c':Nat} {ys:List Blk},c≤4096->bs.length≤64->(∀b,b∈bs->abF b)->fq s l f n c bs=.ok (n',(c',ys))->(∀b,b∈ys->abF b)∧c'≤4096∧c'+cN bs=c+cN ys∧ys.length≤64∧bs.length≤ys.length
 | 0,_,_,_,_,_,_,_,_,_,h=>by cases h
 | f+1,n,c,bs,n',c',ys,hc,h64,hb,h=>by
  rw[fq] at h;split at h
  ·split at h
   ·cases h
   ·rename_i hlt
    obtain⟨m,⟨c1,b⟩,p,h⟩:=aS h;obtain⟨q1,q2,q3⟩:=TM hN hc p
    obtain⟨k1,k2,k3,k4,k5⟩:=O9 f m c1 (bs++[b]) q2 (by simp;omega) (λy hy=>by
     rcases List.mem_append.1 hy with hy | hy
     ·exact hb y hy
     ·rw[List.mem_singleton.1 hy];exact q1) h
    have e:cN (bs++[b])=cN bs+b.code.length:=by unfold cN;rw[List.map_append,List.sum_append];simp
    simp only[List.length_append,List.length_cons,List.length_nil] at k5;exact⟨k1,k2,by omega,k4,by omega⟩
  ·obtain⟨_,h⟩:=Prod.mk.inj (kD h)
   obtain⟨rfl,rfl⟩:=Prod.mk.inj h;exact⟨hb,hc,Z,h64,Nat.le_refl _⟩
structure agt(f:Fun):Prop where
 name:okN f.name=true
 params:fV f.params=true
 Og:f.params.length≤6
 V4:1≤f.blocks.length∧f.blocks.length≤64
 blocks:∀b,b∈f.blocks->abF b
theorem ad8{n c n' c':Nat}{f:Fun}(hc:c≤4096)(h:lQ s l n c=.ok (n',(c',f))):agt f∧c'≤4096∧c'=c+fN f:=by
 unfold lQ at h;obtain⟨m1,w1,p1,h⟩:=aS h;obtain⟨m2,w2,p2,h⟩:=aS h;obtain⟨m3,w3,p3,h⟩:=aS h;obtain⟨m4,⟨c4,b4⟩,p4,h⟩:=aS h;obtain⟨m5,⟨c5,b5⟩,p5,h⟩:=aS h;obtain⟨m6,w6,p6,h⟩:=aS h;obtain⟨_,h⟩:=Prod.mk.inj (kD h);obtain⟨rfl,rfl⟩:=Prod.mk.inj h;obtain⟨q1,q2⟩:=TL hN p2;obtain⟨r1,r2,r3⟩:=TM hN hc p4;obtain⟨k1,k2,k3,k4,k5⟩:=O9 hN _ _ _ [b4] r2 (by simp) (λy hy=>by rw[List.mem_singleton.1 hy];exact r1) p5
 have e:cN [b4]=b4.code.length:=by simp [cN]
 have e2:fN ⟨w1,w2,b5,atV s l n⟩=cN b5:=rfl;simp only[List.length_cons,List.length_nil] at k5;exact⟨⟨nI hN p1,q1,q2,⟨by show 1≤b5.length;omega,k4⟩,k1⟩,k2,by show c5=_;rw[e2];omega⟩
theorem agu{n n':Nat}{a:Arr}(h:vD s l n=.ok (n',a)):je a=true:=by
 unfold vD at h;obtain⟨m1,w1,p1,h⟩:=aS h;split at h
 ·split at h
  ·cases h
  ·rename_i hr
   obtain⟨m2,w2,p2,h⟩:=aS h;obtain⟨_,rfl⟩:=Prod.mk.inj (kD h);unfold je;rw[show okN w1=true from nI hN p1,show okN w2=true from nI hN p2]
   dsimp only;rw[decide_eq_false (show ¬(fQ (txV s l m1)).1<1 by omega),decide_eq_false (show ¬256<(fQ (txV s l m1)).1 by omega)]
   rfl
 ·cases h
structure ad9(p:Prg):Prop where
 jF:p.arrays.length≤16
 A9:p.funcs.length≤64
 arrays:∀a,a∈p.arrays->je a=true
 funcs:∀f,f∈p.funcs->agt f
 few:kr p.funcs≤4096
theorem RO:∀(f n c:Nat) (p:Prg) {n':Nat} {q:Prg},ad9 p->c=kr p.funcs->lS s l f n c p=.ok (n',q)->ad9 q
 | 0,_,_,_,_,_,_,_,h=>by cases h
 | f+1,n,c,p,n',q,hp,hc,h=>by
  have hfew:=hp.few;rw[lS] at h;split at h
  ·split at h
   ·split at h
    ·cases h
    ·rename_i h16
     obtain⟨m,a,k,h⟩:=aS h;have ha:=agu hN k
     exact RO f m c ⟨p.arrays++[a],p.funcs⟩ ⟨by simp;omega,hp.A9,λy hy=>by
      rcases List.mem_append.1 hy with hy | hy
      ·exact hp.arrays y hy
      ·rw[List.mem_singleton.1 hy];exact ha,hp.funcs,hp.few⟩ hc h
   ·split at h
    ·split at h
     ·cases h
     ·rename_i h64
      obtain⟨m,⟨c1,g⟩,k,h⟩:=aS h;obtain⟨q1,q2,q3⟩:=ad8 hN (by omega) k
      have e:kr (p.funcs++[g])=kr p.funcs+fN g:=by
       show ((p.funcs++[g]).map fN).sum=(p.funcs.map fN).sum+fN g
       rw[List.map_append,List.sum_append];simp
      exact RO f m c1 ⟨p.arrays,p.funcs++[g]⟩ ⟨hp.jF,by simp;omega,hp.arrays,λy hy=>by
       rcases List.mem_append.1 hy with hy | hy
       ·exact hp.funcs y hy
       ·rw[List.mem_singleton.1 hy];exact q1,by show kr (p.funcs++[g])≤4096;omega⟩ (by show c1=kr (p.funcs++[g]);omega) h
    ·cases h
  ·obtain⟨_,rfl⟩:=Prod.mk.inj (kD h)
   exact hp
end
theorem Kh{p:Prg}(h:ad9 p):rightG p=true∧∀f,f∈p.funcs->∀b,b∈f.blocks->∀x,x∈b.code->aj x.num:=by
 refine⟨?_,λf hf b hb x hx=>(((h.funcs f hf).blocks b hb).code x hx).2⟩
 have e1:p.arrays.all je=true:=List.all_eq_true.2 h.arrays
 have e2:p.funcs.all kK=true:=List.all_eq_true.2 λf hf=>by
  have g:=h.funcs f hf
  have e3:f.blocks.all p9=true:=List.all_eq_true.2 λb hb=>by
   have k:=g.blocks b hb;unfold p9;rw[k.name,List.all_eq_true.2 λx hx=>(k.code x hx).1];rfl
  unfold kK;have l1:=g.Og;have l2:=g.V4;rw[e3,g.name,g.params,decide_eq_false (show ¬6<f.params.length by omega),decide_eq_false (show ¬f.blocks.length<1 by omega),decide_eq_false (show ¬64<f.blocks.length by omega)]
  rfl
 unfold rightG;have l1:=h.jF;have l2:=h.A9;rw[e1,e2,decide_eq_true h.few,decide_eq_false (show ¬16<p.arrays.length by omega),decide_eq_false (show ¬64<p.funcs.length by omega)]
 rfl
theorem oQ{s:BY}(h:(bJ s).2.2=0):rightG (bJ s).1=true∧∀f,f∈(bJ s).1.funcs->∀b,b∈f.blocks->∀x,x∈b.code->aj x.num:=by
 unfold bJ at h ⊢;split at h
 ·rename_i h0
  rw[if_pos h0]
  rcases hV:lS s (eH s).1 ((eH s).1.length+1) 0 0 ⟨[],[]⟩ with⟨a,e⟩ | ⟨n',q⟩
  ·rw[hV] at h
   have h:e=0:=h;exact Kh (p:=⟨[],[]⟩) ⟨Nat.zero_le _,Nat.zero_le _,λa ha=>(by simp at ha),λf hf=>(by simp at hf),Nat.zero_le _⟩
  ·exact Kh (RO (ZJ h0) _ _ _ ⟨[],[]⟩ ⟨Nat.zero_le _,Nat.zero_le _,λa ha=>(by simp at ha),λf hf=>(by simp at hf),Nat.zero_le _⟩ Z hV)
 ·rename_i h0
  exact absurd h h0
end Go.Proofs.YtojhdmfkfkfcbaaGreatDoor
namespace Go.Proofs.YtojhdmfkfkfcbaaGreatDoor
open Go.Sx
variable{W:Nat}
theorem qy{α:Type}{z:Nat}{τ:List DTy}{x:D}(d:α->List D)(P:α->Prop)(a0:α)(each:∀ds,mZ W τ ds->∃a,P a∧ds.length=(d a).length∧∀(j:Nat) (u u':D),ds[j]?=some u->(d a)[j]?=some u'->DQ u u')
  (h:mM W (.sl z τ) x):∃l:List α,DQ x (.sl τ.length l.length λi=>d (l.getD i a0))∧(l.length≤maxLen∧l.length*z≤W)∧∀a∈l,P a:=by
 cases h with
 | sl _ _ n f hn hz hl hc=>
  have ZM:∀i,i<n->∃a,P a∧(f i).length=(d a).length∧∀(j:Nat) (u u':D),(f i)[j]?=some u->(d a)[j]?=some u'->DQ u u':=λi hi=>each (f i) ⟨hl i hi,λj t d ht hd=>hc i j t d hi ht hd⟩
  let g:Nat->α:=λi=>if h:i<n then Classical.choose (ZM i h) else a0
  have hg:∀i,i<n->P (g i)∧(f i).length=(d (g i)).length∧∀(j:Nat) (u u':D),(f i)[j]?=some u->(d (g i))[j]?=some u'->DQ u u':=λi hi=>by
   have e:g i=Classical.choose (ZM i hi):=by simp only[g,hi,dite_true]
   rw[e];exact Classical.choose_spec (ZM i hi)
  have hgd:∀i,i<n->((List.range n).map g).getD i a0=g i:=λi hi=>by
   rw[agM,agO (by simpa using hi)];simp
  refine⟨(List.range n).map g,?_,by simpa using ⟨hn,hz⟩,λo ho=>?_⟩
  ·rw[show ((List.range n).map g).length=n by simp]
   refine .sl _ n _ _ (λi hi=>?_) λi j u u' hi hd hd'=>?_
   ·rw[hgd i hi];exact (hg i hi).2.1
   ·rw[hgd i hi] at hd'
    exact (hg i hi).2.2 j u u' hd hd'
  ·obtain⟨i,hi,rfl⟩:=List.mem_map.1 ho
   exact (hg i (List.mem_range.1 hi)).1
def Jc(s:BY):Prop:=s.size≤140737488355328
theorem TN{s:BY}(h:s.size≤reachBytes):Jc s:=by
 have:=reachBytes_lt;unfold Jc;omega
theorem wf_i64{n:Int}(h:(Lit.int .i64 n).wf=true):aj n:=by
 simp only[Lit.wf,agN,agT] at h;exact h
theorem wf_u64{n:Int}(h:(Lit.int .u64 n).wf=true):0≤n∧n≤18446744073709551615:=by
 simp only[Lit.wf,agN,agT] at h;exact h
structure Ki(p:Pol):Prop where
 sz:PolSz p
 lev:∀s∈p.lev,Jc s
 ins:∀c∈p.ins,Jc c.1∧aj c.2
 outs:∀c∈p.outs,Jc c.1∧aj c.2
 depth:aj p.depth
theorem abG{z:Nat}{x:D}(h:mM W (.sl z [.str]) x)(hW:W≤reachBytes:=by exact Nat.le_refl _):∃l:List BY,DQ x (dSs l)∧(l.length≤maxLen∧l.length*z≤W)∧∀a∈l,Jc a:=
 qy (λs=>[D.str s]) Jc .empty (λds ⟨hl,hc⟩=>by
  match ds,hl with
  | [d0],_=>
   obtain⟨s,rfl,h1,h2⟩:=ME (hc 0 _ _ Z Z);refine⟨s,TN (Nat.le_trans h2 hW),Z,λj u u' hd hd'=>?_⟩
   match j with
   | 0=>simp at hd hd';subst hd hd';exact .refl _
   | j+1=>simp at hd) h
theorem abH{z:Nat}{x:D}(h:mM W (.sl z [.int .u64]) x):∃l:List M64,DQ x (dUp l)∧(l.length≤maxLen∧l.length*z≤W)∧∀a∈l,True:=
 qy (λm=>[dm m]) (λ_=>True) 0#64 (λds ⟨hl,hc⟩=>by
  match ds,hl with
  | [d0],_=>
   obtain⟨n,rfl,h1⟩:=fF (hc 0 _ _ Z Z);have h2:=wf_u64 h1;refine⟨BitVec.ofInt 64 n,tR,Z,λj u u' hd hd'=>?_⟩
   match j with
   | 0=>
    simp only[List.getElem?_cons_zero,agR] at hd hd';subst hd hd'
    have e:((BitVec.ofInt 64 n).toNat:Int)=n:=by
     rw[BitVec.toNat_ofInt];omega
    unfold dm;rw[e];exact .refl _
   | j+1=>simp at hd) h
theorem Pb{z:Nat}{x:D}(h:mM W (.sl z [.str,.int .i64]) x)(hW:W≤reachBytes:=by exact Nat.le_refl _):∃l:List Chan,DQ x (af3 l)∧(l.length≤maxLen∧l.length*z≤W)∧∀a∈l,Jc a.1∧aj a.2:=
 qy (λc:Chan=>[D.str c.1,D.int .i64 c.2]) (λc=>Jc c.1∧aj c.2) bf (λds ⟨hl,hc⟩=>by
  match ds,hl with
  | [d0,d1],_=>
   obtain⟨s,rfl,h1,h2⟩:=ME (hc 0 _ _ Z Z);obtain⟨n,rfl,h3⟩:=fF (hc 1 _ _ Z Z);refine⟨(s,n),⟨TN (Nat.le_trans h2 hW),wf_i64 h3⟩,Z,λj u u' hd hd'=>?_⟩
   match j with
   | 0=>simp at hd hd';subst hd hd';exact .refl _
   | 1=>simp at hd hd';subst hd hd';exact .refl _
   | j+2=>simp at hd) h
abbrev acu:List DTy:=[.sl 16 [.str],.sl 8 [.int .u64],.sl 24 [.str,.int .i64],.sl 24 [.str,.int .i64],.int .i64]
theorem WO(hW:W≤reachBytes){F:Nat->Prop}{w:World}{ρ:Nat->Value}{ds:List D}{cs:List Value}(h:mZ W acu ds)(hr:aH (RD F w) ds cs):∃x:Pol,(Ki x∧x.ins.length*24≤W∧x.outs.length*24≤W)∧R3 ρ F w (Bf x) (.agg cs.toArray):=by
 obtain⟨hl,hc⟩:=h
 match ds,hl,cs,hr with
 | [d0,d1,d2,d3,d4],_,[c0,c1,c2,c3,c4],⟨r0,r1,r2,r3,r4,_⟩=>
  obtain⟨l0,q0,w0,z0⟩:=abG (hc 0 _ _ Z Z) hW;obtain⟨l1,q1,w1,z1⟩:=abH (hc 1 _ _ Z Z);obtain⟨l2,q2,w2,z2⟩:=Pb (hc 2 _ _ Z Z) hW;obtain⟨l3,q3,w3,z3⟩:=Pb (hc 3 _ _ Z Z) hW;obtain⟨n4,rfl,w4⟩:=fF (hc 4 _ _ Z Z);have:=reachBytes_lt;exact⟨⟨l0,l1,l2,l3,n4⟩,⟨⟨⟨by show l0.length*16≤_;omega,by show l1.length*8≤_;omega,by show l2.length*24≤_;omega,by show l3.length*24≤_;omega⟩,z0,z2,z3,wf_i64 w4⟩,w2.2,w3.2⟩,⟨_,Z,q0.sound r0,q1.sound r1,q2.sound r2,q3.sound r3,r4,tR⟩⟩
end Go.Proofs.YtojhdmfkfkfcbaaGreatDoor
namespace Go.Proofs.YtojhdmfkfkfcbaaGreatDoor
open Go.Sx
set_option maxRecDepth 100000
theorem Ki.z{p:Pol}(h:Ki p):QZ p:=⟨h.sz,λs hs=>Nat.le_trans (h.lev s hs) (by decide),λc hc=>Nat.le_trans (h.ins c hc).1 (by decide),λc hc=>Nat.le_trans (h.outs c hc).1 (by decide)⟩
theorem Wt.z{p:Pol}(h:Wt p):QZ p:=by
 have ho:gI p.up=true:=by have:=h.up;unfold gJ at this;rw[agN] at this;exact this.1
 have hl:=(x9 ho).2;have h1:=h.len;have h2:=h.il;have h3:=h.ol;exact⟨⟨by omega,by omega,by omega,by omega⟩,λs hs=>by have:=(yu (h.names s hs)).2.1;omega,λc hc=>by have:=(yu (h.iok c hc).1).2.1;omega,λc hc=>by have:=(yu (h.ook c hc).1).2.1;omega⟩
end Go.Proofs.YtojhdmfkfkfcbaaGreatDoor
