import Derived.Test.YtojhdmfkfkfcbaaGreatDoorMD
import Derived.Test.YtojhdmfkfkfcbaaGreatDoorSxG
import Derived.Test.YtojhdmfkfkfcbaaGreatDoorMC
import Derived.Test.YtojhdmfkfkfcbaaGreatDoorSxH
set_option maxHeartbeats 1000000000
set_option linter.unusedSimpArgs false
set_option linter.unusedVariables false
namespace Go.Proofs.YtojhdmfkfkfcbaaGreatDoor
open Go.Sx
set_option maxRecDepth 100000
theorem wF(p:Nat->Bool)(s:BY):∀(n pos:Nat) (st:Option Nat) (acc:List (Nat×Nat)),(∀x∈acc,x.1<x.2∧x.2≤s.size)->(∀a,st=some a->a<pos∧a<s.size)->
  (∀x∈(Lib.spansFromP p s n pos st acc).1,x.1<x.2∧x.2≤s.size)∧(∀a,(Lib.spansFromP p s n pos st acc).2=some a->a<s.size)∧(Lib.spansFromP p s n pos st acc).1.length≤acc.length+n
 | 0,pos,st,acc,h1,h2=>⟨h1,λa ha=>(h2 a ha).2,Nat.le_refl _⟩
 | n+1,pos,st,acc,h1,h2=>by
  rw[Lib.spansFromP.eq_def]
  simp only
  have hd:=(bF s pos).1
  split
  ·rename_i hp
   split
   ·cases st with
    | none=>
     obtain⟨a,b,c⟩:=wF p s n (pos+(Utf8.decode s pos).2) none acc h1 (λa ha=>by cases ha)
     exact⟨a,b,Nat.le_trans c (by omega)⟩
    | some a0=>
     obtain⟨q1,q2⟩:=h2 a0 Z
     obtain⟨a,b,c⟩:=wF p s n (pos+(Utf8.decode s pos).2) none (acc++[(a0,pos)]) (λx hx=>by
      rcases List.mem_append.1 hx with hx | hx
      ·exact h1 x hx
      ·rw[List.mem_singleton.1 hx];exact⟨q1,by show pos≤s.size;omega⟩) (λa ha=>by cases ha)
     exact⟨a,b,Nat.le_trans c (by simp;omega)⟩
   ·cases st with
    | none=>
     obtain⟨a,b,c⟩:=wF p s n (pos+(Utf8.decode s pos).2) (some pos) acc h1 (λa ha=>by cases ha;omega)
     exact⟨a,b,Nat.le_trans c (by omega)⟩
    | some a0=>
     obtain⟨q1,q2⟩:=h2 a0 Z
     obtain⟨a,b,c⟩:=wF p s n (pos+(Utf8.decode s pos).2) (some a0) acc h1 (λa ha=>by cases ha;omega)
     exact⟨a,b,Nat.le_trans c (by omega)⟩
  ·exact⟨h1,λa ha=>(h2 a ha).2,Nat.le_add_right _ _⟩
theorem UZ(s:BY):(∀f∈bg s,0<f.size∧f.size≤s.size)∧(bg s).length≤s.size+1:=by
 unfold bg Lib.goFieldsP Lib.spansOfP Lib.closeSpans
 obtain⟨a,b,c⟩:=wF KD s s.size 0 none [] (λx hx=>by cases hx) (λa ha=>by cases ha)
 have ok:∀x:Nat×Nat,x.1<x.2∧x.2≤s.size->0<(s.extract x.1 x.2).size∧(s.extract x.1 x.2).size≤s.size:=λx hx=>by
  rw[ByteArray.size_extract];omega
 split
 ·rename_i q hq
  refine⟨λf hf=>?_,by simp at c ⊢;omega⟩
  obtain⟨x,hx,rfl⟩:=List.mem_map.1 hf
  rcases List.mem_append.1 hx with hx | hx
  ·exact ok x (a x hx)
  ·rw[List.mem_singleton.1 hx];exact ok _ ⟨b q hq,Nat.le_refl _⟩
 ·refine⟨λf hf=>?_,by simp at c ⊢;omega⟩
  obtain⟨x,hx,rfl⟩:=List.mem_map.1 hf
  exact ok x (a x hx)
theorem index_le:∀(l sub:List UInt8),Lib.index l sub≤(l.length:Int)
 | [],sub=>by unfold Lib.index;split<;>decide
 | b::l,sub=>by
  have:=index_le l sub
  unfold Lib.index
  split
  ·simp;omega
  ·split
   ·simp;omega
   ·simp;omega
theorem DF(sep:BY):∀(k:Nat) (s:BY),∀l∈Lib.splitB sep 0 k s,l.size≤s.size
 | 0,s,l,h=>by simp [Lib.splitB] at h;rw[h];exact Nat.le_refl _
 | k+1,s,l,h=>by
  unfold Lib.splitB at h
  split at h
  ·simp at h;rw[h];exact Nat.le_refl _
  ·rcases List.mem_cons.1 h with rfl | h
   ·rw[ByteArray.size_extract];omega
   ·have:=DF sep k _ l h
    rw[ByteArray.size_extract] at this;omega
theorem Nn(s:BY):(∀l∈dH s,l.size≤s.size)∧(dH s).length≤s.size+1:=by
 refine⟨DF nl _ s,?_⟩
 rw[Jk]
 have:=Lib.countB_le nl (by decide) s.size s (Nat.le_refl _)
 omega
structure Pol where
 lev:List BY
 up:List M64
 ins:List Chan
 outs:List Chan
 depth:Int
def U0:Pol:=⟨[],[],[],[],0⟩
def U1:Rdr:=⟨[],[],[],0,[]⟩
abbrev qB(p:Pol):V:=.agg [vSs p.lev,vU p.up,iT p.ins,iT p.outs,vi p.depth]
def says(w:List BY):Bool:=decide (0<w.length)&&!decide (sb (w_ w 0) 0=35)
def rG:List BY->Int->Rdr->(Int×Int) ⊕ Rdr
 | [],_,r=>.inr r
 | l::rest,at_,r=>
  if says (bg l) then
   if (nO r (bg l)).2≠0 then .inl (at_+Lib.index l.data.toList (w_ (bg l) 0).data.toList,(nO r (bg l)).2)
   else rG rest (at_+(l.size+1)) (nO r (bg l)).1
  else rG rest (at_+(l.size+1)) r
def Yf(n:Int)(r:Rdr):Pol×Int×Int:=
 if r.lev.length=0∨r.depth=0 then (U0,n,4)
 else if dW (iA r.lev.length r.flows) then (⟨r.lev,iA r.lev.length r.flows,r.ins,r.outs,r.depth⟩,0,0) else (U0,n,11)
def dI(s:BY):Pol×Int×Int:=
 if 65536<s.size then (U0,0,2)
 else if 0≤dA s s.size 0 then (U0,dA s s.size 0,5)
 else match rG (dH s) 0 U1 with
  | .inl (at_,e)=>(U0,at_,e)
  | .inr r=>Yf s.size r
abbrev acH(q:Pol×Int×Int):V:=.tup [qB q.1,vi q.2.1,vi q.2.2]
theorem abl:Kept U1 0:=⟨⟨by decide,by decide,by decide,by decide,by unfold aj;decide⟩,by decide,λp hp=>by cases hp⟩
structure ae8 (s:BY) where
 i:Nat
 at_:Int
 r:Rdr
 hi:i≤(dH s).length
 ha:0≤at_∧at_≤(i:Int)*65537
 hr:Kept r i
 same:rG ((dH s).drop i) at_ r=rG (dH s) 0 U1
theorem Np(s:BY)(hs:s.size≤9223372036854775807):Pure PG 15 [vs s] (acH (dI s)) []:=by
 refine aD.mk (cfg 112) av [] Tryz.func15 Z (by kernel_rfl) Z Z Z ?_
 intro C x
 refine x.cond Z tR (λh1=>?_) (λh1=>?_)
 ·have h1:65536<s.size:=by have:=afH h1;omega
  rw[dI,if_pos h1]
  refine x.lU ?_
  exact x.exit Z tR ⟨⟨[(2,.ptr 0 0),(3,vi 0),(4,vi 2)],[(0,.box [vSs [],vU [],iT [],iT [],vi 0])],1⟩,⟨⟨⟨Z,Z⟩,Z,Z,tR⟩,⟨⟨Z,Z,Z,Z,Z,tR⟩,tR⟩,Z⟩,.inr Z,⟨Z,Z,Z,tR⟩,tR,Z⟩
 have h1:¬65536<s.size:=by have:=afI h1;omega
 refine x.pure Z tR Z (I7 s hs) ⟨Z,tR⟩ ?_
 refine x.cond Z tR (λh2=>?_) (λh2=>?_)
 ·have h2:0≤dA s s.size 0:=afH h2
  rw[dI,if_neg h1,if_pos h2]
  refine x.lU ?_
  exact x.exit Z tR ⟨⟨[(2,.ptr 0 0),(3,vi (dA s s.size 0)),(4,vi 5)],[(0,.box [vSs [],vU [],iT [],iT [],vi 0])],1⟩,⟨⟨⟨Z,Z⟩,Z,Z,tR⟩,⟨⟨Z,Z,Z,Z,Z,tR⟩,tR⟩,Z⟩,.inr Z,⟨Z,Z,Z,tR⟩,tR,Z⟩
 have h2:¬0≤dA s s.size 0:=afI h2
 obtain⟨l1,l2⟩:=Nn s
 refine x.pure Z tR Z (Ql s (by omega)) ⟨Z,Z,tR⟩ ?_
 refine x.toLoop Z tR ?_
 refine Go.ownB 1 0 9 1 (λi=>[.str (([]:List BY).getD i .empty)]) Z Z ?_
 refine Go.ownB 1 2 162 2 (λi=>[.str (([]:List Chan).getD i aL).1,.int .i64 (([]:List Chan).getD i aL).2]) Z Z ?_
 refine Go.ownB 1 3 162 2 (λi=>[.str (([]:List Chan).getD i aL).1,.int .i64 (([]:List Chan).getD i aL).2]) Z Z ?_
 refine Go.ownB 1 5 180 2 (λi=>[.int .i64 ((([]:List (Nat×Nat)).getD i (0,0)).1:Int),.int .i64 ((([]:List (Nat×Nat)).getD i (0,0)).2:Int)]) Z Z ?_
 refine x.loop (α:=ae8 s) (λy=>⟨[(0,vs s),(2,.ptr 0 0),(3,vi 0),(4,vi 0),(6,.ptr 1 0),(7,vi y.at_),(27,vSs (dH s)),(28,vi ((dH s).length:Int)),(29,vi (y.i:Int))],
  [(0,.box [.aF,.aF,.aF,.aF,vi 0]),(1,.box [.own 2,.aF,.own 3,.own 4,vi y.r.depth,.own 5]),(2,Yb y.r.lev),(3,Ic y.r.ins),(4,Ic y.r.outs),(5,Yc y.r.flows)],6⟩) (λy=>(dH s).length-y.i) ⟨0,0,U1,by omega,by omega,abl,Z⟩ Z tR ?_ (λy=>?_)
 ·exact⟨⟨Z,⟨Z,Z⟩,Z,Z,⟨Z,Z⟩,Z,au Z,Z,Z,tR⟩,⟨⟨tR,tR,tR,tR,Z,tR⟩,⟨Z,tR,Z,Z,Z,Z,tR⟩,⟨Z,Z,Z,λ_ h=>absurd h (afN _)⟩,⟨Z,Z,Z,λ_ h=>absurd h (afN _)⟩,⟨Z,Z,Z,λ_ h=>absurd h (afN _)⟩,⟨Z,Z,Z,λ_ h=>absurd h (afN _)⟩,tR⟩,Z⟩
 obtain⟨i,at_,r,hi,ha,hr,same⟩:=y
 change Go C _ ⟨[(0,vs s),(2,.ptr 0 0),(3,vi 0),(4,vi 0),(6,.ptr 1 0),(7,vi at_),(27,vSs (dH s)),(28,vi ((dH s).length:Int)),(29,vi (i:Int))],
  [(0,.box [.aF,.aF,.aF,.aF,vi 0]),(1,.box [.own 2,.aF,.own 3,.own 4,vi r.depth,.own 5]),(2,Yb r.lev),(3,Ic r.ins),(4,Ic r.outs),(5,Yc r.flows)],6⟩ _
 refine x.cond Z tR (λh3=>?_) (λh3=>?_)
 ·have h3:i<(dH s).length:=by have:=afH h3;omega
  obtain⟨l,hl⟩:∃l,(dH s).getD i .empty=l:=⟨_,Z⟩
  have hget:(dH s)[i]?=some l:=by rw[←hl,afE,afG h3];rfl
  have hlz:=l1 l (List.mem_of_getElem? hget)
  obtain⟨f1,f2⟩:=UZ l
  rw[drop_cons hget,rG] at same
  have hat:at_≤4295032833:=by
   have:(i:Int)≤65536:=by omega
   omega
  refine x.pure Z ?_ Z (Nl l (by omega)) ⟨?_,Z,tR⟩ ?_
  ·simp only[ak];omega
  ·show aB (vs ((dH s).getD i .empty)) (vs l)
   rw[hl];exact Z
  refine x.cond Z ?_ (λh4=>?_) (λh4=>?_)
  ·simp only[ak,afL]
   refine⟨λh=>⟨by decide,h⟩,λh=>⟨by decide,?_⟩⟩
   have h:0<(bg l).length:=by omega
   have:=(f1 ((bg l).getD 0 .empty) (by rw[afE,afG h];exact List.getElem_mem h)).1
   show (0:Int)<(((bg l).getD 0 .empty).size:Int)
   omega
  ·have h4:says (bg l)=true:=by
    refine Eq.trans ?_ h4
    unfold says
    congr 1
    rw[decide_eq_decide];omega
   have h0:0<(bg l).length:=by
    unfold says at h4
    simp only[afF,afL] at h4
    exact h4.1
   rw[if_pos h4] at same
   have hw0:=f1 ((bg l).getD 0 .empty) (by rw[afE,afG h0];exact List.getElem_mem h0)
   refine x.call [1,2,3,4,5] Z tR Z (UY r hr.toSmall (bg l) (by omega) (by unfold aj;omega) (λf hf=>by have:=(f1 f hf).2;omega)) Z ⟨⟨Z,Z⟩,au Z,tR⟩ ⟨⟨Z,tR,Z,Z,Z,Z,tR⟩,⟨Z,Z,Z,λ_ _=>rfl⟩,⟨Z,Z,Z,λ_ _=>rfl⟩,⟨Z,Z,Z,λ_ _=>rfl⟩,⟨Z,Z,Z,λ_ _=>rfl⟩,tR⟩ ?_
   refine x.cond Z tR (λh5=>?_) (λh5=>?_)
   ·have h5:(!decide ((nO r (bg l)).2=0))=true:=h5
    have h5:(nO r (bg l)).2≠0:=by simpa using h5
    rw[if_pos h5] at same
    have hix:=index_le l.data.toList (w_ (bg l) 0).data.toList
    have hig:=Lib.index_ge l.data.toList (w_ (bg l) 0).data.toList
    have hll:l.data.toList.length=l.size:=Array.length_toList
    refine x.pure Z ?_ Z (index_spec l (w_ (bg l) 0) (by omega)) ⟨?_,Z,tR⟩ ?_
    ·simp only[ak];omega
    ·show aB (vs ((dH s).getD i .empty)) (vs l)
     rw[hl];exact Z
    have hp:dI s=(U0,at_+Lib.index l.data.toList (w_ (bg l) 0).data.toList,(nO r (bg l)).2):=by
     rw[dI,if_neg h1,if_neg h2,←same]
    rw[hp]
    refine x.lU ?_
    refine x.exit Z ?_ ⟨⟨[(2,.ptr 0 0),(3,vi (at_+Lib.index l.data.toList (w_ (bg l) 0).data.toList)),(4,vi (nO r (bg l)).2)],[(0,.box [vSs [],vU [],iT [],iT [],vi 0])],1⟩,⟨⟨⟨Z,Z⟩,Z,Z,tR⟩,⟨⟨Z,Z,Z,Z,Z,tR⟩,tR⟩,Z⟩,.inr Z,⟨Z,Z,Z,tR⟩,tR,Z⟩
    simp only[ak,aj];omega
   ·have h5:(!decide ((nO r (bg l)).2=0))=false:=h5
    have h5:¬(nO r (bg l)).2≠0:=by simpa using h5
    rw[if_neg h5] at same
    refine x.back Z ?_ ⟨⟨i+1,at_+(l.size+1),(nO r (bg l)).1,by omega,by omega,Ji hr (by omega) _,same⟩,by show (dH s).length-(i+1)<(dH s).length-i;omega,?_⟩
    ·simp only[ak,afT]
     rw[hl]
     simp only[aj];omega
    ·refine⟨⟨Z,⟨Z,Z⟩,Z,Z,⟨Z,Z⟩,?_,au Z,Z,(show aB (vi ((i:Int)+1)) (vi ((i+1:Nat):Int)) by rw[afQ];rfl),tR⟩,⟨⟨tR,tR,tR,tR,Z,tR⟩,⟨Z,tR,Z,Z,Z,Z,tR⟩,⟨Z,Z,Z,λ_ _=>rfl⟩,⟨Z,Z,Z,λ_ _=>rfl⟩,⟨Z,Z,Z,λ_ _=>rfl⟩,⟨Z,Z,Z,λ_ _=>rfl⟩,tR⟩,Z⟩
     show aB (vi (at_+((((dH s).getD i .empty).size:Int)+1))) (vi (at_+(l.size+1)))
     rw[hl];exact Z
  ·have h4:says (bg l)=false:=by
    refine Eq.trans ?_ h4
    unfold says
    congr 1
    rw[decide_eq_decide];omega
   rw[if_neg (by rw[h4];simp)] at same
   refine x.back Z ?_ ⟨⟨i+1,at_+(l.size+1),r,by omega,by omega,⟨hr.toSmall,Nat.le_succ_of_le hr.count,hr.flow⟩,same⟩,by show (dH s).length-(i+1)<(dH s).length-i;omega,?_⟩
   ·simp only[ak,afT]
    rw[hl]
    simp only[aj];omega
   ·refine⟨⟨Z,⟨Z,Z⟩,Z,Z,⟨Z,Z⟩,?_,au Z,Z,(show aB (vi ((i:Int)+1)) (vi ((i+1:Nat):Int)) by rw[afQ];rfl),tR⟩,⟨⟨tR,tR,tR,tR,Z,tR⟩,⟨Z,tR,Z,Z,Z,Z,tR⟩,⟨Z,Z,Z,λ_ _=>rfl⟩,⟨Z,Z,Z,λ_ _=>rfl⟩,⟨Z,Z,Z,λ_ _=>rfl⟩,⟨Z,Z,Z,λ_ _=>rfl⟩,tR⟩,Z⟩
    show aB (vi (at_+((((dH s).getD i .empty).size:Int)+1))) (vi (at_+(l.size+1)))
    rw[hl];exact Z
 have h3:i=(dH s).length:=by have:=afI h3;omega
 rw[h3,List.drop_length] at same
 have hp:dI s=Yf s.size r:=by
  rw[dI,if_neg h1,if_neg h2,←same];rfl
 rw[hp]
 have aal:=hr.lev
 refine x.cond Z tR (λh4=>?_) (λh4=>?_)
 ·have h4:(decide ((r.lev.length:Int)=0)||decide (r.depth=0))=true:=h4
  have h4:r.lev.length=0∨r.depth=0:=by
   simp only[Bool.or_eq_true,afL] at h4
   omega
  rw[Yf,if_pos h4]
  refine x.lU ?_
  exact x.exit Z tR ⟨⟨[(2,.ptr 0 0),(3,vi (s.size:Int)),(4,vi 4)],[(0,.box [vSs [],vU [],iT [],iT [],vi 0])],1⟩,⟨⟨⟨Z,Z⟩,Z,Z,tR⟩,⟨⟨Z,Z,Z,Z,Z,tR⟩,tR⟩,Z⟩,.inr Z,⟨Z,Z,Z,tR⟩,tR,Z⟩
 have h4:(decide ((r.lev.length:Int)=0)||decide (r.depth=0))=false:=h4
 have h4:¬(r.lev.length=0∨r.depth=0):=by
  simp only[afU,afP] at h4
  omega
 rw[Yf,if_neg h4]
 have hfl:=hr.flows
 refine Sx.Go.freeze 5 ?_
 refine Sx.Go.freeze 4 ?_
 refine Sx.Go.freeze 3 ?_
 refine Sx.Go.freeze 2 ?_
 have hbs:=Qi r.lev.length r.flows (by omega) aal hr.flow (by unfold aj;omega)
 refine x.rz [] [0,1,2,3,4,5,6,7,8,9] (mkO [(10,[]),(11,[10]),(12,[11]),(13,[11]),(14,[12]),(15,[13,14])] 7 [])
  ⟨[(0,vs s),(2,.ptr 0 0),(3,vi 0),(4,vi 0),(6,.ptr 1 0),(12,vU (if dW (iA r.lev.length r.flows) then iA r.lev.length r.flows else [])),(13,vi (if dW (iA r.lev.length r.flows) then 0 else 11))],[],6⟩ Z tR ay (by kernel_rfl) Ret.bP Z tR (λC2 x2=>?_) ?_
 ·repeat' first
    | exact True.intro
    | refine And.intro ?_ ?_
    | refine x2.back rfl tR ?_
    | refine x2.pure rfl tR rfl hbs ⟨rfl,au rfl,tR⟩ (x2.back rfl tR ?_)
    | exact .inl ⟨⟨rfl,⟨rfl,rfl⟩,rfl,rfl,⟨rfl,rfl⟩,au rfl,rfl,tR⟩,tR,rfl⟩
 by_cases hR:dW (iA r.lev.length r.flows)=true
 ·simp only[if_pos hR]
  refine x.cond Z tR (λh5=>?_) (λh5=>?_)
  ·cases h5
  ·exact x.exit Z tR ⟨.inr Z,⟨Z,Z,Z,tR⟩,tR,Z⟩
 ·simp only[if_neg hR]
  refine x.cond Z tR (λh5=>?_) (λh5=>?_)
  ·refine x.lU ?_
   exact x.exit Z tR ⟨⟨[(2,.ptr 0 0),(3,vi (s.size:Int)),(4,vi 11)],[(0,.box [vSs [],vU [],iT [],iT [],vi 0])],1⟩,⟨⟨⟨Z,Z⟩,Z,Z,tR⟩,⟨⟨Z,Z,Z,Z,Z,tR⟩,tR⟩,Z⟩,.inr Z,⟨Z,Z,Z,tR⟩,tR,Z⟩
  ·cases h5
structure PolSz(p:Pol):Prop where
 lev:p.lev.length*16≤140737488355328
 up:p.up.length*8≤140737488355328
 ins:p.ins.length*24≤140737488355328
 outs:p.outs.length*24≤140737488355328
theorem Eh{z z' n:Nat}{us:List D}{f:Nat->List D}(hz:z=z')(h:∀i,app 0 (tab (List.replicate 0 us)) f i=f i):D.sl z (0+n) (app 0 (tab (List.replicate 0 us)) f)=.sl z' n f:=by
 subst hz
 rw[Nat.zero_add,show app 0 (tab (List.replicate 0 us)) f=f from funext h]
theorem Yg{u:D}(d:Nat->D)(i:Nat):app 0 (tab (List.replicate 0 [u])) (λi=>[d i]) i=[d i]:=by
 show (if i<0 then [] else [d (i-0)])=_
 rw[if_neg (by omega)];rfl
theorem Yh{u v:D}(d e:Nat->D)(i:Nat):app 0 (tab (List.replicate 0 [u,v])) (λi=>[d i,e i]) i=[d i,e i]:=by
 show (if i<0 then [] else [d (i-0),e (i-0)])=_
 rw[if_neg (by omega)];rfl
theorem Qm(p:Pol)(h:PolSz p):Pure PG 9 [qB p] (qB p) []:=by
 obtain⟨h1,h2,h3,h4⟩:=h
 refine aD.mk (cfg 24) av [] Tryz.func9 Z (by kernel_rfl) Z Z Z ?_
 intro C x
 refine Go.ab4 [2,3,4,5] ?_
 refine x.exit Z (by simp only[ak,big];omega) ?_
 exact⟨.inr Z,⟨ah (Eh Z (Yg _)),ah (Eh Z (Yg _)),ah (Eh Z (Yh _ _)),ah (Eh Z (Yh _ _)),Z,tR⟩,tR,Z⟩
theorem U2(l:List BY)(s:BY)(hl:aj (l.length:Int)):Pure PG 127 [.agg [vSs l,.dead,.dead,.dead,.dead],vs s] (vi (bE l s)) []:=by
 refine aD.mk (cfg 21) av [] Tryz.func127 Z (by kernel_rfl) Z Z Z ?_
 intro C x
 unfold aj at hl
 refine x.loop (α:={i:Nat // i≤l.length∧l9 (λi=>decide ((l.getD i .empty).data.toList=s.data.toList)) (l.length-i) i=bE l s}) (λy=>⟨[(1,vs s),(2,.ptr 0 0),(5,vi (y.1:Int))],[(0,.box [vSs l,.dead,.dead,.dead,.dead])],1⟩) (λy=>l.length-y.1) ⟨0,by omega,Z⟩ Z tR ?_ (λy=>?_)
 ·exact⟨⟨Z,⟨Z,Z⟩,Z,tR⟩,⟨⟨ah Z,Z,Z,Z,Z,tR⟩,tR⟩,Z⟩
 obtain⟨i,hi,hsame⟩:=y
 change Go C _ ⟨[(1,vs s),(2,.ptr 0 0),(5,vi (i:Int))],[(0,.box [vSs l,.dead,.dead,.dead,.dead])],1⟩ _
 refine x.cond Z tR (λh1=>?_) (λh1=>?_)
 ·have h1:i<l.length:=by have:=afH h1;omega
  rw[show l.length-i=(l.length-(i+1))+1 by omega,l9] at hsame
  refine x.cond Z (by simp only[ak];omega) (λh2=>?_) (λh2=>?_)
  ·have h2:decide ((l.getD i .empty).data.toList=s.data.toList)=true:=h2
   rw[if_pos h2] at hsame
   refine x.exit Z tR ⟨.inr Z,?_,tR,Z⟩
   show aB (vi (i:Int)) (vi (bE l s))
   rw[hsame];exact Z
  ·have h2:decide ((l.getD i .empty).data.toList=s.data.toList)=false:=h2
   rw[if_neg (by rw[h2];simp)] at hsame
   refine x.back Z ?_ ⟨⟨i+1,by omega,hsame⟩,by show l.length-(i+1)<l.length-i;omega,⟨Z,⟨Z,Z⟩,(show aB (vi ((i:Int)+1)) (vi ((i+1:Nat):Int)) by rw[afQ];rfl),tR⟩,⟨⟨ah Z,Z,Z,Z,Z,tR⟩,tR⟩,Z⟩
   simp only[ak,aj];omega
 ·have h1:i=l.length:=by have:=afI h1;omega
  refine x.exit Z tR ⟨.inr Z,?_,tR,Z⟩
  show aB (vi (-1)) (vi (bE l s))
  rw[←hsame,show l.length-i=0 by omega];exact Z
theorem U3(l:List Chan)(s:BY)(hl:aj (l.length:Int)):Pure PG 172 [iT l,vs s] (vi (eY l s)) []:=by
 refine aD.mk (cfg 20) av [] Tryz.func172 Z (by kernel_rfl) Z Z Z ?_
 intro C x
 unfold aj at hl
 refine x.loop (α:={i:Nat // i≤l.length∧l9 (λi=>decide ((l.getD i aL).1.data.toList=s.data.toList)) (l.length-i) i=eY l s}) (λy=>⟨[(0,iT l),(1,vs s),(5,vi (y.1:Int))],[],0⟩) (λy=>l.length-y.1) ⟨0,by omega,Z⟩ Z tR ?_ (λy=>?_)
 ·exact⟨⟨au Z,Z,Z,tR⟩,tR,Z⟩
 obtain⟨i,hi,hsame⟩:=y
 change Go C _ ⟨[(0,iT l),(1,vs s),(5,vi (i:Int))],[],0⟩ _
 refine x.cond Z tR (λh1=>?_) (λh1=>?_)
 ·have h1:i<l.length:=by have:=afH h1;omega
  rw[show l.length-i=(l.length-(i+1))+1 by omega,l9] at hsame
  refine x.cond Z (by simp only[ak];omega) (λh2=>?_) (λh2=>?_)
  ·have h2:decide ((l.getD i aL).1.data.toList=s.data.toList)=true:=h2
   rw[if_pos h2] at hsame
   refine x.exit Z tR ⟨.inr Z,?_,tR,Z⟩
   show aB (vi (i:Int)) (vi (eY l s))
   rw[hsame];exact Z
  ·have h2:decide ((l.getD i aL).1.data.toList=s.data.toList)=false:=h2
   rw[if_neg (by rw[h2];simp)] at hsame
   refine x.back Z ?_ ⟨⟨i+1,by omega,hsame⟩,by show l.length-(i+1)<l.length-i;omega,⟨au Z,Z,(show aB (vi ((i:Int)+1)) (vi ((i+1:Nat):Int)) by rw[afQ];rfl),tR⟩,tR,Z⟩
   simp only[ak,aj];omega
 ·have h1:i=l.length:=by have:=afI h1;omega
  refine x.exit Z tR ⟨.inr Z,?_,tR,Z⟩
  show aB (vi (-1)) (vi (eY l s))
  rw[←hsame,show l.length-i=0 by omega];exact Z
def exP:BY:=⟨#[108,101,118,101,108,32,108,111,119,10,108,101,118,101,108,32,104,105,103,104,10,102,108,111,119,32,108,111,119,32,104,105,103,104,10,105,110,112,117,116,32,107,101,121,32,104,105,103,104,10,111,117,116,112,117,116,32,110,101,116,32,108,111,119,10,100,101,112,116,104,32,56]⟩
theorem abm:(dI exP).2.2=0∧(dI exP).1.lev.length=2∧(dI exP).1.ins.length=1∧((dI exP).1.ins.getD 0 aL).2=1∧(dI exP).1.depth=8:=by decide +kernel
abbrev j3(p:Pol):Ch:=.box [vSs p.lev,vU p.up,iT p.ins,iT p.outs,vi p.depth]
theorem bL(p:Pol):mE (j3 p) (j3 p):=⟨ah Z,ah Z,ah Z,ah Z,Z,tR⟩
theorem oO{p:Pol}(h:PolSz p):aj (p.lev.length:Int)∧aj (p.up.length:Int)∧aj (p.ins.length:Int)∧aj (p.outs.length:Int):=by
 obtain⟨h1,h2,h3,h4⟩:=h
 unfold aj;omega
theorem aam(m:M64)(i:Nat):decide (((m.toNat/2 ^ i:Nat):Int)%2=1)=bit m i:=by
 unfold bit
 rw[BitVec.getLsbD,Nat.testBit,Nat.shiftRight_eq_div_pow,Nat.and_comm,Nat.and_one_is_mod]
 have:m.toNat/2 ^ i%2<2:=Nat.mod_lt _ (by omega)
 by_cases h:m.toNat/2 ^ i%2=1
 ·rw[decide_eq_true (by omega),h];rfl
 ·have h0:m.toNat/2 ^ i%2=0:=by omega
  rw[decide_eq_false (by omega),h0];rfl
abbrev vN(n:Nat):V:=.d (.int .u64 (n:Int))
theorem U4(m:M64)(i:Nat)(hi:i<64):Pure PG 205 [vm m,vi (i:Int)] (vb (bit m i)) []:=by
 refine aD.mk (cfg 22) av [] Tryz.func205 Z (by kernel_rfl) Z Z Z ?_
 intro C x
 refine x.cond Z tR (λh1=>?_) (λh1=>?_)
 ·have h1:(decide ((i:Int)<0)||decide ((i:Int) > 63))=true:=h1
  simp at h1;omega
 refine x.loop (α:={k:Nat // k≤i}) (λy=>⟨[(0,vN (m.toNat/2 ^ y.1)),(1,vi (i:Int)),(5,vi (y.1:Int))],[],0⟩) (λy=>i-y.1) ⟨0,by omega⟩ Z tR ⟨⟨?_,Z,Z,tR⟩,tR,Z⟩ (λy=>?_)
 ·show aB (vm m) (vN (m.toNat/2 ^ 0))
  rw[Nat.pow_zero,Nat.div_one];exact Z
 obtain⟨k,hk⟩:=y
 change Go C _ ⟨[(0,vN (m.toNat/2 ^ k)),(1,vi (i:Int)),(5,vi (k:Int))],[],0⟩ _
 refine x.cond Z tR (λh2=>?_) (λh2=>?_)
 ·have h2:k<i:=by have:=afH h2;omega
  refine x.back Z ?_ ⟨⟨k+1,by omega⟩,by show i-(k+1)<i-k;omega,⟨?_,Z,(show aB (vi ((k:Int)+1)) (vi ((k+1:Nat):Int)) by rw[afQ];rfl),tR⟩,tR,Z⟩
  ·simp only[ak,aj];omega
  ·show aB (.d (.int .u64 (IntKind.u64.wrap (((m.toNat/2 ^ k:Nat):Int).tdiv ((2:Nat):Int))))) (vN (m.toNat/2 ^ (k+1)))
   rw[←Int.ofNat_tdiv,Ad (by have:=toNat_lt m;have:=Nat.div_le_self (m.toNat/2 ^ k) 2;have:=Nat.div_le_self m.toNat (2 ^ k);omega),Nat.pow_succ,←Nat.div_div_eq_div_mul];exact Z
 ·have h2:k=i:=by have:=afI h2;omega
  subst h2
  refine x.exit Z (by simp only[ak];omega) ⟨.inr Z,?_,tR,Z⟩
  show aB (vb (decide (((m.toNat/2 ^ k:Nat):Int).tmod ((2:Nat):Int)=1))) (vb (bit m k))
  rw[←aam,←Int.ofNat_tmod];exact Z
theorem dX(up:List M64)(a b:Nat)(ha:a<up.length)(hb:b<64):Pure PG 190 [vU up,vi (a:Int),vi (b:Int)] (vb (bit (upA up a) b)) []:=by
 refine aD.mk (cfg 13) av [] Tryz.func190 Z (by kernel_rfl) Z Z Z ?_
 intro C x
 refine x.pure Z (by simp only[ak];omega) Z (U4 (upA up a) b hb) ⟨Z,Z,tR⟩ ?_
 exact x.exit Z tR ⟨.inr Z,Z,tR,Z⟩
def fK(p:Nat->Bool):Nat->Nat->Bool
 | 0,_=>true
 | n+1,i=>p i&&fK p n (i+1)
theorem iQ{p:Nat->Bool}:∀{n i:Nat},fK p n i=true↔∀j,i≤j->j<i+n->p j=true
 | 0,i=>⟨λ_ j h1 h2=>by omega,λ_=>rfl⟩
 | n+1,i=>by
  rw[fK,afF,iQ]
  constructor
  ·rintro ⟨h1,h2⟩ j h3 h4
   by_cases e:j=i
   ·subst e;exact h1
   ·exact h2 j (by omega) (by omega)
  ·intro h
   exact⟨h i (Nat.le_refl _) (by omega),λj h1 h2=>h j (by omega) (by omega)⟩
theorem wG{p:Nat->Bool}:∀{n i:Nat},0≤l9 p n i↔∃j,i≤j∧j<i+n∧p j=true
 | 0,i=>⟨λh=>by simp [l9] at h,λ⟨j,h1,h2,_⟩=>by omega⟩
 | n+1,i=>by
  rw[l9]
  by_cases h:p i=true
  ·rw[if_pos h]
   exact⟨λ_=>⟨i,Nat.le_refl _,by omega,h⟩,λ_=>by omega⟩
  ·rw[if_neg h,wG]
   constructor
   ·rintro ⟨j,h1,h2,h3⟩;exact⟨j,by omega,by omega,h3⟩
   ·rintro ⟨j,h1,h2,h3⟩
    have:j≠i:=λe=>by subst e;exact h h3
    exact⟨j,by omega,by omega,h3⟩
def Jl(up:List M64)(a b k:Nat):Bool:=(bit (upA up a) k&&bit (upA up b) k)&&fK (λm=>!bit (upA up a) m||!bit (upA up b) m||bit (upA up k) m) up.length 0
def uS(up:List M64)(a b:Nat):Int:=l9 (Jl up a b) up.length 0
def Jm(up:List M64)(a b k:Nat):Bool:=(bit (upA up k) a&&bit (upA up k) b)&&fK (λm=>!bit (upA up m) a||!bit (upA up m) b||bit (upA up m) k) up.length 0
def uT(up:List M64)(a b:Nat):Int:=l9 (Jm up a b) up.length 0
structure JM (up:List M64) (tot:Bool) (q:Nat->Bool) where
 m:Nat
 is:Bool
 hm:m≤up.length
 same:(is&&fK q (up.length-m) m)=tot
theorem U5(up:List M64)(a b:Nat)(hl:up.length≤64)(ha:a<up.length)(hb:b<up.length):Pure PG 168 [vU up,vi (a:Int),vi (b:Int)] (vi (uS up a b)) []:=by
 refine aD.mk (cfg 55) av [] Tryz.func168 Z (by kernel_rfl) Z Z Z ?_
 intro C x
 refine x.loop (α:={k:Nat // k≤up.length∧l9 (Jl up a b) (up.length-k) k=uS up a b}) (λy=>⟨[(0,vU up),(1,vi (a:Int)),(2,vi (b:Int)),(7,vi (y.1:Int))],[],0⟩) (λy=>up.length-y.1) ⟨0,by omega,Z⟩ Z tR ⟨⟨au Z,Z,Z,Z,tR⟩,tR,Z⟩ (λy=>?_)
 obtain⟨k,hk,hsame⟩:=y
 change Go C _ ⟨[(0,vU up),(1,vi (a:Int)),(2,vi (b:Int)),(7,vi (k:Int))],[],0⟩ _
 refine x.cond Z tR (λh1=>?_) (λh1=>?_)
 rotate_left
 ·have h1:k=up.length:=by have:=afI h1;omega
  refine x.exit Z tR ⟨.inr Z,?_,tR,Z⟩
  show aB (vi (-1)) (vi (uS up a b))
  rw[←hsame,show up.length-k=0 by omega];exact Z
 have h1:k<up.length:=by have:=afH h1;omega
 rw[show up.length-k=(up.length-(k+1))+1 by omega,l9] at hsame
 refine x.pure Z tR Z (dX up a k ha (by omega)) ⟨au Z,Z,Z,tR⟩ ?_
 refine x.bK Z tR Z (λ_=>dX up b k hb (by omega)) Z ⟨au Z,Z,Z,tR⟩ ?_
 refine x.loop (α:=JM up (Jl up a b k) (λm=>!bit (upA up a) m||!bit (upA up b) m||bit (upA up k) m)) (λy=>⟨[(0,vU up),(1,vi (a:Int)),(2,vi (b:Int)),(7,vi (k:Int)),(8,vb y.is),(9,vi (y.m:Int))],[],0⟩) (λy=>up.length-y.m) ⟨0,bit (upA up a) k&&bit (upA up b) k,by omega,Z⟩ Z tR ⟨⟨au Z,Z,Z,Z,Z,Z,tR⟩,tR,Z⟩ (λy=>?_)
 obtain⟨m,is,hm,hs⟩:=y
 change Go C _ ⟨[(0,vU up),(1,vi (a:Int)),(2,vi (b:Int)),(7,vi (k:Int)),(8,vb is),(9,vi (m:Int))],[],0⟩ _
 refine x.cond Z tR (λh2=>?_) (λh2=>?_)
 ·have h2:(decide ((m:Int)<up.length)&&is)=true:=h2
  simp only[afF,afL] at h2
  have h3:m<up.length:=by omega
  rw[h2.2,Bool.true_and,show up.length-m=(up.length-(m+1))+1 by omega,fK] at hs
  refine x.pure Z tR Z (dX up a m ha (by omega)) ⟨au Z,Z,Z,tR⟩ ?_
  refine x.bK Z tR Z (λ_=>dX up b m hb (by omega)) Z ⟨au Z,Z,Z,tR⟩ ?_
  refine x.bK Z tR Z (λ_=>dX up k m h1 (by omega)) Z ⟨au Z,Z,Z,tR⟩ ?_
  refine x.back Z ?_ ⟨⟨m+1,_,by omega,hs⟩,by show up.length-(m+1)<up.length-m;omega,⟨au Z,Z,Z,Z,Z,(show aB (vi ((m:Int)+1)) (vi ((m+1:Nat):Int)) by rw[afQ];rfl),tR⟩,tR,Z⟩
  simp only[ak,aj];omega
 have h2:(decide ((m:Int)<up.length)&&is)=false:=h2
 have htot:is=Jl up a b k:=by
  rw[←hs]
  cases is with
  | false=>rfl
  | true=>
   have:¬(m:Int)<up.length:=by simpa using h2
   rw[show up.length-m=0 by omega];rfl
 refine x.cond Z tR (λh3=>?_) (λh3=>?_)
 ·have h3:is=true:=h3
  rw[h3] at htot
  rw[if_pos htot.symm] at hsame
  refine x.exit Z tR ⟨.inr Z,?_,tR,Z⟩
  show aB (vi (k:Int)) (vi (uS up a b))
  rw[←hsame];exact Z
 ·have h3:is=false:=h3
  rw[h3] at htot
  rw[if_neg (by rw[←htot];simp)] at hsame
  refine x.back Z ?_ ⟨⟨k+1,by omega,hsame⟩,by show up.length-(k+1)<up.length-k;omega,⟨au Z,Z,Z,(show aB (vi ((k:Int)+1)) (vi ((k+1:Nat):Int)) by rw[afQ];rfl),tR⟩,tR,Z⟩
  simp only[ak,aj];omega
theorem U6(up:List M64)(a b:Nat)(hl:up.length≤64)(ha:a<up.length)(hb:b<up.length):Pure PG 169 [vU up,vi (a:Int),vi (b:Int)] (vi (uT up a b)) []:=by
 refine aD.mk (cfg 55) av [] Tryz.func169 Z (by kernel_rfl) Z Z Z ?_
 intro C x
 refine x.loop (α:={k:Nat // k≤up.length∧l9 (Jm up a b) (up.length-k) k=uT up a b}) (λy=>⟨[(0,vU up),(1,vi (a:Int)),(2,vi (b:Int)),(7,vi (y.1:Int))],[],0⟩) (λy=>up.length-y.1) ⟨0,by omega,Z⟩ Z tR ⟨⟨au Z,Z,Z,Z,tR⟩,tR,Z⟩ (λy=>?_)
 obtain⟨k,hk,hsame⟩:=y
 change Go C _ ⟨[(0,vU up),(1,vi (a:Int)),(2,vi (b:Int)),(7,vi (k:Int))],[],0⟩ _
 refine x.cond Z tR (λh1=>?_) (λh1=>?_)
 rotate_left
 ·have h1:k=up.length:=by have:=afI h1;omega
  refine x.exit Z tR ⟨.inr Z,?_,tR,Z⟩
  show aB (vi (-1)) (vi (uT up a b))
  rw[←hsame,show up.length-k=0 by omega];exact Z
 have h1:k<up.length:=by have:=afH h1;omega
 rw[show up.length-k=(up.length-(k+1))+1 by omega,l9] at hsame
 refine x.pure Z tR Z (dX up k a h1 (by omega)) ⟨au Z,Z,Z,tR⟩ ?_
 refine x.bK Z tR Z (λ_=>dX up k b h1 (by omega)) Z ⟨au Z,Z,Z,tR⟩ ?_
 refine x.loop (α:=JM up (Jm up a b k) (λm=>!bit (upA up m) a||!bit (upA up m) b||bit (upA up m) k)) (λy=>⟨[(0,vU up),(1,vi (a:Int)),(2,vi (b:Int)),(7,vi (k:Int)),(8,vb y.is),(9,vi (y.m:Int))],[],0⟩) (λy=>up.length-y.m) ⟨0,bit (upA up k) a&&bit (upA up k) b,by omega,Z⟩ Z tR ⟨⟨au Z,Z,Z,Z,Z,Z,tR⟩,tR,Z⟩ (λy=>?_)
 obtain⟨m,is,hm,hs⟩:=y
 change Go C _ ⟨[(0,vU up),(1,vi (a:Int)),(2,vi (b:Int)),(7,vi (k:Int)),(8,vb is),(9,vi (m:Int))],[],0⟩ _
 refine x.cond Z tR (λh2=>?_) (λh2=>?_)
 ·have h2:(decide ((m:Int)<up.length)&&is)=true:=h2
  simp only[afF,afL] at h2
  have h3:m<up.length:=by omega
  rw[h2.2,Bool.true_and,show up.length-m=(up.length-(m+1))+1 by omega,fK] at hs
  refine x.pure Z tR Z (dX up m a h3 (by omega)) ⟨au Z,Z,Z,tR⟩ ?_
  refine x.bK Z tR Z (λ_=>dX up m b h3 (by omega)) Z ⟨au Z,Z,Z,tR⟩ ?_
  refine x.bK Z tR Z (λ_=>dX up m k h3 (by omega)) Z ⟨au Z,Z,Z,tR⟩ ?_
  refine x.back Z ?_ ⟨⟨m+1,_,by omega,hs⟩,by show up.length-(m+1)<up.length-m;omega,⟨au Z,Z,Z,Z,Z,(show aB (vi ((m:Int)+1)) (vi ((m+1:Nat):Int)) by rw[afQ];rfl),tR⟩,tR,Z⟩
  simp only[ak,aj];omega
 have h2:(decide ((m:Int)<up.length)&&is)=false:=h2
 have htot:is=Jm up a b k:=by
  rw[←hs]
  cases is with
  | false=>rfl
  | true=>
   have:¬(m:Int)<up.length:=by simpa using h2
   rw[show up.length-m=0 by omega];rfl
 refine x.cond Z tR (λh3=>?_) (λh3=>?_)
 ·have h3:is=true:=h3
  rw[h3] at htot
  rw[if_pos htot.symm] at hsame
  refine x.exit Z tR ⟨.inr Z,?_,tR,Z⟩
  show aB (vi (k:Int)) (vi (uT up a b))
  rw[←hsame];exact Z
 ·have h3:is=false:=h3
  rw[h3] at htot
  rw[if_neg (by rw[←htot];simp)] at hsame
  refine x.back Z ?_ ⟨⟨k+1,by omega,hsame⟩,by show up.length-(k+1)<up.length-k;omega,⟨au Z,Z,Z,(show aB (vi ((k:Int)+1)) (vi ((k+1:Nat):Int)) by rw[afQ];rfl),tR⟩,tR,Z⟩
  simp only[ak,aj];omega
def Qn(up:List M64)(i k:Nat):Bool:=!bit (upA up i) k||!((decide (up.length≤k)||(!decide (k=i)&&bit (upA up k) i))||!decide (upA up k||| upA up i=upA up i))
def Nq(up:List M64)(i:Nat):Bool:=bit (upA up i) i&&fK (Qn up i) 64 0
def jN(up:List M64):Bool:=(decide (1≤up.length)&&decide (up.length≤64))&&fK (Nq up) up.length 0
theorem R5(x y:M64):decide (bT .or .u64 (x.toNat:Int) (y.toNat:Int)=(y.toNat:Int))=decide (x||| y=y):=by
 rw[aah,decide_eq_decide]
 constructor
 ·intro h;apply BitVec.eq_of_toNat_eq;omega
 ·intro h;rw[h]
theorem Nr(up:List M64)(hl:aj (up.length:Int)):Pure PG 167 [vU up] (vb (jN up)) []:=by
 refine aD.mk (cfg 64) av [] Tryz.func167 Z (by kernel_rfl) Z Z Z ?_
 intro C x
 refine x.cond Z tR (λh0=>?_) (λh0=>?_)
 ·have h0:(decide ((up.length:Int)<1)||decide ((up.length:Int) > 64))=true:=h0
  simp only[Bool.or_eq_true,afL] at h0
  refine x.exit Z tR ⟨.inr Z,?_,tR,Z⟩
  show aB (vb false) (vb (jN up))
  have:(decide (1≤up.length)&&decide (up.length≤64))=false:=by
   simp only[Bool.and_eq_false_iff,afP];omega
  rw[jN,this];exact Z
 have h0:(decide ((up.length:Int)<1)||decide ((up.length:Int) > 64))=false:=h0
 simp only[afU,afP] at h0
 have hdec:(decide (1≤up.length)&&decide (up.length≤64))=true:=by
  simp only[afF,afL];omega
 have hO:jN up=fK (Nq up) up.length 0:=by rw[jN,hdec,Bool.true_and]
 refine x.loop (α:={i:Nat // i≤up.length∧fK (Nq up) (up.length-i) i=jN up}) (λy=>⟨[(0,vU up),(3,vi (y.1:Int))],[],0⟩) (λy=>up.length-y.1) ⟨0,by omega,hO.symm⟩ Z tR ⟨⟨au Z,Z,tR⟩,tR,Z⟩ (λy=>?_)
 obtain⟨i,hi,hsame⟩:=y
 change Go C _ ⟨[(0,vU up),(3,vi (i:Int))],[],0⟩ _
 refine x.cond Z tR (λh1=>?_) (λh1=>?_)
 rotate_left
 ·have h1:i=up.length:=by have:=afI h1;omega
  refine x.exit Z tR ⟨.inr Z,?_,tR,Z⟩
  show aB (vb true) (vb (jN up))
  rw[←hsame,show up.length-i=0 by omega];exact Z
 have h1:i<up.length:=by have:=afH h1;omega
 rw[show up.length-i=(up.length-(i+1))+1 by omega,fK] at hsame
 refine x.pure Z tR Z (dX up i i h1 (by omega)) ⟨au Z,Z,Z,tR⟩ ?_
 refine x.cond Z tR (λh2=>?_) (λh2=>?_)
 ·have h2:(!bit (upA up i) i)=true:=h2
  simp only[afR] at h2
  refine x.exit Z tR ⟨.inr Z,?_,tR,Z⟩
  show aB (vb false) (vb (jN up))
  rw[←hsame,Nq,h2];exact Z
 have h2:(!bit (upA up i) i)=false:=h2
 simp only[Bool.not_eq_false'] at h2
 rw[Nq,h2,Bool.true_and] at hsame
 refine x.loop (α:={k:Nat // k≤64∧(fK (Qn up i) (64-k) k&&fK (Nq up) (up.length-(i+1)) (i+1))=jN up}) (λy=>⟨[(0,vU up),(3,vi (i:Int)),(4,vi (y.1:Int))],[],0⟩) (λy=>64-y.1) ⟨0,by omega,hsame⟩ Z tR ⟨⟨au Z,Z,Z,tR⟩,tR,Z⟩ (λy=>?_)
 obtain⟨k,hk,hs⟩:=y
 change Go C _ ⟨[(0,vU up),(3,vi (i:Int)),(4,vi (k:Int))],[],0⟩ _
 refine x.cond Z tR (λh3=>?_) (λh3=>?_)
 rotate_left
 ·have h3:k=64:=by have:=afI h3;omega
  subst h3
  rw[fK,Bool.true_and] at hs
  refine x.back Z ?_ ⟨⟨i+1,by omega,hs⟩,by show up.length-(i+1)<up.length-i;omega,⟨au Z,(show aB (vi ((i:Int)+1)) (vi ((i+1:Nat):Int)) by rw[afQ];rfl),tR⟩,tR,Z⟩
  simp only[ak,aj];omega
 have h3:k<64:=by have:=afH h3;omega
 rw[show 64-k=(64-(k+1))+1 by omega,fK] at hs
 refine x.pure Z tR Z (dX up i k h1 h3) ⟨au Z,Z,Z,tR⟩ ?_
 refine x.cond Z tR (λh4=>?_) (λh4=>?_)
 ·have h4:(!bit (upA up i) k)=true:=h4
  simp only[afR] at h4
  rw[Qn,h4] at hs
  refine x.back Z ?_ ⟨⟨k+1,by omega,hs⟩,by show 64-(k+1)<64-k;omega,⟨au Z,Z,(show aB (vi ((k:Int)+1)) (vi ((k+1:Nat):Int)) by rw[afQ];rfl),tR⟩,tR,Z⟩
  simp only[ak,aj];omega
 have h4:(!bit (upA up i) k)=false:=h4
 simp only[Bool.not_eq_false'] at h4
 refine x.quiet Z tR ay (by kernel_rfl) ?_
 refine x.E9 (args:=[vU up,vi (k:Int),vi (i:Int)]) (r:=vb (bit (upA up k) i)) Z tR Z (λhg _=>dX up k i (by have:=afI hg;omega) (by omega)) Z Z ⟨au Z,Z,Z,tR⟩ ?_
 have e1:decide ((up.length:Int)≤(k:Int))=decide (up.length≤k):=by rw[decide_eq_decide];omega
 have e2:decide ((k:Int)=(i:Int))=decide (k=i):=by rw[decide_eq_decide];omega
 refine x.bS Z ?_ ?_
 ·have key:(decide ((up.length:Int)≤(k:Int))||!decide ((k:Int)=(i:Int))&&bit (upA up k) i)=false->0≤(k:Int)∧(k:Int)<up.length:=λh=>by
   simp only[afU,afP] at h
   omega
  exact⟨key,λ_=>by omega,λ_=>by omega⟩
 refine x.cond Z tR (λh5=>?_) (λh5=>?_)
 ·have h5:((decide ((up.length:Int)≤(k:Int))||(!decide ((k:Int)=(i:Int))&&bit (upA up k) i))||!decide (bT .or .u64 ((upA up k).toNat:Int) ((upA up i).toNat:Int)=((upA up i).toNat:Int)))=true:=h5
  rw[e1,e2,R5] at h5
  rw[Qn,h4,h5] at hs
  refine x.exit Z tR ⟨.inr Z,?_,tR,Z⟩
  show aB (vb false) (vb (jN up))
  rw[←hs];exact Z
 ·have h5:((decide ((up.length:Int)≤(k:Int))||(!decide ((k:Int)=(i:Int))&&bit (upA up k) i))||!decide (bT .or .u64 ((upA up k).toNat:Int) ((upA up i).toNat:Int)=((upA up i).toNat:Int)))=false:=h5
  rw[e1,e2,R5] at h5
  rw[Qn,h4,h5] at hs
  refine x.back Z ?_ ⟨⟨k+1,by omega,hs⟩,by show 64-(k+1)<64-k;omega,⟨au Z,Z,(show aB (vi ((k:Int)+1)) (vi ((k+1:Nat):Int)) by rw[afQ];rfl),tR⟩,tR,Z⟩
  simp only[ak,aj];omega
def Ns(up:List M64)(a b:Nat):Bool:=decide (0≤uS up a b)&&decide (0≤uT up a b)
def Yi(up:List M64)(a:Nat):Bool:=fK (Ns up a) a 0
def rH(up:List M64):Bool:=jN up&&fK (Yi up) up.length 0
theorem Qo{up:List M64}(h:jN up=true):1≤up.length∧up.length≤64:=by
 unfold jN at h
 simp only[afF,afL] at h
 exact h.1
theorem Nt(up:List M64)(hl:aj (up.length:Int)):Pure PG 125 [vU up] (vb (rH up)) []:=by
 refine aD.mk (cfg 31) av [] Tryz.func125 Z (by kernel_rfl) Z Z Z ?_
 intro C x
 refine x.pure Z tR Z (Nr up hl) ⟨au Z,tR⟩ ?_
 refine x.cond Z tR (λh0=>?_) (λh0=>?_)
 ·have h0:(!jN up)=true:=h0
  simp only[afR] at h0
  refine x.exit Z tR ⟨.inr Z,?_,tR,Z⟩
  show aB (vb false) (vb (rH up))
  rw[rH,h0];exact Z
 have h0:(!jN up)=false:=h0
 simp only[Bool.not_eq_false'] at h0
 obtain⟨l1,l2⟩:=Qo h0
 refine x.loop (α:={a:Nat // a≤up.length∧fK (Yi up) (up.length-a) a=rH up}) (λy=>⟨[(0,vU up),(3,vi (y.1:Int))],[],0⟩) (λy=>up.length-y.1) ⟨0,by omega,by rw[rH,h0];rfl⟩ Z tR ⟨⟨au Z,Z,tR⟩,tR,Z⟩ (λy=>?_)
 obtain⟨a,ha,hsame⟩:=y
 change Go C _ ⟨[(0,vU up),(3,vi (a:Int))],[],0⟩ _
 refine x.cond Z tR (λh1=>?_) (λh1=>?_)
 rotate_left
 ·have h1:a=up.length:=by have:=afI h1;omega
  refine x.exit Z tR ⟨.inr Z,?_,tR,Z⟩
  show aB (vb true) (vb (rH up))
  rw[←hsame,show up.length-a=0 by omega];exact Z
 have h1:a<up.length:=by have:=afH h1;omega
 rw[show up.length-a=(up.length-(a+1))+1 by omega,fK,Yi] at hsame
 refine x.loop (α:={b:Nat // b≤a∧(fK (Ns up a) (a-b) b&&fK (Yi up) (up.length-(a+1)) (a+1))=rH up}) (λy=>⟨[(0,vU up),(3,vi (a:Int)),(4,vi (y.1:Int))],[],0⟩) (λy=>a-y.1) ⟨0,by omega,hsame⟩ Z tR ⟨⟨au Z,Z,Z,tR⟩,tR,Z⟩ (λy=>?_)
 obtain⟨b,hb,hs⟩:=y
 change Go C _ ⟨[(0,vU up),(3,vi (a:Int)),(4,vi (b:Int))],[],0⟩ _
 refine x.cond Z tR (λh3=>?_) (λh3=>?_)
 rotate_left
 ·have h3:b=a:=by have:=afI h3;omega
  subst h3
  rw[Nat.sub_self,fK,Bool.true_and] at hs
  refine x.back Z ?_ ⟨⟨b+1,by omega,hs⟩,by show up.length-(b+1)<up.length-b;omega,⟨au Z,(show aB (vi ((b:Int)+1)) (vi ((b+1:Nat):Int)) by rw[afQ];rfl),tR⟩,tR,Z⟩
  simp only[ak,aj];omega
 have h3:b<a:=by have:=afH h3;omega
 rw[show a-b=(a-(b+1))+1 by omega,fK] at hs
 refine x.pure Z tR Z (U5 up a b l2 h1 (by omega)) ⟨au Z,Z,Z,tR⟩ ?_
 refine x.bK Z tR Z (λ_=>U6 up a b l2 h1 (by omega)) Z ⟨au Z,Z,Z,tR⟩ ?_
 have e1:(decide (uS up a b<0)||decide (uT up a b<0))=!Ns up a b:=by
  unfold Ns
  rw[Bool.not_and,show (!decide (0≤uS up a b))=decide (uS up a b<0) by rw[←decide_not,decide_eq_decide];omega,show (!decide (0≤uT up a b))=decide (uT up a b<0) by rw[←decide_not,decide_eq_decide];omega]
 refine x.cond Z tR (λh5=>?_) (λh5=>?_)
 ·have h5:(decide (uS up a b<0)||decide (uT up a b<0))=true:=h5
  rw[e1] at h5
  simp only[afR] at h5
  rw[h5] at hs
  refine x.exit Z tR ⟨.inr Z,?_,tR,Z⟩
  show aB (vb false) (vb (rH up))
  rw[←hs];exact Z
 ·have h5:(decide (uS up a b<0)||decide (uT up a b<0))=false:=h5
  rw[e1] at h5
  simp only[Bool.not_eq_false'] at h5
  rw[h5,Bool.true_and] at hs
  refine x.back Z ?_ ⟨⟨b+1,by omega,hs⟩,by show a-(b+1)<a-b;omega,⟨au Z,Z,(show aB (vi ((b:Int)+1)) (vi ((b+1:Nat):Int)) by rw[afQ];rfl),tR⟩,tR,Z⟩
  simp only[ak,aj];omega
end Go.Proofs.YtojhdmfkfkfcbaaGreatDoor
namespace Go.Proofs.YtojhdmfkfkfcbaaGreatDoor
open Go.Sx
theorem Yj{x y:M64}:x||| y=y↔∀j,bit x j=true->bit y j=true:=by
 constructor
 ·intro h j hj
  rw[←h,Gi,hj];rfl
 ·intro h
  refine Ae λj hj=>?_
  rw[Gi]
  cases hx:bit x j with
  | false=>rfl
  | true=>rw[h j hx];rfl
theorem Qp{x:M64}{j:Nat}(h:bit x j=true):j<64:=by
 by_cases h64:j<64
 ·exact h64
 ·rw[uw _ (by omega)] at h;cases h
theorem acI{up:List M64}(i:Nat)(h2:up.length≤64):Nq up i=kJ up i:=by
 rw[Bool.eq_iff_iff]
 unfold Nq kJ
 simp only[afF,iQ,afL,List.all_eq_true,gV,jZ]
 constructor
 ·rintro ⟨ha,hb⟩
  have key:∀k,bit (upA up i) k=true->k<up.length∧¬(k≠i∧bit (upA up k) i=true)∧∀j,bit (upA up k) j=true->bit (upA up i) j=true:=λk hk=>by
   have h:=hb k (Nat.zero_le _) (by have:=Qp hk;omega)
   unfold Qn at h
   rw[hk] at h
   simp only[Bool.not_true,Bool.false_or,afR,afU,afP,Bool.not_eq_false',afL,Bool.and_eq_false_iff] at h
   refine⟨by omega,λ⟨e1,e2⟩=>?_,Yj.1 h.2⟩
   rcases h.1.2 with e | e
   ·exact e1 e
   ·rw[e2] at e;cases e
  refine⟨⟨ha,λj hj=>?_⟩,λk hk=>⟨(key k hk).2.2,?_⟩⟩
  ·rw[gW _ (Qp hj)]
   exact decide_eq_true (key j hj).1
  ·have:=(key k hk).2.1
   cases h:(decide (k≠i)&&bit (upA up k) i) with
   | false=>rfl
   | true=>
    simp only[afF,afL] at h
    exact absurd h this
 ·rintro ⟨⟨ha,hb⟩,hc⟩
  refine⟨ha,λk _ hk=>?_⟩
  unfold Qn
  cases hx:bit (upA up i) k with
  | false=>rfl
  | true=>
   have e1:=hb k hx
   rw[gW _ (Qp hx)] at e1
   have e1:=afH e1
   obtain⟨e2,e3⟩:=hc k hx
   have e4:upA up k||| upA up i=upA up i:=Yj.2 e2
   rw[decide_eq_true e4,decide_eq_false (show ¬up.length≤k by omega)]
   by_cases e:k=i
   ·subst e;simp
   ·simp [e] at e3
    simp [e,e3]
theorem U7{n:Nat}{p:Nat->Bool}:fK p n 0=(List.range n).all p:=by
 rw[Bool.eq_iff_iff,iQ,List.all_eq_true]
 constructor
 ·intro h j hj;exact h j (Nat.zero_le _) (by have:=List.mem_range.1 hj;omega)
 ·intro h j _ hj;exact h j (List.mem_range.2 (by omega))
theorem Qq{l:List Nat}{p q:Nat->Bool}(h:∀x∈l,p x=q x):l.all p=l.all q:=by
 rw[Bool.eq_iff_iff,List.all_eq_true,List.all_eq_true]
 exact⟨λhp x hx=>by rw[←h x hx];exact hp x hx,λhp x hx=>by rw[h x hx];exact hp x hx⟩
theorem Yk(up:List M64):jN up=dV up:=by
 unfold jN dV
 by_cases h:up.length≤64
 ·rw[U7]
  congr 1
  exact Qq λi _=>acI i h
 ·rw[decide_eq_false h];simp
theorem y7{up:List M64}{S:M64}:∀{l:List Nat},0≤wD up S l↔∃k∈l,∀j,bit S j=true->bit (upA up k) j=true
 | []=>by simp [wD]
 | k::r=>by
  rw[wD]
  by_cases h:S&&& ~~~ upA up k=0#64
  ·rw[if_pos h]
   exact⟨λ_=>⟨k,.head _,jZ.1 h⟩,λ_=>by omega⟩
  ·rw[if_neg h,y7]
   constructor
   ·rintro ⟨j,h1,h2⟩;exact⟨j,.tail _ h1,h2⟩
   ·rintro ⟨j,h1,h2⟩
    rcases List.mem_cons.1 h1 with rfl | h1
    ·exact absurd (jZ.2 h2) h
    ·exact⟨j,h1,h2⟩
theorem Nu{up:List M64}(ho:dV up=true){a b:Nat}(ha:a<up.length)(hb:b<up.length):0≤uS up a b↔0≤nT up (upA up a&&& upA up b):=by
 unfold uS nT
 rw[wG,y7]
 have hin:=BZ ho ha
 constructor
 ·rintro ⟨k,_,h1,h2⟩
  unfold Jl at h2
  simp only[afF,iQ] at h2
  obtain⟨⟨e1,e2⟩,e3⟩:=h2
  refine⟨k,gV.2 (by rw[mg,e1,e2];rfl),λj hj=>?_⟩
  rw[mg,afF] at hj
  have:=e3 j (Nat.zero_le _) (by have:=hin j hj.1;omega)
  rw[hj.1,hj.2] at this
  simpa using this
 ·rintro ⟨k,h1,h2⟩
  have h1:=gV.1 h1
  rw[mg,afF] at h1
  refine⟨k,Nat.zero_le _,by have:=hin k h1.1;omega,?_⟩
  unfold Jl
  simp only[afF,iQ]
  refine⟨h1,λm _ _=>?_⟩
  cases e1:bit (upA up a) m with
  | false=>rfl
  | true=>
   cases e2:bit (upA up b) m with
   | false=>rfl
   | true=>rw[h2 m (by rw[mg,e1,e2];rfl)];rfl
theorem gq{up:List M64}(hl:up.length≤64){a:Nat}(ha:a<up.length)(j:Nat):bit (upA (fJ up) a) j=(decide (j<up.length)&&bit (upA up j) a):=by
 rw[yX up ha]
 by_cases h:j<64
 ·rw[gW _ h]
 ·rw[uw _ (by omega),decide_eq_false (show ¬j<up.length by omega)];rfl
theorem Nv{up:List M64}(hl:up.length≤64){a b:Nat}(ha:a<up.length)(hb:b<up.length):0≤uT up a b↔0≤nT (fJ up) (upA (fJ up) a&&& upA (fJ up) b):=by
 unfold uT nT
 rw[wG,y7]
 constructor
 ·rintro ⟨k,_,h1,h2⟩
  have hk:k<up.length:=by omega
  unfold Jm at h2
  simp only[afF,iQ] at h2
  obtain⟨⟨e1,e2⟩,e3⟩:=h2
  refine⟨k,gV.2 (by rw[mg,gq hl ha,gq hl hb,e1,e2,decide_eq_true hk];rfl),λj hj=>?_⟩
  rw[mg,gq hl ha,gq hl hb,afF,afF,afF,afL] at hj
  have:=e3 j (Nat.zero_le _) (by omega)
  rw[hj.1.2,hj.2.2] at this
  rw[gq hl hk,decide_eq_true hj.1.1]
  simpa using this
 ·rintro ⟨k,h1,h2⟩
  have h1:=gV.1 h1
  rw[mg,gq hl ha,gq hl hb,afF,afF,afF,afL] at h1
  refine⟨k,Nat.zero_le _,by omega,?_⟩
  unfold Jm
  simp only[afF,iQ]
  refine⟨⟨h1.1.2,h1.2.2⟩,λm _ hm=>?_⟩
  cases e1:bit (upA up m) a with
  | false=>rfl
  | true=>
   cases e2:bit (upA up m) b with
   | false=>rfl
   | true=>
    have:=h2 m (by rw[mg,gq hl ha,gq hl hb,e1,e2,decide_eq_true (show m<up.length by omega)];rfl)
    rw[gq hl h1.1.1,decide_eq_true (show m<up.length by omega),Bool.true_and] at this
    rw[this];rfl
theorem right_eq(up:List M64):rH up=dW up:=by
 unfold rH dW
 rw[Yk]
 cases ho:dV up with
 | false=>rfl
 | true=>
  obtain⟨l1,l2⟩:=sG ho
  rw[Bool.true_and,Bool.true_and,Bool.eq_iff_iff,afF,iQ]
  unfold Yi xZ
  simp only[iQ,List.all_eq_true,List.mem_range,pW,afL]
  unfold Ns
  simp only[afF,afL]
  constructor
  ·intro h
   exact⟨λa ha b hb=>(Nu ho ha (by omega)).1 (h a (Nat.zero_le _) (by omega) b (Nat.zero_le _) (by omega)).1,λa ha b hb=>(Nv l2 ha (by omega)).1 (h a (Nat.zero_le _) (by omega) b (Nat.zero_le _) (by omega)).2⟩
  ·rintro ⟨h1,h2⟩ a _ ha b _ hb
   exact⟨(Nu ho (by omega) (by omega)).2 (h1 a (by omega) b (by omega)),(Nv l2 (by omega) (by omega)).2 (h2 a (by omega) b (by omega))⟩
structure Ord(up:List M64):Prop where
 len:up.length≤64
 refl:∀i,i<up.length->bit (upA up i) i=true
 inn:∀i j,i<up.length->bit (upA up i) j=true->j<up.length
 tr:∀i k j,i<up.length->bit (upA up i) k=true->bit (upA up k) j=true->bit (upA up i) j=true
 anti:∀i k,i<up.length->bit (upA up i) k=true->bit (upA up k) i=true->i=k
theorem acJ{up:List M64}(h:dV up=true):Ord up:=by
 have hl:=(sG h).2
 have hrow:∀i,i<up.length->kJ up i=true:=λi hi=>by
  unfold dV at h
  simp only[afF,List.all_eq_true] at h
  exact h.2 i (List.mem_range.2 hi)
 have row:∀i,i<up.length->bit (upA up i) i=true∧∀k,bit (upA up i) k=true->(∀j,bit (upA up k) j=true->bit (upA up i) j=true)∧¬(k≠i∧bit (upA up k) i=true):=λi hi=>by
  have:=hrow i hi
  unfold kJ at this
  simp only[afF,List.all_eq_true,afL,gV,jZ,afR,Bool.and_eq_false_iff,afP] at this
  refine⟨this.1.1,λk hk=>⟨(this.2 k hk).1,λ⟨e1,e2⟩=>?_⟩⟩
  rcases (this.2 k hk).2 with e | e
  ·exact e e1
  ·rw[e2] at e;cases e
 exact⟨hl,λi hi=>(row i hi).1,λi j hi hj=>BZ h hi j hj,λi k j hi h1 h2=>((row i hi).2 k h1).1 j h2,λi k hi h1 h2=>by
  refine Classical.byContradiction λe=>((row i hi).2 k h1).2 ⟨λe'=>e e'.symm,h2⟩⟩
def ivM(up:List M64)(a b:Nat):M64:=upA up a&&& upA (fJ up) b
theorem acK{up:List M64}(h:Ord up){a b:Nat}(ha:a<up.length)(hb:b<up.length)(m:Nat):bit (ivM up a b) m=true↔bit (upA up a) m=true∧bit (upA up m) b=true:=by
 unfold ivM
 rw[mg,gq h.len hb,afF,afF,afL]
 exact⟨λe=>⟨e.1,e.2.2⟩,λe=>⟨e.1,h.inn a m ha e.1,e.2⟩⟩
theorem aan{l:List Nat}(hn:l.Nodup){a b:Nat}(hab:a≠b)(ha:a∈l)(hb:b∈l):l.length=2↔∀m∈l,m=a∨m=b:=by
 match l with
 | []=>cases ha
 | [x]=>simp at ha hb;omega
 | [x,y]=>
  simp at ha hb
  refine⟨λ_ m hm=>?_,λ_=>rfl⟩
  simp at hm
  omega
 | x::y::z::l=>
  simp at hn
  refine⟨λh=>by simp at h,λh=>?_⟩
  have h1:=h x (by simp)
  have h2:=h y (by simp)
  have h3:=h z (by simp)
  omega
def Qr(up:List M64)(a b:Nat):Bool:=decide (X7 (ivM up a b)=2)
def Ei(up:List M64):List (Nat×Nat):=(List.range up.length).flatMap λa=>((bits (Gm (upA up a) (a:Int))).filter (Qr up a)).map λb=>(a,b)
def Cov(up:List M64)(a b:Nat):Prop:=a≠b∧bit (upA up a) b=true∧∀m,bit (upA up a) m=true->bit (upA up m) b=true->m=a∨m=b
theorem Jo{up:List M64}(h:Ord up){a b:Nat}(ha:a<up.length)(hab:a≠b)(h1:bit (upA up a) b=true):Qr up a b=true↔∀m,bit (upA up a) m=true->bit (upA up m) b=true->m=a∨m=b:=by
 have hb:=h.inn a b ha h1
 have iv:=acK h ha hb
 have:=aan (l:=bits (ivM up a b)) (P9 _) hab (gV.2 ((iv a).2 ⟨h.refl a ha,h1⟩)) (gV.2 ((iv b).2 ⟨h1,h.refl b hb⟩))
 unfold Qr X7
 rw[afL]
 constructor
 ·intro e m m1 m2
  exact this.1 (by omega) m (gV.2 ((iv m).2 ⟨m1,m2⟩))
 ·intro e
  have:=this.2 λm hm=>(λq=>e m q.1 q.2) ((iv m).1 (gV.1 hm))
  omega
theorem Qs{up:List M64}(h:Ord up){a b:Nat}:(a,b)∈Ei up↔a<up.length∧Cov up a b:=by
 unfold Ei
 simp only[List.mem_flatMap,List.mem_range,List.mem_map,List.mem_filter,gV,Kw,afF,afR,afP,afO]
 constructor
 ·rintro ⟨a',ha,b',⟨⟨h1,h2⟩,h3⟩,rfl,rfl⟩
  have hab:a'≠b':=λe=>h2 (by rw[e])
  exact⟨ha,hab,h1,(Jo h ha hab h1).1 h3⟩
 ·rintro ⟨ha,h1,h2,h3⟩
  exact⟨a,ha,b,⟨⟨h2,by omega⟩,(Jo h ha h1 h2).2 h3⟩,Z,Z⟩
theorem U8{up:List M64}(h:Ord up):∀p∈Ei up,p.1<up.length∧p.2<up.length:=λp hp=>by
 obtain⟨h1,h2,h3,h4⟩:=(Qs (a:=p.1) (b:=p.2) h).1 hp
 exact⟨h1,h.inn _ _ h1 h3⟩
end Go.Proofs.YtojhdmfkfkfcbaaGreatDoor
namespace Go.Proofs.YtojhdmfkfkfcbaaGreatDoor
open Go.Sx
set_option maxRecDepth 100000
def y8(n:Nat)(l:List Chan)(i:Nat):Bool:=((gF (l.getD i aL).1&&decide (eY l (l.getD i aL).1=(i:Int)))&&decide (0≤(l.getD i aL).2))&&decide ((l.getD i aL).2<(n:Int))
def ku(n:Nat)(l:List Chan):Bool:=decide (l.length≤32)&&fK (y8 n l) l.length 0
def y9(l:List BY)(i:Nat):Bool:=gF (l.getD i .empty)&&decide (bE l (l.getD i .empty)=(i:Int))
def DI(p:Pol):Bool:=((decide (p.lev.length=p.up.length)&&dW p.up)&&decide (1≤p.depth))&&decide (p.depth≤64)
def dQ(p:Pol):Bool:=(DI p&&fK (y9 p.lev) p.lev.length 0)&&(ku p.lev.length p.ins&&ku p.lev.length p.outs)
theorem mZ{p:Nat->Bool}{n i:Nat}(h:i<n):fK p (n-i) i=(p i&&fK p (n-(i+1)) (i+1)):=by
 rw[show n-i=(n-(i+1))+1 by omega,fK]
theorem KE{a b c d:Bool}(h:(((!a||b)||c)||d)=true):((((a&&!b)&&!c)&&!d):Bool)=false:=by
 cases a<;>cases b<;>cases c<;>cases d<;>simp_all
theorem Nw{p:Nat->Bool}{n i:Nat}(h:i<n)(hp:p i=true):0≤l9 p n 0:=wG.2 ⟨i,Nat.zero_le _,by omega,hp⟩
theorem U9{l:List Chan}{i:Nat}(h:i<l.length):0≤eY l (l.getD i aL).1:=Nw (p:=λj=>decide ((l.getD j aL).1.data.toList=(l.getD i aL).1.data.toList)) h (decide_eq_true Z)
theorem Va{l:List BY}{i:Nat}(h:i<l.length):0≤bE l (l.getD i .empty):=Nw (p:=λj=>decide ((l.getD j .empty).data.toList=(l.getD i .empty).data.toList)) h (decide_eq_true Z)
theorem Gu(lev:List BY)(l:List Chan)(aal:aj (lev.length:Int))(hl:aj (l.length:Int))(hz:∀c∈l,c.1.size≤9223372036854775807) :
  Pure PG 72 [.agg [vSs lev,.dead,.dead,.dead,.dead],iT l] (vb (ku lev.length l)) []:=by
 refine aD.mk (cfg 49) av [] Tryz.func72 Z (by kernel_rfl) Z Z Z ?_
 intro C x
 have hl0:=hl
 unfold aj at hl
 refine x.cond Z tR (λh=>?_) (λh=>?_)
 ·have h:(32:Int)<l.length:=afH h
  refine x.exit Z tR ⟨.inr Z,?_,tR,Z⟩
  rw[ku,decide_eq_false (show ¬l.length≤32 by omega)];exact Z
 have h:¬(32:Int)<l.length:=afI h
 have hle:l.length≤32:=by omega
 refine x.loop (α:={i:Nat // i≤l.length∧fK (y8 lev.length l) (l.length-i) i=fK (y8 lev.length l) l.length 0}) (λy=>⟨[(1,iT l),(2,.ptr 0 0),(12,iT l),(13,vi (l.length:Int)),(14,vi (y.1:Int))],[(0,.box [vSs lev,.dead,.dead,.dead,.dead])],1⟩) (λy=>l.length-y.1) ⟨0,by omega,Z⟩ Z tR ⟨⟨au Z,⟨Z,Z⟩,au Z,Z,Z,tR⟩,⟨⟨ah Z,Z,Z,Z,Z,tR⟩,tR⟩,Z⟩ (λy=>?_)
 obtain⟨i,hi,hsame⟩:=y
 change Go C _ ⟨[(1,iT l),(2,.ptr 0 0),(12,iT l),(13,vi (l.length:Int)),(14,vi (i:Int))],[(0,.box [vSs lev,.dead,.dead,.dead,.dead])],1⟩ _
 refine x.cond Z tR (λh1=>?_) (λh1=>?_)
 ·have h1:i<l.length:=by have:=afH h1;omega
  have hsz:(l.getD i aL).1.size≤9223372036854775807:=hz _ (by rw[afE,afG h1];exact List.getElem_mem h1)
  rw[mZ h1] at hsame
  have h0:=U9 h1
  refine x.pure Z (by simp only[ak];omega) Z (pV l (l.getD i aL).1 hl0) ⟨au Z,Z,Z,tR⟩ ?_
  refine x.pure Z tR Z (yV (l.getD i aL).1 hsz) ⟨Z,tR⟩ ?_
  refine x.cond Z tR (λh2=>?_) (λh2=>?_)
  ·have h2:(((!gF (l.getD i aL).1||!decide ((if 0 > eY l (l.getD i aL).1 then 0 else eY l (l.getD i aL).1)=(i:Int)))||decide ((l.getD i aL).2<0))||decide ((lev.length:Int)≤(l.getD i aL).2))=true:=h2
   rw[if_neg (by omega)] at h2
   have e:y8 lev.length l i=false:=by
    rw[←KE h2]
    unfold y8
    rw[Bool.not_not,show (!decide ((l.getD i aL).2<0))=decide (0≤(l.getD i aL).2) by rw[←decide_not,decide_eq_decide];omega,show (!decide ((lev.length:Int)≤(l.getD i aL).2))=decide ((l.getD i aL).2<(lev.length:Int)) by rw[←decide_not,decide_eq_decide];omega]
   refine x.exit Z tR ⟨.inr Z,?_,tR,Z⟩
   rw[e,Bool.false_and] at hsame
   rw[ku,←hsame,Bool.and_false];exact Z
  ·have h2:(((!gF (l.getD i aL).1||!decide ((if 0 > eY l (l.getD i aL).1 then 0 else eY l (l.getD i aL).1)=(i:Int)))||decide ((l.getD i aL).2<0))||decide ((lev.length:Int)≤(l.getD i aL).2))=false:=h2
   rw[if_neg (by omega)] at h2
   simp only[afU,Bool.not_eq_false',afP,afL] at h2
   obtain⟨⟨⟨e1,e2⟩,e3⟩,e4⟩:=h2
   have e:y8 lev.length l i=true:=by
    unfold y8
    rw[e1,decide_eq_true e2,decide_eq_true (show 0≤(l.getD i aL).2 by omega),decide_eq_true (show (l.getD i aL).2<(lev.length:Int) by omega)];rfl
   rw[e,Bool.true_and] at hsame
   refine x.back Z ?_ ⟨⟨i+1,by omega,hsame⟩,by show l.length-(i+1)<l.length-i;omega,⟨au Z,⟨Z,Z⟩,au Z,Z,(show aB (vi ((i:Int)+1)) (vi ((i+1:Nat):Int)) by rw[afQ];rfl),tR⟩,⟨⟨ah Z,Z,Z,Z,Z,tR⟩,tR⟩,Z⟩
   simp only[ak,aj];omega
 ·have h1:i=l.length:=by have:=afI h1;omega
  refine x.exit Z tR ⟨.inr Z,?_,tR,Z⟩
  rw[h1,Nat.sub_self] at hsame
  rw[ku,←hsame,decide_eq_true hle];exact Z
structure Ie(p:Pol):Prop extends PolSz p where
 ae9:∀s∈p.lev,s.size≤9223372036854775807
 afa:∀c∈p.ins,c.1.size≤9223372036854775807
 abn:∀c∈p.outs,c.1.size≤9223372036854775807
theorem DJ(p:Pol)(h:Ie p):Pure PG 21 [qB p] (vb (dQ p)) []:=by
 obtain⟨i1,i2,i3,i4⟩:=oO h.toPolSz
 refine aD.mk (cfg 63) av [] Tryz.func21 Z (by kernel_rfl) Z Z Z ?_
 intro C x
 refine x.bK Z tR Z (λ_=>DC p.up i2) Z ⟨au Z,tR⟩ ?_
 have e0:decide ((p.up.length:Int)=(p.lev.length:Int))=decide (p.lev.length=p.up.length):=by rw[decide_eq_decide];omega
 refine x.cond Z tR (λh1=>?_) (λh1=>?_)
 ·have h1:(((!decide ((p.up.length:Int)=(p.lev.length:Int))||!dW p.up)||decide (p.depth<1))||decide (64<p.depth))=true:=h1
  refine x.exit Z tR ⟨.inr Z,?_,tR,Z⟩
  rw[e0] at h1
  have e:=KE h1
  rw[Bool.not_not,show (!decide (p.depth<1))=decide (1≤p.depth) by rw[←decide_not,decide_eq_decide];omega,show (!decide (64<p.depth))=decide (p.depth≤64) by rw[←decide_not,decide_eq_decide];omega] at e
  rw[dQ,DI,e];exact Z
 have h1:(((!decide ((p.up.length:Int)=(p.lev.length:Int))||!dW p.up)||decide (p.depth<1))||decide (64<p.depth))=false:=h1
 simp only[afU,Bool.not_eq_false',afP,afL] at h1
 obtain⟨⟨⟨e1,e2⟩,e3⟩,e4⟩:=h1
 have eh:DI p=true:=by
  unfold DI
  rw[e2,decide_eq_true (show p.lev.length=p.up.length by omega),decide_eq_true (show 1≤p.depth by omega),decide_eq_true (show p.depth≤64 by omega)];rfl
 have hl:=i1
 unfold aj at hl
 refine x.loop (α:={i:Nat // i≤p.lev.length∧fK (y9 p.lev) (p.lev.length-i) i=fK (y9 p.lev) p.lev.length 0}) (λy=>⟨[(1,.ptr 0 0),(31,vSs p.lev),(32,vi (p.lev.length:Int)),(33,vi (y.1:Int))],[(0,j3 p)],1⟩) (λy=>p.lev.length-y.1) ⟨0,by omega,Z⟩ Z tR ⟨⟨⟨Z,Z⟩,au Z,Z,Z,tR⟩,⟨bL p,tR⟩,Z⟩ (λy=>?_)
 obtain⟨i,hi,hsame⟩:=y
 change Go C _ ⟨[(1,.ptr 0 0),(31,vSs p.lev),(32,vi (p.lev.length:Int)),(33,vi (i:Int))],[(0,j3 p)],1⟩ _
 refine x.cond Z tR (λh1=>?_) (λh1=>?_)
 ·have h1:i<p.lev.length:=by have:=afH h1;omega
  have hsz:(p.lev.getD i .empty).size≤9223372036854775807:=h.ae9 _ (by rw[afE,afG h1];exact List.getElem_mem h1)
  rw[mZ h1] at hsame
  have h0:=Va h1
  refine x.pure Z (by simp only[ak];omega) Z (jM p.lev (p.lev.getD i .empty) i1) ⟨⟨ah Z,Z,Z,Z,Z,tR⟩,Z,tR⟩ ?_
  refine x.pure Z tR Z (yV (p.lev.getD i .empty) hsz) ⟨Z,tR⟩ ?_
  refine x.cond Z tR (λh2=>?_) (λh2=>?_)
  ·have h2:(!gF (p.lev.getD i .empty)||!decide ((if 0 > bE p.lev (p.lev.getD i .empty) then 0 else bE p.lev (p.lev.getD i .empty))=(i:Int)))=true:=h2
   rw[if_neg (by omega)] at h2
   have e:y9 p.lev i=false:=by
    unfold y9
    rw[←Bool.not_and,afR] at h2
    exact h2
   refine x.exit Z tR ⟨.inr Z,?_,tR,Z⟩
   rw[e,Bool.false_and] at hsame
   rw[dQ,←hsame,Bool.and_false];exact Z
  ·have h2:(!gF (p.lev.getD i .empty)||!decide ((if 0 > bE p.lev (p.lev.getD i .empty) then 0 else bE p.lev (p.lev.getD i .empty))=(i:Int)))=false:=h2
   rw[if_neg (by omega)] at h2
   have e:y9 p.lev i=true:=by
    unfold y9
    rw[←Bool.not_and,Bool.not_eq_false'] at h2
    exact h2
   rw[e,Bool.true_and] at hsame
   refine x.back Z ?_ ⟨⟨i+1,by omega,hsame⟩,by show p.lev.length-(i+1)<p.lev.length-i;omega,⟨⟨Z,Z⟩,au Z,Z,(show aB (vi ((i:Int)+1)) (vi ((i+1:Nat):Int)) by rw[afQ];rfl),tR⟩,⟨bL p,tR⟩,Z⟩
   simp only[ak,aj];omega
 ·have h1:i=p.lev.length:=by have:=afI h1;omega
  rw[h1,Nat.sub_self] at hsame
  have e:dQ p=(ku p.lev.length p.ins&&ku p.lev.length p.outs):=by rw[dQ,←hsame,eh];rfl
  refine x.pure Z tR Z (Gu p.lev p.ins i1 i3 h.afa) ⟨⟨ah Z,Z,Z,Z,Z,tR⟩,au Z,tR⟩ ?_
  refine x.bK Z tR Z (λ_=>Gu p.lev p.outs i1 i4 h.abn) Z ⟨⟨ah Z,Z,Z,Z,Z,tR⟩,au Z,tR⟩ ?_
  refine x.exit Z tR ⟨.inr Z,?_,tR,Z⟩
  rw[e];exact Z
structure Op9 where
 kind:Int
 op:Int
 dst:Int
 ref:Int
 alt:Int
 args:List Int
 frm:List Int
 num:Int
 at_:Int
structure Bod where
 params:Int
 vars:Int
 blocks:List (List Op9)
abbrev Cel:=Int×Int
structure Cod where
 arrays:List Cel
 funcs:List Bod
 main:Int
def op0:Op9:=⟨0,0,0,0,0,[],[],0,0⟩
def aA:Bod:=⟨0,0,[]⟩
def bB:Cel:=(0,0)
def afb:Cod:=⟨[],[],0⟩
abbrev Flt(α:Type):=Except (Int×Int) α
def bd{α β:Type}(r:Flt α)(k:α->Flt β):Flt β:=
 match r with
 | .error e=>.error e
 | .ok a=>k a
theorem mM{α β:Type}{r:Flt α}{k:α->Flt β}{b:β}(h:bd r k=.ok b):∃a,r=.ok a∧k a=.ok b:=by
 cases r with
 | error e=>cases h
 | ok a=>exact⟨a,rfl,h⟩
def iB(acc:List BY):List (BY×Int)->Flt (List BY)
 | []=>.ok acc
 | (s,a)::r=>if posB acc s=true then .error (a,9) else iB (acc++[s]) r
def jO(l:List BY)(s:BY)(a:Int):Flt Int:=if posB l s=true then .ok (dJ l s) else .error (a,10)
def gJ(n a:Int):Flt Int:=if 0≤n then .ok n else .error (a,10)
structure Res where
 p:Pol
 q:Prg
 Ig:List BY
 fns:List BY
structure Scp where
 blks:List BY
 vals:List BY
def qC:Scp:=⟨[],[]⟩
def j5(k:Int):Bool:=decide (11≤k)
def qQ(r:Res)(s:Scp)(x:Ins):Flt (Int×Int):=
 if x.kind=4∨x.kind=5∨x.kind=6 then bd (jO r.Ig x.ref x.at_) λn=>.ok (n,0)
 else if x.kind=7 then bd (jO r.fns x.ref x.at_) λn=>.ok (n,0)
 else if x.kind=8 then bd (gJ (eY r.p.ins x.ref) x.at_) λn=>.ok (n,0)
 else if x.kind=9 then bd (gJ (eY r.p.outs x.ref) x.at_) λn=>.ok (n,0)
 else if x.kind=10 then bd (gJ (bE r.p.lev x.ref) x.at_) λn=>.ok (n,0)
 else if x.kind=11 then bd (jO s.blks x.ref x.at_) λn=>.ok (n,0)
 else if x.kind=12 then bd (jO s.blks x.ref x.at_) λn=>bd (jO s.blks x.alt x.at_) λm=>.ok (n,m)
 else .ok (0,0)
def iD(l:List BY)(a:Int):List BY->List Int->Flt (List Int)
 | [],acc=>.ok acc
 | s::r,acc=>bd (jO l s a) λn=>iD l a r (acc++[n])
def qR(q:Prg)(n:Int):Nat:=(q.funcs.getD n.toNat bG).params.length
def Cb(r:Res)(s:Scp)(x:Ins):Flt Op9:=
 bd (qQ r s x) λra=>bd (iD s.vals x.at_ x.args []) λaz=>bd (iD s.blks x.at_ x.frm []) λfs=>
  if x.kind=7∧x.args.length≠qR r.q ra.1 then .error (x.at_,13)
  else .ok ⟨x.kind,x.op,if x.dst.data.toList=[] then -1 else dJ s.vals x.dst,ra.1,ra.2,az,fs,x.num,x.at_⟩
def Ai(r:Res)(s:Scp)(code:List Ins)(i:Nat):Flt Op9:=
 if j5 (code.getD i (aP 0)).kind=true∧i+1≠code.length then .error ((code.getD i (aP 0)).at_,15)
 else if (code.getD i (aP 0)).kind=3∧i≠0∧(code.getD (i-1) (aP 0)).kind≠3 then .error ((code.getD i (aP 0)).at_,18)
 else Cb r s (code.getD i (aP 0))
def KF(r:Res)(s:Scp)(code:List Ins):Nat->Nat->List Op9->Flt (List Op9)
 | 0,_,acc=>.ok acc
 | f+1,i,acc=>bd (Ai r s code i) λy=>KF r s code f (i+1) (acc++[y])
def Gv(b:Blk):Bool:=decide (1≤b.code.length)&&j5 (b.code.getD (b.code.length-1) (aP 0)).kind
def yc(r:Res)(s:Scp)(b:Blk):Flt (List Op9):=
 if Gv b=true then KF r s b.code b.code.length 0 [] else .error (b.at_,15)
def Cc(l:List Ins):List (BY×Int):=l.filterMap λx=>if x.dst.data.toList=[] then none else some (x.dst,x.at_)
def p8(bs:List Blk):List (BY×Int):=bs.flatMap λb=>Cc b.code
def KG(f:Fun):Flt Scp:=
 bd (iB [] (f.params.map λs=>(s,f.at_))) λvs=>bd (iB [] (f.blocks.map λb=>(b.name,b.at_))) λbs=>bd (iB vs (p8 f.blocks)) λvs'=>.ok ⟨bs,vs'⟩
def nW(p:Pol):List Arr->List BY->List Cel->Flt (List BY×List Cel)
 | [],acc,cs=>.ok (acc,cs)
 | a::r,acc,cs=>if posB acc a.name=true then .error (a.at_,9) else bd (gJ (bE p.lev a.level) a.at_) λk=>nW p r (acc++[a.name]) (cs++[(a.size,k)])
def wH:List Fun->List Scp->Flt (List Scp)
 | [],acc=>.ok acc
 | f::r,acc=>bd (KG f) λs=>wH r (acc++[s])
def rJ(r:Res)(s:Scp):List Blk->List (List Op9)->Flt (List (List Op9))
 | [],acc=>.ok acc
 | b::l,acc=>bd (yc r s b) λy=>rJ r s l (acc++[y])
def Vb(r:Res)(s:Scp)(f:Fun):Flt Bod:=bd (rJ r s f.blocks []) λbs=>.ok ⟨(f.params.length:Int),(s.vals.length:Int),bs⟩
def sJ(r:Res)(ss:List Scp):List Fun->Nat->List Bod->Flt (List Bod)
 | [],_,acc=>.ok acc
 | f::l,i,acc=>bd (Vb r (ss.getD i qC) f) λb=>sJ r ss l (i+1) (acc++[b])
abbrev eH:BY:=⟨#[109,97,105,110]⟩
def Gw(q:Prg)(fn:List BY):Bool:=posB fn eH&&decide ((qR q (dJ fn eH):Int)=0)
def Gx(p:Pol)(q:Prg):Flt Cod:=
 bd (nW p q.arrays [] []) λac=>bd (iB [] (q.funcs.map λf=>(f.name,f.at_))) λfn=>
  if Gw q fn=true then bd (wH q.funcs []) λss=>bd (sJ ⟨p,q,ac.1,fn⟩ ss q.funcs 0 []) λbs=>.ok ⟨ac.2,bs,dJ fn eH⟩ else .error (0,14)
def codO:Flt Cod->Cod×Int×Int
 | .ok c=>(c,0,0)
 | .error (a,e)=>(afb,a,e)
def iG(p:Pol)(q:Prg):Cod×Int×Int:=if (dQ p&&rightG q)=true then codO (Gx p q) else (afb,0,1)
abbrev gY(l:List Int):D:=.sl 1 l.length λi=>[.int .i64 (l.getD i 0)]
abbrev dOp(y:Op9):List D:=[.int .u8 y.kind,.int .u8 y.op,.int .i64 y.dst,.int .i64 y.ref,.int .i64 y.alt,gY y.args,gY y.frm,.int .i64 y.num,.int .i64 y.at_]
abbrev opW(y:Op9):V:=.agg [.d (.int .u8 y.kind),.d (.int .u8 y.op),vi y.dst,vi y.ref,vi y.alt,.d (gY y.args),.d (gY y.frm),vi y.num,vi y.at_]
abbrev tY(l:List Op9):D:=.sl 9 l.length λi=>dOp (l.getD i op0)
abbrev p9(l:List (List Op9)):D:=.sl 1 l.length λi=>[tY (l.getD i [])]
abbrev za(b:Bod):List D:=[.int .i64 b.params,.int .i64 b.vars,p9 b.blocks]
abbrev dL(l:List Bod):D:=.sl 3 l.length λi=>za (l.getD i aA)
abbrev dR(l:List Cel):D:=.sl 2 l.length λi=>[.int .i64 (l.getD i bB).1,.int .i64 (l.getD i bB).2]
abbrev rM(c:Cod):V:=.agg [.d (dR c.arrays),.d (dL c.funcs),vi c.main]
abbrev wI:Nat:=118
abbrev Ny(at_ e:Int):Out:=.die wI [(.i64,at_),(.i64,e)]
theorem kP(a e:Int):Pure PG 51 [vb true,vi a,vi e] (.tup []) []:=by
 refine aD.mk (cfg 12) av [] Tryz.func51 Z (by kernel_rfl) Z Z Z ?_
 intro C x
 refine x.cond Z tR (λh=>?_) (λh=>?_)
 ·cases (show false=true from h)
 ·exact x.exit Z tR ⟨.inl Z,tR,tR,Z⟩
theorem jf(a e:Int):Hz PG 51 [vb false,vi a,vi e] [] wI [(.i64,a),(.i64,e)]:=by
 refine aX.mk (out:=Ny a e) (cfg 12) av [] Tryz.func51 Z (by kernel_rfl) Z Z Z ?_
 intro C x
 refine x.cond Z tR (λh=>?_) (λh=>?_)
 ·exact x.raise Z tR Z Z Z ⟨Z,Z⟩
 ·cases (show true=false from h)
theorem look_ok{l:List BY}{s:BY}(h:posB l s=true)(a:Int):Pure PG 158 [.d (.mp l),vs s,vi a] (vi (dJ l s)) []:=by
 refine aD.mk (cfg 19) av [] Tryz.func158 Z (by kernel_rfl) Z Z Z ?_
 intro C x
 refine x.pure Z tR Z (kP a 10) ⟨(show aB (vb (posB l s)) (vb true) by rw[h];exact Z),Z,Z,tR⟩ ?_
 exact x.exit Z tR ⟨.inr Z,Z,tR,Z⟩
theorem qc{l:List BY}{s:BY}(h:posB l s=false)(a:Int):Hz PG 158 [.d (.mp l),vs s,vi a] [] wI [(.i64,a),(.i64,10)]:=by
 refine aX.mk (out:=Ny a 10) (cfg 19) av [] Tryz.func158 Z (by kernel_rfl) Z Z Z ?_
 intro C x
 exact x.die [] Z tR Z (jf a 10) ⟨(show aB (vb (posB l s)) (vb false) by rw[h];exact Z),Z,Z,tR⟩ Z tR ⟨Z,Z⟩
theorem Aj(n a:Int):Pure PG 53 [vi n,vb true,vi a] (vi n) []:=by
 refine aD.mk (cfg 11) av [] Tryz.func53 Z (by kernel_rfl) Z Z Z ?_
 intro C x
 refine x.pure Z tR Z (kP a 10) ⟨Z,Z,Z,tR⟩ ?_
 exact x.exit Z tR ⟨.inr Z,Z,tR,Z⟩
theorem xu(n a:Int):Hz PG 53 [vi n,vb false,vi a] [] wI [(.i64,a),(.i64,10)]:=by
 refine aX.mk (out:=Ny a 10) (cfg 11) av [] Tryz.func53 Z (by kernel_rfl) Z Z Z ?_
 intro C x
 exact x.die [] Z tR Z (jf a 10) ⟨Z,Z,Z,tR⟩ Z tR ⟨Z,Z⟩
theorem xw(k:Int):Pure PG 108 [.d (.int .u8 k)] (vb (j5 k)) []:=by
 refine aD.mk (cfg 5) av [] Tryz.func108 Z (by kernel_rfl) Z Z Z ?_
 intro C x
 exact x.exit Z tR ⟨.inr Z,Z,tR,Z⟩
theorem R6(s:BY):Pure PG 103 [vs s] (vs s) []:=by
 refine aD.mk (cfg 4) av [] Tryz.func103 Z (by kernel_rfl) Z Z Z ?_
 intro C x
 exact x.exit Z tR ⟨.inr Z,Z,tR,Z⟩
abbrev fnC(f:Fun):Ch:=.box [vs f.name,.d (aZ f.params),.d (gQ f.blocks),vi f.at_]
theorem zh(f:Fun):mE (fnC f) (fnC f):=⟨Z,ah Z,ah Z,Z,tR⟩
theorem Yl(f:Fun)(s:BY):aD PG 104 1 [vs s,.ptr 0 0] [fnC f] (vi f.at_) [fnC f]:=by
 refine aD.mk (dM 6 1) av [0] Tryz.func104 Z (by kernel_rfl) Z Z Z ?_
 intro C x
 exact x.exit Z tR ⟨.inr Z,Z,⟨zh f,tR⟩,Z⟩
abbrev acL(b:Blk):V:=.agg [vs b.name,.d (nN b.code),vi b.at_]
theorem Nz(b:Blk):Pure PG 106 [acL b] (vs b.name) []:=by
 refine aD.mk (cfg 5) av [] Tryz.func106 Z (by kernel_rfl) Z Z Z ?_
 intro C x
 exact x.exit Z tR ⟨.inr Z,Z,tR,Z⟩
theorem Ym(b:Blk):Pure PG 107 [acL b] (vi b.at_) []:=by
 refine aD.mk (cfg 5) av [] Tryz.func107 Z (by kernel_rfl) Z Z Z ?_
 intro C x
 exact x.exit Z tR ⟨.inr Z,Z,tR,Z⟩
theorem NA(f:Fun):Pure PG 55 [fnV f] (vs f.name) []:=by
 refine aD.mk (cfg 5) av [] Tryz.func55 Z (by kernel_rfl) Z Z Z ?_
 intro C x
 exact x.exit Z tR ⟨.inr Z,Z,tR,Z⟩
theorem Yn(f:Fun):Pure PG 56 [fnV f] (vi f.at_) []:=by
 refine aD.mk (cfg 5) av [] Tryz.func56 Z (by kernel_rfl) Z Z Z ?_
 intro C x
 exact x.exit Z tR ⟨.inr Z,Z,tR,Z⟩
structure NmW (L:List (BY×Int)) (R:Flt (List BY)) where
 i:Nat
 acc:List BY
 hi:i≤L.length
 ha:acc.length=i
 same:iB acc (L.drop i)=R
theorem Gy{L:List (BY×Int)}{acc:List BY}{i:Nat}(h:i<L.length){s:BY}{a:Int}(e:L[i]?=some (s,a)):iB acc (L.drop i)=if posB acc s=true then .error (a,9) else iB (acc++[s]) (L.drop (i+1)):=by
 rw[List.drop_eq_getElem_cons h]
 rw[afG h] at e
 rw[afK e,iB]
abbrev nmO(H:List Ch)(r:V):Flt (List BY)->Out
 | .ok o=>.ret r (H++[.pos o])
 | .error (a,e)=>Ny a e
theorem Vd(f:Fun)(hl:f.params.length*16≤140737488355328):aX PG 102 1 [.d (aZ f.params),.fn 103 [],.fn 104 [.ptr 0 0]] [fnC f] (nmO [fnC f] (.own 1) (iB [] (f.params.map λs=>(s,f.at_)))):=by
 obtain⟨L,hL⟩:∃L,f.params.map (λs=>(s,f.at_))=L:=⟨_,Z⟩
 have hLl:L.length=f.params.length:=by rw[←hL];simp
 have hLi:∀i,i<f.params.length->L[i]?=some (f.params.getD i .empty,f.at_):=λi hi=>by rw[←hL,List.getElem?_map,afE,afG hi];rfl
 rw[hL]
 obtain⟨R,hR⟩:∃R,iB [] L=R:=⟨_,Z⟩
 rw[hR]
 refine aX.mk (dM 41 1) av [0,1] Tryz.func102 rfl (by kernel_rfl) rfl rfl (by rcases R with⟨a,e⟩ | o<;>rfl) ?_
 intro C x
 refine x.loop (α:=NmW L R) (λy=>⟨[(1,.fn 103 []),(2,.fn 104 [.ptr 0 0]),(7,.own 1),(13,.d (aZ f.params)),(14,vi (f.params.length:Int)),(15,vi (y.i:Int))],[(0,fnC f),(1,.pos y.acc)],2⟩) (λy=>f.params.length-y.i) ⟨0,[],Nat.zero_le _,Z,hR⟩ Z tR ⟨⟨Z,Z,Z,au Z,Z,Z,tR⟩,⟨zh f,tR,tR⟩,Z⟩ (λy=>?_)
 obtain⟨i,acc,hi,ha,same⟩:=y
 change Go C _ ⟨[(1,.fn 103 []),(2,.fn 104 [.ptr 0 0]),(7,.own 1),(13,.d (aZ f.params)),(14,vi (f.params.length:Int)),(15,vi (i:Int))],[(0,fnC f),(1,.pos acc)],2⟩ _
 refine x.cond Z tR (λh1=>?_) (λh1=>?_)
 rotate_left
 ·have h1:i=f.params.length:=by have:=afI h1;omega
  rw[List.drop_of_length_le (by omega),iB] at same
  subst same
  exact x.exit Z tR ⟨.inr Z,Z,⟨zh f,Z,tR⟩,Z⟩
 have h1:i<f.params.length:=by have:=afH h1;omega
 rw[Gy (by omega) (hLi i h1)] at same
 refine x.pure Z (by simp only[ak];omega) Z (R6 (f.params.getD i .empty)) ⟨Z,tR⟩ ?_
 refine x.call [0] Z tR Z (Yl f (f.params.getD i .empty)) Z ⟨Z,⟨Z,Z⟩,tR⟩ ⟨zh f,tR⟩ ?_
 cases hp:posB acc (f.params.getD i .empty) with
 | true=>
  rw[hp,if_pos rfl] at same
  subst same
  exact x.die [] Z tR Z (jf f.at_ 9) ⟨Z,Z,Z,tR⟩ Z tR ⟨Z,Z⟩
 | false=>
  rw[hp,if_neg (by simp)] at same
  refine x.pure Z tR Z (kP f.at_ 9) ⟨Z,Z,Z,tR⟩ ?_
  refine x.pure Z tR Z (R6 (f.params.getD i .empty)) ⟨Z,tR⟩ ?_
  refine x.back Z (by refine⟨hp,by rw[ha],?_⟩;simp only[ak,aj];omega) ⟨⟨i+1,acc++[f.params.getD i .empty],by omega,by simp [ha],same⟩,by show f.params.length-(i+1)<f.params.length-i;omega,⟨Z,Z,Z,au Z,Z,(show aB (vi ((i:Int)+1)) (vi ((i+1:Nat):Int)) by rw[afQ];rfl),tR⟩,⟨zh f,Z,tR⟩,Z⟩
theorem Ve(bs:List Blk)(hl:bs.length*48≤140737488355328):aX PG 105 0 [.d (gQ bs),.fn 106 [],.fn 107 []] [] (nmO [] (.own 0) (iB [] (bs.map λb=>(b.name,b.at_)))):=by
 obtain⟨L,hL⟩:∃L,bs.map (λb=>(b.name,b.at_))=L:=⟨_,Z⟩
 have hLl:L.length=bs.length:=by rw[←hL];simp
 have hLi:∀i,i<bs.length->L[i]?=some ((bs.getD i bq).name,(bs.getD i bq).at_):=λi hi=>by rw[←hL,List.getElem?_map,afE,afG hi];rfl
 rw[hL]
 obtain⟨R,hR⟩:∃R,iB [] L=R:=⟨_,Z⟩
 rw[hR]
 refine aX.mk (cfg 41) av [0] Tryz.func105 rfl (by kernel_rfl) rfl rfl (by rcases R with⟨a,e⟩ | o<;>rfl) ?_
 intro C x
 refine x.loop (α:=NmW L R) (λy=>⟨[(1,.fn 106 []),(2,.fn 107 []),(7,.own 0),(13,.d (gQ bs)),(14,vi (bs.length:Int)),(15,vi (y.i:Int))],[(0,.pos y.acc)],1⟩) (λy=>bs.length-y.i) ⟨0,[],Nat.zero_le _,Z,hR⟩ Z tR ⟨⟨Z,Z,Z,au Z,Z,Z,tR⟩,⟨tR,tR⟩,Z⟩ (λy=>?_)
 obtain⟨i,acc,hi,ha,same⟩:=y
 change Go C _ ⟨[(1,.fn 106 []),(2,.fn 107 []),(7,.own 0),(13,.d (gQ bs)),(14,vi (bs.length:Int)),(15,vi (i:Int))],[(0,.pos acc)],1⟩ _
 refine x.cond Z tR (λh1=>?_) (λh1=>?_)
 rotate_left
 ·have h1:i=bs.length:=by have:=afI h1;omega
  rw[List.drop_of_length_le (by omega),iB] at same
  subst same
  exact x.exit Z tR ⟨.inr Z,Z,⟨Z,tR⟩,Z⟩
 have h1:i<bs.length:=by have:=afH h1;omega
 rw[Gy (by omega) (hLi i h1)] at same
 refine x.pure Z (by simp only[ak];omega) Z (Nz (bs.getD i bq)) ⟨⟨Z,ah Z,Z,tR⟩,tR⟩ ?_
 refine x.pure Z tR Z (Ym (bs.getD i bq)) ⟨⟨Z,ah Z,Z,tR⟩,tR⟩ ?_
 cases hp:posB acc (bs.getD i bq).name with
 | true=>
  rw[hp,if_pos rfl] at same
  subst same
  exact x.die [] Z tR Z (jf (bs.getD i bq).at_ 9) ⟨Z,Z,Z,tR⟩ Z tR ⟨Z,Z⟩
 | false=>
  rw[hp,if_neg (by simp)] at same
  refine x.pure Z tR Z (kP (bs.getD i bq).at_ 9) ⟨Z,Z,Z,tR⟩ ?_
  refine x.pure Z tR Z (Nz (bs.getD i bq)) ⟨⟨Z,ah Z,Z,tR⟩,tR⟩ ?_
  refine x.back Z (by refine⟨hp,by rw[ha],?_⟩;simp only[ak,aj];omega) ⟨⟨i+1,acc++[(bs.getD i bq).name],by omega,by simp [ha],same⟩,by show bs.length-(i+1)<bs.length-i;omega,⟨Z,Z,Z,au Z,Z,(show aB (vi ((i:Int)+1)) (vi ((i+1:Nat):Int)) by rw[afQ];rfl),tR⟩,⟨Z,tR⟩,Z⟩
theorem Vf(bs:List Fun)(hl:bs.length*72≤140737488355328):aX PG 54 0 [.d (dn bs),.fn 55 [],.fn 56 []] [] (nmO [] (.own 0) (iB [] (bs.map λb=>(b.name,b.at_)))):=by
 obtain⟨L,hL⟩:∃L,bs.map (λb=>(b.name,b.at_))=L:=⟨_,Z⟩
 have hLl:L.length=bs.length:=by rw[←hL];simp
 have hLi:∀i,i<bs.length->L[i]?=some ((bs.getD i bG).name,(bs.getD i bG).at_):=λi hi=>by rw[←hL,List.getElem?_map,afE,afG hi];rfl
 rw[hL]
 obtain⟨R,hR⟩:∃R,iB [] L=R:=⟨_,Z⟩
 rw[hR]
 refine aX.mk (cfg 41) av [0] Tryz.func54 rfl (by kernel_rfl) rfl rfl (by rcases R with⟨a,e⟩ | o<;>rfl) ?_
 intro C x
 refine x.loop (α:=NmW L R) (λy=>⟨[(1,.fn 55 []),(2,.fn 56 []),(7,.own 0),(13,.d (dn bs)),(14,vi (bs.length:Int)),(15,vi (y.i:Int))],[(0,.pos y.acc)],1⟩) (λy=>bs.length-y.i) ⟨0,[],Nat.zero_le _,Z,hR⟩ Z tR ⟨⟨Z,Z,Z,au Z,Z,Z,tR⟩,⟨tR,tR⟩,Z⟩ (λy=>?_)
 obtain⟨i,acc,hi,ha,same⟩:=y
 change Go C _ ⟨[(1,.fn 55 []),(2,.fn 56 []),(7,.own 0),(13,.d (dn bs)),(14,vi (bs.length:Int)),(15,vi (i:Int))],[(0,.pos acc)],1⟩ _
 refine x.cond Z tR (λh1=>?_) (λh1=>?_)
 rotate_left
 ·have h1:i=bs.length:=by have:=afI h1;omega
  rw[List.drop_of_length_le (by omega),iB] at same
  subst same
  exact x.exit Z tR ⟨.inr Z,Z,⟨Z,tR⟩,Z⟩
 have h1:i<bs.length:=by have:=afH h1;omega
 rw[Gy (by omega) (hLi i h1)] at same
 refine x.pure Z (by simp only[ak];omega) Z (NA (bs.getD i bG)) ⟨⟨Z,ah Z,ah Z,Z,tR⟩,tR⟩ ?_
 refine x.pure Z tR Z (Yn (bs.getD i bG)) ⟨⟨Z,ah Z,ah Z,Z,tR⟩,tR⟩ ?_
 cases hp:posB acc (bs.getD i bG).name with
 | true=>
  rw[hp,if_pos rfl] at same
  subst same
  exact x.die [] Z tR Z (jf (bs.getD i bG).at_ 9) ⟨Z,Z,Z,tR⟩ Z tR ⟨Z,Z⟩
 | false=>
  rw[hp,if_neg (by simp)] at same
  refine x.pure Z tR Z (kP (bs.getD i bG).at_ 9) ⟨Z,Z,Z,tR⟩ ?_
  refine x.pure Z tR Z (NA (bs.getD i bG)) ⟨⟨Z,ah Z,ah Z,Z,tR⟩,tR⟩ ?_
  refine x.back Z (by refine⟨hp,by rw[ha],?_⟩;simp only[ak,aj];omega) ⟨⟨i+1,acc++[(bs.getD i bG).name],by omega,by simp [ha],same⟩,by show bs.length-(i+1)<bs.length-i;omega,⟨Z,Z,Z,au Z,Z,(show aB (vi ((i:Int)+1)) (vi ((i+1:Nat):Int)) by rw[afQ];rfl),tR⟩,⟨Z,tR⟩,Z⟩
abbrev kX(r:Res):Ch:=.box [vSs r.p.lev,vU r.p.up,iT r.p.ins,iT r.p.outs,vi r.p.depth,.d (bV r.q.arrays),.d (dn r.q.funcs),.d (.mp r.Ig),.d (.mp r.fns)]
theorem aW(r:Res):mE (kX r) (kX r):=⟨ah Z,ah Z,ah Z,ah Z,Z,ah Z,ah Z,Z,Z,tR⟩
abbrev scW(s:Scp):V:=.agg [.d (.mp s.blks),.d (.mp s.vals)]
theorem Yo{b:List Ins}{j:Nat}(h:j<b.length):Cc (b.drop j)=(if (b.getD j (aP 0)).dst.data.toList=[] then [] else [((b.getD j (aP 0)).dst,(b.getD j (aP 0)).at_)])++Cc (b.drop (j+1)):=by
 have e:b[j]=b.getD j (aP 0):=by rw[afE,afG h];rfl
 rw[List.drop_eq_getElem_cons h,e,Cc,List.filterMap_cons]
 split<;>rename_i h1
 ·split at h1
  ·rename_i h2;rw[if_pos h2];rfl
  ·cases h1
 ·split at h1
  ·cases h1
  ·rename_i h2;rw[if_neg h2,←afK h1];rfl
theorem Vg{bs:List Blk}{i:Nat}(h:i<bs.length):p8 (bs.drop i)=Cc (bs.getD i bq).code++p8 (bs.drop (i+1)):=by
 have e:bs[i]=bs.getD i bq:=by rw[afE,afG h];rfl
 rw[List.drop_eq_getElem_cons h,e];rfl
structure SpW (bs:List Blk) (R:Flt (List BY)) where
 i:Nat
 acc:List BY
 hi:i≤bs.length
 same:iB acc (p8 (bs.drop i))=R
structure SpI (code:List Ins) (L:List (BY×Int)) (R:Flt (List BY)) where
 j:Nat
 acc:List BY
 hj:j≤code.length
 same:iB acc (Cc (code.drop j)++L)=R
abbrev spO(r:Res):Flt Scp->Out
 | .ok s=>.ret (scW s) [kX r]
 | .error (a,e)=>Ny a e
structure R7(f:Fun):Prop where
 p:f.params.length*16≤140737488355328
 b:f.blocks.length*48≤140737488355328
 c:∀b∈f.blocks,b.code.length*120≤140737488355328
theorem R7.at{f:Fun}(h:R7 f)(i:Nat):(f.blocks.getD i bq).code.length*120≤140737488355328:=by
 by_cases hi:i<f.blocks.length
 ·rw[afE,afG hi];exact h.c _ (List.getElem_mem hi)
 ·rw[afE,List.getElem?_eq_none (by omega)];exact Nat.zero_le _
theorem Qt(r:Res)(f:Fun)(hf:R7 f):aX PG 57 1 [.ptr 0 0,fnV f] [kX r] (spO r (KG f)):=by
 have h1:=Vd f hf.p
 have h2:=Ve f.blocks hf.b
 obtain⟨P,hP⟩:∃P,iB [] (f.params.map λs=>(s,f.at_))=P:=⟨_,Z⟩
 obtain⟨B,hB⟩:∃B,iB [] (f.blocks.map λb=>(b.name,b.at_))=B:=⟨_,Z⟩
 rw[KG,hP,hB]
 rw[hP] at h1
 rw[hB] at h2
 refine aX.mk (dM 62 1) av [0] Tryz.func57 Z (by kernel_rfl) Z Z (by
  rcases P with⟨a,e⟩ | vs
  ·rfl
  rcases B with⟨a,e⟩ | bs
  ·rfl
  show Rv _ _ _ (spO r (bd (iB vs (p8 f.blocks)) _))=true
  rcases iB vs (p8 f.blocks) with⟨a,e⟩ | vs'<;>rfl) ?_
 intro C x
 rcases P with⟨a,e⟩ | vs
 ·exact x.die [1] Z tR Z h1 ⟨au Z,Z,Z,tR⟩ Z ⟨zh f,tR⟩ ⟨Z,Z⟩
 refine x.call [1] Z tR Z h1 Z ⟨au Z,Z,Z,tR⟩ ⟨zh f,tR⟩ ?_
 rcases B with⟨a,e⟩ | bs
 ·exact x.die [] Z tR Z h2 ⟨au Z,Z,Z,tR⟩ Z tR ⟨Z,Z⟩
 refine x.call [] Z tR Z h2 Z ⟨au Z,Z,Z,tR⟩ tR ?_
 refine x.toLoop Z tR ?_
 refine Sx.Go.freeze 4 ?_
 obtain⟨R,hR⟩:∃R,iB vs (p8 f.blocks)=R:=⟨_,Z⟩
 change Go C _ _ (gD _ _ _ (spO r (bd (iB vs (p8 f.blocks)) λvs'=>.ok ⟨bs,vs'⟩)))
 rw[hR]
 have hfb:=hf.b
 refine x.loop (α:=SpW f.blocks R) (λy=>⟨[(4,.ptr 2 0),(6,.ptr 5 0),(23,.d (gQ f.blocks)),(24,vi (f.blocks.length:Int)),(25,vi (y.i:Int))],[(0,kX r),(2,.box [.dead,.dead]),(3,.pos y.acc),(5,.box [.d (.mp bs),.own 3])],6⟩) (λy=>f.blocks.length-y.i) ⟨0,vs,Nat.zero_le _,hR⟩ Z tR ⟨⟨⟨Z,Z⟩,⟨Z,Z⟩,au Z,Z,Z,tR⟩,⟨aW r,⟨Z,Z,tR⟩,Z,⟨Z,Z,tR⟩,tR⟩,Z⟩ (λy=>?_)
 obtain⟨i,acc,hi,same⟩:=y
 change Go C _ ⟨[(4,.ptr 2 0),(6,.ptr 5 0),(23,.d (gQ f.blocks)),(24,vi (f.blocks.length:Int)),(25,vi (i:Int))],[(0,kX r),(2,.box [.dead,.dead]),(3,.pos acc),(5,.box [.d (.mp bs),.own 3])],6⟩ _
 refine x.cond Z tR (λh3=>?_) (λh3=>?_)
 rotate_left
 ·have h3:i=f.blocks.length:=by have:=afI h3;omega
  rw[List.drop_of_length_le (by omega),show p8 []=[] from rfl,iB] at same
  subst same
  refine Sx.Go.freeze 3 ?_
  exact x.exit Z tR ⟨.inr Z,⟨Z,Z,tR⟩,⟨aW r,tR⟩,Z⟩
 have h3:i<f.blocks.length:=by have:=afH h3;omega
 rw[Vg h3] at same
 have hfc:=hf.at i
 refine x.loop (α:=SpI (f.blocks.getD i bq).code (p8 (f.blocks.drop (i+1))) R) (λz=>⟨[(4,.ptr 2 0),(6,.ptr 5 0),(23,.d (gQ f.blocks)),(24,vi (f.blocks.length:Int)),(25,vi (i:Int)),(30,.d (nN (f.blocks.getD i bq).code)),(31,vi ((f.blocks.getD i bq).code.length:Int)),(32,vi (z.j:Int))],[(0,kX r),(2,.box [.dead,.dead]),(3,.pos z.acc),(5,.box [.d (.mp bs),.own 3])],6⟩) (λz=>(f.blocks.getD i bq).code.length-z.j) ⟨0,acc,Nat.zero_le _,by rw[List.drop_zero];exact same⟩ Z (by simp only[ak];omega) ⟨⟨⟨Z,Z⟩,⟨Z,Z⟩,au Z,Z,Z,au Z,Z,Z,tR⟩,⟨aW r,⟨Z,Z,tR⟩,Z,⟨Z,Z,tR⟩,tR⟩,Z⟩ (λz=>?_)
 clear same
 obtain⟨j,acc,hj,same⟩:=z
 change Go C _ ⟨[(4,.ptr 2 0),(6,.ptr 5 0),(23,.d (gQ f.blocks)),(24,vi (f.blocks.length:Int)),(25,vi (i:Int)),(30,.d (nN (f.blocks.getD i bq).code)),(31,vi ((f.blocks.getD i bq).code.length:Int)),(32,vi (j:Int))],[(0,kX r),(2,.box [.dead,.dead]),(3,.pos acc),(5,.box [.d (.mp bs),.own 3])],6⟩ _
 refine x.cond Z tR (λh4=>?_) (λh4=>?_)
 rotate_left
 ·have h4:j=(f.blocks.getD i bq).code.length:=by have:=afI h4;omega
  rw[List.drop_of_length_le (by omega)] at same
  exact x.back Z (by simp only[ak,aj];omega) ⟨⟨i+1,acc,by omega,same⟩,by show f.blocks.length-(i+1)<f.blocks.length-i;omega,⟨⟨Z,Z⟩,⟨Z,Z⟩,au Z,Z,(show aB (vi ((i:Int)+1)) (vi ((i+1:Nat):Int)) by rw[afQ];rfl),tR⟩,⟨aW r,⟨Z,Z,tR⟩,Z,⟨Z,Z,tR⟩,tR⟩,Z⟩
 have h4:j<(f.blocks.getD i bq).code.length:=by have:=afH h4;omega
 rw[Yo h4] at same
 refine x.cond Z (by simp only[ak];omega) (λh5=>?_) (λh5=>?_)
 ·have h5:((f.blocks.getD i bq).code.getD j (aP 0)).dst.data.toList=[]:=afH h5
  rw[if_pos h5,List.nil_append] at same
  exact x.back Z (by simp only[ak,aj];omega) ⟨⟨j+1,acc,by omega,same⟩,by show (f.blocks.getD i bq).code.length-(j+1)<(f.blocks.getD i bq).code.length-j;omega,⟨⟨Z,Z⟩,⟨Z,Z⟩,au Z,Z,Z,au Z,Z,(show aB (vi ((j:Int)+1)) (vi ((j+1:Nat):Int)) by rw[afQ];rfl),tR⟩,⟨aW r,⟨Z,Z,tR⟩,Z,⟨Z,Z,tR⟩,tR⟩,Z⟩
 have h5:¬((f.blocks.getD i bq).code.getD j (aP 0)).dst.data.toList=[]:=afI h5
 rw[if_neg h5] at same
 have same:iB acc ((((f.blocks.getD i bq).code.getD j (aP 0)).dst,((f.blocks.getD i bq).code.getD j (aP 0)).at_)::(Cc ((f.blocks.getD i bq).code.drop (j+1))++p8 (f.blocks.drop (i+1))))=R:=same
 rw[iB] at same
 cases hp:posB acc ((f.blocks.getD i bq).code.getD j (aP 0)).dst with
 | true=>
  rw[hp,if_pos rfl] at same
  subst same
  exact x.die [] Z tR Z (jf ((f.blocks.getD i bq).code.getD j (aP 0)).at_ 9) ⟨(show aB (vb (!posB acc ((f.blocks.getD i bq).code.getD j (aP 0)).dst)) (vb false) by rw[hp];exact Z),Z,Z,tR⟩ Z tR ⟨Z,Z⟩
 | false=>
  rw[hp,if_neg (by simp)] at same
  refine x.pure Z tR Z (kP ((f.blocks.getD i bq).code.getD j (aP 0)).at_ 9) ⟨(show aB (vb (!posB acc ((f.blocks.getD i bq).code.getD j (aP 0)).dst)) (vb true) by rw[hp];exact Z),Z,Z,tR⟩ ?_
  exact x.back Z (by refine⟨hp,Z,?_⟩;simp only[ak,aj];omega) ⟨⟨j+1,acc++[((f.blocks.getD i bq).code.getD j (aP 0)).dst],by omega,same⟩,by show (f.blocks.getD i bq).code.length-(j+1)<(f.blocks.getD i bq).code.length-j;omega,⟨⟨Z,Z⟩,⟨Z,Z⟩,au Z,Z,Z,au Z,Z,(show aB (vi ((j:Int)+1)) (vi ((j+1:Nat):Int)) by rw[afQ];rfl),tR⟩,⟨aW r,⟨Z,Z,tR⟩,Z,⟨Z,Z,tR⟩,tR⟩,Z⟩
abbrev rfO(r:Res):Flt (Int×Int)->Out
 | .ok n=>.ret (.tup [vi n.1,vi n.2]) [kX r]
 | .error (a,e)=>Ny a e
theorem qd{l:List BY}{s:BY}(h:posB l s=true)(a:Int):jO l s a=.ok (dJ l s):=by rw[jO,if_pos h]
theorem qg{l:List BY}{s:BY}(h:posB l s=false)(a:Int):jO l s a=.error (a,10):=by rw[jO,if_neg (by rw[h];simp)]
abbrev Ih(x:Ins):Ch:=.box [.d (.int .u8 x.kind),.d (.int .u8 x.op),vs x.dst,vs x.ref,vs x.alt,.d (aZ x.args),.d (aZ x.frm),vi x.num,vi x.at_]
theorem ow(x:Ins):mE (Ih x) (Ih x):=⟨Z,Z,Z,Z,Z,ah Z,ah Z,Z,Z,tR⟩
abbrev scC(s:Scp):Ch:=.box [.d (.mp s.blks),.d (.mp s.vals)]
theorem qh(s:Scp):mE (scC s) (scC s):=⟨Z,Z,tR⟩
theorem Vh(r:Res)(s:Scp)(x0:Ins)(hz:PolSz r.p):aX PG 157 1 [.ptr 0 0,scW s,xD x0] [kX r] (rfO r (qQ r s x0)):=by
 obtain⟨i1,i2,i3,i4⟩:=oO hz
 obtain⟨R,hR⟩:∃R,qQ r s x0=R:=⟨_,Z⟩
 rw[hR]
 unfold qQ at hR
 refine aX.mk (dM 118 1) av [0] Tryz.func157 rfl (by kernel_rfl) rfl rfl (by rcases R with⟨a,e⟩ | o<;>rfl) ?_
 intro C x
 refine x.ite (α:=Unit) (λ_=>⟨[(0,.ptr 0 0),(4,.ptr 1 0),(5,.ptr 2 0),(6,vi 0),(7,vi 0),(15,.d (.int .u8 x0.kind)),(16,vb (decide (x0.kind=4∨x0.kind=5∨x0.kind=6)))],[(0,kX r),(1,scC s),(2,Ih x0)],3⟩) Z tR (λh=>?_) (λh=>?_) (λ_=>?_)
 ·have h:x0.kind=4:=afH h
  refine x.back Z tR ⟨(),⟨⟨Z,Z⟩,⟨Z,Z⟩,⟨Z,Z⟩,Z,Z,Z,?_,tR⟩,⟨aW r,qh s,ow x0,tR⟩,Z⟩
  show aB (vb (decide (x0.kind=4))) (vb _)
  rw[decide_eq_true h,decide_eq_true (.inl h)];exact Z
 ·have h:¬x0.kind=4:=afI h
  refine x.cond Z tR (λh5=>?_) (λh5=>?_)
  ·have h5:x0.kind=5:=afH h5
   refine x.back Z tR ⟨(),⟨⟨Z,Z⟩,⟨Z,Z⟩,⟨Z,Z⟩,Z,Z,Z,?_,tR⟩,⟨aW r,qh s,ow x0,tR⟩,Z⟩
   show aB (vb (decide (x0.kind=5))) (vb _)
   rw[decide_eq_true h5,decide_eq_true (.inr (.inl h5))];exact Z
  ·have h5:¬x0.kind=5:=afI h5
   refine x.back Z tR ⟨(),⟨⟨Z,Z⟩,⟨Z,Z⟩,⟨Z,Z⟩,Z,Z,Z,?_,tR⟩,⟨aW r,qh s,ow x0,tR⟩,Z⟩
   show aB (vb (decide (x0.kind=6))) (vb _)
   rw[show decide (x0.kind=4∨x0.kind=5∨x0.kind=6)=decide (x0.kind=6) by rw[decide_eq_decide];omega];exact Z
 change Go C _ ⟨[(0,.ptr 0 0),(4,.ptr 1 0),(5,.ptr 2 0),(6,vi 0),(7,vi 0),(15,.d (.int .u8 x0.kind)),(16,vb (decide (x0.kind=4∨x0.kind=5∨x0.kind=6)))],[(0,kX r),(1,scC s),(2,Ih x0)],3⟩ _
 refine x.cond Z tR (λh=>?_) (λh=>?_)
 ·have h:x0.kind=4∨x0.kind=5∨x0.kind=6:=afH h
  rw[if_pos h] at hR
  cases hp:posB r.Ig x0.ref with
  | false=>
   rw[qg hp,bd] at hR
   subst hR
   refine x.draw [] [] [0,1,2,3,4,5,6,7] [8] [9] Z tR ay (by kernel_rfl) gD.quiet Z tR (λC1 x1=>?_)
   exact x1.die [] Z tR Z (qc hp x0.at_) ⟨Z,Z,Z,tR⟩ Z tR ⟨⟨_,Z⟩,Z,Z,Z⟩
  | true=>
   rw[qd hp,bd] at hR
   subst hR
   refine x.draw [] [] [0,1,2,3,4,5,6,7] [8] [9] Z tR ay (by kernel_rfl) gD.quiet Z tR (λC1 x1=>?_)
   refine x1.pure Z tR Z (look_ok hp x0.at_) ⟨Z,Z,Z,tR⟩ ?_
   refine x1.back Z tR ?_
   exact x.exit Z tR ⟨.inr Z,⟨Z,Z,tR⟩,⟨aW r,tR⟩,Z⟩
 have h4:¬(x0.kind=4∨x0.kind=5∨x0.kind=6):=afI h
 rw[if_neg h4] at hR
 refine x.cond Z tR (λh=>?_) (λh=>?_)
 ·have h:x0.kind=7:=afH h
  rw[if_pos h] at hR
  cases hp:posB r.fns x0.ref with
  | false=>
   rw[qg hp,bd] at hR
   subst hR
   refine x.draw [] [] [0,1,2,3,4,5,6,7] [8] [9] Z tR ay (by kernel_rfl) gD.quiet Z tR (λC1 x1=>?_)
   exact x1.die [] Z tR Z (qc hp x0.at_) ⟨Z,Z,Z,tR⟩ Z tR ⟨⟨_,Z⟩,Z,Z,Z⟩
  | true=>
   rw[qd hp,bd] at hR
   subst hR
   refine x.draw [] [] [0,1,2,3,4,5,6,7] [8] [9] Z tR ay (by kernel_rfl) gD.quiet Z tR (λC1 x1=>?_)
   refine x1.pure Z tR Z (look_ok hp x0.at_) ⟨Z,Z,Z,tR⟩ ?_
   refine x1.back Z tR ?_
   exact x.exit Z tR ⟨.inr Z,⟨Z,Z,tR⟩,⟨aW r,tR⟩,Z⟩
 have h7:¬x0.kind=7:=afI h
 rw[if_neg h7] at hR
 refine x.cond Z tR (λh=>?_) (λh=>?_)
 ·have h:x0.kind=8:=afH h
  rw[if_pos h] at hR
  refine x.quiet Z tR ay (by kernel_rfl) ?_
  refine x.lS Z tR Z (P7 r.p.ins x0.ref i3) Z Z ⟨⟨Z,Z,ah Z,Z,Z,tR⟩,Z,tR⟩ ?_
  refine x.bS Z tR ?_
  by_cases hp:0≤eY r.p.ins x0.ref
  ·rw[gJ,if_pos hp,bd] at hR
   subst hR
   refine x.pure Z tR Z (Aj (eY r.p.ins x0.ref) x0.at_) ⟨(show aB (vi (if 0 > eY r.p.ins x0.ref then 0 else eY r.p.ins x0.ref)) (vi (eY r.p.ins x0.ref)) by rw[if_neg (by omega)];exact Z),(show aB (vb (decide (0≤eY r.p.ins x0.ref))) (vb true) by rw[decide_eq_true hp];exact Z),Z,tR⟩ ?_
   exact x.exit Z tR ⟨.inr Z,⟨Z,Z,tR⟩,⟨aW r,tR⟩,Z⟩
  ·rw[gJ,if_neg hp,bd] at hR
   subst hR
   exact x.die [] Z tR Z (xu _ x0.at_) ⟨Z,(show aB (vb (decide (0≤eY r.p.ins x0.ref))) (vb false) by rw[decide_eq_false hp];exact Z),Z,tR⟩ Z tR ⟨Z,Z⟩
 have h8:¬x0.kind=8:=afI h
 rw[if_neg h8] at hR
 refine x.cond Z tR (λh=>?_) (λh=>?_)
 ·have h:x0.kind=9:=afH h
  rw[if_pos h] at hR
  refine x.quiet Z tR ay (by kernel_rfl) ?_
  refine x.lS Z tR Z (M5 r.p.outs x0.ref i4) Z Z ⟨⟨Z,Z,Z,ah Z,Z,tR⟩,Z,tR⟩ ?_
  refine x.bS Z tR ?_
  by_cases hp:0≤eY r.p.outs x0.ref
  ·rw[gJ,if_pos hp,bd] at hR
   subst hR
   refine x.pure Z tR Z (Aj (eY r.p.outs x0.ref) x0.at_) ⟨(show aB (vi (if 0 > eY r.p.outs x0.ref then 0 else eY r.p.outs x0.ref)) (vi (eY r.p.outs x0.ref)) by rw[if_neg (by omega)];exact Z),(show aB (vb (decide (0≤eY r.p.outs x0.ref))) (vb true) by rw[decide_eq_true hp];exact Z),Z,tR⟩ ?_
   exact x.exit Z tR ⟨.inr Z,⟨Z,Z,tR⟩,⟨aW r,tR⟩,Z⟩
  ·rw[gJ,if_neg hp,bd] at hR
   subst hR
   exact x.die [] Z tR Z (xu _ x0.at_) ⟨Z,(show aB (vb (decide (0≤eY r.p.outs x0.ref))) (vb false) by rw[decide_eq_false hp];exact Z),Z,tR⟩ Z tR ⟨Z,Z⟩
 have h9:¬x0.kind=9:=afI h
 rw[if_neg h9] at hR
 refine x.cond Z tR (λh=>?_) (λh=>?_)
 ·have h:x0.kind=10:=afH h
  rw[if_pos h] at hR
  refine x.quiet Z tR ay (by kernel_rfl) ?_
  refine x.lS Z tR Z (jM r.p.lev x0.ref i1) Z Z ⟨⟨ah Z,Z,Z,Z,Z,tR⟩,Z,tR⟩ ?_
  refine x.bS Z tR ?_
  by_cases hp:0≤bE r.p.lev x0.ref
  ·rw[gJ,if_pos hp,bd] at hR
   subst hR
   refine x.pure Z tR Z (Aj (bE r.p.lev x0.ref) x0.at_) ⟨(show aB (vi (if 0 > bE r.p.lev x0.ref then 0 else bE r.p.lev x0.ref)) (vi (bE r.p.lev x0.ref)) by rw[if_neg (by omega)];exact Z),(show aB (vb (decide (0≤bE r.p.lev x0.ref))) (vb true) by rw[decide_eq_true hp];exact Z),Z,tR⟩ ?_
   exact x.exit Z tR ⟨.inr Z,⟨Z,Z,tR⟩,⟨aW r,tR⟩,Z⟩
  ·rw[gJ,if_neg hp,bd] at hR
   subst hR
   exact x.die [] Z tR Z (xu _ x0.at_) ⟨Z,(show aB (vb (decide (0≤bE r.p.lev x0.ref))) (vb false) by rw[decide_eq_false hp];exact Z),Z,tR⟩ Z tR ⟨Z,Z⟩
 have h10:¬x0.kind=10:=afI h
 rw[if_neg h10] at hR
 refine x.cond Z tR (λh=>?_) (λh=>?_)
 ·have h:x0.kind=11:=afH h
  rw[if_pos h] at hR
  cases hp:posB s.blks x0.ref with
  | false=>
   rw[qg hp,bd] at hR
   subst hR
   exact x.die [] Z tR Z (qc hp x0.at_) ⟨Z,Z,Z,tR⟩ Z tR ⟨Z,Z⟩
  | true=>
   rw[qd hp,bd] at hR
   subst hR
   refine x.pure Z tR Z (look_ok hp x0.at_) ⟨Z,Z,Z,tR⟩ ?_
   exact x.exit Z tR ⟨.inr Z,⟨Z,Z,tR⟩,⟨aW r,tR⟩,Z⟩
 have h11:¬x0.kind=11:=afI h
 rw[if_neg h11] at hR
 refine x.cond Z tR (λh=>?_) (λh=>?_)
 ·have h:x0.kind=12:=afH h
  rw[if_pos h] at hR
  cases hp:posB s.blks x0.ref with
  | false=>
   rw[qg hp,bd] at hR
   subst hR
   refine x.draw [] [] [0,1,2,3,4,5,7,8,9,10,11,12] [6] [13,14,15] Z tR ay (by kernel_rfl) gD.quiet Z tR (λC1 x1=>?_)
   exact x1.die [] Z tR Z (qc hp x0.at_) ⟨Z,Z,Z,tR⟩ Z tR ⟨⟨_,Z⟩,Z,Z,Z⟩
  | true=>
   rw[qd hp,bd] at hR
   cases hp2:posB s.blks x0.alt with
   | false=>
    rw[qg hp2,bd] at hR
    subst hR
    refine x.draw [] [] [0,1,2,3,4,5,7,8,9,10,11,12] [6,13] [14,15] Z tR ay (by kernel_rfl) gD.quiet Z tR (λC1 x1=>?_)
    refine x1.pure Z tR Z (look_ok hp x0.at_) ⟨Z,Z,Z,tR⟩ ?_
    refine x1.back Z tR ?_
    exact x1.die [] Z tR Z (qc hp2 x0.at_) ⟨Z,Z,Z,tR⟩ Z tR ⟨⟨_,Z⟩,Z,Z,Z⟩
   | true=>
    rw[qd hp2,bd] at hR
    subst hR
    refine x.draw [] [] [0,1,2,3,4,5,7,8,9,10,11,12] [6,13] [14,15] Z tR ay (by kernel_rfl) gD.quiet Z tR (λC1 x1=>?_)
    refine x1.pure Z tR Z (look_ok hp x0.at_) ⟨Z,Z,Z,tR⟩ ?_
    refine x1.back Z tR ?_
    refine x1.pure Z tR Z (look_ok hp2 x0.at_) ⟨Z,Z,Z,tR⟩ ?_
    refine x1.back Z tR ?_
    exact x.exit Z tR ⟨.inr Z,⟨Z,Z,tR⟩,⟨aW r,tR⟩,Z⟩
 have h12:¬x0.kind=12:=afI h
 rw[if_neg h12] at hR
 subst hR
 exact x.exit Z tR ⟨.inr Z,⟨Z,Z,tR⟩,⟨aW r,tR⟩,Z⟩
theorem KH(s:BY):∀(i:Nat) (l:List BY) (n:Nat),uV i l s=some n->i≤n∧n<i+l.length
 | _,[],_,h=>by cases h
 | i,a::l,n,h=>by
  unfold uV at h
  split at h
  ·cases h;simp
  ·have:=KH s (i+1) l n h
   simp only[List.length_cons];omega
theorem uF{l:List BY}{s:BY}(h:posB l s=true):0≤dJ l s∧dJ l s<(l.length:Int):=by
 unfold posB at h
 unfold dJ
 cases hp:uV 0 l s with
 | none=>rw[hp] at h;cases h
 | some n=>
  have:=KH s 0 l n hp
  show (0:Int)≤(n:Int)∧(n:Int)<_
  omega
abbrev Ce(l:List Int):Ch:=.vec 3 1 l.length λi=>[.int .i64 (l.getD i 0)]
structure LkW (l:List BY) (a:Int) (L:List BY) (R:Flt (List Int)) where
 i:Nat
 acc:List Int
 hi:i≤L.length
 ha:acc.length=i
 same:iD l a (L.drop i) acc=R
theorem Gz{l:List BY}{a:Int}{L:List BY}{i:Nat}(h:i<L.length)(acc:List Int):iD l a (L.drop i) acc=bd (jO l (L.getD i .empty) a) λn=>iD l a (L.drop (i+1)) (acc++[n]):=by
 have e:L[i]=L.getD i .empty:=by rw[afE,afG h];rfl
 rw[List.drop_eq_getElem_cons h,e,iD]
theorem R8(o:List Int)(n:Int)(j:Nat)(hj:j<o.length+1):app o.length (λi=>[D.int .i64 (o.getD i 0)]) (λ_=>[D.int .i64 n]) j=[D.int .i64 ((o++[n]).getD j 0)]:=gX (λn:Int=>[D.int .i64 n]) 1 (λ_=>rfl) 0 o n j hj
structure ND(x:Ins):Prop where
 a:x.args.length*16≤140737488355328
 f:x.frm.length*16≤140737488355328
abbrev opO(r:Res):Flt Op9->Out
 | .ok y=>.ret (opW y) [kX r]
 | .error (a,e)=>Ny a e
theorem Yp(r:Res)(s:Scp)(x0:Ins)(hz:PolSz r.p)(hx:ND x0)(hfn:r.fns.length=r.q.funcs.length):aX PG 109 1 [.ptr 0 0,scW s,xD x0] [kX r] (opO r (Cb r s x0)):=by
 have hrefs:=Vh r s x0 hz
 have hxa:=hx.a
 have hxf:=hx.f
 obtain⟨Q,hQ⟩:∃Q,Cb r s x0=Q:=⟨_,Z⟩
 rw[hQ]
 unfold Cb at hQ
 have hk7:∀ra,qQ r s x0=.ok ra->x0.kind=7->0≤ra.1∧ra.1<(r.q.funcs.length:Int):=λra h k=>by
  unfold qQ at h
  rw[if_neg (by omega),if_pos k] at h
  obtain⟨n,h1,h2⟩:=mM h
  cases h2
  unfold jO at h1
  split at h1
  ·rename_i hp
   cases h1
   have:=uF hp
   rw[←hfn];exact this
  ·cases h1
 obtain⟨RA,hRA⟩:∃RA,qQ r s x0=RA:=⟨_,Z⟩
 rw[hRA] at hrefs hQ hk7
 refine aX.mk (dM 99 1) av [0] Tryz.func109 rfl (by kernel_rfl) rfl rfl (by rcases Q with⟨a,e⟩ | o<;>rfl) ?_
 intro C x
 rcases RA with⟨a,e⟩ | ra
 ·rw[bd] at hQ
  subst hQ
  exact x.die [0] Z tR Z hrefs ⟨⟨Z,Z⟩,⟨Z,Z,tR⟩,⟨Z,Z,Z,Z,Z,ah Z,ah Z,Z,Z,tR⟩,tR⟩ Z ⟨aW r,tR⟩ ⟨Z,Z⟩
 rw[bd] at hQ
 have hk7:=hk7 ra Z
 refine x.call [0] Z tR Z hrefs Z ⟨⟨Z,Z⟩,⟨Z,Z,tR⟩,⟨Z,Z,Z,Z,Z,ah Z,ah Z,Z,Z,tR⟩,tR⟩ ⟨aW r,tR⟩ ?_
 obtain⟨AZ,hAZ⟩:∃AZ,iD s.vals x0.at_ x0.args []=AZ:=⟨_,Z⟩
 rw[hAZ] at hQ
 refine x.toLoop Z tR ?_
 refine Go.ownB 4 5 3 1 (λi=>[.int .i64 (([]:List Int).getD i 0)]) Z Z ?_
 refine x.loop (α:=LkW s.vals x0.at_ x0.args AZ) (λy=>⟨[(0,.ptr 0 0),(4,.ptr 1 0),(5,.ptr 2 0),(6,.ptr 3 0),(7,.ptr 4 0),(31,.d (aZ x0.args)),(32,vi (x0.args.length:Int)),(33,vi (y.i:Int))],[(0,kX r),(1,scC s),(2,Ih x0),(3,.box [.dead,.dead,.dead,.dead,.dead,.dead,.dead,.dead,.dead]),(4,.box [.d (.int .u8 x0.kind),.d (.int .u8 x0.op),vi (-1),vi ra.1,vi ra.2,.own 5,.aF,vi x0.num,vi x0.at_]),(5,Ce y.acc)],6⟩) (λy=>x0.args.length-y.i) ⟨0,[],Nat.zero_le _,Z,hAZ⟩ Z tR ⟨⟨⟨Z,Z⟩,⟨Z,Z⟩,⟨Z,Z⟩,⟨Z,Z⟩,⟨Z,Z⟩,au Z,Z,Z,tR⟩,⟨aW r,qh s,ow x0,⟨Z,Z,Z,Z,Z,Z,Z,Z,Z,tR⟩,⟨Z,Z,Z,Z,Z,Z,tR,Z,Z,tR⟩,⟨Z,Z,Z,λ_ h=>absurd h (afN _)⟩,tR⟩,Z⟩ (λy=>?_)
 obtain⟨i,az,hi,ha,same⟩:=y
 change Go C _ ⟨[(0,.ptr 0 0),(4,.ptr 1 0),(5,.ptr 2 0),(6,.ptr 3 0),(7,.ptr 4 0),(31,.d (aZ x0.args)),(32,vi (x0.args.length:Int)),(33,vi (i:Int))],[(0,kX r),(1,scC s),(2,Ih x0),(3,.box [.dead,.dead,.dead,.dead,.dead,.dead,.dead,.dead,.dead]),(4,.box [.d (.int .u8 x0.kind),.d (.int .u8 x0.op),vi (-1),vi ra.1,vi ra.2,.own 5,.aF,vi x0.num,vi x0.at_]),(5,Ce az)],6⟩ _
 refine x.cond Z tR (λh1=>?_) (λh1=>?_)
 ·have h1:i<x0.args.length:=by have:=afH h1;omega
  rw[Gz h1] at same
  cases hp:posB s.vals (x0.args.getD i .empty) with
  | false=>
   rw[qg hp,bd] at same
   subst same
   rw[bd] at hQ
   subst hQ
   refine x.qK 4 [4,5] [0,2,3,4,5,6] (mkO [(1,[]),(7,[]),(8,[7]),(9,[1,8]),(10,[9]),(11,[10])] 7 []) Z (by simp only[ak];omega) ay Z (by kernel_rfl) gD.quiet Z tR (λC2 x2=>?_)
   repeat' first
    | exact True.intro
    | refine And.intro ?_ ?_
    | exact x2.die [] rfl tR rfl (qc hp x0.at_) ⟨rfl,rfl,rfl,tR⟩ rfl tR ⟨⟨_,rfl⟩,rfl,rfl,rfl⟩
    | refine x2.back rfl tR ?_
  | true=>
   rw[qd hp,bd] at same
   refine x.wX 4 [4,5] [0,2,3,4,5,6] (mkO [(1,[]),(7,[]),(8,[7]),(9,[1,8]),(10,[9]),(11,[10])] 7 [])
    ⟨[(0,.ptr 0 0),(4,.ptr 1 0),(5,.ptr 2 0),(6,.ptr 3 0),(7,.ptr 4 0),(31,.d (aZ x0.args)),(32,vi (x0.args.length:Int)),(33,vi (i:Int))],[(4,.box [.d (.int .u8 x0.kind),.d (.int .u8 x0.op),vi (-1),vi ra.1,vi ra.2,.own 5,.aF,vi x0.num,vi x0.at_]),(5,Ce (az++[dJ s.vals (x0.args.getD i .empty)]))],6⟩ Z (by simp only[ak];omega) ay Z (by kernel_rfl) gD.quiet Z tR (λC2 x2=>?_) ?_
   ·repeat' first
     | exact True.intro
     | refine And.intro ?_ ?_
     | refine x2.pure rfl tR rfl (look_ok hp x0.at_) ⟨rfl,rfl,rfl,tR⟩ (x2.back rfl tR ?_)
     | refine x2.back rfl tR ?_
     | refine x2.back rfl (by simp only[ak,big];omega) ?_
     | exact Or.inl ⟨⟨⟨rfl,rfl⟩,⟨rfl,rfl⟩,⟨rfl,rfl⟩,⟨rfl,rfl⟩,⟨rfl,rfl⟩,au rfl,rfl,rfl,tR⟩,⟨⟨rfl,rfl,rfl,rfl,rfl,rfl,tR,rfl,rfl,tR⟩,⟨rfl,rfl,by simp,R8 az _⟩,tR⟩,rfl⟩
   exact x.back Z (by simp only[ak,aj];omega) ⟨⟨i+1,az++[dJ s.vals (x0.args.getD i .empty)],by omega,by simp [ha],same⟩,by show x0.args.length-(i+1)<x0.args.length-i;omega,⟨⟨Z,Z⟩,⟨Z,Z⟩,⟨Z,Z⟩,⟨Z,Z⟩,⟨Z,Z⟩,au Z,Z,(show aB (vi ((i:Int)+1)) (vi ((i+1:Nat):Int)) by rw[afQ];rfl),tR⟩,⟨aW r,qh s,ow x0,⟨Z,Z,Z,Z,Z,Z,Z,Z,Z,tR⟩,⟨Z,Z,Z,Z,Z,Z,tR,Z,Z,tR⟩,⟨Z,Z,Z,λ_ _=>rfl⟩,tR⟩,Z⟩
 have h1:i=x0.args.length:=by have:=afI h1;omega
 rw[List.drop_of_length_le (by omega),iD] at same
 subst same
 rw[bd] at hQ
 obtain⟨FZ,hFZ⟩:∃FZ,iD s.blks x0.at_ x0.frm []=FZ:=⟨_,Z⟩
 rw[hFZ] at hQ
 refine Sx.Go.freeze 5 ?_
 refine x.toLoop Z tR ?_
 refine Go.ownB 4 6 3 1 (λi=>[.int .i64 (([]:List Int).getD i 0)]) Z Z ?_
 refine x.loop (α:=LkW s.blks x0.at_ x0.frm FZ) (λy=>⟨[(0,.ptr 0 0),(4,.ptr 1 0),(5,.ptr 2 0),(6,.ptr 3 0),(7,.ptr 4 0),(50,.d (aZ x0.frm)),(51,vi (x0.frm.length:Int)),(52,vi (y.i:Int))],[(0,kX r),(1,scC s),(2,Ih x0),(3,.box [.dead,.dead,.dead,.dead,.dead,.dead,.dead,.dead,.dead]),(4,.box [.d (.int .u8 x0.kind),.d (.int .u8 x0.op),vi (-1),vi ra.1,vi ra.2,.d (gY az),.own 6,vi x0.num,vi x0.at_]),(6,Ce y.acc)],7⟩) (λy=>x0.frm.length-y.i) ⟨0,[],Nat.zero_le _,Z,hFZ⟩ Z tR ⟨⟨⟨Z,Z⟩,⟨Z,Z⟩,⟨Z,Z⟩,⟨Z,Z⟩,⟨Z,Z⟩,au Z,Z,Z,tR⟩,⟨aW r,qh s,ow x0,⟨Z,Z,Z,Z,Z,Z,Z,Z,Z,tR⟩,⟨Z,Z,Z,Z,Z,ah Z,Z,Z,Z,tR⟩,⟨Z,Z,Z,λ_ h=>absurd h (afN _)⟩,tR⟩,Z⟩ (λy=>?_)
 obtain⟨i,acc,hi,ha,same⟩:=y
 change Go C _ ⟨[(0,.ptr 0 0),(4,.ptr 1 0),(5,.ptr 2 0),(6,.ptr 3 0),(7,.ptr 4 0),(50,.d (aZ x0.frm)),(51,vi (x0.frm.length:Int)),(52,vi (i:Int))],[(0,kX r),(1,scC s),(2,Ih x0),(3,.box [.dead,.dead,.dead,.dead,.dead,.dead,.dead,.dead,.dead]),(4,.box [.d (.int .u8 x0.kind),.d (.int .u8 x0.op),vi (-1),vi ra.1,vi ra.2,.d (gY az),.own 6,vi x0.num,vi x0.at_]),(6,Ce acc)],7⟩ _
 refine x.cond Z tR (λh1=>?_) (λh1=>?_)
 ·have h1:i<x0.frm.length:=by have:=afH h1;omega
  rw[Gz h1] at same
  cases hp:posB s.blks (x0.frm.getD i .empty) with
  | false=>
   rw[qg hp,bd] at same
   subst same
   rw[bd] at hQ
   subst hQ
   refine x.qK 4 [4,6] [0,2,3,4,5,6] (mkO [(1,[]),(7,[]),(8,[7]),(9,[1,8]),(10,[9]),(11,[10])] 7 []) Z (by simp only[ak];omega) ay Z (by kernel_rfl) gD.quiet Z tR (λC2 x2=>?_)
   repeat' first
    | exact True.intro
    | refine And.intro ?_ ?_
    | exact x2.die [] rfl tR rfl (qc hp x0.at_) ⟨rfl,rfl,rfl,tR⟩ rfl tR ⟨⟨_,rfl⟩,rfl,rfl,rfl⟩
    | refine x2.back rfl tR ?_
  | true=>
   rw[qd hp,bd] at same
   refine x.wX 4 [4,6] [0,2,3,4,5,6] (mkO [(1,[]),(7,[]),(8,[7]),(9,[1,8]),(10,[9]),(11,[10])] 7 [])
    ⟨[(0,.ptr 0 0),(4,.ptr 1 0),(5,.ptr 2 0),(6,.ptr 3 0),(7,.ptr 4 0),(50,.d (aZ x0.frm)),(51,vi (x0.frm.length:Int)),(52,vi (i:Int))],[(4,.box [.d (.int .u8 x0.kind),.d (.int .u8 x0.op),vi (-1),vi ra.1,vi ra.2,.d (gY az),.own 6,vi x0.num,vi x0.at_]),(6,Ce (acc++[dJ s.blks (x0.frm.getD i .empty)]))],7⟩ Z (by simp only[ak];omega) ay Z (by kernel_rfl) gD.quiet Z tR (λC2 x2=>?_) ?_
   ·repeat' first
     | exact True.intro
     | refine And.intro ?_ ?_
     | refine x2.pure rfl tR rfl (look_ok hp x0.at_) ⟨rfl,rfl,rfl,tR⟩ (x2.back rfl tR ?_)
     | refine x2.back rfl tR ?_
     | refine x2.back rfl (by simp only[ak,big];omega) ?_
     | exact Or.inl ⟨⟨⟨rfl,rfl⟩,⟨rfl,rfl⟩,⟨rfl,rfl⟩,⟨rfl,rfl⟩,⟨rfl,rfl⟩,au rfl,rfl,rfl,tR⟩,⟨⟨rfl,rfl,rfl,rfl,rfl,ah rfl,rfl,rfl,rfl,tR⟩,⟨rfl,rfl,by simp,R8 acc _⟩,tR⟩,rfl⟩
   exact x.back Z (by simp only[ak,aj];omega) ⟨⟨i+1,acc++[dJ s.blks (x0.frm.getD i .empty)],by omega,by simp [ha],same⟩,by show x0.frm.length-(i+1)<x0.frm.length-i;omega,⟨⟨Z,Z⟩,⟨Z,Z⟩,⟨Z,Z⟩,⟨Z,Z⟩,⟨Z,Z⟩,au Z,Z,(show aB (vi ((i:Int)+1)) (vi ((i+1:Nat):Int)) by rw[afQ];rfl),tR⟩,⟨aW r,qh s,ow x0,⟨Z,Z,Z,Z,Z,Z,Z,Z,Z,tR⟩,⟨Z,Z,Z,Z,Z,ah Z,Z,Z,Z,tR⟩,⟨Z,Z,Z,λ_ _=>rfl⟩,tR⟩,Z⟩
 have h1:i=x0.frm.length:=by have:=afI h1;omega
 rw[List.drop_of_length_le (by omega),iD] at same
 subst same
 rw[bd] at hQ
 refine Sx.Go.freeze 6 ?_
 have hpl:(qR r.q ra.1:Int)=((r.q.funcs.getD ra.1.toNat bG).params.length:Int):=rfl
 refine x.ite (α:=PLift (¬(x0.kind=7∧x0.args.length≠qR r.q ra.1))) (λ_=>⟨[(0,.ptr 0 0),(4,.ptr 1 0),(5,.ptr 2 0),(6,.ptr 3 0),(7,.ptr 4 0)],[(0,kX r),(1,scC s),(2,Ih x0),(3,.box [.dead,.dead,.dead,.dead,.dead,.dead,.dead,.dead,.dead]),(4,.box [.d (.int .u8 x0.kind),.d (.int .u8 x0.op),vi (-1),vi ra.1,vi ra.2,.d (gY az),.d (gY acc),vi x0.num,vi x0.at_])],7⟩) Z tR (λh=>?_) (λh=>?_) (λy=>?_)
 ·have h:x0.kind=7:=afH h
  have hk:=hk7 h
  by_cases hn:x0.args.length=qR r.q ra.1
  ·refine x.quiet Z tR ay (by kernel_rfl) ?_
   refine x.lS Z (by simp only[ak];omega) Z (kP x0.at_ 13) Z Z ⟨(show aB (vb (decide ((x0.args.length:Int)=(qR r.q ra.1:Int)))) (vb true) by rw[hn,decide_eq_true rfl];exact Z),Z,Z,tR⟩ ?_
   refine x.bS Z tR ?_
   exact x.back Z tR ⟨⟨λhh=>hh.2 hn⟩,⟨⟨Z,Z⟩,⟨Z,Z⟩,⟨Z,Z⟩,⟨Z,Z⟩,⟨Z,Z⟩,tR⟩,⟨aW r,qh s,ow x0,⟨Z,Z,Z,Z,Z,Z,Z,Z,Z,tR⟩,⟨Z,Z,Z,Z,Z,ah Z,ah Z,Z,Z,tR⟩,tR⟩,Z⟩
  ·rw[if_pos ⟨h,hn⟩] at hQ
   subst hQ
   refine x.qK 7 [] [0,1,2,3,4,5,6,7,8,9,10,11,12,13,14,15,16] (.fork 17 .leaf .no) Z tR ay Z (by kernel_rfl) gD.quiet Z (by simp only[ak];omega) (λC1 x1=>?_)
   exact⟨x1.die [] Z tR Z (jf x0.at_ 13) ⟨(show aB (vb (decide ((x0.args.length:Int)=(qR r.q ra.1:Int)))) (vb false) by rw[decide_eq_false (by omega)];exact Z),Z,Z,tR⟩ Z tR ⟨⟨_,Z⟩,Z,Z,Z⟩,tR⟩
 ·have h:¬x0.kind=7:=afI h
  exact x.back Z tR ⟨⟨λhh=>h hh.1⟩,⟨⟨Z,Z⟩,⟨Z,Z⟩,⟨Z,Z⟩,⟨Z,Z⟩,⟨Z,Z⟩,tR⟩,⟨aW r,qh s,ow x0,⟨Z,Z,Z,Z,Z,Z,Z,Z,Z,tR⟩,⟨Z,Z,Z,Z,Z,ah Z,ah Z,Z,Z,tR⟩,tR⟩,Z⟩
 rw[if_neg y.down] at hQ
 subst hQ
 change Go C _ ⟨[(0,.ptr 0 0),(4,.ptr 1 0),(5,.ptr 2 0),(6,.ptr 3 0),(7,.ptr 4 0)],[(0,kX r),(1,scC s),(2,Ih x0),(3,.box [.dead,.dead,.dead,.dead,.dead,.dead,.dead,.dead,.dead]),(4,.box [.d (.int .u8 x0.kind),.d (.int .u8 x0.op),vi (-1),vi ra.1,vi ra.2,.d (gY az),.d (gY acc),vi x0.num,vi x0.at_])],7⟩ _
 refine x.cond Z tR (λh=>?_) (λh=>?_)
 ·have h:(!decide (x0.dst.data.toList=[]))=true:=h
  have h:¬x0.dst.data.toList=[]:=by simpa using h
  rw[if_neg h]
  exact x.exit Z tR ⟨.inr Z,⟨Z,Z,Z,Z,Z,ah Z,ah Z,Z,Z,tR⟩,⟨aW r,tR⟩,Z⟩
 ·have h:(!decide (x0.dst.data.toList=[]))=false:=h
  have h:x0.dst.data.toList=[]:=by simpa using h
  rw[if_pos h]
  exact x.exit Z tR ⟨.inr Z,⟨Z,Z,Z,Z,Z,ah Z,ah Z,Z,Z,tR⟩,⟨aW r,tR⟩,Z⟩
end Go.Proofs.YtojhdmfkfkfcbaaGreatDoor
