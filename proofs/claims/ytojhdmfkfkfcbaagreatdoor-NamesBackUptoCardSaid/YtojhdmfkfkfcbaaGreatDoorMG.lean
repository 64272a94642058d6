import Derived.Test.YtojhdmfkfkfcbaaGreatDoorMF
import Derived.Test.YtojhdmfkfkfcbaaGreatDoorMD
import Derived.Test.YtojhdmfkfkfcbaaGreatDoorMC
import Derived.Test.YtojhdmfkfkfcbaaGreatDoorMB
set_option linter.unusedSimpArgs false
set_option linter.unusedVariables false
namespace Go.Proofs.YtojhdmfkfkfcbaaGreatDoor
open Go.Sx
set_option maxRecDepth 100000
theorem ET{a b:BY}(h:a.data.toList=b.data.toList):a=b:=gY.uF h
theorem JX(s:BY):∀(i:Nat) (l:List BY),vC i l s=none↔s∉l
 | _,[]=>by simp [vC]
 | i,a::l=>by
  unfold vC;split
  ·rename_i h
   simp [ET h]
  ·rename_i h
   rw[JX s (i+1) l,List.mem_cons,not_or];exact⟨λh2=>⟨λe=>h (by rw[e]),h2⟩,λh2=>h2.2⟩
theorem jV{l:List BY}{s:BY}:posB l s=true↔s∈l:=by
 have:=JX s 0 l;unfold posB
 cases h:vC 0 l s with
 | none=>rw[h] at this;simp [this.1 rfl]
 | some n=>
  rw[h] at this;simp only[reduceCtorEq,false_iff,Classical.not_not] at this;simp [this]
theorem Bp{l:List BY}{s:BY}:posB l s=false↔s∉l:=by
 rw[←jV];simp
theorem Oz(s:BY):∀(i:Nat) (l:List BY) (n:Nat),vC i l s=some n->l.getD (n-i) .empty=s
 | _,[],_,h=>by cases h
 | i,a::l,n,h=>by
  unfold vC at h;split at h
  ·rename_i e
   cases h
   rw[Nat.sub_self];exact ET e
  ·have h1:=Oz s (i+1) l n h
   have h2:=La s (i+1) l n h;rw[show n-i=(n-(i+1))+1 by omega,List.getD_cons_succ];exact h1
theorem abn{l:List BY}{s:BY}(h:s∈l):l.getD (dN l s).toNat .empty=s:=by
 have h:=jV.2 h;unfold posB at h;unfold dN
 cases hp:vC 0 l s with
 | none=>rw[hp] at h;cases h
 | some n=>
  have:=Oz s 0 l n hp;show l.getD ((n:Int)).toNat .empty=s;rw[ag1];exact this
theorem Wm{α:Type}{l:List α}(hn:l.Nodup)(d:α):∀{i j:Nat},i<l.length->j<l.length->l.getD i d=l.getD j d->i=j:=by
 intro i j hi hj h;rw[agM,agM,agO hi,agO hj] at h;have h:l[i]=l[j]:=h;have hp:=List.pairwise_iff_getElem.1 hn
 rcases Nat.lt_trichotomy i j with g | g | g
 ·exact absurd h (hp i j hi hj g)
 ·exact g
 ·exact absurd h.symm (hp j i hj hi g)
theorem pos_at{l:List BY}(hn:l.Nodup){i:Nat}(hi:i<l.length):dN l (l.getD i .empty)=i:=by
 have hm:l.getD i .empty∈l:=getD_in _ hi;have h1:=uN (jV.2 hm);have h2:=abn hm;have:=Wm hn .empty (i:=(dN l (l.getD i .empty)).toNat) (j:=i) (by omega) hi h2
 omega
theorem Bq{l:List BY}{s:BY}{a n:Int}(h:gL l s a=.ok n):s∈l∧n=dN l s:=by
 unfold gL at h;split at h
 ·rename_i g
  cases h
  exact⟨jV.1 g,Z⟩
 ·cases h
theorem Za{l:List BY}(hn:l.Nodup){i:Nat}(hi:i<l.length)(a:Int):gL l (l.getD i .empty) a=.ok (i:Int):=by
 unfold gL;rw[if_pos (jV.2 (getD_in _ hi)),pos_at hn hi]
theorem Db{l:List BY}{a:Int}:∀{r:List BY} {acc o:List Int},fE l a r acc=.ok o->o=acc++r.map (dN l)∧∀s∈r,s∈l
 | [],acc,o,h=>by cases h;simp
 | s::r,acc,o,h=>by
  rw[fE] at h;obtain⟨n,h1,h2⟩:=mR h;obtain⟨h3,rfl⟩:=Bq h1;obtain⟨rfl,h5⟩:=Db h2;refine⟨by simp,λt ht=>?_⟩
  rcases List.mem_cons.1 ht with rfl | ht
  ·exact h3
  ·exact h5 t ht
theorem Dc{l:List BY}{a:Int}(f:Int->BY):∀(r:List Int) (acc:List Int),(∀n∈r,gL l (f n) a=.ok n)->fE l a (r.map f) acc=.ok (acc++r)
 | [],acc,_=>by simp [fE]
 | n::r,acc,h=>by
  rw[List.map_cons,fE,h n (.head _)];show fE l a (r.map f) (acc++[n])=_;rw[Dc f r _ λm hm=>h m (.tail _ hm)]
  simp
theorem Br:∀{L:List (BY×Int)} {acc o:List BY},gK acc L=.ok o->acc.Nodup->o=acc++L.map (·.1)∧o.Nodup
 | [],acc,o,h,hn=>by cases h;simp [hn]
 | (s,a)::r,acc,o,h,hn=>by
  rw[gK] at h;split at h
  ·cases h
  ·rename_i g
   have g:s∉acc:=Bp.1 (by simpa using g)
   have hn2:(acc++[s]).Nodup:=by
    rw[List.nodup_append];refine⟨hn,by simp,λx hx y hy e=>?_⟩
    rw[List.mem_singleton] at hy;subst hy;subst e;exact g hx
   obtain⟨rfl,h2⟩:=Br h hn2;exact⟨by simp,h2⟩
theorem Bt:∀{L:List (BY×Int)} {acc:List BY},(acc++L.map (·.1)).Nodup->gK acc L=.ok (acc++L.map (·.1))
 | [],acc,_=>by simp [gK]
 | (s,a)::r,acc,h=>by
  have g:s∉acc:=λhm=>by
   rw[List.nodup_append] at h;exact h.2.2 s hm s (by simp) Z
  rw[gK,if_neg (by rw[Bp.2 g];simp)]
  have:=Bt (L:=r) (acc:=acc++[s]) (by simpa using h)
  rw[this];simp
theorem Bu(c:UInt8)(n:Int):(nmN c n).data.toList=c::(sgV n++nA n.natAbs):=by
 unfold nmN;rw[ByteArray.toList_data_append,pU];rfl
theorem Rf{c d:UInt8}{n m:Int}(hn:aj n)(hm:aj m)(h:nmN c n=nmN d m):c=d∧n=m:=by
 have h1:=congrArg (λb:BY=>b.data.toList) h
 simp only[Bu,List.cons.injEq] at h1;refine⟨h1.1,?_⟩;have h2:bF n=bF m:=ET (by rw[pU,pU];exact h1.2)
 have h3:=wF n hn;rw[h2,wF m hm] at h3;exact (Prod.ext_iff.1 h3).1.symm
theorem EU{c:UInt8}{n:Int}(hc:c≠109):gu≠nmN c n:=by
 intro h;have h1:=congrArg (λb:BY=>b.data.toList) h
 simp only[Bu] at h1;have h2:(109:UInt8)=c:=(List.cons.inj h1).1;exact hc h2.symm
theorem Zb:∀(u:Nat),∀c∈nA u,48≤c.toNat∧c.toNat≤57:=by
 intro u
 induction u using Nat.strongRecOn with
 | ind u ih=>
  intro c hc;by_cases h:u<10
  ·rw[oH h,List.mem_singleton] at hc
   subst hc;have:(UInt8.ofNat (48+u)).toNat=48+u:=by rw[UInt8.toNat_ofNat'];omega
   omega
  ·rw[xR h,List.mem_append] at hc
   rcases hc with hc | hc
   ·exact ih (u/10) (by omega) c hc
   ·rw[List.mem_singleton] at hc
    subst hc;have:(UInt8.ofNat (48+u%10)).toNat=48+u%10:=by rw[UInt8.toNat_ofNat'];omega
    omega
theorem Hl{s:BY}:∀(k p:Nat) (c:Int),(∀j,p≤j->j<s.size->48≤bt s j∧bt s j≤57)->1≤p->0<c->c+((s.size:Int)-p)≤24->jd s k p c=true
 | 0,p,c,_,_,h3,_=>by rw[jd,decide_eq_true h3]
 | k+1,p,c,h1,h2,h3,h4=>by
  rw[jd];split
  ·rename_i hp
   have hb:=h1 p (Nat.le_refl _) hp;rw[decode_ascii (by omega)]
   have hd:yH ((bt s p:Nat):Int)=true:=by
    unfold yH;rw[decide_eq_true (show (48:Int)≤(bt s p:Int) by omega),decide_eq_true (show (bt s p:Int)≤57 by omega)];rfl
   rw[hd,decide_eq_false (show ¬((p:Int)=0) by omega)]
   rw[if_neg (by simp),if_neg (by omega)]
   exact Hl k (p+1) (c+1) (λj hj=>h1 j (by omega)) (by omega) (by omega) (by omega)
  ·exact decide_eq_true h3
theorem Wn:∀w∈Gp,(w.getD 1 0).toNat<48∨57<(w.getD 1 0).toNat:=by decide
theorem yY{c:UInt8}{n:Int}(hc:oG (c.toNat:Int)=true)(h128:c.toNat<128)(h0:0≤n)(h1:n≤1000000):okN (nmN c n)=true:=by
 have hl:(nmN c n).data.toList=c::nA n.natAbs:=by rw[Bu,sgV,if_neg (by omega)];rfl
 have hlen:=wE 9 n.natAbs (by show n.natAbs<10000000000;omega)
 have hsz:(nmN c n).size=(nA n.natAbs).length+1:=by
  have:=congrArg List.length hl;rw[List.length_cons] at this;rw[←this];exact (Array.length_toList).symm
 have hbt:∀j,bt (nmN c n) j=((c::nA n.natAbs).getD j 0).toNat:=λj=>by rw[qP,hl]
 obtain⟨d,r,e1,e2,e3,_⟩:=Cy n.natAbs;unfold okN;rw[agN,agZ]
 constructor
 ·unfold AU
  rw[hsz,jd,if_pos (by omega)]
  have hb0:bt (nmN c n) 0=c.toNat:=hbt 0;rw[decode_ascii (by omega),hb0]
  show (if (!oG ((c.toNat:Nat):Int)&&_)=true then false else _)=true
  rw[hc];rw[if_neg (by simp),if_neg (by omega)]
  refine Hl _ _ _ (λj hj hs=>?_) (by omega) (by omega) (by rw[hsz];omega)
  rw[hbt];obtain⟨i,rfl⟩:∃i,j=i+1:=⟨j-1,by omega⟩
  rw[List.getD_cons_succ];exact Zb _ _ (getD_in _ (by omega))
 ·unfold nR
  rw[agX,hl];intro hm;have:=Wn _ hm;rw[e1,List.getD_cons_succ,List.getD_cons_zero] at this;omega
def yM{α β:Type}(g:Nat->α->Flt β):List α->Nat->List β->Flt (List β)
 | [],_,acc=>.ok acc
 | a::r,i,acc=>bd (g i a) λb=>yM g r (i+1) (acc++[b])
theorem Bv{α β:Type}{g:Nat->α->Flt β}(d:α)(e:β):∀{l:List α} {i:Nat} {acc o:List β},yM g l i acc=.ok o->∃t,o=acc++t∧t.length=l.length∧∀j,j<l.length->g (i+j) (l.getD j d)=.ok (t.getD j e)
 | [],i,acc,o,h=>by
  cases h
  exact⟨[],by simp,Z,λj hj=>absurd hj (agV _)⟩
 | a::l,i,acc,o,h=>by
  rw[yM] at h;obtain⟨b,h1,h2⟩:=mR h;obtain⟨t,rfl,h3,h4⟩:=Bv d e h2;refine⟨b::t,by simp,by simp [h3],λj hj=>?_⟩
  cases j with
  | zero=>exact h1
  | succ j=>
   have:=h4 j (by simpa using hj)
   rw[show i+(j+1)=i+1+j by omega];exact this
theorem Bw{α β:Type}{g:Nat->α->Flt β}(d:α)(e:β):∀{l:List α} {t:List β} {i:Nat} {acc:List β},t.length=l.length->(∀j,j<l.length->g (i+j) (l.getD j d)=.ok (t.getD j e))->yM g l i acc=.ok (acc++t)
 | [],t,i,acc,h,_=>by rw[List.eq_nil_of_length_eq_zero h,List.append_nil];rfl
 | a::l,[],i,acc,h,_=>by cases h
 | a::l,b::t,i,acc,h,h2=>by
  have h0:g i a=.ok b:=h2 0 (Nat.zero_lt_succ _);rw[yM,h0];show yM g l (i+1) (acc++[b])=_
  rw[Bw d e (by simpa using h) λj hj=>by
   have:=h2 (j+1) (by simpa using hj)
   rw[show i+(j+1)=i+1+j by omega] at this;exact this]
  simp
theorem Df(r:Res)(s:Scp):∀(l:List Blk) (i:Nat) (acc:List (List Op9)),mD r s l acc=yM (λ_ b=>sS r s b) l i acc
 | [],_,_=>rfl
 | b::l,i,acc=>by
  rw[mD,yM]
  congr 1
  funext y
  exact Df r s l (i+1) _
theorem Bz:∀(l:List Fun) (i:Nat) (acc:List Scp),qj l acc=yM (λ_ f=>EK f) l i acc
 | [],_,_=>rfl
 | f::l,i,acc=>by
  rw[qj,yM]
  congr 1
  funext y
  exact Bz l (i+1) _
theorem BA(r:Res)(ss:List Scp):∀(l:List Fun) (i:Nat) (acc:List Bod),nZ r ss l i acc=yM (λi f=>K9 r (ss.getD i qG) f) l i acc
 | [],_,_=>rfl
 | f::l,i,acc=>by
  rw[nZ,yM]
  congr 1
  funext y
  exact BA r ss l (i+1) _
theorem Tj(r:Res)(s:Scp)(code:List Ins):∀(l:List Ins) (i:Nat) (acc:List Op9),Bg r s code l.length i acc=yM (λi _=>vB r s code i) l i acc
 | [],_,_=>rfl
 | x::l,i,acc=>by
  rw[List.length_cons,Bg,yM]
  congr 1
  funext y
  exact Tj r s code l (i+1) _
structure Zc(r:Res)(s:Scp)(b:Blk)(l:List Op9):Prop where
 e:wS b=true
 len:l.length=b.code.length
 ins:∀j,j<b.code.length->vB r s b.code j=.ok (l.getD j op0)
theorem OA{r:Res}{s:Scp}{b:Blk}{l:List Op9}:sS r s b=.ok l↔Zc r s b l:=by
 unfold sS;rw[Tj]
 constructor
 ·intro h
  split at h
  ·rename_i he
   obtain⟨t,rfl,h1,h2⟩:=Bv (aM 0) op0 h;exact⟨he,h1,λj hj=>by have:=h2 j hj;rwa [Nat.zero_add] at this⟩
  ·cases h
 ·intro h
  rw[if_pos h.e,Bw (aM 0) op0 h.len λj hj=>by rw[Nat.zero_add];exact h.ins j hj]
  rfl
abbrev Ho(f:Fun):List BY:=f.blocks.map (·.name)
abbrev wX(f:Fun):List BY:=f.params++(mI f.blocks).map (·.1)
abbrev qX(f:Fun):Scp:=⟨Ho f,wX f⟩
theorem Tk{f:Fun}{s:Scp}:EK f=.ok s↔s=qX f∧(Ho f).Nodup∧(wX f).Nodup:=by
 unfold EK;have e1:(f.params.map λs=>(s,f.at_)).map (·.1)=f.params:=by rw[List.map_map];exact List.map_id _
 have e2:(f.blocks.map λb=>(b.name,b.at_)).map (·.1)=Ho f:=by rw[List.map_map];rfl
 constructor
 ·intro h
  obtain⟨vs,h1,h⟩:=mR h;obtain⟨bs,h2,h⟩:=mR h;obtain⟨vs',h3,h⟩:=mR h
  cases h
  obtain⟨rfl,g1⟩:=Br h1 List.nodup_nil;obtain⟨rfl,g2⟩:=Br h2 List.nodup_nil;obtain⟨rfl,g3⟩:=Br h3 g1;rw[List.nil_append,e1] at g3;rw[List.nil_append,e2] at g2;rw[List.nil_append,List.nil_append,e1,e2];exact⟨Z,g2,g3⟩
 ·rintro ⟨rfl,h1,h2⟩
  have hp:f.params.Nodup:=(List.nodup_append.1 h2).1;rw[Bt (acc:=[]) (by rw[List.nil_append,e1];exact hp),List.nil_append,e1]
  show bd (gK [] _) _=_;rw[Bt (acc:=[]) (by rw[List.nil_append,e2];exact h1),List.nil_append,e2]
  show bd (gK f.params _) _=_;rw[Bt h2];rfl
structure OB(r:Res)(f:Fun)(b:Bod):Prop where
 nb:(Ho f).Nodup
 nv:(wX f).Nodup
 I8:b.params=(f.params.length:Int)
 vars:b.vars=((wX f).length:Int)
 len:b.blocks.length=f.blocks.length
 blk:∀k,k<f.blocks.length->Zc r (qX f) (f.blocks.getD k bN) (b.blocks.getD k [])
theorem Tn{r:Res}{f:Fun}{b:Bod}(h1:(Ho f).Nodup)(h2:(wX f).Nodup):K9 r (qX f) f=.ok b↔OB r f b:=by
 unfold K9;rw[Df r (qX f) f.blocks 0]
 constructor
 ·intro h
  obtain⟨t,h3,h⟩:=mR h
  cases h
  obtain⟨t,rfl,h4,h5⟩:=Bv bN [] h3;exact⟨h1,h2,Z,Z,h4,λk hk=>OA.1 (h5 k hk)⟩
 ·rintro ⟨_,_,h3,h4,h5,h6⟩
  rw[Bw bN [] h5 λk hk=>OA.2 (h6 k hk)]
  obtain⟨b1,b2,b3⟩:=b;show Except.ok _=Except.ok _;simp only[List.nil_append];simp only at h3 h4;rw[h3,h4]
theorem Tp{p:Pol}:∀{l:List Arr} {acc:List BY} {cs:List Cel} {o:List BY×List Cel},lT p l acc cs=.ok o->acc.Nodup->o=(acc++l.map (·.name),cs++l.map λa=>(a.size,bH p.lev a.level))∧o.1.Nodup∧∀a∈l,0≤bH p.lev a.level
 | [],acc,cs,o,h,hn=>by cases h;simp [hn]
 | a::l,acc,cs,o,h,hn=>by
  rw[lT] at h;split at h
  ·cases h
  ·rename_i g
   have g:a.name∉acc:=Bp.1 (by simpa using g)
   obtain⟨k,h1,h2⟩:=mR h;unfold dQ at h1;split at h1
   ·rename_i hk
    cases h1
    have hn2:(acc++[a.name]).Nodup:=by
     rw[List.nodup_append];refine⟨hn,by simp,λx hx y hy e=>?_⟩
     rw[List.mem_singleton] at hy;subst hy;subst e;exact g hx
    obtain⟨rfl,h3,h4⟩:=Tp h2 hn2;refine⟨by simp,h3,λb hb=>?_⟩
    rcases List.mem_cons.1 hb with rfl | hb
    ·exact hk
    ·exact h4 b hb
   ·cases h1
theorem Tq{p:Pol}:∀{l:List Arr} {acc:List BY} {cs:List Cel},(acc++l.map (·.name)).Nodup->(∀a∈l,0≤bH p.lev a.level)->lT p l acc cs=.ok (acc++l.map (·.name),cs++l.map λa=>(a.size,bH p.lev a.level))
 | [],acc,cs,_,_=>by simp [lT]
 | a::l,acc,cs,h,h2=>by
  have g:a.name∉acc:=λhm=>by
   rw[List.nodup_append] at h;exact h.2.2 _ hm a.name (by simp) Z
  rw[lT,if_neg (by rw[Bp.2 g];simp),dQ,if_pos (h2 a (.head _))]
  show lT p l (acc++[a.name]) _=_;rw[Tq (by simpa using h) λb hb=>h2 b (.tail _ hb)]
  simp
abbrev Tt(q:Prg):List BY:=q.arrays.map (·.name)
abbrev Lh(q:Prg):List BY:=q.funcs.map (·.name)
abbrev Es(p:Pol)(q:Prg):Res:=⟨p,q,Tt q,Lh q⟩
structure JY(p:Pol)(q:Prg)(c:Cod):Prop where
 na:(Tt q).Nodup
 lv:∀a∈q.arrays,0≤bH p.lev a.level
 zL:c.arrays=q.arrays.map λa=>(a.size,bH p.lev a.level)
 nf:(Lh q).Nodup
 mn:gu∈Lh q
 mp:nY q (dN (Lh q) gu)=0
 main:c.main=dN (Lh q) gu
 len:c.funcs.length=q.funcs.length
 fn:∀i,i<q.funcs.length->OB (Es p q) (q.funcs.getD i bM) (c.funcs.getD i aB)
theorem yj{p:Pol}{q:Prg}{c:Cod}:vE p q=.ok c↔JY p q c:=by
 unfold vE;have e2:(q.funcs.map λf=>(f.name,f.at_)).map (·.1)=Lh q:=by rw[List.map_map];rfl
 constructor
 ·intro h
  obtain⟨ac,h1,h⟩:=mR h;obtain⟨fn,h2,h⟩:=mR h;obtain⟨rfl,g1,g2⟩:=Tp h1 List.nodup_nil;obtain⟨rfl,g3⟩:=Br h2 List.nodup_nil;rw[List.nil_append,e2] at g3 h;simp only[List.nil_append] at g1 h;split at h
  ·rename_i hm
   obtain⟨ss,h3,h⟩:=mR h;obtain⟨bs,h4,h⟩:=mR h
   cases h
   unfold yX at hm;rw[agN,agT] at hm;rw[Bz q.funcs 0] at h3
   rw[BA _ _ q.funcs 0] at h4
   obtain⟨ss,rfl,g4,g5⟩:=Bv bM qG h3;obtain⟨bs,rfl,g6,g7⟩:=Bv bM aB h4;refine⟨g1,g2,Z,g3,jV.1 hm.1,by omega,Z,g6,λi hi=>?_⟩
   obtain⟨hs,hb,hv⟩:=Tk.1 (g5 i hi);have h7:=g7 i hi;simp only[Nat.zero_add,List.nil_append] at h7;rw[hs] at h7;exact (Tn hb hv).1 h7
  ·cases h
 ·intro h
  rw[Tq (acc:=[]) (by simpa using h.na) h.lv]
  show bd (gK [] _) _=_;rw[Bt (acc:=[]) (by rw[List.nil_append,e2];exact h.nf),List.nil_append,e2]
  show (if yX q (Lh q)=true then _ else _)=_
  rw[if_pos (by unfold yX;rw[jV.2 h.mn,h.mp];rfl),Bz q.funcs 0,Bw (t:=q.funcs.map qX) bM qG (by simp) λj hj=>?_]
  ·show bd (nZ _ _ _ _ _) _=_
   rw[BA _ _ q.funcs 0,Bw (t:=c.funcs) bM aB h.len λj hj=>?_]
   ·obtain⟨c1,c2,c3⟩:=c
    have h1:=h.zL;have h2:=h.main;simp only at h1 h2;subst h1;subst h2
    rfl
   ·have hf:=h.fn j hj
    simp only[Nat.zero_add,List.nil_append]
    rw[show (q.funcs.map qX).getD j qG=qX (q.funcs.getD j bM) by
     rw[agM,agM,List.getElem?_map,agO hj];rfl]
    exact (Tn hf.nb hf.nv).2 hf
  ·have hf:=h.fn j hj
   refine Tk.2 ⟨?_,hf.nb,hf.nv⟩;rw[agM,agM,List.getElem?_map,agO hj];rfl
def shp(k:Int):Option (Int×Bool×Bool×Bool):=if k=3 then some (-1,true,false,false) else cB k
def uP(k:Int):Bool:=match shp k with
 | some (_,d,_,_)=>d
 | none=>false
def Hq(p:Pol)(na nf nb:Nat)(k:Int):Int:=
 if k=4∨k=5∨k=6 then (na:Int) else if k=7 then (nf:Int) else if k=8 then (p.ins.length:Int) else if k=9 then (p.outs.length:Int) else if k=10 then (p.lev.length:Int) else (nb:Int)
structure ROp(p:Pol)(c:Cod)(b:Bod)(x:Op9)(n:Int)(d r a:Bool):Prop where
 sh:shp x.kind=some (n,d,r,a)
 d0:d=false->x.dst=-1
 r0:r=false->x.ref=0
 a0:a=false->x.alt=0
 num:x.kind≠1->x.num=0
 op0:x.kind≠2->x.op=0
 op1:x.kind=2->1≤x.op∧x.op≤12
 r1:r=true->0≤x.ref∧x.ref<Hq p c.arrays.length c.funcs.length b.blocks.length x.kind
 a1:a=true->0≤x.alt∧x.alt<(b.blocks.length:Int)
 phi:x.kind=3->x.frm.length=x.args.length∧1≤x.frm.length∧x.frm.length≤64
 Zd:x.kind≠3->x.frm=[]∧(x.args.length:Int)=if x.kind=7 then (c.funcs.getD x.ref.toNat aB).params else n
 args:∀k∈x.args,0≤k∧k<b.vars
 frm:∀k∈x.frm,0≤k∧k<(b.blocks.length:Int)
def Li(l:List Op9):List Int:=l.filterMap λx=>if uP x.kind=true then some x.dst else none
def ko(bs:List (List Op9)):List Int:=bs.flatMap Li
structure adN(p:Pol)(c:Cod)(b:Bod)(l:List Op9):Prop where
 len:1≤l.length
 op:∀j,j<l.length->∃n d r a,ROp p c b (l.getD j op0) n d r a
 e:∀j,j<l.length->(mq (l.getD j op0).kind=true↔j+1=l.length)
 ph:∀j,j<l.length->(l.getD j op0).kind=3->j≠0->(l.getD (j-1) op0).kind=3
structure Rh(p:Pol)(c:Cod)(b:Bod):Prop where
 p0:0≤b.params∧b.params≤6
 len:1≤b.blocks.length∧b.blocks.length≤64
 vars:b.vars=b.params+(ko b.blocks).length
 seq:∀i,i<(ko b.blocks).length->(ko b.blocks).getD i 0=b.params+i
 ops:∀l∈b.blocks,adN p c b l
structure mF(p:Pol)(c:Cod):Prop where
 pol:gW p=true
 al:c.arrays.length≤16
 fl:c.funcs.length≤64
 m:0≤c.main∧c.main<(c.funcs.length:Int)
 mp:(c.funcs.getD c.main.toNat aB).params=0
 arr:∀a∈c.arrays,(1≤a.1∧a.1≤256)∧0≤a.2∧a.2<(p.lev.length:Int)
 bod:∀b∈c.funcs,Rh p c b
 all:(c.funcs.map λb=>(b.blocks.map λl=>l.length).sum).sum≤4096
theorem qw{k n:Int}{d r a:Bool}(h:cB k=some (n,d,r,a)):(k=1∧n=0∧d=true∧r=false∧a=false)∨(k=2∧n=2∧d=true∧r=false∧a=false)∨(k=4∧n=1∧d=true∧r=true∧a=false)∨(k=5∧n=1∧d=true∧r=true∧a=false)∨(k=6∧n=2∧d=false∧r=true∧a=false)∨(k=7∧n=-1∧d=true∧r=true∧a=false)∨(k=8∧n=0∧d=true∧r=true∧a=false)∨(k=9∧n=1∧d=false∧r=true∧a=false)∨(k=10∧n=1∧d=true∧r=true∧a=false)∨(k=11∧n=0∧d=false∧r=true∧a=false)∨(k=12∧n=1∧d=false∧r=true∧a=true)∨(k=13∧n=1∧d=false∧r=false∧a=false):=by
 by_cases g1:k=1
 ·subst g1
  have h:some ((0,true,false,false):Int×Bool×Bool×Bool)=some (n,d,r,a):=h
  cases h
  decide
 by_cases g2:k=2
 ·subst g2
  have h:some ((2,true,false,false):Int×Bool×Bool×Bool)=some (n,d,r,a):=h
  cases h
  decide
 by_cases g4:k=4
 ·subst g4
  have h:some ((1,true,true,false):Int×Bool×Bool×Bool)=some (n,d,r,a):=h
  cases h
  decide
 by_cases g5:k=5
 ·subst g5
  have h:some ((1,true,true,false):Int×Bool×Bool×Bool)=some (n,d,r,a):=h
  cases h
  decide
 by_cases g6:k=6
 ·subst g6
  have h:some ((2,false,true,false):Int×Bool×Bool×Bool)=some (n,d,r,a):=h
  cases h
  decide
 by_cases g7:k=7
 ·subst g7
  have h:some ((-1,true,true,false):Int×Bool×Bool×Bool)=some (n,d,r,a):=h
  cases h
  decide
 by_cases g8:k=8
 ·subst g8
  have h:some ((0,true,true,false):Int×Bool×Bool×Bool)=some (n,d,r,a):=h
  cases h
  decide
 by_cases g9:k=9
 ·subst g9
  have h:some ((1,false,true,false):Int×Bool×Bool×Bool)=some (n,d,r,a):=h
  cases h
  decide
 by_cases g10:k=10
 ·subst g10
  have h:some ((1,true,true,false):Int×Bool×Bool×Bool)=some (n,d,r,a):=h
  cases h
  decide
 by_cases g11:k=11
 ·subst g11
  have h:some ((0,false,true,false):Int×Bool×Bool×Bool)=some (n,d,r,a):=h
  cases h
  decide
 by_cases g12:k=12
 ·subst g12
  have h:some ((1,false,true,true):Int×Bool×Bool×Bool)=some (n,d,r,a):=h
  cases h
  decide
 by_cases g13:k=13
 ·subst g13
  have h:some ((1,false,false,false):Int×Bool×Bool×Bool)=some (n,d,r,a):=h
  cases h
  decide
 exfalso
 unfold cB at h;rw[if_neg g1,if_neg g2,if_neg g4,if_neg g5,if_neg g6,if_neg g7,if_neg g8,if_neg g9,if_neg g10,if_neg g11,if_neg g12,if_neg g13] at h
 cases h
theorem wY{k n:Int}{d r a:Bool}(h:shp k=some (n,d,r,a)):(k=3∧n=-1∧d=true∧r=false∧a=false)∨(k≠3∧cB k=some (n,d,r,a)):=by
 unfold shp at h;split at h
 ·rename_i g
  cases h
  exact .inl ⟨g,Z,Z,Z,Z⟩
 ·rename_i g
  exact .inr ⟨g,h⟩
theorem Ri{k n:Int}{d r a:Bool}(h3:k≠3)(h:cB k=some (n,d,r,a)):shp k=some (n,d,r,a):=by unfold shp;rw[if_neg h3];exact h
theorem Ze{s:BY}(h:okN s=true):s.data.toList≠[]:=by
 intro e;have e2:s=.empty:=ET (by rw[e];rfl)
 rw[e2] at h
 revert h;decide
theorem JZ{x:Ins}(h:bC x=true):(x.dst.data.toList=[])↔uP x.kind=false:=by
 rcases dx h with⟨h3,hp⟩ | ⟨n,d,r,a,hs,h3,hi,_⟩
 ·have e:uP x.kind=true:=by rw[h3];rfl
  rw[e];exact⟨λg=>absurd g (Ze hp.dst),λg=>by cases g⟩
 ·have e:uP x.kind=d:=by unfold uP;rw[Ri h3 hs]
  rw[e]
  cases d with
  | true=>exact⟨λg=>absurd g (Ze (oN hi.dst)),λg=>by cases g⟩
  | false=>exact⟨λ_=>rfl,λ_=>by rw[cO hi.dst];rfl⟩
theorem Hr{o:Int}:(opName o).data.toList≠[]↔1≤o∧o≤12:=by
 unfold opName;split
 ·rename_i h
  exact⟨λg=>absurd Z g,λg=>by omega⟩
 ·rename_i h
  by_cases h0:o≤0
  ·rw[show o.toNat=0 by omega]
   exact⟨λg=>absurd (by decide) g,λg=>by omega⟩
  ·obtain⟨n,rfl⟩:∃n:Nat,o=(n:Int):=⟨o.toNat,by omega⟩
   have hn:n<13:=by omega
   rw[ag1];refine⟨λ_=>by omega,λ_=>?_⟩
   have key:∀n:Nat,n<13->n≠0->(opAt n).data.toList≠[]:=by decide
   exact key n hn (by omega)
theorem Tv{l:List Chan}{s:BY}(h:0≤gT l s):gT l s<(l.length:Int):=by
 unfold gT at *
 rcases zG (p:=λi=>decide ((l.getD i bf).1.data.toList=s.data.toList)) (n:=l.length) (i:=0) with e | e<;>omega
theorem Ht{n a k:Int}(h:dQ n a=.ok k):0≤n∧k=n:=by
 unfold dQ at h;split at h
 ·rename_i g
  cases h;exact⟨g,rfl⟩
 ·cases h
theorem bd1{r:Flt Int}{o:Int×Int}(h:(bd r λn=>.ok (n,(0:Int)))=.ok o):r=.ok o.1∧o.2=0:=by
 obtain⟨n,h1,h2⟩:=mR h
 cases h2
 exact⟨h1,Z⟩
theorem uQ{l:List BY}{s:BY}{a n:Int}(h:gL l s a=.ok n):0≤n∧n<(l.length:Int):=by
 obtain⟨h1,rfl⟩:=Bq h;exact uN (jV.2 h1)
theorem abo{R:Res}{s:Scp}{x:Ins}{o:Int×Int}{n:Int}{d r a:Bool}(hs:shp x.kind=some (n,d,r,a))(h:nX R s x=.ok o):(r=false->o.1=0)∧(a=false->o.2=0)∧(r=true->0≤o.1∧o.1<Hq R.p R.zL.length R.fns.length s.blks.length x.kind)∧(a=true->0≤o.2∧o.2<(s.blks.length:Int)):=by
 unfold nX at h;unfold Hq
 rcases wY hs with⟨hk,rfl,rfl,rfl,rfl⟩ | ⟨h3,hs⟩
 ·simp [hk] at h
  cases h;simp
 ·rcases qw hs with⟨hk,rfl,rfl,rfl,rfl⟩ | ⟨hk,rfl,rfl,rfl,rfl⟩ | ⟨hk,rfl,rfl,rfl,rfl⟩ | ⟨hk,rfl,rfl,rfl,rfl⟩ | ⟨hk,rfl,rfl,rfl,rfl⟩ | ⟨hk,rfl,rfl,rfl,rfl⟩ | ⟨hk,rfl,rfl,rfl,rfl⟩ | ⟨hk,rfl,rfl,rfl,rfl⟩ | ⟨hk,rfl,rfl,rfl,rfl⟩ | ⟨hk,rfl,rfl,rfl,rfl⟩ | ⟨hk,rfl,rfl,rfl,rfl⟩ | ⟨hk,rfl,rfl,rfl,rfl⟩
  ·simp [hk] at h;cases h;simp
  ·simp [hk] at h;cases h;simp
  ·simp [hk] at h;obtain⟨h1,h2⟩:=bd1 h;have:=uQ h1;simp [hk,h2,this]
  ·simp [hk] at h;obtain⟨h1,h2⟩:=bd1 h;have:=uQ h1;simp [hk,h2,this]
  ·simp [hk] at h;obtain⟨h1,h2⟩:=bd1 h;have:=uQ h1;simp [hk,h2,this]
  ·simp [hk] at h;obtain⟨h1,h2⟩:=bd1 h;have:=uQ h1;simp [hk,h2,this]
  ·simp [hk] at h;obtain⟨h1,h2⟩:=bd1 h;obtain⟨h3,h4⟩:=Ht h1;have:=Tv h3;simp [hk,h2,h4,this,h3]
  ·simp [hk] at h;obtain⟨h1,h2⟩:=bd1 h;obtain⟨h3,h4⟩:=Ht h1;have:=Tv h3;simp [hk,h2,h4,this,h3]
  ·simp [hk] at h;obtain⟨h1,h2⟩:=bd1 h;obtain⟨h3,h4⟩:=Ht h1;have:=Bd h3;simp [hk,h2,h4,h3];omega
  ·simp [hk] at h;obtain⟨h1,h2⟩:=bd1 h;have:=uQ h1;simp [hk,h2,this]
  ·simp [hk] at h
   obtain⟨u,h1,h2⟩:=mR h;obtain⟨v,h3,h4⟩:=mR h2
   cases h4
   have g1:=uQ h1;have g2:=uQ h3;simp [hk,g1,g2]
  ·simp [hk] at h;cases h;simp
structure adO(R:Res)(s:Scp)(x:Ins)(y:Op9)(o:Int×Int):Prop where
 refs:nX R s x=.ok o
 y:y=⟨x.kind,x.op,if x.dst.data.toList=[] then -1 else dN s.vals x.dst,o.1,o.2,x.args.map (dN s.vals),x.frm.map (dN s.blks),x.num,x.at_⟩
 args:∀t∈x.args,t∈s.vals
 frm:∀t∈x.frm,t∈s.blks
 call:x.kind=7->x.args.length=nY R.q o.1
theorem Zf{R:Res}{s:Scp}{x:Ins}{y:Op9}(h:yJ R s x=.ok y):∃o,adO R s x y o:=by
 unfold yJ at h;obtain⟨o,h1,h⟩:=mR h;obtain⟨az,h2,h⟩:=mR h;obtain⟨fs,h3,h⟩:=mR h;obtain⟨rfl,g1⟩:=Db h2;obtain⟨rfl,g2⟩:=Db h3;split at h
 ·cases h
 ·rename_i hc
  cases h
  refine⟨o,h1,by simp,g1,g2,λhk=>?_⟩
  exact Classical.byContradiction λhne=>hc ⟨hk,hne⟩
structure agd(R:Res)(s:Scp)(code:List Ins)(i:Nat)(y:Op9):Prop where
 e:mq (code.getD i (aM 0)).kind=true->i+1=code.length
 ph:(code.getD i (aM 0)).kind=3->i≠0->(code.getD (i-1) (aM 0)).kind=3
 op:yJ R s (code.getD i (aM 0))=.ok y
theorem wZ{R:Res}{s:Scp}{code:List Ins}{i:Nat}{y:Op9}:vB R s code i=.ok y↔agd R s code i y:=by
 unfold vB
 constructor
 ·intro h
  split at h
  ·cases h
  ·rename_i h1
   split at h
   ·cases h
   ·rename_i h2
    exact⟨λg=>Classical.byContradiction λhne=>h1 ⟨g,hne⟩,λg g2=>Classical.byContradiction λhne=>h2 ⟨g,g2,hne⟩,h⟩
 ·intro h
  rw[if_neg λg=>g.2 (h.e g.1),if_neg λg=>g.2.2 (h.ph g.1 g.2.1)]
  exact h.op
structure Tw(f:Fun):Prop where
 name:okN f.name=true
 I8:fV f.params=true
 pl:f.params.length≤6
 b1:1≤f.blocks.length
 b2:f.blocks.length≤64
 blk:∀b∈f.blocks,okN b.name=true∧∀x∈b.code,bC x=true
structure agf(a:Arr):Prop where
 name:okN a.name=true
 lev:okN a.level=true
 s1:1≤a.size
 s2:a.size≤256
structure Zg(q:Prg):Prop where
 al:q.arrays.length≤16
 fl:q.funcs.length≤64
 arr:∀a∈q.arrays,agf a
 fn:∀f∈q.funcs,Tw f
 all:kr q.funcs≤4096
theorem Wo{a:Arr}:je a=true↔agf a:=by
 unfold je;simp only[agZ,ag2,Bool.not_eq_false',agX];exact⟨λ⟨⟨⟨h1,h2⟩,h3⟩,h4⟩=>⟨h1,h2,by omega,by omega⟩,λh=>⟨⟨⟨h.name,h.lev⟩,by have:=h.s1;omega⟩,by have:=h.s2;omega⟩⟩
theorem Wp{f:Fun}:kK f=true↔Tw f:=by
 unfold kK p9;simp only[agN,agZ,ag2,Bool.not_eq_false',agX,List.all_eq_true];exact⟨λ⟨⟨⟨⟨⟨h1,h2⟩,h3⟩,h4⟩,h5⟩,h6⟩=>⟨h1,h2,by omega,by omega,by omega,h6⟩,λh=>⟨⟨⟨⟨⟨h.name,h.I8⟩,by have:=h.pl;omega⟩,by have:=h.b1;omega⟩,by have:=h.b2;omega⟩,h.blk⟩⟩
theorem lF{q:Prg}:rightG q=true↔Zg q:=by
 unfold rightG;simp only[agN,agZ,ag2,agT,agX,List.all_eq_true,Wo,Wp];exact⟨λ⟨⟨⟨⟨h1,h2⟩,h3⟩,h4⟩,h5⟩=>⟨by omega,by omega,h3,h4,h5⟩,λh=>⟨⟨⟨⟨by have:=h.al;omega,by have:=h.fl;omega⟩,h.arr⟩,h.fn⟩,h.all⟩⟩
theorem sW{α β γ:Type}{F:α->γ}{G:β->γ}(d:α)(e:β):∀{l:List α} {m:List β},l.length=m.length->(∀i,i<m.length->F (l.getD i d)=G (m.getD i e))->l.map F=m.map G
 | [],[],_,_=>rfl
 | [],_::_,h,_=>by cases h
 | _::_,[],h,_=>by cases h
 | a::l,b::m,h,h2=>by
  rw[List.map_cons,List.map_cons,show F a=G b from h2 0 (Nat.zero_lt_succ _),sW d e (by simpa using h) λi hi=>h2 (i+1) (by simpa using hi)]
theorem Tx{vals:List BY}:∀{code:List Ins} {l:List Op9},l.length=code.length->(∀j,j<code.length->(l.getD j op0).kind=(code.getD j (aM 0)).kind∧((l.getD j op0).dst=if (code.getD j (aM 0)).dst.data.toList=[] then -1 else dN vals (code.getD j (aM 0)).dst)∧((code.getD j (aM 0)).dst.data.toList=[]↔uP (code.getD j (aM 0)).kind=false))->Li l=(zM code).map λe=>dN vals e.1
 | [],[],_,_=>rfl
 | [],_::_,h,_=>by cases h
 | _::_,[],h,_=>by cases h
 | x::code,y::l,h,h2=>by
  obtain⟨h3,h4,h5⟩:=h2 0 (Nat.zero_lt_succ _);have h3:y.kind=x.kind:=h3;have h4:y.dst=if x.dst.data.toList=[] then -1 else dN vals x.dst:=h4
  have h5:x.dst.data.toList=[]↔uP x.kind=false:=h5;have ih:=Tx (vals:=vals) (code:=code) (l:=l) (by simpa using h) λj hj=>h2 (j+1) (by simpa using hj)
  unfold Li zM at *;by_cases e:x.dst.data.toList=[]
  ·rw[List.filterMap_cons,List.filterMap_cons,if_neg (by rw[h3,h5.1 e];simp),if_pos e]
   exact ih
  ·have e2:uP x.kind=true:=by
    cases g:uP x.kind with
    | true=>rfl
    | false=>exact absurd (h5.2 g) e
   rw[List.filterMap_cons,List.filterMap_cons,if_pos (by rw[h3];exact e2),if_neg e]
   rw[if_neg e] at h4;simp only[List.map_cons];rw[h4,ih]
theorem OC{vals:List BY}:∀{bs:List Blk} {ls:List (List Op9)},ls.length=bs.length->(∀k,k<bs.length->Li (ls.getD k [])=(zM (bs.getD k bN).code).map λe=>dN vals e.1)->ko ls=(mI bs).map λe=>dN vals e.1
 | [],[],_,_=>rfl
 | [],_::_,h,_=>by cases h
 | _::_,[],h,_=>by cases h
 | b::bs,l::ls,h,h2=>by
  have ih:=OC (vals:=vals) (bs:=bs) (ls:=ls) (by simpa using h) λj hj=>h2 (j+1) (by simpa using hj)
  have h0:Li l=(zM b.code).map λe=>dN vals e.1:=h2 0 (Nat.zero_lt_succ _)
  unfold ko mI at *;rw[List.flatMap_cons,List.flatMap_cons,List.map_append,h0,ih]
theorem Zh{p:Pol}{q:Prg}{c:Cod}(hc:JY p q c){f:Fun}{b:Bod}(hb:OB (Es p q) f b){x:Ins}(hx:bC x=true){y:Op9}{o:Int×Int}(h:adO (Es p q) (qX f) x y o):∃n d r a,ROp p c b y n d r a:=by
 obtain⟨n,d,r,a,hs⟩:∃n d r a,shp x.kind=some (n,d,r,a):=by
  rcases dx hx with⟨h3,hp⟩ | ⟨n,d,r,a,hs,h3,hi,_⟩
  ·exact⟨-1,true,false,false,by unfold shp;rw[if_pos h3]⟩
  ·exact⟨n,d,r,a,Ri h3 hs⟩
 have hla:(Tt q).length=c.arrays.length:=by rw[hc.zL,List.length_map,List.length_map]
 have hlf:(Lh q).length=c.funcs.length:=by rw[hc.len,List.length_map]
 have hlb:(Ho f).length=b.blocks.length:=by rw[hb.len,List.length_map]
 obtain⟨g1,g2,g3,g4⟩:=abo hs h.refs;have e1:(qX f).blks.length=b.blocks.length:=hlb;have e2:(Es p q).zL.length=c.arrays.length:=hla;have e3:(Es p q).fns.length=c.funcs.length:=hlf
 rw[e1,e2,e3] at g3;rw[e1] at g4;have hy:=h.y;have hd:=JZ hx;have hD:uP x.kind=d:=by unfold uP;rw[hs]
 refine⟨n,d,r,a,?_⟩;subst hy
 have hargs:∀k∈x.args.map (dN (qX f).vals),0≤k∧k<b.vars:=λk hk=>by
  obtain⟨s,hs,rfl⟩:=List.mem_map.1 hk;rw[hb.vars];exact uN (jV.2 (h.args s hs))
 have UU:∀k∈x.frm.map (dN (qX f).blks),0≤k∧k<(b.blocks.length:Int):=λk hk=>by
  obtain⟨s,hs,rfl⟩:=List.mem_map.1 hk;rw[←hlb];exact uN (jV.2 (h.frm s hs))
 have hcall:x.kind=7->(x.args.length:Int)=(c.funcs.getD o.1.toNat aB).params:=λhk=>by
  have h7:=h.call hk
  have hr:r=true:=by
   rw[hk] at hs;have:shp 7=some (-1,true,true,false):=rfl;rw[this] at hs;cases hs;rfl
  have hm:=g3 hr;rw[hk] at hm;have hm:0≤o.1∧o.1<(c.funcs.length:Int):=hm
  have:=(hc.fn o.1.toNat (by rw[←hc.len];omega)).I8
  rw[this,h7];rfl
 rcases dx hx with⟨h3,hp⟩ | ⟨n',d',r',a',hs',h3,hi,hop⟩
 ·exact⟨hs,λg=>if_pos (hd.2 (by rw[hD,g])),g1,g2,λ_=>hp.num,λ_=>hp.op,λg=>by have g:x.kind=2:=g;omega,g3,g4,λ_=>by simp only[List.length_map];exact hp.len,λg=>absurd h3 g,hargs,UU⟩
 ·have hs2:=Ri h3 hs'
  rw[hs] at hs2
  cases hs2
  refine⟨hs,λg=>if_pos (hd.2 (by rw[hD,g])),g1,g2,λg=>?_,λg=>?_,λg=>Hr.1 (hop g),g3,g4,λg=>absurd g h3,λ_=>⟨by show x.frm.map _=[];rw[hi.frm];rfl,?_⟩,hargs,UU⟩
  ·exact Classical.byContradiction λhne=>g (hi.num hne)
  ·exact Classical.byContradiction λhne=>g (hi.op.1 hne)
  ·show ((x.args.map (dN (qX f).vals)).length:Int)=if x.kind=7 then _ else n
   rw[List.length_map];split
   ·rename_i hk;exact hcall hk
   ·rename_i hk
    refine hi.jF.1 ?_
    rcases qw hs' with g | g | g | g | g | g | g | g | g | g | g | g<;>omega
theorem Wq{p:Pol}{q:Prg}{c:Cod}(hc:JY p q c){f:Fun}{b:Bod}(hb:OB (Es p q) f b)(hf:Tw f):Rh p c b:=by
 have hins:∀k,k<f.blocks.length->∀j,j<(f.blocks.getD k bN).code.length->∃o,adO (Es p q) (qX f) ((f.blocks.getD k bN).code.getD j (aM 0)) ((b.blocks.getD k []).getD j op0) o:=λk hk j hj=>Zf (wZ.1 ((hb.blk k hk).ins j hj)).op
 have hri:∀k,k<f.blocks.length->∀j,j<(f.blocks.getD k bN).code.length->bC ((f.blocks.getD k bN).code.getD j (aM 0))=true:=λk hk j hj=>(hf.blk _ (getD_in _ hk)).2 _ (getD_in _ hj)
 have hD:ko b.blocks=(mI f.blocks).map λe=>dN (wX f) e.1:=by
  refine OC hb.len λk hk=>Tx (hb.blk k hk).len λj hj=>?_
  obtain⟨o,ho⟩:=hins k hk j hj;have hy:=ho.y;exact⟨by rw[hy],by rw[hy],JZ (hri k hk j hj)⟩
 refine⟨⟨by rw[hb.I8];omega,by rw[hb.I8];have:=hf.pl;omega⟩,⟨by rw[hb.len];exact hf.b1,by rw[hb.len];exact hf.b2⟩,?_,λi hi=>?_,λl hl=>?_⟩
 ·rw[hb.vars,hb.I8,hD,List.length_map,List.length_append,List.length_map];omega
 ·rw[hD] at hi ⊢
  rw[List.length_map] at hi
  have hv:(wX f).getD (f.params.length+i) .empty=((mI f.blocks).getD i (.empty,0)).1:=by
   rw[agM,agM,List.getElem?_append_right (by omega),Nat.add_sub_cancel_left,List.getElem?_map,agO hi];rfl
  have hl:f.params.length+i<(wX f).length:=by rw[List.length_append,List.length_map];omega
  have:=pos_at hb.nv hl;rw[hv] at this;rw[hb.I8,agM,List.getElem?_map,agO hi];rw[agM,agO hi] at this;show dN (wX f) ((mI f.blocks)[i]).1=_;have this:dN (wX f) ((mI f.blocks)[i]).1=((f.params.length+i:Nat):Int):=this;rw[this];omega
 ·obtain⟨k,hk,rfl⟩:=List.getElem_of_mem hl
  have hk2:k<f.blocks.length:=by rw[←hb.len];exact hk
  have hB:=hb.blk k hk2;have eL:b.blocks.getD k []=b.blocks[k]:=by rw[agM,agO hk];rfl
  rw[eL] at hB
  have hkind:∀j,j<(f.blocks.getD k bN).code.length->(b.blocks[k].getD j op0).kind=((f.blocks.getD k bN).code.getD j (aM 0)).kind:=λj hj=>by
   obtain⟨o,ho⟩:=hins k hk2 j hj;have:=ho.y;rw[eL] at this;rw[this]
  have he:=hB.e;unfold wS at he;rw[agN,agT] at he;refine⟨by rw[hB.len];exact he.1,λj hj=>?_,λj hj=>?_,λj hj h3 h0=>?_⟩
  ·rw[hB.len] at hj
   obtain⟨o,ho⟩:=hins k hk2 j hj;rw[eL] at ho;exact Zh hc hb (hri k hk2 j hj) ho
  ·rw[hB.len] at hj ⊢
   rw[hkind j hj];refine⟨(wZ.1 (hB.ins j hj)).e,λg=>?_⟩
   rw[show j=(f.blocks.getD k bN).code.length-1 by omega];exact he.2
  ·rw[hB.len] at hj
   rw[hkind j hj] at h3;rw[hkind (j-1) (by omega)]
   exact (wZ.1 (hB.ins j hj)).ph h3 h0
theorem yt{p:Pol}{q:Prg}{c:Cod}(hp:gW p=true)(hq:Zg q)(hc:JY p q c):mF p c:=by
 have hm:=uN (jV.2 hc.mn);rw[←hc.main,List.length_map,←hc.len] at hm;have hbod:∀i,i<q.funcs.length->Rh p c (c.funcs.getD i aB):=λi hi=>Wq hc (hc.fn i hi) (hq.fn _ (getD_in _ hi))
 refine⟨hp,by rw[hc.zL,List.length_map];exact hq.al,by rw[hc.len];exact hq.fl,hm,?_,λa ha=>?_,λb hb=>?_,?_⟩
 ·have:=(hc.fn c.main.toNat (by rw[←hc.len];omega)).I8
  rw[this];have h0:=hc.mp;rw[←hc.main] at h0;unfold nY at h0;rw[h0];rfl
 ·rw[hc.zL] at ha
  obtain⟨a',ha',rfl⟩:=List.mem_map.1 ha;have h1:=hq.arr a' ha';have h2:=hc.lv a' ha';have h3:=Bd h2;exact⟨⟨h1.s1,h1.s2⟩,h2,by show bH p.lev a'.level<_;omega⟩
 ·obtain⟨i,hi,rfl⟩:=List.getElem_of_mem hb
  have:=hbod i (by rw[←hc.len];exact hi)
  rwa [agM,agO hi] at this
 ·have:(c.funcs.map λb=>(b.blocks.map λl=>l.length).sum)=q.funcs.map λf=>(f.blocks.map λb=>b.code.length).sum:=by
   refine sW aB bM hc.len λi hi=>?_
   have hb:=hc.fn i hi
   congr 1
   exact sW [] bN hb.len λk hk=>(hb.blk k hk).len
  rw[this];exact hq.all
end Go.Proofs.YtojhdmfkfkfcbaaGreatDoor
namespace Go.Proofs.YtojhdmfkfkfcbaaGreatDoor
open Go.Sx
def Ws(b:UInt8):Bool:=decide (b=32)||decide (b=9)
def byt(s:BY)(i:Nat):UInt8:=s.data.toList.getD i 0
theorem Zi(s:BY)(i:Nat):(byt s i).toNat=bt s i:=by
 have h:=su s i;unfold sb at h;unfold byt;omega
theorem adP(s:BY)(i:Nat):Ws (byt s i)=true↔(bt s i=32∨bt s i=9):=by
 rw[←Zi];unfold Ws;simp only[Bool.or_eq_true,agT,←UInt8.toNat_inj];exact Iff.rfl
theorem zT(s:BY):s.data.toList.length=s.size:=Array.length_toList
abbrev tl(s:BY):List UInt8:=s.data.toList
theorem adQ(s:BY):tl s=[]↔s.size=0:=by
 rw[←List.length_eq_zero_iff,zT]
def okB(l:List UInt8):Bool:=(rl ⟨l.toArray⟩).all okR
theorem ba_l(s:BY):(⟨s.data.toList.toArray⟩:BY)=s:=by cases s;simp
theorem adR(s:BY):0≤dB s s.size 0↔okB s.data.toList=false:=by
 unfold okB;rw[ba_l];have:=(Yq s).2
 cases h:(rl s).all okR with
 | true=>rw[h] at this;have:=this.2 rfl;simp;omega
 | false=>rw[h] at this;simp at this;simp;omega
end Go.Proofs.YtojhdmfkfkfcbaaGreatDoor
namespace Go.Proofs.YtojhdmfkfkfcbaaGreatDoor
open Go.Sx
set_option maxRecDepth 100000
theorem Zj{sz p a b c d:Nat}(ha:a<256)(h:oG ((dec sz p a b c d).1:Int)=true∨yH ((dec sz p a b c d).1:Int)=true):(dec sz p a b c d).2≤2∧a≠10∧a≠32∧a≠9∧a≠35∧(1<(dec sz p a b c d).2->127<b):=by
 have hr:((dec sz p a b c d).1≤969∧48≤(dec sz p a b c d).1):=by
  unfold oG yH at h;simp only[Bool.or_eq_true,agN,agT] at h;omega
 revert hr
 unfold dec
 repeat' split
 all_goals dsimp only
 all_goals omega
theorem Et(s:BY):∀(n p:Nat) (c:Int),s.size≤p+n->0≤c->c≤24->jd s n p c=true->(s.size:Int)≤p+2*(24-c)∧∀k,p≤k->k<s.size->bt s k≠10∧bt s k≠32∧bt s k≠9∧bt s k≠35
 | 0,p,c,h,_,_,_=>⟨by omega,λk h1 h2=>by omega⟩
 | n+1,p,c,h,h0,h1,hw=>by
  rw[jd] at hw;split at hw
  ·rename_i hp
   split at hw
   ·cases hw
   ·rename_i hg
    split at hw
    ·cases hw
    ·have hd:=aY s p
     obtain⟨i1,i2⟩:=Et s n (p+(Utf8.decode s p).2) (c+1) (by omega) (by omega) (by omega) hw
     have hg:oG ((Utf8.decode s p).1:Int)=true∨yH ((Utf8.decode s p).1:Int)=true:=by
      cases e1:oG ((Utf8.decode s p).1:Int) with
      | true=>exact .inl rfl
      | false=>
       cases e2:yH ((Utf8.decode s p).1:Int) with
       | true=>exact .inr rfl
       | false=>rw[e1,e2] at hg;simp at hg
     rw[bK] at hg;have:=Zj (AL s p) hg;rw[←bK] at this;refine⟨by omega,λk k1 k2=>?_⟩
     by_cases e:k=p
     ·subst e;exact⟨this.2.1,this.2.2.1,this.2.2.2.1,this.2.2.2.2.1⟩
     ·by_cases e1:p+(Utf8.decode s p).2≤k
      ·exact i2 k e1 k2
      ·have e3:k=p+1:=by omega
       have:=this.2.2.2.2.2 (by omega)
       rw[e3];omega
  ·exact⟨by omega,λk h1 h2=>by omega⟩
theorem OD(s:BY):∀(n p:Nat) (c:Int),jd s n p c=true->(dl s n p).all okR=true
 | 0,p,c,_=>rfl
 | n+1,p,c,hw=>by
  rw[jd] at hw;rw[dl];split at hw
  ·rename_i hp
   rw[if_pos hp];split at hw
   ·cases hw
   ·rename_i hg
    split at hw
    ·cases hw
    ·rw[List.all_cons,OD s n _ _ hw,Bool.and_true]
     unfold okR;by_cases e:(Utf8.decode s p).1=65533
     ·rw[e,show oG ((65533:Nat):Int)=false from by decide,show yH ((65533:Nat):Int)=false from by decide] at hg
      simp at hg
     ·simp [e]
  ·rename_i hp
   rw[if_neg hp];rfl
structure GW(w:BY):Prop where
 ne:tl w≠[]
 no:∀b∈tl w,b≠10∧Ws b=false
 ok:okB (tl w)=true
theorem yu{s:BY}(h:jU s=true):GW s∧s.size≤48∧sb s 0≠35:=by
 unfold jU at h;rw[agN] at h;have h:=h.1;obtain⟨h1,h2⟩:=Et s s.size 0 0 (by omega) (by omega) (by omega) h
 have hne:s.size≠0:=λe=>by
  rw[e] at h;exact absurd h (by rw[jd];decide)
 have hok:dB s s.size 0<0:=(Yq s).2.2 (OD s s.size 0 0 h);refine⟨⟨λe=>hne ((adQ s).1 e),λb hb=>?_,?_⟩,by omega,?_⟩
 ·obtain⟨k,hk,rfl⟩:=List.getElem_of_mem hb
  rw[zT] at hk;have:=h2 k (Nat.zero_le _) hk
  have e:(tl s)[k]'(by rw[zT];exact hk)=byt s k:=by
   unfold byt;rw[agM,agO (by rw[zT];exact hk)];rfl
  rw[e];refine⟨λq=>this.1 (by rw[←Zi,q];rfl),?_⟩
  cases q:Ws (byt s k) with
  | false=>rfl
  | true=>have:=(adP s k).1 q;omega
 ·have:=adR s
  cases q:okB (tl s) with
  | true=>rfl
  | false=>have:=this.2 q;omega
 ·have:=h2 0 (Nat.le_refl _) (by omega)
  rw[su];omega
def joinL:List BY->List UInt8
 | []=>[]
 | [w]=>tl w
 | w::v::r=>tl w++32::joinL (v::r)
def GL(ws:List BY):Prop:=∃w r,ws=w::r∧(∀x∈ws,GW x)∧sb w 0≠35
def Hu(K:List (List UInt8))(k:List UInt8):Int:=uG (λi=>decide (K.getD i []=k)) K.length 0
theorem Rj{α:Type}(f:α->List UInt8)(a0:α)(l:List α)(h0:f a0=[])(i:Nat):(l.map f).getD i []=f (l.getD i a0):=by
 rw[agM,agM,List.getElem?_map]
 cases l[i]? with
 | none=>exact h0.symm
 | some x=>rfl
theorem Rk(l:List BY)(s:BY):bH l s=Hu (l.map tl) (tl s):=by
 unfold bH Hu;rw[List.length_map]
 congr 1
 funext i
 rw[Rj tl .empty l Z i]
theorem Hw(l:List Chan)(s:BY):gT l s=Hu (l.map λc=>tl c.1) (tl s):=by
 unfold gT Hu;rw[List.length_map]
 congr 1
 funext i
 rw[Rj (λc:Chan=>tl c.1) bf l Z i]
theorem Lj{p:Nat->Bool}:∀{n i k:Nat},uG p n i=(k:Int)↔i≤k∧k<i+n∧p k=true∧∀j,i≤j->j<k->p j=false
 | 0,i,k=>by
  rw[uG];exact⟨λh=>by omega,λh=>by omega⟩
 | n+1,i,k=>by
  rw[uG]
  cases hp:p i with
  | true=>
   rw[if_pos rfl]
   constructor
   ·intro h
    obtain rfl:i=k:=by omega
    exact⟨Nat.le_refl _,by omega,hp,λj h1 h2=>by omega⟩
   ·rintro ⟨h1,h2,h3,h4⟩
    by_cases e:i=k
    ·rw[e]
    ·have:=h4 i (Nat.le_refl _) (by omega)
     rw[hp] at this;cases this
  | false=>
   rw[if_neg (by simp),Lj]
   constructor
   ·rintro ⟨h1,h2,h3,h4⟩
    refine⟨by omega,by omega,h3,λj j1 j2=>?_⟩
    by_cases e:j=i
    ·rw[e];exact hp
    ·exact h4 j (by omega) j2
   ·rintro ⟨h1,h2,h3,h4⟩
    have:i≠k:=λe=>by rw[e] at hp;rw[hp] at h3;cases h3
    exact⟨by omega,by omega,h3,λj j1 j2=>h4 j (by omega) j2⟩
theorem J2{K:List (List UInt8)}{i:Nat}(h:i<K.length):K.getD i []=K[i]:=by
 rw[agM,agO h];rfl
theorem Tz{K:List (List UInt8)}{k:List UInt8}:Hu K k<0↔k∉K:=by
 have:0≤Hu K k↔k∈K:=by
  unfold Hu;rw[G7]
  constructor
  ·rintro ⟨j,_,h1,h2⟩
   have h1:j<K.length:=by omega
   rw[agT,J2 h1] at h2;rw[←h2];exact List.getElem_mem h1
  ·intro h
   obtain⟨j,hj,rfl⟩:=List.getElem_of_mem h;exact⟨j,Nat.zero_le _,by omega,decide_eq_true (J2 hj)⟩
 rw[←this];omega
theorem EW{K:List (List UInt8)}(hn:K.Nodup){i:Nat}(h:i<K.length):Hu K (K.getD i [])=i:=by
 unfold Hu;refine Lj.2 ⟨Nat.zero_le _,by omega,decide_eq_true Z,λj _ hj=>decide_eq_false ?_⟩
 rw[J2 h,J2 (by omega)]
 intro e;have:=(List.getElem_inj hn).1 e;omega
theorem OE{K:List (List UInt8)}(h:∀i,i<K.length->Hu K (K.getD i [])=i):K.Nodup:=by
 rw[List.nodup_iff_pairwise_ne,List.pairwise_iff_getElem];intro i j hi hj hij e;have:=h j hj;unfold Hu at this;have:=(Lj.1 this).2.2.2 i (Nat.zero_le _) hij;rw[agX,J2 hi,J2 hj] at this;exact this e
def wB(l:List UInt8):BY:=⟨l.toArray⟩
def levW(l:List BY):List (List BY):=l.map λs=>[wB uL,s]
def agh(lev:List BY)(ps:List (Nat×Nat)):List (List BY):=ps.map λc=>[wB Bb,lev.getD c.1 .empty,lev.getD c.2 .empty]
def aci(k:List UInt8)(lev:List BY)(l:List Chan):List (List BY):=l.map λc=>[wB k,c.1,lev.getD c.2.toNat .empty]
def depW(d:Int):List (List BY):=[[wB ku,bF d]]
abbrev NL(l:List BY):Prop:=(l.map tl).Nodup
abbrev NC(l:List Chan):Prop:=(l.map λc=>tl c.1).Nodup
theorem uR{l:List BY}(h:∀s∈l,jU s=true){i:Nat}(hi:i<l.length):jU (l.getD i .empty)=true:=h _ (by rw[agM,agO hi];exact List.getElem_mem hi)
theorem EX{l:List BY}(hn:NL l){i:Nat}(hi:i<l.length):bH l (l.getD i .empty)=i:=by
 rw[Rk,←Rj tl .empty l Z i];exact EW hn (by rw[List.length_map];exact hi)
def OKC(lev:List BY)(c:Chan):Prop:=jU c.1=true∧0≤c.2∧c.2<lev.length
theorem abp:∀k:Fin 65,1≤k.1->fQ (bF (k.1:Int))=((k.1:Int),true)∧tl (bF (k.1:Int))≠[]∧(∀b∈tl (bF (k.1:Int)),b≠10∧Ws b=false)∧okB (tl (bF (k.1:Int)))=true∧(bF (k.1:Int)).size≤2:=by decide +kernel
theorem Zk{d:Int}(h1:1≤d)(h2:d≤64):fQ (bF d)=(d,true)∧GW (bF d)∧(bF d).size≤2:=by
 obtain⟨k,rfl⟩:∃k:Nat,d=k:=⟨d.toNat,by omega⟩
 obtain⟨a,b,c,e,f⟩:=abp ⟨k,by omega⟩ (by show 1≤k;omega)
 exact⟨a,⟨b,c,e⟩,f⟩
structure Wt(p:Pol):Prop where
 up:gJ p.up=true
 len:p.up.length=p.lev.length
 nl:NL p.lev
 names:∀s∈p.lev,jU s=true
 ni:NC p.ins
 no:NC p.outs
 il:p.ins.length≤32
 ol:p.outs.length≤32
 iok:∀c∈p.ins,OKC p.lev c
 ook:∀c∈p.outs,OKC p.lev c
 depth:1≤p.depth∧p.depth≤64
theorem Wu(lev:List BY)(l:List Chan):rM lev.length l=true↔l.length≤32∧NC l∧∀c∈l,OKC lev c:=by
 unfold rM;rw[agN,agT,wR];have hm:∀{i},i<l.length->l.getD i bf∈l:=λ{i} hi=>by rw[agM,agO hi];exact List.getElem_mem hi
 have hk:∀i,(l.map λc=>tl c.1).getD i []=tl (l.getD i bf).1:=Rj (λc:Chan=>tl c.1) bf l Z
 refine and_congr Iff.rfl ⟨λh=>?_,λ⟨h1,h2⟩ i _ hi=>?_⟩
 ·have each:∀i,i<l.length->jU (l.getD i bf).1=true∧gT l (l.getD i bf).1=(i:Int)∧0≤(l.getD i bf).2∧(l.getD i bf).2<(lev.length:Int):=λi hi=>by
   have:=h i (Nat.zero_le _) (by omega)
   unfold K7 at this;simp only[agN,agT] at this;exact⟨this.1.1.1,this.1.1.2,this.1.2,this.2⟩
  refine⟨OE λi hi=>?_,λc hc=>?_⟩
  ·rw[List.length_map] at hi
   rw[hk,←Hw];exact (each i hi).2.1
  ·obtain⟨i,hi,rfl⟩:=List.getElem_of_mem hc
   have:=each i hi;rw[agM,agO hi] at this;exact⟨this.1,this.2.2.1,this.2.2.2⟩
 ·have hi:i<l.length:=by omega
  obtain⟨o1,o2,o3⟩:=h2 _ (hm hi);unfold K7
  have:gT l (l.getD i bf).1=i:=by
   rw[Hw,←hk];exact EW h1 (by rw[List.length_map];exact hi)
  rw[o1,decide_eq_true this,decide_eq_true o2,decide_eq_true o3];rfl
theorem nG(p:Pol):gW p=true↔Wt p:=by
 unfold gW N8;have hk:∀i,(p.lev.map tl).getD i []=tl (p.lev.getD i .empty):=Rj tl .empty p.lev Z;simp only[agN,agT,Wu,wR]
 constructor
 ·rintro ⟨⟨⟨⟨⟨h1,h2⟩,h3⟩,h4⟩,h5⟩,h6,h7⟩
  have each:∀i,i<p.lev.length->jU (p.lev.getD i .empty)=true∧bH p.lev (p.lev.getD i .empty)=(i:Int):=λi hi=>by
   have:=h5 i (Nat.zero_le _) (by omega)
   unfold K8 at this;simp only[agN,agT] at this;exact this
  refine⟨h2,h1.symm,OE λi hi=>?_,λs hs=>?_,h6.2.1,h7.2.1,h6.1,h7.1,h6.2.2,h7.2.2,h3,h4⟩
  ·rw[List.length_map] at hi
   rw[hk,←Rk];exact (each i hi).2
  ·obtain⟨i,hi,rfl⟩:=List.getElem_of_mem hs
   have:=(each i hi).1
   rwa [agM,agO hi] at this
 ·intro h
  refine⟨⟨⟨⟨⟨h.len.symm,h.up⟩,h.depth.1⟩,h.depth.2⟩,λi _ hi=>?_⟩,⟨h.il,h.ni,h.iok⟩,h.ol,h.no,h.ook⟩
  have hi:i<p.lev.length:=by omega
  unfold K8;rw[uR h.names hi,decide_eq_true (EX h.nl hi)];rfl
theorem adS:(∀k∈[uL,Bb,uM,oL,ku],(tl (wB k)≠[]∧(∀b∈tl (wB k),b≠10∧Ws b=false)∧okB (tl (wB k))=true)∧sb (wB k) 0≠35):=by decide +kernel
theorem Zl{k:List UInt8}(hk:k∈[uL,Bb,uM,oL,ku]){ws:List BY}(h:∀w∈ws,GW w):GL (wB k::ws):=by
 obtain⟨⟨a,b,c⟩,d⟩:=adS k hk;refine⟨_,_,Z,λx hx=>?_,d⟩
 rcases List.mem_cons.1 hx with rfl | hx
 ·exact⟨a,b,c⟩
 ·exact h x hx
theorem parts{p:Pol}(h:Wt p):(∀ws∈levW p.lev,GL ws∧(joinL ws).length+1≤55)∧(∀ws∈agh p.lev (ES p.up),GL ws∧(joinL ws).length+1≤103)∧(∀ws∈aci uM p.lev p.ins,GL ws∧(joinL ws).length+1≤104)∧(∀ws∈aci oL p.lev p.outs,GL ws∧(joinL ws).length+1≤105)∧(∀ws∈depW p.depth,GL ws∧(joinL ws).length+1≤9):=by
 have ho:gI p.up=true:=by have:=h.up;unfold gJ at this;rw[agN] at this;exact this.1
 have two:∀(k:List UInt8) (n:Nat),k∈[uL,Bb,uM,oL,ku]->(wB k).size=n->∀a b:BY,jU a=true->jU b=true->GL [wB k,a,b]∧(joinL [wB k,a,b]).length+1≤n+99:=λk n hk hn a b ha hb=>by
  have qa:=yu ha;have qb:=yu hb;refine⟨Zl hk λw hw=>?_,?_⟩
  ·simp at hw
   rcases hw with rfl | rfl
   ·exact qa.1
   ·exact qb.1
  ·simp only[joinL,List.length_append,List.length_cons,zT];omega
 refine⟨λws hws=>?_,λws hws=>?_,λws hws=>?_,λws hws=>?_,λws hws=>?_⟩
 ·obtain⟨s,hs,rfl⟩:=List.mem_map.1 hws
  have q:=yu (h.names s hs);refine⟨Zl (by decide) λw hw=>by simp at hw;subst hw;exact q.1,?_⟩
  simp only[joinL,List.length_append,List.length_cons,zT];have:(wB uL).size=5:=by decide
  omega
 ·obtain⟨c,hc,rfl⟩:=List.mem_map.1 hws
  obtain⟨c1,c2⟩:=VO (adE ho) c hc;rw[h.len] at c1 c2;exact two Bb 4 (by decide) (by decide) _ _ (uR h.names c1) (uR h.names c2)
 ·obtain⟨c,hc,rfl⟩:=List.mem_map.1 hws
  obtain⟨c1,c2,c3⟩:=h.iok c hc;exact two uM 5 (by decide) (by decide) _ _ c1 (uR h.names (by omega))
 ·obtain⟨c,hc,rfl⟩:=List.mem_map.1 hws
  obtain⟨c1,c2,c3⟩:=h.ook c hc;exact two oL 6 (by decide) (by decide) _ _ c1 (uR h.names (by omega))
 ·obtain rfl:=List.mem_singleton.1 hws
  obtain⟨_,q1,q2⟩:=Zk h.depth.1 h.depth.2;refine⟨Zl (by decide) λw hw=>by simp at hw;subst hw;exact q1,?_⟩
  simp only[joinL,List.length_append,List.length_cons,zT];have:(wB ku).size=5:=by decide
  omega
structure RInv(r:Rdr):Prop where
 nl:NL r.lev
 names:∀s∈r.lev,jU s=true
 ni:NC r.ins
 no:NC r.outs
 iok:∀c∈r.ins,OKC r.lev c
 ook:∀c∈r.outs,OKC r.lev c
 depth:r.depth=0∨(1≤r.depth∧r.depth≤64)
theorem Dg{w:List BY}(h:zK w=true)(hk:(w_ w 0).data.toList≠ku){j:Nat}(hj:j<w.tail.length):jU (w_ w.tail j)=true:=by
 unfold zK at h;rw[List.all_eq_true] at h;have:=h (w_ w.tail j) (by unfold w_;rw[agM,agO hj];exact List.getElem_mem hj)
 unfold okW at this;rw[decide_eq_false hk] at this
 simpa using this
theorem TA{α:Type}{K:List α}{k:α}(h:K.Nodup)(hk:k∉K):(K++[k]).Nodup:=by
 rw[List.nodup_append];exact⟨h,by simp,λa ha b hb=>by rw[List.mem_singleton.1 hb];exact λe=>hk (e▸ha)⟩
theorem J3{lev:List BY}{l:List Chan}{w:List BY}(hN:jU (w_ w 0)=true)(hn:NC l)(hO:∀c∈l,OKC lev c):NC (kL lev l w)∧∀c∈kL lev l w,OKC lev c:=by
 unfold kL;split
 ·rename_i h0
  unfold mo at h0;split at h0
  ·omega
  ·rename_i h1
   split at h0
   ·omega
   ·rename_i h2
    refine⟨?_,λc hc=>?_⟩
    ·rw[NC,List.map_append]
     refine TA hn ?_;have:gT l (w_ w 0)<0:=by omega
     rwa [Hw,Tz] at this
    ·rcases List.mem_append.1 hc with hc | hc
     ·exact hO c hc
     ·rw[List.mem_singleton.1 hc]
      have:=Bd (l:=lev) (s:=w_ w 1) (by omega)
      exact⟨hN,by show 0≤bH _ _;omega,by show bH _ _<_;omega⟩
 ·exact⟨hn,hO⟩
theorem Wv{r:Rdr}(h:RInv r)(w:List BY):RInv (nW r w).1:=by
 have pick:∀{k d},(w.length=k+1->zK w=true->RInv d.1)->RInv (vw r w k d).1:=λ{k d} hd=>by
  unfold vw;split
  ·rename_i hc;exact hd hc.1 hc.2
  ·exact h
 have Rl:∀{k},w.length=k+1->w.tail.length=k:=λ{k} e=>by rw[List.length_tail];omega
 unfold nW;split
 ·rename_i e
  refine pick λhl hw=>?_
  unfold qg;split
  ·exact h
  ·rename_i h1
   split
   ·exact h
   ·refine⟨?_,λs hs=>?_,h.ni,h.no,λc hc=>?_,λc hc=>?_,h.depth⟩
    ·show NL (r.lev++[_])
     rw[NL,List.map_append];refine TA h.nl ?_;have:bH r.lev (w_ w.tail 0)<0:=by omega
     rwa [Rk,Tz] at this
    ·rcases List.mem_append.1 hs with hs | hs
     ·exact h.names s hs
     ·rw[List.mem_singleton.1 hs]
      exact Dg hw (by rw[e];decide) (by rw[Rl hl];omega)
    ·have:=h.iok c hc
     exact⟨this.1,this.2.1,by have:=this.2.2;show c.2<((r.lev++[_]).length:Int);simp;omega⟩
    ·have:=h.ook c hc
     exact⟨this.1,this.2.1,by have:=this.2.2;show c.2<((r.lev++[_]).length:Int);simp;omega⟩
 split
 ·refine pick λ_ _=>?_
  unfold yV;split
  ·exact⟨h.nl,h.names,h.ni,h.no,h.iok,h.ook,h.depth⟩
  ·exact h
 split
 ·rename_i e
  refine pick λhl hw=>?_
  have:=J3 (lev:=r.lev) (Dg hw (by rw[e];decide) (by rw[Rl hl];omega)) h.ni h.iok
  exact⟨h.nl,h.names,this.1,h.no,this.2,h.ook,h.depth⟩
 split
 ·rename_i e
  refine pick λhl hw=>?_
  have:=J3 (lev:=r.lev) (Dg hw (by rw[e];decide) (by rw[Rl hl];omega)) h.no h.ook
  exact⟨h.nl,h.names,h.ni,this.1,h.iok,this.2,h.depth⟩
 split
 ·refine pick λ_ _=>?_
  unfold qh;split
  ·exact h
  ·split
   ·exact h
   ·exact⟨h.nl,h.names,h.ni,h.no,h.iok,h.ook,.inr (by show 1≤(fQ _).1∧(fQ _).1≤64;omega)⟩
 ·exact h
theorem zU:∀(ls:List BY) (at_:Int) (r r':Rdr) (n:Nat),RInv r->Kept r n->n+ls.length≤100000->rJ ls at_ r=.inr r'->RInv r'∧∃k,Kept r' k
 | [],at_,r,r',n,h,hk,_,e=>by cases e;exact⟨h,n,hk⟩
 | l::ls,at_,r,r',n,h,hk,hn,e=>by
  rw[List.length_cons] at hn;rw[rJ] at e;split at e
  ·split at e
   ·cases e
   ·exact zU ls _ _ r' (n+1) (Wv h _) (JO hk (by omega) _) (by omega) e
  ·exact zU ls _ _ r' n h hk (by omega) e
theorem OG{s:BY}(h:(dM s).2.2=0):Wt (dM s).1:=by
 revert h
 unfold dM;split
 ·intro h;cases h
 ·rename_i hz
  split
  ·intro h;cases h
  ·split
   ·rename_i at_ e he
    intro h
    exfalso
    have:∀(ls:List BY) (a:Int) (r:Rdr) (q:Int×Int),rJ ls a r=.inl q->q.2≠0:=λls=>by
     induction ls with
     | nil=>intro a r q hq;cases hq
     | cons l ls ih=>
      intro a r q hq;rw[rJ] at hq;split at hq
      ·split at hq
       ·rename_i hne
        cases hq;exact hne
       ·exact ih _ _ _ hq
      ·exact ih _ _ _ hq
    exact this _ _ _ _ he h
   ·rename_i r he
    have i0:RInv VN:=⟨List.nodup_nil,λ_ h=>(by cases h),List.nodup_nil,List.nodup_nil,λ_ h=>(by cases h),λ_ h=>(by cases h),.inl rfl⟩
    obtain⟨hi,k,hk⟩:=zU (dL s) 0 VN r 0 i0 ace (by have:=(NZ s).2;omega) he
    unfold YP;split
    ·intro h;cases h
    ·rename_i hc
     split
     ·rename_i hr
      intro _;exact⟨hr,yc _ _,hi.nl,hi.names,hi.ni,hi.no,hk.ins,hk.outs,hi.iok,hi.ook,by have:=hi.depth;show 1≤r.depth∧r.depth≤64;omega⟩
     ·intro h;cases h
theorem kY{α:Type}{n:Nat}{f:Nat->α}{a:α}:a∈rng n f↔∃i,i<n∧f i=a:=by
 unfold rng;simp [List.mem_map,List.mem_range]
theorem kQ{α:Type}{n:Nat}{f:Nat->α}(d:α){i:Nat}(h:i<n):(rng n f).getD i d=f i:=by
 rw[agM,abk h];rfl
theorem BD{α β:Type}(n:Nat)(f:Nat->α)(g:α->β):(rng n f).map g=rng n λi=>g (f i):=by
 unfold rng;rw[List.map_map];rfl
theorem Dh{n:Nat}{f:Nat->BY}(h:∀i j,i<n->j<n->f i=f j->i=j):(rng n f).Nodup:=by
 rw[List.nodup_iff_pairwise_ne,List.pairwise_iff_getElem];intro i j hi hj hij e;rw[bR] at hi hj;have e1:=kQ (f:=f) .empty hi;have e2:=kQ (f:=f) .empty hj;rw[agM,agO (by rw[bR];exact hi)] at e1
 rw[agM,agO (by rw[bR];exact hj)] at e2
 have e1:(rng n f)[i]'(by rw[bR];exact hi)=f i:=e1
 have e2:(rng n f)[j]'(by rw[bR];exact hj)=f j:=e2
 have:=h i j hi hj (by rw[←e1,←e2];exact e)
 omega
theorem TB{α:Type}(m:Nat)(f:Nat->α):∀n:Nat,rng (m+n) f=rng m f++rng n λi=>f (m+i)
 | 0=>by simp [rng]
 | n+1=>by rw[←Nat.add_assoc,kP,kP,TB m f n,List.append_assoc]
theorem TD{α:Type}(d:α){l:List α}{n:Nat}{f:Nat->α}(h:l.length=n)(h2:∀i,i<n->l.getD i d=f i):l=rng n f:=by
 refine List.ext_getElem (by rw[h,bR]) λi hi hj=>?_
 have h3:=h2 i (by omega)
 rw[agM,agO hi] at h3;have h4:=kQ (f:=f) d (show i<n by omega)
 rw[agM,agO hj] at h4;exact h3.trans h4.symm
theorem Ll{c:UInt8}{n:Nat}(hn:n≤1000000):(rng n λk=>nmN c (k:Int)).Nodup:=Dh λi j hi hj e=>by
 have:=(Rf (n:=(i:Int)) (m:=(j:Int)) (by unfold aj;omega) (by unfold aj;omega) e).2
 omega
theorem Hy{n:Nat}{f:Nat->BY}(hn:(rng n f).Nodup){k:Int}(h:0≤k∧k<(n:Int))(a:Int):gL (rng n f) (f k.toNat) a=.ok k:=by
 have:=Za hn (i:=k.toNat) (by rw[bR];omega) a
 rw[kQ _ (by omega)] at this
 rw[this]
 congr 1;omega
theorem oP{c:UInt8}{n:Nat}(hn:n≤1000000){k:Int}(h:0≤k∧k<(n:Int))(a:Int):gL (rng n λk=>nmN c (k:Int)) (nmN c k) a=.ok k:=by
 have this:gL (rng n λk=>nmN c (k:Int)) (nmN c ((k.toNat:Nat):Int)) a=.ok k:=Hy (Ll (c:=c) hn) h a
 rwa [Int.toNat_of_nonneg h.1] at this
theorem Zm(l:List Op9):(Li l).length≤l.length:=List.length_filterMap_le _ _
theorem J4:∀bs:List (List Op9),(ko bs).length≤(bs.map λl=>l.length).sum
 | []=>by simp [ko]
 | l::bs=>by
  have:=J4 bs;have h:=Zm l;unfold ko at *;rw[List.flatMap_cons,List.length_append,List.map_cons,List.sum_cons];omega
theorem EY{p:Pol}{c:Cod}(h:mF p c){b:Bod}(hb:b∈c.funcs):b.vars≤5000:=by
 have h1:=h.bod b hb;have h2:=J4 b.blocks;have h3:=wV (g:=λb:Bod=>(b.blocks.map λl=>l.length).sum) hb
 have h4:=h.all;have h5:=h1.vars;have h6:=h1.p0;omega
theorem Lm{p:Pol}{c:Cod}{b:Bod}(h:Rh p c b){l:List Op9}(hl:l∈b.blocks){x:Op9}(hx:x∈l)(hd:uP x.kind=true):0≤x.dst∧x.dst<b.vars:=by
 have hm:x.dst∈ko b.blocks:=List.mem_flatMap.2 ⟨l,hl,List.mem_filterMap.2 ⟨x,hx,by rw[if_pos hd]⟩⟩
 obtain⟨i,hi,e⟩:=List.getElem_of_mem hm;have h1:=h.seq i hi;rw[agM,agO hi] at h1;have h1:(ko b.blocks)[i]=b.params+i:=h1;have h2:=h.vars;have h3:=h.p0;rw[←e,h1];omega
theorem OH{p:Pol}{c:Cod}{b:Bod}(h:Rh p c b){l:List Op9}(hl:l∈b.blocks){x:Op9}(hx:x∈l):∃n d r a,ROp p c b x n d r a:=by
 obtain⟨j,hj,e⟩:=List.getElem_of_mem hx;have:=(h.ops l hl).op j hj;rw[agM,agO hj] at this;have this:∃n d r a,ROp p c b l[j] n d r a:=this
 rwa [e] at this
theorem EZ{p:Pol}{c:Cod}{b:Bod}{x:Op9}{n:Int}{d r a:Bool}(h:ROp p c b x n d r a):uP x.kind=d:=by unfold uP;rw[h.sh]
theorem Hz{p:Pol}{c:Cod}(hc:mF p c){b:Bod}(hb:b∈c.funcs){x:Op9}{n:Int}{d r a:Bool}(h:ROp p c b x n d r a)(q:Prg):(iY p c.main x).2=true∧eu (iY p c.main x).1 r=true∧eu (if x.kind=12 then nmN 98 x.alt else .empty) a=true∧nX ⟨p,q,rng c.arrays.length λk=>nmN 97 (k:Int),rng c.funcs.length λi=>fnN c.main i⟩ ⟨rng b.blocks.length λk=>nmN 98 (k:Int),rng b.vars.toNat λk=>nmN 118 (k:Int)⟩ (bg p c.main x)=.ok (x.ref,x.alt):=by
 have hal:=hc.al;have hfl:=hc.fl;have hB:=hc.bod b hb;have hbl:=hB.len;have hP:=(nG p).1 hc.pol;have hr1:=h.r1;have ha1:=h.a1;have hr0:=h.r0;have ha0:=h.a0;have on:∀{s:BY},okN s=true->eu s true=true:=λh=>by unfold eu;rw[h];rfl
 have off:eu .empty false=true:=by decide
 have adT:∀k:Int,0≤k∧k<(c.arrays.length:Int)->okN (nmN 97 k)=true:=λk hk=>yY (by decide) (by decide) hk.1 (by omega)
 have adU:∀k:Int,0≤k∧k<(b.blocks.length:Int)->okN (nmN 98 k)=true:=λk hk=>yY (by decide) (by decide) hk.1 (by omega)
 unfold bg nX;simp only;unfold iY;unfold Hq at hr1
 rcases wY h.sh with⟨hk,rfl,rfl,rfl,rfl⟩ | ⟨h3,hs⟩
 ·simp [hk,off,hr0 Z,ha0 rfl]
 rcases qw hs with⟨hk,rfl,rfl,rfl,rfl⟩ | ⟨hk,rfl,rfl,rfl,rfl⟩ | ⟨hk,rfl,rfl,rfl,rfl⟩ | ⟨hk,rfl,rfl,rfl,rfl⟩ | ⟨hk,rfl,rfl,rfl,rfl⟩ | ⟨hk,rfl,rfl,rfl,rfl⟩ | ⟨hk,rfl,rfl,rfl,rfl⟩ | ⟨hk,rfl,rfl,rfl,rfl⟩ | ⟨hk,rfl,rfl,rfl,rfl⟩ | ⟨hk,rfl,rfl,rfl,rfl⟩ | ⟨hk,rfl,rfl,rfl,rfl⟩ | ⟨hk,rfl,rfl,rfl,rfl⟩
 ·simp [hk,off,hr0 Z,ha0 rfl]
 ·simp [hk,off,hr0 Z,ha0 rfl]
 ·have hm:=hr1 Z
  simp only[hk,true_or,or_true,if_true] at hm;have e:=oP (c:=97) (n:=c.arrays.length) (by omega) hm x.at_
  simp [hk,off,ha0 Z,on (adT _ hm),e,bd]
 ·have hm:=hr1 Z
  simp only[hk,true_or,or_true,if_true] at hm;have e:=oP (c:=97) (n:=c.arrays.length) (by omega) hm x.at_
  simp [hk,off,ha0 Z,on (adT _ hm),e,bd]
 ·have hm:=hr1 Z
  simp only[hk,true_or,or_true,if_true] at hm;have e:=oP (c:=97) (n:=c.arrays.length) (by omega) hm x.at_
  simp [hk,off,ha0 Z,on (adT _ hm),e,bd]
 ·have hm:0≤x.ref∧x.ref<(c.funcs.length:Int):=by
   have:=hr1 Z
   simpa [hk] using this
  have hnd:(rng c.funcs.length λi=>fnN c.main i).Nodup:=Dh λi j hi hj e=>by
   unfold fnN at e;split at e<;>split at e
   ·omega
   ·exact absurd e (EU (by decide))
   ·exact absurd e.symm (EU (by decide))
   ·have:=(Rf (n:=(i:Int)) (m:=(j:Int)) (by unfold aj;omega) (by unfold aj;omega) e).2
    omega
  have e:=Hy hnd hm x.at_
  have ef:fnN c.main x.ref.toNat=if x.ref=c.main then gu else nmN 102 x.ref:=by
   unfold fnN;rw[Int.toNat_of_nonneg hm.1]
  rw[ef] at e
  have hok:okN (if x.ref=c.main then gu else nmN 102 x.ref)=true:=by
   split
   ·decide
   ·exact yY (by decide) (by decide) hm.1 (by omega)
  simp [hk,off,ha0 Z,on hok,e,bd]
 ·have hm:0≤x.ref∧x.ref<(p.ins.length:Int):=by
   have:=hr1 Z
   simpa [hk] using this
  have hin:nD x.ref p.ins.length=true:=by unfold nD;simp [hm.1,hm.2]
  have hi:x.ref.toNat<p.ins.length:=by omega
  have hn:=(hP.iok _ (getD_in bf hi)).1
  have e:gT p.ins (p.ins.getD x.ref.toNat bf).1=x.ref:=by
   rw[Hw,←Rj (λc:Chan=>tl c.1) bf p.ins Z x.ref.toNat,EW hP.ni (by rw[List.length_map];exact hi)];omega
  obtain⟨v,hv⟩:∃v,(p.ins.getD x.ref.toNat bf).1=v:=⟨_,Z⟩;have hok:okN (p.ins.getD x.ref.toNat bf).1=true:=hn;rw[show (p.ins.getD x.ref.toNat bf).1=v from hv] at e hok
  have hok:=on hok;simp only[hk,hin,if_true,ha0 Z,hv];simp [off,hok,dQ,e,hm.1,bd]
 ·have hm:0≤x.ref∧x.ref<(p.outs.length:Int):=by
   have:=hr1 Z
   simpa [hk] using this
  have hin:nD x.ref p.outs.length=true:=by unfold nD;simp [hm.1,hm.2]
  have hi:x.ref.toNat<p.outs.length:=by omega
  have hn:=(hP.ook _ (getD_in bf hi)).1
  have e:gT p.outs (p.outs.getD x.ref.toNat bf).1=x.ref:=by
   rw[Hw,←Rj (λc:Chan=>tl c.1) bf p.outs Z x.ref.toNat,EW hP.no (by rw[List.length_map];exact hi)];omega
  obtain⟨v,hv⟩:∃v,(p.outs.getD x.ref.toNat bf).1=v:=⟨_,Z⟩;have hok:okN (p.outs.getD x.ref.toNat bf).1=true:=hn;rw[show (p.outs.getD x.ref.toNat bf).1=v from hv] at e hok
  have hok:=on hok;simp only[hk,hin,if_true,ha0 Z,hv];simp [off,hok,dQ,e,hm.1,bd]
 ·have hm:0≤x.ref∧x.ref<(p.lev.length:Int):=by
   have:=hr1 Z
   simpa [hk] using this
  have hin:nD x.ref p.lev.length=true:=by unfold nD;simp [hm.1,hm.2]
  have hi:x.ref.toNat<p.lev.length:=by omega
  obtain⟨v,hv⟩:∃v,p.lev.getD x.ref.toNat .empty=v:=⟨_,Z⟩;have hok:okN (p.lev.getD x.ref.toNat .empty)=true:=uR hP.names hi;have e:bH p.lev (p.lev.getD x.ref.toNat .empty)=x.ref:=by rw[EX hP.nl hi];omega
  rw[show p.lev.getD x.ref.toNat .empty=v from hv] at e hok
  have hok:=on hok;simp only[hk,hin,if_true,ha0 Z,hv];simp [off,hok,dQ,e,hm.1,bd]
 ·have hm:0≤x.ref∧x.ref<(b.blocks.length:Int):=by
   have:=hr1 Z
   simpa [hk] using this
  have e:=oP (c:=98) (n:=b.blocks.length) (by omega) hm x.at_
  simp [hk,off,ha0 Z,on (adU _ hm),e,bd]
 ·have hm:0≤x.ref∧x.ref<(b.blocks.length:Int):=by
   have:=hr1 Z
   simpa [hk] using this
  have hm2:=ha1 Z;have e:=oP (c:=98) (n:=b.blocks.length) (by omega) hm x.at_
  have e2:=oP (c:=98) (n:=b.blocks.length) (by omega) hm2 x.at_
  simp [hk,on (adU _ hm),on (adU _ hm2),e,e2,bd]
 ·simp [hk,off,hr0 Z,ha0 rfl]
abbrev abq(b:Bod):Scp:=⟨rng b.blocks.length λk=>nmN 98 (k:Int),rng b.vars.toNat λk=>nmN 118 (k:Int)⟩
abbrev acj(p:Pol)(c:Cod)(q:Prg):Res:=⟨p,q,rng c.arrays.length λk=>nmN 97 (k:Int),rng c.funcs.length λi=>fnN c.main i⟩
theorem BF{p:Pol}{c:Cod}(hc:mF p c){b:Bod}(hb:b∈c.funcs){l:List Op9}(hl:l∈b.blocks){x:Op9}(hx:x∈l):bC (bg p c.main x)=true:=by
 obtain⟨n,d,r,a,h⟩:=OH (hc.bod b hb) hl hx;have hB:=hc.bod b hb;have hv:=EY hc hb;have hbl:=hB.len;obtain⟨_,f1,f2,_⟩:=Hz hc hb h ⟨[],[]⟩;have hD:=EZ h
 have fd:eu (if 0≤x.dst then nmN 118 x.dst else .empty) d=true:=by
  cases d with
  | true=>
   have:=Lm hB hl hx hD;rw[if_pos this.1];unfold eu;rw[yY (by decide) (by decide) this.1 (by omega)];rfl
  | false=>
   rw[h.d0 Z,if_neg (by omega)];decide
 have ha:fV (x.args.map (nmN 118))=true:=List.all_eq_true.2 λs hs=>by
  obtain⟨k,hk,rfl⟩:=List.mem_map.1 hs;have:=h.args k hk;exact yY (by decide) (by decide) this.1 (by omega)
 have hf:fV (x.frm.map (nmN 98))=true:=List.all_eq_true.2 λs hs=>by
  obtain⟨k,hk,rfl⟩:=List.mem_map.1 hs;have:=h.frm k hk;exact yY (by decide) (by decide) this.1 (by omega)
 have o1:(decide (x.op≠0) != decide (x.kind=2))=false:=by
  by_cases hk:x.kind=2
  ·have:=h.op1 hk
   rw[decide_eq_true hk,decide_eq_true (show x.op≠0 by omega)];rfl
  ·rw[decide_eq_false hk,decide_eq_false (show ¬x.op≠0 from λg=>g (h.op0 hk))];rfl
 have o2:(decide (x.op≠0)&&decide ((opName x.op).data.toList=[]))=false:=by
  by_cases hk:x.kind=2
  ·rw[decide_eq_false (show ¬(opName x.op).data.toList=[] from Hr.2 (h.op1 hk)),Bool.and_false]
  ·rw[decide_eq_false (show ¬x.op≠0 from λg=>g (h.op0 hk))];rfl
 have o3:(decide (x.num≠0)&&decide (x.kind≠1))=false:=by
  by_cases hk:x.kind=1
  ·rw[decide_eq_false (show ¬x.kind≠1 from λg=>g hk),Bool.and_false]
  ·rw[decide_eq_false (show ¬x.num≠0 from λg=>g (h.num hk))];rfl
 unfold bC
 rw[if_neg (by
  show ¬((decide (x.op≠0) != decide (x.kind=2))||(decide (x.op≠0)&&decide ((opName x.op).data.toList=[]))||(decide (x.num≠0)&&decide (x.kind≠1))||!fV (x.args.map (nmN 118))||!fV (x.frm.map (nmN 98)))=true
  rw[o1,o2,o3,ha,hf];simp)]
 rcases wY h.sh with⟨hk,rfl,rfl,rfl,rfl⟩ | ⟨h3,hs⟩
 ·rw[if_pos (show (bg p c.main x).kind=3 from hk)]
  obtain⟨g1,g2,g3⟩:=h.phi hk;have e1:okN (bg p c.main x).dst=true:=oN fd;have e2:(bg p c.main x).ref=.empty:=cO f1;have e3:(bg p c.main x).alt=.empty:=cO f2;rw[e1,e2,e3];simp only[bg,List.length_map];rw[decide_eq_true g1,decide_eq_true g2,decide_eq_true g3];rfl
 ·rw[if_neg (show ¬(bg p c.main x).kind=3 from h3),show cB (bg p c.main x).kind=some (n,d,r,a) from hs]
  obtain⟨g1,g2⟩:=h.Zd h3;show (!(decide (0<(x.frm.map (nmN 98)).length)||(decide (0≤n)&&decide (((x.args.map (nmN 118)).length:Int)≠n))||decide (6<(x.args.map (nmN 118)).length))&&(eu _ d&&eu _ r&&eu _ a))=true
  rw[show eu (bg p c.main x).dst d=true from fd,show eu (bg p c.main x).ref r=true from f1,show eu (bg p c.main x).alt a=true from f2,List.length_map,List.length_map,g1]
  have hlen:(0≤n->(x.args.length:Int)=n)∧x.args.length≤6:=by
   by_cases h7:x.kind=7
   ·rw[if_pos h7] at g2
    rcases qw hs with g | g | g | g | g | g | g | g | g | g | g | g
    case inr.inr.inr.inr.inr.inl=>
     have hm:=h.r1 g.2.2.2.1;unfold Hq at hm;simp only[h7] at hm;have hm:0≤x.ref∧x.ref<(c.funcs.length:Int):=hm
     have:=(hc.bod _ (getD_in (l:=c.funcs) (i:=x.ref.toNat) aB (by omega))).p0
     exact⟨λhn=>by omega,by omega⟩
    all_goals (exfalso;omega)
   ·rw[if_neg h7] at g2
    rcases qw hs with g | g | g | g | g | g | g | g | g | g | g | g<;>exact⟨λ_=>g2,by omega⟩
  have h1:(decide (0≤n)&&decide ((x.args.length:Int)≠n))=false:=by
   by_cases hn:0≤n
   ·rw[decide_eq_false (show ¬(x.args.length:Int)≠n from λg=>g (hlen.1 hn)),Bool.and_false]
   ·rw[decide_eq_false hn];rfl
  rw[h1,decide_eq_false (show ¬6<x.args.length by have:=hlen.2;omega)];rfl
theorem OI{p:Pol}{c:Cod}(hc:mF p c){b:Bod}(hb:b∈c.funcs){l:List Op9}(hl:l∈b.blocks){x:Op9}(hx:x∈l){q:Prg}(hq:∀k:Int,0≤k∧k<(c.funcs.length:Int)->(nY q k:Int)=(c.funcs.getD k.toNat aB).params):yJ (acj p c q) (abq b) (bg p c.main x)=.ok x:=by
 obtain⟨n,d,r,a,h⟩:=OH (hc.bod b hb) hl hx;have hB:=hc.bod b hb;have hv:=EY hc hb;have hbl:=hB.len;obtain⟨_,f1,f2,f3⟩:=Hz hc hb h q;have hD:=EZ h;have hvars:0≤b.vars:=by have:=hB.vars;have:=hB.p0;omega
 have ev:((b.vars.toNat:Nat):Int)=b.vars:=Int.toNat_of_nonneg hvars;unfold yJ;rw[f3];show bd (fE _ _ (x.args.map (nmN 118)) []) _=_;rw[Dc (nmN 118) x.args [] λk hk=>oP (by omega) (by rw[ev];exact h.args k hk) _]
 show bd (fE _ _ (x.frm.map (nmN 98)) []) _=_;rw[Dc (nmN 98) x.frm [] λk hk=>oP (by omega) (h.frm k hk) _]
 show (if x.kind=7∧(x.args.map (nmN 118)).length≠nY q x.ref then _ else _)=_
 rw[if_neg]
 ·have hdst:(if (if 0≤x.dst then nmN 118 x.dst else ByteArray.empty).data.toList=[] then -1 else dN (abq b).vals (if 0≤x.dst then nmN 118 x.dst else ByteArray.empty))=x.dst:=by
   cases d with
   | true=>
    have hd:=Lm hB hl hx hD;have hd2:0≤x.dst∧x.dst<((b.vars.toNat:Nat):Int):=by rw[ev];exact hd
    rw[if_pos hd.1,if_neg (by rw[Bu];simp)]
    have:=(Bq (oP (c:=118) (n:=b.vars.toNat) (by omega) hd2 0)).2
    exact this.symm
   | false=>
    have hd:=h.d0 Z;simp only[hd];rw[if_neg (show ¬(0:Int)≤-1 by omega),if_pos (show ByteArray.empty.data.toList=[] from rfl)]
  show Except.ok (⟨x.kind,x.op,(if (if 0≤x.dst then nmN 118 x.dst else ByteArray.empty).data.toList=[] then -1 else dN (abq b).vals (if 0≤x.dst then nmN 118 x.dst else ByteArray.empty)),x.ref,x.alt,[]++x.args,[]++x.frm,x.num,x.at_⟩:Op9)=_
  rw[hdst];rfl
 ·rintro ⟨h7,hne⟩
  have h3:x.kind≠3:=by omega
  have g2:=(h.Zd h3).2;rw[if_pos h7] at g2
  have hr:r=true:=by
   have hs:=h.sh;rw[h7] at hs;have:shp 7=some (-1,true,true,false):=rfl;rw[this] at hs;cases hs;rfl
  have hm:=h.r1 hr;unfold Hq at hm;simp only[h7] at hm;have hm:0≤x.ref∧x.ref<(c.funcs.length:Int):=hm
  have:=hq x.ref hm;rw[List.length_map] at hne;omega
theorem Eu{p:Pol}{m:Int}:∀{l:List Op9},(∀x∈l,(uP x.kind=true->0≤x.dst)∧(uP x.kind=false->x.dst=-1))->(zM (l.map (bg p m))).map (·.1)=(Li l).map (nmN 118)
 | [],_=>rfl
 | x::l,h=>by
  have ih:=Eu (p:=p) (m:=m) (l:=l) λy hy=>h y (.tail _ hy)
  obtain⟨h1,h2⟩:=h x (.head _);unfold zM Li at *;rw[List.map_cons,List.filterMap_cons,List.filterMap_cons]
  cases hd:uP x.kind with
  | true=>
   have e:(bg p m x).dst=nmN 118 x.dst:=if_pos (h1 hd);rw[e,if_neg (by rw[Bu];simp),if_pos rfl]
   simp only[List.map_cons];rw[ih]
  | false=>
   have e:(bg p m x).dst=.empty:=if_neg (by rw[h2 hd];omega)
   rw[e,if_pos (show ByteArray.empty.data.toList=[] from rfl),if_neg (by simp)]
   exact ih
theorem Ew{p:Pol}{m:Int}:∀{ls:List (List Op9)} {bs:List Blk},bs.length=ls.length->(∀k,k<ls.length->(bs.getD k bN).code=(ls.getD k []).map (bg p m))->(∀l∈ls,∀x∈l,(uP x.kind=true->0≤x.dst)∧(uP x.kind=false->x.dst=-1))->(mI bs).map (·.1)=(ko ls).map (nmN 118)
 | [],[],_,_,_=>rfl
 | [],_::_,h,_,_=>by cases h
 | _::_,[],h,_,_=>by cases h
 | l::ls,b::bs,h,h2,h3=>by
  have ih:=Ew (p:=p) (m:=m) (ls:=ls) (bs:=bs) (by simpa using h) (λk hk=>h2 (k+1) (by simpa using hk)) λl hl=>h3 l (.tail _ hl)
  have h0:b.code=l.map (bg p m):=h2 0 (Nat.zero_lt_succ _);unfold mI ko at *;rw[List.flatMap_cons,List.flatMap_cons,List.map_append,List.map_append,h0,Eu (h3 l (.head _)),ih]
theorem Lp{p:Pol}{c:Cod}(hc:mF p c){b:Bod}(hb:b∈c.funcs)(i:Nat):wX (qI p c.main i b)=rng b.vars.toNat λk=>nmN 118 (k:Int):=by
 have hB:=hc.bod b hb;have hp:=hB.p0;have hv:=hB.vars
 have e1:(mI (qI p c.main i b).blocks).map (·.1)=(ko b.blocks).map (nmN 118):=by
  refine Ew (p:=p) (m:=c.main) (by show (rng _ _).length=_;rw[bR]) (λk hk=>?_) λl hl x hx=>?_
  ·show ((rng b.blocks.length λk=>I7 p c.main k (b.blocks.getD k [])).getD k bN).code=_
   rw[kQ _ hk];rfl
  ·obtain⟨n,d,r,a,h⟩:=OH hB hl hx
   have hD:=EZ h;exact⟨λg=>(Lm hB hl hx g).1,λg=>h.d0 (by rw[←hD];exact g)⟩
 have e2:ko b.blocks=rng (ko b.blocks).length λi=>b.params+(i:Int):=TD 0 Z hB.seq
 show Da b.params++(mI (qI p c.main i b).blocks).map (·.1)=_;rw[e1,e2,BD,show b.vars.toNat=b.params.toNat+(ko b.blocks).length by omega,TB]
 unfold Da
 congr 2
 funext k
 rw[show b.params+(k:Int)=((b.params.toNat+k:Nat):Int) by omega]
theorem Ww{p:Pol}{c:Cod}(hc:mF p c){i:Nat}(hi:i<c.funcs.length):Tw (qI p c.main i (c.funcs.getD i aB)):=by
 have hb:c.funcs.getD i aB∈c.funcs:=getD_in _ hi
 have hB:=hc.bod _ hb;have hp:=hB.p0;have hfl:=hc.fl;have hbl:=hB.len;refine⟨?_,?_,by show (rng _ _).length≤6;rw[bR];omega,by show 1≤(rng _ _).length;rw[bR];omega,by show (rng _ _).length≤64;rw[bR];omega,λbk hbk=>?_⟩
 ·show okN (fnN c.main i)=true
  unfold fnN;split
  ·decide
  ·exact yY (by decide) (by decide) (by omega) (by omega)
 ·refine List.all_eq_true.2 λs hs=>?_
  obtain⟨k,hk,rfl⟩:=kY.1 hs;exact yY (by decide) (by decide) (by omega) (by omega)
 ·obtain⟨k,hk,rfl⟩:=kY.1 hbk
  refine⟨yY (by decide) (by decide) (by omega) (by omega),λx hx=>?_⟩
  obtain⟨y,hy,rfl⟩:=List.mem_map.1 hx;exact BF hc hb (getD_in _ hk) hy
theorem zV{p:Pol}{c:Cod}(hc:mF p c):Zg (gX p c):=by
 have hP:=(nG p).1 hc.pol;have hal:=hc.al;refine⟨by show (rng _ _).length≤16;rw[bR];exact hc.al,by show (rng _ _).length≤64;rw[bR];exact hc.fl,λa ha=>?_,λf hf=>?_,?_⟩
 ·obtain⟨i,hi,rfl⟩:=kY.1 ha
  obtain⟨h1,h2,h3⟩:=hc.arr _ (getD_in bO hi);exact⟨yY (by decide) (by decide) (by omega) (by omega),uR hP.names (by omega),h1.1,h1.2⟩
 ·obtain⟨i,hi,rfl⟩:=kY.1 hf
  exact Ww hc hi
 ·have:(c.funcs.map λb=>(b.blocks.map λl=>l.length).sum)=(gX p c).funcs.map λf=>(f.blocks.map λb=>b.code.length).sum:=by
   refine sW aB bM (by show _=(rng _ _).length;rw[bR]) λi hi=>?_
   have hi:i<c.funcs.length:=by
    have hi:i<(rng _ _).length:=hi
    rwa [bR] at hi
   show _=(((rng c.funcs.length λi=>qI p c.main i (c.funcs.getD i aB)).getD i bM).blocks.map λb=>b.code.length).sum
   rw[kQ _ hi]
   congr 1
   refine sW [] bN (by show _=(rng _ _).length;rw[bR]) λk hk=>?_
   have hk:k<(c.funcs.getD i aB).blocks.length:=by
    have hk:k<(rng _ _).length:=hk
    rwa [bR] at hk
   show _=((rng _ λk=>I7 p c.main k ((c.funcs.getD i aB).blocks.getD k [])).getD k bN).code.length
   rw[kQ _ hk];show _=(List.map _ _).length;rw[List.length_map]
  unfold kr;rw[←this];exact hc.all
theorem qx{p:Pol}{c:Cod}(hc:mF p c):kC p c=some (gX p c):=by
 unfold kC;rw[if_pos];rw[agN]
 constructor
 ·refine List.all_eq_true.2 λa ha=>?_
  obtain⟨h1,h2,h3⟩:=hc.arr a ha;unfold wW;rw[decide_eq_true h2,decide_eq_true h3];rfl
 ·refine List.all_eq_true.2 λb hb=>?_
  have hB:=hc.bod b hb;unfold qV;rw[decide_eq_true hB.p0.1,decide_eq_true hB.p0.2];show (List.all _ _)=true;refine List.all_eq_true.2 λl hl=>?_
  unfold Oq;refine List.all_eq_true.2 λx hx=>?_
  obtain⟨n,d,r,a,h⟩:=OH hB hl hx;exact (Hz hc hb h ⟨[],[]⟩).1
theorem HV{p:Pol}{c:Cod}(hc:mF p c):JY p (gX p c) c:=by
 have hP:=(nG p).1 hc.pol;have hal:=hc.al;have hfl:=hc.fl;have eA:Tt (gX p c)=rng c.arrays.length λk=>nmN 97 (k:Int):=BD _ _ _
 have eF:Lh (gX p c)=rng c.funcs.length λi=>fnN c.main i:=BD _ _ _
 have hF:(rng c.funcs.length λi=>fnN c.main i).Nodup:=Dh λi j hi hj e=>by
  unfold fnN at e;split at e<;>split at e
  ·omega
  ·exact absurd e (EU (by decide))
  ·exact absurd e.symm (EU (by decide))
  ·have:=(Rf (n:=(i:Int)) (m:=(j:Int)) (by unfold aj;omega) (by unfold aj;omega) e).2
   omega
 have em:fnN c.main c.main.toNat=gu:=by unfold fnN;rw[if_pos (by have:=hc.m;omega)]
 have hmain:dN (rng c.funcs.length λi=>fnN c.main i) gu=c.main:=by
  have:=(Bq (Hy hF hc.m 0)).2;rw[em] at this;exact this.symm
 have hpar:∀k:Int,0≤k∧k<(c.funcs.length:Int)->(nY (gX p c) k:Int)=(c.funcs.getD k.toNat aB).params:=λk hk=>by
  unfold nY;show ((((rng c.funcs.length λi=>qI p c.main i (c.funcs.getD i aB)).getD k.toNat bM).params.length:Nat):Int)=_
  rw[kQ _ (by omega)]
  show ((Da _).length:Int)=_;unfold Da;rw[bR];have:=(hc.bod _ (getD_in (l:=c.funcs) (i:=k.toNat) aB (by omega))).p0
  omega
 refine⟨by rw[eA];exact Ll (by omega),λa ha=>?_,?_,by rw[eF];exact hF,?_,?_,by rw[eF];exact hmain.symm,by show _=(rng _ _).length;rw[bR],λi hi=>?_⟩
 ·obtain⟨i,hi,rfl⟩:=kY.1 ha
  obtain⟨h1,h2,h3⟩:=hc.arr _ (getD_in bO hi);show 0≤bH p.lev (p.lev.getD _ .empty);rw[EX hP.nl (by omega)];omega
 ·show _=(rng _ _).map _
  rw[BD];refine TD bO Z λi hi=>?_
  obtain⟨h1,h2,h3⟩:=hc.arr _ (getD_in bO hi);show c.arrays.getD i bO=((c.arrays.getD i bO).1,bH p.lev (p.lev.getD (c.arrays.getD i bO).2.toNat .empty));rw[EX hP.nl (by omega),Int.toNat_of_nonneg h2]
 ·rw[eF]
  exact kY.2 ⟨c.main.toNat,by have:=hc.m;omega,em⟩
 ·rw[eF,hmain]
  have:=hpar c.main hc.m;rw[hc.mp] at this;omega
 ·have hi:i<c.funcs.length:=by
   have hi:i<(rng _ _).length:=hi
   rwa [bR] at hi
  have hb:c.funcs.getD i aB∈c.funcs:=getD_in _ hi
  have hB:=hc.bod _ hb;have hv:=EY hc hb;have hbl:=hB.len;have hvars:0≤(c.funcs.getD i aB).vars:=by have:=hB.vars;have:=hB.p0;omega
  show OB _ ((rng c.funcs.length λi=>qI p c.main i (c.funcs.getD i aB)).getD i bM) _
  rw[kQ _ hi];have eV:=Lp hc hb i;have eB:Ho (qI p c.main i (c.funcs.getD i aB))=rng (c.funcs.getD i aB).blocks.length λk=>nmN 98 (k:Int):=BD _ _ _
  refine⟨by rw[eB];exact Ll (by omega),by rw[eV];exact Ll (by omega),?_,by rw[eV,bR];omega,by show _=(rng _ _).length;rw[bR],λk hk=>?_⟩
  ·show _=((Da _).length:Int)
   unfold Da;rw[bR];have:=hB.p0;omega
  ·have hk:k<(c.funcs.getD i aB).blocks.length:=by
    have hk:k<(rng _ _).length:=hk
    rwa [bR] at hk
   have hl:(c.funcs.getD i aB).blocks.getD k []∈(c.funcs.getD i aB).blocks:=getD_in _ hk
   have hO:=hB.ops _ hl;show Zc _ _ ((rng _ λk=>I7 p c.main k ((c.funcs.getD i aB).blocks.getD k [])).getD k bN) _
   rw[kQ _ hk]
   have eS:qX (qI p c.main i (c.funcs.getD i aB))=abq (c.funcs.getD i aB):=by
    show Scp.mk _ _=Scp.mk _ _;rw[eV,eB]
   have eR:Es p (gX p c)=acj p c (gX p c):=by
    show Res.mk _ _ _ _=Res.mk _ _ _ _;rw[eA,eF]
   rw[eS,eR];obtain⟨L,hL⟩:∃L,(c.funcs.getD i aB).blocks.getD k []=L:=⟨_,Z⟩
   rw[hL] at hl hO ⊢
   have hget:∀j,j<L.length->(L.map (bg p c.main)).getD j (aM 0)=bg p c.main (L.getD j op0):=λj hj=>by
    rw[agM,agM,List.getElem?_map,agO hj];rfl
   have hlen:(L.map (bg p c.main)).length=L.length:=List.length_map _;have hL1:=hO.len;refine⟨?_,hlen.symm,λj hj=>wZ.2 ?_⟩
   ·unfold wS
    show (decide (1≤(L.map (bg p c.main)).length)&&mq ((L.map (bg p c.main)).getD ((L.map (bg p c.main)).length-1) (aM 0)).kind)=true;rw[hlen,decide_eq_true hL1,hget _ (by omega)]
    show mq (L.getD (L.length-1) op0).kind=true;exact (hO.e _ (by omega)).2 (by omega)
   ·have hj:j<L.length:=by
     have hj:j<(L.map (bg p c.main)).length:=hj
     rwa [hlen] at hj
    refine⟨?_,?_,?_⟩
    ·show mq ((L.map (bg p c.main)).getD j (aM 0)).kind=true->j+1=(L.map (bg p c.main)).length
     rw[hlen,hget j hj];exact (hO.e j hj).1
    ·show ((L.map (bg p c.main)).getD j (aM 0)).kind=3->j≠0->((L.map (bg p c.main)).getD (j-1) (aM 0)).kind=3
     rw[hget j hj,hget (j-1) (by omega)]
     exact hO.ph j hj
    ·show yJ _ _ ((L.map (bg p c.main)).getD j (aM 0))=_
     rw[hget j hj];exact OI hc hb hl (getD_in _ hj) hpar
section
variable{s:BY}{l:List Tok}
def Sm(k:Nat)(x:Ins):Prop:=x.args.length≤k∧x.frm.length≤k
theorem Sm.up{k j:Nat}{x:Ins}(h:Sm k x)(hk:k≤j):Sm j x:=⟨Nat.le_trans h.1 hk,Nat.le_trans h.2 hk⟩
abbrev cap(l:List Tok):Nat:=l.length+10
end
def erI(x:Ins):Ins:={x with at_:=0}
def erB(b:Blk):Blk:=⟨b.name,b.code.map erI,0⟩
def erF(f:Fun):Fun:=⟨f.name,f.params,f.blocks.map erB,0⟩
def erA(a:Arr):Arr:={a with at_:=0}
def erP(p:Prg):Prg:=⟨p.arrays.map erA,p.funcs.map erF⟩
structure Sim(s:BY)(l:List Tok)(s':BY)(l':List Tok)(d:Nat):Prop where
 len:l'.length=d+l.length
 kind:∀n k,isV l' (d+n) k=isV l n k
 text:∀n,txV s' l' (d+n)=txV s l n
def abr{α:Type}(d:Nat)(E:α->α->Prop)(r r':Except (Int×Int) (Nat×α)):Prop:=
 match r with
 | .ok (n,x)=>∃x',r'=.ok (d+n,x')∧E x x'
 | .error (a,e)=>∃a',r'=.error (a',e)
def Rm{α:Type}(d c0:Nat)(E:α->α->Prop)(r r':Except (Int×Int) (Nat×(Nat×α))):Prop:=
 match r with
 | .ok (n,(c,x))=>if c0+c≤4096 then ∃x',r'=.ok (d+n,(c0+c,x'))∧E x x' else ∃a',r'=.error (a',3)
 | .error (a,e)=>c0=0->∃a',r'=.error (a',e)
section
variable{s:BY}{l:List Tok}{s':BY}{l':List Tok}{d c0:Nat}(S:Sim s l s' l' d){α β:Type}{E:α->α->Prop}{E2:β->β->Prop}
omit S in
theorem abr.bind{r r':Except (Int×Int) (Nat×α)}{k k':Nat->α->Except (Int×Int) (Nat×β)}(h1:abr d E r r')(h2:∀n x x',E x x'->abr d E2 (k n x) (k' (d+n) x')):abr d E2 (bnd r k) (bnd r' k'):=by
 rcases r with⟨a,e⟩ | ⟨n,x⟩
 ·obtain⟨a',rfl⟩:=h1
  exact⟨a',Z⟩
 ·obtain⟨x',rfl,hx⟩:=h1
  exact h2 n x x' hx
omit S in
theorem Rm.bind{r r':Except (Int×Int) (Nat×(Nat×α))}{k k':Nat->Nat×α->Except (Int×Int) (Nat×(Nat×β))}(h1:Rm d c0 E r r')(hb:∀n c x,r=.ok (n,(c,x))->c≤4096)(hm:∀n c x n2 c2 y,r=.ok (n,(c,x))->k n (c,x)=.ok (n2,(c2,y))->c≤c2)
  (h2:∀n c x x',r=.ok (n,(c,x))->c0+c≤4096->E x x'->Rm d c0 E2 (k n (c,x)) (k' (d+n) (c0+c,x'))):Rm d c0 E2 (bnd r k) (bnd r' k'):=by
 rcases r with⟨a,e⟩ | ⟨n,c,x⟩
 ·exact λh0=>by obtain⟨a',rfl⟩:=h1 h0;exact⟨a',Z⟩
 ·unfold Rm at h1
  dsimp only at h1;split at h1
  ·rename_i hc
   obtain⟨x',rfl,hx⟩:=h1;exact h2 n c x x' Z hc hx
  ·rename_i hc
   obtain⟨a',rfl⟩:=h1;show Rm d c0 E2 (k n (c,x)) (.error (a',3))
   rcases hk:k n (c,x) with⟨a2,e2⟩ | ⟨n2,c2,y⟩
   ·exact λh0=>by have:=hb n c x rfl;omega
   ·have:=hm n c x n2 c2 y Z hk
    unfold Rm;dsimp only;rw[if_neg (by omega)]
    exact⟨a',Z⟩
include S
def EI(x x':Ins):Prop:=∃b,x'={x with at_:=b}
omit S in
theorem EI.kind{x x':Ins}(h:EI x x')(k:Int):EI {x with kind:=k} {x' with kind:=k}:=by obtain⟨b,rfl⟩:=h;exact⟨b,Z⟩
omit S in
theorem EI.mI{x x':Ins}(h:EI x x'){a a':BY}(e:a=a'):EI {x with dst:=a} {x' with dst:=a'}:=by obtain⟨b,rfl⟩:=h;exact⟨b,by rw[e]⟩
omit S in
theorem Rn{n c:Nat}:fU s l n c=bnd (nmV s l n) λn1 nm=>bnd (dX s l n1 58) λn2 _=>bnd (codeF s l 4098 n2 c []) λn3 r=>.ok (n3,(r.1,⟨nm,r.2,atV s l n⟩)):=rfl
def EB(b b':Blk):Prop:=erB b=erB b'
def EBs(bs bs':List Blk):Prop:=bs.map erB=bs'.map erB
omit S in
theorem EBs.add{bs bs':List Blk}{b b':Blk}(h:EBs bs bs')(hb:EB b b'):EBs (bs++[b]) (bs'++[b']):=by
 unfold EBs at h ⊢;rw[List.map_append,List.map_append,h,List.map_cons,List.map_cons,show erB b=erB b' from hb]
omit S in
theorem Wx{n c:Nat}:lQ s l n c=bnd (nmV s l (n+1)) λn1 nm=>bnd (iH s l n1) λn2 ps=>bnd (dX s l n2 123) λn3 _=>bnd (fU s l n3 c) λn4 r=>
 bnd (fq s l 65 n4 r.1 [r.2]) λn5 q=>bnd (dX s l n5 125) λn6 _=>.ok (n6,(q.1,⟨nm,ps,q.2,atV s l n⟩)):=rfl
end
section
variable{s:BY}{l:List Tok}{s':BY}{l':List Tok}{d c0:Nat}(S:Sim s l s' l' d)(A0:List Arr)(F0:List Fun)
end
theorem abt{sz sz' p a b c d b' c' d':Nat}(hp:p<sz)(hz:sz<sz')(hb:p+1<sz->b'=b)(hc:p+2<sz->c'=c)(hd:p+3<sz->d'=d)(hb2:p+1=sz->b'=10)(hc2:p+2=sz->c'=10)(hd2:p+3=sz->d'=10):dec sz' p a b' c' d'=dec sz p a b c d:=by
 by_cases h1:p+1<sz
 ·have eb:=hb h1
  subst eb;by_cases h2:p+2<sz
  ·have ec:=hc h2
   subst ec;by_cases h3:p+3<sz
   ·have ed:=hd h3
    subst ed;unfold dec;simp only[h1,h2,h3,show p+1<sz' by omega,show p+2<sz' by omega,show p+3<sz' by omega]
   ·have ed:=hd2 (by omega)
    subst ed;unfold dec;simp only[h1,h2,h3,show p+1<sz' by omega,show p+2<sz' by omega,show ¬(10/64=2) by decide,and_false,false_and,if_false]
  ·have ec:=hc2 (by omega)
   subst ec;unfold dec;simp only[h1,h2,show p+1<sz' by omega,show ¬(10/64=2) by decide,and_false,false_and,if_false]
 ·have eb:=hb2 (by omega)
  subst eb;unfold dec;simp only[h1,show ¬(10/64=2) by decide,and_false,false_and,if_false]
theorem bt_end{s x:BY}(h10:bt x 0=10):bt (s++x) s.size=10:=by have:=iV s x 0;rw[Nat.add_zero] at this;rw[this,h10]
section
variable{s x:BY}(hx:0<x.size)(h10:bt x 0=10)
include hx h10
theorem Ro{p:Nat}(hp:p<s.size):Utf8.decode (s++x) p=Utf8.decode s p:=by
 have he:=bt_end (s:=s) h10;rw[bK,bK,bQ hp];refine abt hp (by rw[au];omega) (λh=>bQ h) (λh=>bQ h) (λh=>bQ h) (λh=>by rw[h];exact he) (λh=>by rw[h];exact he) (λh=>by rw[h];exact he)
theorem abu:∀(n:Nat) (rm:Bool) (p:Nat),s.size≤p+n->p≤s.size->(skV s rm p<s.size->skV (s++x) rm p=skV s rm p)∧(skV s rm p=s.size->skV (s++x) rm p=skV (s++x) false (s.size+1))
 | n,rm,p,h,hp=>by
  have hz:s.size<(s++x).size:=by rw[au];omega
  by_cases hl:p<s.size
  ·match n with
   | 0=>omega
   | n+1=>
    have eb:bt (s++x) p=bt s p:=bQ hl;rw[pR hl,pR (by omega:p<(s++x).size),eb]
    cases hs:l7 (nextR (bt s p) rm) (bt s p) with
    | true=>exact⟨λ_=>rfl,λe=>by simp at e;omega⟩
    | false=>
     simp only[ag0,if_false];exact abu n _ _ (by omega) (by omega)
  ·have e:p=s.size:=by omega
   subst e;rw[qQ (Nat.le_refl _)];refine⟨λh=>by omega,λ_=>?_⟩
   have eb:=bt_end (s:=s) h10;rw[pR hz,eb]
   rfl
end
theorem qY(s:BY)(p q:Nat):(s.extract p q).data.toList=(s.data.toList.drop p).take (q-p):=by
 rw[ByteArray.data_extract,Array.toList_extract,List.extract_eq_take_drop]
theorem zW{a b:BY}(h:a.data.toList=b.data.toList):a=b:=by rw[ba_eq a,ba_eq b,h]
theorem OJ(c y:BY)(p q:Nat):(c++y).extract (c.size+p) (c.size+q)=y.extract p q:=by
 refine zW ?_;rw[qY,qY,fG,eZ c,show c.data.toList.length+q-(c.data.toList.length+p)=q-p by omega,←List.drop_drop,List.drop_left]
theorem J5(c y:BY):∀(n:Nat) (rm:Bool) (q:Nat),y.size≤q+n->skV (c++y) rm (c.size+q)=c.size+skV y rm q
 | n,rm,q,h=>by
  by_cases hl:q<y.size
  ·match n with
   | 0=>omega
   | n+1=>
    rw[pR hl,pR (by rw[au];omega),iV]
    split
    ·rfl
    ·exact J5 c y n _ (q+1) (by omega)
  ·rw[qQ (by rw[au];omega),qQ (by omega)]
theorem zX(c y:BY):∀(n q:Nat),y.size≤q+n->l8 (c++y) (c.size+q)=c.size+l8 y q
 | n,q,h=>by
  by_cases hl:q<y.size
  ·match n with
   | 0=>omega
   | n+1=>
    have h1:=(aY y q).1;rw[dA hl,dA (by rw[au];omega),eX,eX,uq]
    split
    ·rw[Nat.add_assoc];exact zX c y n _ (by omega)
    ·rfl
  ·rw[jw (by rw[au];omega),jw (by omega)]
theorem w9(c y:BY)(q:Nat):aO (c++y) (c.size+q)=c.size+aO y q:=by
 have ed:lZ (c++y) (c.size+q+1)=lZ y (q+1):=by
  unfold lZ;rw[Nat.add_assoc,iV,au]
  congr 1
  rw[Bool.eq_iff_iff,agT,agT];omega
 unfold aO;rw[iV,ed,Nat.add_assoc,zX c y y.size (q+1) (by omega),zX c y y.size q (by omega)]
 split<;>rfl
def shT(k:Nat)(t:Tok):Tok:=⟨t.k,t.f+k,t.t+k⟩
def shE(k:Nat)(r:Tok×Int×Int):Tok×Int×Int:=if r.2.2=0 then (shT k r.1,r.2) else (r.1,r.2.1+k,r.2.2)
theorem HY(c y:BY)(q:Nat)(hq:q≤y.size):gB (c++y) (c.size+q)=shE c.size (gB y q):=by
 have hs:=J5 c y y.size false q (by omega)
 have hle:=Cv y y.size false q (by omega) hq
 obtain⟨p,hp⟩:∃p,skV y false q=p:=⟨_,Z⟩;rw[hp] at hs hle;by_cases e:p=y.size
 ·rw[sD hp e,sD hs (by rw[au];omega),au]
  unfold shE;rw[if_neg (show ¬((4:Int)=0) by decide)]
  refine Prod.ext Z (Prod.ext ?_ Z);show ((c.size+y.size:Nat):Int)=(y.size:Int)+c.size;omega
 ·have e2:c.size+p≠(c++y).size:=by rw[au];omega
  cases hb:j6 (bt y p) with
  | true=>
   rw[o8 hp e hb,o8 hs e2 (by rw[iV];exact hb)]
   unfold shE shT;rw[if_pos rfl];refine Prod.ext ?_ Z;show (⟨4,((c.size+p:Nat):Int),((c.size+p:Nat):Int)+1⟩:Tok)=⟨4,(p:Int)+c.size,(p:Int)+1+c.size⟩
   congr 1<;>omega
  | false=>
   have hpe:=w9 c y p;have hex:=OJ c y p (aO y p);by_cases hk:kindOf (y.extract p (aO y p))=0
   ·rw[wG hp e hb hk,wG hs e2 (by rw[iV];exact hb) (by rw[hpe,hex];exact hk)]
    unfold shE;rw[if_neg (show ¬((6:Int)=0) by decide)]
    refine Prod.ext Z (Prod.ext ?_ Z);show ((c.size+p:Nat):Int)=(p:Int)+c.size;omega
   ·rw[xS hp e hb hk,xS hs e2 (by rw[iV];exact hb) (by rw[hpe,hex];exact hk),hpe,hex]
    unfold shE shT;rw[if_pos rfl];refine Prod.ext ?_ Z;show (⟨_,((c.size+p:Nat):Int),((c.size+aO y p:Nat):Int)⟩:Tok)=⟨_,(p:Int)+c.size,(aO y p:Int)+c.size⟩
    congr 1<;>omega
theorem uS{s:BY}{p:Nat}(h:p<s.size):(kI s (p:Int)).2≠0->(p:Int)+(kI s (p:Int)).2=((p+(Utf8.decode s p).2:Nat):Int):=λhne=>by
 have:=MV h;unfold SQ at this
 rwa [if_neg hne] at this
theorem HZ{s y:BY}{p q:Nat}(hp:p<s.size)(hq:q<y.size)(hd:Utf8.decode s p=Utf8.decode y q):(kI s (p:Int)).2=0↔(kI y (q:Int)).2=0:=by
 rw[sw hp,sw hq,hd]
theorem iX(s:BY):∀(n m p:Nat),s.size≤p+n->s.size≤p+m->dB s n (p:Int)=dB s m (p:Int)
 | 0,m,p,h,_=>by rw[lY (by omega),lY (by omega)]
 | n+1,0,p,_,h=>by rw[lY (by omega),lY (by omega)]
 | n+1,m+1,p,h1,h2=>by
  rw[dB,dB];split
  ·rename_i hl
   have hl:p<s.size:=by omega
   split
   ·rfl
   ·rename_i h0
    rw[uS hl h0];have:=(aY s p).1;exact iX s n m _ (by omega) (by omega)
  ·rfl
theorem TF(s:BY):∀(n p:Nat),dB s n (p:Int)=-1∨(p:Int)≤dB s n (p:Int)∧dB s n (p:Int)<s.size
 | 0,p=>.inl rfl
 | n+1,p=>by
  rw[dB];split
  ·rename_i hl
   have hl:p<s.size:=by omega
   split
   ·exact .inr ⟨Int.le_refl _,by omega⟩
   ·rename_i h0
    rw[uS hl h0]
    rcases TF s n (p+(Utf8.decode s p).2) with h | h
    ·exact .inl h
    ·exact .inr ⟨by omega,h.2⟩
  ·exact .inl Z
theorem Zn{s x:BY}(hx:0<x.size)(h10:bt x 0=10):∀(n p:Nat),s.size≤p+n->p≤s.size->
  dB (s++x) (s++x).size (p:Int)=if dB s s.size (p:Int)=-1 then dB (s++x) (s++x).size (s.size:Int) else dB s s.size (p:Int)
 | n,p,h,hp=>by
  have hz:s.size<(s++x).size:=by rw[au];omega
  by_cases hl:p<s.size
  ·match n with
   | 0=>omega
   | n+1=>
    have ed:=Ro hx h10 hl;have hc:=HZ (by omega:p<(s++x).size) hl ed
    have hr:=iw hl;have h1:=(aY s p).1;have e1:=iX s s.size (s.size-1+1) p (by omega) (by omega)
    have e2:=iX (s++x) (s++x).size ((s++x).size-1+1) p (by omega) (by omega)
    rw[dB,if_pos (by omega)] at e1 e2
    rw[e1,e2];by_cases h0:(kI s (p:Int)).2=0
    ·rw[if_pos h0,if_pos (hc.2 h0),if_neg (by omega)]
    ·have h0':(kI (s++x) (p:Int)).2≠0:=λe=>h0 (hc.1 e)
     rw[if_neg h0,if_neg h0',uS hl h0,uS (by omega) h0',ed]
     rw[iX s (s.size-1) s.size _ (by omega) (by omega),iX (s++x) ((s++x).size-1) (s++x).size _ (by omega) (by omega)]
     exact Zn hx h10 n _ (by omega) hr
  ·have e:p=s.size:=by omega
   subst e;rw[lY (s:=s) (by omega),if_pos rfl]
theorem uT(c y:BY):∀(n q:Nat),y.size≤q+n->dB (c++y) (c++y).size ((c.size+q:Nat):Int)=if dB y y.size (q:Int)=-1 then -1 else dB y y.size (q:Int)+c.size
 | n,q,h=>by
  by_cases hl:q<y.size
  ·match n with
   | 0=>omega
   | n+1=>
    have hl2:c.size+q<(c++y).size:=by rw[au];omega
    have ed:=uq c y q;have hc:=HZ hl2 hl ed;have h1:=(aY y q).1;have e1:=iX y y.size (y.size-1+1) q (by omega) (by omega)
    have e2:=iX (c++y) (c++y).size ((c++y).size-1+1) (c.size+q) (by omega) (by omega)
    rw[dB,if_pos (by omega)] at e1 e2
    rw[e1,e2];by_cases h0:(kI y (q:Int)).2=0
    ·rw[if_pos h0,if_pos (hc.2 h0),if_neg (by omega)];omega
    ·have h0':(kI (c++y) ((c.size+q:Nat):Int)).2≠0:=λe=>h0 (hc.1 e)
     rw[if_neg h0,if_neg h0',uS hl h0,uS hl2 h0',ed,Nat.add_assoc];rw[iX y (y.size-1) y.size _ (by omega) (by omega),iX (c++y) ((c++y).size-1) (c++y).size _ (by rw[au];omega) (by rw[au];omega)]
     exact uT c y n _ (by omega)
  ·rw[lY (by rw[au];omega),lY (by omega),if_pos rfl]
def Run(s:BY):Nat->List Tok->Int×Int->Prop
 | a,[],r=>(gB s a).2=r∧r.2≠0
 | a,t::l,r=>gB s a=(t,0,0)∧(a:Int)≤t.f∧t.f<t.t∧t.t≤s.size∧Run s t.t.toNat l r
theorem Zo{s:BY}{a:Nat}(h:(gB s a).2.2=0):(gB s a).2.1=0:=by
 unfold gB at h ⊢;split
 ·rename_i e;rw[if_pos e] at h;exact absurd h (show ¬((4:Int)=0) by decide)
 ·rename_i e
  rw[if_neg e] at h;split
  ·rfl
  ·rename_i e2
   rw[if_neg e2] at h;split
   ·rename_i e3;rw[if_pos e3] at h;exact absurd h (show ¬((6:Int)=0) by decide)
   ·rfl
theorem Rp(s:BY):∀(n a:Nat),s.size≤a+n->a≤s.size->∃l r,Run s a l r
 | n,a,h,ha=>by
  rcases sF ha with⟨h0,h1,h2,h3⟩ | h4 | h6
  ·match n with
   | 0=>omega
   | n+1=>
    obtain⟨l,r,hr⟩:=Rp s n (gB s a).1.t.toNat (by omega) (by omega)
    exact⟨(gB s a).1::l,r,Prod.ext Z (Prod.ext (Zo h0) h0),h1,h2,h3,hr⟩
  ·exact⟨[],_,Z,by omega⟩
  ·exact⟨[],_,Z,by omega⟩
theorem OL{s:BY}:∀{l:List Tok} {a n:Nat} {r:Int×Int} (out:List Tok),Run s a l r->s.size+1≤a+n->a≤s.size->pV s n a out=if r.2=4 then (out++l,0,0) else ([],r.1,r.2)
 | [],a,n,r,out,h,hn,ha=>by
  obtain⟨n,rfl⟩:∃m,n=m+1:=⟨n-1,by omega⟩
  obtain⟨h1,h2⟩:=h;subst h1;rw[pV,List.append_nil];by_cases e:(gB s a).2.2=4
  ·rw[if_pos e,if_pos e]
  ·rw[if_neg e,if_neg e,if_neg h2]
 | t::l,a,n,r,out,h,hn,ha=>by
  obtain⟨n,rfl⟩:∃m,n=m+1:=⟨n-1,by omega⟩
  obtain⟨h1,h2,h3,h4,h5⟩:=h;rw[pV,h1,if_neg (show ¬((0:Int)=4) by decide),if_pos rfl]
  show pV s n t.t.toNat (out++[t])=_;rw[OL (out++[t]) h5 (by omega) (by omega),List.append_assoc]
  rfl
theorem run_end{s:BY}:∀{l:List Tok} {a:Nat} {r:Int×Int},Run s a l r->a≤s.size->r.2=4∨r.2=6
 | [],a,r,⟨h1,h2⟩,ha=>by
  rcases sF ha with⟨h0,_⟩ | h4 | h6
  ·rw[h1] at h0;exact absurd h0 h2
  ·rw[h1] at h4;exact .inl h4
  ·rw[h1] at h6;exact .inr h6
 | t::l,a,r,⟨h1,h2,h3,h4,h5⟩,ha=>run_end h5 (by omega)
theorem Di(c y:BY):∀{l:List Tok} {q:Nat} {r:Int×Int},Run y q l r->q≤y.size->Run (c++y) (c.size+q) (l.map (shT c.size)) (r.1+c.size,r.2)
 | [],q,r,⟨h1,h2⟩,hq=>by
  refine⟨?_,h2⟩;rw[HY c y q hq];unfold shE;rw[if_neg (by rw[h1];exact h2),h1]
 | t::l,q,r,⟨h1,h2,h3,h4,h5⟩,hq=>by
  refine⟨?_,?_,?_,?_,?_⟩
  ·rw[HY c y q hq,h1]
   unfold shE;rw[if_pos rfl]
  ·show ((c.size+q:Nat):Int)≤t.f+c.size;omega
  ·show t.f+c.size<t.t+c.size;omega
  ·show t.t+(c.size:Int)≤(c++y).size;rw[au];omega
  ·have:=Di c y h5 (by omega)
   rwa [show c.size+t.t.toNat=(shT c.size t).t.toNat by show _=(t.t+(c.size:Int)).toNat;omega] at this
theorem OM{s:BY}(h:s.size≤65536)(hb:0≤dB s s.size 0):eH s=([],dB s s.size 0,5):=by
 rw[eH,if_neg (by omega),if_pos hb]
theorem H6{s:BY}(h:s.size≤65536)(hb:dB s s.size 0=-1){l:List Tok}{r:Int×Int}(hr:Run s 0 l r):eH s=if r.2=4 then (l,0,0) else ([],r.1,r.2):=by
 rw[eH,if_neg (by omega),if_neg (by omega),OL [] hr (by omega) (by omega),List.nil_append]
theorem J6(s:BY):dB s s.size 0=-1∨0≤dB s s.size 0∧dB s s.size 0<s.size:=TF s s.size 0
theorem nH(a b c:BY):a++b++c=a++(b++c):=zW (by rw[fG,fG,fG,fG,List.append_assoc])
end Go.Proofs.YtojhdmfkfkfcbaaGreatDoor
