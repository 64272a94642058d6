import Derived.Test.YtojhdmfkfkfcbaaGreatDoorMF
import Derived.Test.YtojhdmfkfkfcbaaGreatDoorMD
import Derived.Test.YtojhdmfkfkfcbaaGreatDoorMC
import Derived.Test.YtojhdmfkfkfcbaaGreatDoorMB
namespace Go.Proofs.YtojhdmfkfkfcbaaGreatDoor
open Go.Sx
set_option linter.unusedVariables false
set_option linter.unusedSimpArgs false
set_option maxRecDepth 100000
theorem jX {a b:ByteArray} (h:a.data.toList=b.data.toList):a=b:=nN.wE h
theorem Ik (s:ByteArray):∀(i:Nat) (l:List ByteArray),oP i l s=none↔s∉l
 | _,[]=>by simp [oP]
 | i,a::l=>by
  unfold oP
  split
  ·rename_i h
   simp [jX h]
  ·rename_i h
   rw[Ik s (i+1) l,List.mem_cons,not_or]
   exact⟨fun h2=>⟨fun e=>h (by rw[e]),h2⟩,fun h2=>h2.2⟩
theorem jv {l:List ByteArray} {s:ByteArray}:posB l s=true↔s∈l:=by
 have:=Ik s 0 l
 unfold posB
 cases h:oP 0 l s with
 | none=>rw[h] at this;simp [this.1 rfl]
 | some n=>
  rw[h] at this
  simp only[reduceCtorEq,false_iff,Classical.not_not] at this
  simp [this]
theorem zR {l:List ByteArray} {s:ByteArray}:posB l s=false↔s∉l:=by
 rw[←jv];simp
theorem ML (s:ByteArray):∀(i:Nat) (l:List ByteArray) (n:Nat),oP i l s=some n->l.getD (n-i) .empty=s
 | _,[],_,h=>by cases h
 | i,a::l,n,h=>by
  unfold oP at h
  split at h
  ·rename_i e
   cases h
   rw[Nat.sub_self];exact jX e
  ·have h1:=ML s (i+1) l n h
   have h2:=JH s (i+1) l n h
   rw[show n-i=(n-(i+1))+1 by omega,List.getD_cons_succ];exact h1
theorem Yh {l:List ByteArray} {s:ByteArray} (h:s∈l):l.getD (cO l s).toNat .empty=s:=by
 have h:=jv.2 h
 unfold posB at h
 unfold cO
 cases hp:oP 0 l s with
 | none=>rw[hp] at h;cases h
 | some n=>
  have:=ML s 0 l n hp
  show l.getD ((n:Int)).toNat .empty=s
  rw[adv];exact this
theorem TD {α:Type} {l:List α} (hn:l.Nodup) (d:α):∀{i j:Nat},i<l.length->j<l.length->l.getD i d=l.getD j d->i=j:=by
 intro i j hi hj h
 rw[adf,adf,adh hi,adh hj] at h
 have h:l[i]=l[j]:=h
 have hp:=List.pairwise_iff_getElem.1 hn
 rcases Nat.lt_trichotomy i j with g | g | g
 ·exact absurd h (hp i j hi hj g)
 ·exact g
 ·exact absurd h.symm (hp j i hj hi g)
theorem pos_at {l:List ByteArray} (hn:l.Nodup) {i:Nat} (hi:i<l.length):cO l (l.getD i .empty)=i:=by
 have hm:l.getD i .empty∈l:=getD_in _ hi
 have h1:=tq (jv.2 hm)
 have h2:=Yh hm
 have:=TD hn .empty (i:=(cO l (l.getD i .empty)).toNat) (j:=i) (by omega) hi h2
 omega
theorem zS {l:List ByteArray} {s:ByteArray} {a n:Int} (h:fM l s a=.ok n):s∈l∧n=cO l s:=by
 unfold fM at h
 split at h
 ·rename_i g
  cases h
  exact⟨jv.1 g,rfl⟩
 ·cases h
theorem Wm {l:List ByteArray} (hn:l.Nodup) {i:Nat} (hi:i<l.length) (a:Int):fM l (l.getD i .empty) a=.ok (i:Int):=by
 unfold fM
 rw[if_pos (jv.2 (getD_in _ hi)),pos_at hn hi]
theorem Bt {l:List ByteArray} {a:Int}:∀{r:List ByteArray} {acc o:List Int},dN l a r acc=.ok o->o=acc++r.map (cO l)∧∀s∈r,s∈l
 | [],acc,o,h=>by cases h;simp
 | s::r,acc,o,h=>by
  rw[dN] at h
  obtain⟨n,h1,h2⟩:=lH h
  obtain⟨h3,rfl⟩:=zS h1
  obtain⟨rfl,h5⟩:=Bt h2
  refine⟨by simp,fun t ht=>?_⟩
  rcases List.mem_cons.1 ht with rfl | ht
  ·exact h3
  ·exact h5 t ht
theorem Bu {l:List ByteArray} {a:Int} (f:Int->ByteArray):∀(r:List Int) (acc:List Int),(∀n∈r,fM l (f n) a=.ok n)->dN l a (r.map f) acc=.ok (acc++r)
 | [],acc,_=>by simp [dN]
 | n::r,acc,h=>by
  rw[List.map_cons,dN,h n (.head _)]
  show dN l a (r.map f) (acc++[n])=_
  rw[Bu f r _ fun m hm=>h m (.tail _ hm)]
  simp
theorem zT:∀{L:List (ByteArray×Int)} {acc o:List ByteArray},fK acc L=.ok o->acc.Nodup->o=acc++L.map (·.1)∧o.Nodup
 | [],acc,o,h,hn=>by cases h;simp [hn]
 | (s,a)::r,acc,o,h,hn=>by
  rw[fK] at h
  split at h
  ·cases h
  ·rename_i g
   have g:s∉acc:=zR.1 (by simpa using g)
   have hn2:(acc++[s]).Nodup:=by
    rw[List.nodup_append]
    refine⟨hn,by simp,fun x hx y hy e=>?_⟩
    rw[List.mem_singleton] at hy
    subst hy;subst e;exact g hx
   obtain⟨rfl,h2⟩:=zT h hn2
   exact⟨by simp,h2⟩
theorem zU:∀{L:List (ByteArray×Int)} {acc:List ByteArray},(acc++L.map (·.1)).Nodup->fK acc L=.ok (acc++L.map (·.1))
 | [],acc,_=>by simp [fK]
 | (s,a)::r,acc,h=>by
  have g:s∉acc:=fun hm=>by
   rw[List.nodup_append] at h
   exact h.2.2 s hm s (by simp) rfl
  rw[fK,if_neg (by rw[zR.2 g];simp)]
  have:=zU (L:=r) (acc:=acc++[s]) (by simpa using h)
  rw[this];simp
theorem zV (c:UInt8) (n:Int):(nmN c n).data.toList=c::(sgV n++om n.natAbs):=by
 unfold nmN
 rw[ByteArray.toList_data_append,oo];rfl
theorem O3 {c d:UInt8} {n m:Int} (hn:ak n) (hm:ak m) (h:nmN c n=nmN d m):c=d∧n=m:=by
 have h1:=congrArg (fun b:ByteArray=>b.data.toList) h
 simp only[zV,List.cons.injEq] at h1
 refine⟨h1.1,?_⟩
 have h2:jD n=jD m:=jX (by rw[oo,oo];exact h1.2)
 have h3:=Le n hn
 rw[h2,Le m hm] at h3
 exact (Prod.ext_iff.1 h3).1.symm
theorem Dq {c:UInt8} {n:Int} (hc:c≠109):dK≠nmN c n:=by
 intro h
 have h1:=congrArg (fun b:ByteArray=>b.data.toList) h
 simp only[zV] at h1
 have h2:(109:UInt8)=c:=(List.cons.inj h1).1
 exact hc h2.symm
theorem Wn:∀(u:Nat),∀c∈om u,48≤c.toNat∧c.toNat≤57:=by
 intro u
 induction u using Nat.strongRecOn with
 | ind u ih=>
  intro c hc
  by_cases h:u<10
  ·rw[sF h,List.mem_singleton] at hc
   subst hc
   have:(UInt8.ofNat (48+u)).toNat=48+u:=by rw[UInt8.toNat_ofNat'];omega
   omega
  ·rw[zu h,List.mem_append] at hc
   rcases hc with hc | hc
   ·exact ih (u/10) (by omega) c hc
   ·rw[List.mem_singleton] at hc
    subst hc
    have:(UInt8.ofNat (48+u%10)).toNat=48+u%10:=by rw[UInt8.toNat_ofNat'];omega
    omega
theorem FI {s:ByteArray}:∀(k p:Nat) (c:Int),(∀j,p≤j->j<s.size->48≤bt s j∧bt s j≤57)->1≤p->0<c->c+((s.size:Int)-p)≤24->gH s k p c=true
 | 0,p,c,_,_,h3,_=>by rw[gH,decide_eq_true h3]
 | k+1,p,c,h1,h2,h3,h4=>by
  rw[gH]
  split
  ·rename_i hp
   have hb:=h1 p (Nat.le_refl _) hp
   rw[decode_ascii (by omega)]
   have hd:uf ((bt s p:Nat):Int)=true:=by
    unfold uf
    rw[decide_eq_true (show (48:Int)≤(bt s p:Int) by omega),decide_eq_true (show (bt s p:Int)≤57 by omega)];rfl
   rw[hd,decide_eq_false (show ¬((p:Int)=0) by omega)]
   rw[if_neg (by simp),if_neg (by omega)]
   exact FI k (p+1) (c+1) (fun j hj=>h1 j (by omega)) (by omega) (by omega) (by omega)
  ·exact decide_eq_true h3
theorem TF:∀w∈EP,(w.getD 1 0).toNat<48∨57<(w.getD 1 0).toNat:=by decide
theorem xI {c:UInt8} {n:Int} (hc:qo (c.toNat:Int)=true) (h128:c.toNat<128) (h0:0≤n) (h1:n≤1000000):okN (nmN c n)=true:=by
 have hl:(nmN c n).data.toList=c::om n.natAbs:=by rw[zV,sgV,if_neg (by omega)];rfl
 have hlen:=uV 9 n.natAbs (by show n.natAbs<10000000000;omega)
 have hsz:(nmN c n).size=(om n.natAbs).length+1:=by
  have:=congrArg List.length hl
  rw[List.length_cons] at this
  rw[←this];exact (Array.length_toList).symm
 have hbt:∀j,bt (nmN c n) j=((c::om n.natAbs).getD j 0).toNat:=fun j=>by rw[pO,hl]
 obtain⟨d,r,e1,e2,e3,_⟩:=Hw n.natAbs
 unfold okN
 rw[adg,adt]
 constructor
 ·unfold Cn
  rw[hsz,gH,if_pos (by omega)]
  have hb0:bt (nmN c n) 0=c.toNat:=hbt 0
  rw[decode_ascii (by omega),hb0]
  show (if (!qo ((c.toNat:Nat):Int)&&_)=true then false else _)=true
  rw[hc]
  rw[if_neg (by simp),if_neg (by omega)]
  refine FI _ _ _ (fun j hj hs=>?_) (by omega) (by omega) (by rw[hsz];omega)
  rw[hbt]
  obtain⟨i,rfl⟩:∃i,j=i+1:=⟨j-1,by omega⟩
  rw[List.getD_cons_succ]
  exact Wn _ _ (getD_in _ (by omega))
 ·unfold pR
  rw[adr,hl]
  intro hm
  have:=TF _ hm
  rw[e1,List.getD_cons_succ,List.getD_cons_zero] at this
  omega
def wY {α β:Type} (g:Nat->α->Flt β):List α->Nat->List β->Flt (List β)
 | [],_,acc=>.ok acc
 | a::r,i,acc=>bd (g i a) fun b=>wY g r (i+1) (acc++[b])
theorem zW {α β:Type} {g:Nat->α->Flt β} (d:α) (e:β):∀{l:List α} {i:Nat} {acc o:List β},wY g l i acc=.ok o->∃t,o=acc++t∧t.length=l.length∧∀j,j<l.length->g (i+j) (l.getD j d)=.ok (t.getD j e)
 | [],i,acc,o,h=>by
  cases h
  exact⟨[],by simp,rfl,fun j hj=>absurd hj (adp _)⟩
 | a::l,i,acc,o,h=>by
  rw[wY] at h
  obtain⟨b,h1,h2⟩:=lH h
  obtain⟨t,rfl,h3,h4⟩:=zW d e h2
  refine⟨b::t,by simp,by simp [h3],fun j hj=>?_⟩
  cases j with
  | zero=>exact h1
  | succ j=>
   have:=h4 j (by simpa using hj)
   rw[show i+(j+1)=i+1+j by omega];exact this
theorem zX {α β:Type} {g:Nat->α->Flt β} (d:α) (e:β):∀{l:List α} {t:List β} {i:Nat} {acc:List β},t.length=l.length->(∀j,j<l.length->g (i+j) (l.getD j d)=.ok (t.getD j e))->wY g l i acc=.ok (acc++t)
 | [],t,i,acc,h,_=>by rw[List.eq_nil_of_length_eq_zero h,List.append_nil];rfl
 | a::l,[],i,acc,h,_=>by cases h
 | a::l,b::t,i,acc,h,h2=>by
  have h0:g i a=.ok b:=h2 0 (Nat.zero_lt_succ _)
  rw[wY,h0]
  show wY g l (i+1) (acc++[b])=_
  rw[zX d e (by simpa using h) fun j hj=>by
   have:=h2 (j+1) (by simpa using hj)
   rw[show i+(j+1)=i+1+j by omega] at this;exact this]
  simp
theorem Bv (r:Res) (s:Scp):∀(l:List Blk) (i:Nat) (acc:List (List Op9)),kg r s l acc=wY (fun _ b=>rz r s b) l i acc
 | [],_,_=>rfl
 | b::l,i,acc=>by
  rw[kg,wY]
  congr 1
  funext y
  exact Bv r s l (i+1) _
theorem zY:∀(l:List Fun) (i:Nat) (acc:List Scp),mW l acc=wY (fun _ f=>Di f) l i acc
 | [],_,_=>rfl
 | f::l,i,acc=>by
  rw[mW,wY]
  congr 1
  funext y
  exact zY l (i+1) _
theorem zZ (r:Res) (ss:List Scp):∀(l:List Fun) (i:Nat) (acc:List Bod),lK r ss l i acc=wY (fun i f=>JG r (ss.getD i mU) f) l i acc
 | [],_,_=>rfl
 | f::l,i,acc=>by
  rw[lK,wY]
  congr 1
  funext y
  exact zZ r ss l (i+1) _
theorem Qt (r:Res) (s:Scp) (code:List Ins):∀(l:List Ins) (i:Nat) (acc:List Op9),zK r s code l.length i acc=wY (fun i _=>tY r s code i) l i acc
 | [],_,_=>rfl
 | x::l,i,acc=>by
  rw[List.length_cons,zK,wY]
  congr 1
  funext y
  exact Qt r s code l (i+1) _
structure Wo (r:Res) (s:Scp) (b:Blk) (l:List Op9):Prop where
 e:vF b=true
 len:l.length=b.code.length
 ins:∀j,j<b.code.length->tY r s b.code j=.ok (l.getD j op0)
theorem MN {r:Res} {s:Scp} {b:Blk} {l:List Op9}:rz r s b=.ok l↔Wo r s b l:=by
 unfold rz
 rw[Qt]
 constructor
 ·intro h
  split at h
  ·rename_i he
   obtain⟨t,rfl,h1,h2⟩:=zW (aN 0) op0 h
   exact⟨he,h1,fun j hj=>by have:=h2 j hj;rwa [Nat.zero_add] at this⟩
  ·cases h
 ·intro h
  rw[if_pos h.e,zX (aN 0) op0 h.len fun j hj=>by rw[Nat.zero_add];exact h.ins j hj]
  rfl
abbrev FJ (f:Fun):List ByteArray:=f.blocks.map (·.name)
abbrev vL (f:Fun):List ByteArray:=f.params++(lu f.blocks).map (·.1)
abbrev p9 (f:Fun):Scp:=⟨FJ f,vL f⟩
theorem Qu {f:Fun} {s:Scp}:Di f=.ok s↔s=p9 f∧(FJ f).Nodup∧(vL f).Nodup:=by
 unfold Di
 have e1:(f.params.map fun s=>(s,f.at_)).map (·.1)=f.params:=by rw[List.map_map];exact List.map_id _
 have e2:(f.blocks.map fun b=>(b.name,b.at_)).map (·.1)=FJ f:=by rw[List.map_map];rfl
 constructor
 ·intro h
  obtain⟨vs,h1,h⟩:=lH h
  obtain⟨bs,h2,h⟩:=lH h
  obtain⟨vs',h3,h⟩:=lH h
  cases h
  obtain⟨rfl,g1⟩:=zT h1 List.nodup_nil
  obtain⟨rfl,g2⟩:=zT h2 List.nodup_nil
  obtain⟨rfl,g3⟩:=zT h3 g1
  rw[List.nil_append,e1] at g3
  rw[List.nil_append,e2] at g2
  rw[List.nil_append,List.nil_append,e1,e2]
  exact⟨rfl,g2,g3⟩
 ·rintro ⟨rfl,h1,h2⟩
  have hp:f.params.Nodup:=(List.nodup_append.1 h2).1
  rw[zU (acc:=[]) (by rw[List.nil_append,e1];exact hp),List.nil_append,e1]
  show bd (fK [] _) _=_
  rw[zU (acc:=[]) (by rw[List.nil_append,e2];exact h1),List.nil_append,e2]
  show bd (fK f.params _) _=_
  rw[zU h2];rfl
structure MO (r:Res) (f:Fun) (b:Bod):Prop where
 nb:(FJ f).Nodup
 nv:(vL f).Nodup
 FK:b.params=(f.params.length:Int)
 vars:b.vars=((vL f).length:Int)
 len:b.blocks.length=f.blocks.length
 blk:∀k,k<f.blocks.length->Wo r (p9 f) (f.blocks.getD k bH) (b.blocks.getD k [])
theorem Qv {r:Res} {f:Fun} {b:Bod} (h1:(FJ f).Nodup) (h2:(vL f).Nodup):JG r (p9 f) f=.ok b↔MO r f b:=by
 unfold JG
 rw[Bv r (p9 f) f.blocks 0]
 constructor
 ·intro h
  obtain⟨t,h3,h⟩:=lH h
  cases h
  obtain⟨t,rfl,h4,h5⟩:=zW bH [] h3
  exact⟨h1,h2,rfl,rfl,h4,fun k hk=>MN.1 (h5 k hk)⟩
 ·rintro ⟨_,_,h3,h4,h5,h6⟩
  rw[zX bH [] h5 fun k hk=>MN.2 (h6 k hk)]
  obtain⟨b1,b2,b3⟩:=b
  show Except.ok _=Except.ok _
  simp only[List.nil_append]
  simp only at h3 h4
  rw[h3,h4]
theorem Qw {p:Pol}:∀{l:List Arr} {acc:List ByteArray} {cs:List Cel} {o:List ByteArray×List Cel},mM p l acc cs=.ok o->acc.Nodup->o=(acc++l.map (·.name),cs++l.map fun a=>(a.size,bE p.lev a.level))∧o.1.Nodup∧∀a∈l,0≤bE p.lev a.level
 | [],acc,cs,o,h,hn=>by cases h;simp [hn]
 | a::l,acc,cs,o,h,hn=>by
  rw[mM] at h
  split at h
  ·cases h
  ·rename_i g
   have g:a.name∉acc:=zR.1 (by simpa using g)
   obtain⟨k,h1,h2⟩:=lH h
   unfold eu at h1
   split at h1
   ·rename_i hk
    cases h1
    have hn2:(acc++[a.name]).Nodup:=by
     rw[List.nodup_append]
     refine⟨hn,by simp,fun x hx y hy e=>?_⟩
     rw[List.mem_singleton] at hy
     subst hy;subst e;exact g hx
    obtain⟨rfl,h3,h4⟩:=Qw h2 hn2
    refine⟨by simp,h3,fun b hb=>?_⟩
    rcases List.mem_cons.1 hb with rfl | hb
    ·exact hk
    ·exact h4 b hb
   ·cases h1
theorem Qx {p:Pol}:∀{l:List Arr} {acc:List ByteArray} {cs:List Cel},(acc++l.map (·.name)).Nodup->(∀a∈l,0≤bE p.lev a.level)->mM p l acc cs=.ok (acc++l.map (·.name),cs++l.map fun a=>(a.size,bE p.lev a.level))
 | [],acc,cs,_,_=>by simp [mM]
 | a::l,acc,cs,h,h2=>by
  have g:a.name∉acc:=fun hm=>by
   rw[List.nodup_append] at h
   exact h.2.2 _ hm a.name (by simp) rfl
  rw[mM,if_neg (by rw[zR.2 g];simp),eu,if_pos (h2 a (.head _))]
  show mM p l (acc++[a.name]) _=_
  rw[Qx (by simpa using h) fun b hb=>h2 b (.tail _ hb)]
  simp
abbrev Qy (q:Prg):List ByteArray:=q.arrays.map (·.name)
abbrev JQ (q:Prg):List ByteArray:=q.funcs.map (·.name)
abbrev CU (p:Pol) (q:Prg):Res:=⟨p,q,Qy q,JQ q⟩
structure Il (p:Pol) (q:Prg) (c:Cod):Prop where
 na:(Qy q).Nodup
 lv:∀a∈q.arrays,0≤bE p.lev a.level
 Dh:c.arrays=q.arrays.map fun a=>(a.size,bE p.lev a.level)
 nf:(JQ q).Nodup
 mn:dK∈JQ q
 mp:lJ q (cO (JQ q) dK)=0
 main:c.main=cO (JQ q) dK
 len:c.funcs.length=q.funcs.length
 fn:∀i,i<q.funcs.length->MO (CU p q) (q.funcs.getD i bD) (c.funcs.getD i aC)
theorem Qz {p:Pol} {q:Prg} {c:Cod}:Dj p q=.ok c↔Il p q c:=by
 unfold Dj
 have e2:(q.funcs.map fun f=>(f.name,f.at_)).map (·.1)=JQ q:=by rw[List.map_map];rfl
 constructor
 ·intro h
  obtain⟨ac,h1,h⟩:=lH h
  obtain⟨fn,h2,h⟩:=lH h
  obtain⟨rfl,g1,g2⟩:=Qw h1 List.nodup_nil
  obtain⟨rfl,g3⟩:=zT h2 List.nodup_nil
  rw[List.nil_append,e2] at g3 h
  simp only[List.nil_append] at g1 h
  split at h
  ·rename_i hm
   obtain⟨ss,h3,h⟩:=lH h
   obtain⟨bs,h4,h⟩:=lH h
   cases h
   unfold xH at hm
   rw[adg,adn] at hm
   rw[zY q.funcs 0] at h3
   rw[zZ _ _ q.funcs 0] at h4
   obtain⟨ss,rfl,g4,g5⟩:=zW bD mU h3
   obtain⟨bs,rfl,g6,g7⟩:=zW bD aC h4
   refine⟨g1,g2,rfl,g3,jv.1 hm.1,by omega,rfl,g6,fun i hi=>?_⟩
   obtain⟨hs,hb,hv⟩:=Qu.1 (g5 i hi)
   have h7:=g7 i hi
   simp only[Nat.zero_add,List.nil_append] at h7
   rw[hs] at h7
   exact (Qv hb hv).1 h7
  ·cases h
 ·intro h
  rw[Qx (acc:=[]) (by simpa using h.na) h.lv]
  show bd (fK [] _) _=_
  rw[zU (acc:=[]) (by rw[List.nil_append,e2];exact h.nf),List.nil_append,e2]
  show (if xH q (JQ q)=true then _ else _)=_
  rw[if_pos (by unfold xH;rw[jv.2 h.mn,h.mp];rfl),zY q.funcs 0,zX (t:=q.funcs.map p9) bD mU (by simp) fun j hj=>?_]
  ·show bd (lK _ _ _ _ _) _=_
   rw[zZ _ _ q.funcs 0,zX (t:=c.funcs) bD aC h.len fun j hj=>?_]
   ·obtain⟨c1,c2,c3⟩:=c
    have h1:=h.Dh
    have h2:=h.main
    simp only at h1 h2
    subst h1;subst h2
    rfl
   ·have hf:=h.fn j hj
    simp only[Nat.zero_add,List.nil_append]
    rw[show (q.funcs.map p9).getD j mU=p9 (q.funcs.getD j bD) by
     rw[adf,adf,List.getElem?_map,adh hj];rfl]
    exact (Qv hf.nb hf.nv).2 hf
  ·have hf:=h.fn j hj
   refine Qu.2 ⟨?_,hf.nb,hf.nv⟩
   rw[adf,adf,List.getElem?_map,adh hj];rfl
def shp (k:Int):Option (Int×Bool×Bool×Bool):=if k=3 then some (-1,true,false,false) else jm k
def tC (k:Int):Bool:=match shp k with
 | some (_,d,_,_)=>d
 | none=>false
def FL (p:Pol) (na nf nb:Nat) (k:Int):Int:=
 if k=4∨k=5∨k=6 then (na:Int) else if k=7 then (nf:Int) else if k=8 then (p.ins.length:Int) else if k=9 then (p.outs.length:Int) else if k=10 then (p.lev.length:Int) else (nb:Int)
structure ROp (p:Pol) (c:Cod) (b:Bod) (x:Op9) (n:Int) (d r a:Bool):Prop where
 sh:shp x.kind=some (n,d,r,a)
 d0:d=false->x.dst=-1
 r0:r=false->x.ref=0
 a0:a=false->x.alt=0
 num:x.kind≠1->x.num=0
 op0:x.kind≠2->x.op=0
 op1:x.kind=2->1≤x.op∧x.op≤12
 r1:r=true->0≤x.ref∧x.ref<FL p c.arrays.length c.funcs.length b.blocks.length x.kind
 a1:a=true->0≤x.alt∧x.alt<(b.blocks.length:Int)
 phi:x.kind=3->x.frm.length=x.args.length∧1≤x.frm.length∧x.frm.length≤64
 aaE:x.kind≠3->x.frm=[]∧(x.args.length:Int)=if x.kind=7 then (c.funcs.getD x.ref.toNat aC).params else n
 args:∀k∈x.args,0≤k∧k<b.vars
 frm:∀k∈x.frm,0≤k∧k<(b.blocks.length:Int)
def MP (l:List Op9):List Int:=l.filterMap fun x=>if tC x.kind=true then some x.dst else none
def mO (bs:List (List Op9)):List Int:=bs.flatMap MP
structure ROps (p:Pol) (c:Cod) (b:Bod) (l:List Op9):Prop where
 len:1≤l.length
 op:∀j,j<l.length->∃n d r a,ROp p c b (l.getD j op0) n d r a
 e:∀j,j<l.length->(lI (l.getD j op0).kind=true↔j+1=l.length)
 ph:∀j,j<l.length->(l.getD j op0).kind=3->j≠0->(l.getD (j-1) op0).kind=3
structure Wq (p:Pol) (c:Cod) (b:Bod):Prop where
 p0:0≤b.params∧b.params≤6
 len:1≤b.blocks.length∧b.blocks.length≤64
 vars:b.vars=b.params+(mO b.blocks).length
 seq:∀i,i<(mO b.blocks).length->(mO b.blocks).getD i 0=b.params+i
 ops:∀l∈b.blocks,ROps p c b l
structure qB (p:Pol) (c:Cod):Prop where
 pol:gU p=true
 al:c.arrays.length≤16
 fl:c.funcs.length≤64
 m:0≤c.main∧c.main<(c.funcs.length:Int)
 mp:(c.funcs.getD c.main.toNat aC).params=0
 arr:∀a∈c.arrays,(1≤a.1∧a.1≤256)∧0≤a.2∧a.2<(p.lev.length:Int)
 bod:∀b∈c.funcs,Wq p c b
 all:(c.funcs.map fun b=>(b.blocks.map fun l=>l.length).sum).sum≤4096
theorem oM {k n:Int} {d r a:Bool} (h:jm k=some (n,d,r,a)):(k=1∧n=0∧d=true∧r=false∧a=false)∨(k=2∧n=2∧d=true∧r=false∧a=false)∨(k=4∧n=1∧d=true∧r=true∧a=false)∨(k=5∧n=1∧d=true∧r=true∧a=false)∨(k=6∧n=2∧d=false∧r=true∧a=false)∨(k=7∧n=-1∧d=true∧r=true∧a=false)∨(k=8∧n=0∧d=true∧r=true∧a=false)∨(k=9∧n=1∧d=false∧r=true∧a=false)∨(k=10∧n=1∧d=true∧r=true∧a=false)∨(k=11∧n=0∧d=false∧r=true∧a=false)∨(k=12∧n=1∧d=false∧r=true∧a=true)∨(k=13∧n=1∧d=false∧r=false∧a=false):=by
 by_cases g1:k=1
 ·subst g1
  have h:some ((0,true,false,false):Int×Bool×Bool×Bool)=some (n,d,r,a):=h
  cases h
  decide
 by_cases g2:k=2
 ·subst g2
  have h:some ((2,true,false,false):Int×Bool×Bool×Bool)=some (n,d,r,a):=h
  cases h
  decide
 by_cases g4:k=4
 ·subst g4
  have h:some ((1,true,true,false):Int×Bool×Bool×Bool)=some (n,d,r,a):=h
  cases h
  decide
 by_cases g5:k=5
 ·subst g5
  have h:some ((1,true,true,false):Int×Bool×Bool×Bool)=some (n,d,r,a):=h
  cases h
  decide
 by_cases g6:k=6
 ·subst g6
  have h:some ((2,false,true,false):Int×Bool×Bool×Bool)=some (n,d,r,a):=h
  cases h
  decide
 by_cases g7:k=7
 ·subst g7
  have h:some ((-1,true,true,false):Int×Bool×Bool×Bool)=some (n,d,r,a):=h
  cases h
  decide
 by_cases g8:k=8
 ·subst g8
  have h:some ((0,true,true,false):Int×Bool×Bool×Bool)=some (n,d,r,a):=h
  cases h
  decide
 by_cases g9:k=9
 ·subst g9
  have h:some ((1,false,true,false):Int×Bool×Bool×Bool)=some (n,d,r,a):=h
  cases h
  decide
 by_cases g10:k=10
 ·subst g10
  have h:some ((1,true,true,false):Int×Bool×Bool×Bool)=some (n,d,r,a):=h
  cases h
  decide
 by_cases g11:k=11
 ·subst g11
  have h:some ((0,false,true,false):Int×Bool×Bool×Bool)=some (n,d,r,a):=h
  cases h
  decide
 by_cases g12:k=12
 ·subst g12
  have h:some ((1,false,true,true):Int×Bool×Bool×Bool)=some (n,d,r,a):=h
  cases h
  decide
 by_cases g13:k=13
 ·subst g13
  have h:some ((1,false,false,false):Int×Bool×Bool×Bool)=some (n,d,r,a):=h
  cases h
  decide
 exfalso
 unfold jm at h
 rw[if_neg g1,if_neg g2,if_neg g4,if_neg g5,if_neg g6,if_neg g7,if_neg g8,if_neg g9,if_neg g10,if_neg g11,if_neg g12,if_neg g13] at h
 cases h
theorem vM {k n:Int} {d r a:Bool} (h:shp k=some (n,d,r,a)):(k=3∧n=-1∧d=true∧r=false∧a=false)∨(k≠3∧jm k=some (n,d,r,a)):=by
 unfold shp at h
 split at h
 ·rename_i g
  cases h
  exact .inl ⟨g,rfl,rfl,rfl,rfl⟩
 ·rename_i g
  exact .inr ⟨g,h⟩
theorem O4 {k n:Int} {d r a:Bool} (h3:k≠3) (h:jm k=some (n,d,r,a)):shp k=some (n,d,r,a):=by unfold shp;rw[if_neg h3];exact h
theorem Ws {s:ByteArray} (h:okN s=true):s.data.toList≠[]:=by
 intro e
 have e2:s=.empty:=jX (by rw[e];rfl)
 rw[e2] at h
 revert h;decide
theorem Im {x:Ins} (h:bS x=true):(x.dst.data.toList=[])↔tC x.kind=false:=by
 rcases jr h with⟨h3,hp⟩ | ⟨n,d,r,a,hs,h3,hi,_⟩
 ·have e:tC x.kind=true:=by rw[h3];rfl
  rw[e]
  exact⟨fun g=>absurd g (Ws hp.dst),fun g=>by cases g⟩
 ·have e:tC x.kind=d:=by unfold tC;rw[O4 h3 hs]
  rw[e]
  cases d with
  | true=>exact⟨fun g=>absurd g (Ws (JJ hi.dst)),fun g=>by cases g⟩
  | false=>exact⟨fun _=>rfl,fun _=>by rw[zN hi.dst];rfl⟩
theorem FM {o:Int}:(opName o).data.toList≠[]↔1≤o∧o≤12:=by
 unfold opName
 split
 ·rename_i h
  exact⟨fun g=>absurd rfl g,fun g=>by omega⟩
 ·rename_i h
  by_cases h0:o≤0
  ·rw[show o.toNat=0 by omega]
   exact⟨fun g=>absurd (by decide) g,fun g=>by omega⟩
  ·obtain⟨n,rfl⟩:∃n:Nat,o=(n:Int):=⟨o.toNat,by omega⟩
   have hn:n<13:=by omega
   rw[adv]
   refine⟨fun _=>by omega,fun _=>?_⟩
   have key:∀n:Nat,n<13->n≠0->(opAt n).data.toList≠[]:=by decide
   exact key n hn (by omega)
theorem QA {l:List Chan} {s:ByteArray} (h:0≤fV l s):fV l s<(l.length:Int):=by
 unfold fV at *
 rcases yx (p:=fun i=>decide ((l.getD i aZ).1.data.toList=s.data.toList)) (n:=l.length) (i:=0) with e | e<;>omega
theorem FP {n a k:Int} (h:eu n a=.ok k):0≤n∧k=n:=by
 unfold eu at h
 split at h
 ·rename_i g
  cases h;exact⟨g,rfl⟩
 ·cases h
theorem bd1 {r:Flt Int} {o:Int×Int} (h:(bd r fun n=>.ok (n,(0:Int)))=.ok o):r=.ok o.1∧o.2=0:=by
 obtain⟨n,h1,h2⟩:=lH h
 cases h2
 exact⟨h1,rfl⟩
theorem tF {l:List ByteArray} {s:ByteArray} {a n:Int} (h:fM l s a=.ok n):0≤n∧n<(l.length:Int):=by
 obtain⟨h1,rfl⟩:=zS h
 exact tq (jv.2 h1)
theorem Yi {R:Res} {s:Scp} {x:Ins} {o:Int×Int} {n:Int} {d r a:Bool} (hs:shp x.kind=some (n,d,r,a)) (h:mK R s x=.ok o):(r=false->o.1=0)∧(a=false->o.2=0)∧(r=true->0≤o.1∧o.1<FL R.p R.Dh.length R.fns.length s.blks.length x.kind)∧(a=true->0≤o.2∧o.2<(s.blks.length:Int)):=by
 unfold mK at h
 unfold FL
 rcases vM hs with⟨hk,rfl,rfl,rfl,rfl⟩ | ⟨h3,hs⟩
 ·simp [hk] at h
  cases h;simp
 ·rcases oM hs with⟨hk,rfl,rfl,rfl,rfl⟩ | ⟨hk,rfl,rfl,rfl,rfl⟩ | ⟨hk,rfl,rfl,rfl,rfl⟩ | ⟨hk,rfl,rfl,rfl,rfl⟩ | ⟨hk,rfl,rfl,rfl,rfl⟩ | ⟨hk,rfl,rfl,rfl,rfl⟩ | ⟨hk,rfl,rfl,rfl,rfl⟩ | ⟨hk,rfl,rfl,rfl,rfl⟩ | ⟨hk,rfl,rfl,rfl,rfl⟩ | ⟨hk,rfl,rfl,rfl,rfl⟩ | ⟨hk,rfl,rfl,rfl,rfl⟩ | ⟨hk,rfl,rfl,rfl,rfl⟩
  ·simp [hk] at h;cases h;simp
  ·simp [hk] at h;cases h;simp
  ·simp [hk] at h;obtain⟨h1,h2⟩:=bd1 h;have:=tF h1;simp [hk,h2,this]
  ·simp [hk] at h;obtain⟨h1,h2⟩:=bd1 h;have:=tF h1;simp [hk,h2,this]
  ·simp [hk] at h;obtain⟨h1,h2⟩:=bd1 h;have:=tF h1;simp [hk,h2,this]
  ·simp [hk] at h;obtain⟨h1,h2⟩:=bd1 h;have:=tF h1;simp [hk,h2,this]
  ·simp [hk] at h;obtain⟨h1,h2⟩:=bd1 h;obtain⟨h3,h4⟩:=FP h1;have:=QA h3;simp [hk,h2,h4,this,h3]
  ·simp [hk] at h;obtain⟨h1,h2⟩:=bd1 h;obtain⟨h3,h4⟩:=FP h1;have:=QA h3;simp [hk,h2,h4,this,h3]
  ·simp [hk] at h;obtain⟨h1,h2⟩:=bd1 h;obtain⟨h3,h4⟩:=FP h1;have:=zH h3;simp [hk,h2,h4,h3];omega
  ·simp [hk] at h;obtain⟨h1,h2⟩:=bd1 h;have:=tF h1;simp [hk,h2,this]
  ·simp [hk] at h
   obtain⟨u,h1,h2⟩:=lH h
   obtain⟨v,h3,h4⟩:=lH h2
   cases h4
   have g1:=tF h1
   have g2:=tF h3
   simp [hk,g1,g2]
  ·simp [hk] at h;cases h;simp
structure aaF (R:Res) (s:Scp) (x:Ins) (y:Op9) (o:Int×Int):Prop where
 refs:mK R s x=.ok o
 y:y=⟨x.kind,x.op,if x.dst.data.toList=[] then -1 else cO s.vals x.dst,o.1,o.2,x.args.map (cO s.vals),x.frm.map (cO s.blks),x.num,x.at_⟩
 args:∀t∈x.args,t∈s.vals
 frm:∀t∈x.frm,t∈s.blks
 call:x.kind=7->x.args.length=lJ R.q o.1
theorem Wt {R:Res} {s:Scp} {x:Ins} {y:Op9} (h:wU R s x=.ok y):∃o,aaF R s x y o:=by
 unfold wU at h
 obtain⟨o,h1,h⟩:=lH h
 obtain⟨az,h2,h⟩:=lH h
 obtain⟨fs,h3,h⟩:=lH h
 obtain⟨rfl,g1⟩:=Bt h2
 obtain⟨rfl,g2⟩:=Bt h3
 split at h
 ·cases h
 ·rename_i hc
  cases h
  refine⟨o,h1,by simp,g1,g2,fun hk=>?_⟩
  exact Classical.byContradiction fun hne=>hc ⟨hk,hne⟩
structure ac1 (R:Res) (s:Scp) (code:List Ins) (i:Nat) (y:Op9):Prop where
 e:lI (code.getD i (aN 0)).kind=true->i+1=code.length
 ph:(code.getD i (aN 0)).kind=3->i≠0->(code.getD (i-1) (aN 0)).kind=3
 op:wU R s (code.getD i (aN 0))=.ok y
theorem vN {R:Res} {s:Scp} {code:List Ins} {i:Nat} {y:Op9}:tY R s code i=.ok y↔ac1 R s code i y:=by
 unfold tY
 constructor
 ·intro h
  split at h
  ·cases h
  ·rename_i h1
   split at h
   ·cases h
   ·rename_i h2
    exact⟨fun g=>Classical.byContradiction fun hne=>h1 ⟨g,hne⟩,fun g g2=>Classical.byContradiction fun hne=>h2 ⟨g,g2,hne⟩,h⟩
 ·intro h
  rw[if_neg fun g=>g.2 (h.e g.1),if_neg fun g=>g.2.2 (h.ph g.1 g.2.1)]
  exact h.op
structure QB (f:Fun):Prop where
 name:okN f.name=true
 FK:dZ f.params=true
 pl:f.params.length≤6
 b1:1≤f.blocks.length
 b2:f.blocks.length≤64
 blk:∀b∈f.blocks,okN b.name=true∧∀x∈b.code,bS x=true
structure ac2 (a:Arr):Prop where
 name:okN a.name=true
 lev:okN a.level=true
 s1:1≤a.size
 s2:a.size≤256
structure Wu (q:Prg):Prop where
 al:q.arrays.length≤16
 fl:q.funcs.length≤64
 arr:∀a∈q.arrays,ac2 a
 fn:∀f∈q.funcs,QB f
 all:iF q.funcs≤4096
theorem TG {a:Arr}:kK a=true↔ac2 a:=by
 unfold kK
 simp only[adt,adw,Bool.not_eq_false',adr]
 exact⟨fun ⟨⟨⟨h1,h2⟩,h3⟩,h4⟩=>⟨h1,h2,by omega,by omega⟩,fun h=>⟨⟨⟨h.name,h.lev⟩,by have:=h.s1;omega⟩,by have:=h.s2;omega⟩⟩
theorem TH {f:Fun}:kL f=true↔QB f:=by
 unfold kL oC
 simp only[adg,adt,adw,Bool.not_eq_false',adr,List.all_eq_true]
 exact⟨fun ⟨⟨⟨⟨⟨h1,h2⟩,h3⟩,h4⟩,h5⟩,h6⟩=>⟨h1,h2,by omega,by omega,by omega,h6⟩,fun h=>⟨⟨⟨⟨⟨h.name,h.FK⟩,by have:=h.pl;omega⟩,by have:=h.b1;omega⟩,by have:=h.b2;omega⟩,h.blk⟩⟩
theorem lZ {q:Prg}:rightG q=true↔Wu q:=by
 unfold rightG
 simp only[adg,adt,adw,adn,adr,List.all_eq_true,TG,TH]
 exact⟨fun ⟨⟨⟨⟨h1,h2⟩,h3⟩,h4⟩,h5⟩=>⟨by omega,by omega,h3,h4,h5⟩,fun h=>⟨⟨⟨⟨by have:=h.al;omega,by have:=h.fl;omega⟩,h.arr⟩,h.fn⟩,h.all⟩⟩
theorem vO {α β γ:Type} {F:α->γ} {G:β->γ} (d:α) (e:β):∀{l:List α} {m:List β},l.length=m.length->(∀i,i<m.length->F (l.getD i d)=G (m.getD i e))->l.map F=m.map G
 | [],[],_,_=>rfl
 | [],_::_,h,_=>by cases h
 | _::_,[],h,_=>by cases h
 | a::l,b::m,h,h2=>by
  rw[List.map_cons,List.map_cons,show F a=G b from h2 0 (Nat.zero_lt_succ _),vO d e (by simpa using h) fun i hi=>h2 (i+1) (by simpa using hi)]
theorem QC {vals:List ByteArray}:∀{code:List Ins} {l:List Op9},l.length=code.length->(∀j,j<code.length->(l.getD j op0).kind=(code.getD j (aN 0)).kind∧((l.getD j op0).dst=if (code.getD j (aN 0)).dst.data.toList=[] then -1 else cO vals (code.getD j (aN 0)).dst)∧((code.getD j (aN 0)).dst.data.toList=[]↔tC (code.getD j (aN 0)).kind=false))->MP l=(wV code).map fun e=>cO vals e.1
 | [],[],_,_=>rfl
 | [],_::_,h,_=>by cases h
 | _::_,[],h,_=>by cases h
 | x::code,y::l,h,h2=>by
  obtain⟨h3,h4,h5⟩:=h2 0 (Nat.zero_lt_succ _)
  have h3:y.kind=x.kind:=h3
  have h4:y.dst=if x.dst.data.toList=[] then -1 else cO vals x.dst:=h4
  have h5:x.dst.data.toList=[]↔tC x.kind=false:=h5
  have ih:=QC (vals:=vals) (code:=code) (l:=l) (by simpa using h) fun j hj=>h2 (j+1) (by simpa using hj)
  unfold MP wV at *
  by_cases e:x.dst.data.toList=[]
  ·rw[List.filterMap_cons,List.filterMap_cons,if_neg (by rw[h3,h5.1 e];simp),if_pos e]
   exact ih
  ·have e2:tC x.kind=true:=by
    cases g:tC x.kind with
    | true=>rfl
    | false=>exact absurd (h5.2 g) e
   rw[List.filterMap_cons,List.filterMap_cons,if_pos (by rw[h3];exact e2),if_neg e]
   rw[if_neg e] at h4
   simp only[List.map_cons]
   rw[h4,ih]
theorem MQ {vals:List ByteArray}:∀{bs:List Blk} {ls:List (List Op9)},ls.length=bs.length->(∀k,k<bs.length->MP (ls.getD k [])=(wV (bs.getD k bH).code).map fun e=>cO vals e.1)->mO ls=(lu bs).map fun e=>cO vals e.1
 | [],[],_,_=>rfl
 | [],_::_,h,_=>by cases h
 | _::_,[],h,_=>by cases h
 | b::bs,l::ls,h,h2=>by
  have ih:=MQ (vals:=vals) (bs:=bs) (ls:=ls) (by simpa using h) fun j hj=>h2 (j+1) (by simpa using hj)
  have h0:MP l=(wV b.code).map fun e=>cO vals e.1:=h2 0 (Nat.zero_lt_succ _)
  unfold mO lu at *
  rw[List.flatMap_cons,List.flatMap_cons,List.map_append,h0,ih]
theorem Wv {p:Pol} {q:Prg} {c:Cod} (hc:Il p q c) {f:Fun} {b:Bod} (hb:MO (CU p q) f b) {x:Ins} (hx:bS x=true) {y:Op9} {o:Int×Int} (h:aaF (CU p q) (p9 f) x y o):∃n d r a,ROp p c b y n d r a:=by
 obtain⟨n,d,r,a,hs⟩:∃n d r a,shp x.kind=some (n,d,r,a):=by
  rcases jr hx with⟨h3,hp⟩ | ⟨n,d,r,a,hs,h3,hi,_⟩
  ·exact⟨-1,true,false,false,by unfold shp;rw[if_pos h3]⟩
  ·exact⟨n,d,r,a,O4 h3 hs⟩
 have hla:(Qy q).length=c.arrays.length:=by rw[hc.Dh,List.length_map,List.length_map]
 have hlf:(JQ q).length=c.funcs.length:=by rw[hc.len,List.length_map]
 have hlb:(FJ f).length=b.blocks.length:=by rw[hb.len,List.length_map]
 obtain⟨g1,g2,g3,g4⟩:=Yi hs h.refs
 have e1:(p9 f).blks.length=b.blocks.length:=hlb
 have e2:(CU p q).Dh.length=c.arrays.length:=hla
 have e3:(CU p q).fns.length=c.funcs.length:=hlf
 rw[e1,e2,e3] at g3
 rw[e1] at g4
 have hy:=h.y
 have hd:=Im hx
 have hD:tC x.kind=d:=by unfold tC;rw[hs]
 refine⟨n,d,r,a,?_⟩
 subst hy
 have hargs:∀k∈x.args.map (cO (p9 f).vals),0≤k∧k<b.vars:=fun k hk=>by
  obtain⟨s,hs,rfl⟩:=List.mem_map.1 hk
  rw[hb.vars]
  exact tq (jv.2 (h.args s hs))
 have RG:∀k∈x.frm.map (cO (p9 f).blks),0≤k∧k<(b.blocks.length:Int):=fun k hk=>by
  obtain⟨s,hs,rfl⟩:=List.mem_map.1 hk
  rw[←hlb]
  exact tq (jv.2 (h.frm s hs))
 have hcall:x.kind=7->(x.args.length:Int)=(c.funcs.getD o.1.toNat aC).params:=fun hk=>by
  have h7:=h.call hk
  have hr:r=true:=by
   rw[hk] at hs
   have:shp 7=some (-1,true,true,false):=rfl
   rw[this] at hs;cases hs;rfl
  have hm:=g3 hr
  rw[hk] at hm
  have hm:0≤o.1∧o.1<(c.funcs.length:Int):=hm
  have:=(hc.fn o.1.toNat (by rw[←hc.len];omega)).FK
  rw[this,h7];rfl
 rcases jr hx with⟨h3,hp⟩ | ⟨n',d',r',a',hs',h3,hi,hop⟩
 ·exact⟨hs,fun g=>if_pos (hd.2 (by rw[hD,g])),g1,g2,fun _=>hp.num,fun _=>hp.op,fun g=>by have g:x.kind=2:=g;omega,g3,g4,fun _=>by simp only[List.length_map];exact hp.len,fun g=>absurd h3 g,hargs,RG⟩
 ·have hs2:=O4 h3 hs'
  rw[hs] at hs2
  cases hs2
  refine⟨hs,fun g=>if_pos (hd.2 (by rw[hD,g])),g1,g2,fun g=>?_,fun g=>?_,fun g=>FM.1 (hop g),g3,g4,fun g=>absurd g h3,fun _=>⟨by show x.frm.map _=[];rw[hi.frm];rfl,?_⟩,hargs,RG⟩
  ·exact Classical.byContradiction fun hne=>g (hi.num hne)
  ·exact Classical.byContradiction fun hne=>g (hi.op.1 hne)
  ·show ((x.args.map (cO (p9 f).vals)).length:Int)=if x.kind=7 then _ else n
   rw[List.length_map]
   split
   ·rename_i hk;exact hcall hk
   ·rename_i hk
    refine hi.yw.1 ?_
    rcases oM hs' with g | g | g | g | g | g | g | g | g | g | g | g<;>omega
theorem TJ {p:Pol} {q:Prg} {c:Cod} (hc:Il p q c) {f:Fun} {b:Bod} (hb:MO (CU p q) f b) (hf:QB f):Wq p c b:=by
 have hins:∀k,k<f.blocks.length->∀j,j<(f.blocks.getD k bH).code.length->∃o,aaF (CU p q) (p9 f) ((f.blocks.getD k bH).code.getD j (aN 0)) ((b.blocks.getD k []).getD j op0) o:=fun k hk j hj=>Wt (vN.1 ((hb.blk k hk).ins j hj)).op
 have hri:∀k,k<f.blocks.length->∀j,j<(f.blocks.getD k bH).code.length->bS ((f.blocks.getD k bH).code.getD j (aN 0))=true:=fun k hk j hj=>(hf.blk _ (getD_in _ hk)).2 _ (getD_in _ hj)
 have hD:mO b.blocks=(lu f.blocks).map fun e=>cO (vL f) e.1:=by
  refine MQ hb.len fun k hk=>QC (hb.blk k hk).len fun j hj=>?_
  obtain⟨o,ho⟩:=hins k hk j hj
  have hy:=ho.y
  exact⟨by rw[hy],by rw[hy],Im (hri k hk j hj)⟩
 refine⟨⟨by rw[hb.FK];omega,by rw[hb.FK];have:=hf.pl;omega⟩,⟨by rw[hb.len];exact hf.b1,by rw[hb.len];exact hf.b2⟩,?_,fun i hi=>?_,fun l hl=>?_⟩
 ·rw[hb.vars,hb.FK,hD,List.length_map,List.length_append,List.length_map];omega
 ·rw[hD] at hi ⊢
  rw[List.length_map] at hi
  have hv:(vL f).getD (f.params.length+i) .empty=((lu f.blocks).getD i (.empty,0)).1:=by
   rw[adf,adf,List.getElem?_append_right (by omega),Nat.add_sub_cancel_left,List.getElem?_map,adh hi];rfl
  have hl:f.params.length+i<(vL f).length:=by rw[List.length_append,List.length_map];omega
  have:=pos_at hb.nv hl
  rw[hv] at this
  rw[hb.FK,adf,List.getElem?_map,adh hi]
  rw[adf,adh hi] at this
  show cO (vL f) ((lu f.blocks)[i]).1=_
  have this:cO (vL f) ((lu f.blocks)[i]).1=((f.params.length+i:Nat):Int):=this
  rw[this];omega
 ·obtain⟨k,hk,rfl⟩:=List.getElem_of_mem hl
  have hk2:k<f.blocks.length:=by rw[←hb.len];exact hk
  have hB:=hb.blk k hk2
  have eL:b.blocks.getD k []=b.blocks[k]:=by rw[adf,adh hk];rfl
  rw[eL] at hB
  have hkind:∀j,j<(f.blocks.getD k bH).code.length->(b.blocks[k].getD j op0).kind=((f.blocks.getD k bH).code.getD j (aN 0)).kind:=fun j hj=>by
   obtain⟨o,ho⟩:=hins k hk2 j hj
   have:=ho.y
   rw[eL] at this
   rw[this]
  have he:=hB.e
  unfold vF at he
  rw[adg,adn] at he
  refine⟨by rw[hB.len];exact he.1,fun j hj=>?_,fun j hj=>?_,fun j hj h3 h0=>?_⟩
  ·rw[hB.len] at hj
   obtain⟨o,ho⟩:=hins k hk2 j hj
   rw[eL] at ho
   exact Wv hc hb (hri k hk2 j hj) ho
  ·rw[hB.len] at hj ⊢
   rw[hkind j hj]
   refine⟨(vN.1 (hB.ins j hj)).e,fun g=>?_⟩
   rw[show j=(f.blocks.getD k bH).code.length-1 by omega];exact he.2
  ·rw[hB.len] at hj
   rw[hkind j hj] at h3
   rw[hkind (j-1) (by omega)]
   exact (vN.1 (hB.ins j hj)).ph h3 h0
theorem TL {p:Pol} {q:Prg} {c:Cod} (hp:gU p=true) (hq:Wu q) (hc:Il p q c):qB p c:=by
 have hm:=tq (jv.2 hc.mn)
 rw[←hc.main,List.length_map,←hc.len] at hm
 have hbod:∀i,i<q.funcs.length->Wq p c (c.funcs.getD i aC):=fun i hi=>TJ hc (hc.fn i hi) (hq.fn _ (getD_in _ hi))
 refine⟨hp,by rw[hc.Dh,List.length_map];exact hq.al,by rw[hc.len];exact hq.fl,hm,?_,fun a ha=>?_,fun b hb=>?_,?_⟩
 ·have:=(hc.fn c.main.toNat (by rw[←hc.len];omega)).FK
  rw[this]
  have h0:=hc.mp
  rw[←hc.main] at h0
  unfold lJ at h0
  rw[h0];rfl
 ·rw[hc.Dh] at ha
  obtain⟨a',ha',rfl⟩:=List.mem_map.1 ha
  have h1:=hq.arr a' ha'
  have h2:=hc.lv a' ha'
  have h3:=zH h2
  exact⟨⟨h1.s1,h1.s2⟩,h2,by show bE p.lev a'.level<_;omega⟩
 ·obtain⟨i,hi,rfl⟩:=List.getElem_of_mem hb
  have:=hbod i (by rw[←hc.len];exact hi)
  rwa [adf,adh hi] at this
 ·have:(c.funcs.map fun b=>(b.blocks.map fun l=>l.length).sum)=q.funcs.map fun f=>(f.blocks.map fun b=>b.code.length).sum:=by
   refine vO aC bD hc.len fun i hi=>?_
   have hb:=hc.fn i hi
   congr 1
   exact vO [] bH hb.len fun k hk=>(hb.blk k hk).len
  rw[this];exact hq.all
end Go.Proofs.YtojhdmfkfkfcbaaGreatDoor
namespace Go.Proofs.YtojhdmfkfkfcbaaGreatDoor
open Go.Sx
set_option linter.unusedVariables false
set_option linter.unusedSimpArgs false
def TM (b:UInt8):Bool:=decide (b=32)||decide (b=9)
def byt (s:ByteArray) (i:Nat):UInt8:=s.data.toList.getD i 0
theorem Ww (s:ByteArray) (i:Nat):(byt s i).toNat=bt s i:=by
 have h:=xC s i
 unfold sb at h
 unfold byt
 omega
theorem aaG (s:ByteArray) (i:Nat):TM (byt s i)=true↔(bt s i=32∨bt s i=9):=by
 rw[←Ww]
 unfold TM
 simp only[Bool.or_eq_true,adn,←UInt8.toNat_inj]
 exact Iff.rfl
theorem yH (s:ByteArray):s.data.toList.length=s.size:=Array.length_toList
abbrev tl (s:ByteArray):List UInt8:=s.data.toList
theorem aaH (s:ByteArray):tl s=[]↔s.size=0:=by
 rw[←List.length_eq_zero_iff,yH]
def okB (l:List UInt8):Bool:=(rl ⟨l.toArray⟩).all okR
theorem ba_l (s:ByteArray):(⟨s.data.toList.toArray⟩:ByteArray)=s:=by cases s;simp
theorem aaI (s:ByteArray):0≤dQ s s.size 0↔okB s.data.toList=false:=by
 unfold okB
 rw[ba_l]
 have:=(Vw s).2
 cases h:(rl s).all okR with
 | true=>rw[h] at this;have:=this.2 rfl;simp;omega
 | false=>rw[h] at this;simp at this;simp;omega
end Go.Proofs.YtojhdmfkfkfcbaaGreatDoor
namespace Go.Proofs.YtojhdmfkfkfcbaaGreatDoor
open Go.Sx
set_option linter.unusedVariables false
set_option linter.unusedSimpArgs false
set_option maxRecDepth 100000
theorem Wx {sz p a b c d:Nat} (ha:a<256) (h:qo ((dec sz p a b c d).1:Int)=true∨uf ((dec sz p a b c d).1:Int)=true):(dec sz p a b c d).2≤2∧a≠10∧a≠32∧a≠9∧a≠35∧(1<(dec sz p a b c d).2->127<b):=by
 have hr:((dec sz p a b c d).1≤969∧48≤(dec sz p a b c d).1):=by
  unfold qo uf at h
  simp only[Bool.or_eq_true,adg,adn] at h
  omega
 revert hr
 unfold dec
 repeat' split
 all_goals dsimp only
 all_goals omega
theorem CW (s:ByteArray):∀(n p:Nat) (c:Int),s.size≤p+n->0≤c->c≤24->gH s n p c=true->(s.size:Int)≤p+2*(24-c)∧∀k,p≤k->k<s.size->bt s k≠10∧bt s k≠32∧bt s k≠9∧bt s k≠35
 | 0,p,c,h,_,_,_=>⟨by omega,fun k h1 h2=>by omega⟩
 | n+1,p,c,h,h0,h1,hw=>by
  rw[gH] at hw
  split at hw
  ·rename_i hp
   split at hw
   ·cases hw
   ·rename_i hg
    split at hw
    ·cases hw
    ·have hd:=bB s p
     obtain⟨i1,i2⟩:=CW s n (p+(Utf8.decode s p).2) (c+1) (by omega) (by omega) (by omega) hw
     have hg:qo ((Utf8.decode s p).1:Int)=true∨uf ((Utf8.decode s p).1:Int)=true:=by
      cases e1:qo ((Utf8.decode s p).1:Int) with
      | true=>exact .inl rfl
      | false=>
       cases e2:uf ((Utf8.decode s p).1:Int) with
       | true=>exact .inr rfl
       | false=>rw[e1,e2] at hg;simp at hg
     rw[bG] at hg
     have:=Wx (EL s p) hg
     rw[←bG] at this
     refine⟨by omega,fun k k1 k2=>?_⟩
     by_cases e:k=p
     ·subst e;exact⟨this.2.1,this.2.2.1,this.2.2.2.1,this.2.2.2.2.1⟩
     ·by_cases e1:p+(Utf8.decode s p).2≤k
      ·exact i2 k e1 k2
      ·have e3:k=p+1:=by omega
       have:=this.2.2.2.2.2 (by omega)
       rw[e3];omega
  ·exact⟨by omega,fun k h1 h2=>by omega⟩
theorem MR (s:ByteArray):∀(n p:Nat) (c:Int),gH s n p c=true->(dl s n p).all okR=true
 | 0,p,c,_=>rfl
 | n+1,p,c,hw=>by
  rw[gH] at hw
  rw[dl]
  split at hw
  ·rename_i hp
   rw[if_pos hp]
   split at hw
   ·cases hw
   ·rename_i hg
    split at hw
    ·cases hw
    ·rw[List.all_cons,MR s n _ _ hw,Bool.and_true]
     unfold okR
     by_cases e:(Utf8.decode s p).1=65533
     ·rw[e,show qo ((65533:Nat):Int)=false from by decide,show uf ((65533:Nat):Int)=false from by decide] at hg
      simp at hg
     ·simp [e]
  ·rename_i hp
   rw[if_neg hp];rfl
structure GW (w:ByteArray):Prop where
 ne:tl w≠[]
 no:∀b∈tl w,b≠10∧TM b=false
 ok:okB (tl w)=true
theorem wJ {s:ByteArray} (h:jq s=true):GW s∧s.size≤48∧sb s 0≠35:=by
 unfold jq at h
 rw[adg] at h
 have h:=h.1
 obtain⟨h1,h2⟩:=CW s s.size 0 0 (by omega) (by omega) (by omega) h
 have hne:s.size≠0:=fun e=>by
  rw[e] at h
  exact absurd h (by rw[gH];decide)
 have hok:dQ s s.size 0<0:=(Vw s).2.2 (MR s s.size 0 0 h)
 refine⟨⟨fun e=>hne ((aaH s).1 e),fun b hb=>?_,?_⟩,by omega,?_⟩
 ·obtain⟨k,hk,rfl⟩:=List.getElem_of_mem hb
  rw[yH] at hk
  have:=h2 k (Nat.zero_le _) hk
  have e:(tl s)[k]'(by rw[yH];exact hk)=byt s k:=by
   unfold byt
   rw[adf,adh (by rw[yH];exact hk)];rfl
  rw[e]
  refine⟨fun q=>this.1 (by rw[←Ww,q];rfl),?_⟩
  cases q:TM (byt s k) with
  | false=>rfl
  | true=>have:=(aaG s k).1 q;omega
 ·have:=aaI s
  cases q:okB (tl s) with
  | true=>rfl
  | false=>have:=this.2 q;omega
 ·have:=h2 0 (Nat.le_refl _) (by omega)
  rw[xC];omega
def joinL:List ByteArray->List UInt8
 | []=>[]
 | [w]=>tl w
 | w::v::r=>tl w++32::joinL (v::r)
def GL (ws:List ByteArray):Prop:=∃w r,ws=w::r∧(∀x∈ws,GW x)∧sb w 0≠35
def FQ (K:List (List UInt8)) (k:List UInt8):Int:=sJ (fun i=>decide (K.getD i []=k)) K.length 0
theorem O5 {α:Type} (f:α->List UInt8) (a0:α) (l:List α) (h0:f a0=[]) (i:Nat):(l.map f).getD i []=f (l.getD i a0):=by
 rw[adf,adf,List.getElem?_map]
 cases l[i]? with
 | none=>exact h0.symm
 | some x=>rfl
theorem O6 (l:List ByteArray) (s:ByteArray):bE l s=FQ (l.map tl) (tl s):=by
 unfold bE FQ
 rw[List.length_map]
 congr 1
 funext i
 rw[O5 tl .empty l rfl i]
theorem FR (l:List Chan) (s:ByteArray):fV l s=FQ (l.map fun c=>tl c.1) (tl s):=by
 unfold fV FQ
 rw[List.length_map]
 congr 1
 funext i
 rw[O5 (fun c:Chan=>tl c.1) aZ l rfl i]
theorem JR {p:Nat->Bool}:∀{n i k:Nat},sJ p n i=(k:Int)↔i≤k∧k<i+n∧p k=true∧∀j,i≤j->j<k->p j=false
 | 0,i,k=>by
  rw[sJ]
  exact⟨fun h=>by omega,fun h=>by omega⟩
 | n+1,i,k=>by
  rw[sJ]
  cases hp:p i with
  | true=>
   rw[if_pos rfl]
   constructor
   ·intro h
    obtain rfl:i=k:=by omega
    exact⟨Nat.le_refl _,by omega,hp,fun j h1 h2=>by omega⟩
   ·rintro ⟨h1,h2,h3,h4⟩
    by_cases e:i=k
    ·rw[e]
    ·have:=h4 i (Nat.le_refl _) (by omega)
     rw[hp] at this;cases this
  | false=>
   rw[if_neg (by simp),JR]
   constructor
   ·rintro ⟨h1,h2,h3,h4⟩
    refine⟨by omega,by omega,h3,fun j j1 j2=>?_⟩
    by_cases e:j=i
    ·rw[e];exact hp
    ·exact h4 j (by omega) j2
   ·rintro ⟨h1,h2,h3,h4⟩
    have:i≠k:=fun e=>by rw[e] at hp;rw[hp] at h3;cases h3
    exact⟨by omega,by omega,h3,fun j j1 j2=>h4 j (by omega) j2⟩
theorem Io {K:List (List UInt8)} {i:Nat} (h:i<K.length):K.getD i []=K[i]:=by
 rw[adf,adh h];rfl
theorem QD {K:List (List UInt8)} {k:List UInt8}:FQ K k<0↔k∉K:=by
 have:0≤FQ K k↔k∈K:=by
  unfold FQ
  rw[Fx]
  constructor
  ·rintro ⟨j,_,h1,h2⟩
   have h1:j<K.length:=by omega
   rw[adn,Io h1] at h2
   rw[←h2];exact List.getElem_mem h1
  ·intro h
   obtain⟨j,hj,rfl⟩:=List.getElem_of_mem h
   exact⟨j,Nat.zero_le _,by omega,decide_eq_true (Io hj)⟩
 rw[←this];omega
theorem Dr {K:List (List UInt8)} (hn:K.Nodup) {i:Nat} (h:i<K.length):FQ K (K.getD i [])=i:=by
 unfold FQ
 refine JR.2 ⟨Nat.zero_le _,by omega,decide_eq_true rfl,fun j _ hj=>decide_eq_false ?_⟩
 rw[Io h,Io (by omega)]
 intro e
 have:=(List.getElem_inj hn).1 e
 omega
theorem MS {K:List (List UInt8)} (h:∀i,i<K.length->FQ K (K.getD i [])=i):K.Nodup:=by
 rw[List.nodup_iff_pairwise_ne,List.pairwise_iff_getElem]
 intro i j hi hj hij e
 have:=h j hj
 unfold FQ at this
 have:=(JR.1 this).2.2.2 i (Nat.zero_le _) hij
 rw[adr,Io hi,Io hj] at this
 exact this e
def wB (l:List UInt8):ByteArray:=⟨l.toArray⟩
def levW (l:List ByteArray):List (List ByteArray):=l.map fun s=>[wB sQ,s]
def ac3 (lev:List ByteArray) (ps:List (Nat×Nat)):List (List ByteArray):=ps.map fun c=>[wB zF,lev.getD c.1 .empty,lev.getD c.2 .empty]
def Y8 (k:List UInt8) (lev:List ByteArray) (l:List Chan):List (List ByteArray):=l.map fun c=>[wB k,c.1,lev.getD c.2.toNat .empty]
def depW (d:Int):List (List ByteArray):=[[wB jF,jD d]]
abbrev NL (l:List ByteArray):Prop:=(l.map tl).Nodup
abbrev NC (l:List Chan):Prop:=(l.map fun c=>tl c.1).Nodup
theorem tH {l:List ByteArray} (h:∀s∈l,jq s=true) {i:Nat} (hi:i<l.length):jq (l.getD i .empty)=true:=h _ (by rw[adf,adh hi];exact List.getElem_mem hi)
theorem Dt {l:List ByteArray} (hn:NL l) {i:Nat} (hi:i<l.length):bE l (l.getD i .empty)=i:=by
 rw[O6,←O5 tl .empty l rfl i]
 exact Dr hn (by rw[List.length_map];exact hi)
def OKC (lev:List ByteArray) (c:Chan):Prop:=jq c.1=true∧0≤c.2∧c.2<lev.length
theorem Yj:∀k:Fin 65,1≤k.1->eT (jD (k.1:Int))=((k.1:Int),true)∧tl (jD (k.1:Int))≠[]∧(∀b∈tl (jD (k.1:Int)),b≠10∧TM b=false)∧okB (tl (jD (k.1:Int)))=true∧(jD (k.1:Int)).size≤2:=by decide +kernel
theorem Wy {d:Int} (h1:1≤d) (h2:d≤64):eT (jD d)=(d,true)∧GW (jD d)∧(jD d).size≤2:=by
 obtain⟨k,rfl⟩:∃k:Nat,d=k:=⟨d.toNat,by omega⟩
 obtain⟨a,b,c,e,f⟩:=Yj ⟨k,by omega⟩ (by show 1≤k;omega)
 exact⟨a,⟨b,c,e⟩,f⟩
structure MU (p:Pol):Prop where
 up:eZ p.up=true
 len:p.up.length=p.lev.length
 nl:NL p.lev
 names:∀s∈p.lev,jq s=true
 ni:NC p.ins
 no:NC p.outs
 il:p.ins.length≤32
 ol:p.outs.length≤32
 iok:∀c∈p.ins,OKC p.lev c
 ook:∀c∈p.outs,OKC p.lev c
 depth:1≤p.depth∧p.depth≤64
theorem TN (lev:List ByteArray) (l:List Chan):qA lev.length l=true↔l.length≤32∧NC l∧∀c∈l,OKC lev c:=by
 unfold qA
 rw[adg,adn,zI]
 have hm:∀{i},i<l.length->l.getD i aZ∈l:=fun {i} hi=>by rw[adf,adh hi];exact List.getElem_mem hi
 have hk:∀i,(l.map fun c=>tl c.1).getD i []=tl (l.getD i aZ).1:=O5 (fun c:Chan=>tl c.1) aZ l rfl
 refine and_congr Iff.rfl ⟨fun h=>?_,fun ⟨h1,h2⟩ i _ hi=>?_⟩
 ·have each:∀i,i<l.length->jq (l.getD i aZ).1=true∧fV l (l.getD i aZ).1=(i:Int)∧0≤(l.getD i aZ).2∧(l.getD i aZ).2<(lev.length:Int):=fun i hi=>by
   have:=h i (Nat.zero_le _) (by omega)
   unfold JE at this
   simp only[adg,adn] at this
   exact⟨this.1.1.1,this.1.1.2,this.1.2,this.2⟩
  refine⟨MS fun i hi=>?_,fun c hc=>?_⟩
  ·rw[List.length_map] at hi
   rw[hk,←FR];exact (each i hi).2.1
  ·obtain⟨i,hi,rfl⟩:=List.getElem_of_mem hc
   have:=each i hi
   rw[adf,adh hi] at this
   exact⟨this.1,this.2.2.1,this.2.2.2⟩
 ·have hi:i<l.length:=by omega
  obtain⟨o1,o2,o3⟩:=h2 _ (hm hi)
  unfold JE
  have:fV l (l.getD i aZ).1=i:=by
   rw[FR,←hk];exact Dr h1 (by rw[List.length_map];exact hi)
  rw[o1,decide_eq_true this,decide_eq_true o2,decide_eq_true o3];rfl
theorem l6 (p:Pol):gU p=true↔MU p:=by
 unfold gU Mi
 have hk:∀i,(p.lev.map tl).getD i []=tl (p.lev.getD i .empty):=O5 tl .empty p.lev rfl
 simp only[adg,adn,TN,zI]
 constructor
 ·rintro ⟨⟨⟨⟨⟨h1,h2⟩,h3⟩,h4⟩,h5⟩,h6,h7⟩
  have each:∀i,i<p.lev.length->jq (p.lev.getD i .empty)=true∧bE p.lev (p.lev.getD i .empty)=(i:Int):=fun i hi=>by
   have:=h5 i (Nat.zero_le _) (by omega)
   unfold JF at this
   simp only[adg,adn] at this
   exact this
  refine⟨h2,h1.symm,MS fun i hi=>?_,fun s hs=>?_,h6.2.1,h7.2.1,h6.1,h7.1,h6.2.2,h7.2.2,h3,h4⟩
  ·rw[List.length_map] at hi
   rw[hk,←O6];exact (each i hi).2
  ·obtain⟨i,hi,rfl⟩:=List.getElem_of_mem hs
   have:=(each i hi).1
   rwa [adf,adh hi] at this
 ·intro h
  refine⟨⟨⟨⟨⟨h.len.symm,h.up⟩,h.depth.1⟩,h.depth.2⟩,fun i _ hi=>?_⟩,⟨h.il,h.ni,h.iok⟩,h.ol,h.no,h.ook⟩
  have hi:i<p.lev.length:=by omega
  unfold JF
  rw[tH h.names hi,decide_eq_true (Dt h.nl hi)];rfl
theorem aaJ:(∀k∈[sQ,zF,sS,nC,jF],(tl (wB k)≠[]∧(∀b∈tl (wB k),b≠10∧TM b=false)∧okB (tl (wB k))=true)∧sb (wB k) 0≠35):=by decide +kernel
theorem Wz {k:List UInt8} (hk:k∈[sQ,zF,sS,nC,jF]) {ws:List ByteArray} (h:∀w∈ws,GW w):GL (wB k::ws):=by
 obtain⟨⟨a,b,c⟩,d⟩:=aaJ k hk
 refine⟨_,_,rfl,fun x hx=>?_,d⟩
 rcases List.mem_cons.1 hx with rfl | hx
 ·exact⟨a,b,c⟩
 ·exact h x hx
theorem parts {p:Pol} (h:MU p):(∀ws∈levW p.lev,GL ws∧(joinL ws).length+1≤55)∧(∀ws∈ac3 p.lev (sV p.up),GL ws∧(joinL ws).length+1≤103)∧(∀ws∈Y8 sS p.lev p.ins,GL ws∧(joinL ws).length+1≤104)∧(∀ws∈Y8 nC p.lev p.outs,GL ws∧(joinL ws).length+1≤105)∧(∀ws∈depW p.depth,GL ws∧(joinL ws).length+1≤9):=by
 have ho:eY p.up=true:=by have:=h.up;unfold eZ at this;rw[adg] at this;exact this.1
 have two:∀(k:List UInt8) (n:Nat),k∈[sQ,zF,sS,nC,jF]->(wB k).size=n->∀a b:ByteArray,jq a=true->jq b=true->GL [wB k,a,b]∧(joinL [wB k,a,b]).length+1≤n+99:=fun k n hk hn a b ha hb=>by
  have qa:=wJ ha
  have qb:=wJ hb
  refine⟨Wz hk fun w hw=>?_,?_⟩
  ·simp at hw
   rcases hw with rfl | rfl
   ·exact qa.1
   ·exact qb.1
  ·simp only[joinL,List.length_append,List.length_cons,yH];omega
 refine⟨fun ws hws=>?_,fun ws hws=>?_,fun ws hws=>?_,fun ws hws=>?_,fun ws hws=>?_⟩
 ·obtain⟨s,hs,rfl⟩:=List.mem_map.1 hws
  have q:=wJ (h.names s hs)
  refine⟨Wz (by decide) fun w hw=>by simp at hw;subst hw;exact q.1,?_⟩
  simp only[joinL,List.length_append,List.length_cons,yH]
  have:(wB sQ).size=5:=by decide
  omega
 ·obtain⟨c,hc,rfl⟩:=List.mem_map.1 hws
  obtain⟨c1,c2⟩:=Bl (VY ho) c hc
  rw[h.len] at c1 c2
  exact two zF 4 (by decide) (by decide) _ _ (tH h.names c1) (tH h.names c2)
 ·obtain⟨c,hc,rfl⟩:=List.mem_map.1 hws
  obtain⟨c1,c2,c3⟩:=h.iok c hc
  exact two sS 5 (by decide) (by decide) _ _ c1 (tH h.names (by omega))
 ·obtain⟨c,hc,rfl⟩:=List.mem_map.1 hws
  obtain⟨c1,c2,c3⟩:=h.ook c hc
  exact two nC 6 (by decide) (by decide) _ _ c1 (tH h.names (by omega))
 ·obtain rfl:=List.mem_singleton.1 hws
  obtain⟨_,q1,q2⟩:=Wy h.depth.1 h.depth.2
  refine⟨Wz (by decide) fun w hw=>by simp at hw;subst hw;exact q1,?_⟩
  simp only[joinL,List.length_append,List.length_cons,yH]
  have:(wB jF).size=5:=by decide
  omega
theorem closes {p:Pol} (h:MU p) {ps:List (Nat×Nat)} (hps:∀q,q∈ps↔q∈sV p.up) (n:Int) (r:Rdr) (h1:r.lev=p.lev) (h2:r.flows=ps) (h3:r.depth=p.depth):OL n r=(⟨p.lev,p.up,r.ins,r.outs,p.depth⟩,0,0):=by
 have ho:eY p.up=true:=by have:=h.up;unfold eZ at this;rw[adg] at this;exact this.1
 have hl:=(qV ho).1
 have hd:=h.depth
 have hlen:=h.len
 unfold OL
 rw[h1,h2,h3,←hlen,JD (VY ho) hps,if_neg (by omega),if_pos h.up]
structure RInv (r:Rdr):Prop where
 nl:NL r.lev
 names:∀s∈r.lev,jq s=true
 ni:NC r.ins
 no:NC r.outs
 iok:∀c∈r.ins,OKC r.lev c
 ook:∀c∈r.outs,OKC r.lev c
 depth:r.depth=0∨(1≤r.depth∧r.depth≤64)
theorem Bw {w:List ByteArray} (h:yC w=true) (hk:(w_ w 0).data.toList≠jF) {j:Nat} (hj:j<w.tail.length):jq (w_ w.tail j)=true:=by
 unfold yC at h
 rw[List.all_eq_true] at h
 have:=h (w_ w.tail j) (by unfold w_;rw[adf,adh hj];exact List.getElem_mem hj)
 unfold okW at this
 rw[decide_eq_false hk] at this
 simpa using this
theorem QE {α:Type} {K:List α} {k:α} (h:K.Nodup) (hk:k∉K):(K++[k]).Nodup:=by
 rw[List.nodup_append]
 exact⟨h,by simp,fun a ha b hb=>by rw[List.mem_singleton.1 hb];exact fun e=>hk (e▸ha)⟩
theorem Ip {lev:List ByteArray} {l:List Chan} {w:List ByteArray} (hN:jq (w_ w 0)=true) (hn:NC l) (hO:∀c∈l,OKC lev c):NC (jO lev l w)∧∀c∈jO lev l w,OKC lev c:=by
 unfold jO
 split
 ·rename_i h0
  unfold kX at h0
  split at h0
  ·omega
  ·rename_i h1
   split at h0
   ·omega
   ·rename_i h2
    refine⟨?_,fun c hc=>?_⟩
    ·rw[NC,List.map_append]
     refine QE hn ?_
     have:fV l (w_ w 0)<0:=by omega
     rwa [FR,QD] at this
    ·rcases List.mem_append.1 hc with hc | hc
     ·exact hO c hc
     ·rw[List.mem_singleton.1 hc]
      have:=zH (l:=lev) (s:=w_ w 1) (by omega)
      exact⟨hN,by show 0≤bE _ _;omega,by show bE _ _<_;omega⟩
 ·exact⟨hn,hO⟩
theorem TP {r:Rdr} (h:RInv r) (w:List ByteArray):RInv (mJ r w).1:=by
 have pick:∀{k d},(w.length=k+1->yC w=true->RInv d.1)->RInv (tX r w k d).1:=fun {k d} hd=>by
  unfold tX;split
  ·rename_i hc;exact hd hc.1 hc.2
  ·exact h
 have O7:∀{k},w.length=k+1->w.tail.length=k:=fun {k} e=>by rw[List.length_tail];omega
 unfold mJ
 split
 ·rename_i e
  refine pick fun hl hw=>?_
  unfold oF
  split
  ·exact h
  ·rename_i h1
   split
   ·exact h
   ·refine⟨?_,fun s hs=>?_,h.ni,h.no,fun c hc=>?_,fun c hc=>?_,h.depth⟩
    ·show NL (r.lev++[_])
     rw[NL,List.map_append]
     refine QE h.nl ?_
     have:bE r.lev (w_ w.tail 0)<0:=by omega
     rwa [O6,QD] at this
    ·rcases List.mem_append.1 hs with hs | hs
     ·exact h.names s hs
     ·rw[List.mem_singleton.1 hs]
      exact Bw hw (by rw[e];decide) (by rw[O7 hl];omega)
    ·have:=h.iok c hc
     exact⟨this.1,this.2.1,by have:=this.2.2;show c.2<((r.lev++[_]).length:Int);simp;omega⟩
    ·have:=h.ook c hc
     exact⟨this.1,this.2.1,by have:=this.2.2;show c.2<((r.lev++[_]).length:Int);simp;omega⟩
 split
 ·refine pick fun _ _=>?_
  unfold xG
  split
  ·exact⟨h.nl,h.names,h.ni,h.no,h.iok,h.ook,h.depth⟩
  ·exact h
 split
 ·rename_i e
  refine pick fun hl hw=>?_
  have:=Ip (lev:=r.lev) (Bw hw (by rw[e];decide) (by rw[O7 hl];omega)) h.ni h.iok
  exact⟨h.nl,h.names,this.1,h.no,this.2,h.ook,h.depth⟩
 split
 ·rename_i e
  refine pick fun hl hw=>?_
  have:=Ip (lev:=r.lev) (Bw hw (by rw[e];decide) (by rw[O7 hl];omega)) h.no h.ook
  exact⟨h.nl,h.names,h.ni,this.1,h.iok,this.2,h.depth⟩
 split
 ·refine pick fun _ _=>?_
  unfold oG
  split
  ·exact h
  ·split
   ·exact h
   ·exact⟨h.nl,h.names,h.ni,h.no,h.iok,h.ook, .inr (by show 1≤(eT _).1∧(eT _).1≤64;omega)⟩
 ·exact h
theorem yI:∀(ls:List ByteArray) (at_:Int) (r r':Rdr) (n:Nat),RInv r->Kept r n->n+ls.length≤100000->qz ls at_ r=.inr r'->RInv r'∧∃k,Kept r' k
 | [],at_,r,r',n,h,hk,_,e=>by cases e;exact⟨h,n,hk⟩
 | l::ls,at_,r,r',n,h,hk,hn,e=>by
  rw[List.length_cons] at hn
  rw[qz] at e
  split at e
  ·split at e
   ·cases e
   ·exact yI ls _ _ r' (n+1) (TP h _) (Ic hk (by omega) _) (by omega) e
  ·exact yI ls _ _ r' n h hk (by omega) e
theorem CX {s:ByteArray} (h:(dw s).2.2=0):MU (dw s).1:=by
 revert h
 unfold dw
 split
 ·intro h;cases h
 ·rename_i hz
  split
  ·intro h;cases h
  ·split
   ·rename_i at_ e he
    intro h
    exfalso
    have:∀(ls:List ByteArray) (a:Int) (r:Rdr) (q:Int×Int),qz ls a r=.inl q->q.2≠0:=fun ls=>by
     induction ls with
     | nil=>intro a r q hq;cases hq
     | cons l ls ih=>
      intro a r q hq
      rw[qz] at hq
      split at hq
      ·split at hq
       ·rename_i hne
        cases hq;exact hne
       ·exact ih _ _ _ hq
      ·exact ih _ _ _ hq
    exact this _ _ _ _ he h
   ·rename_i r he
    have i0:RInv SV:=⟨List.nodup_nil,fun _ h=>(by cases h),List.nodup_nil,List.nodup_nil,fun _ h=>(by cases h),fun _ h=>(by cases h), .inl rfl⟩
    obtain⟨hi,k,hk⟩:=yI (dD s) 0 SV r 0 i0 Y4 (by have:=(Mg s).2;omega) he
    unfold OL
    split
    ·intro h;cases h
    ·rename_i hc
     split
     ·rename_i hr
      intro _
      exact⟨hr,qX _ _,hi.nl,hi.names,hi.ni,hi.no,hk.ins,hk.outs,hi.iok,hi.ook,by have:=hi.depth;show 1≤r.depth∧r.depth≤64;omega⟩
     ·intro h;cases h
theorem qc {α:Type} {n:Nat} {f:Nat->α} {a:α}:a∈rng n f↔∃i,i<n∧f i=a:=by
 unfold rng;simp [List.mem_map,List.mem_range]
theorem jR {α:Type} {n:Nat} {f:Nat->α} (d:α) {i:Nat} (h:i<n):(rng n f).getD i d=f i:=by
 rw[adf,Ye h];rfl
theorem z8 {α β:Type} (n:Nat) (f:Nat->α) (g:α->β):(rng n f).map g=rng n fun i=>g (f i):=by
 unfold rng;rw[List.map_map];rfl
theorem Bz {n:Nat} {f:Nat->ByteArray} (h:∀i j,i<n->j<n->f i=f j->i=j):(rng n f).Nodup:=by
 rw[List.nodup_iff_pairwise_ne,List.pairwise_iff_getElem]
 intro i j hi hj hij e
 rw[bV] at hi hj
 have e1:=jR (f:=f) .empty hi
 have e2:=jR (f:=f) .empty hj
 rw[adf,adh (by rw[bV];exact hi)] at e1
 rw[adf,adh (by rw[bV];exact hj)] at e2
 have e1:(rng n f)[i]'(by rw[bV];exact hi)=f i:=e1
 have e2:(rng n f)[j]'(by rw[bV];exact hj)=f j:=e2
 have:=h i j hi hj (by rw[←e1,←e2];exact e)
 omega
theorem QF {α:Type} (m:Nat) (f:Nat->α):∀n:Nat,rng (m+n) f=rng m f++rng n fun i=>f (m+i)
 | 0=>by simp [rng]
 | n+1=>by rw[←Nat.add_assoc,jQ,jQ,QF m f n,List.append_assoc]
theorem QG {α:Type} (d:α) {l:List α} {n:Nat} {f:Nat->α} (h:l.length=n) (h2:∀i,i<n->l.getD i d=f i):l=rng n f:=by
 refine List.ext_getElem (by rw[h,bV]) fun i hi hj=>?_
 have h3:=h2 i (by omega)
 rw[adf,adh hi] at h3
 have h4:=jR (f:=f) d (show i<n by omega)
 rw[adf,adh hj] at h4
 exact h3.trans h4.symm
theorem JU {c:UInt8} {n:Nat} (hn:n≤1000000):(rng n fun k=>nmN c (k:Int)).Nodup:=Bz fun i j hi hj e=>by
 have:=(O3 (n:=(i:Int)) (m:=(j:Int)) (by unfold ak;omega) (by unfold ak;omega) e).2
 omega
theorem FT {n:Nat} {f:Nat->ByteArray} (hn:(rng n f).Nodup) {k:Int} (h:0≤k∧k<(n:Int)) (a:Int):fM (rng n f) (f k.toNat) a=.ok k:=by
 have:=Wm hn (i:=k.toNat) (by rw[bV];omega) a
 rw[jR _ (by omega)] at this
 rw[this]
 congr 1;omega
theorem nE {c:UInt8} {n:Nat} (hn:n≤1000000) {k:Int} (h:0≤k∧k<(n:Int)) (a:Int):fM (rng n fun k=>nmN c (k:Int)) (nmN c k) a=.ok k:=by
 have this:fM (rng n fun k=>nmN c (k:Int)) (nmN c ((k.toNat:Nat):Int)) a=.ok k:=FT (JU (c:=c) hn) h a
 rwa [Int.toNat_of_nonneg h.1] at this
theorem WA (l:List Op9):(MP l).length≤l.length:=List.length_filterMap_le _ _
theorem Iq:∀bs:List (List Op9),(mO bs).length≤(bs.map fun l=>l.length).sum
 | []=>by simp [mO]
 | l::bs=>by
  have:=Iq bs
  have h:=WA l
  unfold mO at *
  rw[List.flatMap_cons,List.length_append,List.map_cons,List.sum_cons];omega
theorem Du {p:Pol} {c:Cod} (h:qB p c) {b:Bod} (hb:b∈c.funcs):b.vars≤5000:=by
 have h1:=h.bod b hb
 have h2:=Iq b.blocks
 have h3:=vI (g:=fun b:Bod=>(b.blocks.map fun l=>l.length).sum) hb
 have h4:=h.all
 have h5:=h1.vars
 have h6:=h1.p0
 omega
theorem JV {p:Pol} {c:Cod} {b:Bod} (h:Wq p c b) {l:List Op9} (hl:l∈b.blocks) {x:Op9} (hx:x∈l) (hd:tC x.kind=true):0≤x.dst∧x.dst<b.vars:=by
 have hm:x.dst∈mO b.blocks:=List.mem_flatMap.2 ⟨l,hl,List.mem_filterMap.2 ⟨x,hx,by rw[if_pos hd]⟩⟩
 obtain⟨i,hi,e⟩:=List.getElem_of_mem hm
 have h1:=h.seq i hi
 rw[adf,adh hi] at h1
 have h1:(mO b.blocks)[i]=b.params+i:=h1
 have h2:=h.vars
 have h3:=h.p0
 rw[←e,h1];omega
theorem MV {p:Pol} {c:Cod} {b:Bod} (h:Wq p c b) {l:List Op9} (hl:l∈b.blocks) {x:Op9} (hx:x∈l):∃n d r a,ROp p c b x n d r a:=by
 obtain⟨j,hj,e⟩:=List.getElem_of_mem hx
 have:=(h.ops l hl).op j hj
 rw[adf,adh hj] at this
 have this:∃n d r a,ROp p c b l[j] n d r a:=this
 rwa [e] at this
theorem Dv {p:Pol} {c:Cod} {b:Bod} {x:Op9} {n:Int} {d r a:Bool} (h:ROp p c b x n d r a):tC x.kind=d:=by unfold tC;rw[h.sh]
theorem FU {p:Pol} {c:Cod} (hc:qB p c) {b:Bod} (hb:b∈c.funcs) {x:Op9} {n:Int} {d r a:Bool} (h:ROp p c b x n d r a) (q:Prg):(iR p c.main x).2=true∧cZ (iR p c.main x).1 r=true∧cZ (if x.kind=12 then nmN 98 x.alt else .empty) a=true∧mK ⟨p,q,rng c.arrays.length fun k=>nmN 97 (k:Int),rng c.funcs.length fun i=>fnN c.main i⟩ ⟨rng b.blocks.length fun k=>nmN 98 (k:Int),rng b.vars.toNat fun k=>nmN 118 (k:Int)⟩ (aY p c.main x)=.ok (x.ref,x.alt):=by
 have hal:=hc.al
 have hfl:=hc.fl
 have hB:=hc.bod b hb
 have hbl:=hB.len
 have hP:=(l6 p).1 hc.pol
 have hr1:=h.r1
 have ha1:=h.a1
 have hr0:=h.r0
 have ha0:=h.a0
 have on:∀{s:ByteArray},okN s=true->cZ s true=true:=fun h=>by unfold cZ;rw[h];rfl
 have off:cZ .empty false=true:=by decide
 have aaK:∀k:Int,0≤k∧k<(c.arrays.length:Int)->okN (nmN 97 k)=true:=fun k hk=>xI (by decide) (by decide) hk.1 (by omega)
 have aaL:∀k:Int,0≤k∧k<(b.blocks.length:Int)->okN (nmN 98 k)=true:=fun k hk=>xI (by decide) (by decide) hk.1 (by omega)
 unfold aY mK
 simp only
 unfold iR
 unfold FL at hr1
 rcases vM h.sh with⟨hk,rfl,rfl,rfl,rfl⟩ | ⟨h3,hs⟩
 ·simp [hk,off,hr0 rfl,ha0 rfl]
 rcases oM hs with⟨hk,rfl,rfl,rfl,rfl⟩ | ⟨hk,rfl,rfl,rfl,rfl⟩ | ⟨hk,rfl,rfl,rfl,rfl⟩ | ⟨hk,rfl,rfl,rfl,rfl⟩ | ⟨hk,rfl,rfl,rfl,rfl⟩ | ⟨hk,rfl,rfl,rfl,rfl⟩ | ⟨hk,rfl,rfl,rfl,rfl⟩ | ⟨hk,rfl,rfl,rfl,rfl⟩ | ⟨hk,rfl,rfl,rfl,rfl⟩ | ⟨hk,rfl,rfl,rfl,rfl⟩ | ⟨hk,rfl,rfl,rfl,rfl⟩ | ⟨hk,rfl,rfl,rfl,rfl⟩
 ·simp [hk,off,hr0 rfl,ha0 rfl]
 ·simp [hk,off,hr0 rfl,ha0 rfl]
 ·have hm:=hr1 rfl
  simp only[hk,true_or,or_true,if_true] at hm
  have e:=nE (c:=97) (n:=c.arrays.length) (by omega) hm x.at_
  simp [hk,off,ha0 rfl,on (aaK _ hm),e,bd]
 ·have hm:=hr1 rfl
  simp only[hk,true_or,or_true,if_true] at hm
  have e:=nE (c:=97) (n:=c.arrays.length) (by omega) hm x.at_
  simp [hk,off,ha0 rfl,on (aaK _ hm),e,bd]
 ·have hm:=hr1 rfl
  simp only[hk,true_or,or_true,if_true] at hm
  have e:=nE (c:=97) (n:=c.arrays.length) (by omega) hm x.at_
  simp [hk,off,ha0 rfl,on (aaK _ hm),e,bd]
 ·have hm:0≤x.ref∧x.ref<(c.funcs.length:Int):=by
   have:=hr1 rfl
   simpa [hk] using this
  have hnd:(rng c.funcs.length fun i=>fnN c.main i).Nodup:=Bz fun i j hi hj e=>by
   unfold fnN at e
   split at e<;>split at e
   ·omega
   ·exact absurd e (Dq (by decide))
   ·exact absurd e.symm (Dq (by decide))
   ·have:=(O3 (n:=(i:Int)) (m:=(j:Int)) (by unfold ak;omega) (by unfold ak;omega) e).2
    omega
  have e:=FT hnd hm x.at_
  have ef:fnN c.main x.ref.toNat=if x.ref=c.main then dK else nmN 102 x.ref:=by
   unfold fnN;rw[Int.toNat_of_nonneg hm.1]
  rw[ef] at e
  have hok:okN (if x.ref=c.main then dK else nmN 102 x.ref)=true:=by
   split
   ·decide
   ·exact xI (by decide) (by decide) hm.1 (by omega)
  simp [hk,off,ha0 rfl,on hok,e,bd]
 ·have hm:0≤x.ref∧x.ref<(p.ins.length:Int):=by
   have:=hr1 rfl
   simpa [hk] using this
  have hin:lY x.ref p.ins.length=true:=by unfold lY;simp [hm.1,hm.2]
  have hi:x.ref.toNat<p.ins.length:=by omega
  have hn:=(hP.iok _ (getD_in aZ hi)).1
  have e:fV p.ins (p.ins.getD x.ref.toNat aZ).1=x.ref:=by
   rw[FR,←O5 (fun c:Chan=>tl c.1) aZ p.ins rfl x.ref.toNat,Dr hP.ni (by rw[List.length_map];exact hi)];omega
  obtain⟨v,hv⟩:∃v,(p.ins.getD x.ref.toNat aZ).1=v:=⟨_,rfl⟩
  have hok:okN (p.ins.getD x.ref.toNat aZ).1=true:=hn
  rw[show (p.ins.getD x.ref.toNat aZ).1=v from hv] at e hok
  have hok:=on hok
  simp only[hk,hin,if_true,ha0 rfl,hv]
  simp [off,hok,eu,e,hm.1,bd]
 ·have hm:0≤x.ref∧x.ref<(p.outs.length:Int):=by
   have:=hr1 rfl
   simpa [hk] using this
  have hin:lY x.ref p.outs.length=true:=by unfold lY;simp [hm.1,hm.2]
  have hi:x.ref.toNat<p.outs.length:=by omega
  have hn:=(hP.ook _ (getD_in aZ hi)).1
  have e:fV p.outs (p.outs.getD x.ref.toNat aZ).1=x.ref:=by
   rw[FR,←O5 (fun c:Chan=>tl c.1) aZ p.outs rfl x.ref.toNat,Dr hP.no (by rw[List.length_map];exact hi)];omega
  obtain⟨v,hv⟩:∃v,(p.outs.getD x.ref.toNat aZ).1=v:=⟨_,rfl⟩
  have hok:okN (p.outs.getD x.ref.toNat aZ).1=true:=hn
  rw[show (p.outs.getD x.ref.toNat aZ).1=v from hv] at e hok
  have hok:=on hok
  simp only[hk,hin,if_true,ha0 rfl,hv]
  simp [off,hok,eu,e,hm.1,bd]
 ·have hm:0≤x.ref∧x.ref<(p.lev.length:Int):=by
   have:=hr1 rfl
   simpa [hk] using this
  have hin:lY x.ref p.lev.length=true:=by unfold lY;simp [hm.1,hm.2]
  have hi:x.ref.toNat<p.lev.length:=by omega
  obtain⟨v,hv⟩:∃v,p.lev.getD x.ref.toNat .empty=v:=⟨_,rfl⟩
  have hok:okN (p.lev.getD x.ref.toNat .empty)=true:=tH hP.names hi
  have e:bE p.lev (p.lev.getD x.ref.toNat .empty)=x.ref:=by rw[Dt hP.nl hi];omega
  rw[show p.lev.getD x.ref.toNat .empty=v from hv] at e hok
  have hok:=on hok
  simp only[hk,hin,if_true,ha0 rfl,hv]
  simp [off,hok,eu,e,hm.1,bd]
 ·have hm:0≤x.ref∧x.ref<(b.blocks.length:Int):=by
   have:=hr1 rfl
   simpa [hk] using this
  have e:=nE (c:=98) (n:=b.blocks.length) (by omega) hm x.at_
  simp [hk,off,ha0 rfl,on (aaL _ hm),e,bd]
 ·have hm:0≤x.ref∧x.ref<(b.blocks.length:Int):=by
   have:=hr1 rfl
   simpa [hk] using this
  have hm2:=ha1 rfl
  have e:=nE (c:=98) (n:=b.blocks.length) (by omega) hm x.at_
  have e2:=nE (c:=98) (n:=b.blocks.length) (by omega) hm2 x.at_
  simp [hk,on (aaL _ hm),on (aaL _ hm2),e,e2,bd]
 ·simp [hk,off,hr0 rfl,ha0 rfl]
abbrev Yk (b:Bod):Scp:=⟨rng b.blocks.length fun k=>nmN 98 (k:Int),rng b.vars.toNat fun k=>nmN 118 (k:Int)⟩
abbrev Y9 (p:Pol) (c:Cod) (q:Prg):Res:=⟨p,q,rng c.arrays.length fun k=>nmN 97 (k:Int),rng c.funcs.length fun i=>fnN c.main i⟩
theorem Aa {p:Pol} {c:Cod} (hc:qB p c) {b:Bod} (hb:b∈c.funcs) {l:List Op9} (hl:l∈b.blocks) {x:Op9} (hx:x∈l):bS (aY p c.main x)=true:=by
 obtain⟨n,d,r,a,h⟩:=MV (hc.bod b hb) hl hx
 have hB:=hc.bod b hb
 have hv:=Du hc hb
 have hbl:=hB.len
 obtain⟨_,f1,f2,_⟩:=FU hc hb h ⟨[],[]⟩
 have hD:=Dv h
 have fd:cZ (if 0≤x.dst then nmN 118 x.dst else .empty) d=true:=by
  cases d with
  | true=>
   have:=JV hB hl hx hD
   rw[if_pos this.1]
   unfold cZ
   rw[xI (by decide) (by decide) this.1 (by omega)];rfl
  | false=>
   rw[h.d0 rfl,if_neg (by omega)];decide
 have ha:dZ (x.args.map (nmN 118))=true:=List.all_eq_true.2 fun s hs=>by
  obtain⟨k,hk,rfl⟩:=List.mem_map.1 hs
  have:=h.args k hk
  exact xI (by decide) (by decide) this.1 (by omega)
 have hf:dZ (x.frm.map (nmN 98))=true:=List.all_eq_true.2 fun s hs=>by
  obtain⟨k,hk,rfl⟩:=List.mem_map.1 hs
  have:=h.frm k hk
  exact xI (by decide) (by decide) this.1 (by omega)
 have o1:(decide (x.op≠0) != decide (x.kind=2))=false:=by
  by_cases hk:x.kind=2
  ·have:=h.op1 hk
   rw[decide_eq_true hk,decide_eq_true (show x.op≠0 by omega)];rfl
  ·rw[decide_eq_false hk,decide_eq_false (show ¬x.op≠0 from fun g=>g (h.op0 hk))];rfl
 have o2:(decide (x.op≠0)&&decide ((opName x.op).data.toList=[]))=false:=by
  by_cases hk:x.kind=2
  ·rw[decide_eq_false (show ¬(opName x.op).data.toList=[] from FM.2 (h.op1 hk)),Bool.and_false]
  ·rw[decide_eq_false (show ¬x.op≠0 from fun g=>g (h.op0 hk))];rfl
 have o3:(decide (x.num≠0)&&decide (x.kind≠1))=false:=by
  by_cases hk:x.kind=1
  ·rw[decide_eq_false (show ¬x.kind≠1 from fun g=>g hk),Bool.and_false]
  ·rw[decide_eq_false (show ¬x.num≠0 from fun g=>g (h.num hk))];rfl
 unfold bS
 rw[if_neg (by
  show ¬((decide (x.op≠0) != decide (x.kind=2))||(decide (x.op≠0)&&decide ((opName x.op).data.toList=[]))||(decide (x.num≠0)&&decide (x.kind≠1))||!dZ (x.args.map (nmN 118))||!dZ (x.frm.map (nmN 98)))=true
  rw[o1,o2,o3,ha,hf];simp)]
 rcases vM h.sh with⟨hk,rfl,rfl,rfl,rfl⟩ | ⟨h3,hs⟩
 ·rw[if_pos (show (aY p c.main x).kind=3 from hk)]
  obtain⟨g1,g2,g3⟩:=h.phi hk
  have e1:okN (aY p c.main x).dst=true:=JJ fd
  have e2:(aY p c.main x).ref=.empty:=zN f1
  have e3:(aY p c.main x).alt=.empty:=zN f2
  rw[e1,e2,e3]
  simp only[aY,List.length_map]
  rw[decide_eq_true g1,decide_eq_true g2,decide_eq_true g3];rfl
 ·rw[if_neg (show ¬(aY p c.main x).kind=3 from h3),show jm (aY p c.main x).kind=some (n,d,r,a) from hs]
  obtain⟨g1,g2⟩:=h.aaE h3
  show (!(decide (0<(x.frm.map (nmN 98)).length)||(decide (0≤n)&&decide (((x.args.map (nmN 118)).length:Int)≠n))||decide (6<(x.args.map (nmN 118)).length))&&(cZ _ d&&cZ _ r&&cZ _ a))=true
  rw[show cZ (aY p c.main x).dst d=true from fd,show cZ (aY p c.main x).ref r=true from f1,show cZ (aY p c.main x).alt a=true from f2,List.length_map,List.length_map,g1]
  have hlen:(0≤n->(x.args.length:Int)=n)∧x.args.length≤6:=by
   by_cases h7:x.kind=7
   ·rw[if_pos h7] at g2
    rcases oM hs with g | g | g | g | g | g | g | g | g | g | g | g
    case inr.inr.inr.inr.inr.inl=>
     have hm:=h.r1 g.2.2.2.1
     unfold FL at hm
     simp only[h7] at hm
     have hm:0≤x.ref∧x.ref<(c.funcs.length:Int):=hm
     have:=(hc.bod _ (getD_in (l:=c.funcs) (i:=x.ref.toNat) aC (by omega))).p0
     exact⟨fun hn=>by omega,by omega⟩
    all_goals (exfalso;omega)
   ·rw[if_neg h7] at g2
    rcases oM hs with g | g | g | g | g | g | g | g | g | g | g | g<;>exact⟨fun _=>g2,by omega⟩
  have h1:(decide (0≤n)&&decide ((x.args.length:Int)≠n))=false:=by
   by_cases hn:0≤n
   ·rw[decide_eq_false (show ¬(x.args.length:Int)≠n from fun g=>g (hlen.1 hn)),Bool.and_false]
   ·rw[decide_eq_false hn];rfl
  rw[h1,decide_eq_false (show ¬6<x.args.length by have:=hlen.2;omega)];rfl
theorem MW {p:Pol} {c:Cod} (hc:qB p c) {b:Bod} (hb:b∈c.funcs) {l:List Op9} (hl:l∈b.blocks) {x:Op9} (hx:x∈l) {q:Prg} (hq:∀k:Int,0≤k∧k<(c.funcs.length:Int)->(lJ q k:Int)=(c.funcs.getD k.toNat aC).params):wU (Y9 p c q) (Yk b) (aY p c.main x)=.ok x:=by
 obtain⟨n,d,r,a,h⟩:=MV (hc.bod b hb) hl hx
 have hB:=hc.bod b hb
 have hv:=Du hc hb
 have hbl:=hB.len
 obtain⟨_,f1,f2,f3⟩:=FU hc hb h q
 have hD:=Dv h
 have hvars:0≤b.vars:=by have:=hB.vars;have:=hB.p0;omega
 have ev:((b.vars.toNat:Nat):Int)=b.vars:=Int.toNat_of_nonneg hvars
 unfold wU
 rw[f3]
 show bd (dN _ _ (x.args.map (nmN 118)) []) _=_
 rw[Bu (nmN 118) x.args [] fun k hk=>nE (by omega) (by rw[ev];exact h.args k hk) _]
 show bd (dN _ _ (x.frm.map (nmN 98)) []) _=_
 rw[Bu (nmN 98) x.frm [] fun k hk=>nE (by omega) (h.frm k hk) _]
 show (if x.kind=7∧(x.args.map (nmN 118)).length≠lJ q x.ref then _ else _)=_
 rw[if_neg]
 ·have hdst:(if (if 0≤x.dst then nmN 118 x.dst else ByteArray.empty).data.toList=[] then -1 else cO (Yk b).vals (if 0≤x.dst then nmN 118 x.dst else ByteArray.empty))=x.dst:=by
   cases d with
   | true=>
    have hd:=JV hB hl hx hD
    have hd2:0≤x.dst∧x.dst<((b.vars.toNat:Nat):Int):=by rw[ev];exact hd
    rw[if_pos hd.1,if_neg (by rw[zV];simp)]
    have:=(zS (nE (c:=118) (n:=b.vars.toNat) (by omega) hd2 0)).2
    exact this.symm
   | false=>
    have hd:=h.d0 rfl
    simp only[hd]
    rw[if_neg (show ¬(0:Int)≤-1 by omega),if_pos (show ByteArray.empty.data.toList=[] from rfl)]
  show Except.ok (⟨x.kind,x.op,(if (if 0≤x.dst then nmN 118 x.dst else ByteArray.empty).data.toList=[] then -1 else cO (Yk b).vals (if 0≤x.dst then nmN 118 x.dst else ByteArray.empty)),x.ref,x.alt,[]++x.args,[]++x.frm,x.num,x.at_⟩:Op9)=_
  rw[hdst];rfl
 ·rintro ⟨h7,hne⟩
  have h3:x.kind≠3:=by omega
  have g2:=(h.aaE h3).2
  rw[if_pos h7] at g2
  have hr:r=true:=by
   have hs:=h.sh
   rw[h7] at hs
   have:shp 7=some (-1,true,true,false):=rfl
   rw[this] at hs;cases hs;rfl
  have hm:=h.r1 hr
  unfold FL at hm
  simp only[h7] at hm
  have hm:0≤x.ref∧x.ref<(c.funcs.length:Int):=hm
  have:=hq x.ref hm
  rw[List.length_map] at hne
  omega
theorem CY {p:Pol} {m:Int}:∀{l:List Op9},(∀x∈l,(tC x.kind=true->0≤x.dst)∧(tC x.kind=false->x.dst=-1))->(wV (l.map (aY p m))).map (·.1)=(MP l).map (nmN 118)
 | [],_=>rfl
 | x::l,h=>by
  have ih:=CY (p:=p) (m:=m) (l:=l) fun y hy=>h y (.tail _ hy)
  obtain⟨h1,h2⟩:=h x (.head _)
  unfold wV MP at *
  rw[List.map_cons,List.filterMap_cons,List.filterMap_cons]
  cases hd:tC x.kind with
  | true=>
   have e:(aY p m x).dst=nmN 118 x.dst:=if_pos (h1 hd)
   rw[e,if_neg (by rw[zV];simp),if_pos rfl]
   simp only[List.map_cons]
   rw[ih]
  | false=>
   have e:(aY p m x).dst=.empty:=if_neg (by rw[h2 hd];omega)
   rw[e,if_pos (show ByteArray.empty.data.toList=[] from rfl),if_neg (by simp)]
   exact ih
theorem CZ {p:Pol} {m:Int}:∀{ls:List (List Op9)} {bs:List Blk},bs.length=ls.length->(∀k,k<ls.length->(bs.getD k bH).code=(ls.getD k []).map (aY p m))->(∀l∈ls,∀x∈l,(tC x.kind=true->0≤x.dst)∧(tC x.kind=false->x.dst=-1))->(lu bs).map (·.1)=(mO ls).map (nmN 118)
 | [],[],_,_,_=>rfl
 | [],_::_,h,_,_=>by cases h
 | _::_,[],h,_,_=>by cases h
 | l::ls,b::bs,h,h2,h3=>by
  have ih:=CZ (p:=p) (m:=m) (ls:=ls) (bs:=bs) (by simpa using h) (fun k hk=>h2 (k+1) (by simpa using hk)) fun l hl=>h3 l (.tail _ hl)
  have h0:b.code=l.map (aY p m):=h2 0 (Nat.zero_lt_succ _)
  unfold lu mO at *
  rw[List.flatMap_cons,List.flatMap_cons,List.map_append,List.map_append,h0,CY (h3 l (.head _)),ih]
theorem JW {p:Pol} {c:Cod} (hc:qB p c) {b:Bod} (hb:b∈c.funcs) (i:Nat):vL (o9 p c.main i b)=rng b.vars.toNat fun k=>nmN 118 (k:Int):=by
 have hB:=hc.bod b hb
 have hp:=hB.p0
 have hv:=hB.vars
 have e1:(lu (o9 p c.main i b).blocks).map (·.1)=(mO b.blocks).map (nmN 118):=by
  refine CZ (p:=p) (m:=c.main) (by show (rng _ _).length=_;rw[bV]) (fun k hk=>?_) fun l hl x hx=>?_
  ·show ((rng b.blocks.length fun k=>GH p c.main k (b.blocks.getD k [])).getD k bH).code=_
   rw[jR _ hk];rfl
  ·obtain⟨n,d,r,a,h⟩:=MV hB hl hx
   have hD:=Dv h
   exact⟨fun g=>(JV hB hl hx g).1,fun g=>h.d0 (by rw[←hD];exact g)⟩
 have e2:mO b.blocks=rng (mO b.blocks).length fun i=>b.params+(i:Int):=QG 0 rfl hB.seq
 show Br b.params++(lu (o9 p c.main i b).blocks).map (·.1)=_
 rw[e1,e2,z8,show b.vars.toNat=b.params.toNat+(mO b.blocks).length by omega,QF]
 unfold Br
 congr 2
 funext k
 rw[show b.params+(k:Int)=((b.params.toNat+k:Nat):Int) by omega]
theorem TQ {p:Pol} {c:Cod} (hc:qB p c) {i:Nat} (hi:i<c.funcs.length):QB (o9 p c.main i (c.funcs.getD i aC)):=by
 have hb:c.funcs.getD i aC∈c.funcs:=getD_in _ hi
 have hB:=hc.bod _ hb
 have hp:=hB.p0
 have hfl:=hc.fl
 have hbl:=hB.len
 refine⟨?_,?_,by show (rng _ _).length≤6;rw[bV];omega,by show 1≤(rng _ _).length;rw[bV];omega,by show (rng _ _).length≤64;rw[bV];omega,fun bk hbk=>?_⟩
 ·show okN (fnN c.main i)=true
  unfold fnN
  split
  ·decide
  ·exact xI (by decide) (by decide) (by omega) (by omega)
 ·refine List.all_eq_true.2 fun s hs=>?_
  obtain⟨k,hk,rfl⟩:=qc.1 hs
  exact xI (by decide) (by decide) (by omega) (by omega)
 ·obtain⟨k,hk,rfl⟩:=qc.1 hbk
  refine⟨xI (by decide) (by decide) (by omega) (by omega),fun x hx=>?_⟩
  obtain⟨y,hy,rfl⟩:=List.mem_map.1 hx
  exact Aa hc hb (getD_in _ hk) hy
theorem FV {p:Pol} {c:Cod} (hc:qB p c):Wu (jG p c):=by
 have hP:=(l6 p).1 hc.pol
 have hal:=hc.al
 refine⟨by show (rng _ _).length≤16;rw[bV];exact hc.al,by show (rng _ _).length≤64;rw[bV];exact hc.fl,fun a ha=>?_,fun f hf=>?_,?_⟩
 ·obtain⟨i,hi,rfl⟩:=qc.1 ha
  obtain⟨h1,h2,h3⟩:=hc.arr _ (getD_in bK hi)
  exact⟨xI (by decide) (by decide) (by omega) (by omega),tH hP.names (by omega),h1.1,h1.2⟩
 ·obtain⟨i,hi,rfl⟩:=qc.1 hf
  exact TQ hc hi
 ·have:(c.funcs.map fun b=>(b.blocks.map fun l=>l.length).sum)=(jG p c).funcs.map fun f=>(f.blocks.map fun b=>b.code.length).sum:=by
   refine vO aC bD (by show _=(rng _ _).length;rw[bV]) fun i hi=>?_
   have hi:i<c.funcs.length:=by
    have hi:i<(rng _ _).length:=hi
    rwa [bV] at hi
   show _=(((rng c.funcs.length fun i=>o9 p c.main i (c.funcs.getD i aC)).getD i bD).blocks.map fun b=>b.code.length).sum
   rw[jR _ hi]
   congr 1
   refine vO [] bH (by show _=(rng _ _).length;rw[bV]) fun k hk=>?_
   have hk:k<(c.funcs.getD i aC).blocks.length:=by
    have hk:k<(rng _ _).length:=hk
    rwa [bV] at hk
   show _=((rng _ fun k=>GH p c.main k ((c.funcs.getD i aC).blocks.getD k [])).getD k bH).code.length
   rw[jR _ hk]
   show _=(List.map _ _).length
   rw[List.length_map]
  unfold iF
  rw[←this];exact hc.all
theorem oN {p:Pol} {c:Cod} (hc:qB p c):kZ p c=some (jG p c):=by
 unfold kZ
 rw[if_pos]
 rw[adg]
 constructor
 ·refine List.all_eq_true.2 fun a ha=>?_
  obtain⟨h1,h2,h3⟩:=hc.arr a ha
  unfold vJ
  rw[decide_eq_true h2,decide_eq_true h3];rfl
 ·refine List.all_eq_true.2 fun b hb=>?_
  have hB:=hc.bod b hb
  unfold rC
  rw[decide_eq_true hB.p0.1,decide_eq_true hB.p0.2]
  show (List.all _ _)=true
  refine List.all_eq_true.2 fun l hl=>?_
  unfold MF
  refine List.all_eq_true.2 fun x hx=>?_
  obtain⟨n,d,r,a,h⟩:=MV hB hl hx
  exact (FU hc hb h ⟨[],[]⟩).1
theorem O8 {p:Pol} {c:Cod} (hc:qB p c):Il p (jG p c) c:=by
 have hP:=(l6 p).1 hc.pol
 have hal:=hc.al
 have hfl:=hc.fl
 have eA:Qy (jG p c)=rng c.arrays.length fun k=>nmN 97 (k:Int):=z8 _ _ _
 have eF:JQ (jG p c)=rng c.funcs.length fun i=>fnN c.main i:=z8 _ _ _
 have hF:(rng c.funcs.length fun i=>fnN c.main i).Nodup:=Bz fun i j hi hj e=>by
  unfold fnN at e
  split at e<;>split at e
  ·omega
  ·exact absurd e (Dq (by decide))
  ·exact absurd e.symm (Dq (by decide))
  ·have:=(O3 (n:=(i:Int)) (m:=(j:Int)) (by unfold ak;omega) (by unfold ak;omega) e).2
   omega
 have em:fnN c.main c.main.toNat=dK:=by unfold fnN;rw[if_pos (by have:=hc.m;omega)]
 have hmain:cO (rng c.funcs.length fun i=>fnN c.main i) dK=c.main:=by
  have:=(zS (FT hF hc.m 0)).2
  rw[em] at this
  exact this.symm
 have hpar:∀k:Int,0≤k∧k<(c.funcs.length:Int)->(lJ (jG p c) k:Int)=(c.funcs.getD k.toNat aC).params:=fun k hk=>by
  unfold lJ
  show ((((rng c.funcs.length fun i=>o9 p c.main i (c.funcs.getD i aC)).getD k.toNat bD).params.length:Nat):Int)=_
  rw[jR _ (by omega)]
  show ((Br _).length:Int)=_
  unfold Br
  rw[bV]
  have:=(hc.bod _ (getD_in (l:=c.funcs) (i:=k.toNat) aC (by omega))).p0
  omega
 refine⟨by rw[eA];exact JU (by omega),fun a ha=>?_,?_,by rw[eF];exact hF,?_,?_,by rw[eF];exact hmain.symm,by show _=(rng _ _).length;rw[bV],fun i hi=>?_⟩
 ·obtain⟨i,hi,rfl⟩:=qc.1 ha
  obtain⟨h1,h2,h3⟩:=hc.arr _ (getD_in bK hi)
  show 0≤bE p.lev (p.lev.getD _ .empty)
  rw[Dt hP.nl (by omega)];omega
 ·show _=(rng _ _).map _
  rw[z8]
  refine QG bK rfl fun i hi=>?_
  obtain⟨h1,h2,h3⟩:=hc.arr _ (getD_in bK hi)
  show c.arrays.getD i bK=((c.arrays.getD i bK).1,bE p.lev (p.lev.getD (c.arrays.getD i bK).2.toNat .empty))
  rw[Dt hP.nl (by omega),Int.toNat_of_nonneg h2]
 ·rw[eF]
  exact qc.2 ⟨c.main.toNat,by have:=hc.m;omega,em⟩
 ·rw[eF,hmain]
  have:=hpar c.main hc.m
  rw[hc.mp] at this
  omega
 ·have hi:i<c.funcs.length:=by
   have hi:i<(rng _ _).length:=hi
   rwa [bV] at hi
  have hb:c.funcs.getD i aC∈c.funcs:=getD_in _ hi
  have hB:=hc.bod _ hb
  have hv:=Du hc hb
  have hbl:=hB.len
  have hvars:0≤(c.funcs.getD i aC).vars:=by have:=hB.vars;have:=hB.p0;omega
  show MO _ ((rng c.funcs.length fun i=>o9 p c.main i (c.funcs.getD i aC)).getD i bD) _
  rw[jR _ hi]
  have eV:=JW hc hb i
  have eB:FJ (o9 p c.main i (c.funcs.getD i aC))=rng (c.funcs.getD i aC).blocks.length fun k=>nmN 98 (k:Int):=z8 _ _ _
  refine⟨by rw[eB];exact JU (by omega),by rw[eV];exact JU (by omega),?_,by rw[eV,bV];omega,by show _=(rng _ _).length;rw[bV],fun k hk=>?_⟩
  ·show _=((Br _).length:Int)
   unfold Br
   rw[bV]
   have:=hB.p0
   omega
  ·have hk:k<(c.funcs.getD i aC).blocks.length:=by
    have hk:k<(rng _ _).length:=hk
    rwa [bV] at hk
   have hl:(c.funcs.getD i aC).blocks.getD k []∈(c.funcs.getD i aC).blocks:=getD_in _ hk
   have hO:=hB.ops _ hl
   show Wo _ _ ((rng _ fun k=>GH p c.main k ((c.funcs.getD i aC).blocks.getD k [])).getD k bH) _
   rw[jR _ hk]
   have eS:p9 (o9 p c.main i (c.funcs.getD i aC))=Yk (c.funcs.getD i aC):=by
    show Scp.mk _ _=Scp.mk _ _
    rw[eV,eB]
   have eR:CU p (jG p c)=Y9 p c (jG p c):=by
    show Res.mk _ _ _ _=Res.mk _ _ _ _
    rw[eA,eF]
   rw[eS,eR]
   obtain⟨L,hL⟩:∃L,(c.funcs.getD i aC).blocks.getD k []=L:=⟨_,rfl⟩
   rw[hL] at hl hO ⊢
   have hget:∀j,j<L.length->(L.map (aY p c.main)).getD j (aN 0)=aY p c.main (L.getD j op0):=fun j hj=>by
    rw[adf,adf,List.getElem?_map,adh hj];rfl
   have hlen:(L.map (aY p c.main)).length=L.length:=List.length_map _
   have hL1:=hO.len
   refine⟨?_,hlen.symm,fun j hj=>vN.2 ?_⟩
   ·unfold vF
    show (decide (1≤(L.map (aY p c.main)).length)&&lI ((L.map (aY p c.main)).getD ((L.map (aY p c.main)).length-1) (aN 0)).kind)=true
    rw[hlen,decide_eq_true hL1,hget _ (by omega)]
    show lI (L.getD (L.length-1) op0).kind=true
    exact (hO.e _ (by omega)).2 (by omega)
   ·have hj:j<L.length:=by
     have hj:j<(L.map (aY p c.main)).length:=hj
     rwa [hlen] at hj
    refine⟨?_,?_,?_⟩
    ·show lI ((L.map (aY p c.main)).getD j (aN 0)).kind=true->j+1=(L.map (aY p c.main)).length
     rw[hlen,hget j hj]
     exact (hO.e j hj).1
    ·show ((L.map (aY p c.main)).getD j (aN 0)).kind=3->j≠0->((L.map (aY p c.main)).getD (j-1) (aN 0)).kind=3
     rw[hget j hj,hget (j-1) (by omega)]
     exact hO.ph j hj
    ·show wU _ _ ((L.map (aY p c.main)).getD j (aN 0))=_
     rw[hget j hj]
     exact MW hc hb hl (getD_in _ hj) hpar
section
variable {s:ByteArray} {l:List Tok}
def Sm (k:Nat) (x:Ins):Prop:=x.args.length≤k∧x.frm.length≤k
theorem Sm.up {k j:Nat} {x:Ins} (h:Sm k x) (hk:k≤j):Sm j x:=⟨Nat.le_trans h.1 hk,Nat.le_trans h.2 hk⟩
abbrev cap (l:List Tok):Nat:=l.length+10
end
def erI (x:Ins):Ins:={x with at_:=0}
def erB (b:Blk):Blk:=⟨b.name,b.code.map erI,0⟩
structure Sim (s:ByteArray) (l:List Tok) (s':ByteArray) (l':List Tok) (d:Nat):Prop where
 len:l'.length=d+l.length
 kind:∀n k,isV l' (d+n) k=isV l n k
 text:∀n,txV s' l' (d+n)=txV s l n
def Yl {α:Type} (d:Nat) (E:α->α->Prop) (r r':Except (Int×Int) (Nat×α)):Prop:=
 match r with
 | .ok (n,x)=>∃x',r'=.ok (d+n,x')∧E x x'
 | .error (a,e)=>∃a',r'=.error (a',e)
def O9 {α:Type} (d c0:Nat) (E:α->α->Prop) (r r':Except (Int×Int) (Nat×(Nat×α))):Prop:=
 match r with
 | .ok (n,(c,x))=>if c0+c≤4096 then ∃x',r'=.ok (d+n,(c0+c,x'))∧E x x' else ∃a',r'=.error (a',3)
 | .error (a,e)=>c0=0->∃a',r'=.error (a',e)
section
variable {s:ByteArray} {l:List Tok} {s':ByteArray} {l':List Tok} {d c0:Nat} (S:Sim s l s' l' d) {α β:Type} {E:α->α->Prop} {E2:β->β->Prop}
omit S in
theorem Yl.bind {r r':Except (Int×Int) (Nat×α)} {k k':Nat->α->Except (Int×Int) (Nat×β)} (h1:Yl d E r r') (h2:∀n x x',E x x'->Yl d E2 (k n x) (k' (d+n) x')):Yl d E2 (bnd r k) (bnd r' k'):=by
 rcases r with⟨a,e⟩ | ⟨n,x⟩
 ·obtain⟨a',rfl⟩:=h1
  exact⟨a',rfl⟩
 ·obtain⟨x',rfl,hx⟩:=h1
  exact h2 n x x' hx
omit S in
theorem O9.bind {r r':Except (Int×Int) (Nat×(Nat×α))} {k k':Nat->Nat×α->Except (Int×Int) (Nat×(Nat×β))} (h1:O9 d c0 E r r') (hb:∀n c x,r=.ok (n,(c,x))->c≤4096) (hm:∀n c x n2 c2 y,r=.ok (n,(c,x))->k n (c,x)=.ok (n2,(c2,y))->c≤c2)
  (h2:∀n c x x',r=.ok (n,(c,x))->c0+c≤4096->E x x'->O9 d c0 E2 (k n (c,x)) (k' (d+n) (c0+c,x'))):O9 d c0 E2 (bnd r k) (bnd r' k'):=by
 rcases r with⟨a,e⟩ | ⟨n,c,x⟩
 ·exact fun h0=>by obtain⟨a',rfl⟩:=h1 h0;exact⟨a',rfl⟩
 ·unfold O9 at h1
  dsimp only at h1
  split at h1
  ·rename_i hc
   obtain⟨x',rfl,hx⟩:=h1
   exact h2 n c x x' rfl hc hx
  ·rename_i hc
   obtain⟨a',rfl⟩:=h1
   show O9 d c0 E2 (k n (c,x)) (.error (a',3))
   rcases hk:k n (c,x) with⟨a2,e2⟩ | ⟨n2,c2,y⟩
   ·exact fun h0=>by have:=hb n c x rfl;omega
   ·have:=hm n c x n2 c2 y rfl hk
    unfold O9
    dsimp only
    rw[if_neg (by omega)]
    exact⟨a',rfl⟩
include S
def EI (x x':Ins):Prop:=∃b,x'={x with at_:=b}
omit S in
theorem EI.er {x x':Ins} (h:EI x x'):erI x=erI x':=by obtain⟨b,rfl⟩:=h;rfl
omit S in
theorem EI.kind {x x':Ins} (h:EI x x') (k:Int):EI {x with kind:=k} {x' with kind:=k}:=by obtain⟨b,rfl⟩:=h;exact⟨b,rfl⟩
omit S in
theorem EI.refs {x x':Ins} (h:EI x x') {a a':ByteArray} (e:a=a'):EI {x with ref:=a} {x' with ref:=a'}:=by obtain⟨b,rfl⟩:=h;exact⟨b,by rw[e]⟩
omit S in
theorem EI.lu {x x':Ins} (h:EI x x') {a a':ByteArray} (e:a=a'):EI {x with dst:=a} {x' with dst:=a'}:=by obtain⟨b,rfl⟩:=h;exact⟨b,by rw[e]⟩
omit S in
theorem Pb {n c:Nat}:gD s l n c=bnd (nmV s l n) fun n1 nm=>bnd (dO s l n1 58) fun n2 _=>bnd (codeF s l 4098 n2 c []) fun n3 r=>.ok (n3,(r.1,⟨nm,r.2,atV s l n⟩)):=rfl
def EB (b b':Blk):Prop:=erB b=erB b'
def EBs (bs bs':List Blk):Prop:=bs.map erB=bs'.map erB
omit S in
theorem EBs.add {bs bs':List Blk} {b b':Blk} (h:EBs bs bs') (hb:EB b b'):EBs (bs++[b]) (bs'++[b']):=by
 unfold EBs at h ⊢
 rw[List.map_append,List.map_append,h,List.map_cons,List.map_cons,show erB b=erB b' from hb]
omit S in
theorem TR {n c:Nat}:lF s l n c=bnd (nmV s l (n+1)) fun n1 nm=>bnd (iL s l n1) fun n2 ps=>bnd (dO s l n2 123) fun n3 _=>bnd (gD s l n3 c) fun n4 r=>
 bnd (gJ s l 65 n4 r.1 [r.2]) fun n5 q=>bnd (dO s l n5 125) fun n6 _=>.ok (n6,(q.1,⟨nm,ps,q.2,atV s l n⟩)):=rfl
end
section
variable {s:ByteArray} {l:List Tok} {s':ByteArray} {l':List Tok} {d c0:Nat} (S:Sim s l s' l' d) (A0:List Arr) (F0:List Fun)
end
theorem bt_end {s x:ByteArray} (h10:bt x 0=10):bt (s++x) s.size=10:=by have:=mE s x 0;rw[Nat.add_zero] at this;rw[this,h10]
section
variable {s x:ByteArray} (hx:0<x.size) (h10:bt x 0=10)
include hx h10
theorem Ym:∀(n:Nat) (rm:Bool) (p:Nat),s.size≤p+n->p≤s.size->(skV s rm p<s.size->skV (s++x) rm p=skV s rm p)∧(skV s rm p=s.size->skV (s++x) rm p=skV (s++x) false (s.size+1))
 | n,rm,p,h,hp=>by
  have hz:s.size<(s++x).size:=by rw[bF];omega
  by_cases hl:p<s.size
  ·match n with
   | 0=>omega
   | n+1=>
    have eb:bt (s++x) p=bt s p:=eO hl
    rw[oh hl,oh (by omega:p<(s++x).size),eb]
    cases hs:tV (nextR (bt s p) rm) (bt s p) with
    | true=>exact⟨fun _=>rfl,fun e=>by simp at e;omega⟩
    | false=>
     simp only[adu,if_false]
     exact Ym n _ _ (by omega) (by omega)
  ·have e:p=s.size:=by omega
   subst e
   rw[pV (Nat.le_refl _)]
   refine⟨fun h=>by omega,fun _=>?_⟩
   have eb:=bt_end (s:=s) h10
   rw[oh hz,eb]
   rfl
end
theorem Dw (s:ByteArray) (p q:Nat):(s.extract p q).data.toList=(s.data.toList.drop p).take (q-p):=by
 rw[ByteArray.data_extract,Array.toList_extract,List.extract_eq_take_drop]
theorem WB {a b:ByteArray} (h:a.data.toList=b.data.toList):a=b:=by rw[ba_eq a,ba_eq b,h]
theorem TS (c y:ByteArray):∀(n:Nat) (rm:Bool) (q:Nat),y.size≤q+n->skV (c++y) rm (c.size+q)=c.size+skV y rm q
 | n,rm,q,h=>by
  by_cases hl:q<y.size
  ·match n with
   | 0=>omega
   | n+1=>
    rw[oh hl,oh (by rw[bF];omega),mE]
    split
    ·rfl
    ·exact TS c y n _ (q+1) (by omega)
  ·rw[pV (by rw[bF];omega),pV (by omega)]
theorem yJ (c y:ByteArray):∀(n q:Nat),y.size≤q+n->oV (c++y) (c.size+q)=c.size+oV y q
 | n,q,h=>by
  by_cases hl:q<y.size
  ·match n with
   | 0=>omega
   | n+1=>
    have h1:=(bB y q).1
    rw[jB hl,jB (by rw[bF];omega),jE,jE,sw]
    split
    ·rw[Nat.add_assoc];exact yJ c y n _ (by omega)
    ·rfl
  ·rw[jM (by rw[bF];omega),jM (by omega)]
theorem FX (c y:ByteArray) (q:Nat):bC (c++y) (c.size+q)=c.size+bC y q:=by
 have ed:pU (c++y) (c.size+q+1)=pU y (q+1):=by
  unfold pU
  rw[Nat.add_assoc,mE,bF]
  congr 1
  rw[Bool.eq_iff_iff,adn,adn];omega
 unfold bC
 rw[mE,ed,Nat.add_assoc,yJ c y y.size (q+1) (by omega),yJ c y y.size q (by omega)]
 split<;>rfl
def shT (k:Nat) (t:Tok):Tok:=⟨t.k,t.f+k,t.t+k⟩
def shE (k:Nat) (r:Tok×Int×Int):Tok×Int×Int:=if r.2.2=0 then (shT k r.1,r.2) else (r.1,r.2.1+k,r.2.2)
theorem Ab {s:ByteArray} {p:Nat} (h:p<s.size):(kR s (p:Int)).2≠0->(p:Int)+(kR s (p:Int)).2=((p+(Utf8.decode s p).2:Nat):Int):=fun hne=>by
 have:=EM h
 unfold Qe at this
 rwa [if_neg hne] at this
theorem Pf {s y:ByteArray} {p q:Nat} (hp:p<s.size) (hq:q<y.size) (hd:Utf8.decode s p=Utf8.decode y q):(kR s (p:Int)).2=0↔(kR y (q:Int)).2=0:=by
 rw[qO hp,qO hq,hd]
theorem l7 (s:ByteArray):∀(n m p:Nat),s.size≤p+n->s.size≤p+m->dQ s n (p:Int)=dQ s m (p:Int)
 | 0,m,p,h,_=>by rw[og (by omega),og (by omega)]
 | n+1,0,p,_,h=>by rw[og (by omega),og (by omega)]
 | n+1,m+1,p,h1,h2=>by
  rw[dQ,dQ]
  split
  ·rename_i hl
   have hl:p<s.size:=by omega
   split
   ·rfl
   ·rename_i h0
    rw[Ab hl h0]
    have:=(bB s p).1
    exact l7 s n m _ (by omega) (by omega)
  ·rfl
theorem QH (s:ByteArray):∀(n p:Nat),dQ s n (p:Int)=-1∨(p:Int)≤dQ s n (p:Int)∧dQ s n (p:Int)<s.size
 | 0,p=>.inl rfl
 | n+1,p=>by
  rw[dQ]
  split
  ·rename_i hl
   have hl:p<s.size:=by omega
   split
   ·exact .inr ⟨Int.le_refl _,by omega⟩
   ·rename_i h0
    rw[Ab hl h0]
    rcases QH s n (p+(Utf8.decode s p).2) with h | h
    ·exact .inl h
    ·exact .inr ⟨by omega,h.2⟩
  ·exact .inl rfl
theorem FY (c y:ByteArray):∀(n q:Nat),y.size≤q+n->dQ (c++y) (c++y).size ((c.size+q:Nat):Int)=if dQ y y.size (q:Int)=-1 then -1 else dQ y y.size (q:Int)+c.size
 | n,q,h=>by
  by_cases hl:q<y.size
  ·match n with
   | 0=>omega
   | n+1=>
    have hl2:c.size+q<(c++y).size:=by rw[bF];omega
    have ed:=sw c y q
    have hc:=Pf hl2 hl ed
    have h1:=(bB y q).1
    have e1:=l7 y y.size (y.size-1+1) q (by omega) (by omega)
    have e2:=l7 (c++y) (c++y).size ((c++y).size-1+1) (c.size+q) (by omega) (by omega)
    rw[dQ,if_pos (by omega)] at e1 e2
    rw[e1,e2]
    by_cases h0:(kR y (q:Int)).2=0
    ·rw[if_pos h0,if_pos (hc.2 h0),if_neg (by omega)];omega
    ·have h0':(kR (c++y) ((c.size+q:Nat):Int)).2≠0:=fun e=>h0 (hc.1 e)
     rw[if_neg h0,if_neg h0',Ab hl h0,Ab hl2 h0',ed,Nat.add_assoc]
     rw[l7 y (y.size-1) y.size _ (by omega) (by omega),l7 (c++y) ((c++y).size-1) (c++y).size _ (by rw[bF];omega) (by rw[bF];omega)]
     exact FY c y n _ (by omega)
  ·rw[og (by rw[bF];omega),og (by omega),if_pos rfl]
def Run (s:ByteArray):Nat->List Tok->Int×Int->Prop
 | a,[],r=>(gP s a).2=r∧r.2≠0
 | a,t::l,r=>gP s a=(t,0,0)∧(a:Int)≤t.f∧t.f<t.t∧t.t≤s.size∧Run s t.t.toNat l r
theorem WC {s:ByteArray} {a:Nat} (h:(gP s a).2.2=0):(gP s a).2.1=0:=by
 unfold gP at h ⊢
 split
 ·rename_i e;rw[if_pos e] at h;exact absurd h (show ¬((4:Int)=0) by decide)
 ·rename_i e
  rw[if_neg e] at h
  split
  ·rfl
  ·rename_i e2
   rw[if_neg e2] at h
   split
   ·rename_i e3;rw[if_pos e3] at h;exact absurd h (show ¬((6:Int)=0) by decide)
   ·rfl
theorem Ph (s:ByteArray):∀(n a:Nat),s.size≤a+n->a≤s.size->∃l r,Run s a l r
 | n,a,h,ha=>by
  rcases qP ha with⟨h0,h1,h2,h3⟩ | h4 | h6
  ·match n with
   | 0=>omega
   | n+1=>
    obtain⟨l,r,hr⟩:=Ph s n (gP s a).1.t.toNat (by omega) (by omega)
    exact⟨(gP s a).1::l,r,Prod.ext rfl (Prod.ext (WC h0) h0),h1,h2,h3,hr⟩
  ·exact⟨[],_,rfl,by omega⟩
  ·exact⟨[],_,rfl,by omega⟩
theorem MX {s:ByteArray}:∀{l:List Tok} {a n:Nat} {r:Int×Int} (out:List Tok),Run s a l r->s.size+1≤a+n->a≤s.size->oq s n a out=if r.2=4 then (out++l,0,0) else ([],r.1,r.2)
 | [],a,n,r,out,h,hn,ha=>by
  obtain⟨n,rfl⟩:∃m,n=m+1:=⟨n-1,by omega⟩
  obtain⟨h1,h2⟩:=h
  subst h1
  rw[oq,List.append_nil]
  by_cases e:(gP s a).2.2=4
  ·rw[if_pos e,if_pos e]
  ·rw[if_neg e,if_neg e,if_neg h2]
 | t::l,a,n,r,out,h,hn,ha=>by
  obtain⟨n,rfl⟩:∃m,n=m+1:=⟨n-1,by omega⟩
  obtain⟨h1,h2,h3,h4,h5⟩:=h
  rw[oq,h1,if_neg (show ¬((0:Int)=4) by decide),if_pos rfl]
  show oq s n t.t.toNat (out++[t])=_
  rw[MX (out++[t]) h5 (by omega) (by omega),List.append_assoc]
  rfl
theorem run_end {s:ByteArray}:∀{l:List Tok} {a:Nat} {r:Int×Int},Run s a l r->a≤s.size->r.2=4∨r.2=6
 | [],a,r,⟨h1,h2⟩,ha=>by
  rcases qP ha with⟨h0,_⟩ | h4 | h6
  ·rw[h1] at h0;exact absurd h0 h2
  ·rw[h1] at h4;exact .inl h4
  ·rw[h1] at h6;exact .inr h6
 | t::l,a,r,⟨h1,h2,h3,h4,h5⟩,ha=>run_end h5 (by omega)
theorem MZ {s:ByteArray} (h:s.size≤65536) (hb:0≤dQ s s.size 0):eU s=([],dQ s s.size 0,5):=by
 rw[eU,if_neg (by omega),if_pos hb]
theorem M0 {s:ByteArray} (h:s.size≤65536) (hb:dQ s s.size 0=-1) {l:List Tok} {r:Int×Int} (hr:Run s 0 l r):eU s=if r.2=4 then (l,0,0) else ([],r.1,r.2):=by
 rw[eU,if_neg (by omega),if_neg (by omega),MX [] hr (by omega) (by omega),List.nil_append]
theorem Ir (s:ByteArray):dQ s s.size 0=-1∨0≤dQ s s.size 0∧dQ s s.size 0<s.size:=QH s s.size 0
theorem Iu (a b c:ByteArray):a++b++c=a++(b++c):=WB (by rw[fJ,fJ,fJ,fJ,List.append_assoc])
theorem aaM {sz sz' p a b c d b' c' d':Nat} (hz:sz≤sz') (hb:p+1<sz->b'=b) (hc:p+2<sz->c'=c) (hd:p+3<sz->d'=d) (h:(dec sz p a b c d).1≠65533):dec sz' p a b' c' d'=dec sz p a b c d:=by
 unfold dec at h ⊢
 by_cases h1:a<128
 ·rw[if_pos h1,if_pos h1]
 rw[if_neg h1] at h ⊢
 rw[if_neg h1]
 by_cases c2:a/32=6∧p+1<sz∧b/64=2
 ·have eb:=hb c2.2.1
  subst eb
  rw[if_pos c2,if_pos ⟨c2.1,by omega,c2.2.2⟩]
 rw[if_neg c2] at h ⊢
 by_cases c3:a/16=14∧p+1<sz∧b/64=2∧p+2<sz∧c/64=2
 ·have eb:=hb c3.2.1
  have ec:=hc c3.2.2.2.1
  subst eb ec
  rw[if_pos c3,if_neg (show ¬(a/32=6∧_) by omega),if_pos ⟨c3.1,by omega,c3.2.2.1,by omega,c3.2.2.2.2⟩]
 rw[if_neg c3] at h ⊢
 by_cases c4:a/8=30∧p+1<sz∧b/64=2∧p+2<sz∧c/64=2∧p+3<sz∧d/64=2
 ·have eb:=hb c4.2.1
  have ec:=hc c4.2.2.2.1
  have ed:=hd c4.2.2.2.2.2.1
  subst eb ec ed
  rw[if_pos c4,if_neg (show ¬(a/32=6∧_) by omega),if_neg (show ¬(a/16=14∧_) by omega),if_pos ⟨c4.1,by omega,c4.2.2.1,by omega,c4.2.2.2.2.1,by omega,c4.2.2.2.2.2.2⟩]
 rw[if_neg c4] at h
 exact absurd rfl h
theorem WE {sz sz' p a b c d b' c' d':Nat} (hz:sz≤sz') (hb:p+1<sz->b'=b) (hc:p+2<sz->c'=c) (hd:p+3<sz->d'=d) (h:(dec sz' p a b' c' d').1≠65533) (hr:p+(dec sz' p a b' c' d').2≤sz):dec sz p a b c d=dec sz' p a b' c' d':=by
 unfold dec at h hr ⊢
 by_cases h1:a<128
 ·rw[if_pos h1,if_pos h1]
 rw[if_neg h1] at h hr ⊢
 rw[if_neg h1]
 by_cases c2:a/32=6∧p+1<sz'∧b'/64=2
 ·rw[if_pos c2] at h hr ⊢
  by_cases v:128≤a%32*64+b'%64
  ·rw[if_pos v] at hr
   dsimp only at hr
   have eb:=hb (by omega)
   subst eb
   rw[if_pos ⟨c2.1,by omega,c2.2.2⟩]
  ·rw[if_neg v] at h;exact absurd rfl h
 rw[if_neg c2] at h hr ⊢
 rw[if_neg (show ¬(a/32=6∧p+1<sz∧b/64=2) from fun ⟨x,y,z⟩=>c2 ⟨x,by omega,by rw[hb y];exact z⟩)]
 by_cases c3:a/16=14∧p+1<sz'∧b'/64=2∧p+2<sz'∧c'/64=2
 ·rw[if_pos c3] at h hr ⊢
  split at hr
  ·rename_i v
   dsimp only at hr
   have eb:=hb (by omega)
   have ec:=hc (by omega)
   subst eb ec
   rw[if_pos ⟨c3.1,by omega,c3.2.2.1,by omega,c3.2.2.2.2⟩]
  ·rename_i v
   rw[if_neg v] at h;exact absurd rfl h
 rw[if_neg c3] at h hr ⊢
 rw[if_neg (show ¬(a/16=14∧p+1<sz∧b/64=2∧p+2<sz∧c/64=2) from fun ⟨x,y,z,u,v⟩=>c3 ⟨x,by omega,by rw[hb y];exact z,by omega,by rw[hc u];exact v⟩)]
 by_cases c4:a/8=30∧p+1<sz'∧b'/64=2∧p+2<sz'∧c'/64=2∧p+3<sz'∧d'/64=2
 ·rw[if_pos c4] at h hr ⊢
  split at hr
  ·rename_i v
   dsimp only at hr
   have eb:=hb (by omega)
   have ec:=hc (by omega)
   have ed:=hd (by omega)
   subst eb ec ed
   rw[if_pos ⟨c4.1,by omega,c4.2.2.1,by omega,c4.2.2.2.2.1,by omega,c4.2.2.2.2.2.2⟩]
  ·rename_i v
   rw[if_neg v] at h;exact absurd rfl h
 rw[if_neg c4] at h
 exact absurd rfl h
theorem Za {w x:ByteArray} {p:Nat} (hp:p<w.size) (h:(Utf8.decode w p).1≠65533):Utf8.decode (w++x) p=Utf8.decode w p:=by
 rw[bG] at h ⊢
 rw[bG,eO hp]
 exact aaM (by rw[bF];omega) (fun h=>eO h) (fun h=>eO h) (fun h=>eO h) h
theorem Pj {w x:ByteArray} {p:Nat} (hp:p<w.size) (h:(Utf8.decode (w++x) p).1≠65533) (hr:p+(Utf8.decode (w++x) p).2≤w.size):Utf8.decode w p=Utf8.decode (w++x) p:=by
 rw[bG,eO hp] at h hr
 rw[bG,bG (w++x),eO hp]
 exact WE (by rw[bF];omega) (fun h=>eO h) (fun h=>eO h) (fun h=>eO h) h hr
theorem WG {s:ByteArray} {p:Nat} (h:jE s p=true):(Utf8.decode s p).1≠65533:=fun e=>by
 unfold jE at h
 rw[e] at h
 exact absurd h (by decide)
theorem F5 {w x:ByteArray}:∀(n p:Nat),w.size≤p+n->p≤w.size->oV (w++x) p=w.size->oV w p=w.size
 | n,p,h,hp,e=>by
  by_cases hl:p<w.size
  ·match n with
   | 0=>omega
   | n+1=>
    have hl2:p<(w++x).size:=by rw[bF];omega
    have h1:=(bB (w++x) p).1
    rw[jB hl2] at e
    split at e
    ·rename_i hb
     have hle:=pQ hl2
     have hr:=(wz (w++x) (w++x).size (p+(Utf8.decode (w++x) p).2) (by omega) hle).1
     have ed:=Pj hl (WG hb) (by omega)
     have hb':jE w p=true:=by
      unfold jE at hb ⊢
      rw[ed];exact hb
     rw[jB hl,if_pos hb',ed]
     exact F5 n _ (by omega) (by omega) e
    ·omega
  ·rw[jM (by omega)];omega
def Pc (k:Int) (w:ByteArray):Prop:=0<w.size∧tV false (bt w 0)=true∧bt w 0≠35∧(tT (bt w 0)=true∧w.size=1∧k=4∨tT (bt w 0)=false∧bC w 0=w.size∧kindOf w=k∧k≠0)
theorem aaN (s:ByteArray) {p q:Nat} (h1:p≤q) (h2:q≤s.size):s=s.extract 0 p++(s.extract p q++s.extract q s.size):=by
 refine WB ?_
 rw[iW] at h2
 rw[fJ,fJ,Dw,Dw,Dw,iW,List.drop_zero,Nat.sub_zero,List.take_of_length_le (l:=s.data.toList.drop q) (by rw[List.length_drop];omega)]
 have e1:s.data.toList.drop q=(s.data.toList.drop p).drop (q-p):=by rw[List.drop_drop,Nat.add_sub_cancel' h1]
 rw[e1,List.take_append_drop,List.take_append_drop]
theorem F6 (s:ByteArray) {p q:Nat} (h2:q≤s.size):(s.extract p q).size=q-p:=by
 rw[ByteArray.size_extract,Nat.min_eq_left h2]
theorem Zb (s:ByteArray) {p q:Nat} (h:p<q):bt (s.extract p q) 0=bt s p:=by
 have e1:=xC (s.extract p q) 0
 have e2:=xC s p
 unfold sb at e1 e2
 rw[Dw,adf,List.getElem?_take,if_pos (by omega),List.getElem?_drop,Nat.add_zero,←adf,e2] at e1
 omega
theorem F7 {s:ByteArray} {p:Nat} (h:pU s p=true):p<s.size∧48≤bt s p∧bt s p≤57:=by
 unfold pU at h
 simpa using h
theorem TU {s:ByteArray} {p:Nat} (h:pU s p=true):jE s p=true∧(Utf8.decode s p).2=1:=by
 obtain⟨h1,h2,h3⟩:=F7 h
 unfold jE
 rw[decode_ascii (by omega)]
 refine⟨?_,rfl⟩
 unfold qo uf
 rw[decide_eq_true (show (48:Int)≤(bt s p:Int) by omega),decide_eq_true (show (bt s p:Int)≤57 by omega)]
 simp
theorem JX {w x:ByteArray} (hw:0<w.size) (h:bC (w++x) 0=w.size):bC w 0=w.size:=by
 unfold bC at h ⊢
 rw[eO hw] at h
 by_cases c:bt w 0=45∧pU (w++x) (0+1)=true
 ·rw[if_pos c] at h
  obtain⟨d1,d2,d3⟩:=F7 c.2
  have h1:1<w.size:=by
   rcases Nat.lt_or_ge 1 w.size with h1 | h1
   ·exact h1
   ·obtain⟨p1,p2⟩:=TU c.2
    rw[jB d1,if_pos p1,p2] at h
    have:=(wz (w++x) (w++x).size (0+1+1) (by omega) (by omega)).1
    omega
  have hd:pU w (0+1)=true:=by
   have:=c.2
   unfold pU at this ⊢
   rw[eO h1] at this
   rw[decide_eq_true (show 0+1<w.size from h1)]
   simpa using (by simpa using this:_∧_∧_).2
  rw[if_pos ⟨c.1,hd⟩]
  exact F5 w.size _ (by omega) (by omega) h
 ·rw[if_neg c] at h
  rw[if_neg (fun hc=>c ⟨hc.1,?_⟩)]
  ·exact F5 w.size _ (by omega) (by omega) h
  ·obtain⟨d1,d2,d3⟩:=F7 hc.2
   unfold pU
   rw[eO d1,decide_eq_true (show 0+1<(w++x).size by rw[bF];omega),decide_eq_true d2,decide_eq_true d3]
   rfl
theorem ac4 {s:ByteArray} {a:Nat} {t:Tok} (ha:a≤s.size) (h:gP s a=(t,0,0)):Pc t.k (s.extract t.f.toNat t.t.toNat):=by
 obtain⟨h1,h2,h3⟩:=ER s s.size false a (by omega) ha
 obtain⟨p,hp⟩:∃p,skV s false a=p:=⟨_,rfl⟩
 rw[hp] at h1 h2 h3
 by_cases e:p=s.size
 ·rw[AP hp e] at h
  exact absurd (congrArg (fun r=>r.2.2) h) (show ¬((4:Int)=0) by decide)
 obtain⟨g1,g2⟩:=h3 (by omega)
 cases hs:tT (bt s p) with
 | true=>
  rw[AQ hp e hs] at h
  obtain rfl:=(Prod.mk.inj h).1
  show Pc 4 (s.extract ((p:Int)).toNat ((p:Int)+1).toNat)
  rw[show ((p:Int)).toNat=p by omega,show ((p:Int)+1).toNat=p+1 by omega]
  have z2:=F6 s (p:=p) (q:=p+1) (by omega)
  rw[←Zb s (show p<p+1 by omega)] at g1 g2 hs
  exact⟨by omega,g1,g2, .inl ⟨hs,by omega,rfl⟩⟩
 | false=>
  by_cases hk:kindOf (s.extract p (bC s p))=0
  ·rw[EU hp e hs hk] at h
   exact absurd (congrArg (fun r=>r.2.2) h) (show ¬((6:Int)=0) by decide)
  rw[Jl hp e hs hk] at h
  obtain rfl:=(Prod.mk.inj h).1
  obtain⟨q,hq⟩:∃q,bC s p=q:=⟨_,rfl⟩
  have h4:=EW hk
  have h5:=uW (s:=s) (p:=p) (by omega)
  rw[hq] at h4 h5 hk ⊢
  show Pc (kindOf (s.extract p q)) (s.extract ((p:Int)).toNat ((q:Int)).toNat)
  rw[show ((p:Int)).toNat=p by omega,show ((q:Int)).toNat=q by omega]
  have sp:=aaN s (show p≤q by omega) h5.2
  have z1:=F6 s (p:=0) (q:=p) (by omega)
  have z2:=F6 s (p:=p) (q:=q) h5.2
  have ep:bC (s.extract p q++s.extract q s.size) 0=(s.extract p q).size:=by
   have:=FX (s.extract 0 p) (s.extract p q++s.extract q s.size) 0
   rw[←sp,z1,show p-0+0=p by omega,hq] at this
   omega
  rw[←Zb s h4] at g1 g2 hs
  exact⟨by omega,g1,g2, .inr ⟨hs,JX (by omega) ep,rfl,hk⟩⟩
def rem:ByteArray:=⟨#[32,35,32,114,101,109,97,114,107,10]⟩
theorem aaO (y:ByteArray) {i:Nat} (hi:i<10):bt (rem++y) i=bt rem i:=eO hi
theorem WH (y:ByteArray):(rem++y).size=y.size+10:=by rw[bF];show 10+y.size=_;omega
def tx (s:ByteArray) (t:Tok):Int×ByteArray:=(t.k,s.extract t.f.toNat t.t.toNat)
theorem aaP {s:ByteArray} {p:Nat} (hp:p<s.size) (hd:(Utf8.decode s p).1≠65533) (h:dQ s s.size ((p+(Utf8.decode s p).2:Nat):Int)=-1):dQ s s.size (p:Int)=-1:=by
 have h1:=(bB s p).1
 have hne:¬(kR s (p:Int)).2=0:=fun e=>hd ((qO hp).1 e).1
 rw[l7 s s.size (s.size-1+1) p (by omega) (by omega),dQ,if_pos (by omega),if_neg hne,Ab hp hne,l7 s (s.size-1) s.size _ (by omega) (by omega)]
 exact h
theorem TV {s:ByteArray} {p:Nat} (hp:p<s.size) (hb:bt s p<128) (h:dQ s s.size ((p+1:Nat):Int)=-1):dQ s s.size (p:Int)=-1:=by
 have hd:=decode_ascii hb
 refine aaP hp (by rw[hd];show bt s p≠65533;omega) ?_
 rw[hd];exact h
theorem adb (y:ByteArray) (h:dQ y y.size 0=-1):dQ (rem++y) (rem++y).size 0=-1:=by
 have hz:=WH y
 have h2:=FY rem y y.size 0 (by omega)
 rw[show ((0:Nat):Int)=0 from rfl,if_pos h] at h2
 have ha:∀i,i<10->bt rem i<128:=by decide +kernel
 have step:∀i,i<10->dQ (rem++y) (rem++y).size ((i+1:Nat):Int)=-1->dQ (rem++y) (rem++y).size (i:Int)=-1:=fun i hi hb=>
  TV (by omega) (by rw[aaO y hi];exact ha i hi) hb
 exact step 0 (by omega) (step 1 (by omega) (step 2 (by omega) (step 3 (by omega) (step 4 (by omega) (step 5 (by omega) (step 6 (by omega) (step 7 (by omega) (step 8 (by omega) (step 9 (by omega) h2)))))))))
theorem Yn {s:ByteArray} (h:(eU s).2.2=0):s.size≤65536∧dQ s s.size 0=-1∧∃r,r.2=4∧Run s 0 (eU s).1 r:=by
 by_cases hs:s.size≤65536
 rotate_left
 ·unfold eU at h
  rw[if_pos (by omega)] at h
  exact absurd h (show ¬((2:Int)=0) by decide)
 refine⟨hs,?_⟩
 rcases Ir s with hb | hb
 ·refine⟨hb,?_⟩
  obtain⟨l,r,hr⟩:=Ph s s.size 0 (by omega) (Nat.zero_le _)
  have e:=M0 hs hb hr
  by_cases h4:r.2=4
  ·rw[if_pos h4] at e
   rw[e]
   exact⟨r,h4,hr⟩
  ·rw[if_neg h4] at e
   rw[e] at h
   have:=run_end hr (Nat.zero_le _)
   have h:r.2=0:=h
   omega
 ·rw[MZ hs hb.1] at h
  exact absurd h (show ¬((5:Int)=0) by decide)
end Go.Proofs.YtojhdmfkfkfcbaaGreatDoor
