import Derived.Test.YtojhdmfkfkfcbaaGreatDoorMF
import Derived.Test.YtojhdmfkfkfcbaaGreatDoorMD
import Derived.Test.YtojhdmfkfkfcbaaGreatDoorMC
import Derived.Test.YtojhdmfkfkfcbaaGreatDoorMB
namespace Go.Proofs.YtojhdmfkfkfcbaaGreatDoor
open Go.Sx
set_option linter.unusedVariables false
set_option linter.unusedSimpArgs false
set_option maxRecDepth 100000
theorem ba_same {a b:ByteArray} (h:a.data.toList=b.data.toList):a=b:=joinB_one.ba_inj8 h
theorem posO_none (s:ByteArray):∀(i:Nat) (l:List ByteArray),posO i l s=none↔s∉l
 | _,[]=>by simp [posO]
 | i,a::l=>by
  unfold posO
  split
  ·rename_i h
   simp [ba_same h]
  ·rename_i h
   rw[posO_none s (i+1) l,List.mem_cons,not_or]
   exact⟨fun h2=>⟨fun e=>h (by rw[e]),h2⟩,fun h2=>h2.2⟩
theorem posB_iff {l:List ByteArray} {s:ByteArray}:posB l s=true↔s∈l:=by
 have:=posO_none s 0 l
 unfold posB
 cases h:posO 0 l s with
 | none=>rw[h] at this;simp [this.1 rfl]
 | some n=>
  rw[h] at this
  simp only[reduceCtorEq,false_iff,Classical.not_not] at this
  simp [this]
theorem posB_not {l:List ByteArray} {s:ByteArray}:posB l s=false↔s∉l:=by
 rw[←posB_iff];simp
theorem posO_get (s:ByteArray):∀(i:Nat) (l:List ByteArray) (n:Nat),posO i l s=some n->l.getD (n-i) .empty=s
 | _,[],_,h=>by cases h
 | i,a::l,n,h=>by
  unfold posO at h
  split at h
  ·rename_i e
   cases h
   rw[Nat.sub_self];exact ba_same e
  ·have h1:=posO_get s (i+1) l n h
   have h2:=posO_lt s (i+1) l n h
   rw[show n-i=(n-(i+1))+1 by omega,List.getD_cons_succ];exact h1
theorem pos_get {l:List ByteArray} {s:ByteArray} (h:s∈l):l.getD (posN l s).toNat .empty=s:=by
 have h:=posB_iff.2 h
 unfold posB at h
 unfold posN
 cases hp:posO 0 l s with
 | none=>rw[hp] at h;cases h
 | some n=>
  have:=posO_get s 0 l n hp
  show l.getD ((n:Int)).toNat .empty=s
  rw[Int.toNat_natCast];exact this
theorem nodup_get {α:Type} {l:List α} (hn:l.Nodup) (d:α):∀{i j:Nat},i<l.length->j<l.length->l.getD i d=l.getD j d->i=j:=by
 intro i j hi hj h
 rw[List.getD_eq_getElem?_getD,List.getD_eq_getElem?_getD,List.getElem?_eq_getElem hi,List.getElem?_eq_getElem hj] at h
 have h:l[i]=l[j]:=h
 have hp:=List.pairwise_iff_getElem.1 hn
 rcases Nat.lt_trichotomy i j with g | g | g
 ·exact absurd h (hp i j hi hj g)
 ·exact g
 ·exact absurd h.symm (hp j i hj hi g)
theorem pos_at {l:List ByteArray} (hn:l.Nodup) {i:Nat} (hi:i<l.length):posN l (l.getD i .empty)=i:=by
 have hm:l.getD i .empty∈l:=getD_in _ hi
 have h1:=posN_lt (posB_iff.2 hm)
 have h2:=pos_get hm
 have:=nodup_get hn .empty (i:=(posN l (l.getD i .empty)).toNat) (j:=i) (by omega) hi h2
 omega
theorem lookV_is {l:List ByteArray} {s:ByteArray} {a n:Int} (h:lookV l s a=.ok n):s∈l∧n=posN l s:=by
 unfold lookV at h
 split at h
 ·rename_i g
  cases h
  exact⟨posB_iff.1 g,rfl⟩
 ·cases h
theorem lookV_on {l:List ByteArray} (hn:l.Nodup) {i:Nat} (hi:i<l.length) (a:Int):lookV l (l.getD i .empty) a=.ok (i:Int):=by
 unfold lookV
 rw[if_pos (posB_iff.2 (getD_in _ hi)),pos_at hn hi]
theorem looksF_is {l:List ByteArray} {a:Int}:∀{r:List ByteArray} {acc o:List Int},looksF l a r acc=.ok o->o=acc++r.map (posN l)∧∀s∈r,s∈l
 | [],acc,o,h=>by cases h;simp
 | s::r,acc,o,h=>by
  rw[looksF] at h
  obtain⟨n,h1,h2⟩:=bd_ok h
  obtain⟨h3,rfl⟩:=lookV_is h1
  obtain⟨rfl,h5⟩:=looksF_is h2
  refine⟨by simp,fun t ht=>?_⟩
  rcases List.mem_cons.1 ht with rfl | ht
  ·exact h3
  ·exact h5 t ht
theorem looksF_on {l:List ByteArray} {a:Int} (f:Int->ByteArray):∀(r:List Int) (acc:List Int),(∀n∈r,lookV l (f n) a=.ok n)->looksF l a (r.map f) acc=.ok (acc++r)
 | [],acc,_=>by simp [looksF]
 | n::r,acc,h=>by
  rw[List.map_cons,looksF,h n (.head _)]
  show looksF l a (r.map f) (acc++[n])=_
  rw[looksF_on f r _ fun m hm=>h m (.tail _ hm)]
  simp
theorem nmsF_is:∀{L:List (ByteArray×Int)} {acc o:List ByteArray},nmsF acc L=.ok o->acc.Nodup->o=acc++L.map (·.1)∧o.Nodup
 | [],acc,o,h,hn=>by cases h;simp [hn]
 | (s,a)::r,acc,o,h,hn=>by
  rw[nmsF] at h
  split at h
  ·cases h
  ·rename_i g
   have g:s∉acc:=posB_not.1 (by simpa using g)
   have hn2:(acc++[s]).Nodup:=by
    rw[List.nodup_append]
    refine⟨hn,by simp,fun x hx y hy e=>?_⟩
    rw[List.mem_singleton] at hy
    subst hy;subst e;exact g hx
   obtain⟨rfl,h2⟩:=nmsF_is h hn2
   exact⟨by simp,h2⟩
theorem nmsF_on:∀{L:List (ByteArray×Int)} {acc:List ByteArray},(acc++L.map (·.1)).Nodup->nmsF acc L=.ok (acc++L.map (·.1))
 | [],acc,_=>by simp [nmsF]
 | (s,a)::r,acc,h=>by
  have g:s∉acc:=fun hm=>by
   rw[List.nodup_append] at h
   exact h.2.2 s hm s (by simp) rfl
  rw[nmsF,if_neg (by rw[posB_not.2 g];simp)]
  have:=nmsF_on (L:=r) (acc:=acc++[s]) (by simpa using h)
  rw[this];simp
theorem nm_list (c:UInt8) (n:Int):(nmN c n).data.toList=c::(sgV n++digs n.natAbs):=by
 unfold nmN
 rw[ByteArray.toList_data_append,showV_list];rfl
theorem nm_inj {c d:UInt8} {n m:Int} (hn:inI64 n) (hm:inI64 m) (h:nmN c n=nmN d m):c=d∧n=m:=by
 have h1:=congrArg (fun b:ByteArray=>b.data.toList) h
 simp only[nm_list,List.cons.injEq] at h1
 refine⟨h1.1,?_⟩
 have h2:showV n=showV m:=ba_same (by rw[showV_list,showV_list];exact h1.2)
 have h3:=num_back n hn
 rw[h2,num_back m hm] at h3
 exact (Prod.ext_iff.1 h3).1.symm
theorem main_nm {c:UInt8} {n:Int} (hc:c≠109):mainS≠nmN c n:=by
 intro h
 have h1:=congrArg (fun b:ByteArray=>b.data.toList) h
 simp only[nm_list] at h1
 have h2:(109:UInt8)=c:=(List.cons.inj h1).1
 exact hc h2.symm
theorem digs_dig:∀(u:Nat),∀c∈digs u,48≤c.toNat∧c.toNat≤57:=by
 intro u
 induction u using Nat.strongRecOn with
 | ind u ih=>
  intro c hc
  by_cases h:u<10
  ·rw[digs_lt h,List.mem_singleton] at hc
   subst hc
   have:(UInt8.ofNat (48+u)).toNat=48+u:=by rw[UInt8.toNat_ofNat'];omega
   omega
  ·rw[digs_ge h,List.mem_append] at hc
   rcases hc with hc | hc
   ·exact ih (u/10) (by omega) c hc
   ·rw[List.mem_singleton] at hc
    subst hc
    have:(UInt8.ofNat (48+u%10)).toNat=48+u%10:=by rw[UInt8.toNat_ofNat'];omega
    omega
theorem nameW_digs {s:ByteArray}:∀(k p:Nat) (c:Int),(∀j,p≤j->j<s.size->48≤bt s j∧bt s j≤57)->1≤p->0<c->c+((s.size:Int)-p)≤24->nameW s k p c=true
 | 0,p,c,_,_,h3,_=>by rw[nameW,decide_eq_true h3]
 | k+1,p,c,h1,h2,h3,h4=>by
  rw[nameW]
  split
  ·rename_i hp
   have hb:=h1 p (Nat.le_refl _) hp
   rw[decode_ascii (by omega)]
   have hd:digB ((bt s p:Nat):Int)=true:=by
    unfold digB
    rw[decide_eq_true (show (48:Int)≤(bt s p:Int) by omega),decide_eq_true (show (bt s p:Int)≤57 by omega)];rfl
   rw[hd,decide_eq_false (show ¬((p:Int)=0) by omega)]
   rw[if_neg (by simp),if_neg (by omega)]
   exact nameW_digs k (p+1) (c+1) (fun j hj=>h1 j (by omega)) (by omega) (by omega) (by omega)
  ·exact decide_eq_true h3
theorem words_dig:∀w∈wordsL,(w.getD 1 0).toNat<48∨57<(w.getD 1 0).toNat:=by decide
theorem nm_ok {c:UInt8} {n:Int} (hc:letB (c.toNat:Int)=true) (h128:c.toNat<128) (h0:0≤n) (h1:n≤1000000):okN (nmN c n)=true:=by
 have hl:(nmN c n).data.toList=c::digs n.natAbs:=by rw[nm_list,sgV,if_neg (by omega)];rfl
 have hlen:=digs_len 9 n.natAbs (by show n.natAbs<10000000000;omega)
 have hsz:(nmN c n).size=(digs n.natAbs).length+1:=by
  have:=congrArg List.length hl
  rw[List.length_cons] at this
  rw[←this];exact (Array.length_toList).symm
 have hbt:∀j,bt (nmN c n) j=((c::digs n.natAbs).getD j 0).toNat:=fun j=>by rw[bt_getD,hl]
 obtain⟨d,r,e1,e2,e3,_⟩:=digs_head n.natAbs
 unfold okN
 rw[Bool.and_eq_true,Bool.not_eq_true']
 constructor
 ·unfold nameT
  rw[hsz,nameW,if_pos (by omega)]
  have hb0:bt (nmN c n) 0=c.toNat:=hbt 0
  rw[decode_ascii (by omega),hb0]
  show (if (!letB ((c.toNat:Nat):Int)&&_)=true then false else _)=true
  rw[hc]
  rw[if_neg (by simp),if_neg (by omega)]
  refine nameW_digs _ _ _ (fun j hj hs=>?_) (by omega) (by omega) (by rw[hsz];omega)
  rw[hbt]
  obtain⟨i,rfl⟩:∃i,j=i+1:=⟨j-1,by omega⟩
  rw[List.getD_cons_succ]
  exact digs_dig _ _ (getD_in _ (by omega))
 ·unfold wordB
  rw[decide_eq_false_iff_not,hl]
  intro hm
  have:=words_dig _ hm
  rw[e1,List.getD_cons_succ,List.getD_cons_zero] at this
  omega
def accF {α β:Type} (g:Nat->α->Flt β):List α->Nat->List β->Flt (List β)
 | [],_,acc=>.ok acc
 | a::r,i,acc=>bd (g i a) fun b=>accF g r (i+1) (acc++[b])
theorem accF_is {α β:Type} {g:Nat->α->Flt β} (d:α) (e:β):∀{l:List α} {i:Nat} {acc o:List β},accF g l i acc=.ok o->∃t,o=acc++t∧t.length=l.length∧∀j,j<l.length->g (i+j) (l.getD j d)=.ok (t.getD j e)
 | [],i,acc,o,h=>by
  cases h
  exact⟨[],by simp,rfl,fun j hj=>absurd hj (Nat.not_lt_zero _)⟩
 | a::l,i,acc,o,h=>by
  rw[accF] at h
  obtain⟨b,h1,h2⟩:=bd_ok h
  obtain⟨t,rfl,h3,h4⟩:=accF_is d e h2
  refine⟨b::t,by simp,by simp [h3],fun j hj=>?_⟩
  cases j with
  | zero=>exact h1
  | succ j=>
   have:=h4 j (by simpa using hj)
   rw[show i+(j+1)=i+1+j by omega];exact this
theorem accF_on {α β:Type} {g:Nat->α->Flt β} (d:α) (e:β):∀{l:List α} {t:List β} {i:Nat} {acc:List β},t.length=l.length->(∀j,j<l.length->g (i+j) (l.getD j d)=.ok (t.getD j e))->accF g l i acc=.ok (acc++t)
 | [],t,i,acc,h,_=>by rw[List.eq_nil_of_length_eq_zero h,List.append_nil];rfl
 | a::l,[],i,acc,h,_=>by cases h
 | a::l,b::t,i,acc,h,h2=>by
  have h0:g i a=.ok b:=h2 0 (Nat.zero_lt_succ _)
  rw[accF,h0]
  show accF g l (i+1) (acc++[b])=_
  rw[accF_on d e (by simpa using h) fun j hj=>by
   have:=h2 (j+1) (by simpa using hj)
   rw[show i+(j+1)=i+1+j by omega] at this;exact this]
  simp
theorem blks9_acc (r:Res) (s:Scp):∀(l:List Blk) (i:Nat) (acc:List (List Op9)),blks9F r s l acc=accF (fun _ b=>blk9V r s b) l i acc
 | [],_,_=>rfl
 | b::l,i,acc=>by
  rw[blks9F,accF]
  congr 1
  funext y
  exact blks9_acc r s l (i+1) _
theorem scps_acc:∀(l:List Fun) (i:Nat) (acc:List Scp),scpsF l acc=accF (fun _ f=>scpV f) l i acc
 | [],_,_=>rfl
 | f::l,i,acc=>by
  rw[scpsF,accF]
  congr 1
  funext y
  exact scps_acc l (i+1) _
theorem bods_acc (r:Res) (ss:List Scp):∀(l:List Fun) (i:Nat) (acc:List Bod),bodsF r ss l i acc=accF (fun i f=>bodV r (ss.getD i scp0) f) l i acc
 | [],_,_=>rfl
 | f::l,i,acc=>by
  rw[bodsF,accF]
  congr 1
  funext y
  exact bods_acc r ss l (i+1) _
theorem ops_acc (r:Res) (s:Scp) (code:List Ins):∀(l:List Ins) (i:Nat) (acc:List Op9),opsF r s code l.length i acc=accF (fun i _=>insV9 r s code i) l i acc
 | [],_,_=>rfl
 | x::l,i,acc=>by
  rw[List.length_cons,opsF,accF]
  congr 1
  funext y
  exact ops_acc r s code l (i+1) _
structure BlkIs (r:Res) (s:Scp) (b:Blk) (l:List Op9):Prop where
 e:endOK b=true
 len:l.length=b.code.length
 ins:∀j,j<b.code.length->insV9 r s b.code j=.ok (l.getD j op0)
theorem blk9_iff {r:Res} {s:Scp} {b:Blk} {l:List Op9}:blk9V r s b=.ok l↔BlkIs r s b l:=by
 unfold blk9V
 rw[ops_acc]
 constructor
 ·intro h
  split at h
  ·rename_i he
   obtain⟨t,rfl,h1,h2⟩:=accF_is (ins0 0) op0 h
   exact⟨he,h1,fun j hj=>by have:=h2 j hj;rwa [Nat.zero_add] at this⟩
  ·cases h
 ·intro h
  rw[if_pos h.e,accF_on (ins0 0) op0 h.len fun j hj=>by rw[Nat.zero_add];exact h.ins j hj]
  rfl
abbrev blkNs (f:Fun):List ByteArray:=f.blocks.map (·.name)
abbrev valNs (f:Fun):List ByteArray:=f.params++(dsts f.blocks).map (·.1)
abbrev scpOf (f:Fun):Scp:=⟨blkNs f,valNs f⟩
theorem scp_iff {f:Fun} {s:Scp}:scpV f=.ok s↔s=scpOf f∧(blkNs f).Nodup∧(valNs f).Nodup:=by
 unfold scpV
 have e1:(f.params.map fun s=>(s,f.at_)).map (·.1)=f.params:=by rw[List.map_map];exact List.map_id _
 have e2:(f.blocks.map fun b=>(b.name,b.at_)).map (·.1)=blkNs f:=by rw[List.map_map];rfl
 constructor
 ·intro h
  obtain⟨vs,h1,h⟩:=bd_ok h
  obtain⟨bs,h2,h⟩:=bd_ok h
  obtain⟨vs',h3,h⟩:=bd_ok h
  cases h
  obtain⟨rfl,g1⟩:=nmsF_is h1 List.nodup_nil
  obtain⟨rfl,g2⟩:=nmsF_is h2 List.nodup_nil
  obtain⟨rfl,g3⟩:=nmsF_is h3 g1
  rw[List.nil_append,e1] at g3
  rw[List.nil_append,e2] at g2
  rw[List.nil_append,List.nil_append,e1,e2]
  exact⟨rfl,g2,g3⟩
 ·rintro ⟨rfl,h1,h2⟩
  have hp:f.params.Nodup:=(List.nodup_append.1 h2).1
  rw[nmsF_on (acc:=[]) (by rw[List.nil_append,e1];exact hp),List.nil_append,e1]
  show bd (nmsF [] _) _=_
  rw[nmsF_on (acc:=[]) (by rw[List.nil_append,e2];exact h1),List.nil_append,e2]
  show bd (nmsF f.params _) _=_
  rw[nmsF_on h2];rfl
structure BodIs (r:Res) (f:Fun) (b:Bod):Prop where
 nb:(blkNs f).Nodup
 nv:(valNs f).Nodup
 pars:b.params=(f.params.length:Int)
 vars:b.vars=((valNs f).length:Int)
 len:b.blocks.length=f.blocks.length
 blk:∀k,k<f.blocks.length->BlkIs r (scpOf f) (f.blocks.getD k blk0) (b.blocks.getD k [])
theorem bod_iff {r:Res} {f:Fun} {b:Bod} (h1:(blkNs f).Nodup) (h2:(valNs f).Nodup):bodV r (scpOf f) f=.ok b↔BodIs r f b:=by
 unfold bodV
 rw[blks9_acc r (scpOf f) f.blocks 0]
 constructor
 ·intro h
  obtain⟨t,h3,h⟩:=bd_ok h
  cases h
  obtain⟨t,rfl,h4,h5⟩:=accF_is blk0 [] h3
  exact⟨h1,h2,rfl,rfl,h4,fun k hk=>blk9_iff.1 (h5 k hk)⟩
 ·rintro ⟨_,_,h3,h4,h5,h6⟩
  rw[accF_on blk0 [] h5 fun k hk=>blk9_iff.2 (h6 k hk)]
  obtain⟨b1,b2,b3⟩:=b
  show Except.ok _=Except.ok _
  simp only[List.nil_append]
  simp only at h3 h4
  rw[h3,h4]
theorem arrs_is {p:Pol}:∀{l:List Arr} {acc:List ByteArray} {cs:List Cel} {o:List ByteArray×List Cel},arrsF p l acc cs=.ok o->acc.Nodup->o=(acc++l.map (·.name),cs++l.map fun a=>(a.size,idxS p.lev a.level))∧o.1.Nodup∧∀a∈l,0≤idxS p.lev a.level
 | [],acc,cs,o,h,hn=>by cases h;simp [hn]
 | a::l,acc,cs,o,h,hn=>by
  rw[arrsF] at h
  split at h
  ·cases h
  ·rename_i g
   have g:a.name∉acc:=posB_not.1 (by simpa using g)
   obtain⟨k,h1,h2⟩:=bd_ok h
   unfold knownV at h1
   split at h1
   ·rename_i hk
    cases h1
    have hn2:(acc++[a.name]).Nodup:=by
     rw[List.nodup_append]
     refine⟨hn,by simp,fun x hx y hy e=>?_⟩
     rw[List.mem_singleton] at hy
     subst hy;subst e;exact g hx
    obtain⟨rfl,h3,h4⟩:=arrs_is h2 hn2
    refine⟨by simp,h3,fun b hb=>?_⟩
    rcases List.mem_cons.1 hb with rfl | hb
    ·exact hk
    ·exact h4 b hb
   ·cases h1
theorem arrs_on {p:Pol}:∀{l:List Arr} {acc:List ByteArray} {cs:List Cel},(acc++l.map (·.name)).Nodup->(∀a∈l,0≤idxS p.lev a.level)->arrsF p l acc cs=.ok (acc++l.map (·.name),cs++l.map fun a=>(a.size,idxS p.lev a.level))
 | [],acc,cs,_,_=>by simp [arrsF]
 | a::l,acc,cs,h,h2=>by
  have g:a.name∉acc:=fun hm=>by
   rw[List.nodup_append] at h
   exact h.2.2 _ hm a.name (by simp) rfl
  rw[arrsF,if_neg (by rw[posB_not.2 g];simp),knownV,if_pos (h2 a (.head _))]
  show arrsF p l (acc++[a.name]) _=_
  rw[arrs_on (by simpa using h) fun b hb=>h2 b (.tail _ hb)]
  simp
abbrev arrNs (q:Prg):List ByteArray:=q.arrays.map (·.name)
abbrev fnNs (q:Prg):List ByteArray:=q.funcs.map (·.name)
abbrev resOf (p:Pol) (q:Prg):Res:=⟨p,q,arrNs q,fnNs q⟩
structure CodIs (p:Pol) (q:Prg) (c:Cod):Prop where
 na:(arrNs q).Nodup
 lv:∀a∈q.arrays,0≤idxS p.lev a.level
 arrs:c.arrays=q.arrays.map fun a=>(a.size,idxS p.lev a.level)
 nf:(fnNs q).Nodup
 mn:mainS∈fnNs q
 mp:parsN q (posN (fnNs q) mainS)=0
 main:c.main=posN (fnNs q) mainS
 len:c.funcs.length=q.funcs.length
 fn:∀i,i<q.funcs.length->BodIs (resOf p q) (q.funcs.getD i fun0) (c.funcs.getD i bod0)
theorem cod_iff {p:Pol} {q:Prg} {c:Cod}:codV p q=.ok c↔CodIs p q c:=by
 unfold codV
 have e2:(q.funcs.map fun f=>(f.name,f.at_)).map (·.1)=fnNs q:=by rw[List.map_map];rfl
 constructor
 ·intro h
  obtain⟨ac,h1,h⟩:=bd_ok h
  obtain⟨fn,h2,h⟩:=bd_ok h
  obtain⟨rfl,g1,g2⟩:=arrs_is h1 List.nodup_nil
  obtain⟨rfl,g3⟩:=nmsF_is h2 List.nodup_nil
  rw[List.nil_append,e2] at g3 h
  simp only[List.nil_append] at g1 h
  split at h
  ·rename_i hm
   obtain⟨ss,h3,h⟩:=bd_ok h
   obtain⟨bs,h4,h⟩:=bd_ok h
   cases h
   unfold mainB at hm
   rw[Bool.and_eq_true,decide_eq_true_eq] at hm
   rw[scps_acc q.funcs 0] at h3
   rw[bods_acc _ _ q.funcs 0] at h4
   obtain⟨ss,rfl,g4,g5⟩:=accF_is fun0 scp0 h3
   obtain⟨bs,rfl,g6,g7⟩:=accF_is fun0 bod0 h4
   refine⟨g1,g2,rfl,g3,posB_iff.1 hm.1,by omega,rfl,g6,fun i hi=>?_⟩
   obtain⟨hs,hb,hv⟩:=scp_iff.1 (g5 i hi)
   have h7:=g7 i hi
   simp only[Nat.zero_add,List.nil_append] at h7
   rw[hs] at h7
   exact (bod_iff hb hv).1 h7
  ·cases h
 ·intro h
  rw[arrs_on (acc:=[]) (by simpa using h.na) h.lv]
  show bd (nmsF [] _) _=_
  rw[nmsF_on (acc:=[]) (by rw[List.nil_append,e2];exact h.nf),List.nil_append,e2]
  show (if mainB q (fnNs q)=true then _ else _)=_
  rw[if_pos (by unfold mainB;rw[posB_iff.2 h.mn,h.mp];rfl),scps_acc q.funcs 0,accF_on (t:=q.funcs.map scpOf) fun0 scp0 (by simp) fun j hj=>?_]
  ·show bd (bodsF _ _ _ _ _) _=_
   rw[bods_acc _ _ q.funcs 0,accF_on (t:=c.funcs) fun0 bod0 h.len fun j hj=>?_]
   ·obtain⟨c1,c2,c3⟩:=c
    have h1:=h.arrs
    have h2:=h.main
    simp only at h1 h2
    subst h1;subst h2
    rfl
   ·have hf:=h.fn j hj
    simp only[Nat.zero_add,List.nil_append]
    rw[show (q.funcs.map scpOf).getD j scp0=scpOf (q.funcs.getD j fun0) by
     rw[List.getD_eq_getElem?_getD,List.getD_eq_getElem?_getD,List.getElem?_map,List.getElem?_eq_getElem hj];rfl]
    exact (bod_iff hf.nb hf.nv).2 hf
  ·have hf:=h.fn j hj
   refine scp_iff.2 ⟨?_,hf.nb,hf.nv⟩
   rw[List.getD_eq_getElem?_getD,List.getD_eq_getElem?_getD,List.getElem?_map,List.getElem?_eq_getElem hj];rfl
def shp (k:Int):Option (Int×Bool×Bool×Bool):=if k=3 then some (-1,true,false,false) else shapeV k
def hasD (k:Int):Bool:=match shp k with
 | some (_,d,_,_)=>d
 | none=>false
def mostR (p:Pol) (na nf nb:Nat) (k:Int):Int:=
 if k=4∨k=5∨k=6 then (na:Int) else if k=7 then (nf:Int) else if k=8 then (p.ins.length:Int) else if k=9 then (p.outs.length:Int) else if k=10 then (p.lev.length:Int) else (nb:Int)
structure ROp (p:Pol) (c:Cod) (b:Bod) (x:Op9) (n:Int) (d r a:Bool):Prop where
 sh:shp x.kind=some (n,d,r,a)
 d0:d=false->x.dst=-1
 r0:r=false->x.ref=0
 a0:a=false->x.alt=0
 num:x.kind≠1->x.num=0
 op0:x.kind≠2->x.op=0
 op1:x.kind=2->1≤x.op∧x.op≤12
 r1:r=true->0≤x.ref∧x.ref<mostR p c.arrays.length c.funcs.length b.blocks.length x.kind
 a1:a=true->0≤x.alt∧x.alt<(b.blocks.length:Int)
 phi:x.kind=3->x.frm.length=x.args.length∧1≤x.frm.length∧x.frm.length≤64
 nphi:x.kind≠3->x.frm=[]∧(x.args.length:Int)=if x.kind=7 then (c.funcs.getD x.ref.toNat bod0).params else n
 args:∀k∈x.args,0≤k∧k<b.vars
 frm:∀k∈x.frm,0≤k∧k<(b.blocks.length:Int)
def dstC (l:List Op9):List Int:=l.filterMap fun x=>if hasD x.kind=true then some x.dst else none
def dstsC (bs:List (List Op9)):List Int:=bs.flatMap dstC
structure ROps (p:Pol) (c:Cod) (b:Bod) (l:List Op9):Prop where
 len:1≤l.length
 op:∀j,j<l.length->∃n d r a,ROp p c b (l.getD j op0) n d r a
 e:∀j,j<l.length->(isEnd (l.getD j op0).kind=true↔j+1=l.length)
 ph:∀j,j<l.length->(l.getD j op0).kind=3->j≠0->(l.getD (j-1) op0).kind=3
structure RBod (p:Pol) (c:Cod) (b:Bod):Prop where
 p0:0≤b.params∧b.params≤6
 len:1≤b.blocks.length∧b.blocks.length≤64
 vars:b.vars=b.params+(dstsC b.blocks).length
 seq:∀i,i<(dstsC b.blocks).length->(dstsC b.blocks).getD i 0=b.params+i
 ops:∀l∈b.blocks,ROps p c b l
structure RCod (p:Pol) (c:Cod):Prop where
 pol:rightP p=true
 al:c.arrays.length≤16
 fl:c.funcs.length≤64
 m:0≤c.main∧c.main<(c.funcs.length:Int)
 mp:(c.funcs.getD c.main.toNat bod0).params=0
 arr:∀a∈c.arrays,(1≤a.1∧a.1≤256)∧0≤a.2∧a.2<(p.lev.length:Int)
 bod:∀b∈c.funcs,RBod p c b
 all:(c.funcs.map fun b=>(b.blocks.map fun l=>l.length).sum).sum≤4096
theorem shape_all9 {k n:Int} {d r a:Bool} (h:shapeV k=some (n,d,r,a)):(k=1∧n=0∧d=true∧r=false∧a=false)∨(k=2∧n=2∧d=true∧r=false∧a=false)∨(k=4∧n=1∧d=true∧r=true∧a=false)∨(k=5∧n=1∧d=true∧r=true∧a=false)∨(k=6∧n=2∧d=false∧r=true∧a=false)∨(k=7∧n=-1∧d=true∧r=true∧a=false)∨(k=8∧n=0∧d=true∧r=true∧a=false)∨(k=9∧n=1∧d=false∧r=true∧a=false)∨(k=10∧n=1∧d=true∧r=true∧a=false)∨(k=11∧n=0∧d=false∧r=true∧a=false)∨(k=12∧n=1∧d=false∧r=true∧a=true)∨(k=13∧n=1∧d=false∧r=false∧a=false):=by
 by_cases g1:k=1
 ·subst g1
  have h:some ((0,true,false,false):Int×Bool×Bool×Bool)=some (n,d,r,a):=h
  cases h
  decide
 by_cases g2:k=2
 ·subst g2
  have h:some ((2,true,false,false):Int×Bool×Bool×Bool)=some (n,d,r,a):=h
  cases h
  decide
 by_cases g4:k=4
 ·subst g4
  have h:some ((1,true,true,false):Int×Bool×Bool×Bool)=some (n,d,r,a):=h
  cases h
  decide
 by_cases g5:k=5
 ·subst g5
  have h:some ((1,true,true,false):Int×Bool×Bool×Bool)=some (n,d,r,a):=h
  cases h
  decide
 by_cases g6:k=6
 ·subst g6
  have h:some ((2,false,true,false):Int×Bool×Bool×Bool)=some (n,d,r,a):=h
  cases h
  decide
 by_cases g7:k=7
 ·subst g7
  have h:some ((-1,true,true,false):Int×Bool×Bool×Bool)=some (n,d,r,a):=h
  cases h
  decide
 by_cases g8:k=8
 ·subst g8
  have h:some ((0,true,true,false):Int×Bool×Bool×Bool)=some (n,d,r,a):=h
  cases h
  decide
 by_cases g9:k=9
 ·subst g9
  have h:some ((1,false,true,false):Int×Bool×Bool×Bool)=some (n,d,r,a):=h
  cases h
  decide
 by_cases g10:k=10
 ·subst g10
  have h:some ((1,true,true,false):Int×Bool×Bool×Bool)=some (n,d,r,a):=h
  cases h
  decide
 by_cases g11:k=11
 ·subst g11
  have h:some ((0,false,true,false):Int×Bool×Bool×Bool)=some (n,d,r,a):=h
  cases h
  decide
 by_cases g12:k=12
 ·subst g12
  have h:some ((1,false,true,true):Int×Bool×Bool×Bool)=some (n,d,r,a):=h
  cases h
  decide
 by_cases g13:k=13
 ·subst g13
  have h:some ((1,false,false,false):Int×Bool×Bool×Bool)=some (n,d,r,a):=h
  cases h
  decide
 exfalso
 unfold shapeV at h
 rw[if_neg g1,if_neg g2,if_neg g4,if_neg g5,if_neg g6,if_neg g7,if_neg g8,if_neg g9,if_neg g10,if_neg g11,if_neg g12,if_neg g13] at h
 cases h
theorem shp_kind {k n:Int} {d r a:Bool} (h:shp k=some (n,d,r,a)):(k=3∧n=-1∧d=true∧r=false∧a=false)∨(k≠3∧shapeV k=some (n,d,r,a)):=by
 unfold shp at h
 split at h
 ·rename_i g
  cases h
  exact .inl ⟨g,rfl,rfl,rfl,rfl⟩
 ·rename_i g
  exact .inr ⟨g,h⟩
theorem shp_of {k n:Int} {d r a:Bool} (h3:k≠3) (h:shapeV k=some (n,d,r,a)):shp k=some (n,d,r,a):=by unfold shp;rw[if_neg h3];exact h
theorem okN_ne {s:ByteArray} (h:okN s=true):s.data.toList≠[]:=by
 intro e
 have e2:s=.empty:=ba_same (by rw[e];rfl)
 rw[e2] at h
 revert h;decide
theorem right_dst {x:Ins} (h:rightI x=true):(x.dst.data.toList=[])↔hasD x.kind=false:=by
 rcases right_cases h with⟨h3,hp⟩ | ⟨n,d,r,a,hs,h3,hi,_⟩
 ·have e:hasD x.kind=true:=by rw[h3];rfl
  rw[e]
  exact⟨fun g=>absurd g (okN_ne hp.dst),fun g=>by cases g⟩
 ·have e:hasD x.kind=d:=by unfold hasD;rw[shp_of h3 hs]
  rw[e]
  cases d with
  | true=>exact⟨fun g=>absurd g (okN_ne (fits_on hi.dst)),fun g=>by cases g⟩
  | false=>exact⟨fun _=>rfl,fun _=>by rw[fits_off hi.dst];rfl⟩
theorem opName_iff {o:Int}:(opName o).data.toList≠[]↔1≤o∧o≤12:=by
 unfold opName
 split
 ·rename_i h
  exact⟨fun g=>absurd rfl g,fun g=>by omega⟩
 ·rename_i h
  by_cases h0:o≤0
  ·rw[show o.toNat=0 by omega]
   exact⟨fun g=>absurd (by decide) g,fun g=>by omega⟩
  ·obtain⟨n,rfl⟩:∃n:Nat,o=(n:Int):=⟨o.toNat,by omega⟩
   have hn:n<13:=by omega
   rw[Int.toNat_natCast]
   refine⟨fun _=>by omega,fun _=>?_⟩
   have key:∀n:Nat,n<13->n≠0->(opAt n).data.toList≠[]:=by decide
   exact key n hn (by omega)
theorem idxC_lt {l:List Chan} {s:ByteArray} (h:0≤idxC l s):idxC l s<(l.length:Int):=by
 unfold idxC at *
 rcases idxF_range (p:=fun i=>decide ((l.getD i chan0).1.data.toList=s.data.toList)) (n:=l.length) (i:=0) with e | e<;>omega
theorem known_is {n a k:Int} (h:knownV n a=.ok k):0≤n∧k=n:=by
 unfold knownV at h
 split at h
 ·rename_i g
  cases h;exact⟨g,rfl⟩
 ·cases h
theorem bd1 {r:Flt Int} {o:Int×Int} (h:(bd r fun n=>.ok (n,(0:Int)))=.ok o):r=.ok o.1∧o.2=0:=by
 obtain⟨n,h1,h2⟩:=bd_ok h
 cases h2
 exact⟨h1,rfl⟩
theorem look_lt {l:List ByteArray} {s:ByteArray} {a n:Int} (h:lookV l s a=.ok n):0≤n∧n<(l.length:Int):=by
 obtain⟨h1,rfl⟩:=lookV_is h
 exact posN_lt (posB_iff.2 h1)
theorem refs_is {R:Res} {s:Scp} {x:Ins} {o:Int×Int} {n:Int} {d r a:Bool} (hs:shp x.kind=some (n,d,r,a)) (h:refsV R s x=.ok o):(r=false->o.1=0)∧(a=false->o.2=0)∧(r=true->0≤o.1∧o.1<mostR R.p R.arrs.length R.fns.length s.blks.length x.kind)∧(a=true->0≤o.2∧o.2<(s.blks.length:Int)):=by
 unfold refsV at h
 unfold mostR
 rcases shp_kind hs with⟨hk,rfl,rfl,rfl,rfl⟩ | ⟨h3,hs⟩
 ·simp [hk] at h
  cases h;simp
 ·rcases shape_all9 hs with⟨hk,rfl,rfl,rfl,rfl⟩ | ⟨hk,rfl,rfl,rfl,rfl⟩ | ⟨hk,rfl,rfl,rfl,rfl⟩ | ⟨hk,rfl,rfl,rfl,rfl⟩ | ⟨hk,rfl,rfl,rfl,rfl⟩ | ⟨hk,rfl,rfl,rfl,rfl⟩ | ⟨hk,rfl,rfl,rfl,rfl⟩ | ⟨hk,rfl,rfl,rfl,rfl⟩ | ⟨hk,rfl,rfl,rfl,rfl⟩ | ⟨hk,rfl,rfl,rfl,rfl⟩ | ⟨hk,rfl,rfl,rfl,rfl⟩ | ⟨hk,rfl,rfl,rfl,rfl⟩
  ·simp [hk] at h;cases h;simp
  ·simp [hk] at h;cases h;simp
  ·simp [hk] at h;obtain⟨h1,h2⟩:=bd1 h;have:=look_lt h1;simp [hk,h2,this]
  ·simp [hk] at h;obtain⟨h1,h2⟩:=bd1 h;have:=look_lt h1;simp [hk,h2,this]
  ·simp [hk] at h;obtain⟨h1,h2⟩:=bd1 h;have:=look_lt h1;simp [hk,h2,this]
  ·simp [hk] at h;obtain⟨h1,h2⟩:=bd1 h;have:=look_lt h1;simp [hk,h2,this]
  ·simp [hk] at h;obtain⟨h1,h2⟩:=bd1 h;obtain⟨h3,h4⟩:=known_is h1;have:=idxC_lt h3;simp [hk,h2,h4,this,h3]
  ·simp [hk] at h;obtain⟨h1,h2⟩:=bd1 h;obtain⟨h3,h4⟩:=known_is h1;have:=idxC_lt h3;simp [hk,h2,h4,this,h3]
  ·simp [hk] at h;obtain⟨h1,h2⟩:=bd1 h;obtain⟨h3,h4⟩:=known_is h1;have:=idxS_lt h3;simp [hk,h2,h4,h3];omega
  ·simp [hk] at h;obtain⟨h1,h2⟩:=bd1 h;have:=look_lt h1;simp [hk,h2,this]
  ·simp [hk] at h
   obtain⟨u,h1,h2⟩:=bd_ok h
   obtain⟨v,h3,h4⟩:=bd_ok h2
   cases h4
   have g1:=look_lt h1
   have g2:=look_lt h3
   simp [hk,g1,g2]
  ·simp [hk] at h;cases h;simp
structure OpIs (R:Res) (s:Scp) (x:Ins) (y:Op9) (o:Int×Int):Prop where
 refs:refsV R s x=.ok o
 y:y=⟨x.kind,x.op,if x.dst.data.toList=[] then -1 else posN s.vals x.dst,o.1,o.2,x.args.map (posN s.vals),x.frm.map (posN s.blks),x.num,x.at_⟩
 args:∀t∈x.args,t∈s.vals
 frm:∀t∈x.frm,t∈s.blks
 call:x.kind=7->x.args.length=parsN R.q o.1
theorem op9_is {R:Res} {s:Scp} {x:Ins} {y:Op9} (h:op9V R s x=.ok y):∃o,OpIs R s x y o:=by
 unfold op9V at h
 obtain⟨o,h1,h⟩:=bd_ok h
 obtain⟨az,h2,h⟩:=bd_ok h
 obtain⟨fs,h3,h⟩:=bd_ok h
 obtain⟨rfl,g1⟩:=looksF_is h2
 obtain⟨rfl,g2⟩:=looksF_is h3
 split at h
 ·cases h
 ·rename_i hc
  cases h
  refine⟨o,h1,by simp,g1,g2,fun hk=>?_⟩
  exact Classical.byContradiction fun hne=>hc ⟨hk,hne⟩
structure InsIs (R:Res) (s:Scp) (code:List Ins) (i:Nat) (y:Op9):Prop where
 e:isEnd (code.getD i (ins0 0)).kind=true->i+1=code.length
 ph:(code.getD i (ins0 0)).kind=3->i≠0->(code.getD (i-1) (ins0 0)).kind=3
 op:op9V R s (code.getD i (ins0 0))=.ok y
theorem ins9_iff {R:Res} {s:Scp} {code:List Ins} {i:Nat} {y:Op9}:insV9 R s code i=.ok y↔InsIs R s code i y:=by
 unfold insV9
 constructor
 ·intro h
  split at h
  ·cases h
  ·rename_i h1
   split at h
   ·cases h
   ·rename_i h2
    exact⟨fun g=>Classical.byContradiction fun hne=>h1 ⟨g,hne⟩,fun g g2=>Classical.byContradiction fun hne=>h2 ⟨g,g2,hne⟩,h⟩
 ·intro h
  rw[if_neg fun g=>g.2 (h.e g.1),if_neg fun g=>g.2.2 (h.ph g.1 g.2.1)]
  exact h.op
structure FunR9 (f:Fun):Prop where
 name:okN f.name=true
 pars:allN f.params=true
 pl:f.params.length≤6
 b1:1≤f.blocks.length
 b2:f.blocks.length≤64
 blk:∀b∈f.blocks,okN b.name=true∧∀x∈b.code,rightI x=true
structure ArrR (a:Arr):Prop where
 name:okN a.name=true
 lev:okN a.level=true
 s1:1≤a.size
 s2:a.size≤256
structure PrgR9 (q:Prg):Prop where
 al:q.arrays.length≤16
 fl:q.funcs.length≤64
 arr:∀a∈q.arrays,ArrR a
 fn:∀f∈q.funcs,FunR9 f
 all:progN8 q.funcs≤4096
theorem arrOK_iff {a:Arr}:arrOK a=true↔ArrR a:=by
 unfold arrOK
 simp only[Bool.not_eq_true',Bool.or_eq_false_iff,Bool.not_eq_false',decide_eq_false_iff_not]
 exact⟨fun ⟨⟨⟨h1,h2⟩,h3⟩,h4⟩=>⟨h1,h2,by omega,by omega⟩,fun h=>⟨⟨⟨h.name,h.lev⟩,by have:=h.s1;omega⟩,by have:=h.s2;omega⟩⟩
theorem funOK_iff {f:Fun}:funOK f=true↔FunR9 f:=by
 unfold funOK blkOK
 simp only[Bool.and_eq_true,Bool.not_eq_true',Bool.or_eq_false_iff,Bool.not_eq_false',decide_eq_false_iff_not,List.all_eq_true]
 exact⟨fun ⟨⟨⟨⟨⟨h1,h2⟩,h3⟩,h4⟩,h5⟩,h6⟩=>⟨h1,h2,by omega,by omega,by omega,h6⟩,fun h=>⟨⟨⟨⟨⟨h.name,h.pars⟩,by have:=h.pl;omega⟩,by have:=h.b1;omega⟩,by have:=h.b2;omega⟩,h.blk⟩⟩
theorem rightG_iff {q:Prg}:rightG q=true↔PrgR9 q:=by
 unfold rightG
 simp only[Bool.and_eq_true,Bool.not_eq_true',Bool.or_eq_false_iff,decide_eq_true_eq,decide_eq_false_iff_not,List.all_eq_true,arrOK_iff,funOK_iff]
 exact⟨fun ⟨⟨⟨⟨h1,h2⟩,h3⟩,h4⟩,h5⟩=>⟨by omega,by omega,h3,h4,h5⟩,fun h=>⟨⟨⟨⟨by have:=h.al;omega,by have:=h.fl;omega⟩,h.arr⟩,h.fn⟩,h.all⟩⟩
theorem map_ext2 {α β γ:Type} {F:α->γ} {G:β->γ} (d:α) (e:β):∀{l:List α} {m:List β},l.length=m.length->(∀i,i<m.length->F (l.getD i d)=G (m.getD i e))->l.map F=m.map G
 | [],[],_,_=>rfl
 | [],_::_,h,_=>by cases h
 | _::_,[],h,_=>by cases h
 | a::l,b::m,h,h2=>by
  rw[List.map_cons,List.map_cons,show F a=G b from h2 0 (Nat.zero_lt_succ _),map_ext2 d e (by simpa using h) fun i hi=>h2 (i+1) (by simpa using hi)]
theorem dstC_eq {vals:List ByteArray}:∀{code:List Ins} {l:List Op9},l.length=code.length->(∀j,j<code.length->(l.getD j op0).kind=(code.getD j (ins0 0)).kind∧((l.getD j op0).dst=if (code.getD j (ins0 0)).dst.data.toList=[] then -1 else posN vals (code.getD j (ins0 0)).dst)∧((code.getD j (ins0 0)).dst.data.toList=[]↔hasD (code.getD j (ins0 0)).kind=false))->dstC l=(dstL code).map fun e=>posN vals e.1
 | [],[],_,_=>rfl
 | [],_::_,h,_=>by cases h
 | _::_,[],h,_=>by cases h
 | x::code,y::l,h,h2=>by
  obtain⟨h3,h4,h5⟩:=h2 0 (Nat.zero_lt_succ _)
  have h3:y.kind=x.kind:=h3
  have h4:y.dst=if x.dst.data.toList=[] then -1 else posN vals x.dst:=h4
  have h5:x.dst.data.toList=[]↔hasD x.kind=false:=h5
  have ih:=dstC_eq (vals:=vals) (code:=code) (l:=l) (by simpa using h) fun j hj=>h2 (j+1) (by simpa using hj)
  unfold dstC dstL at *
  by_cases e:x.dst.data.toList=[]
  ·rw[List.filterMap_cons,List.filterMap_cons,if_neg (by rw[h3,h5.1 e];simp),if_pos e]
   exact ih
  ·have e2:hasD x.kind=true:=by
    cases g:hasD x.kind with
    | true=>rfl
    | false=>exact absurd (h5.2 g) e
   rw[List.filterMap_cons,List.filterMap_cons,if_pos (by rw[h3];exact e2),if_neg e]
   rw[if_neg e] at h4
   simp only[List.map_cons]
   rw[h4,ih]
theorem dstsC_eq {vals:List ByteArray}:∀{bs:List Blk} {ls:List (List Op9)},ls.length=bs.length->(∀k,k<bs.length->dstC (ls.getD k [])=(dstL (bs.getD k blk0).code).map fun e=>posN vals e.1)->dstsC ls=(dsts bs).map fun e=>posN vals e.1
 | [],[],_,_=>rfl
 | [],_::_,h,_=>by cases h
 | _::_,[],h,_=>by cases h
 | b::bs,l::ls,h,h2=>by
  have ih:=dstsC_eq (vals:=vals) (bs:=bs) (ls:=ls) (by simpa using h) fun j hj=>h2 (j+1) (by simpa using hj)
  have h0:dstC l=(dstL b.code).map fun e=>posN vals e.1:=h2 0 (Nat.zero_lt_succ _)
  unfold dstsC dsts at *
  rw[List.flatMap_cons,List.flatMap_cons,List.map_append,h0,ih]
theorem op_right {p:Pol} {q:Prg} {c:Cod} (hc:CodIs p q c) {f:Fun} {b:Bod} (hb:BodIs (resOf p q) f b) {x:Ins} (hx:rightI x=true) {y:Op9} {o:Int×Int} (h:OpIs (resOf p q) (scpOf f) x y o):∃n d r a,ROp p c b y n d r a:=by
 obtain⟨n,d,r,a,hs⟩:∃n d r a,shp x.kind=some (n,d,r,a):=by
  rcases right_cases hx with⟨h3,hp⟩ | ⟨n,d,r,a,hs,h3,hi,_⟩
  ·exact⟨-1,true,false,false,by unfold shp;rw[if_pos h3]⟩
  ·exact⟨n,d,r,a,shp_of h3 hs⟩
 have hla:(arrNs q).length=c.arrays.length:=by rw[hc.arrs,List.length_map,List.length_map]
 have hlf:(fnNs q).length=c.funcs.length:=by rw[hc.len,List.length_map]
 have hlb:(blkNs f).length=b.blocks.length:=by rw[hb.len,List.length_map]
 obtain⟨g1,g2,g3,g4⟩:=refs_is hs h.refs
 have e1:(scpOf f).blks.length=b.blocks.length:=hlb
 have e2:(resOf p q).arrs.length=c.arrays.length:=hla
 have e3:(resOf p q).fns.length=c.funcs.length:=hlf
 rw[e1,e2,e3] at g3
 rw[e1] at g4
 have hy:=h.y
 have hd:=right_dst hx
 have hD:hasD x.kind=d:=by unfold hasD;rw[hs]
 refine⟨n,d,r,a,?_⟩
 subst hy
 have hargs:∀k∈x.args.map (posN (scpOf f).vals),0≤k∧k<b.vars:=fun k hk=>by
  obtain⟨s,hs,rfl⟩:=List.mem_map.1 hk
  rw[hb.vars]
  exact posN_lt (posB_iff.2 (h.args s hs))
 have hfrm:∀k∈x.frm.map (posN (scpOf f).blks),0≤k∧k<(b.blocks.length:Int):=fun k hk=>by
  obtain⟨s,hs,rfl⟩:=List.mem_map.1 hk
  rw[←hlb]
  exact posN_lt (posB_iff.2 (h.frm s hs))
 have hcall:x.kind=7->(x.args.length:Int)=(c.funcs.getD o.1.toNat bod0).params:=fun hk=>by
  have h7:=h.call hk
  have hr:r=true:=by
   rw[hk] at hs
   have:shp 7=some (-1,true,true,false):=rfl
   rw[this] at hs;cases hs;rfl
  have hm:=g3 hr
  rw[hk] at hm
  have hm:0≤o.1∧o.1<(c.funcs.length:Int):=hm
  have:=(hc.fn o.1.toNat (by rw[←hc.len];omega)).pars
  rw[this,h7];rfl
 rcases right_cases hx with⟨h3,hp⟩ | ⟨n',d',r',a',hs',h3,hi,hop⟩
 ·exact⟨hs,fun g=>if_pos (hd.2 (by rw[hD,g])),g1,g2,fun _=>hp.num,fun _=>hp.op,fun g=>by have g:x.kind=2:=g;omega,g3,g4,fun _=>by simp only[List.length_map];exact hp.len,fun g=>absurd h3 g,hargs,hfrm⟩
 ·have hs2:=shp_of h3 hs'
  rw[hs] at hs2
  cases hs2
  refine⟨hs,fun g=>if_pos (hd.2 (by rw[hD,g])),g1,g2,fun g=>?_,fun g=>?_,fun g=>opName_iff.1 (hop g),g3,g4,fun g=>absurd g h3,fun _=>⟨by show x.frm.map _=[];rw[hi.frm];rfl,?_⟩,hargs,hfrm⟩
  ·exact Classical.byContradiction fun hne=>g (hi.num hne)
  ·exact Classical.byContradiction fun hne=>g (hi.op.1 hne)
  ·show ((x.args.map (posN (scpOf f).vals)).length:Int)=if x.kind=7 then _ else n
   rw[List.length_map]
   split
   ·rename_i hk;exact hcall hk
   ·rename_i hk
    refine hi.alen.1 ?_
    rcases shape_all9 hs' with g | g | g | g | g | g | g | g | g | g | g | g<;>omega
theorem bod_right {p:Pol} {q:Prg} {c:Cod} (hc:CodIs p q c) {f:Fun} {b:Bod} (hb:BodIs (resOf p q) f b) (hf:FunR9 f):RBod p c b:=by
 have hins:∀k,k<f.blocks.length->∀j,j<(f.blocks.getD k blk0).code.length->∃o,OpIs (resOf p q) (scpOf f) ((f.blocks.getD k blk0).code.getD j (ins0 0)) ((b.blocks.getD k []).getD j op0) o:=fun k hk j hj=>op9_is (ins9_iff.1 ((hb.blk k hk).ins j hj)).op
 have hri:∀k,k<f.blocks.length->∀j,j<(f.blocks.getD k blk0).code.length->rightI ((f.blocks.getD k blk0).code.getD j (ins0 0))=true:=fun k hk j hj=>(hf.blk _ (getD_in _ hk)).2 _ (getD_in _ hj)
 have hD:dstsC b.blocks=(dsts f.blocks).map fun e=>posN (valNs f) e.1:=by
  refine dstsC_eq hb.len fun k hk=>dstC_eq (hb.blk k hk).len fun j hj=>?_
  obtain⟨o,ho⟩:=hins k hk j hj
  have hy:=ho.y
  exact⟨by rw[hy],by rw[hy],right_dst (hri k hk j hj)⟩
 refine⟨⟨by rw[hb.pars];omega,by rw[hb.pars];have:=hf.pl;omega⟩,⟨by rw[hb.len];exact hf.b1,by rw[hb.len];exact hf.b2⟩,?_,fun i hi=>?_,fun l hl=>?_⟩
 ·rw[hb.vars,hb.pars,hD,List.length_map,List.length_append,List.length_map];omega
 ·rw[hD] at hi ⊢
  rw[List.length_map] at hi
  have hv:(valNs f).getD (f.params.length+i) .empty=((dsts f.blocks).getD i (.empty,0)).1:=by
   rw[List.getD_eq_getElem?_getD,List.getD_eq_getElem?_getD,List.getElem?_append_right (by omega),Nat.add_sub_cancel_left,List.getElem?_map,List.getElem?_eq_getElem hi];rfl
  have hl:f.params.length+i<(valNs f).length:=by rw[List.length_append,List.length_map];omega
  have:=pos_at hb.nv hl
  rw[hv] at this
  rw[hb.pars,List.getD_eq_getElem?_getD,List.getElem?_map,List.getElem?_eq_getElem hi]
  rw[List.getD_eq_getElem?_getD,List.getElem?_eq_getElem hi] at this
  show posN (valNs f) ((dsts f.blocks)[i]).1=_
  have this:posN (valNs f) ((dsts f.blocks)[i]).1=((f.params.length+i:Nat):Int):=this
  rw[this];omega
 ·obtain⟨k,hk,rfl⟩:=List.getElem_of_mem hl
  have hk2:k<f.blocks.length:=by rw[←hb.len];exact hk
  have hB:=hb.blk k hk2
  have eL:b.blocks.getD k []=b.blocks[k]:=by rw[List.getD_eq_getElem?_getD,List.getElem?_eq_getElem hk];rfl
  rw[eL] at hB
  have hkind:∀j,j<(f.blocks.getD k blk0).code.length->(b.blocks[k].getD j op0).kind=((f.blocks.getD k blk0).code.getD j (ins0 0)).kind:=fun j hj=>by
   obtain⟨o,ho⟩:=hins k hk2 j hj
   have:=ho.y
   rw[eL] at this
   rw[this]
  have he:=hB.e
  unfold endOK at he
  rw[Bool.and_eq_true,decide_eq_true_eq] at he
  refine⟨by rw[hB.len];exact he.1,fun j hj=>?_,fun j hj=>?_,fun j hj h3 h0=>?_⟩
  ·rw[hB.len] at hj
   obtain⟨o,ho⟩:=hins k hk2 j hj
   rw[eL] at ho
   exact op_right hc hb (hri k hk2 j hj) ho
  ·rw[hB.len] at hj ⊢
   rw[hkind j hj]
   refine⟨(ins9_iff.1 (hB.ins j hj)).e,fun g=>?_⟩
   rw[show j=(f.blocks.getD k blk0).code.length-1 by omega];exact he.2
  ·rw[hB.len] at hj
   rw[hkind j hj] at h3
   rw[hkind (j-1) (by omega)]
   exact (ins9_iff.1 (hB.ins j hj)).ph h3 h0
theorem cod_right {p:Pol} {q:Prg} {c:Cod} (hp:rightP p=true) (hq:PrgR9 q) (hc:CodIs p q c):RCod p c:=by
 have hm:=posN_lt (posB_iff.2 hc.mn)
 rw[←hc.main,List.length_map,←hc.len] at hm
 have hbod:∀i,i<q.funcs.length->RBod p c (c.funcs.getD i bod0):=fun i hi=>bod_right hc (hc.fn i hi) (hq.fn _ (getD_in _ hi))
 refine⟨hp,by rw[hc.arrs,List.length_map];exact hq.al,by rw[hc.len];exact hq.fl,hm,?_,fun a ha=>?_,fun b hb=>?_,?_⟩
 ·have:=(hc.fn c.main.toNat (by rw[←hc.len];omega)).pars
  rw[this]
  have h0:=hc.mp
  rw[←hc.main] at h0
  unfold parsN at h0
  rw[h0];rfl
 ·rw[hc.arrs] at ha
  obtain⟨a',ha',rfl⟩:=List.mem_map.1 ha
  have h1:=hq.arr a' ha'
  have h2:=hc.lv a' ha'
  have h3:=idxS_lt h2
  exact⟨⟨h1.s1,h1.s2⟩,h2,by show idxS p.lev a'.level<_;omega⟩
 ·obtain⟨i,hi,rfl⟩:=List.getElem_of_mem hb
  have:=hbod i (by rw[←hc.len];exact hi)
  rwa [List.getD_eq_getElem?_getD,List.getElem?_eq_getElem hi] at this
 ·have:(c.funcs.map fun b=>(b.blocks.map fun l=>l.length).sum)=q.funcs.map fun f=>(f.blocks.map fun b=>b.code.length).sum:=by
   refine map_ext2 bod0 fun0 hc.len fun i hi=>?_
   have hb:=hc.fn i hi
   congr 1
   exact map_ext2 [] blk0 hb.len fun k hk=>(hb.blk k hk).len
  rw[this];exact hq.all
end Go.Proofs.YtojhdmfkfkfcbaaGreatDoor
namespace Go.Proofs.YtojhdmfkfkfcbaaGreatDoor
open Go.Sx
set_option linter.unusedVariables false
set_option linter.unusedSimpArgs false
def blkB (b:UInt8):Bool:=decide (b=32)||decide (b=9)
def byt (s:ByteArray) (i:Nat):UInt8:=s.data.toList.getD i 0
theorem byt_bt (s:ByteArray) (i:Nat):(byt s i).toNat=bt s i:=by
 have h:=sb_bt s i
 unfold sb at h
 unfold byt
 omega
theorem blk_bt (s:ByteArray) (i:Nat):blkB (byt s i)=true↔(bt s i=32∨bt s i=9):=by
 rw[←byt_bt]
 unfold blkB
 simp only[Bool.or_eq_true,decide_eq_true_eq,←UInt8.toNat_inj]
 exact Iff.rfl
theorem size_l (s:ByteArray):s.data.toList.length=s.size:=Array.length_toList
abbrev tl (s:ByteArray):List UInt8:=s.data.toList
theorem tl_nil (s:ByteArray):tl s=[]↔s.size=0:=by
 rw[←List.length_eq_zero_iff,size_l]
def okB (l:List UInt8):Bool:=(rl ⟨l.toArray⟩).all okR
theorem ba_l (s:ByteArray):(⟨s.data.toList.toArray⟩:ByteArray)=s:=by cases s;simp
theorem ok_bad (s:ByteArray):0≤badV s s.size 0↔okB s.data.toList=false:=by
 unfold okB
 rw[ba_l]
 have:=(bad_rl s).2
 cases h:(rl s).all okR with
 | true=>rw[h] at this;have:=this.2 rfl;simp;omega
 | false=>rw[h] at this;simp at this;simp;omega
end Go.Proofs.YtojhdmfkfkfcbaaGreatDoor
namespace Go.Proofs.YtojhdmfkfkfcbaaGreatDoor
open Go.Sx
set_option linter.unusedVariables false
set_option linter.unusedSimpArgs false
set_option maxRecDepth 100000
theorem letB_dec {sz p a b c d:Nat} (ha:a<256) (h:letB ((dec sz p a b c d).1:Int)=true∨digB ((dec sz p a b c d).1:Int)=true):(dec sz p a b c d).2≤2∧a≠10∧a≠32∧a≠9∧a≠35∧(1<(dec sz p a b c d).2->127<b):=by
 have hr:((dec sz p a b c d).1≤969∧48≤(dec sz p a b c d).1):=by
  unfold letB digB at h
  simp only[Bool.or_eq_true,Bool.and_eq_true,decide_eq_true_eq] at h
  omega
 revert hr
 unfold dec
 repeat' split
 all_goals dsimp only
 all_goals omega
theorem nameW_facts (s:ByteArray):∀(n p:Nat) (c:Int),s.size≤p+n->0≤c->c≤24->nameW s n p c=true->(s.size:Int)≤p+2*(24-c)∧∀k,p≤k->k<s.size->bt s k≠10∧bt s k≠32∧bt s k≠9∧bt s k≠35
 | 0,p,c,h,_,_,_=>⟨by omega,fun k h1 h2=>by omega⟩
 | n+1,p,c,h,h0,h1,hw=>by
  rw[nameW] at hw
  split at hw
  ·rename_i hp
   split at hw
   ·cases hw
   ·rename_i hg
    split at hw
    ·cases hw
    ·have hd:=decode_pos s p
     obtain⟨i1,i2⟩:=nameW_facts s n (p+(Utf8.decode s p).2) (c+1) (by omega) (by omega) (by omega) hw
     have hg:letB ((Utf8.decode s p).1:Int)=true∨digB ((Utf8.decode s p).1:Int)=true:=by
      cases e1:letB ((Utf8.decode s p).1:Int) with
      | true=>exact .inl rfl
      | false=>
       cases e2:digB ((Utf8.decode s p).1:Int) with
       | true=>exact .inr rfl
       | false=>rw[e1,e2] at hg;simp at hg
     rw[decode_eq] at hg
     have:=letB_dec (bt_lt s p) hg
     rw[←decode_eq] at this
     refine⟨by omega,fun k k1 k2=>?_⟩
     by_cases e:k=p
     ·subst e;exact⟨this.2.1,this.2.2.1,this.2.2.2.1,this.2.2.2.2.1⟩
     ·by_cases e1:p+(Utf8.decode s p).2≤k
      ·exact i2 k e1 k2
      ·have e3:k=p+1:=by omega
       have:=this.2.2.2.2.2 (by omega)
       rw[e3];omega
  ·exact⟨by omega,fun k h1 h2=>by omega⟩
theorem nameW_ok (s:ByteArray):∀(n p:Nat) (c:Int),nameW s n p c=true->(dl s n p).all okR=true
 | 0,p,c,_=>rfl
 | n+1,p,c,hw=>by
  rw[nameW] at hw
  rw[dl]
  split at hw
  ·rename_i hp
   rw[if_pos hp]
   split at hw
   ·cases hw
   ·rename_i hg
    split at hw
    ·cases hw
    ·rw[List.all_cons,nameW_ok s n _ _ hw,Bool.and_true]
     unfold okR
     by_cases e:(Utf8.decode s p).1=65533
     ·rw[e,show letB ((65533:Nat):Int)=false from by decide,show digB ((65533:Nat):Int)=false from by decide] at hg
      simp at hg
     ·simp [e]
  ·rename_i hp
   rw[if_neg hp];rfl
structure GW (w:ByteArray):Prop where
 ne:tl w≠[]
 no:∀b∈tl w,b≠10∧blkB b=false
 ok:okB (tl w)=true
theorem gw_name {s:ByteArray} (h:nameB s=true):GW s∧s.size≤48∧sb s 0≠35:=by
 unfold nameB at h
 rw[Bool.and_eq_true] at h
 have h:=h.1
 obtain⟨h1,h2⟩:=nameW_facts s s.size 0 0 (by omega) (by omega) (by omega) h
 have hne:s.size≠0:=fun e=>by
  rw[e] at h
  exact absurd h (by rw[nameW];decide)
 have hok:badV s s.size 0<0:=(bad_rl s).2.2 (nameW_ok s s.size 0 0 h)
 refine⟨⟨fun e=>hne ((tl_nil s).1 e),fun b hb=>?_,?_⟩,by omega,?_⟩
 ·obtain⟨k,hk,rfl⟩:=List.getElem_of_mem hb
  rw[size_l] at hk
  have:=h2 k (Nat.zero_le _) hk
  have e:(tl s)[k]'(by rw[size_l];exact hk)=byt s k:=by
   unfold byt
   rw[List.getD_eq_getElem?_getD,List.getElem?_eq_getElem (by rw[size_l];exact hk)];rfl
  rw[e]
  refine⟨fun q=>this.1 (by rw[←byt_bt,q];rfl),?_⟩
  cases q:blkB (byt s k) with
  | false=>rfl
  | true=>have:=(blk_bt s k).1 q;omega
 ·have:=ok_bad s
  cases q:okB (tl s) with
  | true=>rfl
  | false=>have:=this.2 q;omega
 ·have:=h2 0 (Nat.le_refl _) (by omega)
  rw[sb_bt];omega
def joinL:List ByteArray->List UInt8
 | []=>[]
 | [w]=>tl w
 | w::v::r=>tl w++32::joinL (v::r)
def GL (ws:List ByteArray):Prop:=∃w r,ws=w::r∧(∀x∈ws,GW x)∧sb w 0≠35
def idxK (K:List (List UInt8)) (k:List UInt8):Int:=idxF (fun i=>decide (K.getD i []=k)) K.length 0
theorem getK {α:Type} (f:α->List UInt8) (a0:α) (l:List α) (h0:f a0=[]) (i:Nat):(l.map f).getD i []=f (l.getD i a0):=by
 rw[List.getD_eq_getElem?_getD,List.getD_eq_getElem?_getD,List.getElem?_map]
 cases l[i]? with
 | none=>exact h0.symm
 | some x=>rfl
theorem idxS_K (l:List ByteArray) (s:ByteArray):idxS l s=idxK (l.map tl) (tl s):=by
 unfold idxS idxK
 rw[List.length_map]
 congr 1
 funext i
 rw[getK tl .empty l rfl i]
theorem idxC_K (l:List Chan) (s:ByteArray):idxC l s=idxK (l.map fun c=>tl c.1) (tl s):=by
 unfold idxC idxK
 rw[List.length_map]
 congr 1
 funext i
 rw[getK (fun c:Chan=>tl c.1) chan0 l rfl i]
theorem idxF_at {p:Nat->Bool}:∀{n i k:Nat},idxF p n i=(k:Int)↔i≤k∧k<i+n∧p k=true∧∀j,i≤j->j<k->p j=false
 | 0,i,k=>by
  rw[idxF]
  exact⟨fun h=>by omega,fun h=>by omega⟩
 | n+1,i,k=>by
  rw[idxF]
  cases hp:p i with
  | true=>
   rw[if_pos rfl]
   constructor
   ·intro h
    obtain rfl:i=k:=by omega
    exact⟨Nat.le_refl _,by omega,hp,fun j h1 h2=>by omega⟩
   ·rintro ⟨h1,h2,h3,h4⟩
    by_cases e:i=k
    ·rw[e]
    ·have:=h4 i (Nat.le_refl _) (by omega)
     rw[hp] at this;cases this
  | false=>
   rw[if_neg (by simp),idxF_at]
   constructor
   ·rintro ⟨h1,h2,h3,h4⟩
    refine⟨by omega,by omega,h3,fun j j1 j2=>?_⟩
    by_cases e:j=i
    ·rw[e];exact hp
    ·exact h4 j (by omega) j2
   ·rintro ⟨h1,h2,h3,h4⟩
    have:i≠k:=fun e=>by rw[e] at hp;rw[hp] at h3;cases h3
    exact⟨by omega,by omega,h3,fun j j1 j2=>h4 j (by omega) j2⟩
theorem K_get {K:List (List UInt8)} {i:Nat} (h:i<K.length):K.getD i []=K[i]:=by
 rw[List.getD_eq_getElem?_getD,List.getElem?_eq_getElem h];rfl
theorem idxK_lt {K:List (List UInt8)} {k:List UInt8}:idxK K k<0↔k∉K:=by
 have:0≤idxK K k↔k∈K:=by
  unfold idxK
  rw[idxF_iff]
  constructor
  ·rintro ⟨j,_,h1,h2⟩
   have h1:j<K.length:=by omega
   rw[decide_eq_true_eq,K_get h1] at h2
   rw[←h2];exact List.getElem_mem h1
  ·intro h
   obtain⟨j,hj,rfl⟩:=List.getElem_of_mem h
   exact⟨j,Nat.zero_le _,by omega,decide_eq_true (K_get hj)⟩
 rw[←this];omega
theorem idxK_at {K:List (List UInt8)} (hn:K.Nodup) {i:Nat} (h:i<K.length):idxK K (K.getD i [])=i:=by
 unfold idxK
 refine idxF_at.2 ⟨Nat.zero_le _,by omega,decide_eq_true rfl,fun j _ hj=>decide_eq_false ?_⟩
 rw[K_get h,K_get (by omega)]
 intro e
 have:=(List.getElem_inj hn).1 e
 omega
theorem nodup_of {K:List (List UInt8)} (h:∀i,i<K.length->idxK K (K.getD i [])=i):K.Nodup:=by
 rw[List.nodup_iff_pairwise_ne,List.pairwise_iff_getElem]
 intro i j hi hj hij e
 have:=h j hj
 unfold idxK at this
 have:=(idxF_at.1 this).2.2.2 i (Nat.zero_le _) hij
 rw[decide_eq_false_iff_not,K_get hi,K_get hj] at this
 exact this e
def wB (l:List UInt8):ByteArray:=⟨l.toArray⟩
def levW (l:List ByteArray):List (List ByteArray):=l.map fun s=>[wB wLevel,s]
def flowW (lev:List ByteArray) (ps:List (Nat×Nat)):List (List ByteArray):=ps.map fun c=>[wB wFlow,lev.getD c.1 .empty,lev.getD c.2 .empty]
def chanW (k:List UInt8) (lev:List ByteArray) (l:List Chan):List (List ByteArray):=l.map fun c=>[wB k,c.1,lev.getD c.2.toNat .empty]
def depW (d:Int):List (List ByteArray):=[[wB wDepth,showV d]]
abbrev NL (l:List ByteArray):Prop:=(l.map tl).Nodup
abbrev NC (l:List Chan):Prop:=(l.map fun c=>tl c.1).Nodup
theorem lev_get {l:List ByteArray} (h:∀s∈l,nameB s=true) {i:Nat} (hi:i<l.length):nameB (l.getD i .empty)=true:=h _ (by rw[List.getD_eq_getElem?_getD,List.getElem?_eq_getElem hi];exact List.getElem_mem hi)
theorem idxS_at {l:List ByteArray} (hn:NL l) {i:Nat} (hi:i<l.length):idxS l (l.getD i .empty)=i:=by
 rw[idxS_K,←getK tl .empty l rfl i]
 exact idxK_at hn (by rw[List.length_map];exact hi)
def OKC (lev:List ByteArray) (c:Chan):Prop:=nameB c.1=true∧0≤c.2∧c.2<lev.length
theorem show_ok:∀k:Fin 65,1≤k.1->numV (showV (k.1:Int))=((k.1:Int),true)∧tl (showV (k.1:Int))≠[]∧(∀b∈tl (showV (k.1:Int)),b≠10∧blkB b=false)∧okB (tl (showV (k.1:Int)))=true∧(showV (k.1:Int)).size≤2:=by decide +kernel
theorem depth_ok {d:Int} (h1:1≤d) (h2:d≤64):numV (showV d)=(d,true)∧GW (showV d)∧(showV d).size≤2:=by
 obtain⟨k,rfl⟩:∃k:Nat,d=k:=⟨d.toNat,by omega⟩
 obtain⟨a,b,c,e,f⟩:=show_ok ⟨k,by omega⟩ (by show 1≤k;omega)
 exact⟨a,⟨b,c,e⟩,f⟩
structure PolR (p:Pol):Prop where
 up:rightM p.up=true
 len:p.up.length=p.lev.length
 nl:NL p.lev
 names:∀s∈p.lev,nameB s=true
 ni:NC p.ins
 no:NC p.outs
 il:p.ins.length≤32
 ol:p.outs.length≤32
 iok:∀c∈p.ins,OKC p.lev c
 ook:∀c∈p.outs,OKC p.lev c
 depth:1≤p.depth∧p.depth≤64
theorem chans_iff (lev:List ByteArray) (l:List Chan):chansB lev.length l=true↔l.length≤32∧NC l∧∀c∈l,OKC lev c:=by
 unfold chansB
 rw[Bool.and_eq_true,decide_eq_true_eq,allF_iff]
 have hm:∀{i},i<l.length->l.getD i chan0∈l:=fun {i} hi=>by rw[List.getD_eq_getElem?_getD,List.getElem?_eq_getElem hi];exact List.getElem_mem hi
 have hk:∀i,(l.map fun c=>tl c.1).getD i []=tl (l.getD i chan0).1:=getK (fun c:Chan=>tl c.1) chan0 l rfl
 refine and_congr Iff.rfl ⟨fun h=>?_,fun ⟨h1,h2⟩ i _ hi=>?_⟩
 ·have each:∀i,i<l.length->nameB (l.getD i chan0).1=true∧idxC l (l.getD i chan0).1=(i:Int)∧0≤(l.getD i chan0).2∧(l.getD i chan0).2<(lev.length:Int):=fun i hi=>by
   have:=h i (Nat.zero_le _) (by omega)
   unfold chnB at this
   simp only[Bool.and_eq_true,decide_eq_true_eq] at this
   exact⟨this.1.1.1,this.1.1.2,this.1.2,this.2⟩
  refine⟨nodup_of fun i hi=>?_,fun c hc=>?_⟩
  ·rw[List.length_map] at hi
   rw[hk,←idxC_K];exact (each i hi).2.1
  ·obtain⟨i,hi,rfl⟩:=List.getElem_of_mem hc
   have:=each i hi
   rw[List.getD_eq_getElem?_getD,List.getElem?_eq_getElem hi] at this
   exact⟨this.1,this.2.2.1,this.2.2.2⟩
 ·have hi:i<l.length:=by omega
  obtain⟨o1,o2,o3⟩:=h2 _ (hm hi)
  unfold chnB
  have:idxC l (l.getD i chan0).1=i:=by
   rw[idxC_K,←hk];exact idxK_at h1 (by rw[List.length_map];exact hi)
  rw[o1,decide_eq_true this,decide_eq_true o2,decide_eq_true o3];rfl
theorem right_iff (p:Pol):rightP p=true↔PolR p:=by
 unfold rightP headB
 have hk:∀i,(p.lev.map tl).getD i []=tl (p.lev.getD i .empty):=getK tl .empty p.lev rfl
 simp only[Bool.and_eq_true,decide_eq_true_eq,chans_iff,allF_iff]
 constructor
 ·rintro ⟨⟨⟨⟨⟨h1,h2⟩,h3⟩,h4⟩,h5⟩,h6,h7⟩
  have each:∀i,i<p.lev.length->nameB (p.lev.getD i .empty)=true∧idxS p.lev (p.lev.getD i .empty)=(i:Int):=fun i hi=>by
   have:=h5 i (Nat.zero_le _) (by omega)
   unfold levB at this
   simp only[Bool.and_eq_true,decide_eq_true_eq] at this
   exact this
  refine⟨h2,h1.symm,nodup_of fun i hi=>?_,fun s hs=>?_,h6.2.1,h7.2.1,h6.1,h7.1,h6.2.2,h7.2.2,h3,h4⟩
  ·rw[List.length_map] at hi
   rw[hk,←idxS_K];exact (each i hi).2
  ·obtain⟨i,hi,rfl⟩:=List.getElem_of_mem hs
   have:=(each i hi).1
   rwa [List.getD_eq_getElem?_getD,List.getElem?_eq_getElem hi] at this
 ·intro h
  refine⟨⟨⟨⟨⟨h.len.symm,h.up⟩,h.depth.1⟩,h.depth.2⟩,fun i _ hi=>?_⟩,⟨h.il,h.ni,h.iok⟩,h.ol,h.no,h.ook⟩
  have hi:i<p.lev.length:=by omega
  unfold levB
  rw[lev_get h.names hi,decide_eq_true (idxS_at h.nl hi)];rfl
theorem gw_key:(∀k∈[wLevel,wFlow,wInput,wOutput,wDepth],(tl (wB k)≠[]∧(∀b∈tl (wB k),b≠10∧blkB b=false)∧okB (tl (wB k))=true)∧sb (wB k) 0≠35):=by decide +kernel
theorem gl_of {k:List UInt8} (hk:k∈[wLevel,wFlow,wInput,wOutput,wDepth]) {ws:List ByteArray} (h:∀w∈ws,GW w):GL (wB k::ws):=by
 obtain⟨⟨a,b,c⟩,d⟩:=gw_key k hk
 refine⟨_,_,rfl,fun x hx=>?_,d⟩
 rcases List.mem_cons.1 hx with rfl | hx
 ·exact⟨a,b,c⟩
 ·exact h x hx
theorem parts {p:Pol} (h:PolR p):(∀ws∈levW p.lev,GL ws∧(joinL ws).length+1≤55)∧(∀ws∈flowW p.lev (coversM p.up),GL ws∧(joinL ws).length+1≤103)∧(∀ws∈chanW wInput p.lev p.ins,GL ws∧(joinL ws).length+1≤104)∧(∀ws∈chanW wOutput p.lev p.outs,GL ws∧(joinL ws).length+1≤105)∧(∀ws∈depW p.depth,GL ws∧(joinL ws).length+1≤9):=by
 have ho:orderM p.up=true:=by have:=h.up;unfold rightM at this;rw[Bool.and_eq_true] at this;exact this.1
 have two:∀(k:List UInt8) (n:Nat),k∈[wLevel,wFlow,wInput,wOutput,wDepth]->(wB k).size=n->∀a b:ByteArray,nameB a=true->nameB b=true->GL [wB k,a,b]∧(joinL [wB k,a,b]).length+1≤n+99:=fun k n hk hn a b ha hb=>by
  have qa:=gw_name ha
  have qb:=gw_name hb
  refine⟨gl_of hk fun w hw=>?_,?_⟩
  ·simp at hw
   rcases hw with rfl | rfl
   ·exact qa.1
   ·exact qb.1
  ·simp only[joinL,List.length_append,List.length_cons,size_l];omega
 refine⟨fun ws hws=>?_,fun ws hws=>?_,fun ws hws=>?_,fun ws hws=>?_,fun ws hws=>?_⟩
 ·obtain⟨s,hs,rfl⟩:=List.mem_map.1 hws
  have q:=gw_name (h.names s hs)
  refine⟨gl_of (by decide) fun w hw=>by simp at hw;subst hw;exact q.1,?_⟩
  simp only[joinL,List.length_append,List.length_cons,size_l]
  have:(wB wLevel).size=5:=by decide
  omega
 ·obtain⟨c,hc,rfl⟩:=List.mem_map.1 hws
  obtain⟨c1,c2⟩:=covers_lt (ord_of ho) c hc
  rw[h.len] at c1 c2
  exact two wFlow 4 (by decide) (by decide) _ _ (lev_get h.names c1) (lev_get h.names c2)
 ·obtain⟨c,hc,rfl⟩:=List.mem_map.1 hws
  obtain⟨c1,c2,c3⟩:=h.iok c hc
  exact two wInput 5 (by decide) (by decide) _ _ c1 (lev_get h.names (by omega))
 ·obtain⟨c,hc,rfl⟩:=List.mem_map.1 hws
  obtain⟨c1,c2,c3⟩:=h.ook c hc
  exact two wOutput 6 (by decide) (by decide) _ _ c1 (lev_get h.names (by omega))
 ·obtain rfl:=List.mem_singleton.1 hws
  obtain⟨_,q1,q2⟩:=depth_ok h.depth.1 h.depth.2
  refine⟨gl_of (by decide) fun w hw=>by simp at hw;subst hw;exact q1,?_⟩
  simp only[joinL,List.length_append,List.length_cons,size_l]
  have:(wB wDepth).size=5:=by decide
  omega
theorem closes {p:Pol} (h:PolR p) {ps:List (Nat×Nat)} (hps:∀q,q∈ps↔q∈coversM p.up) (n:Int) (r:Rdr) (h1:r.lev=p.lev) (h2:r.flows=ps) (h3:r.depth=p.depth):endR n r=(⟨p.lev,p.up,r.ins,r.outs,p.depth⟩,0,0):=by
 have ho:orderM p.up=true:=by have:=h.up;unfold rightM at this;rw[Bool.and_eq_true] at this;exact this.1
 have hl:=(order_len ho).1
 have hd:=h.depth
 have hlen:=h.len
 unfold endR
 rw[h1,h2,h3,←hlen,close_covers (ord_of ho) hps,if_neg (by omega),if_pos h.up]
structure RInv (r:Rdr):Prop where
 nl:NL r.lev
 names:∀s∈r.lev,nameB s=true
 ni:NC r.ins
 no:NC r.outs
 iok:∀c∈r.ins,OKC r.lev c
 ook:∀c∈r.outs,OKC r.lev c
 depth:r.depth=0∨(1≤r.depth∧r.depth≤64)
theorem allW_name {w:List ByteArray} (h:allW w=true) (hk:(w_ w 0).data.toList≠wDepth) {j:Nat} (hj:j<w.tail.length):nameB (w_ w.tail j)=true:=by
 unfold allW at h
 rw[List.all_eq_true] at h
 have:=h (w_ w.tail j) (by unfold w_;rw[List.getD_eq_getElem?_getD,List.getElem?_eq_getElem hj];exact List.getElem_mem hj)
 unfold okW at this
 rw[decide_eq_false hk] at this
 simpa using this
theorem nd_snoc {α:Type} {K:List α} {k:α} (h:K.Nodup) (hk:k∉K):(K++[k]).Nodup:=by
 rw[List.nodup_append]
 exact⟨h,by simp,fun a ha b hb=>by rw[List.mem_singleton.1 hb];exact fun e=>hk (e▸ha)⟩
theorem rinv_chan {lev:List ByteArray} {l:List Chan} {w:List ByteArray} (hN:nameB (w_ w 0)=true) (hn:NC l) (hO:∀c∈l,OKC lev c):NC (chanL lev l w)∧∀c∈chanL lev l w,OKC lev c:=by
 unfold chanL
 split
 ·rename_i h0
  unfold chanE at h0
  split at h0
  ·omega
  ·rename_i h1
   split at h0
   ·omega
   ·rename_i h2
    refine⟨?_,fun c hc=>?_⟩
    ·rw[NC,List.map_append]
     refine nd_snoc hn ?_
     have:idxC l (w_ w 0)<0:=by omega
     rwa [idxC_K,idxK_lt] at this
    ·rcases List.mem_append.1 hc with hc | hc
     ·exact hO c hc
     ·rw[List.mem_singleton.1 hc]
      have:=idxS_lt (l:=lev) (s:=w_ w 1) (by omega)
      exact⟨hN,by show 0≤idxS _ _;omega,by show idxS _ _<_;omega⟩
 ·exact⟨hn,hO⟩
theorem rinv_read {r:Rdr} (h:RInv r) (w:List ByteArray):RInv (readR r w).1:=by
 have pick:∀{k d},(w.length=k+1->allW w=true->RInv d.1)->RInv (pickR r w k d).1:=fun {k d} hd=>by
  unfold pickR;split
  ·rename_i hc;exact hd hc.1 hc.2
  ·exact h
 have tl_len:∀{k},w.length=k+1->w.tail.length=k:=fun {k} e=>by rw[List.length_tail];omega
 unfold readR
 split
 ·rename_i e
  refine pick fun hl hw=>?_
  unfold levelR
  split
  ·exact h
  ·rename_i h1
   split
   ·exact h
   ·refine⟨?_,fun s hs=>?_,h.ni,h.no,fun c hc=>?_,fun c hc=>?_,h.depth⟩
    ·show NL (r.lev++[_])
     rw[NL,List.map_append]
     refine nd_snoc h.nl ?_
     have:idxS r.lev (w_ w.tail 0)<0:=by omega
     rwa [idxS_K,idxK_lt] at this
    ·rcases List.mem_append.1 hs with hs | hs
     ·exact h.names s hs
     ·rw[List.mem_singleton.1 hs]
      exact allW_name hw (by rw[e];decide) (by rw[tl_len hl];omega)
    ·have:=h.iok c hc
     exact⟨this.1,this.2.1,by have:=this.2.2;show c.2<((r.lev++[_]).length:Int);simp;omega⟩
    ·have:=h.ook c hc
     exact⟨this.1,this.2.1,by have:=this.2.2;show c.2<((r.lev++[_]).length:Int);simp;omega⟩
 split
 ·refine pick fun _ _=>?_
  unfold flowR
  split
  ·exact⟨h.nl,h.names,h.ni,h.no,h.iok,h.ook,h.depth⟩
  ·exact h
 split
 ·rename_i e
  refine pick fun hl hw=>?_
  have:=rinv_chan (lev:=r.lev) (allW_name hw (by rw[e];decide) (by rw[tl_len hl];omega)) h.ni h.iok
  exact⟨h.nl,h.names,this.1,h.no,this.2,h.ook,h.depth⟩
 split
 ·rename_i e
  refine pick fun hl hw=>?_
  have:=rinv_chan (lev:=r.lev) (allW_name hw (by rw[e];decide) (by rw[tl_len hl];omega)) h.no h.ook
  exact⟨h.nl,h.names,h.ni,this.1,h.iok,this.2,h.depth⟩
 split
 ·refine pick fun _ _=>?_
  unfold depthR
  split
  ·exact h
  ·split
   ·exact h
   ·exact⟨h.nl,h.names,h.ni,h.no,h.iok,h.ook, .inr (by show 1≤(numV _).1∧(numV _).1≤64;omega)⟩
 ·exact h
theorem lines_keep:∀(ls:List ByteArray) (at_:Int) (r r':Rdr) (n:Nat),RInv r->Kept r n->n+ls.length≤100000->linesF ls at_ r=.inr r'->RInv r'∧∃k,Kept r' k
 | [],at_,r,r',n,h,hk,_,e=>by cases e;exact⟨h,n,hk⟩
 | l::ls,at_,r,r',n,h,hk,hn,e=>by
  rw[List.length_cons] at hn
  rw[linesF] at e
  split at e
  ·split at e
   ·cases e
   ·exact lines_keep ls _ _ r' (n+1) (rinv_read h _) (kept_read hk (by omega) _) (by omega) e
  ·exact lines_keep ls _ _ r' n h hk (by omega) e
theorem parse_right {s:ByteArray} (h:(parseP s).2.2=0):PolR (parseP s).1:=by
 revert h
 unfold parseP
 split
 ·intro h;cases h
 ·rename_i hz
  split
  ·intro h;cases h
  ·split
   ·rename_i at_ e he
    intro h
    exfalso
    have:∀(ls:List ByteArray) (a:Int) (r:Rdr) (q:Int×Int),linesF ls a r=.inl q->q.2≠0:=fun ls=>by
     induction ls with
     | nil=>intro a r q hq;cases hq
     | cons l ls ih=>
      intro a r q hq
      rw[linesF] at hq
      split at hq
      ·split at hq
       ·rename_i hne
        cases hq;exact hne
       ·exact ih _ _ _ hq
      ·exact ih _ _ _ hq
    exact this _ _ _ _ he h
   ·rename_i r he
    have i0:RInv rdr0:=⟨List.nodup_nil,fun _ h=>(by cases h),List.nodup_nil,List.nodup_nil,fun _ h=>(by cases h),fun _ h=>(by cases h), .inl rfl⟩
    obtain⟨hi,k,hk⟩:=lines_keep (linesL s) 0 rdr0 r 0 i0 kept0 (by have:=(lines_ok s).2;omega) he
    unfold endR
    split
    ·intro h;cases h
    ·rename_i hc
     split
     ·rename_i hr
      intro _
      exact⟨hr,close_len _ _,hi.nl,hi.names,hi.ni,hi.no,hk.ins,hk.outs,hi.iok,hi.ook,by have:=hi.depth;show 1≤r.depth∧r.depth≤64;omega⟩
     ·intro h;cases h
theorem rng_mem {α:Type} {n:Nat} {f:Nat->α} {a:α}:a∈rng n f↔∃i,i<n∧f i=a:=by
 unfold rng;simp [List.mem_map,List.mem_range]
theorem rng_getD {α:Type} {n:Nat} {f:Nat->α} (d:α) {i:Nat} (h:i<n):(rng n f).getD i d=f i:=by
 rw[List.getD_eq_getElem?_getD,rng_get h];rfl
theorem rng_map {α β:Type} (n:Nat) (f:Nat->α) (g:α->β):(rng n f).map g=rng n fun i=>g (f i):=by
 unfold rng;rw[List.map_map];rfl
theorem rng_nodup {n:Nat} {f:Nat->ByteArray} (h:∀i j,i<n->j<n->f i=f j->i=j):(rng n f).Nodup:=by
 rw[List.nodup_iff_pairwise_ne,List.pairwise_iff_getElem]
 intro i j hi hj hij e
 rw[rng_len] at hi hj
 have e1:=rng_getD (f:=f) .empty hi
 have e2:=rng_getD (f:=f) .empty hj
 rw[List.getD_eq_getElem?_getD,List.getElem?_eq_getElem (by rw[rng_len];exact hi)] at e1
 rw[List.getD_eq_getElem?_getD,List.getElem?_eq_getElem (by rw[rng_len];exact hj)] at e2
 have e1:(rng n f)[i]'(by rw[rng_len];exact hi)=f i:=e1
 have e2:(rng n f)[j]'(by rw[rng_len];exact hj)=f j:=e2
 have:=h i j hi hj (by rw[←e1,←e2];exact e)
 omega
theorem rng_add {α:Type} (m:Nat) (f:Nat->α):∀n:Nat,rng (m+n) f=rng m f++rng n fun i=>f (m+i)
 | 0=>by simp [rng]
 | n+1=>by rw[←Nat.add_assoc,rng_succ,rng_succ,rng_add m f n,List.append_assoc]
theorem rng_ext {α:Type} (d:α) {l:List α} {n:Nat} {f:Nat->α} (h:l.length=n) (h2:∀i,i<n->l.getD i d=f i):l=rng n f:=by
 refine List.ext_getElem (by rw[h,rng_len]) fun i hi hj=>?_
 have h3:=h2 i (by omega)
 rw[List.getD_eq_getElem?_getD,List.getElem?_eq_getElem hi] at h3
 have h4:=rng_getD (f:=f) d (show i<n by omega)
 rw[List.getD_eq_getElem?_getD,List.getElem?_eq_getElem hj] at h4
 exact h3.trans h4.symm
theorem nm_row {c:UInt8} {n:Nat} (hn:n≤1000000):(rng n fun k=>nmN c (k:Int)).Nodup:=rng_nodup fun i j hi hj e=>by
 have:=(nm_inj (n:=(i:Int)) (m:=(j:Int)) (by unfold inI64;omega) (by unfold inI64;omega) e).2
 omega
theorem look_rng {n:Nat} {f:Nat->ByteArray} (hn:(rng n f).Nodup) {k:Int} (h:0≤k∧k<(n:Int)) (a:Int):lookV (rng n f) (f k.toNat) a=.ok k:=by
 have:=lookV_on hn (i:=k.toNat) (by rw[rng_len];omega) a
 rw[rng_getD _ (by omega)] at this
 rw[this]
 congr 1;omega
theorem look_nm {c:UInt8} {n:Nat} (hn:n≤1000000) {k:Int} (h:0≤k∧k<(n:Int)) (a:Int):lookV (rng n fun k=>nmN c (k:Int)) (nmN c k) a=.ok k:=by
 have this:lookV (rng n fun k=>nmN c (k:Int)) (nmN c ((k.toNat:Nat):Int)) a=.ok k:=look_rng (nm_row (c:=c) hn) h a
 rwa [Int.toNat_of_nonneg h.1] at this
theorem dstC_len (l:List Op9):(dstC l).length≤l.length:=List.length_filterMap_le _ _
theorem dstsC_len:∀bs:List (List Op9),(dstsC bs).length≤(bs.map fun l=>l.length).sum
 | []=>by simp [dstsC]
 | l::bs=>by
  have:=dstsC_len bs
  have h:=dstC_len l
  unfold dstsC at *
  rw[List.flatMap_cons,List.length_append,List.map_cons,List.sum_cons];omega
theorem vars_lt {p:Pol} {c:Cod} (h:RCod p c) {b:Bod} (hb:b∈c.funcs):b.vars≤5000:=by
 have h1:=h.bod b hb
 have h2:=dstsC_len b.blocks
 have h3:=sumg_mem (g:=fun b:Bod=>(b.blocks.map fun l=>l.length).sum) hb
 have h4:=h.all
 have h5:=h1.vars
 have h6:=h1.p0
 omega
theorem dst_in {p:Pol} {c:Cod} {b:Bod} (h:RBod p c b) {l:List Op9} (hl:l∈b.blocks) {x:Op9} (hx:x∈l) (hd:hasD x.kind=true):0≤x.dst∧x.dst<b.vars:=by
 have hm:x.dst∈dstsC b.blocks:=List.mem_flatMap.2 ⟨l,hl,List.mem_filterMap.2 ⟨x,hx,by rw[if_pos hd]⟩⟩
 obtain⟨i,hi,e⟩:=List.getElem_of_mem hm
 have h1:=h.seq i hi
 rw[List.getD_eq_getElem?_getD,List.getElem?_eq_getElem hi] at h1
 have h1:(dstsC b.blocks)[i]=b.params+i:=h1
 have h2:=h.vars
 have h3:=h.p0
 rw[←e,h1];omega
theorem op_in {p:Pol} {c:Cod} {b:Bod} (h:RBod p c b) {l:List Op9} (hl:l∈b.blocks) {x:Op9} (hx:x∈l):∃n d r a,ROp p c b x n d r a:=by
 obtain⟨j,hj,e⟩:=List.getElem_of_mem hx
 have:=(h.ops l hl).op j hj
 rw[List.getD_eq_getElem?_getD,List.getElem?_eq_getElem hj] at this
 have this:∃n d r a,ROp p c b l[j] n d r a:=this
 rwa [e] at this
theorem hasD_eq {p:Pol} {c:Cod} {b:Bod} {x:Op9} {n:Int} {d r a:Bool} (h:ROp p c b x n d r a):hasD x.kind=d:=by unfold hasD;rw[h.sh]
theorem ref_back {p:Pol} {c:Cod} (hc:RCod p c) {b:Bod} (hb:b∈c.funcs) {x:Op9} {n:Int} {d r a:Bool} (h:ROp p c b x n d r a) (q:Prg):(refN p c.main x).2=true∧fitsV (refN p c.main x).1 r=true∧fitsV (if x.kind=12 then nmN 98 x.alt else .empty) a=true∧refsV ⟨p,q,rng c.arrays.length fun k=>nmN 97 (k:Int),rng c.funcs.length fun i=>fnN c.main i⟩ ⟨rng b.blocks.length fun k=>nmN 98 (k:Int),rng b.vars.toNat fun k=>nmN 118 (k:Int)⟩ (raisedV p c.main x)=.ok (x.ref,x.alt):=by
 have hal:=hc.al
 have hfl:=hc.fl
 have hB:=hc.bod b hb
 have hbl:=hB.len
 have hP:=(right_iff p).1 hc.pol
 have hr1:=h.r1
 have ha1:=h.a1
 have hr0:=h.r0
 have ha0:=h.a0
 have on:∀{s:ByteArray},okN s=true->fitsV s true=true:=fun h=>by unfold fitsV;rw[h];rfl
 have off:fitsV .empty false=true:=by decide
 have ok97:∀k:Int,0≤k∧k<(c.arrays.length:Int)->okN (nmN 97 k)=true:=fun k hk=>nm_ok (by decide) (by decide) hk.1 (by omega)
 have ok98:∀k:Int,0≤k∧k<(b.blocks.length:Int)->okN (nmN 98 k)=true:=fun k hk=>nm_ok (by decide) (by decide) hk.1 (by omega)
 unfold raisedV refsV
 simp only
 unfold refN
 unfold mostR at hr1
 rcases shp_kind h.sh with⟨hk,rfl,rfl,rfl,rfl⟩ | ⟨h3,hs⟩
 ·simp [hk,off,hr0 rfl,ha0 rfl]
 rcases shape_all9 hs with⟨hk,rfl,rfl,rfl,rfl⟩ | ⟨hk,rfl,rfl,rfl,rfl⟩ | ⟨hk,rfl,rfl,rfl,rfl⟩ | ⟨hk,rfl,rfl,rfl,rfl⟩ | ⟨hk,rfl,rfl,rfl,rfl⟩ | ⟨hk,rfl,rfl,rfl,rfl⟩ | ⟨hk,rfl,rfl,rfl,rfl⟩ | ⟨hk,rfl,rfl,rfl,rfl⟩ | ⟨hk,rfl,rfl,rfl,rfl⟩ | ⟨hk,rfl,rfl,rfl,rfl⟩ | ⟨hk,rfl,rfl,rfl,rfl⟩ | ⟨hk,rfl,rfl,rfl,rfl⟩
 ·simp [hk,off,hr0 rfl,ha0 rfl]
 ·simp [hk,off,hr0 rfl,ha0 rfl]
 ·have hm:=hr1 rfl
  simp only[hk,true_or,or_true,if_true] at hm
  have e:=look_nm (c:=97) (n:=c.arrays.length) (by omega) hm x.at_
  simp [hk,off,ha0 rfl,on (ok97 _ hm),e,bd]
 ·have hm:=hr1 rfl
  simp only[hk,true_or,or_true,if_true] at hm
  have e:=look_nm (c:=97) (n:=c.arrays.length) (by omega) hm x.at_
  simp [hk,off,ha0 rfl,on (ok97 _ hm),e,bd]
 ·have hm:=hr1 rfl
  simp only[hk,true_or,or_true,if_true] at hm
  have e:=look_nm (c:=97) (n:=c.arrays.length) (by omega) hm x.at_
  simp [hk,off,ha0 rfl,on (ok97 _ hm),e,bd]
 ·have hm:0≤x.ref∧x.ref<(c.funcs.length:Int):=by
   have:=hr1 rfl
   simpa [hk] using this
  have hnd:(rng c.funcs.length fun i=>fnN c.main i).Nodup:=rng_nodup fun i j hi hj e=>by
   unfold fnN at e
   split at e<;>split at e
   ·omega
   ·exact absurd e (main_nm (by decide))
   ·exact absurd e.symm (main_nm (by decide))
   ·have:=(nm_inj (n:=(i:Int)) (m:=(j:Int)) (by unfold inI64;omega) (by unfold inI64;omega) e).2
    omega
  have e:=look_rng hnd hm x.at_
  have ef:fnN c.main x.ref.toNat=if x.ref=c.main then mainS else nmN 102 x.ref:=by
   unfold fnN;rw[Int.toNat_of_nonneg hm.1]
  rw[ef] at e
  have hok:okN (if x.ref=c.main then mainS else nmN 102 x.ref)=true:=by
   split
   ·decide
   ·exact nm_ok (by decide) (by decide) hm.1 (by omega)
  simp [hk,off,ha0 rfl,on hok,e,bd]
 ·have hm:0≤x.ref∧x.ref<(p.ins.length:Int):=by
   have:=hr1 rfl
   simpa [hk] using this
  have hin:inB9 x.ref p.ins.length=true:=by unfold inB9;simp [hm.1,hm.2]
  have hi:x.ref.toNat<p.ins.length:=by omega
  have hn:=(hP.iok _ (getD_in chan0 hi)).1
  have e:idxC p.ins (p.ins.getD x.ref.toNat chan0).1=x.ref:=by
   rw[idxC_K,←getK (fun c:Chan=>tl c.1) chan0 p.ins rfl x.ref.toNat,idxK_at hP.ni (by rw[List.length_map];exact hi)];omega
  obtain⟨v,hv⟩:∃v,(p.ins.getD x.ref.toNat chan0).1=v:=⟨_,rfl⟩
  have hok:okN (p.ins.getD x.ref.toNat chan0).1=true:=hn
  rw[show (p.ins.getD x.ref.toNat chan0).1=v from hv] at e hok
  have hok:=on hok
  simp only[hk,hin,if_true,ha0 rfl,hv]
  simp [off,hok,knownV,e,hm.1,bd]
 ·have hm:0≤x.ref∧x.ref<(p.outs.length:Int):=by
   have:=hr1 rfl
   simpa [hk] using this
  have hin:inB9 x.ref p.outs.length=true:=by unfold inB9;simp [hm.1,hm.2]
  have hi:x.ref.toNat<p.outs.length:=by omega
  have hn:=(hP.ook _ (getD_in chan0 hi)).1
  have e:idxC p.outs (p.outs.getD x.ref.toNat chan0).1=x.ref:=by
   rw[idxC_K,←getK (fun c:Chan=>tl c.1) chan0 p.outs rfl x.ref.toNat,idxK_at hP.no (by rw[List.length_map];exact hi)];omega
  obtain⟨v,hv⟩:∃v,(p.outs.getD x.ref.toNat chan0).1=v:=⟨_,rfl⟩
  have hok:okN (p.outs.getD x.ref.toNat chan0).1=true:=hn
  rw[show (p.outs.getD x.ref.toNat chan0).1=v from hv] at e hok
  have hok:=on hok
  simp only[hk,hin,if_true,ha0 rfl,hv]
  simp [off,hok,knownV,e,hm.1,bd]
 ·have hm:0≤x.ref∧x.ref<(p.lev.length:Int):=by
   have:=hr1 rfl
   simpa [hk] using this
  have hin:inB9 x.ref p.lev.length=true:=by unfold inB9;simp [hm.1,hm.2]
  have hi:x.ref.toNat<p.lev.length:=by omega
  obtain⟨v,hv⟩:∃v,p.lev.getD x.ref.toNat .empty=v:=⟨_,rfl⟩
  have hok:okN (p.lev.getD x.ref.toNat .empty)=true:=lev_get hP.names hi
  have e:idxS p.lev (p.lev.getD x.ref.toNat .empty)=x.ref:=by rw[idxS_at hP.nl hi];omega
  rw[show p.lev.getD x.ref.toNat .empty=v from hv] at e hok
  have hok:=on hok
  simp only[hk,hin,if_true,ha0 rfl,hv]
  simp [off,hok,knownV,e,hm.1,bd]
 ·have hm:0≤x.ref∧x.ref<(b.blocks.length:Int):=by
   have:=hr1 rfl
   simpa [hk] using this
  have e:=look_nm (c:=98) (n:=b.blocks.length) (by omega) hm x.at_
  simp [hk,off,ha0 rfl,on (ok98 _ hm),e,bd]
 ·have hm:0≤x.ref∧x.ref<(b.blocks.length:Int):=by
   have:=hr1 rfl
   simpa [hk] using this
  have hm2:=ha1 rfl
  have e:=look_nm (c:=98) (n:=b.blocks.length) (by omega) hm x.at_
  have e2:=look_nm (c:=98) (n:=b.blocks.length) (by omega) hm2 x.at_
  simp [hk,on (ok98 _ hm),on (ok98 _ hm2),e,e2,bd]
 ·simp [hk,off,hr0 rfl,ha0 rfl]
abbrev scpR (b:Bod):Scp:=⟨rng b.blocks.length fun k=>nmN 98 (k:Int),rng b.vars.toNat fun k=>nmN 118 (k:Int)⟩
abbrev resR9 (p:Pol) (c:Cod) (q:Prg):Res:=⟨p,q,rng c.arrays.length fun k=>nmN 97 (k:Int),rng c.funcs.length fun i=>fnN c.main i⟩
theorem raised_right {p:Pol} {c:Cod} (hc:RCod p c) {b:Bod} (hb:b∈c.funcs) {l:List Op9} (hl:l∈b.blocks) {x:Op9} (hx:x∈l):rightI (raisedV p c.main x)=true:=by
 obtain⟨n,d,r,a,h⟩:=op_in (hc.bod b hb) hl hx
 have hB:=hc.bod b hb
 have hv:=vars_lt hc hb
 have hbl:=hB.len
 obtain⟨_,f1,f2,_⟩:=ref_back hc hb h ⟨[],[]⟩
 have hD:=hasD_eq h
 have fd:fitsV (if 0≤x.dst then nmN 118 x.dst else .empty) d=true:=by
  cases d with
  | true=>
   have:=dst_in hB hl hx hD
   rw[if_pos this.1]
   unfold fitsV
   rw[nm_ok (by decide) (by decide) this.1 (by omega)];rfl
  | false=>
   rw[h.d0 rfl,if_neg (by omega)];decide
 have ha:allN (x.args.map (nmN 118))=true:=List.all_eq_true.2 fun s hs=>by
  obtain⟨k,hk,rfl⟩:=List.mem_map.1 hs
  have:=h.args k hk
  exact nm_ok (by decide) (by decide) this.1 (by omega)
 have hf:allN (x.frm.map (nmN 98))=true:=List.all_eq_true.2 fun s hs=>by
  obtain⟨k,hk,rfl⟩:=List.mem_map.1 hs
  have:=h.frm k hk
  exact nm_ok (by decide) (by decide) this.1 (by omega)
 have o1:(decide (x.op≠0) != decide (x.kind=2))=false:=by
  by_cases hk:x.kind=2
  ·have:=h.op1 hk
   rw[decide_eq_true hk,decide_eq_true (show x.op≠0 by omega)];rfl
  ·rw[decide_eq_false hk,decide_eq_false (show ¬x.op≠0 from fun g=>g (h.op0 hk))];rfl
 have o2:(decide (x.op≠0)&&decide ((opName x.op).data.toList=[]))=false:=by
  by_cases hk:x.kind=2
  ·rw[decide_eq_false (show ¬(opName x.op).data.toList=[] from opName_iff.2 (h.op1 hk)),Bool.and_false]
  ·rw[decide_eq_false (show ¬x.op≠0 from fun g=>g (h.op0 hk))];rfl
 have o3:(decide (x.num≠0)&&decide (x.kind≠1))=false:=by
  by_cases hk:x.kind=1
  ·rw[decide_eq_false (show ¬x.kind≠1 from fun g=>g hk),Bool.and_false]
  ·rw[decide_eq_false (show ¬x.num≠0 from fun g=>g (h.num hk))];rfl
 unfold rightI
 rw[if_neg (by
  show ¬((decide (x.op≠0) != decide (x.kind=2))||(decide (x.op≠0)&&decide ((opName x.op).data.toList=[]))||(decide (x.num≠0)&&decide (x.kind≠1))||!allN (x.args.map (nmN 118))||!allN (x.frm.map (nmN 98)))=true
  rw[o1,o2,o3,ha,hf];simp)]
 rcases shp_kind h.sh with⟨hk,rfl,rfl,rfl,rfl⟩ | ⟨h3,hs⟩
 ·rw[if_pos (show (raisedV p c.main x).kind=3 from hk)]
  obtain⟨g1,g2,g3⟩:=h.phi hk
  have e1:okN (raisedV p c.main x).dst=true:=fits_on fd
  have e2:(raisedV p c.main x).ref=.empty:=fits_off f1
  have e3:(raisedV p c.main x).alt=.empty:=fits_off f2
  rw[e1,e2,e3]
  simp only[raisedV,List.length_map]
  rw[decide_eq_true g1,decide_eq_true g2,decide_eq_true g3];rfl
 ·rw[if_neg (show ¬(raisedV p c.main x).kind=3 from h3),show shapeV (raisedV p c.main x).kind=some (n,d,r,a) from hs]
  obtain⟨g1,g2⟩:=h.nphi h3
  show (!(decide (0<(x.frm.map (nmN 98)).length)||(decide (0≤n)&&decide (((x.args.map (nmN 118)).length:Int)≠n))||decide (6<(x.args.map (nmN 118)).length))&&(fitsV _ d&&fitsV _ r&&fitsV _ a))=true
  rw[show fitsV (raisedV p c.main x).dst d=true from fd,show fitsV (raisedV p c.main x).ref r=true from f1,show fitsV (raisedV p c.main x).alt a=true from f2,List.length_map,List.length_map,g1]
  have hlen:(0≤n->(x.args.length:Int)=n)∧x.args.length≤6:=by
   by_cases h7:x.kind=7
   ·rw[if_pos h7] at g2
    rcases shape_all9 hs with g | g | g | g | g | g | g | g | g | g | g | g
    case inr.inr.inr.inr.inr.inl=>
     have hm:=h.r1 g.2.2.2.1
     unfold mostR at hm
     simp only[h7] at hm
     have hm:0≤x.ref∧x.ref<(c.funcs.length:Int):=hm
     have:=(hc.bod _ (getD_in (l:=c.funcs) (i:=x.ref.toNat) bod0 (by omega))).p0
     exact⟨fun hn=>by omega,by omega⟩
    all_goals (exfalso;omega)
   ·rw[if_neg h7] at g2
    rcases shape_all9 hs with g | g | g | g | g | g | g | g | g | g | g | g<;>exact⟨fun _=>g2,by omega⟩
  have h1:(decide (0≤n)&&decide ((x.args.length:Int)≠n))=false:=by
   by_cases hn:0≤n
   ·rw[decide_eq_false (show ¬(x.args.length:Int)≠n from fun g=>g (hlen.1 hn)),Bool.and_false]
   ·rw[decide_eq_false hn];rfl
  rw[h1,decide_eq_false (show ¬6<x.args.length by have:=hlen.2;omega)];rfl
theorem raised_back {p:Pol} {c:Cod} (hc:RCod p c) {b:Bod} (hb:b∈c.funcs) {l:List Op9} (hl:l∈b.blocks) {x:Op9} (hx:x∈l) {q:Prg} (hq:∀k:Int,0≤k∧k<(c.funcs.length:Int)->(parsN q k:Int)=(c.funcs.getD k.toNat bod0).params):op9V (resR9 p c q) (scpR b) (raisedV p c.main x)=.ok x:=by
 obtain⟨n,d,r,a,h⟩:=op_in (hc.bod b hb) hl hx
 have hB:=hc.bod b hb
 have hv:=vars_lt hc hb
 have hbl:=hB.len
 obtain⟨_,f1,f2,f3⟩:=ref_back hc hb h q
 have hD:=hasD_eq h
 have hvars:0≤b.vars:=by have:=hB.vars;have:=hB.p0;omega
 have ev:((b.vars.toNat:Nat):Int)=b.vars:=Int.toNat_of_nonneg hvars
 unfold op9V
 rw[f3]
 show bd (looksF _ _ (x.args.map (nmN 118)) []) _=_
 rw[looksF_on (nmN 118) x.args [] fun k hk=>look_nm (by omega) (by rw[ev];exact h.args k hk) _]
 show bd (looksF _ _ (x.frm.map (nmN 98)) []) _=_
 rw[looksF_on (nmN 98) x.frm [] fun k hk=>look_nm (by omega) (h.frm k hk) _]
 show (if x.kind=7∧(x.args.map (nmN 118)).length≠parsN q x.ref then _ else _)=_
 rw[if_neg]
 ·have hdst:(if (if 0≤x.dst then nmN 118 x.dst else ByteArray.empty).data.toList=[] then -1 else posN (scpR b).vals (if 0≤x.dst then nmN 118 x.dst else ByteArray.empty))=x.dst:=by
   cases d with
   | true=>
    have hd:=dst_in hB hl hx hD
    have hd2:0≤x.dst∧x.dst<((b.vars.toNat:Nat):Int):=by rw[ev];exact hd
    rw[if_pos hd.1,if_neg (by rw[nm_list];simp)]
    have:=(lookV_is (look_nm (c:=118) (n:=b.vars.toNat) (by omega) hd2 0)).2
    exact this.symm
   | false=>
    have hd:=h.d0 rfl
    simp only[hd]
    rw[if_neg (show ¬(0:Int)≤-1 by omega),if_pos (show ByteArray.empty.data.toList=[] from rfl)]
  show Except.ok (⟨x.kind,x.op,(if (if 0≤x.dst then nmN 118 x.dst else ByteArray.empty).data.toList=[] then -1 else posN (scpR b).vals (if 0≤x.dst then nmN 118 x.dst else ByteArray.empty)),x.ref,x.alt,[]++x.args,[]++x.frm,x.num,x.at_⟩:Op9)=_
  rw[hdst];rfl
 ·rintro ⟨h7,hne⟩
  have h3:x.kind≠3:=by omega
  have g2:=(h.nphi h3).2
  rw[if_pos h7] at g2
  have hr:r=true:=by
   have hs:=h.sh
   rw[h7] at hs
   have:shp 7=some (-1,true,true,false):=rfl
   rw[this] at hs;cases hs;rfl
  have hm:=h.r1 hr
  unfold mostR at hm
  simp only[h7] at hm
  have hm:0≤x.ref∧x.ref<(c.funcs.length:Int):=hm
  have:=hq x.ref hm
  rw[List.length_map] at hne
  omega
theorem dstL_raised {p:Pol} {m:Int}:∀{l:List Op9},(∀x∈l,(hasD x.kind=true->0≤x.dst)∧(hasD x.kind=false->x.dst=-1))->(dstL (l.map (raisedV p m))).map (·.1)=(dstC l).map (nmN 118)
 | [],_=>rfl
 | x::l,h=>by
  have ih:=dstL_raised (p:=p) (m:=m) (l:=l) fun y hy=>h y (.tail _ hy)
  obtain⟨h1,h2⟩:=h x (.head _)
  unfold dstL dstC at *
  rw[List.map_cons,List.filterMap_cons,List.filterMap_cons]
  cases hd:hasD x.kind with
  | true=>
   have e:(raisedV p m x).dst=nmN 118 x.dst:=if_pos (h1 hd)
   rw[e,if_neg (by rw[nm_list];simp),if_pos rfl]
   simp only[List.map_cons]
   rw[ih]
  | false=>
   have e:(raisedV p m x).dst=.empty:=if_neg (by rw[h2 hd];omega)
   rw[e,if_pos (show ByteArray.empty.data.toList=[] from rfl),if_neg (by simp)]
   exact ih
theorem dsts_raised {p:Pol} {m:Int}:∀{ls:List (List Op9)} {bs:List Blk},bs.length=ls.length->(∀k,k<ls.length->(bs.getD k blk0).code=(ls.getD k []).map (raisedV p m))->(∀l∈ls,∀x∈l,(hasD x.kind=true->0≤x.dst)∧(hasD x.kind=false->x.dst=-1))->(dsts bs).map (·.1)=(dstsC ls).map (nmN 118)
 | [],[],_,_,_=>rfl
 | [],_::_,h,_,_=>by cases h
 | _::_,[],h,_,_=>by cases h
 | l::ls,b::bs,h,h2,h3=>by
  have ih:=dsts_raised (p:=p) (m:=m) (ls:=ls) (bs:=bs) (by simpa using h) (fun k hk=>h2 (k+1) (by simpa using hk)) fun l hl=>h3 l (.tail _ hl)
  have h0:b.code=l.map (raisedV p m):=h2 0 (Nat.zero_lt_succ _)
  unfold dsts dstsC at *
  rw[List.flatMap_cons,List.flatMap_cons,List.map_append,List.map_append,h0,dstL_raised (h3 l (.head _)),ih]
theorem valNs_raised {p:Pol} {c:Cod} (hc:RCod p c) {b:Bod} (hb:b∈c.funcs) (i:Nat):valNs (fun9 p c.main i b)=rng b.vars.toNat fun k=>nmN 118 (k:Int):=by
 have hB:=hc.bod b hb
 have hp:=hB.p0
 have hv:=hB.vars
 have e1:(dsts (fun9 p c.main i b).blocks).map (·.1)=(dstsC b.blocks).map (nmN 118):=by
  refine dsts_raised (p:=p) (m:=c.main) (by show (rng _ _).length=_;rw[rng_len]) (fun k hk=>?_) fun l hl x hx=>?_
  ·show ((rng b.blocks.length fun k=>blkN p c.main k (b.blocks.getD k [])).getD k blk0).code=_
   rw[rng_getD _ hk];rfl
  ·obtain⟨n,d,r,a,h⟩:=op_in hB hl hx
   have hD:=hasD_eq h
   exact⟨fun g=>(dst_in hB hl hx g).1,fun g=>h.d0 (by rw[←hD];exact g)⟩
 have e2:dstsC b.blocks=rng (dstsC b.blocks).length fun i=>b.params+(i:Int):=rng_ext 0 rfl hB.seq
 show parN b.params++(dsts (fun9 p c.main i b).blocks).map (·.1)=_
 rw[e1,e2,rng_map,show b.vars.toNat=b.params.toNat+(dstsC b.blocks).length by omega,rng_add]
 unfold parN
 congr 2
 funext k
 rw[show b.params+(k:Int)=((b.params.toNat+k:Nat):Int) by omega]
theorem fn_raised {p:Pol} {c:Cod} (hc:RCod p c) {i:Nat} (hi:i<c.funcs.length):FunR9 (fun9 p c.main i (c.funcs.getD i bod0)):=by
 have hb:c.funcs.getD i bod0∈c.funcs:=getD_in _ hi
 have hB:=hc.bod _ hb
 have hp:=hB.p0
 have hfl:=hc.fl
 have hbl:=hB.len
 refine⟨?_,?_,by show (rng _ _).length≤6;rw[rng_len];omega,by show 1≤(rng _ _).length;rw[rng_len];omega,by show (rng _ _).length≤64;rw[rng_len];omega,fun bk hbk=>?_⟩
 ·show okN (fnN c.main i)=true
  unfold fnN
  split
  ·decide
  ·exact nm_ok (by decide) (by decide) (by omega) (by omega)
 ·refine List.all_eq_true.2 fun s hs=>?_
  obtain⟨k,hk,rfl⟩:=rng_mem.1 hs
  exact nm_ok (by decide) (by decide) (by omega) (by omega)
 ·obtain⟨k,hk,rfl⟩:=rng_mem.1 hbk
  refine⟨nm_ok (by decide) (by decide) (by omega) (by omega),fun x hx=>?_⟩
  obtain⟨y,hy,rfl⟩:=List.mem_map.1 hx
  exact raised_right hc hb (getD_in _ hk) hy
theorem prg_raised {p:Pol} {c:Cod} (hc:RCod p c):PrgR9 (raiseQ p c):=by
 have hP:=(right_iff p).1 hc.pol
 have hal:=hc.al
 refine⟨by show (rng _ _).length≤16;rw[rng_len];exact hc.al,by show (rng _ _).length≤64;rw[rng_len];exact hc.fl,fun a ha=>?_,fun f hf=>?_,?_⟩
 ·obtain⟨i,hi,rfl⟩:=rng_mem.1 ha
  obtain⟨h1,h2,h3⟩:=hc.arr _ (getD_in cel0 hi)
  exact⟨nm_ok (by decide) (by decide) (by omega) (by omega),lev_get hP.names (by omega),h1.1,h1.2⟩
 ·obtain⟨i,hi,rfl⟩:=rng_mem.1 hf
  exact fn_raised hc hi
 ·have:(c.funcs.map fun b=>(b.blocks.map fun l=>l.length).sum)=(raiseQ p c).funcs.map fun f=>(f.blocks.map fun b=>b.code.length).sum:=by
   refine map_ext2 bod0 fun0 (by show _=(rng _ _).length;rw[rng_len]) fun i hi=>?_
   have hi:i<c.funcs.length:=by
    have hi:i<(rng _ _).length:=hi
    rwa [rng_len] at hi
   show _=(((rng c.funcs.length fun i=>fun9 p c.main i (c.funcs.getD i bod0)).getD i fun0).blocks.map fun b=>b.code.length).sum
   rw[rng_getD _ hi]
   congr 1
   refine map_ext2 [] blk0 (by show _=(rng _ _).length;rw[rng_len]) fun k hk=>?_
   have hk:k<(c.funcs.getD i bod0).blocks.length:=by
    have hk:k<(rng _ _).length:=hk
    rwa [rng_len] at hk
   show _=((rng _ fun k=>blkN p c.main k ((c.funcs.getD i bod0).blocks.getD k [])).getD k blk0).code.length
   rw[rng_getD _ hk]
   show _=(List.map _ _).length
   rw[List.length_map]
  unfold progN8
  rw[←this];exact hc.all
theorem raise_some {p:Pol} {c:Cod} (hc:RCod p c):raiseO p c=some (raiseQ p c):=by
 unfold raiseO
 rw[if_pos]
 rw[Bool.and_eq_true]
 constructor
 ·refine List.all_eq_true.2 fun a ha=>?_
  obtain⟨h1,h2,h3⟩:=hc.arr a ha
  unfold levOK
  rw[decide_eq_true h2,decide_eq_true h3];rfl
 ·refine List.all_eq_true.2 fun b hb=>?_
  have hB:=hc.bod b hb
  unfold bodOK
  rw[decide_eq_true hB.p0.1,decide_eq_true hB.p0.2]
  show (List.all _ _)=true
  refine List.all_eq_true.2 fun l hl=>?_
  unfold opsOK
  refine List.all_eq_true.2 fun x hx=>?_
  obtain⟨n,d,r,a,h⟩:=op_in hB hl hx
  exact (ref_back hc hb h ⟨[],[]⟩).1
theorem cod_raised {p:Pol} {c:Cod} (hc:RCod p c):CodIs p (raiseQ p c) c:=by
 have hP:=(right_iff p).1 hc.pol
 have hal:=hc.al
 have hfl:=hc.fl
 have eA:arrNs (raiseQ p c)=rng c.arrays.length fun k=>nmN 97 (k:Int):=rng_map _ _ _
 have eF:fnNs (raiseQ p c)=rng c.funcs.length fun i=>fnN c.main i:=rng_map _ _ _
 have hF:(rng c.funcs.length fun i=>fnN c.main i).Nodup:=rng_nodup fun i j hi hj e=>by
  unfold fnN at e
  split at e<;>split at e
  ·omega
  ·exact absurd e (main_nm (by decide))
  ·exact absurd e.symm (main_nm (by decide))
  ·have:=(nm_inj (n:=(i:Int)) (m:=(j:Int)) (by unfold inI64;omega) (by unfold inI64;omega) e).2
   omega
 have em:fnN c.main c.main.toNat=mainS:=by unfold fnN;rw[if_pos (by have:=hc.m;omega)]
 have hmain:posN (rng c.funcs.length fun i=>fnN c.main i) mainS=c.main:=by
  have:=(lookV_is (look_rng hF hc.m 0)).2
  rw[em] at this
  exact this.symm
 have hpar:∀k:Int,0≤k∧k<(c.funcs.length:Int)->(parsN (raiseQ p c) k:Int)=(c.funcs.getD k.toNat bod0).params:=fun k hk=>by
  unfold parsN
  show ((((rng c.funcs.length fun i=>fun9 p c.main i (c.funcs.getD i bod0)).getD k.toNat fun0).params.length:Nat):Int)=_
  rw[rng_getD _ (by omega)]
  show ((parN _).length:Int)=_
  unfold parN
  rw[rng_len]
  have:=(hc.bod _ (getD_in (l:=c.funcs) (i:=k.toNat) bod0 (by omega))).p0
  omega
 refine⟨by rw[eA];exact nm_row (by omega),fun a ha=>?_,?_,by rw[eF];exact hF,?_,?_,by rw[eF];exact hmain.symm,by show _=(rng _ _).length;rw[rng_len],fun i hi=>?_⟩
 ·obtain⟨i,hi,rfl⟩:=rng_mem.1 ha
  obtain⟨h1,h2,h3⟩:=hc.arr _ (getD_in cel0 hi)
  show 0≤idxS p.lev (p.lev.getD _ .empty)
  rw[idxS_at hP.nl (by omega)];omega
 ·show _=(rng _ _).map _
  rw[rng_map]
  refine rng_ext cel0 rfl fun i hi=>?_
  obtain⟨h1,h2,h3⟩:=hc.arr _ (getD_in cel0 hi)
  show c.arrays.getD i cel0=((c.arrays.getD i cel0).1,idxS p.lev (p.lev.getD (c.arrays.getD i cel0).2.toNat .empty))
  rw[idxS_at hP.nl (by omega),Int.toNat_of_nonneg h2]
 ·rw[eF]
  exact rng_mem.2 ⟨c.main.toNat,by have:=hc.m;omega,em⟩
 ·rw[eF,hmain]
  have:=hpar c.main hc.m
  rw[hc.mp] at this
  omega
 ·have hi:i<c.funcs.length:=by
   have hi:i<(rng _ _).length:=hi
   rwa [rng_len] at hi
  have hb:c.funcs.getD i bod0∈c.funcs:=getD_in _ hi
  have hB:=hc.bod _ hb
  have hv:=vars_lt hc hb
  have hbl:=hB.len
  have hvars:0≤(c.funcs.getD i bod0).vars:=by have:=hB.vars;have:=hB.p0;omega
  show BodIs _ ((rng c.funcs.length fun i=>fun9 p c.main i (c.funcs.getD i bod0)).getD i fun0) _
  rw[rng_getD _ hi]
  have eV:=valNs_raised hc hb i
  have eB:blkNs (fun9 p c.main i (c.funcs.getD i bod0))=rng (c.funcs.getD i bod0).blocks.length fun k=>nmN 98 (k:Int):=rng_map _ _ _
  refine⟨by rw[eB];exact nm_row (by omega),by rw[eV];exact nm_row (by omega),?_,by rw[eV,rng_len];omega,by show _=(rng _ _).length;rw[rng_len],fun k hk=>?_⟩
  ·show _=((parN _).length:Int)
   unfold parN
   rw[rng_len]
   have:=hB.p0
   omega
  ·have hk:k<(c.funcs.getD i bod0).blocks.length:=by
    have hk:k<(rng _ _).length:=hk
    rwa [rng_len] at hk
   have hl:(c.funcs.getD i bod0).blocks.getD k []∈(c.funcs.getD i bod0).blocks:=getD_in _ hk
   have hO:=hB.ops _ hl
   show BlkIs _ _ ((rng _ fun k=>blkN p c.main k ((c.funcs.getD i bod0).blocks.getD k [])).getD k blk0) _
   rw[rng_getD _ hk]
   have eS:scpOf (fun9 p c.main i (c.funcs.getD i bod0))=scpR (c.funcs.getD i bod0):=by
    show Scp.mk _ _=Scp.mk _ _
    rw[eV,eB]
   have eR:resOf p (raiseQ p c)=resR9 p c (raiseQ p c):=by
    show Res.mk _ _ _ _=Res.mk _ _ _ _
    rw[eA,eF]
   rw[eS,eR]
   obtain⟨L,hL⟩:∃L,(c.funcs.getD i bod0).blocks.getD k []=L:=⟨_,rfl⟩
   rw[hL] at hl hO ⊢
   have hget:∀j,j<L.length->(L.map (raisedV p c.main)).getD j (ins0 0)=raisedV p c.main (L.getD j op0):=fun j hj=>by
    rw[List.getD_eq_getElem?_getD,List.getD_eq_getElem?_getD,List.getElem?_map,List.getElem?_eq_getElem hj];rfl
   have hlen:(L.map (raisedV p c.main)).length=L.length:=List.length_map _
   have hL1:=hO.len
   refine⟨?_,hlen.symm,fun j hj=>ins9_iff.2 ?_⟩
   ·unfold endOK
    show (decide (1≤(L.map (raisedV p c.main)).length)&&isEnd ((L.map (raisedV p c.main)).getD ((L.map (raisedV p c.main)).length-1) (ins0 0)).kind)=true
    rw[hlen,decide_eq_true hL1,hget _ (by omega)]
    show isEnd (L.getD (L.length-1) op0).kind=true
    exact (hO.e _ (by omega)).2 (by omega)
   ·have hj:j<L.length:=by
     have hj:j<(L.map (raisedV p c.main)).length:=hj
     rwa [hlen] at hj
    refine⟨?_,?_,?_⟩
    ·show isEnd ((L.map (raisedV p c.main)).getD j (ins0 0)).kind=true->j+1=(L.map (raisedV p c.main)).length
     rw[hlen,hget j hj]
     exact (hO.e j hj).1
    ·show ((L.map (raisedV p c.main)).getD j (ins0 0)).kind=3->j≠0->((L.map (raisedV p c.main)).getD (j-1) (ins0 0)).kind=3
     rw[hget j hj,hget (j-1) (by omega)]
     exact hO.ph j hj
    ·show op9V _ _ ((L.map (raisedV p c.main)).getD j (ins0 0))=_
     rw[hget j hj]
     exact raised_back hc hb hl (getD_in _ hj) hpar
section
variable {s:ByteArray} {l:List Tok}
def Sm (k:Nat) (x:Ins):Prop:=x.args.length≤k∧x.frm.length≤k
theorem Sm.up {k j:Nat} {x:Ins} (h:Sm k x) (hk:k≤j):Sm j x:=⟨Nat.le_trans h.1 hk,Nat.le_trans h.2 hk⟩
abbrev cap (l:List Tok):Nat:=l.length+10
end
def erI (x:Ins):Ins:={x with at_:=0}
def erB (b:Blk):Blk:=⟨b.name,b.code.map erI,0⟩
structure Sim (s:ByteArray) (l:List Tok) (s':ByteArray) (l':List Tok) (d:Nat):Prop where
 len:l'.length=d+l.length
 kind:∀n k,isV l' (d+n) k=isV l n k
 text:∀n,txV s' l' (d+n)=txV s l n
def SimR {α:Type} (d:Nat) (E:α->α->Prop) (r r':Except (Int×Int) (Nat×α)):Prop:=
 match r with
 | .ok (n,x)=>∃x',r'=.ok (d+n,x')∧E x x'
 | .error (a,e)=>∃a',r'=.error (a',e)
def SimC {α:Type} (d c0:Nat) (E:α->α->Prop) (r r':Except (Int×Int) (Nat×(Nat×α))):Prop:=
 match r with
 | .ok (n,(c,x))=>if c0+c≤4096 then ∃x',r'=.ok (d+n,(c0+c,x'))∧E x x' else ∃a',r'=.error (a',3)
 | .error (a,e)=>c0=0->∃a',r'=.error (a',e)
section
variable {s:ByteArray} {l:List Tok} {s':ByteArray} {l':List Tok} {d c0:Nat} (S:Sim s l s' l' d) {α β:Type} {E:α->α->Prop} {E2:β->β->Prop}
omit S in
theorem SimR.bind {r r':Except (Int×Int) (Nat×α)} {k k':Nat->α->Except (Int×Int) (Nat×β)} (h1:SimR d E r r') (h2:∀n x x',E x x'->SimR d E2 (k n x) (k' (d+n) x')):SimR d E2 (bnd r k) (bnd r' k'):=by
 rcases r with⟨a,e⟩ | ⟨n,x⟩
 ·obtain⟨a',rfl⟩:=h1
  exact⟨a',rfl⟩
 ·obtain⟨x',rfl,hx⟩:=h1
  exact h2 n x x' hx
omit S in
theorem SimC.bind {r r':Except (Int×Int) (Nat×(Nat×α))} {k k':Nat->Nat×α->Except (Int×Int) (Nat×(Nat×β))} (h1:SimC d c0 E r r') (hb:∀n c x,r=.ok (n,(c,x))->c≤4096) (hm:∀n c x n2 c2 y,r=.ok (n,(c,x))->k n (c,x)=.ok (n2,(c2,y))->c≤c2)
  (h2:∀n c x x',r=.ok (n,(c,x))->c0+c≤4096->E x x'->SimC d c0 E2 (k n (c,x)) (k' (d+n) (c0+c,x'))):SimC d c0 E2 (bnd r k) (bnd r' k'):=by
 rcases r with⟨a,e⟩ | ⟨n,c,x⟩
 ·exact fun h0=>by obtain⟨a',rfl⟩:=h1 h0;exact⟨a',rfl⟩
 ·unfold SimC at h1
  dsimp only at h1
  split at h1
  ·rename_i hc
   obtain⟨x',rfl,hx⟩:=h1
   exact h2 n c x x' rfl hc hx
  ·rename_i hc
   obtain⟨a',rfl⟩:=h1
   show SimC d c0 E2 (k n (c,x)) (.error (a',3))
   rcases hk:k n (c,x) with⟨a2,e2⟩ | ⟨n2,c2,y⟩
   ·exact fun h0=>by have:=hb n c x rfl;omega
   ·have:=hm n c x n2 c2 y rfl hk
    unfold SimC
    dsimp only
    rw[if_neg (by omega)]
    exact⟨a',rfl⟩
include S
def EI (x x':Ins):Prop:=∃b,x'={x with at_:=b}
omit S in
theorem EI.er {x x':Ins} (h:EI x x'):erI x=erI x':=by obtain⟨b,rfl⟩:=h;rfl
omit S in
theorem EI.kind {x x':Ins} (h:EI x x') (k:Int):EI {x with kind:=k} {x' with kind:=k}:=by obtain⟨b,rfl⟩:=h;exact⟨b,rfl⟩
omit S in
theorem EI.refs {x x':Ins} (h:EI x x') {a a':ByteArray} (e:a=a'):EI {x with ref:=a} {x' with ref:=a'}:=by obtain⟨b,rfl⟩:=h;exact⟨b,by rw[e]⟩
omit S in
theorem EI.dsts {x x':Ins} (h:EI x x') {a a':ByteArray} (e:a=a'):EI {x with dst:=a} {x' with dst:=a'}:=by obtain⟨b,rfl⟩:=h;exact⟨b,by rw[e]⟩
omit S in
theorem blockV_bnd {n c:Nat}:blockV s l n c=bnd (nmV s l n) fun n1 nm=>bnd (needV s l n1 58) fun n2 _=>bnd (codeF s l 4098 n2 c []) fun n3 r=>.ok (n3,(r.1,⟨nm,r.2,atV s l n⟩)):=rfl
def EB (b b':Blk):Prop:=erB b=erB b'
def EBs (bs bs':List Blk):Prop:=bs.map erB=bs'.map erB
omit S in
theorem EBs.add {bs bs':List Blk} {b b':Blk} (h:EBs bs bs') (hb:EB b b'):EBs (bs++[b]) (bs'++[b']):=by
 unfold EBs at h ⊢
 rw[List.map_append,List.map_append,h,List.map_cons,List.map_cons,show erB b=erB b' from hb]
omit S in
theorem funcV_bnd {n c:Nat}:funcV s l n c=bnd (nmV s l (n+1)) fun n1 nm=>bnd (namesV s l n1) fun n2 ps=>bnd (needV s l n2 123) fun n3 _=>bnd (blockV s l n3 c) fun n4 r=>
 bnd (blocksF s l 65 n4 r.1 [r.2]) fun n5 q=>bnd (needV s l n5 125) fun n6 _=>.ok (n6,(q.1,⟨nm,ps,q.2,atV s l n⟩)):=rfl
end
section
variable {s:ByteArray} {l:List Tok} {s':ByteArray} {l':List Tok} {d c0:Nat} (S:Sim s l s' l' d) (A0:List Arr) (F0:List Fun)
end
theorem bt_end {s x:ByteArray} (h10:bt x 0=10):bt (s++x) s.size=10:=by have:=bt_right s x 0;rw[Nat.add_zero] at this;rw[this,h10]
section
variable {s x:ByteArray} (hx:0<x.size) (h10:bt x 0=10)
include hx h10
theorem skV_ext:∀(n:Nat) (rm:Bool) (p:Nat),s.size≤p+n->p≤s.size->(skV s rm p<s.size->skV (s++x) rm p=skV s rm p)∧(skV s rm p=s.size->skV (s++x) rm p=skV (s++x) false (s.size+1))
 | n,rm,p,h,hp=>by
  have hz:s.size<(s++x).size:=by rw[app_size];omega
  by_cases hl:p<s.size
  ·match n with
   | 0=>omega
   | n+1=>
    have eb:bt (s++x) p=bt s p:=bt_left hl
    rw[skV_step hl,skV_step (by omega:p<(s++x).size),eb]
    cases hs:stopB (nextR (bt s p) rm) (bt s p) with
    | true=>exact⟨fun _=>rfl,fun e=>by simp at e;omega⟩
    | false=>
     simp only[Bool.false_eq_true,if_false]
     exact skV_ext n _ _ (by omega) (by omega)
  ·have e:p=s.size:=by omega
   subst e
   rw[skV_end (Nat.le_refl _)]
   refine⟨fun h=>by omega,fun _=>?_⟩
   have eb:=bt_end (s:=s) h10
   rw[skV_step hz,eb]
   rfl
end
theorem ex_data (s:ByteArray) (p q:Nat):(s.extract p q).data.toList=(s.data.toList.drop p).take (q-p):=by
 rw[ByteArray.data_extract,Array.toList_extract,List.extract_eq_take_drop]
theorem ba_inj {a b:ByteArray} (h:a.data.toList=b.data.toList):a=b:=by rw[ba_eq a,ba_eq b,h]
theorem skV_shift (c y:ByteArray):∀(n:Nat) (rm:Bool) (q:Nat),y.size≤q+n->skV (c++y) rm (c.size+q)=c.size+skV y rm q
 | n,rm,q,h=>by
  by_cases hl:q<y.size
  ·match n with
   | 0=>omega
   | n+1=>
    rw[skV_step hl,skV_step (by rw[app_size];omega),bt_right]
    split
    ·rfl
    ·exact skV_shift c y n _ (q+1) (by omega)
  ·rw[skV_end (by rw[app_size];omega),skV_end (by omega)]
theorem rowV_shift (c y:ByteArray):∀(n q:Nat),y.size≤q+n->rowV (c++y) (c.size+q)=c.size+rowV y q
 | n,q,h=>by
  by_cases hl:q<y.size
  ·match n with
   | 0=>omega
   | n+1=>
    have h1:=(decode_pos y q).1
    rw[rowV_step hl,rowV_step (by rw[app_size];omega),plainB,plainB,decode_right]
    split
    ·rw[Nat.add_assoc];exact rowV_shift c y n _ (by omega)
    ·rfl
  ·rw[rowV_end (by rw[app_size];omega),rowV_end (by omega)]
theorem pieceEnd_shift (c y:ByteArray) (q:Nat):pieceEnd (c++y) (c.size+q)=c.size+pieceEnd y q:=by
 have ed:digAt (c++y) (c.size+q+1)=digAt y (q+1):=by
  unfold digAt
  rw[Nat.add_assoc,bt_right,app_size]
  congr 1
  rw[Bool.eq_iff_iff,decide_eq_true_eq,decide_eq_true_eq];omega
 unfold pieceEnd
 rw[bt_right,ed,Nat.add_assoc,rowV_shift c y y.size (q+1) (by omega),rowV_shift c y y.size q (by omega)]
 split<;>rfl
def shT (k:Nat) (t:Tok):Tok:=⟨t.k,t.f+k,t.t+k⟩
def shE (k:Nat) (r:Tok×Int×Int):Tok×Int×Int:=if r.2.2=0 then (shT k r.1,r.2) else (r.1,r.2.1+k,r.2.2)
theorem form_go {s:ByteArray} {p:Nat} (h:p<s.size):(formV s (p:Int)).2≠0->(p:Int)+(formV s (p:Int)).2=((p+(Utf8.decode s p).2:Nat):Int):=fun hne=>by
 have:=nextV_at h
 unfold nextV at this
 rwa [if_neg hne] at this
theorem form_congr {s y:ByteArray} {p q:Nat} (hp:p<s.size) (hq:q<y.size) (hd:Utf8.decode s p=Utf8.decode y q):(formV s (p:Int)).2=0↔(formV y (q:Int)).2=0:=by
 rw[form_zero hp,form_zero hq,hd]
theorem badV_fuel (s:ByteArray):∀(n m p:Nat),s.size≤p+n->s.size≤p+m->badV s n (p:Int)=badV s m (p:Int)
 | 0,m,p,h,_=>by rw[badV_end (by omega),badV_end (by omega)]
 | n+1,0,p,_,h=>by rw[badV_end (by omega),badV_end (by omega)]
 | n+1,m+1,p,h1,h2=>by
  rw[badV,badV]
  split
  ·rename_i hl
   have hl:p<s.size:=by omega
   split
   ·rfl
   ·rename_i h0
    rw[form_go hl h0]
    have:=(decode_pos s p).1
    exact badV_fuel s n m _ (by omega) (by omega)
  ·rfl
theorem badV_ge (s:ByteArray):∀(n p:Nat),badV s n (p:Int)=-1∨(p:Int)≤badV s n (p:Int)∧badV s n (p:Int)<s.size
 | 0,p=>.inl rfl
 | n+1,p=>by
  rw[badV]
  split
  ·rename_i hl
   have hl:p<s.size:=by omega
   split
   ·exact .inr ⟨Int.le_refl _,by omega⟩
   ·rename_i h0
    rw[form_go hl h0]
    rcases badV_ge s n (p+(Utf8.decode s p).2) with h | h
    ·exact .inl h
    ·exact .inr ⟨by omega,h.2⟩
  ·exact .inl rfl
theorem badV_shift (c y:ByteArray):∀(n q:Nat),y.size≤q+n->badV (c++y) (c++y).size ((c.size+q:Nat):Int)=if badV y y.size (q:Int)=-1 then -1 else badV y y.size (q:Int)+c.size
 | n,q,h=>by
  by_cases hl:q<y.size
  ·match n with
   | 0=>omega
   | n+1=>
    have hl2:c.size+q<(c++y).size:=by rw[app_size];omega
    have ed:=decode_right c y q
    have hc:=form_congr hl2 hl ed
    have h1:=(decode_pos y q).1
    have e1:=badV_fuel y y.size (y.size-1+1) q (by omega) (by omega)
    have e2:=badV_fuel (c++y) (c++y).size ((c++y).size-1+1) (c.size+q) (by omega) (by omega)
    rw[badV,if_pos (by omega)] at e1 e2
    rw[e1,e2]
    by_cases h0:(formV y (q:Int)).2=0
    ·rw[if_pos h0,if_pos (hc.2 h0),if_neg (by omega)];omega
    ·have h0':(formV (c++y) ((c.size+q:Nat):Int)).2≠0:=fun e=>h0 (hc.1 e)
     rw[if_neg h0,if_neg h0',form_go hl h0,form_go hl2 h0',ed,Nat.add_assoc]
     rw[badV_fuel y (y.size-1) y.size _ (by omega) (by omega),badV_fuel (c++y) ((c++y).size-1) (c++y).size _ (by rw[app_size];omega) (by rw[app_size];omega)]
     exact badV_shift c y n _ (by omega)
  ·rw[badV_end (by rw[app_size];omega),badV_end (by omega),if_pos rfl]
def Run (s:ByteArray):Nat->List Tok->Int×Int->Prop
 | a,[],r=>(oneN s a).2=r∧r.2≠0
 | a,t::l,r=>oneN s a=(t,0,0)∧(a:Int)≤t.f∧t.f<t.t∧t.t≤s.size∧Run s t.t.toNat l r
theorem one_zero {s:ByteArray} {a:Nat} (h:(oneN s a).2.2=0):(oneN s a).2.1=0:=by
 unfold oneN at h ⊢
 split
 ·rename_i e;rw[if_pos e] at h;exact absurd h (show ¬((4:Int)=0) by decide)
 ·rename_i e
  rw[if_neg e] at h
  split
  ·rfl
  ·rename_i e2
   rw[if_neg e2] at h
   split
   ·rename_i e3;rw[if_pos e3] at h;exact absurd h (show ¬((6:Int)=0) by decide)
   ·rfl
theorem run_ex (s:ByteArray):∀(n a:Nat),s.size≤a+n->a≤s.size->∃l r,Run s a l r
 | n,a,h,ha=>by
  rcases one_facts ha with⟨h0,h1,h2,h3⟩ | h4 | h6
  ·match n with
   | 0=>omega
   | n+1=>
    obtain⟨l,r,hr⟩:=run_ex s n (oneN s a).1.t.toNat (by omega) (by omega)
    exact⟨(oneN s a).1::l,r,Prod.ext rfl (Prod.ext (one_zero h0) h0),h1,h2,h3,hr⟩
  ·exact⟨[],_,rfl,by omega⟩
  ·exact⟨[],_,rfl,by omega⟩
theorem run_toks {s:ByteArray}:∀{l:List Tok} {a n:Nat} {r:Int×Int} (out:List Tok),Run s a l r->s.size+1≤a+n->a≤s.size->toksF s n a out=if r.2=4 then (out++l,0,0) else ([],r.1,r.2)
 | [],a,n,r,out,h,hn,ha=>by
  obtain⟨n,rfl⟩:∃m,n=m+1:=⟨n-1,by omega⟩
  obtain⟨h1,h2⟩:=h
  subst h1
  rw[toksF,List.append_nil]
  by_cases e:(oneN s a).2.2=4
  ·rw[if_pos e,if_pos e]
  ·rw[if_neg e,if_neg e,if_neg h2]
 | t::l,a,n,r,out,h,hn,ha=>by
  obtain⟨n,rfl⟩:∃m,n=m+1:=⟨n-1,by omega⟩
  obtain⟨h1,h2,h3,h4,h5⟩:=h
  rw[toksF,h1,if_neg (show ¬((0:Int)=4) by decide),if_pos rfl]
  show toksF s n t.t.toNat (out++[t])=_
  rw[run_toks (out++[t]) h5 (by omega) (by omega),List.append_assoc]
  rfl
theorem run_end {s:ByteArray}:∀{l:List Tok} {a:Nat} {r:Int×Int},Run s a l r->a≤s.size->r.2=4∨r.2=6
 | [],a,r,⟨h1,h2⟩,ha=>by
  rcases one_facts ha with⟨h0,_⟩ | h4 | h6
  ·rw[h1] at h0;exact absurd h0 h2
  ·rw[h1] at h4;exact .inl h4
  ·rw[h1] at h6;exact .inr h6
 | t::l,a,r,⟨h1,h2,h3,h4,h5⟩,ha=>run_end h5 (by omega)
theorem allV_bad {s:ByteArray} (h:s.size≤65536) (hb:0≤badV s s.size 0):allV s=([],badV s s.size 0,5):=by
 rw[allV,if_neg (by omega),if_pos hb]
theorem allV_run {s:ByteArray} (h:s.size≤65536) (hb:badV s s.size 0=-1) {l:List Tok} {r:Int×Int} (hr:Run s 0 l r):allV s=if r.2=4 then (l,0,0) else ([],r.1,r.2):=by
 rw[allV,if_neg (by omega),if_neg (by omega),run_toks [] hr (by omega) (by omega),List.nil_append]
theorem bad_cases (s:ByteArray):badV s s.size 0=-1∨0≤badV s s.size 0∧badV s s.size 0<s.size:=badV_ge s s.size 0
theorem app_assoc (a b c:ByteArray):a++b++c=a++(b++c):=ba_inj (by rw[app_data,app_data,app_data,app_data,List.append_assoc])
theorem dec_up {sz sz' p a b c d b' c' d':Nat} (hz:sz≤sz') (hb:p+1<sz->b'=b) (hc:p+2<sz->c'=c) (hd:p+3<sz->d'=d) (h:(dec sz p a b c d).1≠65533):dec sz' p a b' c' d'=dec sz p a b c d:=by
 unfold dec at h ⊢
 by_cases h1:a<128
 ·rw[if_pos h1,if_pos h1]
 rw[if_neg h1] at h ⊢
 rw[if_neg h1]
 by_cases c2:a/32=6∧p+1<sz∧b/64=2
 ·have eb:=hb c2.2.1
  subst eb
  rw[if_pos c2,if_pos ⟨c2.1,by omega,c2.2.2⟩]
 rw[if_neg c2] at h ⊢
 by_cases c3:a/16=14∧p+1<sz∧b/64=2∧p+2<sz∧c/64=2
 ·have eb:=hb c3.2.1
  have ec:=hc c3.2.2.2.1
  subst eb ec
  rw[if_pos c3,if_neg (show ¬(a/32=6∧_) by omega),if_pos ⟨c3.1,by omega,c3.2.2.1,by omega,c3.2.2.2.2⟩]
 rw[if_neg c3] at h ⊢
 by_cases c4:a/8=30∧p+1<sz∧b/64=2∧p+2<sz∧c/64=2∧p+3<sz∧d/64=2
 ·have eb:=hb c4.2.1
  have ec:=hc c4.2.2.2.1
  have ed:=hd c4.2.2.2.2.2.1
  subst eb ec ed
  rw[if_pos c4,if_neg (show ¬(a/32=6∧_) by omega),if_neg (show ¬(a/16=14∧_) by omega),if_pos ⟨c4.1,by omega,c4.2.2.1,by omega,c4.2.2.2.2.1,by omega,c4.2.2.2.2.2.2⟩]
 rw[if_neg c4] at h
 exact absurd rfl h
theorem dec_cut7 {sz sz' p a b c d b' c' d':Nat} (hz:sz≤sz') (hb:p+1<sz->b'=b) (hc:p+2<sz->c'=c) (hd:p+3<sz->d'=d) (h:(dec sz' p a b' c' d').1≠65533) (hr:p+(dec sz' p a b' c' d').2≤sz):dec sz p a b c d=dec sz' p a b' c' d':=by
 unfold dec at h hr ⊢
 by_cases h1:a<128
 ·rw[if_pos h1,if_pos h1]
 rw[if_neg h1] at h hr ⊢
 rw[if_neg h1]
 by_cases c2:a/32=6∧p+1<sz'∧b'/64=2
 ·rw[if_pos c2] at h hr ⊢
  by_cases v:128≤a%32*64+b'%64
  ·rw[if_pos v] at hr
   dsimp only at hr
   have eb:=hb (by omega)
   subst eb
   rw[if_pos ⟨c2.1,by omega,c2.2.2⟩]
  ·rw[if_neg v] at h;exact absurd rfl h
 rw[if_neg c2] at h hr ⊢
 rw[if_neg (show ¬(a/32=6∧p+1<sz∧b/64=2) from fun ⟨x,y,z⟩=>c2 ⟨x,by omega,by rw[hb y];exact z⟩)]
 by_cases c3:a/16=14∧p+1<sz'∧b'/64=2∧p+2<sz'∧c'/64=2
 ·rw[if_pos c3] at h hr ⊢
  split at hr
  ·rename_i v
   dsimp only at hr
   have eb:=hb (by omega)
   have ec:=hc (by omega)
   subst eb ec
   rw[if_pos ⟨c3.1,by omega,c3.2.2.1,by omega,c3.2.2.2.2⟩]
  ·rename_i v
   rw[if_neg v] at h;exact absurd rfl h
 rw[if_neg c3] at h hr ⊢
 rw[if_neg (show ¬(a/16=14∧p+1<sz∧b/64=2∧p+2<sz∧c/64=2) from fun ⟨x,y,z,u,v⟩=>c3 ⟨x,by omega,by rw[hb y];exact z,by omega,by rw[hc u];exact v⟩)]
 by_cases c4:a/8=30∧p+1<sz'∧b'/64=2∧p+2<sz'∧c'/64=2∧p+3<sz'∧d'/64=2
 ·rw[if_pos c4] at h hr ⊢
  split at hr
  ·rename_i v
   dsimp only at hr
   have eb:=hb (by omega)
   have ec:=hc (by omega)
   have ed:=hd (by omega)
   subst eb ec ed
   rw[if_pos ⟨c4.1,by omega,c4.2.2.1,by omega,c4.2.2.2.2.1,by omega,c4.2.2.2.2.2.2⟩]
  ·rename_i v
   rw[if_neg v] at h;exact absurd rfl h
 rw[if_neg c4] at h
 exact absurd rfl h
theorem decode_more {w x:ByteArray} {p:Nat} (hp:p<w.size) (h:(Utf8.decode w p).1≠65533):Utf8.decode (w++x) p=Utf8.decode w p:=by
 rw[decode_eq] at h ⊢
 rw[decode_eq,bt_left hp]
 exact dec_up (by rw[app_size];omega) (fun h=>bt_left h) (fun h=>bt_left h) (fun h=>bt_left h) h
theorem decode_cut {w x:ByteArray} {p:Nat} (hp:p<w.size) (h:(Utf8.decode (w++x) p).1≠65533) (hr:p+(Utf8.decode (w++x) p).2≤w.size):Utf8.decode w p=Utf8.decode (w++x) p:=by
 rw[decode_eq,bt_left hp] at h hr
 rw[decode_eq,decode_eq (w++x),bt_left hp]
 exact dec_cut7 (by rw[app_size];omega) (fun h=>bt_left h) (fun h=>bt_left h) (fun h=>bt_left h) h hr
theorem plain_ne {s:ByteArray} {p:Nat} (h:plainB s p=true):(Utf8.decode s p).1≠65533:=fun e=>by
 unfold plainB at h
 rw[e] at h
 exact absurd h (by decide)
theorem rowV_cut {w x:ByteArray}:∀(n p:Nat),w.size≤p+n->p≤w.size->rowV (w++x) p=w.size->rowV w p=w.size
 | n,p,h,hp,e=>by
  by_cases hl:p<w.size
  ·match n with
   | 0=>omega
   | n+1=>
    have hl2:p<(w++x).size:=by rw[app_size];omega
    have h1:=(decode_pos (w++x) p).1
    rw[rowV_step hl2] at e
    split at e
    ·rename_i hb
     have hle:=decode_room hl2
     have hr:=(rowV_le (w++x) (w++x).size (p+(Utf8.decode (w++x) p).2) (by omega) hle).1
     have ed:=decode_cut hl (plain_ne hb) (by omega)
     have hb':plainB w p=true:=by
      unfold plainB at hb ⊢
      rw[ed];exact hb
     rw[rowV_step hl,if_pos hb',ed]
     exact rowV_cut n _ (by omega) (by omega) e
    ·omega
  ·rw[rowV_end (by omega)];omega
def Pc (k:Int) (w:ByteArray):Prop:=0<w.size∧stopB false (bt w 0)=true∧bt w 0≠35∧(signB (bt w 0)=true∧w.size=1∧k=4∨signB (bt w 0)=false∧pieceEnd w 0=w.size∧kindOf w=k∧k≠0)
theorem split3 (s:ByteArray) {p q:Nat} (h1:p≤q) (h2:q≤s.size):s=s.extract 0 p++(s.extract p q++s.extract q s.size):=by
 refine ba_inj ?_
 rw[size_list] at h2
 rw[app_data,app_data,ex_data,ex_data,ex_data,size_list,List.drop_zero,Nat.sub_zero,List.take_of_length_le (l:=s.data.toList.drop q) (by rw[List.length_drop];omega)]
 have e1:s.data.toList.drop q=(s.data.toList.drop p).drop (q-p):=by rw[List.drop_drop,Nat.add_sub_cancel' h1]
 rw[e1,List.take_append_drop,List.take_append_drop]
theorem ex_size2 (s:ByteArray) {p q:Nat} (h2:q≤s.size):(s.extract p q).size=q-p:=by
 rw[ByteArray.size_extract,Nat.min_eq_left h2]
theorem bt_ex (s:ByteArray) {p q:Nat} (h:p<q):bt (s.extract p q) 0=bt s p:=by
 have e1:=sb_bt (s.extract p q) 0
 have e2:=sb_bt s p
 unfold sb at e1 e2
 rw[ex_data,List.getD_eq_getElem?_getD,List.getElem?_take,if_pos (by omega),List.getElem?_drop,Nat.add_zero,←List.getD_eq_getElem?_getD,e2] at e1
 omega
theorem digAt_lt {s:ByteArray} {p:Nat} (h:digAt s p=true):p<s.size∧48≤bt s p∧bt s p≤57:=by
 unfold digAt at h
 simpa using h
theorem dig_plain {s:ByteArray} {p:Nat} (h:digAt s p=true):plainB s p=true∧(Utf8.decode s p).2=1:=by
 obtain⟨h1,h2,h3⟩:=digAt_lt h
 unfold plainB
 rw[decode_ascii (by omega)]
 refine⟨?_,rfl⟩
 unfold letB digB
 rw[decide_eq_true (show (48:Int)≤(bt s p:Int) by omega),decide_eq_true (show (bt s p:Int)≤57 by omega)]
 simp
theorem pieceEnd_cut {w x:ByteArray} (hw:0<w.size) (h:pieceEnd (w++x) 0=w.size):pieceEnd w 0=w.size:=by
 unfold pieceEnd at h ⊢
 rw[bt_left hw] at h
 by_cases c:bt w 0=45∧digAt (w++x) (0+1)=true
 ·rw[if_pos c] at h
  obtain⟨d1,d2,d3⟩:=digAt_lt c.2
  have h1:1<w.size:=by
   rcases Nat.lt_or_ge 1 w.size with h1 | h1
   ·exact h1
   ·obtain⟨p1,p2⟩:=dig_plain c.2
    rw[rowV_step d1,if_pos p1,p2] at h
    have:=(rowV_le (w++x) (w++x).size (0+1+1) (by omega) (by omega)).1
    omega
  have hd:digAt w (0+1)=true:=by
   have:=c.2
   unfold digAt at this ⊢
   rw[bt_left h1] at this
   rw[decide_eq_true (show 0+1<w.size from h1)]
   simpa using (by simpa using this:_∧_∧_).2
  rw[if_pos ⟨c.1,hd⟩]
  exact rowV_cut w.size _ (by omega) (by omega) h
 ·rw[if_neg c] at h
  rw[if_neg (fun hc=>c ⟨hc.1,?_⟩)]
  ·exact rowV_cut w.size _ (by omega) (by omega) h
  ·obtain⟨d1,d2,d3⟩:=digAt_lt hc.2
   unfold digAt
   rw[bt_left d1,decide_eq_true (show 0+1<(w++x).size by rw[app_size];omega),decide_eq_true d2,decide_eq_true d3]
   rfl
theorem pc_of {s:ByteArray} {a:Nat} {t:Tok} (ha:a≤s.size) (h:oneN s a=(t,0,0)):Pc t.k (s.extract t.f.toNat t.t.toNat):=by
 obtain⟨h1,h2,h3⟩:=skV_le s s.size false a (by omega) ha
 obtain⟨p,hp⟩:∃p,skV s false a=p:=⟨_,rfl⟩
 rw[hp] at h1 h2 h3
 by_cases e:p=s.size
 ·rw[oneN_none hp e] at h
  exact absurd (congrArg (fun r=>r.2.2) h) (show ¬((4:Int)=0) by decide)
 obtain⟨g1,g2⟩:=h3 (by omega)
 cases hs:signB (bt s p) with
 | true=>
  rw[oneN_sign hp e hs] at h
  obtain rfl:=(Prod.mk.inj h).1
  show Pc 4 (s.extract ((p:Int)).toNat ((p:Int)+1).toNat)
  rw[show ((p:Int)).toNat=p by omega,show ((p:Int)+1).toNat=p+1 by omega]
  have z2:=ex_size2 s (p:=p) (q:=p+1) (by omega)
  rw[←bt_ex s (show p<p+1 by omega)] at g1 g2 hs
  exact⟨by omega,g1,g2, .inl ⟨hs,by omega,rfl⟩⟩
 | false=>
  by_cases hk:kindOf (s.extract p (pieceEnd s p))=0
  ·rw[oneN_bad hp e hs hk] at h
   exact absurd (congrArg (fun r=>r.2.2) h) (show ¬((6:Int)=0) by decide)
  rw[oneN_ok hp e hs hk] at h
  obtain rfl:=(Prod.mk.inj h).1
  obtain⟨q,hq⟩:∃q,pieceEnd s p=q:=⟨_,rfl⟩
  have h4:=kind_piece hk
  have h5:=pieceEnd_le (s:=s) (p:=p) (by omega)
  rw[hq] at h4 h5 hk ⊢
  show Pc (kindOf (s.extract p q)) (s.extract ((p:Int)).toNat ((q:Int)).toNat)
  rw[show ((p:Int)).toNat=p by omega,show ((q:Int)).toNat=q by omega]
  have sp:=split3 s (show p≤q by omega) h5.2
  have z1:=ex_size2 s (p:=0) (q:=p) (by omega)
  have z2:=ex_size2 s (p:=p) (q:=q) h5.2
  have ep:pieceEnd (s.extract p q++s.extract q s.size) 0=(s.extract p q).size:=by
   have:=pieceEnd_shift (s.extract 0 p) (s.extract p q++s.extract q s.size) 0
   rw[←sp,z1,show p-0+0=p by omega,hq] at this
   omega
  rw[←bt_ex s h4] at g1 g2 hs
  exact⟨by omega,g1,g2, .inr ⟨hs,pieceEnd_cut (by omega) ep,rfl,hk⟩⟩
def rem:ByteArray:=⟨#[32,35,32,114,101,109,97,114,107,10]⟩
theorem rem_bt (y:ByteArray) {i:Nat} (hi:i<10):bt (rem++y) i=bt rem i:=bt_left hi
theorem rem_size (y:ByteArray):(rem++y).size=y.size+10:=by rw[app_size];show 10+y.size=_;omega
def tx (s:ByteArray) (t:Tok):Int×ByteArray:=(t.k,s.extract t.f.toNat t.t.toNat)
theorem bad_go {s:ByteArray} {p:Nat} (hp:p<s.size) (hd:(Utf8.decode s p).1≠65533) (h:badV s s.size ((p+(Utf8.decode s p).2:Nat):Int)=-1):badV s s.size (p:Int)=-1:=by
 have h1:=(decode_pos s p).1
 have hne:¬(formV s (p:Int)).2=0:=fun e=>hd ((form_zero hp).1 e).1
 rw[badV_fuel s s.size (s.size-1+1) p (by omega) (by omega),badV,if_pos (by omega),if_neg hne,form_go hp hne,badV_fuel s (s.size-1) s.size _ (by omega) (by omega)]
 exact h
theorem bad_ascii {s:ByteArray} {p:Nat} (hp:p<s.size) (hb:bt s p<128) (h:badV s s.size ((p+1:Nat):Int)=-1):badV s s.size (p:Int)=-1:=by
 have hd:=decode_ascii hb
 refine bad_go hp (by rw[hd];show bt s p≠65533;omega) ?_
 rw[hd];exact h
theorem bad_rem (y:ByteArray) (h:badV y y.size 0=-1):badV (rem++y) (rem++y).size 0=-1:=by
 have hz:=rem_size y
 have h2:=badV_shift rem y y.size 0 (by omega)
 rw[show ((0:Nat):Int)=0 from rfl,if_pos h] at h2
 have ha:∀i,i<10->bt rem i<128:=by decide +kernel
 have step:∀i,i<10->badV (rem++y) (rem++y).size ((i+1:Nat):Int)=-1->badV (rem++y) (rem++y).size (i:Int)=-1:=fun i hi hb=>
  bad_ascii (by omega) (by rw[rem_bt y hi];exact ha i hi) hb
 exact step 0 (by omega) (step 1 (by omega) (step 2 (by omega) (step 3 (by omega) (step 4 (by omega) (step 5 (by omega) (step 6 (by omega) (step 7 (by omega) (step 8 (by omega) (step 9 (by omega) h2)))))))))
theorem all_run {s:ByteArray} (h:(allV s).2.2=0):s.size≤65536∧badV s s.size 0=-1∧∃r,r.2=4∧Run s 0 (allV s).1 r:=by
 by_cases hs:s.size≤65536
 rotate_left
 ·unfold allV at h
  rw[if_pos (by omega)] at h
  exact absurd h (show ¬((2:Int)=0) by decide)
 refine⟨hs,?_⟩
 rcases bad_cases s with hb | hb
 ·refine⟨hb,?_⟩
  obtain⟨l,r,hr⟩:=run_ex s s.size 0 (by omega) (Nat.zero_le _)
  have e:=allV_run hs hb hr
  by_cases h4:r.2=4
  ·rw[if_pos h4] at e
   rw[e]
   exact⟨r,h4,hr⟩
  ·rw[if_neg h4] at e
   rw[e] at h
   have:=run_end hr (Nat.zero_le _)
   have h:r.2=0:=h
   omega
 ·rw[allV_bad hs hb.1] at h
  exact absurd h (show ¬((5:Int)=0) by decide)
end Go.Proofs.YtojhdmfkfkfcbaaGreatDoor
