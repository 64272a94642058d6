import Derived.Test.YtojhdmfkfkfcbaaGreatDoorSxD
import Derived.Below
import Derived.DataShut
import Derived.Deep.Quiet
import Derived.StillTail
set_option linter.unusedSimpArgs false
set_option linter.unusedVariables false
namespace Go.Sx
def jL(L:List (Nat×V))(q:List (Nat×Bool))(o:Oper):Option (FuncId×List V):=
 match o.op with
 | .call c=>match c.callee with
  | .value fo=>match ev L q fo,evs L q c.args.toList with
   | some (.fn f caps),some A=>some (f,A++caps)
   | _,_=>none
  | _=>none
 | _=>none
def inL(x:Nat):List Nat->Bool
 | []=>false
 | y::r=>Nat.beq x y||inL x r
def bB(xs:List Nat):V->V
 | .ptr i o=>bif inL i xs then .dead else .ptr i o
 | .own i=>bif inL i xs then .dead else .own i
 | .bD i z k o=>bif inL i xs then .dead else .bD i z k o
 | v=>v
def aJ(is:List Nat):List (Nat×Ch)->List (Nat×Ch)
 | []=>[]
 | (i,c)::r=>bif inL i is then aJ is r else (i,c)::aJ is r
def gF:Nat->Nat->List Nat
 | _,0=>[]
 | m,n+1=>m::gF (m+1) n
def og{α:Type}:List α->List α->List α
 | [],b=>b
 | a::r,b=>a::og r b
def jc{α:Type}:Nat->List α->List α
 | 0,l=>l
 | _+1,[]=>[]
 | n+1,_::r=>jc n r
def after(s:St)(d:Nat)(is:List Nat)(fix:Nat)(r:V)(H':List Ch)(q:List (Nat×Bool)):St:=
 let ids:=og is (gF s.m (H'.length-is.length))
 let v:=r.dz (cK ids)
 {L:=put (tH (bB (jc fix is)) s.L) d (match q with | []=>v | q=>.g q v),H:=og (rnH ids ids H') (qB (bB (jc fix is)) (aJ is s.H)),m:=s.m+(H'.length-is.length)}
def zk(g:Cfg)(m:Nat)(is:List Nat)(fix k:Nat):Bool:=nodupB is&&is.all (λi=>Nat.blt i m)&&(jc fix is).all (λi=>Nat.ble g.fix i)&&Nat.beq is.length k
def AEq:List V->List V->Prop
 | [],[]=>True
 | a::r,b::q=>VEq a b∧AEq r q
 | _,_=>False
section
theorem tV{α:Type}(a b:List α):og a b=a++b:=by induction a<;>simp [og, *]
theorem Mv{α:Type}(n:Nat)(l:List α):jc n l=l.drop n:=by
 induction n generalizing l with
 | zero=>rfl
 | succ n ih=>cases l<;>simp [jc,ih]
theorem Aq{x:Nat}{l:List Nat}:inL x l=true↔x∈l:=by
 induction l with
 | nil=>simp [inL]
 | cons y r ih=>simp [inL,ih]
theorem zm(m n:Nat):(gF m n).length=n:=by induction n generalizing m<;>simp [gF, *]
theorem P8{m n x:Nat}:x∈gF m n↔m≤x∧x<m+n:=by
 induction n generalizing m with
 | zero=>simp [gF]
 | succ n ih=>simp only[gF,List.mem_cons,ih];omega
theorem tX{l:List Nat}{i:Nat}(h:i<l.length):nth l i∈l:=List.mem_of_getElem? (lW h)
theorem KA{a b:List Nat}{i:Nat}(h:i<a.length):nth (og a b) i=nth a i:=by
 rw[tV]
 have h1:=lW (is:=a++b) (i:=i) (by simp;omega)
 have h2:=lW h
 rw[List.getElem?_append_left h,h2] at h1
 exact (agS h1).symm
theorem bn{is:List Nat}{H:List (Nat×Ch)}{i:Nat}{c:Ch}(h:(i,c)∈aJ is H):(i,c)∈H∧i∉is:=by
 induction H with
 | nil=>cases h
 | cons e r ih=>
  obtain⟨j,d⟩:=e
  unfold aJ at h
  cases hj:inL j is with
  | true=>rw[hj] at h;simp at h;exact⟨List.mem_cons_of_mem _ (ih h).1,(ih h).2⟩
  | false=>
   rw[hj] at h
   simp only[cond_false,List.mem_cons,agW] at h
   rcases h with⟨rfl,rfl⟩ | h
   ·exact⟨by simp,λhm=>by rw[Aq.2 hm] at hj;cases hj⟩
   ·exact⟨List.mem_cons_of_mem _ (ih h).1,(ih h).2⟩
theorem FD{is:List Nat}:∀{xs:List Nat} {cs:List Ch} {x:Nat} {c':Ch},(x,c')∈rnH is xs cs->∃i c,i<xs.length∧nth xs i=x∧cs[i]?=some c∧c'=c.map (cK is)
 | y::xs,d::cs,x,c',h=>by
  rcases List.mem_cons.1 h with e | h
  ·obtain⟨rfl,rfl⟩:=Prod.mk.inj e;exact⟨0,d,by simp,Z,Z,Z⟩
  ·obtain⟨i,c,h1,h2,h3,h4⟩:=FD h
   exact⟨i+1,c,by simpa using h1,h2,by simpa using h3,h4⟩
 | [],_,_,_,h=>by cases h
 | _::_,[],_,_,h=>by cases h
def pos:List Nat->Nat->Option Nat
 | [],_=>none
 | y::r,x=>if y=x then some 0 else (pos r x).map (· + 1)
theorem aaE{l:List Nat}(hn:∀i j,i<l.length->j<l.length->i≠j->nth l i≠nth l j){i:Nat}(h:i<l.length):pos l (nth l i)=some i:=by
 induction l generalizing i with
 | nil=>simp at h
 | cons y r ih=>
  cases i with
  | zero=>simp [pos,nth]
  | succ i=>
   have h0:=hn 0 (i+1) (by simp) h (by omega)
   simp only[nth] at h0
   simp only[pos,nth,h0,if_false]
   rw[ih (λa b ha hb hab=>hn (a+1) (b+1) (by simpa using ha) (by simpa using hb) (by omega)) (by simpa using h)]
   rfl
theorem XR{l:List Nat}{x:Nat}(h:x∉l):pos l x=none:=by
 induction l with
 | nil=>rfl
 | cons y r ih=>
  have h1:¬y=x:=λe=>h (by simp [e])
  simp only[pos,h1,if_false,ih (λhm=>h (by simp [hm]))];rfl
end
theorem jM{is:List Nat}{k m:Nat}(hm:∀i,i<k->nth is i<m){u:V}(h:u.all1 (fresh k)=true):(u.fJ (cK is)).all1 (fresh m)=true:=by
 have go:∀id,Nat.blt id k=true->Nat.blt (nth is id) m=true:=λid h=>by simpa using hm id (by simpa using h)
 have g0:∀u,fresh k u=true->fresh m (cK is u)=true:=λu h=>by cases u<;>first | exact go _ h | rfl
 cases u with
 | fn f c=>simp only[V.fJ,V.all1,List.all_map,List.all_eq_true,Function.comp] at *;exact λx hx=>g0 x (h x hx)
 | ptr i o=>exact go _ h
 | own i=>exact go _ h
 | bD i z k o=>exact go _ h
 | _=>rfl
theorem kZ{is:List Nat}{k m:Nat}(hm:∀i,i<k->nth is i<m){u:V}(h:u.all2 (fresh k)=true):(u.iQ (cK is)).all2 (fresh m)=true:=by
 cases u with
 | agg us=>simp only[V.iQ,V.all2,List.all_map,List.all_eq_true,Function.comp] at *;exact λx hx=>jM hm (h x hx)
 | fn f c=>exact jM (u:=.fn f c) hm h
 | ptr i o=>exact jM (u:=.ptr i o) hm h
 | own i=>exact jM (u:=.own i) hm h
 | bD i z k o=>exact jM (u:=.bD i z k o) hm h
 | _=>rfl
theorem FE{is:List Nat}{k m:Nat}(hm:∀i,i<k->nth is i<m){u:V}(h:u.aQ (fresh k)=true):(u.dz (cK is)).aQ (fresh m)=true:=by
 cases u with
 | tup us=>simp only[V.dz,V.aQ,List.all_map,List.all_eq_true,Function.comp] at *;exact λx hx=>kZ hm (h x hx)
 | agg us=>exact kZ (u:=.agg us) hm h
 | fn f c=>exact kZ (u:=.fn f c) hm h
 | ptr i o=>exact kZ (u:=.ptr i o) hm h
 | own i=>exact kZ (u:=.own i) hm h
 | bD i z k o=>exact kZ (u:=.bD i z k o) hm h
 | _=>rfl
theorem FH{is:List Nat}{k m:Nat}(hm:∀i,i<k->nth is i<m){c:Ch}(h:c.all (fresh k)=true):(c.map (cK is)).all (fresh m)=true:=by
 cases c with
 | box us=>simp only[Ch.map,Ch.all,List.all_map,List.all_eq_true,Function.comp] at *;exact λx hx=>jM hm (h x hx)
 | held _ _ _ _ _ u _ _ _=>exact jM (u:=u) hm h
 | tbl es=>simp only[Ch.map,Ch.all,List.all_map,List.all_eq_true,Function.comp] at *;exact λx hx=>kZ hm (h x hx)
 | bld T u=>exact jM (u:=u) hm h
 | _=>rfl
theorem iT(xs:List Nat)(u:V):bB xs u=u∨bB xs u=.dead:=by
 cases u with
 | ptr i o=>simp only[bB];cases inL i xs<;>simp
 | own i=>simp only[bB];cases inL i xs<;>simp
 | bD i z k o=>simp only[bB];cases inL i xs<;>simp
 | _=>exact .inl rfl
theorem gq{xs:List Nat}{m m':Nat}(hmm:m≤m'){v:V}(hv:v.all1 (fresh m)=true):(v.fJ (bB xs)).all1 (fresh m')=true:=by
 have g0:∀u,fresh m u=true->fresh m' (bB xs u)=true:=λu h=>by
  rcases iT xs u with e | e<;>rw[e]
  ·exact cZ hmm h
  ·rfl
 have g1:∀u,u.leaf=true->fresh m u=true->(bB xs u).all1 (fresh m')=true:=λu hl h=>by
  have h2:=g0 u h
  rcases iT xs u with e | e
  ·rw[e] at h2 ⊢;cases u<;>first | exact h2 | cases hl
  ·rw[e];rfl
 cases v with
 | fn f c=>simp only[V.fJ,V.all1,List.all_map,List.all_eq_true,Function.comp] at *;exact λx hx=>g0 x (hv x hx)
 | ptr i o=>exact g1 (.ptr i o) rfl hv
 | own i=>exact g1 (.own i) rfl hv
 | bD i z k o=>exact g1 (.bD i z k o) rfl hv
 | _=>first | rfl | exact pq (λu hu=>cZ hmm hu) hv
theorem iE{xs:List Nat}{m m':Nat}(hmm:m≤m'){v:V}(hv:v.all2 (fresh m)=true):(v.iQ (bB xs)).all2 (fresh m')=true:=by
 cases v with
 | agg us=>simp only[V.iQ,V.all2,List.all_map,List.all_eq_true,Function.comp] at *;exact λx hx=>gq hmm (hv x hx)
 | ptr i o=>
  have:=gq (xs:=xs) hmm (v:=.ptr i o) hv
  rcases iT xs (.ptr i o) with e | e<;>(simp only[V.fJ] at this;simp only[V.iQ,V.fJ,e] at this ⊢;exact this)
 | own i=>
  have:=gq (xs:=xs) hmm (v:=.own i) hv
  rcases iT xs (.own i) with e | e<;>(simp only[V.fJ] at this;simp only[V.iQ,V.fJ,e] at this ⊢;exact this)
 | bD i z k o=>
  have:=gq (xs:=xs) hmm (v:=.bD i z k o) hv
  rcases iT xs (.bD i z k o) with e | e<;>(simp only[V.fJ] at this;simp only[V.iQ,V.fJ,e] at this ⊢;exact this)
 | fn f c=>exact gq (v:=.fn f c) hmm hv
 | _=>rfl
theorem iF{xs:List Nat}{m m':Nat}(hmm:m≤m'){v:V}(hv:v.aQ (fresh m)=true):(v.dz (bB xs)).aQ (fresh m')=true:=by
 cases v with
 | tup us=>simp only[V.dz,V.aQ,List.all_map,List.all_eq_true,Function.comp] at *;exact λx hx=>iE hmm (hv x hx)
 | agg us=>exact iE (v:=.agg us) hmm hv
 | ptr i o=>
  have:=iE (xs:=xs) hmm (v:=.ptr i o) hv
  rcases iT xs (.ptr i o) with e | e<;>(simp only[V.iQ,V.fJ] at this;simp only[V.dz,V.iQ,V.fJ,e] at this ⊢;exact this)
 | own i=>
  have:=iE (xs:=xs) hmm (v:=.own i) hv
  rcases iT xs (.own i) with e | e<;>(simp only[V.iQ,V.fJ] at this;simp only[V.dz,V.iQ,V.fJ,e] at this ⊢;exact this)
 | bD i z k o=>
  have:=iE (xs:=xs) hmm (v:=.bD i z k o) hv
  rcases iT xs (.bD i z k o) with e | e<;>(simp only[V.iQ,V.fJ] at this;simp only[V.dz,V.iQ,V.fJ,e] at this ⊢;exact this)
 | fn f c=>exact iE (v:=.fn f c) hmm hv
 | _=>rfl
theorem II{xs:List Nat}{m m':Nat}(hmm:m≤m'){v:V}(hv:v.q9 (fresh m)=true):(v.yZ (bB xs)).q9 (fresh m')=true:=by
 cases v with
 | g p u=>exact iF hmm hv
 | tup us=>exact iF (v:=.tup us) hmm hv
 | agg us=>exact iF (v:=.agg us) hmm hv
 | ptr i o=>
  have:=iF (xs:=xs) hmm (v:=.ptr i o) hv
  rcases iT xs (.ptr i o) with e | e<;>(simp only[V.dz,V.iQ,V.fJ] at this;simp only[V.yZ,V.dz,V.iQ,V.fJ,e] at this ⊢;exact this)
 | own i=>
  have:=iF (xs:=xs) hmm (v:=.own i) hv
  rcases iT xs (.own i) with e | e<;>(simp only[V.dz,V.iQ,V.fJ] at this;simp only[V.yZ,V.dz,V.iQ,V.fJ,e] at this ⊢;exact this)
 | bD i z k o=>
  have:=iF (xs:=xs) hmm (v:=.bD i z k o) hv
  rcases iT xs (.bD i z k o) with e | e<;>(simp only[V.dz,V.iQ,V.fJ] at this;simp only[V.yZ,V.dz,V.iQ,V.fJ,e] at this ⊢;exact this)
 | fn f c=>exact iF (v:=.fn f c) hmm hv
 | _=>rfl
theorem IJ{xs:List Nat}{m m':Nat}(hmm:m≤m'){c:Ch}(hc:c.all (fresh m)=true):(c.map (bB xs)).all (fresh m')=true:=by
 cases c with
 | box us=>simp only[Ch.map,Ch.all,List.all_map,List.all_eq_true,Function.comp] at *;exact λy hy=>gq hmm (hc y hy)
 | held _ _ _ _ _ u _ _ _=>exact gq (v:=u) hmm hc
 | tbl es=>simp only[Ch.map,Ch.all,List.all_map,List.all_eq_true,Function.comp] at *;exact λy hy=>iE hmm (hc y hy)
 | bld T u=>exact gq (v:=u) hmm hc
 | _=>rfl
section
variable{C:Ctx}{s:St}{a:Act}{w w':World}{ρ:Nat->Value}{F:Nat->Prop}{g:Cfg}
theorem R0.bB{xs:List Nat}{m:Nat}{ρ':Nat->Value}{F':Nat->Prop}(hρ:∀i,i<m->i∉xs->ρ' i=ρ i)(hF:∀k,F k->F' k)(hw:∀k,F k->w'.heap[k]?=w.heap[k]?){u:V}{v:Value}(hf:fresh m u=true)(h:R0 ρ F w u v):R0 ρ' F' w' (bB xs u) v:=by
 have one:=h.one'
 have go:∀id,Nat.blt id m=true->inL id xs=false->ρ' id=ρ id:=λid h1 h2=>hρ id (by simpa using h1) (λhm=>by rw[Aq.2 hm] at h2;cases h2)
 cases u with
 | ptr i o=>
  simp only[Sx.bB]
  cases hi:inL i xs with
  | true=>exact one
  | false=>obtain⟨b,h1,h2⟩:=h;exact⟨b,by rw[go i hf hi];exact h1,h2⟩
 | own i=>
  simp only[Sx.bB]
  cases hi:inL i xs with
  | true=>exact one
  | false=>obtain⟨h1,h2⟩:=h;exact⟨by rw[go i hf hi];exact h1,by rw[go i hf hi];exact h2⟩
 | bD i z k o=>
  simp only[Sx.bB]
  cases hi:inL i xs with
  | true=>exact one
  | false=>obtain⟨b,h1,h2⟩:=h;exact⟨b,by rw[go i hf hi];exact h1,h2⟩
 | d x=>exact R0.world hF hw h
 | gU ds=>exact R0.world (u:=.gU ds) hF hw h
 | aD=>exact h
 | dead=>exact h
 | _=>exact h.elim
theorem aF.called(h:aF C s a w ρ F)(yF:g.fix=C.fix){is:List Nat}{fix:Nat}{H H':List Ch}{r:V}{e:Ending}
  (hok:zk g s.m is fix H.length=true) (hH:HLE s.H (rnH is is H)) (hle:H.length≤H'.length) (hfr:aN [r] H' H'.length=true)
  (hpost:Post w F (λi=>ρ (nth is i)) fix H r H' e w') :
  ∃v ρ' F',e=.returned v∧R3 ρ' F' w' (r.dz (cK (og is (gF s.m (H'.length-is.length))))) v∧(r.dz (cK (og is (gF s.m (H'.length-is.length))))).aQ (fresh (s.m+(H'.length-is.length)))=true∧
   aF C {L:=tH (bB (jc fix is)) s.L,H:=og (rnH (og is (gF s.m (H'.length-is.length))) (og is (gF s.m (H'.length-is.length))) H') (qB (bB (jc fix is)) (aJ is s.H)),m:=s.m+(H'.length-is.length)} a w' ρ' F':=by
 obtain⟨v,ρc,F',he,hkeep,hfix,hFF,hlt,hsub,hr,DT,Dv⟩:=hpost
 simp only[zk,agN,List.all_eq_true] at hok
 obtain⟨⟨⟨o1,o2⟩,o3⟩,o4⟩:=hok
 have KC:=agU o4
 have o2':∀i∈is,i<s.m:=λi hi=>by simpa using o2 i hi
 have o3':∀i∈jc fix is,C.fix≤i:=λi hi=>by rw[←yF];simpa using o3 i hi
 generalize hn:H'.length-is.length=n
 generalize P9:og is (gF s.m n)=ids
 have hidl:ids.length=H'.length:=by rw[←P9,tV,List.length_append,zm];omega
 have hmem:∀x,x∈ids↔x∈is∨(s.m≤x∧x<s.m+n):=λx=>by rw[←P9,tV,List.mem_append,P8]
 have hidm:∀x∈ids,x<s.m+n:=λx hx=>by
  rcases (hmem x).1 hx with h1 | h1
  ·have:=o2' x h1;omega
  ·exact h1.2
 have hleft:∀i,i<is.length->nth ids i=nth is i:=λi hi=>by rw[←P9];exact KA hi
 have acZ:∀i j,i<ids.length->j<ids.length->i≠j->nth ids i≠nth ids j:=by
  have hright:∀n m i,i<n->nth (gF m n) i=m+i:=by
   intro n
   induction n with
   | zero=>intro m i hi;omega
   | succ n ih=>
    intro m i hi
    cases i with
    | zero=>rfl
    | succ i=>simp only[gF,nth];rw[ih (m+1) i (by omega)];omega
  have hr2:∀i,is.length≤i->i<ids.length->nth ids i=s.m+(i-is.length):=by
   intro i h1 h2
   have e1:=lW h2
   rw[←P9,tV,List.getElem?_append_right h1] at e1
   have hlen:i-is.length<(gF s.m n).length:=by rw[zm];omega
   rw[lW hlen] at e1
   have e2:=agS e1
   rw[show is++gF s.m n=ids by rw[←tV];exact P9] at e2
   rw[←e2,hright n s.m _ (by rw[zm] at hlen;exact hlen)]
  intro i j hi hj hij e
  by_cases h1:i<is.length
  ·by_cases h2:j<is.length
   ·rw[hleft i h1,hleft j h2] at e
    exact iq o1 i j h1 h2 hij e
   ·rw[hleft i h1,hr2 j (by omega) hj] at e
    have:=o2' _ (tX h1)
    omega
  ·by_cases h2:j<is.length
   ·rw[hleft j h2,hr2 i (by omega) hi] at e
    have:=o2' _ (tX h2)
    omega
   ·rw[hr2 i (by omega) hi,hr2 j (by omega) hj] at e
    omega
 let ρ':Nat->Value:=λx=>match pos ids x with | some i=>ρc i | none=>ρ x
 have ac0:∀i,i<ids.length->ρ' (nth ids i)=ρc i:=λi hi=>by simp only[ρ',aaE acZ hi]
 have aaF:∀x,x∉ids->ρ' x=ρ x:=λx hx=>by simp only[ρ',XR hx]
 have Qa:∀i,i<H'.length->ρ' (nth ids i)=ρc i:=λi hi=>ac0 i (by omega)
 have aeB:∀p,p<is.length->∃c0,(nth is p,c0)∈s.H:=λp hp=>by
  obtain⟨c0,k1,_⟩:=oz KC hH (agO (show p<H.length by omega))
  exact⟨c0,k1⟩
 have hE:∀b,ownB (λi=>ρ (nth is i)) H b->∃p c0,p<is.length∧(nth is p,c0)∈s.H∧bks ρ (nth is p) c0 b:=λb hb=>by
  obtain⟨p,hp,hb⟩:=hb
  obtain⟨c0,k1⟩:=aeB p (by omega)
  exact⟨p,c0,by omega,k1,aT hb⟩
 have hwF:∀k,F k->w'.heap[k]?=w.heap[k]?:=λk hk=>hkeep.block k (h.lt k hk) (λhb=>by
  obtain⟨p,c0,hp,k1,k2⟩:=hE k hb
  exact h.out _ c0 k k1 k2 hk)
 have Qb:Keeps C.w0 C.E w':=⟨hkeep.os.trans h.keep.os,hkeep.tape.trans h.keep.tape,hkeep.output.trans h.keep.output,Nat.le_trans h.keep.size hkeep.size,λk hk hne=>by
  refine (hkeep.block k (Nat.lt_of_lt_of_le hk h.keep.size) (λhb=>?_)).trans (h.keep.block k hk hne)
  obtain⟨p,c0,hp,k1,k2⟩:=hE k hb
  rcases h.mine _ c0 k k1 k2 with h1 | h1
  ·omega
  ·exact hne h1⟩
 have ac1:∀i,i<C.fix->ρ' i=C.ρ0 i:=λi hi=>by
  by_cases hm:i∈ids
  ·rcases (hmem i).1 hm with h1 | h1
   ·obtain⟨p,hp,rfl⟩:∃p,p<is.length∧nth is p=i:=by
     obtain⟨p,hp⟩:=List.getElem?_of_mem h1
     have hlt:=(List.getElem?_eq_some_iff.1 hp).1
     rw[lW hlt] at hp
     exact⟨p,hlt,agS hp⟩
    have hpf:p<fix:=by
     rcases Nat.lt_or_ge p fix with h2 | h2
     ·exact h2
     ·have:nth is p∈jc fix is:=by
       rw[Mv]
       have h3:(is.drop fix)[p-fix]?=some (nth is p):=by
        rw[List.getElem?_drop,show fix+(p-fix)=p by omega];exact lW hp
       exact List.mem_of_getElem? h3
      have:=o3' _ this
      omega
    have e5:=ac0 p (by omega)
    rw[hleft p hp] at e5
    rw[e5,hfix p hpf]
    exact h.cu.2 _ hi
   ·have:=h.cu.1;omega
  ·rw[aaF i hm];exact h.cu.2 i hi
 have hother:∀{i:Nat} {c:Ch},(i,c)∈s.H->i∉is->i∉ids:=λhic hni hm=>by
  rcases (hmem _).1 hm with h1 | h1
  ·exact hni h1
  ·have:=(h.aK _ _ hic).1;omega
 have hA:aF C {L:=tH (bB (jc fix is)) s.L,H:=qB (bB (jc fix is)) (aJ is s.H),m:=s.m+n} a w' ρ' F':=by
  refine h.change (bB (jc fix is)) (λu v hu hr=>R0.bB (m:=s.m) (λi hi hni=>?_) hFF hwF hu hr) (λt v hv=>?_) (λi c hc=>?_) hFF hwF hlt Qb (by omega) (λk hk=>?_) ac1
  ·by_cases hm:i∈ids
   ·rcases (hmem i).1 hm with h1 | h1
    ·obtain⟨p,hp⟩:=List.getElem?_of_mem h1
     have hlt:=(List.getElem?_eq_some_iff.1 hp).1
     rw[lW hlt] at hp
     obtain rfl:=agS hp
     have hpf:p<fix:=by
      rcases Nat.lt_or_ge p fix with h2 | h2
      ·exact h2
      ·refine (hni ?_).elim
       rw[Mv]
       have h3:(is.drop fix)[p-fix]?=some (nth is p):=by
        rw[List.getElem?_drop,show fix+(p-fix)=p by omega];exact lW hlt
       exact List.mem_of_getElem? h3
     rw[←hleft p hlt,ac0 p (by omega),hfix p hpf,hleft p hlt]
    ·omega
   ·exact aaF i hm
  ·obtain⟨v0,h1,rfl⟩:=Fp hv
   exact⟨⟨v0,h1,Z⟩,II (by omega) (h.aR t v0 h1)⟩
  ·obtain⟨c0,h1,rfl⟩:=vM hc
   obtain⟨h1,h2⟩:=bn h1
   refine⟨⟨c0,h1,Z⟩,IJ (by omega) (h.aK i c0 h1).2,aaF i (hother h1 h2),λb e=>by rw[oq] at e;exact⟨hkeep.block b ((h.ch i c0 h1).lt e) (λhb=>by
    obtain⟨p,c1,hp,k1,k2⟩:=hE b hb
    exact h.sep i (nth is p) c0 c1 b h1 k1 (λe2=>h2 (by rw[e2];exact tX hp)) e k2),λhb=>by
    rcases hsub b hb with h3 | h3 | h3
    ·exact h.out i c0 b h1 e h3
    ·have:=(h.ch i c0 h1).lt e;omega
    ·obtain⟨p,c1,hp,k1,k2⟩:=hE b h3
     exact h.sep i (nth is p) c0 c1 b h1 k1 (λe2=>h2 (by rw[e2];exact tX hp)) e k2⟩⟩
  ·rcases hsub k hk with h1 | h1 | h1
   ·exact h.sub k h1
   ·exact .inr (.inl (Nat.le_trans h.keep.size h1))
   ·obtain⟨p,c0,hp,k1,k2⟩:=hE k h1
    rcases h.mine _ c0 k k1 k2 with h2 | h2
    ·exact .inr (.inl h2)
    ·exact .inr (.inr h2)
 simp only[aN,agN,List.all_eq_true] at hfr
 have UU:∀i,i<H'.length->nth ids i<s.m+n:=λi hi=>hidm _ (tX (by omega))
 refine⟨v,ρ',F',he,?_,FE UU (hfr.1 r (by simp)),?_⟩
 ·have:=R3.map (p:=fresh H'.length) (k:=cK ids) (ρ':=ρ') (F':=F') (w':=w') (λu x hu hr=>R0.ren Qa hu hr) (hfr.1 r (by simp)) hr
  exact this
 ·have split:∀{i:Nat} {c:Ch},(i,c)∈og (rnH ids ids H') (qB (bB (jc fix is)) (aJ is s.H))->(∃p c0,p<H'.length∧nth ids p=i∧H'[p]?=some c0∧c=c0.map (cK ids))∨(i,c)∈qB (bB (jc fix is)) (aJ is s.H):=by
   intro i c hic
   rw[tV,List.mem_append] at hic
   rcases hic with h1 | h1
   ·obtain⟨p,c0,p1,p2,p3,p4⟩:=FD h1
    exact .inl ⟨p,c0,by omega,p2,p3,p4⟩
   ·exact .inr h1
  have Sw:∀p b,p<H'.length->blk (ρc p)=some b->(w.heap.size≤b∨ownB (λi=>ρ (nth is i)) H b):=λp b hp e=>Dv p b hp e
  have XT:∀{p i:Nat} {c:Ch} {b:Nat},p<H'.length->(i,c)∈qB (bB (jc fix is)) (aJ is s.H)->blk (ρc p)=some b->¬bks ρ' i c b:=by
   intro p i c b hp hic e e2
   obtain⟨c0,h1,rfl⟩:=vM hic
   obtain⟨h1,h2⟩:=bn h1
   rw[jX (aaF i (hother h1 h2)),oq] at e2
   rcases Sw p b hp e with h3 | h3
   ·have:=(h.ch i c0 h1).lt e2;omega
   ·obtain⟨q,c1,hq,k1,k2⟩:=hE b h3
    exact h.sep i (nth is q) c0 c1 b h1 k1 (λe3=>h2 (by rw[e3];exact tX hq)) e2 k2
  exact {
      size:=hA.size,defers:=hA.defers,slot:=hA.slot,aR:=hA.aR,lt:=hA.lt,sub:=hA.sub,base:=hA.base,cu:=hA.cu,keep:=hA.keep,env:=hA.env
      ch:=λi c hic=>by
       rcases split hic with⟨p,c0,p1,rfl,p3,rfl⟩ | h1
       ·exact jf.ren Qa p1 (hfr.2 c0 (List.mem_of_getElem? p3)).1 (DT.ch p c0 p3)
       ·exact hA.ch i c h1
      sep:=λi j ci cj b hi hj hij e=>by
       rcases split hi with⟨p,c0,p1,rfl,p3,rfl⟩ | h1
       ·have e:=dI (by rw[rR];exact (hfr.2 c0 (List.mem_of_getElem? p3)).2) e
        rw[Qa p p1] at e
        rcases split hj with⟨q,c1,q1,rfl,q3,rfl⟩ | h2
        ·intro e2
         have e2:=dI (by rw[rR];exact (hfr.2 c1 (List.mem_of_getElem? q3)).2) e2
         rw[Qa q q1] at e2
         exact DT.sep p q b p1 q1 (λe2=>hij (by rw[e2])) e e2
        ·exact XT p1 h2 e
       ·rcases split hj with⟨q,c1,q1,rfl,q3,rfl⟩ | h2
        ·intro e2
         have e2:=dI (by rw[rR];exact (hfr.2 c1 (List.mem_of_getElem? q3)).2) e2
         rw[Qa q q1] at e2
         exact XT q1 h1 e2 e
        ·exact hA.sep i j ci cj b h1 h2 hij e
      out:=λi c b hi e=>by
       rcases split hi with⟨p,c0,p1,rfl,p3,rfl⟩ | h1
       ·have e:=dI (by rw[rR];exact (hfr.2 c0 (List.mem_of_getElem? p3)).2) e
        rw[Qa p p1] at e;exact DT.out p b p1 e
       ·exact hA.out i c b h1 e
      aK:=λi c hi=>by
       rcases split hi with⟨p,c0,p1,rfl,p3,rfl⟩ | h1
       ·exact⟨UU p p1,FH UU (hfr.2 c0 (List.mem_of_getElem? p3)).1⟩
       ·exact hA.aK i c h1
      mine:=λi c b hi e=>by
       rcases split hi with⟨p,c0,p1,rfl,p3,rfl⟩ | h1
       ·have e:=dI (by rw[rR];exact (hfr.2 c0 (List.mem_of_getElem? p3)).2) e
        rw[Qa p p1] at e
        rcases Sw p b p1 e with h3 | h3
        ·exact .inl (Nat.le_trans h.keep.size h3)
        ·obtain⟨q,c1,hq,k1,k2⟩:=hE b h3
         exact h.mine _ c1 b k1 k2
       ·exact hA.mine i c b h1 e}
theorem Ar{P:Program}{a:Act}{o:Oper}{c:Call}{fo:Operand}(hop:o.op=.call c)(hc:c.callee=.value fo){f:FuncId}{cs:Array Value}(hf:a.eval fo=.func (.func f) #[] cs)(hcall:eO P f)(w:World) :
  (execOp a.eval o).run P w=.ok (.enter f (c.args.map a.eval++cs)) w:=by
 obtain⟨fn,h1,h2,h3⟩:=hcall
 have hb:fn.body.isNone=false:=by cases hh:fn.body<;>simp_all
 simp only[execOp,hop,resolve,hc,hf,Deferred.ofValue,Sem.run_bind,Sem.run_pure,Result.andThen,invoke,callFunc,program]
 simp [Sem.run,h1,h3,hb]
theorem lJ:∀{us vs:List V} {cs:List Value},AEq us vs->aH (R3 ρ F w) us cs->aH (R3 ρ F w) vs cs
 | [],[],_,_,hr=>hr
 | u::us,v::vs,c::cs,h,hr=>⟨xK h.1 hr.1,lJ h.2 hr.2⟩
 | u::us,v::vs,[],h,hr=>hr.elim
 | [],_::_,_,h,_=>h.elim
 | _::_,[],_,h,_=>h.elim
theorem FI(h:aF C s a w ρ F)(yF:g.fix=C.fix){q:List (Nat×Bool)}(hq:pcA a.tmps q){o:Oper}{f:FuncId}{A:List V}(hco:jL s.L q o=some (f,A))
  {is:List Nat} {fix:Nat} {args:List V} {H H':List Ch} {r:V} (hp:aG C.pg f fix args H r H') (hA:AEq A (args.map (V.dz (cK is)))) (hok:zk g s.m is fix H.length=true) (hH:HLE s.H (rnH is is H)) :
  ∃vals,(execOp a.eval o).run C.P w=.ok (.enter f vals) w∧Calls C.P f vals w (λe w'=>∃v ρ' F',e=.returned v∧R3 ρ' F' w' (r.dz (cK (og is (gF s.m (H'.length-is.length))))) v∧(r.dz (cK (og is (gF s.m (H'.length-is.length))))).aQ (fresh (s.m+(H'.length-is.length)))=true∧
   aF C {L:=tH (bB (jc fix is)) s.L,H:=og (rnH (og is (gF s.m (H'.length-is.length))) (og is (gF s.m (H'.length-is.length))) H') (qB (bB (jc fix is)) (aJ is s.H)),m:=s.m+(H'.length-is.length)} a w' ρ' F'):=by
 obtain⟨hcall,hfr,yE,hfx,hHH,FJ⟩:=hp
 unfold jL at hco
 split at hco
 ·rename_i c hop
  split at hco
  ·rename_i fo hc
   split at hco
   ·rename_i f' caps A' he hes
    simp only[agR,agW] at hco
    obtain⟨rfl,rfl⟩:=hco
    obtain⟨cs,hcs,vR⟩:=(show R1 ρ F w (.fn f' caps) _ from (aC h hq he).1)
    have hargs:=(jB h hq hes).1
    have hok':=hok
    simp only[zk,agN,List.all_eq_true] at hok
    obtain⟨⟨⟨o1,o2⟩,o3⟩,o4⟩:=hok
    have KC:=agU o4
    simp only[aN,agN,List.all_eq_true] at hfr
    have yR:c.args.map a.eval++cs.toArray=(c.args.toList.map a.eval++cs).toArray:=by
     cases c.args;simp
    have hall:aH (R3 ρ F w) (A'++caps) (c.args.toList.map a.eval++cs):=hargs.app (vR.mono λu v hr=>kE (jE (rQ hr)))
    have FK:=lJ hA hall
    have FL:aH (R3 (λi=>ρ (nth is i)) F w) args (c.args.toList.map a.eval++cs):=FK.unmap λu v hu hr=>R3.dW (k:=H.length) (λ_ _=>rfl) (hfr.1 u hu) hr
    have hold:Holds (λi=>ρ (nth is i)) F w H:=by
     have hx:∀i,i<H.length->∃c,H[i]?=some c∧∃c0,(nth is i,c0)∈s.H∧mH c0 (c.map (cK is)):=λi hi=>by
      obtain⟨c0,k1,k2⟩:=oz KC hH (agO hi)
      exact⟨_,agO hi,c0,k1,k2⟩
     refine⟨λi c hc=>?_,λi j b hi hj hij e=>?_,λi b hi e=>?_⟩
     ·have hi:=(List.getElem?_eq_some_iff.1 hc).1
      obtain⟨c',hc',c0,k1,k2⟩:=hx i hi
      rw[hc] at hc'
      obtain rfl:=agS hc'
      exact jf.dW (k:=H.length) (ρ:=λi=>ρ (nth is i)) (λ_ _=>rfl) hi (hfr.2 c (List.mem_of_getElem? hc)).1 (jg k2 (h.ch _ _ k1))
     ·obtain⟨_,_,c0,k1,_⟩:=hx i hi
      obtain⟨_,_,c1,k3,_⟩:=hx j hj
      exact λe2=>h.sep _ _ c0 c1 b k1 k3 (iq o1 i j (by omega) (by omega) hij) (aT e) (aT e2)
     ·obtain⟨_,_,c0,k1,_⟩:=hx i hi
      exact h.out _ c0 b k1 (aT e)
    refine⟨_,Ar hop hc hcs hcall w,?_⟩
    rw[yR]
    exact (FJ w F _ _ h.lt h.env hold FL).mono λe w' hpost=>aF.called h yF hok' hH hHH yE hpost
   ·simp at hco
  ·simp at hco
 ·simp at hco
variable{K:List Item}{Φ:Exit->St->Prop}
theorem Go.call(hn:g.n=C.n)(yF:g.fix=C.fix){all:Array Oper}{o:Oper}{rest:List Oper}(is:List Nat){fix:Nat}{args:List V}{H H':List Ch}{r:V}{f:FuncId}{A:List V}{d:Nat}
  (hp:aG C.pg f fix args H r H') (hgd:o.guard=none) (hd:o.dst=some d) (hdn:Nat.blt d g.n=true) (hco:jL s.L [] o=some (f,A)) (hA:AEq A (args.map (V.dz (cK is)))) (hok:zk g s.m is fix H.length=true) (hH:HLE s.H (rnH is is H))
  (k:Go C (.ops all rest::K) (after s d is fix r H' []) Φ):Go C (.ops all (o::rest)::K) s Φ:=by
 rintro a w ⟨ρ,F,h⟩
 obtain⟨vals,h1,h2⟩:=FI h yF (dn _) hco hp hA hok hH
 show gD C.rd C.P all (den C (gP C Φ) K) (o::rest) a w
 refine jW hgd λN hN=>?_
 refine qZ h1 tR ?_
 rw[Oper.upon_enter]
 refine h2.mono ?_
 rintro e w' ⟨v,ρ',F',rfl,r1,r2,r3⟩
 refine hN _ _ ?_
 rw[hd]
 exact k _ _ ⟨ρ',F',r3.put (by rw[←hn];simpa using hdn) r1 r2⟩
theorem Go.pF(hn:g.n=C.n)(yF:g.fix=C.fix){all:Array Oper}{o:Oper}{rest:List Oper}{args:List V}{r:V}{f:FuncId}{A:List V}{d j:Nat}{u:Bool}{q:List (Nat×Bool)}
  (hgd:o.guard=some (j,u)) (hgp:Am s.L all j u=some q) (hd:o.dst=some d) (hdn:(Nat.blt d g.n&&!(q.any λe=>Nat.beq e.1 d)&&r.aQ (fresh 0))=true) (hco:jL s.L q o=some (f,A))
  (hp:imp s.L q (Pure C.pg f args r [])) (hA:AEq A (args.map (V.dz (cK [])))) (hok:zk g s.m [] 0 0=true)
  (k:Go C (.ops all rest::K) {s with L:=put s.L d (.g q r)} Φ):Go C (.ops all (o::rest)::K) s Φ:=by
 rintro a w ⟨ρ,F,h⟩
 simp only[agN,agZ] at hdn
 obtain⟨⟨b1,b2⟩,b3⟩:=hdn
 have hgs:=jK h hgp
 have hwant:Region.wanted o (yielded all a.tmps)=true↔pcA a.tmps q:=by rw[←hgs];simp [Region.wanted,hgd]
 show gD C.rd C.P all (den C (gP C Φ) K) (o::rest) a w
 refine nL λN hN=>?_
 cases hw:Region.wanted o (yielded all a.tmps) with
 | true=>
  have hpc:=hwant.1 hw
  have hp:=lI h hpc hp
  obtain⟨vals,h1,h2⟩:=FI h yF hpc hco hp hA hok trivial
  simp only[if_true]
  refine qZ h1 tR ?_
  rw[Oper.upon_enter]
  refine h2.mono ?_
  rintro e w' ⟨v,ρ',F',rfl,r1,r2,r3⟩
  refine hN _ _ ?_
  rw[hd]
  have hr0:∀u v,fresh 0 u=true->R0 ρ' F' w' (cK ([]:List Nat) u) v->R0 ρ' F' w' u v:=λu v hu hr=>by cases u<;>first | exact hr | simp [fresh] at hu
  have r1':R3 ρ' F' w' r v:=R3.dW (ρ:=ρ') (k:=0) (λi hi=>by omega) b3 r1
  have hid:tH (bB (jc 0 [])) s.L=s.L:=by
   have hk:(bB (jc 0 ([]:List Nat)))=λu=>u:=by funext u;cases u<;>rfl
   rw[hk]
   have:∀L,tH (λu=>u) L=L:=λL=>by induction L with
    | nil=>rfl
    | cons e L ih=>simp [tH,tK,ih]
   exact this _
  have hidH:qB (bB (jc 0 [])) (aJ [] s.H)=s.H:=by
   have hk:(bB (jc 0 ([]:List Nat)))=λu=>u:=by funext u;cases u<;>rfl
   rw[hk]
   have h0:∀H,aJ [] H=H:=λH=>by induction H with
    | nil=>rfl
    | cons e L ih=>simp [aJ,inL,ih]
   have:∀L,qB (λu=>u) L=L:=λL=>by induction L with
    | nil=>rfl
    | cons e L ih=>simp [qB,kF,ih]
   rw[h0,this]
  have r3':aF C s a w' ρ' F':=by
   rw[hid,hidH] at r3
   exact r3
  exact k _ _ ⟨ρ',F',r3'.yC (by rw[←hn];simpa using b1) ⟨λ_=>r1',λhno=>(hno ((iL b2).2 hpc)).elim⟩ (jr (λu hu=>cZ (Nat.zero_le _) hu) b3)⟩
 | false=>
  simp only[ag0,if_false]
  have hpc:¬pcA a.tmps q:=λhc=>by rw[hwant.2 hc] at hw;cases hw
  refine hN _ _ ?_
  rw[hd]
  exact k _ _ ⟨ρ,F,h.yC (by rw[←hn];simpa using b1) ⟨λhc=>(hpc ((iL b2).1 hc)).elim,λ_=>rfl⟩ (jr (λu hu=>cZ (Nat.zero_le _) hu) b3)⟩
end
def Qc(s:St)(o:Oper):Option (Nat×Nat×BY×Nat):=
 match o.op,o.dst with
 | .next it true,some d=>match ev s.L [] it with
  | some (.ptr id 0)=>match get s.H id with
   | some (.iter b pos)=>some (id,d,b,pos)
   | _=>none
  | _=>none
 | _,_=>none
def frz(id:Nat)(d:D):V->V
 | .own i=>bif Nat.beq i id then .d d else .own i
 | .bD i z k o=>bif Nat.beq i id then .dead else .bD i z k o
 | v=>v
def frozen(s:St)(id:Nat):St:=
 match get s.H id with
 | some (.vec e sz n f)=>{L:=tH (frz id (.sl sz n f)) s.L,H:=qB (frz id (.sl sz n f)) (nM id s.H),m:=s.m}
 | some (.pos l)=>{L:=tH (frz id (.mp l)) s.L,H:=qB (frz id (.mp l)) (nM id s.H),m:=s.m}
 | _=>s
section
variable{C:Ctx}{s:St}{a:Act}{w w':World}{ρ:Nat->Value}{F:Nat->Prop}{g:Cfg}{K:List Item}{Φ:Exit->St->Prop}
theorem Go.next(hn:g.n=C.n){all:Array Oper}{o:Oper}{rest:List Oper}{id d:Nat}{b:BY}{p:Nat}(hgd:o.guard=none)(ho:Qc s o=some (id,d,b,p))(hdn:Nat.blt d g.n=true)
  (h1:p<b.size->Go C (.ops all rest::K) {L:=put s.L d (.tup [vb true,vi (p:Int),.d (.int .i32 ((Utf8.decode b p).1:Int))]),H:=(id,.iter b (p+(Utf8.decode b p).2))::nM id s.H,m:=s.m} Φ)
  (h2:¬p<b.size->Go C (.ops all rest::K) {s with L:=put s.L d (.tup [vb false])} Φ):Go C (.ops all (o::rest)::K) s Φ:=by
 rintro a w ⟨ρ,F,h⟩
 unfold Qc at ho
 split at ho
 ·rename_i it d' hop hd
  split at ho
  ·rename_i id' hit
   split at ho
   ·rename_i b' p' hgH
    simp only[agR,agW] at ho
    obtain⟨rfl,rfl,rfl,rfl⟩:=ho
    obtain⟨bl,hb,hv⟩:=(show R0 ρ F w (.ptr id' 0) _ from (aC h (dn _) hit).1)
    obtain⟨bl',hb',hheap⟩:=h.ch id' _ (get_mem hgH)
    rw[hb] at hb'
    simp only[Value.pointer.injEq,agR,Addr.mk.injEq,and_true] at hb'
    subst hb'
    have aeC:d'<C.n:=by rw[←hn];simpa using hdn
    by_cases hp:p'<b'.size
    ·have hrun:(execOp a.eval o).run C.P w=.ok (.value (.tuple #[.bool true,.int .i64 (p':Int),.int .i32 ((Utf8.decode b' p').1:Int)])) {w with heap:=w.heap.setIfInBounds bl (.stringIter b' (p'+(Utf8.decode b' p').2))}:=by
      simp only[execOp,hop,hv]
      refine uY ?_
      simp only[Instr.next,getObj,setObj,Sem.run_bind,Sem.run,hheap,Result.andThen,hp,if_true]
      simp [Sem.run,hheap,goInt]
     refine Ap hgd (.inl hrun) ?_
     rw[hd]
     have hlt:bl<w.heap.size:=(Array.getElem?_eq_some_iff.1 hheap).1
     have hm:Mod (blk (ρ id')) w {w with heap:=w.heap.setIfInBounds bl (.stringIter b' (p'+(Utf8.decode b' p').2))}:=by
      rw[hb]
      refine⟨Z,Z,Z,by simp,λk _ hk=>?_⟩
      have:bl≠k:=λe=>hk (by rw[←e];rfl)
      simp [Array.getElem?_setIfInBounds,this]
     have ht:=h.touch (get_mem hgH) hm (c':=.iter b' (p'+(Utf8.decode b' p').2)) ⟨bl,hb,by simp [hlt]⟩ Z
     exact h1 hp _ _ ⟨ρ,F,ht.put aeC ⟨[.bool true,.int .i64 (p':Int),.int .i32 ((Utf8.decode b' p').1:Int)],Z,RD.bool _,RD.int _ _,RD.int _ _,tR⟩ Z⟩
    ·have hrun:(execOp a.eval o).run C.P w=.ok (.value (.tuple #[.bool false])) w:=by
      simp only[execOp,hop,hv]
      refine uY ?_
      simp [Instr.next,getObj,Sem.run,hheap,hp]
     refine Ap hgd (.inl hrun) ?_
     rw[hd]
     exact h2 hp _ _ ⟨ρ,F,h.put aeC ⟨[.bool false],Z,RD.bool _,tR⟩ Z⟩
   ·simp at ho
  ·simp at ho
 ·simp at ho
theorem UW{id m:Nat}{d:D}{u:V}(h:fresh m u=true):fresh m (frz id d u)=true:=by
 cases u with
 | own i=>simp only[frz];cases Nat.beq i id<;>first | exact h | rfl
 | bD i z k o=>simp only[frz];cases Nat.beq i id<;>first | exact h | rfl
 | _=>exact h
theorem pG{id m:Nat}{d:D}{v:V}(hv:v.all1 (fresh m)=true):(v.fJ (frz id d)).all1 (fresh m)=true:=by
 cases v with
 | fn g c=>simp only[V.fJ,V.all1,List.all_map,List.all_eq_true,Function.comp] at *;exact λx hx=>UW (hv x hx)
 | own i=>simp only[V.fJ,frz];cases Nat.beq i id<;>first | exact hv | rfl
 | bD i z k o=>simp only[V.fJ,frz];cases Nat.beq i id<;>first | exact hv | rfl
 | _=>exact hv
theorem tY{id m:Nat}{d:D}{v:V}(hv:v.all2 (fresh m)=true):(v.iQ (frz id d)).all2 (fresh m)=true:=by
 cases v with
 | agg us=>simp only[V.iQ,V.all2,List.all_map,List.all_eq_true,Function.comp] at *;exact λx hx=>pG (hv x hx)
 | fn g c=>exact pG (v:=.fn g c) hv
 | own i=>simp only[V.iQ,V.fJ,frz];cases Nat.beq i id<;>first | exact hv | rfl
 | bD i z k o=>simp only[V.iQ,V.fJ,frz];cases Nat.beq i id<;>first | exact hv | rfl
 | _=>exact hv
theorem tZ{id m:Nat}{d:D}{v:V}(hv:v.aQ (fresh m)=true):(v.dz (frz id d)).aQ (fresh m)=true:=by
 cases v with
 | tup us=>simp only[V.dz,V.aQ,List.all_map,List.all_eq_true,Function.comp] at *;exact λx hx=>tY (hv x hx)
 | agg us=>exact tY (v:=.agg us) hv
 | fn g c=>exact tY (v:=.fn g c) hv
 | own i=>simp only[V.dz,V.iQ,V.fJ,frz];cases Nat.beq i id<;>first | exact hv | rfl
 | bD i z k o=>simp only[V.dz,V.iQ,V.fJ,frz];cases Nat.beq i id<;>first | exact hv | rfl
 | _=>exact hv
theorem Qd{id m:Nat}{d:D}{v:V}(hv:v.q9 (fresh m)=true):(v.yZ (frz id d)).q9 (fresh m)=true:=by
 cases v with
 | g p u=>exact tZ hv
 | tup us=>exact tZ (v:=.tup us) hv
 | agg us=>exact tZ (v:=.agg us) hv
 | fn g c=>exact tZ (v:=.fn g c) hv
 | own i=>simp only[V.yZ,V.dz,V.iQ,V.fJ,frz];cases Nat.beq i id<;>first | exact hv | rfl
 | bD i z k o=>simp only[V.yZ,V.dz,V.iQ,V.fJ,frz];cases Nat.beq i id<;>first | exact hv | rfl
 | _=>exact hv
theorem aF.toData(h:aF C s a w ρ F){id:Nat}{c:Ch}{d:D}(hgH:get s.H id=some c)(hdat:RD (λk=>F k∨blk (ρ id)=some k) w d (ρ id)):Sat C {L:=tH (frz id d) s.L,H:=qB (frz id d) (nM id s.H),m:=s.m} a w:=by
 let F':Nat->Prop:=λk=>F k∨blk (ρ id)=some k
 have hFF:∀k,F k->F' k:=λk hk=>.inl hk
 refine⟨ρ,F',h.change (frz id d) (λu v hu hr=>?_) (λt v hv=>?_) (λi c hc=>?_) hFF (λ_ _=>rfl) (λk hk=>?_) h.keep (Nat.le_refl _) (λk hk=>?_) h.cu.2⟩
 ·cases u with
  | own i=>
   simp only[frz]
   cases hi:Nat.beq i id with
   | true=>
    have:=agU hi
    subst this
    obtain⟨h1,_⟩:=hr
    subst h1
    exact hdat
   | false=>exact R0.world (u:=.own i) hFF (λ_ _=>rfl) hr
  | bD i z k o=>
   simp only[frz]
   cases hi:Nat.beq i id with
   | true=>exact hr.one'
   | false=>exact R0.world (u:=.bD i z k o) hFF (λ_ _=>rfl) hr
  | d x=>exact R0.world (u:=.d x) hFF (λ_ _=>rfl) hr
  | gU x=>exact R0.world (u:=.gU x) hFF (λ_ _=>rfl) hr
  | aD=>exact hr
  | ptr i o=>exact hr
  | dead=>exact hr
  | _=>exact hr.elim
 ·obtain⟨v0,h1,rfl⟩:=Fp hv
  exact⟨⟨v0,h1,Z⟩,Qd (h.aR t v0 h1)⟩
 ·obtain⟨c0,h1,rfl⟩:=vM hc
  obtain⟨h1,hne⟩:=vG h1
  refine⟨⟨c0,h1,Z⟩,?_,Z,λb e2=>⟨Z,λhb=>?_⟩⟩
  ·have:=(h.aK i c0 h1).2
   cases c0 with
   | box us=>simp only[Ch.map,Ch.all,List.all_map,List.all_eq_true,Function.comp] at *;exact λy hy=>pG (this y hy)
   | held _ _ _ _ _ u _ _ _=>exact pG (v:=u) this
   | tbl es=>simp only[Ch.map,Ch.all,List.all_map,List.all_eq_true,Function.comp] at *;exact λy hy=>tY (this y hy)
   | bld T u=>exact pG (v:=u) this
   | _=>rfl
  ·rw[oq] at e2
   rcases hb with hb | hb
   ·exact h.out i c0 b h1 e2 hb
   ·exact h.sep i id c0 _ b h1 (get_mem hgH) hne e2 (aT hb)
 ·rcases hk with hk | hk
  ·exact h.lt k hk
  ·exact (h.ch id _ (get_mem hgH)).lt (aT hk)
 ·rcases hk with hk | hk
  ·exact h.sub k hk
  ·rcases h.mine id _ k (get_mem hgH) (aT hk) with h1 | h1
   ·exact .inr (.inl h1)
   ·exact .inr (.inr h1)
theorem Go.freeze(id:Nat)(k:Go C K (frozen s id) Φ):Go C K s Φ:=by
 rintro a w ⟨ρ,F,h⟩
 refine k a w ?_
 unfold frozen
 split
 ·rename_i e sz n f hgH
  obtain⟨xs,hown,hel⟩:=h.ch id _ (get_mem hgH)
  let F':Nat->Prop:=λk=>F k∨blk (ρ id)=some k
  have hFF:∀k,F k->F' k:=λk hk=>.inl hk
  have hdat:RD F' w (.sl sz n f) (ρ id):=by
   rcases hown.2 with⟨h1,h2⟩ | ⟨b,cap,cur,h1,_,h3,h4,h5,h6,h7⟩
   ·subst h2;rw[h1];exact .emp _ _ _ _
   ·rw[h1]
    refine .sl sz n f b 0 cap (λi j=>(xs[i*sz+j]?).getD undef) (.inr (by rw[h1];rfl)) h4 (λi j hi hj=>?_) (λi hi=>(hel i hi).1) (λi j d hi hd=>?_)
    ·have hl:=(hel i hi).1
     obtain⟨c,c1,c2⟩:=(hel i hi).2 j _ (agO (show j<(f i).length by omega))
     have:=hown.cells (g:=b) (by rw[h1];rfl) _ _ c1
     rw[Addr.add_lit] at this
     rw[this,c1];rfl
    ·obtain⟨c,c1,c2⟩:=(hel i hi).2 j d hd
     rw[c1]
     exact RD.mono hFF (λ_ _=>rfl) c2
  exact h.toData hgH hdat
 ·rename_i l hgH
  obtain⟨b,arr,clock,e1,e2,e3⟩:=h.ch id _ (get_mem hgH)
  refine h.toData hgH ?_
  rw[e1]
  exact .mp l b arr clock (.inr Z) e2 e3
 ·exact⟨ρ,F,h⟩
end
def ac2:Value->Bool
 | .agg _=>true
 | _=>false
theorem TI.mk'{P:Program}{t:TypeId}{ti:TI}{z:Value}(hu:Py P t ti.kind)(hi:(P.info? t).map (λi=>(i.zero,i.size,i.bytes))=some (some z,ti.size,ti.bytes))(hz:z.cells.size=ti.size)
  (hl:aH qA (match ti.kind with | .array n _=>(List.replicate n ti.zero).flatten | _=>ti.zero) z.cells.toList)  (h1:(!ti.kind.flat||z.oneCell')=true:=by rfl) (h2:(ti.kind.flat||ac2 z)=true:=by rfl):ti.OK P t:=by
 have hagg:=h2
 obtain⟨i,e1,h2⟩:=Option.map_eq_some_iff.1 hi
 simp only[agW] at h2
 refine⟨hu,⟨i,z,e1,h2.2.1,h2.2.2,h2.1,hz,hl⟩,λi' z' e3 e4 hf=>?_,λi' z' e3 e4 hf=>?_⟩
 ·rw[e1] at e3
  obtain rfl:=agS e3
  rw[h2.1] at e4
  obtain rfl:=agS e4
  rw[hf] at h1
  simpa using h1
 ·rw[e1] at e3
  obtain rfl:=agS e3
  rw[h2.1] at e4
  obtain rfl:=agS e4
  rw[hf] at hagg
  cases z<;>first | exact⟨_,rfl⟩ | cases hagg
theorem XU{us vs:List V}{cs ds:List Value}(h1:aH qA us cs)(h2:aH qA vs ds):aH qA (us++vs) (cs++ds):=aH.app h1 h2
theorem FM{us:List V}{cs:List Value}(h:aH qA us cs)(n:Nat):aH qA (List.replicate n us).flatten (List.replicate n cs).flatten:=by
 induction n with
 | zero=>trivial
 | succ n ih=>simp only[List.replicate_succ,List.flatten_cons];exact XU h ih
structure Cr(P:Pg)(g:Cfg)(C:Ctx):Prop where
 prog:C.pg=P
 n:g.n=C.n
 fix:g.fix=C.fix
 tys:bV P.P g.tys
structure Cx(P:Pg)(g:Cfg)(C:Ctx):Prop extends Cr P g C where
 rd:C.rd=none
def jN(g:Cfg)(s:St)(o:Oper):Option (FuncId×List V×Nat):=
 match o.guard,o.dst with
 | none,some d=>bif Nat.blt d g.n then match jL s.L [] o with
  | some (f,A)=>some (f,A,d)
  | none=>none
  else none
 | _,_=>none
def oV(g:Cfg)(s:St)(all:Array Oper)(o:Oper):Option (FuncId×List V×Nat×List (Nat×Bool)):=
 match o.guard,o.dst with
 | some (j,u),some d=>match Am s.L all j u with
  | some q=>bif Nat.blt d g.n&&!(q.any λe=>Nat.beq e.1 d) then match jL s.L q o with
   | some (f,A)=>some (f,A,d,q)
   | none=>none
   else none
  | none=>none
 | _,_=>none
namespace Cr
variable{P:Pg}{g:Cfg}{C:Ctx}(x:Cr P g C){s s':St}{K K':List Item}{Φ:Exit->St->Prop}{ob:List Prop}
include x
theorem rY:C.P=P.P:=congrArg Pg.P x.prog
theorem ty:bV C.P g.tys:=x.rY▸x.tys
theorem cond{b:Bool}{c1 c2:Code}(h:run g 1000 K s []=.cond ob b c1 c2 K' s')(ho:ak ob)(h1:b=true->Go C (.code c1::K') s' Φ)(h2:b=false->Go C (.code c2::K') s' Φ):Go C K s Φ:=
 st x.ty x.n x.fix h ⟨ho,h1,h2⟩
theorem back{J:St->Prop}(h:run g 1000 K s []=.back ob J s')(ho:ak ob)(k:J s'):Go C K s Φ:=
 st x.ty x.n x.fix h ⟨ho,k⟩
theorem exit{e:Exit}(h:run g 1000 K s []=.exit ob e s')(ho:ak ob)(k:Φ e s'):Go C K s Φ:=
 st x.ty x.n x.fix h ⟨ho,k⟩
theorem op{all:Array Oper}{o:Oper}{rest:List Oper}(h:run g 1000 K s []=.op ob all o rest K' s')(ho:ak ob)(k:Go C (.ops all (o::rest)::K') s' Φ):Go C K s Φ:=
 st x.ty x.n x.fix h ⟨ho,k⟩
theorem code{c:Code}(h:run g 1000 K s []=.code ob c K' s')(ho:ak ob)(k:Go C (.code c::K') s' Φ):Go C K s Φ:=
 st x.ty x.n x.fix h ⟨ho,k⟩
theorem loop{α:Type}(I:α->St)(μ:α->Nat)(x0:α){c:Code}(h:run g 1000 K s []=.loop ob c K' s')(ho:ak ob)(h0:LE g.fix s' (I x0))
  (hr:∀y,Go C (.code c::.back (λs'=>∃z,μ z<μ y∧LE g.fix s' (I z))::K') (I y) Φ):Go C K s Φ:=
 st x.ty x.n x.fix h ⟨ho,Go.loop x.fix I μ x0 h0 hr⟩
theorem cut{α:Type}(I:α->St){c:Code}(h1:Go C (.code c::.back (λs'=>∃y,LE g.fix s' (I y))::K) s Φ)(h2:∀y,Go C K (I y) Φ):Go C (.code c::K) s Φ:=
 Go.cut x.fix I h1 h2
theorem le(h:LE g.fix s s')(k:Go C K s' Φ):Go C K s Φ:=Go.le x.fix h k
theorem pure{all:Array Oper}{o:Oper}{rest:List Oper}{args A:List V}{H':List Ch}{r:V}{f d:Nat}(h:run g 1000 K s []=.op ob all o rest K' s')(ho:ak ob)
  (hco:jN g s' o=some (f,A,d)) (hp:Pure P f args r H') (hA:AEq A (args.map (V.dz (cK [])))) (k:Go C (.ops all rest::K') (after s' d [] 0 r H' []) Φ):Go C K s Φ:=by
 refine st x.ty x.n x.fix h ⟨ho,?_⟩
 unfold jN at hco
 split at hco
 ·rename_i d' hg hd
  cases hb:Nat.blt d' g.n with
  | false=>rw[hb] at hco;simp at hco
  | true=>
   rw[hb] at hco
   simp only[cond_true] at hco
   split at hco
   ·rename_i f' A' hc
    simp only[agR,agW] at hco
    obtain⟨rfl,rfl,rfl⟩:=hco
    exact Go.call x.n x.fix [] (x.prog▸hp) hg hd hb hc hA Z tR k
   ·simp at hco
 ·simp at hco
theorem call(is:List Nat){all:Array Oper}{o:Oper}{rest:List Oper}{fix:Nat}{args A:List V}{H H':List Ch}{r:V}{f d:Nat}(h:run g 1000 K s []=.op ob all o rest K' s')(ho:ak ob)
  (hco:jN g s' o=some (f,A,d)) (hp:aG P f fix args H r H') (hok:zk g s'.m is fix H.length=true) (hA:AEq A (args.map (V.dz (cK is)))) (hH:HLE s'.H (rnH is is H)) (k:Go C (.ops all rest::K') (after s' d is fix r H' []) Φ):Go C K s Φ:=by
 refine st x.ty x.n x.fix h ⟨ho,?_⟩
 unfold jN at hco
 split at hco
 ·rename_i d' hg hd
  cases hb:Nat.blt d' g.n with
  | false=>rw[hb] at hco;simp at hco
  | true=>
   rw[hb] at hco
   simp only[cond_true] at hco
   split at hco
   ·rename_i f' A' hc
    simp only[agR,agW] at hco
    obtain⟨rfl,rfl,rfl⟩:=hco
    exact Go.call x.n x.fix is (x.prog▸hp) hg hd hb hc hA hok hH k
   ·simp at hco
 ·simp at hco
theorem gG{all:Array Oper}{o:Oper}{rest:List Oper}{args A:List V}{r:V}{f d:Nat}{q:List (Nat×Bool)}(h:run g 1000 K s []=.op ob all o rest K' s')(ho:ak ob)
  (hco:oV g s' all o=some (f,A,d,q)) (hp:imp s'.L q (Pure P f args r [])) (hr:r.aQ (fresh 0)=true) (hA:AEq A (args.map (V.dz (cK [])))) (k:Go C (.ops all rest::K') {s' with L:=put s'.L d (.g q r)} Φ):Go C K s Φ:=by
 refine st x.ty x.n x.fix h ⟨ho,?_⟩
 unfold oV at hco
 split at hco
 ·rename_i j u d' hg hd
  split at hco
  ·rename_i q' hq
   cases hb:(Nat.blt d' g.n&&!(q'.any λe=>Nat.beq e.1 d')) with
   | false=>rw[hb] at hco;simp at hco
   | true=>
    rw[hb] at hco
    simp only[cond_true] at hco
    split at hco
    ·rename_i f' A' hc
     simp only[agR,agW] at hco
     obtain⟨rfl,rfl,rfl,rfl⟩:=hco
     exact Go.pF x.n x.fix hg hq hd (by simp only[agN] at hb ⊢;exact⟨hb,hr⟩) hc (x.prog▸hp) hA Z k
    ·simp at hco
  ·simp at hco
 ·simp at hco
theorem next{all:Array Oper}{o:Oper}{rest:List Oper}{id d:Nat}{b:BY}{p:Nat}(h:run g 1000 K s []=.op ob all o rest K' s')(ho:ak ob)(hgd:o.guard=none)(hno:Qc s' o=some (id,d,b,p))(hdn:Nat.blt d g.n=true)
  (h1:p<b.size->Go C (.ops all rest::K') {L:=put s'.L d (.tup [vb true,vi (p:Int),.d (.int .i32 ((Utf8.decode b p).1:Int))]),H:=(id,.iter b (p+(Utf8.decode b p).2))::nM id s'.H,m:=s'.m} Φ)
  (h2:¬p<b.size->Go C (.ops all rest::K') {s' with L:=put s'.L d (.tup [vb false])} Φ):Go C K s Φ:=
 st x.ty x.n x.fix h ⟨ho,Go.next x.n hgd hno hdn h1 h2⟩
end Cr
def ixL:List V->List (Nat×V)
 | []=>[]
 | [a]=>[(0,a)]
 | [a,b]=>[(0,a),(1,b)]
 | [a,b,c]=>[(0,a),(1,b),(2,c)]
 | [a,b,c,d]=>[(0,a),(1,b),(2,c),(3,d)]
 | [a,b,c,d,e]=>[(0,a),(1,b),(2,c),(3,d),(4,e)]
 | [a,b,c,d,e,f]=>[(0,a),(1,b),(2,c),(3,d),(4,e),(5,f)]
 | [a,b,c,d,e,f,g]=>[(0,a),(1,b),(2,c),(3,d),(4,e),(5,f),(6,g)]
 | [a,b,c,d,e,f,g,h]=>[(0,a),(1,b),(2,c),(3,d),(4,e),(5,f),(6,g),(7,h)]
 | [a,b,c,d,e,f,g,h,i]=>[(0,a),(1,b),(2,c),(3,d),(4,e),(5,f),(6,g),(7,h),(8,i)]
 | [a,b,c,d,e,f,g,h,i,j]=>[(0,a),(1,b),(2,c),(3,d),(4,e),(5,f),(6,g),(7,h),(8,i),(9,j)]
 | [a,b,c,d,e,f,g,h,i,j,k]=>[(0,a),(1,b),(2,c),(3,d),(4,e),(5,f),(6,g),(7,h),(8,i),(9,j),(10,k)]
 | [a,b,c,d,e,f,g,h,i,j,k,l]=>[(0,a),(1,b),(2,c),(3,d),(4,e),(5,f),(6,g),(7,h),(8,i),(9,j),(10,k),(11,l)]
 | l=>ixV 0 l
theorem FP(l:List V):ixL l=ixV 0 l:=by
 unfold ixL
 split<;>rfl
def ixH:List Ch->List (Nat×Ch)
 | []=>[]
 | [a]=>[(0,a)]
 | [a,b]=>[(0,a),(1,b)]
 | [a,b,c]=>[(0,a),(1,b),(2,c)]
 | [a,b,c,d]=>[(0,a),(1,b),(2,c),(3,d)]
 | [a,b,c,d,e]=>[(0,a),(1,b),(2,c),(3,d),(4,e)]
 | [a,b,c,d,e,f]=>[(0,a),(1,b),(2,c),(3,d),(4,e),(5,f)]
 | [a,b,c,d,e,f,g]=>[(0,a),(1,b),(2,c),(3,d),(4,e),(5,f),(6,g)]
 | [a,b,c,d,e,f,g,h]=>[(0,a),(1,b),(2,c),(3,d),(4,e),(5,f),(6,g),(7,h)]
 | [a,b,c,d,e,f,g,h,i]=>[(0,a),(1,b),(2,c),(3,d),(4,e),(5,f),(6,g),(7,h),(8,i)]
 | [a,b,c,d,e,f,g,h,i,j]=>[(0,a),(1,b),(2,c),(3,d),(4,e),(5,f),(6,g),(7,h),(8,i),(9,j)]
 | [a,b,c,d,e,f,g,h,i,j,k]=>[(0,a),(1,b),(2,c),(3,d),(4,e),(5,f),(6,g),(7,h),(8,i),(9,j),(10,k)]
 | [a,b,c,d,e,f,g,h,i,j,k,l]=>[(0,a),(1,b),(2,c),(3,d),(4,e),(5,f),(6,g),(7,h),(8,i),(9,j),(10,k),(11,l)]
 | l=>ixC 0 l
theorem FQ(l:List Ch):ixH l=ixC 0 l:=by
 unfold ixH
 split<;>rfl
def Qe:List Ch->Nat
 | []=>0
 | [_]=>1
 | [_,_]=>2
 | [_,_,_]=>3
 | [_,_,_,_]=>4
 | [_,_,_,_,_]=>5
 | [_,_,_,_,_,_]=>6
 | [_,_,_,_,_,_,_]=>7
 | [_,_,_,_,_,_,_,_]=>8
 | l=>l.length
theorem Au(l:List Ch):Qe l=l.length:=by
 unfold Qe
 split<;>rfl
theorem aG.mk {P:Pg} (g:Cfg) (yG:bV P.P g.tys) (ids:List Nat) {f:FuncId} {fn:Func} {c:Code} {args:List V} {H:List Ch} {r:V} {H':List Ch} {rs:List ResultVar} (hf:P.P.funcs[f]?=some fn) (hb:fn.body=some c) (hname:(fn.name == "runtime.NumGoroutine")=false)
  (hn:g.n=fn.ntmps) (hrs:fn.results=rs.toArray) (hok:(Nat.ble args.length g.n&&aN args H H.length&&aN [r] H' H'.length&&Nat.ble g.fix H.length&&Nat.ble H.length H'.length)=true)
  (hgo:∀(C:Ctx),Cx P g C->Go C [.code c] ⟨ixL args,ixH H,Qe H⟩ (Ret g rs ids r H')):aG P f g.fix args H r H':=by
 simp only[agN] at hok
 obtain⟨⟨⟨⟨h1,h2⟩,h3⟩,h4⟩,h5⟩:=hok
 exact aG.intro hf hb hname yG hn hrs h1 h2 h3 h4 h5 ids λC e1 e2 e3 _ e5 _=>by rw[←FP,←FQ,←Au];exact hgo C ⟨⟨e1,e2,e3,yG⟩,e5⟩
end Go.Sx
namespace Go.Sx
section
variable{C:Ctx}{s:St}{a:Act}{w:World}{ρ:Nat->Value}{F:Nat->Prop}{g:Cfg}{K:List Item}{Φ:Exit->St->Prop}
theorem aF.leH{H':List (Nat×Ch)}(h:aF C s a w ρ F)(hH:HLE s.H H')(hok:okH s.m H'=true):aF C {s with H:=H'} a w ρ F:=by
 exact
  {
   size:=h.size,defers:=h.defers,slot:=h.slot,aR:=h.aR,lt:=h.lt,sub:=h.sub,base:=h.base,cu:=h.cu,keep:=h.keep,env:=h.env
   ch:=λi c hc=>by
    obtain⟨u,hu,he⟩:=iM hH hc
    exact jg he (h.ch i u hu)
   sep:=λi j ci cj b hi hj hij e=>by
    obtain⟨u,hu,he⟩:=iM hH hi
    obtain⟨u2,hu2,he2⟩:=iM hH hj
    exact λe2=>h.sep i j u u2 b hu hu2 hij (jv he e) (jv he2 e2)
   out:=λi c b hi e=>by
    obtain⟨u,hu,he⟩:=iM hH hi
    exact h.out i u b hu (jv he e)
   aK:=λi c hi=>EO hok hi
   mine:=λi c b hi e=>by
    obtain⟨u,hu,he⟩:=iM hH hi
    exact h.mine i u b hu (jv he e)}
theorem aaG(L:List (Nat×V)):tH (bB []) L=L:=by
 have hk:(bB ([]:List Nat))=λu=>u:=by funext u;cases u<;>rfl
 rw[hk]
 induction L with
 | nil=>rfl
 | cons e L ih=>simp [tH,tK,ih]
theorem aaH(L:List (Nat×Ch)):qB (bB []) L=L:=by
 have hk:(bB ([]:List Nat))=λu=>u:=by funext u;cases u<;>rfl
 rw[hk]
 induction L with
 | nil=>rfl
 | cons e L ih=>simp [qB,kF,ih]
theorem Go.ac3(hn:g.n=C.n)(yF:g.fix=C.fix){all:Array Oper}{o:Oper}{rest:List Oper}(is:List Nat){fix:Nat}{args:List V}{H:List Ch}{r:V}{f:FuncId}{A:List V}{d j:Nat}{u:Bool}{q:List (Nat×Bool)}
  (hgd:o.guard=some (j,u)) (hgp:Am s.L all j u=some q) (hd:o.dst=some d) (hdn:(Nat.blt d g.n&&!(q.any λe=>Nat.beq e.1 d)&&r.aQ (fresh 0))=true) (hco:jL s.L q o=some (f,A))
  (hp:imp s.L q (aG C.pg f fix args H r H)) (hdr:jc fix is=[]) (hA:AEq A (args.map (V.dz (cK is)))) (hok:zk g s.m is fix H.length=true) (hH:HLE s.H (rnH is is H)) (hH':HLE (og (rnH is is H) (aJ is s.H)) s.H) (hoH:okH s.m s.H=true)
  (k:Go C (.ops all rest::K) {s with L:=put s.L d (.g q r)} Φ):Go C (.ops all (o::rest)::K) s Φ:=by
 rintro a w ⟨ρ,F,h⟩
 simp only[agN,agZ] at hdn
 obtain⟨⟨b1,b2⟩,b3⟩:=hdn
 have hgs:=jK h hgp
 have hwant:Region.wanted o (yielded all a.tmps)=true↔pcA a.tmps q:=by rw[←hgs];simp [Region.wanted,hgd]
 show gD C.rd C.P all (den C (gP C Φ) K) (o::rest) a w
 refine nL λN hN=>?_
 cases hw:Region.wanted o (yielded all a.tmps) with
 | true=>
  have hpc:=hwant.1 hw
  have hp:=lI h hpc hp
  obtain⟨vals,h1,h2⟩:=FI h yF hpc hco hp hA hok hH
  simp only[if_true]
  refine qZ h1 tR ?_
  rw[Oper.upon_enter]
  refine h2.mono ?_
  rintro e w' ⟨v,ρ',F',rfl,r1,r2,r3⟩
  refine hN _ _ ?_
  rw[hd]
  have hl:is.length=H.length:=by
   simp only[zk,agN] at hok
   exact agU hok.2
  have P9:og is (gF s.m (H.length-is.length))=is:=by
   rw[hl,Nat.sub_self]
   show og is []=is
   rw[tV,List.append_nil]
  have r1':R3 ρ' F' w' r v:=by
   have hid:(r.dz (cK (og is (gF s.m (H.length-is.length)))))=r.dz (cK []):=by
    have e0:∀(js:List Nat) (u:V),fresh 0 u=true->cK js u=cK [] u:=λjs u hu=>by cases u<;>first | rfl | simp [fresh] at hu
    have e1:∀(js:List Nat) (u:V),u.all1 (fresh 0)=true->u.fJ (cK js)=u.fJ (cK []):=λjs u hu=>by
     cases u with
     | fn f c=>simp only[V.fJ,V.fn.injEq,true_and];exact List.map_congr_left λx hx=>e0 js x (by simpa using (List.all_eq_true.1 hu) x hx)
     | _=>(first | exact e0 js (.d _) hu | exact e0 js .aD hu | exact e0 js (.ptr _ _) hu | exact e0 js (.own _) hu | exact e0 js (.bD _ _ _ _) hu | exact e0 js (.gU _) hu | exact e0 js (.fn _ _) hu | exact e0 js (.agg _) hu | exact e0 js (.tup _) hu | exact e0 js (.g _ _) hu | exact e0 js .dead hu)
    have e2:∀(js:List Nat) (u:V),u.all2 (fresh 0)=true->u.iQ (cK js)=u.iQ (cK []):=λjs u hu=>by
     cases u with
     | agg c=>simp only[V.iQ,V.agg.injEq];exact List.map_congr_left λx hx=>e1 js x (by simpa using (List.all_eq_true.1 hu) x hx)
     | _=>(first | exact e1 js (.d _) hu | exact e1 js .aD hu | exact e1 js (.ptr _ _) hu | exact e1 js (.own _) hu | exact e1 js (.bD _ _ _ _) hu | exact e1 js (.gU _) hu | exact e1 js (.fn _ _) hu | exact e1 js (.agg _) hu | exact e1 js (.tup _) hu | exact e1 js (.g _ _) hu | exact e1 js .dead hu)
    cases r with
    | tup c=>simp only[V.dz,V.tup.injEq];exact List.map_congr_left λx hx=>e2 _ x (by simpa using (List.all_eq_true.1 b3) x hx)
    | _=>(first | rfl | exact e2 _ (.d _) b3 | exact e2 _ .aD b3 | exact e2 _ (.ptr _ _) b3 | exact e2 _ (.own _) b3 | exact e2 _ (.bD _ _ _ _) b3 | exact e2 _ (.gU _) b3 | exact e2 _ (.fn _ _) b3 | exact e2 _ (.agg _) b3 | exact e2 _ (.tup _) b3 | exact e2 _ (.g _ _) b3 | exact e2 _ .dead b3)
   rw[hid] at r1
   exact R3.dW (ρ:=ρ') (is:=[]) (k:=0) (λi hi=>by omega) b3 r1
  have r3':aF C s a w' ρ' F':=by
   rw[hdr,aaG,aaH,P9,hl,Nat.sub_self] at r3
   exact r3.leH hH' hoH
  exact k _ _ ⟨ρ',F',r3'.yC (by rw[←hn];simpa using b1) ⟨λ_=>r1',λhno=>(hno ((iL b2).2 hpc)).elim⟩ (jr (λu hu=>cZ (Nat.zero_le _) hu) b3)⟩
 | false=>
  simp only[ag0,if_false]
  have hpc:¬pcA a.tmps q:=λhc=>by rw[hwant.2 hc] at hw;cases hw
  refine hN _ _ ?_
  rw[hd]
  exact k _ _ ⟨ρ,F,h.yC (by rw[←hn];simpa using b1) ⟨λhc=>(hpc ((iL b2).1 hc)).elim,λ_=>rfl⟩ (jr (λu hu=>cZ (Nat.zero_le _) hu) b3)⟩
end
theorem Cr.pF{P:Pg}{g:Cfg}{C:Ctx}(x:Cr P g C){s s':St}{K K':List Item}{Φ:Exit->St->Prop}{ob:List Prop}(is:List Nat){all:Array Oper}{o:Oper}{rest:List Oper}{fix:Nat}{args A:List V}{H:List Ch}{r:V}{f d:Nat}{q:List (Nat×Bool)}(h:run g 1000 K s []=.op ob all o rest K' s')(ho:ak ob)
  (hco:oV g s' all o=some (f,A,d,q)) (hp:imp s'.L q (aG P f fix args H r H)) (hr:(r.aQ (fresh 0)&&zk g s'.m is fix H.length&&okH s'.m s'.H&&List.isEmpty (jc fix is))=true) (hA:AEq A (args.map (V.dz (cK is)))) (hH:HLE s'.H (rnH is is H)) (hH':HLE (og (rnH is is H) (aJ is s'.H)) s'.H)
  (k:Go C (.ops all rest::K') {s' with L:=put s'.L d (.g q r)} Φ):Go C K s Φ:=by
 refine st x.ty x.n x.fix h ⟨ho,?_⟩
 unfold oV at hco
 split at hco
 ·rename_i j u d' hg hd
  split at hco
  ·rename_i q' hq
   cases hb:(Nat.blt d' g.n&&!(q'.any λe=>Nat.beq e.1 d')) with
   | false=>rw[hb] at hco;simp at hco
   | true=>
    rw[hb] at hco
    simp only[cond_true] at hco
    split at hco
    ·rename_i f' A' hc
     simp only[agR,agW] at hco
     obtain⟨rfl,rfl,rfl,rfl⟩:=hco
     simp only[agN,List.isEmpty_iff] at hr
     exact Go.ac3 x.n x.fix is hg hq hd (by simp only[agN] at hb ⊢;exact⟨hb,hr.1.1.1⟩) hc (x.prog▸hp) hr.2 hA hr.1.1.2 hH hH' hr.1.2 k
    ·simp at hco
  ·simp at hco
 ·simp at hco
theorem Post.below{w w':World}{F:Nat->Prop}{ρ:Nat->Value}{r:V}{H':List Ch}{e:Ending}(h:Post w F ρ 0 [] r H' e w'):Go.RowKit.Below w.heap.size w w':=by
 obtain⟨v,ρ',F',_,hk,_⟩:=h
 exact⟨hk.os,hk.tape,hk.output,hk.size,λk hlt=>hk.block k hlt (λ⟨i,hi,_⟩=>absurd hi (agV _))⟩
theorem aG.law{P:Pg}{f:FuncId}{args:List V}{H':List Ch}(h:Pure P f args (vb true) H'){w:World}{vals:List Value}{vs:Array Value}(hvs:vs=vals.toArray)
  (Qf:jG P.env (λk=>k<w.heap.size) w) (hargs:aH (R3 (λ_=>.bool true) (λk=>k<w.heap.size) w) args vals):Calls P.P f vs w λe w'=>e=.returned (.bool true)∧Go.RowKit.Below w.heap.size w w':=by
 subst hvs
 obtain⟨_,_,_,_,_,hc⟩:=h
 refine (hc w (λk=>k<w.heap.size) (λ_=>.bool true) vals (λk hk=>hk) Qf ⟨λi c hc=>by simp at hc,λi j b hi=>absurd hi (agV _),λi b hi=>absurd hi (agV _)⟩ hargs).mono ?_
 intro e w' hp
 refine⟨?_,hp.below⟩
 obtain⟨v,ρ',F',rfl,_,_,_,_,_,hr,_⟩:=hp
 have:v=.bool true:=by
  cases (show RD F' w' (.bool true) v from hr);rfl
 rw[this]
inductive QEv where
 | done (ob:List Prop) (s:St)
 | op (ob:List Prop) (o:Oper) (rest:List Oper) (s:St)
 | stuck (why:String)
def rA(g:Cfg)(all:Array Oper):Nat->List Oper->St->List Prop->QEv
 | 0,_,_,_=>.stuck "fuel"
 | n+1,l,⟨L,H,m⟩,ob=>match l with
  | []=>fS ⟨L,H,m⟩ λS=>fO ob λob=>.done ob S
  | o::rest=>match o.guard with
   | none=>match rdE g g.ck ⟨L,H,m⟩ [] o.op with
    | some (v,p)=>match o.dst with
     | some d=>bif Nat.blt d g.n then f3 v λv=>fL (put L d v) λL'=>fA ob p λob=>rA g all n rest ⟨L',H,m⟩ ob else .stuck "slot"
     | none=>.stuck "no slot"
    | none=>fS ⟨L,H,m⟩ λS=>fO ob λob=>.op ob o rest S
   | some (j,u)=>match Am L all j u with
    | none=>.stuck "guard"
    | some q=>match rdE g g.ck ⟨L,H,m⟩ q o.op with
     | some (v,p)=>match o.dst with
      | some d=>bif Nat.blt d g.n&&!(q.any λe=>Nat.beq e.1 d)&&v.aQ (fresh m) then fIs L q p λp=>f3 v λv=>fP q λq=>fL (put L d (.g q v)) λL'=>fA ob p λob=>rA g all n rest ⟨L',H,m⟩ ob else .stuck "slot"
      | none=>.stuck "no slot"
     | none=>fS ⟨L,H,m⟩ λS=>fO ob λob=>.op ob o rest S
def QGo(C:Ctx)(all:Array Oper)(l:List Oper)(s:St)(K:List Item)(Φ:Exit->St->Prop):Prop:=
 ∀a w ρ F,aF C s a w ρ F->wpQuiet C.P all (Mod none w) (λa'=>∀w',Mod none w w'->den C (gP C Φ) K .normal a' w') l a
def QEv.holds(C:Ctx)(all:Array Oper)(K:List Item)(Φ:Exit->St->Prop):QEv->Prop
 | .done ob s=>ak ob∧Go C K s Φ
 | .op ob o rest s=>ak ob∧QGo C all (o::rest) s K Φ
 | .stuck _=>False
section
variable{C:Ctx}{s:St}{a:Act}{w w':World}{ρ:Nat->Value}{F:Nat->Prop}{g:Cfg}{K:List Item}{Φ:Exit->St->Prop}
theorem aF.mod(h:aF C s a w ρ F)(hm:Mod none w w'):aF C s a w' ρ F:=by
 have hwF:∀k,F k->w'.heap[k]?=w.heap[k]?:=λk hk=>hm.block k (h.lt k hk) (by simp)
 refine h.change (λu=>u) (λu v hu hr=>hr.keep (x:=s.m) (λ_ _=>rfl) (λ_=>id) hwF (jH (Nat.le_refl _) hu)) (λt v hv=>⟨⟨v,hv,(tK v).symm⟩,h.aR t v hv⟩) (λi c hc=>?_) (λ_=>id) hwF (λk hk=>Nat.lt_of_lt_of_le (h.lt k hk) hm.size) (h.keeps hm (by simp)) (Nat.le_refl _) h.sub h.cu.2
 exact⟨⟨c,hc,(kF c).symm⟩,(h.aK i c hc).2,Z,λb e=>⟨hm.block b ((h.ch i c hc).lt e) (by simp),h.out i c b hc e⟩⟩
theorem Mod.trans{w w' w'':World}(h:Mod none w w')(h':Mod none w' w''):Mod none w w'':=
 ⟨h'.os.trans h.os,h'.tape.trans h.tape,h'.output.trans h.output,Nat.le_trans h.size h'.size,λk hk _=>(h'.block k (Nat.lt_of_lt_of_le hk h.size) (by simp)).trans (h.block k hk (by simp))⟩
theorem QGo.KD{all:Array Oper}{o:Oper}{rest:List Oper}{Q:Act->Prop}(hg:o.guard=none){x:Value}
  (hr:∀w',Mod none w w'->Oper.quietAt C.P o a (Mod none w) w' x) (h:wpQuiet C.P all (Mod none w) Q rest (a.put o.dst x)):wpQuiet C.P all (Mod none w) Q (o::rest) a:=by
 refine wpQuiet_step λN hN=>?_
 rw[if_pos (by simp [Region.wanted,hg])]
 exact⟨x,hr,hN _ h⟩
theorem QGo.uf{all:Array Oper}{o:Oper}{rest:List Oper}{Q:Act->Prop}{x:Value}
  (hyes:Region.wanted o (yielded all a.tmps)=true->∀w',Mod none w w'->Oper.quietAt C.P o a (Mod none w) w' x) (hno:Region.wanted o (yielded all a.tmps)=false->x=undef)
  (h:wpQuiet C.P all (Mod none w) Q rest (a.put o.dst x)):wpQuiet C.P all (Mod none w) Q (o::rest) a:=by
 refine wpQuiet_step λN hN=>?_
 cases hw:Region.wanted o (yielded all a.tmps) with
 | true=>rw[if_pos rfl];exact⟨x,hyes hw,hN _ h⟩
 | false=>rw[if_neg (by simp)];exact hN _ (hno hw▸h)
theorem ug(hg:bV C.P g.tys)(hn:g.n=C.n){all:Array Oper}:∀(n:Nat) (l:List Oper) (s:St) (ob:List Prop),(rA g all n l s ob).holds C all K Φ->ak ob∧QGo C all l s K Φ:=by
 intro n
 induction n with
 | zero=>intro l s ob h;exact h.elim
 | succ n ih=>
  rintro l ⟨L,H,m⟩ ob h
  cases l with
  | nil=>
   unfold rA at h
   simp only[nQ,mK] at h
   exact⟨h.1,λa w ρ F hs=>wpQuiet_nil λw' hm=>h.2 a w' ⟨ρ,F,hs.mod hm⟩⟩
  | cons o rest=>
  unfold rA at h
  simp only at h
  split at h
  ·rename_i hgd
   split at h
   ·rename_i v p hrd
    split at h
    ·rename_i d hd
     cases hb:Nat.blt d g.n with
     | false=>rw[hb] at h;exact h.elim
     | true=>
      rw[hb] at h
      simp only[cond_true,Fz,DJ,DK] at h
      obtain⟨h1,h2⟩:=ih _ _ _ h
      obtain⟨h3,h4⟩:=pE h1
      refine⟨h3,λa w ρ F hw=>?_⟩
      obtain⟨x,r1,r2,r3⟩:=Aj hg hw (dn _) hrd h4
      refine QGo.KD hgd (x:=x) (λw' hm=>?_) ?_
      ·unfold Oper.quietAt
       rw[r3 w' λk hk=>hm.block k hk (by simp)]
       exact⟨Z,Z⟩
      ·rw[hd]
       exact h2 _ _ _ _ (hw.put (by rw[←hn];simpa using hb) r1 r2)
    ·exact h.elim
   ·rw[nQ,mK] at h;exact h
  ·rename_i j u hgd
   split at h
   ·exact h.elim
   ·rename_i q hq
    split at h
    ·rename_i v p hrd
     split at h
     ·rename_i d hd
      cases hb:(Nat.blt d g.n&&!(q.any λe=>Nat.beq e.1 d)&&v.aQ (fresh m)) with
      | false=>rw[hb] at h;exact h.elim
      | true=>
       rw[hb] at h
       simp only[cond_true,Ku,Fz,DJ,Ms,DK] at h
       simp only[agN,agZ] at hb
       obtain⟨⟨b1,b2⟩,b3⟩:=hb
       obtain⟨h1,h2⟩:=ih _ _ _ h
       obtain⟨h3,h4⟩:=pE h1
       refine⟨h3,λa w ρ F hw=>?_⟩
       have hgp:=jK hw hq
       have hwant:Region.wanted o (yielded all a.tmps)=true↔pcA a.tmps q:=by
        rw[←hgp];simp [Region.wanted,hgd]
       by_cases hpc:pcA a.tmps q
       ·obtain⟨x,r1,r2,r3⟩:=Aj hg hw hpc hrd (tO hw hpc h4)
        refine QGo.uf (x:=x) (λ_ w' hm=>?_) (λhno=>by rw[hwant.2 hpc] at hno;simp at hno) ?_
        ·unfold Oper.quietAt
         rw[r3 w' λk hk=>hm.block k hk (by simp)]
         exact⟨Z,Z⟩
        ·rw[hd]
         exact h2 _ _ _ _ (hw.yC (by rw[←hn];simpa using b1) ⟨λ_=>r1,λhno=>(hno ((iL b2).2 hpc)).elim⟩ b3)
       ·refine QGo.uf (x:=undef) (λhyes=>(hpc (hwant.1 hyes)).elim) (λ_=>rfl) ?_
        rw[hd]
        exact h2 _ _ _ _ (hw.yC (by rw[←hn];simpa using b1) ⟨λhp=>(hpc ((iL b2).1 hp)).elim,λ_=>rfl⟩ b3)
     ·exact h.elim
    ·rw[nQ,mK] at h;exact h
def KE:V->Option Value
 | .d (.int k n)=>some (.int k n)
 | .d (.bool b)=>some (.bool b)
 | .d (.str s)=>some (.string s)
 | _=>none
def DU:List V->Option (List Value)
 | []=>some []
 | v::r=>match KE v,DU r with
  | some x,some xs=>some (x::xs)
  | _,_=>none
def valOf:V->Option Value
 | .tup us=>match DU us with
  | some xs=>some (.tuple xs.toArray)
  | none=>none
 | v=>KE v
theorem gH{v:V}{x y:Value}(h:KE v=some x)(hr:R3 ρ F w v y):y=x:=by
 cases v with
 | d e=>
  cases e<;>simp only[KE,agR,reduceCtorEq] at h<;>subst h<;>cases (show RD F w _ y from hr)<;>rfl
 | _=>simp [KE] at h
theorem Mw{us:List V}:∀{xs ys:List Value},DU us=some xs->aH (R2 ρ F w) us ys->ys=xs:=by
 induction us with
 | nil=>intro xs ys h hr;cases ys with
  | nil=>simpa [DU] using h
  | cons=>exact hr.elim
 | cons u us ih=>
  intro xs ys h hr
  cases ys with
  | nil=>exact hr.elim
  | cons y ys=>
   simp only[DU] at h
   split at h
   ·rename_i x0 xs0 e1 e2
    simp only[agR] at h
    subst h
    rw[gH e1 (kE hr.1),ih e2 hr.2]
   ·simp at h
theorem qM{v:V}{x y:Value}(h:valOf v=some x)(hr:R3 ρ F w v y):y=x:=by
 cases v with
 | tup us=>
  simp only[valOf] at h
  split at h
  ·rename_i xs e
   simp only[agR] at h
   obtain⟨ys,rfl,hy⟩:=hr
   rw[←h,Mw e hy]
  ·simp at h
 | _=>(first | exact gH (v:=.aD) h hr | exact gH (v:=(.ptr _ _)) h hr | exact gH (v:=(.own _)) h hr | exact gH (v:=(.bD _ _ _ _)) h hr | exact gH (v:=(.gU _)) h hr | exact gH (v:=(.fn _ _)) h hr | exact gH (v:=(.agg _)) h hr | exact gH (v:=(.g _ _)) h hr | exact gH (v:=.dead) h hr | exact gH (v:=(.d _)) h hr)
theorem XV(h:aF C s a w ρ F)(yF:g.fix=C.fix){q:List (Nat×Bool)}(hq:pcA a.tmps q){o:Oper}{f:FuncId}{A:List V}(hco:jL s.L q o=some (f,A))
  {is:List Nat} {fix:Nat} {args:List V} {H H':List Ch} {r:V} (hp:aG C.pg f fix args H r H') (hA:AEq A (args.map (V.dz (cK is)))) (hok:zk g s.m is fix H.length=true) (hH:HLE s.H (rnH is is H)) :
  ∃vals,(execOp a.eval o).run C.P w=.ok (.enter f vals) w∧Calls C.P f vals w (Post w F (λi=>ρ (nth is i)) fix H r H'):=by
 obtain⟨hcall,hfr,yE,hfx,hHH,FJ⟩:=hp
 unfold jL at hco
 split at hco
 ·rename_i c hop
  split at hco
  ·rename_i fo hc
   split at hco
   ·rename_i f' caps A' he hes
    simp only[agR,agW] at hco
    obtain⟨rfl,rfl⟩:=hco
    obtain⟨cs,hcs,vR⟩:=(show R1 ρ F w (.fn f' caps) _ from (aC h hq he).1)
    have hargs:=(jB h hq hes).1
    simp only[zk,agN,List.all_eq_true] at hok
    obtain⟨⟨⟨o1,o2⟩,o3⟩,o4⟩:=hok
    have KC:=agU o4
    simp only[aN,agN,List.all_eq_true] at hfr
    have yR:c.args.map a.eval++cs.toArray=(c.args.toList.map a.eval++cs).toArray:=by
     cases c.args;simp
    have hall:aH (R3 ρ F w) (A'++caps) (c.args.toList.map a.eval++cs):=hargs.app (vR.mono λu v hr=>kE (jE (rQ hr)))
    have FK:=lJ hA hall
    have FL:aH (R3 (λi=>ρ (nth is i)) F w) args (c.args.toList.map a.eval++cs):=FK.unmap λu v hu hr=>R3.dW (k:=H.length) (λ_ _=>rfl) (hfr.1 u hu) hr
    have hold:Holds (λi=>ρ (nth is i)) F w H:=by
     have hx:∀i,i<H.length->∃c,H[i]?=some c∧∃c0,(nth is i,c0)∈s.H∧mH c0 (c.map (cK is)):=λi hi=>by
      obtain⟨c0,k1,k2⟩:=oz KC hH (agO hi)
      exact⟨_,agO hi,c0,k1,k2⟩
     refine⟨λi c hc=>?_,λi j b hi hj hij e=>?_,λi b hi e=>?_⟩
     ·have hi:=(List.getElem?_eq_some_iff.1 hc).1
      obtain⟨c',hc',c0,k1,k2⟩:=hx i hi
      rw[hc] at hc'
      obtain rfl:=agS hc'
      exact jf.dW (k:=H.length) (ρ:=λi=>ρ (nth is i)) (λ_ _=>rfl) hi (hfr.2 c (List.mem_of_getElem? hc)).1 (jg k2 (h.ch _ _ k1))
     ·obtain⟨_,_,c0,k1,_⟩:=hx i hi
      obtain⟨_,_,c1,k3,_⟩:=hx j hj
      exact λe2=>h.sep _ _ c0 c1 b k1 k3 (iq o1 i j (by omega) (by omega) hij) (aT e) (aT e2)
     ·obtain⟨_,_,c0,k1,_⟩:=hx i hi
      exact h.out _ c0 b k1 (aT e)
    refine⟨_,Ar hop hc hcs hcall w,?_⟩
    rw[yR]
    exact FJ w F _ _ h.lt h.env hold FL
   ·simp at hco
  ·simp at hco
 ·simp at hco
theorem Sy{v:V}{x:Value}(h:KE v=some x):R0 ρ F w v x:=by
 cases v with
 | d e=>
  cases e<;>simp only[KE,agR,reduceCtorEq] at h<;>subst h
  ·exact RD.int _ _
  ·exact RD.bool _
  ·exact RD.str _
 | _=>simp [KE] at h
theorem XW{us:List V}:∀{xs:List Value},DU us=some xs->aH (R2 ρ F w) us xs:=by
 induction us with
 | nil=>intro xs h;simp [DU] at h;subst h;trivial
 | cons u us ih=>
  intro xs h
  simp only[DU] at h
  split at h
  ·rename_i x0 xs0 e1 e2
   simp only[agR] at h
   subst h
   exact⟨jE (rQ (Sy e1)),ih e2⟩
  ·simp at h
theorem aaI{v:V}(h:∀us,v≠.tup us):valOf v=KE v:=by cases v<;>first | rfl | exact (h _ rfl).elim
theorem vS{v:V}{x:Value}(h:valOf v=some x):R3 ρ F w v x:=by
 by_cases ht:∃us,v=.tup us
 ·obtain⟨us,rfl⟩:=ht
  simp only[valOf] at h
  split at h
  ·rename_i xs e
   simp only[agR] at h
   exact⟨xs,h.symm,XW e⟩
  ·simp at h
 ·rw[aaI λus e=>ht ⟨us,e⟩] at h
  exact kE (jE (rQ (Sy h)))
theorem FR(h:aF C s a w ρ F)(yF:g.fix=C.fix){q:List (Nat×Bool)}(hq:pcA a.tmps q){o:Oper}{f:FuncId}{A:List V}(hco:jL s.L q o=some (f,A)){args:List V}{r:V}{x:Value}
  (hp:Pure C.pg f args r []) (hx:valOf r=some x) (hA:AEq A (args.map (V.dz (cK [])))) {w':World} (hm:Mod none w w'):Oper.quietAt C.P o a (Mod none w) w' x:=by
 obtain⟨vals,h1,h2⟩:=XV (h.mod hm) yF hq hco hp hA (show zk g s.m [] 0 0=true from rfl) trivial
 unfold Oper.quietAt
 rw[h1]
 refine⟨Z,h2.mono ?_⟩
 rintro e w'' ⟨v,ρ',F',rfl,hk,_,_,_,_,hr,_⟩
 rw[qM hx hr]
 exact⟨Z,hm.trans ⟨hk.os,hk.tape,hk.output,hk.size,λk hlt _=>hk.block k hlt (λ⟨i,hi,_⟩=>absurd hi (agV _))⟩⟩
theorem QGo.call(hn:g.n=C.n)(yF:g.fix=C.fix){all:Array Oper}{o:Oper}{rest:List Oper}{args:List V}{r:V}{f:FuncId}{A:List V}{d:Nat}{x:Value}
  (hp:Pure C.pg f args r []) (hx:valOf r=some x) (hgd:o.guard=none) (hd:o.dst=some d) (hdn:(Nat.blt d g.n&&r.aQ (fresh 0))=true) (hco:jL s.L [] o=some (f,A)) (hA:AEq A (args.map (V.dz (cK []))))
  (k:QGo C all rest {s with L:=put s.L d r} K Φ):QGo C all (o::rest) s K Φ:=by
 intro a w ρ F h
 simp only[agN] at hdn
 refine QGo.KD hgd (x:=x) (λw' hm=>FR h yF (dn _) hco hp hx hA hm) ?_
 rw[hd]
 exact k _ _ _ _ (h.put (by rw[←hn];simpa using hdn.1) (vS hx) (jr (λu hu=>cZ (Nat.zero_le _) hu) hdn.2))
theorem QGo.pF(hn:g.n=C.n)(yF:g.fix=C.fix){all:Array Oper}{o:Oper}{rest:List Oper}{args:List V}{r:V}{f:FuncId}{A:List V}{d j:Nat}{u:Bool}{q:List (Nat×Bool)}{x:Value}
  (hgd:o.guard=some (j,u)) (hgp:Am s.L all j u=some q) (hd:o.dst=some d) (hdn:(Nat.blt d g.n&&!(q.any λe=>Nat.beq e.1 d)&&r.aQ (fresh 0))=true) (hco:jL s.L q o=some (f,A))
  (hp:imp s.L q (Pure C.pg f args r [])) (hx:valOf r=some x) (hA:AEq A (args.map (V.dz (cK []))))
  (k:QGo C all rest {s with L:=put s.L d (.g q r)} K Φ):QGo C all (o::rest) s K Φ:=by
 intro a w ρ F h
 simp only[agN,agZ] at hdn
 obtain⟨⟨b1,b2⟩,b3⟩:=hdn
 have hgs:=jK h hgp
 have hwant:Region.wanted o (yielded all a.tmps)=true↔pcA a.tmps q:=by rw[←hgs];simp [Region.wanted,hgd]
 have hf:=jr (λu hu=>cZ (Nat.zero_le s.m) hu) b3
 by_cases hpc:pcA a.tmps q
 ·refine QGo.uf (x:=x) (λ_ w' hm=>FR h yF hpc hco (lI h hpc hp) hx hA hm) (λhno=>by rw[hwant.2 hpc] at hno;simp at hno) ?_
  rw[hd]
  exact k _ _ _ _ (h.yC (by rw[←hn];simpa using b1) ⟨λ_=>vS hx,λhno=>(hno ((iL b2).2 hpc)).elim⟩ hf)
 ·refine QGo.uf (x:=undef) (λhyes=>(hpc (hwant.1 hyes)).elim) (λ_=>rfl) ?_
  rw[hd]
  exact k _ _ _ _ (h.yC (by rw[←hn];simpa using b1) ⟨λhp=>(hpc ((iL b2).1 hp)).elim,λ_=>rfl⟩ hf)
end
namespace Cx
variable{P:Pg}{g:Cfg}{C:Ctx}(x:Cx P g C){s s':St}{K K':List Item}{Φ:Exit->St->Prop}{ob:List Prop}
include x
theorem KF{c:Code}{Q:Exit->Act->World->Prop}{a:Act}{w:World}(h:c.wp C.P Q a w):wq C.rd C.P c Q a w:=by
 rw[x.rd];exact tq.2 h
theorem quiet{id:Nat}{ops:Array Oper}(h:run g 1000 K s []=.code ob (.region id ops true) K' s')(ho:ak ob)(hm:P.P.follows .mixedOrders=true)(hB:Region.lexB .any ops=true)
  (k:QGo C ops ops.toList s' K' Φ):Go C K s Φ:=by
 refine st x.ty x.n x.fix h ⟨ho,?_⟩
 rintro a w ⟨ρ,F,hs⟩
 have hd:Mod none w {w with drawn:=w.drawn+1}:=⟨Z,Z,Z,Nat.le_refl _,λ_ _ _=>rfl⟩
 refine x.KF ?_
 exact wp_region_quiet (C:=Mod none w) (x.rY.symm▸hm) hB hd (k a w ρ F hs)
end Cx
namespace Cr
variable{P:Pg}{g:Cfg}{C:Ctx}(x:Cr P g C){s s':St}{K K':List Item}{Φ:Exit->St->Prop}{ob:List Prop}
include x
theorem eY{all:Array Oper}{l:List Oper}(h:rA g all 1000 l s []=.done ob s')(ho:ak ob)(k:Go C K s' Φ):QGo C all l s K Φ:=
 (ug (K:=K) (Φ:=Φ) x.ty x.n 1000 l s [] (by rw[h];exact⟨ho,k⟩)).2
theorem rZ{all:Array Oper}{l rest:List Oper}{o:Oper}{args A:List V}{r:V}{f d:Nat}{y:Value}(h:rA g all 1000 l s []=.op ob o rest s')(ho:ak ob)
  (hco:jN g s' o=some (f,A,d)) (hp:Pure P f args r []) (hy:valOf r=some y) (hr:r.aQ (fresh 0)=true) (hA:AEq A (args.map (V.dz (cK [])))) (k:QGo C all rest {s' with L:=put s'.L d r} K Φ):QGo C all l s K Φ:=by
 suffices kk:QGo C all (o::rest) s' K Φ from (ug (K:=K) (Φ:=Φ) x.ty x.n 1000 l s [] (by rw[h];exact⟨ho,kk⟩)).2
 unfold jN at hco
 split at hco
 ·rename_i d' hg hd
  cases hb:Nat.blt d' g.n with
  | false=>rw[hb] at hco;simp at hco
  | true=>
   rw[hb] at hco
   simp only[cond_true] at hco
   split at hco
   ·rename_i f' A' hc
    simp only[agR,agW] at hco
    obtain⟨rfl,rfl,rfl⟩:=hco
    exact QGo.call x.n x.fix (x.prog▸hp) hy hg hd (by simp only[agN];exact⟨hb,hr⟩) hc hA k
   ·simp at hco
 ·simp at hco
theorem XY{all:Array Oper}{l rest:List Oper}{o:Oper}{args A:List V}{r:V}{f d:Nat}{q:List (Nat×Bool)}{y:Value}(h:rA g all 1000 l s []=.op ob o rest s')(ho:ak ob)
  (hco:oV g s' all o=some (f,A,d,q)) (hp:imp s'.L q (Pure P f args r [])) (hy:valOf r=some y) (hr:r.aQ (fresh 0)=true) (hA:AEq A (args.map (V.dz (cK [])))) (k:QGo C all rest {s' with L:=put s'.L d (.g q r)} K Φ):QGo C all l s K Φ:=by
 suffices kk:QGo C all (o::rest) s' K Φ from (ug (K:=K) (Φ:=Φ) x.ty x.n 1000 l s [] (by rw[h];exact⟨ho,kk⟩)).2
 unfold oV at hco
 split at hco
 ·rename_i j u d' hg hd
  split at hco
  ·rename_i q' hq
   cases hb:(Nat.blt d' g.n&&!(q'.any λe=>Nat.beq e.1 d')) with
   | false=>rw[hb] at hco;simp at hco
   | true=>
    rw[hb] at hco
    simp only[cond_true] at hco
    split at hco
    ·rename_i f' A' hc
     simp only[agR,agW] at hco
     obtain⟨rfl,rfl,rfl,rfl⟩:=hco
     exact QGo.pF x.n x.fix hg hq hd (by simp only[agN] at hb ⊢;exact⟨hb,hr⟩) hc (x.prog▸hp) hy hA k
    ·simp at hco
  ·simp at hco
 ·simp at hco
end Cr
end Go.Sx
namespace Go.Sx
def aW(l:List Oper):List Nat->List Oper
 | []=>[]
 | i::r=>match l[i]? with
  | some o=>o::aW l r
  | none=>aW l r
def Qg(ops:Array Oper)(i:Nat):Bool:=
 match ops[i]? with
 | some o=>match o.guard,o.op with
  | none,.move _=>true
  | none,.assign _=>true
  | _,_=>false
 | none=>false
def UY(i:Nat):List Nat->Bool
 | []=>false
 | j::r=>Nat.beq j i||UY i r
theorem FT{i:Nat}:∀{l:List Nat},UY i l=true↔i∈l
 | []=>by simp [UY]
 | j::r=>by
  simp only[UY,Bool.or_eq_true,FT,List.mem_cons]
  constructor
  ·rintro (h | h)
   ·exact .inl (agU h).symm
   ·exact .inr h
  ·rintro (h | h)
   ·exact .inl (by subst h;simp)
   ·exact .inr h
section
variable(md:Region.Mode)(ops:Array Oper)
def Sz(T:List Nat)(listed:Array Bool)(i:Nat):Bool:=(Region.ready md ops listed).contains i&&Region.free md ops listed i&&!UY i T
def FU(T:List Nat):List Nat->Array Bool->(Array Bool->Bool)->Bool
 | [],l,k=>k l
 | i::r,l,k=>Sz md ops T l i&&Qg ops i&&FU T r (l.setIfInBounds i true) k
def uZ(T:List Nat):List Nat->Array Bool->(Array Bool->Bool)->Bool
 | [],l,k=>k l
 | i::r,l,k=>Sz md ops T l i&&uZ T r (l.setIfInBounds i true) k
def vT:List Nat->Array Bool->Bool
 | [],l=>(Region.ready md ops l).isEmpty
 | i::r,l=>decide (Region.ready md ops l=[i])&&vT r (l.setIfInBounds i true)
def vV(t:Nat):List Nat->Bool
 | []=>true
 | i::r=>(Region.waitsFor md ops t i||r.any λj=>Region.waitsFor md ops j i)&&vV t r
def pI:List Nat->Bool
 | a::b::r=>Region.waitsFor md ops b a&&pI (b::r)
 | _=>true
def pJ:List Nat->Nat
 | t::_=>t
 | []=>0
def Mx(A B T:List Nat):Bool:=
 Region.noSelect ops&&Nat.beq (A.length+B.length+T.length) ops.size&&!T.isEmpty&&T.all (λt=>Nat.blt t ops.size)&&vV md ops (pJ T) B&&pI md ops T&&
 FU md ops T A (Array.replicate ops.size false) λl=>uZ md ops T B l λl=>vT md ops T l
end
section
variable{P:Program}{ops:Array Oper}{md:Region.Mode}{Q:Exit->Act->World->Prop}{T:List Nat}
structure Inv(md:Region.Mode)(ops:Array Oper)(T:List Nat)(listed:Array Bool):Prop where
 size:listed.size=ops.size
 closed:∀j oj,ops[j]?=some oj->listed.getD j false=true->∀e∈oj.after,Region.binds md e=true->listed.getD e.on false=true
 tail:∀t∈T,listed.getD t false=false
theorem Inv.set{i:Nat}{listed:Array Bool}(inv:Inv md ops T listed)(hi:i∈Region.ready md ops listed)(hin:i∉T):Inv md ops T (listed.setIfInBounds i true):=by
 obtain⟨_,oi,hoi,hall⟩:=mem_ready.1 hi
 refine⟨by simp [inv.size],λj oj hj hl e he hb=>?_,λt ht=>by rw[getD_set_ne false (by rintro rfl;exact hin ht)];exact inv.tail t ht⟩
 by_cases hij:i=j
 ·subst hij
  have:oj=oi:=agS (hj.symm.trans hoi)
  subst this
  exact getD_set_true (hall e he hb)
 ·rw[getD_set_ne false hij] at hl
  exact getD_set_true (inv.closed j oj hj hl e he hb)
theorem FV{t i:Nat}{listed:Array Bool}(ht:t∈Region.ready md ops listed)(hw:Region.waitsFor md ops t i=true):listed.getD i false=true:=by
 obtain⟨_,ot,hot,hall⟩:=mem_ready.1 ht
 obtain⟨o',ho',e,he,hb,hon⟩:=Region.waitsFor_spec hw
 obtain rfl:o'=ot:=agS (ho'.symm.trans hot)
 rw[←hon]
 exact hall e he hb
theorem MB{t i:Nat}{listed:Array Bool}(inv:Inv md ops T listed)(ht:listed.getD t false=true)(hw:Region.waitsFor md ops t i=true):listed.getD i false=true:=by
 obtain⟨o',ho',e,he,hb,hon⟩:=Region.waitsFor_spec hw
 rw[←hon]
 exact inv.closed t o' ho' ht e he hb
theorem DV{t:Nat}{listed:Array Bool}(inv:Inv md ops T listed)(ht:t∈Region.ready md ops listed):∀{B:List Nat},vV md ops t B=true->∀i∈B,listed.getD i false=true
 | b::r,h,i,hi=>by
  simp only[vV,agN,Bool.or_eq_true,List.any_eq_true] at h
  have ih:=DV inv ht h.2
  rcases List.mem_cons.1 hi with rfl | hi
  ·rcases h.1 with h1 | ⟨j,hj,hw⟩
   ·exact FV ht h1
   ·exact MB inv (ih j hj) hw
  ·exact ih i hi
 | [],_,_,hi=>by cases hi
theorem Jo{listed:Array Bool}(inv:Inv md ops T listed):∀{S:List Nat},(∀t∈S,t∈T)->pI md ops S=true->∀t∈S,t∈Region.ready md ops listed->t=pJ S
 | [],_,_,t,ht,_=>by cases ht
 | [a],_,_,t,ht,_=>by simpa [pJ] using ht
 | a::b::r,hS,h,t,ht,hr=>by
  simp only[pI,agN] at h
  rcases List.mem_cons.1 ht with rfl | ht
  ·rfl
  ·have h1:=Jo inv (λt ht=>hS t (List.mem_cons_of_mem _ ht)) h.2 t ht hr
   simp only[pJ] at h1
   subst h1
   have:=FV hr h.1
   rw[inv.tail a (hS a (by simp))] at this
   cases this
theorem Av{listed:Array Bool}{B:List Nat}(inv:Inv md ops T listed)(hs:vV md ops (pJ T) B=true)(hc:pI md ops T=true){i:Nat}(hi:i∈B)(hun:listed.getD i true=false){j:Nat}(hj:j∈Region.ready md ops listed):j∉T:=by
 intro hjT
 have:=Jo inv (λ_ h=>h) hc j hjT hj
 subst this
 have:=DV inv hj hs i hi
 rw[getD_both hun] at this
 cases this
variable{C:World->Prop}
def FX(P:Program)(md:Region.Mode)(ops:Array Oper)(C:World->Prop)(T:List Nat)(L:Array Bool->Act->Prop):Nat->Array Bool->Act->Prop
 | 0,listed,a=>L listed a
 | f+1,listed,a=>
  Region.ready md ops listed≠[]∧∀i∈Region.ready md ops listed,i∉T∧qOp P ops C i (FX P md ops C T L f (listed.setIfInBounds i true)) a
theorem FY{g:Nat}{L:Array Bool->Act->Prop}(hL:∀listed a w,C w->L listed a->wpAny P md ops Q g listed a w) :
  ∀(f:Nat) (listed:Array Bool) (a:Act) (w:World),C w->FX P md ops C T L f listed a->wpAny P md ops Q (f+g) listed a w
 | 0,listed,a,w,hw,h=>by rw[Nat.zero_add];exact hL _ _ _ hw h
 | f+1,listed,a,w,hw,h=>by
  rw[show f+1+g=(f+g)+1 by omega]
  exact⟨λh0=>absurd h0 h.1,λi hi=>wpOp_of_qOp hw (λa' w' hw' h'=>FY hL f _ a' w' hw' h') (h.2 i hi).2⟩
theorem KG{B:List Nat}{i:Nat}{oi:Oper}{v:Value}{L:Array Bool->Act->Prop}(hi:ops[i]?=some oi)(hsel:∀(j:Nat) (o:Oper) cs b,ops[j]?=some o->o.op≠.select cs b)
  (hs:vV md ops (pJ T) B=true) (hc:pI md ops T=true) (hin:i∈B)
  (hdone:∀listed a,L listed a->∀j∈Region.ready md ops listed,j∈T) :
  ∀(f:Nat) (listed:Array Bool) (a:Act),Inv md ops T listed->
   (∀j oj,ops[j]?=some oj->j≠i->listed.getD j true=false->(∀e∈oj.after,Region.binds md e=true->e.on≠i)->oi.apart ops oj=true)->
   i∈Region.ready md ops listed->YieldsIn P ops C oi v a->
   FX P md ops C T L f (listed.setIfInBounds i true) (a.put oi.dst v)->FX P md ops C T L (f+1) listed a:=by
 intro f
 induction f with
 | zero=>
  intro listed a inv _ hr hy H
  have hun:=(mem_ready.1 hr).1
  refine⟨λh=>(by rw[h] at hr;cases hr),λj hj=>?_⟩
  have hjn:=Av inv hs hc hin hun hj
  refine⟨hjn,?_⟩
  by_cases hji:j=i
  ·subst hji;exact hy.qOp hi H
  ·exact absurd (hdone _ _ H j (ready_mono hj hji)) hjn
 | succ f ih=>
  intro listed a inv hfree hr hy H
  have hun:=(mem_ready.1 hr).1
  refine⟨λh=>(by rw[h] at hr;cases hr),λj hj=>?_⟩
  have hjn:=Av inv hs hc hin hun hj
  refine⟨hjn,?_⟩
  by_cases hji:j=i
  ·subst hji;exact hy.qOp hi H
  ·have h1:=(H.2 j (ready_mono hj hji)).2
   obtain⟨hjun,oj,hoj,hall⟩:=mem_ready.1 hj
   have hnot:∀e∈oj.after,Region.binds md e=true->e.on≠i:=λe he hb heq=>by
    have h1:=hall e he hb
    rw[heq,getD_both hun] at h1
    cases h1
   have h2:=qOp_put hoj (hfree j oj hoj hji hjun hnot) (λcs b=>hsel i oi cs b hi) (λcs b=>hsel j oj cs b hoj) hy h1
   have hfree':∀k ok,ops[k]?=some ok->k≠i->(listed.setIfInBounds j true).getD k true=false->
     (∀e∈ok.after,Region.binds md e=true->e.on≠i)->oi.apart ops ok=true:=λk ok hk hki hun hno=>by
    refine hfree k ok hk hki ?_ hno
    by_cases hjk:j=k
    ·subst hjk;exact hjun
    ·rw[getD_set_ne true hjk] at hun;exact hun
   refine qOp_mono (λa' h3=>ih (listed.setIfInBounds j true) a' (inv.set hj hjn) hfree' (ready_mono hr (Ne.symm hji)) h3.1 ?_) h2
   rw[Array.setIfInBounds_comm _ _ hji]
   exact h3.2
theorem oW{l:List Oper}{i:Nat}{o:Oper}{r:List Nat}(h:l[i]?=some o):aW l (i::r)=o::aW l r:=by simp [aW,h]
theorem pK{listed:Array Bool}{i:Nat}(h:Sz md ops T listed i=true):∃o,ops[i]?=some o∧i∈Region.ready md ops listed∧Region.free md ops listed i=true∧i∉T:=by
 simp only[Sz,agN,agZ] at h
 have hr:i∈Region.ready md ops listed:=by simpa using h.1.1
 obtain⟨_,o,ho,_⟩:=mem_ready.1 hr
 exact⟨o,ho,hr,h.1.2,λhm=>by rw[FT.2 hm] at h;exact absurd h.2 (by simp)⟩
theorem DW(hs:Region.noSelect ops=true){B0:List Nat}(hsk:vV md ops (pJ T) B0=true)(hc:pI md ops T=true){Lq:Act->Prop} :
  ∀(B:List Nat) (listed:Array Bool) (a:Act),(∀i∈B,i∈B0)->Inv md ops T listed->uZ md ops T B listed (λl=>vT md ops T l)=true->
   wpQuiet P ops C Lq (aW ops.toList B) a->FX P md ops C T (λl a'=>vT md ops T l=true∧Lq a') B.length listed a
 | [],listed,a,_,inv,hp,h=>⟨hp,h⟩
 | i::r,listed,a,hB,inv,hp,h=>by
  simp only[uZ,agN] at hp
  obtain⟨o,ho,hr,hf,hiT⟩:=pK hp.1
  rw[oW (by simpa using ho)] at h
  have hst:qOp P ops C i (wpQuiet P ops C Lq (aW ops.toList r)) a:=by unfold qOp;simp only[ho];exact h
  obtain⟨v,hy,hK⟩:=yieldsIn_of_qOp ho hst
  refine KG ho (Region.noSelect_spec hs) hsk hc (hB i (by simp)) ?_ r.length listed a inv (Region.free_spec ho hf) hr hy
   (DW hs hsk hc r _ _ (λj hj=>hB j (List.mem_cons_of_mem _ hj)) (inv.set hr hiT) hp.2 hK)
  rintro l a' ⟨hl,_⟩ j hj
  cases hT:T with
  | nil=>rw[hT] at hl;simp only[vT,List.isEmpty_iff] at hl;rw[hl] at hj;cases hj
  | cons t T'=>
   rw[hT] at hl
   simp only[vT,agN,agT] at hl
   rw[hl.1] at hj
   simpa using .inl (List.mem_singleton.1 hj)
theorem zn:∀(T:List Nat) (listed:Array Bool) (a:Act) (w:World),(∀t∈T,t<ops.size)->vT md ops T listed=true->wpList P ops Q (aW ops.toList T) a w->wpAny P md ops Q T.length listed a w
 | [],listed,a,w,_,hB,h=>⟨by simpa [vT] using hB,h⟩
 | i::r,listed,a,w,hlt,hB,h=>by
  simp only[vT,agN,agT] at hB
  have hi:=hlt i (by simp)
  have ho:ops[i]?=some ops[i]:=by simp [hi]
  rw[oW (o:=ops[i]) (by simp [hi])] at h
  refine⟨λh1=>(by rw[hB.1] at h1;cases h1),λk hk=>?_⟩
  rw[hB.1] at hk
  obtain rfl:=List.mem_singleton.1 hk
  have hw:wpOp P ops Q k (wpList P ops Q (aW ops.toList r)) a w:=by unfold wpOp;simp only[ho];exact h
  exact wpOp_mono (λa' w' h'=>zn r _ a' w' (λt ht=>hlt t (List.mem_cons_of_mem _ ht)) hB.2 h') hw
theorem DX(hs:Region.noSelect ops=true)(hQ:∀c a w,¬Q (.panic c) a w){Lq:List Oper->Act->Prop}{f:Nat}{k:Array Bool->Bool}{w:World}(hw:C w)
  (hk:∀listed a,Inv md ops T listed->k listed=true->Lq [] a->wpAny P md ops Q f listed a w)
  (ab1:∀o l a,Lq (o::l) a->if Region.wanted o (yielded ops a.tmps) then o.quiet P a C (Lq l) else Lq l (a.put o.dst undef)) :
  ∀(A:List Nat) (listed:Array Bool) (a:Act),Inv md ops T listed->FU md ops T A listed k=true->Lq (aW ops.toList A) a->wpAny P md ops Q (A.length+f) listed a w
 | [],listed,a,inv,hp,h=>by rw[List.length_nil,Nat.zero_add];exact hk _ _ inv hp h
 | i::r,listed,a,inv,hp,h=>by
  simp only[FU,agN] at hp
  obtain⟨⟨hp1,hm⟩,hp2⟩:=hp
  obtain⟨o,ho,hr,hf,hiT⟩:=pK hp1
  rw[oW (by simpa using ho)] at h
  rw[show (i::r).length+f=(r.length+f)+1 by simp;omega]
  have hc:=ab1 _ _ _ h
  simp only[Qg,ho] at hm
  have hgo:∀x:Operand,o.guard=none->(∀w',(execOp a.eval o).run P w'=.ok (.value (a.eval x)) w')->wpAny P md ops Q (r.length+f+1) listed a w:=λx hg hv=>by
   have hwt:Region.wanted o (yielded ops a.tmps)=true:=by simp [Region.wanted,hg]
   rw[if_pos hwt] at hc
   obtain⟨v,h1,h2⟩:=hc
   have h3:=h1 w hw
   unfold Oper.quietAt at h3
   rw[hv] at h3
   obtain⟨_,rfl⟩:=h3
   exact wpAny_take ho hs hf (by simpa using hr) (λc a w hq=>absurd hq (hQ c _ w)) (.inl ⟨hwt,hv⟩) (DX hs hQ hw hk ab1 r _ _ (inv.set hr hiT) hp2 h2)
  split at hm
  ·rename_i x hg hop
   exact hgo x hg λw'=>by unfold execOp;rw[hop];rfl
  ·rename_i x hg hop
   exact hgo x hg λw'=>by unfold execOp;rw[hop];rfl
  ·cases hm
theorem F5{a:Act}{w:World}{A B T:List Nat}(hp:Mx .any ops A B T=true)(hQ:∀c a w,¬Q (.panic c) a w)(hC:C {w with drawn:=w.drawn+1})
  (h:wpQuiet P ops C (λa'=>∀w',C w'->wpList P ops Q (aW ops.toList T) a' w') (aW ops.toList A++aW ops.toList B) a):wpAny P .any ops Q ops.size (Array.replicate ops.size false) a {w with drawn:=w.drawn+1}:=by
 simp only[Mx,agN] at hp
 obtain⟨⟨⟨⟨⟨⟨hs,hsz⟩,hT⟩,hTl⟩,hsk⟩,hch⟩,hpl⟩:=hp
 have inv0:Inv .any ops T (Array.replicate ops.size false):=⟨by simp,λj oj _ hl=>(by rw[getD_replicate_false] at hl;cases hl),λt _=>getD_replicate_false _ _⟩
 have hsz:=agU hsz
 have e:A.length+(B.length+T.length)=ops.size:=by omega
 have key:wpAny P .any ops Q (A.length+(B.length+T.length)) (Array.replicate ops.size false) a {w with drawn:=w.drawn+1}:=?_
 ·rw[e] at key;exact key
 refine DX (C:=C) (T:=T) (Lq:=λl a=>wpQuiet P ops C (λa'=>∀w',C w'->wpList P ops Q (aW ops.toList T) a' w') (l++aW ops.toList B) a) hs hQ hC
  (λlisted a inv hk hl=>?_) (λo l a hl=>hl) A _ a inv0 hpl h
 have hB:=DW (md:=.any) hs hsk hch B listed a (λi hi=>hi) inv hk (by simpa using hl)
 refine FY (g:=T.length) (λl a' w' hw' hL=>zn T l a' w' (λt ht=>?_) hL.1 (hL.2 w' hw')) _ _ _ _ hC hB
 have:=List.all_eq_true.1 hTl t ht
 simpa using this
theorem F6{id:Nat}{a:Act}{w:World}{A B T:List Nat}(hm:P.follows .mixedOrders=true)(hp:Mx .any ops A B T=true)(hQ:∀c a w,¬Q (.panic c) a w)(hC:C {w with drawn:=w.drawn+1})
  (h:wpQuiet P ops C (λa'=>∀w',C w'->wpList P ops Q (aW ops.toList T) a' w') (aW ops.toList A++aW ops.toList B) a):(Code.region id ops true).wp P Q a w:=
 wp_region_any hm (F5 hp hQ hC h)
end
theorem oZ{C:Ctx}{Q:Exit->Act->World->Prop}(hQ:∀c a w,¬Q (.panic c) a w):∀(K:List Item) (c:_) (a:Act) (w:World),¬den C Q K (.panic c) a w
 | [],c,a,w,h=>hQ c a w h
 | .code _::K,c,a,w,h=>oZ hQ K c a w h
 | .ops _ _::K,c,a,w,h=>oZ hQ K c a w h
 | .blk _::K,c,a,w,h=>oZ hQ K c a w h
 | .back _::K,c,a,w,h=>oZ hQ K c a w h
def NoPanic(Φ:Exit->St->Prop):Prop:=∀c s,¬Φ (.panic c) s
theorem Ret.bG{g:Cfg}{rs:List ResultVar}{ids:List Nat}{r:V}{H':List Ch}:NoPanic (Ret g rs ids r H'):=λc s h=>by
 rcases h.1 with h | h<;>cases h
def mY{α:Type}:List α->List α->List α
 | [],l=>l
 | a::r,l=>a::mY r l
theorem uh{α:Type}(a b:List α):mY a b=a++b:=by induction a with
 | nil=>rfl
 | cons x a ih=>simp [mY,ih]
theorem oC{P:Program}{ops:Array Oper}{C:World->Prop}{Q Q':Act->Prop}(h:∀a,Q a->Q' a):∀{l:List Oper} {a:Act},wpQuiet P ops C Q l a->wpQuiet P ops C Q' l a
 | [],a,hh=>h a hh
 | o::rest,a,hh=>by
  unfold wpQuiet at *
  split
  ·rename_i hw;simp only[hw,if_true] at hh;exact Oper.quiet_mono (λa hh=>oC h hh) hh
  ·rename_i hw;simp only[hw] at hh;exact oC h hh
namespace Cx
variable{P:Pg}{g:Cfg}{C:Ctx}(x:Cx P g C){s s':St}{K K':List Item}{Φ:Exit->St->Prop}{ob:List Prop}
include x
theorem plan(A B T:List Nat){id:Nat}{ops:Array Oper}(h:run g 1000 K s []=.code ob (.region id ops true) K' s')(ho:ak ob)(hm:P.P.follows .mixedOrders=true)(hB:Mx .any ops A B T=true)(hΦ:NoPanic Φ)
  (k:QGo C ops (aW ops.toList (mY A B)) s' (.ops ops (aW ops.toList T)::K') Φ):Go C K s Φ:=by
 refine st x.ty x.n x.fix h ⟨ho,?_⟩
 rintro a w ⟨ρ,F,hs⟩
 have hd:Mod none w {w with drawn:=w.drawn+1}:=⟨Z,Z,Z,Nat.le_refl _,λ_ _ _=>rfl⟩
 have hpk:aW ops.toList (mY A B)=aW ops.toList A++aW ops.toList B:=by
  rw[uh]
  clear k hB
  induction A with
  | nil=>rfl
  | cons i r ih=>
   simp only[List.cons_append,aW]
   split<;>simp [ih]
 rw[hpk] at k
 refine x.KF ?_
 exact F6 (C:=Mod none w) (x.rY.symm▸hm) hB (oZ (λc a w ⟨s,_,hh⟩=>hΦ c s hh) K') hd (oC (λa h w' hw'=>(h w' hw').1) (k a w ρ F hs))
end Cx
end Go.Sx
