import Derived.Test.YtojhdmfkfkfcbaaGreatDoorSxD
import Derived.Below
import Derived.DataShut
import Derived.Deep.Quiet
import Derived.StillTail
set_option linter.unusedSimpArgs false
set_option linter.unusedVariables false
namespace Go.Sx
def jC(L:List (Nat×V))(q:List (Nat×Bool))(o:Oper):Option (FuncId×List V):=
 match o.op with
 | .call c=>match c.callee with
  | .value fo=>match ev L q fo,evs L q c.args.toList with
   | some (.fn f caps),some A=>some (f,A++caps)
   | _,_=>none
  | _=>none
 | _=>none
def inL(x:Nat):List Nat->Bool
 | []=>false
 | y::r=>Nat.beq x y||inL x r
def bn(xs:List Nat):V->V
 | .ptr i o=>bif inL i xs then .dead else .ptr i o
 | .own i=>bif inL i xs then .dead else .own i
 | .bA i z k o=>bif inL i xs then .dead else .bA i z k o
 | v=>v
def aI(is:List Nat):List (Nat×Ch)->List (Nat×Ch)
 | []=>[]
 | (i,c)::r=>bif inL i is then aI is r else (i,c)::aI is r
def fV:Nat->Nat->List Nat
 | _,0=>[]
 | m,n+1=>m::fV (m+1) n
def nR{α:Type}:List α->List α->List α
 | [],b=>b
 | a::r,b=>a::nR r b
def iU{α:Type}:Nat->List α->List α
 | 0,l=>l
 | _+1,[]=>[]
 | n+1,_::r=>iU n r
def after(s:St)(d:Nat)(is:List Nat)(fix:Nat)(r:V)(H':List Ch)(q:List (Nat×Bool)):St:=
 let ids:=nR is (fV s.m (H'.length-is.length))
 let v:=r.dx (bZ ids)
 {L:=put (sW (bn (iU fix is)) s.L) d (match q with | []=>v | q=>.g q v),H:=nR (rnH ids ids H') (qp (bn (iU fix is)) (aI is s.H)),m:=s.m+(H'.length-is.length)}
def yB(g:Cfg)(m:Nat)(is:List Nat)(fix k:Nat):Bool:=nodupB is&&is.all (λi=>Nat.blt i m)&&(iU fix is).all (λi=>Nat.ble g.fix i)&&Nat.beq is.length k
def AEq:List V->List V->Prop
 | [],[]=>True
 | a::r,b::q=>VEq a b∧AEq r q
 | _,_=>False
section
theorem tK{α:Type}(a b:List α):nR a b=a++b:=by induction a<;>simp [nR, *]
theorem LJ{α:Type}(n:Nat)(l:List α):iU n l=l.drop n:=by
 induction n generalizing l with
 | zero=>rfl
 | succ n ih=>cases l<;>simp [iU,ih]
theorem zO{x:Nat}{l:List Nat}:inL x l=true↔x∈l:=by
 induction l with
 | nil=>simp [inL]
 | cons y r ih=>simp [inL,ih]
theorem yC(m n:Nat):(fV m n).length=n:=by induction n generalizing m<;>simp [fV, *]
theorem Pb{m n x:Nat}:x∈fV m n↔m≤x∧x<m+n:=by
 induction n generalizing m with
 | zero=>simp [fV]
 | succ n ih=>simp only[fV,List.mem_cons,ih];omega
theorem tL{l:List Nat}{i:Nat}(h:i<l.length):nth l i∈l:=List.mem_of_getElem? (lQ h)
theorem JZ{a b:List Nat}{i:Nat}(h:i<a.length):nth (nR a b) i=nth a i:=by
 rw[tK]
 have h1:=lQ (is:=a++b) (i:=i) (by simp;omega)
 have h2:=lQ h
 rw[List.getElem?_append_left h,h2] at h1
 exact (afK h1).symm
theorem bf{is:List Nat}{H:List (Nat×Ch)}{i:Nat}{c:Ch}(h:(i,c)∈aI is H):(i,c)∈H∧i∉is:=by
 induction H with
 | nil=>cases h
 | cons e r ih=>
  obtain⟨j,d⟩:=e
  unfold aI at h
  cases hj:inL j is with
  | true=>rw[hj] at h;simp at h;exact⟨List.mem_cons_of_mem _ (ih h).1,(ih h).2⟩
  | false=>
   rw[hj] at h
   simp only[cond_false,List.mem_cons,afO] at h
   rcases h with⟨rfl,rfl⟩ | h
   ·exact⟨by simp,λhm=>by rw[zO.2 hm] at hj;cases hj⟩
   ·exact⟨List.mem_cons_of_mem _ (ih h).1,(ih h).2⟩
theorem EP{is:List Nat}:∀{xs:List Nat} {cs:List Ch} {x:Nat} {c':Ch},(x,c')∈rnH is xs cs->∃i c,i<xs.length∧nth xs i=x∧cs[i]?=some c∧c'=c.map (bZ is)
 | y::xs,d::cs,x,c',h=>by
  rcases List.mem_cons.1 h with e | h
  ·obtain⟨rfl,rfl⟩:=Prod.mk.inj e;exact⟨0,d,by simp,Z,Z,Z⟩
  ·obtain⟨i,c,h1,h2,h3,h4⟩:=EP h
   exact⟨i+1,c,by simpa using h1,h2,by simpa using h3,h4⟩
 | [],_,_,_,h=>by cases h
 | _::_,[],_,_,h=>by cases h
def pos:List Nat->Nat->Option Nat
 | [],_=>none
 | y::r,x=>if y=x then some 0 else (pos r x).map (· + 1)
theorem ZK{l:List Nat}(hn:∀i j,i<l.length->j<l.length->i≠j->nth l i≠nth l j){i:Nat}(h:i<l.length):pos l (nth l i)=some i:=by
 induction l generalizing i with
 | nil=>simp at h
 | cons y r ih=>
  cases i with
  | zero=>simp [pos,nth]
  | succ i=>
   have h0:=hn 0 (i+1) (by simp) h (by omega)
   simp only[nth] at h0
   simp only[pos,nth,h0,if_false]
   rw[ih (λa b ha hb hab=>hn (a+1) (b+1) (by simpa using ha) (by simpa using hb) (by omega)) (by simpa using h)]
   rfl
theorem WX{l:List Nat}{x:Nat}(h:x∉l):pos l x=none:=by
 induction l with
 | nil=>rfl
 | cons y r ih=>
  have h1:¬y=x:=λe=>h (by simp [e])
  simp only[pos,h1,if_false,ih (λhm=>h (by simp [hm]))];rfl
end
theorem jD{is:List Nat}{k m:Nat}(hm:∀i,i<k->nth is i<m){u:V}(h:u.all1 (fresh k)=true):(u.eZ (bZ is)).all1 (fresh m)=true:=by
 have go:∀id,Nat.blt id k=true->Nat.blt (nth is id) m=true:=λid h=>by simpa using hm id (by simpa using h)
 have g0:∀u,fresh k u=true->fresh m (bZ is u)=true:=λu h=>by cases u<;>first | exact go _ h | rfl
 cases u with
 | fn f c=>simp only[V.eZ,V.all1,List.all_map,List.all_eq_true,Function.comp] at *;exact λx hx=>g0 x (h x hx)
 | ptr i o=>exact go _ h
 | own i=>exact go _ h
 | bA i z k o=>exact go _ h
 | _=>rfl
theorem kU{is:List Nat}{k m:Nat}(hm:∀i,i<k->nth is i<m){u:V}(h:u.all2 (fresh k)=true):(u.iL (bZ is)).all2 (fresh m)=true:=by
 cases u with
 | agg us=>simp only[V.iL,V.all2,List.all_map,List.all_eq_true,Function.comp] at *;exact λx hx=>jD hm (h x hx)
 | fn f c=>exact jD (u:=.fn f c) hm h
 | ptr i o=>exact jD (u:=.ptr i o) hm h
 | own i=>exact jD (u:=.own i) hm h
 | bA i z k o=>exact jD (u:=.bA i z k o) hm h
 | _=>rfl
theorem ER{is:List Nat}{k m:Nat}(hm:∀i,i<k->nth is i<m){u:V}(h:u.aQ (fresh k)=true):(u.dx (bZ is)).aQ (fresh m)=true:=by
 cases u with
 | tup us=>simp only[V.dx,V.aQ,List.all_map,List.all_eq_true,Function.comp] at *;exact λx hx=>kU hm (h x hx)
 | agg us=>exact kU (u:=.agg us) hm h
 | fn f c=>exact kU (u:=.fn f c) hm h
 | ptr i o=>exact kU (u:=.ptr i o) hm h
 | own i=>exact kU (u:=.own i) hm h
 | bA i z k o=>exact kU (u:=.bA i z k o) hm h
 | _=>rfl
theorem ES{is:List Nat}{k m:Nat}(hm:∀i,i<k->nth is i<m){c:Ch}(h:c.all (fresh k)=true):(c.map (bZ is)).all (fresh m)=true:=by
 cases c with
 | box us=>simp only[Ch.map,Ch.all,List.all_map,List.all_eq_true,Function.comp] at *;exact λx hx=>jD hm (h x hx)
 | held _ _ _ _ _ u _ _ _=>exact jD (u:=u) hm h
 | tbl es=>simp only[Ch.map,Ch.all,List.all_map,List.all_eq_true,Function.comp] at *;exact λx hx=>kU hm (h x hx)
 | bld T u=>exact jD (u:=u) hm h
 | _=>rfl
theorem iO(xs:List Nat)(u:V):bn xs u=u∨bn xs u=.dead:=by
 cases u with
 | ptr i o=>simp only[bn];cases inL i xs<;>simp
 | own i=>simp only[bn];cases inL i xs<;>simp
 | bA i z k o=>simp only[bn];cases inL i xs<;>simp
 | _=>exact .inl rfl
theorem fM{xs:List Nat}{m m':Nat}(hmm:m≤m'){v:V}(hv:v.all1 (fresh m)=true):(v.eZ (bn xs)).all1 (fresh m')=true:=by
 have g0:∀u,fresh m u=true->fresh m' (bn xs u)=true:=λu h=>by
  rcases iO xs u with e | e<;>rw[e]
  ·exact cB hmm h
  ·rfl
 have g1:∀u,u.leaf=true->fresh m u=true->(bn xs u).all1 (fresh m')=true:=λu hl h=>by
  have h2:=g0 u h
  rcases iO xs u with e | e
  ·rw[e] at h2 ⊢;cases u<;>first | exact h2 | cases hl
  ·rw[e];rfl
 cases v with
 | fn f c=>simp only[V.eZ,V.all1,List.all_map,List.all_eq_true,Function.comp] at *;exact λx hx=>g0 x (hv x hx)
 | ptr i o=>exact g1 (.ptr i o) rfl hv
 | own i=>exact g1 (.own i) rfl hv
 | bA i z k o=>exact g1 (.bA i z k o) rfl hv
 | _=>first | rfl | exact oP (λu hu=>cB hmm hu) hv
theorem gZ{xs:List Nat}{m m':Nat}(hmm:m≤m'){v:V}(hv:v.all2 (fresh m)=true):(v.iL (bn xs)).all2 (fresh m')=true:=by
 cases v with
 | agg us=>simp only[V.iL,V.all2,List.all_map,List.all_eq_true,Function.comp] at *;exact λx hx=>fM hmm (hv x hx)
 | ptr i o=>
  have:=fM (xs:=xs) hmm (v:=.ptr i o) hv
  rcases iO xs (.ptr i o) with e | e<;>(simp only[V.eZ] at this;simp only[V.iL,V.eZ,e] at this ⊢;exact this)
 | own i=>
  have:=fM (xs:=xs) hmm (v:=.own i) hv
  rcases iO xs (.own i) with e | e<;>(simp only[V.eZ] at this;simp only[V.iL,V.eZ,e] at this ⊢;exact this)
 | bA i z k o=>
  have:=fM (xs:=xs) hmm (v:=.bA i z k o) hv
  rcases iO xs (.bA i z k o) with e | e<;>(simp only[V.eZ] at this;simp only[V.iL,V.eZ,e] at this ⊢;exact this)
 | fn f c=>exact fM (v:=.fn f c) hmm hv
 | _=>rfl
theorem ig{xs:List Nat}{m m':Nat}(hmm:m≤m'){v:V}(hv:v.aQ (fresh m)=true):(v.dx (bn xs)).aQ (fresh m')=true:=by
 cases v with
 | tup us=>simp only[V.dx,V.aQ,List.all_map,List.all_eq_true,Function.comp] at *;exact λx hx=>gZ hmm (hv x hx)
 | agg us=>exact gZ (v:=.agg us) hmm hv
 | ptr i o=>
  have:=gZ (xs:=xs) hmm (v:=.ptr i o) hv
  rcases iO xs (.ptr i o) with e | e<;>(simp only[V.iL,V.eZ] at this;simp only[V.dx,V.iL,V.eZ,e] at this ⊢;exact this)
 | own i=>
  have:=gZ (xs:=xs) hmm (v:=.own i) hv
  rcases iO xs (.own i) with e | e<;>(simp only[V.iL,V.eZ] at this;simp only[V.dx,V.iL,V.eZ,e] at this ⊢;exact this)
 | bA i z k o=>
  have:=gZ (xs:=xs) hmm (v:=.bA i z k o) hv
  rcases iO xs (.bA i z k o) with e | e<;>(simp only[V.iL,V.eZ] at this;simp only[V.dx,V.iL,V.eZ,e] at this ⊢;exact this)
 | fn f c=>exact gZ (v:=.fn f c) hmm hv
 | _=>rfl
theorem Hu{xs:List Nat}{m m':Nat}(hmm:m≤m'){v:V}(hv:v.qX (fresh m)=true):(v.yh (bn xs)).qX (fresh m')=true:=by
 cases v with
 | g p u=>exact ig hmm hv
 | tup us=>exact ig (v:=.tup us) hmm hv
 | agg us=>exact ig (v:=.agg us) hmm hv
 | ptr i o=>
  have:=ig (xs:=xs) hmm (v:=.ptr i o) hv
  rcases iO xs (.ptr i o) with e | e<;>(simp only[V.dx,V.iL,V.eZ] at this;simp only[V.yh,V.dx,V.iL,V.eZ,e] at this ⊢;exact this)
 | own i=>
  have:=ig (xs:=xs) hmm (v:=.own i) hv
  rcases iO xs (.own i) with e | e<;>(simp only[V.dx,V.iL,V.eZ] at this;simp only[V.yh,V.dx,V.iL,V.eZ,e] at this ⊢;exact this)
 | bA i z k o=>
  have:=ig (xs:=xs) hmm (v:=.bA i z k o) hv
  rcases iO xs (.bA i z k o) with e | e<;>(simp only[V.dx,V.iL,V.eZ] at this;simp only[V.yh,V.dx,V.iL,V.eZ,e] at this ⊢;exact this)
 | fn f c=>exact ig (v:=.fn f c) hmm hv
 | _=>rfl
theorem Hw{xs:List Nat}{m m':Nat}(hmm:m≤m'){c:Ch}(hc:c.all (fresh m)=true):(c.map (bn xs)).all (fresh m')=true:=by
 cases c with
 | box us=>simp only[Ch.map,Ch.all,List.all_map,List.all_eq_true,Function.comp] at *;exact λy hy=>fM hmm (hc y hy)
 | held _ _ _ _ _ u _ _ _=>exact fM (v:=u) hmm hc
 | tbl es=>simp only[Ch.map,Ch.all,List.all_map,List.all_eq_true,Function.comp] at *;exact λy hy=>gZ hmm (hc y hy)
 | bld T u=>exact fM (v:=u) hmm hc
 | _=>rfl
section
variable{C:Ctx}{s:St}{a:Act}{w w':World}{ρ:Nat->Value}{F:Nat->Prop}{g:Cfg}
theorem R0.bn{xs:List Nat}{m:Nat}{ρ':Nat->Value}{F':Nat->Prop}(hρ:∀i,i<m->i∉xs->ρ' i=ρ i)(hF:∀k,F k->F' k)(hw:∀k,F k->w'.heap[k]?=w.heap[k]?){u:V}{v:Value}(hf:fresh m u=true)(h:R0 ρ F w u v):R0 ρ' F' w' (bn xs u) v:=by
 have one:=h.one'
 have go:∀id,Nat.blt id m=true->inL id xs=false->ρ' id=ρ id:=λid h1 h2=>hρ id (by simpa using h1) (λhm=>by rw[zO.2 hm] at h2;cases h2)
 cases u with
 | ptr i o=>
  simp only[Sx.bn]
  cases hi:inL i xs with
  | true=>exact one
  | false=>obtain⟨b,h1,h2⟩:=h;exact⟨b,by rw[go i hf hi];exact h1,h2⟩
 | own i=>
  simp only[Sx.bn]
  cases hi:inL i xs with
  | true=>exact one
  | false=>obtain⟨h1,h2⟩:=h;exact⟨by rw[go i hf hi];exact h1,by rw[go i hf hi];exact h2⟩
 | bA i z k o=>
  simp only[Sx.bn]
  cases hi:inL i xs with
  | true=>exact one
  | false=>obtain⟨b,h1,h2⟩:=h;exact⟨b,by rw[go i hf hi];exact h1,h2⟩
 | d x=>exact R0.world hF hw h
 | gG ds=>exact R0.world (u:=.gG ds) hF hw h
 | aF=>exact h
 | dead=>exact h
 | _=>exact h.elim
theorem aG.called(h:aG C s a w ρ F)(xH:g.fix=C.fix){is:List Nat}{fix:Nat}{H H':List Ch}{r:V}{e:Ending}
  (hok:yB g s.m is fix H.length=true) (hH:HLE s.H (rnH is is H)) (hle:H.length≤H'.length) (hfr:aM [r] H' H'.length=true)
  (hpost:Post w F (λi=>ρ (nth is i)) fix H r H' e w') :
  ∃v ρ' F',e=.returned v∧R3 ρ' F' w' (r.dx (bZ (nR is (fV s.m (H'.length-is.length))))) v∧(r.dx (bZ (nR is (fV s.m (H'.length-is.length))))).aQ (fresh (s.m+(H'.length-is.length)))=true∧
   aG C {L:=sW (bn (iU fix is)) s.L,H:=nR (rnH (nR is (fV s.m (H'.length-is.length))) (nR is (fV s.m (H'.length-is.length))) H') (qp (bn (iU fix is)) (aI is s.H)),m:=s.m+(H'.length-is.length)} a w' ρ' F':=by
 obtain⟨v,ρc,F',he,hkeep,hfix,hFF,hlt,hsub,hr,C8,La⟩:=hpost
 simp only[yB,afF,List.all_eq_true] at hok
 obtain⟨⟨⟨o1,o2⟩,o3⟩,o4⟩:=hok
 have J2:=afM o4
 have o2':∀i∈is,i<s.m:=λi hi=>by simpa using o2 i hi
 have o3':∀i∈iU fix is,C.fix≤i:=λi hi=>by rw[←xH];simpa using o3 i hi
 generalize hn:H'.length-is.length=n
 generalize Pf:nR is (fV s.m n)=ids
 have hidl:ids.length=H'.length:=by rw[←Pf,tK,List.length_append,yC];omega
 have hmem:∀x,x∈ids↔x∈is∨(s.m≤x∧x<s.m+n):=λx=>by rw[←Pf,tK,List.mem_append,Pb]
 have hidm:∀x∈ids,x<s.m+n:=λx hx=>by
  rcases (hmem x).1 hx with h1 | h1
  ·have:=o2' x h1;omega
  ·exact h1.2
 have hleft:∀i,i<is.length->nth ids i=nth is i:=λi hi=>by rw[←Pf];exact JZ hi
 have abY:∀i j,i<ids.length->j<ids.length->i≠j->nth ids i≠nth ids j:=by
  have hright:∀n m i,i<n->nth (fV m n) i=m+i:=by
   intro n
   induction n with
   | zero=>intro m i hi;omega
   | succ n ih=>
    intro m i hi
    cases i with
    | zero=>rfl
    | succ i=>simp only[fV,nth];rw[ih (m+1) i (by omega)];omega
  have hr2:∀i,is.length≤i->i<ids.length->nth ids i=s.m+(i-is.length):=by
   intro i h1 h2
   have e1:=lQ h2
   rw[←Pf,tK,List.getElem?_append_right h1] at e1
   have hlen:i-is.length<(fV s.m n).length:=by rw[yC];omega
   rw[lQ hlen] at e1
   have e2:=afK e1
   rw[show is++fV s.m n=ids by rw[←tK];exact Pf] at e2
   rw[←e2,hright n s.m _ (by rw[yC] at hlen;exact hlen)]
  intro i j hi hj hij e
  by_cases h1:i<is.length
  ·by_cases h2:j<is.length
   ·rw[hleft i h1,hleft j h2] at e
    exact gK o1 i j h1 h2 hij e
   ·rw[hleft i h1,hr2 j (by omega) hj] at e
    have:=o2' _ (tL h1)
    omega
  ·by_cases h2:j<is.length
   ·rw[hleft j h2,hr2 i (by omega) hi] at e
    have:=o2' _ (tL h2)
    omega
   ·rw[hr2 i (by omega) hi,hr2 j (by omega) hj] at e
    omega
 let ρ':Nat->Value:=λx=>match pos ids x with | some i=>ρc i | none=>ρ x
 have abZ:∀i,i<ids.length->ρ' (nth ids i)=ρc i:=λi hi=>by simp only[ρ',ZK abY hi]
 have ZL:∀x,x∉ids->ρ' x=ρ x:=λx hx=>by simp only[ρ',WX hx]
 have Ph:∀i,i<H'.length->ρ' (nth ids i)=ρc i:=λi hi=>abZ i (by omega)
 have adx:∀p,p<is.length->∃c0,(nth is p,c0)∈s.H:=λp hp=>by
  obtain⟨c0,k1,_⟩:=nZ J2 hH (afG (show p<H.length by omega))
  exact⟨c0,k1⟩
 have hE:∀b,ownB (λi=>ρ (nth is i)) H b->∃p c0,p<is.length∧(nth is p,c0)∈s.H∧bks ρ (nth is p) c0 b:=λb hb=>by
  obtain⟨p,hp,hb⟩:=hb
  obtain⟨c0,k1⟩:=adx p (by omega)
  exact⟨p,c0,by omega,k1,aT hb⟩
 have hwF:∀k,F k->w'.heap[k]?=w.heap[k]?:=λk hk=>hkeep.block k (h.lt k hk) (λhb=>by
  obtain⟨p,c0,hp,k1,k2⟩:=hE k hb
  exact h.out _ c0 k k1 k2 hk)
 have Pj:Keeps C.w0 C.E w':=⟨hkeep.os.trans h.keep.os,hkeep.tape.trans h.keep.tape,hkeep.output.trans h.keep.output,Nat.le_trans h.keep.size hkeep.size,λk hk hne=>by
  refine (hkeep.block k (Nat.lt_of_lt_of_le hk h.keep.size) (λhb=>?_)).trans (h.keep.block k hk hne)
  obtain⟨p,c0,hp,k1,k2⟩:=hE k hb
  rcases h.mine _ c0 k k1 k2 with h1 | h1
  ·omega
  ·exact hne h1⟩
 have ab0:∀i,i<C.fix->ρ' i=C.ρ0 i:=λi hi=>by
  by_cases hm:i∈ids
  ·rcases (hmem i).1 hm with h1 | h1
   ·obtain⟨p,hp,rfl⟩:∃p,p<is.length∧nth is p=i:=by
     obtain⟨p,hp⟩:=List.getElem?_of_mem h1
     have hlt:=(List.getElem?_eq_some_iff.1 hp).1
     rw[lQ hlt] at hp
     exact⟨p,hlt,afK hp⟩
    have hpf:p<fix:=by
     rcases Nat.lt_or_ge p fix with h2 | h2
     ·exact h2
     ·have:nth is p∈iU fix is:=by
       rw[LJ]
       have h3:(is.drop fix)[p-fix]?=some (nth is p):=by
        rw[List.getElem?_drop,show fix+(p-fix)=p by omega];exact lQ hp
       exact List.mem_of_getElem? h3
      have:=o3' _ this
      omega
    have e5:=abZ p (by omega)
    rw[hleft p hp] at e5
    rw[e5,hfix p hpf]
    exact h.bW.2 _ hi
   ·have:=h.bW.1;omega
  ·rw[ZL i hm];exact h.bW.2 i hi
 have hother:∀{i:Nat} {c:Ch},(i,c)∈s.H->i∉is->i∉ids:=λhic hni hm=>by
  rcases (hmem _).1 hm with h1 | h1
  ·exact hni h1
  ·have:=(h.aK _ _ hic).1;omega
 have hA:aG C {L:=sW (bn (iU fix is)) s.L,H:=qp (bn (iU fix is)) (aI is s.H),m:=s.m+n} a w' ρ' F':=by
  refine h.change (bn (iU fix is)) (λu v hu hr=>R0.bn (m:=s.m) (λi hi hni=>?_) hFF hwF hu hr) (λt v hv=>?_) (λi c hc=>?_) hFF hwF hlt Pj (by omega) (λk hk=>?_) ab0
  ·by_cases hm:i∈ids
   ·rcases (hmem i).1 hm with h1 | h1
    ·obtain⟨p,hp⟩:=List.getElem?_of_mem h1
     have hlt:=(List.getElem?_eq_some_iff.1 hp).1
     rw[lQ hlt] at hp
     obtain rfl:=afK hp
     have hpf:p<fix:=by
      rcases Nat.lt_or_ge p fix with h2 | h2
      ·exact h2
      ·refine (hni ?_).elim
       rw[LJ]
       have h3:(is.drop fix)[p-fix]?=some (nth is p):=by
        rw[List.getElem?_drop,show fix+(p-fix)=p by omega];exact lQ hlt
       exact List.mem_of_getElem? h3
     rw[←hleft p hlt,abZ p (by omega),hfix p hpf,hleft p hlt]
    ·omega
   ·exact ZL i hm
  ·obtain⟨v0,h1,rfl⟩:=ED hv
   exact⟨⟨v0,h1,Z⟩,Hu (by omega) (h.aR t v0 h1)⟩
  ·obtain⟨c0,h1,rfl⟩:=vC hc
   obtain⟨h1,h2⟩:=bf h1
   refine⟨⟨c0,h1,Z⟩,Hw (by omega) (h.aK i c0 h1).2,ZL i (hother h1 h2),λb e=>by rw[nX] at e;exact⟨hkeep.block b ((h.ch i c0 h1).lt e) (λhb=>by
    obtain⟨p,c1,hp,k1,k2⟩:=hE b hb
    exact h.sep i (nth is p) c0 c1 b h1 k1 (λe2=>h2 (by rw[e2];exact tL hp)) e k2),λhb=>by
    rcases hsub b hb with h3 | h3 | h3
    ·exact h.out i c0 b h1 e h3
    ·have:=(h.ch i c0 h1).lt e;omega
    ·obtain⟨p,c1,hp,k1,k2⟩:=hE b h3
     exact h.sep i (nth is p) c0 c1 b h1 k1 (λe2=>h2 (by rw[e2];exact tL hp)) e k2⟩⟩
  ·rcases hsub k hk with h1 | h1 | h1
   ·exact h.sub k h1
   ·exact .inr (.inl (Nat.le_trans h.keep.size h1))
   ·obtain⟨p,c0,hp,k1,k2⟩:=hE k h1
    rcases h.mine _ c0 k k1 k2 with h2 | h2
    ·exact .inr (.inl h2)
    ·exact .inr (.inr h2)
 simp only[aM,afF,List.all_eq_true] at hfr
 have TV:∀i,i<H'.length->nth ids i<s.m+n:=λi hi=>hidm _ (tL (by omega))
 refine⟨v,ρ',F',he,?_,ER TV (hfr.1 r (by simp)),?_⟩
 ·have:=R3.map (p:=fresh H'.length) (k:=bZ ids) (ρ':=ρ') (F':=F') (w':=w') (λu x hu hr=>R0.ren Ph hu hr) (hfr.1 r (by simp)) hr
  exact this
 ·have split:∀{i:Nat} {c:Ch},(i,c)∈nR (rnH ids ids H') (qp (bn (iU fix is)) (aI is s.H))->(∃p c0,p<H'.length∧nth ids p=i∧H'[p]?=some c0∧c=c0.map (bZ ids))∨(i,c)∈qp (bn (iU fix is)) (aI is s.H):=by
   intro i c hic
   rw[tK,List.mem_append] at hic
   rcases hic with h1 | h1
   ·obtain⟨p,c0,p1,p2,p3,p4⟩:=EP h1
    exact .inl ⟨p,c0,by omega,p2,p3,p4⟩
   ·exact .inr h1
  have Rp:∀p b,p<H'.length->blk (ρc p)=some b->(w.heap.size≤b∨ownB (λi=>ρ (nth is i)) H b):=λp b hp e=>La p b hp e
  have WY:∀{p i:Nat} {c:Ch} {b:Nat},p<H'.length->(i,c)∈qp (bn (iU fix is)) (aI is s.H)->blk (ρc p)=some b->¬bks ρ' i c b:=by
   intro p i c b hp hic e e2
   obtain⟨c0,h1,rfl⟩:=vC hic
   obtain⟨h1,h2⟩:=bf h1
   rw[jT (ZL i (hother h1 h2)),nX] at e2
   rcases Rp p b hp e with h3 | h3
   ·have:=(h.ch i c0 h1).lt e2;omega
   ·obtain⟨q,c1,hq,k1,k2⟩:=hE b h3
    exact h.sep i (nth is q) c0 c1 b h1 k1 (λe3=>h2 (by rw[e3];exact tL hq)) e2 k2
  exact {
      size:=hA.size,defers:=hA.defers,slot:=hA.slot,aR:=hA.aR,lt:=hA.lt,sub:=hA.sub,base:=hA.base,bW:=hA.bW,keep:=hA.keep,env:=hA.env
      ch:=λi c hic=>by
       rcases split hic with⟨p,c0,p1,rfl,p3,rfl⟩ | h1
       ·exact iV.ren Ph p1 (hfr.2 c0 (List.mem_of_getElem? p3)).1 (C8.ch p c0 p3)
       ·exact hA.ch i c h1
      sep:=λi j ci cj b hi hj hij e=>by
       rcases split hi with⟨p,c0,p1,rfl,p3,rfl⟩ | h1
       ·have e:=dF (by rw[rP];exact (hfr.2 c0 (List.mem_of_getElem? p3)).2) e
        rw[Ph p p1] at e
        rcases split hj with⟨q,c1,q1,rfl,q3,rfl⟩ | h2
        ·intro e2
         have e2:=dF (by rw[rP];exact (hfr.2 c1 (List.mem_of_getElem? q3)).2) e2
         rw[Ph q q1] at e2
         exact C8.sep p q b p1 q1 (λe2=>hij (by rw[e2])) e e2
        ·exact WY p1 h2 e
       ·rcases split hj with⟨q,c1,q1,rfl,q3,rfl⟩ | h2
        ·intro e2
         have e2:=dF (by rw[rP];exact (hfr.2 c1 (List.mem_of_getElem? q3)).2) e2
         rw[Ph q q1] at e2
         exact WY q1 h1 e2 e
        ·exact hA.sep i j ci cj b h1 h2 hij e
      out:=λi c b hi e=>by
       rcases split hi with⟨p,c0,p1,rfl,p3,rfl⟩ | h1
       ·have e:=dF (by rw[rP];exact (hfr.2 c0 (List.mem_of_getElem? p3)).2) e
        rw[Ph p p1] at e;exact C8.out p b p1 e
       ·exact hA.out i c b h1 e
      aK:=λi c hi=>by
       rcases split hi with⟨p,c0,p1,rfl,p3,rfl⟩ | h1
       ·exact⟨TV p p1,ES TV (hfr.2 c0 (List.mem_of_getElem? p3)).1⟩
       ·exact hA.aK i c h1
      mine:=λi c b hi e=>by
       rcases split hi with⟨p,c0,p1,rfl,p3,rfl⟩ | h1
       ·have e:=dF (by rw[rP];exact (hfr.2 c0 (List.mem_of_getElem? p3)).2) e
        rw[Ph p p1] at e
        rcases Rp p b p1 e with h3 | h3
        ·exact .inl (Nat.le_trans h.keep.size h3)
        ·obtain⟨q,c1,hq,k1,k2⟩:=hE b h3
         exact h.mine _ c1 b k1 k2
       ·exact hA.mine i c b h1 e}
theorem zP{P:Program}{a:Act}{o:Oper}{c:Call}{fo:Operand}(hop:o.op=.call c)(hc:c.callee=.value fo){f:FuncId}{cs:Array Value}(hf:a.eval fo=.func (.func f) #[] cs)(hcall:iN P f)(w:World) :
  (execOp a.eval o).run P w=.ok (.enter f (c.args.map a.eval++cs)) w:=by
 obtain⟨fn,h1,h2,h3⟩:=hcall
 have hb:fn.body.isNone=false:=by cases hh:fn.body<;>simp_all
 simp only[execOp,hop,resolve,hc,hf,Deferred.ofValue,Sem.run_bind,Sem.run_pure,Result.andThen,invoke,callFunc,program]
 simp [Sem.run,h1,h3,hb]
theorem lC:∀{us vs:List V} {cs:List Value},AEq us vs->aH (R3 ρ F w) us cs->aH (R3 ρ F w) vs cs
 | [],[],_,_,hr=>hr
 | u::us,v::vs,c::cs,h,hr=>⟨wU h.1 hr.1,lC h.2 hr.2⟩
 | u::us,v::vs,[],h,hr=>hr.elim
 | [],_::_,_,h,_=>h.elim
 | _::_,[],_,h,_=>h.elim
theorem ET(h:aG C s a w ρ F)(xH:g.fix=C.fix){q:List (Nat×Bool)}(hq:pcA a.tmps q){o:Oper}{f:FuncId}{A:List V}(hco:jC s.L q o=some (f,A))
  {is:List Nat} {fix:Nat} {args:List V} {H H':List Ch} {r:V} (hp:aD C.pg f fix args H r H') (hA:AEq A (args.map (V.dx (bZ is)))) (hok:yB g s.m is fix H.length=true) (hH:HLE s.H (rnH is is H)) :
  ∃vals,(execOp a.eval o).run C.P w=.ok (.enter f vals) w∧Calls C.P f vals w (λe w'=>∃v ρ' F',e=.returned v∧R3 ρ' F' w' (r.dx (bZ (nR is (fV s.m (H'.length-is.length))))) v∧(r.dx (bZ (nR is (fV s.m (H'.length-is.length))))).aQ (fresh (s.m+(H'.length-is.length)))=true∧
   aG C {L:=sW (bn (iU fix is)) s.L,H:=nR (rnH (nR is (fV s.m (H'.length-is.length))) (nR is (fV s.m (H'.length-is.length))) H') (qp (bn (iU fix is)) (aI is s.H)),m:=s.m+(H'.length-is.length)} a w' ρ' F'):=by
 obtain⟨hcall,hfr,xG,hfx,hHH,EU⟩:=hp
 unfold jC at hco
 split at hco
 ·rename_i c hop
  split at hco
  ·rename_i fo hc
   split at hco
   ·rename_i f' caps A' he hes
    simp only[afJ,afO] at hco
    obtain⟨rfl,rfl⟩:=hco
    obtain⟨cs,hcs,vH⟩:=(show R1 ρ F w (.fn f' caps) _ from (aC h hq he).1)
    have hargs:=(jh h hq hes).1
    have hok':=hok
    simp only[yB,afF,List.all_eq_true] at hok
    obtain⟨⟨⟨o1,o2⟩,o3⟩,o4⟩:=hok
    have J2:=afM o4
    simp only[aM,afF,List.all_eq_true] at hfr
    have xU:c.args.map a.eval++cs.toArray=(c.args.toList.map a.eval++cs).toArray:=by
     cases c.args;simp
    have hall:aH (R3 ρ F w) (A'++caps) (c.args.toList.map a.eval++cs):=hargs.app (vH.mono λu v hr=>kE (jm (rO hr)))
    have EW:=lC hA hall
    have EX:aH (R3 (λi=>ρ (nth is i)) F w) args (c.args.toList.map a.eval++cs):=EW.unmap λu v hu hr=>R3.dO (k:=H.length) (λ_ _=>rfl) (hfr.1 u hu) hr
    have hold:Holds (λi=>ρ (nth is i)) F w H:=by
     have hx:∀i,i<H.length->∃c,H[i]?=some c∧∃c0,(nth is i,c0)∈s.H∧mE c0 (c.map (bZ is)):=λi hi=>by
      obtain⟨c0,k1,k2⟩:=nZ J2 hH (afG hi)
      exact⟨_,afG hi,c0,k1,k2⟩
     refine⟨λi c hc=>?_,λi j b hi hj hij e=>?_,λi b hi e=>?_⟩
     ·have hi:=(List.getElem?_eq_some_iff.1 hc).1
      obtain⟨c',hc',c0,k1,k2⟩:=hx i hi
      rw[hc] at hc'
      obtain rfl:=afK hc'
      exact iV.dO (k:=H.length) (ρ:=λi=>ρ (nth is i)) (λ_ _=>rfl) hi (hfr.2 c (List.mem_of_getElem? hc)).1 (iW k2 (h.ch _ _ k1))
     ·obtain⟨_,_,c0,k1,_⟩:=hx i hi
      obtain⟨_,_,c1,k3,_⟩:=hx j hj
      exact λe2=>h.sep _ _ c0 c1 b k1 k3 (gK o1 i j (by omega) (by omega) hij) (aT e) (aT e2)
     ·obtain⟨_,_,c0,k1,_⟩:=hx i hi
      exact h.out _ c0 b k1 (aT e)
    refine⟨_,zP hop hc hcs hcall w,?_⟩
    rw[xU]
    exact (EU w F _ _ h.lt h.env hold EX).mono λe w' hpost=>aG.called h xH hok' hH hHH xG hpost
   ·simp at hco
  ·simp at hco
 ·simp at hco
variable{K:List Item}{Φ:Exit->St->Prop}
theorem Go.call(hn:g.n=C.n)(xH:g.fix=C.fix){all:Array Oper}{o:Oper}{rest:List Oper}(is:List Nat){fix:Nat}{args:List V}{H H':List Ch}{r:V}{f:FuncId}{A:List V}{d:Nat}
  (hp:aD C.pg f fix args H r H') (hgd:o.guard=none) (hd:o.dst=some d) (hdn:Nat.blt d g.n=true) (hco:jC s.L [] o=some (f,A)) (hA:AEq A (args.map (V.dx (bZ is)))) (hok:yB g s.m is fix H.length=true) (hH:HLE s.H (rnH is is H))
  (k:Go C (.ops all rest::K) (after s d is fix r H' []) Φ):Go C (.ops all (o::rest)::K) s Φ:=by
 rintro a w ⟨ρ,F,h⟩
 obtain⟨vals,h1,h2⟩:=ET h xH (cO _) hco hp hA hok hH
 show fU C.rd C.P all (den C (gB C Φ) K) (o::rest) a w
 refine jS hgd λN hN=>?_
 refine qW h1 tR ?_
 rw[Oper.upon_enter]
 refine h2.mono ?_
 rintro e w' ⟨v,ρ',F',rfl,r1,r2,r3⟩
 refine hN _ _ ?_
 rw[hd]
 exact k _ _ ⟨ρ',F',r3.put (by rw[←hn];simpa using hdn) r1 r2⟩
theorem Go.oU(hn:g.n=C.n)(xH:g.fix=C.fix){all:Array Oper}{o:Oper}{rest:List Oper}{args:List V}{r:V}{f:FuncId}{A:List V}{d j:Nat}{u:Bool}{q:List (Nat×Bool)}
  (hgd:o.guard=some (j,u)) (hgp:zK s.L all j u=some q) (hd:o.dst=some d) (hdn:(Nat.blt d g.n&&!(q.any λe=>Nat.beq e.1 d)&&r.aQ (fresh 0))=true) (hco:jC s.L q o=some (f,A))
  (hp:imp s.L q (Pure C.pg f args r [])) (hA:AEq A (args.map (V.dx (bZ [])))) (hok:yB g s.m [] 0 0=true)
  (k:Go C (.ops all rest::K) {s with L:=put s.L d (.g q r)} Φ):Go C (.ops all (o::rest)::K) s Φ:=by
 rintro a w ⟨ρ,F,h⟩
 simp only[afF,afR] at hdn
 obtain⟨⟨b1,b2⟩,b3⟩:=hdn
 have hgs:=jB h hgp
 have hwant:Region.wanted o (yielded all a.tmps)=true↔pcA a.tmps q:=by rw[←hgs];simp [Region.wanted,hgd]
 show fU C.rd C.P all (den C (gB C Φ) K) (o::rest) a w
 refine nC λN hN=>?_
 cases hw:Region.wanted o (yielded all a.tmps) with
 | true=>
  have hpc:=hwant.1 hw
  have hp:=lu h hpc hp
  obtain⟨vals,h1,h2⟩:=ET h xH hpc hco hp hA hok trivial
  simp only[if_true]
  refine qW h1 tR ?_
  rw[Oper.upon_enter]
  refine h2.mono ?_
  rintro e w' ⟨v,ρ',F',rfl,r1,r2,r3⟩
  refine hN _ _ ?_
  rw[hd]
  have hr0:∀u v,fresh 0 u=true->R0 ρ' F' w' (bZ ([]:List Nat) u) v->R0 ρ' F' w' u v:=λu v hu hr=>by cases u<;>first | exact hr | simp [fresh] at hu
  have r1':R3 ρ' F' w' r v:=R3.dO (ρ:=ρ') (k:=0) (λi hi=>by omega) b3 r1
  have hid:sW (bn (iU 0 [])) s.L=s.L:=by
   have hk:(bn (iU 0 ([]:List Nat)))=λu=>u:=by funext u;cases u<;>rfl
   rw[hk]
   have:∀L,sW (λu=>u) L=L:=λL=>by induction L with
    | nil=>rfl
    | cons e L ih=>simp [sW,tq,ih]
   exact this _
  have hidH:qp (bn (iU 0 [])) (aI [] s.H)=s.H:=by
   have hk:(bn (iU 0 ([]:List Nat)))=λu=>u:=by funext u;cases u<;>rfl
   rw[hk]
   have h0:∀H,aI [] H=H:=λH=>by induction H with
    | nil=>rfl
    | cons e L ih=>simp [aI,inL,ih]
   have:∀L,qp (λu=>u) L=L:=λL=>by induction L with
    | nil=>rfl
    | cons e L ih=>simp [qp,kF,ih]
   rw[h0,this]
  have r3':aG C s a w' ρ' F':=by
   rw[hid,hidH] at r3
   exact r3
  exact k _ _ ⟨ρ',F',r3'.xC (by rw[←hn];simpa using b1) ⟨λ_=>r1',λhno=>(hno ((iH b2).2 hpc)).elim⟩ (jc (λu hu=>cB (Nat.zero_le _) hu) b3)⟩
 | false=>
  simp only[afS,if_false]
  have hpc:¬pcA a.tmps q:=λhc=>by rw[hwant.2 hc] at hw;cases hw
  refine hN _ _ ?_
  rw[hd]
  exact k _ _ ⟨ρ,F,h.xC (by rw[←hn];simpa using b1) ⟨λhc=>(hpc ((iH b2).1 hc)).elim,λ_=>rfl⟩ (jc (λu hu=>cB (Nat.zero_le _) hu) b3)⟩
end
def Pk(s:St)(o:Oper):Option (Nat×Nat×BY×Nat):=
 match o.op,o.dst with
 | .next it true,some d=>match ev s.L [] it with
  | some (.ptr id 0)=>match get s.H id with
   | some (.iter b pos)=>some (id,d,b,pos)
   | _=>none
  | _=>none
 | _,_=>none
def frz(id:Nat)(d:D):V->V
 | .own i=>bif Nat.beq i id then .d d else .own i
 | .bA i z k o=>bif Nat.beq i id then .dead else .bA i z k o
 | v=>v
def frozen(s:St)(id:Nat):St:=
 match get s.H id with
 | some (.vec e sz n f)=>{L:=sW (frz id (.sl sz n f)) s.L,H:=qp (frz id (.sl sz n f)) (nQ id s.H),m:=s.m}
 | some (.pos l)=>{L:=sW (frz id (.mp l)) s.L,H:=qp (frz id (.mp l)) (nQ id s.H),m:=s.m}
 | _=>s
section
variable{C:Ctx}{s:St}{a:Act}{w w':World}{ρ:Nat->Value}{F:Nat->Prop}{g:Cfg}{K:List Item}{Φ:Exit->St->Prop}
theorem Go.next(hn:g.n=C.n){all:Array Oper}{o:Oper}{rest:List Oper}{id d:Nat}{b:BY}{p:Nat}(hgd:o.guard=none)(ho:Pk s o=some (id,d,b,p))(hdn:Nat.blt d g.n=true)
  (h1:p<b.size->Go C (.ops all rest::K) {L:=put s.L d (.tup [vb true,vi (p:Int),.d (.int .i32 ((Utf8.decode b p).1:Int))]),H:=(id,.iter b (p+(Utf8.decode b p).2))::nQ id s.H,m:=s.m} Φ)
  (h2:¬p<b.size->Go C (.ops all rest::K) {s with L:=put s.L d (.tup [vb false])} Φ):Go C (.ops all (o::rest)::K) s Φ:=by
 rintro a w ⟨ρ,F,h⟩
 unfold Pk at ho
 split at ho
 ·rename_i it d' hop hd
  split at ho
  ·rename_i id' hit
   split at ho
   ·rename_i b' p' hgH
    simp only[afJ,afO] at ho
    obtain⟨rfl,rfl,rfl,rfl⟩:=ho
    obtain⟨bl,hb,hv⟩:=(show R0 ρ F w (.ptr id' 0) _ from (aC h (cO _) hit).1)
    obtain⟨bl',hb',hheap⟩:=h.ch id' _ (get_mem hgH)
    rw[hb] at hb'
    simp only[Value.pointer.injEq,afJ,Addr.mk.injEq,and_true] at hb'
    subst hb'
    have ady:d'<C.n:=by rw[←hn];simpa using hdn
    by_cases hp:p'<b'.size
    ·have hrun:(execOp a.eval o).run C.P w=.ok (.value (.tuple #[.bool true,.int .i64 (p':Int),.int .i32 ((Utf8.decode b' p').1:Int)])) {w with heap:=w.heap.setIfInBounds bl (.stringIter b' (p'+(Utf8.decode b' p').2))}:=by
      simp only[execOp,hop,hv]
      refine uN ?_
      simp only[Instr.next,getObj,setObj,Sem.run_bind,Sem.run,hheap,Result.andThen,hp,if_true]
      simp [Sem.run,hheap,goInt]
     refine zM hgd (.inl hrun) ?_
     rw[hd]
     have hlt:bl<w.heap.size:=(Array.getElem?_eq_some_iff.1 hheap).1
     have hm:Mod (blk (ρ id')) w {w with heap:=w.heap.setIfInBounds bl (.stringIter b' (p'+(Utf8.decode b' p').2))}:=by
      rw[hb]
      refine⟨Z,Z,Z,by simp,λk _ hk=>?_⟩
      have:bl≠k:=λe=>hk (by rw[←e];rfl)
      simp [Array.getElem?_setIfInBounds,this]
     have ht:=h.touch (get_mem hgH) hm (c':=.iter b' (p'+(Utf8.decode b' p').2)) ⟨bl,hb,by simp [hlt]⟩ Z
     exact h1 hp _ _ ⟨ρ,F,ht.put ady ⟨[.bool true,.int .i64 (p':Int),.int .i32 ((Utf8.decode b' p').1:Int)],Z,RD.bool _,RD.int _ _,RD.int _ _,tR⟩ Z⟩
    ·have hrun:(execOp a.eval o).run C.P w=.ok (.value (.tuple #[.bool false])) w:=by
      simp only[execOp,hop,hv]
      refine uN ?_
      simp [Instr.next,getObj,Sem.run,hheap,hp]
     refine zM hgd (.inl hrun) ?_
     rw[hd]
     exact h2 hp _ _ ⟨ρ,F,h.put ady ⟨[.bool false],Z,RD.bool _,tR⟩ Z⟩
   ·simp at ho
  ·simp at ho
 ·simp at ho
theorem TW{id m:Nat}{d:D}{u:V}(h:fresh m u=true):fresh m (frz id d u)=true:=by
 cases u with
 | own i=>simp only[frz];cases Nat.beq i id<;>first | exact h | rfl
 | bA i z k o=>simp only[frz];cases Nat.beq i id<;>first | exact h | rfl
 | _=>exact h
theorem oV{id m:Nat}{d:D}{v:V}(hv:v.all1 (fresh m)=true):(v.eZ (frz id d)).all1 (fresh m)=true:=by
 cases v with
 | fn g c=>simp only[V.eZ,V.all1,List.all_map,List.all_eq_true,Function.comp] at *;exact λx hx=>TW (hv x hx)
 | own i=>simp only[V.eZ,frz];cases Nat.beq i id<;>first | exact hv | rfl
 | bA i z k o=>simp only[V.eZ,frz];cases Nat.beq i id<;>first | exact hv | rfl
 | _=>exact hv
theorem tN{id m:Nat}{d:D}{v:V}(hv:v.all2 (fresh m)=true):(v.iL (frz id d)).all2 (fresh m)=true:=by
 cases v with
 | agg us=>simp only[V.iL,V.all2,List.all_map,List.all_eq_true,Function.comp] at *;exact λx hx=>oV (hv x hx)
 | fn g c=>exact oV (v:=.fn g c) hv
 | own i=>simp only[V.iL,V.eZ,frz];cases Nat.beq i id<;>first | exact hv | rfl
 | bA i z k o=>simp only[V.iL,V.eZ,frz];cases Nat.beq i id<;>first | exact hv | rfl
 | _=>exact hv
theorem tO{id m:Nat}{d:D}{v:V}(hv:v.aQ (fresh m)=true):(v.dx (frz id d)).aQ (fresh m)=true:=by
 cases v with
 | tup us=>simp only[V.dx,V.aQ,List.all_map,List.all_eq_true,Function.comp] at *;exact λx hx=>tN (hv x hx)
 | agg us=>exact tN (v:=.agg us) hv
 | fn g c=>exact tN (v:=.fn g c) hv
 | own i=>simp only[V.dx,V.iL,V.eZ,frz];cases Nat.beq i id<;>first | exact hv | rfl
 | bA i z k o=>simp only[V.dx,V.iL,V.eZ,frz];cases Nat.beq i id<;>first | exact hv | rfl
 | _=>exact hv
theorem Pm{id m:Nat}{d:D}{v:V}(hv:v.qX (fresh m)=true):(v.yh (frz id d)).qX (fresh m)=true:=by
 cases v with
 | g p u=>exact tO hv
 | tup us=>exact tO (v:=.tup us) hv
 | agg us=>exact tO (v:=.agg us) hv
 | fn g c=>exact tO (v:=.fn g c) hv
 | own i=>simp only[V.yh,V.dx,V.iL,V.eZ,frz];cases Nat.beq i id<;>first | exact hv | rfl
 | bA i z k o=>simp only[V.yh,V.dx,V.iL,V.eZ,frz];cases Nat.beq i id<;>first | exact hv | rfl
 | _=>exact hv
theorem aG.toData(h:aG C s a w ρ F){id:Nat}{c:Ch}{d:D}(hgH:get s.H id=some c)(hdat:RD (λk=>F k∨blk (ρ id)=some k) w d (ρ id)):Sat C {L:=sW (frz id d) s.L,H:=qp (frz id d) (nQ id s.H),m:=s.m} a w:=by
 let F':Nat->Prop:=λk=>F k∨blk (ρ id)=some k
 have hFF:∀k,F k->F' k:=λk hk=>.inl hk
 refine⟨ρ,F',h.change (frz id d) (λu v hu hr=>?_) (λt v hv=>?_) (λi c hc=>?_) hFF (λ_ _=>rfl) (λk hk=>?_) h.keep (Nat.le_refl _) (λk hk=>?_) h.bW.2⟩
 ·cases u with
  | own i=>
   simp only[frz]
   cases hi:Nat.beq i id with
   | true=>
    have:=afM hi
    subst this
    obtain⟨h1,_⟩:=hr
    subst h1
    exact hdat
   | false=>exact R0.world (u:=.own i) hFF (λ_ _=>rfl) hr
  | bA i z k o=>
   simp only[frz]
   cases hi:Nat.beq i id with
   | true=>exact hr.one'
   | false=>exact R0.world (u:=.bA i z k o) hFF (λ_ _=>rfl) hr
  | d x=>exact R0.world (u:=.d x) hFF (λ_ _=>rfl) hr
  | gG x=>exact R0.world (u:=.gG x) hFF (λ_ _=>rfl) hr
  | aF=>exact hr
  | ptr i o=>exact hr
  | dead=>exact hr
  | _=>exact hr.elim
 ·obtain⟨v0,h1,rfl⟩:=ED hv
  exact⟨⟨v0,h1,Z⟩,Pm (h.aR t v0 h1)⟩
 ·obtain⟨c0,h1,rfl⟩:=vC hc
  obtain⟨h1,hne⟩:=uY h1
  refine⟨⟨c0,h1,Z⟩,?_,Z,λb e2=>⟨Z,λhb=>?_⟩⟩
  ·have:=(h.aK i c0 h1).2
   cases c0 with
   | box us=>simp only[Ch.map,Ch.all,List.all_map,List.all_eq_true,Function.comp] at *;exact λy hy=>oV (this y hy)
   | held _ _ _ _ _ u _ _ _=>exact oV (v:=u) this
   | tbl es=>simp only[Ch.map,Ch.all,List.all_map,List.all_eq_true,Function.comp] at *;exact λy hy=>tN (this y hy)
   | bld T u=>exact oV (v:=u) this
   | _=>rfl
  ·rw[nX] at e2
   rcases hb with hb | hb
   ·exact h.out i c0 b h1 e2 hb
   ·exact h.sep i id c0 _ b h1 (get_mem hgH) hne e2 (aT hb)
 ·rcases hk with hk | hk
  ·exact h.lt k hk
  ·exact (h.ch id _ (get_mem hgH)).lt (aT hk)
 ·rcases hk with hk | hk
  ·exact h.sub k hk
  ·rcases h.mine id _ k (get_mem hgH) (aT hk) with h1 | h1
   ·exact .inr (.inl h1)
   ·exact .inr (.inr h1)
theorem Go.freeze(id:Nat)(k:Go C K (frozen s id) Φ):Go C K s Φ:=by
 rintro a w ⟨ρ,F,h⟩
 refine k a w ?_
 unfold frozen
 split
 ·rename_i e sz n f hgH
  obtain⟨xs,hown,hel⟩:=h.ch id _ (get_mem hgH)
  let F':Nat->Prop:=λk=>F k∨blk (ρ id)=some k
  have hFF:∀k,F k->F' k:=λk hk=>.inl hk
  have hdat:RD F' w (.sl sz n f) (ρ id):=by
   rcases hown.2 with⟨h1,h2⟩ | ⟨b,cap,cur,h1,_,h3,h4,h5,h6,h7⟩
   ·subst h2;rw[h1];exact .emp _ _ _ _
   ·rw[h1]
    refine .sl sz n f b 0 cap (λi j=>(xs[i*sz+j]?).getD undef) (.inr (by rw[h1];rfl)) h4 (λi j hi hj=>?_) (λi hi=>(hel i hi).1) (λi j d hi hd=>?_)
    ·have hl:=(hel i hi).1
     obtain⟨c,c1,c2⟩:=(hel i hi).2 j _ (afG (show j<(f i).length by omega))
     have:=hown.cells (g:=b) (by rw[h1];rfl) _ _ c1
     rw[Addr.add_lit] at this
     rw[this,c1];rfl
    ·obtain⟨c,c1,c2⟩:=(hel i hi).2 j d hd
     rw[c1]
     exact RD.mono hFF (λ_ _=>rfl) c2
  exact h.toData hgH hdat
 ·rename_i l hgH
  obtain⟨b,arr,clock,e1,e2,e3⟩:=h.ch id _ (get_mem hgH)
  refine h.toData hgH ?_
  rw[e1]
  exact .mp l b arr clock (.inr Z) e2 e3
 ·exact⟨ρ,F,h⟩
end
def ab1:Value->Bool
 | .agg _=>true
 | _=>false
theorem TI.mk'{P:Program}{t:TypeId}{ti:TI}{z:Value}(hu:OP P t ti.kind)(hi:(P.info? t).map (λi=>(i.zero,i.size,i.bytes))=some (some z,ti.size,ti.bytes))(hz:z.cells.size=ti.size)
  (hl:aH qo (match ti.kind with | .array n _=>(List.replicate n ti.zero).flatten | _=>ti.zero) z.cells.toList)  (h1:(!ti.kind.flat||z.oneCell')=true:=by rfl) (h2:(ti.kind.flat||ab1 z)=true:=by rfl):ti.OK P t:=by
 have hagg:=h2
 obtain⟨i,e1,h2⟩:=Option.map_eq_some_iff.1 hi
 simp only[afO] at h2
 refine⟨hu,⟨i,z,e1,h2.2.1,h2.2.2,h2.1,hz,hl⟩,λi' z' e3 e4 hf=>?_,λi' z' e3 e4 hf=>?_⟩
 ·rw[e1] at e3
  obtain rfl:=afK e3
  rw[h2.1] at e4
  obtain rfl:=afK e4
  rw[hf] at h1
  simpa using h1
 ·rw[e1] at e3
  obtain rfl:=afK e3
  rw[h2.1] at e4
  obtain rfl:=afK e4
  rw[hf] at hagg
  cases z<;>first | exact⟨_,rfl⟩ | cases hagg
theorem WZ{us vs:List V}{cs ds:List Value}(h1:aH qo us cs)(h2:aH qo vs ds):aH qo (us++vs) (cs++ds):=aH.app h1 h2
theorem EY{us:List V}{cs:List Value}(h:aH qo us cs)(n:Nat):aH qo (List.replicate n us).flatten (List.replicate n cs).flatten:=by
 induction n with
 | zero=>trivial
 | succ n ih=>simp only[List.replicate_succ,List.flatten_cons];exact WZ h ih
structure Cr(P:Pg)(g:Cfg)(C:Ctx):Prop where
 prog:C.pg=P
 n:g.n=C.n
 fix:g.fix=C.fix
 tys:bO P.P g.tys
structure Cx(P:Pg)(g:Cfg)(C:Ctx):Prop extends Cr P g C where
 rd:C.rd=none
def jE(g:Cfg)(s:St)(o:Oper):Option (FuncId×List V×Nat):=
 match o.guard,o.dst with
 | none,some d=>bif Nat.blt d g.n then match jC s.L [] o with
  | some (f,A)=>some (f,A,d)
  | none=>none
  else none
 | _,_=>none
def oG(g:Cfg)(s:St)(all:Array Oper)(o:Oper):Option (FuncId×List V×Nat×List (Nat×Bool)):=
 match o.guard,o.dst with
 | some (j,u),some d=>match zK s.L all j u with
  | some q=>bif Nat.blt d g.n&&!(q.any λe=>Nat.beq e.1 d) then match jC s.L q o with
   | some (f,A)=>some (f,A,d,q)
   | none=>none
   else none
  | none=>none
 | _,_=>none
namespace Cr
variable{P:Pg}{g:Cfg}{C:Ctx}(x:Cr P g C){s s':St}{K K':List Item}{Φ:Exit->St->Prop}{ob:List Prop}
include x
theorem rV:C.P=P.P:=congrArg Pg.P x.prog
theorem ty:bO C.P g.tys:=x.rV▸x.tys
theorem cond{b:Bool}{c1 c2:Code}(h:run g 1000 K s []=.cond ob b c1 c2 K' s')(ho:ak ob)(h1:b=true->Go C (.code c1::K') s' Φ)(h2:b=false->Go C (.code c2::K') s' Φ):Go C K s Φ:=
 st x.ty x.n x.fix h ⟨ho,h1,h2⟩
theorem back{J:St->Prop}(h:run g 1000 K s []=.back ob J s')(ho:ak ob)(k:J s'):Go C K s Φ:=
 st x.ty x.n x.fix h ⟨ho,k⟩
theorem exit{e:Exit}(h:run g 1000 K s []=.exit ob e s')(ho:ak ob)(k:Φ e s'):Go C K s Φ:=
 st x.ty x.n x.fix h ⟨ho,k⟩
theorem op{all:Array Oper}{o:Oper}{rest:List Oper}(h:run g 1000 K s []=.op ob all o rest K' s')(ho:ak ob)(k:Go C (.ops all (o::rest)::K') s' Φ):Go C K s Φ:=
 st x.ty x.n x.fix h ⟨ho,k⟩
theorem code{c:Code}(h:run g 1000 K s []=.code ob c K' s')(ho:ak ob)(k:Go C (.code c::K') s' Φ):Go C K s Φ:=
 st x.ty x.n x.fix h ⟨ho,k⟩
theorem loop{α:Type}(I:α->St)(μ:α->Nat)(x0:α){c:Code}(h:run g 1000 K s []=.loop ob c K' s')(ho:ak ob)(h0:LE g.fix s' (I x0))
  (hr:∀y,Go C (.code c::.back (λs'=>∃z,μ z<μ y∧LE g.fix s' (I z))::K') (I y) Φ):Go C K s Φ:=
 st x.ty x.n x.fix h ⟨ho,Go.loop x.fix I μ x0 h0 hr⟩
theorem cut{α:Type}(I:α->St){c:Code}(h1:Go C (.code c::.back (λs'=>∃y,LE g.fix s' (I y))::K) s Φ)(h2:∀y,Go C K (I y) Φ):Go C (.code c::K) s Φ:=
 Go.cut x.fix I h1 h2
theorem le(h:LE g.fix s s')(k:Go C K s' Φ):Go C K s Φ:=Go.le x.fix h k
theorem pure{all:Array Oper}{o:Oper}{rest:List Oper}{args A:List V}{H':List Ch}{r:V}{f d:Nat}(h:run g 1000 K s []=.op ob all o rest K' s')(ho:ak ob)
  (hco:jE g s' o=some (f,A,d)) (hp:Pure P f args r H') (hA:AEq A (args.map (V.dx (bZ [])))) (k:Go C (.ops all rest::K') (after s' d [] 0 r H' []) Φ):Go C K s Φ:=by
 refine st x.ty x.n x.fix h ⟨ho,?_⟩
 unfold jE at hco
 split at hco
 ·rename_i d' hg hd
  cases hb:Nat.blt d' g.n with
  | false=>rw[hb] at hco;simp at hco
  | true=>
   rw[hb] at hco
   simp only[cond_true] at hco
   split at hco
   ·rename_i f' A' hc
    simp only[afJ,afO] at hco
    obtain⟨rfl,rfl,rfl⟩:=hco
    exact Go.call x.n x.fix [] (x.prog▸hp) hg hd hb hc hA Z tR k
   ·simp at hco
 ·simp at hco
theorem call(is:List Nat){all:Array Oper}{o:Oper}{rest:List Oper}{fix:Nat}{args A:List V}{H H':List Ch}{r:V}{f d:Nat}(h:run g 1000 K s []=.op ob all o rest K' s')(ho:ak ob)
  (hco:jE g s' o=some (f,A,d)) (hp:aD P f fix args H r H') (hok:yB g s'.m is fix H.length=true) (hA:AEq A (args.map (V.dx (bZ is)))) (hH:HLE s'.H (rnH is is H)) (k:Go C (.ops all rest::K') (after s' d is fix r H' []) Φ):Go C K s Φ:=by
 refine st x.ty x.n x.fix h ⟨ho,?_⟩
 unfold jE at hco
 split at hco
 ·rename_i d' hg hd
  cases hb:Nat.blt d' g.n with
  | false=>rw[hb] at hco;simp at hco
  | true=>
   rw[hb] at hco
   simp only[cond_true] at hco
   split at hco
   ·rename_i f' A' hc
    simp only[afJ,afO] at hco
    obtain⟨rfl,rfl,rfl⟩:=hco
    exact Go.call x.n x.fix is (x.prog▸hp) hg hd hb hc hA hok hH k
   ·simp at hco
 ·simp at hco
theorem bK{all:Array Oper}{o:Oper}{rest:List Oper}{args A:List V}{r:V}{f d:Nat}{q:List (Nat×Bool)}(h:run g 1000 K s []=.op ob all o rest K' s')(ho:ak ob)
  (hco:oG g s' all o=some (f,A,d,q)) (hp:imp s'.L q (Pure P f args r [])) (hr:r.aQ (fresh 0)=true) (hA:AEq A (args.map (V.dx (bZ [])))) (k:Go C (.ops all rest::K') {s' with L:=put s'.L d (.g q r)} Φ):Go C K s Φ:=by
 refine st x.ty x.n x.fix h ⟨ho,?_⟩
 unfold oG at hco
 split at hco
 ·rename_i j u d' hg hd
  split at hco
  ·rename_i q' hq
   cases hb:(Nat.blt d' g.n&&!(q'.any λe=>Nat.beq e.1 d')) with
   | false=>rw[hb] at hco;simp at hco
   | true=>
    rw[hb] at hco
    simp only[cond_true] at hco
    split at hco
    ·rename_i f' A' hc
     simp only[afJ,afO] at hco
     obtain⟨rfl,rfl,rfl,rfl⟩:=hco
     exact Go.oU x.n x.fix hg hq hd (by simp only[afF] at hb ⊢;exact⟨hb,hr⟩) hc (x.prog▸hp) hA Z k
    ·simp at hco
  ·simp at hco
 ·simp at hco
theorem next{all:Array Oper}{o:Oper}{rest:List Oper}{id d:Nat}{b:BY}{p:Nat}(h:run g 1000 K s []=.op ob all o rest K' s')(ho:ak ob)(hgd:o.guard=none)(hno:Pk s' o=some (id,d,b,p))(hdn:Nat.blt d g.n=true)
  (h1:p<b.size->Go C (.ops all rest::K') {L:=put s'.L d (.tup [vb true,vi (p:Int),.d (.int .i32 ((Utf8.decode b p).1:Int))]),H:=(id,.iter b (p+(Utf8.decode b p).2))::nQ id s'.H,m:=s'.m} Φ)
  (h2:¬p<b.size->Go C (.ops all rest::K') {s' with L:=put s'.L d (.tup [vb false])} Φ):Go C K s Φ:=
 st x.ty x.n x.fix h ⟨ho,Go.next x.n hgd hno hdn h1 h2⟩
end Cr
def ixL:List V->List (Nat×V)
 | []=>[]
 | [a]=>[(0,a)]
 | [a,b]=>[(0,a),(1,b)]
 | [a,b,c]=>[(0,a),(1,b),(2,c)]
 | [a,b,c,d]=>[(0,a),(1,b),(2,c),(3,d)]
 | [a,b,c,d,e]=>[(0,a),(1,b),(2,c),(3,d),(4,e)]
 | [a,b,c,d,e,f]=>[(0,a),(1,b),(2,c),(3,d),(4,e),(5,f)]
 | [a,b,c,d,e,f,g]=>[(0,a),(1,b),(2,c),(3,d),(4,e),(5,f),(6,g)]
 | [a,b,c,d,e,f,g,h]=>[(0,a),(1,b),(2,c),(3,d),(4,e),(5,f),(6,g),(7,h)]
 | [a,b,c,d,e,f,g,h,i]=>[(0,a),(1,b),(2,c),(3,d),(4,e),(5,f),(6,g),(7,h),(8,i)]
 | [a,b,c,d,e,f,g,h,i,j]=>[(0,a),(1,b),(2,c),(3,d),(4,e),(5,f),(6,g),(7,h),(8,i),(9,j)]
 | [a,b,c,d,e,f,g,h,i,j,k]=>[(0,a),(1,b),(2,c),(3,d),(4,e),(5,f),(6,g),(7,h),(8,i),(9,j),(10,k)]
 | [a,b,c,d,e,f,g,h,i,j,k,l]=>[(0,a),(1,b),(2,c),(3,d),(4,e),(5,f),(6,g),(7,h),(8,i),(9,j),(10,k),(11,l)]
 | l=>ixV 0 l
theorem EZ(l:List V):ixL l=ixV 0 l:=by
 unfold ixL
 split<;>rfl
def ixH:List Ch->List (Nat×Ch)
 | []=>[]
 | [a]=>[(0,a)]
 | [a,b]=>[(0,a),(1,b)]
 | [a,b,c]=>[(0,a),(1,b),(2,c)]
 | [a,b,c,d]=>[(0,a),(1,b),(2,c),(3,d)]
 | [a,b,c,d,e]=>[(0,a),(1,b),(2,c),(3,d),(4,e)]
 | [a,b,c,d,e,f]=>[(0,a),(1,b),(2,c),(3,d),(4,e),(5,f)]
 | [a,b,c,d,e,f,g]=>[(0,a),(1,b),(2,c),(3,d),(4,e),(5,f),(6,g)]
 | [a,b,c,d,e,f,g,h]=>[(0,a),(1,b),(2,c),(3,d),(4,e),(5,f),(6,g),(7,h)]
 | [a,b,c,d,e,f,g,h,i]=>[(0,a),(1,b),(2,c),(3,d),(4,e),(5,f),(6,g),(7,h),(8,i)]
 | [a,b,c,d,e,f,g,h,i,j]=>[(0,a),(1,b),(2,c),(3,d),(4,e),(5,f),(6,g),(7,h),(8,i),(9,j)]
 | [a,b,c,d,e,f,g,h,i,j,k]=>[(0,a),(1,b),(2,c),(3,d),(4,e),(5,f),(6,g),(7,h),(8,i),(9,j),(10,k)]
 | [a,b,c,d,e,f,g,h,i,j,k,l]=>[(0,a),(1,b),(2,c),(3,d),(4,e),(5,f),(6,g),(7,h),(8,i),(9,j),(10,k),(11,l)]
 | l=>ixC 0 l
theorem E5(l:List Ch):ixH l=ixC 0 l:=by
 unfold ixH
 split<;>rfl
def Pn:List Ch->Nat
 | []=>0
 | [_]=>1
 | [_,_]=>2
 | [_,_,_]=>3
 | [_,_,_,_]=>4
 | [_,_,_,_,_]=>5
 | [_,_,_,_,_,_]=>6
 | [_,_,_,_,_,_,_]=>7
 | [_,_,_,_,_,_,_,_]=>8
 | l=>l.length
theorem zQ(l:List Ch):Pn l=l.length:=by
 unfold Pn
 split<;>rfl
theorem aD.mk {P:Pg} (g:Cfg) (xI:bO P.P g.tys) (ids:List Nat) {f:FuncId} {fn:Func} {c:Code} {args:List V} {H:List Ch} {r:V} {H':List Ch} {rs:List ResultVar} (hf:P.P.funcs[f]?=some fn) (hb:fn.body=some c) (hname:(fn.name == "runtime.NumGoroutine")=false)
  (hn:g.n=fn.ntmps) (hrs:fn.results=rs.toArray) (hok:(Nat.ble args.length g.n&&aM args H H.length&&aM [r] H' H'.length&&Nat.ble g.fix H.length&&Nat.ble H.length H'.length)=true)
  (hgo:∀(C:Ctx),Cx P g C->Go C [.code c] ⟨ixL args,ixH H,Pn H⟩ (Ret g rs ids r H')):aD P f g.fix args H r H':=by
 simp only[afF] at hok
 obtain⟨⟨⟨⟨h1,h2⟩,h3⟩,h4⟩,h5⟩:=hok
 exact aD.intro hf hb hname xI hn hrs h1 h2 h3 h4 h5 ids λC e1 e2 e3 _ e5 _=>by rw[←EZ,←E5,←zQ];exact hgo C ⟨⟨e1,e2,e3,xI⟩,e5⟩
end Go.Sx
namespace Go.Sx
section
variable{C:Ctx}{s:St}{a:Act}{w:World}{ρ:Nat->Value}{F:Nat->Prop}{g:Cfg}{K:List Item}{Φ:Exit->St->Prop}
theorem aG.leH{H':List (Nat×Ch)}(h:aG C s a w ρ F)(hH:HLE s.H H')(hok:okH s.m H'=true):aG C {s with H:=H'} a w ρ F:=by
 exact
  {
   size:=h.size,defers:=h.defers,slot:=h.slot,aR:=h.aR,lt:=h.lt,sub:=h.sub,base:=h.base,bW:=h.bW,keep:=h.keep,env:=h.env
   ch:=λi c hc=>by
    obtain⟨u,hu,he⟩:=iI hH hc
    exact iW he (h.ch i u hu)
   sep:=λi j ci cj b hi hj hij e=>by
    obtain⟨u,hu,he⟩:=iI hH hi
    obtain⟨u2,hu2,he2⟩:=iI hH hj
    exact λe2=>h.sep i j u u2 b hu hu2 hij (jd he e) (jd he2 e2)
   out:=λi c b hi e=>by
    obtain⟨u,hu,he⟩:=iI hH hi
    exact h.out i u b hu (jd he e)
   aK:=λi c hi=>Ee hok hi
   mine:=λi c b hi e=>by
    obtain⟨u,hu,he⟩:=iI hH hi
    exact h.mine i u b hu (jd he e)}
theorem ZM(L:List (Nat×V)):sW (bn []) L=L:=by
 have hk:(bn ([]:List Nat))=λu=>u:=by funext u;cases u<;>rfl
 rw[hk]
 induction L with
 | nil=>rfl
 | cons e L ih=>simp [sW,tq,ih]
theorem ZN(L:List (Nat×Ch)):qp (bn []) L=L:=by
 have hk:(bn ([]:List Nat))=λu=>u:=by funext u;cases u<;>rfl
 rw[hk]
 induction L with
 | nil=>rfl
 | cons e L ih=>simp [qp,kF,ih]
theorem Go.ab2(hn:g.n=C.n)(xH:g.fix=C.fix){all:Array Oper}{o:Oper}{rest:List Oper}(is:List Nat){fix:Nat}{args:List V}{H:List Ch}{r:V}{f:FuncId}{A:List V}{d j:Nat}{u:Bool}{q:List (Nat×Bool)}
  (hgd:o.guard=some (j,u)) (hgp:zK s.L all j u=some q) (hd:o.dst=some d) (hdn:(Nat.blt d g.n&&!(q.any λe=>Nat.beq e.1 d)&&r.aQ (fresh 0))=true) (hco:jC s.L q o=some (f,A))
  (hp:imp s.L q (aD C.pg f fix args H r H)) (hdr:iU fix is=[]) (hA:AEq A (args.map (V.dx (bZ is)))) (hok:yB g s.m is fix H.length=true) (hH:HLE s.H (rnH is is H)) (hH':HLE (nR (rnH is is H) (aI is s.H)) s.H) (hoH:okH s.m s.H=true)
  (k:Go C (.ops all rest::K) {s with L:=put s.L d (.g q r)} Φ):Go C (.ops all (o::rest)::K) s Φ:=by
 rintro a w ⟨ρ,F,h⟩
 simp only[afF,afR] at hdn
 obtain⟨⟨b1,b2⟩,b3⟩:=hdn
 have hgs:=jB h hgp
 have hwant:Region.wanted o (yielded all a.tmps)=true↔pcA a.tmps q:=by rw[←hgs];simp [Region.wanted,hgd]
 show fU C.rd C.P all (den C (gB C Φ) K) (o::rest) a w
 refine nC λN hN=>?_
 cases hw:Region.wanted o (yielded all a.tmps) with
 | true=>
  have hpc:=hwant.1 hw
  have hp:=lu h hpc hp
  obtain⟨vals,h1,h2⟩:=ET h xH hpc hco hp hA hok hH
  simp only[if_true]
  refine qW h1 tR ?_
  rw[Oper.upon_enter]
  refine h2.mono ?_
  rintro e w' ⟨v,ρ',F',rfl,r1,r2,r3⟩
  refine hN _ _ ?_
  rw[hd]
  have hl:is.length=H.length:=by
   simp only[yB,afF] at hok
   exact afM hok.2
  have Pf:nR is (fV s.m (H.length-is.length))=is:=by
   rw[hl,Nat.sub_self]
   show nR is []=is
   rw[tK,List.append_nil]
  have r1':R3 ρ' F' w' r v:=by
   have hid:(r.dx (bZ (nR is (fV s.m (H.length-is.length)))))=r.dx (bZ []):=by
    have e0:∀(js:List Nat) (u:V),fresh 0 u=true->bZ js u=bZ [] u:=λjs u hu=>by cases u<;>first | rfl | simp [fresh] at hu
    have e1:∀(js:List Nat) (u:V),u.all1 (fresh 0)=true->u.eZ (bZ js)=u.eZ (bZ []):=λjs u hu=>by
     cases u with
     | fn f c=>simp only[V.eZ,V.fn.injEq,true_and];exact List.map_congr_left λx hx=>e0 js x (by simpa using (List.all_eq_true.1 hu) x hx)
     | _=>(first | exact e0 js (.d _) hu | exact e0 js .aF hu | exact e0 js (.ptr _ _) hu | exact e0 js (.own _) hu | exact e0 js (.bA _ _ _ _) hu | exact e0 js (.gG _) hu | exact e0 js (.fn _ _) hu | exact e0 js (.agg _) hu | exact e0 js (.tup _) hu | exact e0 js (.g _ _) hu | exact e0 js .dead hu)
    have e2:∀(js:List Nat) (u:V),u.all2 (fresh 0)=true->u.iL (bZ js)=u.iL (bZ []):=λjs u hu=>by
     cases u with
     | agg c=>simp only[V.iL,V.agg.injEq];exact List.map_congr_left λx hx=>e1 js x (by simpa using (List.all_eq_true.1 hu) x hx)
     | _=>(first | exact e1 js (.d _) hu | exact e1 js .aF hu | exact e1 js (.ptr _ _) hu | exact e1 js (.own _) hu | exact e1 js (.bA _ _ _ _) hu | exact e1 js (.gG _) hu | exact e1 js (.fn _ _) hu | exact e1 js (.agg _) hu | exact e1 js (.tup _) hu | exact e1 js (.g _ _) hu | exact e1 js .dead hu)
    cases r with
    | tup c=>simp only[V.dx,V.tup.injEq];exact List.map_congr_left λx hx=>e2 _ x (by simpa using (List.all_eq_true.1 b3) x hx)
    | _=>(first | rfl | exact e2 _ (.d _) b3 | exact e2 _ .aF b3 | exact e2 _ (.ptr _ _) b3 | exact e2 _ (.own _) b3 | exact e2 _ (.bA _ _ _ _) b3 | exact e2 _ (.gG _) b3 | exact e2 _ (.fn _ _) b3 | exact e2 _ (.agg _) b3 | exact e2 _ (.tup _) b3 | exact e2 _ (.g _ _) b3 | exact e2 _ .dead b3)
   rw[hid] at r1
   exact R3.dO (ρ:=ρ') (is:=[]) (k:=0) (λi hi=>by omega) b3 r1
  have r3':aG C s a w' ρ' F':=by
   rw[hdr,ZM,ZN,Pf,hl,Nat.sub_self] at r3
   exact r3.leH hH' hoH
  exact k _ _ ⟨ρ',F',r3'.xC (by rw[←hn];simpa using b1) ⟨λ_=>r1',λhno=>(hno ((iH b2).2 hpc)).elim⟩ (jc (λu hu=>cB (Nat.zero_le _) hu) b3)⟩
 | false=>
  simp only[afS,if_false]
  have hpc:¬pcA a.tmps q:=λhc=>by rw[hwant.2 hc] at hw;cases hw
  refine hN _ _ ?_
  rw[hd]
  exact k _ _ ⟨ρ,F,h.xC (by rw[←hn];simpa using b1) ⟨λhc=>(hpc ((iH b2).1 hc)).elim,λ_=>rfl⟩ (jc (λu hu=>cB (Nat.zero_le _) hu) b3)⟩
end
theorem Cr.oU{P:Pg}{g:Cfg}{C:Ctx}(x:Cr P g C){s s':St}{K K':List Item}{Φ:Exit->St->Prop}{ob:List Prop}(is:List Nat){all:Array Oper}{o:Oper}{rest:List Oper}{fix:Nat}{args A:List V}{H:List Ch}{r:V}{f d:Nat}{q:List (Nat×Bool)}(h:run g 1000 K s []=.op ob all o rest K' s')(ho:ak ob)
  (hco:oG g s' all o=some (f,A,d,q)) (hp:imp s'.L q (aD P f fix args H r H)) (hr:(r.aQ (fresh 0)&&yB g s'.m is fix H.length&&okH s'.m s'.H&&List.isEmpty (iU fix is))=true) (hA:AEq A (args.map (V.dx (bZ is)))) (hH:HLE s'.H (rnH is is H)) (hH':HLE (nR (rnH is is H) (aI is s'.H)) s'.H)
  (k:Go C (.ops all rest::K') {s' with L:=put s'.L d (.g q r)} Φ):Go C K s Φ:=by
 refine st x.ty x.n x.fix h ⟨ho,?_⟩
 unfold oG at hco
 split at hco
 ·rename_i j u d' hg hd
  split at hco
  ·rename_i q' hq
   cases hb:(Nat.blt d' g.n&&!(q'.any λe=>Nat.beq e.1 d')) with
   | false=>rw[hb] at hco;simp at hco
   | true=>
    rw[hb] at hco
    simp only[cond_true] at hco
    split at hco
    ·rename_i f' A' hc
     simp only[afJ,afO] at hco
     obtain⟨rfl,rfl,rfl,rfl⟩:=hco
     simp only[afF,List.isEmpty_iff] at hr
     exact Go.ab2 x.n x.fix is hg hq hd (by simp only[afF] at hb ⊢;exact⟨hb,hr.1.1.1⟩) hc (x.prog▸hp) hr.2 hA hr.1.1.2 hH hH' hr.1.2 k
    ·simp at hco
  ·simp at hco
 ·simp at hco
theorem Post.below{w w':World}{F:Nat->Prop}{ρ:Nat->Value}{r:V}{H':List Ch}{e:Ending}(h:Post w F ρ 0 [] r H' e w'):Go.RowKit.Below w.heap.size w w':=by
 obtain⟨v,ρ',F',_,hk,_⟩:=h
 exact⟨hk.os,hk.tape,hk.output,hk.size,λk hlt=>hk.block k hlt (λ⟨i,hi,_⟩=>absurd hi (afN _))⟩
theorem aD.law{P:Pg}{f:FuncId}{args:List V}{H':List Ch}(h:Pure P f args (vb true) H'){w:World}{vals:List Value}{vs:Array Value}(hvs:vs=vals.toArray)
  (Po:jv P.env (λk=>k<w.heap.size) w) (hargs:aH (R3 (λ_=>.bool true) (λk=>k<w.heap.size) w) args vals):Calls P.P f vs w λe w'=>e=.returned (.bool true)∧Go.RowKit.Below w.heap.size w w':=by
 subst hvs
 obtain⟨_,_,_,_,_,hc⟩:=h
 refine (hc w (λk=>k<w.heap.size) (λ_=>.bool true) vals (λk hk=>hk) Po ⟨λi c hc=>by simp at hc,λi j b hi=>absurd hi (afN _),λi b hi=>absurd hi (afN _)⟩ hargs).mono ?_
 intro e w' hp
 refine⟨?_,hp.below⟩
 obtain⟨v,ρ',F',rfl,_,_,_,_,_,hr,_⟩:=hp
 have:v=.bool true:=by
  cases (show RD F' w' (.bool true) v from hr);rfl
 rw[this]
inductive QEv where
 | done (ob:List Prop) (s:St)
 | op (ob:List Prop) (o:Oper) (rest:List Oper) (s:St)
 | stuck (why:String)
def qx(g:Cfg)(all:Array Oper):Nat->List Oper->St->List Prop->QEv
 | 0,_,_,_=>.stuck "fuel"
 | n+1,l,⟨L,H,m⟩,ob=>match l with
  | []=>fS ⟨L,H,m⟩ λS=>fO ob λob=>.done ob S
  | o::rest=>match o.guard with
   | none=>match rdE g g.ck ⟨L,H,m⟩ [] o.op with
    | some (v,p)=>match o.dst with
     | some d=>bif Nat.blt d g.n then f3 v λv=>fL (put L d v) λL'=>fA ob p λob=>qx g all n rest ⟨L',H,m⟩ ob else .stuck "slot"
     | none=>.stuck "no slot"
    | none=>fS ⟨L,H,m⟩ λS=>fO ob λob=>.op ob o rest S
   | some (j,u)=>match zK L all j u with
    | none=>.stuck "guard"
    | some q=>match rdE g g.ck ⟨L,H,m⟩ q o.op with
     | some (v,p)=>match o.dst with
      | some d=>bif Nat.blt d g.n&&!(q.any λe=>Nat.beq e.1 d)&&v.aQ (fresh m) then fIs L q p λp=>f3 v λv=>fP q λq=>fL (put L d (.g q v)) λL'=>fA ob p λob=>qx g all n rest ⟨L',H,m⟩ ob else .stuck "slot"
      | none=>.stuck "no slot"
     | none=>fS ⟨L,H,m⟩ λS=>fO ob λob=>.op ob o rest S
def QGo(C:Ctx)(all:Array Oper)(l:List Oper)(s:St)(K:List Item)(Φ:Exit->St->Prop):Prop:=
 ∀a w ρ F,aG C s a w ρ F->wpQuiet C.P all (Mod none w) (λa'=>∀w',Mod none w w'->den C (gB C Φ) K .normal a' w') l a
def QEv.holds(C:Ctx)(all:Array Oper)(K:List Item)(Φ:Exit->St->Prop):QEv->Prop
 | .done ob s=>ak ob∧Go C K s Φ
 | .op ob o rest s=>ak ob∧QGo C all (o::rest) s K Φ
 | .stuck _=>False
section
variable{C:Ctx}{s:St}{a:Act}{w w':World}{ρ:Nat->Value}{F:Nat->Prop}{g:Cfg}{K:List Item}{Φ:Exit->St->Prop}
theorem aG.mod(h:aG C s a w ρ F)(hm:Mod none w w'):aG C s a w' ρ F:=by
 have hwF:∀k,F k->w'.heap[k]?=w.heap[k]?:=λk hk=>hm.block k (h.lt k hk) (by simp)
 refine h.change (λu=>u) (λu v hu hr=>hr.keep (x:=s.m) (λ_ _=>rfl) (λ_=>id) hwF (jw (Nat.le_refl _) hu)) (λt v hv=>⟨⟨v,hv,(tq v).symm⟩,h.aR t v hv⟩) (λi c hc=>?_) (λ_=>id) hwF (λk hk=>Nat.lt_of_lt_of_le (h.lt k hk) hm.size) (h.keeps hm (by simp)) (Nat.le_refl _) h.sub h.bW.2
 exact⟨⟨c,hc,(kF c).symm⟩,(h.aK i c hc).2,Z,λb e=>⟨hm.block b ((h.ch i c hc).lt e) (by simp),h.out i c b hc e⟩⟩
theorem Mod.trans{w w' w'':World}(h:Mod none w w')(h':Mod none w' w''):Mod none w w'':=
 ⟨h'.os.trans h.os,h'.tape.trans h.tape,h'.output.trans h.output,Nat.le_trans h.size h'.size,λk hk _=>(h'.block k (Nat.lt_of_lt_of_le hk h.size) (by simp)).trans (h.block k hk (by simp))⟩
theorem QGo.J3{all:Array Oper}{o:Oper}{rest:List Oper}{Q:Act->Prop}(hg:o.guard=none){x:Value}
  (hr:∀w',Mod none w w'->Oper.quietAt C.P o a (Mod none w) w' x) (h:wpQuiet C.P all (Mod none w) Q rest (a.put o.dst x)):wpQuiet C.P all (Mod none w) Q (o::rest) a:=by
 refine wpQuiet_step λN hN=>?_
 rw[if_pos (by simp [Region.wanted,hg])]
 exact⟨x,hr,hN _ h⟩
theorem QGo.tQ{all:Array Oper}{o:Oper}{rest:List Oper}{Q:Act->Prop}{x:Value}
  (hyes:Region.wanted o (yielded all a.tmps)=true->∀w',Mod none w w'->Oper.quietAt C.P o a (Mod none w) w' x) (hno:Region.wanted o (yielded all a.tmps)=false->x=undef)
  (h:wpQuiet C.P all (Mod none w) Q rest (a.put o.dst x)):wpQuiet C.P all (Mod none w) Q (o::rest) a:=by
 refine wpQuiet_step λN hN=>?_
 cases hw:Region.wanted o (yielded all a.tmps) with
 | true=>rw[if_pos rfl];exact⟨x,hyes hw,hN _ h⟩
 | false=>rw[if_neg (by simp)];exact hN _ (hno hw▸h)
theorem tT(hg:bO C.P g.tys)(hn:g.n=C.n){all:Array Oper}:∀(n:Nat) (l:List Oper) (s:St) (ob:List Prop),(qx g all n l s ob).holds C all K Φ->ak ob∧QGo C all l s K Φ:=by
 intro n
 induction n with
 | zero=>intro l s ob h;exact h.elim
 | succ n ih=>
  rintro l ⟨L,H,m⟩ ob h
  cases l with
  | nil=>
   unfold qx at h
   simp only[nH,mH] at h
   exact⟨h.1,λa w ρ F hs=>wpQuiet_nil λw' hm=>h.2 a w' ⟨ρ,F,hs.mod hm⟩⟩
  | cons o rest=>
  unfold qx at h
  simp only at h
  split at h
  ·rename_i hgd
   split at h
   ·rename_i v p hrd
    split at h
    ·rename_i d hd
     cases hb:Nat.blt d g.n with
     | false=>rw[hb] at h;exact h.elim
     | true=>
      rw[hb] at h
      simp only[cond_true,EM,CU,CW] at h
      obtain⟨h1,h2⟩:=ih _ _ _ h
      obtain⟨h3,h4⟩:=oQ h1
      refine⟨h3,λa w ρ F hw=>?_⟩
      obtain⟨x,r1,r2,r3⟩:=zH hg hw (cO _) hrd h4
      refine QGo.J3 hgd (x:=x) (λw' hm=>?_) ?_
      ·unfold Oper.quietAt
       rw[r3 w' λk hk=>hm.block k hk (by simp)]
       exact⟨Z,Z⟩
      ·rw[hd]
       exact h2 _ _ _ _ (hw.put (by rw[←hn];simpa using hb) r1 r2)
    ·exact h.elim
   ·rw[nH,mH] at h;exact h
  ·rename_i j u hgd
   split at h
   ·exact h.elim
   ·rename_i q hq
    split at h
    ·rename_i v p hrd
     split at h
     ·rename_i d hd
      cases hb:(Nat.blt d g.n&&!(q.any λe=>Nat.beq e.1 d)&&v.aQ (fresh m)) with
      | false=>rw[hb] at h;exact h.elim
      | true=>
       rw[hb] at h
       simp only[cond_true,JU,EM,CU,LG,CW] at h
       simp only[afF,afR] at hb
       obtain⟨⟨b1,b2⟩,b3⟩:=hb
       obtain⟨h1,h2⟩:=ih _ _ _ h
       obtain⟨h3,h4⟩:=oQ h1
       refine⟨h3,λa w ρ F hw=>?_⟩
       have hgp:=jB hw hq
       have hwant:Region.wanted o (yielded all a.tmps)=true↔pcA a.tmps q:=by
        rw[←hgp];simp [Region.wanted,hgd]
       by_cases hpc:pcA a.tmps q
       ·obtain⟨x,r1,r2,r3⟩:=zH hg hw hpc hrd (tF hw hpc h4)
        refine QGo.tQ (x:=x) (λ_ w' hm=>?_) (λhno=>by rw[hwant.2 hpc] at hno;simp at hno) ?_
        ·unfold Oper.quietAt
         rw[r3 w' λk hk=>hm.block k hk (by simp)]
         exact⟨Z,Z⟩
        ·rw[hd]
         exact h2 _ _ _ _ (hw.xC (by rw[←hn];simpa using b1) ⟨λ_=>r1,λhno=>(hno ((iH b2).2 hpc)).elim⟩ b3)
       ·refine QGo.tQ (x:=undef) (λhyes=>(hpc (hwant.1 hyes)).elim) (λ_=>rfl) ?_
        rw[hd]
        exact h2 _ _ _ _ (hw.xC (by rw[←hn];simpa using b1) ⟨λhp=>(hpc ((iH b2).1 hp)).elim,λ_=>rfl⟩ b3)
     ·exact h.elim
    ·rw[nH,mH] at h;exact h
def J4:V->Option Value
 | .d (.int k n)=>some (.int k n)
 | .d (.bool b)=>some (.bool b)
 | .d (.str s)=>some (.string s)
 | _=>none
def C9:List V->Option (List Value)
 | []=>some []
 | v::r=>match J4 v,C9 r with
  | some x,some xs=>some (x::xs)
  | _,_=>none
def valOf:V->Option Value
 | .tup us=>match C9 us with
  | some xs=>some (.tuple xs.toArray)
  | none=>none
 | v=>J4 v
theorem fZ{v:V}{x y:Value}(h:J4 v=some x)(hr:R3 ρ F w v y):y=x:=by
 cases v with
 | d e=>
  cases e<;>simp only[J4,afJ,reduceCtorEq] at h<;>subst h<;>cases (show RD F w _ y from hr)<;>rfl
 | _=>simp [J4] at h
theorem LK{us:List V}:∀{xs ys:List Value},C9 us=some xs->aH (R2 ρ F w) us ys->ys=xs:=by
 induction us with
 | nil=>intro xs ys h hr;cases ys with
  | nil=>simpa [C9] using h
  | cons=>exact hr.elim
 | cons u us ih=>
  intro xs ys h hr
  cases ys with
  | nil=>exact hr.elim
  | cons y ys=>
   simp only[C9] at h
   split at h
   ·rename_i x0 xs0 e1 e2
    simp only[afJ] at h
    subst h
    rw[fZ e1 (kE hr.1),ih e2 hr.2]
   ·simp at h
theorem qH{v:V}{x y:Value}(h:valOf v=some x)(hr:R3 ρ F w v y):y=x:=by
 cases v with
 | tup us=>
  simp only[valOf] at h
  split at h
  ·rename_i xs e
   simp only[afJ] at h
   obtain⟨ys,rfl,hy⟩:=hr
   rw[←h,LK e hy]
  ·simp at h
 | _=>(first | exact fZ (v:=.aF) h hr | exact fZ (v:=(.ptr _ _)) h hr | exact fZ (v:=(.own _)) h hr | exact fZ (v:=(.bA _ _ _ _)) h hr | exact fZ (v:=(.gG _)) h hr | exact fZ (v:=(.fn _ _)) h hr | exact fZ (v:=(.agg _)) h hr | exact fZ (v:=(.g _ _)) h hr | exact fZ (v:=.dead) h hr | exact fZ (v:=(.d _)) h hr)
theorem W9(h:aG C s a w ρ F)(xH:g.fix=C.fix){q:List (Nat×Bool)}(hq:pcA a.tmps q){o:Oper}{f:FuncId}{A:List V}(hco:jC s.L q o=some (f,A))
  {is:List Nat} {fix:Nat} {args:List V} {H H':List Ch} {r:V} (hp:aD C.pg f fix args H r H') (hA:AEq A (args.map (V.dx (bZ is)))) (hok:yB g s.m is fix H.length=true) (hH:HLE s.H (rnH is is H)) :
  ∃vals,(execOp a.eval o).run C.P w=.ok (.enter f vals) w∧Calls C.P f vals w (Post w F (λi=>ρ (nth is i)) fix H r H'):=by
 obtain⟨hcall,hfr,xG,hfx,hHH,EU⟩:=hp
 unfold jC at hco
 split at hco
 ·rename_i c hop
  split at hco
  ·rename_i fo hc
   split at hco
   ·rename_i f' caps A' he hes
    simp only[afJ,afO] at hco
    obtain⟨rfl,rfl⟩:=hco
    obtain⟨cs,hcs,vH⟩:=(show R1 ρ F w (.fn f' caps) _ from (aC h hq he).1)
    have hargs:=(jh h hq hes).1
    simp only[yB,afF,List.all_eq_true] at hok
    obtain⟨⟨⟨o1,o2⟩,o3⟩,o4⟩:=hok
    have J2:=afM o4
    simp only[aM,afF,List.all_eq_true] at hfr
    have xU:c.args.map a.eval++cs.toArray=(c.args.toList.map a.eval++cs).toArray:=by
     cases c.args;simp
    have hall:aH (R3 ρ F w) (A'++caps) (c.args.toList.map a.eval++cs):=hargs.app (vH.mono λu v hr=>kE (jm (rO hr)))
    have EW:=lC hA hall
    have EX:aH (R3 (λi=>ρ (nth is i)) F w) args (c.args.toList.map a.eval++cs):=EW.unmap λu v hu hr=>R3.dO (k:=H.length) (λ_ _=>rfl) (hfr.1 u hu) hr
    have hold:Holds (λi=>ρ (nth is i)) F w H:=by
     have hx:∀i,i<H.length->∃c,H[i]?=some c∧∃c0,(nth is i,c0)∈s.H∧mE c0 (c.map (bZ is)):=λi hi=>by
      obtain⟨c0,k1,k2⟩:=nZ J2 hH (afG hi)
      exact⟨_,afG hi,c0,k1,k2⟩
     refine⟨λi c hc=>?_,λi j b hi hj hij e=>?_,λi b hi e=>?_⟩
     ·have hi:=(List.getElem?_eq_some_iff.1 hc).1
      obtain⟨c',hc',c0,k1,k2⟩:=hx i hi
      rw[hc] at hc'
      obtain rfl:=afK hc'
      exact iV.dO (k:=H.length) (ρ:=λi=>ρ (nth is i)) (λ_ _=>rfl) hi (hfr.2 c (List.mem_of_getElem? hc)).1 (iW k2 (h.ch _ _ k1))
     ·obtain⟨_,_,c0,k1,_⟩:=hx i hi
      obtain⟨_,_,c1,k3,_⟩:=hx j hj
      exact λe2=>h.sep _ _ c0 c1 b k1 k3 (gK o1 i j (by omega) (by omega) hij) (aT e) (aT e2)
     ·obtain⟨_,_,c0,k1,_⟩:=hx i hi
      exact h.out _ c0 b k1 (aT e)
    refine⟨_,zP hop hc hcs hcall w,?_⟩
    rw[xU]
    exact EU w F _ _ h.lt h.env hold EX
   ·simp at hco
  ·simp at hco
 ·simp at hco
theorem Rq{v:V}{x:Value}(h:J4 v=some x):R0 ρ F w v x:=by
 cases v with
 | d e=>
  cases e<;>simp only[J4,afJ,reduceCtorEq] at h<;>subst h
  ·exact RD.int _ _
  ·exact RD.bool _
  ·exact RD.str _
 | _=>simp [J4] at h
theorem Xa{us:List V}:∀{xs:List Value},C9 us=some xs->aH (R2 ρ F w) us xs:=by
 induction us with
 | nil=>intro xs h;simp [C9] at h;subst h;trivial
 | cons u us ih=>
  intro xs h
  simp only[C9] at h
  split at h
  ·rename_i x0 xs0 e1 e2
   simp only[afJ] at h
   subst h
   exact⟨jm (rO (Rq e1)),ih e2⟩
  ·simp at h
theorem ZO{v:V}(h:∀us,v≠.tup us):valOf v=J4 v:=by cases v<;>first | rfl | exact (h _ rfl).elim
theorem vI{v:V}{x:Value}(h:valOf v=some x):R3 ρ F w v x:=by
 by_cases ht:∃us,v=.tup us
 ·obtain⟨us,rfl⟩:=ht
  simp only[valOf] at h
  split at h
  ·rename_i xs e
   simp only[afJ] at h
   exact⟨xs,h.symm,Xa e⟩
  ·simp at h
 ·rw[ZO λus e=>ht ⟨us,e⟩] at h
  exact kE (jm (rO (Rq h)))
theorem E8(h:aG C s a w ρ F)(xH:g.fix=C.fix){q:List (Nat×Bool)}(hq:pcA a.tmps q){o:Oper}{f:FuncId}{A:List V}(hco:jC s.L q o=some (f,A)){args:List V}{r:V}{x:Value}
  (hp:Pure C.pg f args r []) (hx:valOf r=some x) (hA:AEq A (args.map (V.dx (bZ [])))) {w':World} (hm:Mod none w w'):Oper.quietAt C.P o a (Mod none w) w' x:=by
 obtain⟨vals,h1,h2⟩:=W9 (h.mod hm) xH hq hco hp hA (show yB g s.m [] 0 0=true from rfl) trivial
 unfold Oper.quietAt
 rw[h1]
 refine⟨Z,h2.mono ?_⟩
 rintro e w'' ⟨v,ρ',F',rfl,hk,_,_,_,_,hr,_⟩
 rw[qH hx hr]
 exact⟨Z,hm.trans ⟨hk.os,hk.tape,hk.output,hk.size,λk hlt _=>hk.block k hlt (λ⟨i,hi,_⟩=>absurd hi (afN _))⟩⟩
theorem QGo.call(hn:g.n=C.n)(xH:g.fix=C.fix){all:Array Oper}{o:Oper}{rest:List Oper}{args:List V}{r:V}{f:FuncId}{A:List V}{d:Nat}{x:Value}
  (hp:Pure C.pg f args r []) (hx:valOf r=some x) (hgd:o.guard=none) (hd:o.dst=some d) (hdn:(Nat.blt d g.n&&r.aQ (fresh 0))=true) (hco:jC s.L [] o=some (f,A)) (hA:AEq A (args.map (V.dx (bZ []))))
  (k:QGo C all rest {s with L:=put s.L d r} K Φ):QGo C all (o::rest) s K Φ:=by
 intro a w ρ F h
 simp only[afF] at hdn
 refine QGo.J3 hgd (x:=x) (λw' hm=>E8 h xH (cO _) hco hp hx hA hm) ?_
 rw[hd]
 exact k _ _ _ _ (h.put (by rw[←hn];simpa using hdn.1) (vI hx) (jc (λu hu=>cB (Nat.zero_le _) hu) hdn.2))
theorem QGo.oU(hn:g.n=C.n)(xH:g.fix=C.fix){all:Array Oper}{o:Oper}{rest:List Oper}{args:List V}{r:V}{f:FuncId}{A:List V}{d j:Nat}{u:Bool}{q:List (Nat×Bool)}{x:Value}
  (hgd:o.guard=some (j,u)) (hgp:zK s.L all j u=some q) (hd:o.dst=some d) (hdn:(Nat.blt d g.n&&!(q.any λe=>Nat.beq e.1 d)&&r.aQ (fresh 0))=true) (hco:jC s.L q o=some (f,A))
  (hp:imp s.L q (Pure C.pg f args r [])) (hx:valOf r=some x) (hA:AEq A (args.map (V.dx (bZ []))))
  (k:QGo C all rest {s with L:=put s.L d (.g q r)} K Φ):QGo C all (o::rest) s K Φ:=by
 intro a w ρ F h
 simp only[afF,afR] at hdn
 obtain⟨⟨b1,b2⟩,b3⟩:=hdn
 have hgs:=jB h hgp
 have hwant:Region.wanted o (yielded all a.tmps)=true↔pcA a.tmps q:=by rw[←hgs];simp [Region.wanted,hgd]
 have hf:=jc (λu hu=>cB (Nat.zero_le s.m) hu) b3
 by_cases hpc:pcA a.tmps q
 ·refine QGo.tQ (x:=x) (λ_ w' hm=>E8 h xH hpc hco (lu h hpc hp) hx hA hm) (λhno=>by rw[hwant.2 hpc] at hno;simp at hno) ?_
  rw[hd]
  exact k _ _ _ _ (h.xC (by rw[←hn];simpa using b1) ⟨λ_=>vI hx,λhno=>(hno ((iH b2).2 hpc)).elim⟩ hf)
 ·refine QGo.tQ (x:=undef) (λhyes=>(hpc (hwant.1 hyes)).elim) (λ_=>rfl) ?_
  rw[hd]
  exact k _ _ _ _ (h.xC (by rw[←hn];simpa using b1) ⟨λhp=>(hpc ((iH b2).1 hp)).elim,λ_=>rfl⟩ hf)
end
namespace Cx
variable{P:Pg}{g:Cfg}{C:Ctx}(x:Cx P g C){s s':St}{K K':List Item}{Φ:Exit->St->Prop}{ob:List Prop}
include x
theorem J5{c:Code}{Q:Exit->Act->World->Prop}{a:Act}{w:World}(h:c.wp C.P Q a w):wq C.rd C.P c Q a w:=by
 rw[x.rd];exact sQ.2 h
theorem quiet{id:Nat}{ops:Array Oper}(h:run g 1000 K s []=.code ob (.region id ops true) K' s')(ho:ak ob)(hm:P.P.follows .mixedOrders=true)(hB:Region.lexB .any ops=true)
  (k:QGo C ops ops.toList s' K' Φ):Go C K s Φ:=by
 refine st x.ty x.n x.fix h ⟨ho,?_⟩
 rintro a w ⟨ρ,F,hs⟩
 have hd:Mod none w {w with drawn:=w.drawn+1}:=⟨Z,Z,Z,Nat.le_refl _,λ_ _ _=>rfl⟩
 refine x.J5 ?_
 exact wp_region_quiet (C:=Mod none w) (x.rV.symm▸hm) hB hd (k a w ρ F hs)
end Cx
namespace Cr
variable{P:Pg}{g:Cfg}{C:Ctx}(x:Cr P g C){s s':St}{K K':List Item}{Φ:Exit->St->Prop}{ob:List Prop}
include x
theorem bS{all:Array Oper}{l:List Oper}(h:qx g all 1000 l s []=.done ob s')(ho:ak ob)(k:Go C K s' Φ):QGo C all l s K Φ:=
 (tT (K:=K) (Φ:=Φ) x.ty x.n 1000 l s [] (by rw[h];exact⟨ho,k⟩)).2
theorem lS{all:Array Oper}{l rest:List Oper}{o:Oper}{args A:List V}{r:V}{f d:Nat}{y:Value}(h:qx g all 1000 l s []=.op ob o rest s')(ho:ak ob)
  (hco:jE g s' o=some (f,A,d)) (hp:Pure P f args r []) (hy:valOf r=some y) (hr:r.aQ (fresh 0)=true) (hA:AEq A (args.map (V.dx (bZ [])))) (k:QGo C all rest {s' with L:=put s'.L d r} K Φ):QGo C all l s K Φ:=by
 suffices kk:QGo C all (o::rest) s' K Φ from (tT (K:=K) (Φ:=Φ) x.ty x.n 1000 l s [] (by rw[h];exact⟨ho,kk⟩)).2
 unfold jE at hco
 split at hco
 ·rename_i d' hg hd
  cases hb:Nat.blt d' g.n with
  | false=>rw[hb] at hco;simp at hco
  | true=>
   rw[hb] at hco
   simp only[cond_true] at hco
   split at hco
   ·rename_i f' A' hc
    simp only[afJ,afO] at hco
    obtain⟨rfl,rfl,rfl⟩:=hco
    exact QGo.call x.n x.fix (x.prog▸hp) hy hg hd (by simp only[afF];exact⟨hb,hr⟩) hc hA k
   ·simp at hco
 ·simp at hco
theorem E9{all:Array Oper}{l rest:List Oper}{o:Oper}{args A:List V}{r:V}{f d:Nat}{q:List (Nat×Bool)}{y:Value}(h:qx g all 1000 l s []=.op ob o rest s')(ho:ak ob)
  (hco:oG g s' all o=some (f,A,d,q)) (hp:imp s'.L q (Pure P f args r [])) (hy:valOf r=some y) (hr:r.aQ (fresh 0)=true) (hA:AEq A (args.map (V.dx (bZ [])))) (k:QGo C all rest {s' with L:=put s'.L d (.g q r)} K Φ):QGo C all l s K Φ:=by
 suffices kk:QGo C all (o::rest) s' K Φ from (tT (K:=K) (Φ:=Φ) x.ty x.n 1000 l s [] (by rw[h];exact⟨ho,kk⟩)).2
 unfold oG at hco
 split at hco
 ·rename_i j u d' hg hd
  split at hco
  ·rename_i q' hq
   cases hb:(Nat.blt d' g.n&&!(q'.any λe=>Nat.beq e.1 d')) with
   | false=>rw[hb] at hco;simp at hco
   | true=>
    rw[hb] at hco
    simp only[cond_true] at hco
    split at hco
    ·rename_i f' A' hc
     simp only[afJ,afO] at hco
     obtain⟨rfl,rfl,rfl,rfl⟩:=hco
     exact QGo.oU x.n x.fix hg hq hd (by simp only[afF] at hb ⊢;exact⟨hb,hr⟩) hc (x.prog▸hp) hy hA k
    ·simp at hco
  ·simp at hco
 ·simp at hco
end Cr
end Go.Sx
namespace Go.Sx
def aU(l:List Oper):List Nat->List Oper
 | []=>[]
 | i::r=>match l[i]? with
  | some o=>o::aU l r
  | none=>aU l r
def Pp(ops:Array Oper)(i:Nat):Bool:=
 match ops[i]? with
 | some o=>match o.guard,o.op with
  | none,.move _=>true
  | none,.assign _=>true
  | _,_=>false
 | none=>false
def TY(i:Nat):List Nat->Bool
 | []=>false
 | j::r=>Nat.beq j i||TY i r
theorem Fa{i:Nat}:∀{l:List Nat},TY i l=true↔i∈l
 | []=>by simp [TY]
 | j::r=>by
  simp only[TY,Bool.or_eq_true,Fa,List.mem_cons]
  constructor
  ·rintro (h | h)
   ·exact .inl (afM h).symm
   ·exact .inr h
  ·rintro (h | h)
   ·exact .inl (by subst h;simp)
   ·exact .inr h
section
variable(md:Region.Mode)(ops:Array Oper)
def Rs(T:List Nat)(listed:Array Bool)(i:Nat):Bool:=(Region.ready md ops listed).contains i&&Region.free md ops listed i&&!TY i T
def Fb(T:List Nat):List Nat->Array Bool->(Array Bool->Bool)->Bool
 | [],l,k=>k l
 | i::r,l,k=>Rs md ops T l i&&Pp ops i&&Fb T r (l.setIfInBounds i true) k
def uO(T:List Nat):List Nat->Array Bool->(Array Bool->Bool)->Bool
 | [],l,k=>k l
 | i::r,l,k=>Rs md ops T l i&&uO T r (l.setIfInBounds i true) k
def vJ:List Nat->Array Bool->Bool
 | [],l=>(Region.ready md ops l).isEmpty
 | i::r,l=>decide (Region.ready md ops l=[i])&&vJ r (l.setIfInBounds i true)
def vK(t:Nat):List Nat->Bool
 | []=>true
 | i::r=>(Region.waitsFor md ops t i||r.any λj=>Region.waitsFor md ops j i)&&vK t r
def oW:List Nat->Bool
 | a::b::r=>Region.waitsFor md ops b a&&oW (b::r)
 | _=>true
def oZ:List Nat->Nat
 | t::_=>t
 | []=>0
def LM(A B T:List Nat):Bool:=
 Region.noSelect ops&&Nat.beq (A.length+B.length+T.length) ops.size&&!T.isEmpty&&T.all (λt=>Nat.blt t ops.size)&&vK md ops (oZ T) B&&oW md ops T&&
 Fb md ops T A (Array.replicate ops.size false) λl=>uO md ops T B l λl=>vJ md ops T l
end
section
variable{P:Program}{ops:Array Oper}{md:Region.Mode}{Q:Exit->Act->World->Prop}{T:List Nat}
structure Inv(md:Region.Mode)(ops:Array Oper)(T:List Nat)(listed:Array Bool):Prop where
 size:listed.size=ops.size
 closed:∀j oj,ops[j]?=some oj->listed.getD j false=true->∀e∈oj.after,Region.binds md e=true->listed.getD e.on false=true
 tail:∀t∈T,listed.getD t false=false
theorem Inv.set{i:Nat}{listed:Array Bool}(inv:Inv md ops T listed)(hi:i∈Region.ready md ops listed)(hin:i∉T):Inv md ops T (listed.setIfInBounds i true):=by
 obtain⟨_,oi,hoi,hall⟩:=mem_ready.1 hi
 refine⟨by simp [inv.size],λj oj hj hl e he hb=>?_,λt ht=>by rw[getD_set_ne false (by rintro rfl;exact hin ht)];exact inv.tail t ht⟩
 by_cases hij:i=j
 ·subst hij
  have:oj=oi:=afK (hj.symm.trans hoi)
  subst this
  exact getD_set_true (hall e he hb)
 ·rw[getD_set_ne false hij] at hl
  exact getD_set_true (inv.closed j oj hj hl e he hb)
theorem Fe{t i:Nat}{listed:Array Bool}(ht:t∈Region.ready md ops listed)(hw:Region.waitsFor md ops t i=true):listed.getD i false=true:=by
 obtain⟨_,ot,hot,hall⟩:=mem_ready.1 ht
 obtain⟨o',ho',e,he,hb,hon⟩:=Region.waitsFor_spec hw
 obtain rfl:o'=ot:=afK (ho'.symm.trans hot)
 rw[←hon]
 exact hall e he hb
theorem LP{t i:Nat}{listed:Array Bool}(inv:Inv md ops T listed)(ht:listed.getD t false=true)(hw:Region.waitsFor md ops t i=true):listed.getD i false=true:=by
 obtain⟨o',ho',e,he,hb,hon⟩:=Region.waitsFor_spec hw
 rw[←hon]
 exact inv.closed t o' ho' ht e he hb
theorem Da{t:Nat}{listed:Array Bool}(inv:Inv md ops T listed)(ht:t∈Region.ready md ops listed):∀{B:List Nat},vK md ops t B=true->∀i∈B,listed.getD i false=true
 | b::r,h,i,hi=>by
  simp only[vK,afF,Bool.or_eq_true,List.any_eq_true] at h
  have ih:=Da inv ht h.2
  rcases List.mem_cons.1 hi with rfl | hi
  ·rcases h.1 with h1 | ⟨j,hj,hw⟩
   ·exact Fe ht h1
   ·exact LP inv (ih j hj) hw
  ·exact ih i hi
 | [],_,_,hi=>by cases hi
theorem IK{listed:Array Bool}(inv:Inv md ops T listed):∀{S:List Nat},(∀t∈S,t∈T)->oW md ops S=true->∀t∈S,t∈Region.ready md ops listed->t=oZ S
 | [],_,_,t,ht,_=>by cases ht
 | [a],_,_,t,ht,_=>by simpa [oZ] using ht
 | a::b::r,hS,h,t,ht,hr=>by
  simp only[oW,afF] at h
  rcases List.mem_cons.1 ht with rfl | ht
  ·rfl
  ·have h1:=IK inv (λt ht=>hS t (List.mem_cons_of_mem _ ht)) h.2 t ht hr
   simp only[oZ] at h1
   subst h1
   have:=Fe hr h.1
   rw[inv.tail a (hS a (by simp))] at this
   cases this
theorem zR{listed:Array Bool}{B:List Nat}(inv:Inv md ops T listed)(hs:vK md ops (oZ T) B=true)(hc:oW md ops T=true){i:Nat}(hi:i∈B)(hun:listed.getD i true=false){j:Nat}(hj:j∈Region.ready md ops listed):j∉T:=by
 intro hjT
 have:=IK inv (λ_ h=>h) hc j hjT hj
 subst this
 have:=Da inv hj hs i hi
 rw[getD_both hun] at this
 cases this
variable{C:World->Prop}
def Fg(P:Program)(md:Region.Mode)(ops:Array Oper)(C:World->Prop)(T:List Nat)(L:Array Bool->Act->Prop):Nat->Array Bool->Act->Prop
 | 0,listed,a=>L listed a
 | f+1,listed,a=>
  Region.ready md ops listed≠[]∧∀i∈Region.ready md ops listed,i∉T∧qOp P ops C i (Fg P md ops C T L f (listed.setIfInBounds i true)) a
theorem Fh{g:Nat}{L:Array Bool->Act->Prop}(hL:∀listed a w,C w->L listed a->wpAny P md ops Q g listed a w) :
  ∀(f:Nat) (listed:Array Bool) (a:Act) (w:World),C w->Fg P md ops C T L f listed a->wpAny P md ops Q (f+g) listed a w
 | 0,listed,a,w,hw,h=>by rw[Nat.zero_add];exact hL _ _ _ hw h
 | f+1,listed,a,w,hw,h=>by
  rw[show f+1+g=(f+g)+1 by omega]
  exact⟨λh0=>absurd h0 h.1,λi hi=>wpOp_of_qOp hw (λa' w' hw' h'=>Fh hL f _ a' w' hw' h') (h.2 i hi).2⟩
theorem J6{B:List Nat}{i:Nat}{oi:Oper}{v:Value}{L:Array Bool->Act->Prop}(hi:ops[i]?=some oi)(hsel:∀(j:Nat) (o:Oper) cs b,ops[j]?=some o->o.op≠.select cs b)
  (hs:vK md ops (oZ T) B=true) (hc:oW md ops T=true) (hin:i∈B)
  (hdone:∀listed a,L listed a->∀j∈Region.ready md ops listed,j∈T) :
  ∀(f:Nat) (listed:Array Bool) (a:Act),Inv md ops T listed->
   (∀j oj,ops[j]?=some oj->j≠i->listed.getD j true=false->(∀e∈oj.after,Region.binds md e=true->e.on≠i)->oi.apart ops oj=true)->
   i∈Region.ready md ops listed->YieldsIn P ops C oi v a->
   Fg P md ops C T L f (listed.setIfInBounds i true) (a.put oi.dst v)->Fg P md ops C T L (f+1) listed a:=by
 intro f
 induction f with
 | zero=>
  intro listed a inv _ hr hy H
  have hun:=(mem_ready.1 hr).1
  refine⟨λh=>(by rw[h] at hr;cases hr),λj hj=>?_⟩
  have hjn:=zR inv hs hc hin hun hj
  refine⟨hjn,?_⟩
  by_cases hji:j=i
  ·subst hji;exact hy.qOp hi H
  ·exact absurd (hdone _ _ H j (ready_mono hj hji)) hjn
 | succ f ih=>
  intro listed a inv hfree hr hy H
  have hun:=(mem_ready.1 hr).1
  refine⟨λh=>(by rw[h] at hr;cases hr),λj hj=>?_⟩
  have hjn:=zR inv hs hc hin hun hj
  refine⟨hjn,?_⟩
  by_cases hji:j=i
  ·subst hji;exact hy.qOp hi H
  ·have h1:=(H.2 j (ready_mono hj hji)).2
   obtain⟨hjun,oj,hoj,hall⟩:=mem_ready.1 hj
   have hnot:∀e∈oj.after,Region.binds md e=true->e.on≠i:=λe he hb heq=>by
    have h1:=hall e he hb
    rw[heq,getD_both hun] at h1
    cases h1
   have h2:=qOp_put hoj (hfree j oj hoj hji hjun hnot) (λcs b=>hsel i oi cs b hi) (λcs b=>hsel j oj cs b hoj) hy h1
   have hfree':∀k ok,ops[k]?=some ok->k≠i->(listed.setIfInBounds j true).getD k true=false->
     (∀e∈ok.after,Region.binds md e=true->e.on≠i)->oi.apart ops ok=true:=λk ok hk hki hun hno=>by
    refine hfree k ok hk hki ?_ hno
    by_cases hjk:j=k
    ·subst hjk;exact hjun
    ·rw[getD_set_ne true hjk] at hun;exact hun
   refine qOp_mono (λa' h3=>ih (listed.setIfInBounds j true) a' (inv.set hj hjn) hfree' (ready_mono hr (Ne.symm hji)) h3.1 ?_) h2
   rw[Array.setIfInBounds_comm _ _ hji]
   exact h3.2
theorem oH{l:List Oper}{i:Nat}{o:Oper}{r:List Nat}(h:l[i]?=some o):aU l (i::r)=o::aU l r:=by simp [aU,h]
theorem o7{listed:Array Bool}{i:Nat}(h:Rs md ops T listed i=true):∃o,ops[i]?=some o∧i∈Region.ready md ops listed∧Region.free md ops listed i=true∧i∉T:=by
 simp only[Rs,afF,afR] at h
 have hr:i∈Region.ready md ops listed:=by simpa using h.1.1
 obtain⟨_,o,ho,_⟩:=mem_ready.1 hr
 exact⟨o,ho,hr,h.1.2,λhm=>by rw[Fa.2 hm] at h;exact absurd h.2 (by simp)⟩
theorem Db(hs:Region.noSelect ops=true){B0:List Nat}(hsk:vK md ops (oZ T) B0=true)(hc:oW md ops T=true){Lq:Act->Prop} :
  ∀(B:List Nat) (listed:Array Bool) (a:Act),(∀i∈B,i∈B0)->Inv md ops T listed->uO md ops T B listed (λl=>vJ md ops T l)=true->
   wpQuiet P ops C Lq (aU ops.toList B) a->Fg P md ops C T (λl a'=>vJ md ops T l=true∧Lq a') B.length listed a
 | [],listed,a,_,inv,hp,h=>⟨hp,h⟩
 | i::r,listed,a,hB,inv,hp,h=>by
  simp only[uO,afF] at hp
  obtain⟨o,ho,hr,hf,hiT⟩:=o7 hp.1
  rw[oH (by simpa using ho)] at h
  have hst:qOp P ops C i (wpQuiet P ops C Lq (aU ops.toList r)) a:=by unfold qOp;simp only[ho];exact h
  obtain⟨v,hy,hK⟩:=yieldsIn_of_qOp ho hst
  refine J6 ho (Region.noSelect_spec hs) hsk hc (hB i (by simp)) ?_ r.length listed a inv (Region.free_spec ho hf) hr hy
   (Db hs hsk hc r _ _ (λj hj=>hB j (List.mem_cons_of_mem _ hj)) (inv.set hr hiT) hp.2 hK)
  rintro l a' ⟨hl,_⟩ j hj
  cases hT:T with
  | nil=>rw[hT] at hl;simp only[vJ,List.isEmpty_iff] at hl;rw[hl] at hj;cases hj
  | cons t T'=>
   rw[hT] at hl
   simp only[vJ,afF,afL] at hl
   rw[hl.1] at hj
   simpa using .inl (List.mem_singleton.1 hj)
theorem yD:∀(T:List Nat) (listed:Array Bool) (a:Act) (w:World),(∀t∈T,t<ops.size)->vJ md ops T listed=true->wpList P ops Q (aU ops.toList T) a w->wpAny P md ops Q T.length listed a w
 | [],listed,a,w,_,hB,h=>⟨by simpa [vJ] using hB,h⟩
 | i::r,listed,a,w,hlt,hB,h=>by
  simp only[vJ,afF,afL] at hB
  have hi:=hlt i (by simp)
  have ho:ops[i]?=some ops[i]:=by simp [hi]
  rw[oH (o:=ops[i]) (by simp [hi])] at h
  refine⟨λh1=>(by rw[hB.1] at h1;cases h1),λk hk=>?_⟩
  rw[hB.1] at hk
  obtain rfl:=List.mem_singleton.1 hk
  have hw:wpOp P ops Q k (wpList P ops Q (aU ops.toList r)) a w:=by unfold wpOp;simp only[ho];exact h
  exact wpOp_mono (λa' w' h'=>yD r _ a' w' (λt ht=>hlt t (List.mem_cons_of_mem _ ht)) hB.2 h') hw
theorem Dc(hs:Region.noSelect ops=true)(hQ:∀c a w,¬Q (.panic c) a w){Lq:List Oper->Act->Prop}{f:Nat}{k:Array Bool->Bool}{w:World}(hw:C w)
  (hk:∀listed a,Inv md ops T listed->k listed=true->Lq [] a->wpAny P md ops Q f listed a w)
  (aa7:∀o l a,Lq (o::l) a->if Region.wanted o (yielded ops a.tmps) then o.quiet P a C (Lq l) else Lq l (a.put o.dst undef)) :
  ∀(A:List Nat) (listed:Array Bool) (a:Act),Inv md ops T listed->Fb md ops T A listed k=true->Lq (aU ops.toList A) a->wpAny P md ops Q (A.length+f) listed a w
 | [],listed,a,inv,hp,h=>by rw[List.length_nil,Nat.zero_add];exact hk _ _ inv hp h
 | i::r,listed,a,inv,hp,h=>by
  simp only[Fb,afF] at hp
  obtain⟨⟨hp1,hm⟩,hp2⟩:=hp
  obtain⟨o,ho,hr,hf,hiT⟩:=o7 hp1
  rw[oH (by simpa using ho)] at h
  rw[show (i::r).length+f=(r.length+f)+1 by simp;omega]
  have hc:=aa7 _ _ _ h
  simp only[Pp,ho] at hm
  have hgo:∀x:Operand,o.guard=none->(∀w',(execOp a.eval o).run P w'=.ok (.value (a.eval x)) w')->wpAny P md ops Q (r.length+f+1) listed a w:=λx hg hv=>by
   have hwt:Region.wanted o (yielded ops a.tmps)=true:=by simp [Region.wanted,hg]
   rw[if_pos hwt] at hc
   obtain⟨v,h1,h2⟩:=hc
   have h3:=h1 w hw
   unfold Oper.quietAt at h3
   rw[hv] at h3
   obtain⟨_,rfl⟩:=h3
   exact wpAny_take ho hs hf (by simpa using hr) (λc a w hq=>absurd hq (hQ c _ w)) (.inl ⟨hwt,hv⟩) (Dc hs hQ hw hk aa7 r _ _ (inv.set hr hiT) hp2 h2)
  split at hm
  ·rename_i x hg hop
   exact hgo x hg λw'=>by unfold execOp;rw[hop];rfl
  ·rename_i x hg hop
   exact hgo x hg λw'=>by unfold execOp;rw[hop];rfl
  ·cases hm
theorem Fj{a:Act}{w:World}{A B T:List Nat}(hp:LM .any ops A B T=true)(hQ:∀c a w,¬Q (.panic c) a w)(hC:C {w with drawn:=w.drawn+1})
  (h:wpQuiet P ops C (λa'=>∀w',C w'->wpList P ops Q (aU ops.toList T) a' w') (aU ops.toList A++aU ops.toList B) a):wpAny P .any ops Q ops.size (Array.replicate ops.size false) a {w with drawn:=w.drawn+1}:=by
 simp only[LM,afF] at hp
 obtain⟨⟨⟨⟨⟨⟨hs,hsz⟩,hT⟩,hTl⟩,hsk⟩,hch⟩,hpl⟩:=hp
 have inv0:Inv .any ops T (Array.replicate ops.size false):=⟨by simp,λj oj _ hl=>(by rw[getD_replicate_false] at hl;cases hl),λt _=>getD_replicate_false _ _⟩
 have hsz:=afM hsz
 have e:A.length+(B.length+T.length)=ops.size:=by omega
 have key:wpAny P .any ops Q (A.length+(B.length+T.length)) (Array.replicate ops.size false) a {w with drawn:=w.drawn+1}:=?_
 ·rw[e] at key;exact key
 refine Dc (C:=C) (T:=T) (Lq:=λl a=>wpQuiet P ops C (λa'=>∀w',C w'->wpList P ops Q (aU ops.toList T) a' w') (l++aU ops.toList B) a) hs hQ hC
  (λlisted a inv hk hl=>?_) (λo l a hl=>hl) A _ a inv0 hpl h
 have hB:=Db (md:=.any) hs hsk hch B listed a (λi hi=>hi) inv hk (by simpa using hl)
 refine Fh (g:=T.length) (λl a' w' hw' hL=>yD T l a' w' (λt ht=>?_) hL.1 (hL.2 w' hw')) _ _ _ _ hC hB
 have:=List.all_eq_true.1 hTl t ht
 simpa using this
theorem Fp{id:Nat}{a:Act}{w:World}{A B T:List Nat}(hm:P.follows .mixedOrders=true)(hp:LM .any ops A B T=true)(hQ:∀c a w,¬Q (.panic c) a w)(hC:C {w with drawn:=w.drawn+1})
  (h:wpQuiet P ops C (λa'=>∀w',C w'->wpList P ops Q (aU ops.toList T) a' w') (aU ops.toList A++aU ops.toList B) a):(Code.region id ops true).wp P Q a w:=
 wp_region_any hm (Fj hp hQ hC h)
end
theorem oJ{C:Ctx}{Q:Exit->Act->World->Prop}(hQ:∀c a w,¬Q (.panic c) a w):∀(K:List Item) (c:_) (a:Act) (w:World),¬den C Q K (.panic c) a w
 | [],c,a,w,h=>hQ c a w h
 | .code _::K,c,a,w,h=>oJ hQ K c a w h
 | .ops _ _::K,c,a,w,h=>oJ hQ K c a w h
 | .blk _::K,c,a,w,h=>oJ hQ K c a w h
 | .back _::K,c,a,w,h=>oJ hQ K c a w h
def NoPanic(Φ:Exit->St->Prop):Prop:=∀c s,¬Φ (.panic c) s
theorem Ret.bP{g:Cfg}{rs:List ResultVar}{ids:List Nat}{r:V}{H':List Ch}:NoPanic (Ret g rs ids r H'):=λc s h=>by
 rcases h.1 with h | h<;>cases h
def mF{α:Type}:List α->List α->List α
 | [],l=>l
 | a::r,l=>a::mF r l
theorem tV{α:Type}(a b:List α):mF a b=a++b:=by induction a with
 | nil=>rfl
 | cons x a ih=>simp [mF,ih]
theorem og{P:Program}{ops:Array Oper}{C:World->Prop}{Q Q':Act->Prop}(h:∀a,Q a->Q' a):∀{l:List Oper} {a:Act},wpQuiet P ops C Q l a->wpQuiet P ops C Q' l a
 | [],a,hh=>h a hh
 | o::rest,a,hh=>by
  unfold wpQuiet at *
  split
  ·rename_i hw;simp only[hw,if_true] at hh;exact Oper.quiet_mono (λa hh=>og h hh) hh
  ·rename_i hw;simp only[hw] at hh;exact og h hh
namespace Cx
variable{P:Pg}{g:Cfg}{C:Ctx}(x:Cx P g C){s s':St}{K K':List Item}{Φ:Exit->St->Prop}{ob:List Prop}
include x
theorem plan(A B T:List Nat){id:Nat}{ops:Array Oper}(h:run g 1000 K s []=.code ob (.region id ops true) K' s')(ho:ak ob)(hm:P.P.follows .mixedOrders=true)(hB:LM .any ops A B T=true)(hΦ:NoPanic Φ)
  (k:QGo C ops (aU ops.toList (mF A B)) s' (.ops ops (aU ops.toList T)::K') Φ):Go C K s Φ:=by
 refine st x.ty x.n x.fix h ⟨ho,?_⟩
 rintro a w ⟨ρ,F,hs⟩
 have hd:Mod none w {w with drawn:=w.drawn+1}:=⟨Z,Z,Z,Nat.le_refl _,λ_ _ _=>rfl⟩
 have hpk:aU ops.toList (mF A B)=aU ops.toList A++aU ops.toList B:=by
  rw[tV]
  clear k hB
  induction A with
  | nil=>rfl
  | cons i r ih=>
   simp only[List.cons_append,aU]
   split<;>simp [ih]
 rw[hpk] at k
 refine x.J5 ?_
 exact Fp (C:=Mod none w) (x.rV.symm▸hm) hB (oJ (λc a w ⟨s,_,hh⟩=>hΦ c s hh) K') hd (og (λa h w' hw'=>(h w' hw').1) (k a w ρ F hs))
end Cx
end Go.Sx
