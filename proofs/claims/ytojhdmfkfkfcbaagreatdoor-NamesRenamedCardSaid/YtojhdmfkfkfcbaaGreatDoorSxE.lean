import Derived.Test.YtojhdmfkfkfcbaaGreatDoorSxD
import Derived.Below
import Derived.DataShut
import Derived.Deep.Quiet
import Derived.StillTail
set_option linter.unusedVariables false
set_option linter.unusedSimpArgs false
namespace Go.Sx
def iY (L:List (Nat×V)) (q:List (Nat×Bool)) (o:Oper):Option (FuncId×List V):=
 match o.op with
 | .call c=>match c.callee with
  | .value fo=>match ev L q fo,evs L q c.args.toList with
   | some (.fn f caps),some A=>some (f,A++caps)
   | _,_=>none
  | _=>none
 | _=>none
def inL (x:Nat):List Nat->Bool
 | []=>false
 | y::r=>Nat.beq x y||inL x r
def bn (xs:List Nat):V->V
 | .ptr i o=>bif inL i xs then .dead else .ptr i o
 | .own i=>bif inL i xs then .dead else .own i
 | .bA i z k o=>bif inL i xs then .dead else .bA i z k o
 | v=>v
def aH (is:List Nat):List (Nat×Ch)->List (Nat×Ch)
 | []=>[]
 | (i,c)::r=>bif inL i is then aH is r else (i,c)::aH is r
def fF:Nat->Nat->List Nat
 | _,0=>[]
 | m,n+1=>m::fF (m+1) n
def mP {α:Type}:List α->List α->List α
 | [],b=>b
 | a::r,b=>a::mP r b
def iI {α:Type}:Nat->List α->List α
 | 0,l=>l
 | _+1,[]=>[]
 | n+1,_::r=>iI n r
def after (s:St) (d:Nat) (is:List Nat) (fix:Nat) (r:V) (H':List Ch) (q:List (Nat×Bool)):St:=
 let ids:=mP is (fF s.m (H'.length-is.length))
 let v:=r.cu (bZ ids)
 {L:=put (rH (bn (iI fix is)) s.L) d (match q with | []=>v | q=>.g q v),H:=mP (rnH ids ids H') (oQ (bn (iI fix is)) (aH is s.H)),m:=s.m+(H'.length-is.length)}
def xR (g:Cfg) (m:Nat) (is:List Nat) (fix k:Nat):Bool:=nodupB is&&is.all (fun i=>Nat.blt i m)&&(iI fix is).all (fun i=>Nat.ble g.fix i)&&Nat.beq is.length k
def AEq:List V->List V->Prop
 | [],[]=>True
 | a::r,b::q=>VEq a b∧AEq r q
 | _,_=>False
section
theorem rU {α:Type} (a b:List α):mP a b=a++b:=by induction a<;>simp [mP, *]
theorem KG {α:Type} (n:Nat) (l:List α):iI n l=l.drop n:=by
 induction n generalizing l with
 | zero=>rfl
 | succ n ih=>cases l<;>simp [iI,ih]
theorem yZ {x:Nat} {l:List Nat}:inL x l=true↔x∈l:=by
 induction l with
 | nil=>simp [inL]
 | cons y r ih=>simp [inL,ih]
theorem xS (m n:Nat):(fF m n).length=n:=by induction n generalizing m<;>simp [fF, *]
theorem NM {m n x:Nat}:x∈fF m n↔m≤x∧x<m+n:=by
 induction n generalizing m with
 | zero=>simp [fF]
 | succ n ih=>simp only[fF,List.mem_cons,ih];omega
theorem rV {l:List Nat} {i:Nat} (h:i<l.length):nth l i∈l:=List.mem_of_getElem? (kP h)
theorem I8 {a b:List Nat} {i:Nat} (h:i<a.length):nth (mP a b) i=nth a i:=by
 rw[rU]
 have h1:=kP (is:=a++b) (i:=i) (by simp;omega)
 have h2:=kP h
 rw[List.getElem?_append_left h,h2] at h1
 exact (adl h1).symm
theorem bf {is:List Nat} {H:List (Nat×Ch)} {i:Nat} {c:Ch} (h:(i,c)∈aH is H):(i,c)∈H∧i∉is:=by
 induction H with
 | nil=>cases h
 | cons e r ih=>
  obtain⟨j,d⟩:=e
  unfold aH at h
  cases hj:inL j is with
  | true=>rw[hj] at h;simp at h;exact⟨List.mem_cons_of_mem _ (ih h).1,(ih h).2⟩
  | false=>
   rw[hj] at h
   simp only[cond_false,List.mem_cons,adq] at h
   rcases h with⟨rfl,rfl⟩ | h
   ·exact⟨by simp,fun hm=>by rw[yZ.2 hm] at hj;cases hj⟩
   ·exact⟨List.mem_cons_of_mem _ (ih h).1,(ih h).2⟩
theorem D7 {is:List Nat}:∀{xs:List Nat} {cs:List Ch} {x:Nat} {c':Ch},(x,c')∈rnH is xs cs->∃i c,i<xs.length∧nth xs i=x∧cs[i]?=some c∧c'=c.map (bZ is)
 | y::xs,d::cs,x,c',h=>by
  rcases List.mem_cons.1 h with e | h
  ·obtain⟨rfl,rfl⟩:=Prod.mk.inj e;exact⟨0,d,by simp,rfl,rfl,rfl⟩
  ·obtain⟨i,c,h1,h2,h3,h4⟩:=D7 h
   exact⟨i+1,c,by simpa using h1,h2,by simpa using h3,h4⟩
 | [],_,_,_,h=>by cases h
 | _::_,[],_,_,h=>by cases h
def pos:List Nat->Nat->Option Nat
 | [],_=>none
 | y::r,x=>if y=x then some 0 else (pos r x).map (· + 1)
theorem Xy {l:List Nat} (hn:∀i j,i<l.length->j<l.length->i≠j->nth l i≠nth l j) {i:Nat} (h:i<l.length):pos l (nth l i)=some i:=by
 induction l generalizing i with
 | nil=>simp at h
 | cons y r ih=>
  cases i with
  | zero=>simp [pos,nth]
  | succ i=>
   have h0:=hn 0 (i+1) (by simp) h (by omega)
   simp only[nth] at h0
   simp only[pos,nth,h0,if_false]
   rw[ih (fun a b ha hb hab=>hn (a+1) (b+1) (by simpa using ha) (by simpa using hb) (by omega)) (by simpa using h)]
   rfl
theorem U1 {l:List Nat} {x:Nat} (h:x∉l):pos l x=none:=by
 induction l with
 | nil=>rfl
 | cons y r ih=>
  have h1:¬y=x:=fun e=>h (by simp [e])
  simp only[pos,h1,if_false,ih (fun hm=>h (by simp [hm]))];rfl
end
theorem jh {is:List Nat} {k m:Nat} (hm:∀i,i<k->nth is i<m) {u:V} (h:u.all1 (fresh k)=true):(u.eG (bZ is)).all1 (fresh m)=true:=by
 have go:∀id,Nat.blt id k=true->Nat.blt (nth is id) m=true:=fun id h=>by simpa using hm id (by simpa using h)
 have g0:∀u,fresh k u=true->fresh m (bZ is u)=true:=fun u h=>by cases u<;>first | exact go _ h | rfl
 cases u with
 | fn f c=>simp only[V.eG,V.all1,List.all_map,List.all_eq_true,Function.comp] at *;exact fun x hx=>g0 x (h x hx)
 | ptr i o=>exact go _ h
 | own i=>exact go _ h
 | bA i z k o=>exact go _ h
 | _=>rfl
theorem j4 {is:List Nat} {k m:Nat} (hm:∀i,i<k->nth is i<m) {u:V} (h:u.all2 (fresh k)=true):(u.iw (bZ is)).all2 (fresh m)=true:=by
 cases u with
 | agg us=>simp only[V.iw,V.all2,List.all_map,List.all_eq_true,Function.comp] at *;exact fun x hx=>jh hm (h x hx)
 | fn f c=>exact jh (u:=.fn f c) hm h
 | ptr i o=>exact jh (u:=.ptr i o) hm h
 | own i=>exact jh (u:=.own i) hm h
 | bA i z k o=>exact jh (u:=.bA i z k o) hm h
 | _=>rfl
theorem D8 {is:List Nat} {k m:Nat} (hm:∀i,i<k->nth is i<m) {u:V} (h:u.aO (fresh k)=true):(u.cu (bZ is)).aO (fresh m)=true:=by
 cases u with
 | tup us=>simp only[V.cu,V.aO,List.all_map,List.all_eq_true,Function.comp] at *;exact fun x hx=>j4 hm (h x hx)
 | agg us=>exact j4 (u:=.agg us) hm h
 | fn f c=>exact j4 (u:=.fn f c) hm h
 | ptr i o=>exact j4 (u:=.ptr i o) hm h
 | own i=>exact j4 (u:=.own i) hm h
 | bA i z k o=>exact j4 (u:=.bA i z k o) hm h
 | _=>rfl
theorem D9 {is:List Nat} {k m:Nat} (hm:∀i,i<k->nth is i<m) {c:Ch} (h:c.all (fresh k)=true):(c.map (bZ is)).all (fresh m)=true:=by
 cases c with
 | box us=>simp only[Ch.map,Ch.all,List.all_map,List.all_eq_true,Function.comp] at *;exact fun x hx=>jh hm (h x hx)
 | held _ _ _ _ _ u _ _ _=>exact jh (u:=u) hm h
 | tbl es=>simp only[Ch.map,Ch.all,List.all_map,List.all_eq_true,Function.comp] at *;exact fun x hx=>j4 hm (h x hx)
 | bld T u=>exact jh (u:=u) hm h
 | _=>rfl
theorem iB (xs:List Nat) (u:V):bn xs u=u∨bn xs u=.dead:=by
 cases u with
 | ptr i o=>simp only[bn];cases inL i xs<;>simp
 | own i=>simp only[bn];cases inL i xs<;>simp
 | bA i z k o=>simp only[bn];cases inL i xs<;>simp
 | _=>exact .inl rfl
theorem fB {xs:List Nat} {m m':Nat} (hmm:m≤m') {v:V} (hv:v.all1 (fresh m)=true):(v.eG (bn xs)).all1 (fresh m')=true:=by
 have g0:∀u,fresh m u=true->fresh m' (bn xs u)=true:=fun u h=>by
  rcases iB xs u with e | e<;>rw[e]
  ·exact bM hmm h
  ·rfl
 have g1:∀u,u.leaf=true->fresh m u=true->(bn xs u).all1 (fresh m')=true:=fun u hl h=>by
  have h2:=g0 u h
  rcases iB xs u with e | e
  ·rw[e] at h2 ⊢;cases u<;>first | exact h2 | cases hl
  ·rw[e];rfl
 cases v with
 | fn f c=>simp only[V.eG,V.all1,List.all_map,List.all_eq_true,Function.comp] at *;exact fun x hx=>g0 x (hv x hx)
 | ptr i o=>exact g1 (.ptr i o) rfl hv
 | own i=>exact g1 (.own i) rfl hv
 | bA i z k o=>exact g1 (.bA i z k o) rfl hv
 | _=>first | rfl | exact nQ (fun u hu=>bM hmm hu) hv
theorem gM {xs:List Nat} {m m':Nat} (hmm:m≤m') {v:V} (hv:v.all2 (fresh m)=true):(v.iw (bn xs)).all2 (fresh m')=true:=by
 cases v with
 | agg us=>simp only[V.iw,V.all2,List.all_map,List.all_eq_true,Function.comp] at *;exact fun x hx=>fB hmm (hv x hx)
 | ptr i o=>
  have:=fB (xs:=xs) hmm (v:=.ptr i o) hv
  rcases iB xs (.ptr i o) with e | e<;>(simp only[V.eG] at this;simp only[V.iw,V.eG,e] at this ⊢;exact this)
 | own i=>
  have:=fB (xs:=xs) hmm (v:=.own i) hv
  rcases iB xs (.own i) with e | e<;>(simp only[V.eG] at this;simp only[V.iw,V.eG,e] at this ⊢;exact this)
 | bA i z k o=>
  have:=fB (xs:=xs) hmm (v:=.bA i z k o) hv
  rcases iB xs (.bA i z k o) with e | e<;>(simp only[V.eG] at this;simp only[V.iw,V.eG,e] at this ⊢;exact this)
 | fn f c=>exact fB (v:=.fn f c) hmm hv
 | _=>rfl
theorem gN {xs:List Nat} {m m':Nat} (hmm:m≤m') {v:V} (hv:v.aO (fresh m)=true):(v.cu (bn xs)).aO (fresh m')=true:=by
 cases v with
 | tup us=>simp only[V.cu,V.aO,List.all_map,List.all_eq_true,Function.comp] at *;exact fun x hx=>gM hmm (hv x hx)
 | agg us=>exact gM (v:=.agg us) hmm hv
 | ptr i o=>
  have:=gM (xs:=xs) hmm (v:=.ptr i o) hv
  rcases iB xs (.ptr i o) with e | e<;>(simp only[V.iw,V.eG] at this;simp only[V.cu,V.iw,V.eG,e] at this ⊢;exact this)
 | own i=>
  have:=gM (xs:=xs) hmm (v:=.own i) hv
  rcases iB xs (.own i) with e | e<;>(simp only[V.iw,V.eG] at this;simp only[V.cu,V.iw,V.eG,e] at this ⊢;exact this)
 | bA i z k o=>
  have:=gM (xs:=xs) hmm (v:=.bA i z k o) hv
  rcases iB xs (.bA i z k o) with e | e<;>(simp only[V.iw,V.eG] at this;simp only[V.cu,V.iw,V.eG,e] at this ⊢;exact this)
 | fn f c=>exact gM (v:=.fn f c) hmm hv
 | _=>rfl
theorem Gm {xs:List Nat} {m m':Nat} (hmm:m≤m') {v:V} (hv:v.qd (fresh m)=true):(v.xJ (bn xs)).qd (fresh m')=true:=by
 cases v with
 | g p u=>exact gN hmm hv
 | tup us=>exact gN (v:=.tup us) hmm hv
 | agg us=>exact gN (v:=.agg us) hmm hv
 | ptr i o=>
  have:=gN (xs:=xs) hmm (v:=.ptr i o) hv
  rcases iB xs (.ptr i o) with e | e<;>(simp only[V.cu,V.iw,V.eG] at this;simp only[V.xJ,V.cu,V.iw,V.eG,e] at this ⊢;exact this)
 | own i=>
  have:=gN (xs:=xs) hmm (v:=.own i) hv
  rcases iB xs (.own i) with e | e<;>(simp only[V.cu,V.iw,V.eG] at this;simp only[V.xJ,V.cu,V.iw,V.eG,e] at this ⊢;exact this)
 | bA i z k o=>
  have:=gN (xs:=xs) hmm (v:=.bA i z k o) hv
  rcases iB xs (.bA i z k o) with e | e<;>(simp only[V.cu,V.iw,V.eG] at this;simp only[V.xJ,V.cu,V.iw,V.eG,e] at this ⊢;exact this)
 | fn f c=>exact gN (v:=.fn f c) hmm hv
 | _=>rfl
theorem Gn {xs:List Nat} {m m':Nat} (hmm:m≤m') {c:Ch} (hc:c.all (fresh m)=true):(c.map (bn xs)).all (fresh m')=true:=by
 cases c with
 | box us=>simp only[Ch.map,Ch.all,List.all_map,List.all_eq_true,Function.comp] at *;exact fun y hy=>fB hmm (hc y hy)
 | held _ _ _ _ _ u _ _ _=>exact fB (v:=u) hmm hc
 | tbl es=>simp only[Ch.map,Ch.all,List.all_map,List.all_eq_true,Function.comp] at *;exact fun y hy=>gM hmm (hc y hy)
 | bld T u=>exact fB (v:=u) hmm hc
 | _=>rfl
end Go.Sx
set_option linter.unusedVariables false
set_option linter.unusedSimpArgs false
namespace Go.Sx
section
variable {C:Ctx} {s:St} {a:Act} {w w':World} {ρ:Nat->Value} {F:Nat->Prop} {g:Cfg}
theorem R0.bn {xs:List Nat} {m:Nat} {ρ':Nat->Value} {F':Nat->Prop} (hρ:∀i,i<m->i∉xs->ρ' i=ρ i) (hF:∀k,F k->F' k) (hw:∀k,F k->w'.heap[k]?=w.heap[k]?) {u:V} {v:Value} (hf:fresh m u=true) (h:R0 ρ F w u v):R0 ρ' F' w' (bn xs u) v:=by
 have one:=h.one'
 have go:∀id,Nat.blt id m=true->inL id xs=false->ρ' id=ρ id:=fun id h1 h2=>hρ id (by simpa using h1) (fun hm=>by rw[yZ.2 hm] at h2;cases h2)
 cases u with
 | ptr i o=>
  simp only[Sx.bn]
  cases hi:inL i xs with
  | true=>exact one
  | false=>obtain⟨b,h1,h2⟩:=h;exact⟨b,by rw[go i hf hi];exact h1,h2⟩
 | own i=>
  simp only[Sx.bn]
  cases hi:inL i xs with
  | true=>exact one
  | false=>obtain⟨h1,h2⟩:=h;exact⟨by rw[go i hf hi];exact h1,by rw[go i hf hi];exact h2⟩
 | bA i z k o=>
  simp only[Sx.bn]
  cases hi:inL i xs with
  | true=>exact one
  | false=>obtain⟨b,h1,h2⟩:=h;exact⟨b,by rw[go i hf hi];exact h1,h2⟩
 | d x=>exact R0.world hF hw h
 | gq ds=>exact R0.world (u:=.gq ds) hF hw h
 | aB=>exact h
 | dead=>exact h
 | _=>exact h.elim
theorem aD.called (h:aD C s a w ρ F) (wP:g.fix=C.fix) {is:List Nat} {fix:Nat} {H H':List Ch} {r:V} {e:Ending}
  (hok:xR g s.m is fix H.length=true) (hH:HLE s.H (rnH is is H)) (hle:H.length≤H'.length) (hfr:aL [r] H' H'.length=true)
  (hpost:Post w F (fun i=>ρ (nth is i)) fix H r H' e w') :
  ∃v ρ' F',e=.returned v∧R3 ρ' F' w' (r.cu (bZ (mP is (fF s.m (H'.length-is.length))))) v∧(r.cu (bZ (mP is (fF s.m (H'.length-is.length))))).aO (fresh (s.m+(H'.length-is.length)))=true∧
   aD C {L:=rH (bn (iI fix is)) s.L,H:=mP (rnH (mP is (fF s.m (H'.length-is.length))) (mP is (fF s.m (H'.length-is.length))) H') (oQ (bn (iI fix is)) (aH is s.H)),m:=s.m+(H'.length-is.length)} a w' ρ' F':=by
 obtain⟨v,ρc,F',he,hkeep,hfix,hFF,hlt,hsub,hr,BU,Ke⟩:=hpost
 simp only[xR,adg,List.all_eq_true] at hok
 obtain⟨⟨⟨o1,o2⟩,o3⟩,o4⟩:=hok
 have I9:=ado o4
 have o2':∀i∈is,i<s.m:=fun i hi=>by simpa using o2 i hi
 have o3':∀i∈iI fix is,C.fix≤i:=fun i hi=>by rw[←wP];simpa using o3 i hi
 generalize hn:H'.length-is.length=n
 generalize NN:mP is (fF s.m n)=ids
 have hidl:ids.length=H'.length:=by rw[←NN,rU,List.length_append,xS];omega
 have hmem:∀x,x∈ids↔x∈is∨(s.m≤x∧x<s.m+n):=fun x=>by rw[←NN,rU,List.mem_append,NM]
 have abh:∀x∈ids,x<s.m+n:=fun x hx=>by
  rcases (hmem x).1 hx with h1 | h1
  ·have:=o2' x h1;omega
  ·exact h1.2
 have hleft:∀i,i<is.length->nth ids i=nth is i:=fun i hi=>by rw[←NN];exact I8 hi
 have ZG:∀i j,i<ids.length->j<ids.length->i≠j->nth ids i≠nth ids j:=by
  have hright:∀n m i,i<n->nth (fF m n) i=m+i:=by
   intro n
   induction n with
   | zero=>intro m i hi;omega
   | succ n ih=>
    intro m i hi
    cases i with
    | zero=>rfl
    | succ i=>simp only[fF,nth];rw[ih (m+1) i (by omega)];omega
  have hr2:∀i,is.length≤i->i<ids.length->nth ids i=s.m+(i-is.length):=by
   intro i h1 h2
   have e1:=kP h2
   rw[←NN,rU,List.getElem?_append_right h1] at e1
   have hlen:i-is.length<(fF s.m n).length:=by rw[xS];omega
   rw[kP hlen] at e1
   have e2:=adl e1
   rw[show is++fF s.m n=ids by rw[←rU];exact NN] at e2
   rw[←e2,hright n s.m _ (by rw[xS] at hlen;exact hlen)]
  intro i j hi hj hij e
  by_cases h1:i<is.length
  ·by_cases h2:j<is.length
   ·rw[hleft i h1,hleft j h2] at e
    exact gG o1 i j h1 h2 hij e
   ·rw[hleft i h1,hr2 j (by omega) hj] at e
    have:=o2' _ (rV h1)
    omega
  ·by_cases h2:j<is.length
   ·rw[hleft j h2,hr2 i (by omega) hi] at e
    have:=o2' _ (rV h2)
    omega
   ·rw[hr2 i (by omega) hi,hr2 j (by omega) hj] at e
    omega
 let ρ':Nat->Value:=fun x=>match pos ids x with | some i=>ρc i | none=>ρ x
 have ZH:∀i,i<ids.length->ρ' (nth ids i)=ρc i:=fun i hi=>by simp only[ρ',Xy ZG hi]
 have Xz:∀x,x∉ids->ρ' x=ρ x:=fun x hx=>by simp only[ρ',U1 hx]
 have NP:∀i,i<H'.length->ρ' (nth ids i)=ρc i:=fun i hi=>ZH i (by omega)
 have abj:∀p,p<is.length->∃c0,(nth is p,c0)∈s.H:=fun p hp=>by
  obtain⟨c0,k1,_⟩:=mZ I9 hH (adh (show p<H.length by omega))
  exact⟨c0,k1⟩
 have hE:∀b,ownB (fun i=>ρ (nth is i)) H b->∃p c0,p<is.length∧(nth is p,c0)∈s.H∧bks ρ (nth is p) c0 b:=fun b hb=>by
  obtain⟨p,hp,hb⟩:=hb
  obtain⟨c0,k1⟩:=abj p (by omega)
  exact⟨p,c0,by omega,k1,aR hb⟩
 have hwF:∀k,F k->w'.heap[k]?=w.heap[k]?:=fun k hk=>hkeep.block k (h.lt k hk) (fun hb=>by
  obtain⟨p,c0,hp,k1,k2⟩:=hE k hb
  exact h.out _ c0 k k1 k2 hk)
 have NQ:Keeps C.w0 C.E w':=⟨hkeep.os.trans h.keep.os,hkeep.tape.trans h.keep.tape,hkeep.output.trans h.keep.output,Nat.le_trans h.keep.size hkeep.size,fun k hk hne=>by
  refine (hkeep.block k (Nat.lt_of_lt_of_le hk h.keep.size) (fun hb=>?_)).trans (h.keep.block k hk hne)
  obtain⟨p,c0,hp,k1,k2⟩:=hE k hb
  rcases h.mine _ c0 k k1 k2 with h1 | h1
  ·omega
  ·exact hne h1⟩
 have ZI:∀i,i<C.fix->ρ' i=C.ρ0 i:=fun i hi=>by
  by_cases hm:i∈ids
  ·rcases (hmem i).1 hm with h1 | h1
   ·obtain⟨p,hp,rfl⟩:∃p,p<is.length∧nth is p=i:=by
     obtain⟨p,hp⟩:=List.getElem?_of_mem h1
     have hlt:=(List.getElem?_eq_some_iff.1 hp).1
     rw[kP hlt] at hp
     exact⟨p,hlt,adl hp⟩
    have hpf:p<fix:=by
     rcases Nat.lt_or_ge p fix with h2 | h2
     ·exact h2
     ·have:nth is p∈iI fix is:=by
       rw[KG]
       have h3:(is.drop fix)[p-fix]?=some (nth is p):=by
        rw[List.getElem?_drop,show fix+(p-fix)=p by omega];exact kP hp
       exact List.mem_of_getElem? h3
      have:=o3' _ this
      omega
    have e5:=ZH p (by omega)
    rw[hleft p hp] at e5
    rw[e5,hfix p hpf]
    exact h.bU.2 _ hi
   ·have:=h.bU.1;omega
  ·rw[Xz i hm];exact h.bU.2 i hi
 have hother:∀{i:Nat} {c:Ch},(i,c)∈s.H->i∉is->i∉ids:=fun hic hni hm=>by
  rcases (hmem _).1 hm with h1 | h1
  ·exact hni h1
  ·have:=(h.aJ _ _ hic).1;omega
 have hA:aD C {L:=rH (bn (iI fix is)) s.L,H:=oQ (bn (iI fix is)) (aH is s.H),m:=s.m+n} a w' ρ' F':=by
  refine h.change (bn (iI fix is)) (fun u v hu hr=>R0.bn (m:=s.m) (fun i hi hni=>?_) hFF hwF hu hr) (fun t v hv=>?_) (fun i c hc=>?_) hFF hwF hlt NQ (by omega) (fun k hk=>?_) ZI
  ·by_cases hm:i∈ids
   ·rcases (hmem i).1 hm with h1 | h1
    ·obtain⟨p,hp⟩:=List.getElem?_of_mem h1
     have hlt:=(List.getElem?_eq_some_iff.1 hp).1
     rw[kP hlt] at hp
     obtain rfl:=adl hp
     have hpf:p<fix:=by
      rcases Nat.lt_or_ge p fix with h2 | h2
      ·exact h2
      ·refine (hni ?_).elim
       rw[KG]
       have h3:(is.drop fix)[p-fix]?=some (nth is p):=by
        rw[List.getElem?_drop,show fix+(p-fix)=p by omega];exact kP hlt
       exact List.mem_of_getElem? h3
     rw[←hleft p hlt,ZH p (by omega),hfix p hpf,hleft p hlt]
    ·omega
   ·exact Xz i hm
  ·obtain⟨v0,h1,rfl⟩:=DN hv
   exact⟨⟨v0,h1,rfl⟩,Gm (by omega) (h.aP t v0 h1)⟩
  ·obtain⟨c0,h1,rfl⟩:=uz hc
   obtain⟨h1,h2⟩:=bf h1
   refine⟨⟨c0,h1,rfl⟩,Gn (by omega) (h.aJ i c0 h1).2,Xz i (hother h1 h2),fun b e=>by rw[mX] at e;exact⟨hkeep.block b ((h.ch i c0 h1).lt e) (fun hb=>by
    obtain⟨p,c1,hp,k1,k2⟩:=hE b hb
    exact h.sep i (nth is p) c0 c1 b h1 k1 (fun e2=>h2 (by rw[e2];exact rV hp)) e k2),fun hb=>by
    rcases hsub b hb with h3 | h3 | h3
    ·exact h.out i c0 b h1 e h3
    ·have:=(h.ch i c0 h1).lt e;omega
    ·obtain⟨p,c1,hp,k1,k2⟩:=hE b h3
     exact h.sep i (nth is p) c0 c1 b h1 k1 (fun e2=>h2 (by rw[e2];exact rV hp)) e k2⟩⟩
  ·rcases hsub k hk with h1 | h1 | h1
   ·exact h.sub k h1
   ·exact .inr (.inl (Nat.le_trans h.keep.size h1))
   ·obtain⟨p,c0,hp,k1,k2⟩:=hE k h1
    rcases h.mine _ c0 k k1 k2 with h2 | h2
    ·exact .inr (.inl h2)
    ·exact .inr (.inr h2)
 simp only[aL,adg,List.all_eq_true] at hfr
 have RG:∀i,i<H'.length->nth ids i<s.m+n:=fun i hi=>abh _ (rV (by omega))
 refine⟨v,ρ',F',he,?_,D8 RG (hfr.1 r (by simp)),?_⟩
 ·have:=R3.map (p:=fresh H'.length) (k:=bZ ids) (ρ':=ρ') (F':=F') (w':=w') (fun u x hu hr=>R0.ren NP hu hr) (hfr.1 r (by simp)) hr
  exact this
 ·have split:∀{i:Nat} {c:Ch},(i,c)∈mP (rnH ids ids H') (oQ (bn (iI fix is)) (aH is s.H))->(∃p c0,p<H'.length∧nth ids p=i∧H'[p]?=some c0∧c=c0.map (bZ ids))∨(i,c)∈oQ (bn (iI fix is)) (aH is s.H):=by
   intro i c hic
   rw[rU,List.mem_append] at hic
   rcases hic with h1 | h1
   ·obtain⟨p,c0,p1,p2,p3,p4⟩:=D7 h1
    exact .inl ⟨p,c0,by omega,p2,p3,p4⟩
   ·exact .inr h1
  have PX:∀p b,p<H'.length->blk (ρc p)=some b->(w.heap.size≤b∨ownB (fun i=>ρ (nth is i)) H b):=fun p b hp e=>Ke p b hp e
  have U2:∀{p i:Nat} {c:Ch} {b:Nat},p<H'.length->(i,c)∈oQ (bn (iI fix is)) (aH is s.H)->blk (ρc p)=some b->¬bks ρ' i c b:=by
   intro p i c b hp hic e e2
   obtain⟨c0,h1,rfl⟩:=uz hic
   obtain⟨h1,h2⟩:=bf h1
   rw[iT (Xz i (hother h1 h2)),mX] at e2
   rcases PX p b hp e with h3 | h3
   ·have:=(h.ch i c0 h1).lt e2;omega
   ·obtain⟨q,c1,hq,k1,k2⟩:=hE b h3
    exact h.sep i (nth is q) c0 c1 b h1 k1 (fun e3=>h2 (by rw[e3];exact rV hq)) e2 k2
  exact {
      size:=hA.size,defers:=hA.defers,slot:=hA.slot,aP:=hA.aP,lt:=hA.lt,sub:=hA.sub,base:=hA.base,bU:=hA.bU,keep:=hA.keep,env:=hA.env
      ch:=fun i c hic=>by
       rcases split hic with⟨p,c0,p1,rfl,p3,rfl⟩ | h1
       ·exact iG.ren NP p1 (hfr.2 c0 (List.mem_of_getElem? p3)).1 (BU.ch p c0 p3)
       ·exact hA.ch i c h1
      sep:=fun i j ci cj b hi hj hij e=>by
       rcases split hi with⟨p,c0,p1,rfl,p3,rfl⟩ | h1
       ·have e:=dz (by rw[qE];exact (hfr.2 c0 (List.mem_of_getElem? p3)).2) e
        rw[NP p p1] at e
        rcases split hj with⟨q,c1,q1,rfl,q3,rfl⟩ | h2
        ·intro e2
         have e2:=dz (by rw[qE];exact (hfr.2 c1 (List.mem_of_getElem? q3)).2) e2
         rw[NP q q1] at e2
         exact BU.sep p q b p1 q1 (fun e2=>hij (by rw[e2])) e e2
        ·exact U2 p1 h2 e
       ·rcases split hj with⟨q,c1,q1,rfl,q3,rfl⟩ | h2
        ·intro e2
         have e2:=dz (by rw[qE];exact (hfr.2 c1 (List.mem_of_getElem? q3)).2) e2
         rw[NP q q1] at e2
         exact U2 q1 h1 e2 e
        ·exact hA.sep i j ci cj b h1 h2 hij e
      out:=fun i c b hi e=>by
       rcases split hi with⟨p,c0,p1,rfl,p3,rfl⟩ | h1
       ·have e:=dz (by rw[qE];exact (hfr.2 c0 (List.mem_of_getElem? p3)).2) e
        rw[NP p p1] at e;exact BU.out p b p1 e
       ·exact hA.out i c b h1 e
      aJ:=fun i c hi=>by
       rcases split hi with⟨p,c0,p1,rfl,p3,rfl⟩ | h1
       ·exact⟨RG p p1,D9 RG (hfr.2 c0 (List.mem_of_getElem? p3)).1⟩
       ·exact hA.aJ i c h1
      mine:=fun i c b hi e=>by
       rcases split hi with⟨p,c0,p1,rfl,p3,rfl⟩ | h1
       ·have e:=dz (by rw[qE];exact (hfr.2 c0 (List.mem_of_getElem? p3)).2) e
        rw[NP p p1] at e
        rcases PX p b p1 e with h3 | h3
        ·exact .inl (Nat.le_trans h.keep.size h3)
        ·obtain⟨q,c1,hq,k1,k2⟩:=hE b h3
         exact h.mine _ c1 b k1 k2
       ·exact hA.mine i c b h1 e}
theorem y7 {P:Program} {a:Act} {o:Oper} {c:Call} {fo:Operand} (hop:o.op=.call c) (hc:c.callee=.value fo) {f:FuncId} {cs:Array Value} (hf:a.eval fo=.func (.func f) #[] cs) (hcall:iA P f) (w:World) :
  (execOp a.eval o).run P w=.ok (.enter f (c.args.map a.eval++cs)) w:=by
 obtain⟨fn,h1,h2,h3⟩:=hcall
 have hb:fn.body.isNone=false:=by cases hh:fn.body<;>simp_all
 simp only[execOp,hop,resolve,hc,hf,Deferred.ofValue,Sem.run_bind,Sem.run_pure,Result.andThen,invoke,callFunc,program]
 simp [Sem.run,h1,h3,hb]
theorem kH:∀{us vs:List V} {cs:List Value},AEq us vs->aF (R3 ρ F w) us cs->aF (R3 ρ F w) vs cs
 | [],[],_,_,hr=>hr
 | u::us,v::vs,c::cs,h,hr=>⟨wh h.1 hr.1,kH h.2 hr.2⟩
 | u::us,v::vs,[],h,hr=>hr.elim
 | [],_::_,_,h,_=>h.elim
 | _::_,[],_,h,_=>h.elim
theorem Ea (h:aD C s a w ρ F) (wP:g.fix=C.fix) {q:List (Nat×Bool)} (hq:pcA a.tmps q) {o:Oper} {f:FuncId} {A:List V} (hco:iY s.L q o=some (f,A))
  {is:List Nat} {fix:Nat} {args:List V} {H H':List Ch} {r:V} (hp:aI C.pg f fix args H r H') (hA:AEq A (args.map (V.cu (bZ is)))) (hok:xR g s.m is fix H.length=true) (hH:HLE s.H (rnH is is H)) :
  ∃vals,(execOp a.eval o).run C.P w=.ok (.enter f vals) w∧Calls C.P f vals w (fun e w'=>∃v ρ' F',e=.returned v∧R3 ρ' F' w' (r.cu (bZ (mP is (fF s.m (H'.length-is.length))))) v∧(r.cu (bZ (mP is (fF s.m (H'.length-is.length))))).aO (fresh (s.m+(H'.length-is.length)))=true∧
   aD C {L:=rH (bn (iI fix is)) s.L,H:=mP (rnH (mP is (fF s.m (H'.length-is.length))) (mP is (fF s.m (H'.length-is.length))) H') (oQ (bn (iI fix is)) (aH is s.H)),m:=s.m+(H'.length-is.length)} a w' ρ' F'):=by
 obtain⟨hcall,hfr,wO,hfx,hHH,Eb⟩:=hp
 unfold iY at hco
 split at hco
 ·rename_i c hop
  split at hco
  ·rename_i fo hc
   split at hco
   ·rename_i f' caps A' he hes
    simp only[adk,adq] at hco
    obtain⟨rfl,rfl⟩:=hco
    obtain⟨cs,hcs,uH⟩:=(show R1 ρ F w (.fn f' caps) _ from (aA h hq he).1)
    have hargs:=(iV h hq hes).1
    have hok':=hok
    simp only[xR,adg,List.all_eq_true] at hok
    obtain⟨⟨⟨o1,o2⟩,o3⟩,o4⟩:=hok
    have I9:=ado o4
    simp only[aL,adg,List.all_eq_true] at hfr
    have xw:c.args.map a.eval++cs.toArray=(c.args.toList.map a.eval++cs).toArray:=by
     cases c.args;simp
    have hall:aF (R3 ρ F w) (A'++caps) (c.args.toList.map a.eval++cs):=hargs.app (uH.mono fun u v hr=>jI (iZ (qC hr)))
    have Ec:=kH hA hall
    have Ed:aF (R3 (fun i=>ρ (nth is i)) F w) args (c.args.toList.map a.eval++cs):=Ec.unmap fun u v hu hr=>R3.dJ (k:=H.length) (fun _ _=>rfl) (hfr.1 u hu) hr
    have hold:Holds (fun i=>ρ (nth is i)) F w H:=by
     have hx:∀i,i<H.length->∃c,H[i]?=some c∧∃c0,(nth is i,c0)∈s.H∧lS c0 (c.map (bZ is)):=fun i hi=>by
      obtain⟨c0,k1,k2⟩:=mZ I9 hH (adh hi)
      exact⟨_,adh hi,c0,k1,k2⟩
     refine⟨fun i c hc=>?_,fun i j b hi hj hij e=>?_,fun i b hi e=>?_⟩
     ·have hi:=(List.getElem?_eq_some_iff.1 hc).1
      obtain⟨c',hc',c0,k1,k2⟩:=hx i hi
      rw[hc] at hc'
      obtain rfl:=adl hc'
      exact iG.dJ (k:=H.length) (ρ:=fun i=>ρ (nth is i)) (fun _ _=>rfl) hi (hfr.2 c (List.mem_of_getElem? hc)).1 (iK k2 (h.ch _ _ k1))
     ·obtain⟨_,_,c0,k1,_⟩:=hx i hi
      obtain⟨_,_,c1,k3,_⟩:=hx j hj
      exact fun e2=>h.sep _ _ c0 c1 b k1 k3 (gG o1 i j (by omega) (by omega) hij) (aR e) (aR e2)
     ·obtain⟨_,_,c0,k1,_⟩:=hx i hi
      exact h.out _ c0 b k1 (aR e)
    refine⟨_,y7 hop hc hcs hcall w,?_⟩
    rw[xw]
    exact (Eb w F _ _ h.lt h.env hold Ed).mono fun e w' hpost=>aD.called h wP hok' hH hHH wO hpost
   ·simp at hco
  ·simp at hco
 ·simp at hco
variable {K:List Item} {Φ:Exit->St->Prop}
theorem Go.call (hn:g.n=C.n) (wP:g.fix=C.fix) {all:Array Oper} {o:Oper} {rest:List Oper} (is:List Nat) {fix:Nat} {args:List V} {H H':List Ch} {r:V} {f:FuncId} {A:List V} {d:Nat}
  (hp:aI C.pg f fix args H r H') (hgd:o.guard=none) (hd:o.dst=some d) (hdn:Nat.blt d g.n=true) (hco:iY s.L [] o=some (f,A)) (hA:AEq A (args.map (V.cu (bZ is)))) (hok:xR g s.m is fix H.length=true) (hH:HLE s.H (rnH is is H))
  (k:Go C (.ops all rest::K) (after s d is fix r H' []) Φ):Go C (.ops all (o::rest)::K) s Φ:=by
 rintro a w ⟨ρ,F,h⟩
 obtain⟨vals,h1,h2⟩:=Ea h wP (bY _) hco hp hA hok hH
 show eD C.rd C.P all (den C (fE C Φ) K) (o::rest) a w
 refine iJ hgd fun N hN=>?_
 refine nP h1 tR ?_
 rw[Oper.upon_enter]
 refine h2.mono ?_
 rintro e w' ⟨v,ρ',F',rfl,r1,r2,r3⟩
 refine hN _ _ ?_
 rw[hd]
 exact k _ _ ⟨ρ',F',r3.put (by rw[←hn];simpa using hdn) r1 r2⟩
theorem Go.nS (hn:g.n=C.n) (wP:g.fix=C.fix) {all:Array Oper} {o:Oper} {rest:List Oper} {args:List V} {r:V} {f:FuncId} {A:List V} {d j:Nat} {u:Bool} {q:List (Nat×Bool)}
  (hgd:o.guard=some (j,u)) (hgp:yV s.L all j u=some q) (hd:o.dst=some d) (hdn:(Nat.blt d g.n&&!(q.any fun e=>Nat.beq e.1 d)&&r.aO (fresh 0))=true) (hco:iY s.L q o=some (f,A))
  (hp:imp s.L q (Pure C.pg f args r [])) (hA:AEq A (args.map (V.cu (bZ [])))) (hok:xR g s.m [] 0 0=true)
  (k:Go C (.ops all rest::K) {s with L:=put s.L d (.g q r)} Φ):Go C (.ops all (o::rest)::K) s Φ:=by
 rintro a w ⟨ρ,F,h⟩
 simp only[adg,adt] at hdn
 obtain⟨⟨b1,b2⟩,b3⟩:=hdn
 have hgs:=jg h hgp
 have hwant:Region.wanted o (yielded all a.tmps)=true↔pcA a.tmps q:=by rw[←hgs];simp [Region.wanted,hgd]
 show eD C.rd C.P all (den C (fE C Φ) K) (o::rest) a w
 refine mg fun N hN=>?_
 cases hw:Region.wanted o (yielded all a.tmps) with
 | true=>
  have hpc:=hwant.1 hw
  have hp:=kG h hpc hp
  obtain⟨vals,h1,h2⟩:=Ea h wP hpc hco hp hA hok trivial
  simp only[if_true]
  refine nP h1 tR ?_
  rw[Oper.upon_enter]
  refine h2.mono ?_
  rintro e w' ⟨v,ρ',F',rfl,r1,r2,r3⟩
  refine hN _ _ ?_
  rw[hd]
  have hr0:∀u v,fresh 0 u=true->R0 ρ' F' w' (bZ ([]:List Nat) u) v->R0 ρ' F' w' u v:=fun u v hu hr=>by cases u<;>first | exact hr | simp [fresh] at hu
  have r1':R3 ρ' F' w' r v:=R3.dJ (ρ:=ρ') (k:=0) (fun i hi=>by omega) b3 r1
  have hid:rH (bn (iI 0 [])) s.L=s.L:=by
   have hk:(bn (iI 0 ([]:List Nat)))=fun u=>u:=by funext u;cases u<;>rfl
   rw[hk]
   have:∀L,rH (fun u=>u) L=L:=fun L=>by induction L with
    | nil=>rfl
    | cons e L ih=>simp [rH,pE,ih]
   exact this _
  have hidH:oQ (bn (iI 0 [])) (aH [] s.H)=s.H:=by
   have hk:(bn (iI 0 ([]:List Nat)))=fun u=>u:=by funext u;cases u<;>rfl
   rw[hk]
   have h0:∀H,aH [] H=H:=fun H=>by induction H with
    | nil=>rfl
    | cons e L ih=>simp [aH,inL,ih]
   have:∀L,oQ (fun u=>u) L=L:=fun L=>by induction L with
    | nil=>rfl
    | cons e L ih=>simp [oQ,jf,ih]
   rw[h0,this]
  have r3':aD C s a w' ρ' F':=by
   rw[hid,hidH] at r3
   exact r3
  exact k _ _ ⟨ρ',F',r3'.wM (by rw[←hn];simpa using b1) ⟨fun _=>r1',fun hno=>(hno ((gX b2).2 hpc)).elim⟩ (iy (fun u hu=>bM (Nat.zero_le _) hu) b3)⟩
 | false=>
  simp only[adu,if_false]
  have hpc:¬pcA a.tmps q:=fun hc=>by rw[hwant.2 hc] at hw;cases hw
  refine hN _ _ ?_
  rw[hd]
  exact k _ _ ⟨ρ,F,h.wM (by rw[←hn];simpa using b1) ⟨fun hc=>(hpc ((gX b2).1 hc)).elim,fun _=>rfl⟩ (iy (fun u hu=>bM (Nat.zero_le _) hu) b3)⟩
end
end Go.Sx
set_option linter.unusedVariables false
set_option linter.unusedSimpArgs false
namespace Go.Sx
def NR (s:St) (o:Oper):Option (Nat×Nat×ByteArray×Nat):=
 match o.op,o.dst with
 | .next it true,some d=>match ev s.L [] it with
  | some (.ptr id 0)=>match get s.H id with
   | some (.iter b pos)=>some (id,d,b,pos)
   | _=>none
  | _=>none
 | _,_=>none
def frz (id:Nat) (d:D):V->V
 | .own i=>bif Nat.beq i id then .d d else .own i
 | .bA i z k o=>bif Nat.beq i id then .dead else .bA i z k o
 | v=>v
def frozen (s:St) (id:Nat):St:=
 match get s.H id with
 | some (.vec e sz n f)=>{L:=rH (frz id (.sl sz n f)) s.L,H:=oQ (frz id (.sl sz n f)) (jY id s.H),m:=s.m}
 | some (.pos l)=>{L:=rH (frz id (.mp l)) s.L,H:=oQ (frz id (.mp l)) (jY id s.H),m:=s.m}
 | _=>s
section
variable {C:Ctx} {s:St} {a:Act} {w w':World} {ρ:Nat->Value} {F:Nat->Prop} {g:Cfg} {K:List Item} {Φ:Exit->St->Prop}
theorem Go.next (hn:g.n=C.n) {all:Array Oper} {o:Oper} {rest:List Oper} {id d:Nat} {b:ByteArray} {p:Nat} (hgd:o.guard=none) (ho:NR s o=some (id,d,b,p)) (hdn:Nat.blt d g.n=true)
  (h1:p<b.size->Go C (.ops all rest::K) {L:=put s.L d (.tup [vb true,vi (p:Int), .d (.int .i32 ((Utf8.decode b p).1:Int))]),H:=(id, .iter b (p+(Utf8.decode b p).2))::jY id s.H,m:=s.m} Φ)
  (h2:¬p<b.size->Go C (.ops all rest::K) {s with L:=put s.L d (.tup [vb false])} Φ):Go C (.ops all (o::rest)::K) s Φ:=by
 rintro a w ⟨ρ,F,h⟩
 unfold NR at ho
 split at ho
 ·rename_i it d' hop hd
  split at ho
  ·rename_i id' hit
   split at ho
   ·rename_i b' p' hgH
    simp only[adk,adq] at ho
    obtain⟨rfl,rfl,rfl,rfl⟩:=ho
    obtain⟨bl,hb,hv⟩:=(show R0 ρ F w (.ptr id' 0) _ from (aA h (bY _) hit).1)
    obtain⟨bl',hb',hheap⟩:=h.ch id' _ (get_mem hgH)
    rw[hb] at hb'
    simp only[Value.pointer.injEq,adk,Addr.mk.injEq,and_true] at hb'
    subst hb'
    have abk:d'<C.n:=by rw[←hn];simpa using hdn
    by_cases hp:p'<b'.size
    ·have hrun:(execOp a.eval o).run C.P w=.ok (.value (.tuple #[.bool true, .int .i64 (p':Int), .int .i32 ((Utf8.decode b' p').1:Int)])) {w with heap:=w.heap.setIfInBounds bl (.stringIter b' (p'+(Utf8.decode b' p').2))}:=by
      simp only[execOp,hop,hv]
      refine tO ?_
      simp only[Instr.next,getObj,setObj,Sem.run_bind,Sem.run,hheap,Result.andThen,hp,if_true]
      simp [Sem.run,hheap,goInt]
     refine yY hgd (.inl hrun) ?_
     rw[hd]
     have hlt:bl<w.heap.size:=(Array.getElem?_eq_some_iff.1 hheap).1
     have hm:Mod (blk (ρ id')) w {w with heap:=w.heap.setIfInBounds bl (.stringIter b' (p'+(Utf8.decode b' p').2))}:=by
      rw[hb]
      refine⟨rfl,rfl,rfl,by simp,fun k _ hk=>?_⟩
      have:bl≠k:=fun e=>hk (by rw[←e];rfl)
      simp [Array.getElem?_setIfInBounds,this]
     have ht:=h.touch (get_mem hgH) hm (c':=.iter b' (p'+(Utf8.decode b' p').2)) ⟨bl,hb,by simp [hlt]⟩ rfl
     exact h1 hp _ _ ⟨ρ,F,ht.put abk ⟨[.bool true, .int .i64 (p':Int), .int .i32 ((Utf8.decode b' p').1:Int)],rfl,RD.bool _,RD.int _ _,RD.int _ _,tR⟩ rfl⟩
    ·have hrun:(execOp a.eval o).run C.P w=.ok (.value (.tuple #[.bool false])) w:=by
      simp only[execOp,hop,hv]
      refine tO ?_
      simp [Instr.next,getObj,Sem.run,hheap,hp]
     refine yY hgd (.inl hrun) ?_
     rw[hd]
     exact h2 hp _ _ ⟨ρ,F,h.put abk ⟨[.bool false],rfl,RD.bool _,tR⟩ rfl⟩
   ·simp at ho
  ·simp at ho
 ·simp at ho
theorem RH {id m:Nat} {d:D} {u:V} (h:fresh m u=true):fresh m (frz id d u)=true:=by
 cases u with
 | own i=>simp only[frz];cases Nat.beq i id<;>first | exact h | rfl
 | bA i z k o=>simp only[frz];cases Nat.beq i id<;>first | exact h | rfl
 | _=>exact h
theorem nT {id m:Nat} {d:D} {v:V} (hv:v.all1 (fresh m)=true):(v.eG (frz id d)).all1 (fresh m)=true:=by
 cases v with
 | fn g c=>simp only[V.eG,V.all1,List.all_map,List.all_eq_true,Function.comp] at *;exact fun x hx=>RH (hv x hx)
 | own i=>simp only[V.eG,frz];cases Nat.beq i id<;>first | exact hv | rfl
 | bA i z k o=>simp only[V.eG,frz];cases Nat.beq i id<;>first | exact hv | rfl
 | _=>exact hv
theorem rW {id m:Nat} {d:D} {v:V} (hv:v.all2 (fresh m)=true):(v.iw (frz id d)).all2 (fresh m)=true:=by
 cases v with
 | agg us=>simp only[V.iw,V.all2,List.all_map,List.all_eq_true,Function.comp] at *;exact fun x hx=>nT (hv x hx)
 | fn g c=>exact nT (v:=.fn g c) hv
 | own i=>simp only[V.iw,V.eG,frz];cases Nat.beq i id<;>first | exact hv | rfl
 | bA i z k o=>simp only[V.iw,V.eG,frz];cases Nat.beq i id<;>first | exact hv | rfl
 | _=>exact hv
theorem rX {id m:Nat} {d:D} {v:V} (hv:v.aO (fresh m)=true):(v.cu (frz id d)).aO (fresh m)=true:=by
 cases v with
 | tup us=>simp only[V.cu,V.aO,List.all_map,List.all_eq_true,Function.comp] at *;exact fun x hx=>rW (hv x hx)
 | agg us=>exact rW (v:=.agg us) hv
 | fn g c=>exact rW (v:=.fn g c) hv
 | own i=>simp only[V.cu,V.iw,V.eG,frz];cases Nat.beq i id<;>first | exact hv | rfl
 | bA i z k o=>simp only[V.cu,V.iw,V.eG,frz];cases Nat.beq i id<;>first | exact hv | rfl
 | _=>exact hv
theorem NS {id m:Nat} {d:D} {v:V} (hv:v.qd (fresh m)=true):(v.xJ (frz id d)).qd (fresh m)=true:=by
 cases v with
 | g p u=>exact rX hv
 | tup us=>exact rX (v:=.tup us) hv
 | agg us=>exact rX (v:=.agg us) hv
 | fn g c=>exact rX (v:=.fn g c) hv
 | own i=>simp only[V.xJ,V.cu,V.iw,V.eG,frz];cases Nat.beq i id<;>first | exact hv | rfl
 | bA i z k o=>simp only[V.xJ,V.cu,V.iw,V.eG,frz];cases Nat.beq i id<;>first | exact hv | rfl
 | _=>exact hv
theorem aD.toData (h:aD C s a w ρ F) {id:Nat} {c:Ch} {d:D} (hgH:get s.H id=some c) (hdat:RD (fun k=>F k∨blk (ρ id)=some k) w d (ρ id)):Sat C {L:=rH (frz id d) s.L,H:=oQ (frz id d) (jY id s.H),m:=s.m} a w:=by
 let F':Nat->Prop:=fun k=>F k∨blk (ρ id)=some k
 have hFF:∀k,F k->F' k:=fun k hk=>.inl hk
 refine⟨ρ,F',h.change (frz id d) (fun u v hu hr=>?_) (fun t v hv=>?_) (fun i c hc=>?_) hFF (fun _ _=>rfl) (fun k hk=>?_) h.keep (Nat.le_refl _) (fun k hk=>?_) h.bU.2⟩
 ·cases u with
  | own i=>
   simp only[frz]
   cases hi:Nat.beq i id with
   | true=>
    have:=ado hi
    subst this
    obtain⟨h1,_⟩:=hr
    subst h1
    exact hdat
   | false=>exact R0.world (u:=.own i) hFF (fun _ _=>rfl) hr
  | bA i z k o=>
   simp only[frz]
   cases hi:Nat.beq i id with
   | true=>exact hr.one'
   | false=>exact R0.world (u:=.bA i z k o) hFF (fun _ _=>rfl) hr
  | d x=>exact R0.world (u:=.d x) hFF (fun _ _=>rfl) hr
  | gq x=>exact R0.world (u:=.gq x) hFF (fun _ _=>rfl) hr
  | aB=>exact hr
  | ptr i o=>exact hr
  | dead=>exact hr
  | _=>exact hr.elim
 ·obtain⟨v0,h1,rfl⟩:=DN hv
  exact⟨⟨v0,h1,rfl⟩,NS (h.aP t v0 h1)⟩
 ·obtain⟨c0,h1,rfl⟩:=uz hc
  obtain⟨h1,hne⟩:=qD h1
  refine⟨⟨c0,h1,rfl⟩,?_,rfl,fun b e2=>⟨rfl,fun hb=>?_⟩⟩
  ·have:=(h.aJ i c0 h1).2
   cases c0 with
   | box us=>simp only[Ch.map,Ch.all,List.all_map,List.all_eq_true,Function.comp] at *;exact fun y hy=>nT (this y hy)
   | held _ _ _ _ _ u _ _ _=>exact nT (v:=u) this
   | tbl es=>simp only[Ch.map,Ch.all,List.all_map,List.all_eq_true,Function.comp] at *;exact fun y hy=>rW (this y hy)
   | bld T u=>exact nT (v:=u) this
   | _=>rfl
  ·rw[mX] at e2
   rcases hb with hb | hb
   ·exact h.out i c0 b h1 e2 hb
   ·exact h.sep i id c0 _ b h1 (get_mem hgH) hne e2 (aR hb)
 ·rcases hk with hk | hk
  ·exact h.lt k hk
  ·exact (h.ch id _ (get_mem hgH)).lt (aR hk)
 ·rcases hk with hk | hk
  ·exact h.sub k hk
  ·rcases h.mine id _ k (get_mem hgH) (aR hk) with h1 | h1
   ·exact .inr (.inl h1)
   ·exact .inr (.inr h1)
theorem Go.freeze (id:Nat) (k:Go C K (frozen s id) Φ):Go C K s Φ:=by
 rintro a w ⟨ρ,F,h⟩
 refine k a w ?_
 unfold frozen
 split
 ·rename_i e sz n f hgH
  obtain⟨xs,hown,hel⟩:=h.ch id _ (get_mem hgH)
  let F':Nat->Prop:=fun k=>F k∨blk (ρ id)=some k
  have hFF:∀k,F k->F' k:=fun k hk=>.inl hk
  have hdat:RD F' w (.sl sz n f) (ρ id):=by
   rcases hown.2 with⟨h1,h2⟩ | ⟨b,cap,cur,h1,_,h3,h4,h5,h6,h7⟩
   ·subst h2;rw[h1];exact .emp _ _ _ _
   ·rw[h1]
    refine .sl sz n f b 0 cap (fun i j=>(xs[i*sz+j]?).getD undef) (.inr (by rw[h1];rfl)) h4 (fun i j hi hj=>?_) (fun i hi=>(hel i hi).1) (fun i j d hi hd=>?_)
    ·have hl:=(hel i hi).1
     obtain⟨c,c1,c2⟩:=(hel i hi).2 j _ (adh (show j<(f i).length by omega))
     have:=hown.cells (g:=b) (by rw[h1];rfl) _ _ c1
     rw[Addr.add_lit] at this
     rw[this,c1];rfl
    ·obtain⟨c,c1,c2⟩:=(hel i hi).2 j d hd
     rw[c1]
     exact RD.mono hFF (fun _ _=>rfl) c2
  exact h.toData hgH hdat
 ·rename_i l hgH
  obtain⟨b,arr,clock,e1,e2,e3⟩:=h.ch id _ (get_mem hgH)
  refine h.toData hgH ?_
  rw[e1]
  exact .mp l b arr clock (.inr rfl) e2 e3
 ·exact⟨ρ,F,h⟩
end
end Go.Sx
set_option linter.unusedVariables false
set_option linter.unusedSimpArgs false
namespace Go.Sx
def ZJ:Value->Bool
 | .agg _=>true
 | _=>false
theorem TI.mk' {P:Program} {t:TypeId} {ti:TI} {z:Value} (hu:Nn P t ti.kind) (hi:(P.info? t).map (fun i=>(i.zero,i.size,i.bytes))=some (some z,ti.size,ti.bytes)) (hz:z.cells.size=ti.size)
  (hl:aF oO (match ti.kind with | .array n _=>(List.replicate n ti.zero).flatten | _=>ti.zero) z.cells.toList)  (h1:(!ti.kind.flat||z.oneCell')=true:=by rfl) (h2:(ti.kind.flat||ZJ z)=true:=by rfl):ti.OK P t:=by
 have hagg:=h2
 obtain⟨i,e1,h2⟩:=Option.map_eq_some_iff.1 hi
 simp only[adq] at h2
 refine⟨hu,⟨i,z,e1,h2.2.1,h2.2.2,h2.1,hz,hl⟩,fun i' z' e3 e4 hf=>?_,fun i' z' e3 e4 hf=>?_⟩
 ·rw[e1] at e3
  obtain rfl:=adl e3
  rw[h2.1] at e4
  obtain rfl:=adl e4
  rw[hf] at h1
  simpa using h1
 ·rw[e1] at e3
  obtain rfl:=adl e3
  rw[h2.1] at e4
  obtain rfl:=adl e4
  rw[hf] at hagg
  cases z<;>first | exact⟨_,rfl⟩ | cases hagg
theorem U3 {us vs:List V} {cs ds:List Value} (h1:aF oO us cs) (h2:aF oO vs ds):aF oO (us++vs) (cs++ds):=aF.app h1 h2
theorem Ee {us:List V} {cs:List Value} (h:aF oO us cs) (n:Nat):aF oO (List.replicate n us).flatten (List.replicate n cs).flatten:=by
 induction n with
 | zero=>trivial
 | succ n ih=>simp only[List.replicate_succ,List.flatten_cons];exact U3 h ih
structure Cr (P:Pg) (g:Cfg) (C:Ctx):Prop where
 prog:C.pg=P
 n:g.n=C.n
 fix:g.fix=C.fix
 tys:bP P.P g.tys
structure Cx (P:Pg) (g:Cfg) (C:Ctx):Prop extends Cr P g C where
 rd:C.rd=none
def ji (g:Cfg) (s:St) (o:Oper):Option (FuncId×List V×Nat):=
 match o.guard,o.dst with
 | none,some d=>bif Nat.blt d g.n then match iY s.L [] o with
  | some (f,A)=>some (f,A,d)
  | none=>none
  else none
 | _,_=>none
def nI (g:Cfg) (s:St) (all:Array Oper) (o:Oper):Option (FuncId×List V×Nat×List (Nat×Bool)):=
 match o.guard,o.dst with
 | some (j,u),some d=>match yV s.L all j u with
  | some q=>bif Nat.blt d g.n&&!(q.any fun e=>Nat.beq e.1 d) then match iY s.L q o with
   | some (f,A)=>some (f,A,d,q)
   | none=>none
   else none
  | none=>none
 | _,_=>none
namespace Cr
variable {P:Pg} {g:Cfg} {C:Ctx} (x:Cr P g C) {s s':St} {K K':List Item} {Φ:Exit->St->Prop} {ob:List Prop}
include x
theorem qJ:C.P=P.P:=congrArg Pg.P x.prog
theorem ty:bP C.P g.tys:=x.qJ▸x.tys
theorem cond {b:Bool} {c1 c2:Code} (h:run g 1000 K s []=.cond ob b c1 c2 K' s') (ho:aj ob) (h1:b=true->Go C (.code c1::K') s' Φ) (h2:b=false->Go C (.code c2::K') s' Φ):Go C K s Φ:=
 st x.ty x.n x.fix h ⟨ho,h1,h2⟩
theorem back {J:St->Prop} (h:run g 1000 K s []=.back ob J s') (ho:aj ob) (k:J s'):Go C K s Φ:=
 st x.ty x.n x.fix h ⟨ho,k⟩
theorem exit {e:Exit} (h:run g 1000 K s []=.exit ob e s') (ho:aj ob) (k:Φ e s'):Go C K s Φ:=
 st x.ty x.n x.fix h ⟨ho,k⟩
theorem op {all:Array Oper} {o:Oper} {rest:List Oper} (h:run g 1000 K s []=.op ob all o rest K' s') (ho:aj ob) (k:Go C (.ops all (o::rest)::K') s' Φ):Go C K s Φ:=
 st x.ty x.n x.fix h ⟨ho,k⟩
theorem code {c:Code} (h:run g 1000 K s []=.code ob c K' s') (ho:aj ob) (k:Go C (.code c::K') s' Φ):Go C K s Φ:=
 st x.ty x.n x.fix h ⟨ho,k⟩
theorem loop {α:Type} (I:α->St) (μ:α->Nat) (x0:α) {c:Code} (h:run g 1000 K s []=.loop ob c K' s') (ho:aj ob) (h0:LE g.fix s' (I x0))
  (hr:∀y,Go C (.code c::.back (fun s'=>∃z,μ z<μ y∧LE g.fix s' (I z))::K') (I y) Φ):Go C K s Φ:=
 st x.ty x.n x.fix h ⟨ho,Go.loop x.fix I μ x0 h0 hr⟩
theorem cut {α:Type} (I:α->St) {c:Code} (h1:Go C (.code c::.back (fun s'=>∃y,LE g.fix s' (I y))::K) s Φ) (h2:∀y,Go C K (I y) Φ):Go C (.code c::K) s Φ:=
 Go.cut x.fix I h1 h2
theorem le (h:LE g.fix s s') (k:Go C K s' Φ):Go C K s Φ:=Go.le x.fix h k
theorem pure {all:Array Oper} {o:Oper} {rest:List Oper} {args A:List V} {H':List Ch} {r:V} {f d:Nat} (h:run g 1000 K s []=.op ob all o rest K' s') (ho:aj ob)
  (hco:ji g s' o=some (f,A,d)) (hp:Pure P f args r H') (hA:AEq A (args.map (V.cu (bZ [])))) (k:Go C (.ops all rest::K') (after s' d [] 0 r H' []) Φ):Go C K s Φ:=by
 refine st x.ty x.n x.fix h ⟨ho,?_⟩
 unfold ji at hco
 split at hco
 ·rename_i d' hg hd
  cases hb:Nat.blt d' g.n with
  | false=>rw[hb] at hco;simp at hco
  | true=>
   rw[hb] at hco
   simp only[cond_true] at hco
   split at hco
   ·rename_i f' A' hc
    simp only[adk,adq] at hco
    obtain⟨rfl,rfl,rfl⟩:=hco
    exact Go.call x.n x.fix [] (x.prog▸hp) hg hd hb hc hA rfl tR k
   ·simp at hco
 ·simp at hco
theorem call (is:List Nat) {all:Array Oper} {o:Oper} {rest:List Oper} {fix:Nat} {args A:List V} {H H':List Ch} {r:V} {f d:Nat} (h:run g 1000 K s []=.op ob all o rest K' s') (ho:aj ob)
  (hco:ji g s' o=some (f,A,d)) (hp:aI P f fix args H r H') (hok:xR g s'.m is fix H.length=true) (hA:AEq A (args.map (V.cu (bZ is)))) (hH:HLE s'.H (rnH is is H)) (k:Go C (.ops all rest::K') (after s' d is fix r H' []) Φ):Go C K s Φ:=by
 refine st x.ty x.n x.fix h ⟨ho,?_⟩
 unfold ji at hco
 split at hco
 ·rename_i d' hg hd
  cases hb:Nat.blt d' g.n with
  | false=>rw[hb] at hco;simp at hco
  | true=>
   rw[hb] at hco
   simp only[cond_true] at hco
   split at hco
   ·rename_i f' A' hc
    simp only[adk,adq] at hco
    obtain⟨rfl,rfl,rfl⟩:=hco
    exact Go.call x.n x.fix is (x.prog▸hp) hg hd hb hc hA hok hH k
   ·simp at hco
 ·simp at hco
theorem gW {all:Array Oper} {o:Oper} {rest:List Oper} {args A:List V} {r:V} {f d:Nat} {q:List (Nat×Bool)} (h:run g 1000 K s []=.op ob all o rest K' s') (ho:aj ob)
  (hco:nI g s' all o=some (f,A,d,q)) (hp:imp s'.L q (Pure P f args r [])) (hr:r.aO (fresh 0)=true) (hA:AEq A (args.map (V.cu (bZ [])))) (k:Go C (.ops all rest::K') {s' with L:=put s'.L d (.g q r)} Φ):Go C K s Φ:=by
 refine st x.ty x.n x.fix h ⟨ho,?_⟩
 unfold nI at hco
 split at hco
 ·rename_i j u d' hg hd
  split at hco
  ·rename_i q' hq
   cases hb:(Nat.blt d' g.n&&!(q'.any fun e=>Nat.beq e.1 d')) with
   | false=>rw[hb] at hco;simp at hco
   | true=>
    rw[hb] at hco
    simp only[cond_true] at hco
    split at hco
    ·rename_i f' A' hc
     simp only[adk,adq] at hco
     obtain⟨rfl,rfl,rfl,rfl⟩:=hco
     exact Go.nS x.n x.fix hg hq hd (by simp only[adg] at hb ⊢;exact⟨hb,hr⟩) hc (x.prog▸hp) hA rfl k
    ·simp at hco
  ·simp at hco
 ·simp at hco
theorem next {all:Array Oper} {o:Oper} {rest:List Oper} {id d:Nat} {b:ByteArray} {p:Nat} (h:run g 1000 K s []=.op ob all o rest K' s') (ho:aj ob) (hgd:o.guard=none) (hno:NR s' o=some (id,d,b,p)) (hdn:Nat.blt d g.n=true)
  (h1:p<b.size->Go C (.ops all rest::K') {L:=put s'.L d (.tup [vb true,vi (p:Int), .d (.int .i32 ((Utf8.decode b p).1:Int))]),H:=(id, .iter b (p+(Utf8.decode b p).2))::jY id s'.H,m:=s'.m} Φ)
  (h2:¬p<b.size->Go C (.ops all rest::K') {s' with L:=put s'.L d (.tup [vb false])} Φ):Go C K s Φ:=
 st x.ty x.n x.fix h ⟨ho,Go.next x.n hgd hno hdn h1 h2⟩
end Cr
def ixL:List V->List (Nat×V)
 | []=>[]
 | [a]=>[(0,a)]
 | [a,b]=>[(0,a),(1,b)]
 | [a,b,c]=>[(0,a),(1,b),(2,c)]
 | [a,b,c,d]=>[(0,a),(1,b),(2,c),(3,d)]
 | [a,b,c,d,e]=>[(0,a),(1,b),(2,c),(3,d),(4,e)]
 | [a,b,c,d,e,f]=>[(0,a),(1,b),(2,c),(3,d),(4,e),(5,f)]
 | [a,b,c,d,e,f,g]=>[(0,a),(1,b),(2,c),(3,d),(4,e),(5,f),(6,g)]
 | [a,b,c,d,e,f,g,h]=>[(0,a),(1,b),(2,c),(3,d),(4,e),(5,f),(6,g),(7,h)]
 | [a,b,c,d,e,f,g,h,i]=>[(0,a),(1,b),(2,c),(3,d),(4,e),(5,f),(6,g),(7,h),(8,i)]
 | [a,b,c,d,e,f,g,h,i,j]=>[(0,a),(1,b),(2,c),(3,d),(4,e),(5,f),(6,g),(7,h),(8,i),(9,j)]
 | [a,b,c,d,e,f,g,h,i,j,k]=>[(0,a),(1,b),(2,c),(3,d),(4,e),(5,f),(6,g),(7,h),(8,i),(9,j),(10,k)]
 | [a,b,c,d,e,f,g,h,i,j,k,l]=>[(0,a),(1,b),(2,c),(3,d),(4,e),(5,f),(6,g),(7,h),(8,i),(9,j),(10,k),(11,l)]
 | l=>ixV 0 l
theorem Ef (l:List V):ixL l=ixV 0 l:=by
 unfold ixL
 split<;>rfl
def ixH:List Ch->List (Nat×Ch)
 | []=>[]
 | [a]=>[(0,a)]
 | [a,b]=>[(0,a),(1,b)]
 | [a,b,c]=>[(0,a),(1,b),(2,c)]
 | [a,b,c,d]=>[(0,a),(1,b),(2,c),(3,d)]
 | [a,b,c,d,e]=>[(0,a),(1,b),(2,c),(3,d),(4,e)]
 | [a,b,c,d,e,f]=>[(0,a),(1,b),(2,c),(3,d),(4,e),(5,f)]
 | [a,b,c,d,e,f,g]=>[(0,a),(1,b),(2,c),(3,d),(4,e),(5,f),(6,g)]
 | [a,b,c,d,e,f,g,h]=>[(0,a),(1,b),(2,c),(3,d),(4,e),(5,f),(6,g),(7,h)]
 | [a,b,c,d,e,f,g,h,i]=>[(0,a),(1,b),(2,c),(3,d),(4,e),(5,f),(6,g),(7,h),(8,i)]
 | [a,b,c,d,e,f,g,h,i,j]=>[(0,a),(1,b),(2,c),(3,d),(4,e),(5,f),(6,g),(7,h),(8,i),(9,j)]
 | [a,b,c,d,e,f,g,h,i,j,k]=>[(0,a),(1,b),(2,c),(3,d),(4,e),(5,f),(6,g),(7,h),(8,i),(9,j),(10,k)]
 | [a,b,c,d,e,f,g,h,i,j,k,l]=>[(0,a),(1,b),(2,c),(3,d),(4,e),(5,f),(6,g),(7,h),(8,i),(9,j),(10,k),(11,l)]
 | l=>ixC 0 l
theorem Eh (l:List Ch):ixH l=ixC 0 l:=by
 unfold ixH
 split<;>rfl
def NT:List Ch->Nat
 | []=>0
 | [_]=>1
 | [_,_]=>2
 | [_,_,_]=>3
 | [_,_,_,_]=>4
 | [_,_,_,_,_]=>5
 | [_,_,_,_,_,_]=>6
 | [_,_,_,_,_,_,_]=>7
 | [_,_,_,_,_,_,_,_]=>8
 | l=>l.length
theorem y8 (l:List Ch):NT l=l.length:=by
 unfold NT
 split<;>rfl
theorem aI.mk {P:Pg} (g:Cfg) (wQ:bP P.P g.tys) (ids:List Nat) {f:FuncId} {fn:Func} {c:Code} {args:List V} {H:List Ch} {r:V} {H':List Ch} {rs:List ResultVar} (hf:P.P.funcs[f]?=some fn) (hb:fn.body=some c) (hname:(fn.name == "runtime.NumGoroutine")=false)
  (hn:g.n=fn.ntmps) (hrs:fn.results=rs.toArray) (hok:(Nat.ble args.length g.n&&aL args H H.length&&aL [r] H' H'.length&&Nat.ble g.fix H.length&&Nat.ble H.length H'.length)=true)
  (hgo:∀(C:Ctx),Cx P g C->Go C [.code c] ⟨ixL args,ixH H,NT H⟩ (Ret g rs ids r H')):aI P f g.fix args H r H':=by
 simp only[adg] at hok
 obtain⟨⟨⟨⟨h1,h2⟩,h3⟩,h4⟩,h5⟩:=hok
 exact aI.intro hf hb hname wQ hn hrs h1 h2 h3 h4 h5 ids fun C e1 e2 e3 _ e5 _=>by rw[←Ef,←Eh,←y8];exact hgo C ⟨⟨e1,e2,e3,wQ⟩,e5⟩
end Go.Sx
set_option linter.unusedVariables false
set_option linter.unusedSimpArgs false
namespace Go.Sx
section
variable {C:Ctx} {s:St} {a:Act} {w:World} {ρ:Nat->Value} {F:Nat->Prop} {g:Cfg} {K:List Item} {Φ:Exit->St->Prop}
theorem aD.leH {H':List (Nat×Ch)} (h:aD C s a w ρ F) (hH:HLE s.H H') (hok:okH s.m H'=true):aD C {s with H:=H'} a w ρ F:=by
 exact
  {
   size:=h.size,defers:=h.defers,slot:=h.slot,aP:=h.aP,lt:=h.lt,sub:=h.sub,base:=h.base,bU:=h.bU,keep:=h.keep,env:=h.env
   ch:=fun i c hc=>by
    obtain⟨u,hu,he⟩:=gY hH hc
    exact iK he (h.ch i u hu)
   sep:=fun i j ci cj b hi hj hij e=>by
    obtain⟨u,hu,he⟩:=gY hH hi
    obtain⟨u2,hu2,he2⟩:=gY hH hj
    exact fun e2=>h.sep i j u u2 b hu hu2 hij (iP he e) (iP he2 e2)
   out:=fun i c b hi e=>by
    obtain⟨u,hu,he⟩:=gY hH hi
    exact h.out i u b hu (iP he e)
   aJ:=fun i c hi=>Dm hok hi
   mine:=fun i c b hi e=>by
    obtain⟨u,hu,he⟩:=gY hH hi
    exact h.mine i u b hu (iP he e)}
theorem XA (L:List (Nat×V)):rH (bn []) L=L:=by
 have hk:(bn ([]:List Nat))=fun u=>u:=by funext u;cases u<;>rfl
 rw[hk]
 induction L with
 | nil=>rfl
 | cons e L ih=>simp [rH,pE,ih]
theorem XB (L:List (Nat×Ch)):oQ (bn []) L=L:=by
 have hk:(bn ([]:List Nat))=fun u=>u:=by funext u;cases u<;>rfl
 rw[hk]
 induction L with
 | nil=>rfl
 | cons e L ih=>simp [oQ,jf,ih]
theorem Go.ZK (hn:g.n=C.n) (wP:g.fix=C.fix) {all:Array Oper} {o:Oper} {rest:List Oper} (is:List Nat) {fix:Nat} {args:List V} {H:List Ch} {r:V} {f:FuncId} {A:List V} {d j:Nat} {u:Bool} {q:List (Nat×Bool)}
  (hgd:o.guard=some (j,u)) (hgp:yV s.L all j u=some q) (hd:o.dst=some d) (hdn:(Nat.blt d g.n&&!(q.any fun e=>Nat.beq e.1 d)&&r.aO (fresh 0))=true) (hco:iY s.L q o=some (f,A))
  (hp:imp s.L q (aI C.pg f fix args H r H)) (hdr:iI fix is=[]) (hA:AEq A (args.map (V.cu (bZ is)))) (hok:xR g s.m is fix H.length=true) (hH:HLE s.H (rnH is is H)) (hH':HLE (mP (rnH is is H) (aH is s.H)) s.H) (hoH:okH s.m s.H=true)
  (k:Go C (.ops all rest::K) {s with L:=put s.L d (.g q r)} Φ):Go C (.ops all (o::rest)::K) s Φ:=by
 rintro a w ⟨ρ,F,h⟩
 simp only[adg,adt] at hdn
 obtain⟨⟨b1,b2⟩,b3⟩:=hdn
 have hgs:=jg h hgp
 have hwant:Region.wanted o (yielded all a.tmps)=true↔pcA a.tmps q:=by rw[←hgs];simp [Region.wanted,hgd]
 show eD C.rd C.P all (den C (fE C Φ) K) (o::rest) a w
 refine mg fun N hN=>?_
 cases hw:Region.wanted o (yielded all a.tmps) with
 | true=>
  have hpc:=hwant.1 hw
  have hp:=kG h hpc hp
  obtain⟨vals,h1,h2⟩:=Ea h wP hpc hco hp hA hok hH
  simp only[if_true]
  refine nP h1 tR ?_
  rw[Oper.upon_enter]
  refine h2.mono ?_
  rintro e w' ⟨v,ρ',F',rfl,r1,r2,r3⟩
  refine hN _ _ ?_
  rw[hd]
  have hl:is.length=H.length:=by
   simp only[xR,adg] at hok
   exact ado hok.2
  have NN:mP is (fF s.m (H.length-is.length))=is:=by
   rw[hl,Nat.sub_self]
   show mP is []=is
   rw[rU,List.append_nil]
  have r1':R3 ρ' F' w' r v:=by
   have hid:(r.cu (bZ (mP is (fF s.m (H.length-is.length)))))=r.cu (bZ []):=by
    have e0:∀(js:List Nat) (u:V),fresh 0 u=true->bZ js u=bZ [] u:=fun js u hu=>by cases u<;>first | rfl | simp [fresh] at hu
    have e1:∀(js:List Nat) (u:V),u.all1 (fresh 0)=true->u.eG (bZ js)=u.eG (bZ []):=fun js u hu=>by
     cases u with
     | fn f c=>simp only[V.eG,V.fn.injEq,true_and];exact List.map_congr_left fun x hx=>e0 js x (by simpa using (List.all_eq_true.1 hu) x hx)
     | _=>(first | exact e0 js (.d _) hu | exact e0 js .aB hu | exact e0 js (.ptr _ _) hu | exact e0 js (.own _) hu | exact e0 js (.bA _ _ _ _) hu | exact e0 js (.gq _) hu | exact e0 js (.fn _ _) hu | exact e0 js (.agg _) hu | exact e0 js (.tup _) hu | exact e0 js (.g _ _) hu | exact e0 js .dead hu)
    have e2:∀(js:List Nat) (u:V),u.all2 (fresh 0)=true->u.iw (bZ js)=u.iw (bZ []):=fun js u hu=>by
     cases u with
     | agg c=>simp only[V.iw,V.agg.injEq];exact List.map_congr_left fun x hx=>e1 js x (by simpa using (List.all_eq_true.1 hu) x hx)
     | _=>(first | exact e1 js (.d _) hu | exact e1 js .aB hu | exact e1 js (.ptr _ _) hu | exact e1 js (.own _) hu | exact e1 js (.bA _ _ _ _) hu | exact e1 js (.gq _) hu | exact e1 js (.fn _ _) hu | exact e1 js (.agg _) hu | exact e1 js (.tup _) hu | exact e1 js (.g _ _) hu | exact e1 js .dead hu)
    cases r with
    | tup c=>simp only[V.cu,V.tup.injEq];exact List.map_congr_left fun x hx=>e2 _ x (by simpa using (List.all_eq_true.1 b3) x hx)
    | _=>(first | rfl | exact e2 _ (.d _) b3 | exact e2 _ .aB b3 | exact e2 _ (.ptr _ _) b3 | exact e2 _ (.own _) b3 | exact e2 _ (.bA _ _ _ _) b3 | exact e2 _ (.gq _) b3 | exact e2 _ (.fn _ _) b3 | exact e2 _ (.agg _) b3 | exact e2 _ (.tup _) b3 | exact e2 _ (.g _ _) b3 | exact e2 _ .dead b3)
   rw[hid] at r1
   exact R3.dJ (ρ:=ρ') (is:=[]) (k:=0) (fun i hi=>by omega) b3 r1
  have r3':aD C s a w' ρ' F':=by
   rw[hdr,XA,XB,NN,hl,Nat.sub_self] at r3
   exact r3.leH hH' hoH
  exact k _ _ ⟨ρ',F',r3'.wM (by rw[←hn];simpa using b1) ⟨fun _=>r1',fun hno=>(hno ((gX b2).2 hpc)).elim⟩ (iy (fun u hu=>bM (Nat.zero_le _) hu) b3)⟩
 | false=>
  simp only[adu,if_false]
  have hpc:¬pcA a.tmps q:=fun hc=>by rw[hwant.2 hc] at hw;cases hw
  refine hN _ _ ?_
  rw[hd]
  exact k _ _ ⟨ρ,F,h.wM (by rw[←hn];simpa using b1) ⟨fun hc=>(hpc ((gX b2).1 hc)).elim,fun _=>rfl⟩ (iy (fun u hu=>bM (Nat.zero_le _) hu) b3)⟩
end
theorem Cr.nS {P:Pg} {g:Cfg} {C:Ctx} (x:Cr P g C) {s s':St} {K K':List Item} {Φ:Exit->St->Prop} {ob:List Prop} (is:List Nat) {all:Array Oper} {o:Oper} {rest:List Oper} {fix:Nat} {args A:List V} {H:List Ch} {r:V} {f d:Nat} {q:List (Nat×Bool)} (h:run g 1000 K s []=.op ob all o rest K' s') (ho:aj ob)
  (hco:nI g s' all o=some (f,A,d,q)) (hp:imp s'.L q (aI P f fix args H r H)) (hr:(r.aO (fresh 0)&&xR g s'.m is fix H.length&&okH s'.m s'.H&&List.isEmpty (iI fix is))=true) (hA:AEq A (args.map (V.cu (bZ is)))) (hH:HLE s'.H (rnH is is H)) (hH':HLE (mP (rnH is is H) (aH is s'.H)) s'.H)
  (k:Go C (.ops all rest::K') {s' with L:=put s'.L d (.g q r)} Φ):Go C K s Φ:=by
 refine st x.ty x.n x.fix h ⟨ho,?_⟩
 unfold nI at hco
 split at hco
 ·rename_i j u d' hg hd
  split at hco
  ·rename_i q' hq
   cases hb:(Nat.blt d' g.n&&!(q'.any fun e=>Nat.beq e.1 d')) with
   | false=>rw[hb] at hco;simp at hco
   | true=>
    rw[hb] at hco
    simp only[cond_true] at hco
    split at hco
    ·rename_i f' A' hc
     simp only[adk,adq] at hco
     obtain⟨rfl,rfl,rfl,rfl⟩:=hco
     simp only[adg,List.isEmpty_iff] at hr
     exact Go.ZK x.n x.fix is hg hq hd (by simp only[adg] at hb ⊢;exact⟨hb,hr.1.1.1⟩) hc (x.prog▸hp) hr.2 hA hr.1.1.2 hH hH' hr.1.2 k
    ·simp at hco
  ·simp at hco
 ·simp at hco
end Go.Sx
set_option linter.unusedVariables false
set_option linter.unusedSimpArgs false
namespace Go.Sx
theorem Post.below {w w':World} {F:Nat->Prop} {ρ:Nat->Value} {r:V} {H':List Ch} {e:Ending} (h:Post w F ρ 0 [] r H' e w'):Go.RowKit.Below w.heap.size w w':=by
 obtain⟨v,ρ',F',_,hk,_⟩:=h
 exact⟨hk.os,hk.tape,hk.output,hk.size,fun k hlt=>hk.block k hlt (fun ⟨i,hi,_⟩=>absurd hi (adp _))⟩
theorem aI.law {P:Pg} {f:FuncId} {args:List V} {H':List Ch} (h:Pure P f args (vb true) H') {w:World} {vals:List Value} {vs:Array Value} (hvs:vs=vals.toArray)
  (NU:je P.env (fun k=>k<w.heap.size) w) (hargs:aF (R3 (fun _=>.bool true) (fun k=>k<w.heap.size) w) args vals):Calls P.P f vs w fun e w'=>e=.returned (.bool true)∧Go.RowKit.Below w.heap.size w w':=by
 subst hvs
 obtain⟨_,_,_,_,_,hc⟩:=h
 refine (hc w (fun k=>k<w.heap.size) (fun _=>.bool true) vals (fun k hk=>hk) NU ⟨fun i c hc=>by simp at hc,fun i j b hi=>absurd hi (adp _),fun i b hi=>absurd hi (adp _)⟩ hargs).mono ?_
 intro e w' hp
 refine⟨?_,hp.below⟩
 obtain⟨v,ρ',F',rfl,_,_,_,_,_,hr,_⟩:=hp
 have:v=.bool true:=by
  cases (show RD F' w' (.bool true) v from hr);rfl
 rw[this]
end Go.Sx
set_option linter.unusedVariables false
set_option linter.unusedSimpArgs false
namespace Go.Sx
inductive QEv where
 | done (ob:List Prop) (s:St)
 | op (ob:List Prop) (o:Oper) (rest:List Oper) (s:St)
 | stuck (why:String)
def oU (g:Cfg) (all:Array Oper):Nat->List Oper->St->List Prop->QEv
 | 0,_,_,_=>.stuck "fuel"
 | n+1,l,⟨L,H,m⟩,ob=>match l with
  | []=>fS ⟨L,H,m⟩ fun S=>fO ob fun ob=>.done ob S
  | o::rest=>match o.guard with
   | none=>match rdE g g.ck ⟨L,H,m⟩ [] o.op with
    | some (v,p)=>match o.dst with
     | some d=>bif Nat.blt d g.n then f3 v fun v=>fL (put L d v) fun L'=>fA ob p fun ob=>oU g all n rest ⟨L',H,m⟩ ob else .stuck "slot"
     | none=>.stuck "no slot"
    | none=>fS ⟨L,H,m⟩ fun S=>fO ob fun ob=>.op ob o rest S
   | some (j,u)=>match yV L all j u with
    | none=>.stuck "guard"
    | some q=>match rdE g g.ck ⟨L,H,m⟩ q o.op with
     | some (v,p)=>match o.dst with
      | some d=>bif Nat.blt d g.n&&!(q.any fun e=>Nat.beq e.1 d)&&v.aO (fresh m) then fIs L q p fun p=>f3 v fun v=>fP q fun q=>fL (put L d (.g q v)) fun L'=>fA ob p fun ob=>oU g all n rest ⟨L',H,m⟩ ob else .stuck "slot"
      | none=>.stuck "no slot"
     | none=>fS ⟨L,H,m⟩ fun S=>fO ob fun ob=>.op ob o rest S
def QGo (C:Ctx) (all:Array Oper) (l:List Oper) (s:St) (K:List Item) (Φ:Exit->St->Prop):Prop:=
 ∀a w ρ F,aD C s a w ρ F->wpQuiet C.P all (Mod none w) (fun a'=>∀w',Mod none w w'->den C (fE C Φ) K .normal a' w') l a
def QEv.holds (C:Ctx) (all:Array Oper) (K:List Item) (Φ:Exit->St->Prop):QEv->Prop
 | .done ob s=>aj ob∧Go C K s Φ
 | .op ob o rest s=>aj ob∧QGo C all (o::rest) s K Φ
 | .stuck _=>False
section
variable {C:Ctx} {s:St} {a:Act} {w w':World} {ρ:Nat->Value} {F:Nat->Prop} {g:Cfg} {K:List Item} {Φ:Exit->St->Prop}
theorem aD.mod (h:aD C s a w ρ F) (hm:Mod none w w'):aD C s a w' ρ F:=by
 have hwF:∀k,F k->w'.heap[k]?=w.heap[k]?:=fun k hk=>hm.block k (h.lt k hk) (by simp)
 refine h.change (fun u=>u) (fun u v hu hr=>hr.keep (x:=s.m) (fun _ _=>rfl) (fun _=>id) hwF (iH (Nat.le_refl _) hu)) (fun t v hv=>⟨⟨v,hv,(pE v).symm⟩,h.aP t v hv⟩) (fun i c hc=>?_) (fun _=>id) hwF (fun k hk=>Nat.lt_of_lt_of_le (h.lt k hk) hm.size) (h.keeps hm (by simp)) (Nat.le_refl _) h.sub h.bU.2
 exact⟨⟨c,hc,(jf c).symm⟩,(h.aJ i c hc).2,rfl,fun b e=>⟨hm.block b ((h.ch i c hc).lt e) (by simp),h.out i c b hc e⟩⟩
theorem Mod.trans {w w' w'':World} (h:Mod none w w') (h':Mod none w' w''):Mod none w w'':=
 ⟨h'.os.trans h.os,h'.tape.trans h.tape,h'.output.trans h.output,Nat.le_trans h.size h'.size,fun k hk _=>(h'.block k (Nat.lt_of_lt_of_le hk h.size) (by simp)).trans (h.block k hk (by simp))⟩
theorem QGo.Ja {all:Array Oper} {o:Oper} {rest:List Oper} {Q:Act->Prop} (hg:o.guard=none) {x:Value}
  (hr:∀w',Mod none w w'->Oper.quietAt C.P o a (Mod none w) w' x) (h:wpQuiet C.P all (Mod none w) Q rest (a.put o.dst x)):wpQuiet C.P all (Mod none w) Q (o::rest) a:=by
 refine wpQuiet_step fun N hN=>?_
 rw[if_pos (by simp [Region.wanted,hg])]
 exact⟨x,hr,hN _ h⟩
theorem QGo.rY {all:Array Oper} {o:Oper} {rest:List Oper} {Q:Act->Prop} {x:Value}
  (hyes:Region.wanted o (yielded all a.tmps)=true->∀w',Mod none w w'->Oper.quietAt C.P o a (Mod none w) w' x) (hno:Region.wanted o (yielded all a.tmps)=false->x=undef)
  (h:wpQuiet C.P all (Mod none w) Q rest (a.put o.dst x)):wpQuiet C.P all (Mod none w) Q (o::rest) a:=by
 refine wpQuiet_step fun N hN=>?_
 cases hw:Region.wanted o (yielded all a.tmps) with
 | true=>rw[if_pos rfl];exact⟨x,hyes hw,hN _ h⟩
 | false=>rw[if_neg (by simp)];exact hN _ (hno hw▸h)
theorem rZ (hg:bP C.P g.tys) (hn:g.n=C.n) {all:Array Oper}:∀(n:Nat) (l:List Oper) (s:St) (ob:List Prop),(oU g all n l s ob).holds C all K Φ->aj ob∧QGo C all l s K Φ:=by
 intro n
 induction n with
 | zero=>intro l s ob h;exact h.elim
 | succ n ih=>
  rintro l ⟨L,H,m⟩ ob h
  cases l with
  | nil=>
   unfold oU at h
   simp only[mD,lD] at h
   exact⟨h.1,fun a w ρ F hs=>wpQuiet_nil fun w' hm=>h.2 a w' ⟨ρ,F,hs.mod hm⟩⟩
  | cons o rest=>
  unfold oU at h
  simp only at h
  split at h
  ·rename_i hgd
   split at h
   ·rename_i v p hrd
    split at h
    ·rename_i d hd
     cases hb:Nat.blt d g.n with
     | false=>rw[hb] at h;exact h.elim
     | true=>
      rw[hb] at h
      simp only[cond_true,DZ,BN,BO] at h
      obtain⟨h1,h2⟩:=ih _ _ _ h
      obtain⟨h3,h4⟩:=nR h1
      refine⟨h3,fun a w ρ F hw=>?_⟩
      obtain⟨x,r1,r2,r3⟩:=yS hg hw (bY _) hrd h4
      refine QGo.Ja hgd (x:=x) (fun w' hm=>?_) ?_
      ·unfold Oper.quietAt
       rw[r3 w' fun k hk=>hm.block k hk (by simp)]
       exact⟨rfl,rfl⟩
      ·rw[hd]
       exact h2 _ _ _ _ (hw.put (by rw[←hn];simpa using hb) r1 r2)
    ·exact h.elim
   ·rw[mD,lD] at h;exact h
  ·rename_i j u hgd
   split at h
   ·exact h.elim
   ·rename_i q hq
    split at h
    ·rename_i v p hrd
     split at h
     ·rename_i d hd
      cases hb:(Nat.blt d g.n&&!(q.any fun e=>Nat.beq e.1 d)&&v.aO (fresh m)) with
      | false=>rw[hb] at h;exact h.elim
      | true=>
       rw[hb] at h
       simp only[cond_true,IZ,DZ,BN,KE,BO] at h
       simp only[adg,adt] at hb
       obtain⟨⟨b1,b2⟩,b3⟩:=hb
       obtain⟨h1,h2⟩:=ih _ _ _ h
       obtain⟨h3,h4⟩:=nR h1
       refine⟨h3,fun a w ρ F hw=>?_⟩
       have hgp:=jg hw hq
       have hwant:Region.wanted o (yielded all a.tmps)=true↔pcA a.tmps q:=by
        rw[←hgp];simp [Region.wanted,hgd]
       by_cases hpc:pcA a.tmps q
       ·obtain⟨x,r1,r2,r3⟩:=yS hg hw hpc hrd (rQ hw hpc h4)
        refine QGo.rY (x:=x) (fun _ w' hm=>?_) (fun hno=>by rw[hwant.2 hpc] at hno;simp at hno) ?_
        ·unfold Oper.quietAt
         rw[r3 w' fun k hk=>hm.block k hk (by simp)]
         exact⟨rfl,rfl⟩
        ·rw[hd]
         exact h2 _ _ _ _ (hw.wM (by rw[←hn];simpa using b1) ⟨fun _=>r1,fun hno=>(hno ((gX b2).2 hpc)).elim⟩ b3)
       ·refine QGo.rY (x:=undef) (fun hyes=>(hpc (hwant.1 hyes)).elim) (fun _=>rfl) ?_
        rw[hd]
        exact h2 _ _ _ _ (hw.wM (by rw[←hn];simpa using b1) ⟨fun hp=>(hpc ((gX b2).1 hp)).elim,fun _=>rfl⟩ b3)
     ·exact h.elim
    ·rw[mD,lD] at h;exact h
def Jb:V->Option Value
 | .d (.int k n)=>some (.int k n)
 | .d (.bool b)=>some (.bool b)
 | .d (.str s)=>some (.string s)
 | _=>none
def BX:List V->Option (List Value)
 | []=>some []
 | v::r=>match Jb v,BX r with
  | some x,some xs=>some (x::xs)
  | _,_=>none
def valOf:V->Option Value
 | .tup us=>match BX us with
  | some xs=>some (.tuple xs.toArray)
  | none=>none
 | v=>Jb v
theorem fG {v:V} {x y:Value} (h:Jb v=some x) (hr:R3 ρ F w v y):y=x:=by
 cases v with
 | d e=>
  cases e<;>simp only[Jb,adk,reduceCtorEq] at h<;>subst h<;>cases (show RD F w _ y from hr)<;>rfl
 | _=>simp [Jb] at h
theorem KH {us:List V}:∀{xs ys:List Value},BX us=some xs->aF (R2 ρ F w) us ys->ys=xs:=by
 induction us with
 | nil=>intro xs ys h hr;cases ys with
  | nil=>simpa [BX] using h
  | cons=>exact hr.elim
 | cons u us ih=>
  intro xs ys h hr
  cases ys with
  | nil=>exact hr.elim
  | cons y ys=>
   simp only[BX] at h
   split at h
   ·rename_i x0 xs0 e1 e2
    simp only[adk] at h
    subst h
    rw[fG e1 (jI hr.1),ih e2 hr.2]
   ·simp at h
theorem pI {v:V} {x y:Value} (h:valOf v=some x) (hr:R3 ρ F w v y):y=x:=by
 cases v with
 | tup us=>
  simp only[valOf] at h
  split at h
  ·rename_i xs e
   simp only[adk] at h
   obtain⟨ys,rfl,hy⟩:=hr
   rw[←h,KH e hy]
  ·simp at h
 | _=>(first | exact fG (v:=.aB) h hr | exact fG (v:=(.ptr _ _)) h hr | exact fG (v:=(.own _)) h hr | exact fG (v:=(.bA _ _ _ _)) h hr | exact fG (v:=(.gq _)) h hr | exact fG (v:=(.fn _ _)) h hr | exact fG (v:=(.agg _)) h hr | exact fG (v:=(.g _ _)) h hr | exact fG (v:=.dead) h hr | exact fG (v:=(.d _)) h hr)
theorem U4 (h:aD C s a w ρ F) (wP:g.fix=C.fix) {q:List (Nat×Bool)} (hq:pcA a.tmps q) {o:Oper} {f:FuncId} {A:List V} (hco:iY s.L q o=some (f,A))
  {is:List Nat} {fix:Nat} {args:List V} {H H':List Ch} {r:V} (hp:aI C.pg f fix args H r H') (hA:AEq A (args.map (V.cu (bZ is)))) (hok:xR g s.m is fix H.length=true) (hH:HLE s.H (rnH is is H)) :
  ∃vals,(execOp a.eval o).run C.P w=.ok (.enter f vals) w∧Calls C.P f vals w (Post w F (fun i=>ρ (nth is i)) fix H r H'):=by
 obtain⟨hcall,hfr,wO,hfx,hHH,Eb⟩:=hp
 unfold iY at hco
 split at hco
 ·rename_i c hop
  split at hco
  ·rename_i fo hc
   split at hco
   ·rename_i f' caps A' he hes
    simp only[adk,adq] at hco
    obtain⟨rfl,rfl⟩:=hco
    obtain⟨cs,hcs,uH⟩:=(show R1 ρ F w (.fn f' caps) _ from (aA h hq he).1)
    have hargs:=(iV h hq hes).1
    simp only[xR,adg,List.all_eq_true] at hok
    obtain⟨⟨⟨o1,o2⟩,o3⟩,o4⟩:=hok
    have I9:=ado o4
    simp only[aL,adg,List.all_eq_true] at hfr
    have xw:c.args.map a.eval++cs.toArray=(c.args.toList.map a.eval++cs).toArray:=by
     cases c.args;simp
    have hall:aF (R3 ρ F w) (A'++caps) (c.args.toList.map a.eval++cs):=hargs.app (uH.mono fun u v hr=>jI (iZ (qC hr)))
    have Ec:=kH hA hall
    have Ed:aF (R3 (fun i=>ρ (nth is i)) F w) args (c.args.toList.map a.eval++cs):=Ec.unmap fun u v hu hr=>R3.dJ (k:=H.length) (fun _ _=>rfl) (hfr.1 u hu) hr
    have hold:Holds (fun i=>ρ (nth is i)) F w H:=by
     have hx:∀i,i<H.length->∃c,H[i]?=some c∧∃c0,(nth is i,c0)∈s.H∧lS c0 (c.map (bZ is)):=fun i hi=>by
      obtain⟨c0,k1,k2⟩:=mZ I9 hH (adh hi)
      exact⟨_,adh hi,c0,k1,k2⟩
     refine⟨fun i c hc=>?_,fun i j b hi hj hij e=>?_,fun i b hi e=>?_⟩
     ·have hi:=(List.getElem?_eq_some_iff.1 hc).1
      obtain⟨c',hc',c0,k1,k2⟩:=hx i hi
      rw[hc] at hc'
      obtain rfl:=adl hc'
      exact iG.dJ (k:=H.length) (ρ:=fun i=>ρ (nth is i)) (fun _ _=>rfl) hi (hfr.2 c (List.mem_of_getElem? hc)).1 (iK k2 (h.ch _ _ k1))
     ·obtain⟨_,_,c0,k1,_⟩:=hx i hi
      obtain⟨_,_,c1,k3,_⟩:=hx j hj
      exact fun e2=>h.sep _ _ c0 c1 b k1 k3 (gG o1 i j (by omega) (by omega) hij) (aR e) (aR e2)
     ·obtain⟨_,_,c0,k1,_⟩:=hx i hi
      exact h.out _ c0 b k1 (aR e)
    refine⟨_,y7 hop hc hcs hcall w,?_⟩
    rw[xw]
    exact Eb w F _ _ h.lt h.env hold Ed
   ·simp at hco
  ·simp at hco
 ·simp at hco
theorem PY {v:V} {x:Value} (h:Jb v=some x):R0 ρ F w v x:=by
 cases v with
 | d e=>
  cases e<;>simp only[Jb,adk,reduceCtorEq] at h<;>subst h
  ·exact RD.int _ _
  ·exact RD.bool _
  ·exact RD.str _
 | _=>simp [Jb] at h
theorem U5 {us:List V}:∀{xs:List Value},BX us=some xs->aF (R2 ρ F w) us xs:=by
 induction us with
 | nil=>intro xs h;simp [BX] at h;subst h;trivial
 | cons u us ih=>
  intro xs h
  simp only[BX] at h
  split at h
  ·rename_i x0 xs0 e1 e2
   simp only[adk] at h
   subst h
   exact⟨iZ (qC (PY e1)),ih e2⟩
  ·simp at h
theorem XC {v:V} (h:∀us,v≠.tup us):valOf v=Jb v:=by cases v<;>first | rfl | exact (h _ rfl).elim
theorem qK {v:V} {x:Value} (h:valOf v=some x):R3 ρ F w v x:=by
 by_cases ht:∃us,v=.tup us
 ·obtain⟨us,rfl⟩:=ht
  simp only[valOf] at h
  split at h
  ·rename_i xs e
   simp only[adk] at h
   exact⟨xs,h.symm,U5 e⟩
  ·simp at h
 ·rw[XC fun us e=>ht ⟨us,e⟩] at h
  exact jI (iZ (qC (PY h)))
theorem Ei (h:aD C s a w ρ F) (wP:g.fix=C.fix) {q:List (Nat×Bool)} (hq:pcA a.tmps q) {o:Oper} {f:FuncId} {A:List V} (hco:iY s.L q o=some (f,A)) {args:List V} {r:V} {x:Value}
  (hp:Pure C.pg f args r []) (hx:valOf r=some x) (hA:AEq A (args.map (V.cu (bZ [])))) {w':World} (hm:Mod none w w'):Oper.quietAt C.P o a (Mod none w) w' x:=by
 obtain⟨vals,h1,h2⟩:=U4 (h.mod hm) wP hq hco hp hA (show xR g s.m [] 0 0=true from rfl) trivial
 unfold Oper.quietAt
 rw[h1]
 refine⟨rfl,h2.mono ?_⟩
 rintro e w'' ⟨v,ρ',F',rfl,hk,_,_,_,_,hr,_⟩
 rw[pI hx hr]
 exact⟨rfl,hm.trans ⟨hk.os,hk.tape,hk.output,hk.size,fun k hlt _=>hk.block k hlt (fun ⟨i,hi,_⟩=>absurd hi (adp _))⟩⟩
theorem QGo.call (hn:g.n=C.n) (wP:g.fix=C.fix) {all:Array Oper} {o:Oper} {rest:List Oper} {args:List V} {r:V} {f:FuncId} {A:List V} {d:Nat} {x:Value}
  (hp:Pure C.pg f args r []) (hx:valOf r=some x) (hgd:o.guard=none) (hd:o.dst=some d) (hdn:(Nat.blt d g.n&&r.aO (fresh 0))=true) (hco:iY s.L [] o=some (f,A)) (hA:AEq A (args.map (V.cu (bZ []))))
  (k:QGo C all rest {s with L:=put s.L d r} K Φ):QGo C all (o::rest) s K Φ:=by
 intro a w ρ F h
 simp only[adg] at hdn
 refine QGo.Ja hgd (x:=x) (fun w' hm=>Ei h wP (bY _) hco hp hx hA hm) ?_
 rw[hd]
 exact k _ _ _ _ (h.put (by rw[←hn];simpa using hdn.1) (qK hx) (iy (fun u hu=>bM (Nat.zero_le _) hu) hdn.2))
theorem QGo.nS (hn:g.n=C.n) (wP:g.fix=C.fix) {all:Array Oper} {o:Oper} {rest:List Oper} {args:List V} {r:V} {f:FuncId} {A:List V} {d j:Nat} {u:Bool} {q:List (Nat×Bool)} {x:Value}
  (hgd:o.guard=some (j,u)) (hgp:yV s.L all j u=some q) (hd:o.dst=some d) (hdn:(Nat.blt d g.n&&!(q.any fun e=>Nat.beq e.1 d)&&r.aO (fresh 0))=true) (hco:iY s.L q o=some (f,A))
  (hp:imp s.L q (Pure C.pg f args r [])) (hx:valOf r=some x) (hA:AEq A (args.map (V.cu (bZ []))))
  (k:QGo C all rest {s with L:=put s.L d (.g q r)} K Φ):QGo C all (o::rest) s K Φ:=by
 intro a w ρ F h
 simp only[adg,adt] at hdn
 obtain⟨⟨b1,b2⟩,b3⟩:=hdn
 have hgs:=jg h hgp
 have hwant:Region.wanted o (yielded all a.tmps)=true↔pcA a.tmps q:=by rw[←hgs];simp [Region.wanted,hgd]
 have hf:=iy (fun u hu=>bM (Nat.zero_le s.m) hu) b3
 by_cases hpc:pcA a.tmps q
 ·refine QGo.rY (x:=x) (fun _ w' hm=>Ei h wP hpc hco (kG h hpc hp) hx hA hm) (fun hno=>by rw[hwant.2 hpc] at hno;simp at hno) ?_
  rw[hd]
  exact k _ _ _ _ (h.wM (by rw[←hn];simpa using b1) ⟨fun _=>qK hx,fun hno=>(hno ((gX b2).2 hpc)).elim⟩ hf)
 ·refine QGo.rY (x:=undef) (fun hyes=>(hpc (hwant.1 hyes)).elim) (fun _=>rfl) ?_
  rw[hd]
  exact k _ _ _ _ (h.wM (by rw[←hn];simpa using b1) ⟨fun hp=>(hpc ((gX b2).1 hp)).elim,fun _=>rfl⟩ hf)
end
namespace Cx
variable {P:Pg} {g:Cfg} {C:Ctx} (x:Cx P g C) {s s':St} {K K':List Item} {Φ:Exit->St->Prop} {ob:List Prop}
include x
theorem toWp {c:Code} {Q:Exit->Act->World->Prop} {a:Act} {w:World} (h:wq C.rd C.P c Q a w):c.wp C.P Q a w:=by
 rw[x.rd] at h;exact pq.1 h
theorem Gp {c:Code} {Q:Exit->Act->World->Prop} {a:Act} {w:World} (h:c.wp C.P Q a w):wq C.rd C.P c Q a w:=by
 rw[x.rd];exact pq.2 h
theorem quiet {id:Nat} {ops:Array Oper} (h:run g 1000 K s []=.code ob (.region id ops true) K' s') (ho:aj ob) (hm:P.P.follows .mixedOrders=true) (hB:Region.lexB .any ops=true)
  (k:QGo C ops ops.toList s' K' Φ):Go C K s Φ:=by
 refine st x.ty x.n x.fix h ⟨ho,?_⟩
 rintro a w ⟨ρ,F,hs⟩
 have hd:Mod none w {w with drawn:=w.drawn+1}:=⟨rfl,rfl,rfl,Nat.le_refl _,fun _ _ _=>rfl⟩
 refine x.Gp ?_
 exact wp_region_quiet (C:=Mod none w) (x.qJ.symm▸hm) hB hd (k a w ρ F hs)
end Cx
namespace Cr
variable {P:Pg} {g:Cfg} {C:Ctx} (x:Cr P g C) {s s':St} {K K':List Item} {Φ:Exit->St->Prop} {ob:List Prop}
include x
theorem dW {all:Array Oper} {l:List Oper} (h:oU g all 1000 l s []=.done ob s') (ho:aj ob) (k:Go C K s' Φ):QGo C all l s K Φ:=
 (rZ (K:=K) (Φ:=Φ) x.ty x.n 1000 l s [] (by rw[h];exact⟨ho,k⟩)).2
theorem qL {all:Array Oper} {l rest:List Oper} {o:Oper} {args A:List V} {r:V} {f d:Nat} {y:Value} (h:oU g all 1000 l s []=.op ob o rest s') (ho:aj ob)
  (hco:ji g s' o=some (f,A,d)) (hp:Pure P f args r []) (hy:valOf r=some y) (hr:r.aO (fresh 0)=true) (hA:AEq A (args.map (V.cu (bZ [])))) (k:QGo C all rest {s' with L:=put s'.L d r} K Φ):QGo C all l s K Φ:=by
 suffices kk:QGo C all (o::rest) s' K Φ from (rZ (K:=K) (Φ:=Φ) x.ty x.n 1000 l s [] (by rw[h];exact⟨ho,kk⟩)).2
 unfold ji at hco
 split at hco
 ·rename_i d' hg hd
  cases hb:Nat.blt d' g.n with
  | false=>rw[hb] at hco;simp at hco
  | true=>
   rw[hb] at hco
   simp only[cond_true] at hco
   split at hco
   ·rename_i f' A' hc
    simp only[adk,adq] at hco
    obtain⟨rfl,rfl,rfl⟩:=hco
    exact QGo.call x.n x.fix (x.prog▸hp) hy hg hd (by simp only[adg];exact⟨hb,hr⟩) hc hA k
   ·simp at hco
 ·simp at hco
theorem U6 {all:Array Oper} {l rest:List Oper} {o:Oper} {args A:List V} {r:V} {f d:Nat} {q:List (Nat×Bool)} {y:Value} (h:oU g all 1000 l s []=.op ob o rest s') (ho:aj ob)
  (hco:nI g s' all o=some (f,A,d,q)) (hp:imp s'.L q (Pure P f args r [])) (hy:valOf r=some y) (hr:r.aO (fresh 0)=true) (hA:AEq A (args.map (V.cu (bZ [])))) (k:QGo C all rest {s' with L:=put s'.L d (.g q r)} K Φ):QGo C all l s K Φ:=by
 suffices kk:QGo C all (o::rest) s' K Φ from (rZ (K:=K) (Φ:=Φ) x.ty x.n 1000 l s [] (by rw[h];exact⟨ho,kk⟩)).2
 unfold nI at hco
 split at hco
 ·rename_i j u d' hg hd
  split at hco
  ·rename_i q' hq
   cases hb:(Nat.blt d' g.n&&!(q'.any fun e=>Nat.beq e.1 d')) with
   | false=>rw[hb] at hco;simp at hco
   | true=>
    rw[hb] at hco
    simp only[cond_true] at hco
    split at hco
    ·rename_i f' A' hc
     simp only[adk,adq] at hco
     obtain⟨rfl,rfl,rfl,rfl⟩:=hco
     exact QGo.nS x.n x.fix hg hq hd (by simp only[adg] at hb ⊢;exact⟨hb,hr⟩) hc (x.prog▸hp) hy hA k
    ·simp at hco
  ·simp at hco
 ·simp at hco
end Cr
end Go.Sx
set_option linter.unusedVariables false
set_option linter.unusedSimpArgs false
namespace Go.Sx
def aS (l:List Oper):List Nat->List Oper
 | []=>[]
 | i::r=>match l[i]? with
  | some o=>o::aS l r
  | none=>aS l r
def NV (ops:Array Oper) (i:Nat):Bool:=
 match ops[i]? with
 | some o=>match o.guard,o.op with
  | none, .move _=>true
  | none, .assign _=>true
  | _,_=>false
 | none=>false
def RI (i:Nat):List Nat->Bool
 | []=>false
 | j::r=>Nat.beq j i||RI i r
theorem Ej {i:Nat}:∀{l:List Nat},RI i l=true↔i∈l
 | []=>by simp [RI]
 | j::r=>by
  simp only[RI,Bool.or_eq_true,Ej,List.mem_cons]
  constructor
  ·rintro (h | h)
   ·exact .inl (ado h).symm
   ·exact .inr h
  ·rintro (h | h)
   ·exact .inl (by subst h;simp)
   ·exact .inr h
section
variable (md:Region.Mode) (ops:Array Oper)
def PZ (T:List Nat) (listed:Array Bool) (i:Nat):Bool:=(Region.ready md ops listed).contains i&&Region.free md ops listed i&&!RI i T
def El (T:List Nat):List Nat->Array Bool->(Array Bool->Bool)->Bool
 | [],l,k=>k l
 | i::r,l,k=>PZ md ops T l i&&NV ops i&&El T r (l.setIfInBounds i true) k
def tQ (T:List Nat):List Nat->Array Bool->(Array Bool->Bool)->Bool
 | [],l,k=>k l
 | i::r,l,k=>PZ md ops T l i&&tQ T r (l.setIfInBounds i true) k
def uI:List Nat->Array Bool->Bool
 | [],l=>(Region.ready md ops l).isEmpty
 | i::r,l=>decide (Region.ready md ops l=[i])&&uI r (l.setIfInBounds i true)
def uJ (t:Nat):List Nat->Bool
 | []=>true
 | i::r=>(Region.waitsFor md ops t i||r.any fun j=>Region.waitsFor md ops j i)&&uJ t r
def nU:List Nat->Bool
 | a::b::r=>Region.waitsFor md ops b a&&nU (b::r)
 | _=>true
def nV:List Nat->Nat
 | t::_=>t
 | []=>0
def KI (A B T:List Nat):Bool:=
 Region.noSelect ops&&Nat.beq (A.length+B.length+T.length) ops.size&&!T.isEmpty&&T.all (fun t=>Nat.blt t ops.size)&&uJ md ops (nV T) B&&nU md ops T&&
 El md ops T A (Array.replicate ops.size false) fun l=>tQ md ops T B l fun l=>uI md ops T l
end
section
variable {P:Program} {ops:Array Oper} {md:Region.Mode} {Q:Exit->Act->World->Prop} {T:List Nat}
structure Inv (md:Region.Mode) (ops:Array Oper) (T:List Nat) (listed:Array Bool):Prop where
 size:listed.size=ops.size
 closed:∀j oj,ops[j]?=some oj->listed.getD j false=true->∀e∈oj.after,Region.binds md e=true->listed.getD e.on false=true
 tail:∀t∈T,listed.getD t false=false
theorem Inv.set {i:Nat} {listed:Array Bool} (inv:Inv md ops T listed) (hi:i∈Region.ready md ops listed) (hin:i∉T):Inv md ops T (listed.setIfInBounds i true):=by
 obtain⟨_,oi,hoi,hall⟩:=mem_ready.1 hi
 refine⟨by simp [inv.size],fun j oj hj hl e he hb=>?_,fun t ht=>by rw[getD_set_ne false (by rintro rfl;exact hin ht)];exact inv.tail t ht⟩
 by_cases hij:i=j
 ·subst hij
  have:oj=oi:=adl (hj.symm.trans hoi)
  subst this
  exact getD_set_true (hall e he hb)
 ·rw[getD_set_ne false hij] at hl
  exact getD_set_true (inv.closed j oj hj hl e he hb)
theorem Em {t i:Nat} {listed:Array Bool} (ht:t∈Region.ready md ops listed) (hw:Region.waitsFor md ops t i=true):listed.getD i false=true:=by
 obtain⟨_,ot,hot,hall⟩:=mem_ready.1 ht
 obtain⟨o',ho',e,he,hb,hon⟩:=Region.waitsFor_spec hw
 obtain rfl:o'=ot:=adl (ho'.symm.trans hot)
 rw[←hon]
 exact hall e he hb
theorem KJ {t i:Nat} {listed:Array Bool} (inv:Inv md ops T listed) (ht:listed.getD t false=true) (hw:Region.waitsFor md ops t i=true):listed.getD i false=true:=by
 obtain⟨o',ho',e,he,hb,hon⟩:=Region.waitsFor_spec hw
 rw[←hon]
 exact inv.closed t o' ho' ht e he hb
theorem BZ {t:Nat} {listed:Array Bool} (inv:Inv md ops T listed) (ht:t∈Region.ready md ops listed):∀{B:List Nat},uJ md ops t B=true->∀i∈B,listed.getD i false=true
 | b::r,h,i,hi=>by
  simp only[uJ,adg,Bool.or_eq_true,List.any_eq_true] at h
  have ih:=BZ inv ht h.2
  rcases List.mem_cons.1 hi with rfl | hi
  ·rcases h.1 with h1 | ⟨j,hj,hw⟩
   ·exact Em ht h1
   ·exact KJ inv (ih j hj) hw
  ·exact ih i hi
 | [],_,_,hi=>by cases hi
theorem G5 {listed:Array Bool} (inv:Inv md ops T listed):∀{S:List Nat},(∀t∈S,t∈T)->nU md ops S=true->∀t∈S,t∈Region.ready md ops listed->t=nV S
 | [],_,_,t,ht,_=>by cases ht
 | [a],_,_,t,ht,_=>by simpa [nV] using ht
 | a::b::r,hS,h,t,ht,hr=>by
  simp only[nU,adg] at h
  rcases List.mem_cons.1 ht with rfl | ht
  ·rfl
  ·have h1:=G5 inv (fun t ht=>hS t (List.mem_cons_of_mem _ ht)) h.2 t ht hr
   simp only[nV] at h1
   subst h1
   have:=Em hr h.1
   rw[inv.tail a (hS a (by simp))] at this
   cases this
theorem y9 {listed:Array Bool} {B:List Nat} (inv:Inv md ops T listed) (hs:uJ md ops (nV T) B=true) (hc:nU md ops T=true) {i:Nat} (hi:i∈B) (hun:listed.getD i true=false) {j:Nat} (hj:j∈Region.ready md ops listed):j∉T:=by
 intro hjT
 have:=G5 inv (fun _ h=>h) hc j hjT hj
 subst this
 have:=BZ inv hj hs i hi
 rw[getD_both hun] at this
 cases this
variable {C:World->Prop}
def En (P:Program) (md:Region.Mode) (ops:Array Oper) (C:World->Prop) (T:List Nat) (L:Array Bool->Act->Prop):Nat->Array Bool->Act->Prop
 | 0,listed,a=>L listed a
 | f+1,listed,a=>
  Region.ready md ops listed≠[]∧∀i∈Region.ready md ops listed,i∉T∧qOp P ops C i (En P md ops C T L f (listed.setIfInBounds i true)) a
theorem Eo {g:Nat} {L:Array Bool->Act->Prop} (hL:∀listed a w,C w->L listed a->wpAny P md ops Q g listed a w) :
  ∀(f:Nat) (listed:Array Bool) (a:Act) (w:World),C w->En P md ops C T L f listed a->wpAny P md ops Q (f+g) listed a w
 | 0,listed,a,w,hw,h=>by rw[Nat.zero_add];exact hL _ _ _ hw h
 | f+1,listed,a,w,hw,h=>by
  rw[show f+1+g=(f+g)+1 by omega]
  exact⟨fun h0=>absurd h0 h.1,fun i hi=>wpOp_of_qOp hw (fun a' w' hw' h'=>Eo hL f _ a' w' hw' h') (h.2 i hi).2⟩
theorem Jc {B:List Nat} {i:Nat} {oi:Oper} {v:Value} {L:Array Bool->Act->Prop} (hi:ops[i]?=some oi) (hsel:∀(j:Nat) (o:Oper) cs b,ops[j]?=some o->o.op≠.select cs b)
  (hs:uJ md ops (nV T) B=true) (hc:nU md ops T=true) (hin:i∈B)
  (hdone:∀listed a,L listed a->∀j∈Region.ready md ops listed,j∈T) :
  ∀(f:Nat) (listed:Array Bool) (a:Act),Inv md ops T listed->
   (∀j oj,ops[j]?=some oj->j≠i->listed.getD j true=false->(∀e∈oj.after,Region.binds md e=true->e.on≠i)->oi.apart ops oj=true)->
   i∈Region.ready md ops listed->YieldsIn P ops C oi v a->
   En P md ops C T L f (listed.setIfInBounds i true) (a.put oi.dst v)->En P md ops C T L (f+1) listed a:=by
 intro f
 induction f with
 | zero=>
  intro listed a inv _ hr hy H
  have hun:=(mem_ready.1 hr).1
  refine⟨fun h=>(by rw[h] at hr;cases hr),fun j hj=>?_⟩
  have hjn:=y9 inv hs hc hin hun hj
  refine⟨hjn,?_⟩
  by_cases hji:j=i
  ·subst hji;exact hy.qOp hi H
  ·exact absurd (hdone _ _ H j (ready_mono hj hji)) hjn
 | succ f ih=>
  intro listed a inv hfree hr hy H
  have hun:=(mem_ready.1 hr).1
  refine⟨fun h=>(by rw[h] at hr;cases hr),fun j hj=>?_⟩
  have hjn:=y9 inv hs hc hin hun hj
  refine⟨hjn,?_⟩
  by_cases hji:j=i
  ·subst hji;exact hy.qOp hi H
  ·have h1:=(H.2 j (ready_mono hj hji)).2
   obtain⟨hjun,oj,hoj,hall⟩:=mem_ready.1 hj
   have hnot:∀e∈oj.after,Region.binds md e=true->e.on≠i:=fun e he hb heq=>by
    have h1:=hall e he hb
    rw[heq,getD_both hun] at h1
    cases h1
   have h2:=qOp_put hoj (hfree j oj hoj hji hjun hnot) (fun cs b=>hsel i oi cs b hi) (fun cs b=>hsel j oj cs b hoj) hy h1
   have hfree':∀k ok,ops[k]?=some ok->k≠i->(listed.setIfInBounds j true).getD k true=false->
     (∀e∈ok.after,Region.binds md e=true->e.on≠i)->oi.apart ops ok=true:=fun k ok hk hki hun hno=>by
    refine hfree k ok hk hki ?_ hno
    by_cases hjk:j=k
    ·subst hjk;exact hjun
    ·rw[getD_set_ne true hjk] at hun;exact hun
   refine qOp_mono (fun a' h3=>ih (listed.setIfInBounds j true) a' (inv.set hj hjn) hfree' (ready_mono hr (Ne.symm hji)) h3.1 ?_) h2
   rw[Array.setIfInBounds_comm _ _ hji]
   exact h3.2
theorem nJ {l:List Oper} {i:Nat} {o:Oper} {r:List Nat} (h:l[i]?=some o):aS l (i::r)=o::aS l r:=by simp [aS,h]
theorem nW {listed:Array Bool} {i:Nat} (h:PZ md ops T listed i=true):∃o,ops[i]?=some o∧i∈Region.ready md ops listed∧Region.free md ops listed i=true∧i∉T:=by
 simp only[PZ,adg,adt] at h
 have hr:i∈Region.ready md ops listed:=by simpa using h.1.1
 obtain⟨_,o,ho,_⟩:=mem_ready.1 hr
 exact⟨o,ho,hr,h.1.2,fun hm=>by rw[Ej.2 hm] at h;exact absurd h.2 (by simp)⟩
theorem Ca (hs:Region.noSelect ops=true) {B0:List Nat} (hsk:uJ md ops (nV T) B0=true) (hc:nU md ops T=true) {Lq:Act->Prop} :
  ∀(B:List Nat) (listed:Array Bool) (a:Act),(∀i∈B,i∈B0)->Inv md ops T listed->tQ md ops T B listed (fun l=>uI md ops T l)=true->
   wpQuiet P ops C Lq (aS ops.toList B) a->En P md ops C T (fun l a'=>uI md ops T l=true∧Lq a') B.length listed a
 | [],listed,a,_,inv,hp,h=>⟨hp,h⟩
 | i::r,listed,a,hB,inv,hp,h=>by
  simp only[tQ,adg] at hp
  obtain⟨o,ho,hr,hf,hiT⟩:=nW hp.1
  rw[nJ (by simpa using ho)] at h
  have hst:qOp P ops C i (wpQuiet P ops C Lq (aS ops.toList r)) a:=by unfold qOp;simp only[ho];exact h
  obtain⟨v,hy,hK⟩:=yieldsIn_of_qOp ho hst
  refine Jc ho (Region.noSelect_spec hs) hsk hc (hB i (by simp)) ?_ r.length listed a inv (Region.free_spec ho hf) hr hy
   (Ca hs hsk hc r _ _ (fun j hj=>hB j (List.mem_cons_of_mem _ hj)) (inv.set hr hiT) hp.2 hK)
  rintro l a' ⟨hl,_⟩ j hj
  cases hT:T with
  | nil=>rw[hT] at hl;simp only[uI,List.isEmpty_iff] at hl;rw[hl] at hj;cases hj
  | cons t T'=>
   rw[hT] at hl
   simp only[uI,adg,adn] at hl
   rw[hl.1] at hj
   simpa using .inl (List.mem_singleton.1 hj)
theorem xU:∀(T:List Nat) (listed:Array Bool) (a:Act) (w:World),(∀t∈T,t<ops.size)->uI md ops T listed=true->wpList P ops Q (aS ops.toList T) a w->wpAny P md ops Q T.length listed a w
 | [],listed,a,w,_,hB,h=>⟨by simpa [uI] using hB,h⟩
 | i::r,listed,a,w,hlt,hB,h=>by
  simp only[uI,adg,adn] at hB
  have hi:=hlt i (by simp)
  have ho:ops[i]?=some ops[i]:=by simp [hi]
  rw[nJ (o:=ops[i]) (by simp [hi])] at h
  refine⟨fun h1=>(by rw[hB.1] at h1;cases h1),fun k hk=>?_⟩
  rw[hB.1] at hk
  obtain rfl:=List.mem_singleton.1 hk
  have hw:wpOp P ops Q k (wpList P ops Q (aS ops.toList r)) a w:=by unfold wpOp;simp only[ho];exact h
  exact wpOp_mono (fun a' w' h'=>xU r _ a' w' (fun t ht=>hlt t (List.mem_cons_of_mem _ ht)) hB.2 h') hw
theorem Cb (hs:Region.noSelect ops=true) (hQ:∀c a w,¬Q (.panic c) a w) {Lq:List Oper->Act->Prop} {f:Nat} {k:Array Bool->Bool} {w:World} (hw:C w)
  (hk:∀listed a,Inv md ops T listed->k listed=true->Lq [] a->wpAny P md ops Q f listed a w)
  (YP:∀o l a,Lq (o::l) a->if Region.wanted o (yielded ops a.tmps) then o.quiet P a C (Lq l) else Lq l (a.put o.dst undef)) :
  ∀(A:List Nat) (listed:Array Bool) (a:Act),Inv md ops T listed->El md ops T A listed k=true->Lq (aS ops.toList A) a->wpAny P md ops Q (A.length+f) listed a w
 | [],listed,a,inv,hp,h=>by rw[List.length_nil,Nat.zero_add];exact hk _ _ inv hp h
 | i::r,listed,a,inv,hp,h=>by
  simp only[El,adg] at hp
  obtain⟨⟨hp1,hm⟩,hp2⟩:=hp
  obtain⟨o,ho,hr,hf,hiT⟩:=nW hp1
  rw[nJ (by simpa using ho)] at h
  rw[show (i::r).length+f=(r.length+f)+1 by simp;omega]
  have hc:=YP _ _ _ h
  simp only[NV,ho] at hm
  have hgo:∀x:Operand,o.guard=none->(∀w',(execOp a.eval o).run P w'=.ok (.value (a.eval x)) w')->wpAny P md ops Q (r.length+f+1) listed a w:=fun x hg hv=>by
   have hwt:Region.wanted o (yielded ops a.tmps)=true:=by simp [Region.wanted,hg]
   rw[if_pos hwt] at hc
   obtain⟨v,h1,h2⟩:=hc
   have h3:=h1 w hw
   unfold Oper.quietAt at h3
   rw[hv] at h3
   obtain⟨_,rfl⟩:=h3
   exact wpAny_take ho hs hf (by simpa using hr) (fun c a w hq=>absurd hq (hQ c _ w)) (.inl ⟨hwt,hv⟩) (Cb hs hQ hw hk YP r _ _ (inv.set hr hiT) hp2 h2)
  split at hm
  ·rename_i x hg hop
   exact hgo x hg fun w'=>by unfold execOp;rw[hop];rfl
  ·rename_i x hg hop
   exact hgo x hg fun w'=>by unfold execOp;rw[hop];rfl
  ·cases hm
theorem Ep {a:Act} {w:World} {A B T:List Nat} (hp:KI .any ops A B T=true) (hQ:∀c a w,¬Q (.panic c) a w) (hC:C {w with drawn:=w.drawn+1})
  (h:wpQuiet P ops C (fun a'=>∀w',C w'->wpList P ops Q (aS ops.toList T) a' w') (aS ops.toList A++aS ops.toList B) a):wpAny P .any ops Q ops.size (Array.replicate ops.size false) a {w with drawn:=w.drawn+1}:=by
 simp only[KI,adg] at hp
 obtain⟨⟨⟨⟨⟨⟨hs,hsz⟩,hT⟩,hTl⟩,hsk⟩,hch⟩,hpl⟩:=hp
 have inv0:Inv .any ops T (Array.replicate ops.size false):=⟨by simp,fun j oj _ hl=>(by rw[getD_replicate_false] at hl;cases hl),fun t _=>getD_replicate_false _ _⟩
 have hsz:=ado hsz
 have e:A.length+(B.length+T.length)=ops.size:=by omega
 have key:wpAny P .any ops Q (A.length+(B.length+T.length)) (Array.replicate ops.size false) a {w with drawn:=w.drawn+1}:=?_
 ·rw[e] at key;exact key
 refine Cb (C:=C) (T:=T) (Lq:=fun l a=>wpQuiet P ops C (fun a'=>∀w',C w'->wpList P ops Q (aS ops.toList T) a' w') (l++aS ops.toList B) a) hs hQ hC
  (fun listed a inv hk hl=>?_) (fun o l a hl=>hl) A _ a inv0 hpl h
 have hB:=Ca (md:=.any) hs hsk hch B listed a (fun i hi=>hi) inv hk (by simpa using hl)
 refine Eo (g:=T.length) (fun l a' w' hw' hL=>xU T l a' w' (fun t ht=>?_) hL.1 (hL.2 w' hw')) _ _ _ _ hC hB
 have:=List.all_eq_true.1 hTl t ht
 simpa using this
theorem Er {id:Nat} {a:Act} {w:World} {A B T:List Nat} (hm:P.follows .mixedOrders=true) (hp:KI .any ops A B T=true) (hQ:∀c a w,¬Q (.panic c) a w) (hC:C {w with drawn:=w.drawn+1})
  (h:wpQuiet P ops C (fun a'=>∀w',C w'->wpList P ops Q (aS ops.toList T) a' w') (aS ops.toList A++aS ops.toList B) a):(Code.region id ops true).wp P Q a w:=
 wp_region_any hm (Ep hp hQ hC h)
end
theorem nK {C:Ctx} {Q:Exit->Act->World->Prop} (hQ:∀c a w,¬Q (.panic c) a w):∀(K:List Item) (c:_) (a:Act) (w:World),¬den C Q K (.panic c) a w
 | [],c,a,w,h=>hQ c a w h
 | .code _::K,c,a,w,h=>nK hQ K c a w h
 | .ops _ _::K,c,a,w,h=>nK hQ K c a w h
 | .blk _::K,c,a,w,h=>nK hQ K c a w h
 | .back _::K,c,a,w,h=>nK hQ K c a w h
def NoPanic (Φ:Exit->St->Prop):Prop:=∀c s,¬Φ (.panic c) s
theorem Ret.bT {g:Cfg} {rs:List ResultVar} {ids:List Nat} {r:V} {H':List Ch}:NoPanic (Ret g rs ids r H'):=fun c s h=>by
 rcases h.1 with h | h<;>cases h
def lq {α:Type}:List α->List α->List α
 | [],l=>l
 | a::r,l=>a::lq r l
theorem r9 {α:Type} (a b:List α):lq a b=a++b:=by induction a with
 | nil=>rfl
 | cons x a ih=>simp [lq,ih]
theorem nk {P:Program} {ops:Array Oper} {C:World->Prop} {Q Q':Act->Prop} (h:∀a,Q a->Q' a):∀{l:List Oper} {a:Act},wpQuiet P ops C Q l a->wpQuiet P ops C Q' l a
 | [],a,hh=>h a hh
 | o::rest,a,hh=>by
  unfold wpQuiet at *
  split
  ·rename_i hw;simp only[hw,if_true] at hh;exact Oper.quiet_mono (fun a hh=>nk h hh) hh
  ·rename_i hw;simp only[hw] at hh;exact nk h hh
namespace Cx
variable {P:Pg} {g:Cfg} {C:Ctx} (x:Cx P g C) {s s':St} {K K':List Item} {Φ:Exit->St->Prop} {ob:List Prop}
include x
theorem plan (A B T:List Nat) {id:Nat} {ops:Array Oper} (h:run g 1000 K s []=.code ob (.region id ops true) K' s') (ho:aj ob) (hm:P.P.follows .mixedOrders=true) (hB:KI .any ops A B T=true) (hΦ:NoPanic Φ)
  (k:QGo C ops (aS ops.toList (lq A B)) s' (.ops ops (aS ops.toList T)::K') Φ):Go C K s Φ:=by
 refine st x.ty x.n x.fix h ⟨ho,?_⟩
 rintro a w ⟨ρ,F,hs⟩
 have hd:Mod none w {w with drawn:=w.drawn+1}:=⟨rfl,rfl,rfl,Nat.le_refl _,fun _ _ _=>rfl⟩
 have hpk:aS ops.toList (lq A B)=aS ops.toList A++aS ops.toList B:=by
  rw[r9]
  clear k hB
  induction A with
  | nil=>rfl
  | cons i r ih=>
   simp only[List.cons_append,aS]
   split<;>simp [ih]
 rw[hpk] at k
 refine x.Gp ?_
 exact Er (C:=Mod none w) (x.qJ.symm▸hm) hB (nK (fun c a w ⟨s,_,hh⟩=>hΦ c s hh) K') hd (nk (fun a h w' hw'=>(h w' hw').1) (k a w ρ F hs))
end Cx
end Go.Sx
