import Derived.Test.YtojhdmfkfkfcbaaGreatDoorSxD
import Derived.Below
import Derived.DataShut
import Derived.Deep.Quiet
import Derived.StillTail
set_option linter.unusedVariables false
set_option linter.unusedSimpArgs false
namespace Go.Sx
def callOf (L:List (Nat×V)) (q:List (Nat×Bool)) (o:Oper):Option (FuncId×List V):=
 match o.op with
 | .call c=>match c.callee with
  | .value fo=>match ev L q fo,evs L q c.args.toList with
   | some (.fn f caps),some A=>some (f,A++caps)
   | _,_=>none
  | _=>none
 | _=>none
def inL (x:Nat):List Nat->Bool
 | []=>false
 | y::r=>Nat.beq x y||inL x r
def killIn (xs:List Nat):V->V
 | .ptr i o=>bif inL i xs then .dead else .ptr i o
 | .own i=>bif inL i xs then .dead else .own i
 | .vptr i z k o=>bif inL i xs then .dead else .vptr i z k o
 | v=>v
def delAll (is:List Nat):List (Nat×Ch)->List (Nat×Ch)
 | []=>[]
 | (i,c)::r=>bif inL i is then delAll is r else (i,c)::delAll is r
def newIds:Nat->Nat->List Nat
 | _,0=>[]
 | m,n+1=>m::newIds (m+1) n
def app2 {α:Type}:List α->List α->List α
 | [],b=>b
 | a::r,b=>a::app2 r b
def dropN {α:Type}:Nat->List α->List α
 | 0,l=>l
 | _+1,[]=>[]
 | n+1,_::r=>dropN n r
def after (s:St) (d:Nat) (is:List Nat) (fix:Nat) (r:V) (H':List Ch) (q:List (Nat×Bool)):St:=
 let ids:=app2 is (newIds s.m (H'.length-is.length))
 let v:=r.map3 (ren0 ids)
 {L:=put (mapL (killIn (dropN fix is)) s.L) d (match q with | []=>v | q=>.g q v),H:=app2 (rnH ids ids H') (mapH (killIn (dropN fix is)) (delAll is s.H)),m:=s.m+(H'.length-is.length)}
def okIs (g:Cfg) (m:Nat) (is:List Nat) (fix k:Nat):Bool:=nodupB is&&is.all (fun i=>Nat.blt i m)&&(dropN fix is).all (fun i=>Nat.ble g.fix i)&&Nat.beq is.length k
def AEq:List V->List V->Prop
 | [],[]=>True
 | a::r,b::q=>VEq a b∧AEq r q
 | _,_=>False
section
theorem app2_eq {α:Type} (a b:List α):app2 a b=a++b:=by induction a<;>simp [app2, *]
theorem dropN_eq {α:Type} (n:Nat) (l:List α):dropN n l=l.drop n:=by
 induction n generalizing l with
 | zero=>rfl
 | succ n ih=>cases l<;>simp [dropN,ih]
theorem inL_iff {x:Nat} {l:List Nat}:inL x l=true↔x∈l:=by
 induction l with
 | nil=>simp [inL]
 | cons y r ih=>simp [inL,ih]
theorem newIds_len (m n:Nat):(newIds m n).length=n:=by induction n generalizing m<;>simp [newIds, *]
theorem newIds_mem {m n x:Nat}:x∈newIds m n↔m≤x∧x<m+n:=by
 induction n generalizing m with
 | zero=>simp [newIds]
 | succ n ih=>simp only[newIds,List.mem_cons,ih];omega
theorem nth_mem {l:List Nat} {i:Nat} (h:i<l.length):nth l i∈l:=List.mem_of_getElem? (nth_get h)
theorem nth_app_left {a b:List Nat} {i:Nat} (h:i<a.length):nth (app2 a b) i=nth a i:=by
 rw[app2_eq]
 have h1:=nth_get (is:=a++b) (i:=i) (by simp;omega)
 have h2:=nth_get h
 rw[List.getElem?_append_left h,h2] at h1
 exact (Option.some.inj h1).symm
theorem delAll_mem {is:List Nat} {H:List (Nat×Ch)} {i:Nat} {c:Ch} (h:(i,c)∈delAll is H):(i,c)∈H∧i∉is:=by
 induction H with
 | nil=>cases h
 | cons e r ih=>
  obtain⟨j,d⟩:=e
  unfold delAll at h
  cases hj:inL j is with
  | true=>rw[hj] at h;simp at h;exact⟨List.mem_cons_of_mem _ (ih h).1,(ih h).2⟩
  | false=>
   rw[hj] at h
   simp only[cond_false,List.mem_cons,Prod.mk.injEq] at h
   rcases h with⟨rfl,rfl⟩ | h
   ·exact⟨by simp,fun hm=>by rw[inL_iff.2 hm] at hj;cases hj⟩
   ·exact⟨List.mem_cons_of_mem _ (ih h).1,(ih h).2⟩
theorem rnH_of_mem {is:List Nat}:∀{xs:List Nat} {cs:List Ch} {x:Nat} {c':Ch},(x,c')∈rnH is xs cs->∃i c,i<xs.length∧nth xs i=x∧cs[i]?=some c∧c'=c.map (ren0 is)
 | y::xs,d::cs,x,c',h=>by
  rcases List.mem_cons.1 h with e | h
  ·obtain⟨rfl,rfl⟩:=Prod.mk.inj e;exact⟨0,d,by simp,rfl,rfl,rfl⟩
  ·obtain⟨i,c,h1,h2,h3,h4⟩:=rnH_of_mem h
   exact⟨i+1,c,by simpa using h1,h2,by simpa using h3,h4⟩
 | [],_,_,_,h=>by cases h
 | _::_,[],_,_,h=>by cases h
def pos:List Nat->Nat->Option Nat
 | [],_=>none
 | y::r,x=>if y=x then some 0 else (pos r x).map (· + 1)
theorem pos_nth {l:List Nat} (hn:∀i j,i<l.length->j<l.length->i≠j->nth l i≠nth l j) {i:Nat} (h:i<l.length):pos l (nth l i)=some i:=by
 induction l generalizing i with
 | nil=>simp at h
 | cons y r ih=>
  cases i with
  | zero=>simp [pos,nth]
  | succ i=>
   have h0:=hn 0 (i+1) (by simp) h (by omega)
   simp only[nth] at h0
   simp only[pos,nth,h0,if_false]
   rw[ih (fun a b ha hb hab=>hn (a+1) (b+1) (by simpa using ha) (by simpa using hb) (by omega)) (by simpa using h)]
   rfl
theorem pos_none {l:List Nat} {x:Nat} (h:x∉l):pos l x=none:=by
 induction l with
 | nil=>rfl
 | cons y r ih=>
  have h1:¬y=x:=fun e=>h (by simp [e])
  simp only[pos,h1,if_false,ih (fun hm=>h (by simp [hm]))];rfl
end
theorem ren_fresh1 {is:List Nat} {k m:Nat} (hm:∀i,i<k->nth is i<m) {u:V} (h:u.all1 (fresh k)=true):(u.map1 (ren0 is)).all1 (fresh m)=true:=by
 have go:∀id,Nat.blt id k=true->Nat.blt (nth is id) m=true:=fun id h=>by simpa using hm id (by simpa using h)
 have g0:∀u,fresh k u=true->fresh m (ren0 is u)=true:=fun u h=>by cases u<;>first | exact go _ h | rfl
 cases u with
 | fn f c=>simp only[V.map1,V.all1,List.all_map,List.all_eq_true,Function.comp] at *;exact fun x hx=>g0 x (h x hx)
 | ptr i o=>exact go _ h
 | own i=>exact go _ h
 | vptr i z k o=>exact go _ h
 | _=>rfl
theorem ren_fresh2 {is:List Nat} {k m:Nat} (hm:∀i,i<k->nth is i<m) {u:V} (h:u.all2 (fresh k)=true):(u.map2 (ren0 is)).all2 (fresh m)=true:=by
 cases u with
 | agg us=>simp only[V.map2,V.all2,List.all_map,List.all_eq_true,Function.comp] at *;exact fun x hx=>ren_fresh1 hm (h x hx)
 | fn f c=>exact ren_fresh1 (u:=.fn f c) hm h
 | ptr i o=>exact ren_fresh1 (u:=.ptr i o) hm h
 | own i=>exact ren_fresh1 (u:=.own i) hm h
 | vptr i z k o=>exact ren_fresh1 (u:=.vptr i z k o) hm h
 | _=>rfl
theorem ren_fresh3 {is:List Nat} {k m:Nat} (hm:∀i,i<k->nth is i<m) {u:V} (h:u.all3 (fresh k)=true):(u.map3 (ren0 is)).all3 (fresh m)=true:=by
 cases u with
 | tup us=>simp only[V.map3,V.all3,List.all_map,List.all_eq_true,Function.comp] at *;exact fun x hx=>ren_fresh2 hm (h x hx)
 | agg us=>exact ren_fresh2 (u:=.agg us) hm h
 | fn f c=>exact ren_fresh2 (u:=.fn f c) hm h
 | ptr i o=>exact ren_fresh2 (u:=.ptr i o) hm h
 | own i=>exact ren_fresh2 (u:=.own i) hm h
 | vptr i z k o=>exact ren_fresh2 (u:=.vptr i z k o) hm h
 | _=>rfl
theorem ren_freshC {is:List Nat} {k m:Nat} (hm:∀i,i<k->nth is i<m) {c:Ch} (h:c.all (fresh k)=true):(c.map (ren0 is)).all (fresh m)=true:=by
 cases c with
 | box us=>simp only[Ch.map,Ch.all,List.all_map,List.all_eq_true,Function.comp] at *;exact fun x hx=>ren_fresh1 hm (h x hx)
 | held _ _ _ _ _ u _ _ _=>exact ren_fresh1 (u:=u) hm h
 | tbl es=>simp only[Ch.map,Ch.all,List.all_map,List.all_eq_true,Function.comp] at *;exact fun x hx=>ren_fresh2 hm (h x hx)
 | bld T u=>exact ren_fresh1 (u:=u) hm h
 | _=>rfl
theorem killIn_or (xs:List Nat) (u:V):killIn xs u=u∨killIn xs u=.dead:=by
 cases u with
 | ptr i o=>simp only[killIn];cases inL i xs<;>simp
 | own i=>simp only[killIn];cases inL i xs<;>simp
 | vptr i z k o=>simp only[killIn];cases inL i xs<;>simp
 | _=>exact .inl rfl
theorem killIn1_fresh {xs:List Nat} {m m':Nat} (hmm:m≤m') {v:V} (hv:v.all1 (fresh m)=true):(v.map1 (killIn xs)).all1 (fresh m')=true:=by
 have g0:∀u,fresh m u=true->fresh m' (killIn xs u)=true:=fun u h=>by
  rcases killIn_or xs u with e | e<;>rw[e]
  ·exact fresh_mono hmm h
  ·rfl
 have g1:∀u,u.leaf=true->fresh m u=true->(killIn xs u).all1 (fresh m')=true:=fun u hl h=>by
  have h2:=g0 u h
  rcases killIn_or xs u with e | e
  ·rw[e] at h2 ⊢;cases u<;>first | exact h2 | cases hl
  ·rw[e];rfl
 cases v with
 | fn f c=>simp only[V.map1,V.all1,List.all_map,List.all_eq_true,Function.comp] at *;exact fun x hx=>g0 x (hv x hx)
 | ptr i o=>exact g1 (.ptr i o) rfl hv
 | own i=>exact g1 (.own i) rfl hv
 | vptr i z k o=>exact g1 (.vptr i z k o) rfl hv
 | _=>first | rfl | exact all1_imp (fun u hu=>fresh_mono hmm hu) hv
theorem killIn2_fresh {xs:List Nat} {m m':Nat} (hmm:m≤m') {v:V} (hv:v.all2 (fresh m)=true):(v.map2 (killIn xs)).all2 (fresh m')=true:=by
 cases v with
 | agg us=>simp only[V.map2,V.all2,List.all_map,List.all_eq_true,Function.comp] at *;exact fun x hx=>killIn1_fresh hmm (hv x hx)
 | ptr i o=>
  have:=killIn1_fresh (xs:=xs) hmm (v:=.ptr i o) hv
  rcases killIn_or xs (.ptr i o) with e | e<;>(simp only[V.map1] at this;simp only[V.map2,V.map1,e] at this ⊢;exact this)
 | own i=>
  have:=killIn1_fresh (xs:=xs) hmm (v:=.own i) hv
  rcases killIn_or xs (.own i) with e | e<;>(simp only[V.map1] at this;simp only[V.map2,V.map1,e] at this ⊢;exact this)
 | vptr i z k o=>
  have:=killIn1_fresh (xs:=xs) hmm (v:=.vptr i z k o) hv
  rcases killIn_or xs (.vptr i z k o) with e | e<;>(simp only[V.map1] at this;simp only[V.map2,V.map1,e] at this ⊢;exact this)
 | fn f c=>exact killIn1_fresh (v:=.fn f c) hmm hv
 | _=>rfl
theorem killIn3_fresh {xs:List Nat} {m m':Nat} (hmm:m≤m') {v:V} (hv:v.all3 (fresh m)=true):(v.map3 (killIn xs)).all3 (fresh m')=true:=by
 cases v with
 | tup us=>simp only[V.map3,V.all3,List.all_map,List.all_eq_true,Function.comp] at *;exact fun x hx=>killIn2_fresh hmm (hv x hx)
 | agg us=>exact killIn2_fresh (v:=.agg us) hmm hv
 | ptr i o=>
  have:=killIn2_fresh (xs:=xs) hmm (v:=.ptr i o) hv
  rcases killIn_or xs (.ptr i o) with e | e<;>(simp only[V.map2,V.map1] at this;simp only[V.map3,V.map2,V.map1,e] at this ⊢;exact this)
 | own i=>
  have:=killIn2_fresh (xs:=xs) hmm (v:=.own i) hv
  rcases killIn_or xs (.own i) with e | e<;>(simp only[V.map2,V.map1] at this;simp only[V.map3,V.map2,V.map1,e] at this ⊢;exact this)
 | vptr i z k o=>
  have:=killIn2_fresh (xs:=xs) hmm (v:=.vptr i z k o) hv
  rcases killIn_or xs (.vptr i z k o) with e | e<;>(simp only[V.map2,V.map1] at this;simp only[V.map3,V.map2,V.map1,e] at this ⊢;exact this)
 | fn f c=>exact killIn2_fresh (v:=.fn f c) hmm hv
 | _=>rfl
theorem killIn4_fresh {xs:List Nat} {m m':Nat} (hmm:m≤m') {v:V} (hv:v.all4 (fresh m)=true):(v.map4 (killIn xs)).all4 (fresh m')=true:=by
 cases v with
 | g p u=>exact killIn3_fresh hmm hv
 | tup us=>exact killIn3_fresh (v:=.tup us) hmm hv
 | agg us=>exact killIn3_fresh (v:=.agg us) hmm hv
 | ptr i o=>
  have:=killIn3_fresh (xs:=xs) hmm (v:=.ptr i o) hv
  rcases killIn_or xs (.ptr i o) with e | e<;>(simp only[V.map3,V.map2,V.map1] at this;simp only[V.map4,V.map3,V.map2,V.map1,e] at this ⊢;exact this)
 | own i=>
  have:=killIn3_fresh (xs:=xs) hmm (v:=.own i) hv
  rcases killIn_or xs (.own i) with e | e<;>(simp only[V.map3,V.map2,V.map1] at this;simp only[V.map4,V.map3,V.map2,V.map1,e] at this ⊢;exact this)
 | vptr i z k o=>
  have:=killIn3_fresh (xs:=xs) hmm (v:=.vptr i z k o) hv
  rcases killIn_or xs (.vptr i z k o) with e | e<;>(simp only[V.map3,V.map2,V.map1] at this;simp only[V.map4,V.map3,V.map2,V.map1,e] at this ⊢;exact this)
 | fn f c=>exact killIn3_fresh (v:=.fn f c) hmm hv
 | _=>rfl
theorem killInC_fresh {xs:List Nat} {m m':Nat} (hmm:m≤m') {c:Ch} (hc:c.all (fresh m)=true):(c.map (killIn xs)).all (fresh m')=true:=by
 cases c with
 | box us=>simp only[Ch.map,Ch.all,List.all_map,List.all_eq_true,Function.comp] at *;exact fun y hy=>killIn1_fresh hmm (hc y hy)
 | held _ _ _ _ _ u _ _ _=>exact killIn1_fresh (v:=u) hmm hc
 | tbl es=>simp only[Ch.map,Ch.all,List.all_map,List.all_eq_true,Function.comp] at *;exact fun y hy=>killIn2_fresh hmm (hc y hy)
 | bld T u=>exact killIn1_fresh (v:=u) hmm hc
 | _=>rfl
end Go.Sx
set_option linter.unusedVariables false
set_option linter.unusedSimpArgs false
namespace Go.Sx
section
variable {C:Ctx} {s:St} {a:Act} {w w':World} {ρ:Nat->Value} {F:Nat->Prop} {g:Cfg}
theorem R0.killIn {xs:List Nat} {m:Nat} {ρ':Nat->Value} {F':Nat->Prop} (hρ:∀i,i<m->i∉xs->ρ' i=ρ i) (hF:∀k,F k->F' k) (hw:∀k,F k->w'.heap[k]?=w.heap[k]?) {u:V} {v:Value} (hf:fresh m u=true) (h:R0 ρ F w u v):R0 ρ' F' w' (killIn xs u) v:=by
 have one:=h.one'
 have go:∀id,Nat.blt id m=true->inL id xs=false->ρ' id=ρ id:=fun id h1 h2=>hρ id (by simpa using h1) (fun hm=>by rw[inL_iff.2 hm] at h2;cases h2)
 cases u with
 | ptr i o=>
  simp only[Sx.killIn]
  cases hi:inL i xs with
  | true=>exact one
  | false=>obtain⟨b,h1,h2⟩:=h;exact⟨b,by rw[go i hf hi];exact h1,h2⟩
 | own i=>
  simp only[Sx.killIn]
  cases hi:inL i xs with
  | true=>exact one
  | false=>obtain⟨h1,h2⟩:=h;exact⟨by rw[go i hf hi];exact h1,by rw[go i hf hi];exact h2⟩
 | vptr i z k o=>
  simp only[Sx.killIn]
  cases hi:inL i xs with
  | true=>exact one
  | false=>obtain⟨b,h1,h2⟩:=h;exact⟨b,by rw[go i hf hi];exact h1,h2⟩
 | d x=>exact R0.world hF hw h
 | eptr ds=>exact R0.world (u:=.eptr ds) hF hw h
 | nils=>exact h
 | dead=>exact h
 | _=>exact h.elim
theorem SatW.called (h:SatW C s a w ρ F) (hfxg:g.fix=C.fix) {is:List Nat} {fix:Nat} {H H':List Ch} {r:V} {e:Ending}
  (hok:okIs g s.m is fix H.length=true) (hH:HLE s.H (rnH is is H)) (hle:H.length≤H'.length) (hfr:freshAll [r] H' H'.length=true)
  (hpost:Post w F (fun i=>ρ (nth is i)) fix H r H' e w') :
  ∃v ρ' F',e=.returned v∧R3 ρ' F' w' (r.map3 (ren0 (app2 is (newIds s.m (H'.length-is.length))))) v∧(r.map3 (ren0 (app2 is (newIds s.m (H'.length-is.length))))).all3 (fresh (s.m+(H'.length-is.length)))=true∧
   SatW C {L:=mapL (killIn (dropN fix is)) s.L,H:=app2 (rnH (app2 is (newIds s.m (H'.length-is.length))) (app2 is (newIds s.m (H'.length-is.length))) H') (mapH (killIn (dropN fix is)) (delAll is s.H)),m:=s.m+(H'.length-is.length)} a w' ρ' F':=by
 obtain⟨v,ρc,F',he,hkeep,hfix,hFF,hlt,hsub,hr,hhold,hmine⟩:=hpost
 simp only[okIs,Bool.and_eq_true,List.all_eq_true] at hok
 obtain⟨⟨⟨o1,o2⟩,o3⟩,o4⟩:=hok
 have hisl:=Nat.eq_of_beq_eq_true o4
 have o2':∀i∈is,i<s.m:=fun i hi=>by simpa using o2 i hi
 have o3':∀i∈dropN fix is,C.fix≤i:=fun i hi=>by rw[←hfxg];simpa using o3 i hi
 generalize hn:H'.length-is.length=n
 generalize hids:app2 is (newIds s.m n)=ids
 have hidl:ids.length=H'.length:=by rw[←hids,app2_eq,List.length_append,newIds_len];omega
 have hmem:∀x,x∈ids↔x∈is∨(s.m≤x∧x<s.m+n):=fun x=>by rw[←hids,app2_eq,List.mem_append,newIds_mem]
 have hidm:∀x∈ids,x<s.m+n:=fun x hx=>by
  rcases (hmem x).1 hx with h1 | h1
  ·have:=o2' x h1;omega
  ·exact h1.2
 have hleft:∀i,i<is.length->nth ids i=nth is i:=fun i hi=>by rw[←hids];exact nth_app_left hi
 have hnodup:∀i j,i<ids.length->j<ids.length->i≠j->nth ids i≠nth ids j:=by
  have hright:∀n m i,i<n->nth (newIds m n) i=m+i:=by
   intro n
   induction n with
   | zero=>intro m i hi;omega
   | succ n ih=>
    intro m i hi
    cases i with
    | zero=>rfl
    | succ i=>simp only[newIds,nth];rw[ih (m+1) i (by omega)];omega
  have hr2:∀i,is.length≤i->i<ids.length->nth ids i=s.m+(i-is.length):=by
   intro i h1 h2
   have e1:=nth_get h2
   rw[←hids,app2_eq,List.getElem?_append_right h1] at e1
   have hlen:i-is.length<(newIds s.m n).length:=by rw[newIds_len];omega
   rw[nth_get hlen] at e1
   have e2:=Option.some.inj e1
   rw[show is++newIds s.m n=ids by rw[←app2_eq];exact hids] at e2
   rw[←e2,hright n s.m _ (by rw[newIds_len] at hlen;exact hlen)]
  intro i j hi hj hij e
  by_cases h1:i<is.length
  ·by_cases h2:j<is.length
   ·rw[hleft i h1,hleft j h2] at e
    exact nodupB_sound o1 i j h1 h2 hij e
   ·rw[hleft i h1,hr2 j (by omega) hj] at e
    have:=o2' _ (nth_mem h1)
    omega
  ·by_cases h2:j<is.length
   ·rw[hleft j h2,hr2 i (by omega) hi] at e
    have:=o2' _ (nth_mem h2)
    omega
   ·rw[hr2 i (by omega) hi,hr2 j (by omega) hj] at e
    omega
 let ρ':Nat->Value:=fun x=>match pos ids x with | some i=>ρc i | none=>ρ x
 have hρn:∀i,i<ids.length->ρ' (nth ids i)=ρc i:=fun i hi=>by simp only[ρ',pos_nth hnodup hi]
 have hρo:∀x,x∉ids->ρ' x=ρ x:=fun x hx=>by simp only[ρ',pos_none hx]
 have hρk:∀i,i<H'.length->ρ' (nth ids i)=ρc i:=fun i hi=>hρn i (by omega)
 have hpass:∀p,p<is.length->∃c0,(nth is p,c0)∈s.H:=fun p hp=>by
  obtain⟨c0,k1,_⟩:=rnH_mem hisl hH (List.getElem?_eq_getElem (show p<H.length by omega))
  exact⟨c0,k1⟩
 have hE:∀b,ownB (fun i=>ρ (nth is i)) H b->∃p c0,p<is.length∧(nth is p,c0)∈s.H∧bks ρ (nth is p) c0 b:=fun b hb=>by
  obtain⟨p,hp,hb⟩:=hb
  obtain⟨c0,k1⟩:=hpass p (by omega)
  exact⟨p,c0,by omega,k1,bks_main hb⟩
 have hwF:∀k,F k->w'.heap[k]?=w.heap[k]?:=fun k hk=>hkeep.block k (h.lt k hk) (fun hb=>by
  obtain⟨p,c0,hp,k1,k2⟩:=hE k hb
  exact h.out _ c0 k k1 k2 hk)
 have hkeepC:Keeps C.w0 C.E w':=⟨hkeep.os.trans h.keep.os,hkeep.tape.trans h.keep.tape,hkeep.output.trans h.keep.output,Nat.le_trans h.keep.size hkeep.size,fun k hk hne=>by
  refine (hkeep.block k (Nat.lt_of_lt_of_le hk h.keep.size) (fun hb=>?_)).trans (h.keep.block k hk hne)
  obtain⟨p,c0,hp,k1,k2⟩:=hE k hb
  rcases h.mine _ c0 k k1 k2 with h1 | h1
  ·omega
  ·exact hne h1⟩
 have hfixρ:∀i,i<C.fix->ρ' i=C.ρ0 i:=fun i hi=>by
  by_cases hm:i∈ids
  ·rcases (hmem i).1 hm with h1 | h1
   ·obtain⟨p,hp,rfl⟩:∃p,p<is.length∧nth is p=i:=by
     obtain⟨p,hp⟩:=List.getElem?_of_mem h1
     have hlt:=(List.getElem?_eq_some_iff.1 hp).1
     rw[nth_get hlt] at hp
     exact⟨p,hlt,Option.some.inj hp⟩
    have hpf:p<fix:=by
     rcases Nat.lt_or_ge p fix with h2 | h2
     ·exact h2
     ·have:nth is p∈dropN fix is:=by
       rw[dropN_eq]
       have h3:(is.drop fix)[p-fix]?=some (nth is p):=by
        rw[List.getElem?_drop,show fix+(p-fix)=p by omega];exact nth_get hp
       exact List.mem_of_getElem? h3
      have:=o3' _ this
      omega
    have e5:=hρn p (by omega)
    rw[hleft p hp] at e5
    rw[e5,hfix p hpf]
    exact h.fixd.2 _ hi
   ·have:=h.fixd.1;omega
  ·rw[hρo i hm];exact h.fixd.2 i hi
 have hother:∀{i:Nat} {c:Ch},(i,c)∈s.H->i∉is->i∉ids:=fun hic hni hm=>by
  rcases (hmem _).1 hm with h1 | h1
  ·exact hni h1
  ·have:=(h.freshH _ _ hic).1;omega
 have hA:SatW C {L:=mapL (killIn (dropN fix is)) s.L,H:=mapH (killIn (dropN fix is)) (delAll is s.H),m:=s.m+n} a w' ρ' F':=by
  refine h.change (killIn (dropN fix is)) (fun u v hu hr=>R0.killIn (m:=s.m) (fun i hi hni=>?_) hFF hwF hu hr) (fun t v hv=>?_) (fun i c hc=>?_) hFF hwF hlt hkeepC (by omega) (fun k hk=>?_) hfixρ
  ·by_cases hm:i∈ids
   ·rcases (hmem i).1 hm with h1 | h1
    ·obtain⟨p,hp⟩:=List.getElem?_of_mem h1
     have hlt:=(List.getElem?_eq_some_iff.1 hp).1
     rw[nth_get hlt] at hp
     obtain rfl:=Option.some.inj hp
     have hpf:p<fix:=by
      rcases Nat.lt_or_ge p fix with h2 | h2
      ·exact h2
      ·refine (hni ?_).elim
       rw[dropN_eq]
       have h3:(is.drop fix)[p-fix]?=some (nth is p):=by
        rw[List.getElem?_drop,show fix+(p-fix)=p by omega];exact nth_get hlt
       exact List.mem_of_getElem? h3
     rw[←hleft p hlt,hρn p (by omega),hfix p hpf,hleft p hlt]
    ·omega
   ·exact hρo i hm
  ·obtain⟨v0,h1,rfl⟩:=mem_mapL hv
   exact⟨⟨v0,h1,rfl⟩,killIn4_fresh (by omega) (h.freshL t v0 h1)⟩
  ·obtain⟨c0,h1,rfl⟩:=mem_mapH hc
   obtain⟨h1,h2⟩:=delAll_mem h1
   refine⟨⟨c0,h1,rfl⟩,killInC_fresh (by omega) (h.freshH i c0 h1).2,hρo i (hother h1 h2),fun b e=>by rw[bks_map] at e;exact⟨hkeep.block b ((h.ch i c0 h1).lt e) (fun hb=>by
    obtain⟨p,c1,hp,k1,k2⟩:=hE b hb
    exact h.sep i (nth is p) c0 c1 b h1 k1 (fun e2=>h2 (by rw[e2];exact nth_mem hp)) e k2),fun hb=>by
    rcases hsub b hb with h3 | h3 | h3
    ·exact h.out i c0 b h1 e h3
    ·have:=(h.ch i c0 h1).lt e;omega
    ·obtain⟨p,c1,hp,k1,k2⟩:=hE b h3
     exact h.sep i (nth is p) c0 c1 b h1 k1 (fun e2=>h2 (by rw[e2];exact nth_mem hp)) e k2⟩⟩
  ·rcases hsub k hk with h1 | h1 | h1
   ·exact h.sub k h1
   ·exact .inr (.inl (Nat.le_trans h.keep.size h1))
   ·obtain⟨p,c0,hp,k1,k2⟩:=hE k h1
    rcases h.mine _ c0 k k1 k2 with h2 | h2
    ·exact .inr (.inl h2)
    ·exact .inr (.inr h2)
 simp only[freshAll,Bool.and_eq_true,List.all_eq_true] at hfr
 have hfrm:∀i,i<H'.length->nth ids i<s.m+n:=fun i hi=>hidm _ (nth_mem (by omega))
 refine⟨v,ρ',F',he,?_,ren_fresh3 hfrm (hfr.1 r (by simp)),?_⟩
 ·have:=R3.map (p:=fresh H'.length) (k:=ren0 ids) (ρ':=ρ') (F':=F') (w':=w') (fun u x hu hr=>R0.ren hρk hu hr) (hfr.1 r (by simp)) hr
  exact this
 ·have split:∀{i:Nat} {c:Ch},(i,c)∈app2 (rnH ids ids H') (mapH (killIn (dropN fix is)) (delAll is s.H))->(∃p c0,p<H'.length∧nth ids p=i∧H'[p]?=some c0∧c=c0.map (ren0 ids))∨(i,c)∈mapH (killIn (dropN fix is)) (delAll is s.H):=by
   intro i c hic
   rw[app2_eq,List.mem_append] at hic
   rcases hic with h1 | h1
   ·obtain⟨p,c0,p1,p2,p3,p4⟩:=rnH_of_mem h1
    exact .inl ⟨p,c0,by omega,p2,p3,p4⟩
   ·exact .inr h1
  have hnewblk:∀p b,p<H'.length->blk (ρc p)=some b->(w.heap.size≤b∨ownB (fun i=>ρ (nth is i)) H b):=fun p b hp e=>hmine p b hp e
  have hcross:∀{p i:Nat} {c:Ch} {b:Nat},p<H'.length->(i,c)∈mapH (killIn (dropN fix is)) (delAll is s.H)->blk (ρc p)=some b->¬bks ρ' i c b:=by
   intro p i c b hp hic e e2
   obtain⟨c0,h1,rfl⟩:=mem_mapH hic
   obtain⟨h1,h2⟩:=delAll_mem h1
   rw[bks_congr (hρo i (hother h1 h2)),bks_map] at e2
   rcases hnewblk p b hp e with h3 | h3
   ·have:=(h.ch i c0 h1).lt e2;omega
   ·obtain⟨q,c1,hq,k1,k2⟩:=hE b h3
    exact h.sep i (nth is q) c0 c1 b h1 k1 (fun e3=>h2 (by rw[e3];exact nth_mem hq)) e2 k2
  exact {
      size:=hA.size,defers:=hA.defers,slot:=hA.slot,freshL:=hA.freshL,lt:=hA.lt,sub:=hA.sub,base:=hA.base,fixd:=hA.fixd,keep:=hA.keep,env:=hA.env
      ch:=fun i c hic=>by
       rcases split hic with⟨p,c0,p1,rfl,p3,rfl⟩ | h1
       ·exact ChOK.ren hρk p1 (hfr.2 c0 (List.mem_of_getElem? p3)).1 (hhold.ch p c0 p3)
       ·exact hA.ch i c h1
      sep:=fun i j ci cj b hi hj hij e=>by
       rcases split hi with⟨p,c0,p1,rfl,p3,rfl⟩ | h1
       ·have e:=bks_plain (by rw[plain_map];exact (hfr.2 c0 (List.mem_of_getElem? p3)).2) e
        rw[hρk p p1] at e
        rcases split hj with⟨q,c1,q1,rfl,q3,rfl⟩ | h2
        ·intro e2
         have e2:=bks_plain (by rw[plain_map];exact (hfr.2 c1 (List.mem_of_getElem? q3)).2) e2
         rw[hρk q q1] at e2
         exact hhold.sep p q b p1 q1 (fun e2=>hij (by rw[e2])) e e2
        ·exact hcross p1 h2 e
       ·rcases split hj with⟨q,c1,q1,rfl,q3,rfl⟩ | h2
        ·intro e2
         have e2:=bks_plain (by rw[plain_map];exact (hfr.2 c1 (List.mem_of_getElem? q3)).2) e2
         rw[hρk q q1] at e2
         exact hcross q1 h1 e2 e
        ·exact hA.sep i j ci cj b h1 h2 hij e
      out:=fun i c b hi e=>by
       rcases split hi with⟨p,c0,p1,rfl,p3,rfl⟩ | h1
       ·have e:=bks_plain (by rw[plain_map];exact (hfr.2 c0 (List.mem_of_getElem? p3)).2) e
        rw[hρk p p1] at e;exact hhold.out p b p1 e
       ·exact hA.out i c b h1 e
      freshH:=fun i c hi=>by
       rcases split hi with⟨p,c0,p1,rfl,p3,rfl⟩ | h1
       ·exact⟨hfrm p p1,ren_freshC hfrm (hfr.2 c0 (List.mem_of_getElem? p3)).1⟩
       ·exact hA.freshH i c h1
      mine:=fun i c b hi e=>by
       rcases split hi with⟨p,c0,p1,rfl,p3,rfl⟩ | h1
       ·have e:=bks_plain (by rw[plain_map];exact (hfr.2 c0 (List.mem_of_getElem? p3)).2) e
        rw[hρk p p1] at e
        rcases hnewblk p b p1 e with h3 | h3
        ·exact .inl (Nat.le_trans h.keep.size h3)
        ·obtain⟨q,c1,hq,k1,k2⟩:=hE b h3
         exact h.mine _ c1 b k1 k2
       ·exact hA.mine i c b h1 e}
theorem run_call {P:Program} {a:Act} {o:Oper} {c:Call} {fo:Operand} (hop:o.op=.call c) (hc:c.callee=.value fo) {f:FuncId} {cs:Array Value} (hf:a.eval fo=.func (.func f) #[] cs) (hcall:Callable P f) (w:World) :
  (execOp a.eval o).run P w=.ok (.enter f (c.args.map a.eval++cs)) w:=by
 obtain⟨fn,h1,h2,h3⟩:=hcall
 have hb:fn.body.isNone=false:=by cases hh:fn.body<;>simp_all
 simp only[execOp,hop,resolve,hc,hf,Deferred.ofValue,Sem.run_bind,Sem.run_pure,Result.andThen,invoke,callFunc,program]
 simp [Sem.run,h1,h3,hb]
theorem AEq_sound:∀{us vs:List V} {cs:List Value},AEq us vs->All2 (R3 ρ F w) us cs->All2 (R3 ρ F w) vs cs
 | [],[],_,_,hr=>hr
 | u::us,v::vs,c::cs,h,hr=>⟨VEq_sound h.1 hr.1,AEq_sound h.2 hr.2⟩
 | u::us,v::vs,[],h,hr=>hr.elim
 | [],_::_,_,h,_=>h.elim
 | _::_,[],_,h,_=>h.elim
theorem call_run (h:SatW C s a w ρ F) (hfxg:g.fix=C.fix) {q:List (Nat×Bool)} (hq:pcA a.tmps q) {o:Oper} {f:FuncId} {A:List V} (hco:callOf s.L q o=some (f,A))
  {is:List Nat} {fix:Nat} {args:List V} {H H':List Ch} {r:V} (hp:Proc C.pg f fix args H r H') (hA:AEq A (args.map (V.map3 (ren0 is)))) (hok:okIs g s.m is fix H.length=true) (hH:HLE s.H (rnH is is H)) :
  ∃vals,(execOp a.eval o).run C.P w=.ok (.enter f vals) w∧Calls C.P f vals w (fun e w'=>∃v ρ' F',e=.returned v∧R3 ρ' F' w' (r.map3 (ren0 (app2 is (newIds s.m (H'.length-is.length))))) v∧(r.map3 (ren0 (app2 is (newIds s.m (H'.length-is.length))))).all3 (fresh (s.m+(H'.length-is.length)))=true∧
   SatW C {L:=mapL (killIn (dropN fix is)) s.L,H:=app2 (rnH (app2 is (newIds s.m (H'.length-is.length))) (app2 is (newIds s.m (H'.length-is.length))) H') (mapH (killIn (dropN fix is)) (delAll is s.H)),m:=s.m+(H'.length-is.length)} a w' ρ' F'):=by
 obtain⟨hcall,hfr,hfr',hfx,hHH,hcalls⟩:=hp
 unfold callOf at hco
 split at hco
 ·rename_i c hop
  split at hco
  ·rename_i fo hc
   split at hco
   ·rename_i f' caps A' he hes
    simp only[Option.some.injEq,Prod.mk.injEq] at hco
    obtain⟨rfl,rfl⟩:=hco
    obtain⟨cs,hcs,hcaps⟩:=(show R1 ρ F w (.fn f' caps) _ from (ev_sound h hq he).1)
    have hargs:=(evs_sound h hq hes).1
    have hok':=hok
    simp only[okIs,Bool.and_eq_true,List.all_eq_true] at hok
    obtain⟨⟨⟨o1,o2⟩,o3⟩,o4⟩:=hok
    have hisl:=Nat.eq_of_beq_eq_true o4
    simp only[freshAll,Bool.and_eq_true,List.all_eq_true] at hfr
    have hvals:c.args.map a.eval++cs.toArray=(c.args.toList.map a.eval++cs).toArray:=by
     cases c.args;simp
    have hall:All2 (R3 ρ F w) (A'++caps) (c.args.toList.map a.eval++cs):=hargs.app (hcaps.mono fun u v hr=>R3_of (R2_of (R1_of hr)))
    have hall2:=AEq_sound hA hall
    have hall3:All2 (R3 (fun i=>ρ (nth is i)) F w) args (c.args.toList.map a.eval++cs):=hall2.unmap fun u v hu hr=>R3.unren (k:=H.length) (fun _ _=>rfl) (hfr.1 u hu) hr
    have hold:Holds (fun i=>ρ (nth is i)) F w H:=by
     have hx:∀i,i<H.length->∃c,H[i]?=some c∧∃c0,(nth is i,c0)∈s.H∧ChEq c0 (c.map (ren0 is)):=fun i hi=>by
      obtain⟨c0,k1,k2⟩:=rnH_mem hisl hH (List.getElem?_eq_getElem hi)
      exact⟨_,List.getElem?_eq_getElem hi,c0,k1,k2⟩
     refine⟨fun i c hc=>?_,fun i j b hi hj hij e=>?_,fun i b hi e=>?_⟩
     ·have hi:=(List.getElem?_eq_some_iff.1 hc).1
      obtain⟨c',hc',c0,k1,k2⟩:=hx i hi
      rw[hc] at hc'
      obtain rfl:=Option.some.inj hc'
      exact ChOK.unren (k:=H.length) (ρ:=fun i=>ρ (nth is i)) (fun _ _=>rfl) hi (hfr.2 c (List.mem_of_getElem? hc)).1 (ChEq_sound k2 (h.ch _ _ k1))
     ·obtain⟨_,_,c0,k1,_⟩:=hx i hi
      obtain⟨_,_,c1,k3,_⟩:=hx j hj
      exact fun e2=>h.sep _ _ c0 c1 b k1 k3 (nodupB_sound o1 i j (by omega) (by omega) hij) (bks_main e) (bks_main e2)
     ·obtain⟨_,_,c0,k1,_⟩:=hx i hi
      exact h.out _ c0 b k1 (bks_main e)
    refine⟨_,run_call hop hc hcs hcall w,?_⟩
    rw[hvals]
    exact (hcalls w F _ _ h.lt h.env hold hall3).mono fun e w' hpost=>SatW.called h hfxg hok' hH hHH hfr' hpost
   ·simp at hco
  ·simp at hco
 ·simp at hco
variable {K:List Item} {Φ:Exit->St->Prop}
theorem Go.call (hn:g.n=C.n) (hfxg:g.fix=C.fix) {all:Array Oper} {o:Oper} {rest:List Oper} (is:List Nat) {fix:Nat} {args:List V} {H H':List Ch} {r:V} {f:FuncId} {A:List V} {d:Nat}
  (hp:Proc C.pg f fix args H r H') (hgd:o.guard=none) (hd:o.dst=some d) (hdn:Nat.blt d g.n=true) (hco:callOf s.L [] o=some (f,A)) (hA:AEq A (args.map (V.map3 (ren0 is)))) (hok:okIs g s.m is fix H.length=true) (hH:HLE s.H (rnH is is H))
  (k:Go C (.ops all rest::K) (after s d is fix r H' []) Φ):Go C (.ops all (o::rest)::K) s Φ:=by
 rintro a w ⟨ρ,F,h⟩
 obtain⟨vals,h1,h2⟩:=call_run h hfxg (pc_nil _) hco hp hA hok hH
 show wqList C.rd C.P all (den C (conc C Φ) K) (o::rest) a w
 refine wqList_plain hgd fun N hN=>?_
 refine wqO_of h1 tR ?_
 rw[Oper.upon_enter]
 refine h2.mono ?_
 rintro e w' ⟨v,ρ',F',rfl,r1,r2,r3⟩
 refine hN _ _ ?_
 rw[hd]
 exact k _ _ ⟨ρ',F',r3.put (by rw[←hn];simpa using hdn) r1 r2⟩
theorem Go.callG (hn:g.n=C.n) (hfxg:g.fix=C.fix) {all:Array Oper} {o:Oper} {rest:List Oper} {args:List V} {r:V} {f:FuncId} {A:List V} {d j:Nat} {u:Bool} {q:List (Nat×Bool)}
  (hgd:o.guard=some (j,u)) (hgp:gpath s.L all j u=some q) (hd:o.dst=some d) (hdn:(Nat.blt d g.n&&!(q.any fun e=>Nat.beq e.1 d)&&r.all3 (fresh 0))=true) (hco:callOf s.L q o=some (f,A))
  (hp:imp s.L q (Pure C.pg f args r [])) (hA:AEq A (args.map (V.map3 (ren0 [])))) (hok:okIs g s.m [] 0 0=true)
  (k:Go C (.ops all rest::K) {s with L:=put s.L d (.g q r)} Φ):Go C (.ops all (o::rest)::K) s Φ:=by
 rintro a w ⟨ρ,F,h⟩
 simp only[Bool.and_eq_true,Bool.not_eq_true'] at hdn
 obtain⟨⟨b1,b2⟩,b3⟩:=hdn
 have hgs:=gpath_sound h hgp
 have hwant:Region.wanted o (yielded all a.tmps)=true↔pcA a.tmps q:=by rw[←hgs];simp [Region.wanted,hgd]
 show wqList C.rd C.P all (den C (conc C Φ) K) (o::rest) a w
 refine wqList_step fun N hN=>?_
 cases hw:Region.wanted o (yielded all a.tmps) with
 | true=>
  have hpc:=hwant.1 hw
  have hp:=imp_sound h hpc hp
  obtain⟨vals,h1,h2⟩:=call_run h hfxg hpc hco hp hA hok trivial
  simp only[if_true]
  refine wqO_of h1 tR ?_
  rw[Oper.upon_enter]
  refine h2.mono ?_
  rintro e w' ⟨v,ρ',F',rfl,r1,r2,r3⟩
  refine hN _ _ ?_
  rw[hd]
  have hr0:∀u v,fresh 0 u=true->R0 ρ' F' w' (ren0 ([]:List Nat) u) v->R0 ρ' F' w' u v:=fun u v hu hr=>by cases u<;>first | exact hr | simp [fresh] at hu
  have r1':R3 ρ' F' w' r v:=R3.unren (ρ:=ρ') (k:=0) (fun i hi=>by omega) b3 r1
  have hid:mapL (killIn (dropN 0 [])) s.L=s.L:=by
   have hk:(killIn (dropN 0 ([]:List Nat)))=fun u=>u:=by funext u;cases u<;>rfl
   rw[hk]
   have:∀L,mapL (fun u=>u) L=L:=fun L=>by induction L with
    | nil=>rfl
    | cons e L ih=>simp [mapL,map4_id,ih]
   exact this _
  have hidH:mapH (killIn (dropN 0 [])) (delAll [] s.H)=s.H:=by
   have hk:(killIn (dropN 0 ([]:List Nat)))=fun u=>u:=by funext u;cases u<;>rfl
   rw[hk]
   have h0:∀H,delAll [] H=H:=fun H=>by induction H with
    | nil=>rfl
    | cons e L ih=>simp [delAll,inL,ih]
   have:∀L,mapH (fun u=>u) L=L:=fun L=>by induction L with
    | nil=>rfl
    | cons e L ih=>simp [mapH,chmap_id,ih]
   rw[h0,this]
  have r3':SatW C s a w' ρ' F':=by
   rw[hid,hidH] at r3
   exact r3
  exact k _ _ ⟨ρ',F',r3'.putS (by rw[←hn];simpa using b1) ⟨fun _=>r1',fun hno=>(hno ((pcA_put b2).2 hpc)).elim⟩ (all3_imp (fun u hu=>fresh_mono (Nat.zero_le _) hu) b3)⟩
 | false=>
  simp only[Bool.false_eq_true,if_false]
  have hpc:¬pcA a.tmps q:=fun hc=>by rw[hwant.2 hc] at hw;cases hw
  refine hN _ _ ?_
  rw[hd]
  exact k _ _ ⟨ρ,F,h.putS (by rw[←hn];simpa using b1) ⟨fun hc=>(hpc ((pcA_put b2).1 hc)).elim,fun _=>rfl⟩ (all3_imp (fun u hu=>fresh_mono (Nat.zero_le _) hu) b3)⟩
end
end Go.Sx
set_option linter.unusedVariables false
set_option linter.unusedSimpArgs false
namespace Go.Sx
def nextOf (s:St) (o:Oper):Option (Nat×Nat×ByteArray×Nat):=
 match o.op,o.dst with
 | .next it true,some d=>match ev s.L [] it with
  | some (.ptr id 0)=>match get s.H id with
   | some (.iter b pos)=>some (id,d,b,pos)
   | _=>none
  | _=>none
 | _,_=>none
def frz (id:Nat) (d:D):V->V
 | .own i=>bif Nat.beq i id then .d d else .own i
 | .vptr i z k o=>bif Nat.beq i id then .dead else .vptr i z k o
 | v=>v
def frozen (s:St) (id:Nat):St:=
 match get s.H id with
 | some (.vec e sz n f)=>{L:=mapL (frz id (.sl sz n f)) s.L,H:=mapH (frz id (.sl sz n f)) (delH id s.H),m:=s.m}
 | some (.pos l)=>{L:=mapL (frz id (.mp l)) s.L,H:=mapH (frz id (.mp l)) (delH id s.H),m:=s.m}
 | _=>s
section
variable {C:Ctx} {s:St} {a:Act} {w w':World} {ρ:Nat->Value} {F:Nat->Prop} {g:Cfg} {K:List Item} {Φ:Exit->St->Prop}
theorem Go.next (hn:g.n=C.n) {all:Array Oper} {o:Oper} {rest:List Oper} {id d:Nat} {b:ByteArray} {p:Nat} (hgd:o.guard=none) (ho:nextOf s o=some (id,d,b,p)) (hdn:Nat.blt d g.n=true)
  (h1:p<b.size->Go C (.ops all rest::K) {L:=put s.L d (.tup [vb true,vi (p:Int), .d (.int .i32 ((Utf8.decode b p).1:Int))]),H:=(id, .iter b (p+(Utf8.decode b p).2))::delH id s.H,m:=s.m} Φ)
  (h2:¬p<b.size->Go C (.ops all rest::K) {s with L:=put s.L d (.tup [vb false])} Φ):Go C (.ops all (o::rest)::K) s Φ:=by
 rintro a w ⟨ρ,F,h⟩
 unfold nextOf at ho
 split at ho
 ·rename_i it d' hop hd
  split at ho
  ·rename_i id' hit
   split at ho
   ·rename_i b' p' hgH
    simp only[Option.some.injEq,Prod.mk.injEq] at ho
    obtain⟨rfl,rfl,rfl,rfl⟩:=ho
    obtain⟨bl,hb,hv⟩:=(show R0 ρ F w (.ptr id' 0) _ from (ev_sound h (pc_nil _) hit).1)
    obtain⟨bl',hb',hheap⟩:=h.ch id' _ (get_mem hgH)
    rw[hb] at hb'
    simp only[Value.pointer.injEq,Option.some.injEq,Addr.mk.injEq,and_true] at hb'
    subst hb'
    have hdn':d'<C.n:=by rw[←hn];simpa using hdn
    by_cases hp:p'<b'.size
    ·have hrun:(execOp a.eval o).run C.P w=.ok (.value (.tuple #[.bool true, .int .i64 (p':Int), .int .i32 ((Utf8.decode b' p').1:Int)])) {w with heap:=w.heap.setIfInBounds bl (.stringIter b' (p'+(Utf8.decode b' p').2))}:=by
      simp only[execOp,hop,hv]
      refine run_v ?_
      simp only[Instr.next,getObj,setObj,Sem.run_bind,Sem.run,hheap,Result.andThen,hp,if_true]
      simp [Sem.run,hheap,goInt]
     refine ops_next hgd (.inl hrun) ?_
     rw[hd]
     have hlt:bl<w.heap.size:=(Array.getElem?_eq_some_iff.1 hheap).1
     have hm:Mod (blk (ρ id')) w {w with heap:=w.heap.setIfInBounds bl (.stringIter b' (p'+(Utf8.decode b' p').2))}:=by
      rw[hb]
      refine⟨rfl,rfl,rfl,by simp,fun k _ hk=>?_⟩
      have:bl≠k:=fun e=>hk (by rw[←e];rfl)
      simp [Array.getElem?_setIfInBounds,this]
     have ht:=h.touch (get_mem hgH) hm (c':=.iter b' (p'+(Utf8.decode b' p').2)) ⟨bl,hb,by simp [hlt]⟩ rfl
     exact h1 hp _ _ ⟨ρ,F,ht.put hdn' ⟨[.bool true, .int .i64 (p':Int), .int .i32 ((Utf8.decode b' p').1:Int)],rfl,RD.bool _,RD.int _ _,RD.int _ _,tR⟩ rfl⟩
    ·have hrun:(execOp a.eval o).run C.P w=.ok (.value (.tuple #[.bool false])) w:=by
      simp only[execOp,hop,hv]
      refine run_v ?_
      simp [Instr.next,getObj,Sem.run,hheap,hp]
     refine ops_next hgd (.inl hrun) ?_
     rw[hd]
     exact h2 hp _ _ ⟨ρ,F,h.put hdn' ⟨[.bool false],rfl,RD.bool _,tR⟩ rfl⟩
   ·simp at ho
  ·simp at ho
 ·simp at ho
theorem frz_fresh {id m:Nat} {d:D} {u:V} (h:fresh m u=true):fresh m (frz id d u)=true:=by
 cases u with
 | own i=>simp only[frz];cases Nat.beq i id<;>first | exact h | rfl
 | vptr i z k o=>simp only[frz];cases Nat.beq i id<;>first | exact h | rfl
 | _=>exact h
theorem frz1_fresh {id m:Nat} {d:D} {v:V} (hv:v.all1 (fresh m)=true):(v.map1 (frz id d)).all1 (fresh m)=true:=by
 cases v with
 | fn g c=>simp only[V.map1,V.all1,List.all_map,List.all_eq_true,Function.comp] at *;exact fun x hx=>frz_fresh (hv x hx)
 | own i=>simp only[V.map1,frz];cases Nat.beq i id<;>first | exact hv | rfl
 | vptr i z k o=>simp only[V.map1,frz];cases Nat.beq i id<;>first | exact hv | rfl
 | _=>exact hv
theorem frz2_fresh {id m:Nat} {d:D} {v:V} (hv:v.all2 (fresh m)=true):(v.map2 (frz id d)).all2 (fresh m)=true:=by
 cases v with
 | agg us=>simp only[V.map2,V.all2,List.all_map,List.all_eq_true,Function.comp] at *;exact fun x hx=>frz1_fresh (hv x hx)
 | fn g c=>exact frz1_fresh (v:=.fn g c) hv
 | own i=>simp only[V.map2,V.map1,frz];cases Nat.beq i id<;>first | exact hv | rfl
 | vptr i z k o=>simp only[V.map2,V.map1,frz];cases Nat.beq i id<;>first | exact hv | rfl
 | _=>exact hv
theorem frz3_fresh {id m:Nat} {d:D} {v:V} (hv:v.all3 (fresh m)=true):(v.map3 (frz id d)).all3 (fresh m)=true:=by
 cases v with
 | tup us=>simp only[V.map3,V.all3,List.all_map,List.all_eq_true,Function.comp] at *;exact fun x hx=>frz2_fresh (hv x hx)
 | agg us=>exact frz2_fresh (v:=.agg us) hv
 | fn g c=>exact frz2_fresh (v:=.fn g c) hv
 | own i=>simp only[V.map3,V.map2,V.map1,frz];cases Nat.beq i id<;>first | exact hv | rfl
 | vptr i z k o=>simp only[V.map3,V.map2,V.map1,frz];cases Nat.beq i id<;>first | exact hv | rfl
 | _=>exact hv
theorem frz4_fresh {id m:Nat} {d:D} {v:V} (hv:v.all4 (fresh m)=true):(v.map4 (frz id d)).all4 (fresh m)=true:=by
 cases v with
 | g p u=>exact frz3_fresh hv
 | tup us=>exact frz3_fresh (v:=.tup us) hv
 | agg us=>exact frz3_fresh (v:=.agg us) hv
 | fn g c=>exact frz3_fresh (v:=.fn g c) hv
 | own i=>simp only[V.map4,V.map3,V.map2,V.map1,frz];cases Nat.beq i id<;>first | exact hv | rfl
 | vptr i z k o=>simp only[V.map4,V.map3,V.map2,V.map1,frz];cases Nat.beq i id<;>first | exact hv | rfl
 | _=>exact hv
theorem SatW.toData (h:SatW C s a w ρ F) {id:Nat} {c:Ch} {d:D} (hgH:get s.H id=some c) (hdat:RD (fun k=>F k∨blk (ρ id)=some k) w d (ρ id)):Sat C {L:=mapL (frz id d) s.L,H:=mapH (frz id d) (delH id s.H),m:=s.m} a w:=by
 let F':Nat->Prop:=fun k=>F k∨blk (ρ id)=some k
 have hFF:∀k,F k->F' k:=fun k hk=>.inl hk
 refine⟨ρ,F',h.change (frz id d) (fun u v hu hr=>?_) (fun t v hv=>?_) (fun i c hc=>?_) hFF (fun _ _=>rfl) (fun k hk=>?_) h.keep (Nat.le_refl _) (fun k hk=>?_) h.fixd.2⟩
 ·cases u with
  | own i=>
   simp only[frz]
   cases hi:Nat.beq i id with
   | true=>
    have:=Nat.eq_of_beq_eq_true hi
    subst this
    obtain⟨h1,_⟩:=hr
    subst h1
    exact hdat
   | false=>exact R0.world (u:=.own i) hFF (fun _ _=>rfl) hr
  | vptr i z k o=>
   simp only[frz]
   cases hi:Nat.beq i id with
   | true=>exact hr.one'
   | false=>exact R0.world (u:=.vptr i z k o) hFF (fun _ _=>rfl) hr
  | d x=>exact R0.world (u:=.d x) hFF (fun _ _=>rfl) hr
  | eptr x=>exact R0.world (u:=.eptr x) hFF (fun _ _=>rfl) hr
  | nils=>exact hr
  | ptr i o=>exact hr
  | dead=>exact hr
  | _=>exact hr.elim
 ·obtain⟨v0,h1,rfl⟩:=mem_mapL hv
  exact⟨⟨v0,h1,rfl⟩,frz4_fresh (h.freshL t v0 h1)⟩
 ·obtain⟨c0,h1,rfl⟩:=mem_mapH hc
  obtain⟨h1,hne⟩:=mem_delH h1
  refine⟨⟨c0,h1,rfl⟩,?_,rfl,fun b e2=>⟨rfl,fun hb=>?_⟩⟩
  ·have:=(h.freshH i c0 h1).2
   cases c0 with
   | box us=>simp only[Ch.map,Ch.all,List.all_map,List.all_eq_true,Function.comp] at *;exact fun y hy=>frz1_fresh (this y hy)
   | held _ _ _ _ _ u _ _ _=>exact frz1_fresh (v:=u) this
   | tbl es=>simp only[Ch.map,Ch.all,List.all_map,List.all_eq_true,Function.comp] at *;exact fun y hy=>frz2_fresh (this y hy)
   | bld T u=>exact frz1_fresh (v:=u) this
   | _=>rfl
  ·rw[bks_map] at e2
   rcases hb with hb | hb
   ·exact h.out i c0 b h1 e2 hb
   ·exact h.sep i id c0 _ b h1 (get_mem hgH) hne e2 (bks_main hb)
 ·rcases hk with hk | hk
  ·exact h.lt k hk
  ·exact (h.ch id _ (get_mem hgH)).lt (bks_main hk)
 ·rcases hk with hk | hk
  ·exact h.sub k hk
  ·rcases h.mine id _ k (get_mem hgH) (bks_main hk) with h1 | h1
   ·exact .inr (.inl h1)
   ·exact .inr (.inr h1)
theorem Go.freeze (id:Nat) (k:Go C K (frozen s id) Φ):Go C K s Φ:=by
 rintro a w ⟨ρ,F,h⟩
 refine k a w ?_
 unfold frozen
 split
 ·rename_i e sz n f hgH
  obtain⟨xs,hown,hel⟩:=h.ch id _ (get_mem hgH)
  let F':Nat->Prop:=fun k=>F k∨blk (ρ id)=some k
  have hFF:∀k,F k->F' k:=fun k hk=>.inl hk
  have hdat:RD F' w (.sl sz n f) (ρ id):=by
   rcases hown.2 with⟨h1,h2⟩ | ⟨b,cap,cur,h1,_,h3,h4,h5,h6,h7⟩
   ·subst h2;rw[h1];exact .emp _ _ _ _
   ·rw[h1]
    refine .sl sz n f b 0 cap (fun i j=>(xs[i*sz+j]?).getD undef) (.inr (by rw[h1];rfl)) h4 (fun i j hi hj=>?_) (fun i hi=>(hel i hi).1) (fun i j d hi hd=>?_)
    ·have hl:=(hel i hi).1
     obtain⟨c,c1,c2⟩:=(hel i hi).2 j _ (List.getElem?_eq_getElem (show j<(f i).length by omega))
     have:=hown.cells (g:=b) (by rw[h1];rfl) _ _ c1
     rw[Addr.add_lit] at this
     rw[this,c1];rfl
    ·obtain⟨c,c1,c2⟩:=(hel i hi).2 j d hd
     rw[c1]
     exact RD.mono hFF (fun _ _=>rfl) c2
  exact h.toData hgH hdat
 ·rename_i l hgH
  obtain⟨b,arr,clock,e1,e2,e3⟩:=h.ch id _ (get_mem hgH)
  refine h.toData hgH ?_
  rw[e1]
  exact .mp l b arr clock (.inr rfl) e2 e3
 ·exact⟨ρ,F,h⟩
end
end Go.Sx
set_option linter.unusedVariables false
set_option linter.unusedSimpArgs false
namespace Go.Sx
def isAggV:Value->Bool
 | .agg _=>true
 | _=>false
theorem TI.mk' {P:Program} {t:TypeId} {ti:TI} {z:Value} (hu:kindOK P t ti.kind) (hi:(P.info? t).map (fun i=>(i.zero,i.size,i.bytes))=some (some z,ti.size,ti.bytes)) (hz:z.cells.size=ti.size)
  (hl:All2 litV (match ti.kind with | .array n _=>(List.replicate n ti.zero).flatten | _=>ti.zero) z.cells.toList)  (h1:(!ti.kind.flat||z.oneCell')=true:=by rfl) (h2:(ti.kind.flat||isAggV z)=true:=by rfl):ti.OK P t:=by
 have hagg:=h2
 obtain⟨i,e1,h2⟩:=Option.map_eq_some_iff.1 hi
 simp only[Prod.mk.injEq] at h2
 refine⟨hu,⟨i,z,e1,h2.2.1,h2.2.2,h2.1,hz,hl⟩,fun i' z' e3 e4 hf=>?_,fun i' z' e3 e4 hf=>?_⟩
 ·rw[e1] at e3
  obtain rfl:=Option.some.inj e3
  rw[h2.1] at e4
  obtain rfl:=Option.some.inj e4
  rw[hf] at h1
  simpa using h1
 ·rw[e1] at e3
  obtain rfl:=Option.some.inj e3
  rw[h2.1] at e4
  obtain rfl:=Option.some.inj e4
  rw[hf] at hagg
  cases z<;>first | exact⟨_,rfl⟩ | cases hagg
theorem all2_app {us vs:List V} {cs ds:List Value} (h1:All2 litV us cs) (h2:All2 litV vs ds):All2 litV (us++vs) (cs++ds):=All2.app h1 h2
theorem all2_rep {us:List V} {cs:List Value} (h:All2 litV us cs) (n:Nat):All2 litV (List.replicate n us).flatten (List.replicate n cs).flatten:=by
 induction n with
 | zero=>trivial
 | succ n ih=>simp only[List.replicate_succ,List.flatten_cons];exact all2_app h ih
structure Cr (P:Pg) (g:Cfg) (C:Ctx):Prop where
 prog:C.pg=P
 n:g.n=C.n
 fix:g.fix=C.fix
 tys:TysOK P.P g.tys
structure Cx (P:Pg) (g:Cfg) (C:Ctx):Prop extends Cr P g C where
 rd:C.rd=none
def callInfo (g:Cfg) (s:St) (o:Oper):Option (FuncId×List V×Nat):=
 match o.guard,o.dst with
 | none,some d=>bif Nat.blt d g.n then match callOf s.L [] o with
  | some (f,A)=>some (f,A,d)
  | none=>none
  else none
 | _,_=>none
def callInfoG (g:Cfg) (s:St) (all:Array Oper) (o:Oper):Option (FuncId×List V×Nat×List (Nat×Bool)):=
 match o.guard,o.dst with
 | some (j,u),some d=>match gpath s.L all j u with
  | some q=>bif Nat.blt d g.n&&!(q.any fun e=>Nat.beq e.1 d) then match callOf s.L q o with
   | some (f,A)=>some (f,A,d,q)
   | none=>none
   else none
  | none=>none
 | _,_=>none
namespace Cr
variable {P:Pg} {g:Cfg} {C:Ctx} (x:Cr P g C) {s s':St} {K K':List Item} {Φ:Exit->St->Prop} {ob:List Prop}
include x
theorem progP:C.P=P.P:=congrArg Pg.P x.prog
theorem ty:TysOK C.P g.tys:=x.progP▸x.tys
theorem cond {b:Bool} {c1 c2:Code} (h:run g 1000 K s []=.cond ob b c1 c2 K' s') (ho:AllP ob) (h1:b=true->Go C (.code c1::K') s' Φ) (h2:b=false->Go C (.code c2::K') s' Φ):Go C K s Φ:=
 st x.ty x.n x.fix h ⟨ho,h1,h2⟩
theorem back {J:St->Prop} (h:run g 1000 K s []=.back ob J s') (ho:AllP ob) (k:J s'):Go C K s Φ:=
 st x.ty x.n x.fix h ⟨ho,k⟩
theorem exit {e:Exit} (h:run g 1000 K s []=.exit ob e s') (ho:AllP ob) (k:Φ e s'):Go C K s Φ:=
 st x.ty x.n x.fix h ⟨ho,k⟩
theorem op {all:Array Oper} {o:Oper} {rest:List Oper} (h:run g 1000 K s []=.op ob all o rest K' s') (ho:AllP ob) (k:Go C (.ops all (o::rest)::K') s' Φ):Go C K s Φ:=
 st x.ty x.n x.fix h ⟨ho,k⟩
theorem code {c:Code} (h:run g 1000 K s []=.code ob c K' s') (ho:AllP ob) (k:Go C (.code c::K') s' Φ):Go C K s Φ:=
 st x.ty x.n x.fix h ⟨ho,k⟩
theorem loop {α:Type} (I:α->St) (μ:α->Nat) (x0:α) {c:Code} (h:run g 1000 K s []=.loop ob c K' s') (ho:AllP ob) (h0:LE g.fix s' (I x0))
  (hr:∀y,Go C (.code c::.back (fun s'=>∃z,μ z<μ y∧LE g.fix s' (I z))::K') (I y) Φ):Go C K s Φ:=
 st x.ty x.n x.fix h ⟨ho,Go.loop x.fix I μ x0 h0 hr⟩
theorem cut {α:Type} (I:α->St) {c:Code} (h1:Go C (.code c::.back (fun s'=>∃y,LE g.fix s' (I y))::K) s Φ) (h2:∀y,Go C K (I y) Φ):Go C (.code c::K) s Φ:=
 Go.cut x.fix I h1 h2
theorem le (h:LE g.fix s s') (k:Go C K s' Φ):Go C K s Φ:=Go.le x.fix h k
theorem pure {all:Array Oper} {o:Oper} {rest:List Oper} {args A:List V} {H':List Ch} {r:V} {f d:Nat} (h:run g 1000 K s []=.op ob all o rest K' s') (ho:AllP ob)
  (hco:callInfo g s' o=some (f,A,d)) (hp:Pure P f args r H') (hA:AEq A (args.map (V.map3 (ren0 [])))) (k:Go C (.ops all rest::K') (after s' d [] 0 r H' []) Φ):Go C K s Φ:=by
 refine st x.ty x.n x.fix h ⟨ho,?_⟩
 unfold callInfo at hco
 split at hco
 ·rename_i d' hg hd
  cases hb:Nat.blt d' g.n with
  | false=>rw[hb] at hco;simp at hco
  | true=>
   rw[hb] at hco
   simp only[cond_true] at hco
   split at hco
   ·rename_i f' A' hc
    simp only[Option.some.injEq,Prod.mk.injEq] at hco
    obtain⟨rfl,rfl,rfl⟩:=hco
    exact Go.call x.n x.fix [] (x.prog▸hp) hg hd hb hc hA rfl tR k
   ·simp at hco
 ·simp at hco
theorem call (is:List Nat) {all:Array Oper} {o:Oper} {rest:List Oper} {fix:Nat} {args A:List V} {H H':List Ch} {r:V} {f d:Nat} (h:run g 1000 K s []=.op ob all o rest K' s') (ho:AllP ob)
  (hco:callInfo g s' o=some (f,A,d)) (hp:Proc P f fix args H r H') (hok:okIs g s'.m is fix H.length=true) (hA:AEq A (args.map (V.map3 (ren0 is)))) (hH:HLE s'.H (rnH is is H)) (k:Go C (.ops all rest::K') (after s' d is fix r H' []) Φ):Go C K s Φ:=by
 refine st x.ty x.n x.fix h ⟨ho,?_⟩
 unfold callInfo at hco
 split at hco
 ·rename_i d' hg hd
  cases hb:Nat.blt d' g.n with
  | false=>rw[hb] at hco;simp at hco
  | true=>
   rw[hb] at hco
   simp only[cond_true] at hco
   split at hco
   ·rename_i f' A' hc
    simp only[Option.some.injEq,Prod.mk.injEq] at hco
    obtain⟨rfl,rfl,rfl⟩:=hco
    exact Go.call x.n x.fix is (x.prog▸hp) hg hd hb hc hA hok hH k
   ·simp at hco
 ·simp at hco
theorem pureG {all:Array Oper} {o:Oper} {rest:List Oper} {args A:List V} {r:V} {f d:Nat} {q:List (Nat×Bool)} (h:run g 1000 K s []=.op ob all o rest K' s') (ho:AllP ob)
  (hco:callInfoG g s' all o=some (f,A,d,q)) (hp:imp s'.L q (Pure P f args r [])) (hr:r.all3 (fresh 0)=true) (hA:AEq A (args.map (V.map3 (ren0 [])))) (k:Go C (.ops all rest::K') {s' with L:=put s'.L d (.g q r)} Φ):Go C K s Φ:=by
 refine st x.ty x.n x.fix h ⟨ho,?_⟩
 unfold callInfoG at hco
 split at hco
 ·rename_i j u d' hg hd
  split at hco
  ·rename_i q' hq
   cases hb:(Nat.blt d' g.n&&!(q'.any fun e=>Nat.beq e.1 d')) with
   | false=>rw[hb] at hco;simp at hco
   | true=>
    rw[hb] at hco
    simp only[cond_true] at hco
    split at hco
    ·rename_i f' A' hc
     simp only[Option.some.injEq,Prod.mk.injEq] at hco
     obtain⟨rfl,rfl,rfl,rfl⟩:=hco
     exact Go.callG x.n x.fix hg hq hd (by simp only[Bool.and_eq_true] at hb ⊢;exact⟨hb,hr⟩) hc (x.prog▸hp) hA rfl k
    ·simp at hco
  ·simp at hco
 ·simp at hco
theorem next {all:Array Oper} {o:Oper} {rest:List Oper} {id d:Nat} {b:ByteArray} {p:Nat} (h:run g 1000 K s []=.op ob all o rest K' s') (ho:AllP ob) (hgd:o.guard=none) (hno:nextOf s' o=some (id,d,b,p)) (hdn:Nat.blt d g.n=true)
  (h1:p<b.size->Go C (.ops all rest::K') {L:=put s'.L d (.tup [vb true,vi (p:Int), .d (.int .i32 ((Utf8.decode b p).1:Int))]),H:=(id, .iter b (p+(Utf8.decode b p).2))::delH id s'.H,m:=s'.m} Φ)
  (h2:¬p<b.size->Go C (.ops all rest::K') {s' with L:=put s'.L d (.tup [vb false])} Φ):Go C K s Φ:=
 st x.ty x.n x.fix h ⟨ho,Go.next x.n hgd hno hdn h1 h2⟩
end Cr
def ixL:List V->List (Nat×V)
 | []=>[]
 | [a]=>[(0,a)]
 | [a,b]=>[(0,a),(1,b)]
 | [a,b,c]=>[(0,a),(1,b),(2,c)]
 | [a,b,c,d]=>[(0,a),(1,b),(2,c),(3,d)]
 | [a,b,c,d,e]=>[(0,a),(1,b),(2,c),(3,d),(4,e)]
 | [a,b,c,d,e,f]=>[(0,a),(1,b),(2,c),(3,d),(4,e),(5,f)]
 | [a,b,c,d,e,f,g]=>[(0,a),(1,b),(2,c),(3,d),(4,e),(5,f),(6,g)]
 | [a,b,c,d,e,f,g,h]=>[(0,a),(1,b),(2,c),(3,d),(4,e),(5,f),(6,g),(7,h)]
 | [a,b,c,d,e,f,g,h,i]=>[(0,a),(1,b),(2,c),(3,d),(4,e),(5,f),(6,g),(7,h),(8,i)]
 | [a,b,c,d,e,f,g,h,i,j]=>[(0,a),(1,b),(2,c),(3,d),(4,e),(5,f),(6,g),(7,h),(8,i),(9,j)]
 | [a,b,c,d,e,f,g,h,i,j,k]=>[(0,a),(1,b),(2,c),(3,d),(4,e),(5,f),(6,g),(7,h),(8,i),(9,j),(10,k)]
 | [a,b,c,d,e,f,g,h,i,j,k,l]=>[(0,a),(1,b),(2,c),(3,d),(4,e),(5,f),(6,g),(7,h),(8,i),(9,j),(10,k),(11,l)]
 | l=>ixV 0 l
theorem ixL_eq (l:List V):ixL l=ixV 0 l:=by
 unfold ixL
 split<;>rfl
def ixH:List Ch->List (Nat×Ch)
 | []=>[]
 | [a]=>[(0,a)]
 | [a,b]=>[(0,a),(1,b)]
 | [a,b,c]=>[(0,a),(1,b),(2,c)]
 | [a,b,c,d]=>[(0,a),(1,b),(2,c),(3,d)]
 | [a,b,c,d,e]=>[(0,a),(1,b),(2,c),(3,d),(4,e)]
 | [a,b,c,d,e,f]=>[(0,a),(1,b),(2,c),(3,d),(4,e),(5,f)]
 | [a,b,c,d,e,f,g]=>[(0,a),(1,b),(2,c),(3,d),(4,e),(5,f),(6,g)]
 | [a,b,c,d,e,f,g,h]=>[(0,a),(1,b),(2,c),(3,d),(4,e),(5,f),(6,g),(7,h)]
 | [a,b,c,d,e,f,g,h,i]=>[(0,a),(1,b),(2,c),(3,d),(4,e),(5,f),(6,g),(7,h),(8,i)]
 | [a,b,c,d,e,f,g,h,i,j]=>[(0,a),(1,b),(2,c),(3,d),(4,e),(5,f),(6,g),(7,h),(8,i),(9,j)]
 | [a,b,c,d,e,f,g,h,i,j,k]=>[(0,a),(1,b),(2,c),(3,d),(4,e),(5,f),(6,g),(7,h),(8,i),(9,j),(10,k)]
 | [a,b,c,d,e,f,g,h,i,j,k,l]=>[(0,a),(1,b),(2,c),(3,d),(4,e),(5,f),(6,g),(7,h),(8,i),(9,j),(10,k),(11,l)]
 | l=>ixC 0 l
theorem ixH_eq (l:List Ch):ixH l=ixC 0 l:=by
 unfold ixH
 split<;>rfl
def lenL:List Ch->Nat
 | []=>0
 | [_]=>1
 | [_,_]=>2
 | [_,_,_]=>3
 | [_,_,_,_]=>4
 | [_,_,_,_,_]=>5
 | [_,_,_,_,_,_]=>6
 | [_,_,_,_,_,_,_]=>7
 | [_,_,_,_,_,_,_,_]=>8
 | l=>l.length
theorem lenL_eq (l:List Ch):lenL l=l.length:=by
 unfold lenL
 split<;>rfl
theorem Proc.mk {P:Pg} (g:Cfg) (htys:TysOK P.P g.tys) (ids:List Nat) {f:FuncId} {fn:Func} {c:Code} {args:List V} {H:List Ch} {r:V} {H':List Ch} {rs:List ResultVar} (hf:P.P.funcs[f]?=some fn) (hb:fn.body=some c) (hname:(fn.name == "runtime.NumGoroutine")=false)
  (hn:g.n=fn.ntmps) (hrs:fn.results=rs.toArray) (hok:(Nat.ble args.length g.n&&freshAll args H H.length&&freshAll [r] H' H'.length&&Nat.ble g.fix H.length&&Nat.ble H.length H'.length)=true)
  (hgo:∀(C:Ctx),Cx P g C->Go C [.code c] ⟨ixL args,ixH H,lenL H⟩ (Ret g rs ids r H')):Proc P f g.fix args H r H':=by
 simp only[Bool.and_eq_true] at hok
 obtain⟨⟨⟨⟨h1,h2⟩,h3⟩,h4⟩,h5⟩:=hok
 exact Proc.intro hf hb hname htys hn hrs h1 h2 h3 h4 h5 ids fun C e1 e2 e3 _ e5 _=>by rw[←ixL_eq,←ixH_eq,←lenL_eq];exact hgo C ⟨⟨e1,e2,e3,htys⟩,e5⟩
end Go.Sx
set_option linter.unusedVariables false
set_option linter.unusedSimpArgs false
namespace Go.Sx
section
variable {C:Ctx} {s:St} {a:Act} {w:World} {ρ:Nat->Value} {F:Nat->Prop} {g:Cfg} {K:List Item} {Φ:Exit->St->Prop}
theorem SatW.leH {H':List (Nat×Ch)} (h:SatW C s a w ρ F) (hH:HLE s.H H') (hok:okH s.m H'=true):SatW C {s with H:=H'} a w ρ F:=by
 exact
  {
   size:=h.size,defers:=h.defers,slot:=h.slot,freshL:=h.freshL,lt:=h.lt,sub:=h.sub,base:=h.base,fixd:=h.fixd,keep:=h.keep,env:=h.env
   ch:=fun i c hc=>by
    obtain⟨u,hu,he⟩:=HLE_mem hH hc
    exact ChEq_sound he (h.ch i u hu)
   sep:=fun i j ci cj b hi hj hij e=>by
    obtain⟨u,hu,he⟩:=HLE_mem hH hi
    obtain⟨u2,hu2,he2⟩:=HLE_mem hH hj
    exact fun e2=>h.sep i j u u2 b hu hu2 hij (ChEq_bks he e) (ChEq_bks he2 e2)
   out:=fun i c b hi e=>by
    obtain⟨u,hu,he⟩:=HLE_mem hH hi
    exact h.out i u b hu (ChEq_bks he e)
   freshH:=fun i c hi=>okH_mem hok hi
   mine:=fun i c b hi e=>by
    obtain⟨u,hu,he⟩:=HLE_mem hH hi
    exact h.mine i u b hu (ChEq_bks he e)}
theorem mapL_id (L:List (Nat×V)):mapL (killIn []) L=L:=by
 have hk:(killIn ([]:List Nat))=fun u=>u:=by funext u;cases u<;>rfl
 rw[hk]
 induction L with
 | nil=>rfl
 | cons e L ih=>simp [mapL,map4_id,ih]
theorem mapH_id (L:List (Nat×Ch)):mapH (killIn []) L=L:=by
 have hk:(killIn ([]:List Nat))=fun u=>u:=by funext u;cases u<;>rfl
 rw[hk]
 induction L with
 | nil=>rfl
 | cons e L ih=>simp [mapH,chmap_id,ih]
theorem Go.callGH (hn:g.n=C.n) (hfxg:g.fix=C.fix) {all:Array Oper} {o:Oper} {rest:List Oper} (is:List Nat) {fix:Nat} {args:List V} {H:List Ch} {r:V} {f:FuncId} {A:List V} {d j:Nat} {u:Bool} {q:List (Nat×Bool)}
  (hgd:o.guard=some (j,u)) (hgp:gpath s.L all j u=some q) (hd:o.dst=some d) (hdn:(Nat.blt d g.n&&!(q.any fun e=>Nat.beq e.1 d)&&r.all3 (fresh 0))=true) (hco:callOf s.L q o=some (f,A))
  (hp:imp s.L q (Proc C.pg f fix args H r H)) (hdr:dropN fix is=[]) (hA:AEq A (args.map (V.map3 (ren0 is)))) (hok:okIs g s.m is fix H.length=true) (hH:HLE s.H (rnH is is H)) (hH':HLE (app2 (rnH is is H) (delAll is s.H)) s.H) (hoH:okH s.m s.H=true)
  (k:Go C (.ops all rest::K) {s with L:=put s.L d (.g q r)} Φ):Go C (.ops all (o::rest)::K) s Φ:=by
 rintro a w ⟨ρ,F,h⟩
 simp only[Bool.and_eq_true,Bool.not_eq_true'] at hdn
 obtain⟨⟨b1,b2⟩,b3⟩:=hdn
 have hgs:=gpath_sound h hgp
 have hwant:Region.wanted o (yielded all a.tmps)=true↔pcA a.tmps q:=by rw[←hgs];simp [Region.wanted,hgd]
 show wqList C.rd C.P all (den C (conc C Φ) K) (o::rest) a w
 refine wqList_step fun N hN=>?_
 cases hw:Region.wanted o (yielded all a.tmps) with
 | true=>
  have hpc:=hwant.1 hw
  have hp:=imp_sound h hpc hp
  obtain⟨vals,h1,h2⟩:=call_run h hfxg hpc hco hp hA hok hH
  simp only[if_true]
  refine wqO_of h1 tR ?_
  rw[Oper.upon_enter]
  refine h2.mono ?_
  rintro e w' ⟨v,ρ',F',rfl,r1,r2,r3⟩
  refine hN _ _ ?_
  rw[hd]
  have hl:is.length=H.length:=by
   simp only[okIs,Bool.and_eq_true] at hok
   exact Nat.eq_of_beq_eq_true hok.2
  have hids:app2 is (newIds s.m (H.length-is.length))=is:=by
   rw[hl,Nat.sub_self]
   show app2 is []=is
   rw[app2_eq,List.append_nil]
  have r1':R3 ρ' F' w' r v:=by
   have hid:(r.map3 (ren0 (app2 is (newIds s.m (H.length-is.length)))))=r.map3 (ren0 []):=by
    have e0:∀(js:List Nat) (u:V),fresh 0 u=true->ren0 js u=ren0 [] u:=fun js u hu=>by cases u<;>first | rfl | simp [fresh] at hu
    have e1:∀(js:List Nat) (u:V),u.all1 (fresh 0)=true->u.map1 (ren0 js)=u.map1 (ren0 []):=fun js u hu=>by
     cases u with
     | fn f c=>simp only[V.map1,V.fn.injEq,true_and];exact List.map_congr_left fun x hx=>e0 js x (by simpa using (List.all_eq_true.1 hu) x hx)
     | _=>(first | exact e0 js (.d _) hu | exact e0 js .nils hu | exact e0 js (.ptr _ _) hu | exact e0 js (.own _) hu | exact e0 js (.vptr _ _ _ _) hu | exact e0 js (.eptr _) hu | exact e0 js (.fn _ _) hu | exact e0 js (.agg _) hu | exact e0 js (.tup _) hu | exact e0 js (.g _ _) hu | exact e0 js .dead hu)
    have e2:∀(js:List Nat) (u:V),u.all2 (fresh 0)=true->u.map2 (ren0 js)=u.map2 (ren0 []):=fun js u hu=>by
     cases u with
     | agg c=>simp only[V.map2,V.agg.injEq];exact List.map_congr_left fun x hx=>e1 js x (by simpa using (List.all_eq_true.1 hu) x hx)
     | _=>(first | exact e1 js (.d _) hu | exact e1 js .nils hu | exact e1 js (.ptr _ _) hu | exact e1 js (.own _) hu | exact e1 js (.vptr _ _ _ _) hu | exact e1 js (.eptr _) hu | exact e1 js (.fn _ _) hu | exact e1 js (.agg _) hu | exact e1 js (.tup _) hu | exact e1 js (.g _ _) hu | exact e1 js .dead hu)
    cases r with
    | tup c=>simp only[V.map3,V.tup.injEq];exact List.map_congr_left fun x hx=>e2 _ x (by simpa using (List.all_eq_true.1 b3) x hx)
    | _=>(first | rfl | exact e2 _ (.d _) b3 | exact e2 _ .nils b3 | exact e2 _ (.ptr _ _) b3 | exact e2 _ (.own _) b3 | exact e2 _ (.vptr _ _ _ _) b3 | exact e2 _ (.eptr _) b3 | exact e2 _ (.fn _ _) b3 | exact e2 _ (.agg _) b3 | exact e2 _ (.tup _) b3 | exact e2 _ (.g _ _) b3 | exact e2 _ .dead b3)
   rw[hid] at r1
   exact R3.unren (ρ:=ρ') (is:=[]) (k:=0) (fun i hi=>by omega) b3 r1
  have r3':SatW C s a w' ρ' F':=by
   rw[hdr,mapL_id,mapH_id,hids,hl,Nat.sub_self] at r3
   exact r3.leH hH' hoH
  exact k _ _ ⟨ρ',F',r3'.putS (by rw[←hn];simpa using b1) ⟨fun _=>r1',fun hno=>(hno ((pcA_put b2).2 hpc)).elim⟩ (all3_imp (fun u hu=>fresh_mono (Nat.zero_le _) hu) b3)⟩
 | false=>
  simp only[Bool.false_eq_true,if_false]
  have hpc:¬pcA a.tmps q:=fun hc=>by rw[hwant.2 hc] at hw;cases hw
  refine hN _ _ ?_
  rw[hd]
  exact k _ _ ⟨ρ,F,h.putS (by rw[←hn];simpa using b1) ⟨fun hc=>(hpc ((pcA_put b2).1 hc)).elim,fun _=>rfl⟩ (all3_imp (fun u hu=>fresh_mono (Nat.zero_le _) hu) b3)⟩
end
theorem Cr.callG {P:Pg} {g:Cfg} {C:Ctx} (x:Cr P g C) {s s':St} {K K':List Item} {Φ:Exit->St->Prop} {ob:List Prop} (is:List Nat) {all:Array Oper} {o:Oper} {rest:List Oper} {fix:Nat} {args A:List V} {H:List Ch} {r:V} {f d:Nat} {q:List (Nat×Bool)} (h:run g 1000 K s []=.op ob all o rest K' s') (ho:AllP ob)
  (hco:callInfoG g s' all o=some (f,A,d,q)) (hp:imp s'.L q (Proc P f fix args H r H)) (hr:(r.all3 (fresh 0)&&okIs g s'.m is fix H.length&&okH s'.m s'.H&&List.isEmpty (dropN fix is))=true) (hA:AEq A (args.map (V.map3 (ren0 is)))) (hH:HLE s'.H (rnH is is H)) (hH':HLE (app2 (rnH is is H) (delAll is s'.H)) s'.H)
  (k:Go C (.ops all rest::K') {s' with L:=put s'.L d (.g q r)} Φ):Go C K s Φ:=by
 refine st x.ty x.n x.fix h ⟨ho,?_⟩
 unfold callInfoG at hco
 split at hco
 ·rename_i j u d' hg hd
  split at hco
  ·rename_i q' hq
   cases hb:(Nat.blt d' g.n&&!(q'.any fun e=>Nat.beq e.1 d')) with
   | false=>rw[hb] at hco;simp at hco
   | true=>
    rw[hb] at hco
    simp only[cond_true] at hco
    split at hco
    ·rename_i f' A' hc
     simp only[Option.some.injEq,Prod.mk.injEq] at hco
     obtain⟨rfl,rfl,rfl,rfl⟩:=hco
     simp only[Bool.and_eq_true,List.isEmpty_iff] at hr
     exact Go.callGH x.n x.fix is hg hq hd (by simp only[Bool.and_eq_true] at hb ⊢;exact⟨hb,hr.1.1.1⟩) hc (x.prog▸hp) hr.2 hA hr.1.1.2 hH hH' hr.1.2 k
    ·simp at hco
  ·simp at hco
 ·simp at hco
end Go.Sx
set_option linter.unusedVariables false
set_option linter.unusedSimpArgs false
namespace Go.Sx
theorem Post.below {w w':World} {F:Nat->Prop} {ρ:Nat->Value} {r:V} {H':List Ch} {e:Ending} (h:Post w F ρ 0 [] r H' e w'):Go.RowKit.Below w.heap.size w w':=by
 obtain⟨v,ρ',F',_,hk,_⟩:=h
 exact⟨hk.os,hk.tape,hk.output,hk.size,fun k hlt=>hk.block k hlt (fun ⟨i,hi,_⟩=>absurd hi (Nat.not_lt_zero _))⟩
theorem Proc.law {P:Pg} {f:FuncId} {args:List V} {H':List Ch} (h:Pure P f args (vb true) H') {w:World} {vals:List Value} {vs:Array Value} (hvs:vs=vals.toArray)
  (henv:EnvOK P.env (fun k=>k<w.heap.size) w) (hargs:All2 (R3 (fun _=>.bool true) (fun k=>k<w.heap.size) w) args vals):Calls P.P f vs w fun e w'=>e=.returned (.bool true)∧Go.RowKit.Below w.heap.size w w':=by
 subst hvs
 obtain⟨_,_,_,_,_,hc⟩:=h
 refine (hc w (fun k=>k<w.heap.size) (fun _=>.bool true) vals (fun k hk=>hk) henv ⟨fun i c hc=>by simp at hc,fun i j b hi=>absurd hi (Nat.not_lt_zero _),fun i b hi=>absurd hi (Nat.not_lt_zero _)⟩ hargs).mono ?_
 intro e w' hp
 refine⟨?_,hp.below⟩
 obtain⟨v,ρ',F',rfl,_,_,_,_,_,hr,_⟩:=hp
 have:v=.bool true:=by
  cases (show RD F' w' (.bool true) v from hr);rfl
 rw[this]
end Go.Sx
set_option linter.unusedVariables false
set_option linter.unusedSimpArgs false
namespace Go.Sx
inductive QEv where
 | done (ob:List Prop) (s:St)
 | op (ob:List Prop) (o:Oper) (rest:List Oper) (s:St)
 | stuck (why:String)
def qrun (g:Cfg) (all:Array Oper):Nat->List Oper->St->List Prop->QEv
 | 0,_,_,_=>.stuck "fuel"
 | n+1,l,⟨L,H,m⟩,ob=>match l with
  | []=>fS ⟨L,H,m⟩ fun S=>fO ob fun ob=>.done ob S
  | o::rest=>match o.guard with
   | none=>match rdE g g.ck ⟨L,H,m⟩ [] o.op with
    | some (v,p)=>match o.dst with
     | some d=>bif Nat.blt d g.n then f3 v fun v=>fL (put L d v) fun L'=>fA ob p fun ob=>qrun g all n rest ⟨L',H,m⟩ ob else .stuck "slot"
     | none=>.stuck "no slot"
    | none=>fS ⟨L,H,m⟩ fun S=>fO ob fun ob=>.op ob o rest S
   | some (j,u)=>match gpath L all j u with
    | none=>.stuck "guard"
    | some q=>match rdE g g.ck ⟨L,H,m⟩ q o.op with
     | some (v,p)=>match o.dst with
      | some d=>bif Nat.blt d g.n&&!(q.any fun e=>Nat.beq e.1 d)&&v.all3 (fresh m) then fIs L q p fun p=>f3 v fun v=>fP q fun q=>fL (put L d (.g q v)) fun L'=>fA ob p fun ob=>qrun g all n rest ⟨L',H,m⟩ ob else .stuck "slot"
      | none=>.stuck "no slot"
     | none=>fS ⟨L,H,m⟩ fun S=>fO ob fun ob=>.op ob o rest S
def QGo (C:Ctx) (all:Array Oper) (l:List Oper) (s:St) (K:List Item) (Φ:Exit->St->Prop):Prop:=
 ∀a w ρ F,SatW C s a w ρ F->wpQuiet C.P all (Mod none w) (fun a'=>∀w',Mod none w w'->den C (conc C Φ) K .normal a' w') l a
def QEv.holds (C:Ctx) (all:Array Oper) (K:List Item) (Φ:Exit->St->Prop):QEv->Prop
 | .done ob s=>AllP ob∧Go C K s Φ
 | .op ob o rest s=>AllP ob∧QGo C all (o::rest) s K Φ
 | .stuck _=>False
section
variable {C:Ctx} {s:St} {a:Act} {w w':World} {ρ:Nat->Value} {F:Nat->Prop} {g:Cfg} {K:List Item} {Φ:Exit->St->Prop}
theorem SatW.mod (h:SatW C s a w ρ F) (hm:Mod none w w'):SatW C s a w' ρ F:=by
 have hwF:∀k,F k->w'.heap[k]?=w.heap[k]?:=fun k hk=>hm.block k (h.lt k hk) (by simp)
 refine h.change (fun u=>u) (fun u v hu hr=>hr.keep (x:=s.m) (fun _ _=>rfl) (fun _=>id) hwF (fresh_names (Nat.le_refl _) hu)) (fun t v hv=>⟨⟨v,hv,(map4_id v).symm⟩,h.freshL t v hv⟩) (fun i c hc=>?_) (fun _=>id) hwF (fun k hk=>Nat.lt_of_lt_of_le (h.lt k hk) hm.size) (h.keeps hm (by simp)) (Nat.le_refl _) h.sub h.fixd.2
 exact⟨⟨c,hc,(chmap_id c).symm⟩,(h.freshH i c hc).2,rfl,fun b e=>⟨hm.block b ((h.ch i c hc).lt e) (by simp),h.out i c b hc e⟩⟩
theorem Mod.trans {w w' w'':World} (h:Mod none w w') (h':Mod none w' w''):Mod none w w'':=
 ⟨h'.os.trans h.os,h'.tape.trans h.tape,h'.output.trans h.output,Nat.le_trans h.size h'.size,fun k hk _=>(h'.block k (Nat.lt_of_lt_of_le hk h.size) (by simp)).trans (h.block k hk (by simp))⟩
theorem QGo.op_next {all:Array Oper} {o:Oper} {rest:List Oper} {Q:Act->Prop} (hg:o.guard=none) {x:Value}
  (hr:∀w',Mod none w w'->Oper.quietAt C.P o a (Mod none w) w' x) (h:wpQuiet C.P all (Mod none w) Q rest (a.put o.dst x)):wpQuiet C.P all (Mod none w) Q (o::rest) a:=by
 refine wpQuiet_step fun N hN=>?_
 rw[if_pos (by simp [Region.wanted,hg])]
 exact⟨x,hr,hN _ h⟩
theorem QGo.op_guarded {all:Array Oper} {o:Oper} {rest:List Oper} {Q:Act->Prop} {x:Value}
  (hyes:Region.wanted o (yielded all a.tmps)=true->∀w',Mod none w w'->Oper.quietAt C.P o a (Mod none w) w' x) (hno:Region.wanted o (yielded all a.tmps)=false->x=undef)
  (h:wpQuiet C.P all (Mod none w) Q rest (a.put o.dst x)):wpQuiet C.P all (Mod none w) Q (o::rest) a:=by
 refine wpQuiet_step fun N hN=>?_
 cases hw:Region.wanted o (yielded all a.tmps) with
 | true=>rw[if_pos rfl];exact⟨x,hyes hw,hN _ h⟩
 | false=>rw[if_neg (by simp)];exact hN _ (hno hw▸h)
theorem qrun_holds (hg:TysOK C.P g.tys) (hn:g.n=C.n) {all:Array Oper}:∀(n:Nat) (l:List Oper) (s:St) (ob:List Prop),(qrun g all n l s ob).holds C all K Φ->AllP ob∧QGo C all l s K Φ:=by
 intro n
 induction n with
 | zero=>intro l s ob h;exact h.elim
 | succ n ih=>
  rintro l ⟨L,H,m⟩ ob h
  cases l with
  | nil=>
   unfold qrun at h
   simp only[fS_eq,fO_eq] at h
   exact⟨h.1,fun a w ρ F hs=>wpQuiet_nil fun w' hm=>h.2 a w' ⟨ρ,F,hs.mod hm⟩⟩
  | cons o rest=>
  unfold qrun at h
  simp only at h
  split at h
  ·rename_i hgd
   split at h
   ·rename_i v p hrd
    split at h
    ·rename_i d hd
     cases hb:Nat.blt d g.n with
     | false=>rw[hb] at h;exact h.elim
     | true=>
      rw[hb] at h
      simp only[cond_true,f3_eq,fL_eq,fA_eq] at h
      obtain⟨h1,h2⟩:=ih _ _ _ h
      obtain⟨h3,h4⟩:=AllP_app h1
      refine⟨h3,fun a w ρ F hw=>?_⟩
      obtain⟨x,r1,r2,r3⟩:=rd_sound hg hw (pc_nil _) hrd h4
      refine QGo.op_next hgd (x:=x) (fun w' hm=>?_) ?_
      ·unfold Oper.quietAt
       rw[r3 w' fun k hk=>hm.block k hk (by simp)]
       exact⟨rfl,rfl⟩
      ·rw[hd]
       exact h2 _ _ _ _ (hw.put (by rw[←hn];simpa using hb) r1 r2)
    ·exact h.elim
   ·rw[fS_eq,fO_eq] at h;exact h
  ·rename_i j u hgd
   split at h
   ·exact h.elim
   ·rename_i q hq
    split at h
    ·rename_i v p hrd
     split at h
     ·rename_i d hd
      cases hb:(Nat.blt d g.n&&!(q.any fun e=>Nat.beq e.1 d)&&v.all3 (fresh m)) with
      | false=>rw[hb] at h;exact h.elim
      | true=>
       rw[hb] at h
       simp only[cond_true,fIs_eq,f3_eq,fL_eq,fP_eq,fA_eq] at h
       simp only[Bool.and_eq_true,Bool.not_eq_true'] at hb
       obtain⟨⟨b1,b2⟩,b3⟩:=hb
       obtain⟨h1,h2⟩:=ih _ _ _ h
       obtain⟨h3,h4⟩:=AllP_app h1
       refine⟨h3,fun a w ρ F hw=>?_⟩
       have hgp:=gpath_sound hw hq
       have hwant:Region.wanted o (yielded all a.tmps)=true↔pcA a.tmps q:=by
        rw[←hgp];simp [Region.wanted,hgd]
       by_cases hpc:pcA a.tmps q
       ·obtain⟨x,r1,r2,r3⟩:=rd_sound hg hw hpc hrd (imps_sound hw hpc h4)
        refine QGo.op_guarded (x:=x) (fun _ w' hm=>?_) (fun hno=>by rw[hwant.2 hpc] at hno;simp at hno) ?_
        ·unfold Oper.quietAt
         rw[r3 w' fun k hk=>hm.block k hk (by simp)]
         exact⟨rfl,rfl⟩
        ·rw[hd]
         exact h2 _ _ _ _ (hw.putS (by rw[←hn];simpa using b1) ⟨fun _=>r1,fun hno=>(hno ((pcA_put b2).2 hpc)).elim⟩ b3)
       ·refine QGo.op_guarded (x:=undef) (fun hyes=>(hpc (hwant.1 hyes)).elim) (fun _=>rfl) ?_
        rw[hd]
        exact h2 _ _ _ _ (hw.putS (by rw[←hn];simpa using b1) ⟨fun hp=>(hpc ((pcA_put b2).1 hp)).elim,fun _=>rfl⟩ b3)
     ·exact h.elim
    ·rw[fS_eq,fO_eq] at h;exact h
def val0:V->Option Value
 | .d (.int k n)=>some (.int k n)
 | .d (.bool b)=>some (.bool b)
 | .d (.str s)=>some (.string s)
 | _=>none
def val0s:List V->Option (List Value)
 | []=>some []
 | v::r=>match val0 v,val0s r with
  | some x,some xs=>some (x::xs)
  | _,_=>none
def valOf:V->Option Value
 | .tup us=>match val0s us with
  | some xs=>some (.tuple xs.toArray)
  | none=>none
 | v=>val0 v
theorem val0_sound {v:V} {x y:Value} (h:val0 v=some x) (hr:R3 ρ F w v y):y=x:=by
 cases v with
 | d e=>
  cases e<;>simp only[val0,Option.some.injEq,reduceCtorEq] at h<;>subst h<;>cases (show RD F w _ y from hr)<;>rfl
 | _=>simp [val0] at h
theorem val0s_sound {us:List V}:∀{xs ys:List Value},val0s us=some xs->All2 (R2 ρ F w) us ys->ys=xs:=by
 induction us with
 | nil=>intro xs ys h hr;cases ys with
  | nil=>simpa [val0s] using h
  | cons=>exact hr.elim
 | cons u us ih=>
  intro xs ys h hr
  cases ys with
  | nil=>exact hr.elim
  | cons y ys=>
   simp only[val0s] at h
   split at h
   ·rename_i x0 xs0 e1 e2
    simp only[Option.some.injEq] at h
    subst h
    rw[val0_sound e1 (R3_of hr.1),ih e2 hr.2]
   ·simp at h
theorem valOf_sound {v:V} {x y:Value} (h:valOf v=some x) (hr:R3 ρ F w v y):y=x:=by
 cases v with
 | tup us=>
  simp only[valOf] at h
  split at h
  ·rename_i xs e
   simp only[Option.some.injEq] at h
   obtain⟨ys,rfl,hy⟩:=hr
   rw[←h,val0s_sound e hy]
  ·simp at h
 | _=>(first | exact val0_sound (v:=.nils) h hr | exact val0_sound (v:=(.ptr _ _)) h hr | exact val0_sound (v:=(.own _)) h hr | exact val0_sound (v:=(.vptr _ _ _ _)) h hr | exact val0_sound (v:=(.eptr _)) h hr | exact val0_sound (v:=(.fn _ _)) h hr | exact val0_sound (v:=(.agg _)) h hr | exact val0_sound (v:=(.g _ _)) h hr | exact val0_sound (v:=.dead) h hr | exact val0_sound (v:=(.d _)) h hr)
theorem call_raw (h:SatW C s a w ρ F) (hfxg:g.fix=C.fix) {q:List (Nat×Bool)} (hq:pcA a.tmps q) {o:Oper} {f:FuncId} {A:List V} (hco:callOf s.L q o=some (f,A))
  {is:List Nat} {fix:Nat} {args:List V} {H H':List Ch} {r:V} (hp:Proc C.pg f fix args H r H') (hA:AEq A (args.map (V.map3 (ren0 is)))) (hok:okIs g s.m is fix H.length=true) (hH:HLE s.H (rnH is is H)) :
  ∃vals,(execOp a.eval o).run C.P w=.ok (.enter f vals) w∧Calls C.P f vals w (Post w F (fun i=>ρ (nth is i)) fix H r H'):=by
 obtain⟨hcall,hfr,hfr',hfx,hHH,hcalls⟩:=hp
 unfold callOf at hco
 split at hco
 ·rename_i c hop
  split at hco
  ·rename_i fo hc
   split at hco
   ·rename_i f' caps A' he hes
    simp only[Option.some.injEq,Prod.mk.injEq] at hco
    obtain⟨rfl,rfl⟩:=hco
    obtain⟨cs,hcs,hcaps⟩:=(show R1 ρ F w (.fn f' caps) _ from (ev_sound h hq he).1)
    have hargs:=(evs_sound h hq hes).1
    simp only[okIs,Bool.and_eq_true,List.all_eq_true] at hok
    obtain⟨⟨⟨o1,o2⟩,o3⟩,o4⟩:=hok
    have hisl:=Nat.eq_of_beq_eq_true o4
    simp only[freshAll,Bool.and_eq_true,List.all_eq_true] at hfr
    have hvals:c.args.map a.eval++cs.toArray=(c.args.toList.map a.eval++cs).toArray:=by
     cases c.args;simp
    have hall:All2 (R3 ρ F w) (A'++caps) (c.args.toList.map a.eval++cs):=hargs.app (hcaps.mono fun u v hr=>R3_of (R2_of (R1_of hr)))
    have hall2:=AEq_sound hA hall
    have hall3:All2 (R3 (fun i=>ρ (nth is i)) F w) args (c.args.toList.map a.eval++cs):=hall2.unmap fun u v hu hr=>R3.unren (k:=H.length) (fun _ _=>rfl) (hfr.1 u hu) hr
    have hold:Holds (fun i=>ρ (nth is i)) F w H:=by
     have hx:∀i,i<H.length->∃c,H[i]?=some c∧∃c0,(nth is i,c0)∈s.H∧ChEq c0 (c.map (ren0 is)):=fun i hi=>by
      obtain⟨c0,k1,k2⟩:=rnH_mem hisl hH (List.getElem?_eq_getElem hi)
      exact⟨_,List.getElem?_eq_getElem hi,c0,k1,k2⟩
     refine⟨fun i c hc=>?_,fun i j b hi hj hij e=>?_,fun i b hi e=>?_⟩
     ·have hi:=(List.getElem?_eq_some_iff.1 hc).1
      obtain⟨c',hc',c0,k1,k2⟩:=hx i hi
      rw[hc] at hc'
      obtain rfl:=Option.some.inj hc'
      exact ChOK.unren (k:=H.length) (ρ:=fun i=>ρ (nth is i)) (fun _ _=>rfl) hi (hfr.2 c (List.mem_of_getElem? hc)).1 (ChEq_sound k2 (h.ch _ _ k1))
     ·obtain⟨_,_,c0,k1,_⟩:=hx i hi
      obtain⟨_,_,c1,k3,_⟩:=hx j hj
      exact fun e2=>h.sep _ _ c0 c1 b k1 k3 (nodupB_sound o1 i j (by omega) (by omega) hij) (bks_main e) (bks_main e2)
     ·obtain⟨_,_,c0,k1,_⟩:=hx i hi
      exact h.out _ c0 b k1 (bks_main e)
    refine⟨_,run_call hop hc hcs hcall w,?_⟩
    rw[hvals]
    exact hcalls w F _ _ h.lt h.env hold hall3
   ·simp at hco
  ·simp at hco
 ·simp at hco
theorem val0_mk {v:V} {x:Value} (h:val0 v=some x):R0 ρ F w v x:=by
 cases v with
 | d e=>
  cases e<;>simp only[val0,Option.some.injEq,reduceCtorEq] at h<;>subst h
  ·exact RD.int _ _
  ·exact RD.bool _
  ·exact RD.str _
 | _=>simp [val0] at h
theorem val0s_mk {us:List V}:∀{xs:List Value},val0s us=some xs->All2 (R2 ρ F w) us xs:=by
 induction us with
 | nil=>intro xs h;simp [val0s] at h;subst h;trivial
 | cons u us ih=>
  intro xs h
  simp only[val0s] at h
  split at h
  ·rename_i x0 xs0 e1 e2
   simp only[Option.some.injEq] at h
   subst h
   exact⟨R2_of (R1_of (val0_mk e1)),ih e2⟩
  ·simp at h
theorem val_of0 {v:V} (h:∀us,v≠.tup us):valOf v=val0 v:=by cases v<;>first | rfl | exact (h _ rfl).elim
theorem valOf_mk {v:V} {x:Value} (h:valOf v=some x):R3 ρ F w v x:=by
 by_cases ht:∃us,v=.tup us
 ·obtain⟨us,rfl⟩:=ht
  simp only[valOf] at h
  split at h
  ·rename_i xs e
   simp only[Option.some.injEq] at h
   exact⟨xs,h.symm,val0s_mk e⟩
  ·simp at h
 ·rw[val_of0 fun us e=>ht ⟨us,e⟩] at h
  exact R3_of (R2_of (R1_of (val0_mk h)))
theorem quiet_call (h:SatW C s a w ρ F) (hfxg:g.fix=C.fix) {q:List (Nat×Bool)} (hq:pcA a.tmps q) {o:Oper} {f:FuncId} {A:List V} (hco:callOf s.L q o=some (f,A)) {args:List V} {r:V} {x:Value}
  (hp:Pure C.pg f args r []) (hx:valOf r=some x) (hA:AEq A (args.map (V.map3 (ren0 [])))) {w':World} (hm:Mod none w w'):Oper.quietAt C.P o a (Mod none w) w' x:=by
 obtain⟨vals,h1,h2⟩:=call_raw (h.mod hm) hfxg hq hco hp hA (show okIs g s.m [] 0 0=true from rfl) trivial
 unfold Oper.quietAt
 rw[h1]
 refine⟨rfl,h2.mono ?_⟩
 rintro e w'' ⟨v,ρ',F',rfl,hk,_,_,_,_,hr,_⟩
 rw[valOf_sound hx hr]
 exact⟨rfl,hm.trans ⟨hk.os,hk.tape,hk.output,hk.size,fun k hlt _=>hk.block k hlt (fun ⟨i,hi,_⟩=>absurd hi (Nat.not_lt_zero _))⟩⟩
theorem QGo.call (hn:g.n=C.n) (hfxg:g.fix=C.fix) {all:Array Oper} {o:Oper} {rest:List Oper} {args:List V} {r:V} {f:FuncId} {A:List V} {d:Nat} {x:Value}
  (hp:Pure C.pg f args r []) (hx:valOf r=some x) (hgd:o.guard=none) (hd:o.dst=some d) (hdn:(Nat.blt d g.n&&r.all3 (fresh 0))=true) (hco:callOf s.L [] o=some (f,A)) (hA:AEq A (args.map (V.map3 (ren0 []))))
  (k:QGo C all rest {s with L:=put s.L d r} K Φ):QGo C all (o::rest) s K Φ:=by
 intro a w ρ F h
 simp only[Bool.and_eq_true] at hdn
 refine QGo.op_next hgd (x:=x) (fun w' hm=>quiet_call h hfxg (pc_nil _) hco hp hx hA hm) ?_
 rw[hd]
 exact k _ _ _ _ (h.put (by rw[←hn];simpa using hdn.1) (valOf_mk hx) (all3_imp (fun u hu=>fresh_mono (Nat.zero_le _) hu) hdn.2))
theorem QGo.callG (hn:g.n=C.n) (hfxg:g.fix=C.fix) {all:Array Oper} {o:Oper} {rest:List Oper} {args:List V} {r:V} {f:FuncId} {A:List V} {d j:Nat} {u:Bool} {q:List (Nat×Bool)} {x:Value}
  (hgd:o.guard=some (j,u)) (hgp:gpath s.L all j u=some q) (hd:o.dst=some d) (hdn:(Nat.blt d g.n&&!(q.any fun e=>Nat.beq e.1 d)&&r.all3 (fresh 0))=true) (hco:callOf s.L q o=some (f,A))
  (hp:imp s.L q (Pure C.pg f args r [])) (hx:valOf r=some x) (hA:AEq A (args.map (V.map3 (ren0 []))))
  (k:QGo C all rest {s with L:=put s.L d (.g q r)} K Φ):QGo C all (o::rest) s K Φ:=by
 intro a w ρ F h
 simp only[Bool.and_eq_true,Bool.not_eq_true'] at hdn
 obtain⟨⟨b1,b2⟩,b3⟩:=hdn
 have hgs:=gpath_sound h hgp
 have hwant:Region.wanted o (yielded all a.tmps)=true↔pcA a.tmps q:=by rw[←hgs];simp [Region.wanted,hgd]
 have hf:=all3_imp (fun u hu=>fresh_mono (Nat.zero_le s.m) hu) b3
 by_cases hpc:pcA a.tmps q
 ·refine QGo.op_guarded (x:=x) (fun _ w' hm=>quiet_call h hfxg hpc hco (imp_sound h hpc hp) hx hA hm) (fun hno=>by rw[hwant.2 hpc] at hno;simp at hno) ?_
  rw[hd]
  exact k _ _ _ _ (h.putS (by rw[←hn];simpa using b1) ⟨fun _=>valOf_mk hx,fun hno=>(hno ((pcA_put b2).2 hpc)).elim⟩ hf)
 ·refine QGo.op_guarded (x:=undef) (fun hyes=>(hpc (hwant.1 hyes)).elim) (fun _=>rfl) ?_
  rw[hd]
  exact k _ _ _ _ (h.putS (by rw[←hn];simpa using b1) ⟨fun hp=>(hpc ((pcA_put b2).1 hp)).elim,fun _=>rfl⟩ hf)
end
namespace Cx
variable {P:Pg} {g:Cfg} {C:Ctx} (x:Cx P g C) {s s':St} {K K':List Item} {Φ:Exit->St->Prop} {ob:List Prop}
include x
theorem toWp {c:Code} {Q:Exit->Act->World->Prop} {a:Act} {w:World} (h:wq C.rd C.P c Q a w):c.wp C.P Q a w:=by
 rw[x.rd] at h;exact wq_none.1 h
theorem ofWp {c:Code} {Q:Exit->Act->World->Prop} {a:Act} {w:World} (h:c.wp C.P Q a w):wq C.rd C.P c Q a w:=by
 rw[x.rd];exact wq_none.2 h
theorem quiet {id:Nat} {ops:Array Oper} (h:run g 1000 K s []=.code ob (.region id ops true) K' s') (ho:AllP ob) (hm:P.P.follows .mixedOrders=true) (hB:Region.lexB .any ops=true)
  (k:QGo C ops ops.toList s' K' Φ):Go C K s Φ:=by
 refine st x.ty x.n x.fix h ⟨ho,?_⟩
 rintro a w ⟨ρ,F,hs⟩
 have hd:Mod none w {w with drawn:=w.drawn+1}:=⟨rfl,rfl,rfl,Nat.le_refl _,fun _ _ _=>rfl⟩
 refine x.ofWp ?_
 exact wp_region_quiet (C:=Mod none w) (x.progP.symm▸hm) hB hd (k a w ρ F hs)
end Cx
namespace Cr
variable {P:Pg} {g:Cfg} {C:Ctx} (x:Cr P g C) {s s':St} {K K':List Item} {Φ:Exit->St->Prop} {ob:List Prop}
include x
theorem qdone {all:Array Oper} {l:List Oper} (h:qrun g all 1000 l s []=.done ob s') (ho:AllP ob) (k:Go C K s' Φ):QGo C all l s K Φ:=
 (qrun_holds (K:=K) (Φ:=Φ) x.ty x.n 1000 l s [] (by rw[h];exact⟨ho,k⟩)).2
theorem qcall {all:Array Oper} {l rest:List Oper} {o:Oper} {args A:List V} {r:V} {f d:Nat} {y:Value} (h:qrun g all 1000 l s []=.op ob o rest s') (ho:AllP ob)
  (hco:callInfo g s' o=some (f,A,d)) (hp:Pure P f args r []) (hy:valOf r=some y) (hr:r.all3 (fresh 0)=true) (hA:AEq A (args.map (V.map3 (ren0 [])))) (k:QGo C all rest {s' with L:=put s'.L d r} K Φ):QGo C all l s K Φ:=by
 suffices kk:QGo C all (o::rest) s' K Φ from (qrun_holds (K:=K) (Φ:=Φ) x.ty x.n 1000 l s [] (by rw[h];exact⟨ho,kk⟩)).2
 unfold callInfo at hco
 split at hco
 ·rename_i d' hg hd
  cases hb:Nat.blt d' g.n with
  | false=>rw[hb] at hco;simp at hco
  | true=>
   rw[hb] at hco
   simp only[cond_true] at hco
   split at hco
   ·rename_i f' A' hc
    simp only[Option.some.injEq,Prod.mk.injEq] at hco
    obtain⟨rfl,rfl,rfl⟩:=hco
    exact QGo.call x.n x.fix (x.prog▸hp) hy hg hd (by simp only[Bool.and_eq_true];exact⟨hb,hr⟩) hc hA k
   ·simp at hco
 ·simp at hco
theorem qcallG {all:Array Oper} {l rest:List Oper} {o:Oper} {args A:List V} {r:V} {f d:Nat} {q:List (Nat×Bool)} {y:Value} (h:qrun g all 1000 l s []=.op ob o rest s') (ho:AllP ob)
  (hco:callInfoG g s' all o=some (f,A,d,q)) (hp:imp s'.L q (Pure P f args r [])) (hy:valOf r=some y) (hr:r.all3 (fresh 0)=true) (hA:AEq A (args.map (V.map3 (ren0 [])))) (k:QGo C all rest {s' with L:=put s'.L d (.g q r)} K Φ):QGo C all l s K Φ:=by
 suffices kk:QGo C all (o::rest) s' K Φ from (qrun_holds (K:=K) (Φ:=Φ) x.ty x.n 1000 l s [] (by rw[h];exact⟨ho,kk⟩)).2
 unfold callInfoG at hco
 split at hco
 ·rename_i j u d' hg hd
  split at hco
  ·rename_i q' hq
   cases hb:(Nat.blt d' g.n&&!(q'.any fun e=>Nat.beq e.1 d')) with
   | false=>rw[hb] at hco;simp at hco
   | true=>
    rw[hb] at hco
    simp only[cond_true] at hco
    split at hco
    ·rename_i f' A' hc
     simp only[Option.some.injEq,Prod.mk.injEq] at hco
     obtain⟨rfl,rfl,rfl,rfl⟩:=hco
     exact QGo.callG x.n x.fix hg hq hd (by simp only[Bool.and_eq_true] at hb ⊢;exact⟨hb,hr⟩) hc (x.prog▸hp) hy hA k
    ·simp at hco
  ·simp at hco
 ·simp at hco
end Cr
end Go.Sx
set_option linter.unusedVariables false
set_option linter.unusedSimpArgs false
namespace Go.Sx
def pickL (l:List Oper):List Nat->List Oper
 | []=>[]
 | i::r=>match l[i]? with
  | some o=>o::pickL l r
  | none=>pickL l r
def isMove (ops:Array Oper) (i:Nat):Bool:=
 match ops[i]? with
 | some o=>match o.guard,o.op with
  | none, .move _=>true
  | none, .assign _=>true
  | _,_=>false
 | none=>false
def memN (i:Nat):List Nat->Bool
 | []=>false
 | j::r=>Nat.beq j i||memN i r
theorem memN_iff {i:Nat}:∀{l:List Nat},memN i l=true↔i∈l
 | []=>by simp [memN]
 | j::r=>by
  simp only[memN,Bool.or_eq_true,memN_iff,List.mem_cons]
  constructor
  ·rintro (h | h)
   ·exact .inl (Nat.eq_of_beq_eq_true h).symm
   ·exact .inr h
  ·rintro (h | h)
   ·exact .inl (by subst h;simp)
   ·exact .inr h
section
variable (md:Region.Mode) (ops:Array Oper)
def stepB (T:List Nat) (listed:Array Bool) (i:Nat):Bool:=(Region.ready md ops listed).contains i&&Region.free md ops listed i&&!memN i T
def planA (T:List Nat):List Nat->Array Bool->(Array Bool->Bool)->Bool
 | [],l,k=>k l
 | i::r,l,k=>stepB md ops T l i&&isMove ops i&&planA T r (l.setIfInBounds i true) k
def planQ (T:List Nat):List Nat->Array Bool->(Array Bool->Bool)->Bool
 | [],l,k=>k l
 | i::r,l,k=>stepB md ops T l i&&planQ T r (l.setIfInBounds i true) k
def seqL:List Nat->Array Bool->Bool
 | [],l=>(Region.ready md ops l).isEmpty
 | i::r,l=>decide (Region.ready md ops l=[i])&&seqL r (l.setIfInBounds i true)
def sinkL (t:Nat):List Nat->Bool
 | []=>true
 | i::r=>(Region.waitsFor md ops t i||r.any fun j=>Region.waitsFor md ops j i)&&sinkL t r
def chainL:List Nat->Bool
 | a::b::r=>Region.waitsFor md ops b a&&chainL (b::r)
 | _=>true
def headOf:List Nat->Nat
 | t::_=>t
 | []=>0
def planB (A B T:List Nat):Bool:=
 Region.noSelect ops&&Nat.beq (A.length+B.length+T.length) ops.size&&!T.isEmpty&&T.all (fun t=>Nat.blt t ops.size)&&sinkL md ops (headOf T) B&&chainL md ops T&&
 planA md ops T A (Array.replicate ops.size false) fun l=>planQ md ops T B l fun l=>seqL md ops T l
end
section
variable {P:Program} {ops:Array Oper} {md:Region.Mode} {Q:Exit->Act->World->Prop} {T:List Nat}
structure Inv (md:Region.Mode) (ops:Array Oper) (T:List Nat) (listed:Array Bool):Prop where
 size:listed.size=ops.size
 closed:∀j oj,ops[j]?=some oj->listed.getD j false=true->∀e∈oj.after,Region.binds md e=true->listed.getD e.on false=true
 tail:∀t∈T,listed.getD t false=false
theorem Inv.set {i:Nat} {listed:Array Bool} (inv:Inv md ops T listed) (hi:i∈Region.ready md ops listed) (hin:i∉T):Inv md ops T (listed.setIfInBounds i true):=by
 obtain⟨_,oi,hoi,hall⟩:=mem_ready.1 hi
 refine⟨by simp [inv.size],fun j oj hj hl e he hb=>?_,fun t ht=>by rw[getD_set_ne false (by rintro rfl;exact hin ht)];exact inv.tail t ht⟩
 by_cases hij:i=j
 ·subst hij
  have:oj=oi:=Option.some.inj (hj.symm.trans hoi)
  subst this
  exact getD_set_true (hall e he hb)
 ·rw[getD_set_ne false hij] at hl
  exact getD_set_true (inv.closed j oj hj hl e he hb)
theorem ready_pred {t i:Nat} {listed:Array Bool} (ht:t∈Region.ready md ops listed) (hw:Region.waitsFor md ops t i=true):listed.getD i false=true:=by
 obtain⟨_,ot,hot,hall⟩:=mem_ready.1 ht
 obtain⟨o',ho',e,he,hb,hon⟩:=Region.waitsFor_spec hw
 obtain rfl:o'=ot:=Option.some.inj (ho'.symm.trans hot)
 rw[←hon]
 exact hall e he hb
theorem listed_pred {t i:Nat} {listed:Array Bool} (inv:Inv md ops T listed) (ht:listed.getD t false=true) (hw:Region.waitsFor md ops t i=true):listed.getD i false=true:=by
 obtain⟨o',ho',e,he,hb,hon⟩:=Region.waitsFor_spec hw
 rw[←hon]
 exact inv.closed t o' ho' ht e he hb
theorem sink_listed {t:Nat} {listed:Array Bool} (inv:Inv md ops T listed) (ht:t∈Region.ready md ops listed):∀{B:List Nat},sinkL md ops t B=true->∀i∈B,listed.getD i false=true
 | b::r,h,i,hi=>by
  simp only[sinkL,Bool.and_eq_true,Bool.or_eq_true,List.any_eq_true] at h
  have ih:=sink_listed inv ht h.2
  rcases List.mem_cons.1 hi with rfl | hi
  ·rcases h.1 with h1 | ⟨j,hj,hw⟩
   ·exact ready_pred ht h1
   ·exact listed_pred inv (ih j hj) hw
  ·exact ih i hi
 | [],_,_,hi=>by cases hi
theorem chain_not {listed:Array Bool} (inv:Inv md ops T listed):∀{S:List Nat},(∀t∈S,t∈T)->chainL md ops S=true->∀t∈S,t∈Region.ready md ops listed->t=headOf S
 | [],_,_,t,ht,_=>by cases ht
 | [a],_,_,t,ht,_=>by simpa [headOf] using ht
 | a::b::r,hS,h,t,ht,hr=>by
  simp only[chainL,Bool.and_eq_true] at h
  rcases List.mem_cons.1 ht with rfl | ht
  ·rfl
  ·have h1:=chain_not inv (fun t ht=>hS t (List.mem_cons_of_mem _ ht)) h.2 t ht hr
   simp only[headOf] at h1
   subst h1
   have:=ready_pred hr h.1
   rw[inv.tail a (hS a (by simp))] at this
   cases this
theorem tail_not {listed:Array Bool} {B:List Nat} (inv:Inv md ops T listed) (hs:sinkL md ops (headOf T) B=true) (hc:chainL md ops T=true) {i:Nat} (hi:i∈B) (hun:listed.getD i true=false) {j:Nat} (hj:j∈Region.ready md ops listed):j∉T:=by
 intro hjT
 have:=chain_not inv (fun _ h=>h) hc j hjT hj
 subst this
 have:=sink_listed inv hj hs i hi
 rw[getD_both hun] at this
 cases this
variable {C:World->Prop}
def wpAnyB (P:Program) (md:Region.Mode) (ops:Array Oper) (C:World->Prop) (T:List Nat) (L:Array Bool->Act->Prop):Nat->Array Bool->Act->Prop
 | 0,listed,a=>L listed a
 | f+1,listed,a=>
  Region.ready md ops listed≠[]∧∀i∈Region.ready md ops listed,i∉T∧qOp P ops C i (wpAnyB P md ops C T L f (listed.setIfInBounds i true)) a
theorem wpAny_of_B {g:Nat} {L:Array Bool->Act->Prop} (hL:∀listed a w,C w->L listed a->wpAny P md ops Q g listed a w) :
  ∀(f:Nat) (listed:Array Bool) (a:Act) (w:World),C w->wpAnyB P md ops C T L f listed a->wpAny P md ops Q (f+g) listed a w
 | 0,listed,a,w,hw,h=>by rw[Nat.zero_add];exact hL _ _ _ hw h
 | f+1,listed,a,w,hw,h=>by
  rw[show f+1+g=(f+g)+1 by omega]
  exact⟨fun h0=>absurd h0 h.1,fun i hi=>wpOp_of_qOp hw (fun a' w' hw' h'=>wpAny_of_B hL f _ a' w' hw' h') (h.2 i hi).2⟩
theorem wpAnyB_first {B:List Nat} {i:Nat} {oi:Oper} {v:Value} {L:Array Bool->Act->Prop} (hi:ops[i]?=some oi) (hsel:∀(j:Nat) (o:Oper) cs b,ops[j]?=some o->o.op≠.select cs b)
  (hs:sinkL md ops (headOf T) B=true) (hc:chainL md ops T=true) (hin:i∈B)
  (hdone:∀listed a,L listed a->∀j∈Region.ready md ops listed,j∈T) :
  ∀(f:Nat) (listed:Array Bool) (a:Act),Inv md ops T listed->
   (∀j oj,ops[j]?=some oj->j≠i->listed.getD j true=false->(∀e∈oj.after,Region.binds md e=true->e.on≠i)->oi.apart ops oj=true)->
   i∈Region.ready md ops listed->YieldsIn P ops C oi v a->
   wpAnyB P md ops C T L f (listed.setIfInBounds i true) (a.put oi.dst v)->wpAnyB P md ops C T L (f+1) listed a:=by
 intro f
 induction f with
 | zero=>
  intro listed a inv _ hr hy H
  have hun:=(mem_ready.1 hr).1
  refine⟨fun h=>(by rw[h] at hr;cases hr),fun j hj=>?_⟩
  have hjn:=tail_not inv hs hc hin hun hj
  refine⟨hjn,?_⟩
  by_cases hji:j=i
  ·subst hji;exact hy.qOp hi H
  ·exact absurd (hdone _ _ H j (ready_mono hj hji)) hjn
 | succ f ih=>
  intro listed a inv hfree hr hy H
  have hun:=(mem_ready.1 hr).1
  refine⟨fun h=>(by rw[h] at hr;cases hr),fun j hj=>?_⟩
  have hjn:=tail_not inv hs hc hin hun hj
  refine⟨hjn,?_⟩
  by_cases hji:j=i
  ·subst hji;exact hy.qOp hi H
  ·have h1:=(H.2 j (ready_mono hj hji)).2
   obtain⟨hjun,oj,hoj,hall⟩:=mem_ready.1 hj
   have hnot:∀e∈oj.after,Region.binds md e=true->e.on≠i:=fun e he hb heq=>by
    have h1:=hall e he hb
    rw[heq,getD_both hun] at h1
    cases h1
   have h2:=qOp_put hoj (hfree j oj hoj hji hjun hnot) (fun cs b=>hsel i oi cs b hi) (fun cs b=>hsel j oj cs b hoj) hy h1
   have hfree':∀k ok,ops[k]?=some ok->k≠i->(listed.setIfInBounds j true).getD k true=false->
     (∀e∈ok.after,Region.binds md e=true->e.on≠i)->oi.apart ops ok=true:=fun k ok hk hki hun hno=>by
    refine hfree k ok hk hki ?_ hno
    by_cases hjk:j=k
    ·subst hjk;exact hjun
    ·rw[getD_set_ne true hjk] at hun;exact hun
   refine qOp_mono (fun a' h3=>ih (listed.setIfInBounds j true) a' (inv.set hj hjn) hfree' (ready_mono hr (Ne.symm hji)) h3.1 ?_) h2
   rw[Array.setIfInBounds_comm _ _ hji]
   exact h3.2
theorem pick_cons {l:List Oper} {i:Nat} {o:Oper} {r:List Nat} (h:l[i]?=some o):pickL l (i::r)=o::pickL l r:=by simp [pickL,h]
theorem stepB_some {listed:Array Bool} {i:Nat} (h:stepB md ops T listed i=true):∃o,ops[i]?=some o∧i∈Region.ready md ops listed∧Region.free md ops listed i=true∧i∉T:=by
 simp only[stepB,Bool.and_eq_true,Bool.not_eq_true'] at h
 have hr:i∈Region.ready md ops listed:=by simpa using h.1.1
 obtain⟨_,o,ho,_⟩:=mem_ready.1 hr
 exact⟨o,ho,hr,h.1.2,fun hm=>by rw[memN_iff.2 hm] at h;exact absurd h.2 (by simp)⟩
theorem planQ_sound (hs:Region.noSelect ops=true) {B0:List Nat} (hsk:sinkL md ops (headOf T) B0=true) (hc:chainL md ops T=true) {Lq:Act->Prop} :
  ∀(B:List Nat) (listed:Array Bool) (a:Act),(∀i∈B,i∈B0)->Inv md ops T listed->planQ md ops T B listed (fun l=>seqL md ops T l)=true->
   wpQuiet P ops C Lq (pickL ops.toList B) a->wpAnyB P md ops C T (fun l a'=>seqL md ops T l=true∧Lq a') B.length listed a
 | [],listed,a,_,inv,hp,h=>⟨hp,h⟩
 | i::r,listed,a,hB,inv,hp,h=>by
  simp only[planQ,Bool.and_eq_true] at hp
  obtain⟨o,ho,hr,hf,hiT⟩:=stepB_some hp.1
  rw[pick_cons (by simpa using ho)] at h
  have hst:qOp P ops C i (wpQuiet P ops C Lq (pickL ops.toList r)) a:=by unfold qOp;simp only[ho];exact h
  obtain⟨v,hy,hK⟩:=yieldsIn_of_qOp ho hst
  refine wpAnyB_first ho (Region.noSelect_spec hs) hsk hc (hB i (by simp)) ?_ r.length listed a inv (Region.free_spec ho hf) hr hy
   (planQ_sound hs hsk hc r _ _ (fun j hj=>hB j (List.mem_cons_of_mem _ hj)) (inv.set hr hiT) hp.2 hK)
  rintro l a' ⟨hl,_⟩ j hj
  cases hT:T with
  | nil=>rw[hT] at hl;simp only[seqL,List.isEmpty_iff] at hl;rw[hl] at hj;cases hj
  | cons t T'=>
   rw[hT] at hl
   simp only[seqL,Bool.and_eq_true,decide_eq_true_eq] at hl
   rw[hl.1] at hj
   simpa using .inl (List.mem_singleton.1 hj)
theorem seqL_sound:∀(T:List Nat) (listed:Array Bool) (a:Act) (w:World),(∀t∈T,t<ops.size)->seqL md ops T listed=true->wpList P ops Q (pickL ops.toList T) a w->wpAny P md ops Q T.length listed a w
 | [],listed,a,w,_,hB,h=>⟨by simpa [seqL] using hB,h⟩
 | i::r,listed,a,w,hlt,hB,h=>by
  simp only[seqL,Bool.and_eq_true,decide_eq_true_eq] at hB
  have hi:=hlt i (by simp)
  have ho:ops[i]?=some ops[i]:=by simp [hi]
  rw[pick_cons (o:=ops[i]) (by simp [hi])] at h
  refine⟨fun h1=>(by rw[hB.1] at h1;cases h1),fun k hk=>?_⟩
  rw[hB.1] at hk
  obtain rfl:=List.mem_singleton.1 hk
  have hw:wpOp P ops Q k (wpList P ops Q (pickL ops.toList r)) a w:=by unfold wpOp;simp only[ho];exact h
  exact wpOp_mono (fun a' w' h'=>seqL_sound r _ a' w' (fun t ht=>hlt t (List.mem_cons_of_mem _ ht)) hB.2 h') hw
theorem planA_sound (hs:Region.noSelect ops=true) (hQ:∀c a w,¬Q (.panic c) a w) {Lq:List Oper->Act->Prop} {f:Nat} {k:Array Bool->Bool} {w:World} (hw:C w)
  (hk:∀listed a,Inv md ops T listed->k listed=true->Lq [] a->wpAny P md ops Q f listed a w)
  (hcons:∀o l a,Lq (o::l) a->if Region.wanted o (yielded ops a.tmps) then o.quiet P a C (Lq l) else Lq l (a.put o.dst undef)) :
  ∀(A:List Nat) (listed:Array Bool) (a:Act),Inv md ops T listed->planA md ops T A listed k=true->Lq (pickL ops.toList A) a->wpAny P md ops Q (A.length+f) listed a w
 | [],listed,a,inv,hp,h=>by rw[List.length_nil,Nat.zero_add];exact hk _ _ inv hp h
 | i::r,listed,a,inv,hp,h=>by
  simp only[planA,Bool.and_eq_true] at hp
  obtain⟨⟨hp1,hm⟩,hp2⟩:=hp
  obtain⟨o,ho,hr,hf,hiT⟩:=stepB_some hp1
  rw[pick_cons (by simpa using ho)] at h
  rw[show (i::r).length+f=(r.length+f)+1 by simp;omega]
  have hc:=hcons _ _ _ h
  simp only[isMove,ho] at hm
  have hgo:∀x:Operand,o.guard=none->(∀w',(execOp a.eval o).run P w'=.ok (.value (a.eval x)) w')->wpAny P md ops Q (r.length+f+1) listed a w:=fun x hg hv=>by
   have hwt:Region.wanted o (yielded ops a.tmps)=true:=by simp [Region.wanted,hg]
   rw[if_pos hwt] at hc
   obtain⟨v,h1,h2⟩:=hc
   have h3:=h1 w hw
   unfold Oper.quietAt at h3
   rw[hv] at h3
   obtain⟨_,rfl⟩:=h3
   exact wpAny_take ho hs hf (by simpa using hr) (fun c a w hq=>absurd hq (hQ c _ w)) (.inl ⟨hwt,hv⟩) (planA_sound hs hQ hw hk hcons r _ _ (inv.set hr hiT) hp2 h2)
  split at hm
  ·rename_i x hg hop
   exact hgo x hg fun w'=>by unfold execOp;rw[hop];rfl
  ·rename_i x hg hop
   exact hgo x hg fun w'=>by unfold execOp;rw[hop];rfl
  ·cases hm
theorem wpAny_plan {a:Act} {w:World} {A B T:List Nat} (hp:planB .any ops A B T=true) (hQ:∀c a w,¬Q (.panic c) a w) (hC:C {w with drawn:=w.drawn+1})
  (h:wpQuiet P ops C (fun a'=>∀w',C w'->wpList P ops Q (pickL ops.toList T) a' w') (pickL ops.toList A++pickL ops.toList B) a):wpAny P .any ops Q ops.size (Array.replicate ops.size false) a {w with drawn:=w.drawn+1}:=by
 simp only[planB,Bool.and_eq_true] at hp
 obtain⟨⟨⟨⟨⟨⟨hs,hsz⟩,hT⟩,hTl⟩,hsk⟩,hch⟩,hpl⟩:=hp
 have inv0:Inv .any ops T (Array.replicate ops.size false):=⟨by simp,fun j oj _ hl=>(by rw[getD_replicate_false] at hl;cases hl),fun t _=>getD_replicate_false _ _⟩
 have hsz:=Nat.eq_of_beq_eq_true hsz
 have e:A.length+(B.length+T.length)=ops.size:=by omega
 have key:wpAny P .any ops Q (A.length+(B.length+T.length)) (Array.replicate ops.size false) a {w with drawn:=w.drawn+1}:=?_
 ·rw[e] at key;exact key
 refine planA_sound (C:=C) (T:=T) (Lq:=fun l a=>wpQuiet P ops C (fun a'=>∀w',C w'->wpList P ops Q (pickL ops.toList T) a' w') (l++pickL ops.toList B) a) hs hQ hC
  (fun listed a inv hk hl=>?_) (fun o l a hl=>hl) A _ a inv0 hpl h
 have hB:=planQ_sound (md:=.any) hs hsk hch B listed a (fun i hi=>hi) inv hk (by simpa using hl)
 refine wpAny_of_B (g:=T.length) (fun l a' w' hw' hL=>seqL_sound T l a' w' (fun t ht=>?_) hL.1 (hL.2 w' hw')) _ _ _ _ hC hB
 have:=List.all_eq_true.1 hTl t ht
 simpa using this
theorem wp_region_plan {id:Nat} {a:Act} {w:World} {A B T:List Nat} (hm:P.follows .mixedOrders=true) (hp:planB .any ops A B T=true) (hQ:∀c a w,¬Q (.panic c) a w) (hC:C {w with drawn:=w.drawn+1})
  (h:wpQuiet P ops C (fun a'=>∀w',C w'->wpList P ops Q (pickL ops.toList T) a' w') (pickL ops.toList A++pickL ops.toList B) a):(Code.region id ops true).wp P Q a w:=
 wp_region_any hm (wpAny_plan hp hQ hC h)
end
theorem den_panic {C:Ctx} {Q:Exit->Act->World->Prop} (hQ:∀c a w,¬Q (.panic c) a w):∀(K:List Item) (c:_) (a:Act) (w:World),¬den C Q K (.panic c) a w
 | [],c,a,w,h=>hQ c a w h
 | .code _::K,c,a,w,h=>den_panic hQ K c a w h
 | .ops _ _::K,c,a,w,h=>den_panic hQ K c a w h
 | .blk _::K,c,a,w,h=>den_panic hQ K c a w h
 | .back _::K,c,a,w,h=>den_panic hQ K c a w h
def NoPanic (Φ:Exit->St->Prop):Prop:=∀c s,¬Φ (.panic c) s
theorem Ret.noPanic {g:Cfg} {rs:List ResultVar} {ids:List Nat} {r:V} {H':List Ch}:NoPanic (Ret g rs ids r H'):=fun c s h=>by
 rcases h.1 with h | h<;>cases h
def app3 {α:Type}:List α->List α->List α
 | [],l=>l
 | a::r,l=>a::app3 r l
theorem app3_eq {α:Type} (a b:List α):app3 a b=a++b:=by induction a with
 | nil=>rfl
 | cons x a ih=>simp [app3,ih]
theorem wpQuiet_mono {P:Program} {ops:Array Oper} {C:World->Prop} {Q Q':Act->Prop} (h:∀a,Q a->Q' a):∀{l:List Oper} {a:Act},wpQuiet P ops C Q l a->wpQuiet P ops C Q' l a
 | [],a,hh=>h a hh
 | o::rest,a,hh=>by
  unfold wpQuiet at *
  split
  ·rename_i hw;simp only[hw,if_true] at hh;exact Oper.quiet_mono (fun a hh=>wpQuiet_mono h hh) hh
  ·rename_i hw;simp only[hw] at hh;exact wpQuiet_mono h hh
namespace Cx
variable {P:Pg} {g:Cfg} {C:Ctx} (x:Cx P g C) {s s':St} {K K':List Item} {Φ:Exit->St->Prop} {ob:List Prop}
include x
theorem plan (A B T:List Nat) {id:Nat} {ops:Array Oper} (h:run g 1000 K s []=.code ob (.region id ops true) K' s') (ho:AllP ob) (hm:P.P.follows .mixedOrders=true) (hB:planB .any ops A B T=true) (hΦ:NoPanic Φ)
  (k:QGo C ops (pickL ops.toList (app3 A B)) s' (.ops ops (pickL ops.toList T)::K') Φ):Go C K s Φ:=by
 refine st x.ty x.n x.fix h ⟨ho,?_⟩
 rintro a w ⟨ρ,F,hs⟩
 have hd:Mod none w {w with drawn:=w.drawn+1}:=⟨rfl,rfl,rfl,Nat.le_refl _,fun _ _ _=>rfl⟩
 have hpk:pickL ops.toList (app3 A B)=pickL ops.toList A++pickL ops.toList B:=by
  rw[app3_eq]
  clear k hB
  induction A with
  | nil=>rfl
  | cons i r ih=>
   simp only[List.cons_append,pickL]
   split<;>simp [ih]
 rw[hpk] at k
 refine x.ofWp ?_
 exact wp_region_plan (C:=Mod none w) (x.progP.symm▸hm) hB (den_panic (fun c a w ⟨s,_,hh⟩=>hΦ c s hh) K') hd (wpQuiet_mono (fun a h w' hw'=>(h w' hw').1) (k a w ρ F hs))
end Cx
end Go.Sx
