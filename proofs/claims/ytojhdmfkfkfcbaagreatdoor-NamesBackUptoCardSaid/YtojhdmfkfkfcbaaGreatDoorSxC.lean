import Derived.Test.YtojhdmfkfkfcbaaGreatDoorSxB
set_option linter.unusedSimpArgs false
set_option linter.unusedVariables false
namespace Go.Sx
def upd(ρ:Nat->Value)(id:Nat)(x:Value):Nat->Value:=λj=>if j=id then x else ρ j
def tH(k:V->V):List (Nat×V)->List (Nat×V)
 | []=>[]
 | (t,v)::r=>(t,v.yZ k)::tH k r
def qB(k:V->V):List (Nat×Ch)->List (Nat×Ch)
 | []=>[]
 | (t,c)::r=>(t,c.map k)::qB k r
theorem Fp{k:V->V}{L:List (Nat×V)}{t:Nat}{v':V}(h:(t,v')∈tH k L):∃v,(t,v)∈L∧v'=v.yZ k:=by
 induction L with
 | nil=>cases h
 | cons e r ih=>
  rcases List.mem_cons.1 h with e1 | h
  ·obtain⟨rfl,rfl⟩:=Prod.mk.inj e1;exact⟨_,by simp,Z⟩
  ·obtain⟨v,h1,h2⟩:=ih h;exact⟨v,by simp [h1],h2⟩
theorem vM{k:V->V}{H:List (Nat×Ch)}{t:Nat}{c':Ch}(h:(t,c')∈qB k H):∃c,(t,c)∈H∧c'=c.map k:=by
 induction H with
 | nil=>cases h
 | cons e r ih=>
  rcases List.mem_cons.1 h with e1 | h
  ·obtain⟨rfl,rfl⟩:=Prod.mk.inj e1;exact⟨_,by simp,Z⟩
  ·obtain⟨v,h1,h2⟩:=ih h;exact⟨v,by simp [h1],h2⟩
theorem xI(v:V):v.fJ (λu=>u)=v:=by cases v<;>simp [V.fJ]
theorem Ak(v:V):v.iQ (λu=>u)=v:=by
 cases v<;>simp only[V.iQ,V.fJ,List.map_id']
 congr 1
 rw[List.map_congr_left (g:=id) λa _=>xI a];simp
theorem tJ(v:V):v.dz (λu=>u)=v:=by
 cases v with
 | tup us=>simp only[V.dz];congr 1;rw[List.map_congr_left (g:=id) λa _=>Ak a];simp
 | agg us=>exact Ak (.agg us)
 | fn f c=>exact Ak (.fn f c)
 | _=>rfl
theorem tK(v:V):v.yZ (λu=>u)=v:=by
 cases v with
 | g p u=>simp only[V.yZ,tJ]
 | tup us=>exact tJ (.tup us)
 | agg us=>exact tJ (.agg us)
 | fn f c=>exact tJ (.fn f c)
 | _=>rfl
theorem kF(c:Ch):c.map (λu=>u)=c:=by
 cases c with
 | box us=>simp only[Ch.map];congr 1;rw[List.map_congr_left (g:=id) λa _=>xI a];simp
 | held _ _ _ _ _ u _ _ _=>simp only[Ch.map,xI]
 | tbl es=>simp only[Ch.map,Ak];congr 1;simp
 | bld T u=>simp only[Ch.map,xI]
 | _=>rfl
theorem cZ{m m':Nat}(h:m≤m'){u:V}(hu:fresh m u=true):fresh m' u=true:=by
 have go:∀id,Nat.blt id m=true->Nat.blt id m'=true:=λid h1=>by
  have h1:id<m:=by simpa using h1
  simpa using Nat.lt_of_lt_of_le h1 h
 cases u<;>first | rfl | exact go _ hu
theorem pq{p q:V->Bool}(h:∀u,p u=true->q u=true){v:V}(hv:v.all1 p=true):v.all1 q=true:=by
 cases v with
 | fn f c=>simp only[V.all1,List.all_eq_true] at *;exact λx hx=>h x (hv x hx)
 | _=>exact h _ hv
theorem Al{p q:V->Bool}(h:∀u,p u=true->q u=true){v:V}(hv:v.all2 p=true):v.all2 q=true:=by
 cases v with
 | agg us=>simp only[V.all2,List.all_eq_true] at *;exact λx hx=>pq h (hv x hx)
 | fn f c=>exact pq (v:=.fn f c) h hv
 | _=>exact h _ hv
theorem jr{p q:V->Bool}(h:∀u,p u=true->q u=true){v:V}(hv:v.aQ p=true):v.aQ q=true:=by
 cases v with
 | tup us=>simp only[V.aQ,List.all_eq_true] at *;exact λx hx=>Al h (hv x hx)
 | agg us=>exact Al (v:=.agg us) h hv
 | fn f c=>exact Al (v:=.fn f c) h hv
 | _=>exact h _ hv
theorem Mf{p q:V->Bool}(h:∀u,p u=true->q u=true){v:V}(hv:v.q9 p=true):v.q9 q=true:=by
 cases v with
 | g r u=>exact jr h hv
 | tup us=>exact jr (v:=.tup us) h hv
 | agg us=>exact jr (v:=.agg us) h hv
 | fn f c=>exact jr (v:=.fn f c) h hv
 | _=>exact h _ hv
theorem Cb{p q:V->Bool}(h:∀u,p u=true->q u=true){c:Ch}(hv:c.all p=true):c.all q=true:=by
 cases c with
 | box us=>simp only[Ch.all,List.all_eq_true] at *;exact λx hx=>pq h (hv x hx)
 | held _ _ _ _ _ u _ _ _=>exact pq h (v:=u) hv
 | tbl es=>simp only[Ch.all,List.all_eq_true] at *;exact λx hx=>Al h (hv x hx)
 | bld T u=>exact pq h (v:=u) hv
 | _=>rfl
theorem jY(x:Nat)(u:V):kill x u=u∨kill x u=.dead:=by
 unfold kill
 cases names x u
 ·exact .inl Z
 ·exact .inr Z
theorem PX{x m:Nat}{u:V}(h:fresh m u=true):fresh m (kill x u)=true:=by
 rcases jY x u with e | e<;>rw[e]
 ·exact h
 ·rfl
theorem nP{x m:Nat}{v:V}(hv:v.all1 (fresh m)=true):(v.fJ (kill x)).all1 (fresh m)=true:=by
 cases v with
 | fn f c=>simp only[V.fJ,V.all1,List.all_map,List.all_eq_true,Function.comp] at *;exact λy hy=>PX (hv y hy)
 | ptr id o=>show V.all1 (fresh m) (kill x (.ptr id o))=true;rcases jY x (.ptr id o) with e | e<;>rw[e]<;>first | exact hv | rfl
 | own id=>show V.all1 (fresh m) (kill x (.own id))=true;rcases jY x (.own id) with e | e<;>rw[e]<;>first | exact hv | rfl
 | bD id a b o=>show V.all1 (fresh m) (kill x (.bD id a b o))=true;rcases jY x (.bD id a b o) with e | e<;>rw[e]<;>first | exact hv | rfl
 | _=>exact hv
theorem qK{x m:Nat}{v:V}(hv:v.all2 (fresh m)=true):(v.iQ (kill x)).all2 (fresh m)=true:=by
 cases v with
 | agg us=>simp only[V.iQ,V.all2,List.all_map,List.all_eq_true,Function.comp] at *;exact λy hy=>nP (hv y hy)
 | fn f c=>exact nP (v:=.fn f c) hv
 | ptr id o=>show V.all2 (fresh m) (kill x (.ptr id o))=true;rcases jY x (.ptr id o) with e | e<;>rw[e]<;>first | exact hv | rfl
 | own id=>show V.all2 (fresh m) (kill x (.own id))=true;rcases jY x (.own id) with e | e<;>rw[e]<;>first | exact hv | rfl
 | bD id a b o=>show V.all2 (fresh m) (kill x (.bD id a b o))=true;rcases jY x (.bD id a b o) with e | e<;>rw[e]<;>first | exact hv | rfl
 | _=>exact hv
theorem qL{x m:Nat}{v:V}(hv:v.aQ (fresh m)=true):(v.dz (kill x)).aQ (fresh m)=true:=by
 cases v with
 | tup us=>simp only[V.dz,V.aQ,List.all_map,List.all_eq_true,Function.comp] at *;exact λy hy=>qK (hv y hy)
 | agg us=>exact qK (v:=.agg us) hv
 | fn f c=>exact qK (v:=.fn f c) hv
 | ptr id o=>show V.aQ (fresh m) (kill x (.ptr id o))=true;rcases jY x (.ptr id o) with e | e<;>rw[e]<;>first | exact hv | rfl
 | own id=>show V.aQ (fresh m) (kill x (.own id))=true;rcases jY x (.own id) with e | e<;>rw[e]<;>first | exact hv | rfl
 | bD id a b o=>show V.aQ (fresh m) (kill x (.bD id a b o))=true;rcases jY x (.bD id a b o) with e | e<;>rw[e]<;>first | exact hv | rfl
 | _=>exact hv
theorem Mg{x m:Nat}{v:V}(hv:v.q9 (fresh m)=true):(v.yZ (kill x)).q9 (fresh m)=true:=by
 cases v with
 | g p u=>exact qL hv
 | tup us=>exact qL (v:=.tup us) hv
 | agg us=>exact qL (v:=.agg us) hv
 | fn f c=>exact qL (v:=.fn f c) hv
 | ptr id o=>show V.q9 (fresh m) (kill x (.ptr id o))=true;rcases jY x (.ptr id o) with e | e<;>rw[e]<;>first | exact hv | rfl
 | own id=>show V.q9 (fresh m) (kill x (.own id))=true;rcases jY x (.own id) with e | e<;>rw[e]<;>first | exact hv | rfl
 | bD id a b o=>show V.q9 (fresh m) (kill x (.bD id a b o))=true;rcases jY x (.bD id a b o) with e | e<;>rw[e]<;>first | exact hv | rfl
 | _=>exact hv
theorem Mh{x m:Nat}{c:Ch}(hc:c.all (fresh m)=true):(c.map (kill x)).all (fresh m)=true:=by
 cases c with
 | box us=>simp only[Ch.map,Ch.all,List.all_map,List.all_eq_true,Function.comp] at *;exact λy hy=>nP (hc y hy)
 | held _ _ _ _ _ u _ _ _=>exact nP (v:=u) hc
 | tbl es=>simp only[Ch.map,Ch.all,List.all_map,List.all_eq_true,Function.comp] at *;exact λy hy=>qK (hc y hy)
 | bld T u=>exact nP (v:=u) hc
 | _=>rfl
section
variable{C:Ctx}{s:St}{a:Act}{w w':World}{ρ:Nat->Value}{F:Nat->Prop}
structure Mod(t:Option Nat)(w w':World):Prop where
 os:w'.os=w.os
 tape:w'.tape=w.tape
 output:w'.output=w.output
 size:w.heap.size≤w'.heap.size
 block:∀k,k<w.heap.size->some k≠t->w'.heap[k]?=w.heap[k]?
theorem Mod.Fq{t:Option Nat}(h:w.grownBy w' t):Mod t w w':=⟨h.os,h.tape,h.output,h.size,h.block⟩
theorem Mod.alloc(w:World)(o:Obj):Mod none w (w.alloc o):=.Fq (World.grownBy_alloc w o none)
theorem aF.keeps(h:aF C s a w ρ F){t:Option Nat}(hm:Mod t w w')(ht:∀b,t=some b->C.w0.heap.size≤b∨C.E b):Keeps C.w0 C.E w':=
 ⟨hm.os.trans h.keep.os,hm.tape.trans h.keep.tape,hm.output.trans h.keep.output,Nat.le_trans h.keep.size hm.size,λk hk he=>
  (hm.block k (Nat.lt_of_lt_of_le hk h.keep.size) (λe=>by rcases ht k e.symm with h1 | h1;omega;exact he h1)).trans (h.keep.block k hk he)⟩
theorem aF.new(h:aF C s a w ρ F)(hm:Mod none w w'){x:Value}(hb:∀b,blk x=some b->w.heap.size≤b){c:Ch}(hc:jf (upd ρ s.m x) F w' s.m c)(hcf:c.all (fresh (s.m+1))=true)(hpl:∀b,bks (upd ρ s.m x) s.m c b->blk (upd ρ s.m x s.m)=some b:=by exact λ_ e=>e) :
  aF C {L:=s.L,H:=(s.m,c)::s.H,m:=s.m+1} a w' (upd ρ s.m x) F:=by
 have hρ:∀id,id≠s.m->upd ρ s.m x id=ρ id:=λid hid=>by simp [upd,hid]
 have hwF:∀k,F k->w'.heap[k]?=w.heap[k]?:=λk hk=>hm.block k (h.lt k hk) (by simp)
 have h1:aF C {L:=s.L,H:=s.H,m:=s.m+1} a w' (upd ρ s.m x) F:=by
  refine h.change (λu=>u) (λu v hu hr=>hr.keep hρ (λ_=>id) hwF (jH (Nat.le_refl _) hu)) (λt v hv=>⟨⟨v,hv,(tK v).symm⟩,Mf (λu hu=>cZ (Nat.le_succ _) hu) (h.aR t v hv)⟩) (λi c hc=>?_) (λ_=>id) hwF (λk hk=>Nat.lt_of_lt_of_le (h.lt k hk) hm.size) (h.keeps hm (by simp)) (Nat.le_succ _) h.sub (λi hi=>by have:=h.cu.1;rw[hρ i (by omega)];exact h.cu.2 i hi)
  obtain⟨h2,h3⟩:=h.aK i c hc
  exact⟨⟨c,hc,(kF c).symm⟩,Cb (λu hu=>cZ (Nat.le_succ _) hu) h3,hρ i (by omega),λb e=>⟨hm.block b ((h.ch i c hc).lt e) (by simp),h.out i c b hc e⟩⟩
 refine h1.Xf hc (λb e=>?_) (Nat.lt_succ_self _) hcf (λb e=>?_)
 ·have e:=hpl b e
  rw[show upd ρ s.m x s.m=x by simp [upd]] at e
  have hge:=hb b e
  refine⟨λhF=>by have:=h.lt b hF;omega,λi ci hi hne e2=>?_⟩
  rw[jX (hρ i hne)] at e2
  have:=(h.ch i ci hi).lt e2
  omega
 ·have e:=hpl b e
  rw[show upd ρ s.m x s.m=x by simp [upd]] at e
  exact .inl (Nat.le_trans h.keep.size (hb b e))
theorem aF.touch(h:aF C s a w ρ F){id:Nat}{c c':Ch}(hi:(id,c)∈s.H)(hm:Mod (blk (ρ id)) w w')(hc:jf ρ F w' id c')(hcf:c'.all (fresh s.m)=true)(hpl:∀b,bks ρ id c' b->bks ρ id c b:=by exact λ_ e=>e) :
  aF C {L:=s.L,H:=(id,c')::nM id s.H,m:=s.m} a w' ρ F:=by
 have hwF:∀k,F k->w'.heap[k]?=w.heap[k]?:=λk hk=>hm.block k (h.lt k hk) (λe=>h.out id c k hi (aT e.symm) hk)
 have h1:aF C {L:=s.L,H:=nM id s.H,m:=s.m} a w' ρ F:=by
  refine h.change (λu=>u) (λu v hu hr=>hr.keep (x:=s.m) (λ_ _=>rfl) (λ_=>_root_.id) hwF (jH (Nat.le_refl _) hu)) (λt v hv=>⟨⟨v,hv,(tK v).symm⟩,h.aR t v hv⟩) (λi ci hci=>?_) (λ_=>_root_.id) hwF (λk hk=>Nat.lt_of_lt_of_le (h.lt k hk) hm.size) (h.keeps hm (λb e=>h.mine id c b hi (aT e))) (Nat.le_refl _) h.sub h.cu.2
  obtain⟨hci,hne⟩:=vG hci
  exact⟨⟨ci,hci,(kF ci).symm⟩,(h.aK i ci hci).2,Z,λb e=>⟨hm.block b ((h.ch i ci hci).lt e) (λe2=>h.sep id i c ci b hi hci (Ne.symm hne) (aT e2.symm) e),h.out i ci b hci e⟩⟩
 refine h1.Xf hc (λb e=>⟨h.out id c b hi (hpl b e),λi ci hci hne e2=>?_⟩) (h.aK id c hi).1 hcf (λb e=>h.mine id c b hi (hpl b e))
 exact h.sep id i c ci b hi (vG hci).1 (Ne.symm hne) (hpl b e) e2
theorem aF.move(h:aF C s a w ρ F){id:Nat}{c c':Ch}(hi:(id,c)∈s.H)(hfx:C.fix≤id)(hm:Mod (blk (ρ id)) w w'){x:Value}(hx:∀b,blk x=some b->w.heap.size≤b∨blk (ρ id)=some b)(hc:jf (upd ρ id x) F w' id c')(hcf:c'.all (fresh s.m)=true)(hpl:∀b,bks (upd ρ id x) id c' b->blk (upd ρ id x id)=some b:=by exact λ_ e=>e) :
  aF C {L:=tH (kill id) s.L,H:=(id,c')::qB (kill id) (nM id s.H),m:=s.m} a w' (upd ρ id x) F:=by
 have hρ:∀j,j≠id->upd ρ id x j=ρ j:=λj hj=>by simp [upd,hj]
 have hwF:∀k,F k->w'.heap[k]?=w.heap[k]?:=λk hk=>hm.block k (h.lt k hk) (λe=>h.out id c k hi (aT e.symm) hk)
 have h1:aF C {L:=tH (kill id) s.L,H:=qB (kill id) (nM id s.H),m:=s.m} a w' (upd ρ id x) F:=by
  refine h.change (kill id) (λu v hu hr=>hr.kill hρ (λ_=>_root_.id) hwF) (λt v hv=>?_) (λi ci hci=>?_) (λ_=>_root_.id) hwF (λk hk=>Nat.lt_of_lt_of_le (h.lt k hk) hm.size) (h.keeps hm (λb e=>h.mine id c b hi (aT e))) (Nat.le_refl _) h.sub (λi hi=>by rw[hρ i (by omega)];exact h.cu.2 i hi)
  ·obtain⟨v0,h2,rfl⟩:=Fp hv
   exact⟨⟨v0,h2,Z⟩,Mg (h.aR t v0 h2)⟩
  ·obtain⟨c0,h2,rfl⟩:=vM hci
   obtain⟨h2,hne⟩:=vG h2
   exact⟨⟨c0,h2,Z⟩,Mh (h.aK i c0 h2).2,hρ i hne,λb e=>by rw[oq] at e;exact⟨hm.block b ((h.ch i c0 h2).lt e) (λe2=>h.sep id i c c0 b hi h2 (Ne.symm hne) (aT e2.symm) e),h.out i c0 b h2 e⟩⟩
 refine h1.Xf hc (λb e=>?_) (h.aK id c hi).1 hcf (λb e=>?_)
 rotate_left
 ·have e:=hpl b e
  rw[show upd ρ id x id=x by simp [upd]] at e
  rcases hx b e with h2 | h2
  ·exact .inl (Nat.le_trans h.keep.size h2)
  ·exact h.mine id c b hi (aT h2)
 have e:=hpl b e
 rw[show upd ρ id x id=x by simp [upd]] at e
 refine⟨λhF=>?_,λi ci hci hne e2=>?_⟩
 ·rcases hx b e with h2 | h2
  ·have:=h.lt b hF;omega
  ·exact h.out id c b hi (aT h2) hF
 ·obtain⟨c0,h3,rfl⟩:=vM hci
  obtain⟨h3,_⟩:=vG h3
  rw[jX (hρ i hne),oq] at e2
  rcases hx b e with h2 | h2
  ·have:=(h.ch i c0 h3).lt e2;omega
  ·exact h.sep id i c c0 b hi h3 (Ne.symm hne) (aT h2) e2
end
def cellsOf:V->Option (List V)
 | .agg us=>some us
 | .tup _=>none
 | .g ..=>none
 | v=>some [v]
def asD:V->Option D
 | .d x=>some x
 | .aD=>some (.sl 0 0 λ_=>[])
 | _=>none
def dList:List V->Option (List D)
 | []=>some []
 | v::r=>match asD v with
  | none=>none
  | some d=>match dList r with
   | none=>none
   | some ds=>some (d::ds)
def qC{α:Type}:List α->Nat->List α->Option (List α)
 | us,_,[]=>some us
 | _::us,0,c::cs=>match qC us 0 cs with
  | none=>none
  | some r=>some (c::r)
 | u::us,o+1,cs=>match qC us o cs with
  | none=>none
  | some r=>some (u::r)
 | [],_,_::_=>none
def dh(c:Prop)[Decidable c]:List D->List D->List D
 | a::as,b::bs=>LX c a b::dh c as bs
 | as,bs=>if c then as else bs
theorem jI{c:Prop}[Decidable c](h:c):∀as bs,dh c as bs=as
 | a::as,b::bs=>by simp [dh,vI h,jI h as bs]
 | [],bs=>by simp [dh,h]
 | _::_,[]=>by simp [dh,h]
theorem jJ{c:Prop}[Decidable c](h:¬c):∀as bs,dh c as bs=bs
 | a::as,b::bs=>by simp [dh,vJ h,jJ h as bs]
 | [],bs=>by simp [dh,h]
 | _::_,[]=>by simp [dh,h]
def app(n:Nat)(f h:Nat->List D):Nat->List D:=λk=>dh (k<n) (f k) (h (k-n))
def Cc(f:Nat->List D)(i o:Nat)(ds:List D):Nat->List D:=λk=>match qC (f k) o ds with
 | some l=>dh (k=i) l (f k)
 | none=>f k
def tab:List (List D)->Nat->List D
 | [x]=>λ_=>x
 | xs=>λk=>xs.getD k []
def Jh(sz:Nat):List (List D)->List (Nat×List D)->Option (List (List D))
 | xs,[]=>some xs
 | xs,(i,ds)::r=>bif Nat.beq ds.length sz&&Nat.blt i xs.length then Jh sz (xs.set i ds) r else none
def evp(L:List (Nat×V)):List (Nat×Operand)->Option (List (Nat×List D))
 | []=>some []
 | (i,x)::r=>match ev L [] x with
  | none=>none
  | some v=>match cellsOf v with
   | none=>none
   | some us=>match dList us with
    | none=>none
    | some ds=>match evp L r with
     | none=>none
     | some q=>some ((i,ds)::q)
def mJ(s:St)(d:Nat)(v:V)(c:Ch):St:={L:=put s.L d v,H:=(s.m,c)::s.H,m:=s.m+1}
def big:Nat:=140737488355328
def vN(g:Cfg)(t:TypeId):Option (TypeId×TI):=
 match lk g t with
 | some ti=>match ti.kind with
  | .slice e=>match lk g e with
   | some te=>some (e,te)
   | none=>none
  | _=>none
 | none=>none
def zeroOf(te:TI):List V:=match te.kind with
 | .array n _=>(List.replicate n te.zero).flatten
 | _=>te.zero
def acV(te:TI):Option TypeId:=
 match te.kind,te.zero with
 | .slice e',[.aD]=>some e'
 | _,_=>none
def Xy(t:TypeId):List V->Ch
 | [.d .np,.aD]=>.bld t .aD
 | us=>.box us
def acW(g:Cfg)(s:St)(d:Nat)(t t':TypeId)(x y:V):Option (St×List Prop):=
 bif Nat.beq t t' then
  match vN g t with
  | none=>none
  | some (e,te)=>match x with
   | .aD=>match parts s.H y with
    | some (sz,m,h)=>bif Nat.beq sz te.size&&Nat.ble 1 sz then
      some (mJ s d (.own s.m) (.vec e sz m h),[m*te.bytes≤big∧m≤big]) else none
    | none=>none
   | .own id=>match get s.H id with
    | some (.vec e' sz n f)=>match y with
     | .aD=>bif Nat.beq e e'&&Nat.beq sz te.size then some ({s with L:=put s.L d (.own id)},[]) else none
     | y=>match parts s.H y with
      | some (sz',m,h)=>bif Nat.beq e e'&&Nat.beq sz te.size&&Nat.beq sz' sz&&Nat.ble 1 sz&&!(names id y)&&Nat.ble g.fix id then
       some ({L:=put (tH (kill id) s.L) d (.own id),H:=(id,.vec e sz (n+m) (app n f h))::qB (kill id) (nM id s.H),m:=s.m},[(n+m)*te.bytes≤big∧n+m≤big]) else none
      | none=>none
    | _=>none
   | _=>none
 else none
def acX(ds:List D):Nat->List D:=λi=>[ds.getD i (.bool false)]
def stE(g:Cfg)(s:St)(t:TypeId)(p v:V):Option (St×List Prop):=
 match lk g t,cellsOf v with
 | some ti,some cs=>bif Nat.beq cs.length ti.size then
   match p with
   | .ptr id o=>match get s.H id with
    | some (.box us)=>match qC us o cs with
     | some us'=>some ({s with H:=(id,.box us')::nM id s.H},[])
     | none=>none
    | some (.arr sz n f)=>match dList cs with
     | some ds=>bif Nat.beq o 0&&Nat.beq sz 1&&Nat.beq ds.length n then some ({s with H:=(id,.arr 1 n (acX ds))::nM id s.H},[]) else none
     | none=>none
    | _=>none
   | .bD id sz i o=>match get s.H id,dList cs with
    | some (.vec e sz' n f),some ds=>bif Nat.beq sz sz' then
      some ({s with H:=(id,.vec e sz n (Cc f i o ds))::nM id s.H},[i<n∧o+ds.length≤sz]) else none
    | some (.arr sz' n f),some ds=>bif Nat.beq sz sz' then
      some ({s with H:=(id,.arr sz n (Cc f i o ds))::nM id s.H},[i<n∧o+ds.length≤sz]) else none
    | _,_=>none
   | _=>none
  else none
 | _,_=>none
def is1:V->Bool
 | .tup _ | .g ..=>false
 | _=>true
def tL(k:Key):List (Key×V)->Prop
 | []=>True
 | (a,_)::r=>¬qJ k a∧tL k r
def aaB(g:Cfg)(s:St)(t:TypeId)(id:Nat)(kv v:V):Option (St×List Prop):=
 match lk g t,get s.H id with
 | some ti,some (.tbl es)=>match ti.kind with
  | .map kt _=>match lk g kt with
   | some tk=>match keyOf tk.kind kv with
    | some key=>bif is1 v&&mW key es then some ({s with H:=(id,.tbl (es++[(key,v)]))::nM id s.H},[tL key es]) else none
    | none=>none
   | none=>none
  | _=>none
 | some ti,some (.pos l)=>match ti.kind,kv,v with
  | .map kt _,.d (.str k),.d (.int .i64 n)=>match lk g kt with
   | some tk=>match tk.kind with
    | .str=>some ({s with H:=(id,.pos (l++[k]))::nM id s.H},[posB l k=false,n=(l.length:Int)])
    | _=>none
   | none=>none
  | _,_,_=>none
 | _,_=>none
def efE(g:Cfg)(s:St)(dst:Option Nat):Op->Option (St×List Prop)
 | .box _ x=>match dst,ev s.L [] x with
  | some d,some v=>match cellsOf v with
    | some us=>bif Nat.blt d g.n then some (mJ s d (.ptr s.m 0) (.box us),[]) else none
    | none=>none
  | _,_=>none
 | .alloc t=>match dst,lk g t with
  | some d,some ti=>bif Nat.blt d g.n then match ti.kind with
     | .array n e=>match dList ti.zero,lk g e with
      | some ds,some te=>bif Nat.beq ds.length te.size then some (mJ s d (.ptr s.m 0) (.arr te.size n λ_=>ds),[]) else none
      | _,_=>none
     | _=>some (mJ s d (.ptr s.m 0) (Xy t ti.zero),[])
    else none
  | _,_=>none
 | .store t p x=>match dst,ev s.L [] p,ev s.L [] x with
  | none,some u,some v=>stE g s t u v
  | _,_,_=>none
 | .buildSlice t len ps=>match dst,vN g t,evp s.L ps.toList with
  | some d,some (e,te),some qs=>match dList (zeroOf te) with
    | some zs=>match Jh te.size (List.replicate len zs) qs with
     | some xs=>bif Nat.blt d g.n&&Nat.ble (len*te.size) 16777216&&Nat.ble len 16777216&&Nat.beq zs.length te.size then some (mJ s d (.own s.m) (.vec e te.size len (tab xs)),[]) else none
     | none=>none
    | none=>none
  | _,_,_=>none
 | .makeSlice t l c=>match dst,vN g t,ev s.L [] l,ev s.L [] c with
  | some d,some (e,te),some (.d (.int _ n)),some (.d (.int _ k))=>match acV te with
   | some e'=>match lk g e' with
    | some te'=>bif Nat.blt d g.n&&Nat.beq te.size 1 then some (mJ s d (.own s.m) (.rows e e' te'.size n.toNat none (λ_=>.slice none 0 0) (λ_=>0) λ_ _=>[]),[0≤n∧n≤k∧k.toNat*te.bytes≤big∧k.toNat≤big]) else none
    | none=>none
   | none=>match dList (zeroOf te) with
    | some zs=>bif Nat.blt d g.n&&Nat.beq zs.length te.size then some (mJ s d (.own s.m) (.vec e te.size n.toNat λ_=>zs),[0≤n∧n≤k∧k.toNat*te.bytes≤big∧k.toNat≤big]) else none
    | none=>none
  | _,_,_,_=>none
 | .range t x=>match dst,lk g t,ev s.L [] x with
  | some d,some ti,some (.d (.str b))=>match ti.kind with
    | .str=>bif Nat.blt d g.n then some (mJ s d (.ptr s.m 0) (.iter b 0),[]) else none
    | _=>none
  | _,_,_=>none
 | .makeMap t none=>match dst with
  | some d=>bif Nat.blt d g.n then some (mJ s d (.own s.m) (.tbl []),[]) else none
  | none=>none
 | .insert t m k x=>match dst,ev s.L [] m,ev s.L [] k,ev s.L [] x with
  | none,some (.own id),some kv,some v=>aaB g s t id kv v
  | _,_,_,_=>none
 | .mapUpdate t m k x=>match dst,ev s.L [] m,ev s.L [] k,ev s.L [] x with
  | none,some (.own id),some kv,some v=>aaB g s t id kv v
  | _,_,_,_=>none
 | .call c=>match dst,c.callee with
  | some d,.builtin .append=>match evs s.L [] c.args.toList,c.argTypes.toList with
    | some [x,y],[t,t']=>bif Nat.blt d g.n then acW g s d t t' x y else none
    | _,_=>none
  | _,_=>none
 | _=>none
section
variable{C:Ctx}{s s':St}{a:Act}{w w':World}{ρ:Nat->Value}{F:Nat->Prop}{g:Cfg}
theorem R0.world{F':Nat->Prop}(hF:∀k,F k->F' k)(hw:∀k,F k->w'.heap[k]?=w.heap[k]?){u:V}{v:Value}(h:R0 ρ F w u v):R0 ρ F' w' u v:=by
 cases u with
 | d d=>exact RD.mono hF hw h
 | gU ds=>
  obtain⟨b,o,cs,h1,h2,h3⟩:=h
  refine⟨b,o,cs,h1,hF _ h2,λj d hd=>⟨?_,RD.mono hF hw (h3 j d hd).2⟩⟩
  rw[←(h3 j d hd).1]
  exact World.cell?_of_block (w:=w) (hw b h2)
 | _=>exact h
theorem Ce(v:V):v.all1 (λ_=>true)=true:=by cases v<;>simp [V.all1]
theorem Cg(v:V):v.all2 (λ_=>true)=true:=by
 cases v with
 | agg us=>simp only[V.all2,List.all_eq_true];exact λx _=>Ce x
 | fn f c=>exact Ce (.fn f c)
 | _=>rfl
theorem UF(v:V):v.aQ (λ_=>true)=true:=by
 cases v with
 | tup us=>simp only[V.aQ,List.all_eq_true];exact λx _=>Cg x
 | agg us=>exact Cg (.agg us)
 | fn f c=>exact Cg (.fn f c)
 | _=>rfl
theorem R1.world{F':Nat->Prop}(hF:∀k,F k->F' k)(hw:∀k,F k->w'.heap[k]?=w.heap[k]?){u:V}{v:Value}(h:R1 ρ F w u v):R1 ρ F' w' u v:=by
 have:=R1.map (p:=λ_=>true) (k:=λu=>u) (λu v _ hr=>R0.world hF hw hr) (Ce u) h
 rwa [xI] at this
theorem R3.world{F':Nat->Prop}(hF:∀k,F k->F' k)(hw:∀k,F k->w'.heap[k]?=w.heap[k]?){u:V}{v:Value}(h:R3 ρ F w u v):R3 ρ F' w' u v:=by
 have:=R3.map (p:=λ_=>true) (k:=λu=>u) (λu v _ hr=>R0.world hF hw hr) (UF u) h
 rwa [tJ] at this
theorem aH.mono{α β:Type}{R R':α->β->Prop}:∀{as:List α} {bs:List β},(∀a b,R a b->R' a b)->aH R as bs->aH R' as bs
 | [],[],_,_=>trivial
 | _::_,_::_,h,⟨h1,h2⟩=>⟨h _ _ h1,aH.mono h h2⟩
 | [],_::_,_,h=>h.elim
 | _::_,[],_,h=>h.elim
theorem dn(t:Array Value):pcA t []:=λe he=>by cases he
theorem cells_one{v:Value}(h:v.oneCell'=true):v.cells=#[v]:=by cases v<;>first | rfl | cases h
theorem rz{v:V}{x:Value}{us:List V}{m:Nat}(h:cellsOf v=some us)(hr:R3 ρ F w v x)(hf:v.aQ (fresh m)=true):aH (R1 ρ F w) us x.cells.toList∧us.all (V.all1 (fresh m))=true:=by
 cases v with
 | agg vs=>
  simp only[cellsOf,agR] at h
  subst h
  obtain⟨cs,rfl,hc⟩:=(show R2 ρ F w (.agg vs) x from hr)
  exact⟨by simpa [Value.cells] using hc,hf⟩
 | tup _=>simp [cellsOf] at h
 | g _ _=>simp [cellsOf] at h
 | fn f c=>
  simp only[cellsOf,agR] at h
  subst h
  have h1:R1 ρ F w (.fn f c) x:=hr
  rw[cells_one (R1.one h1)]
  exact⟨⟨h1,tR⟩,by simp only[List.all_cons,List.all_nil,Bool.and_true];exact hf⟩
 | d y=>
  simp only[cellsOf,agR] at h
  subst h
  have h1:R1 ρ F w (.d y) x:=hr
  rw[cells_one (R1.one h1)]
  exact⟨⟨h1,tR⟩,by simp only[List.all_cons,List.all_nil,Bool.and_true];exact hf⟩
 | aD=>
  simp only[cellsOf,agR] at h
  subst h
  have h1:R1 ρ F w .aD x:=hr
  rw[cells_one (R1.one h1)]
  exact⟨⟨h1,tR⟩,by simp only[List.all_cons,List.all_nil,Bool.and_true];exact hf⟩
 | ptr y z=>
  simp only[cellsOf,agR] at h
  subst h
  have h1:R1 ρ F w (.ptr y z) x:=hr
  rw[cells_one (R1.one h1)]
  exact⟨⟨h1,tR⟩,by simp only[List.all_cons,List.all_nil,Bool.and_true];exact hf⟩
 | own y=>
  simp only[cellsOf,agR] at h
  subst h
  have h1:R1 ρ F w (.own y) x:=hr
  rw[cells_one (R1.one h1)]
  exact⟨⟨h1,tR⟩,by simp only[List.all_cons,List.all_nil,Bool.and_true];exact hf⟩
 | bD y z i j=>
  simp only[cellsOf,agR] at h
  subst h
  have h1:R1 ρ F w (.bD y z i j) x:=hr
  rw[cells_one (R1.one h1)]
  exact⟨⟨h1,tR⟩,by simp only[List.all_cons,List.all_nil,Bool.and_true];exact hf⟩
 | gU y=>
  simp only[cellsOf,agR] at h
  subst h
  have h1:R1 ρ F w (.gU y) x:=hr
  rw[cells_one (R1.one h1)]
  exact⟨⟨h1,tR⟩,by simp only[List.all_cons,List.all_nil,Bool.and_true];exact hf⟩
 | dead=>
  simp only[cellsOf,agR] at h
  subst h
  have h1:R1 ρ F w .dead x:=hr
  rw[cells_one (R1.one h1)]
  exact⟨⟨h1,tR⟩,by simp only[List.all_cons,List.all_nil,Bool.and_true];exact hf⟩
theorem UG{v:V}{d:D}{x:Value}(h:asD v=some d)(hr:R1 ρ F w v x):RD F w d x:=by
 cases v<;>simp only[asD,agR,reduceCtorEq] at h
 ·subst h;exact hr
 ·subst h;rw[show x=.slice none 0 0 from hr];exact .emp _ _ _ _
theorem lH:∀{us:List V} {ds:List D} {cs:List Value},dList us=some ds->aH (R1 ρ F w) us cs->aH (RD F w) ds cs
 | [],ds,[],h,_=>by simp [dList] at h;subst h;trivial
 | u::us,ds,c::cs,h,⟨h1,h2⟩=>by
  simp only[dList] at h
  split at h
  ·simp at h
  ·rename_i d hd
   split at h
   ·simp at h
   ·rename_i ds' hds
    simp only[agR] at h
    subst h
    exact⟨UG hd h1,lH hds h2⟩
 | [],_,_::_,_,h=>h.elim
 | _::_,_,[],_,h=>h.elim
theorem rX{α:Type}:∀{us cs r:List α} {o:Nat},qC us o cs=some r->r.length=us.length∧o+cs.length≤max us.length o∧∀k,r[k]?=if o≤k∧k<o+cs.length then cs[k-o]? else us[k]?
 | us,[],r,o,h=>by
  have:r=us:=by cases us<;>simp [qC] at h<;>simp [h]
  subst this
  exact⟨Z,by simp;omega,λk=>by rw[if_neg (by simp only[List.length_nil];omega)]⟩
 | u::us,c::cs,r,0,h=>by
  simp only[qC] at h
  split at h
  ·simp at h
  ·rename_i r' hr'
   simp only[agR] at h
   subst h
   obtain⟨h1,h2,h3⟩:=rX hr'
   refine⟨by simp [h1],by simp at h2 ⊢;omega,λk=>?_⟩
   cases k with
   | zero=>simp
   | succ k=>
    simp only[List.getElem?_cons_succ,h3 k,List.length_cons,Nat.zero_le,true_and,Nat.sub_zero]
    by_cases hk:k<cs.length
    ·rw[if_pos (by omega),if_pos (by omega)]
    ·rw[if_neg (by omega),if_neg (by omega)]
 | u::us,c::cs,r,o+1,h=>by
  simp only[qC] at h
  split at h
  ·simp at h
  ·rename_i r' hr'
   simp only[agR] at h
   subst h
   obtain⟨h1,h2,h3⟩:=rX hr'
   refine⟨by simp [h1],by simp at h2 ⊢;omega,λk=>?_⟩
   cases k with
   | zero=>simp
   | succ k=>
    simp only[List.getElem?_cons_succ,h3 k]
    by_cases hk:o≤k∧k<o+(c::cs).length
    ·rw[if_pos hk,if_pos (by omega)];congr 1;omega
    ·rw[if_neg hk,if_neg (by omega)]
 | [],c::cs,r,o,h=>by cases o<;>simp [qC] at h
theorem Ci{α:Type}:∀{us cs:List α} {o:Nat},o+cs.length≤us.length->∃r,qC us o cs=some r
 | us,[],o,_=>⟨us,by cases us<;>rfl⟩
 | u::us,c::cs,0,h=>by
  obtain⟨r,hr⟩:=Ci (us:=us) (cs:=cs) (o:=0) (by simp at h ⊢;omega)
  exact⟨c::r,by simp [qC,hr]⟩
 | u::us,c::cs,o+1,h=>by
  obtain⟨r,hr⟩:=Ci (us:=us) (cs:=c::cs) (o:=o) (by simp at h ⊢;omega)
  exact⟨u::r,by simp [qC,hr]⟩
 | [],c::cs,o,h=>by simp at h
theorem Mi{α:Type}{us cs r:List α}{o:Nat}(h:qC us o cs=some r)(hc:cs≠[]):o+cs.length≤us.length:=by
 have h2:=(rX h).2.1
 have:0<cs.length:=List.length_pos_iff.2 hc
 omega
theorem aH.Xz{α β:Type}{R:α->β->Prop}:∀{as:List α} {bs:List β},as.length=bs.length->(∀(i:Nat) (a:α) (b:β),as[i]?=some a->bs[i]?=some b->R a b)->aH R as bs
 | [],[],_,_=>trivial
 | a::as,b::bs,h,hr=>⟨hr 0 a b rfl rfl,aH.Xz (by simpa using h) λi a b ha hb=>hr (i+1) a b (by simpa using ha) (by simpa using hb)⟩
 | [],_::_,h,_=>by simp at h
 | _::_,[],h,_=>by simp at h
theorem UH{α β:Type}{R:α->β->Prop}{us cs us':List α}{xs ys:List β}{o:Nat}(h:qC us o cs=some us')(h1:aH R us xs)(h2:aH R cs ys):aH R us' (xs.take o++ys++xs.drop (o+ys.length)):=by
 obtain⟨l1,l2,l3⟩:=rX h
 have e1:=h1.length
 have e2:=h2.length
 by_cases hc:cs=[]
 ·subst hc
  have:us'=us:=by cases us<;>simp [qC] at h<;>simp [h]
  subst this
  have:ys=[]:=List.eq_nil_of_length_eq_zero (by rw[←e2];rfl)
  subst this
  simpa using h1
 have hle:=Mi h hc
 refine aH.Xz (by simp [l1];omega) λi x y hx hy=>?_
 rw[l3 i] at hx
 rw[List.append_assoc] at hy
 by_cases hi:i<o
 ·rw[if_neg (by omega)] at hx
  rw[List.getElem?_append_left (by simp;omega),List.getElem?_take,if_pos hi] at hy
  obtain⟨b,hb,hr⟩:=h1.get hx
  rw[hb] at hy;exact agS hy▸hr
 ·rw[List.getElem?_append_right (by simp;omega)] at hy
  have et:(xs.take o).length=o:=by simp;omega
  rw[et] at hy
  by_cases hi2:i<o+cs.length
  ·rw[if_pos ⟨by omega,hi2⟩] at hx
   rw[List.getElem?_append_left (by omega)] at hy
   obtain⟨b,hb,hr⟩:=h2.get hx
   rw[hb] at hy;exact agS hy▸hr
  ·rw[if_neg (by omega)] at hx
   rw[List.getElem?_append_right (by omega),List.getElem?_drop] at hy
   rw[show o+ys.length+(i-o-ys.length)=i by omega] at hy
   obtain⟨b,hb,hr⟩:=h1.get hx
   rw[hb] at hy;exact agS hy▸hr
theorem XA{us cs us':List V}{o:Nat}{p:V->Bool}(h:qC us o cs=some us')(h1:us.all p=true)(h2:cs.all p=true):us'.all p=true:=by
 rw[List.all_eq_true] at *
 intro x hx
 obtain⟨i,hi⟩:=List.getElem?_of_mem hx
 rw[(rX h).2.2 i] at hi
 split at hi
 ·exact h2 x (List.mem_of_getElem? hi)
 ·exact h1 x (List.mem_of_getElem? hi)
theorem Fu{α:Type}{xs ys:List α}{o:Nat}(h:o+ys.length≤xs.length)(p:Nat):(xs.take o++ys++xs.drop (o+ys.length))[p]?=if o≤p∧p<o+ys.length then ys[p-o]? else xs[p]?:=by
 rw[List.append_assoc]
 have et:(xs.take o).length=o:=by simp;omega
 by_cases h1:p<o
 ·rw[if_neg (by omega),List.getElem?_append_left (by omega),List.getElem?_take,if_pos h1]
 ·rw[List.getElem?_append_right (by omega),et]
  by_cases h2:p<o+ys.length
  ·rw[if_pos ⟨by omega,h2⟩,List.getElem?_append_left (by omega)]
  ·rw[if_neg (by omega),List.getElem?_append_right (by omega),List.getElem?_drop]
   congr 1;omega
theorem za{α:Type}{xs ys:List α}{o:Nat}(h:o+ys.length≤xs.length):(xs.take o++ys++xs.drop (o+ys.length)).length=xs.length:=by
 simp only[List.length_append,List.length_take,List.length_drop];omega
theorem Mj{α:Type}{xs ys:List α}{o N:Nat}(h:o+ys.length≤N)(hN:N≤xs.length):(xs.take o++ys++xs.drop (o+ys.length)).take N=(xs.take N).take o++ys++(xs.take N).drop (o+ys.length):=by
 apply List.ext_getElem?
 intro p
 rw[List.getElem?_take,Fu (by omega),Fu (by simp;omega),List.getElem?_take]
 by_cases hp:p<N
 ·simp [hp]
 ·rw[if_neg hp,if_neg (by omega),if_neg hp]
theorem aH.one{us:List V}{cs:List Value}(h:aH (R1 ρ F w) us cs):∀c∈cs,c.oneCell'=true:=by
 induction us generalizing cs with
 | nil=>cases cs with
  | nil=>simp
  | cons _ _=>exact h.elim
 | cons u us ih=>
  cases cs with
  | nil=>exact h.elim
  | cons c cs=>
   intro x hx
   rcases List.mem_cons.1 hx with rfl | hx
   ·exact R1.one h.1
   ·exact ih h.2 x hx
theorem xJ{P:Program}{t:TypeId}{ti:TI}(hti:ti.OK P t){b o:Nat}{cs:List Value}{T:TypeId}{x:Value}(hx:x.cells.toList.length=ti.size)(h1:∀c∈x.cells.toList,c.oneCell'=true)
  (hh:w.heap[b]?=some (.cells cs.toArray T (0,0))) (hle:o+ti.size≤cs.length) :
  (Instr.storeAt t (.pointer (some ⟨b,o,none⟩)) x).run P w=.ok () (w.setRow b (cs.take o++x.cells.toList++cs.drop (o+x.cells.toList.length)).toArray):=by
 have hsz:x.cells.size=ti.size:=by simpa using hx
 have:=run_storeCells_at P b o T x.cells.toList 0 cs.toArray w hh (by simpa [hsz] using hle) h1
 simp only[Nat.add_zero] at this
 simp only[Instr.storeAt,Instr.sureAddr,storeVar,Sem.run_bind,Sem.run_pure,Result.andThen,run_sizeOf hti,hsz,ne_eq,not_true_eq_false,if_false]
 exact this
theorem tN{b:Nat}{cs:Array Value}(h:b<w.heap.size):Mod (some b) w (w.setRow b cs):=
 ⟨Z,Z,Z,by simp [World.setRow],λk _ hk=>setRow_other w b k cs (λe=>hk (by rw[e]))⟩
theorem Ji{sz n i o:Nat}{f:Nat->List D}{xs ys:List Value}{ds:List D}(he:iZ F w sz n f xs)(hi:i<n)(ho:o+ds.length≤sz)(hd:aH (RD F w) ds ys)(hxs:n*sz≤xs.length) :
  iZ F w sz n (Cc f i o ds) (xs.take (i*sz+o)++ys++xs.drop (i*sz+o+ys.length)):=by
 have elen:=hd.length
 have hisz:i*sz+sz≤n*sz:=by
  have:=Nat.mul_le_mul_right sz (show i+1≤n by omega)
  rwa [Nat.add_mul,Nat.one_mul] at this
 have hget:∀p,(xs.take (i*sz+o)++ys++xs.drop (i*sz+o+ys.length))[p]?=if i*sz+o≤p∧p<i*sz+o+ys.length then ys[p-(i*sz+o)]? else xs[p]?:=by
  intro p
  rw[List.append_assoc]
  have et:(xs.take (i*sz+o)).length=i*sz+o:=by simp;omega
  by_cases h1:p<i*sz+o
  ·rw[if_neg (by omega),List.getElem?_append_left (by omega),List.getElem?_take,if_pos h1]
  ·rw[List.getElem?_append_right (by omega),et]
   by_cases h2:p<i*sz+o+ys.length
   ·rw[if_pos ⟨by omega,h2⟩,List.getElem?_append_left (by omega)]
   ·rw[if_neg (by omega),List.getElem?_append_right (by omega),List.getElem?_drop]
    congr 1;omega
 intro k hk
 obtain⟨h1,h2⟩:=he k hk
 obtain⟨l,hl⟩:=Ci (us:=f k) (cs:=ds) (o:=o) (by rw[h1];exact ho)
 have hp:Cc f i o ds k=dh (k=i) l (f k):=by simp [Cc,hl]
 rw[hp]
 obtain⟨l1,_,l3⟩:=rX hl
 by_cases hki:k=i
 ·subst hki
  rw[jI rfl]
  refine⟨l1.trans h1,λj d hj=>?_⟩
  rw[l3 j] at hj
  rw[hget]
  by_cases hjo:o≤j∧j<o+ds.length
  ·rw[if_pos hjo] at hj
   obtain⟨c,hc,hr⟩:=hd.get hj
   refine⟨c,?_,hr⟩
   rw[if_pos (by omega),←hc]
   congr 1;omega
  ·rw[if_neg hjo] at hj
   obtain⟨c,hc,hr⟩:=h2 j d hj
   refine⟨c,?_,hr⟩
   rw[if_neg (by omega)];exact hc
 ·rw[jJ hki]
  refine⟨h1,λj d hj=>?_⟩
  obtain⟨c,hc,hr⟩:=h2 j d hj
  refine⟨c,?_,hr⟩
  have hj':j<sz:=by
   have:=(List.getElem?_eq_some_iff.1 hj).1
   omega
  rw[hget,if_neg ?_]
  ·exact hc
  ·rintro ⟨p1,p2⟩
   rcases Nat.lt_or_gt_of_ne hki with hlt | hgt
   ·have:=Nat.mul_le_mul_right sz (show k+1≤i by omega)
    rw[Nat.add_mul,Nat.one_mul] at this
    omega
   ·have:=Nat.mul_le_mul_right sz (show i+1≤k by omega)
    rw[Nat.add_mul,Nat.one_mul] at this
    omega
theorem XB(hg:bV C.P g.tys)(h:aF C s a w ρ F){t:TypeId}{p v:V}{vp x:Value}{ob:List Prop}(he:stE g s t p v=some (s',ob))(hob:ak ob)(hp:R3 ρ F w p vp)(hv:R3 ρ F w v x)(hvf:v.aQ (fresh s.m)=true) :
  ∃w',(Instr.storeAt t vp x).run C.P w=.ok () w'∧aF C s' a w' ρ F:=by
 unfold stE at he
 split at he
 ·rename_i ti cs hl hcs
  have hti:=bS hg hl
  obtain⟨hall,hfr⟩:=rz hcs hv hvf
  cases hsz:Nat.beq cs.length ti.size with
  | false=>rw[hsz] at he;simp at he
  | true=>
   rw[hsz] at he
   simp only[cond_true] at he
   have hsz:=agU hsz
   have hxl:x.cells.toList.length=ti.size:=by rw[←hall.length];exact hsz
   split at he
   ·rename_i id o
    split at he
    ·rename_i us hgH
     split at he
     ·rename_i us' hset
      obtain⟨rfl,rfl⟩:=Prod.mk.inj (agS he)
      obtain⟨b,hb,rfl⟩:=(show R0 ρ F w (.ptr id o) vp from hp)
      obtain⟨b',ys,T,hb',hheap,hus⟩:=h.ch id _ (get_mem hgH)
      rw[hb] at hb'
      simp only[Value.pointer.injEq,agR,Addr.mk.injEq,and_true] at hb'
      subst hb'
      have hblt:b<w.heap.size:=(Array.getElem?_eq_some_iff.1 hheap).1
      by_cases hc0:cs=[]
      ·subst hc0
       have hle:ti.size=0:=by rw[←hsz];rfl
       have hx0:x.cells.toList=[]:=List.eq_nil_of_length_eq_zero (by rw[hxl,hle])
       refine⟨w,?_,?_⟩
       ·have hs0:x.cells.size=0:=by simpa [hle] using hxl
        simp [Instr.storeAt,Instr.sureAddr,storeVar,run_sizeOf hti,hs0,hle,hx0,storeCells]
       ·have:us'=us:=by cases us<;>simp [qC] at hset<;>simp [hset]
        subst this
        exact h.touch (get_mem hgH) ⟨Z,Z,Z,Nat.le_refl _,λ_ _ _=>rfl⟩ ⟨b,ys,T,hb,hheap,hus⟩ (h.aK _ _ (get_mem hgH)).2
      ·have hle:=Mi hset hc0
       refine⟨_,xJ hti hxl hall.one hheap (by rw[←hus.length,←hsz];exact hle),?_⟩
       have hm:Mod (blk (ρ id)) w (w.setRow b (ys.take o++x.cells.toList++ys.drop (o+x.cells.toList.length)).toArray):=by rw[hb];exact tN hblt
       have hwF:∀k,F k->(w.setRow b (ys.take o++x.cells.toList++ys.drop (o+x.cells.toList.length)).toArray).heap[k]?=w.heap[k]?:=λk hk=>hm.block k (h.lt k hk) (λe=>h.out id _ k (get_mem hgH) e.symm hk)
       refine h.touch (get_mem hgH) hm ⟨b,_,T,hb,setRow_heap w b _ _ T (0,0) hheap,?_⟩ ?_
       ·simpa using (UH hset hus hall).mono λu v hr=>hr.world (λ_=>_root_.id) hwF
       ·exact XA hset (h.aK _ _ (get_mem hgH)).2 hfr
     ·simp at he
    ·rename_i sz n f hgH
     split at he
     ·rename_i ds hds
      cases hz:(Nat.beq o 0&&Nat.beq sz 1&&Nat.beq ds.length n) with
      | false=>rw[hz] at he;simp at he
      | true=>
       rw[hz] at he
       simp only[cond_true] at he
       simp only[agN] at hz
       obtain⟨⟨z1,z2⟩,z3⟩:=hz
       have z1:=agU z1
       have z2:=agU z2
       have z3:=agU z3
       subst z1 z2 z3
       obtain⟨rfl,rfl⟩:=Prod.mk.inj (agS he)
       obtain⟨b,hb,rfl⟩:=(show R0 ρ F w (.ptr id 0) vp from hp)
       obtain⟨b',ys,T,hb',hheap,hyl,_⟩:=h.ch id _ (get_mem hgH)
       rw[hb] at hb'
       simp only[Value.pointer.injEq,agR,Addr.mk.injEq,and_true] at hb'
       subst hb'
       have hblt:b<w.heap.size:=(Array.getElem?_eq_some_iff.1 hheap).1
       have hd:=lH hds hall
       have hdl:=hd.length
       refine⟨_,xJ hti hxl hall.one hheap (by omega),?_⟩
       have hrow:ys.take 0++x.cells.toList++ys.drop (0+x.cells.toList.length)=x.cells.toList:=by
        rw[List.take_zero,List.nil_append,List.drop_eq_nil_of_le (by omega),List.append_nil]
       rw[hrow]
       have hm:Mod (blk (ρ id)) w (w.setRow b x.cells.toList.toArray):=by rw[hb];exact tN hblt
       have hwF:∀k,F k->(w.setRow b x.cells.toList.toArray).heap[k]?=w.heap[k]?:=λk hk=>hm.block k (h.lt k hk) (λe=>h.out id _ k (get_mem hgH) e.symm hk)
       refine h.touch (get_mem hgH) hm ⟨b,_,T,hb,setRow_heap w b _ _ T (0,0) hheap,by omega,λi hi=>⟨Z,λj d hj=>?_⟩⟩ Z
       cases j with
       | succ j=>simp [acX] at hj
       | zero=>
        simp only[acX,List.getElem?_cons_zero,agR] at hj
        have hg:ds[i]?=some d:=by rw[←hj,agM,agO hi];rfl
        obtain⟨c,hc,hr⟩:=hd.get hg
        exact⟨c,by simpa using hc,RD.mono (λ_=>_root_.id) hwF hr⟩
     ·simp at he
    ·simp at he
   ·rename_i id sz i o
    split at he
    ·rename_i e sz' n f ds hgH hds
     cases hz:Nat.beq sz sz' with
     | false=>rw[hz] at he;simp at he
     | true=>
      rw[hz] at he
      simp only[cond_true] at he
      have:=agU hz
      subst this
      obtain⟨rfl,rfl⟩:=Prod.mk.inj (agS he)
      obtain⟨hi,ho⟩:=hob
      obtain⟨b,hb,rfl⟩:=(show R0 ρ F w (.bD id sz i o) vp from hp)
      obtain⟨xs,hown,hel⟩:=h.ch id _ (get_mem hgH)
      have hd:=lH hds hall
      have hdl:ds.length=ti.size:=by rw[hd.length];exact hxl
      have hisz:i*sz+sz≤n*sz:=by
       have:=Nat.mul_le_mul_right sz (show i+1≤n by omega)
       rwa [Nat.add_mul,Nat.one_mul] at this
      rcases hown.2 with⟨h1,h2⟩ | ⟨b',cap,cur,h1,h2,hheap,hnc,hcm,hcs,htk⟩
      ·omega
      ·have hbb:b'=b:=by rw[h1] at hb;simpa [blk] using hb
       subst hbb
       have hcl:cur.toList.length=cur.size:=Array.length_toList
       have hncs:n*sz≤cur.size:=by rw[hcs];exact Nat.mul_le_mul_right _ hnc
       have acY:w.heap[b']?=some (.cells cur.toList.toArray e (0,0)):=by simpa using hheap
       refine⟨_,xJ hti hxl hall.one acY (by simp only[Array.length_toList];omega),?_⟩
       have hm:Mod (blk (ρ id)) w (w.setRow b' (cur.toList.take (i*sz+o)++x.cells.toList++cur.toList.drop (i*sz+o+x.cells.toList.length)).toArray):=by
        rw[h1];exact tN (Array.getElem?_eq_some_iff.1 hheap).1
       have hwF:∀k,F k->(w.setRow b' (cur.toList.take (i*sz+o)++x.cells.toList++cur.toList.drop (i*sz+o+x.cells.toList.length)).toArray).heap[k]?=w.heap[k]?:=λk hk=>hm.block k (h.lt k hk) (λe=>h.out id _ k (get_mem hgH) e.symm hk)
       refine h.touch (get_mem hgH) hm ⟨xs.take (i*sz+o)++x.cells.toList++xs.drop (i*sz+o+x.cells.toList.length),⟨?_,.inr ⟨b',cap,_,h1,h2,setRow_heap w b' _ _ e (0,0) hheap,hnc,hcm,?_,?_⟩⟩,?_⟩ Z
       ·rw[za (by rw[hown.1];omega)];exact hown.1
       ·rw[List.size_toArray,za (by omega),hcl];exact hcs
       ·rw[←htk,List.toList_toArray]
        exact Mj (by omega) (by omega)
       ·exact Ji (hel.keep (λ_=>_root_.id) hwF) hi ho (hd.mono λd v hr=>RD.mono (λ_=>_root_.id) hwF hr) (by rw[hown.1];exact Nat.le_refl _)
    ·rename_i sz' n f ds hgH hds
     cases hz:Nat.beq sz sz' with
     | false=>rw[hz] at he;simp at he
     | true=>
      rw[hz] at he
      simp only[cond_true] at he
      have:=agU hz
      subst this
      obtain⟨rfl,rfl⟩:=Prod.mk.inj (agS he)
      obtain⟨hi,ho⟩:=hob
      obtain⟨b,hb,rfl⟩:=(show R0 ρ F w (.bD id sz i o) vp from hp)
      obtain⟨b',xs,T,h1,hheap,hlen,hel⟩:=h.ch id _ (get_mem hgH)
      have hd:=lH hds hall
      have hdl:ds.length=ti.size:=by rw[hd.length];exact hxl
      have hisz:i*sz+sz≤n*sz:=by
       have:=Nat.mul_le_mul_right sz (show i+1≤n by omega)
       rwa [Nat.add_mul,Nat.one_mul] at this
      have hbb:b'=b:=by rw[h1] at hb;simpa [blk] using hb
      subst hbb
      refine⟨_,xJ hti hxl hall.one hheap (by omega),?_⟩
      have hm:Mod (blk (ρ id)) w (w.setRow b' (xs.take (i*sz+o)++x.cells.toList++xs.drop (i*sz+o+x.cells.toList.length)).toArray):=by
       rw[h1];exact tN (Array.getElem?_eq_some_iff.1 hheap).1
      have hwF:∀k,F k->(w.setRow b' (xs.take (i*sz+o)++x.cells.toList++xs.drop (i*sz+o+x.cells.toList.length)).toArray).heap[k]?=w.heap[k]?:=λk hk=>hm.block k (h.lt k hk) (λe=>h.out id _ k (get_mem hgH) e.symm hk)
      refine h.touch (get_mem hgH) hm ⟨b',_,T,h1,setRow_heap w b' _ _ T (0,0) hheap,?_,?_⟩ Z
      ·rw[za (by rw[hlen];omega)];exact hlen
      ·exact Ji (hel.keep (λ_=>_root_.id) hwF) hi ho (hd.mono λd v hr=>RD.mono (λ_=>_root_.id) hwF hr) (by rw[hlen];exact Nat.le_refl _)
    ·simp at he
   ·simp at he
 ·simp at he
end
section
variable{C:Ctx}{s s':St}{a:Act}{w w':World}{ρ:Nat->Value}{F:Nat->Prop}{g:Cfg}
theorem upd_same(ρ:Nat->Value)(i:Nat)(x:Value):upd ρ i x i=x:=by simp [upd]
theorem UJ(ρ:Nat->Value){i j:Nat}(x:Value)(h:j≠i):upd ρ i x j=ρ j:=by simp [upd,h]
theorem aF.make(h:aF C s a w ρ F){d:Nat}(hd:d<C.n)(hm:Mod none w w'){x:Value}(hb:∀b,blk x=some b->w.heap.size≤b){c:Ch}(hc:jf (upd ρ s.m x) F w' s.m c)(hcf:c.all (fresh (s.m+1))=true)
  {v:V} (hv:R3 (upd ρ s.m x) F w' v x) (hf:v.aQ (fresh (s.m+1))=true) (hpl:∀b,bks (upd ρ s.m x) s.m c b->blk (upd ρ s.m x s.m)=some b:=by exact λ_ e=>e):Sat C (mJ s d v c) (a.put (some d) x) w':=
 ⟨_,_,(h.new hm hb hc hcf hpl).put hd hv hf⟩
theorem R1.new(h:∀k,F k->k<w.heap.size)(hm:Mod none w w'){x:Value}{i:Nat}{u:V}{v:Value}(hf:u.all1 (fresh i)=true)(hr:R1 ρ F w u v):R1 (upd ρ i x) F w' u v:=by
 have:=R1.map (p:=fresh i) (k:=λu=>u) (λu v hu hr=>hr.keep (x:=i) (ρ':=upd ρ i x) (λj hj=>UJ ρ x hj) (λ_=>_root_.id) (λk hk=>hm.block k (h k hk) (by simp)) (jH (Nat.le_refl _) hu)) hf hr
 rwa [xI] at this
theorem Sk{v:V}{c:Value}(h:qA v c):R1 ρ F w v c:=by
 cases v with
 | d y=>cases y<;>first | (rw[show c=_ from h];constructor) | exact h.elim
 | aD=>exact h
 | dead=>exact h
 | _=>exact h.elim
theorem PY{v:V}{c:Value}{m:Nat}(h:qA v c):v.all1 (fresh m)=true:=by cases v<;>first | rfl | exact h.elim
theorem Sl{us:List V}{cs:List Value}{m:Nat}(h:aH qA us cs):aH (R1 ρ F w) us cs∧us.all (V.all1 (fresh m))=true:=by
 induction us generalizing cs with
 | nil=>cases cs with
  | nil=>exact⟨tR,rfl⟩
  | cons _ _=>exact h.elim
 | cons u us ih=>cases cs with
  | nil=>exact h.elim
  | cons c cs=>exact⟨⟨Sk h.1,(ih h.2).1⟩,by simp only[List.all_cons,agN];exact⟨PY h.1,(ih h.2).2⟩⟩
theorem Jj(h:aF C s a w ρ F){d:Nat}(hd:d<C.n){x:Value}{us:List V}{T:TypeId}(hus:aH (R1 ρ F w) us x.cells.toList)(hf:us.all (V.all1 (fresh s.m))=true) :
  Sat C (mJ s d (.ptr s.m 0) (.box us)) (a.put (some d) (.pointer (some ⟨w.heap.size,0,none⟩))) (w.alloc (.cells x.cells T)):=by
 refine h.make hd (Mod.alloc _ _) (λb hb=>by simp [blk] at hb;omega) (c:=.box us) ⟨w.heap.size,x.cells.toList,T,upd_same _ _ _,by simpa using heap_alloc_new w (.cells x.cells T),?_⟩ ?_ (v:=.ptr s.m 0) ⟨w.heap.size,upd_same _ _ _,Z⟩ ?_
 ·have:=hus.imp (g:=λu=>u) (R':=R1 (upd ρ s.m (.pointer (some ⟨w.heap.size,0,none⟩))) F (w.alloc (.cells x.cells T))) λu c hu hr=>R1.new h.lt (Mod.alloc _ _) ((List.all_eq_true.1 hf) u hu) hr
  simpa using this
 ·simp only[Ch.all,List.all_eq_true] at hf ⊢
  exact λu hu=>pq (λv hv=>cZ (Nat.le_succ _) hv) (hf u hu)
 ·show Nat.blt s.m (s.m+1)=true
  simp
theorem Cj:∀{us:List V} {ds:List D},dList us=some ds->us.length=ds.length
 | [],ds,h=>by simp [dList] at h;subst h;rfl
 | u::us,ds,h=>by
  simp only[dList] at h
  split at h
  ·simp at h
  ·split at h
   ·simp at h
   ·rename_i ds' hds'
    simp only[agR] at h
    subst h
    simp [Cj hds']
theorem Mk{P:Program}{t:TypeId}{ti:TI}(hti:ti.OK P t)(w:World):∃z,(zeroValue t).run P w=.ok z w∧z.cells.size=ti.size∧aH qA (match ti.kind with | .array n _=>(List.replicate n ti.zero).flatten | _=>ti.zero) z.cells.toList:=by
 obtain⟨i,z,h1,h2,h3,h4,h5,h6⟩:=hti.info
 exact⟨z,by simp [zeroValue,typeInfo,h1,h4],h5,h6⟩
theorem Ck{us:List V}{ds:List D}(h:dList us=some ds):∀{cs:List Value},aH qA us cs->aH (RD F w) ds cs:=by
 intro cs hc
 exact lH (ρ:=λ_=>undef) h (hc.mono λ_ _=>Sk)
theorem UK{us:List V}{ds:List D}(hds:dList us=some ds)(n:Nat){cs:List Value}(h:aH qA (List.replicate n us).flatten cs) :
  ∀i j dd,i<n->ds[j]?=some dd->j<ds.length->∃c,cs[i*ds.length+j]?=some c∧RD F w dd c:=by
 have hlen:=Cj hds
 induction n generalizing cs with
 | zero=>intro i j dd hi;omega
 | succ n ih=>
  intro i j dd hi hj hlt
  simp only[List.replicate_succ,List.flatten_cons] at h
  have h1:=h.take us.length
  have h2:=h.drop us.length
  simp only[List.take_left',List.drop_left'] at h1 h2
  cases i with
  | zero=>
   obtain⟨c,hc,hr⟩:=(Ck (F:=F) (w:=w) hds h1).get hj
   refine⟨c,?_,hr⟩
   rw[List.getElem?_take] at hc
   simp only[Nat.zero_mul,Nat.zero_add]
   split at hc
   ·exact hc
   ·simp at hc
  | succ i=>
   obtain⟨c,hc,hr⟩:=ih h2 i j dd (by omega) hj hlt
   refine⟨c,?_,hr⟩
   rw[List.getElem?_drop] at hc
   rw[←hc]
   congr 1
   rw[hlen,Nat.add_mul];omega
theorem Ml(hg:bV C.P g.tys)(hn:g.n=C.n)(h:aF C s a w ρ F){d:Nat}{t:TypeId}{ti:TI}(hl:lk g t=some ti)(hd:d<C.n){ob:List Prop}
  (he:(match ti.kind with
    | .array n e=>match dList ti.zero,lk g e with
     | some ds,some te=>bif Nat.beq ds.length te.size then some (mJ s d (.ptr s.m 0) (.arr te.size n λ_=>ds),[]) else none
     | _,_=>none
    | _=>some (mJ s d (.ptr s.m 0) (Xy t ti.zero),[]))=some (s',ob)) :
  ∃x w',(Instr.alloc t true (.tuple #[])).run C.P w=.ok x w'∧Sat C s' (a.put (some d) x) w':=by
 obtain⟨z,hz1,hz2,hz3⟩:=Mk (bS hg hl) w
 have hrun:(Instr.alloc t true (.tuple #[])).run C.P w=.ok (.pointer (some ⟨w.heap.size,0,none⟩)) (w.alloc (.cells z.cells t)):=by
  simp [Instr.alloc,hz1,newVar,newRow,newObj,Sem.run]
 refine⟨_,_,hrun,?_⟩
 split at he
 ·rename_i n e hk
  split at he
  ·rename_i ds te hds hte
   cases hb:Nat.beq ds.length te.size with
   | false=>rw[hb] at he;simp at he
   | true=>
    rw[hb] at he
    simp only[cond_true] at he
    have hb:=agU hb
    obtain⟨rfl,rfl⟩:=Prod.mk.inj (agS he)
    simp only[hk] at hz3
    refine h.make hd (Mod.alloc _ _) (λb hb=>by simp [blk] at hb;omega) (c:=.arr te.size n λ_=>ds) ⟨w.heap.size,z.cells.toList,t,upd_same _ _ _,by simpa using heap_alloc_new w (.cells z.cells t),?_,?_⟩ Z (v:=.ptr s.m 0) ⟨w.heap.size,upd_same _ _ _,Z⟩ (by show Nat.blt s.m (s.m+1)=true;simp)
    ·have hzl:ti.zero.length=te.size:=(Cj hds).trans hb
     rw[←hz3.length]
     simp [List.length_flatten,hzl]
    ·intro i hi
     refine⟨hb,λj dd hj=>?_⟩
     have hall:=UK (F:=F) (w:=w.alloc (.cells z.cells t)) hds n hz3
     rw[hb] at hall
     exact hall i j dd hi hj (by rw[←hb];exact (List.getElem?_eq_some_iff.1 hj).1)
  ·simp at he
 ·rename_i hk
  obtain⟨rfl,rfl⟩:=Prod.mk.inj (agS he)
  have hz4:aH qA ti.zero z.cells.toList:=by
   revert hz3
   split
   ·rename_i n e hk2;exact (hk n e hk2).elim
   ·exact _root_.id
  unfold Xy
  split
  ·rename_i hzz
   rw[hzz] at hz4
   generalize hcc:z.cells.toList=cc at hz4
   match cc,hz4 with
   | [c0,c1],⟨z1,z2,_⟩=>
    have z1:c0=.pointer none:=z1
    have z2:c1=.slice none 0 0:=z2
    subst z1 z2
    have hcl:z.cells=#[.pointer none,.slice none 0 0]:=by rw[←Array.toArray_toList (xs:=z.cells),hcc]
    refine h.make hd (Mod.alloc _ _) (λb hb=>by simp [blk] at hb;omega) (c:=.bld t .aD) ⟨w.heap.size,_,_,upd_same _ _ _,by rw[hcl];exact heap_alloc_new w _,.inl Z,Z⟩ Z (v:=.ptr s.m 0) ⟨w.heap.size,upd_same _ _ _,Z⟩ (by show Nat.blt s.m (s.m+1)=true;simp)
   | [],hz=>exact hz.elim
   | [_],hz=>exact hz.2.elim
   | _::_::_::_,hz=>exact hz.2.2.elim
  ·exact Jj h hd (Sl (m:=s.m) hz4).1 (Sl (m:=s.m) (ρ:=ρ) (F:=F) (w:=w) hz4).2
end
section
variable{C:Ctx}{s s':St}{a:Act}{w w':World}{ρ:Nat->Value}{F:Nat->Prop}{g:Cfg}
theorem Sn(off:Nat):∀(l:List Value) (k:Nat) (cs:Array Value),off+k+l.length≤cs.size->
  ((l.zipIdx k).foldl (λ(cs:Array Value) (p:Value×Nat)=>cs.setIfInBounds (off+p.2) p.1) cs).size=cs.size∧
  ∀p,((l.zipIdx k).foldl (λ(cs:Array Value) (p:Value×Nat)=>cs.setIfInBounds (off+p.2) p.1) cs)[p]?=if off+k≤p∧p<off+k+l.length then l[p-(off+k)]? else cs[p]?
 | [],k,cs,h=>by
  refine⟨Z,λp=>?_⟩
  rw[if_neg (by simp only[List.length_nil];omega)]
  rfl
 | c::l,k,cs,h=>by
  obtain⟨h1,h2⟩:=Sn off l (k+1) (cs.setIfInBounds (off+k) c) (by simp at h ⊢;omega)
  simp only[List.zipIdx_cons,List.foldl_cons]
  refine⟨by rw[h1];simp,λp=>?_⟩
  rw[h2 p]
  by_cases hp:p=off+k
  ·subst hp
   rw[if_neg (by omega),if_pos (by simp)]
   have:off+k<cs.size:=by simp at h;omega
   simp [this]
  ·by_cases hp2:off+k≤p∧p<off+k+(c::l).length
   ·rw[if_pos hp2,if_pos (by simp at hp2 ⊢;omega)]
    obtain⟨q,hq⟩:∃q,p-(off+k)=q+1:=⟨p-(off+k)-1,by omega⟩
    rw[hq,List.getElem?_cons_succ]
    congr 1;omega
   ·rw[if_neg hp2,if_neg (by simp at hp2 ⊢;omega)]
    rw[Array.getElem?_setIfInBounds,if_neg (by omega)]
def Rows(F:Nat->Prop)(w:World)(sz:Nat)(xs:List (List D))(cells:Array Value):Prop:=
 cells.size=xs.length*sz∧∀i ds,xs[i]?=some ds->ds.length=sz∧∀j d,ds[j]?=some d->∃c,cells[i*sz+j]?=some c∧RD F w d c
theorem Fv{sz:Nat}:∀{qs:List (Nat×List D)} {pv:List (Nat×Value)} {xs xs':List (List D)} {cells:Array Value},Jh sz xs qs=some xs'->
  aH (λ(p:Nat×List D) (q:Nat×Value)=>p.1=q.1∧aH (RD F w) p.2 q.2.cells.toList) qs pv->Rows F w sz xs cells->
  ∃cells',Instr.fill (λi=>some (i*sz,sz)) cells pv=some cells'∧Rows F w sz xs' cells'∧xs'.length=xs.length
 | [],[],xs,xs',cells,h,_,hr=>by simp [Jh] at h;subst h;exact⟨cells,rfl,hr,rfl⟩
 | (i,ds)::qs,(i',v)::pv,xs,xs',cells,h,⟨⟨h1,h2⟩,h3⟩,hr=>by
  simp only at h1 h2
  subst h1
  simp only[Jh] at h
  cases hc:(Nat.beq ds.length sz&&Nat.blt i xs.length) with
  | false=>rw[hc] at h;simp at h
  | true=>
   rw[hc] at h
   simp only[cond_true] at h
   simp only[agN] at hc
   have hds:=agU hc.1
   have hi:i<xs.length:=by simpa using hc.2
   have hvs:v.cells.size=sz:=by have:=h2.length;rw[hds] at this;simpa using this.symm
   have hle:i*sz+sz≤cells.size:=by
    rw[hr.1]
    have:=Nat.mul_le_mul_right sz (show i+1≤xs.length by omega)
    rwa [Nat.add_mul,Nat.one_mul] at this
   obtain⟨g1,g2⟩:=Sn (i*sz) v.cells.toList 0 cells (by simp only[Array.length_toList];omega)
   simp only[Nat.add_zero,Array.length_toList,hvs] at g1 g2
   have aeu:v.cells.zipIdx.foldl (λcs (c,j)=>cs.setIfInBounds (i*sz+j) c) cells=(v.cells.toList.zipIdx 0).foldl (λ(cs:Array Value) (p:Value×Nat)=>cs.setIfInBounds (i*sz+p.2) p.1) cells:=by
    rw[←Array.foldl_toList,Array.toList_zipIdx]
   have hr':Rows F w sz (xs.set i ds) (v.cells.zipIdx.foldl (λcs (c,j)=>cs.setIfInBounds (i*sz+j) c) cells):=by
    rw[aeu]
    refine⟨by rw[g1,hr.1];simp,λk es hk=>?_⟩
    rw[List.getElem?_set] at hk
    by_cases hki:i=k
    ·subst hki
     simp only[if_true,hi] at hk
     simp only[agR] at hk
     subst hk
     refine⟨hds,λj d hj=>?_⟩
     obtain⟨c,hc1,hc2⟩:=h2.get hj
     have hj':j<sz:=by rw[←hds];exact (List.getElem?_eq_some_iff.1 hj).1
     refine⟨c,?_,hc2⟩
     rw[g2,if_pos ⟨by omega,by omega⟩,←hc1]
     congr 1;omega
    ·rw[if_neg hki] at hk
     obtain⟨k1,k2⟩:=hr.2 k es hk
     refine⟨k1,λj d hj=>?_⟩
     obtain⟨c,hc1,hc2⟩:=k2 j d hj
     have hj':j<sz:=by rw[←k1];exact (List.getElem?_eq_some_iff.1 hj).1
     refine⟨c,?_,hc2⟩
     rw[g2,if_neg ?_]
     ·exact hc1
     ·rintro ⟨p1,p2⟩
      rcases Nat.lt_or_gt_of_ne hki with hlt | hgt
      ·have:=Nat.mul_le_mul_right sz (show i+1≤k by omega)
       rw[Nat.add_mul,Nat.one_mul] at this
       omega
      ·have:=Nat.mul_le_mul_right sz (show k+1≤i by omega)
       rw[Nat.add_mul,Nat.one_mul] at this
       omega
   obtain⟨c',e1,e2,e3⟩:=Fv h h3 hr'
   refine⟨c',?_,e2,by rw[e3];simp⟩
   simp only[Instr.fill,hvs]
   rw[if_neg (by simp;omega)]
   exact e1
 | [],_::_,_,_,_,_,h,_=>h.elim
 | _::_,[],_,_,_,_,h,_=>h.elim
theorem Jk(h:aF C s a w ρ F):∀{ps:List (Nat×Operand)} {qs:List (Nat×List D)},evp s.L ps=some qs->
  aH (λ(p:Nat×List D) (q:Nat×Value)=>p.1=q.1∧aH (RD F w) p.2 q.2.cells.toList) qs (ps.map λ(i,x)=>(i,a.eval x))
 | [],qs,he=>by simp [evp] at he;subst he;trivial
 | (i,x)::ps,qs,he=>by
  simp only[evp] at he
  split at he
  ·simp at he
  ·rename_i v hv
   split at he
   ·simp at he
   ·rename_i us hus
    split at he
    ·simp at he
    ·rename_i ds hds
     split at he
     ·simp at he
     ·rename_i q hq
      simp only[agR] at he
      subst he
      obtain⟨h1,h2⟩:=aC h (dn _) hv
      exact⟨⟨Z,lH hds (rz hus h1 h2).1⟩,Jk h hq⟩
theorem aaC(xs:List (List D)){i:Nat}(hi:i<xs.length):xs[i]?=some (tab xs i):=by
 unfold tab
 split
 ·rename_i x;simp at hi;subst hi;rfl
 ·simp [agO hi]
theorem PZ{sz:Nat}{xs:List (List D)}{cells:Array Value}(h:Rows F w sz xs cells):iZ F w sz xs.length (tab xs) cells.toList:=by
 intro i hi
 obtain⟨h1,h2⟩:=h.2 i _ (aaC xs hi)
 exact⟨h1,λj d hj=>let ⟨c,e1,e2⟩:=h2 j d hj;⟨c,by simpa using e1,e2⟩⟩
theorem ow{P:Program}(hg:bV P g.tys){t e:TypeId}{te:TI}(h:vN g t=some (e,te)):P.underlying t=some (.slice e)∧te.OK P e∧∀w,∃z,(zeroValue e).run P w=.ok z w∧z.cells.size=te.size∧aH qA (zeroOf te) z.cells.toList:=by
 unfold vN at h
 split at h
 ·rename_i ti hl
  split at h
  ·rename_i e' hk
   split at h
   ·rename_i te' hte
    simp only[agR,agW] at h
    obtain⟨rfl,rfl⟩:=h
    have:=(bS hg hl).und
    rw[hk] at this
    refine⟨this,bS hg hte,λw=>?_⟩
    obtain⟨z,hz1,hz2,hz3⟩:=Mk (bS hg hte) w
    exact⟨z,hz1,hz2,hz3⟩
   ·simp at h
  ·simp at h
 ·simp at h
theorem aF.row(h:aF C s a w ρ F){d:Nat}(hd:d<C.n)(hm:Mod none w w'){x:Value}{e:TypeId}{sz n:Nat}{f:Nat->List D}{xs:List Value}(hb:∀b,blk x=some b->w.heap.size≤b)
  (hx:∃ad l c,x=.slice ad l c) (hown:w'.ownsRow 0 e sz x n xs) (hel:iZ F w' sz n f xs):Sat C (mJ s d (.own s.m) (.vec e sz n f)) (a.put (some d) x) w':=
 h.make hd hm hb (c:=.vec e sz n f) ⟨xs,by rw[upd_same];exact hown,hel⟩ Z (v:=.own s.m) ⟨(upd_same ρ s.m x).symm,by rw[upd_same];exact (.inl hx)⟩ (by show Nat.blt s.m (s.m+1)=true;simp)
theorem Fw{zs:List D}{z:Array Value}{sz n:Nat}(hz:aH (RD F w) zs z.toList)(hsz:z.size=sz)(cells:Array Value)(hc:cells.size=n*sz)(hcell:∀k,k<n*sz->cells[k]?=z[k%sz]?):Rows F w sz (List.replicate n zs) cells:=by
 have hl:zs.length=sz:=by rw[hz.length];simpa using hsz
 refine⟨by simpa using hc,λi ds hi=>?_⟩
 rw[List.getElem?_replicate] at hi
 split at hi
 ·rename_i hin
  simp only[agR] at hi
  subst hi
  refine⟨hl,λj d hj=>?_⟩
  have hj':j<sz:=by rw[←hl];exact (List.getElem?_eq_some_iff.1 hj).1
  obtain⟨c,h1,h2⟩:=hz.get hj
  refine⟨c,?_,h2⟩
  have hlt:i*sz+j<n*sz:=by
   have:=Nat.mul_le_mul_right sz (show i+1≤n by omega)
   rw[Nat.add_mul,Nat.one_mul] at this
   omega
  rw[hcell _ hlt,Nat.mul_comm,Nat.mul_add_mod,Nat.mod_eq_of_lt hj',←h1]
  simp
 ·simp at hi
theorem XC(hg:bV C.P g.tys)(h:aF C s a w ρ F){d:Nat}(hd:d<C.n){t:TypeId}{e:TypeId}{te:TI}(hs:vN g t=some (e,te)){len:Nat}{ps:Array (Nat×Operand)}{qs:List (Nat×List D)}(hq:evp s.L ps.toList=some qs)
  {zs:List D} (hzs:dList (zeroOf te)=some zs) {xs:List (List D)} (hf:Jh te.size (List.replicate len zs) qs=some xs) (hbig:len*te.size≤16777216) (hlen:len≤16777216) (hzl:zs.length=te.size) :
  ∃x w',(Instr.buildSlice t len (ps.map λ(i,x)=>(i,a.eval x))).run C.P w=.ok x w'∧Sat C (mJ s d (.own s.m) (.vec e te.size len (tab xs))) (a.put (some d) x) w':=by
 obtain⟨hu,hte,hz⟩:=ow hg hs
 obtain⟨z,hz1,hz2,hz3⟩:=hz w
 have hz4:aH (RD F w) zs z.cells.toList:=Ck hzs hz3
 obtain⟨zero,hzero,hrows⟩:∃zero:Array Value,((len*te.size=0->zero=#[])∧(¬len*te.size=0->zero=z.cells))∧Rows F w te.size (List.replicate len zs) ((Array.range (len*te.size)).map (zero[· % zero.size]!)):=by
  by_cases h0:len*te.size=0
  ·refine⟨#[],⟨λ_=>rfl,λh=>(h h0).elim⟩,by simp [h0],λi ds hi=>?_⟩
   rw[List.getElem?_replicate] at hi
   split at hi
   ·rename_i hin
    simp only[agR] at hi
    subst hi
    refine⟨hzl,λj d hj=>?_⟩
    have:=(List.getElem?_eq_some_iff.1 hj).1
    rcases Nat.mul_eq_zero.1 h0 with h0 | h0<;>omega
   ·simp at hi
  ·refine⟨z.cells,⟨λh=>(h0 h).elim,λ_=>rfl⟩,Fw hz4 hz2 _ (by simp) (λk hk=>?_)⟩
   have hpos:0<te.size:=Nat.pos_of_ne_zero λe=>h0 (by rw[e];rfl)
   have hlt:k%te.size<z.cells.size:=by rw[hz2];exact Nat.mod_lt _ hpos
   rw[Array.getElem?_map,Array.getElem?_range,if_pos hk,getElem?_pos z.cells _ hlt]
   simp only[Option.map_some,hz2]
   rw[getElem!_pos z.cells _ hlt]
 obtain⟨cells',hf1,hf2,hf3⟩:=Fv hf (Jk h hq) hrows
 have hxl:xs.length=len:=by rw[hf3];simp
 have hnb:¬len*te.size > 2 ^ 24:=by omega
 refine⟨.slice (some ⟨w.heap.size,0,none⟩) len len,w.alloc (.cells cells' e),?_,?_⟩
 ·simp only[Instr.buildSlice,Sem.run_bind,aP hu,Result.andThen,run_sizeOf hte,hnb,if_false]
  by_cases h0:len*te.size=0
  ·obtain rfl:=hzero.1 h0
   simp only[h0,if_true,Sem.run_bind,Sem.run_pure,Result.andThen]
   rw[h0] at hf1
   simp only[Array.toList_map,hf1]
   simp [newRow,newObj,Sem.run]
  ·obtain rfl:=hzero.2 h0
   simp only[h0,if_false,Sem.run_bind,hz1,Sem.run_pure,Result.andThen]
   simp only[Array.toList_map,hf1]
   simp [newRow,newObj,Sem.run]
 ·subst hxl
  refine h.row hd (Mod.alloc _ _) (λb hb=>by simp [blk] at hb;omega) ⟨_,_,_,Z⟩ (World.ownsRow_lit w cells' xs.length (Nat.zero_le _) (by simp only[maxLen];omega) hf2.1) ?_
  exact (PZ hf2).keep (λ_=>_root_.id) (λk hk=>(Mod.alloc w _).block k (h.lt k hk) (by simp))
theorem XD(hg:bV C.P g.tys)(h:aF C s a w ρ F){d:Nat}(hd:d<C.n){t:TypeId}{e:TypeId}{te:TI}(hs:vN g t=some (e,te)){zs:List D}(hzs:dList (zeroOf te)=some zs)(hzl:zs.length=te.size){kl kc:IntKind}{l c:Int}
  (h0:0≤l) (h1:l≤c) (h2:c.toNat*te.bytes≤big) (h3:c.toNat≤big) :
  ∃x w',(Instr.makeSlice t (.int kl l) (.int kc c)).run C.P w=.ok x w'∧Sat C (mJ s d (.own s.m) (.vec e te.size l.toNat λ_=>zs)) (a.put (some d) x) w':=by
 obtain⟨hu,hte,hz⟩:=ow hg hs
 obtain⟨z,hz1,hz2,hz3⟩:=hz w
 obtain⟨i,z',i1,i2,i3,i4,i5,i6⟩:=hte.info
 have hzz:z'=z:=by
  have:(zeroValue e).run C.P w=.ok z' w:=by simp [zeroValue,typeInfo,i1,i4]
  rw[this] at hz1
  simpa using hz1
 subst hzz
 unfold big at h2 h3
 have hb:(i.bytes:Int)*c≤281474976710656:=by
  rw[i3]
  have e1:c=((c.toNat:Nat):Int):=by omega
  rw[e1,Int.mul_comm]
  have:((c.toNat*te.bytes:Nat):Int)≤281474976710656:=by omega
  rw[Int.natCast_mul] at this
  exact this
 have hr:=run_make (P:=C.P) w t e i z' hu i1 i4 kl kc l c h0 h1 hb (by omega)
 refine⟨_,_,hr,?_⟩
 have hmc:∀k,k<c.toNat*te.size->(madeCells z'.cells (c.toNat*te.size))[k]?=z'.cells[k%te.size]?:=by
  intro k hk
  have hpos:0<te.size:=by
   rcases Nat.eq_zero_or_pos te.size with e0 | hp
   ·rw[e0] at hk;omega
   ·exact hp
  have hlt:k%te.size<z'.cells.size:=by rw[i5];exact Nat.mod_lt _ hpos
  simp only[madeCells]
  rw[Array.getElem?_map,Array.getElem?_range,if_pos hk,getElem?_pos z'.cells _ hlt]
  simp only[Option.map_some,i5]
  rw[getElem!_pos z'.cells _ hlt]
 have hsize:(madeCells z'.cells (c.toNat*te.size)).size=c.toNat*te.size:=by
  simp [madeCells]
 have hz4:aH (RD F w) zs z'.cells.toList:=Ck hzs hz3
 have hrows:=Fw (n:=c.toNat) hz4 i5 (madeCells z'.cells (c.toNat*te.size)) hsize hmc
 rw[i2]
 have hle:l.toNat≤c.toNat:=by omega
 have hle2:l.toNat*te.size≤c.toNat*te.size:=Nat.mul_le_mul_right _ hle
 refine h.row (xs:=((madeCells z'.cells (c.toNat*te.size)).toList.take (l.toNat*te.size))) hd (Mod.alloc _ _) (λb hb=>by simp [blk] at hb;omega) ⟨_,_,_,Z⟩ ⟨?_,.inr ⟨w.heap.size,c.toNat,_,Z,Nat.zero_le _,heap_alloc_new w _,hle,by simp only[maxLen];omega,hsize,Z⟩⟩ ?_
 ·rw[List.length_take,Array.length_toList,hsize];omega
 ·intro k hk
  have hk2:(List.replicate c.toNat zs)[k]?=some zs:=by rw[List.getElem?_replicate,if_pos (by omega)]
  obtain⟨r1,r2⟩:=hrows.2 k zs hk2
  refine⟨r1,λj dd hj=>?_⟩
  obtain⟨cc,c1,c2⟩:=r2 j dd hj
  have hj':j<te.size:=by rw[←r1];exact (List.getElem?_eq_some_iff.1 hj).1
  refine⟨cc,?_,RD.mono (λ_=>_root_.id) (λk hk=>(Mod.alloc w _).block k (h.lt k hk) (by simp)) c2⟩
  have hlt:k*te.size+j<l.toNat*te.size:=by
   have:=Nat.mul_le_mul_right te.size (show k+1≤l.toNat by omega)
   rw[Nat.add_mul,Nat.one_mul] at this
   omega
  rw[List.getElem?_take,if_pos hlt]
  simpa using c1
theorem aaD(hg:bV C.P g.tys)(h:aF C s a w ρ F){d:Nat}(hd:d<C.n){t:TypeId}{e e':TypeId}{te:TI}(sz:Nat)(hs:vN g t=some (e,te))(hsl:acV te=some e')(hzl:te.size=1){kl kc:IntKind}{l c:Int}
  (h0:0≤l) (h1:l≤c) (h2:c.toNat*te.bytes≤big) (h3:c.toNat≤big) :
  ∃x w',(Instr.makeSlice t (.int kl l) (.int kc c)).run C.P w=.ok x w'∧Sat C (mJ s d (.own s.m) (.rows e e' sz l.toNat none (λ_=>.slice none 0 0) (λ_=>0) λ_ _=>[])) (a.put (some d) x) w':=by
 obtain⟨hu,hte,hz⟩:=ow hg hs
 obtain⟨z,hz1,hz2,hz3⟩:=hz w
 obtain⟨i,z',i1,i2,i3,i4,i5,i6⟩:=hte.info
 have hzz:z'=z:=by
  have:(zeroValue e).run C.P w=.ok z' w:=by simp [zeroValue,typeInfo,i1,i4]
  rw[this] at hz1
  simpa using hz1
 subst hzz
 unfold big at h2 h3
 have hb:(i.bytes:Int)*c≤281474976710656:=by
  rw[i3]
  have e1:c=((c.toNat:Nat):Int):=by omega
  rw[e1,Int.mul_comm]
  have:((c.toNat*te.bytes:Nat):Int)≤281474976710656:=by omega
  rw[Int.natCast_mul] at this
  exact this
 have hr:=run_make (P:=C.P) w t e i z' hu i1 i4 kl kc l c h0 h1 hb (by omega)
 refine⟨_,_,hr,?_⟩
 have hnil:z'.cells.toList=[.slice none 0 0]:=by
  unfold acV at hsl
  split at hsl
  ·rename_i hk0 hz0
   rw[hk0,hz0] at i6
   match hcs:z'.cells.toList,i6 with
   | [x],i6=>rw[show x=_ from i6.1]
   | [],i6=>exact i6.elim
   | _::_::_,i6=>exact i6.2.elim
  ·cases hsl
 have hcell:∀k,k<c.toNat*te.size->(madeCells z'.cells (c.toNat*te.size))[k]?=some (.slice none 0 0):=by
  intro k hk
  simp only[madeCells]
  rw[Array.getElem?_map,Array.getElem?_range,if_pos hk]
  have h0c:z'.cells=#[.slice none 0 0]:=by rw[←Array.toArray_toList (xs:=z'.cells),hnil]
  simp only[Option.map_some,h0c]
  simp [Nat.mod_one]
 have hsize:(madeCells z'.cells (c.toNat*te.size)).size=c.toNat*te.size:=by
  simp [madeCells]
 rw[i2]
 have hle:l.toNat≤c.toNat:=by omega
 have hle2:l.toNat*te.size≤c.toNat*te.size:=Nat.mul_le_mul_right _ hle
 have hbk:∀b,blk (.slice (some ⟨w.heap.size,0,none⟩) l.toNat c.toNat)=some b->w.heap.size≤b:=λb hb=>by simp [blk] at hb;omega
 refine h.make hd (Mod.alloc _ _) hbk (c:=.rows e e' sz l.toNat none (λ_=>.slice none 0 0) (λ_=>0) λ_ _=>[]) ⟨((madeCells z'.cells (c.toNat*te.size)).toList.take (l.toNat*te.size)),?_,λi hi _=>⟨?_,[],⟨by simp,.inl ⟨Z,Z⟩⟩,λk hk=>absurd hk (agV _)⟩,λi b _ _ hb=>by simp [blk] at hb,λi j b _ _ _ _ _ hb=>by simp [blk] at hb⟩ Z (v:=.own s.m) ⟨(upd_same ρ s.m _).symm,by rw[upd_same];exact .inl ⟨_,_,_,Z⟩⟩ (by show Nat.blt s.m (s.m+1)=true;simp) ?_
 ·rw[upd_same]
  refine⟨?_,.inr ⟨w.heap.size,c.toNat,_,Z,Nat.zero_le _,heap_alloc_new w _,hle,by simp only[maxLen];omega,by rw[hsize,hzl],by rw[hzl]⟩⟩
  rw[List.length_take,Array.length_toList,hsize,hzl];omega
 ·rw[List.getElem?_take,if_pos (by rw[hzl];omega)]
  have:=hcell i (by rw[hzl];omega)
  simpa using this
 ·intro b hb
  rcases hb with hb | ⟨k,_,_,hb⟩
  ·exact hb
  ·simp [blk] at hb
end
end Go.Sx
