import Derived.Test.YtojhdmfkfkfcbaaGreatDoorSxB
set_option linter.unusedSimpArgs false
set_option linter.unusedVariables false
namespace Go.Sx
def upd(ρ:Nat->Value)(id:Nat)(x:Value):Nat->Value:=λj=>if j=id then x else ρ j
def sW(k:V->V):List (Nat×V)->List (Nat×V)
 | []=>[]
 | (t,v)::r=>(t,v.yh k)::sW k r
def qp(k:V->V):List (Nat×Ch)->List (Nat×Ch)
 | []=>[]
 | (t,c)::r=>(t,c.map k)::qp k r
theorem ED{k:V->V}{L:List (Nat×V)}{t:Nat}{v':V}(h:(t,v')∈sW k L):∃v,(t,v)∈L∧v'=v.yh k:=by
 induction L with
 | nil=>cases h
 | cons e r ih=>
  rcases List.mem_cons.1 h with e1 | h
  ·obtain⟨rfl,rfl⟩:=Prod.mk.inj e1;exact⟨_,by simp,Z⟩
  ·obtain⟨v,h1,h2⟩:=ih h;exact⟨v,by simp [h1],h2⟩
theorem vC{k:V->V}{H:List (Nat×Ch)}{t:Nat}{c':Ch}(h:(t,c')∈qp k H):∃c,(t,c)∈H∧c'=c.map k:=by
 induction H with
 | nil=>cases h
 | cons e r ih=>
  rcases List.mem_cons.1 h with e1 | h
  ·obtain⟨rfl,rfl⟩:=Prod.mk.inj e1;exact⟨_,by simp,Z⟩
  ·obtain⟨v,h1,h2⟩:=ih h;exact⟨v,by simp [h1],h2⟩
theorem wS(v:V):v.eZ (λu=>u)=v:=by cases v<;>simp [V.eZ]
theorem zI(v:V):v.iL (λu=>u)=v:=by
 cases v<;>simp only[V.iL,V.eZ,List.map_id']
 congr 1
 rw[List.map_congr_left (g:=id) λa _=>wS a];simp
theorem sZ(v:V):v.dx (λu=>u)=v:=by
 cases v with
 | tup us=>simp only[V.dx];congr 1;rw[List.map_congr_left (g:=id) λa _=>zI a];simp
 | agg us=>exact zI (.agg us)
 | fn f c=>exact zI (.fn f c)
 | _=>rfl
theorem tq(v:V):v.yh (λu=>u)=v:=by
 cases v with
 | g p u=>simp only[V.yh,sZ]
 | tup us=>exact sZ (.tup us)
 | agg us=>exact sZ (.agg us)
 | fn f c=>exact sZ (.fn f c)
 | _=>rfl
theorem kF(c:Ch):c.map (λu=>u)=c:=by
 cases c with
 | box us=>simp only[Ch.map];congr 1;rw[List.map_congr_left (g:=id) λa _=>wS a];simp
 | held _ _ _ _ _ u _ _ _=>simp only[Ch.map,wS]
 | tbl es=>simp only[Ch.map,zI];congr 1;simp
 | bld T u=>simp only[Ch.map,wS]
 | _=>rfl
theorem cB{m m':Nat}(h:m≤m'){u:V}(hu:fresh m u=true):fresh m' u=true:=by
 have go:∀id,Nat.blt id m=true->Nat.blt id m'=true:=λid h1=>by
  have h1:id<m:=by simpa using h1
  simpa using Nat.lt_of_lt_of_le h1 h
 cases u<;>first | rfl | exact go _ hu
theorem oP{p q:V->Bool}(h:∀u,p u=true->q u=true){v:V}(hv:v.all1 p=true):v.all1 q=true:=by
 cases v with
 | fn f c=>simp only[V.all1,List.all_eq_true] at *;exact λx hx=>h x (hv x hx)
 | _=>exact h _ hv
theorem zJ{p q:V->Bool}(h:∀u,p u=true->q u=true){v:V}(hv:v.all2 p=true):v.all2 q=true:=by
 cases v with
 | agg us=>simp only[V.all2,List.all_eq_true] at *;exact λx hx=>oP h (hv x hx)
 | fn f c=>exact oP (v:=.fn f c) h hv
 | _=>exact h _ hv
theorem jc{p q:V->Bool}(h:∀u,p u=true->q u=true){v:V}(hv:v.aQ p=true):v.aQ q=true:=by
 cases v with
 | tup us=>simp only[V.aQ,List.all_eq_true] at *;exact λx hx=>zJ h (hv x hx)
 | agg us=>exact zJ (v:=.agg us) h hv
 | fn f c=>exact zJ (v:=.fn f c) h hv
 | _=>exact h _ hv
theorem Lr{p q:V->Bool}(h:∀u,p u=true->q u=true){v:V}(hv:v.qX p=true):v.qX q=true:=by
 cases v with
 | g r u=>exact jc h hv
 | tup us=>exact jc (v:=.tup us) h hv
 | agg us=>exact jc (v:=.agg us) h hv
 | fn f c=>exact jc (v:=.fn f c) h hv
 | _=>exact h _ hv
theorem Bf{p q:V->Bool}(h:∀u,p u=true->q u=true){c:Ch}(hv:c.all p=true):c.all q=true:=by
 cases c with
 | box us=>simp only[Ch.all,List.all_eq_true] at *;exact λx hx=>oP h (hv x hx)
 | held _ _ _ _ _ u _ _ _=>exact oP h (v:=u) hv
 | tbl es=>simp only[Ch.all,List.all_eq_true] at *;exact λx hx=>zJ h (hv x hx)
 | bld T u=>exact oP h (v:=u) hv
 | _=>rfl
theorem jU(x:Nat)(u:V):kill x u=u∨kill x u=.dead:=by
 unfold kill
 cases names x u
 ·exact .inl Z
 ·exact .inr Z
theorem O4{x m:Nat}{u:V}(h:fresh m u=true):fresh m (kill x u)=true:=by
 rcases jU x u with e | e<;>rw[e]
 ·exact h
 ·rfl
theorem nG{x m:Nat}{v:V}(hv:v.all1 (fresh m)=true):(v.eZ (kill x)).all1 (fresh m)=true:=by
 cases v with
 | fn f c=>simp only[V.eZ,V.all1,List.all_map,List.all_eq_true,Function.comp] at *;exact λy hy=>O4 (hv y hy)
 | ptr id o=>show V.all1 (fresh m) (kill x (.ptr id o))=true;rcases jU x (.ptr id o) with e | e<;>rw[e]<;>first | exact hv | rfl
 | own id=>show V.all1 (fresh m) (kill x (.own id))=true;rcases jU x (.own id) with e | e<;>rw[e]<;>first | exact hv | rfl
 | bA id a b o=>show V.all1 (fresh m) (kill x (.bA id a b o))=true;rcases jU x (.bA id a b o) with e | e<;>rw[e]<;>first | exact hv | rfl
 | _=>exact hv
theorem qF{x m:Nat}{v:V}(hv:v.all2 (fresh m)=true):(v.iL (kill x)).all2 (fresh m)=true:=by
 cases v with
 | agg us=>simp only[V.iL,V.all2,List.all_map,List.all_eq_true,Function.comp] at *;exact λy hy=>nG (hv y hy)
 | fn f c=>exact nG (v:=.fn f c) hv
 | ptr id o=>show V.all2 (fresh m) (kill x (.ptr id o))=true;rcases jU x (.ptr id o) with e | e<;>rw[e]<;>first | exact hv | rfl
 | own id=>show V.all2 (fresh m) (kill x (.own id))=true;rcases jU x (.own id) with e | e<;>rw[e]<;>first | exact hv | rfl
 | bA id a b o=>show V.all2 (fresh m) (kill x (.bA id a b o))=true;rcases jU x (.bA id a b o) with e | e<;>rw[e]<;>first | exact hv | rfl
 | _=>exact hv
theorem qG{x m:Nat}{v:V}(hv:v.aQ (fresh m)=true):(v.dx (kill x)).aQ (fresh m)=true:=by
 cases v with
 | tup us=>simp only[V.dx,V.aQ,List.all_map,List.all_eq_true,Function.comp] at *;exact λy hy=>qF (hv y hy)
 | agg us=>exact qF (v:=.agg us) hv
 | fn f c=>exact qF (v:=.fn f c) hv
 | ptr id o=>show V.aQ (fresh m) (kill x (.ptr id o))=true;rcases jU x (.ptr id o) with e | e<;>rw[e]<;>first | exact hv | rfl
 | own id=>show V.aQ (fresh m) (kill x (.own id))=true;rcases jU x (.own id) with e | e<;>rw[e]<;>first | exact hv | rfl
 | bA id a b o=>show V.aQ (fresh m) (kill x (.bA id a b o))=true;rcases jU x (.bA id a b o) with e | e<;>rw[e]<;>first | exact hv | rfl
 | _=>exact hv
theorem Ls{x m:Nat}{v:V}(hv:v.qX (fresh m)=true):(v.yh (kill x)).qX (fresh m)=true:=by
 cases v with
 | g p u=>exact qG hv
 | tup us=>exact qG (v:=.tup us) hv
 | agg us=>exact qG (v:=.agg us) hv
 | fn f c=>exact qG (v:=.fn f c) hv
 | ptr id o=>show V.qX (fresh m) (kill x (.ptr id o))=true;rcases jU x (.ptr id o) with e | e<;>rw[e]<;>first | exact hv | rfl
 | own id=>show V.qX (fresh m) (kill x (.own id))=true;rcases jU x (.own id) with e | e<;>rw[e]<;>first | exact hv | rfl
 | bA id a b o=>show V.qX (fresh m) (kill x (.bA id a b o))=true;rcases jU x (.bA id a b o) with e | e<;>rw[e]<;>first | exact hv | rfl
 | _=>exact hv
theorem Lu{x m:Nat}{c:Ch}(hc:c.all (fresh m)=true):(c.map (kill x)).all (fresh m)=true:=by
 cases c with
 | box us=>simp only[Ch.map,Ch.all,List.all_map,List.all_eq_true,Function.comp] at *;exact λy hy=>nG (hc y hy)
 | held _ _ _ _ _ u _ _ _=>exact nG (v:=u) hc
 | tbl es=>simp only[Ch.map,Ch.all,List.all_map,List.all_eq_true,Function.comp] at *;exact λy hy=>qF (hc y hy)
 | bld T u=>exact nG (v:=u) hc
 | _=>rfl
section
variable{C:Ctx}{s:St}{a:Act}{w w':World}{ρ:Nat->Value}{F:Nat->Prop}
structure Mod(t:Option Nat)(w w':World):Prop where
 os:w'.os=w.os
 tape:w'.tape=w.tape
 output:w'.output=w.output
 size:w.heap.size≤w'.heap.size
 block:∀k,k<w.heap.size->some k≠t->w'.heap[k]?=w.heap[k]?
theorem Mod.EF{t:Option Nat}(h:w.grownBy w' t):Mod t w w':=⟨h.os,h.tape,h.output,h.size,h.block⟩
theorem Mod.alloc(w:World)(o:Obj):Mod none w (w.alloc o):=.EF (World.grownBy_alloc w o none)
theorem aG.keeps(h:aG C s a w ρ F){t:Option Nat}(hm:Mod t w w')(ht:∀b,t=some b->C.w0.heap.size≤b∨C.E b):Keeps C.w0 C.E w':=
 ⟨hm.os.trans h.keep.os,hm.tape.trans h.keep.tape,hm.output.trans h.keep.output,Nat.le_trans h.keep.size hm.size,λk hk he=>
  (hm.block k (Nat.lt_of_lt_of_le hk h.keep.size) (λe=>by rcases ht k e.symm with h1 | h1;omega;exact he h1)).trans (h.keep.block k hk he)⟩
theorem aG.new(h:aG C s a w ρ F)(hm:Mod none w w'){x:Value}(hb:∀b,blk x=some b->w.heap.size≤b){c:Ch}(hc:iV (upd ρ s.m x) F w' s.m c)(hcf:c.all (fresh (s.m+1))=true)(hpl:∀b,bks (upd ρ s.m x) s.m c b->blk (upd ρ s.m x s.m)=some b:=by exact λ_ e=>e) :
  aG C {L:=s.L,H:=(s.m,c)::s.H,m:=s.m+1} a w' (upd ρ s.m x) F:=by
 have hρ:∀id,id≠s.m->upd ρ s.m x id=ρ id:=λid hid=>by simp [upd,hid]
 have hwF:∀k,F k->w'.heap[k]?=w.heap[k]?:=λk hk=>hm.block k (h.lt k hk) (by simp)
 have h1:aG C {L:=s.L,H:=s.H,m:=s.m+1} a w' (upd ρ s.m x) F:=by
  refine h.change (λu=>u) (λu v hu hr=>hr.keep hρ (λ_=>id) hwF (jw (Nat.le_refl _) hu)) (λt v hv=>⟨⟨v,hv,(tq v).symm⟩,Lr (λu hu=>cB (Nat.le_succ _) hu) (h.aR t v hv)⟩) (λi c hc=>?_) (λ_=>id) hwF (λk hk=>Nat.lt_of_lt_of_le (h.lt k hk) hm.size) (h.keeps hm (by simp)) (Nat.le_succ _) h.sub (λi hi=>by have:=h.bW.1;rw[hρ i (by omega)];exact h.bW.2 i hi)
  obtain⟨h2,h3⟩:=h.aK i c hc
  exact⟨⟨c,hc,(kF c).symm⟩,Bf (λu hu=>cB (Nat.le_succ _) hu) h3,hρ i (by omega),λb e=>⟨hm.block b ((h.ch i c hc).lt e) (by simp),h.out i c b hc e⟩⟩
 refine h1.Wd hc (λb e=>?_) (Nat.lt_succ_self _) hcf (λb e=>?_)
 ·have e:=hpl b e
  rw[show upd ρ s.m x s.m=x by simp [upd]] at e
  have hge:=hb b e
  refine⟨λhF=>by have:=h.lt b hF;omega,λi ci hi hne e2=>?_⟩
  rw[jT (hρ i hne)] at e2
  have:=(h.ch i ci hi).lt e2
  omega
 ·have e:=hpl b e
  rw[show upd ρ s.m x s.m=x by simp [upd]] at e
  exact .inl (Nat.le_trans h.keep.size (hb b e))
theorem aG.touch(h:aG C s a w ρ F){id:Nat}{c c':Ch}(hi:(id,c)∈s.H)(hm:Mod (blk (ρ id)) w w')(hc:iV ρ F w' id c')(hcf:c'.all (fresh s.m)=true)(hpl:∀b,bks ρ id c' b->bks ρ id c b:=by exact λ_ e=>e) :
  aG C {L:=s.L,H:=(id,c')::nQ id s.H,m:=s.m} a w' ρ F:=by
 have hwF:∀k,F k->w'.heap[k]?=w.heap[k]?:=λk hk=>hm.block k (h.lt k hk) (λe=>h.out id c k hi (aT e.symm) hk)
 have h1:aG C {L:=s.L,H:=nQ id s.H,m:=s.m} a w' ρ F:=by
  refine h.change (λu=>u) (λu v hu hr=>hr.keep (x:=s.m) (λ_ _=>rfl) (λ_=>_root_.id) hwF (jw (Nat.le_refl _) hu)) (λt v hv=>⟨⟨v,hv,(tq v).symm⟩,h.aR t v hv⟩) (λi ci hci=>?_) (λ_=>_root_.id) hwF (λk hk=>Nat.lt_of_lt_of_le (h.lt k hk) hm.size) (h.keeps hm (λb e=>h.mine id c b hi (aT e))) (Nat.le_refl _) h.sub h.bW.2
  obtain⟨hci,hne⟩:=uY hci
  exact⟨⟨ci,hci,(kF ci).symm⟩,(h.aK i ci hci).2,Z,λb e=>⟨hm.block b ((h.ch i ci hci).lt e) (λe2=>h.sep id i c ci b hi hci (Ne.symm hne) (aT e2.symm) e),h.out i ci b hci e⟩⟩
 refine h1.Wd hc (λb e=>⟨h.out id c b hi (hpl b e),λi ci hci hne e2=>?_⟩) (h.aK id c hi).1 hcf (λb e=>h.mine id c b hi (hpl b e))
 exact h.sep id i c ci b hi (uY hci).1 (Ne.symm hne) (hpl b e) e2
theorem aG.move(h:aG C s a w ρ F){id:Nat}{c c':Ch}(hi:(id,c)∈s.H)(hfx:C.fix≤id)(hm:Mod (blk (ρ id)) w w'){x:Value}(hx:∀b,blk x=some b->w.heap.size≤b∨blk (ρ id)=some b)(hc:iV (upd ρ id x) F w' id c')(hcf:c'.all (fresh s.m)=true)(hpl:∀b,bks (upd ρ id x) id c' b->blk (upd ρ id x id)=some b:=by exact λ_ e=>e) :
  aG C {L:=sW (kill id) s.L,H:=(id,c')::qp (kill id) (nQ id s.H),m:=s.m} a w' (upd ρ id x) F:=by
 have hρ:∀j,j≠id->upd ρ id x j=ρ j:=λj hj=>by simp [upd,hj]
 have hwF:∀k,F k->w'.heap[k]?=w.heap[k]?:=λk hk=>hm.block k (h.lt k hk) (λe=>h.out id c k hi (aT e.symm) hk)
 have h1:aG C {L:=sW (kill id) s.L,H:=qp (kill id) (nQ id s.H),m:=s.m} a w' (upd ρ id x) F:=by
  refine h.change (kill id) (λu v hu hr=>hr.kill hρ (λ_=>_root_.id) hwF) (λt v hv=>?_) (λi ci hci=>?_) (λ_=>_root_.id) hwF (λk hk=>Nat.lt_of_lt_of_le (h.lt k hk) hm.size) (h.keeps hm (λb e=>h.mine id c b hi (aT e))) (Nat.le_refl _) h.sub (λi hi=>by rw[hρ i (by omega)];exact h.bW.2 i hi)
  ·obtain⟨v0,h2,rfl⟩:=ED hv
   exact⟨⟨v0,h2,Z⟩,Ls (h.aR t v0 h2)⟩
  ·obtain⟨c0,h2,rfl⟩:=vC hci
   obtain⟨h2,hne⟩:=uY h2
   exact⟨⟨c0,h2,Z⟩,Lu (h.aK i c0 h2).2,hρ i hne,λb e=>by rw[nX] at e;exact⟨hm.block b ((h.ch i c0 h2).lt e) (λe2=>h.sep id i c c0 b hi h2 (Ne.symm hne) (aT e2.symm) e),h.out i c0 b h2 e⟩⟩
 refine h1.Wd hc (λb e=>?_) (h.aK id c hi).1 hcf (λb e=>?_)
 rotate_left
 ·have e:=hpl b e
  rw[show upd ρ id x id=x by simp [upd]] at e
  rcases hx b e with h2 | h2
  ·exact .inl (Nat.le_trans h.keep.size h2)
  ·exact h.mine id c b hi (aT h2)
 have e:=hpl b e
 rw[show upd ρ id x id=x by simp [upd]] at e
 refine⟨λhF=>?_,λi ci hci hne e2=>?_⟩
 ·rcases hx b e with h2 | h2
  ·have:=h.lt b hF;omega
  ·exact h.out id c b hi (aT h2) hF
 ·obtain⟨c0,h3,rfl⟩:=vC hci
  obtain⟨h3,_⟩:=uY h3
  rw[jT (hρ i hne),nX] at e2
  rcases hx b e with h2 | h2
  ·have:=(h.ch i c0 h3).lt e2;omega
  ·exact h.sep id i c c0 b hi h3 (Ne.symm hne) (aT h2) e2
end
def cellsOf:V->Option (List V)
 | .agg us=>some us
 | .tup _=>none
 | .g ..=>none
 | v=>some [v]
def asD:V->Option D
 | .d x=>some x
 | .aF=>some (.sl 0 0 λ_=>[])
 | _=>none
def dList:List V->Option (List D)
 | []=>some []
 | v::r=>match asD v with
  | none=>none
  | some d=>match dList r with
   | none=>none
   | some ds=>some (d::ds)
def qw{α:Type}:List α->Nat->List α->Option (List α)
 | us,_,[]=>some us
 | _::us,0,c::cs=>match qw us 0 cs with
  | none=>none
  | some r=>some (c::r)
 | u::us,o+1,cs=>match qw us o cs with
  | none=>none
  | some r=>some (u::r)
 | [],_,_::_=>none
def cK(c:Prop)[Decidable c]:List D->List D->List D
 | a::as,b::bs=>Le c a b::cK c as bs
 | as,bs=>if c then as else bs
theorem jy{c:Prop}[Decidable c](h:c):∀as bs,cK c as bs=as
 | a::as,b::bs=>by simp [cK,vg h,jy h as bs]
 | [],bs=>by simp [cK,h]
 | _::_,[]=>by simp [cK,h]
theorem jA{c:Prop}[Decidable c](h:¬c):∀as bs,cK c as bs=bs
 | a::as,b::bs=>by simp [cK,vo h,jA h as bs]
 | [],bs=>by simp [cK,h]
 | _::_,[]=>by simp [cK,h]
def app(n:Nat)(f h:Nat->List D):Nat->List D:=λk=>cK (k<n) (f k) (h (k-n))
def Bg(f:Nat->List D)(i o:Nat)(ds:List D):Nat->List D:=λk=>match qw (f k) o ds with
 | some l=>cK (k=i) l (f k)
 | none=>f k
def tab:List (List D)->Nat->List D
 | [x]=>λ_=>x
 | xs=>λk=>xs.getD k []
def IB(sz:Nat):List (List D)->List (Nat×List D)->Option (List (List D))
 | xs,[]=>some xs
 | xs,(i,ds)::r=>bif Nat.beq ds.length sz&&Nat.blt i xs.length then IB sz (xs.set i ds) r else none
def evp(L:List (Nat×V)):List (Nat×Operand)->Option (List (Nat×List D))
 | []=>some []
 | (i,x)::r=>match ev L [] x with
  | none=>none
  | some v=>match cellsOf v with
   | none=>none
   | some us=>match dList us with
    | none=>none
    | some ds=>match evp L r with
     | none=>none
     | some q=>some ((i,ds)::q)
def mG(s:St)(d:Nat)(v:V)(c:Ch):St:={L:=put s.L d v,H:=(s.m,c)::s.H,m:=s.m+1}
def big:Nat:=140737488355328
def vD(g:Cfg)(t:TypeId):Option (TypeId×TI):=
 match lk g t with
 | some ti=>match ti.kind with
  | .slice e=>match lk g e with
   | some te=>some (e,te)
   | none=>none
  | _=>none
 | none=>none
def zeroOf(te:TI):List V:=match te.kind with
 | .array n _=>(List.replicate n te.zero).flatten
 | _=>te.zero
def abU(te:TI):Option TypeId:=
 match te.kind,te.zero with
 | .slice e',[.aF]=>some e'
 | _,_=>none
def WA(t:TypeId):List V->Ch
 | [.d .np,.aF]=>.bld t .aF
 | us=>.box us
def abV(g:Cfg)(s:St)(d:Nat)(t t':TypeId)(x y:V):Option (St×List Prop):=
 bif Nat.beq t t' then
  match vD g t with
  | none=>none
  | some (e,te)=>match x with
   | .aF=>match parts s.H y with
    | some (sz,m,h)=>bif Nat.beq sz te.size&&Nat.ble 1 sz then
      some (mG s d (.own s.m) (.vec e sz m h),[m*te.bytes≤big∧m≤big]) else none
    | none=>none
   | .own id=>match get s.H id with
    | some (.vec e' sz n f)=>match y with
     | .aF=>bif Nat.beq e e'&&Nat.beq sz te.size then some ({s with L:=put s.L d (.own id)},[]) else none
     | y=>match parts s.H y with
      | some (sz',m,h)=>bif Nat.beq e e'&&Nat.beq sz te.size&&Nat.beq sz' sz&&Nat.ble 1 sz&&!(names id y)&&Nat.ble g.fix id then
       some ({L:=put (sW (kill id) s.L) d (.own id),H:=(id,.vec e sz (n+m) (app n f h))::qp (kill id) (nQ id s.H),m:=s.m},[(n+m)*te.bytes≤big∧n+m≤big]) else none
      | none=>none
    | _=>none
   | _=>none
 else none
def abW(ds:List D):Nat->List D:=λi=>[ds.getD i (.bool false)]
def stE(g:Cfg)(s:St)(t:TypeId)(p v:V):Option (St×List Prop):=
 match lk g t,cellsOf v with
 | some ti,some cs=>bif Nat.beq cs.length ti.size then
   match p with
   | .ptr id o=>match get s.H id with
    | some (.box us)=>match qw us o cs with
     | some us'=>some ({s with H:=(id,.box us')::nQ id s.H},[])
     | none=>none
    | some (.arr sz n f)=>match dList cs with
     | some ds=>bif Nat.beq o 0&&Nat.beq sz 1&&Nat.beq ds.length n then some ({s with H:=(id,.arr 1 n (abW ds))::nQ id s.H},[]) else none
     | none=>none
    | _=>none
   | .bA id sz i o=>match get s.H id,dList cs with
    | some (.vec e sz' n f),some ds=>bif Nat.beq sz sz' then
      some ({s with H:=(id,.vec e sz n (Bg f i o ds))::nQ id s.H},[i<n∧o+ds.length≤sz]) else none
    | some (.arr sz' n f),some ds=>bif Nat.beq sz sz' then
      some ({s with H:=(id,.arr sz n (Bg f i o ds))::nQ id s.H},[i<n∧o+ds.length≤sz]) else none
    | _,_=>none
   | _=>none
  else none
 | _,_=>none
def is1:V->Bool
 | .tup _ | .g ..=>false
 | _=>true
def tu(k:Key):List (Key×V)->Prop
 | []=>True
 | (a,_)::r=>¬qE k a∧tu k r
def ZH(g:Cfg)(s:St)(t:TypeId)(id:Nat)(kv v:V):Option (St×List Prop):=
 match lk g t,get s.H id with
 | some ti,some (.tbl es)=>match ti.kind with
  | .map kt _=>match lk g kt with
   | some tk=>match keyOf tk.kind kv with
    | some key=>bif is1 v&&mP key es then some ({s with H:=(id,.tbl (es++[(key,v)]))::nQ id s.H},[tu key es]) else none
    | none=>none
   | none=>none
  | _=>none
 | some ti,some (.pos l)=>match ti.kind,kv,v with
  | .map kt _,.d (.str k),.d (.int .i64 n)=>match lk g kt with
   | some tk=>match tk.kind with
    | .str=>some ({s with H:=(id,.pos (l++[k]))::nQ id s.H},[posB l k=false,n=(l.length:Int)])
    | _=>none
   | none=>none
  | _,_,_=>none
 | _,_=>none
def efE(g:Cfg)(s:St)(dst:Option Nat):Op->Option (St×List Prop)
 | .box _ x=>match dst,ev s.L [] x with
  | some d,some v=>match cellsOf v with
    | some us=>bif Nat.blt d g.n then some (mG s d (.ptr s.m 0) (.box us),[]) else none
    | none=>none
  | _,_=>none
 | .alloc t=>match dst,lk g t with
  | some d,some ti=>bif Nat.blt d g.n then match ti.kind with
     | .array n e=>match dList ti.zero,lk g e with
      | some ds,some te=>bif Nat.beq ds.length te.size then some (mG s d (.ptr s.m 0) (.arr te.size n λ_=>ds),[]) else none
      | _,_=>none
     | _=>some (mG s d (.ptr s.m 0) (WA t ti.zero),[])
    else none
  | _,_=>none
 | .store t p x=>match dst,ev s.L [] p,ev s.L [] x with
  | none,some u,some v=>stE g s t u v
  | _,_,_=>none
 | .buildSlice t len ps=>match dst,vD g t,evp s.L ps.toList with
  | some d,some (e,te),some qs=>match dList (zeroOf te) with
    | some zs=>match IB te.size (List.replicate len zs) qs with
     | some xs=>bif Nat.blt d g.n&&Nat.ble (len*te.size) 16777216&&Nat.ble len 16777216&&Nat.beq zs.length te.size then some (mG s d (.own s.m) (.vec e te.size len (tab xs)),[]) else none
     | none=>none
    | none=>none
  | _,_,_=>none
 | .makeSlice t l c=>match dst,vD g t,ev s.L [] l,ev s.L [] c with
  | some d,some (e,te),some (.d (.int _ n)),some (.d (.int _ k))=>match abU te with
   | some e'=>match lk g e' with
    | some te'=>bif Nat.blt d g.n&&Nat.beq te.size 1 then some (mG s d (.own s.m) (.rows e e' te'.size n.toNat none (λ_=>.slice none 0 0) (λ_=>0) λ_ _=>[]),[0≤n∧n≤k∧k.toNat*te.bytes≤big∧k.toNat≤big]) else none
    | none=>none
   | none=>match dList (zeroOf te) with
    | some zs=>bif Nat.blt d g.n&&Nat.beq zs.length te.size then some (mG s d (.own s.m) (.vec e te.size n.toNat λ_=>zs),[0≤n∧n≤k∧k.toNat*te.bytes≤big∧k.toNat≤big]) else none
    | none=>none
  | _,_,_,_=>none
 | .range t x=>match dst,lk g t,ev s.L [] x with
  | some d,some ti,some (.d (.str b))=>match ti.kind with
    | .str=>bif Nat.blt d g.n then some (mG s d (.ptr s.m 0) (.iter b 0),[]) else none
    | _=>none
  | _,_,_=>none
 | .makeMap t none=>match dst with
  | some d=>bif Nat.blt d g.n then some (mG s d (.own s.m) (.tbl []),[]) else none
  | none=>none
 | .insert t m k x=>match dst,ev s.L [] m,ev s.L [] k,ev s.L [] x with
  | none,some (.own id),some kv,some v=>ZH g s t id kv v
  | _,_,_,_=>none
 | .mapUpdate t m k x=>match dst,ev s.L [] m,ev s.L [] k,ev s.L [] x with
  | none,some (.own id),some kv,some v=>ZH g s t id kv v
  | _,_,_,_=>none
 | .call c=>match dst,c.callee with
  | some d,.builtin .append=>match evs s.L [] c.args.toList,c.argTypes.toList with
    | some [x,y],[t,t']=>bif Nat.blt d g.n then abV g s d t t' x y else none
    | _,_=>none
  | _,_=>none
 | _=>none
section
variable{C:Ctx}{s s':St}{a:Act}{w w':World}{ρ:Nat->Value}{F:Nat->Prop}{g:Cfg}
theorem R0.world{F':Nat->Prop}(hF:∀k,F k->F' k)(hw:∀k,F k->w'.heap[k]?=w.heap[k]?){u:V}{v:Value}(h:R0 ρ F w u v):R0 ρ F' w' u v:=by
 cases u with
 | d d=>exact RD.mono hF hw h
 | gG ds=>
  obtain⟨b,o,cs,h1,h2,h3⟩:=h
  refine⟨b,o,cs,h1,hF _ h2,λj d hd=>⟨?_,RD.mono hF hw (h3 j d hd).2⟩⟩
  rw[←(h3 j d hd).1]
  exact World.cell?_of_block (w:=w) (hw b h2)
 | _=>exact h
theorem Bh(v:V):v.all1 (λ_=>true)=true:=by cases v<;>simp [V.all1]
theorem Bj(v:V):v.all2 (λ_=>true)=true:=by
 cases v with
 | agg us=>simp only[V.all2,List.all_eq_true];exact λx _=>Bh x
 | fn f c=>exact Bh (.fn f c)
 | _=>rfl
theorem TG(v:V):v.aQ (λ_=>true)=true:=by
 cases v with
 | tup us=>simp only[V.aQ,List.all_eq_true];exact λx _=>Bj x
 | agg us=>exact Bj (.agg us)
 | fn f c=>exact Bj (.fn f c)
 | _=>rfl
theorem R1.world{F':Nat->Prop}(hF:∀k,F k->F' k)(hw:∀k,F k->w'.heap[k]?=w.heap[k]?){u:V}{v:Value}(h:R1 ρ F w u v):R1 ρ F' w' u v:=by
 have:=R1.map (p:=λ_=>true) (k:=λu=>u) (λu v _ hr=>R0.world hF hw hr) (Bh u) h
 rwa [wS] at this
theorem R3.world{F':Nat->Prop}(hF:∀k,F k->F' k)(hw:∀k,F k->w'.heap[k]?=w.heap[k]?){u:V}{v:Value}(h:R3 ρ F w u v):R3 ρ F' w' u v:=by
 have:=R3.map (p:=λ_=>true) (k:=λu=>u) (λu v _ hr=>R0.world hF hw hr) (TG u) h
 rwa [sZ] at this
theorem aH.mono{α β:Type}{R R':α->β->Prop}:∀{as:List α} {bs:List β},(∀a b,R a b->R' a b)->aH R as bs->aH R' as bs
 | [],[],_,_=>trivial
 | _::_,_::_,h,⟨h1,h2⟩=>⟨h _ _ h1,aH.mono h h2⟩
 | [],_::_,_,h=>h.elim
 | _::_,[],_,h=>h.elim
theorem cO(t:Array Value):pcA t []:=λe he=>by cases he
theorem cells_one{v:Value}(h:v.oneCell'=true):v.cells=#[v]:=by cases v<;>first | rfl | cases h
theorem qZ{v:V}{x:Value}{us:List V}{m:Nat}(h:cellsOf v=some us)(hr:R3 ρ F w v x)(hf:v.aQ (fresh m)=true):aH (R1 ρ F w) us x.cells.toList∧us.all (V.all1 (fresh m))=true:=by
 cases v with
 | agg vs=>
  simp only[cellsOf,afJ] at h
  subst h
  obtain⟨cs,rfl,hc⟩:=(show R2 ρ F w (.agg vs) x from hr)
  exact⟨by simpa [Value.cells] using hc,hf⟩
 | tup _=>simp [cellsOf] at h
 | g _ _=>simp [cellsOf] at h
 | fn f c=>
  simp only[cellsOf,afJ] at h
  subst h
  have h1:R1 ρ F w (.fn f c) x:=hr
  rw[cells_one (R1.one h1)]
  exact⟨⟨h1,tR⟩,by simp only[List.all_cons,List.all_nil,Bool.and_true];exact hf⟩
 | d y=>
  simp only[cellsOf,afJ] at h
  subst h
  have h1:R1 ρ F w (.d y) x:=hr
  rw[cells_one (R1.one h1)]
  exact⟨⟨h1,tR⟩,by simp only[List.all_cons,List.all_nil,Bool.and_true];exact hf⟩
 | aF=>
  simp only[cellsOf,afJ] at h
  subst h
  have h1:R1 ρ F w .aF x:=hr
  rw[cells_one (R1.one h1)]
  exact⟨⟨h1,tR⟩,by simp only[List.all_cons,List.all_nil,Bool.and_true];exact hf⟩
 | ptr y z=>
  simp only[cellsOf,afJ] at h
  subst h
  have h1:R1 ρ F w (.ptr y z) x:=hr
  rw[cells_one (R1.one h1)]
  exact⟨⟨h1,tR⟩,by simp only[List.all_cons,List.all_nil,Bool.and_true];exact hf⟩
 | own y=>
  simp only[cellsOf,afJ] at h
  subst h
  have h1:R1 ρ F w (.own y) x:=hr
  rw[cells_one (R1.one h1)]
  exact⟨⟨h1,tR⟩,by simp only[List.all_cons,List.all_nil,Bool.and_true];exact hf⟩
 | bA y z i j=>
  simp only[cellsOf,afJ] at h
  subst h
  have h1:R1 ρ F w (.bA y z i j) x:=hr
  rw[cells_one (R1.one h1)]
  exact⟨⟨h1,tR⟩,by simp only[List.all_cons,List.all_nil,Bool.and_true];exact hf⟩
 | gG y=>
  simp only[cellsOf,afJ] at h
  subst h
  have h1:R1 ρ F w (.gG y) x:=hr
  rw[cells_one (R1.one h1)]
  exact⟨⟨h1,tR⟩,by simp only[List.all_cons,List.all_nil,Bool.and_true];exact hf⟩
 | dead=>
  simp only[cellsOf,afJ] at h
  subst h
  have h1:R1 ρ F w .dead x:=hr
  rw[cells_one (R1.one h1)]
  exact⟨⟨h1,tR⟩,by simp only[List.all_cons,List.all_nil,Bool.and_true];exact hf⟩
theorem TH{v:V}{d:D}{x:Value}(h:asD v=some d)(hr:R1 ρ F w v x):RD F w d x:=by
 cases v<;>simp only[asD,afJ,reduceCtorEq] at h
 ·subst h;exact hr
 ·subst h;rw[show x=.slice none 0 0 from hr];exact .emp _ _ _ _
theorem lq:∀{us:List V} {ds:List D} {cs:List Value},dList us=some ds->aH (R1 ρ F w) us cs->aH (RD F w) ds cs
 | [],ds,[],h,_=>by simp [dList] at h;subst h;trivial
 | u::us,ds,c::cs,h,⟨h1,h2⟩=>by
  simp only[dList] at h
  split at h
  ·simp at h
  ·rename_i d hd
   split at h
   ·simp at h
   ·rename_i ds' hds
    simp only[afJ] at h
    subst h
    exact⟨TH hd h1,lq hds h2⟩
 | [],_,_::_,_,h=>h.elim
 | _::_,_,[],_,h=>h.elim
theorem rU{α:Type}:∀{us cs r:List α} {o:Nat},qw us o cs=some r->r.length=us.length∧o+cs.length≤max us.length o∧∀k,r[k]?=if o≤k∧k<o+cs.length then cs[k-o]? else us[k]?
 | us,[],r,o,h=>by
  have:r=us:=by cases us<;>simp [qw] at h<;>simp [h]
  subst this
  exact⟨Z,by simp;omega,λk=>by rw[if_neg (by simp only[List.length_nil];omega)]⟩
 | u::us,c::cs,r,0,h=>by
  simp only[qw] at h
  split at h
  ·simp at h
  ·rename_i r' hr'
   simp only[afJ] at h
   subst h
   obtain⟨h1,h2,h3⟩:=rU hr'
   refine⟨by simp [h1],by simp at h2 ⊢;omega,λk=>?_⟩
   cases k with
   | zero=>simp
   | succ k=>
    simp only[List.getElem?_cons_succ,h3 k,List.length_cons,Nat.zero_le,true_and,Nat.sub_zero]
    by_cases hk:k<cs.length
    ·rw[if_pos (by omega),if_pos (by omega)]
    ·rw[if_neg (by omega),if_neg (by omega)]
 | u::us,c::cs,r,o+1,h=>by
  simp only[qw] at h
  split at h
  ·simp at h
  ·rename_i r' hr'
   simp only[afJ] at h
   subst h
   obtain⟨h1,h2,h3⟩:=rU hr'
   refine⟨by simp [h1],by simp at h2 ⊢;omega,λk=>?_⟩
   cases k with
   | zero=>simp
   | succ k=>
    simp only[List.getElem?_cons_succ,h3 k]
    by_cases hk:o≤k∧k<o+(c::cs).length
    ·rw[if_pos hk,if_pos (by omega)];congr 1;omega
    ·rw[if_neg hk,if_neg (by omega)]
 | [],c::cs,r,o,h=>by cases o<;>simp [qw] at h
theorem Bl{α:Type}:∀{us cs:List α} {o:Nat},o+cs.length≤us.length->∃r,qw us o cs=some r
 | us,[],o,_=>⟨us,by cases us<;>rfl⟩
 | u::us,c::cs,0,h=>by
  obtain⟨r,hr⟩:=Bl (us:=us) (cs:=cs) (o:=0) (by simp at h ⊢;omega)
  exact⟨c::r,by simp [qw,hr]⟩
 | u::us,c::cs,o+1,h=>by
  obtain⟨r,hr⟩:=Bl (us:=us) (cs:=c::cs) (o:=o) (by simp at h ⊢;omega)
  exact⟨u::r,by simp [qw,hr]⟩
 | [],c::cs,o,h=>by simp at h
theorem Lv{α:Type}{us cs r:List α}{o:Nat}(h:qw us o cs=some r)(hc:cs≠[]):o+cs.length≤us.length:=by
 have h2:=(rU h).2.1
 have:0<cs.length:=List.length_pos_iff.2 hc
 omega
theorem aH.WB{α β:Type}{R:α->β->Prop}:∀{as:List α} {bs:List β},as.length=bs.length->(∀(i:Nat) (a:α) (b:β),as[i]?=some a->bs[i]?=some b->R a b)->aH R as bs
 | [],[],_,_=>trivial
 | a::as,b::bs,h,hr=>⟨hr 0 a b rfl rfl,aH.WB (by simpa using h) λi a b ha hb=>hr (i+1) a b (by simpa using ha) (by simpa using hb)⟩
 | [],_::_,h,_=>by simp at h
 | _::_,[],h,_=>by simp at h
theorem TJ{α β:Type}{R:α->β->Prop}{us cs us':List α}{xs ys:List β}{o:Nat}(h:qw us o cs=some us')(h1:aH R us xs)(h2:aH R cs ys):aH R us' (xs.take o++ys++xs.drop (o+ys.length)):=by
 obtain⟨l1,l2,l3⟩:=rU h
 have e1:=h1.length
 have e2:=h2.length
 by_cases hc:cs=[]
 ·subst hc
  have:us'=us:=by cases us<;>simp [qw] at h<;>simp [h]
  subst this
  have:ys=[]:=List.eq_nil_of_length_eq_zero (by rw[←e2];rfl)
  subst this
  simpa using h1
 have hle:=Lv h hc
 refine aH.WB (by simp [l1];omega) λi x y hx hy=>?_
 rw[l3 i] at hx
 rw[List.append_assoc] at hy
 by_cases hi:i<o
 ·rw[if_neg (by omega)] at hx
  rw[List.getElem?_append_left (by simp;omega),List.getElem?_take,if_pos hi] at hy
  obtain⟨b,hb,hr⟩:=h1.get hx
  rw[hb] at hy;exact afK hy▸hr
 ·rw[List.getElem?_append_right (by simp;omega)] at hy
  have et:(xs.take o).length=o:=by simp;omega
  rw[et] at hy
  by_cases hi2:i<o+cs.length
  ·rw[if_pos ⟨by omega,hi2⟩] at hx
   rw[List.getElem?_append_left (by omega)] at hy
   obtain⟨b,hb,hr⟩:=h2.get hx
   rw[hb] at hy;exact afK hy▸hr
  ·rw[if_neg (by omega)] at hx
   rw[List.getElem?_append_right (by omega),List.getElem?_drop] at hy
   rw[show o+ys.length+(i-o-ys.length)=i by omega] at hy
   obtain⟨b,hb,hr⟩:=h1.get hx
   rw[hb] at hy;exact afK hy▸hr
theorem WC{us cs us':List V}{o:Nat}{p:V->Bool}(h:qw us o cs=some us')(h1:us.all p=true)(h2:cs.all p=true):us'.all p=true:=by
 rw[List.all_eq_true] at *
 intro x hx
 obtain⟨i,hi⟩:=List.getElem?_of_mem hx
 rw[(rU h).2.2 i] at hi
 split at hi
 ·exact h2 x (List.mem_of_getElem? hi)
 ·exact h1 x (List.mem_of_getElem? hi)
theorem EG{α:Type}{xs ys:List α}{o:Nat}(h:o+ys.length≤xs.length)(p:Nat):(xs.take o++ys++xs.drop (o+ys.length))[p]?=if o≤p∧p<o+ys.length then ys[p-o]? else xs[p]?:=by
 rw[List.append_assoc]
 have et:(xs.take o).length=o:=by simp;omega
 by_cases h1:p<o
 ·rw[if_neg (by omega),List.getElem?_append_left (by omega),List.getElem?_take,if_pos h1]
 ·rw[List.getElem?_append_right (by omega),et]
  by_cases h2:p<o+ys.length
  ·rw[if_pos ⟨by omega,h2⟩,List.getElem?_append_left (by omega)]
  ·rw[if_neg (by omega),List.getElem?_append_right (by omega),List.getElem?_drop]
   congr 1;omega
theorem yw{α:Type}{xs ys:List α}{o:Nat}(h:o+ys.length≤xs.length):(xs.take o++ys++xs.drop (o+ys.length)).length=xs.length:=by
 simp only[List.length_append,List.length_take,List.length_drop];omega
theorem Lx{α:Type}{xs ys:List α}{o N:Nat}(h:o+ys.length≤N)(hN:N≤xs.length):(xs.take o++ys++xs.drop (o+ys.length)).take N=(xs.take N).take o++ys++(xs.take N).drop (o+ys.length):=by
 apply List.ext_getElem?
 intro p
 rw[List.getElem?_take,EG (by omega),EG (by simp;omega),List.getElem?_take]
 by_cases hp:p<N
 ·simp [hp]
 ·rw[if_neg hp,if_neg (by omega),if_neg hp]
theorem aH.one{us:List V}{cs:List Value}(h:aH (R1 ρ F w) us cs):∀c∈cs,c.oneCell'=true:=by
 induction us generalizing cs with
 | nil=>cases cs with
  | nil=>simp
  | cons _ _=>exact h.elim
 | cons u us ih=>
  cases cs with
  | nil=>exact h.elim
  | cons c cs=>
   intro x hx
   rcases List.mem_cons.1 hx with rfl | hx
   ·exact R1.one h.1
   ·exact ih h.2 x hx
theorem wT{P:Program}{t:TypeId}{ti:TI}(hti:ti.OK P t){b o:Nat}{cs:List Value}{T:TypeId}{x:Value}(hx:x.cells.toList.length=ti.size)(h1:∀c∈x.cells.toList,c.oneCell'=true)
  (hh:w.heap[b]?=some (.cells cs.toArray T (0,0))) (hle:o+ti.size≤cs.length) :
  (Instr.storeAt t (.pointer (some ⟨b,o,none⟩)) x).run P w=.ok () (w.setRow b (cs.take o++x.cells.toList++cs.drop (o+x.cells.toList.length)).toArray):=by
 have hsz:x.cells.size=ti.size:=by simpa using hx
 have:=run_storeCells_at P b o T x.cells.toList 0 cs.toArray w hh (by simpa [hsz] using hle) h1
 simp only[Nat.add_zero] at this
 simp only[Instr.storeAt,Instr.sureAddr,storeVar,Sem.run_bind,Sem.run_pure,Result.andThen,run_sizeOf hti,hsz,ne_eq,not_true_eq_false,if_false]
 exact this
theorem tC{b:Nat}{cs:Array Value}(h:b<w.heap.size):Mod (some b) w (w.setRow b cs):=
 ⟨Z,Z,Z,by simp [World.setRow],λk _ hk=>setRow_other w b k cs (λe=>hk (by rw[e]))⟩
theorem IC{sz n i o:Nat}{f:Nat->List D}{xs ys:List Value}{ds:List D}(he:jo F w sz n f xs)(hi:i<n)(ho:o+ds.length≤sz)(hd:aH (RD F w) ds ys)(hxs:n*sz≤xs.length) :
  jo F w sz n (Bg f i o ds) (xs.take (i*sz+o)++ys++xs.drop (i*sz+o+ys.length)):=by
 have elen:=hd.length
 have hisz:i*sz+sz≤n*sz:=by
  have:=Nat.mul_le_mul_right sz (show i+1≤n by omega)
  rwa [Nat.add_mul,Nat.one_mul] at this
 have hget:∀p,(xs.take (i*sz+o)++ys++xs.drop (i*sz+o+ys.length))[p]?=if i*sz+o≤p∧p<i*sz+o+ys.length then ys[p-(i*sz+o)]? else xs[p]?:=by
  intro p
  rw[List.append_assoc]
  have et:(xs.take (i*sz+o)).length=i*sz+o:=by simp;omega
  by_cases h1:p<i*sz+o
  ·rw[if_neg (by omega),List.getElem?_append_left (by omega),List.getElem?_take,if_pos h1]
  ·rw[List.getElem?_append_right (by omega),et]
   by_cases h2:p<i*sz+o+ys.length
   ·rw[if_pos ⟨by omega,h2⟩,List.getElem?_append_left (by omega)]
   ·rw[if_neg (by omega),List.getElem?_append_right (by omega),List.getElem?_drop]
    congr 1;omega
 intro k hk
 obtain⟨h1,h2⟩:=he k hk
 obtain⟨l,hl⟩:=Bl (us:=f k) (cs:=ds) (o:=o) (by rw[h1];exact ho)
 have hp:Bg f i o ds k=cK (k=i) l (f k):=by simp [Bg,hl]
 rw[hp]
 obtain⟨l1,_,l3⟩:=rU hl
 by_cases hki:k=i
 ·subst hki
  rw[jy rfl]
  refine⟨l1.trans h1,λj d hj=>?_⟩
  rw[l3 j] at hj
  rw[hget]
  by_cases hjo:o≤j∧j<o+ds.length
  ·rw[if_pos hjo] at hj
   obtain⟨c,hc,hr⟩:=hd.get hj
   refine⟨c,?_,hr⟩
   rw[if_pos (by omega),←hc]
   congr 1;omega
  ·rw[if_neg hjo] at hj
   obtain⟨c,hc,hr⟩:=h2 j d hj
   refine⟨c,?_,hr⟩
   rw[if_neg (by omega)];exact hc
 ·rw[jA hki]
  refine⟨h1,λj d hj=>?_⟩
  obtain⟨c,hc,hr⟩:=h2 j d hj
  refine⟨c,?_,hr⟩
  have hj':j<sz:=by
   have:=(List.getElem?_eq_some_iff.1 hj).1
   omega
  rw[hget,if_neg ?_]
  ·exact hc
  ·rintro ⟨p1,p2⟩
   rcases Nat.lt_or_gt_of_ne hki with hlt | hgt
   ·have:=Nat.mul_le_mul_right sz (show k+1≤i by omega)
    rw[Nat.add_mul,Nat.one_mul] at this
    omega
   ·have:=Nat.mul_le_mul_right sz (show i+1≤k by omega)
    rw[Nat.add_mul,Nat.one_mul] at this
    omega
theorem WE(hg:bO C.P g.tys)(h:aG C s a w ρ F){t:TypeId}{p v:V}{vp x:Value}{ob:List Prop}(he:stE g s t p v=some (s',ob))(hob:ak ob)(hp:R3 ρ F w p vp)(hv:R3 ρ F w v x)(hvf:v.aQ (fresh s.m)=true) :
  ∃w',(Instr.storeAt t vp x).run C.P w=.ok () w'∧aG C s' a w' ρ F:=by
 unfold stE at he
 split at he
 ·rename_i ti cs hl hcs
  have hti:=bM hg hl
  obtain⟨hall,hfr⟩:=qZ hcs hv hvf
  cases hsz:Nat.beq cs.length ti.size with
  | false=>rw[hsz] at he;simp at he
  | true=>
   rw[hsz] at he
   simp only[cond_true] at he
   have hsz:=afM hsz
   have hxl:x.cells.toList.length=ti.size:=by rw[←hall.length];exact hsz
   split at he
   ·rename_i id o
    split at he
    ·rename_i us hgH
     split at he
     ·rename_i us' hset
      obtain⟨rfl,rfl⟩:=Prod.mk.inj (afK he)
      obtain⟨b,hb,rfl⟩:=(show R0 ρ F w (.ptr id o) vp from hp)
      obtain⟨b',ys,T,hb',hheap,hus⟩:=h.ch id _ (get_mem hgH)
      rw[hb] at hb'
      simp only[Value.pointer.injEq,afJ,Addr.mk.injEq,and_true] at hb'
      subst hb'
      have hblt:b<w.heap.size:=(Array.getElem?_eq_some_iff.1 hheap).1
      by_cases hc0:cs=[]
      ·subst hc0
       have hle:ti.size=0:=by rw[←hsz];rfl
       have hx0:x.cells.toList=[]:=List.eq_nil_of_length_eq_zero (by rw[hxl,hle])
       refine⟨w,?_,?_⟩
       ·have hs0:x.cells.size=0:=by simpa [hle] using hxl
        simp [Instr.storeAt,Instr.sureAddr,storeVar,run_sizeOf hti,hs0,hle,hx0,storeCells]
       ·have:us'=us:=by cases us<;>simp [qw] at hset<;>simp [hset]
        subst this
        exact h.touch (get_mem hgH) ⟨Z,Z,Z,Nat.le_refl _,λ_ _ _=>rfl⟩ ⟨b,ys,T,hb,hheap,hus⟩ (h.aK _ _ (get_mem hgH)).2
      ·have hle:=Lv hset hc0
       refine⟨_,wT hti hxl hall.one hheap (by rw[←hus.length,←hsz];exact hle),?_⟩
       have hm:Mod (blk (ρ id)) w (w.setRow b (ys.take o++x.cells.toList++ys.drop (o+x.cells.toList.length)).toArray):=by rw[hb];exact tC hblt
       have hwF:∀k,F k->(w.setRow b (ys.take o++x.cells.toList++ys.drop (o+x.cells.toList.length)).toArray).heap[k]?=w.heap[k]?:=λk hk=>hm.block k (h.lt k hk) (λe=>h.out id _ k (get_mem hgH) e.symm hk)
       refine h.touch (get_mem hgH) hm ⟨b,_,T,hb,setRow_heap w b _ _ T (0,0) hheap,?_⟩ ?_
       ·simpa using (TJ hset hus hall).mono λu v hr=>hr.world (λ_=>_root_.id) hwF
       ·exact WC hset (h.aK _ _ (get_mem hgH)).2 hfr
     ·simp at he
    ·rename_i sz n f hgH
     split at he
     ·rename_i ds hds
      cases hz:(Nat.beq o 0&&Nat.beq sz 1&&Nat.beq ds.length n) with
      | false=>rw[hz] at he;simp at he
      | true=>
       rw[hz] at he
       simp only[cond_true] at he
       simp only[afF] at hz
       obtain⟨⟨z1,z2⟩,z3⟩:=hz
       have z1:=afM z1
       have z2:=afM z2
       have z3:=afM z3
       subst z1 z2 z3
       obtain⟨rfl,rfl⟩:=Prod.mk.inj (afK he)
       obtain⟨b,hb,rfl⟩:=(show R0 ρ F w (.ptr id 0) vp from hp)
       obtain⟨b',ys,T,hb',hheap,hyl,_⟩:=h.ch id _ (get_mem hgH)
       rw[hb] at hb'
       simp only[Value.pointer.injEq,afJ,Addr.mk.injEq,and_true] at hb'
       subst hb'
       have hblt:b<w.heap.size:=(Array.getElem?_eq_some_iff.1 hheap).1
       have hd:=lq hds hall
       have hdl:=hd.length
       refine⟨_,wT hti hxl hall.one hheap (by omega),?_⟩
       have hrow:ys.take 0++x.cells.toList++ys.drop (0+x.cells.toList.length)=x.cells.toList:=by
        rw[List.take_zero,List.nil_append,List.drop_eq_nil_of_le (by omega),List.append_nil]
       rw[hrow]
       have hm:Mod (blk (ρ id)) w (w.setRow b x.cells.toList.toArray):=by rw[hb];exact tC hblt
       have hwF:∀k,F k->(w.setRow b x.cells.toList.toArray).heap[k]?=w.heap[k]?:=λk hk=>hm.block k (h.lt k hk) (λe=>h.out id _ k (get_mem hgH) e.symm hk)
       refine h.touch (get_mem hgH) hm ⟨b,_,T,hb,setRow_heap w b _ _ T (0,0) hheap,by omega,λi hi=>⟨Z,λj d hj=>?_⟩⟩ Z
       cases j with
       | succ j=>simp [abW] at hj
       | zero=>
        simp only[abW,List.getElem?_cons_zero,afJ] at hj
        have hg:ds[i]?=some d:=by rw[←hj,afE,afG hi];rfl
        obtain⟨c,hc,hr⟩:=hd.get hg
        exact⟨c,by simpa using hc,RD.mono (λ_=>_root_.id) hwF hr⟩
     ·simp at he
    ·simp at he
   ·rename_i id sz i o
    split at he
    ·rename_i e sz' n f ds hgH hds
     cases hz:Nat.beq sz sz' with
     | false=>rw[hz] at he;simp at he
     | true=>
      rw[hz] at he
      simp only[cond_true] at he
      have:=afM hz
      subst this
      obtain⟨rfl,rfl⟩:=Prod.mk.inj (afK he)
      obtain⟨hi,ho⟩:=hob
      obtain⟨b,hb,rfl⟩:=(show R0 ρ F w (.bA id sz i o) vp from hp)
      obtain⟨xs,hown,hel⟩:=h.ch id _ (get_mem hgH)
      have hd:=lq hds hall
      have hdl:ds.length=ti.size:=by rw[hd.length];exact hxl
      have hisz:i*sz+sz≤n*sz:=by
       have:=Nat.mul_le_mul_right sz (show i+1≤n by omega)
       rwa [Nat.add_mul,Nat.one_mul] at this
      rcases hown.2 with⟨h1,h2⟩ | ⟨b',cap,cur,h1,h2,hheap,hnc,hcm,hcs,htk⟩
      ·omega
      ·have hbb:b'=b:=by rw[h1] at hb;simpa [blk] using hb
       subst hbb
       have hcl:cur.toList.length=cur.size:=Array.length_toList
       have hncs:n*sz≤cur.size:=by rw[hcs];exact Nat.mul_le_mul_right _ hnc
       have abX:w.heap[b']?=some (.cells cur.toList.toArray e (0,0)):=by simpa using hheap
       refine⟨_,wT hti hxl hall.one abX (by simp only[Array.length_toList];omega),?_⟩
       have hm:Mod (blk (ρ id)) w (w.setRow b' (cur.toList.take (i*sz+o)++x.cells.toList++cur.toList.drop (i*sz+o+x.cells.toList.length)).toArray):=by
        rw[h1];exact tC (Array.getElem?_eq_some_iff.1 hheap).1
       have hwF:∀k,F k->(w.setRow b' (cur.toList.take (i*sz+o)++x.cells.toList++cur.toList.drop (i*sz+o+x.cells.toList.length)).toArray).heap[k]?=w.heap[k]?:=λk hk=>hm.block k (h.lt k hk) (λe=>h.out id _ k (get_mem hgH) e.symm hk)
       refine h.touch (get_mem hgH) hm ⟨xs.take (i*sz+o)++x.cells.toList++xs.drop (i*sz+o+x.cells.toList.length),⟨?_,.inr ⟨b',cap,_,h1,h2,setRow_heap w b' _ _ e (0,0) hheap,hnc,hcm,?_,?_⟩⟩,?_⟩ Z
       ·rw[yw (by rw[hown.1];omega)];exact hown.1
       ·rw[List.size_toArray,yw (by omega),hcl];exact hcs
       ·rw[←htk,List.toList_toArray]
        exact Lx (by omega) (by omega)
       ·exact IC (hel.keep (λ_=>_root_.id) hwF) hi ho (hd.mono λd v hr=>RD.mono (λ_=>_root_.id) hwF hr) (by rw[hown.1];exact Nat.le_refl _)
    ·rename_i sz' n f ds hgH hds
     cases hz:Nat.beq sz sz' with
     | false=>rw[hz] at he;simp at he
     | true=>
      rw[hz] at he
      simp only[cond_true] at he
      have:=afM hz
      subst this
      obtain⟨rfl,rfl⟩:=Prod.mk.inj (afK he)
      obtain⟨hi,ho⟩:=hob
      obtain⟨b,hb,rfl⟩:=(show R0 ρ F w (.bA id sz i o) vp from hp)
      obtain⟨b',xs,T,h1,hheap,hlen,hel⟩:=h.ch id _ (get_mem hgH)
      have hd:=lq hds hall
      have hdl:ds.length=ti.size:=by rw[hd.length];exact hxl
      have hisz:i*sz+sz≤n*sz:=by
       have:=Nat.mul_le_mul_right sz (show i+1≤n by omega)
       rwa [Nat.add_mul,Nat.one_mul] at this
      have hbb:b'=b:=by rw[h1] at hb;simpa [blk] using hb
      subst hbb
      refine⟨_,wT hti hxl hall.one hheap (by omega),?_⟩
      have hm:Mod (blk (ρ id)) w (w.setRow b' (xs.take (i*sz+o)++x.cells.toList++xs.drop (i*sz+o+x.cells.toList.length)).toArray):=by
       rw[h1];exact tC (Array.getElem?_eq_some_iff.1 hheap).1
      have hwF:∀k,F k->(w.setRow b' (xs.take (i*sz+o)++x.cells.toList++xs.drop (i*sz+o+x.cells.toList.length)).toArray).heap[k]?=w.heap[k]?:=λk hk=>hm.block k (h.lt k hk) (λe=>h.out id _ k (get_mem hgH) e.symm hk)
      refine h.touch (get_mem hgH) hm ⟨b',_,T,h1,setRow_heap w b' _ _ T (0,0) hheap,?_,?_⟩ Z
      ·rw[yw (by rw[hlen];omega)];exact hlen
      ·exact IC (hel.keep (λ_=>_root_.id) hwF) hi ho (hd.mono λd v hr=>RD.mono (λ_=>_root_.id) hwF hr) (by rw[hlen];exact Nat.le_refl _)
    ·simp at he
   ·simp at he
 ·simp at he
end
section
variable{C:Ctx}{s s':St}{a:Act}{w w':World}{ρ:Nat->Value}{F:Nat->Prop}{g:Cfg}
theorem upd_same(ρ:Nat->Value)(i:Nat)(x:Value):upd ρ i x i=x:=by simp [upd]
theorem TL(ρ:Nat->Value){i j:Nat}(x:Value)(h:j≠i):upd ρ i x j=ρ j:=by simp [upd,h]
theorem aG.make(h:aG C s a w ρ F){d:Nat}(hd:d<C.n)(hm:Mod none w w'){x:Value}(hb:∀b,blk x=some b->w.heap.size≤b){c:Ch}(hc:iV (upd ρ s.m x) F w' s.m c)(hcf:c.all (fresh (s.m+1))=true)
  {v:V} (hv:R3 (upd ρ s.m x) F w' v x) (hf:v.aQ (fresh (s.m+1))=true) (hpl:∀b,bks (upd ρ s.m x) s.m c b->blk (upd ρ s.m x s.m)=some b:=by exact λ_ e=>e):Sat C (mG s d v c) (a.put (some d) x) w':=
 ⟨_,_,(h.new hm hb hc hcf hpl).put hd hv hf⟩
theorem R1.new(h:∀k,F k->k<w.heap.size)(hm:Mod none w w'){x:Value}{i:Nat}{u:V}{v:Value}(hf:u.all1 (fresh i)=true)(hr:R1 ρ F w u v):R1 (upd ρ i x) F w' u v:=by
 have:=R1.map (p:=fresh i) (k:=λu=>u) (λu v hu hr=>hr.keep (x:=i) (ρ':=upd ρ i x) (λj hj=>TL ρ x hj) (λ_=>_root_.id) (λk hk=>hm.block k (h k hk) (by simp)) (jw (Nat.le_refl _) hu)) hf hr
 rwa [wS] at this
theorem Rj{v:V}{c:Value}(h:qo v c):R1 ρ F w v c:=by
 cases v with
 | d y=>cases y<;>first | (rw[show c=_ from h];constructor) | exact h.elim
 | aF=>exact h
 | dead=>exact h
 | _=>exact h.elim
theorem O5{v:V}{c:Value}{m:Nat}(h:qo v c):v.all1 (fresh m)=true:=by cases v<;>first | rfl | exact h.elim
theorem Rk{us:List V}{cs:List Value}{m:Nat}(h:aH qo us cs):aH (R1 ρ F w) us cs∧us.all (V.all1 (fresh m))=true:=by
 induction us generalizing cs with
 | nil=>cases cs with
  | nil=>exact⟨tR,rfl⟩
  | cons _ _=>exact h.elim
 | cons u us ih=>cases cs with
  | nil=>exact h.elim
  | cons c cs=>exact⟨⟨Rj h.1,(ih h.2).1⟩,by simp only[List.all_cons,afF];exact⟨O5 h.1,(ih h.2).2⟩⟩
theorem IE(h:aG C s a w ρ F){d:Nat}(hd:d<C.n){x:Value}{us:List V}{T:TypeId}(hus:aH (R1 ρ F w) us x.cells.toList)(hf:us.all (V.all1 (fresh s.m))=true) :
  Sat C (mG s d (.ptr s.m 0) (.box us)) (a.put (some d) (.pointer (some ⟨w.heap.size,0,none⟩))) (w.alloc (.cells x.cells T)):=by
 refine h.make hd (Mod.alloc _ _) (λb hb=>by simp [blk] at hb;omega) (c:=.box us) ⟨w.heap.size,x.cells.toList,T,upd_same _ _ _,by simpa using heap_alloc_new w (.cells x.cells T),?_⟩ ?_ (v:=.ptr s.m 0) ⟨w.heap.size,upd_same _ _ _,Z⟩ ?_
 ·have:=hus.imp (g:=λu=>u) (R':=R1 (upd ρ s.m (.pointer (some ⟨w.heap.size,0,none⟩))) F (w.alloc (.cells x.cells T))) λu c hu hr=>R1.new h.lt (Mod.alloc _ _) ((List.all_eq_true.1 hf) u hu) hr
  simpa using this
 ·simp only[Ch.all,List.all_eq_true] at hf ⊢
  exact λu hu=>oP (λv hv=>cB (Nat.le_succ _) hv) (hf u hu)
 ·show Nat.blt s.m (s.m+1)=true
  simp
theorem Bn:∀{us:List V} {ds:List D},dList us=some ds->us.length=ds.length
 | [],ds,h=>by simp [dList] at h;subst h;rfl
 | u::us,ds,h=>by
  simp only[dList] at h
  split at h
  ·simp at h
  ·split at h
   ·simp at h
   ·rename_i ds' hds'
    simp only[afJ] at h
    subst h
    simp [Bn hds']
theorem LA{P:Program}{t:TypeId}{ti:TI}(hti:ti.OK P t)(w:World):∃z,(zeroValue t).run P w=.ok z w∧z.cells.size=ti.size∧aH qo (match ti.kind with | .array n _=>(List.replicate n ti.zero).flatten | _=>ti.zero) z.cells.toList:=by
 obtain⟨i,z,h1,h2,h3,h4,h5,h6⟩:=hti.info
 exact⟨z,by simp [zeroValue,typeInfo,h1,h4],h5,h6⟩
theorem Bo{us:List V}{ds:List D}(h:dList us=some ds):∀{cs:List Value},aH qo us cs->aH (RD F w) ds cs:=by
 intro cs hc
 exact lq (ρ:=λ_=>undef) h (hc.mono λ_ _=>Rj)
theorem TM{us:List V}{ds:List D}(hds:dList us=some ds)(n:Nat){cs:List Value}(h:aH qo (List.replicate n us).flatten cs) :
  ∀i j dd,i<n->ds[j]?=some dd->j<ds.length->∃c,cs[i*ds.length+j]?=some c∧RD F w dd c:=by
 have hlen:=Bn hds
 induction n generalizing cs with
 | zero=>intro i j dd hi;omega
 | succ n ih=>
  intro i j dd hi hj hlt
  simp only[List.replicate_succ,List.flatten_cons] at h
  have h1:=h.take us.length
  have h2:=h.drop us.length
  simp only[List.take_left',List.drop_left'] at h1 h2
  cases i with
  | zero=>
   obtain⟨c,hc,hr⟩:=(Bo (F:=F) (w:=w) hds h1).get hj
   refine⟨c,?_,hr⟩
   rw[List.getElem?_take] at hc
   simp only[Nat.zero_mul,Nat.zero_add]
   split at hc
   ·exact hc
   ·simp at hc
  | succ i=>
   obtain⟨c,hc,hr⟩:=ih h2 i j dd (by omega) hj hlt
   refine⟨c,?_,hr⟩
   rw[List.getElem?_drop] at hc
   rw[←hc]
   congr 1
   rw[hlen,Nat.add_mul];omega
theorem LB(hg:bO C.P g.tys)(hn:g.n=C.n)(h:aG C s a w ρ F){d:Nat}{t:TypeId}{ti:TI}(hl:lk g t=some ti)(hd:d<C.n){ob:List Prop}
  (he:(match ti.kind with
    | .array n e=>match dList ti.zero,lk g e with
     | some ds,some te=>bif Nat.beq ds.length te.size then some (mG s d (.ptr s.m 0) (.arr te.size n λ_=>ds),[]) else none
     | _,_=>none
    | _=>some (mG s d (.ptr s.m 0) (WA t ti.zero),[]))=some (s',ob)) :
  ∃x w',(Instr.alloc t true (.tuple #[])).run C.P w=.ok x w'∧Sat C s' (a.put (some d) x) w':=by
 obtain⟨z,hz1,hz2,hz3⟩:=LA (bM hg hl) w
 have hrun:(Instr.alloc t true (.tuple #[])).run C.P w=.ok (.pointer (some ⟨w.heap.size,0,none⟩)) (w.alloc (.cells z.cells t)):=by
  simp [Instr.alloc,hz1,newVar,newRow,newObj,Sem.run]
 refine⟨_,_,hrun,?_⟩
 split at he
 ·rename_i n e hk
  split at he
  ·rename_i ds te hds hte
   cases hb:Nat.beq ds.length te.size with
   | false=>rw[hb] at he;simp at he
   | true=>
    rw[hb] at he
    simp only[cond_true] at he
    have hb:=afM hb
    obtain⟨rfl,rfl⟩:=Prod.mk.inj (afK he)
    simp only[hk] at hz3
    refine h.make hd (Mod.alloc _ _) (λb hb=>by simp [blk] at hb;omega) (c:=.arr te.size n λ_=>ds) ⟨w.heap.size,z.cells.toList,t,upd_same _ _ _,by simpa using heap_alloc_new w (.cells z.cells t),?_,?_⟩ Z (v:=.ptr s.m 0) ⟨w.heap.size,upd_same _ _ _,Z⟩ (by show Nat.blt s.m (s.m+1)=true;simp)
    ·have hzl:ti.zero.length=te.size:=(Bn hds).trans hb
     rw[←hz3.length]
     simp [List.length_flatten,hzl]
    ·intro i hi
     refine⟨hb,λj dd hj=>?_⟩
     have hall:=TM (F:=F) (w:=w.alloc (.cells z.cells t)) hds n hz3
     rw[hb] at hall
     exact hall i j dd hi hj (by rw[←hb];exact (List.getElem?_eq_some_iff.1 hj).1)
  ·simp at he
 ·rename_i hk
  obtain⟨rfl,rfl⟩:=Prod.mk.inj (afK he)
  have hz4:aH qo ti.zero z.cells.toList:=by
   revert hz3
   split
   ·rename_i n e hk2;exact (hk n e hk2).elim
   ·exact _root_.id
  unfold WA
  split
  ·rename_i hzz
   rw[hzz] at hz4
   generalize hcc:z.cells.toList=cc at hz4
   match cc,hz4 with
   | [c0,c1],⟨z1,z2,_⟩=>
    have z1:c0=.pointer none:=z1
    have z2:c1=.slice none 0 0:=z2
    subst z1 z2
    have hcl:z.cells=#[.pointer none,.slice none 0 0]:=by rw[←Array.toArray_toList (xs:=z.cells),hcc]
    refine h.make hd (Mod.alloc _ _) (λb hb=>by simp [blk] at hb;omega) (c:=.bld t .aF) ⟨w.heap.size,_,_,upd_same _ _ _,by rw[hcl];exact heap_alloc_new w _,.inl Z,Z⟩ Z (v:=.ptr s.m 0) ⟨w.heap.size,upd_same _ _ _,Z⟩ (by show Nat.blt s.m (s.m+1)=true;simp)
   | [],hz=>exact hz.elim
   | [_],hz=>exact hz.2.elim
   | _::_::_::_,hz=>exact hz.2.2.elim
  ·exact IE h hd (Rk (m:=s.m) hz4).1 (Rk (m:=s.m) (ρ:=ρ) (F:=F) (w:=w) hz4).2
end
section
variable{C:Ctx}{s s':St}{a:Act}{w w':World}{ρ:Nat->Value}{F:Nat->Prop}{g:Cfg}
theorem Rl(off:Nat):∀(l:List Value) (k:Nat) (cs:Array Value),off+k+l.length≤cs.size->
  ((l.zipIdx k).foldl (λ(cs:Array Value) (p:Value×Nat)=>cs.setIfInBounds (off+p.2) p.1) cs).size=cs.size∧
  ∀p,((l.zipIdx k).foldl (λ(cs:Array Value) (p:Value×Nat)=>cs.setIfInBounds (off+p.2) p.1) cs)[p]?=if off+k≤p∧p<off+k+l.length then l[p-(off+k)]? else cs[p]?
 | [],k,cs,h=>by
  refine⟨Z,λp=>?_⟩
  rw[if_neg (by simp only[List.length_nil];omega)]
  rfl
 | c::l,k,cs,h=>by
  obtain⟨h1,h2⟩:=Rl off l (k+1) (cs.setIfInBounds (off+k) c) (by simp at h ⊢;omega)
  simp only[List.zipIdx_cons,List.foldl_cons]
  refine⟨by rw[h1];simp,λp=>?_⟩
  rw[h2 p]
  by_cases hp:p=off+k
  ·subst hp
   rw[if_neg (by omega),if_pos (by simp)]
   have:off+k<cs.size:=by simp at h;omega
   simp [this]
  ·by_cases hp2:off+k≤p∧p<off+k+(c::l).length
   ·rw[if_pos hp2,if_pos (by simp at hp2 ⊢;omega)]
    obtain⟨q,hq⟩:∃q,p-(off+k)=q+1:=⟨p-(off+k)-1,by omega⟩
    rw[hq,List.getElem?_cons_succ]
    congr 1;omega
   ·rw[if_neg hp2,if_neg (by simp at hp2 ⊢;omega)]
    rw[Array.getElem?_setIfInBounds,if_neg (by omega)]
def Rows(F:Nat->Prop)(w:World)(sz:Nat)(xs:List (List D))(cells:Array Value):Prop:=
 cells.size=xs.length*sz∧∀i ds,xs[i]?=some ds->ds.length=sz∧∀j d,ds[j]?=some d->∃c,cells[i*sz+j]?=some c∧RD F w d c
theorem EH{sz:Nat}:∀{qs:List (Nat×List D)} {pv:List (Nat×Value)} {xs xs':List (List D)} {cells:Array Value},IB sz xs qs=some xs'->
  aH (λ(p:Nat×List D) (q:Nat×Value)=>p.1=q.1∧aH (RD F w) p.2 q.2.cells.toList) qs pv->Rows F w sz xs cells->
  ∃cells',Instr.fill (λi=>some (i*sz,sz)) cells pv=some cells'∧Rows F w sz xs' cells'∧xs'.length=xs.length
 | [],[],xs,xs',cells,h,_,hr=>by simp [IB] at h;subst h;exact⟨cells,rfl,hr,rfl⟩
 | (i,ds)::qs,(i',v)::pv,xs,xs',cells,h,⟨⟨h1,h2⟩,h3⟩,hr=>by
  simp only at h1 h2
  subst h1
  simp only[IB] at h
  cases hc:(Nat.beq ds.length sz&&Nat.blt i xs.length) with
  | false=>rw[hc] at h;simp at h
  | true=>
   rw[hc] at h
   simp only[cond_true] at h
   simp only[afF] at hc
   have hds:=afM hc.1
   have hi:i<xs.length:=by simpa using hc.2
   have hvs:v.cells.size=sz:=by have:=h2.length;rw[hds] at this;simpa using this.symm
   have hle:i*sz+sz≤cells.size:=by
    rw[hr.1]
    have:=Nat.mul_le_mul_right sz (show i+1≤xs.length by omega)
    rwa [Nat.add_mul,Nat.one_mul] at this
   obtain⟨g1,g2⟩:=Rl (i*sz) v.cells.toList 0 cells (by simp only[Array.length_toList];omega)
   simp only[Nat.add_zero,Array.length_toList,hvs] at g1 g2
   have adq:v.cells.zipIdx.foldl (λcs (c,j)=>cs.setIfInBounds (i*sz+j) c) cells=(v.cells.toList.zipIdx 0).foldl (λ(cs:Array Value) (p:Value×Nat)=>cs.setIfInBounds (i*sz+p.2) p.1) cells:=by
    rw[←Array.foldl_toList,Array.toList_zipIdx]
   have hr':Rows F w sz (xs.set i ds) (v.cells.zipIdx.foldl (λcs (c,j)=>cs.setIfInBounds (i*sz+j) c) cells):=by
    rw[adq]
    refine⟨by rw[g1,hr.1];simp,λk es hk=>?_⟩
    rw[List.getElem?_set] at hk
    by_cases hki:i=k
    ·subst hki
     simp only[if_true,hi] at hk
     simp only[afJ] at hk
     subst hk
     refine⟨hds,λj d hj=>?_⟩
     obtain⟨c,hc1,hc2⟩:=h2.get hj
     have hj':j<sz:=by rw[←hds];exact (List.getElem?_eq_some_iff.1 hj).1
     refine⟨c,?_,hc2⟩
     rw[g2,if_pos ⟨by omega,by omega⟩,←hc1]
     congr 1;omega
    ·rw[if_neg hki] at hk
     obtain⟨k1,k2⟩:=hr.2 k es hk
     refine⟨k1,λj d hj=>?_⟩
     obtain⟨c,hc1,hc2⟩:=k2 j d hj
     have hj':j<sz:=by rw[←k1];exact (List.getElem?_eq_some_iff.1 hj).1
     refine⟨c,?_,hc2⟩
     rw[g2,if_neg ?_]
     ·exact hc1
     ·rintro ⟨p1,p2⟩
      rcases Nat.lt_or_gt_of_ne hki with hlt | hgt
      ·have:=Nat.mul_le_mul_right sz (show i+1≤k by omega)
       rw[Nat.add_mul,Nat.one_mul] at this
       omega
      ·have:=Nat.mul_le_mul_right sz (show k+1≤i by omega)
       rw[Nat.add_mul,Nat.one_mul] at this
       omega
   obtain⟨c',e1,e2,e3⟩:=EH h h3 hr'
   refine⟨c',?_,e2,by rw[e3];simp⟩
   simp only[Instr.fill,hvs]
   rw[if_neg (by simp;omega)]
   exact e1
 | [],_::_,_,_,_,_,h,_=>h.elim
 | _::_,[],_,_,_,_,h,_=>h.elim
theorem IG(h:aG C s a w ρ F):∀{ps:List (Nat×Operand)} {qs:List (Nat×List D)},evp s.L ps=some qs->
  aH (λ(p:Nat×List D) (q:Nat×Value)=>p.1=q.1∧aH (RD F w) p.2 q.2.cells.toList) qs (ps.map λ(i,x)=>(i,a.eval x))
 | [],qs,he=>by simp [evp] at he;subst he;trivial
 | (i,x)::ps,qs,he=>by
  simp only[evp] at he
  split at he
  ·simp at he
  ·rename_i v hv
   split at he
   ·simp at he
   ·rename_i us hus
    split at he
    ·simp at he
    ·rename_i ds hds
     split at he
     ·simp at he
     ·rename_i q hq
      simp only[afJ] at he
      subst he
      obtain⟨h1,h2⟩:=aC h (cO _) hv
      exact⟨⟨Z,lq hds (qZ hus h1 h2).1⟩,IG h hq⟩
theorem ZI(xs:List (List D)){i:Nat}(hi:i<xs.length):xs[i]?=some (tab xs i):=by
 unfold tab
 split
 ·rename_i x;simp at hi;subst hi;rfl
 ·simp [afG hi]
theorem O6{sz:Nat}{xs:List (List D)}{cells:Array Value}(h:Rows F w sz xs cells):jo F w sz xs.length (tab xs) cells.toList:=by
 intro i hi
 obtain⟨h1,h2⟩:=h.2 i _ (ZI xs hi)
 exact⟨h1,λj d hj=>let ⟨c,e1,e2⟩:=h2 j d hj;⟨c,by simpa using e1,e2⟩⟩
theorem nY{P:Program}(hg:bO P g.tys){t e:TypeId}{te:TI}(h:vD g t=some (e,te)):P.underlying t=some (.slice e)∧te.OK P e∧∀w,∃z,(zeroValue e).run P w=.ok z w∧z.cells.size=te.size∧aH qo (zeroOf te) z.cells.toList:=by
 unfold vD at h
 split at h
 ·rename_i ti hl
  split at h
  ·rename_i e' hk
   split at h
   ·rename_i te' hte
    simp only[afJ,afO] at h
    obtain⟨rfl,rfl⟩:=h
    have:=(bM hg hl).und
    rw[hk] at this
    refine⟨this,bM hg hte,λw=>?_⟩
    obtain⟨z,hz1,hz2,hz3⟩:=LA (bM hg hte) w
    exact⟨z,hz1,hz2,hz3⟩
   ·simp at h
  ·simp at h
 ·simp at h
theorem aG.row(h:aG C s a w ρ F){d:Nat}(hd:d<C.n)(hm:Mod none w w'){x:Value}{e:TypeId}{sz n:Nat}{f:Nat->List D}{xs:List Value}(hb:∀b,blk x=some b->w.heap.size≤b)
  (hx:∃ad l c,x=.slice ad l c) (hown:w'.ownsRow 0 e sz x n xs) (hel:jo F w' sz n f xs):Sat C (mG s d (.own s.m) (.vec e sz n f)) (a.put (some d) x) w':=
 h.make hd hm hb (c:=.vec e sz n f) ⟨xs,by rw[upd_same];exact hown,hel⟩ Z (v:=.own s.m) ⟨(upd_same ρ s.m x).symm,by rw[upd_same];exact (.inl hx)⟩ (by show Nat.blt s.m (s.m+1)=true;simp)
theorem EJ{zs:List D}{z:Array Value}{sz n:Nat}(hz:aH (RD F w) zs z.toList)(hsz:z.size=sz)(cells:Array Value)(hc:cells.size=n*sz)(hcell:∀k,k<n*sz->cells[k]?=z[k%sz]?):Rows F w sz (List.replicate n zs) cells:=by
 have hl:zs.length=sz:=by rw[hz.length];simpa using hsz
 refine⟨by simpa using hc,λi ds hi=>?_⟩
 rw[List.getElem?_replicate] at hi
 split at hi
 ·rename_i hin
  simp only[afJ] at hi
  subst hi
  refine⟨hl,λj d hj=>?_⟩
  have hj':j<sz:=by rw[←hl];exact (List.getElem?_eq_some_iff.1 hj).1
  obtain⟨c,h1,h2⟩:=hz.get hj
  refine⟨c,?_,h2⟩
  have hlt:i*sz+j<n*sz:=by
   have:=Nat.mul_le_mul_right sz (show i+1≤n by omega)
   rw[Nat.add_mul,Nat.one_mul] at this
   omega
  rw[hcell _ hlt,Nat.mul_comm,Nat.mul_add_mod,Nat.mod_eq_of_lt hj',←h1]
  simp
 ·simp at hi
theorem WG(hg:bO C.P g.tys)(h:aG C s a w ρ F){d:Nat}(hd:d<C.n){t:TypeId}{e:TypeId}{te:TI}(hs:vD g t=some (e,te)){len:Nat}{ps:Array (Nat×Operand)}{qs:List (Nat×List D)}(hq:evp s.L ps.toList=some qs)
  {zs:List D} (hzs:dList (zeroOf te)=some zs) {xs:List (List D)} (hf:IB te.size (List.replicate len zs) qs=some xs) (hbig:len*te.size≤16777216) (hlen:len≤16777216) (hzl:zs.length=te.size) :
  ∃x w',(Instr.buildSlice t len (ps.map λ(i,x)=>(i,a.eval x))).run C.P w=.ok x w'∧Sat C (mG s d (.own s.m) (.vec e te.size len (tab xs))) (a.put (some d) x) w':=by
 obtain⟨hu,hte,hz⟩:=nY hg hs
 obtain⟨z,hz1,hz2,hz3⟩:=hz w
 have hz4:aH (RD F w) zs z.cells.toList:=Bo hzs hz3
 obtain⟨zero,hzero,hrows⟩:∃zero:Array Value,((len*te.size=0->zero=#[])∧(¬len*te.size=0->zero=z.cells))∧Rows F w te.size (List.replicate len zs) ((Array.range (len*te.size)).map (zero[· % zero.size]!)):=by
  by_cases h0:len*te.size=0
  ·refine⟨#[],⟨λ_=>rfl,λh=>(h h0).elim⟩,by simp [h0],λi ds hi=>?_⟩
   rw[List.getElem?_replicate] at hi
   split at hi
   ·rename_i hin
    simp only[afJ] at hi
    subst hi
    refine⟨hzl,λj d hj=>?_⟩
    have:=(List.getElem?_eq_some_iff.1 hj).1
    rcases Nat.mul_eq_zero.1 h0 with h0 | h0<;>omega
   ·simp at hi
  ·refine⟨z.cells,⟨λh=>(h0 h).elim,λ_=>rfl⟩,EJ hz4 hz2 _ (by simp) (λk hk=>?_)⟩
   have hpos:0<te.size:=Nat.pos_of_ne_zero λe=>h0 (by rw[e];rfl)
   have hlt:k%te.size<z.cells.size:=by rw[hz2];exact Nat.mod_lt _ hpos
   rw[Array.getElem?_map,Array.getElem?_range,if_pos hk,getElem?_pos z.cells _ hlt]
   simp only[Option.map_some,hz2]
   rw[getElem!_pos z.cells _ hlt]
 obtain⟨cells',hf1,hf2,hf3⟩:=EH hf (IG h hq) hrows
 have hxl:xs.length=len:=by rw[hf3];simp
 have hnb:¬len*te.size > 2 ^ 24:=by omega
 refine⟨.slice (some ⟨w.heap.size,0,none⟩) len len,w.alloc (.cells cells' e),?_,?_⟩
 ·simp only[Instr.buildSlice,Sem.run_bind,aO hu,Result.andThen,run_sizeOf hte,hnb,if_false]
  by_cases h0:len*te.size=0
  ·obtain rfl:=hzero.1 h0
   simp only[h0,if_true,Sem.run_bind,Sem.run_pure,Result.andThen]
   rw[h0] at hf1
   simp only[Array.toList_map,hf1]
   simp [newRow,newObj,Sem.run]
  ·obtain rfl:=hzero.2 h0
   simp only[h0,if_false,Sem.run_bind,hz1,Sem.run_pure,Result.andThen]
   simp only[Array.toList_map,hf1]
   simp [newRow,newObj,Sem.run]
 ·subst hxl
  refine h.row hd (Mod.alloc _ _) (λb hb=>by simp [blk] at hb;omega) ⟨_,_,_,Z⟩ (World.ownsRow_lit w cells' xs.length (Nat.zero_le _) (by simp only[maxLen];omega) hf2.1) ?_
  exact (O6 hf2).keep (λ_=>_root_.id) (λk hk=>(Mod.alloc w _).block k (h.lt k hk) (by simp))
theorem WH(hg:bO C.P g.tys)(h:aG C s a w ρ F){d:Nat}(hd:d<C.n){t:TypeId}{e:TypeId}{te:TI}(hs:vD g t=some (e,te)){zs:List D}(hzs:dList (zeroOf te)=some zs)(hzl:zs.length=te.size){kl kc:IntKind}{l c:Int}
  (h0:0≤l) (h1:l≤c) (h2:c.toNat*te.bytes≤big) (h3:c.toNat≤big) :
  ∃x w',(Instr.makeSlice t (.int kl l) (.int kc c)).run C.P w=.ok x w'∧Sat C (mG s d (.own s.m) (.vec e te.size l.toNat λ_=>zs)) (a.put (some d) x) w':=by
 obtain⟨hu,hte,hz⟩:=nY hg hs
 obtain⟨z,hz1,hz2,hz3⟩:=hz w
 obtain⟨i,z',i1,i2,i3,i4,i5,i6⟩:=hte.info
 have hzz:z'=z:=by
  have:(zeroValue e).run C.P w=.ok z' w:=by simp [zeroValue,typeInfo,i1,i4]
  rw[this] at hz1
  simpa using hz1
 subst hzz
 unfold big at h2 h3
 have hb:(i.bytes:Int)*c≤281474976710656:=by
  rw[i3]
  have e1:c=((c.toNat:Nat):Int):=by omega
  rw[e1,Int.mul_comm]
  have:((c.toNat*te.bytes:Nat):Int)≤281474976710656:=by omega
  rw[Int.natCast_mul] at this
  exact this
 have hr:=run_make (P:=C.P) w t e i z' hu i1 i4 kl kc l c h0 h1 hb (by omega)
 refine⟨_,_,hr,?_⟩
 have hmc:∀k,k<c.toNat*te.size->(madeCells z'.cells (c.toNat*te.size))[k]?=z'.cells[k%te.size]?:=by
  intro k hk
  have hpos:0<te.size:=by
   rcases Nat.eq_zero_or_pos te.size with e0 | hp
   ·rw[e0] at hk;omega
   ·exact hp
  have hlt:k%te.size<z'.cells.size:=by rw[i5];exact Nat.mod_lt _ hpos
  simp only[madeCells]
  rw[Array.getElem?_map,Array.getElem?_range,if_pos hk,getElem?_pos z'.cells _ hlt]
  simp only[Option.map_some,i5]
  rw[getElem!_pos z'.cells _ hlt]
 have hsize:(madeCells z'.cells (c.toNat*te.size)).size=c.toNat*te.size:=by
  simp [madeCells]
 have hz4:aH (RD F w) zs z'.cells.toList:=Bo hzs hz3
 have hrows:=EJ (n:=c.toNat) hz4 i5 (madeCells z'.cells (c.toNat*te.size)) hsize hmc
 rw[i2]
 have hle:l.toNat≤c.toNat:=by omega
 have hle2:l.toNat*te.size≤c.toNat*te.size:=Nat.mul_le_mul_right _ hle
 refine h.row (xs:=((madeCells z'.cells (c.toNat*te.size)).toList.take (l.toNat*te.size))) hd (Mod.alloc _ _) (λb hb=>by simp [blk] at hb;omega) ⟨_,_,_,Z⟩ ⟨?_,.inr ⟨w.heap.size,c.toNat,_,Z,Nat.zero_le _,heap_alloc_new w _,hle,by simp only[maxLen];omega,hsize,Z⟩⟩ ?_
 ·rw[List.length_take,Array.length_toList,hsize];omega
 ·intro k hk
  have hk2:(List.replicate c.toNat zs)[k]?=some zs:=by rw[List.getElem?_replicate,if_pos (by omega)]
  obtain⟨r1,r2⟩:=hrows.2 k zs hk2
  refine⟨r1,λj dd hj=>?_⟩
  obtain⟨cc,c1,c2⟩:=r2 j dd hj
  have hj':j<te.size:=by rw[←r1];exact (List.getElem?_eq_some_iff.1 hj).1
  refine⟨cc,?_,RD.mono (λ_=>_root_.id) (λk hk=>(Mod.alloc w _).block k (h.lt k hk) (by simp)) c2⟩
  have hlt:k*te.size+j<l.toNat*te.size:=by
   have:=Nat.mul_le_mul_right te.size (show k+1≤l.toNat by omega)
   rw[Nat.add_mul,Nat.one_mul] at this
   omega
  rw[List.getElem?_take,if_pos hlt]
  simpa using c1
theorem ZJ(hg:bO C.P g.tys)(h:aG C s a w ρ F){d:Nat}(hd:d<C.n){t:TypeId}{e e':TypeId}{te:TI}(sz:Nat)(hs:vD g t=some (e,te))(hsl:abU te=some e')(hzl:te.size=1){kl kc:IntKind}{l c:Int}
  (h0:0≤l) (h1:l≤c) (h2:c.toNat*te.bytes≤big) (h3:c.toNat≤big) :
  ∃x w',(Instr.makeSlice t (.int kl l) (.int kc c)).run C.P w=.ok x w'∧Sat C (mG s d (.own s.m) (.rows e e' sz l.toNat none (λ_=>.slice none 0 0) (λ_=>0) λ_ _=>[])) (a.put (some d) x) w':=by
 obtain⟨hu,hte,hz⟩:=nY hg hs
 obtain⟨z,hz1,hz2,hz3⟩:=hz w
 obtain⟨i,z',i1,i2,i3,i4,i5,i6⟩:=hte.info
 have hzz:z'=z:=by
  have:(zeroValue e).run C.P w=.ok z' w:=by simp [zeroValue,typeInfo,i1,i4]
  rw[this] at hz1
  simpa using hz1
 subst hzz
 unfold big at h2 h3
 have hb:(i.bytes:Int)*c≤281474976710656:=by
  rw[i3]
  have e1:c=((c.toNat:Nat):Int):=by omega
  rw[e1,Int.mul_comm]
  have:((c.toNat*te.bytes:Nat):Int)≤281474976710656:=by omega
  rw[Int.natCast_mul] at this
  exact this
 have hr:=run_make (P:=C.P) w t e i z' hu i1 i4 kl kc l c h0 h1 hb (by omega)
 refine⟨_,_,hr,?_⟩
 have hnil:z'.cells.toList=[.slice none 0 0]:=by
  unfold abU at hsl
  split at hsl
  ·rename_i hk0 hz0
   rw[hk0,hz0] at i6
   match hcs:z'.cells.toList,i6 with
   | [x],i6=>rw[show x=_ from i6.1]
   | [],i6=>exact i6.elim
   | _::_::_,i6=>exact i6.2.elim
  ·cases hsl
 have hcell:∀k,k<c.toNat*te.size->(madeCells z'.cells (c.toNat*te.size))[k]?=some (.slice none 0 0):=by
  intro k hk
  simp only[madeCells]
  rw[Array.getElem?_map,Array.getElem?_range,if_pos hk]
  have h0c:z'.cells=#[.slice none 0 0]:=by rw[←Array.toArray_toList (xs:=z'.cells),hnil]
  simp only[Option.map_some,h0c]
  simp [Nat.mod_one]
 have hsize:(madeCells z'.cells (c.toNat*te.size)).size=c.toNat*te.size:=by
  simp [madeCells]
 rw[i2]
 have hle:l.toNat≤c.toNat:=by omega
 have hle2:l.toNat*te.size≤c.toNat*te.size:=Nat.mul_le_mul_right _ hle
 have hbk:∀b,blk (.slice (some ⟨w.heap.size,0,none⟩) l.toNat c.toNat)=some b->w.heap.size≤b:=λb hb=>by simp [blk] at hb;omega
 refine h.make hd (Mod.alloc _ _) hbk (c:=.rows e e' sz l.toNat none (λ_=>.slice none 0 0) (λ_=>0) λ_ _=>[]) ⟨((madeCells z'.cells (c.toNat*te.size)).toList.take (l.toNat*te.size)),?_,λi hi _=>⟨?_,[],⟨by simp,.inl ⟨Z,Z⟩⟩,λk hk=>absurd hk (afN _)⟩,λi b _ _ hb=>by simp [blk] at hb,λi j b _ _ _ _ _ hb=>by simp [blk] at hb⟩ Z (v:=.own s.m) ⟨(upd_same ρ s.m _).symm,by rw[upd_same];exact .inl ⟨_,_,_,Z⟩⟩ (by show Nat.blt s.m (s.m+1)=true;simp) ?_
 ·rw[upd_same]
  refine⟨?_,.inr ⟨w.heap.size,c.toNat,_,Z,Nat.zero_le _,heap_alloc_new w _,hle,by simp only[maxLen];omega,by rw[hsize,hzl],by rw[hzl]⟩⟩
  rw[List.length_take,Array.length_toList,hsize,hzl];omega
 ·rw[List.getElem?_take,if_pos (by rw[hzl];omega)]
  have:=hcell i (by rw[hzl];omega)
  simpa using this
 ·intro b hb
  rcases hb with hb | ⟨k,_,_,hb⟩
  ·exact hb
  ·simp [blk] at hb
end
end Go.Sx
