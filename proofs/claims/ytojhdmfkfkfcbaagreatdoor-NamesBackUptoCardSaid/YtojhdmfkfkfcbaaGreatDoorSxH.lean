import Derived.Test.YtojhdmfkfkfcbaaGreatDoorSxG
import Derived.RangeFuncSeq
import Derived.Shelf.SlicesE.Clone
set_option linter.unusedSimpArgs false
set_option linter.unusedVariables false
namespace Go.Sx
def SL(Φ:Exit->St->Prop):Prop:=∀s,¬Φ .outgrown s
theorem Az{C:Ctx}{Q:Exit->Act->World->Prop}(hQ:∀a w,¬Q .outgrown a w):∀(K:List Item) (a:Act) (w:World),¬den C Q K .outgrown a w
 | [],a,w,h=>hQ a w h
 | .code _::K,a,w,h=>Az hQ K a w h
 | .ops _ _::K,a,w,h=>Az hQ K a w h
 | .blk _::K,a,w,h=>Az hQ K a w h
 | .back _::K,a,w,h=>Az hQ K a w h
theorem JA{C:Ctx}{Φ:Exit->St->Prop}(h:SL Φ)(K:List Item):¬LetsOut (den C (gP C Φ) K):=λ⟨a,w,hd⟩=>Az (λa w ⟨s,_,hs⟩=>h s hs) K a w hd
namespace Cr
variable{P:Pg}{g:Cfg}{C:Ctx}(x:Cr P g C){s s':St}{K K':List Item}{Φ:Exit->St->Prop}{ob:List Prop}
include x
theorem Yg{id:Nat}{ops:Array Oper}(h:run g 1000 K s []=.code ob (.region id ops true) K' s')(ho:ak ob)(hm:P.P.follows .mixedOrders=true)(hB:(Region.lexB .any ops&&EM ops)=true)(hΦ:SL Φ)
  (k:QGo C ops ops.toList s' K' Φ):Go C K s Φ:=by
 refine st x.ty x.n x.fix h ⟨ho,?_⟩
 rintro a w ⟨ρ,F,hs⟩
 simp only[agN] at hB
 obtain⟨hB,hnd⟩:=hB
 simp only[Region.lexB,agN] at hB
 refine yN (x.rY.symm▸hm) hnd (JA hΦ K') ?_
 refine wpAny_of_quiet (C:=Mod none w) (Q:=λa'=>∀w',Mod none w w'->den C (gP C Φ) K' .normal a' w') (λ_ w' hw' h=>h w' hw') _ _ _ _ (⟨Z,Z,Z,Nat.le_refl _,λ_ _ _=>rfl⟩:Mod none w {w with drawn:=w.drawn+1}) ?_
 have:=wpAnyQ_lex (C:=Mod none w) (md:=.any) hB.1 ops.toList 0 (Array.replicate ops.size false) a (by simp) (by simpa using hB.2) (k a w ρ F hs)
 simpa using this
theorem aeK(A B T:List Nat){id:Nat}{ops:Array Oper}(h:run g 1000 K s []=.code ob (.region id ops true) K' s')(ho:ak ob)(hm:P.P.follows .mixedOrders=true)(hB:(Mx .any ops A B T&&EM ops)=true)(hΦ:NoPanic Φ)(hΦ':SL Φ)
  (k:QGo C ops (aW ops.toList (mY A B)) s' (.ops ops (aW ops.toList T)::K') Φ):Go C K s Φ:=by
 refine st x.ty x.n x.fix h ⟨ho,?_⟩
 rintro a w ⟨ρ,F,hs⟩
 simp only[agN] at hB
 obtain⟨hB,hnd⟩:=hB
 have hd:Mod none w {w with drawn:=w.drawn+1}:=⟨Z,Z,Z,Nat.le_refl _,λ_ _ _=>rfl⟩
 have hpk:aW ops.toList (mY A B)=aW ops.toList A++aW ops.toList B:=by
  rw[uh]
  clear k hB
  induction A with
  | nil=>rfl
  | cons i r ih=>
   simp only[List.cons_append,aW]
   split<;>simp [ih]
 rw[hpk] at k
 exact yN (x.rY.symm▸hm) hnd (JA hΦ' K') (F5 (C:=Mod none w) hB (oZ (λc a w ⟨s,_,hh⟩=>hΦ c s hh) K') hd (oC (λa h w' hw'=>(h w' hw').1) (k a w ρ F hs)))
end Cr
def plainO:Obj->Bool
 | .loop _=>false
 | .deferred _=>false
 | _=>true
section
variable{C:Ctx}{s:St}{a:Act}{w w':World}{ρ:Nat->Value}{F:Nat->Prop}{g:Cfg}
theorem jf.obj{id:Nat}{c:Ch}(h:jf ρ F w id c){b:Nat}(hb:bks ρ id c b):∃o,w.heap[b]?=some o∧plainO o=true:=by
 have own:∀{e:TypeId} {sz n:Nat} {v:Value} {xs:List Value},w.ownsRow 0 e sz v n xs->blk v=some b->∃o,w.heap[b]?=some o∧plainO o=true:=λh1 hb=>by
  rcases h1.2 with⟨h2,_⟩ | ⟨g,cap,cur,h2,_,h4,_⟩
  ·rw[h2] at hb;simp [blk] at hb
  ·rw[h2] at hb;simp [blk] at hb;subst hb;exact⟨_,h4,rfl⟩
 cases c with
 | box us=>obtain⟨b',cs,T,h1,h2,_⟩:=h;change blk (ρ id)=some b at hb;rw[h1] at hb;simp [blk] at hb;subst hb;exact⟨_,h2,rfl⟩
 | arr sz n f=>obtain⟨b',cs,T,h1,h2,_⟩:=h;change blk (ρ id)=some b at hb;rw[h1] at hb;simp [blk] at hb;subst hb;exact⟨_,h2,rfl⟩
 | iter s pos=>obtain⟨b',h1,h2⟩:=h;change blk (ρ id)=some b at hb;rw[h1] at hb;simp [blk] at hb;subst hb;exact⟨_,h2,rfl⟩
 | bld T u=>obtain⟨b',p,x,h1,h2,_⟩:=h;change blk (ρ id)=some b at hb;rw[h1] at hb;simp [blk] at hb;subst hb;exact⟨_,h2,rfl⟩
 | pos l=>obtain⟨b',arr,clock,h1,h2,_⟩:=h;change blk (ρ id)=some b at hb;rw[h1] at hb;simp [blk] at hb;subst hb;exact⟨_,h2,rfl⟩
 | tbl es=>obtain⟨b',arr,clock,h1,h2,_⟩:=h;change blk (ρ id)=some b at hb;rw[h1] at hb;simp [blk] at hb;subst hb;exact⟨_,h2,rfl⟩
 | vec e sz n f=>
  obtain⟨xs,h1,_⟩:=h
  exact own h1 hb
 | rows e e' sz n hole hs m f=>
  obtain⟨xs,h1,h2,_⟩:=h
  rcases hb with hb | ⟨k,hk,hh,hb⟩
  ·exact own h1 hb
  ·obtain⟨_,ys,h3,_⟩:=h2 k hk hh
   exact own h3 hb
 | held e e' sz n i u hs m f=>
  obtain⟨xs,h1,_,h2,_⟩:=h
  rcases hb with hb | ⟨k,hk,hh,hb⟩
  ·exact own h1 hb
  ·obtain⟨_,ys,h3,_⟩:=h2 k hk hh
   exact own h3 hb
def xO(ρ:Nat->Value)(H:List (Nat×Ch)):Nat->Prop:=λb=>∃i c,(i,c)∈H∧bks ρ i c b
def Ctx.inR(C:Ctx)(l fx:Nat)(s:St)(w:World)(ρ:Nat->Value)(F:Nat->Prop):Ctx:=
 {C with w0:=w,E:=xO ρ s.H,F0:=F,ρ0:=ρ,fix:=fx,defs:=[],rd:=some l,mks:=false}
theorem aF.Yh(h:aF C s a w ρ F)(l:Nat){fx:Nat}(hfx:fx≤s.m){L':List (Nat×V)}{a':Act}(hn:a'.tmps.size=C.n)(hd:a'.defers=[])(hs:∀t v,(t,v)∈L'->∃x,a'.tmps[t]?=some x∧RS a'.tmps ρ F w v x)(hf:∀t v,(t,v)∈L'->v.q9 (fresh s.m)=true) :
  aF (C.inR l fx s w ρ F) ⟨L',s.H,s.m⟩ a' w ρ F where
 size:=hn
 defers:=.start hd
 slot:=hs
 ch:=h.ch
 sep:=h.sep
 out:=h.out
 aR:=hf
 aK:=h.aK
 lt:=h.lt
 mine i c b hi e:=.inr ⟨i,c,hi,e⟩
 sub k hk:=.inl hk
 base k hk:=hk
 cu:=⟨hfx,λ_ _=>rfl⟩
 keep:=⟨Z,Z,Z,Nat.le_refl _,λ_ _ _=>rfl⟩
 env:=h.env
theorem aF.Yi(h:aF C s a w ρ F){l fx:Nat}(hfx:C.fix≤fx)(hL:∀t v,(t,v)∈s.L->v.q9 (fresh fx)=true){s1:St}{a1:Act}{w1:World}{ρ1:Nat->Value}{F1:Nat->Prop}(h1:aF (C.inR l fx s w ρ F) s1 a1 w1 ρ1 F1) :
  aF C ⟨s.L,s1.H,s1.m⟩ a w1 ρ1 F1:=by
 have hm:fx≤s1.m:=h1.cu.1
 have hρ:∀i,i<fx->ρ1 i=ρ i:=h1.cu.2
 have hE:∀b,xO ρ s.H b->C.w0.heap.size≤b∨C.E b:=λb ⟨i,c,hi,e⟩=>h.mine i c b hi e
 have hFw:∀k,F k->w1.heap[k]?=w.heap[k]?:=λk hk=>h1.keep.block k (h.lt k hk) λ⟨i,c,hi,e⟩=>h.out i c k hi e hk
 have hk0:∀(u:V) (v:Value),fresh fx u=true->R0 ρ F w u v->R0 ρ1 F1 w1 u v:=λu v hu hr=>by
  have:=R0.bB (xs:=[]) (m:=fx) (ρ':=ρ1) (F':=F1) (w':=w1) (λi hi _=>hρ i hi) (λk hk=>h1.base k hk) hFw hu hr
  rwa [show bB [] u=u by cases u<;>rfl] at this
 have h3:∀(u:V) (v:Value),u.aQ (fresh fx)=true->R3 ρ F w u v->R3 ρ1 F1 w1 u v:=λu v hu hr=>by
  have:=R3.map (k:=λu=>u) hk0 hu hr
  rwa [tJ] at this
 exact
  {
   size:=h.size,defers:=h.defers.mono h1.base hFw,ch:=h1.ch,sep:=h1.sep,out:=h1.out,aK:=h1.aK,lt:=h1.lt,env:=h1.env
   slot:=λt v hv=>by
    obtain⟨x,hx,hr⟩:=h.slot t v hv
    refine⟨x,hx,?_⟩
    have hf:=hL t v hv
    by_cases hg:∃p y,v=.g p y
    ·obtain⟨p,y,rfl⟩:=hg
     exact⟨λhp=>h3 _ _ hf (hr.1 hp),hr.2⟩
    ·have h0:R3 ρ F w v x:=by cases v<;>first | exact hr | exact (hg ⟨_,_,rfl⟩).elim
     have hf':v.aQ (fresh fx)=true:=by cases v<;>first | exact hf | exact (hg ⟨_,_,rfl⟩).elim
     exact iK (h3 _ _ hf' h0)
   aR:=λt v hv=>Mf (λu hu=>cZ hm hu) (hL t v hv)
   mine:=λi c b hi e=>by
    rcases h1.mine i c b hi e with h5 | h5
    ·exact .inl (Nat.le_trans h.keep.size h5)
    ·exact hE b h5
   sub:=λk hk=>by
    rcases h1.sub k hk with h5 | h5 | h5
    ·exact h.sub k h5
    ·exact .inr (.inl (Nat.le_trans h.keep.size h5))
    ·exact .inr (hE k h5)
   base:=λk hk=>h1.base k (h.base k hk)
   cu:=⟨Nat.le_trans hfx hm,λi hi=>by rw[hρ i (Nat.lt_of_lt_of_le hi hfx)];exact h.cu.2 i hi⟩
   keep:=⟨h1.keep.os.trans h.keep.os,h1.keep.tape.trans h.keep.tape,h1.keep.output.trans h.keep.output,Nat.le_trans h.keep.size h1.keep.size,λk hk hne=>by
    refine (h1.keep.block k (Nat.lt_of_lt_of_le hk h.keep.size) λhb=>?_).trans (h.keep.block k hk hne)
    rcases hE k hb with h5 | h5
    ·omega
    ·exact hne h5⟩}
theorem AA{l:Nat}{r:Loop}{o:Obj}(hl:w.heap[l]?=some (.loop r))(k:Nat)(f:Nat)(v:Value)(hc:w.cell? ⟨k,f,none⟩=some v):(w.putObj l o).cell? ⟨k,f,none⟩=some v:=by
 by_cases e:k=l
 ·subst e
  unfold World.cell? at hc
  rw[hl] at hc
  simp at hc
 ·rw[←hc];exact World.cell?_of_block (w:=w) (World.putObj_heap_other e)
theorem MQ{l:Nat}{r:Loop}{o:Obj}(hl:w.heap[l]?=some (.loop r))(k:Nat){arr:Array MapEntry}{clock:Nat}(hc:w.heap[k]?=some (.map arr clock)):(w.putObj l o).heap[k]?=some (.map arr clock):=by
 by_cases e:k=l
 ·subst e;rw[hl] at hc;cases hc
 ·rw[World.putObj_heap_other e];exact hc
theorem aF.KN(h:aF C s a w ρ F){l:Nat}{r:Loop}(hl:w.heap[l]?=some (.loop r))(hlo:C.w0.heap.size≤l)(o:Obj):aF C s a (w.putObj l o) ρ F:=by
 have hw:yQ F w (w.putObj l o):=⟨λk f v _ hc=>AA hl k f v hc,λk arr clock _ hc=>by
  by_cases e:k=l
  ·subst e;rw[hl] at hc;cases hc
  ·rw[World.putObj_heap_other e];exact hc⟩
 have hb:∀i c,(i,c)∈s.H->∀b,bks ρ i c b->(w.putObj l o).heap[b]?=w.heap[b]?:=λi c hi b e=>World.putObj_heap_other λe2=>by
  subst e2
  obtain⟨o',h1,h2⟩:=(h.ch i c hi).obj e
  rw[hl] at h1
  obtain rfl:=agS h1
  cases h2
 exact
  {
   size:=h.size,sep:=h.sep,out:=h.out,aR:=h.aR,aK:=h.aK,mine:=h.mine,sub:=h.sub,base:=h.base,cu:=h.cu
   slot:=λt v hv=>let ⟨x,hx,hr⟩:=h.slot t v hv;⟨x,hx,RS.mono' hw hr⟩
   ch:=λi c hi=>jf.mono' hw (hb i c hi) (h.ch i c hi)
   lt:=λk hk=>by rw[World.putObj_size];exact h.lt k hk
   env:=λg n f hm=>⟨(h.env g n f hm).1,λj hj=>hw.1 _ _ _ (h.env g n f hm).1 ((h.env g n f hm).2.1 j hj),λh0=>let ⟨m,hm'⟩:=(h.env g n f hm).2.2 h0;⟨m,hw.1 _ _ _ (h.env g n f hm).1 hm'⟩⟩
   keep:=⟨h.keep.os,h.keep.tape,h.keep.output,by rw[World.putObj_size];exact h.keep.size,λk hk he=>(World.putObj_heap_other (by omega)).trans (h.keep.block k hk he)⟩
   defers:=by
    obtain⟨ms,m1,m2,m3,m4⟩:=h.defers
    refine⟨ms,m1,m2,m3,λD hD=>?_⟩
    obtain⟨k1,k2,k3⟩:=m4 D hD
    refine⟨k1,k2,(World.putObj_heap_other λe=>?_).trans k3⟩
    subst e
    rw[hl] at k3
    cases k3}
theorem aF.addF(h:aF C s a w ρ F){D:Nat}(hD:D<w.heap.size)(hlo:C.w0.heap.size≤D)(hn:∀i c,(i,c)∈s.H->¬bks ρ i c D):aF C s a w ρ (λk=>F k∨k=D):=by
 refine h.change (λu=>u) (λu v hu hr=>hr.keep (x:=s.m) (λ_ _=>rfl) (λ_=>.inl) (λ_ _=>rfl) (jH (Nat.le_refl _) hu)) (λt v hv=>⟨⟨v,hv,(tK v).symm⟩,h.aR t v hv⟩) (λi c hc=>?_) (λ_=>.inl) (λ_ _=>rfl) (λk hk=>?_) h.keep (Nat.le_refl _) (λk hk=>?_) h.cu.2
 ·refine⟨⟨c,hc,(kF c).symm⟩,(h.aK i c hc).2,Z,λb e=>⟨Z,?_⟩⟩
  rintro (e2 | rfl)
  ·exact h.out i c b hc e e2
  ·exact hn i c hc e
 ·rcases hk with hk | rfl
  ·exact h.lt k hk
  ·exact hD
 ·rcases hk with hk | rfl
  ·exact h.sub k hk
  ·exact .inr (.inl hlo)
theorem aF.shrink{L:List (Nat×V)}{H1 H':List (Nat×Ch)}{m m1:Nat}(h:aF C ⟨L,H1,m1⟩ a w ρ F)(hH:HLE H1 H')(hok:okH m H'=true)(hL:∀t v,(t,v)∈L->v.q9 (fresh m)=true)(hm:C.fix≤m):aF C ⟨L,H',m⟩ a w ρ F:=
 {
  size:=h.size,defers:=h.defers,slot:=h.slot,aR:=hL,lt:=h.lt,sub:=h.sub,base:=h.base,cu:=⟨hm,h.cu.2⟩,keep:=h.keep,env:=h.env
  ch:=λi c hc=>by
   obtain⟨u,hu,he⟩:=iM hH hc
   exact jg he (h.ch i u hu)
  sep:=λi j ci cj b hi hj hij e=>by
   obtain⟨u,hu,he⟩:=iM hH hi
   obtain⟨u2,hu2,he2⟩:=iM hH hj
   exact λe2=>h.sep i j u u2 b hu hu2 hij (jv he e) (jv he2 e2)
  out:=λi c b hi e=>by
   obtain⟨u,hu,he⟩:=iM hH hi
   exact h.out i u b hu (jv he e)
  aK:=λi c hi=>EO hok hi
  mine:=λi c b hi e=>by
   obtain⟨u,hu,he⟩:=iM hH hi
   exact h.mine i u b hu (jv he e)}
def Its(P:Pg)(f:FuncId)(caps:List V)(H:List Ch)(xs:List (List V)):Prop:=
 eO P.P f∧aN caps H H.length=true∧(∀x∈xs,x.all (V.aQ (fresh 0))=true)∧
 ∀(w:World) (F:Nat->Prop) (ρ:Nat->Value) (cs:List Value),(∀k,F k->k<w.heap.size)->jG P.env F w->Holds ρ F w H->aH (R3 ρ F w) caps cs->
  ∀(l:Nat) (J Jx:Nat->World->Prop),
   (∀k W W',J k W->Mod none W W'->J k W')->(∀k W,J k W->(∃F',jG P.env F' W∧(∀k,F' k->k<W.heap.size))∧∀b,F b->W.heap[b]?=w.heap[b]?)->J 0 w->
   (∀k x W1 vals,xs[k]?=some x->J k W1->aH (R3 ρ F W1) x vals->YieldAt Fence.wide 7 P.P l vals.toArray W1 λe W'=>(e=.returned (.bool true)∧J (k+1) W')∨(e=.returned (.bool false)∧Jx k W'))->
   CallsIn Fence.wide 8 P.P f (#[.func (.yield l) #[] #[]]++cs.toArray) w λe W'=>(∃v,e=.returned v)∧(J xs.length W'∨∃k,k<xs.length∧Jx k W')
def pQ(p:Prop)(J:List (Nat×Ch))(X:Code->List (Nat×Ch)->Prop):Exit->St->Prop
 | .normal,s=>p∧HLE s.H J
 | .ret,s=>∃H,X .ret H∧HLE s.H H
 | .exit id,s=>∃H,X (.exit id) H∧HLE s.H H
 | .goto l,s=>∃H,X (.goto l) H∧HLE s.H H
 | _,_=>False
theorem pQ.Yj{p:Prop}{J:List (Nat×Ch)}{X:Code->List (Nat×Ch)->Prop}:SL (pQ p J X):=λ_ h=>h
theorem pQ.bG{p:Prop}{J:List (Nat×Ch)}{X:Code->List (Nat×Ch)->Prop}:NoPanic (pQ p J X):=λ_ _ h=>h
def eG(L:List (Nat×V)):List Nat->List V->List (Nat×V)
 | p::ps,v::vs=>eG (put L p v) ps vs
 | _,_=>L
theorem MR{m:Nat}{H:List (Nat×Ch)}:∀(ps:List Nat) (x:List V) (vals:List Value) (L:List (Nat×V)) (a:Act),aF C ⟨L,H,m⟩ a w ρ F->ps.all (λp=>Nat.blt p C.n)=true->x.length=ps.length->aH (R3 ρ F w) x vals->x.all (V.aQ (fresh 0))=true->
  aF C ⟨eG L ps x,H,m⟩ {a with tmps:=(ps.zip vals).foldl (λt q=>t.setIfInBounds q.1 q.2) a.tmps} w ρ F
 | [],[],[],L,a,h,_,_,_,_=>h
 | p::ps,v::x,y::vals,L,a,h,hp,hl,hr,hf=>by
  simp only[List.all_cons,agN] at hp hf
  have h1:=h.put (d:=p) (v:=v) (x:=y) (by simpa using hp.1) hr.1 (jr (λu hu=>cZ (Nat.zero_le _) hu) hf.1)
  exact MR ps x vals _ _ h1 hp.2 (by simpa using hl) hr.2 hf.2
 | [],_::_,_,_,_,_,_,hl,_,_=>by simp at hl
 | _::_,[],_,_,_,_,_,hl,_,_=>by simp at hl
 | [],[],_::_,_,_,_,_,_,hr,_=>hr.elim
 | _::_,_::_,[],_,_,_,_,_,hr,_=>hr.elim
end
theorem AB{P:Program}{f:FuncId}(hcall:eO P f)(args:Array Value)(w:World):(callFunc f args).run P w=.ok (.enter f args) w:=by
 obtain⟨fn,h1,h2,h3⟩:=hcall
 have hb:fn.body.isNone=false:=by cases hh:fn.body<;>simp_all
 simp only[callFunc,program,Sem.run_bind,Sem.run_pure,Result.andThen]
 simp [Sem.run,h1,h3,hb]
section
variable{C:Ctx}{s:St}{K:List Item}{Φ:Exit->St->Prop}{g:Cfg}
theorem Go.range{fx:Nat}(U9:fx=s.m∨(Nat.ble C.fix fx&&Nat.ble fx s.m&&s.L.all λq=>q.2.q9 (fresh fx))=true)(hrd:C.rd=none)(hmk:C.mks=true∧C.lo≤C.w0.heap.size){gop:Operand}{ps:List Tmp}{assign body:Code}{f:FuncId}{caps A:List V}{H:List Ch}{xs:List (List V)}(is:List Nat)
  (hev:ev s.L [] gop=some (.fn f A)) (hseq:Its C.pg f caps H xs) (hA:AEq A (caps.map (V.dz (cK is)))) (hok:(nodupB is&&Nat.beq is.length H.length&&ps.all λp=>Nat.blt p C.n)=true) (hH:HLE s.H (rnH is is H))
  (hps:∀x∈xs,x.length=ps.length) (P:Nat->Prop) (J:Nat->List (Nat×Ch)) (X:Nat->Code->List (Nat×Ch)->Prop)
  (hJ:∀k,okH s.m (J k)=true) (hX:∀k c H',X k c H'->okH s.m H'=true) (hP:P 0) (h0:HLE s.H (J 0))
  (hb:∀k x l,xs[k]?=some x->P k->∀C1:Ctx,C1.pg=C.pg->C1.n=C.n->C1.fix=fx->C1.rd=some l->Go C1 [.code assign] ⟨eG s.L ps x,J k,s.m⟩ λe s1=>e=.normal∧
   ∀C2:Ctx,C2.pg=C.pg->C2.n=C.n->C2.fix=fx->C2.rd=some l->Go C2 [.code body] s1 (pQ (P (k+1)) (J (k+1)) (X k)))
  (k1:P xs.length->Go C K ⟨s.L,J xs.length,s.m⟩ Φ) (k2:∀k c H',k<xs.length->P k->X k c H'->Go C (.code c::K) ⟨s.L,H',s.m⟩ Φ):Go C (.code (.rangeFunc gop ps.toArray assign body)::K) s Φ:=by
 rintro a w ⟨ρ,F,hs⟩
 obtain⟨hcall,hfr,hfx,hseq⟩:=hseq
 simp only[agN] at hok
 obtain⟨⟨o1,o2⟩,o3⟩:=hok
 have o2:=agU o2
 have hm0:C.fix≤s.m:=hs.cu.1
 obtain⟨hx1,hx2,hx3⟩:C.fix≤fx∧fx≤s.m∧∀t v,(t,v)∈s.L->v.q9 (fresh fx)=true:=by
  rcases U9 with rfl | U9
  ·exact⟨hm0,Nat.le_refl _,hs.aR⟩
  ·simp only[agN,List.all_eq_true] at U9
   exact⟨Nat.le_of_ble_eq_true U9.1.1,Nat.le_of_ble_eq_true U9.1.2,λt v hv=>U9.2 (t,v) hv⟩
 rw[iR,hrd]
 show Code.wpIn (fr none) 9 C.P _ _ a w
 rw[aan]
 refine wpIn_rangeFunc λfn hfn=>?_
 obtain⟨rec,hrec⟩:∃rec:LoopState->Option Code->Loop,rec=λst pe=>{state:=st,pending:=pe,fn,tmps:=a.tmps,params:=ps.toArray,assign,body,defers:=w.heap.size}:=⟨_,Z⟩
 obtain⟨D,hDw⟩:∃D,D=w.heap.size:=⟨_,Z⟩
 obtain⟨l,hlw⟩:∃l,l=w.heap.size+1:=⟨_,Z⟩
 obtain⟨W1,hW1⟩:∃W1,(w.alloc (.deferred (some []))).alloc (.loop (rec .ready none))=W1:=⟨_,Z⟩
 have hL1:W1.heap[l]?=some (.loop (rec .ready none)):=by
  rw[←hW1,hlw];have:=World.alloc_heap_new (w.alloc (.deferred (some []))) (.loop (rec .ready none));rwa [World.size_alloc] at this
 have hK1:W1.heap[D]?=some (.deferred (some [])):=by
  rw[←hW1,hDw];exact ((Mod.alloc _ _).block _ (by simp) (by simp)).trans (World.alloc_heap_new w _)
 have hM:Mod none w W1:=by rw[←hW1];exact (Mod.alloc w _).trans (Mod.alloc _ _)
 have hsz:W1.heap.size=w.heap.size+2:=by rw[←hW1];simp
 have hDl:D≠l:=by omega
 have hlo:C.w0.heap.size≤D:=by rw[hDw];exact hs.keep.size
 have ac9:C.w0.heap.size≤l:=by omega
 have hs1:aF C s a W1 ρ (λk=>F k∨k=D):=(hs.mod hM).addF (by omega) hlo λi c hi e=>by
  obtain⟨o',h1,h2⟩:=((hs.mod hM).ch i c hi).obj e
  rw[hK1] at h1
  obtain rfl:=agS h1
  cases h2
 obtain⟨F1,hF1⟩:∃F1:Nat->Prop,F1=λk=>F k∨k=D:=⟨_,Z⟩
 rw[←hF1] at hs1
 have hev1:=(aC hs1 (dn _) hev).1
 obtain⟨cs,hcs,vR⟩:=(show R1 ρ F1 W1 (.fn f A) _ from hev1)
 have hold:=holds_of hs1 hfr o2 o1 hH
 have ada:aH (R3 ρ F1 W1) A cs:=vR.mono λu v hr=>kE (jE (rQ hr))
 have hfr2:=hfr
 simp only[aN,agN,List.all_eq_true] at hfr2
 have adb:aH (R3 (λi=>ρ (nth is i)) F1 W1) caps cs:=(lJ hA ada).unmap λu v hu hr=>R3.dW (k:=H.length) (λ_ _=>rfl) (hfr2.1 u hu) hr
 have hFlt:∀b,F1 b->b<W1.heap.size:=hs1.lt
 refine⟨l,[tC D],W1,{target:=.fn (.func f) cs.toArray,args:=#[.func (.yield l) #[] #[]]},W1,f,#[.func (.yield l) #[] #[]]++cs.toArray,W1,?_,?_,λ_ _=>trivial,?_,λh=>(by cases h),?_⟩
 ·rw[←hW1,hrec,hDw,hlw];exact run_enterLoop_outer _ _ _ _ _
 ·simp only[resolve,hcs]
  simp [go_sem]
 ·simp [invoke,go_sem,AB hcall]
 refine (hseq W1 F1 (λi=>ρ (nth is i)) cs hFlt hs1.env hold adb l
  (λk W=>P k∧∃ρ' F',aF C ⟨s.L,J k,s.m⟩ a W ρ' F'∧(∀b,F1 b->F' b∧W.heap[b]?=W1.heap[b]?)∧W.heap[l]?=some (.loop (rec .ready none)))
  (λk W=>∃c H' ρ' F',(P k∧X k c H')∧aF C ⟨s.L,H',s.m⟩ a W ρ' F'∧(∀b,F1 b->F' b∧W.heap[b]?=W1.heap[b]?)∧W.heap[l]?=some (.loop (rec .done (some c))))
  ?_ ?_ ?_ ?_).mono ?_
 ·rintro k W W' ⟨hPk,ρ',F',h1,h2,h3⟩ hm
  refine⟨hPk,ρ',F',h1.mod hm,λb hb=>⟨(h2 b hb).1,(hm.block b (h1.lt b (h2 b hb).1) (by simp)).trans (h2 b hb).2⟩,(hm.block l (Array.getElem?_eq_some_iff.1 h3).1 (by simp)).trans h3⟩
 ·rintro k W ⟨hPk,ρ',F',h1,h2,h3⟩
  exact⟨⟨F',h1.env,h1.lt⟩,λb hb=>(h2 b hb).2⟩
 ·exact⟨hP,ρ,F1,aF.shrink (L:=s.L) (H1:=s.H) (m1:=s.m) hs1 h0 (hJ 0) hs1.aR hm0,λb hb=>⟨hb,Z⟩,hL1⟩
 ·
  rintro k x W vals hx ⟨hPk,ρ',F',h1,h2,h3⟩ yR
  have hxm:x∈xs:=List.mem_of_getElem? hx
  have hxl:=hps x hxm
  have hlt:l<W.heap.size:=(Array.getElem?_eq_some_iff.1 h3).1
  have hvl:=yR.length
  have hy:=run_yield (P:=C.P) (args:=vals.toArray) h3 (by rw[hrec];simp;omega)
  rw[hrec] at hy
  have aeL:=hfx x hxm
  have ade:aH (R3 ρ' F' W) x vals:=by
   have:=yR.imp (g:=λu=>u) (R':=R3 ρ' F' W) (λu v hu hr=>by
    have:=R3.map (p:=fresh 0) (k:=λu=>u) (ρ':=ρ') (F':=F') (w':=W) (λu v hu hr=>by
     have:=R0.bB (xs:=[]) (m:=0) (ρ':=ρ') (F':=F') (w':=W) (λi hi _=>absurd hi (agV _)) (λb hb=>(h2 b hb).1) (λ_ _=>rfl) hu hr
     rwa [show bB [] u=u by cases u<;>rfl] at this) (by simpa using List.all_eq_true.1 aeL u hu) hr
    rwa [tJ] at this)
   rwa [List.map_id'] at this
  have ha:aF C ⟨eG s.L ps x,J k,s.m⟩ {a with tmps:=(ps.zip vals).foldl (λt q=>t.setIfInBounds q.1 q.2) a.tmps} W ρ' F':=MR ps x vals s.L a h1 o3 hxl ade aeL
  have hA1:=h1.Yh l (fx:=fx) hx2 (L':=eG s.L ps x) (a':={tmps:=(ps.zip vals).foldl (λt q=>t.setIfInBounds q.1 q.2) a.tmps,defers:=[]}) ha.size Z ha.slot ha.aR
  have hgo:=hb k x l hx hPk (C.inR l fx ⟨s.L,J k,s.m⟩ W ρ' F') Z Z Z Z _ W ⟨ρ',F',hA1⟩
  have hzip:(ps.toArray.zip vals.toArray).foldl (λtmps (q:Tmp×Value)=>tmps.setIfInBounds q.1 q.2) a.tmps=(ps.zip vals).foldl (λt q=>t.setIfInBounds q.1 q.2) a.tmps:=by simp [List.zip_toArray]
  refine⟨fn,_,assign,body,hy,Ui (n:=9) (roundIn_of_wpIn hfn ?_)⟩
  have hgo:Code.wpIn (Fence.wide.inRound l) 9 C.P assign (den _ _ []) _ W:=hgo
  refine wpIn_mono (by rw[hzip];exact hgo) ?_
  rintro e a1 w1 ⟨s1,⟨ρ1,F1',hs2⟩,rfl,hb2⟩
  have hlE:∀{ρ0:Nat->Value} {F0:Nat->Prop} {w0:World} {s0:St} {r:Loop},aF C s0 a w0 ρ0 F0->w0.heap[l]?=some (.loop r)->¬xO ρ0 s0.H l:=λh hl ⟨i,c,hi,e⟩=>by
   obtain⟨o',k1,k2⟩:=(h.ch i c hi).obj e
   rw[hl] at k1
   obtain rfl:=agS k1
   cases k2
  have h3':w1.heap[l]?=some (.loop (rec .ready none)):=(hs2.keep.block l hlt (hlE h1 h3)).trans h3
  have q1:=h1.Yi hx1 hx3 hs2
  have aaP:∀b,F1 b->F1' b∧w1.heap[b]?=W1.heap[b]?:=λb hb=>⟨hs2.base b (h2 b hb).1,(hs2.keep.block b (h1.lt b (h2 b hb).1) λ⟨i,c,hi,e⟩=>h1.out i c b hi e (h2 b hb).1).trans (h2 b hb).2⟩
  refine⟨_,run_beginRound h3' (by rw[hrec]),?_⟩
  have hlt1:l<w1.heap.size:=(Array.getElem?_eq_some_iff.1 h3').1
  have q2:=q1.KN h3' ac9 (.loop {rec .ready none with state:=.busy})
  have hcell:=AA (o:=.loop {rec .ready none with state:=.busy}) h3'
  have hB1:=q2.Yh l (fx:=fx) hs2.cu.1 (L':=s1.L) (a':=a1) hs2.size (hs2.defers.none Z) (λt v hv=>let ⟨x,hx,hr⟩:=hs2.slot t v hv;⟨x,hx,RS.mono' ⟨λk o v _ hc=>hcell k o v hc,λk arr clock _ hc=>MQ h3' k hc⟩ hr⟩) hs2.aR
  have adf:=hb2 (C.inR l fx ⟨s.L,s1.H,s1.m⟩ (w1.putObj l (.loop {rec .ready none with state:=.busy})) ρ1 F1') Z Z Z Z a1 _ ⟨ρ1,F1',hB1⟩
  have adf:Code.wpIn (Fence.wide.inRound l) 9 C.P body (den _ _ []) _ _:=adf
  refine wpIn_mono adf ?_
  rintro e a2 w2 ⟨s2,⟨ρ2,F2,hs3⟩,hR⟩
  have hl4:(w1.putObj l (.loop {rec .ready none with state:=.busy})).heap[l]?=some (.loop {rec .ready none with state:=.busy}):=World.putObj_heap_same hlt1
  have h4:w2.heap[l]?=some (.loop {rec .ready none with state:=.busy}):=(hs3.keep.block l (by show l<(w1.putObj l _).heap.size;rw[World.putObj_size];exact hlt1) (hlE q2 hl4)).trans hl4
  have q3:=q2.Yi hx1 hx3 hs3
  have hlF:∀b,F1 b->b≠l:=λb hb e=>by
   have e1:=(h2 b hb).2
   rw[hF1] at hb
   rcases hb with hb | hb
   ·have:=hs.lt b hb;omega
   ·omega
  have hF2:∀b,F1 b->F2 b∧w2.heap[b]?=W1.heap[b]?:=λb hb=>⟨hs3.base b (aaP b hb).1,(hs3.keep.block b (q2.lt b (aaP b hb).1) λ⟨i,c,hi,e⟩=>q2.out i c b hi e (aaP b hb).1).trans ((World.putObj_heap_other (hlF b hb)).trans (aaP b hb).2)⟩
  have fin:∀(jump:Option Code) (H':List (Nat×Ch)),HLE s2.H H'->okH s.m H'=true->
    (Instr.endRound l jump).run C.P w2=.ok (.bool jump.isNone) (w2.putObj l (.loop (rec (if jump.isNone then .ready else .done) jump)))∧
    aF C ⟨s.L,H',s.m⟩ a (w2.putObj l (.loop (rec (if jump.isNone then .ready else .done) jump))) ρ2 F2∧
    (∀b,F1 b->F2 b∧(w2.putObj l (.loop (rec (if jump.isNone then .ready else .done) jump))).heap[b]?=W1.heap[b]?)∧
    (w2.putObj l (.loop (rec (if jump.isNone then .ready else .done) jump))).heap[l]?=some (.loop (rec (if jump.isNone then .ready else .done) jump)):=λjump H' hle hok'=>by
   refine⟨?_,?_,λb hb=>⟨(hF2 b hb).1,(World.putObj_heap_other (hlF b hb)).trans (hF2 b hb).2⟩,World.putObj_heap_same (Array.getElem?_eq_some_iff.1 h4).1⟩
   ·have:=run_endRound (P:=C.P) jump h4
    rw[hrec] at this ⊢
    exact this
   ·exact (aF.shrink (L:=s.L) (H1:=s2.H) (m1:=s2.m) q3 hle hok' hs.aR hm0).KN h4 ac9 _
  have leave:∀c,(∃H,X k c H∧HLE s2.H H)->∃v w',(Instr.endRound l (some c)).run C.P w2=.ok v w'∧((Ending.returned v=.returned (.bool true)∧P (k+1)∧∃ρ' F',aF C ⟨s.L,J (k+1),s.m⟩ a w' ρ' F'∧(∀b,F1 b->F' b∧w'.heap[b]?=W1.heap[b]?)∧w'.heap[l]?=some (.loop (rec .ready none)))∨
    (Ending.returned v=.returned (.bool false)∧∃c H' ρ' F',(P k∧X k c H')∧aF C ⟨s.L,H',s.m⟩ a w' ρ' F'∧(∀b,F1 b->F' b∧w'.heap[b]?=W1.heap[b]?)∧w'.heap[l]?=some (.loop (rec .done (some c))))):=λc hc=>by
   obtain⟨H',hXc,hc⟩:=hc
   obtain⟨r1,r2,r3,r4⟩:=fin (some c) H' hc (hX k c H' hXc)
   exact⟨_,_,r1,.inr ⟨Z,c,H',ρ2,F2,⟨hPk,hXc⟩,r2,r3,r4⟩⟩
  cases e with
  | normal=>
   obtain⟨r1,r2,r3,r4⟩:=fin none (J (k+1)) hR.2 (hJ _)
   exact⟨_,_,r1,.inl ⟨Z,hR.1,ρ2,F2,r2,r3,r4⟩⟩
  | ret=>exact leave .ret hR
  | exit id=>exact leave (.exit id) hR
  | goto t=>exact leave (.goto t) hR
  | panic ch=>exact hR.elim
  | outgrown=>exact hR.elim
 ·
  have fin:∀{W:World} {ρ':Nat->Value} {F':Nat->Prop} {H':List (Nat×Ch)} {r:Loop} (o:Obj),aF C ⟨s.L,H',s.m⟩ a W ρ' F'->(∀b,F1 b->F' b∧W.heap[b]?=W1.heap[b]?)->W.heap[l]?=some (.loop r)->
    Sat C ⟨s.L,H',s.m⟩ {a with defers:=tC D::a.defers} (W.putObj l o):=λ{W ρ' F' H' r} o h1 h2 h3=>by
   have q:=h1.KN h3 ac9 o
   have hFD:F1 D:=by rw[hF1];exact .inr Z
   obtain⟨d1,d2⟩:=h2 D hFD
   refine⟨ρ',F',{size:=q.size,slot:=q.slot,ch:=q.ch,sep:=q.sep,out:=q.out,aR:=q.aR,aK:=q.aK,lt:=q.lt,mine:=q.mine,sub:=q.sub,base:=q.base,cu:=q.cu,keep:=q.keep,env:=q.env,defers:=?_}⟩
   obtain⟨ms,m1,m2,m3,m4⟩:=q.defers
   obtain⟨ms0,m10,_,_,m40⟩:=hs.defers
   have hms:ms=ms0:=by
    have e:ms.map tC++C.defs=ms0.map tC++C.defs:=m1.symm.trans m10
    have:=List.append_cancel_right e
    exact (List.map_inj_right λa b e=>by simp [tC] at e;exact e).1 this
   subst hms
   refine⟨D::ms,by rw[m1];rfl,List.nodup_cons.2 ⟨λhm=>?_,m2⟩,λe=>(by rw[hmk.1] at e;cases e),λk hk=>?_⟩
   ·have:=hs.lt D (m40 D hm).2.1;omega
   ·rcases List.mem_cons.1 hk with rfl | hk
    ·exact⟨Nat.le_trans hmk.2 hlo,d1,(World.putObj_heap_other hDl).trans (d2.trans hK1)⟩
    ·exact m4 k hk
  rintro e W ⟨⟨v,rfl⟩,⟨hPk,ρ',F',h1,h2,h3⟩ | ⟨k,hk,c,H',ρ',F',⟨hPk,hXc⟩,h1,h2,h3⟩⟩
  ·have hend:=run_endLoop (P:=C.P) h3 (by rw[hrec];simp)
   exact⟨none,W.putObj l (.loop {rec .ready none with state:=.exhausted}),by rw[hend,hrec],k1 hPk _ _ (fin (.loop {rec .ready none with state:=.exhausted}) h1 h2 h3)⟩
  ·have hend:=run_endLoop (P:=C.P) h3 (by rw[hrec];simp)
   refine⟨some c,W.putObj l (.loop {rec .done (some c) with state:=.exhausted}),by rw[hend,hrec],?_⟩
   have:=k2 k c H' hk hPk hXc _ _ (fin (.loop {rec .done (some c) with state:=.exhausted}) h1 h2 h3)
   rw[iR,hrd] at this
   exact this
end
theorem aG.mkR {P:Pg} (g:Cfg) (yG:bV P.P g.tys) (ids:List Nat) {f:FuncId} {fn:Func} {c:Code} {args:List V} {H:List Ch} {r:V} {H':List Ch} {rs:List ResultVar} (hf:P.P.funcs[f]?=some fn) (hb:fn.body=some c) (hname:(fn.name == "runtime.NumGoroutine")=false)
  (hn:g.n=fn.ntmps) (hrs:fn.results=rs.toArray) (hok:(Nat.ble args.length g.n&&aN args H H.length&&aN [r] H' H'.length&&Nat.ble g.fix H.length&&Nat.ble H.length H'.length)=true)
  (hgo:∀(C:Ctx),Cx P g C->(C.mks=true∧C.lo≤C.w0.heap.size)->Go C [.code c] ⟨ixL args,ixH H,Qe H⟩ (Ret g rs ids r H')):aG P f g.fix args H r H':=by
 simp only[agN] at hok
 obtain⟨⟨⟨⟨h1,h2⟩,h3⟩,h4⟩,h5⟩:=hok
 exact aG.intro hf hb hname yG hn hrs h1 h2 h3 h4 h5 ids λC e1 e2 e3 _ e5 e6=>by rw[←FP,←FQ,←Au];exact hgo C ⟨⟨e1,e2,e3,yG⟩,e5⟩ e6
theorem Cx.adg{P:Pg}{g:Cfg}{C:Ctx}(x:Cx P g C)(fx:Nat)(hmk:C.mks=true∧C.lo≤C.w0.heap.size){s s':St}{K K':List Item}{Φ:Exit->St->Prop}{ob:List Prop}{gop:Operand}{ps:List Tmp}{assign body:Code}{f:FuncId}{caps A:List V}{H:List Ch}{xs:List (List V)}(is:List Nat)(Pr:Nat->Prop)(J:Nat->List (Nat×Ch))(X:Nat->Code->List (Nat×Ch)->Prop)
  (h:run g 1000 K s []=.code ob (.rangeFunc gop ps.toArray assign body) K' s') (hfx:fx=s'.m∨(Nat.ble g.fix fx&&Nat.ble fx s'.m&&s'.L.all λq=>q.2.q9 (fresh fx))=true) (ho:ak ob)
  (hev:ev s'.L [] gop=some (.fn f A)) (hseq:Its P f caps H xs) (hA:AEq A (caps.map (V.dz (cK is)))) (hok:(nodupB is&&Nat.beq is.length H.length&&ps.all λp=>Nat.blt p g.n)=true) (hH:HLE s'.H (rnH is is H))
  (hps:∀x∈xs,x.length=ps.length) (hJ:∀k,okH s'.m (J k)=true) (hX:∀k c H',X k c H'->okH s'.m H'=true) (hP:Pr 0) (h0:HLE s'.H (J 0))
  (hb:∀k x,xs[k]?=some x->Pr k->∀C1:Ctx,Cr P {g with fix:=fx} C1->Go C1 [.code assign] ⟨eG s'.L ps x,J k,s'.m⟩ λe s1=>e=.normal∧
   ∀C2:Ctx,Cr P {g with fix:=fx} C2->Go C2 [.code body] s1 (pQ (Pr (k+1)) (J (k+1)) (X k)))
  (k1:Pr xs.length->Go C K' ⟨s'.L,J xs.length,s'.m⟩ Φ) (k2:∀k c H',k<xs.length->Pr k->X k c H'->Go C (.code c::K') ⟨s'.L,H',s'.m⟩ Φ):Go C K s Φ:=by
 refine st x.ty x.n x.fix h ⟨ho,?_⟩
 refine Go.range (by rw[←x.fix];exact hfx) x.rd hmk is hev (x.prog▸hseq) hA (by rw[←x.n];exact hok) hH hps Pr J X hJ hX hP h0 (λk y l hy hPk C1 e1 e2 e3 e4 a w hs=>?_) k1 k2
 refine tu (hb k y hy hPk C1 ⟨e1.trans x.prog,x.n.trans e2.symm,e3.symm,x.tys⟩ a w hs) ?_
 intro e a' w' hq
 have hq:den C1 (gP C1 _) [] e a' w':=hq
 obtain⟨s1,q1,q2,q3⟩:=hq
 exact⟨s1,q1,q2,λC2 f1 f2 f3 f4=>q3 C2 ⟨f1.trans x.prog,x.n.trans f2.symm,f3.symm,x.tys⟩⟩
theorem Cx.range{P:Pg}{g:Cfg}{C:Ctx}(x:Cx P g C)(hmk:C.mks=true∧C.lo≤C.w0.heap.size){s s':St}{K K':List Item}{Φ:Exit->St->Prop}{ob:List Prop}{gop:Operand}{ps:List Tmp}{assign body:Code}{f:FuncId}{caps A:List V}{H:List Ch}{xs:List (List V)}(is:List Nat)(Pr:Nat->Prop)(J:Nat->List (Nat×Ch))(X:Nat->Code->List (Nat×Ch)->Prop)
  (h:run g 1000 K s []=.code ob (.rangeFunc gop ps.toArray assign body) K' s') (ho:ak ob)
  (hev:ev s'.L [] gop=some (.fn f A)) (hseq:Its P f caps H xs) (hA:AEq A (caps.map (V.dz (cK is)))) (hok:(nodupB is&&Nat.beq is.length H.length&&ps.all λp=>Nat.blt p g.n)=true) (hH:HLE s'.H (rnH is is H))
  (hps:∀x∈xs,x.length=ps.length) (hJ:∀k,okH s'.m (J k)=true) (hX:∀k c H',X k c H'->okH s'.m H'=true) (hP:Pr 0) (h0:HLE s'.H (J 0))
  (hb:∀k x,xs[k]?=some x->Pr k->∀C1:Ctx,Cr P {g with fix:=s'.m} C1->Go C1 [.code assign] ⟨eG s'.L ps x,J k,s'.m⟩ λe s1=>e=.normal∧
   ∀C2:Ctx,Cr P {g with fix:=s'.m} C2->Go C2 [.code body] s1 (pQ (Pr (k+1)) (J (k+1)) (X k)))
  (k1:Pr xs.length->Go C K' ⟨s'.L,J xs.length,s'.m⟩ Φ) (k2:∀k c H',k<xs.length->Pr k->X k c H'->Go C (.code c::K') ⟨s'.L,H',s'.m⟩ Φ):Go C K s Φ:=by
 exact x.adg s'.m hmk is Pr J X h (.inl Z) ho hev hseq hA hok hH hps hJ hX hP h0 hb k1 k2
end Go.Sx
namespace Go.Sx
def lend(H:List Ch):V->V
 | .own i=>match H[i]? with
  | some (.vec _ sz n f)=>.d (.sl sz n f)
  | _=>.own i
 | v=>v
def adh(H:List Ch):Bool:=H.all λc=>match c with | .vec ..=>true | _=>false
theorem AJ{ρ:Nat->Value}{F F':Nat->Prop}{w:World}{e:TypeId}{sz n:Nat}{f:Nat->List D}{v:Value}{xs:List Value}(hFF:∀k,F k->F' k)(hb:∀b,blk v=some b->F' b)(hown:w.ownsRow 0 e sz v n xs)(hel:iZ F w sz n f xs):RD F' w (.sl sz n f) v:=by
 have hown':=hown
 rcases hown.2 with⟨h1,h2⟩ | ⟨b,cap,cur,h1,_,h3,h4,h5,h6,h7⟩
 ·subst h2;rw[h1];exact .emp _ _ _ _
 ·rw[h1]
  refine .sl sz n f b 0 cap (λi j=>(xs[i*sz+j]?).getD undef) (hb b (by rw[h1];rfl)) h4 (λi j hi hj=>?_) (λi hi=>(hel i hi).1) (λi j d hi hd=>?_)
  ·have hl:=(hel i hi).1
   obtain⟨c,c1,c2⟩:=(hel i hi).2 j _ (agO (show j<(f i).length by omega))
   have:=hown'.cells (g:=b) (by rw[h1];rfl) _ _ c1
   rw[Addr.add_lit] at this
   rw[this,c1];rfl
  ·obtain⟨c,c1,c2⟩:=(hel i hi).2 j d hd
   rw[c1]
   exact RD.mono hFF (λ_ _=>rfl) c2
theorem Pure.borrow{P:Pg}{f:FuncId}{args args':List V}{r:V}{y:Value}(H:List Ch)(hp:Pure P f args' r [])(ha:args'=args.map (V.dz (lend H)))(hr:valOf r=some y)(hok:(aN args H H.length&&aN [r] H H.length&&adh H)=true):aG P f H.length args H r H:=by
 subst ha
 simp only[agN] at hok
 obtain⟨⟨h1,h2⟩,h3⟩:=hok
 obtain⟨hcall,hfr,yE,_,_,hc⟩:=hp
 refine⟨hcall,h1,h2,Nat.le_refl _,Nat.le_refl _,λw F ρ vals hF hE hH hargs=>?_⟩
 let F':Nat->Prop:=λk=>F k∨ownB ρ H k
 have hFF:∀k,F k->F' k:=λk hk=>.inl hk
 have hF':∀k,F' k->k<w.heap.size:=λk hk=>by
  rcases hk with hk | ⟨i,hi,e⟩
  ·exact hF k hk
  ·exact (hH.ch i _ (agO hi)).lt (aT e)
 have h1':=h1
 simp only[aN,agN,List.all_eq_true] at h1'
 have hargs':aH (R3 ρ F' w) (args.map (V.dz (lend H))) vals:=hargs.imp λu v hu hr=>R3.map (p:=fresh H.length) (λu v hf hr=>by
  cases u with
  | own i=>
   have hi:i<H.length:=by simpa [fresh] using hf
   have hm:=List.all_eq_true.1 h3 _ (List.getElem_mem hi)
   obtain⟨e1,e2⟩:=hr
   simp only[lend,agO hi]
   cases hc:H[i] with
   | vec e sz n f=>
    have:=hH.ch i _ (agO hi)
    rw[hc] at this
    obtain⟨xs,k1,k2⟩:=this
    subst e1
    exact AJ (ρ:=ρ) hFF (λb hb=>.inr ⟨i,hi,hb⟩) k1 k2
   | _=>rw[hc] at hm;cases hm
  | _=>exact R0.world hFF (λ_ _=>rfl) hr) (h1'.1 u hu) hr
 refine (hc w F' ρ vals hF' (hE.mono hFF λ_ _=>rfl) ⟨λi c hi=>by simp at hi,λi j b hi=>absurd hi (agV _),λi b hi=>absurd hi (agV _)⟩ hargs').mono ?_
 rintro e w' ⟨v,ρ',F'',rfl,hk,_,_,_,_,hr3,_,_⟩
 obtain rfl:=qM hr hr3
 have hblk:∀k,k<w.heap.size->w'.heap[k]?=w.heap[k]?:=λk hk'=>hk.block k hk' λ⟨i,hi,_⟩=>absurd hi (agV _)
 refine⟨v,ρ,F,Z,⟨hk.os,hk.tape,hk.output,hk.size,λk hk' _=>hblk k hk'⟩,λ_ _=>rfl,λ_ hk=>hk,λk hk'=>Nat.lt_of_lt_of_le (hF k hk') hk.size,λ_ hk=>.inl hk,vS hr,⟨λi c hi=>?_,hH.sep,hH.out⟩,λi b hi e=>.inr ⟨i,hi,e⟩⟩
 have:=jf.keep (x:=0) (p:=λ_=>true) (k:=λu=>u) (ρ':=ρ) (F':=F) (w':=w') (λu v _ hr=>R0.world (λ_ hk=>hk) (λk hk=>hblk k (hF k hk)) hr) (λ_ hk=>hk) (λk hk=>hblk k (hF k hk)) Z (λb e=>hblk b ((hH.ch i c hi).lt e)) (by
  cases c<;>simp [Ch.all,all_true]) (hH.ch i c hi)
 rwa [kF] at this
theorem Pure.adi{P:Pg}{f:FuncId}{args:List V}{vals:List Value}{vs:Array Value}{d:D}(hc:eO P.P f)(hfr:aN args [] 0=true)(ha:Jp args=some vals)(hvs:vs=vals.toArray)
  (h:∀(w:World) (F:Nat->Prop),jG P.env F w->Calls P.P f vs w λe w'=>∃v,e=.returned v∧Go.RowKit.Below w.heap.size w w'∧RD (λk=>w.heap.size≤k∧k<w'.heap.size) w' d v):Pure P f args (.d d) []:=by
 subst hvs
 refine⟨hc,hfr,Z,Nat.le_refl _,Nat.le_refl _,λw F ρ ys hF hE hH hargs=>?_⟩
 obtain rfl:=vW ha hargs
 refine (h w F hE).mono ?_
 rintro e w' ⟨v,rfl,hb,hr⟩
 obtain⟨b1,b2,b3,b4,b5⟩:=hb
 refine⟨v,ρ,λk=>F k∨(w.heap.size≤k∧k<w'.heap.size),Z,⟨b1,b2,b3,b4,λk hk _=>b5 k hk⟩,λ_ _=>rfl,λ_ hk=>.inl hk,λk hk=>?_,λk hk=>?_,RD.mono (λ_ hk=>.inr hk) (λ_ _=>rfl) hr,⟨λi c hi=>by simp at hi,λi j b hi=>absurd hi (agV _),λi b hi=>absurd hi (agV _)⟩,λi b hi=>absurd hi (agV _)⟩
 ·rcases hk with hk | hk
  ·exact Nat.lt_of_lt_of_le (hF k hk) b4
  ·exact hk.2
 ·rcases hk with hk | hk
  ·exact .inl hk
  ·exact .inr (.inl hk.1)
theorem Pure.args{P:Pg}{f:FuncId}{args args':List V}{r:V}{H':List Ch}(hp:Pure P f args r H')(hA:AEq args' args)(hfr:aN args' [] 0=true):Pure P f args' r H':=by
 obtain⟨hcall,_,yE,h1,h2,hc⟩:=hp
 exact⟨hcall,hfr,yE,h1,h2,λw F ρ vals hF hE hH hargs=>hc w F ρ vals hF hE hH (lJ hA hargs)⟩
theorem Pure.froze{P:Pg}{f:FuncId}{args:List V}{e:TypeId}{sz n:Nat}{g:Nat->List D}(hp:Pure P f args (.own 0) [.vec e sz n g]):Pure P f args (.d (.sl sz n g)) []:=by
 obtain⟨hcall,hfr,yE,_,_,hc⟩:=hp
 refine⟨hcall,hfr,Z,Nat.le_refl _,Nat.le_refl _,λw F ρ vals hF hE hH hargs=>(hc w F ρ vals hF hE hH hargs).mono ?_⟩
 rintro e w' ⟨v,ρ',F',rfl,hk,hρ,hFF,hlt,hsub,hr,DT,Dv⟩
 obtain⟨xs,k1,k2⟩:=DT.ch 0 _ Z
 obtain⟨e1,e2⟩:=(show R0 ρ' F' w' (.own 0) v from hr)
 subst e1
 refine⟨ρ' 0,ρ',λk=>F' k∨blk (ρ' 0)=some k,Z,hk,hρ,λk hk=>.inl (hFF k hk),λk hk=>?_,λk hk=>?_,AJ (ρ:=ρ') (λ_=>.inl) (λb hb=>.inr hb) k1 k2,⟨λi c hi=>by simp at hi,λi j b hi=>absurd hi (agV _),λi b hi=>absurd hi (agV _)⟩,λi b hi=>absurd hi (agV _)⟩
 ·rcases hk with hk | hk
  ·exact hlt k hk
  ·exact (DT.ch 0 _ Z).lt (aT hk)
 ·rcases hk with hk | hk
  ·exact hsub k hk
  ·exact .inr (Dv 0 k (by simp) hk)
theorem Cr.nu{P:Pg}{g:Cfg}{C:Ctx}(x:Cr P g C){s:St}{K:List Item}{Φ:Exit->St->Prop}(k:Go C K s λe s=>∃s2,LE g.fix s s2∧Φ e s2):Go C K s Φ:=
 Go.relax (λe s a w ⟨s2,h1,h2⟩ hs=>⟨s2,LE.sat (x.fix▸h1) hs,h2⟩) k
theorem adj{k:Key}{G:V->Bool->Prop}{z:V}:∀{es:List (Key×V)},G ((dV k es).getD z) (dV k es).isSome->oD k G z es
 | [],h=>h
 | (a,v)::r,h=>by
  unfold dV at h
  refine⟨λhk=>?_,λhk=>?_⟩
  ·rw[if_pos hk] at h;exact h
  ·rw[if_neg hk] at h;exact adj h
theorem adk{k:Key}{G:V->Bool->Prop}{z v:V}{es:List (Key×V)}(h:dV k es=some v)(g:G v true):oD k G z es:=adj (by rw[h];exact g)
theorem adl{k:Key}{G:V->Bool->Prop}{z:V}{es:List (Key×V)}(h:dV k es=none)(g:G z false):oD k G z es:=adj (by rw[h];exact g)
def MS(H:List (Nat×Ch)):V->V
 | .own i=>match get H i with
  | some (.vec _ sz n f)=>.d (.sl sz n f)
  | _=>.own i
 | v=>v
section
variable{C:Ctx}{s:St}{a:Act}{w:World}{ρ:Nat->Value}{F:Nat->Prop}{g:Cfg}{K:List Item}{Φ:Exit->St->Prop}
theorem MU(h:aF C s a w ρ F){q:List (Nat×Bool)}(hq:pcA a.tmps q){o:Oper}{f:FuncId}{A:List V}(hco:jL s.L q o=some (f,A)){args:List V}{r:V}{x:Value}
  (hp:Pure C.pg f args r []) (hx:valOf r=some x) (hA:AEq (A.map (V.dz (MS s.H))) args) :
  ∃vals,(execOp a.eval o).run C.P w=.ok (.enter f vals) w∧Calls C.P f vals w λe w'=>e=.returned x∧Mod none w w':=by
 obtain⟨hcall,hfr,yE,_,_,FJ⟩:=hp
 unfold jL at hco
 split at hco
 ·rename_i c hop
  split at hco
  ·rename_i fo hc
   split at hco
   ·rename_i f' caps A' he hes
    simp only[agR,agW] at hco
    obtain⟨rfl,rfl⟩:=hco
    obtain⟨cs,hcs,vR⟩:=(show R1 ρ F w (.fn f' caps) _ from (aC h hq he).1)
    have hargs:=(jB h hq hes).1
    have yR:c.args.map a.eval++cs.toArray=(c.args.toList.map a.eval++cs).toArray:=by
     cases c.args;simp
    have hall:aH (R3 ρ F w) (A'++caps) (c.args.toList.map a.eval++cs):=hargs.app (vR.mono λu v hr=>kE (jE (rQ hr)))
    let F':Nat->Prop:=λk=>F k∨xO ρ s.H k
    have hFF:∀k,F k->F' k:=λk hk=>.inl hk
    have hF':∀k,F' k->k<w.heap.size:=λk hk=>by
     rcases hk with hk | ⟨i,c,hi,e⟩
     ·exact h.lt k hk
     ·exact (h.ch i c hi).lt e
    have FK:aH (R3 ρ F' w) ((A'++caps).map (V.dz (MS s.H))) (c.args.toList.map a.eval++cs):=hall.imp λu v hu hr=>R3.map (p:=λ_=>true) (λu v _ hr=>by
     cases u with
     | own i=>
      simp only[MS]
      cases hg:get s.H i with
      | none=>exact R0.world hFF (λ_ _=>rfl) hr
      | some ch=>
       cases ch with
       | vec e sz n f=>
        obtain⟨e1,e2⟩:=hr
        obtain⟨xs,k1,k2⟩:=h.ch i _ (get_mem hg)
        subst e1
        exact AJ (ρ:=ρ) hFF (λb hb=>.inr ⟨i,_,get_mem hg,hb⟩) k1 k2
       | _=>exact R0.world hFF (λ_ _=>rfl) hr
     | _=>exact R0.world hFF (λ_ _=>rfl) hr) ((all_true (λ_=>rfl) u).2.2) hr
    have FL:=lJ hA FK
    refine⟨_,Ar hop hc hcs hcall w,?_⟩
    rw[yR]
    refine (FJ w F' ρ _ hF' (h.env.mono hFF λ_ _=>rfl) ⟨λi c hi=>by simp at hi,λi j b hi=>absurd hi (agV _),λi b hi=>absurd hi (agV _)⟩ FL).mono ?_
    rintro e w' ⟨v,ρ',F'',rfl,hk,_,_,_,_,hr3,_,_⟩
    refine⟨by rw[qM hx hr3],⟨hk.os,hk.tape,hk.output,hk.size,λk hlt _=>hk.block k hlt λ⟨i,hi,_⟩=>absurd hi (agV _)⟩⟩
   ·simp at hco
  ·simp at hco
 ·simp at hco
theorem QGo.aeM(hn:g.n=C.n){all:Array Oper}{o:Oper}{rest:List Oper}{args:List V}{r:V}{f:FuncId}{A:List V}{d:Nat}{x:Value}
  (hp:Pure C.pg f args r []) (hx:valOf r=some x) (hgd:o.guard=none) (hd:o.dst=some d) (hdn:(Nat.blt d g.n&&r.aQ (fresh 0))=true) (hco:jL s.L [] o=some (f,A)) (hA:AEq (A.map (V.dz (MS s.H))) args)
  (k:QGo C all rest {s with L:=put s.L d r} K Φ):QGo C all (o::rest) s K Φ:=by
 intro a w ρ F h
 simp only[agN] at hdn
 refine QGo.KD hgd (x:=x) (λw' hm=>?_) ?_
 ·obtain⟨vals,h1,h2⟩:=MU (h.mod hm) (dn _) hco hp hx hA
  unfold Oper.quietAt
  rw[h1]
  refine⟨Z,h2.mono ?_⟩
  rintro e w'' ⟨rfl,hm2⟩
  exact⟨Z,hm.trans hm2⟩
 ·rw[hd]
  exact k _ _ _ _ (h.put (by rw[←hn];simpa using hdn.1) (vS hx) (jr (λu hu=>cZ (Nat.zero_le _) hu) hdn.2))
end
namespace Cr
variable{P:Pg}{g:Cfg}{C:Ctx}(x:Cr P g C){s s':St}{K K':List Item}{Φ:Exit->St->Prop}{ob:List Prop}
include x
theorem zA{all:Array Oper}{l rest:List Oper}{o:Oper}{args A:List V}{r:V}{f d:Nat}{y:Value}(h:rA g all 1000 l s []=.op ob o rest s')(ho:ak ob)
  (hco:jN g s' o=some (f,A,d)) (hp:Pure P f args r []) (hy:valOf r=some y) (hr:r.aQ (fresh 0)=true) (hA:AEq (A.map (V.dz (MS s'.H))) args) (k:QGo C all rest {s' with L:=put s'.L d r} K Φ):QGo C all l s K Φ:=by
 suffices kk:QGo C all (o::rest) s' K Φ from (ug (K:=K) (Φ:=Φ) x.ty x.n 1000 l s [] (by rw[h];exact⟨ho,kk⟩)).2
 unfold jN at hco
 split at hco
 ·rename_i d' hg hd
  cases hb:Nat.blt d' g.n with
  | false=>rw[hb] at hco;simp at hco
  | true=>
   rw[hb] at hco
   simp only[cond_true] at hco
   split at hco
   ·rename_i f' A' hc
    simp only[agR,agW] at hco
    obtain⟨rfl,rfl,rfl⟩:=hco
    exact QGo.aeM x.n (x.prog▸hp) hy hg hd (by simp only[agN];exact⟨hb,hr⟩) hc hA k
   ·simp at hco
 ·simp at hco
end Cr
theorem Cx.perm{P:Pg}{g:Cfg}{C:Ctx}(x:Cx P g C){s:St}{K:List Item}{Φ:Exit->St->Prop}(is:List Nat)(hp:zx is s.m g.fix=true)(k:Go C K (Jy is s) Φ):Go C K s Φ:=λa w hs=>k a w (hs.perm (x.fix▸hp))
end Go.Sx
namespace Go.Sx
open Go.Shelf Go.RowKit Go.Proofs
section
variable{P:Program}{ρ:Ren}
end
theorem Cx.KO{P:Pg}{g:Cfg}{C:Ctx}(x:Cx P g C){s s':St}{K K':List Item}{Φ:Exit->St->Prop}{ob:List Prop}(kx:Nat)(is0 A:List Nat)(t:iG)(s2:St){id:Nat}{ops:Array Oper}(h:run g 1000 K s []=.code ob (.region id ops true) K' s')(ho:ak ob)(hm:P.P.follows .mixedOrders=true)
  (hlow:(Nat.ble g.fix kx&&Nat.ble kx s'.m&&(aJ is0 s'.H).all λq=>Nat.blt q.1 kx&&q.2.all (fresh kx))=true)
  (hB:Aw ops A t=true) (hΦ:NoPanic Φ)
  {obA:List Prop} {sA:St} (hqA:rA g ops 1000 (aW ops.toList A) ⟨s'.L,aJ is0 s'.H,s'.m⟩ []=.done obA sA) (hoA:ak obA)
  (he:∀C2,Cx P {g with fix:=kx} C2->EvT C2 ops (λs=>LE kx s s2∨∃is,zx is s.m kx=true∧LE kx (Jy is s) s2) t ⟨sA.L,fM is0 s'.H,s'.m⟩)
  (k:Go C K' ⟨s2.L,mY s2.H (aJ is0 s'.H),s2.m⟩ Φ):Go C K s Φ:=by
 simp only[agN,List.all_eq_true] at hlow
 obtain⟨⟨f1,f2⟩,hlow⟩:=hlow
 have f1:=Nat.le_of_ble_eq_true f1
 have f2:=Nat.le_of_ble_eq_true f2
 have hlow:∀i c,(i,c)∈aJ is0 s'.H->i<kx∧c.all (fresh kx)=true:=λi c hi=>⟨by simpa using (hlow (i,c) hi).1,(hlow (i,c) hi).2⟩
 refine st x.ty x.n x.fix h ⟨ho,?_⟩
 rintro a w ⟨ρ,F,hs⟩
 have hd:Mod none w {w with drawn:=w.drawn+1}:=⟨Z,Z,Z,Nat.le_refl _,λ_ _ _=>rfl⟩
 have hs1:=hs.mod hd
 generalize hw1:({w with drawn:=w.drawn+1}:World)=w1 at hs1
 let S0:World->Prop:=λw'=>∀k,k<w1.heap.size->¬eU ρ s'.H is0 k->w'.heap[k]?=w1.heap[k]?
 obtain⟨_,hmA,hrA⟩:=lg (F:=F) x.ty x.n (S:=S0) (λw' hw' k hk hlt=>hw' k hlt hk) 1000 _ _ _ hqA hoA
 refine x.KF ?_
 have hP:C.P.follows .mixedOrders=true:=x.rY.symm▸hm
 simp only[Aw,agN] at hB
 obtain⟨⟨hns,hsz⟩,hpl⟩:=hB
 have hsz:=agU hsz
 refine wp_region_any hP (wpAny_of_held (S:=S0) _ _ _ _ ?_)
 have inv0:Inv .any ops [] (Array.replicate ops.size false):=⟨by simp,λj oj _ hl=>(by rw[getD_replicate_false] at hl;cases hl),λt ht=>(by cases ht)⟩
 have key:wpAnyH C.P .any ops (den C (gP C Φ) K') S0 (A.length+t.depth) (Array.replicate ops.size false) a {w with drawn:=w.drawn+1}:=?_
 ·rw[hsz] at key;exact key
 refine lK (T:=[]) hns (λc o v a w ho hq=>o7 hΦ.quiet K' c ho v a w hq) (by rw[hw1];exact λk _ _=>rfl) (λlisted a1 inv hk hl=>?_) A _ a inv0 hpl (hrA a hs1)
 rw[hw1]
 simp only[agN] at hk
 have hl:aF C ⟨sA.L,s'.H,s'.m⟩ a1 w1 ρ F:=hl
 let C2:=C.U4 s' is0 w1 ρ F kx
 have h2f:aF C2 ⟨sA.L,fM is0 s'.H,s'.m⟩ a1 w1 ρ F:=hl.KJ (s:=⟨sA.L,s'.H,s'.m⟩) is0 f2
 have hx2:Cx P {g with fix:=kx} C2:=⟨⟨x.prog,x.n,Z,x.tys⟩,x.rd⟩
 refine EvT.zy (C:=C2) (λs a w hs=>?_) (λs3 a3 w3 hs3 hj=>?_) t.depth t listed _ a1 w1 hk.1 hk.2 (he C2 hx2) ⟨ρ,F,h2f⟩ (Nat.le_refl _)
 ·obtain⟨ρ',F',hs⟩:=hs
  exact λk hk hb=>hs.keep.block k hk hb
 ·have hs4:Sat C2 s2 a3 w3:=by
   rcases hj with hj | ⟨is,hp,hj⟩
   ·exact LE.sat hj hs3
   ·exact LE.sat hj (Sat.perm hp hs3)
  obtain⟨ρ4,F4,h4⟩:=hs4
  exact k a3 w3 ⟨ρ4,F4,hl.vZ (s:=⟨sA.L,s'.H,s'.m⟩) (x.fix▸f1) hlow h4⟩
def EvP(C:Ctx)(ops:Array Oper)(Φ1:Exit->St->Prop)(J:St->Prop):iG->St->Prop
 | .leaf,s=>J s
 | .no,_=>True
 | .fork i a b,s=>Go C [.ops ops (aW ops.toList [i]),.back (EvP C ops Φ1 J a)] s Φ1∧EvP C ops Φ1 J b s
theorem EvP.pick{C:Ctx}{ops:Array Oper}{Φ1:Exit->St->Prop}{J:St->Prop}{t:iG}{s:St}{l:Array Bool}(h:EvP C ops Φ1 J t s)(hc:t.chk ops l=true){i:Nat}(hi:i∈t.firsts) :
  ∃a,a.chk ops (l.setIfInBounds i true)=true∧a.top ops (l.setIfInBounds i true)=true∧a.depth+1≤t.depth∧Go C [.ops ops (aW ops.toList [i]),.back (EvP C ops Φ1 J a)] s Φ1:=by
 induction t with
 | leaf=>cases hi
 | no=>cases hi
 | fork j a b _ ih=>
  simp only[iG.chk,agN] at hc
  obtain⟨⟨h2,h3⟩,h4⟩:=hc
  rcases List.mem_cons.1 hi with e | hi
  ·subst e;exact⟨a,h2,h3,Nat.le_max_left _ _,h.1⟩
  ·obtain⟨c,c1,c2,c3,c4⟩:=ih h.2 h4 hi
   exact⟨c,c1,c2,Nat.le_trans c3 (Nat.le_max_right _ _),c4⟩
theorem EvP.zy{C:Ctx}{ops:Array Oper}{Φ1:Exit->St->Prop}{J:St->Prop}{Q:Exit->Act->World->Prop}{S0:World->Prop}(hS:∀s a w,Sat C s a w->S0 w)(hJ:∀s a w,Sat C s a w->J s->Q .normal a w)(hP:∀c s a w,Sat C s a w->Φ1 (.panic c) s->Q (.panic c) a w)(hno:∀s,¬Φ1 .outgrown s):∀(n:Nat) (t:iG) (l:Array Bool) (s:St) (a:Act) (w:World),t.chk ops l=true->t.top ops l=true->EvP C ops Φ1 J t s->Sat C s a w->t.depth≤n->wpAnyH C.P .any ops Q S0 n l a w
 | n,.leaf,l,s,a,w,hc,_,ht,hs,_=>by
  have hr:Region.ready .any ops l=[]:=by simpa [iG.chk] using hc
  cases n with
  | zero=>exact⟨hr,hJ s a w hs ht⟩
  | succ n=>exact⟨λ_=>hJ s a w hs ht,λi hi=>by rw[hr] at hi;cases hi⟩
 | n,.no,l,s,a,w,_,htop,_,_,_=>by simp [iG.top] at htop
 | 0,.fork i x y,l,s,a,w,_,_,_,_,hd=>by
  have:x.depth+1≤(iG.fork i x y).depth:=Nat.le_max_left _ _
  omega
 | n+1,.fork i x y,l,s,a,w,hc,htop,ht,hs,hd=>by
  have hr:(iG.fork i x y).firsts=Region.ready .any ops l:=by simpa [iG.top] using htop
  refine⟨λh=>(by rw[←hr] at h;cases h),λj hj=>?_⟩
  rw[←hr] at hj
  obtain⟨b,b1,b2,b4,b3⟩:=ht.pick hc hj
  refine Gd b3 hs (λs1 a1 w1 h1 hj1=>⟨hS s1 a1 w1 h1,EvP.zy hS hJ hP hno n b _ s1 a1 w1 b1 b2 hj1 h1 (by omega)⟩) (λc s a w h1 h2=>hP c s a w h1 h2) hno
theorem Cx.xP{P:Pg}{g:Cfg}{C:Ctx}(x:Cx P g C){s s':St}{K K':List Item}{Φ:Exit->St->Prop}{ob:List Prop}(kx:Nat)(is0 A:List Nat)(t:iG)(s2:St){id:Nat}{ops:Array Oper}(h:run g 1000 K s []=.code ob (.region id ops true) K' s')(ho:ak ob)(hm:P.P.follows .mixedOrders=true)
  (hlow:(Nat.ble g.fix kx&&Nat.ble kx s'.m&&(aJ is0 s'.H).all λq=>Nat.blt q.1 kx&&q.2.all (fresh kx))=true)
  (hB:Aw ops A t=true) (hΦ:rC ops Φ)
  {obA:List Prop} {sA:St} (hqA:rA g ops 1000 (aW ops.toList A) ⟨s'.L,aJ is0 s'.H,s'.m⟩ []=.done obA sA) (hoA:ak obA)
  (he:∀C2,Cx P {g with fix:=kx} C2->EvP C2 ops (FrP Φ (aJ is0 s'.H)) (λs=>LE kx s s2∨∃is,zx is s.m kx=true∧LE kx (Jy is s) s2) t ⟨sA.L,fM is0 s'.H,s'.m⟩)
  (k:Go C K' ⟨s2.L,mY s2.H (aJ is0 s'.H),s2.m⟩ Φ):Go C K s Φ:=by
 simp only[agN,List.all_eq_true] at hlow
 obtain⟨⟨f1,f2⟩,hlow⟩:=hlow
 have f1:=Nat.le_of_ble_eq_true f1
 have f2:=Nat.le_of_ble_eq_true f2
 have hlow:∀i c,(i,c)∈aJ is0 s'.H->i<kx∧c.all (fresh kx)=true:=λi c hi=>⟨by simpa using (hlow (i,c) hi).1,(hlow (i,c) hi).2⟩
 refine st x.ty x.n x.fix h ⟨ho,?_⟩
 rintro a w ⟨ρ,F,hs⟩
 have hd:Mod none w {w with drawn:=w.drawn+1}:=⟨Z,Z,Z,Nat.le_refl _,λ_ _ _=>rfl⟩
 have hs1:=hs.mod hd
 generalize hw1:({w with drawn:=w.drawn+1}:World)=w1 at hs1
 let S0:World->Prop:=λw'=>∀k,k<w1.heap.size->¬eU ρ s'.H is0 k->w'.heap[k]?=w1.heap[k]?
 obtain⟨_,hmA,hrA⟩:=lg (F:=F) x.ty x.n (S:=S0) (λw' hw' k hk hlt=>hw' k hlt hk) 1000 _ _ _ hqA hoA
 refine x.KF ?_
 have hP:C.P.follows .mixedOrders=true:=x.rY.symm▸hm
 simp only[Aw,agN] at hB
 obtain⟨⟨hns,hsz⟩,hpl⟩:=hB
 have hsz:=agU hsz
 refine wp_region_any hP (wpAny_of_held (S:=S0) _ _ _ _ ?_)
 have inv0:Inv .any ops [] (Array.replicate ops.size false):=⟨by simp,λj oj _ hl=>(by rw[getD_replicate_false] at hl;cases hl),λt ht=>(by cases ht)⟩
 have key:wpAnyH C.P .any ops (den C (gP C Φ) K') S0 (A.length+t.depth) (Array.replicate ops.size false) a {w with drawn:=w.drawn+1}:=?_
 ·rw[hsz] at key;exact key
 refine lK (T:=[]) hns (λc o v a w ho hq=>o7 hΦ K' c ho v a w hq) (by rw[hw1];exact λk _ _=>rfl) (λlisted a1 inv hk hl=>?_) A _ a inv0 hpl (hrA a hs1)
 rw[hw1]
 simp only[agN] at hk
 have hl:aF C ⟨sA.L,s'.H,s'.m⟩ a1 w1 ρ F:=hl
 let C2:=C.U4 s' is0 w1 ρ F kx
 have h2f:aF C2 ⟨sA.L,fM is0 s'.H,s'.m⟩ a1 w1 ρ F:=hl.KJ (s:=⟨sA.L,s'.H,s'.m⟩) is0 f2
 have hx2:Cx P {g with fix:=kx} C2:=⟨⟨x.prog,x.n,Z,x.tys⟩,x.rd⟩
 refine EvP.zy (C:=C2) (λs a w hs=>?_) (λs3 a3 w3 hs3 hj=>?_) (λc s3 a3 w3 hs3 hj=>?_) (λs h=>by obtain⟨⟨c,h⟩,_⟩:=h;cases h) t.depth t listed _ a1 w1 hk.1 hk.2 (he C2 hx2) ⟨ρ,F,h2f⟩ (Nat.le_refl _)
 ·obtain⟨ρ',F',hs⟩:=hs
  exact λk hk hb=>hs.keep.block k hk hb
 ·have hs4:Sat C2 s2 a3 w3:=by
   rcases hj with hj | ⟨is,hp,hj⟩
   ·exact LE.sat hj hs3
   ·exact LE.sat hj (Sat.perm hp hs3)
  obtain⟨ρ4,F4,h4⟩:=hs4
  exact k a3 w3 ⟨ρ4,F4,hl.vZ (s:=⟨sA.L,s'.H,s'.m⟩) (x.fix▸f1) hlow h4⟩
 ·obtain⟨ρ4,F4,h4⟩:=hs3
  rw[kT]
  exact⟨_,⟨ρ4,F4,hl.vZ (s:=⟨sA.L,s'.H,s'.m⟩) (x.fix▸f1) hlow h4⟩,hj.2.2⟩
theorem Cx.qO{P:Pg}{g:Cfg}{C:Ctx}(x:Cx P g C){s s':St}{K K':List Item}{Φ:Exit->St->Prop}{ob:List Prop}(kx:Nat)(is0 A:List Nat)(t:iG){id:Nat}{ops:Array Oper}(h:run g 1000 K s []=.code ob (.region id ops true) K' s')(ho:ak ob)(hm:P.P.follows .mixedOrders=true)
  (hlow:(Nat.ble g.fix kx&&Nat.ble kx s'.m&&(aJ is0 s'.H).all λq=>Nat.blt q.1 kx&&q.2.all (fresh kx))=true)
  (hB:Aw ops A t=true) (hΦ:rC ops Φ)
  {obA:List Prop} {sA:St} (hqA:rA g ops 1000 (aW ops.toList A) ⟨s'.L,aJ is0 s'.H,s'.m⟩ []=.done obA sA) (hoA:ak obA)
  (he:∀C2,Cx P {g with fix:=kx} C2->EvP C2 ops (FrP Φ (aJ is0 s'.H)) (λ_=>False) t ⟨sA.L,fM is0 s'.H,s'.m⟩):Go C K s Φ:=by
 simp only[agN,List.all_eq_true] at hlow
 obtain⟨⟨f1,f2⟩,hlow⟩:=hlow
 have f1:=Nat.le_of_ble_eq_true f1
 have f2:=Nat.le_of_ble_eq_true f2
 have hlow:∀i c,(i,c)∈aJ is0 s'.H->i<kx∧c.all (fresh kx)=true:=λi c hi=>⟨by simpa using (hlow (i,c) hi).1,(hlow (i,c) hi).2⟩
 refine st x.ty x.n x.fix h ⟨ho,?_⟩
 rintro a w ⟨ρ,F,hs⟩
 have hd:Mod none w {w with drawn:=w.drawn+1}:=⟨Z,Z,Z,Nat.le_refl _,λ_ _ _=>rfl⟩
 have hs1:=hs.mod hd
 generalize hw1:({w with drawn:=w.drawn+1}:World)=w1 at hs1
 let S0:World->Prop:=λw'=>∀k,k<w1.heap.size->¬eU ρ s'.H is0 k->w'.heap[k]?=w1.heap[k]?
 obtain⟨_,hmA,hrA⟩:=lg (F:=F) x.ty x.n (S:=S0) (λw' hw' k hk hlt=>hw' k hlt hk) 1000 _ _ _ hqA hoA
 refine x.KF ?_
 have hP:C.P.follows .mixedOrders=true:=x.rY.symm▸hm
 simp only[Aw,agN] at hB
 obtain⟨⟨hns,hsz⟩,hpl⟩:=hB
 have hsz:=agU hsz
 refine wp_region_any hP (wpAny_of_held (S:=S0) _ _ _ _ ?_)
 have inv0:Inv .any ops [] (Array.replicate ops.size false):=⟨by simp,λj oj _ hl=>(by rw[getD_replicate_false] at hl;cases hl),λt ht=>(by cases ht)⟩
 have key:wpAnyH C.P .any ops (den C (gP C Φ) K') S0 (A.length+t.depth) (Array.replicate ops.size false) a {w with drawn:=w.drawn+1}:=?_
 ·rw[hsz] at key;exact key
 refine lK (T:=[]) hns (λc o v a w ho hq=>o7 hΦ K' c ho v a w hq) (by rw[hw1];exact λk _ _=>rfl) (λlisted a1 inv hk hl=>?_) A _ a inv0 hpl (hrA a hs1)
 rw[hw1]
 simp only[agN] at hk
 have hl:aF C ⟨sA.L,s'.H,s'.m⟩ a1 w1 ρ F:=hl
 let C2:=C.U4 s' is0 w1 ρ F kx
 have h2f:aF C2 ⟨sA.L,fM is0 s'.H,s'.m⟩ a1 w1 ρ F:=hl.KJ (s:=⟨sA.L,s'.H,s'.m⟩) is0 f2
 have hx2:Cx P {g with fix:=kx} C2:=⟨⟨x.prog,x.n,Z,x.tys⟩,x.rd⟩
 refine EvP.zy (C:=C2) (λs a w hs=>?_) (λs3 a3 w3 hs3 hj=>?_) (λc s3 a3 w3 hs3 hj=>?_) (λs h=>by obtain⟨⟨c,h⟩,_⟩:=h;cases h) t.depth t listed _ a1 w1 hk.1 hk.2 (he C2 hx2) ⟨ρ,F,h2f⟩ (Nat.le_refl _)
 ·obtain⟨ρ',F',hs⟩:=hs
  exact λk hk hb=>hs.keep.block k hk hb
 ·exact hj.elim
 ·obtain⟨ρ4,F4,h4⟩:=hs3
  rw[kT]
  exact⟨_,⟨ρ4,F4,hl.vZ (s:=⟨sA.L,s'.H,s'.m⟩) (x.fix▸f1) hlow h4⟩,hj.2.2⟩
section
variable{C:Ctx}{s:St}{a:Act}{w w':World}{ρ:Nat->Value}{F:Nat->Prop}{g:Cfg}{K:List Item}{Φ:Exit->St->Prop}
end
end Go.Sx
namespace Go.Sx
theorem aI.rfl'(v:V):aI v v:=by
 cases v with
 | d a=>exact DEq.rfl' a
 | aD=>exact tR
 | ptr i o=>exact⟨rfl,rfl⟩
 | bD i z k o=>exact⟨rfl,rfl,rfl,rfl⟩
 | _=>exact rfl
theorem EC.rfl':∀us:List V,EC us us
 | []=>trivial
 | v::r=>⟨aI.rfl' v,EC.rfl' r⟩
theorem VEq.rfl'(v:V):VEq v v:=by
 cases v with
 | agg us=>exact EC.rfl' us
 | tup us=>exact EC.rfl' us
 | d a=>exact DEq.rfl' a
 | aD=>exact tR
 | ptr i o=>exact⟨rfl,rfl⟩
 | bD i z k o=>exact⟨rfl,rfl,rfl,rfl⟩
 | _=>exact rfl
theorem P6.rfl':∀us:List (Key×V),P6 us us
 | []=>trivial
 | v::r=>⟨rfl,aI.rfl' v.2,P6.rfl' r⟩
theorem mH.rfl'(c:Ch):mH c c:=by
 cases c with
 | box us=>exact EC.rfl' us
 | arr z n f=>exact⟨rfl,rfl,λ_ _=>rfl⟩
 | vec e z n f=>exact⟨rfl,rfl,rfl,λ_ _=>rfl⟩
 | iter s p=>exact⟨rfl,rfl⟩
 | rows=>exact⟨rfl,rfl,rfl,rfl,rfl,λ_ _=>⟨rfl,rfl,λ_ _=>rfl⟩⟩
 | held=>exact⟨rfl,rfl,rfl,rfl,rfl,aI.rfl' _,λ_ _ _=>⟨rfl,rfl,λ_ _=>rfl⟩⟩
 | tbl es=>exact P6.rfl' es
 | bld T u=>exact⟨rfl,aI.rfl' u⟩
 | pos l=>exact rfl
def Qq:List Nat->Nat->Bool
 | [],_=>false
 | a::r,t=>bif Nat.beq a t then true else Qq r t
def IU{α:Type}(ex:List Nat)(L:List (Nat×α)):List (Nat×α)->List (Option α)
 | []=>[]
 | (t,_)::r=>bif Qq ex t then IU ex L r else get L t::IU ex L r
def IV{α:Type}(ex:List Nat):List (Nat×α)->List (Option α)
 | []=>[]
 | (t,v)::r=>bif Qq ex t then IV ex r else some v::IV ex r
def onL(ex:List Nat)(L:List (Nat×V)):List (Nat×V)->Prop
 | []=>True
 | (t,v)::r=>bif Qq ex t then (match get L t with | some u=>VEq u v | none=>False)∧onL ex L r else onL ex L r
def onH(ex:List Nat)(L:List (Nat×Ch)):List (Nat×Ch)->Prop
 | []=>True
 | (t,v)::r=>bif Qq ex t then (match get L t with | some u=>mH u v | none=>False)∧onH ex L r else onH ex L r
theorem LLE.ex{el:List Nat}{L:List (Nat×V)}:∀{L':List (Nat×V)},IU el L L'=IV el L'->onL el L L'->LLE L L'
 | [],_,_=>trivial
 | (t,v)::r,h,x=>by
  unfold IU IV at h
  unfold onL at x
  cases hc:Qq el t with
  | true=>
   rw[hc] at h x
   exact⟨x.1,LLE.ex h x.2⟩
  | false=>
   rw[hc] at h x
   obtain⟨h1,h2⟩:=List.cons.inj h
   refine⟨?_,LLE.ex h2 x⟩
   rw[h1]
   exact VEq.rfl' v
theorem HLE.ex{el:List Nat}{L:List (Nat×Ch)}:∀{L':List (Nat×Ch)},IU el L L'=IV el L'->onH el L L'->HLE L L'
 | [],_,_=>trivial
 | (t,v)::r,h,x=>by
  unfold IU IV at h
  unfold onH at x
  cases hc:Qq el t with
  | true=>
   rw[hc] at h x
   exact⟨x.1,HLE.ex h x.2⟩
  | false=>
   rw[hc] at h x
   obtain⟨h1,h2⟩:=List.cons.inj h
   refine⟨?_,HLE.ex h2 x⟩
   rw[h1]
   exact mH.rfl' v
theorem LE.ex{fix:Nat}{s s':St}(el eh:List Nat)(x1:onL el s.L s'.L)(x2:onH eh s.H s'.H)(h1:IU el s.L s'.L=IV el s'.L:=by exact Z)(h2:IU eh s.H s'.H=IV eh s'.H:=by exact Z)(ok:okS fix s'=true:=by exact Z):LE fix s s':=
 ⟨.ex h1 x1,.ex h2 x2,ok⟩
theorem LE.is{fix:Nat}{s s':St}(h1:IU [] s.L s'.L=IV [] s'.L:=by exact Z)(h2:IU [] s.H s'.H=IV [] s'.H:=by exact Z)(ok:okS fix s'=true:=by exact Z):LE fix s s':=
 ⟨.ex (el:=[]) h1 (by generalize s'.L=l;induction l with | nil=>exact tR | cons e r ih=>exact ih),.ex (el:=[]) h2 (by generalize s'.H=l;induction l with | nil=>exact tR | cons e r ih=>exact ih),ok⟩
def SN(L:List (Nat×V)):List Nat->List (Nat×V)
 | []=>[]
 | t::r=>match get L t with
  | some v=>(t,v)::SN L r
  | none=>SN L r
def ab4:List (Nat×Ch)->List (Nat×Ch)->List (Nat×Ch)
 | [],H=>H
 | (i,_)::r,H=>ab4 r (nM i H)
def ab5(H:List (Nat×Ch)):List (Nat×Ch)->List (Nat×Ch)->List (Nat×Ch)
 | a,[]=>ab4 a H
 | a,e::r=>e::ab5 H a r
def St.at(s:St)(ks:List Nat)(ls:List (Nat×V))(hs:List (Nat×Ch)):St:=⟨mY ls (SN s.L ks),ab5 s.H hs hs,s.m⟩
def St.on(s:St)(ks:List Nat)(ls:List (Nat×V))(hs:List (Nat×Ch))(m:Nat):St:=⟨mY ls (SN s.L ks),hs,m⟩
def St.ch(s:St)(id:Nat):Ch:=match get s.H id with
 | some c=>c
 | none=>.box []
theorem viE{a b:Int}(h:a=b):aI (vi a) (vi b):=by subst h;exact rfl
theorem vbE{a b:Bool}(h:a=b):aI (vb a) (vb b):=by subst h;exact rfl
section
variable{P:Pg}{g:Cfg}{C:Ctx}{s s':St}{K K':List Item}{Φ:Exit->St->Prop}{ob:List Prop}
def adn(n i fix:Nat)(I:Nat->St)(s:St):Prop:=∃z:{j:Nat // j≤n},n-z.1<n-i∧LE fix s (I z.1)
def ab6(n i fix:Nat)(Q:Nat->Prop)(I:Nat->St)(s:St):Prop:=∃z:{j:Nat // j≤n∧Q j},n-z.1<n-i∧LE fix s (I z.1)
theorem upN{n i fix:Nat}{I:Nat->St}(h:i<n)(k:LE fix s (I (i+1))):adn n i fix I s:=
 ⟨⟨i+1,h⟩,by show n-(i+1)<n-i;omega,k⟩
theorem Cr.forN(x:Cr P g C)(n:Nat)(I:St->Nat->St){c:Code}(h:run g 1000 K s []=.loop ob c K' s')(ho:ak ob)(h0:LE g.fix s' (I s' 0))
  (hr:∀i,i≤n->Go C (.code c::.back (adn n i g.fix (I s'))::K') (I s' i) Φ):Go C K s Φ:=
 x.loop (α:={j:Nat // j≤n}) (λy=>I s' y.1) (λy=>n-y.1) ⟨0,Nat.zero_le _⟩ h ho h0 λy=>hr y.1 y.2
theorem Cr.for(x:Cr P g C)(n:Nat)(I:St->Nat->St){c cx cy:Code}{Kx:Nat->List Item}{sx:Nat->St}{oc:Nat->List Prop}(h:run g 1000 K s []=.loop ob c K' s')(ho:ak ob)(h0:LE g.fix s' (I s' 0))
  (hc:∀i,run g 1000 (.code c::.back (adn n i g.fix (I s'))::K') (I s' i) []=.cond (oc i) (decide ((i:Int)<(n:Int))) cx cy (Kx i) (sx i)) (hob:∀i,ak (oc i))
  (hr:∀i,i<n->Go C (.code cx::Kx i) (sx i) Φ) (he:Go C (.code cy::Kx n) (sx n) Φ):Go C K s Φ:=
 x.forN n I h ho h0 λi hi=>x.cond (hc i) (hob i) (λe=>hr i (by have:=agP e;omega)) λe=>by
  have:i=n:=by have:=agQ e;omega
  subst this;exact he
theorem upQ{n i fix:Nat}{Q:Nat->Prop}{I:Nat->St}(h:i<n)(q:Q (i+1))(k:LE fix s (I (i+1))):ab6 n i fix Q I s:=
 ⟨⟨i+1,h,q⟩,by show n-(i+1)<n-i;omega,k⟩
theorem Cr.aeN(x:Cr P g C)(n:Nat)(Q:Nat->Prop)(I:St->Nat->St){c cx cy:Code}{Kx:Nat->List Item}{sx:Nat->St}{oc:Nat->List Prop}(h:run g 1000 K s []=.loop ob c K' s')(ho:ak ob)(q0:Q 0)(h0:LE g.fix s' (I s' 0))
  (hc:∀i,run g 1000 (.code c::.back (ab6 n i g.fix Q (I s'))::K') (I s' i) []=.cond (oc i) (decide ((i:Int)<(n:Int))) cx cy (Kx i) (sx i)) (hob:∀i,ak (oc i))
  (hr:∀i,i<n->Q i->Go C (.code cx::Kx i) (sx i) Φ) (he:Q n->Go C (.code cy::Kx n) (sx n) Φ):Go C K s Φ:=
 x.loop (α:={j:Nat // j≤n∧Q j}) (λy=>I s' y.1) (λy=>n-y.1) ⟨0,Nat.zero_le _,q0⟩ h ho h0 λy=>x.cond (hc y.1) (hob y.1) (λe=>hr y.1 (by have:=agP e;omega) y.2.2) λe=>by
  obtain⟨i,hi,hq⟩:=y
  have:i=n:=by have:=agQ e;simp only at this;omega
  subst this;exact he hq
theorem Cr.dec(x:Cr P g C){p:Prop}[Decidable p]{c1 c2:Code}(h:run g 1000 K s []=.cond ob (decide p) c1 c2 K' s')(ho:ak ob)(h1:p->Go C (.code c1::K') s' Φ)(h2:¬p->Go C (.code c2::K') s' Φ):Go C K s Φ:=
 x.cond h ho (λe=>h1 (agP e)) λe=>h2 (agQ e)
theorem Cx.ev2(x:Cx P g C)(is0 A:List Nat)(t:iG)(f:St->St){id:Nat}{ops:Array Oper}(h:run g 1000 K s []=.code ob (.region id ops true) K' s')(ho:ak ob)(hm:P.P.follows .mixedOrders=true)
 (hB:Aw ops A t=true) (hΦ:NoPanic Φ)
 {obA:List Prop} {sA:St} (hqA:rA g ops 1000 (aW ops.toList A) ⟨s'.L,aJ is0 s'.H,s'.m⟩ []=.done obA sA) (hoA:ak obA)
 (he:∀C2,Cx P {g with fix:=s'.m} C2->EvT C2 ops (λs=>LE s'.m s (f s')∨∃is,zx is s.m s'.m=true∧LE s'.m (Jy is s) (f s')) t ⟨sA.L,fM is0 s'.H,s'.m⟩)
 (k:Go C K' ⟨(f s').L,mY (f s').H (aJ is0 s'.H),(f s').m⟩ Φ):Go C K s Φ:=x.rE is0 A t (f s') h ho hm hB hΦ hqA hoA he k
end
end Go.Sx
