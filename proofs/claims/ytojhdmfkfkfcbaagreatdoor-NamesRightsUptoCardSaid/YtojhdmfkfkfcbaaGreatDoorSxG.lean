import Derived.Test.YtojhdmfkfkfcbaaGreatDoorSxF
import Derived.Recover
import Derived.Shelf.Strings.Builder1
import Derived.Shelf.Strings.OnBuilder
import Derived.RangeFuncSeq
set_option linter.unusedSimpArgs false
set_option linter.unusedVariables false
namespace Go.Sx
section
variable{P:Program}{ops:Array Oper}{md:Region.Mode}{Q:Exit->Act->World->Prop}{T:List Nat}{S S0:World->Prop}
theorem Dj{g:Nat}{L:Array Bool->Act->World->Prop}(hSS:∀w,S w->S0 w)(hL:∀listed a w,L listed a w->wpAnyH P md ops Q S0 g listed a w) :
  ∀(f:Nat) (listed:Array Bool) (a:Act) (w:World),yF P md ops Q S T L f listed a w->wpAnyH P md ops Q S0 (f+g) listed a w
 | 0,listed,a,w,h=>by rw[Nat.zero_add];exact hL _ _ _ h
 | f+1,listed,a,w,h=>by
  rw[show f+1+g=(f+g)+1 by omega]
  exact⟨λh0=>absurd h0 h.1,λi hi=>wpOp_mono (λa' w' h'=>⟨hSS _ h'.1,Dj hSS hL f _ a' w' h'.2⟩) (h.2 i hi).2⟩
theorem Fy:∀(T:List Nat) (listed:Array Bool) (a:Act) (w:World),vJ md ops T listed=true->jV P ops Q S0 (λa w=>Q .normal a w) T a w->wpAnyH P md ops Q S0 T.length listed a w
 | [],listed,a,w,h,hc=>⟨by simpa [vJ] using h,hc⟩
 | i::r,listed,a,w,h,hc=>by
  simp only[vJ,afF,afL] at h
  refine⟨λh1=>(by rw[h.1] at h1;cases h1),λk hk=>?_⟩
  rw[h.1] at hk
  obtain rfl:=List.mem_singleton.1 hk
  exact wpOp_mono (λa' w' h'=>⟨h'.1,Fy r _ a' w' h.2 h'.2⟩) hc
theorem lD(hs:Region.noSelect ops=true)(hQ:∀c (o:Oper) v a w,o∈ops.toList->Q (.panic c) (a.put o.dst v) w->Q (.panic c) a w){f:Nat}{k:Array Bool->Bool}{R:Act->Prop}{w:World}(hw:S0 w)
  (hk:∀listed a,Inv md ops T listed->k listed=true->R a->wpAnyH P md ops Q S0 f listed a w) :
  ∀(A:List Nat) (listed:Array Bool) (a:Act),Inv md ops T listed->uO md ops T A listed k=true->iJ P ops S0 R (aU ops.toList A) a->wpAnyH P md ops Q S0 (A.length+f) listed a w
 | [],listed,a,inv,hp,h=>by rw[List.length_nil,Nat.zero_add];exact hk _ _ inv hp h
 | i::r,listed,a,inv,hp,h=>by
  simp only[uO,afF] at hp
  obtain⟨o,ho,hr,hf,hiT⟩:=o7 hp.1
  rw[oH (by simpa using ho)] at h
  obtain⟨v,hy,hK⟩:=h
  rw[show (i::r).length+f=(r.length+f)+1 by simp;omega]
  exact wpAnyH_take ho hs hf (by simpa using hr) (λc a w=>hQ c o _ a w (Pt ho)) hy hw (lD hs hQ hw hk r _ _ (inv.set hr hiT) hp.2 hK)
def Pv(md:Region.Mode)(ops:Array Oper)(A B E T:List Nat):Bool:=
 Region.noSelect ops&&Nat.beq (A.length+B.length+E.length+T.length) ops.size&&!T.isEmpty&&vK md ops (oZ T) (mF B E)&&oW md ops T&&
 uO md ops T A (Array.replicate ops.size false) λl=>uO md ops T B l λl=>Ud md ops T E l
theorem D6{id:Nat}{a:Act}{w:World}{A B E T:List Nat}(hm:P.follows .mixedOrders=true)(hp:Pv .any ops A B E T=true)(hQ:∀c (o:Oper) v a w,o∈ops.toList->Q (.panic c) (a.put o.dst v) w->Q (.panic c) a w)
  (hS0:S0 {w with drawn:=w.drawn+1}) (hS:S {w with drawn:=w.drawn+1}) (hSS:∀w,S w->S0 w)
  (h:iJ P ops S0 (λa1=>iJ P ops S (λa2=>jV P ops Q S (λa w=>jV P ops Q S0 (λa w=>Q .normal a w) T a w) E a2 {w with drawn:=w.drawn+1}) (aU ops.toList B) a1) (aU ops.toList A) a):(Code.region id ops true).wp P Q a w:=by
 simp only[Pv,afF] at hp
 obtain⟨⟨⟨⟨⟨hs,hsz⟩,hT⟩,hsk⟩,hch⟩,hpl⟩:=hp
 refine wp_region_any hm (wpAny_of_held (S:=S0) _ _ _ _ ?_)
 have inv0:Inv .any ops T (Array.replicate ops.size false):=⟨by simp,λj oj _ hl=>(by rw[getD_replicate_false] at hl;cases hl),λt _=>getD_replicate_false _ _⟩
 have hsz:=afM hsz
 have e:A.length+(B.length+E.length+T.length)=ops.size:=by omega
 have key:wpAnyH P .any ops Q S0 (A.length+(B.length+E.length+T.length)) (Array.replicate ops.size false) a {w with drawn:=w.drawn+1}:=?_
 ·rw[e] at key;exact key
 refine lD (T:=T) hs hQ hS0 (λlisted a inv hk hl=>?_) A _ a inv0 hpl h
 have hB:=vO (md:=.any) hs hsk hch hQ hS B listed a (λi hi=>(by rw[tV];exact List.mem_append_left _ hi)) inv hk hl
 exact Dj (g:=T.length) hSS (λl a' w' hL=>Fy T l a' w' hL.1 hL.2) _ _ _ _ hB
end
theorem Fz{C1:Ctx}{Q:Exit->Act->World->Prop}{ops:Array Oper}{i:Nat}{J:St->Prop}{Φ1:Exit->St->Prop}{s1:St}{a:Act}{w:World}{R:Act->World->Prop}
  (hgo:Go C1 [.ops ops (aU ops.toList [i]),.back J] s1 Φ1) (hs:Sat C1 s1 a w) (hJ:∀s a w,Sat C1 s a w->J s->R a w) (hp:∀c s a w,Sat C1 s a w->Φ1 (.panic c) s->Q (.panic c) a w) (hog:∀s,¬Φ1 .outgrown s):wpOp C1.P ops Q i R a w:=by
 have h5:wpList C1.P ops (den C1 (gB C1 Φ1) [.back J]) (aU ops.toList [i]) a w:=(show fU C1.rd C1.P ops (den C1 (gB C1 Φ1) [.back J]) (aU ops.toList [i]) a w from hgo a w hs).1
 have hK:∀a w,den C1 (gB C1 Φ1) [.back J] .normal a w->R a w:=λa w ⟨s,h1,h2⟩=>hJ s a w h1 h2
 have hpp:∀c a w,den C1 (gB C1 Φ1) [.back J] (.panic c) a w->Q (.panic c) a w:=λc a w ⟨s,h1,h2⟩=>hp c s a w h1 h2
 have hoo:∀a w,¬den C1 (gB C1 Φ1) [.back J] .outgrown a w:=λa w ⟨s,_,h2⟩=>hog s h2
 unfold wpOp
 cases ho:ops[i]? with
 | none=>
  simp only[aU,Array.getElem?_toList,ho] at h5
  exact hK _ _ h5
 | some o=>
  simp only[aU,Array.getElem?_toList,ho] at h5
  unfold wpList at h5
  simp only
  split at h5
  ·rename_i hw
   rw[if_pos hw]
   rcases h5 with h5 | ⟨_,a4,w4,h6⟩
   ·exact .inl (Oper.yG (λa w h=>hK a w h) hpp hoo h5)
   ·exact absurd h6 (hoo a4 w4)
  ·rename_i hw
   rw[if_neg hw]
   exact hK _ _ h5
def Pw(C C2:Ctx)(ops:Array Oper)(K:List Item)(Φ:Exit->St->Prop)(FB:List (Nat×Ch)):List Nat->St->Prop
 | [],s=>Go C K ⟨s.L,mF s.H FB,s.m⟩ Φ
 | i::r,s=>Go C2 [.ops ops (aU ops.toList [i]),.back (Pw C C2 ops K Φ FB r)] s (FrP Φ FB)
def Px(C C1 C2:Ctx)(ops:Array Oper)(T:List Nat)(K:List Item)(Φ:Exit->St->Prop)(FB Xk:List (Nat×Ch)):List Nat->St->Prop
 | [],s=>Pw C C2 ops K Φ FB T ⟨s.L,mF s.H Xk,s.m⟩
 | i::r,s=>Go C1 [.ops ops (aU ops.toList [i]),.back (Px C C1 C2 ops T K Φ FB Xk r)] s (FrP (FrP Φ FB) Xk)
theorem yH{P:Program}{ops:Array Oper}{S:World->Prop}{R R':Act->Prop}(hR:∀a,R a->R' a):∀(l:List Oper) (a:Act),iJ P ops S R l a->iJ P ops S R' l a
 | [],a,h=>hR a h
 | _::r,a,⟨v,h1,h2⟩=>⟨v,h1,yH hR r _ h2⟩
theorem Cx.Rx{P:Pg}{g:Cfg}{C:Ctx}(x:Cx P g C){s s':St}{K K':List Item}{Φ:Exit->St->Prop}{ob:List Prop}(is0:List Nat)(k0:Nat)(is A B E T:List Nat){id:Nat}{ops:Array Oper}(h:run g 1000 K s []=.code ob (.region id ops true) K' s')(ho:ak ob)(hm:P.P.follows .mixedOrders=true)(hB:Pv .any ops A B E T=true)(hΦ:q9 ops Φ)
  (hfr:(Nat.ble k0 s'.m&&Nat.ble g.fix k0&&(aI is0 s'.H).all λe=>Nat.blt e.1 k0&&e.2.all (fresh k0))=true)
  {obA:List Prop} {sA:St} (hqA:qx g ops 1000 (aU ops.toList A) ⟨s'.L,aI is0 s'.H,s'.m⟩ []=.done obA sA) (hoA:ak obA)
  {obB:List Prop} {sB:St} (hqB:qx g ops 1000 (aU ops.toList B) ⟨sA.L,aI is s'.H,s'.m⟩ []=.done obB sB) (hoB:ak obB)
  (k:∀C1 C2,Cx P {g with fix:=s'.m} C1->Cx P {g with fix:=k0} C2->Px C C1 C2 ops T K' Φ (aI is0 s'.H) (aI is (eO is0 s'.H)) E ⟨sB.L,eO is (eO is0 s'.H),s'.m⟩):Go C K s Φ:=by
 refine st x.ty x.n x.fix h ⟨ho,?_⟩
 rintro a w ⟨ρ,F,hs⟩
 have hd:Mod none w {w with drawn:=w.drawn+1}:=⟨Z,Z,Z,Nat.le_refl _,λ_ _ _=>rfl⟩
 have hs1:=hs.mod hd
 generalize hw1:({w with drawn:=w.drawn+1}:World)=w1 at hs1
 simp only[afF,List.all_eq_true] at hfr
 obtain⟨⟨f1,f2⟩,f3⟩:=hfr
 have f1:k0≤s'.m:=by simpa using f1
 have f2:C.fix≤k0:=by rw[←x.fix];simpa using f2
 have hlow:∀i c,(i,c)∈aI is0 s'.H->i<k0∧c.all (fresh k0)=true:=λi c hi=>by
  have:=f3 (i,c) hi
  simpa using this
 let S0:World->Prop:=λw'=>∀k,k<w1.heap.size->¬eu ρ s'.H is0 k->w'.heap[k]?=w1.heap[k]?
 let S:World->Prop:=λw'=>∀k,k<w1.heap.size->¬eu ρ (eO is0 s'.H) is k->w'.heap[k]?=w1.heap[k]?
 have hSS:∀w',S w'->S0 w':=λw' hw' k hk hb=>hw' k hk λ⟨i,c,h1,h2,h3⟩=>hb ⟨i,c,(bU h2).2,(bU h2).1,h3⟩
 obtain⟨_,_,hrA⟩:=kV (F:=F) x.ty x.n (S:=S0) (λw' hw' k hk hlt=>hw' k hlt hk) 1000 _ _ _ hqA hoA
 obtain⟨_,_,hrB⟩:=kV (F:=F) (ρ:=ρ) (w:=w1) x.ty x.n (S:=S) (is:=is) (H0:=s'.H) (λw' hw' k hk hlt=>hw' k hlt λ⟨i,c,h1,h2,h3⟩=>hk ⟨i,c,h1,(bU h2).1,h3⟩) 1000 _ _ _ hqB hoB
 refine x.J5 ?_
 have hP:C.P.follows .mixedOrders=true:=x.rV.symm▸hm
 refine D6 (S:=S) (S0:=S0) hP hB (λc o v a w ho hq=>oK hΦ K' c ho v a w hq) (by rw[hw1];exact λk _ _=>rfl) (by rw[hw1];exact λk _ _=>rfl) hSS ?_
 rw[hw1]
 refine yH (λa1 h1=>yH (λa2 h2=>?_) _ a1 (hrB a1 h1)) _ a (hrA a hs1)
 let C2:=C.Ue s' is0 w1 ρ F k0
 let s2:St:=⟨sB.L,eO is0 s'.H,s'.m⟩
 have h2f:aG C2 s2 a2 w1 ρ F:=h2.Ka (s:=⟨sB.L,s'.H,s'.m⟩) is0 f1
 let C1:=C2.sub s2 is w1 ρ F
 have hx1:Cx P {g with fix:=s'.m} C1:=⟨⟨x.prog,x.n,Z,x.tys⟩,x.rd⟩
 have hx2:Cx P {g with fix:=k0} C2:=⟨⟨x.prog,x.n,Z,x.tys⟩,x.rd⟩
 have Xl:∀{s3 a3 w3 ρ3 F3},aG C2 s3 a3 w3 ρ3 F3->aG C ⟨s3.L,mF s3.H (aI is0 s'.H),s3.m⟩ a3 w3 ρ3 F3:=λh3=>h2.vP (s:=⟨sB.L,s'.H,s'.m⟩) f2 hlow h3
 have aa8:∀{s3 a3 w3 ρ3 F3},aG C1 s3 a3 w3 ρ3 F3->aG C2 ⟨s3.L,mF s3.H (aI is (eO is0 s'.H)),s3.m⟩ a3 w3 ρ3 F3:=λh3=>h2f.Ef (s:=s2) h3
 have tail:∀(T:List Nat) (s3:St) (a3:Act) (w3:World),Sat C2 s3 a3 w3->Pw C C2 ops K' Φ (aI is0 s'.H) T s3->jV C.P ops (den C (gB C Φ) K') S0 (λa w=>den C (gB C Φ) K' .normal a w) T a3 w3:=by
  intro T
  induction T with
  | nil=>rintro s3 a3 w3 ⟨ρ3,F3,h3⟩ hgo;exact hgo a3 w3 ⟨ρ3,F3,Xl h3⟩
  | cons i r ih=>
   intro s3 a3 w3 h3 hgo
   refine Fz (C1:=C2) hgo h3 (λs4 a4 w4 h4 hj=>⟨?_,ih s4 a4 w4 h4 hj⟩) (λc s4 a4 w4 h4 hp=>?_) (λs4 hp=>by obtain⟨⟨c,hc⟩,_⟩:=hp;cases hc)
   ·obtain⟨ρ4,F4,h4⟩:=h4
    exact λk hk hb=>h4.keep.block k hk hb
   ·obtain⟨ρ4,F4,h4⟩:=h4
    obtain⟨_,hl,Xi⟩:=hp
    rw[kN]
    have h6:=Xl h4
    exact⟨_,⟨ρ4,F4,h6⟩,Xi⟩
 have key:∀(E:List Nat) (s3:St) (a3:Act) (w3:World),Sat C1 s3 a3 w3->Px C C1 C2 ops T K' Φ (aI is0 s'.H) (aI is (eO is0 s'.H)) E s3->jV C.P ops (den C (gB C Φ) K') S (λa w=>jV C.P ops (den C (gB C Φ) K') S0 (λa w=>den C (gB C Φ) K' .normal a w) T a w) E a3 w3:=by
  intro E
  induction E with
  | nil=>rintro s3 a3 w3 ⟨ρ3,F3,h3⟩ hgo;exact tail T _ a3 w3 ⟨ρ3,F3,aa8 h3⟩ hgo
  | cons i r ih=>
   intro s3 a3 w3 h3 hgo
   refine Fz (C1:=C1) hgo h3 (λs4 a4 w4 h4 hj=>⟨?_,ih s4 a4 w4 h4 hj⟩) (λc s4 a4 w4 h4 hp=>?_) (λs4 hp=>by obtain⟨⟨c,hc⟩,_⟩:=hp;cases hc)
   ·obtain⟨ρ4,F4,h4⟩:=h4
    exact λk hk hb=>h4.keep.block k hk hb
   ·obtain⟨ρ4,F4,h4⟩:=h4
    obtain⟨_,hl,_,_,Xi⟩:=hp
    rw[kN]
    have h6:=Xl (aa8 h4)
    exact⟨_,⟨ρ4,F4,h6⟩,Xi⟩
 exact key E _ a2 w1 ⟨ρ,F,h2f.frame (s:=s2) is⟩ (k C1 C2 hx1 hx2)
inductive Md where
 | back
 | pan (t:TypeId) (ns:List (IntKind×Int))
def Md.mode:Md->FrameMode
 | .back=>.returning
 | .pan t ns=>.panicking (Hy t ns)
def Md.done:Md->FrameMode
 | .back=>.returning
 | .pan t ns=>.panicking [{v:=ZP t ns,recovered:=true}]
def Md.got:Md->D
 | .back=>.ni
 | .pan t ns=>.ifc t ns
def Md.qY:Md->Value
 | .back=>.nilIface
 | .pan t ns=>ZP t ns
def Md.ends:Md->Exit->Prop
 | .back,e=>e=.normal∨e=.ret
 | .pan t ns,e=>e=.panic (Hy t ns)
theorem Md.Xm{F:Nat->Prop}{w:World}:∀md:Md,RD F w md.got md.qY
 | .back=>.ni
 | .pan t ns=>.ifc t ns
theorem Md.settled:∀md:Md,settle md.done=.returning
 | .back=>rfl
 | .pan t ns=>rfl
theorem Md.ab3:∀md:Md,md.mode≠.run
 | .back=>by simp [Md.mode]
 | .pan t ns=>by simp [Md.mode]
theorem Md.recovers(md:Md)(c:Frame)(cs:List Frame)(h:c.mode=md.mode):(match recoverD (c::cs) with | some (v,cs')=>v=md.qY∧cs'={c with mode:=md.done}::cs | none=>md.qY=.nilIface∧c::cs={c with mode:=md.done}::cs):=by
 cases md with
 | back=>
  have h:c.mode=.returning:=h
  simp only[recoverD,h]
  exact⟨rfl,by cases c;simp_all [Md.done]⟩
 | pan t ns=>
  have h:c.mode=.panicking (Hy t ns):=h
  simp only[recoverD,h,Hy]
  exact⟨Z,Z⟩
def Later(P:Pg)(f:FuncId)(args:List V)(H:List Ch)(md:Md)(H':List Ch):Prop:=
 iN P.P f∧aM args H H.length=true∧aM [.tup []] H' H'.length=true∧H.length≤H'.length∧
 ∀(w:World) (F:Nat->Prop) (ρ:Nat->Value) (vals:List Value),(∀k,F k->k<w.heap.size)->jv P.env F w->Holds ρ F w H->aH (R3 ρ F w) args vals->
  CallsD P.P f vals.toArray md.mode w λe u w'=>u=md.done∧Post w F ρ H.length H (.tup []) H' e w'
def Uf(P:Pg)(g:Cfg)(w:World)(F:Nat->Prop)(ρ:Nat->Value)(H:List Ch)(ds:List Deferred):Ctx:={P:=P.P,env:=P.env,n:=g.n,w0:=w,E:=ownB ρ H,F0:=F,ρ0:=ρ,fix:=g.fix,defs:=ds}
section
variable{P:Pg}{g:Cfg}{fn:Func}{args:List V}{H H':List Ch}{w:World}{F:Nat->Prop}{ρ:Nat->Value}{vals:List Value}
theorem IW(hF:∀k,F k->k<w.heap.size)(hE:jv P.env F w)(hH:Holds ρ F w H)(hargs:aH (R3 ρ F w) args vals)(hn:g.n=fn.ntmps)(hlen:Nat.ble args.length g.n=true)(hfr:aM args H H.length=true)(hfx:Nat.ble g.fix H.length=true) :
  aG (Uf P g w F ρ H []) ⟨ixV 0 args,ixC 0 H,H.length⟩ {tmps:=vals.toArray++Array.replicate (fn.ntmps-vals.toArray.size) undef,defers:=[]} w ρ F:=by
 have WU:g.fix≤H.length:=by simpa using hfx
 have hlen':args.length≤g.n:=by simpa using hlen
 have hvl:=hargs.length
 simp only[aM,afF,List.all_eq_true] at hfr
 refine {size:=?_,defers:=.start Z,slot:=?_,ch:=?_,sep:=?_,out:=?_,aR:=?_,aK:=?_,lt:=hF,mine:=?_,sub:=λk hk=>.inl hk,base:=λ_ hk=>hk,bW:=⟨WU,λ_ _=>rfl⟩,keep:=⟨Z,Z,Z,Nat.le_refl _,λ_ _ _=>rfl⟩,env:=hE}
 ·simp only[Array.size_append,List.size_toArray,Array.size_replicate]
  show _=g.n
  omega
 ·intro t v hv
  obtain⟨_,hv⟩:=tJ hv
  obtain⟨x,hx,hr⟩:=hargs.get hv
  refine⟨x,?_,iF hr⟩
  simp only[Nat.sub_zero] at hx
  have:t<vals.length:=(List.getElem?_eq_some_iff.1 hx).1
  rw[Array.getElem?_append_left (by simpa using this)]
  simpa using hx
 ·intro i c hc
  obtain⟨_,hc⟩:=fu hc
  exact hH.ch i c (by simpa using hc)
 ·intro i j ci cj b hi hj hij e
  obtain⟨_,hi⟩:=fu hi
  obtain⟨_,hj⟩:=fu hj
  exact λe2=>hH.sep i j b (by simpa using (List.getElem?_eq_some_iff.1 hi).1) (by simpa using (List.getElem?_eq_some_iff.1 hj).1) hij (dF (hfr.2 ci (List.mem_of_getElem? hi)).2 e) (dF (hfr.2 cj (List.mem_of_getElem? hj)).2 e2)
 ·intro i ci b hi e
  obtain⟨_,hi⟩:=fu hi
  exact hH.out i b (by simpa using (List.getElem?_eq_some_iff.1 hi).1) (dF (hfr.2 ci (List.mem_of_getElem? hi)).2 e)
 ·intro t v hv
  obtain⟨_,hv⟩:=tJ hv
  obtain⟨x,hx,hr⟩:=hargs.get hv
  have:=hfr.1 v (List.mem_of_getElem? hv)
  cases v<;>first | exact this | exact (show False from hr).elim
 ·intro i ci hi
  obtain⟨_,hi⟩:=fu hi
  exact⟨by simpa using (List.getElem?_eq_some_iff.1 hi).1,(hfr.2 ci (List.mem_of_getElem? hi)).1⟩
 ·intro i ci b hi e
  obtain⟨_,hi⟩:=fu hi
  exact .inr ⟨i,by simpa using (List.getElem?_eq_some_iff.1 hi).1,dF (hfr.2 ci (List.mem_of_getElem? hi)).2 e⟩
theorem FC{rs:List ResultVar}{ids:List Nat}{r:V}{ds:List Deferred}(hg:bO P.P g.tys)(hrs:fn.results=rs.toArray)(xG:aM [r] H' H'.length=true){s':St}{a':Act}{w':World}{ρ':Nat->Value}{F':Nat->Prop}(h':aG (Uf P g w F ρ H ds) s' a' w' ρ' F'){e:Exit}(hret:Ret g rs ids r H' e s') :
  ∃y,(results fn a'.tmps).run P.P w'=.ok y w'∧Post w F ρ g.fix H r H' (.returned y) w':=by
 obtain⟨_,hr,hH',hok⟩:=hret
 cases hres:iG g s' rs with
 | none=>rw[hres] at hr;exact hr.elim
 | some r0=>
  rw[hres] at hr
  obtain⟨y,h1,h2⟩:=IJ (C:=Uf P g w F ρ H ds) hg h' hrs hres
  simp only[WT,afF] at hok
  obtain⟨⟨o1,o2⟩,o3⟩:=hok
  have o1:=afM o1
  have hy:=wU hr h1
  simp only[aM,afF,List.all_eq_true] at xG
  have WW:∀i,i<H'.length->ρ' (nth ids i)=(λi=>ρ' (nth ids i)) i:=λ_ _=>rfl
  have hex:∀i,i<H'.length->∃c,H'[i]?=some c∧∃c0,(nth ids i,c0)∈s'.H∧mE c0 (c.map (bZ ids)):=λi hi=>by
   obtain⟨c0,k1,k2⟩:=nZ o1 hH' (afG hi)
   exact⟨_,afG hi,c0,k1,k2⟩
  refine⟨y,h2,y,λi=>ρ' (nth ids i),F',Z,h'.keep,?_,λk hk=>?_,h'.lt,h'.sub,?_,?_,?_⟩
  ·intro i hi
   show ρ' (nth ids i)=ρ i
   rw[Bp o3 i hi,Nat.zero_add]
   exact h'.bW.2 i hi
  ·exact h'.base k hk
  ·exact R3.dO WW (xG.1 r (by simp)) hy
  ·refine⟨λi c hc=>?_,λi j b hi hj hij e=>?_,λi b hi e=>?_⟩
   ·have hi:=(List.getElem?_eq_some_iff.1 hc).1
    obtain⟨c',hc',c0,k1,k2⟩:=hex i hi
    rw[hc] at hc'
    obtain rfl:=afK hc'
    exact iV.dO WW hi (xG.2 c (List.mem_of_getElem? hc)).1 (iW k2 (h'.ch _ _ k1))
   ·obtain⟨_,_,c0,k1,_⟩:=hex i hi
    obtain⟨_,_,c1,k3,_⟩:=hex j hj
    exact λe2=>h'.sep _ _ c0 c1 b k1 k3 (gK o2 i j (by omega) (by omega) hij) (aT e) (aT e2)
   ·obtain⟨_,_,c0,k1,_⟩:=hex i hi
    exact h'.out _ c0 b k1 (aT e)
  ·intro i b hi e
   obtain⟨_,_,c0,k1,_⟩:=hex i hi
   exact h'.mine _ c0 b k1 (aT e)
end
theorem Later.mk{P:Pg}(g:Cfg)(xI:bO P.P g.tys)(ids:List Nat){f:FuncId}{fn:Func}{id d1 d2:Nat}{o1 o2:Oper}{rest:Code}{args:List V}{H H':List Ch}{md:Md}
  (hf:P.P.funcs[f]?=some fn) (hb:fn.body=some (.seq (.region id #[o1,o2] false) rest)) (hname:(fn.name == "runtime.NumGoroutine")=false) (hn:g.n=fn.ntmps) (hrs:fn.results=#[])
  (g1:o1.guard=none) (p1:o1.op=.call {callee:=.builtin .recover,args:=#[],argTypes:=#[]}) (q1:o1.dst=some d1) (g2:o2.guard=none) (p2:o2.op=.assign (.tmp d1)) (q2:o2.dst=some d2)
  (hfix:g.fix=H.length)
  (hok:(Nat.ble args.length g.n&&aM args H H.length&&aM [.tup []] H' H'.length&&Nat.ble H.length H'.length&&Nat.blt d1 g.n&&Nat.blt d2 g.n)=true)
  (hgo:∀(C:Ctx),Cx P g C->Go C [.code rest] ⟨put (put (ixL args) d1 (.d md.got)) d2 (.d md.got),ixH H,Pn H⟩ (Ret g [] ids (.tup []) H')):Later P f args H md H':=by
 simp only[afF] at hok
 obtain⟨⟨⟨⟨⟨k1,k2⟩,k3⟩,k4⟩,k5⟩,k6⟩:=hok
 refine⟨⟨fn,hf,by rw[hb];rfl,hname⟩,k2,k3,by simpa using k4,λw F ρ vals hF hE hH hargs=>?_⟩
 have h0:=IW (fn:=fn) hF hE hH hargs hn k1 k2 (by simp [hfix])
 refine callsD_of_wpS hf hb λc₀ cs hu=>?_
 generalize hA:({tmps:=vals.toArray++Array.replicate (fn.ntmps-vals.toArray.size) undef,defers:=[]}:Act)=a0 at h0
 have k5:d1<g.n:=by simpa using k5
 have k6:d2<g.n:=by simpa using k6
 have hs1:=h0.put (d:=d1) (v:=.d md.got) (x:=md.qY) k5 (show R3 ρ F w (.d md.got) md.qY from md.Xm) Z
 have hs2:=hs1.put (d:=d2) (v:=.d md.got) (x:=md.qY) k6 (show R3 ρ F w (.d md.got) md.qY from md.Xm) Z
 have hsz:a0.tmps.size=g.n:=h0.size
 have hev:(a0.put (some d1) md.qY).eval (.tmp d1)=md.qY:=by
  simp [Act.put,Act.eval,hsz,k5]
 have hr1:(execOp a0.eval o1).run P.P w=.ok .recover w:=by simp only[execOp,p1];rfl
 have hr2:(execOp (a0.put (some d1) md.qY).eval o2).run P.P w=.ok (.value md.qY) w:=by
  simp only[execOp,p2,hev];rfl
 have fin:∀cs',cs'={c₀ with mode:=md.done}::cs->rest.wpS P.P (bodyPostS P.P fn c₀ cs (λe u w'=>u=md.done∧Post w F ρ H.length H (.tup []) H' e w')) ((a0.put (some d1) md.qY).put (some d2) md.qY) cs' w:=by
  rintro cs' rfl
  refine wpS_of_wp ?_
  have:=hgo (Uf P g w F ρ H []) ⟨⟨Z,Z,Z,xI⟩,Z⟩ _ w ⟨ρ,F,by rw[EZ,E5,zQ];exact hs2⟩
  refine wp_mono (sQ.1 this) ?_
  rintro e a' w' ⟨s',⟨ρ',F',h'⟩,hret⟩
  obtain⟨y,y1,y2⟩:=FC (fn:=fn) (rs:=[]) xI hrs k3 h' hret
  rw[hfix] at y2
  rcases hret.1 with rfl | rfl
  ·exact⟨h'.defers.none Z,md.done,Z,y,y1,Z,y2⟩
  ·exact⟨h'.defers.none Z,md.done,Z,y,y1,Z,y2⟩
 refine wpS_seq (wpS_region ?_)
 have hwt:∀(o:Oper) ys,o.guard=none->Region.wanted o ys=true:=λo ys h=>by simp [Region.wanted,h]
 show wpOpsS P.P #[o1,o2] _ [0,1] a0 (c₀::cs) w
 have hrec:=md.recovers c₀ cs hu
 have e0:(#[o1,o2]:Array Oper)[0]?=some o1:=rfl
 have e1:(#[o1,o2]:Array Oper)[1]?=some o2:=rfl
 rw[wpOpsS,e0]
 simp only[hwt o1 _ g1,if_true,hr1]
 split at hrec
 ·rename_i v cs' hh
  obtain⟨rfl,rfl⟩:=hrec
  rw[hh]
  simp only[q1]
  rw[wpOpsS,e1]
  simp only[hwt o2 _ g2,if_true,hr2,Oper.upon,q2,wpOpsS]
  exact fin _ Z
 ·rename_i hh
  rw[hh]
  simp only[q1]
  rw[show (Value.nilIface)=md.qY from hrec.1.symm,wpOpsS,e1]
  simp only[hwt o2 _ g2,if_true,hr2,Oper.upon,q2,wpOpsS]
  exact fin _ hrec.2
def Xn:Nat->Code->Option (List Code×Code)
 | 0,c=>some ([],c)
 | n+1,.seq a b=>match Xn n b with
  | some (f,r)=>some (a::f,r)
  | none=>none
 | _+1,_=>none
theorem FD{C:Ctx}{Q:Exit->Act->World->Prop}{id:Nat}{ops:Array Oper}{K:List Item}{a:Act}{w:World}(hr:C.rd=none)(h:wpList C.P ops (den C Q K) ops.toList a w):den C Q (.code (.region id ops false)::K) .normal a w:=by
 rw[iM,hr]
 exact sQ.2 (wp_region_list h)
theorem LZ{C:Ctx}{Q:Exit->Act->World->Prop}:∀(n:Nat) (c:Code) {f:List Code} {r:Code} (h:Xn n c=some (f,r)) {a:Act} {w:World},den C Q (codes f [.code r]) .normal a w->den C Q [.code c] .normal a w
 | 0,c,f,r,h,a,w,hd=>by
  simp only[Xn,afJ,afO] at h
  obtain⟨rfl,rfl⟩:=h
  exact hd
 | n+1,.seq x b,f,r,h,a,w,hd=>by
  refine yx ?_
  simp only[Xn] at h
  split at h
  ·rename_i f' r' hb
   simp only[afJ,afO] at h
   obtain⟨rfl,rfl⟩:=h
   refine sS hd λe a w hq=>?_
   cases e with
   | normal=>exact LZ n b hb hq
   | _=>
    have:=hq
    change den C Q (codes f' [.code r']) _ a w at this
    rw[rX (by simp)] at this
    exact this
  ·cases h
theorem Py{P:Program}{all:Array Oper}{Q1 Q2:Exit->Act->World->Prop}{o:Oper}{rest:List Oper}{a:Act}{w:World}(h:wpList P all Q1 [o] a w)(hn:∀a w,Q1 .normal a w->wpList P all Q2 rest a w)
  (hp:∀c a w,Q1 (.panic c) a w->Q2 (.panic c) a w) (ho:∀a w,¬Q1 .outgrown a w):wpList P all Q2 (o::rest) a w:=by
 unfold wpList at h ⊢
 split at h
 ·rename_i hw
  rw[if_pos hw]
  rcases h with h | ⟨_,a4,w4,h6⟩
  ·exact .inl (Oper.yG (λa w h=>hn a w h) hp ho h)
  ·exact absurd h6 (ho a4 w4)
 ·rename_i hw
  rw[if_neg hw]
  exact hn _ _ h
def Ry(k:Nat):List V->Bool
 | []=>true
 | .ptr i _::r=>Nat.blt i k&&Ry k r
 | _=>false
def IX(s:St)(o:Oper):Option (FuncId×List V):=
 match o.op,o.guard,o.dst with
 | .defer c,none,none=>match c.callee,c.args.toList with
  | .value fo,[]=>match ev s.L [] fo with
   | some (.fn f caps)=>some (f,caps)
   | _=>none
  | _,_=>none
 | _,_,_=>none
def behind(s:St)(is:List Nat)(H':List Ch):St:=
 let ids:=nR is (fV s.m (H'.length-is.length))
 {L:=sW (bn (iU is.length is)) s.L,H:=nR (rnH ids ids H') (qp (bn (iU is.length is)) (aI is s.H)),m:=s.m+(H'.length-is.length)}
def ZR(pins:List Nat):List (Nat×V)->Bool
 | []=>true
 | (t,v)::r=>inL t pins&&!isG v&&ZR pins r
def dim(s:St)(id:Nat):St:=
 match get s.H id with
 | some (.box us)=>⟨s.L,(id,.box (us.map λ_=>.dead))::nQ id s.H,s.m⟩
 | _=>s
theorem aG.dim{C:Ctx}{s:St}{a:Act}{w:World}{ρ:Nat->Value}{F:Nat->Prop}(h:aG C s a w ρ F)(id:Nat):aG C (dim s id) a w ρ F:=by
 unfold Sx.dim
 split
 ·rename_i us hg
  have hm:=get_mem hg
  obtain⟨b,cs,T,h1,h2,h3⟩:=h.ch id _ hm
  refine h.touch (c':=.box (us.map λ_=>.dead)) hm (w':=w) ⟨Z,Z,Z,Nat.le_refl _,λ_ _ _=>rfl⟩ ⟨b,cs,T,h1,h2,h3.imp λa b _ hab=>R1.one hab⟩ ?_
  simp [Ch.all,V.all1,fresh]
 ·exact h
def iP(P:Pg)(g:Cfg)(pins:List Nat)(k:Nat)(C1:Ctx)(f:FuncId)(A:List V)(rs:List ResultVar)(ids:List Nat)(r:V)(H':List Ch):Exit->St->Prop:=λe s=>
 ∃(md:Md) (args:List V) (is:List Nat) (H1 H2:List Ch) (s2:St),md.ends e∧((∃c,e=.panic c)->ZR pins s.L=true)∧(∀a w ρ F,aG C1 s a w ρ F->aG C1 s2 a w ρ F)∧Later P f args H1 md H2∧AEq A (args.map (V.dx (bZ is)))∧yB {g with fix:=k} s2.m is H1.length H1.length=true∧HLE s2.H (rnH is is H1)∧Ret g rs ids r H' .ret (behind s2 is H2)
def Kc(P:Pg)(g:Cfg)(pins:List Nat)(C:Ctx)(o2:Oper)(rest:Code)(rs:List ResultVar)(ids:List Nat)(r:V)(H':List Ch)(s:St):Prop:=
 ∃f A k,IX s o2=some (f,A)∧(Ry k A&&Nat.ble k s.m&&Nat.ble g.fix k)=true∧iN P.P f∧∀C1,Cx P {g with fix:=k} C1->Go C1 [.code rest] s (iP P g pins k C1 f A rs ids r H')
def ZT(pins:List Nat):List Oper->Bool
 | []=>true
 | o::r=>(match o.dst with | some d=>!inL d pins | none=>true)&&ZT pins r
theorem L6{pins:List Nat}{t:Nat}{v:V}:∀{L:List (Nat×V)},ZR pins L=true->(t,v)∈L->isG v=false∧inL t pins=true
 | (t',v')::r,h,hm=>by
  simp only[ZR,afF,afR] at h
  rcases List.mem_cons.1 hm with e | hm
  ·obtain⟨rfl,rfl⟩:=Prod.mk.inj e;exact⟨h.1.2,h.1.1⟩
  ·exact L6 h.2 hm
theorem L8{pins:List Nat}{o:Oper}{d:Nat}(hd:o.dst=some d):∀{l:List Oper},ZT pins l=true->o∈l->inL d pins=false
 | o'::r,h,hm=>by
  simp only[ZT,afF] at h
  rcases List.mem_cons.1 hm with e | hm
  ·subst e;have h1:=h.1;rw[hd] at h1;simpa using h1
  ·exact L8 hd h.2 hm
theorem iP.quiet{P:Pg}{g:Cfg}{pins:List Nat}{k:Nat}{C1:Ctx}{f:FuncId}{A:List V}{rs:List ResultVar}{ids:List Nat}{r:V}{H':List Ch}{ops:Array Oper}(hp:ZT pins ops.toList=true):q9 ops (iP P g pins k C1 f A rs ids r H'):=by
 rintro c s ⟨md,args,is,H1,H2,s2,_,hpin,_⟩ t v hv
 obtain⟨h1,h2⟩:=L6 (hpin ⟨c,Z⟩) hv
 exact⟨h1,λo ho e=>by rw[L8 e hp ho] at h2;cases h2⟩
theorem IU.bP{Φ:Exit->St->Prop}:NoPanic (IU Φ):=λc s h=>h
theorem IY{ρ ρ':Nat->Value}{F F':Nat->Prop}{w w':World}{k:Nat}(hρ:∀i,i<k->ρ' i=ρ i):∀{A:List V} {cs:List Value},Ry k A=true->aH (R0 ρ F w) A cs->aH (R3 ρ' F' w') A cs
 | [],[],_,_=>trivial
 | .ptr i o::r,c::cs,h,⟨h1,h2⟩=>by
  simp only[Ry,afF] at h
  obtain⟨b,e1,e2⟩:=h1
  exact⟨⟨b,by rw[hρ i (by simpa using h.1)];exact e1,e2⟩,IY hρ h.2 h2⟩
 | [],_::_,_,h=>h.elim
 | .ptr _ _::_,[],_,h=>h.elim
 | .d _::_,_,h,_=>by cases h
 | .aF::_,_,h,_=>by cases h
 | .own _::_,_,h,_=>by cases h
 | .bA ..::_,_,h,_=>by cases h
 | .gG _::_,_,h,_=>by cases h
 | .fn ..::_,_,h,_=>by cases h
 | .agg _::_,_,h,_=>by cases h
 | .tup _::_,_,h,_=>by cases h
 | .g ..::_,_,h,_=>by cases h
 | .dead::_,_,h,_=>by cases h
theorem holds_of{C:Ctx}{s:St}{a:Act}{w:World}{ρ:Nat->Value}{F:Nat->Prop}(h:aG C s a w ρ F){is:List Nat}{args:List V}{H:List Ch}(hfr:aM args H H.length=true)(hl:is.length=H.length)(hnd:nodupB is=true)(hH:HLE s.H (rnH is is H)) :
  Holds (λi=>ρ (nth is i)) F w H:=by
 simp only[aM,afF,List.all_eq_true] at hfr
 have hx:∀i,i<H.length->∃c,H[i]?=some c∧∃c0,(nth is i,c0)∈s.H∧mE c0 (c.map (bZ is)):=λi hi=>by
  obtain⟨c0,k1,k2⟩:=nZ hl hH (afG hi)
  exact⟨_,afG hi,c0,k1,k2⟩
 refine⟨λi c hc=>?_,λi j b hi hj hij e=>?_,λi b hi e=>?_⟩
 ·have hi:=(List.getElem?_eq_some_iff.1 hc).1
  obtain⟨c',hc',c0,k1,k2⟩:=hx i hi
  rw[hc] at hc'
  obtain rfl:=afK hc'
  exact iV.dO (k:=H.length) (ρ:=λi=>ρ (nth is i)) (λ_ _=>rfl) hi (hfr.2 c (List.mem_of_getElem? hc)).1 (iW k2 (h.ch _ _ k1))
 ·obtain⟨_,_,c0,k1,_⟩:=hx i hi
  obtain⟨_,_,c1,k3,_⟩:=hx j hj
  exact λe2=>h.sep _ _ c0 c1 b k1 k3 (gK hnd i j (by omega) (by omega) hij) (aT e) (aT e2)
 ·obtain⟨_,_,c0,k1,_⟩:=hx i hi
  exact h.out _ c0 b k1 (aT e)
theorem Ug{P:Program}{f:FuncId}{cs:Array Value}(hcall:iN P f)(w:World):(invoke (.fn (.func f) cs) #[]).run P w=.ok (.enter f cs) w:=by
 obtain⟨fn,h1,h2,h3⟩:=hcall
 have hb:fn.body.isNone=false:=by cases hh:fn.body<;>simp_all
 simp only[invoke,callFunc,program,Sem.run_bind,Sem.run_pure,Result.andThen]
 simp [Sem.run,h1,h3,hb]
theorem aD.Rz{P:Pg}(g:Cfg)(xI:bO P.P g.tys)(ids:List Nat)(n:Nat)(pins:List Nat){f:FuncId}{fn:Func}{c:Code}{pre:List Code}{id:Nat}{o1 o2:Oper}{rest:Code}{args:List V}{H:List Ch}{r:V}{H':List Ch}{rs:List ResultVar}
  (hf:P.P.funcs[f]?=some fn) (hb:fn.body=some c) (hcut:Xn n c=some (pre,.seq (.region id #[o1,o2] false) rest)) (hname:(fn.name == "runtime.NumGoroutine")=false)
  (hn:g.n=fn.ntmps) (hrs:fn.results=rs.toArray) (hok:(Nat.ble args.length g.n&&aM args H H.length&&aM [r] H' H'.length&&Nat.ble g.fix H.length&&Nat.ble H.length H'.length)=true)
  (hgo:∀(C:Ctx),Cx P g C->Go C (codes pre [.back λs=>Go C [.ops #[o1,o2] [o1],.back (Kc P g pins C o2 rest rs ids r H')] s λ_ _=>False]) ⟨ixL args,ixH H,Pn H⟩ (IU (Ret g rs ids r H'))):aD P f g.fix args H r H':=by
 simp only[afF] at hok
 obtain⟨⟨⟨⟨k1,k2⟩,k3⟩,k4⟩,k5⟩:=hok
 refine⟨⟨fn,hf,by rw[hb];rfl,hname⟩,k2,k3,by simpa using k4,by simpa using k5,λw F ρ vals hF hE hH hargs=>?_⟩
 have h0:=IW (fn:=fn) hF hE hH hargs hn k1 k2 k4
 refine calls_of_wp_defers hf hb ?_
 let C:=Uf P g w F ρ H []
 have hx:Cx P g C:=⟨⟨Z,Z,Z,xI⟩,Z⟩
 have hgo:=hgo C hx _ w ⟨ρ,F,by rw[EZ,E5,zQ];exact h0⟩
 refine sQ.1 (LZ (C:=C) (Q:=bodyPostD P.P fn (Post w F ρ g.fix H r H')) n c hcut (IV (J:=λs=>Go C [.ops #[o1,o2] [o1],.back (Kc P g pins C o2 rest rs ids r H')] s λ_ _=>False) (Φ:=Ret g rs ids r H') (λs a w' hs hj=>?_) (λs a w' hs hr=>?_) pre _ _ hgo))
 ·refine yx (FD Z ?_)
  show wpList C.P #[o1,o2] (den C (bodyPostD P.P fn (Post w F ρ g.fix H r H')) [.code rest]) [o1,o2] a w'
  refine Py (Q1:=den C (gB C λ_ _=>False) [.back (Kc P g pins C o2 rest rs ids r H')]) (show fU C.rd C.P #[o1,o2] (den C (gB C λ_ _=>False) [.back (Kc P g pins C o2 rest rs ids r H')]) [o1] a w' from hj a w' hs).1 (λa1 w1 h1=>?_) (λc a w h=>by obtain⟨_,_,h⟩:=h;exact h.elim) (λa w h=>by obtain⟨_,_,h⟩:=h;exact h.elim)
  obtain⟨s1,⟨ρ1,F1,hs1⟩,f1,A,k,hdi,hkb,hcall,hgo1⟩:=h1
  simp only[afF] at hkb
  obtain⟨⟨b1,b2⟩,b3⟩:=hkb
  have b2:k≤s1.m:=by simpa using b2
  have b3:g.fix≤k:=by simpa using b3
  unfold IX at hdi
  split at hdi
  ·rename_i cl hop hgd hds
   split at hdi
   ·rename_i fo hcl hca
    split at hdi
    ·rename_i f2 caps hev
     simp only[afJ,afO] at hdi
     obtain⟨rfl,rfl⟩:=hdi
     obtain⟨cs,hcs,vH⟩:=(show R1 ρ1 F1 w1 (.fn f2 caps) _ from (aC hs1 (cO _) hev).1)
     have hca:cl.args=#[]:=by cases hcc:cl.args;simp_all
     have hrun:(execOp a1.eval o2).run C.P w1=.ok (.defer {target:=.fn (.func f2) cs.toArray,args:=#[]}) w1:=by
      simp only[execOp,hop,resolve,hcl,hcs,hca,Deferred.ofValue]
      simp [Sem.run,bind,pure]
      rfl
     refine wpList_plain hgd λN hN=>?_
     unfold Oper.wp
     rw[hrun,Oper.upon_defer,hds]
     refine hN _ _ ?_
     let d:Deferred:={target:=.fn (.func f2) cs.toArray,args:=#[]}
     have hdef:a1.defers=[]:=hs1.defers.none Z
     refine sQ.2 ?_
     show Code.wp C.P rest (bodyPostD P.P fn (Post w F ρ g.fix H r H')) {a1 with defers:=d::a1.defers} w1
     rw[hdef]
     let C1:Ctx:={C with defs:=[d],fix:=k,ρ0:=ρ1}
     have hx1:Cx P {g with fix:=k} C1:=⟨⟨Z,Z,Z,xI⟩,Z⟩
     have WV:aG C1 s1 {a1 with defers:=[d]} w1 ρ1 F1:=
      {size:=hs1.size,defers:=.start Z,slot:=hs1.slot,ch:=hs1.ch,sep:=hs1.sep,out:=hs1.out,aR:=hs1.aR,aK:=hs1.aK,lt:=hs1.lt,mine:=hs1.mine,sub:=hs1.sub,base:=hs1.base,bW:=⟨b2,λ_ _=>rfl⟩,keep:=hs1.keep,env:=hs1.env}
     have hfx1:∀i,i<g.fix->ρ1 i=ρ i:=hs1.bW.2
     refine wp_mono (sQ.1 (hgo1 C1 hx1 _ _ ⟨ρ1,F1,WV⟩)) ?_
     rintro e a2 w2 ⟨s2,⟨ρ2,F2,hs2⟩,md,args2,is,H1,H2,s3,hend,_,adC,hlat,hA,hok,hHL,hret⟩
     have hs3:=adC a2 w2 ρ2 F2 hs2
     obtain⟨_,l2,l3,l4,l5⟩:=hlat
     have hok2:=hok
     simp only[yB,afF] at hok2
     obtain⟨⟨⟨o1',_⟩,_⟩,o4⟩:=hok2
     have o4:=afM o4
     have C8:=holds_of hs3 l2 o4 o1' hHL
     have hA3:aH (R3 ρ2 F2 w2) caps cs:=IY (λi hi=>hs3.bW.2 i hi) b1 vH
     have hA4:=lC hA hA3
     simp only[aM,afF,List.all_eq_true] at l2
     have hA5:aH (R3 (λi=>ρ2 (nth is i)) F2 w2) args2 cs:=hA4.unmap λu v hu hr=>R3.dO (k:=H1.length) (λ_ _=>rfl) (l2.1 u hu) hr
     have hdel:=l5 w2 F2 _ cs hs3.lt (show jv P.env F2 w2 from hs3.env) C8 hA5
     have key:Leaves P.P fn a2.tmps (Post w F ρ g.fix H r H') a2.defers md.mode w2:=by
      rw[show a2.defers=[d] from hs2.defers.none rfl]
      refine leaves_cons md.ab3 (Ug hcall w2) (hdel.mono ?_)
      rintro e3 u3 w3 ⟨rfl,hpost⟩
      obtain⟨v3,ρ3,F3,rfl,_,_,hs4⟩:=aG.called (g:={g with fix:=k}) hs3 Z hok hHL l4 l3 hpost
      have hs5:aG (Uf P g w F ρ H [d]) (behind s3 is H2) a2 w3 ρ3 F3:=by
       have hs4:aG C1 (behind s3 is H2) a2 w3 ρ3 F3:=by
        rw[←o4] at hs4
        exact hs4
       exact {size:=hs4.size,defers:=hs4.defers,slot:=hs4.slot,ch:=hs4.ch,sep:=hs4.sep,out:=hs4.out,aR:=hs4.aR,aK:=hs4.aK,lt:=hs4.lt,mine:=hs4.mine,sub:=hs4.sub,base:=hs4.base,bW:=⟨Nat.le_trans b3 hs4.bW.1,λi hi=>(hs4.bW.2 i (Nat.lt_of_lt_of_le hi b3)).trans (hfx1 i hi)⟩,keep:=hs4.keep,env:=hs4.env}
      obtain⟨y,y1,y2⟩:=FC (fn:=fn) xI hrs k3 hs5 hret
      show Leaves P.P fn a2.tmps (Post w F ρ g.fix H r H') [] (settle md.done) w3
      rw[md.settled]
      exact⟨y,y1,y2⟩
     cases md with
     | back=>
      rcases hend with rfl | rfl
      ·exact key
      ·exact key
     | pan t ns=>
      have hend:e=.panic (Hy t ns):=hend
      subst hend
      exact key
    ·simp at hdi
   ·simp at hdi
  ·simp at hdi
 ·obtain⟨ρ',F',hs⟩:=hs
  obtain⟨y,y1,y2⟩:=FC (fn:=fn) xI hrs k3 hs hr
  show Leaves P.P fn a.tmps (Post w F ρ g.fix H r H') a.defers .returning w'
  rw[show a.defers=[] from hs.defers.none rfl]
  exact⟨y,y1,y2⟩
inductive gL where
 | leaf
 | no
 | fork (i:Nat) (here others:gL)
def inN:List Nat->Nat->Bool
 | [],_=>false
 | a::r,t=>bif Nat.beq a t then true else inN r t
def okO(d:List Nat):List (Nat×List Nat)->List Nat
 | []=>[]
 | (i,p)::r=>bif inN d i then okO d r else bif p.all (inN d) then i::okO d r else okO d r
def mkR(f:Nat->gL):List Nat->gL
 | []=>.no
 | i::r=>.fork i (f i) (mkR f r)
def mkO(l:List (Nat×List Nat)):Nat->List Nat->gL
 | 0,_=>.leaf
 | n+1,d=>match okO d l with
  | []=>.leaf
  | q=>mkR (λi=>mkO l n (i::d)) q
def gL.firsts:gL->List Nat
 | .fork i _ b=>i::b.firsts
 | _=>[]
def gL.depth:gL->Nat
 | .fork _ a b=>max (a.depth+1) b.depth
 | _=>0
def gL.top(ops:Array Oper)(t:gL)(l:Array Bool):Bool:=match t with
 | .leaf=>true
 | .no=>false
 | t=>decide (t.firsts=Region.ready .any ops l)
def gL.chk(ops:Array Oper):gL->Array Bool->Bool
 | .leaf,l=>(Region.ready .any ops l).isEmpty
 | .no,_=>true
 | .fork i a b,l=>a.chk ops (l.setIfInBounds i true)&&a.top ops (l.setIfInBounds i true)&&b.chk ops l
def EvT(C:Ctx)(ops:Array Oper)(J:St->Prop):gL->St->Prop
 | .leaf,s=>J s
 | .no,_=>True
 | .fork i a b,s=>Go C [.ops ops (aU ops.toList [i]),.back (EvT C ops J a)] s (λ_ _=>False)∧EvT C ops J b s
section
variable{C:Ctx}{ops:Array Oper}{J:St->Prop}{Q:Exit->Act->World->Prop}
theorem EvT.pick{t:gL}{s:St}{l:Array Bool}(h:EvT C ops J t s)(hc:t.chk ops l=true){i:Nat}(hi:i∈t.firsts) :
  ∃a,a.chk ops (l.setIfInBounds i true)=true∧a.top ops (l.setIfInBounds i true)=true∧a.depth+1≤t.depth∧Go C [.ops ops (aU ops.toList [i]),.back (EvT C ops J a)] s (λ_ _=>False):=by
 induction t with
 | leaf=>cases hi
 | no=>cases hi
 | fork j a b _ ih=>
  simp only[gL.chk,afF] at hc
  obtain⟨⟨h2,h3⟩,h4⟩:=hc
  rcases List.mem_cons.1 hi with e | hi
  ·subst e;exact⟨a,h2,h3,Nat.le_max_left _ _,h.1⟩
  ·obtain⟨c,c1,c2,c3,c4⟩:=ih h.2 h4 hi
   exact⟨c,c1,c2,Nat.le_trans c3 (Nat.le_max_right _ _),c4⟩
theorem EvT.sound(hJ:∀s a w,Sat C s a w->J s->Q .normal a w):∀(n:Nat) (t:gL) (l:Array Bool) (s:St) (a:Act) (w:World),t.chk ops l=true->t.top ops l=true->EvT C ops J t s->Sat C s a w->t.depth≤n->wpAny C.P .any ops Q n l a w
 | n,.leaf,l,s,a,w,hc,_,ht,hs,_=>by
  have hr:Region.ready .any ops l=[]:=by simpa [gL.chk] using hc
  cases n with
  | zero=>exact⟨hr,hJ s a w hs ht⟩
  | succ n=>exact⟨λ_=>hJ s a w hs ht,λi hi=>by rw[hr] at hi;cases hi⟩
 | n,.no,l,s,a,w,_,htop,_,_,_=>by simp [gL.top] at htop
 | 0,.fork i x y,l,s,a,w,_,_,_,_,hd=>by
  have:x.depth+1≤(gL.fork i x y).depth:=Nat.le_max_left _ _
  omega
 | n+1,.fork i x y,l,s,a,w,hc,htop,ht,hs,hd=>by
  have hr:(gL.fork i x y).firsts=Region.ready .any ops l:=by simpa [gL.top] using htop
  refine⟨λh=>(by rw[←hr] at h;cases h),λj hj=>?_⟩
  rw[←hr] at hj
  obtain⟨b,b1,b2,b4,b3⟩:=ht.pick hc hj
  refine Fz b3 hs (λs1 a1 w1 h1 hj1=>EvT.sound hJ n b _ s1 a1 w1 b1 b2 hj1 h1 (by omega)) (λ_ _ _ _ _ h=>h.elim) (λ_ h=>h.elim)
end
theorem Cx.every{P:Pg}{g:Cfg}{C:Ctx}(x:Cx P g C){s s':St}{K K':List Item}{Φ:Exit->St->Prop}{ob:List Prop}(t:gL)(s2:St){id:Nat}{ops:Array Oper}(h:run g 1000 K s []=.code ob (.region id ops true) K' s')(ho:ak ob)(hm:P.P.follows .mixedOrders=true)
  (hc:(t.chk ops (Array.replicate ops.size false)&&t.top ops (Array.replicate ops.size false)&&Nat.ble t.depth ops.size)=true) (he:EvT C ops (λs=>LE g.fix s s2) t s') (k:Go C K' s2 Φ):Go C K s Φ:=by
 refine st x.ty x.n x.fix h ⟨ho,?_⟩
 rintro a w ⟨ρ,F,hs⟩
 have hd:Mod none w {w with drawn:=w.drawn+1}:=⟨Z,Z,Z,Nat.le_refl _,λ_ _ _=>rfl⟩
 have hs1:=hs.mod hd
 simp only[afF] at hc
 obtain⟨⟨h1,h2⟩,h3⟩:=hc
 have hP:C.P.follows .mixedOrders=true:=x.rV.symm▸hm
 refine x.J5 ?_
 exact wp_region_any hP (EvT.sound (λs a w hs hj=>k a w (LE.sat (x.fix▸hj) hs)) ops.size t _ s' a _ h1 h2 he ⟨ρ,F,hs1⟩ (by simpa using h3))
section
variable{P:Program}{Q Q':Exit->Act->World->Prop}
theorem LetsOut.mono(h:∀e a w,Q e a w->Q' e a w):LetsOut Q->LetsOut Q':=λ⟨a,w,hq⟩=>⟨a,w,h _ a w hq⟩
theorem Oper.Pz{o:Oper}{a:Act}{K K':Act->World->Prop}(hK:∀a w,K a w->K' a w)(h:∀e a w,Q e a w->Q' e a w):∀{r:Result Next},o.upon P a K Q r->o.upon P a K' Q' r:=by
 intro r hr
 cases r with
 | ok n w'=>
  cases n<;>simp only[Oper.upon] at hr ⊢<;>
   first
    | exact hK _ _ hr
    | exact Calls.mono hr (λe w'' he=>by
     cases e with
     | returned v=>exact hK _ _ he
     | panicked c=>exact h _ _ _ he
     | outgrown=>exact LetsOut.mono h he)
    | exact Rows.mono hr (λ_ _ he=>hK _ _ he)
 | halt x w'=>
  cases x<;>simp only[Oper.upon] at hr ⊢
  exact h _ _ _ hr
theorem vQ{ops:Array Oper}(h:∀e a w,Q e a w->Q' e a w):∀{l:List Oper} {a:Act} {w:World},wpList P ops Q l a w->wpList P ops Q' l a w
 | [],a,w,hl=>h _ a w hl
 | o::r,a,w,hl=>by
  unfold wpList at hl ⊢
  split
  ·rename_i hw
   rw[if_pos hw] at hl
   rcases hl with hl | hl
   ·exact .inl (Oper.Pz (λa w hh=>vQ h hh) h hl)
   ·exact .inr ⟨hl.1,LetsOut.mono h hl.2⟩
  ·rename_i hw
   rw[if_neg hw] at hl
   exact vQ h hl
theorem PD{Fc:Fence}{n:Nat}{o:Oper}{a:Act}{K K':Act->World->Prop}(hK:∀a w,K a w->K' a w)(h:∀e a w,Q e a w->Q' e a w):∀{r:Result Next},o.uponIn Fc n P a K Q r->o.uponIn Fc n P a K' Q' r:=by
 intro r hr
 cases r with
 | ok x w'=>
  cases x<;>simp only[Oper.uponIn] at hr ⊢<;>
   first
    | exact hK _ _ hr
    | exact⟨hr.1,CallsIn.mono hr.2 (λe w'' he=>by
     cases e with
     | returned v=>exact hK _ _ he
     | panicked c=>exact h _ _ _ he
     | outgrown=>exact LetsOut.mono h he)⟩
    | exact⟨hr.1,RowsIn.mono hr.2 (λ_ _ he=>hK _ _ he)⟩
    | exact⟨hr.1,RoundIn.mono hr.2 (λe w'' he=>by
     cases e with
     | returned v=>exact hK _ _ he
     | panicked c=>exact h _ _ _ he
     | outgrown=>exact LetsOut.mono h he)⟩
 | halt x w'=>
  cases x<;>simp only[Oper.uponIn] at hr ⊢
  exact h _ _ _ hr
theorem o8{Fc:Fence}{n:Nat}{ops:Array Oper}(h:∀e a w,Q e a w->Q' e a w):∀{l:List Oper} {a:Act} {w:World},wpListIn Fc n P ops Q l a w->wpListIn Fc n P ops Q' l a w
 | [],a,w,hl=>h _ a w hl
 | o::r,a,w,hl=>by
  unfold wpListIn at hl ⊢
  split
  ·rename_i hw
   rw[if_pos hw] at hl
   exact⟨hl.1,PD (λa w hh=>o8 h hh) h hl.2⟩
  ·rename_i hw
   rw[if_neg hw] at hl
   exact⟨hl.1,o8 h hl.2⟩
theorem Dk{rr:Option Nat}{ops:Array Oper}(h:∀e a w,Q e a w->Q' e a w){l:List Oper}{a:Act}{w:World}(hl:fU rr P ops Q l a w):fU rr P ops Q' l a w:=
 ⟨vQ h hl.1,o8 h hl.2⟩
end
section
variable{C:Ctx}{s:St}{K:List Item}{Φ Φ':Exit->St->Prop}
theorem lT{Q Q':Exit->Act->World->Prop}(h:∀e a w,Q e a w->Q' e a w):∀(K:List Item) (e:Exit) (a:Act) (w:World),den C Q K e a w->den C Q' K e a w
 | [],e,a,w,hd=>h e a w hd
 | .code c::K,e,a,w,hd=>by
  cases e with
  | normal=>exact sS hd λe a w hq=>lT h K e a w hq
  | _=>exact lT h K _ a w hd
 | .ops all l::K,e,a,w,hd=>by
  cases e with
  | normal=>exact Dk (λe a w hq=>lT h K e a w hq) hd
  | _=>exact lT h K _ a w hd
 | .blk id::K,e,a,w,hd=>by
  cases e with
  | exit i=>
   simp only[den,Exit.inBlock] at hd ⊢
   split
   ·rename_i hi;rw[if_pos hi] at hd;exact lT h K _ a w hd
   ·rename_i hi;rw[if_neg hi] at hd;exact lT h K _ a w hd
  | _=>exact lT h K _ a w hd
 | .back J::K,e,a,w,hd=>by
  cases e with
  | normal=>exact hd
  | _=>exact lT h K _ a w hd
theorem Go.relax(h:∀e s a w,Φ' e s->Sat C s a w->∃s2,Sat C s2 a w∧Φ e s2)(k:Go C K s Φ'):Go C K s Φ:=λa w hs=>
 lT (λe a w ⟨s1,h1,h2⟩=>h e s1 a w h2 h1) K _ a w (k a w hs)
theorem Sat.frozen{a:Act}{w:World}(h:Sat C s a w)(id:Nat):Sat C (frozen s id) a w:=by
 have:Go C [] s (λ_ s'=>s'=Sx.frozen s id):=Go.freeze id λa w hs=>⟨_,hs,Z⟩
 obtain⟨s',h1,rfl⟩:=this a w h
 exact h1
def freezes:List Nat->St->St
 | [],s=>s
 | id::r,s=>freezes r (frozen s id)
theorem Sat.freezes{a:Act}{w:World}:∀(ids:List Nat) {s:St},Sat C s a w->Sat C (freezes ids s) a w
 | [],_,h=>h
 | id::r,_,h=>(h.frozen id).freezes r
theorem Go.ab4(ids:List Nat)(k:Go C K s λe s=>Φ e (freezes ids s)):Go C K s Φ:=
 Go.relax (λe s a w hp hs=>⟨_,hs.freezes ids,hp⟩) k
theorem aH.qw{α β:Type}{R:α->β->Prop}{a:α}:∀{xs:List α} {ys:List β} {j:Nat},aH R xs ys->(∀b,ys[j]?=some b->R a b)->aH R (xs.set j a) ys
 | [],[],_,_,_=>trivial
 | _::_,_::_,0,⟨_,h⟩,e=>⟨e _ rfl,h⟩
 | _::_,_::_,_+1,⟨h0,h⟩,e=>⟨h0,aH.qw h λb hb=>e b (by simpa using hb)⟩
 | [],_::_,_,h,_=>h.elim
 | _::_,[],_,h,_=>h.elim
theorem jW{J:St->Prop}{Q:Exit->Act->World->Prop}{K2:List Item}(hJ:∀s a w,Sat C s a w->J s->den C Q K2 .normal a w):∀(K1:List Item) (e:Exit) (a:Act) (w:World),den C (gB C λ_ _=>False) (K1++[.back J]) e a w->den C Q (K1++K2) e a w
 | [],e,a,w,hd=>by
  cases e with
  | normal=>obtain⟨s,h1,h2⟩:=hd;exact hJ s a w h1 h2
  | _=>obtain⟨_,_,h⟩:=hd;exact h.elim
 | .code c::K,e,a,w,hd=>by
  cases e with
  | normal=>exact sS hd λe a w hq=>jW hJ K e a w hq
  | _=>exact jW hJ K _ a w hd
 | .ops all l::K,e,a,w,hd=>by
  cases e with
  | normal=>exact Dk (λe a w hq=>jW hJ K e a w hq) hd
  | _=>exact jW hJ K _ a w hd
 | .blk id::K,e,a,w,hd=>by
  cases e with
  | exit i=>
   simp only[List.cons_append,den,Exit.inBlock] at hd ⊢
   split
   ·rename_i hi;rw[if_pos hi] at hd;exact jW hJ K _ a w hd
   ·rename_i hi;rw[if_neg hi] at hd;exact jW hJ K _ a w hd
  | _=>exact jW hJ K _ a w hd
 | .back J'::K,e,a,w,hd=>by
  cases e with
  | normal=>exact hd
  | _=>exact jW hJ K _ a w hd
def L9:Nat->List Item->List Item
 | 0,_=>[]
 | _+1,[]=>[]
 | n+1,i::K=>i::L9 n K
def Ma:Nat->List Item->List Item
 | 0,K=>K
 | _+1,[]=>[]
 | n+1,_::K=>Ma n K
theorem FE:∀(n:Nat) (K:List Item),L9 n K++Ma n K=K
 | 0,K=>rfl
 | _+1,[]=>rfl
 | n+1,i::K=>by simp only[L9,Ma,List.cons_append,FE n K]
def ZU(J:St->Prop):List Item->List Item
 | []=>[.back J]
 | i::K=>i::ZU J K
theorem RB{J:St->Prop}:∀K:List Item,ZU J K=K++[.back J]
 | []=>rfl
 | i::K=>by simp only[ZU,List.cons_append,RB K]
theorem Go.split(n:Nat)(k:Go C (ZU (λs=>Go C (Ma n K) s Φ) (L9 n K)) s λ_ _=>False):Go C K s Φ:=by
 intro a w hs
 rw[←FE n K]
 refine jW (J:=λs=>Go C (Ma n K) s Φ) (λs a w h1 h2=>h2 a w h1) (L9 n K) _ a w ?_
 rw[←RB]
 exact k a w hs
end
def Xo(is:List Nat):List (Nat×V)->List (Nat×V)
 | []=>[]
 | (t,v)::r=>(t,v.yh (bZ is))::Xo is r
def Xp(is:List Nat):List (Nat×Ch)->List (Nat×Ch)
 | []=>[]
 | (i,c)::r=>(nth is i,c.map (bZ is))::Xp is r
def FH(is:List Nat)(s:St):St:=⟨Xo is s.L,Xp is s.H,s.m⟩
def vR:Nat->(Nat->Bool)->Bool
 | 0,_=>true
 | n+1,p=>p n&&vR n p
theorem ru{p:Nat->Bool}:∀{n:Nat},vR n p=true->∀i,i<n->p i=true
 | n+1,h,i,hi=>by
  simp only[vR,afF] at h
  by_cases e:i=n
  ·subst e;exact h.1
  ·exact ru h.2 i (by omega)
def vS(is:List Nat)(m fix:Nat):Bool:=Nat.beq is.length m&&vR m (λi=>Nat.blt (nth is i) m&&Nat.beq (nth is (nth is i)) i)&&vR fix (λi=>Nat.beq (nth is i) i)&&Nat.ble fix m
theorem Bt{is:List Nat}{t:Nat}{v':V}:∀{L:List (Nat×V)},(t,v')∈Xo is L->∃v,(t,v)∈L∧v'=v.yh (bZ is)
 | (t',v)::r,h=>by
  rcases List.mem_cons.1 h with e | h
  ·obtain⟨rfl,rfl⟩:=Prod.mk.inj e;exact⟨v,by simp,Z⟩
  ·obtain⟨v,h1,h2⟩:=Bt h;exact⟨v,by simp [h1],h2⟩
theorem mU{is:List Nat}{i:Nat}{c':Ch}:∀{H:List (Nat×Ch)},(i,c')∈Xp is H->∃j c,(j,c)∈H∧i=nth is j∧c'=c.map (bZ is)
 | (j,c)::r,h=>by
  rcases List.mem_cons.1 h with e | h
  ·obtain⟨rfl,rfl⟩:=Prod.mk.inj e;exact⟨j,c,by simp,Z,Z⟩
  ·obtain⟨j,c,h1,h2⟩:=mU h;exact⟨j,c,by simp [h1],h2⟩
theorem Sat.perm{C:Ctx}{s:St}{a:Act}{w:World}{is:List Nat}(hp:vS is s.m C.fix=true)(h:Sat C s a w):Sat C (FH is s) a w:=by
 obtain⟨ρ,F,h⟩:=h
 simp only[vS,afF] at hp
 obtain⟨⟨⟨p1,p2⟩,p3⟩,p4⟩:=hp
 have q2:∀i,i<s.m->nth is i<s.m∧nth is (nth is i)=i:=λi hi=>by
  have:=ru p2 i hi
  simp only[afF] at this
  exact⟨by simpa using this.1,afM this.2⟩
 have q3:∀i,i<C.fix->nth is i=i:=λi hi=>afM (ru p3 i hi)
 let ρ':Nat->Value:=λi=>ρ (nth is i)
 have hρ:∀i,i<s.m->ρ' (nth is i)=ρ i:=λi hi=>by show ρ (nth is (nth is i))=ρ i;rw[(q2 i hi).2]
 have hlt:∀i,i<s.m->nth is i<s.m:=λi hi=>(q2 i hi).1
 have hk:∀u v,fresh s.m u=true->R0 ρ F w u v->R0 ρ' F w (bZ is u) v:=λu v hu hr=>R0.ren hρ hu hr
 have hfr:∀i c,(i,c)∈s.H->i<s.m:=λi c hi=>(h.aK i c hi).1
 have hbk:∀i c b,(i,c)∈s.H->(bks ρ' (nth is i) (c.map (bZ is)) b↔bks ρ i c b):=λi c b hi=>by
  have e:=hρ i (hfr i c hi)
  cases c<;>simp only[Ch.map,bks,e]
 refine⟨ρ',F,{size:=h.size,defers:=h.defers,slot:=λt v' hv=>?_,ch:=λi c' hi=>?_,sep:=λi j ci cj b hi hj hij e=>?_,out:=λi c b hi e=>?_,aR:=λt v' hv=>?_,aK:=λi c' hi=>?_,lt:=h.lt,mine:=λi c b hi e=>?_,sub:=h.sub,base:=h.base,bW:=⟨h.bW.1,λi hi=>?_⟩,keep:=h.keep,env:=h.env}⟩
 ·obtain⟨v,hv0,rfl⟩:=Bt hv
  obtain⟨x,hx,hr⟩:=h.slot t v hv0
  refine⟨x,hx,?_⟩
  have hf:=h.aR t v hv0
  cases v with
  | g p u=>exact⟨λhp=>R3.map hk hf (hr.1 hp),hr.2⟩
  | d y=>exact iF (R3.map (u:=.d y) hk hf hr)
  | aF=>exact iF (R3.map (u:=.aF) hk hf hr)
  | ptr y z=>exact iF (R3.map (u:=.ptr y z) hk hf hr)
  | own y=>exact iF (R3.map (u:=.own y) hk hf hr)
  | bA y z i j=>exact iF (R3.map (u:=.bA y z i j) hk hf hr)
  | gG y=>exact iF (R3.map (u:=.gG y) hk hf hr)
  | fn f y=>exact iF (R3.map (u:=.fn f y) hk hf hr)
  | agg y=>exact iF (R3.map (u:=.agg y) hk hf hr)
  | tup y=>exact iF (R3.map (u:=.tup y) hk hf hr)
  | dead=>exact iF (R3.map (u:=.dead) hk hf hr)
 ·obtain⟨j,c,hc,rfl,rfl⟩:=mU hi
  exact iV.ren hρ (hfr j c hc) (h.aK j c hc).2 (h.ch j c hc)
 ·obtain⟨i',ci,hi0,rfl,rfl⟩:=mU hi
  obtain⟨j',cj,hj0,rfl,rfl⟩:=mU hj
  exact λe2=>h.sep i' j' ci cj b hi0 hj0 (λe3=>hij (by rw[e3])) ((hbk _ _ _ hi0).1 e) ((hbk _ _ _ hj0).1 e2)
 ·obtain⟨j,c,hc,rfl,rfl⟩:=mU hi
  exact h.out j c b hc ((hbk _ _ _ hc).1 e)
 ·obtain⟨v,hv0,rfl⟩:=Bt hv
  have hf:=h.aR t v hv0
  have h3:∀{u:V},u.aQ (fresh s.m)=true->(u.dx (bZ is)).aQ (fresh s.m)=true:=λhu=>ER hlt hu
  cases v with
  | g p u=>exact h3 hf
  | d y=>rfl
  | aF=>rfl
  | ptr y z=>exact h3 (u:=.ptr y z) hf
  | own y=>exact h3 (u:=.own y) hf
  | bA y z i j=>exact h3 (u:=.bA y z i j) hf
  | gG y=>rfl
  | fn f y=>exact h3 (u:=.fn f y) hf
  | agg y=>exact h3 (u:=.agg y) hf
  | tup y=>exact h3 (u:=.tup y) hf
  | dead=>rfl
 ·obtain⟨j,c,hc,rfl,rfl⟩:=mU hi
  exact⟨hlt j (hfr j c hc),ES hlt (h.aK j c hc).2⟩
 ·obtain⟨j,c,hc,rfl,rfl⟩:=mU hi
  exact h.mine j c b hc ((hbk _ _ _ hc).1 e)
 ·show ρ (nth is i)=C.ρ0 i
  rw[q3 i hi];exact h.bW.2 i hi
theorem EvT.yI{C:Ctx}{ops:Array Oper}{J:St->Prop}{Q:Exit->Act->World->Prop}{S0:World->Prop}(hS:∀s a w,Sat C s a w->S0 w)(hJ:∀s a w,Sat C s a w->J s->Q .normal a w):∀(n:Nat) (t:gL) (l:Array Bool) (s:St) (a:Act) (w:World),t.chk ops l=true->t.top ops l=true->EvT C ops J t s->Sat C s a w->t.depth≤n->wpAnyH C.P .any ops Q S0 n l a w
 | n,.leaf,l,s,a,w,hc,_,ht,hs,_=>by
  have hr:Region.ready .any ops l=[]:=by simpa [gL.chk] using hc
  cases n with
  | zero=>exact⟨hr,hJ s a w hs ht⟩
  | succ n=>exact⟨λ_=>hJ s a w hs ht,λi hi=>by rw[hr] at hi;cases hi⟩
 | n,.no,l,s,a,w,_,htop,_,_,_=>by simp [gL.top] at htop
 | 0,.fork i x y,l,s,a,w,_,_,_,_,hd=>by
  have:x.depth+1≤(gL.fork i x y).depth:=Nat.le_max_left _ _
  omega
 | n+1,.fork i x y,l,s,a,w,hc,htop,ht,hs,hd=>by
  have hr:(gL.fork i x y).firsts=Region.ready .any ops l:=by simpa [gL.top] using htop
  refine⟨λh=>(by rw[←hr] at h;cases h),λj hj=>?_⟩
  rw[←hr] at hj
  obtain⟨b,b1,b2,b4,b3⟩:=ht.pick hc hj
  refine Fz b3 hs (λs1 a1 w1 h1 hj1=>⟨hS s1 a1 w1 h1,EvT.yI hS hJ n b _ s1 a1 w1 b1 b2 hj1 h1 (by omega)⟩) (λ_ _ _ _ _ h=>h.elim) (λ_ h=>h.elim)
def xW(ops:Array Oper)(A:List Nat)(t:gL):Bool:=
 Region.noSelect ops&&Nat.beq (A.length+t.depth) ops.size&&uO .any ops [] A (Array.replicate ops.size false) λl=>t.chk ops l&&t.top ops l
theorem Cx.rz{P:Pg}{g:Cfg}{C:Ctx}(x:Cx P g C){s s':St}{K K':List Item}{Φ:Exit->St->Prop}{ob:List Prop}(is0 A:List Nat)(t:gL)(s2:St){id:Nat}{ops:Array Oper}(h:run g 1000 K s []=.code ob (.region id ops true) K' s')(ho:ak ob)(hm:P.P.follows .mixedOrders=true)
  (hB:xW ops A t=true) (hΦ:NoPanic Φ)
  {obA:List Prop} {sA:St} (hqA:qx g ops 1000 (aU ops.toList A) ⟨s'.L,aI is0 s'.H,s'.m⟩ []=.done obA sA) (hoA:ak obA)
  (he:∀C2,Cx P {g with fix:=s'.m} C2->EvT C2 ops (λs=>LE s'.m s s2∨∃is,vS is s.m s'.m=true∧LE s'.m (FH is s) s2) t ⟨sA.L,eO is0 s'.H,s'.m⟩)
  (k:Go C K' ⟨s2.L,mF s2.H (aI is0 s'.H),s2.m⟩ Φ):Go C K s Φ:=by
 refine st x.ty x.n x.fix h ⟨ho,?_⟩
 rintro a w ⟨ρ,F,hs⟩
 have hd:Mod none w {w with drawn:=w.drawn+1}:=⟨Z,Z,Z,Nat.le_refl _,λ_ _ _=>rfl⟩
 have hs1:=hs.mod hd
 generalize hw1:({w with drawn:=w.drawn+1}:World)=w1 at hs1
 let S0:World->Prop:=λw'=>∀k,k<w1.heap.size->¬eu ρ s'.H is0 k->w'.heap[k]?=w1.heap[k]?
 obtain⟨_,hmA,hrA⟩:=kV (F:=F) x.ty x.n (S:=S0) (λw' hw' k hk hlt=>hw' k hlt hk) 1000 _ _ _ hqA hoA
 refine x.J5 ?_
 have hP:C.P.follows .mixedOrders=true:=x.rV.symm▸hm
 simp only[xW,afF] at hB
 obtain⟨⟨hns,hsz⟩,hpl⟩:=hB
 have hsz:=afM hsz
 refine wp_region_any hP (wpAny_of_held (S:=S0) _ _ _ _ ?_)
 have inv0:Inv .any ops [] (Array.replicate ops.size false):=⟨by simp,λj oj _ hl=>(by rw[getD_replicate_false] at hl;cases hl),λt ht=>(by cases ht)⟩
 have key:wpAnyH C.P .any ops (den C (gB C Φ) K') S0 (A.length+t.depth) (Array.replicate ops.size false) a {w with drawn:=w.drawn+1}:=?_
 ·rw[hsz] at key;exact key
 refine lD (T:=[]) hns (λc o v a w ho hq=>oK hΦ.quiet K' c ho v a w hq) (by rw[hw1];exact λk _ _=>rfl) (λlisted a1 inv hk hl=>?_) A _ a inv0 hpl (hrA a hs1)
 rw[hw1]
 simp only[afF] at hk
 have hl:aG C ⟨sA.L,s'.H,s'.m⟩ a1 w1 ρ F:=hl
 let C2:=C.sub s' is0 w1 ρ F
 have h2f:aG C2 ⟨sA.L,eO is0 s'.H,s'.m⟩ a1 w1 ρ F:=hl.frame (s:=⟨sA.L,s'.H,s'.m⟩) is0
 have hx2:Cx P {g with fix:=s'.m} C2:=⟨⟨x.prog,x.n,Z,x.tys⟩,x.rd⟩
 refine EvT.yI (C:=C2) (λs a w hs=>?_) (λs3 a3 w3 hs3 hj=>?_) t.depth t listed _ a1 w1 hk.1 hk.2 (he C2 hx2) ⟨ρ,F,h2f⟩ (Nat.le_refl _)
 ·obtain⟨ρ',F',hs⟩:=hs
  exact λk hk hb=>hs.keep.block k hk hb
 ·have hs4:Sat C2 s2 a3 w3:=by
   rcases hj with hj | ⟨is,hp,hj⟩
   ·exact LE.sat hj hs3
   ·exact LE.sat hj (Sat.perm hp hs3)
  obtain⟨ρ4,F4,h4⟩:=hs4
  exact k a3 w3 ⟨ρ4,F4,hl.Ef (s:=⟨sA.L,s'.H,s'.m⟩) h4⟩
end Go.Sx
namespace Go.Sx
open Go.Shelf Go.RowKit Go.Proofs
section
variable{P:Program}(w:World)
end
structure But(S:Nat->Prop)(w w':World):Prop where
 os:w'.os=w.os
 tape:w'.tape=w.tape
 output:w'.output=w.output
 size:w.heap.size≤w'.heap.size
 block:∀k,k<w.heap.size->¬S k->w'.heap[k]?=w.heap[k]?
theorem But.refl{S:Nat->Prop}{w:World}:But S w w:=⟨Z,Z,Z,Nat.le_refl _,λ_ _ _=>rfl⟩
theorem But.trans{S:Nat->Prop}{w w1 w2:World}(h:But S w w1)(k:But S w1 w2):But S w w2:=⟨k.os.trans h.os,k.tape.trans h.tape,k.output.trans h.output,Nat.le_trans h.size k.size,λj hj hS=>(k.block j (Nat.lt_of_lt_of_le hj h.size) hS).trans (h.block j hj hS)⟩
section
variable{P:Program}{r:Ren}
end
section
variable{P:Pg}{r:Ren}
def FI(xs:List BY)(sep:BY):BY:=⟨(Lib.join (xs.map (·.data.toList)) sep.data.toList).toArray⟩
end
end Go.Sx
namespace Go.Sx
def IZ(g:Cfg)(s:St)(o:Oper):Option (Nat×Nat×Int×Nat):=
 match o.guard,o.dst,o.op with
 | none,some d,.indexAddr t (.global gl) ix=>match ev s.L [] ix,lk g t with
  | some (.d (.int _ n)),some ti=>match ti.kind with
   | .array N e=>bif isz g e 1&&Nat.blt d g.n then some (gl,N,n,d) else none
   | _=>none
  | _,_=>none
 | _,_,_=>none
theorem Cr.adD{P:Pg}{g:Cfg}{C:Ctx}(x:Cr P g C){s s':St}{K K':List Item}{Φ:Exit->St->Prop}{ob:List Prop}(tab:Nat->D){all:Array Oper}{o:Oper}{rest:List Oper}{gl N d:Nat}{n:Int}(h:run g 1000 K s []=.op ob all o rest K' s')(ho:ak ob)
  (hi:IZ g s' o=some (gl,N,n,d)) (hE:J9 P.env gl N tab) (hb:0≤n∧n<(N:Int)) (k:Go C (.ops all rest::K') {s' with L:=put s'.L d (.gG [tab n.toNat])} Φ):Go C K s Φ:=by
 refine st x.ty x.n x.fix h ⟨ho,?_⟩
 rintro a w ⟨ρ,F,hs⟩
 have hg:=x.ty
 unfold IZ at hi
 split at hi
 ·rename_i d' t gl' ix hgd hd hop
  split at hi
  ·rename_i kk n' ti hix hti
   split at hi
   ·rename_i N' e hkind
    cases hc:(isz g e 1&&Nat.blt d' g.n) with
    | false=>rw[hc] at hi;simp at hi
    | true=>
     rw[hc] at hi
     simp only[cond_true,afJ,afO] at hi
     obtain⟨rfl,rfl,rfl,rfl⟩:=hi
     simp only[afF] at hc
     obtain⟨b0,b1⟩:=hc
     show fU C.rd C.P all (den C (gB C Φ) K') (o::rest) a w
     refine jS hgd λM hM=>?_
     obtain⟨h0,h1⟩:=hb
     obtain⟨f,hf,hlit⟩:=hE
     have Po:jv P.env F w:=by have:=hs.env;rwa [show C.env=P.env from congrArg Pg.env x.prog] at this
     obtain⟨hF,hcell,_⟩:=Po _ _ _ hf
     have hiv:=(aC hs (cO _) hix).1
     generalize hex:a.eval ix=vx at hiv
     cases (show RD F w _ _ from hiv)
     have hu:=(bM hg hti).und
     rw[hkind] at hu
     have hrun:(execOp a.eval o).run C.P w=.ok (.value (.pointer (some ⟨gl',n'.toNat,none⟩))) w:=by
      unfold execOp
      rw[hop]
      refine uN ?_
      simp [Act.eval,hex] at hex ⊢
      simp [hex,Instr.indexAt,Instr.sureAddr,asIntOf,aO (show C.P.underlying t=some (.array N' e) from hu),h0,h1,jg hg b0,Addr.add_lit]
     refine qW hrun tR ?_
     refine hM _ _ ?_
     rw[hd]
     refine k _ _ ⟨ρ,F,hs.xC (by rw[←x.n];simpa using b1) (show RS _ ρ F w (.gG _) _ from⟨gl',n'.toNat,λ_=>f n'.toNat,Z,hF,λi dd hi=>?_⟩) Z⟩
     cases i with
     | succ i=>simp at hi
     | zero=>
      simp only[List.getElem?_cons_zero,afJ] at hi
      subst hi
      exact⟨hcell n'.toNat (by omega),Rw (hlit n'.toNat (by omega))⟩
   ·simp at hi
  ·simp at hi
 ·simp at hi
theorem Xq{a:Act}{t:Nat}{x:Value}(h:a.tmps[t]?=some x):a.put (some t) x=a:=by
 have:a.tmps.setIfInBounds t x=a.tmps:=by
  obtain⟨hi,e⟩:=Array.getElem?_eq_some_iff.1 h
  subst e
  refine Array.ext_getElem? λi=>?_
  rw[Array.getElem?_setIfInBounds]
  by_cases e:t=i
  ·subst e
   rw[if_pos Z,if_pos hi,Array.getElem?_eq_getElem hi]
  ·rw[if_neg e]
 show {a with tmps:=a.tmps.setIfInBounds t x}=a
 rw[this]
theorem Go.dq{C:Ctx}{s:St}{K:List Item}{Φ:Exit->St->Prop}(t:Nat){d:D}(d':D)(h:get s.L t=some (.d d))(q:DQ d d')(k:Go C K {s with L:=put s.L t (.d d')} Φ):Go C K s Φ:=by
 rintro a w ⟨ρ,F,hs⟩
 obtain⟨x,hx,hr⟩:=hs.slot t _ (get_mem h)
 have hlt:t<C.n:=by rw[←hs.size];exact (Array.getElem?_eq_some_iff.1 hx).1
 have h2:=hs.put (d:=t) (v:=.d d') (x:=x) hlt (show RD F w d' x from q.sound hr) Z
 rw[Xq hx] at h2
 exact k a w ⟨ρ,F,h2⟩
theorem DQ.one{z:Nat}{f f':Nat->List D}(hl:(f 0).length=(f' 0).length)(h:∀(j:Nat) (d d':D),(f 0)[j]?=some d->(f' 0)[j]?=some d'->DQ d d'):DQ (.sl z 1 f) (.sl z 1 f'):=
 .sl z 1 f f' (λi hi=>by
  obtain rfl:i=0:=by omega
  exact hl) (λi j d d' hi h1 h2=>by
   obtain rfl:i=0:=by omega
   exact h j d d' h1 h2)
def RF(Φ:Exit->St->Prop):Prop:=∀s,¬Φ .outgrown s
theorem zS{C:Ctx}{Q:Exit->Act->World->Prop}(hQ:∀a w,¬Q .outgrown a w):∀(K:List Item) (a:Act) (w:World),¬den C Q K .outgrown a w
 | [],a,w,h=>hQ a w h
 | .code _::K,a,w,h=>zS hQ K a w h
 | .ops _ _::K,a,w,h=>zS hQ K a w h
 | .blk _::K,a,w,h=>zS hQ K a w h
 | .back _::K,a,w,h=>zS hQ K a w h
theorem I4{C:Ctx}{Φ:Exit->St->Prop}(h:RF Φ)(K:List Item):¬LetsOut (den C (gB C Φ) K):=λ⟨a,w,hd⟩=>zS (λa w ⟨s,_,hs⟩=>h s hs) K a w hd
namespace Cr
variable{P:Pg}{g:Cfg}{C:Ctx}(x:Cr P g C){s s':St}{K K':List Item}{Φ:Exit->St->Prop}{ob:List Prop}
include x
theorem Xr{id:Nat}{ops:Array Oper}(h:run g 1000 K s []=.code ob (.region id ops true) K' s')(ho:ak ob)(hm:P.P.follows .mixedOrders=true)(hB:(Region.lexB .any ops&&Ec ops)=true)(hΦ:RF Φ)
  (k:QGo C ops ops.toList s' K' Φ):Go C K s Φ:=by
 refine st x.ty x.n x.fix h ⟨ho,?_⟩
 rintro a w ⟨ρ,F,hs⟩
 simp only[afF] at hB
 obtain⟨hB,hnd⟩:=hB
 simp only[Region.lexB,afF] at hB
 refine xP (x.rV.symm▸hm) hnd (I4 hΦ K') ?_
 refine wpAny_of_quiet (C:=Mod none w) (Q:=λa'=>∀w',Mod none w w'->den C (gB C Φ) K' .normal a' w') (λ_ w' hw' h=>h w' hw') _ _ _ _ (⟨Z,Z,Z,Nat.le_refl _,λ_ _ _=>rfl⟩:Mod none w {w with drawn:=w.drawn+1}) ?_
 have:=wpAnyQ_lex (C:=Mod none w) (md:=.any) hB.1 ops.toList 0 (Array.replicate ops.size false) a (by simp) (by simpa using hB.2) (k a w ρ F hs)
 simpa using this
theorem adE(A B T:List Nat){id:Nat}{ops:Array Oper}(h:run g 1000 K s []=.code ob (.region id ops true) K' s')(ho:ak ob)(hm:P.P.follows .mixedOrders=true)(hB:(LM .any ops A B T&&Ec ops)=true)(hΦ:NoPanic Φ)(hΦ':RF Φ)
  (k:QGo C ops (aU ops.toList (mF A B)) s' (.ops ops (aU ops.toList T)::K') Φ):Go C K s Φ:=by
 refine st x.ty x.n x.fix h ⟨ho,?_⟩
 rintro a w ⟨ρ,F,hs⟩
 simp only[afF] at hB
 obtain⟨hB,hnd⟩:=hB
 have hd:Mod none w {w with drawn:=w.drawn+1}:=⟨Z,Z,Z,Nat.le_refl _,λ_ _ _=>rfl⟩
 have hpk:aU ops.toList (mF A B)=aU ops.toList A++aU ops.toList B:=by
  rw[tV]
  clear k hB
  induction A with
  | nil=>rfl
  | cons i r ih=>
   simp only[List.cons_append,aU]
   split<;>simp [ih]
 rw[hpk] at k
 exact xP (x.rV.symm▸hm) hnd (I4 hΦ' K') (Fj (C:=Mod none w) hB (oJ (λc a w ⟨s,_,hh⟩=>hΦ c s hh) K') hd (og (λa h w' hw'=>(h w' hw').1) (k a w ρ F hs)))
end Cr
def plainO:Obj->Bool
 | .loop _=>false
 | .deferred _=>false
 | _=>true
section
variable{C:Ctx}{s:St}{a:Act}{w w':World}{ρ:Nat->Value}{F:Nat->Prop}{g:Cfg}
theorem iV.obj{id:Nat}{c:Ch}(h:iV ρ F w id c){b:Nat}(hb:bks ρ id c b):∃o,w.heap[b]?=some o∧plainO o=true:=by
 have own:∀{e:TypeId} {sz n:Nat} {v:Value} {xs:List Value},w.ownsRow 0 e sz v n xs->blk v=some b->∃o,w.heap[b]?=some o∧plainO o=true:=λh1 hb=>by
  rcases h1.2 with⟨h2,_⟩ | ⟨g,cap,cur,h2,_,h4,_⟩
  ·rw[h2] at hb;simp [blk] at hb
  ·rw[h2] at hb;simp [blk] at hb;subst hb;exact⟨_,h4,rfl⟩
 cases c with
 | box us=>obtain⟨b',cs,T,h1,h2,_⟩:=h;change blk (ρ id)=some b at hb;rw[h1] at hb;simp [blk] at hb;subst hb;exact⟨_,h2,rfl⟩
 | arr sz n f=>obtain⟨b',cs,T,h1,h2,_⟩:=h;change blk (ρ id)=some b at hb;rw[h1] at hb;simp [blk] at hb;subst hb;exact⟨_,h2,rfl⟩
 | iter s pos=>obtain⟨b',h1,h2⟩:=h;change blk (ρ id)=some b at hb;rw[h1] at hb;simp [blk] at hb;subst hb;exact⟨_,h2,rfl⟩
 | bld T u=>obtain⟨b',p,x,h1,h2,_⟩:=h;change blk (ρ id)=some b at hb;rw[h1] at hb;simp [blk] at hb;subst hb;exact⟨_,h2,rfl⟩
 | pos l=>obtain⟨b',arr,clock,h1,h2,_⟩:=h;change blk (ρ id)=some b at hb;rw[h1] at hb;simp [blk] at hb;subst hb;exact⟨_,h2,rfl⟩
 | tbl es=>obtain⟨b',arr,clock,h1,h2,_⟩:=h;change blk (ρ id)=some b at hb;rw[h1] at hb;simp [blk] at hb;subst hb;exact⟨_,h2,rfl⟩
 | vec e sz n f=>
  obtain⟨xs,h1,_⟩:=h
  exact own h1 hb
 | rows e e' sz n hole hs m f=>
  obtain⟨xs,h1,h2,_⟩:=h
  rcases hb with hb | ⟨k,hk,hh,hb⟩
  ·exact own h1 hb
  ·obtain⟨_,ys,h3,_⟩:=h2 k hk hh
   exact own h3 hb
 | held e e' sz n i u hs m f=>
  obtain⟨xs,h1,_,h2,_⟩:=h
  rcases hb with hb | ⟨k,hk,hh,hb⟩
  ·exact own h1 hb
  ·obtain⟨_,ys,h3,_⟩:=h2 k hk hh
   exact own h3 hb
def wW(ρ:Nat->Value)(H:List (Nat×Ch)):Nat->Prop:=λb=>∃i c,(i,c)∈H∧bks ρ i c b
def Ctx.inR(C:Ctx)(l fx:Nat)(s:St)(w:World)(ρ:Nat->Value)(F:Nat->Prop):Ctx:=
 {C with w0:=w,E:=wW ρ s.H,F0:=F,ρ0:=ρ,fix:=fx,defs:=[],rd:=some l,mks:=false}
theorem aG.Xt(h:aG C s a w ρ F)(l:Nat){fx:Nat}(hfx:fx≤s.m){L':List (Nat×V)}{a':Act}(hn:a'.tmps.size=C.n)(hd:a'.defers=[])(hs:∀t v,(t,v)∈L'->∃x,a'.tmps[t]?=some x∧RS a'.tmps ρ F w v x)(hf:∀t v,(t,v)∈L'->v.qX (fresh s.m)=true) :
  aG (C.inR l fx s w ρ F) ⟨L',s.H,s.m⟩ a' w ρ F where
 size:=hn
 defers:=.start hd
 slot:=hs
 ch:=h.ch
 sep:=h.sep
 out:=h.out
 aR:=hf
 aK:=h.aK
 lt:=h.lt
 mine i c b hi e:=.inr ⟨i,c,hi,e⟩
 sub k hk:=.inl hk
 base k hk:=hk
 bW:=⟨hfx,λ_ _=>rfl⟩
 keep:=⟨Z,Z,Z,Nat.le_refl _,λ_ _ _=>rfl⟩
 env:=h.env
theorem aG.Xu(h:aG C s a w ρ F){l fx:Nat}(hfx:C.fix≤fx)(hL:∀t v,(t,v)∈s.L->v.qX (fresh fx)=true){s1:St}{a1:Act}{w1:World}{ρ1:Nat->Value}{F1:Nat->Prop}(h1:aG (C.inR l fx s w ρ F) s1 a1 w1 ρ1 F1) :
  aG C ⟨s.L,s1.H,s1.m⟩ a w1 ρ1 F1:=by
 have hm:fx≤s1.m:=h1.bW.1
 have hρ:∀i,i<fx->ρ1 i=ρ i:=h1.bW.2
 have hE:∀b,wW ρ s.H b->C.w0.heap.size≤b∨C.E b:=λb ⟨i,c,hi,e⟩=>h.mine i c b hi e
 have hFw:∀k,F k->w1.heap[k]?=w.heap[k]?:=λk hk=>h1.keep.block k (h.lt k hk) λ⟨i,c,hi,e⟩=>h.out i c k hi e hk
 have hk0:∀(u:V) (v:Value),fresh fx u=true->R0 ρ F w u v->R0 ρ1 F1 w1 u v:=λu v hu hr=>by
  have:=R0.bn (xs:=[]) (m:=fx) (ρ':=ρ1) (F':=F1) (w':=w1) (λi hi _=>hρ i hi) (λk hk=>h1.base k hk) hFw hu hr
  rwa [show bn [] u=u by cases u<;>rfl] at this
 have h3:∀(u:V) (v:Value),u.aQ (fresh fx)=true->R3 ρ F w u v->R3 ρ1 F1 w1 u v:=λu v hu hr=>by
  have:=R3.map (k:=λu=>u) hk0 hu hr
  rwa [sZ] at this
 exact
  {
   size:=h.size,defers:=h.defers.mono h1.base hFw,ch:=h1.ch,sep:=h1.sep,out:=h1.out,aK:=h1.aK,lt:=h1.lt,env:=h1.env
   slot:=λt v hv=>by
    obtain⟨x,hx,hr⟩:=h.slot t v hv
    refine⟨x,hx,?_⟩
    have hf:=hL t v hv
    by_cases hg:∃p y,v=.g p y
    ·obtain⟨p,y,rfl⟩:=hg
     exact⟨λhp=>h3 _ _ hf (hr.1 hp),hr.2⟩
    ·have h0:R3 ρ F w v x:=by cases v<;>first | exact hr | exact (hg ⟨_,_,rfl⟩).elim
     have hf':v.aQ (fresh fx)=true:=by cases v<;>first | exact hf | exact (hg ⟨_,_,rfl⟩).elim
     exact iF (h3 _ _ hf' h0)
   aR:=λt v hv=>Lr (λu hu=>cB hm hu) (hL t v hv)
   mine:=λi c b hi e=>by
    rcases h1.mine i c b hi e with h5 | h5
    ·exact .inl (Nat.le_trans h.keep.size h5)
    ·exact hE b h5
   sub:=λk hk=>by
    rcases h1.sub k hk with h5 | h5 | h5
    ·exact h.sub k h5
    ·exact .inr (.inl (Nat.le_trans h.keep.size h5))
    ·exact .inr (hE k h5)
   base:=λk hk=>h1.base k (h.base k hk)
   bW:=⟨Nat.le_trans hfx hm,λi hi=>by rw[hρ i (Nat.lt_of_lt_of_le hi hfx)];exact h.bW.2 i hi⟩
   keep:=⟨h1.keep.os.trans h.keep.os,h1.keep.tape.trans h.keep.tape,h1.keep.output.trans h.keep.output,Nat.le_trans h.keep.size h1.keep.size,λk hk hne=>by
    refine (h1.keep.block k (Nat.lt_of_lt_of_le hk h.keep.size) λhb=>?_).trans (h.keep.block k hk hne)
    rcases hE k hb with h5 | h5
    ·omega
    ·exact hne h5⟩}
theorem zT{l:Nat}{r:Loop}{o:Obj}(hl:w.heap[l]?=some (.loop r))(k:Nat)(f:Nat)(v:Value)(hc:w.cell? ⟨k,f,none⟩=some v):(w.putObj l o).cell? ⟨k,f,none⟩=some v:=by
 by_cases e:k=l
 ·subst e
  unfold World.cell? at hc
  rw[hl] at hc
  simp at hc
 ·rw[←hc];exact World.cell?_of_block (w:=w) (World.putObj_heap_other e)
theorem Mc{l:Nat}{r:Loop}{o:Obj}(hl:w.heap[l]?=some (.loop r))(k:Nat){arr:Array MapEntry}{clock:Nat}(hc:w.heap[k]?=some (.map arr clock)):(w.putObj l o).heap[k]?=some (.map arr clock):=by
 by_cases e:k=l
 ·subst e;rw[hl] at hc;cases hc
 ·rw[World.putObj_heap_other e];exact hc
theorem aG.Ke(h:aG C s a w ρ F){l:Nat}{r:Loop}(hl:w.heap[l]?=some (.loop r))(hlo:C.w0.heap.size≤l)(o:Obj):aG C s a (w.putObj l o) ρ F:=by
 have hw:xS F w (w.putObj l o):=⟨λk f v _ hc=>zT hl k f v hc,λk arr clock _ hc=>by
  by_cases e:k=l
  ·subst e;rw[hl] at hc;cases hc
  ·rw[World.putObj_heap_other e];exact hc⟩
 have hb:∀i c,(i,c)∈s.H->∀b,bks ρ i c b->(w.putObj l o).heap[b]?=w.heap[b]?:=λi c hi b e=>World.putObj_heap_other λe2=>by
  subst e2
  obtain⟨o',h1,h2⟩:=(h.ch i c hi).obj e
  rw[hl] at h1
  obtain rfl:=afK h1
  cases h2
 exact
  {
   size:=h.size,sep:=h.sep,out:=h.out,aR:=h.aR,aK:=h.aK,mine:=h.mine,sub:=h.sub,base:=h.base,bW:=h.bW
   slot:=λt v hv=>let ⟨x,hx,hr⟩:=h.slot t v hv;⟨x,hx,RS.mono' hw hr⟩
   ch:=λi c hi=>iV.mono' hw (hb i c hi) (h.ch i c hi)
   lt:=λk hk=>by rw[World.putObj_size];exact h.lt k hk
   env:=λg n f hm=>⟨(h.env g n f hm).1,λj hj=>hw.1 _ _ _ (h.env g n f hm).1 ((h.env g n f hm).2.1 j hj),λh0=>let ⟨m,hm'⟩:=(h.env g n f hm).2.2 h0;⟨m,hw.1 _ _ _ (h.env g n f hm).1 hm'⟩⟩
   keep:=⟨h.keep.os,h.keep.tape,h.keep.output,by rw[World.putObj_size];exact h.keep.size,λk hk he=>(World.putObj_heap_other (by omega)).trans (h.keep.block k hk he)⟩
   defers:=by
    obtain⟨ms,m1,m2,m3,m4⟩:=h.defers
    refine⟨ms,m1,m2,m3,λD hD=>?_⟩
    obtain⟨k1,k2,k3⟩:=m4 D hD
    refine⟨k1,k2,(World.putObj_heap_other λe=>?_).trans k3⟩
    subst e
    rw[hl] at k3
    cases k3}
theorem aG.addF(h:aG C s a w ρ F){D:Nat}(hD:D<w.heap.size)(hlo:C.w0.heap.size≤D)(hn:∀i c,(i,c)∈s.H->¬bks ρ i c D):aG C s a w ρ (λk=>F k∨k=D):=by
 refine h.change (λu=>u) (λu v hu hr=>hr.keep (x:=s.m) (λ_ _=>rfl) (λ_=>.inl) (λ_ _=>rfl) (jw (Nat.le_refl _) hu)) (λt v hv=>⟨⟨v,hv,(tq v).symm⟩,h.aR t v hv⟩) (λi c hc=>?_) (λ_=>.inl) (λ_ _=>rfl) (λk hk=>?_) h.keep (Nat.le_refl _) (λk hk=>?_) h.bW.2
 ·refine⟨⟨c,hc,(kF c).symm⟩,(h.aK i c hc).2,Z,λb e=>⟨Z,?_⟩⟩
  rintro (e2 | rfl)
  ·exact h.out i c b hc e e2
  ·exact hn i c hc e
 ·rcases hk with hk | rfl
  ·exact h.lt k hk
  ·exact hD
 ·rcases hk with hk | rfl
  ·exact h.sub k hk
  ·exact .inr (.inl hlo)
theorem aG.shrink{L:List (Nat×V)}{H1 H':List (Nat×Ch)}{m m1:Nat}(h:aG C ⟨L,H1,m1⟩ a w ρ F)(hH:HLE H1 H')(hok:okH m H'=true)(hL:∀t v,(t,v)∈L->v.qX (fresh m)=true)(hm:C.fix≤m):aG C ⟨L,H',m⟩ a w ρ F:=
 {
  size:=h.size,defers:=h.defers,slot:=h.slot,aR:=hL,lt:=h.lt,sub:=h.sub,base:=h.base,bW:=⟨hm,h.bW.2⟩,keep:=h.keep,env:=h.env
  ch:=λi c hc=>by
   obtain⟨u,hu,he⟩:=iI hH hc
   exact iW he (h.ch i u hu)
  sep:=λi j ci cj b hi hj hij e=>by
   obtain⟨u,hu,he⟩:=iI hH hi
   obtain⟨u2,hu2,he2⟩:=iI hH hj
   exact λe2=>h.sep i j u u2 b hu hu2 hij (jd he e) (jd he2 e2)
  out:=λi c b hi e=>by
   obtain⟨u,hu,he⟩:=iI hH hi
   exact h.out i u b hu (jd he e)
  aK:=λi c hi=>Ee hok hi
  mine:=λi c b hi e=>by
   obtain⟨u,hu,he⟩:=iI hH hi
   exact h.mine i u b hu (jd he e)}
def Its(P:Pg)(f:FuncId)(caps:List V)(H:List Ch)(xs:List (List V)):Prop:=
 iN P.P f∧aM caps H H.length=true∧(∀x∈xs,x.all (V.aQ (fresh 0))=true)∧
 ∀(w:World) (F:Nat->Prop) (ρ:Nat->Value) (cs:List Value),(∀k,F k->k<w.heap.size)->jv P.env F w->Holds ρ F w H->aH (R3 ρ F w) caps cs->
  ∀(l:Nat) (J Jx:Nat->World->Prop),
   (∀k W W',J k W->Mod none W W'->J k W')->(∀k W,J k W->(∃F',jv P.env F' W∧(∀k,F' k->k<W.heap.size))∧∀b,F b->W.heap[b]?=w.heap[b]?)->J 0 w->
   (∀k x W1 vals,xs[k]?=some x->J k W1->aH (R3 ρ F W1) x vals->YieldAt Fence.wide 7 P.P l vals.toArray W1 λe W'=>(e=.returned (.bool true)∧J (k+1) W')∨(e=.returned (.bool false)∧Jx k W'))->
   CallsIn Fence.wide 8 P.P f (#[.func (.yield l) #[] #[]]++cs.toArray) w λe W'=>(∃v,e=.returned v)∧(J xs.length W'∨∃k,k<xs.length∧Jx k W')
def o9(p:Prop)(J:List (Nat×Ch))(X:Code->List (Nat×Ch)->Prop):Exit->St->Prop
 | .normal,s=>p∧HLE s.H J
 | .ret,s=>∃H,X .ret H∧HLE s.H H
 | .exit id,s=>∃H,X (.exit id) H∧HLE s.H H
 | .goto l,s=>∃H,X (.goto l) H∧HLE s.H H
 | _,_=>False
theorem o9.Xv{p:Prop}{J:List (Nat×Ch)}{X:Code->List (Nat×Ch)->Prop}:RF (o9 p J X):=λ_ h=>h
theorem o9.bP{p:Prop}{J:List (Nat×Ch)}{X:Code->List (Nat×Ch)->Prop}:NoPanic (o9 p J X):=λ_ _ h=>h
def Me(L:List (Nat×V)):List Nat->List V->List (Nat×V)
 | p::ps,v::vs=>Me (put L p v) ps vs
 | _,_=>L
theorem Mf{m:Nat}{H:List (Nat×Ch)}:∀(ps:List Nat) (x:List V) (vals:List Value) (L:List (Nat×V)) (a:Act),aG C ⟨L,H,m⟩ a w ρ F->ps.all (λp=>Nat.blt p C.n)=true->x.length=ps.length->aH (R3 ρ F w) x vals->x.all (V.aQ (fresh 0))=true->
  aG C ⟨Me L ps x,H,m⟩ {a with tmps:=(ps.zip vals).foldl (λt q=>t.setIfInBounds q.1 q.2) a.tmps} w ρ F
 | [],[],[],L,a,h,_,_,_,_=>h
 | p::ps,v::x,y::vals,L,a,h,hp,hl,hr,hf=>by
  simp only[List.all_cons,afF] at hp hf
  have h1:=h.put (d:=p) (v:=v) (x:=y) (by simpa using hp.1) hr.1 (jc (λu hu=>cB (Nat.zero_le _) hu) hf.1)
  exact Mf ps x vals _ _ h1 hp.2 (by simpa using hl) hr.2 hf.2
 | [],_::_,_,_,_,_,_,hl,_,_=>by simp at hl
 | _::_,[],_,_,_,_,_,hl,_,_=>by simp at hl
 | [],[],_::_,_,_,_,_,_,hr,_=>hr.elim
 | _::_,_::_,[],_,_,_,_,_,hr,_=>hr.elim
end
theorem zU{P:Program}{f:FuncId}(hcall:iN P f)(args:Array Value)(w:World):(callFunc f args).run P w=.ok (.enter f args) w:=by
 obtain⟨fn,h1,h2,h3⟩:=hcall
 have hb:fn.body.isNone=false:=by cases hh:fn.body<;>simp_all
 simp only[callFunc,program,Sem.run_bind,Sem.run_pure,Result.andThen]
 simp [Sem.run,h1,h3,hb]
section
variable{C:Ctx}{s:St}{K:List Item}{Φ:Exit->St->Prop}{g:Cfg}
theorem Go.range{fx:Nat}(Uh:fx=s.m∨(Nat.ble C.fix fx&&Nat.ble fx s.m&&s.L.all λq=>q.2.qX (fresh fx))=true)(hrd:C.rd=none)(hmk:C.mks=true∧C.lo≤C.w0.heap.size){gop:Operand}{ps:List Tmp}{assign body:Code}{f:FuncId}{caps A:List V}{H:List Ch}{xs:List (List V)}(is:List Nat)
  (hev:ev s.L [] gop=some (.fn f A)) (hseq:Its C.pg f caps H xs) (hA:AEq A (caps.map (V.dx (bZ is)))) (hok:(nodupB is&&Nat.beq is.length H.length&&ps.all λp=>Nat.blt p C.n)=true) (hH:HLE s.H (rnH is is H))
  (hps:∀x∈xs,x.length=ps.length) (P:Nat->Prop) (J:Nat->List (Nat×Ch)) (X:Nat->Code->List (Nat×Ch)->Prop)
  (hJ:∀k,okH s.m (J k)=true) (hX:∀k c H',X k c H'->okH s.m H'=true) (hP:P 0) (h0:HLE s.H (J 0))
  (hb:∀k x l,xs[k]?=some x->P k->∀C1:Ctx,C1.pg=C.pg->C1.n=C.n->C1.fix=fx->C1.rd=some l->Go C1 [.code assign] ⟨Me s.L ps x,J k,s.m⟩ λe s1=>e=.normal∧
   ∀C2:Ctx,C2.pg=C.pg->C2.n=C.n->C2.fix=fx->C2.rd=some l->Go C2 [.code body] s1 (o9 (P (k+1)) (J (k+1)) (X k)))
  (k1:P xs.length->Go C K ⟨s.L,J xs.length,s.m⟩ Φ) (k2:∀k c H',k<xs.length->P k->X k c H'->Go C (.code c::K) ⟨s.L,H',s.m⟩ Φ):Go C (.code (.rangeFunc gop ps.toArray assign body)::K) s Φ:=by
 rintro a w ⟨ρ,F,hs⟩
 obtain⟨hcall,hfr,hfx,hseq⟩:=hseq
 simp only[afF] at hok
 obtain⟨⟨o1,o2⟩,o3⟩:=hok
 have o2:=afM o2
 have hm0:C.fix≤s.m:=hs.bW.1
 obtain⟨hx1,hx2,hx3⟩:C.fix≤fx∧fx≤s.m∧∀t v,(t,v)∈s.L->v.qX (fresh fx)=true:=by
  rcases Uh with rfl | Uh
  ·exact⟨hm0,Nat.le_refl _,hs.aR⟩
  ·simp only[afF,List.all_eq_true] at Uh
   exact⟨Nat.le_of_ble_eq_true Uh.1.1,Nat.le_of_ble_eq_true Uh.1.2,λt v hv=>Uh.2 (t,v) hv⟩
 rw[iM,hrd]
 show Code.wpIn (fr none) 9 C.P _ _ a w
 rw[Zr]
 refine wpIn_rangeFunc λfn hfn=>?_
 obtain⟨rec,hrec⟩:∃rec:LoopState->Option Code->Loop,rec=λst pe=>{state:=st,pending:=pe,fn,tmps:=a.tmps,params:=ps.toArray,assign,body,defers:=w.heap.size}:=⟨_,Z⟩
 obtain⟨D,hDw⟩:∃D,D=w.heap.size:=⟨_,Z⟩
 obtain⟨l,hlw⟩:∃l,l=w.heap.size+1:=⟨_,Z⟩
 obtain⟨W1,hW1⟩:∃W1,(w.alloc (.deferred (some []))).alloc (.loop (rec .ready none))=W1:=⟨_,Z⟩
 have hL1:W1.heap[l]?=some (.loop (rec .ready none)):=by
  rw[←hW1,hlw];have:=World.alloc_heap_new (w.alloc (.deferred (some []))) (.loop (rec .ready none));rwa [World.size_alloc] at this
 have hK1:W1.heap[D]?=some (.deferred (some [])):=by
  rw[←hW1,hDw];exact ((Mod.alloc _ _).block _ (by simp) (by simp)).trans (World.alloc_heap_new w _)
 have hM:Mod none w W1:=by rw[←hW1];exact (Mod.alloc w _).trans (Mod.alloc _ _)
 have hsz:W1.heap.size=w.heap.size+2:=by rw[←hW1];simp
 have hDl:D≠l:=by omega
 have hlo:C.w0.heap.size≤D:=by rw[hDw];exact hs.keep.size
 have ab5:C.w0.heap.size≤l:=by omega
 have hs1:aG C s a W1 ρ (λk=>F k∨k=D):=(hs.mod hM).addF (by omega) hlo λi c hi e=>by
  obtain⟨o',h1,h2⟩:=((hs.mod hM).ch i c hi).obj e
  rw[hK1] at h1
  obtain rfl:=afK h1
  cases h2
 obtain⟨F1,hF1⟩:∃F1:Nat->Prop,F1=λk=>F k∨k=D:=⟨_,Z⟩
 rw[←hF1] at hs1
 have hev1:=(aC hs1 (cO _) hev).1
 obtain⟨cs,hcs,vH⟩:=(show R1 ρ F1 W1 (.fn f A) _ from hev1)
 have hold:=holds_of hs1 hfr o2 o1 hH
 have ab6:aH (R3 ρ F1 W1) A cs:=vH.mono λu v hr=>kE (jm (rO hr))
 have hfr2:=hfr
 simp only[aM,afF,List.all_eq_true] at hfr2
 have ab7:aH (R3 (λi=>ρ (nth is i)) F1 W1) caps cs:=(lC hA ab6).unmap λu v hu hr=>R3.dO (k:=H.length) (λ_ _=>rfl) (hfr2.1 u hu) hr
 have hFlt:∀b,F1 b->b<W1.heap.size:=hs1.lt
 refine⟨l,[sU D],W1,{target:=.fn (.func f) cs.toArray,args:=#[.func (.yield l) #[] #[]]},W1,f,#[.func (.yield l) #[] #[]]++cs.toArray,W1,?_,?_,λ_ _=>trivial,?_,λh=>(by cases h),?_⟩
 ·rw[←hW1,hrec,hDw,hlw];exact run_enterLoop_outer _ _ _ _ _
 ·simp only[resolve,hcs]
  simp [go_sem]
 ·simp [invoke,go_sem,zU hcall]
 refine (hseq W1 F1 (λi=>ρ (nth is i)) cs hFlt hs1.env hold ab7 l
  (λk W=>P k∧∃ρ' F',aG C ⟨s.L,J k,s.m⟩ a W ρ' F'∧(∀b,F1 b->F' b∧W.heap[b]?=W1.heap[b]?)∧W.heap[l]?=some (.loop (rec .ready none)))
  (λk W=>∃c H' ρ' F',(P k∧X k c H')∧aG C ⟨s.L,H',s.m⟩ a W ρ' F'∧(∀b,F1 b->F' b∧W.heap[b]?=W1.heap[b]?)∧W.heap[l]?=some (.loop (rec .done (some c))))
  ?_ ?_ ?_ ?_).mono ?_
 ·rintro k W W' ⟨hPk,ρ',F',h1,h2,h3⟩ hm
  refine⟨hPk,ρ',F',h1.mod hm,λb hb=>⟨(h2 b hb).1,(hm.block b (h1.lt b (h2 b hb).1) (by simp)).trans (h2 b hb).2⟩,(hm.block l (Array.getElem?_eq_some_iff.1 h3).1 (by simp)).trans h3⟩
 ·rintro k W ⟨hPk,ρ',F',h1,h2,h3⟩
  exact⟨⟨F',h1.env,h1.lt⟩,λb hb=>(h2 b hb).2⟩
 ·exact⟨hP,ρ,F1,aG.shrink (L:=s.L) (H1:=s.H) (m1:=s.m) hs1 h0 (hJ 0) hs1.aR hm0,λb hb=>⟨hb,Z⟩,hL1⟩
 ·
  rintro k x W vals hx ⟨hPk,ρ',F',h1,h2,h3⟩ xU
  have hxm:x∈xs:=List.mem_of_getElem? hx
  have hxl:=hps x hxm
  have hlt:l<W.heap.size:=(Array.getElem?_eq_some_iff.1 h3).1
  have hvl:=xU.length
  have hy:=run_yield (P:=C.P) (args:=vals.toArray) h3 (by rw[hrec];simp;omega)
  rw[hrec] at hy
  have adF:=hfx x hxm
  have ab8:aH (R3 ρ' F' W) x vals:=by
   have:=xU.imp (g:=λu=>u) (R':=R3 ρ' F' W) (λu v hu hr=>by
    have:=R3.map (p:=fresh 0) (k:=λu=>u) (ρ':=ρ') (F':=F') (w':=W) (λu v hu hr=>by
     have:=R0.bn (xs:=[]) (m:=0) (ρ':=ρ') (F':=F') (w':=W) (λi hi _=>absurd hi (afN _)) (λb hb=>(h2 b hb).1) (λ_ _=>rfl) hu hr
     rwa [show bn [] u=u by cases u<;>rfl] at this) (by simpa using List.all_eq_true.1 adF u hu) hr
    rwa [sZ] at this)
   rwa [List.map_id'] at this
  have ha:aG C ⟨Me s.L ps x,J k,s.m⟩ {a with tmps:=(ps.zip vals).foldl (λt q=>t.setIfInBounds q.1 q.2) a.tmps} W ρ' F':=Mf ps x vals s.L a h1 o3 hxl ab8 adF
  have hA1:=h1.Xt l (fx:=fx) hx2 (L':=Me s.L ps x) (a':={tmps:=(ps.zip vals).foldl (λt q=>t.setIfInBounds q.1 q.2) a.tmps,defers:=[]}) ha.size Z ha.slot ha.aR
  have hgo:=hb k x l hx hPk (C.inR l fx ⟨s.L,J k,s.m⟩ W ρ' F') Z Z Z Z _ W ⟨ρ',F',hA1⟩
  have hzip:(ps.toArray.zip vals.toArray).foldl (λtmps (q:Tmp×Value)=>tmps.setIfInBounds q.1 q.2) a.tmps=(ps.zip vals).foldl (λt q=>t.setIfInBounds q.1 q.2) a.tmps:=by simp [List.zip_toArray]
  refine⟨fn,_,assign,body,hy,Ta (n:=9) (roundIn_of_wpIn hfn ?_)⟩
  have hgo:Code.wpIn (Fence.wide.inRound l) 9 C.P assign (den _ _ []) _ W:=hgo
  refine wpIn_mono (by rw[hzip];exact hgo) ?_
  rintro e a1 w1 ⟨s1,⟨ρ1,F1',hs2⟩,rfl,hb2⟩
  have hlE:∀{ρ0:Nat->Value} {F0:Nat->Prop} {w0:World} {s0:St} {r:Loop},aG C s0 a w0 ρ0 F0->w0.heap[l]?=some (.loop r)->¬wW ρ0 s0.H l:=λh hl ⟨i,c,hi,e⟩=>by
   obtain⟨o',k1,k2⟩:=(h.ch i c hi).obj e
   rw[hl] at k1
   obtain rfl:=afK k1
   cases k2
  have h3':w1.heap[l]?=some (.loop (rec .ready none)):=(hs2.keep.block l hlt (hlE h1 h3)).trans h3
  have q1:=h1.Xu hx1 hx3 hs2
  have ZV:∀b,F1 b->F1' b∧w1.heap[b]?=W1.heap[b]?:=λb hb=>⟨hs2.base b (h2 b hb).1,(hs2.keep.block b (h1.lt b (h2 b hb).1) λ⟨i,c,hi,e⟩=>h1.out i c b hi e (h2 b hb).1).trans (h2 b hb).2⟩
  refine⟨_,run_beginRound h3' (by rw[hrec]),?_⟩
  have hlt1:l<w1.heap.size:=(Array.getElem?_eq_some_iff.1 h3').1
  have q2:=q1.Ke h3' ab5 (.loop {rec .ready none with state:=.busy})
  have hcell:=zT (o:=.loop {rec .ready none with state:=.busy}) h3'
  have hB1:=q2.Xt l (fx:=fx) hs2.bW.1 (L':=s1.L) (a':=a1) hs2.size (hs2.defers.none Z) (λt v hv=>let ⟨x,hx,hr⟩:=hs2.slot t v hv;⟨x,hx,RS.mono' ⟨λk o v _ hc=>hcell k o v hc,λk arr clock _ hc=>Mc h3' k hc⟩ hr⟩) hs2.aR
  have ab9:=hb2 (C.inR l fx ⟨s.L,s1.H,s1.m⟩ (w1.putObj l (.loop {rec .ready none with state:=.busy})) ρ1 F1') Z Z Z Z a1 _ ⟨ρ1,F1',hB1⟩
  have ab9:Code.wpIn (Fence.wide.inRound l) 9 C.P body (den _ _ []) _ _:=ab9
  refine wpIn_mono ab9 ?_
  rintro e a2 w2 ⟨s2,⟨ρ2,F2,hs3⟩,hR⟩
  have hl4:(w1.putObj l (.loop {rec .ready none with state:=.busy})).heap[l]?=some (.loop {rec .ready none with state:=.busy}):=World.putObj_heap_same hlt1
  have h4:w2.heap[l]?=some (.loop {rec .ready none with state:=.busy}):=(hs3.keep.block l (by show l<(w1.putObj l _).heap.size;rw[World.putObj_size];exact hlt1) (hlE q2 hl4)).trans hl4
  have q3:=q2.Xu hx1 hx3 hs3
  have hlF:∀b,F1 b->b≠l:=λb hb e=>by
   have e1:=(h2 b hb).2
   rw[hF1] at hb
   rcases hb with hb | hb
   ·have:=hs.lt b hb;omega
   ·omega
  have hF2:∀b,F1 b->F2 b∧w2.heap[b]?=W1.heap[b]?:=λb hb=>⟨hs3.base b (ZV b hb).1,(hs3.keep.block b (q2.lt b (ZV b hb).1) λ⟨i,c,hi,e⟩=>q2.out i c b hi e (ZV b hb).1).trans ((World.putObj_heap_other (hlF b hb)).trans (ZV b hb).2)⟩
  have fin:∀(jump:Option Code) (H':List (Nat×Ch)),HLE s2.H H'->okH s.m H'=true->
    (Instr.endRound l jump).run C.P w2=.ok (.bool jump.isNone) (w2.putObj l (.loop (rec (if jump.isNone then .ready else .done) jump)))∧
    aG C ⟨s.L,H',s.m⟩ a (w2.putObj l (.loop (rec (if jump.isNone then .ready else .done) jump))) ρ2 F2∧
    (∀b,F1 b->F2 b∧(w2.putObj l (.loop (rec (if jump.isNone then .ready else .done) jump))).heap[b]?=W1.heap[b]?)∧
    (w2.putObj l (.loop (rec (if jump.isNone then .ready else .done) jump))).heap[l]?=some (.loop (rec (if jump.isNone then .ready else .done) jump)):=λjump H' hle hok'=>by
   refine⟨?_,?_,λb hb=>⟨(hF2 b hb).1,(World.putObj_heap_other (hlF b hb)).trans (hF2 b hb).2⟩,World.putObj_heap_same (Array.getElem?_eq_some_iff.1 h4).1⟩
   ·have:=run_endRound (P:=C.P) jump h4
    rw[hrec] at this ⊢
    exact this
   ·exact (aG.shrink (L:=s.L) (H1:=s2.H) (m1:=s2.m) q3 hle hok' hs.aR hm0).Ke h4 ab5 _
  have leave:∀c,(∃H,X k c H∧HLE s2.H H)->∃v w',(Instr.endRound l (some c)).run C.P w2=.ok v w'∧((Ending.returned v=.returned (.bool true)∧P (k+1)∧∃ρ' F',aG C ⟨s.L,J (k+1),s.m⟩ a w' ρ' F'∧(∀b,F1 b->F' b∧w'.heap[b]?=W1.heap[b]?)∧w'.heap[l]?=some (.loop (rec .ready none)))∨
    (Ending.returned v=.returned (.bool false)∧∃c H' ρ' F',(P k∧X k c H')∧aG C ⟨s.L,H',s.m⟩ a w' ρ' F'∧(∀b,F1 b->F' b∧w'.heap[b]?=W1.heap[b]?)∧w'.heap[l]?=some (.loop (rec .done (some c))))):=λc hc=>by
   obtain⟨H',hXc,hc⟩:=hc
   obtain⟨r1,r2,r3,r4⟩:=fin (some c) H' hc (hX k c H' hXc)
   exact⟨_,_,r1,.inr ⟨Z,c,H',ρ2,F2,⟨hPk,hXc⟩,r2,r3,r4⟩⟩
  cases e with
  | normal=>
   obtain⟨r1,r2,r3,r4⟩:=fin none (J (k+1)) hR.2 (hJ _)
   exact⟨_,_,r1,.inl ⟨Z,hR.1,ρ2,F2,r2,r3,r4⟩⟩
  | ret=>exact leave .ret hR
  | exit id=>exact leave (.exit id) hR
  | goto t=>exact leave (.goto t) hR
  | panic ch=>exact hR.elim
  | outgrown=>exact hR.elim
 ·
  have fin:∀{W:World} {ρ':Nat->Value} {F':Nat->Prop} {H':List (Nat×Ch)} {r:Loop} (o:Obj),aG C ⟨s.L,H',s.m⟩ a W ρ' F'->(∀b,F1 b->F' b∧W.heap[b]?=W1.heap[b]?)->W.heap[l]?=some (.loop r)->
    Sat C ⟨s.L,H',s.m⟩ {a with defers:=sU D::a.defers} (W.putObj l o):=λ{W ρ' F' H' r} o h1 h2 h3=>by
   have q:=h1.Ke h3 ab5 o
   have hFD:F1 D:=by rw[hF1];exact .inr Z
   obtain⟨d1,d2⟩:=h2 D hFD
   refine⟨ρ',F',{size:=q.size,slot:=q.slot,ch:=q.ch,sep:=q.sep,out:=q.out,aR:=q.aR,aK:=q.aK,lt:=q.lt,mine:=q.mine,sub:=q.sub,base:=q.base,bW:=q.bW,keep:=q.keep,env:=q.env,defers:=?_}⟩
   obtain⟨ms,m1,m2,m3,m4⟩:=q.defers
   obtain⟨ms0,m10,_,_,m40⟩:=hs.defers
   have hms:ms=ms0:=by
    have e:ms.map sU++C.defs=ms0.map sU++C.defs:=m1.symm.trans m10
    have:=List.append_cancel_right e
    exact (List.map_inj_right λa b e=>by simp [sU] at e;exact e).1 this
   subst hms
   refine⟨D::ms,by rw[m1];rfl,List.nodup_cons.2 ⟨λhm=>?_,m2⟩,λe=>(by rw[hmk.1] at e;cases e),λk hk=>?_⟩
   ·have:=hs.lt D (m40 D hm).2.1;omega
   ·rcases List.mem_cons.1 hk with rfl | hk
    ·exact⟨Nat.le_trans hmk.2 hlo,d1,(World.putObj_heap_other hDl).trans (d2.trans hK1)⟩
    ·exact m4 k hk
  rintro e W ⟨⟨v,rfl⟩,⟨hPk,ρ',F',h1,h2,h3⟩ | ⟨k,hk,c,H',ρ',F',⟨hPk,hXc⟩,h1,h2,h3⟩⟩
  ·have hend:=run_endLoop (P:=C.P) h3 (by rw[hrec];simp)
   exact⟨none,W.putObj l (.loop {rec .ready none with state:=.exhausted}),by rw[hend,hrec],k1 hPk _ _ (fin (.loop {rec .ready none with state:=.exhausted}) h1 h2 h3)⟩
  ·have hend:=run_endLoop (P:=C.P) h3 (by rw[hrec];simp)
   refine⟨some c,W.putObj l (.loop {rec .done (some c) with state:=.exhausted}),by rw[hend,hrec],?_⟩
   have:=k2 k c H' hk hPk hXc _ _ (fin (.loop {rec .done (some c) with state:=.exhausted}) h1 h2 h3)
   rw[iM,hrd] at this
   exact this
end
theorem aD.mkR {P:Pg} (g:Cfg) (xI:bO P.P g.tys) (ids:List Nat) {f:FuncId} {fn:Func} {c:Code} {args:List V} {H:List Ch} {r:V} {H':List Ch} {rs:List ResultVar} (hf:P.P.funcs[f]?=some fn) (hb:fn.body=some c) (hname:(fn.name == "runtime.NumGoroutine")=false)
  (hn:g.n=fn.ntmps) (hrs:fn.results=rs.toArray) (hok:(Nat.ble args.length g.n&&aM args H H.length&&aM [r] H' H'.length&&Nat.ble g.fix H.length&&Nat.ble H.length H'.length)=true)
  (hgo:∀(C:Ctx),Cx P g C->(C.mks=true∧C.lo≤C.w0.heap.size)->Go C [.code c] ⟨ixL args,ixH H,Pn H⟩ (Ret g rs ids r H')):aD P f g.fix args H r H':=by
 simp only[afF] at hok
 obtain⟨⟨⟨⟨h1,h2⟩,h3⟩,h4⟩,h5⟩:=hok
 exact aD.intro hf hb hname xI hn hrs h1 h2 h3 h4 h5 ids λC e1 e2 e3 _ e5 e6=>by rw[←EZ,←E5,←zQ];exact hgo C ⟨⟨e1,e2,e3,xI⟩,e5⟩ e6
theorem Cx.acd{P:Pg}{g:Cfg}{C:Ctx}(x:Cx P g C)(fx:Nat)(hmk:C.mks=true∧C.lo≤C.w0.heap.size){s s':St}{K K':List Item}{Φ:Exit->St->Prop}{ob:List Prop}{gop:Operand}{ps:List Tmp}{assign body:Code}{f:FuncId}{caps A:List V}{H:List Ch}{xs:List (List V)}(is:List Nat)(Pr:Nat->Prop)(J:Nat->List (Nat×Ch))(X:Nat->Code->List (Nat×Ch)->Prop)
  (h:run g 1000 K s []=.code ob (.rangeFunc gop ps.toArray assign body) K' s') (hfx:fx=s'.m∨(Nat.ble g.fix fx&&Nat.ble fx s'.m&&s'.L.all λq=>q.2.qX (fresh fx))=true) (ho:ak ob)
  (hev:ev s'.L [] gop=some (.fn f A)) (hseq:Its P f caps H xs) (hA:AEq A (caps.map (V.dx (bZ is)))) (hok:(nodupB is&&Nat.beq is.length H.length&&ps.all λp=>Nat.blt p g.n)=true) (hH:HLE s'.H (rnH is is H))
  (hps:∀x∈xs,x.length=ps.length) (hJ:∀k,okH s'.m (J k)=true) (hX:∀k c H',X k c H'->okH s'.m H'=true) (hP:Pr 0) (h0:HLE s'.H (J 0))
  (hb:∀k x,xs[k]?=some x->Pr k->∀C1:Ctx,Cr P {g with fix:=fx} C1->Go C1 [.code assign] ⟨Me s'.L ps x,J k,s'.m⟩ λe s1=>e=.normal∧
   ∀C2:Ctx,Cr P {g with fix:=fx} C2->Go C2 [.code body] s1 (o9 (Pr (k+1)) (J (k+1)) (X k)))
  (k1:Pr xs.length->Go C K' ⟨s'.L,J xs.length,s'.m⟩ Φ) (k2:∀k c H',k<xs.length->Pr k->X k c H'->Go C (.code c::K') ⟨s'.L,H',s'.m⟩ Φ):Go C K s Φ:=by
 refine st x.ty x.n x.fix h ⟨ho,?_⟩
 refine Go.range (by rw[←x.fix];exact hfx) x.rd hmk is hev (x.prog▸hseq) hA (by rw[←x.n];exact hok) hH hps Pr J X hJ hX hP h0 (λk y l hy hPk C1 e1 e2 e3 e4 a w hs=>?_) k1 k2
 refine sS (hb k y hy hPk C1 ⟨e1.trans x.prog,x.n.trans e2.symm,e3.symm,x.tys⟩ a w hs) ?_
 intro e a' w' hq
 have hq:den C1 (gB C1 _) [] e a' w':=hq
 obtain⟨s1,q1,q2,q3⟩:=hq
 exact⟨s1,q1,q2,λC2 f1 f2 f3 f4=>q3 C2 ⟨f1.trans x.prog,x.n.trans f2.symm,f3.symm,x.tys⟩⟩
theorem Cx.range{P:Pg}{g:Cfg}{C:Ctx}(x:Cx P g C)(hmk:C.mks=true∧C.lo≤C.w0.heap.size){s s':St}{K K':List Item}{Φ:Exit->St->Prop}{ob:List Prop}{gop:Operand}{ps:List Tmp}{assign body:Code}{f:FuncId}{caps A:List V}{H:List Ch}{xs:List (List V)}(is:List Nat)(Pr:Nat->Prop)(J:Nat->List (Nat×Ch))(X:Nat->Code->List (Nat×Ch)->Prop)
  (h:run g 1000 K s []=.code ob (.rangeFunc gop ps.toArray assign body) K' s') (ho:ak ob)
  (hev:ev s'.L [] gop=some (.fn f A)) (hseq:Its P f caps H xs) (hA:AEq A (caps.map (V.dx (bZ is)))) (hok:(nodupB is&&Nat.beq is.length H.length&&ps.all λp=>Nat.blt p g.n)=true) (hH:HLE s'.H (rnH is is H))
  (hps:∀x∈xs,x.length=ps.length) (hJ:∀k,okH s'.m (J k)=true) (hX:∀k c H',X k c H'->okH s'.m H'=true) (hP:Pr 0) (h0:HLE s'.H (J 0))
  (hb:∀k x,xs[k]?=some x->Pr k->∀C1:Ctx,Cr P {g with fix:=s'.m} C1->Go C1 [.code assign] ⟨Me s'.L ps x,J k,s'.m⟩ λe s1=>e=.normal∧
   ∀C2:Ctx,Cr P {g with fix:=s'.m} C2->Go C2 [.code body] s1 (o9 (Pr (k+1)) (J (k+1)) (X k)))
  (k1:Pr xs.length->Go C K' ⟨s'.L,J xs.length,s'.m⟩ Φ) (k2:∀k c H',k<xs.length->Pr k->X k c H'->Go C (.code c::K') ⟨s'.L,H',s'.m⟩ Φ):Go C K s Φ:=by
 exact x.acd s'.m hmk is Pr J X h (.inl Z) ho hev hseq hA hok hH hps hJ hX hP h0 hb k1 k2
end Go.Sx
