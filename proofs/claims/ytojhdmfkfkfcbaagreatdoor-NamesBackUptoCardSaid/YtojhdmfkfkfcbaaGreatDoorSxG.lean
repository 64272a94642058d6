import Derived.Test.YtojhdmfkfkfcbaaGreatDoorSxF
import Derived.Recover
import Derived.Shelf.Strings.Builder1
import Derived.Shelf.Strings.OnBuilder
set_option maxHeartbeats 1000000000
set_option linter.unusedSimpArgs false
set_option linter.unusedVariables false
namespace Go.Sx
section
variable{P:Program}{ops:Array Oper}{md:Region.Mode}{Q:Exit->Act->World->Prop}{T:List Nat}{S S0:World->Prop}
theorem D7{g:Nat}{L:Array Bool->Act->World->Prop}(hSS:∀w,S w->S0 w)(hL:∀listed a w,L listed a w->wpAnyH P md ops Q S0 g listed a w) :
  ∀(f:Nat) (listed:Array Bool) (a:Act) (w:World),zq P md ops Q S T L f listed a w->wpAnyH P md ops Q S0 (f+g) listed a w
 | 0,listed,a,w,h=>by rw[Nat.zero_add];exact hL _ _ _ h
 | f+1,listed,a,w,h=>by
  rw[show f+1+g=(f+g)+1 by omega]
  exact⟨λh0=>absurd h0 h.1,λi hi=>wpOp_mono (λa' w' h'=>⟨hSS _ h'.1,D7 hSS hL f _ a' w' h'.2⟩) (h.2 i hi).2⟩
theorem Gc:∀(T:List Nat) (listed:Array Bool) (a:Act) (w:World),vT md ops T listed=true->jZ P ops Q S0 (λa w=>Q .normal a w) T a w->wpAnyH P md ops Q S0 T.length listed a w
 | [],listed,a,w,h,hc=>⟨by simpa [vT] using h,hc⟩
 | i::r,listed,a,w,h,hc=>by
  simp only[vT,agN,agT] at h
  refine⟨λh1=>(by rw[h.1] at h1;cases h1),λk hk=>?_⟩
  rw[h.1] at hk
  obtain rfl:=List.mem_singleton.1 hk
  exact wpOp_mono (λa' w' h'=>⟨h'.1,Gc r _ a' w' h.2 h'.2⟩) hc
theorem lK(hs:Region.noSelect ops=true)(hQ:∀c (o:Oper) v a w,o∈ops.toList->Q (.panic c) (a.put o.dst v) w->Q (.panic c) a w){f:Nat}{k:Array Bool->Bool}{R:Act->Prop}{w:World}(hw:S0 w)
  (hk:∀listed a,Inv md ops T listed->k listed=true->R a->wpAnyH P md ops Q S0 f listed a w) :
  ∀(A:List Nat) (listed:Array Bool) (a:Act),Inv md ops T listed->uZ md ops T A listed k=true->iN P ops S0 R (aW ops.toList A) a->wpAnyH P md ops Q S0 (A.length+f) listed a w
 | [],listed,a,inv,hp,h=>by rw[List.length_nil,Nat.zero_add];exact hk _ _ inv hp h
 | i::r,listed,a,inv,hp,h=>by
  simp only[uZ,agN] at hp
  obtain⟨o,ho,hr,hf,hiT⟩:=pK hp.1
  rw[oW (by simpa using ho)] at h
  obtain⟨v,hy,hK⟩:=h
  rw[show (i::r).length+f=(r.length+f)+1 by simp;omega]
  exact wpAnyH_take ho hs hf (by simpa using hr) (λc a w=>hQ c o _ a w (Qh ho)) hy hw (lK hs hQ hw hk r _ _ (inv.set hr hiT) hp.2 hK)
def Qi(md:Region.Mode)(ops:Array Oper)(A B E T:List Nat):Bool:=
 Region.noSelect ops&&Nat.beq (A.length+B.length+E.length+T.length) ops.size&&!T.isEmpty&&vV md ops (pJ T) (mY B E)&&pI md ops T&&
 uZ md ops T A (Array.replicate ops.size false) λl=>uZ md ops T B l λl=>U3 md ops T E l
theorem EF{id:Nat}{a:Act}{w:World}{A B E T:List Nat}(hm:P.follows .mixedOrders=true)(hp:Qi .any ops A B E T=true)(hQ:∀c (o:Oper) v a w,o∈ops.toList->Q (.panic c) (a.put o.dst v) w->Q (.panic c) a w)
  (hS0:S0 {w with drawn:=w.drawn+1}) (hS:S {w with drawn:=w.drawn+1}) (hSS:∀w,S w->S0 w)
  (h:iN P ops S0 (λa1=>iN P ops S (λa2=>jZ P ops Q S (λa w=>jZ P ops Q S0 (λa w=>Q .normal a w) T a w) E a2 {w with drawn:=w.drawn+1}) (aW ops.toList B) a1) (aW ops.toList A) a):(Code.region id ops true).wp P Q a w:=by
 simp only[Qi,agN] at hp
 obtain⟨⟨⟨⟨⟨hs,hsz⟩,hT⟩,hsk⟩,hch⟩,hpl⟩:=hp
 refine wp_region_any hm (wpAny_of_held (S:=S0) _ _ _ _ ?_)
 have inv0:Inv .any ops T (Array.replicate ops.size false):=⟨by simp,λj oj _ hl=>(by rw[getD_replicate_false] at hl;cases hl),λt _=>getD_replicate_false _ _⟩
 have hsz:=agU hsz
 have e:A.length+(B.length+E.length+T.length)=ops.size:=by omega
 have key:wpAnyH P .any ops Q S0 (A.length+(B.length+E.length+T.length)) (Array.replicate ops.size false) a {w with drawn:=w.drawn+1}:=?_
 ·rw[e] at key;exact key
 refine lK (T:=T) hs hQ hS0 (λlisted a inv hk hl=>?_) A _ a inv0 hpl h
 have hB:=vY (md:=.any) hs hsk hch hQ hS B listed a (λi hi=>(by rw[uh];exact List.mem_append_left _ hi)) inv hk hl
 exact D7 (g:=T.length) hSS (λl a' w' hL=>Gc T l a' w' hL.1 hL.2) _ _ _ _ hB
end
theorem Gd{C1:Ctx}{Q:Exit->Act->World->Prop}{ops:Array Oper}{i:Nat}{J:St->Prop}{Φ1:Exit->St->Prop}{s1:St}{a:Act}{w:World}{R:Act->World->Prop}
  (hgo:Go C1 [.ops ops (aW ops.toList [i]),.back J] s1 Φ1) (hs:Sat C1 s1 a w) (hJ:∀s a w,Sat C1 s a w->J s->R a w) (hp:∀c s a w,Sat C1 s a w->Φ1 (.panic c) s->Q (.panic c) a w) (hog:∀s,¬Φ1 .outgrown s):wpOp C1.P ops Q i R a w:=by
 have h5:wpList C1.P ops (den C1 (gP C1 Φ1) [.back J]) (aW ops.toList [i]) a w:=(show gD C1.rd C1.P ops (den C1 (gP C1 Φ1) [.back J]) (aW ops.toList [i]) a w from hgo a w hs).1
 have hK:∀a w,den C1 (gP C1 Φ1) [.back J] .normal a w->R a w:=λa w ⟨s,h1,h2⟩=>hJ s a w h1 h2
 have hpp:∀c a w,den C1 (gP C1 Φ1) [.back J] (.panic c) a w->Q (.panic c) a w:=λc a w ⟨s,h1,h2⟩=>hp c s a w h1 h2
 have hoo:∀a w,¬den C1 (gP C1 Φ1) [.back J] .outgrown a w:=λa w ⟨s,_,h2⟩=>hog s h2
 unfold wpOp
 cases ho:ops[i]? with
 | none=>
  simp only[aW,Array.getElem?_toList,ho] at h5
  exact hK _ _ h5
 | some o=>
  simp only[aW,Array.getElem?_toList,ho] at h5
  unfold wpList at h5
  simp only
  split at h5
  ·rename_i hw
   rw[if_pos hw]
   rcases h5 with h5 | ⟨_,a4,w4,h6⟩
   ·exact .inl (Oper.zu (λa w h=>hK a w h) hpp hoo h5)
   ·exact absurd h6 (hoo a4 w4)
  ·rename_i hw
   rw[if_neg hw]
   exact hK _ _ h5
def Qj(C C2:Ctx)(ops:Array Oper)(K:List Item)(Φ:Exit->St->Prop)(Gf:List (Nat×Ch)):List Nat->St->Prop
 | [],s=>Go C K ⟨s.L,mY s.H Gf,s.m⟩ Φ
 | i::r,s=>Go C2 [.ops ops (aW ops.toList [i]),.back (Qj C C2 ops K Φ Gf r)] s (FrP Φ Gf)
def Qk(C C1 C2:Ctx)(ops:Array Oper)(T:List Nat)(K:List Item)(Φ:Exit->St->Prop)(Gf X9:List (Nat×Ch)):List Nat->St->Prop
 | [],s=>Qj C C2 ops K Φ Gf T ⟨s.L,mY s.H X9,s.m⟩
 | i::r,s=>Go C1 [.ops ops (aW ops.toList [i]),.back (Qk C C1 C2 ops T K Φ Gf X9 r)] s (FrP (FrP Φ Gf) X9)
theorem zw{P:Program}{ops:Array Oper}{S:World->Prop}{R R':Act->Prop}(hR:∀a,R a->R' a):∀(l:List Oper) (a:Act),iN P ops S R l a->iN P ops S R' l a
 | [],a,h=>hR a h
 | _::r,a,⟨v,h1,h2⟩=>⟨v,h1,zw hR r _ h2⟩
theorem Cx.SF{P:Pg}{g:Cfg}{C:Ctx}(x:Cx P g C){s s':St}{K K':List Item}{Φ:Exit->St->Prop}{ob:List Prop}(is0:List Nat)(k0:Nat)(is A B E T:List Nat){id:Nat}{ops:Array Oper}(h:run g 1000 K s []=.code ob (.region id ops true) K' s')(ho:ak ob)(hm:P.P.follows .mixedOrders=true)(hB:Qi .any ops A B E T=true)(hΦ:rC ops Φ)
  (hfr:(Nat.ble k0 s'.m&&Nat.ble g.fix k0&&(aJ is0 s'.H).all λe=>Nat.blt e.1 k0&&e.2.all (fresh k0))=true)
  {obA:List Prop} {sA:St} (hqA:rA g ops 1000 (aW ops.toList A) ⟨s'.L,aJ is0 s'.H,s'.m⟩ []=.done obA sA) (hoA:ak obA)
  {obB:List Prop} {sB:St} (hqB:rA g ops 1000 (aW ops.toList B) ⟨sA.L,aJ is s'.H,s'.m⟩ []=.done obB sB) (hoB:ak obB)
  (k:∀C1 C2,Cx P {g with fix:=s'.m} C1->Cx P {g with fix:=k0} C2->Qk C C1 C2 ops T K' Φ (aJ is0 s'.H) (aJ is (fM is0 s'.H)) E ⟨sB.L,fM is (fM is0 s'.H),s'.m⟩):Go C K s Φ:=by
 refine st x.ty x.n x.fix h ⟨ho,?_⟩
 rintro a w ⟨ρ,F,hs⟩
 have hd:Mod none w {w with drawn:=w.drawn+1}:=⟨Z,Z,Z,Nat.le_refl _,λ_ _ _=>rfl⟩
 have hs1:=hs.mod hd
 generalize hw1:({w with drawn:=w.drawn+1}:World)=w1 at hs1
 simp only[agN,List.all_eq_true] at hfr
 obtain⟨⟨f1,f2⟩,f3⟩:=hfr
 have f1:k0≤s'.m:=by simpa using f1
 have f2:C.fix≤k0:=by rw[←x.fix];simpa using f2
 have hlow:∀i c,(i,c)∈aJ is0 s'.H->i<k0∧c.all (fresh k0)=true:=λi c hi=>by
  have:=f3 (i,c) hi
  simpa using this
 let S0:World->Prop:=λw'=>∀k,k<w1.heap.size->¬eU ρ s'.H is0 k->w'.heap[k]?=w1.heap[k]?
 let S:World->Prop:=λw'=>∀k,k<w1.heap.size->¬eU ρ (fM is0 s'.H) is k->w'.heap[k]?=w1.heap[k]?
 have hSS:∀w',S w'->S0 w':=λw' hw' k hk hb=>hw' k hk λ⟨i,c,h1,h2,h3⟩=>hb ⟨i,c,(bY h2).2,(bY h2).1,h3⟩
 obtain⟨_,_,hrA⟩:=lg (F:=F) x.ty x.n (S:=S0) (λw' hw' k hk hlt=>hw' k hlt hk) 1000 _ _ _ hqA hoA
 obtain⟨_,_,hrB⟩:=lg (F:=F) (ρ:=ρ) (w:=w1) x.ty x.n (S:=S) (is:=is) (H0:=s'.H) (λw' hw' k hk hlt=>hw' k hlt λ⟨i,c,h1,h2,h3⟩=>hk ⟨i,c,h1,(bY h2).1,h3⟩) 1000 _ _ _ hqB hoB
 refine x.KF ?_
 have hP:C.P.follows .mixedOrders=true:=x.rY.symm▸hm
 refine EF (S:=S) (S0:=S0) hP hB (λc o v a w ho hq=>o7 hΦ K' c ho v a w hq) (by rw[hw1];exact λk _ _=>rfl) (by rw[hw1];exact λk _ _=>rfl) hSS ?_
 rw[hw1]
 refine zw (λa1 h1=>zw (λa2 h2=>?_) _ a1 (hrB a1 h1)) _ a (hrA a hs1)
 let C2:=C.U4 s' is0 w1 ρ F k0
 let s2:St:=⟨sB.L,fM is0 s'.H,s'.m⟩
 have h2f:aF C2 s2 a2 w1 ρ F:=h2.KJ (s:=⟨sB.L,s'.H,s'.m⟩) is0 f1
 let C1:=C2.sub s2 is w1 ρ F
 have hx1:Cx P {g with fix:=s'.m} C1:=⟨⟨x.prog,x.n,Z,x.tys⟩,x.rd⟩
 have hx2:Cx P {g with fix:=k0} C2:=⟨⟨x.prog,x.n,Z,x.tys⟩,x.rd⟩
 have Ya:∀{s3 a3 w3 ρ3 F3},aF C2 s3 a3 w3 ρ3 F3->aF C ⟨s3.L,mY s3.H (aJ is0 s'.H),s3.m⟩ a3 w3 ρ3 F3:=λh3=>h2.vZ (s:=⟨sB.L,s'.H,s'.m⟩) f2 hlow h3
 have ab2:∀{s3 a3 w3 ρ3 F3},aF C1 s3 a3 w3 ρ3 F3->aF C2 ⟨s3.L,mY s3.H (aJ is (fM is0 s'.H)),s3.m⟩ a3 w3 ρ3 F3:=λh3=>h2f.EP (s:=s2) h3
 have tail:∀(T:List Nat) (s3:St) (a3:Act) (w3:World),Sat C2 s3 a3 w3->Qj C C2 ops K' Φ (aJ is0 s'.H) T s3->jZ C.P ops (den C (gP C Φ) K') S0 (λa w=>den C (gP C Φ) K' .normal a w) T a3 w3:=by
  intro T
  induction T with
  | nil=>rintro s3 a3 w3 ⟨ρ3,F3,h3⟩ hgo;exact hgo a3 w3 ⟨ρ3,F3,Ya h3⟩
  | cons i r ih=>
   intro s3 a3 w3 h3 hgo
   refine Gd (C1:=C2) hgo h3 (λs4 a4 w4 h4 hj=>⟨?_,ih s4 a4 w4 h4 hj⟩) (λc s4 a4 w4 h4 hp=>?_) (λs4 hp=>by obtain⟨⟨c,hc⟩,_⟩:=hp;cases hc)
   ·obtain⟨ρ4,F4,h4⟩:=h4
    exact λk hk hb=>h4.keep.block k hk hb
   ·obtain⟨ρ4,F4,h4⟩:=h4
    obtain⟨_,hl,X8⟩:=hp
    rw[kT]
    have h6:=Ya h4
    exact⟨_,⟨ρ4,F4,h6⟩,X8⟩
 have key:∀(E:List Nat) (s3:St) (a3:Act) (w3:World),Sat C1 s3 a3 w3->Qk C C1 C2 ops T K' Φ (aJ is0 s'.H) (aJ is (fM is0 s'.H)) E s3->jZ C.P ops (den C (gP C Φ) K') S (λa w=>jZ C.P ops (den C (gP C Φ) K') S0 (λa w=>den C (gP C Φ) K' .normal a w) T a w) E a3 w3:=by
  intro E
  induction E with
  | nil=>rintro s3 a3 w3 ⟨ρ3,F3,h3⟩ hgo;exact tail T _ a3 w3 ⟨ρ3,F3,ab2 h3⟩ hgo
  | cons i r ih=>
   intro s3 a3 w3 h3 hgo
   refine Gd (C1:=C1) hgo h3 (λs4 a4 w4 h4 hj=>⟨?_,ih s4 a4 w4 h4 hj⟩) (λc s4 a4 w4 h4 hp=>?_) (λs4 hp=>by obtain⟨⟨c,hc⟩,_⟩:=hp;cases hc)
   ·obtain⟨ρ4,F4,h4⟩:=h4
    exact λk hk hb=>h4.keep.block k hk hb
   ·obtain⟨ρ4,F4,h4⟩:=h4
    obtain⟨_,hl,_,_,X8⟩:=hp
    rw[kT]
    have h6:=Ya (ab2 h4)
    exact⟨_,⟨ρ4,F4,h6⟩,X8⟩
 exact key E _ a2 w1 ⟨ρ,F,h2f.frame (s:=s2) is⟩ (k C1 C2 hx1 hx2)
inductive Md where
 | back
 | pan (t:TypeId) (ns:List (IntKind×Int))
def Md.mode:Md->FrameMode
 | .back=>.returning
 | .pan t ns=>.panicking (IL t ns)
def Md.done:Md->FrameMode
 | .back=>.returning
 | .pan t ns=>.panicking [{v:=aaJ t ns,recovered:=true}]
def Md.got:Md->D
 | .back=>.ni
 | .pan t ns=>.ifc t ns
def Md.ru:Md->Value
 | .back=>.nilIface
 | .pan t ns=>aaJ t ns
def Md.ends:Md->Exit->Prop
 | .back,e=>e=.normal∨e=.ret
 | .pan t ns,e=>e=.panic (IL t ns)
theorem Md.Yb{F:Nat->Prop}{w:World}:∀md:Md,RD F w md.got md.ru
 | .back=>.ni
 | .pan t ns=>.ifc t ns
theorem Md.settled:∀md:Md,settle md.done=.returning
 | .back=>rfl
 | .pan t ns=>rfl
theorem Md.ac5:∀md:Md,md.mode≠.run
 | .back=>by simp [Md.mode]
 | .pan t ns=>by simp [Md.mode]
theorem Md.recovers(md:Md)(c:Frame)(cs:List Frame)(h:c.mode=md.mode):(match recoverD (c::cs) with | some (v,cs')=>v=md.ru∧cs'={c with mode:=md.done}::cs | none=>md.ru=.nilIface∧c::cs={c with mode:=md.done}::cs):=by
 cases md with
 | back=>
  have h:c.mode=.returning:=h
  simp only[recoverD,h]
  exact⟨rfl,by cases c;simp_all [Md.done]⟩
 | pan t ns=>
  have h:c.mode=.panicking (IL t ns):=h
  simp only[recoverD,h,IL]
  exact⟨Z,Z⟩
def Later(P:Pg)(f:FuncId)(args:List V)(H:List Ch)(md:Md)(H':List Ch):Prop:=
 eO P.P f∧aN args H H.length=true∧aN [.tup []] H' H'.length=true∧H.length≤H'.length∧
 ∀(w:World) (F:Nat->Prop) (ρ:Nat->Value) (vals:List Value),(∀k,F k->k<w.heap.size)->jG P.env F w->Holds ρ F w H->aH (R3 ρ F w) args vals->
  CallsD P.P f vals.toArray md.mode w λe u w'=>u=md.done∧Post w F ρ H.length H (.tup []) H' e w'
def U5(P:Pg)(g:Cfg)(w:World)(F:Nat->Prop)(ρ:Nat->Value)(H:List Ch)(ds:List Deferred):Ctx:={P:=P.P,env:=P.env,n:=g.n,w0:=w,E:=ownB ρ H,F0:=F,ρ0:=ρ,fix:=g.fix,defs:=ds}
section
variable{P:Pg}{g:Cfg}{fn:Func}{args:List V}{H H':List Ch}{w:World}{F:Nat->Prop}{ρ:Nat->Value}{vals:List Value}
theorem Ju(hF:∀k,F k->k<w.heap.size)(hE:jG P.env F w)(hH:Holds ρ F w H)(hargs:aH (R3 ρ F w) args vals)(hn:g.n=fn.ntmps)(hlen:Nat.ble args.length g.n=true)(hfr:aN args H H.length=true)(hfx:Nat.ble g.fix H.length=true) :
  aF (U5 P g w F ρ H []) ⟨ixV 0 args,ixC 0 H,H.length⟩ {tmps:=vals.toArray++Array.replicate (fn.ntmps-vals.toArray.size) undef,defers:=[]} w ρ F:=by
 have XO:g.fix≤H.length:=by simpa using hfx
 have hlen':args.length≤g.n:=by simpa using hlen
 have hvl:=hargs.length
 simp only[aN,agN,List.all_eq_true] at hfr
 refine {size:=?_,defers:=.start Z,slot:=?_,ch:=?_,sep:=?_,out:=?_,aR:=?_,aK:=?_,lt:=hF,mine:=?_,sub:=λk hk=>.inl hk,base:=λ_ hk=>hk,cu:=⟨XO,λ_ _=>rfl⟩,keep:=⟨Z,Z,Z,Nat.le_refl _,λ_ _ _=>rfl⟩,env:=hE}
 ·simp only[Array.size_append,List.size_toArray,Array.size_replicate]
  show _=g.n
  omega
 ·intro t v hv
  obtain⟨_,hv⟩:=tT hv
  obtain⟨x,hx,hr⟩:=hargs.get hv
  refine⟨x,?_,iK hr⟩
  simp only[Nat.sub_zero] at hx
  have:t<vals.length:=(List.getElem?_eq_some_iff.1 hx).1
  rw[Array.getElem?_append_left (by simpa using this)]
  simpa using hx
 ·intro i c hc
  obtain⟨_,hc⟩:=fK hc
  exact hH.ch i c (by simpa using hc)
 ·intro i j ci cj b hi hj hij e
  obtain⟨_,hi⟩:=fK hi
  obtain⟨_,hj⟩:=fK hj
  exact λe2=>hH.sep i j b (by simpa using (List.getElem?_eq_some_iff.1 hi).1) (by simpa using (List.getElem?_eq_some_iff.1 hj).1) hij (dI (hfr.2 ci (List.mem_of_getElem? hi)).2 e) (dI (hfr.2 cj (List.mem_of_getElem? hj)).2 e2)
 ·intro i ci b hi e
  obtain⟨_,hi⟩:=fK hi
  exact hH.out i b (by simpa using (List.getElem?_eq_some_iff.1 hi).1) (dI (hfr.2 ci (List.mem_of_getElem? hi)).2 e)
 ·intro t v hv
  obtain⟨_,hv⟩:=tT hv
  obtain⟨x,hx,hr⟩:=hargs.get hv
  have:=hfr.1 v (List.mem_of_getElem? hv)
  cases v<;>first | exact this | exact (show False from hr).elim
 ·intro i ci hi
  obtain⟨_,hi⟩:=fK hi
  exact⟨by simpa using (List.getElem?_eq_some_iff.1 hi).1,(hfr.2 ci (List.mem_of_getElem? hi)).1⟩
 ·intro i ci b hi e
  obtain⟨_,hi⟩:=fK hi
  exact .inr ⟨i,by simpa using (List.getElem?_eq_some_iff.1 hi).1,dI (hfr.2 ci (List.mem_of_getElem? hi)).2 e⟩
theorem Gg{rs:List ResultVar}{ids:List Nat}{r:V}{ds:List Deferred}(hg:bV P.P g.tys)(hrs:fn.results=rs.toArray)(yE:aN [r] H' H'.length=true){s':St}{a':Act}{w':World}{ρ':Nat->Value}{F':Nat->Prop}(h':aF (U5 P g w F ρ H ds) s' a' w' ρ' F'){e:Exit}(hret:Ret g rs ids r H' e s') :
  ∃y,(results fn a'.tmps).run P.P w'=.ok y w'∧Post w F ρ g.fix H r H' (.returned y) w':=by
 obtain⟨_,hr,hH',hok⟩:=hret
 cases hres:ig g s' rs with
 | none=>rw[hres] at hr;exact hr.elim
 | some r0=>
  rw[hres] at hr
  obtain⟨y,h1,h2⟩:=Jm (C:=U5 P g w F ρ H ds) hg h' hrs hres
  simp only[XM,agN] at hok
  obtain⟨⟨o1,o2⟩,o3⟩:=hok
  have o1:=agU o1
  have hy:=xK hr h1
  simp only[aN,agN,List.all_eq_true] at yE
  have XQ:∀i,i<H'.length->ρ' (nth ids i)=(λi=>ρ' (nth ids i)) i:=λ_ _=>rfl
  have hex:∀i,i<H'.length->∃c,H'[i]?=some c∧∃c0,(nth ids i,c0)∈s'.H∧mH c0 (c.map (cK ids)):=λi hi=>by
   obtain⟨c0,k1,k2⟩:=oz o1 hH' (agO hi)
   exact⟨_,agO hi,c0,k1,k2⟩
  refine⟨y,h2,y,λi=>ρ' (nth ids i),F',Z,h'.keep,?_,λk hk=>?_,h'.lt,h'.sub,?_,?_,?_⟩
  ·intro i hi
   show ρ' (nth ids i)=ρ i
   rw[Cm o3 i hi,Nat.zero_add]
   exact h'.cu.2 i hi
  ·exact h'.base k hk
  ·exact R3.dW XQ (yE.1 r (by simp)) hy
  ·refine⟨λi c hc=>?_,λi j b hi hj hij e=>?_,λi b hi e=>?_⟩
   ·have hi:=(List.getElem?_eq_some_iff.1 hc).1
    obtain⟨c',hc',c0,k1,k2⟩:=hex i hi
    rw[hc] at hc'
    obtain rfl:=agS hc'
    exact jf.dW XQ hi (yE.2 c (List.mem_of_getElem? hc)).1 (jg k2 (h'.ch _ _ k1))
   ·obtain⟨_,_,c0,k1,_⟩:=hex i hi
    obtain⟨_,_,c1,k3,_⟩:=hex j hj
    exact λe2=>h'.sep _ _ c0 c1 b k1 k3 (iq o2 i j (by omega) (by omega) hij) (aT e) (aT e2)
   ·obtain⟨_,_,c0,k1,_⟩:=hex i hi
    exact h'.out _ c0 b k1 (aT e)
  ·intro i b hi e
   obtain⟨_,_,c0,k1,_⟩:=hex i hi
   exact h'.mine _ c0 b k1 (aT e)
end
theorem Later.mk{P:Pg}(g:Cfg)(yG:bV P.P g.tys)(ids:List Nat){f:FuncId}{fn:Func}{id d1 d2:Nat}{o1 o2:Oper}{rest:Code}{args:List V}{H H':List Ch}{md:Md}
  (hf:P.P.funcs[f]?=some fn) (hb:fn.body=some (.seq (.region id #[o1,o2] false) rest)) (hname:(fn.name == "runtime.NumGoroutine")=false) (hn:g.n=fn.ntmps) (hrs:fn.results=#[])
  (g1:o1.guard=none) (p1:o1.op=.call {callee:=.builtin .recover,args:=#[],argTypes:=#[]}) (q1:o1.dst=some d1) (g2:o2.guard=none) (p2:o2.op=.assign (.tmp d1)) (q2:o2.dst=some d2)
  (hfix:g.fix=H.length)
  (hok:(Nat.ble args.length g.n&&aN args H H.length&&aN [.tup []] H' H'.length&&Nat.ble H.length H'.length&&Nat.blt d1 g.n&&Nat.blt d2 g.n)=true)
  (hgo:∀(C:Ctx),Cx P g C->Go C [.code rest] ⟨put (put (ixL args) d1 (.d md.got)) d2 (.d md.got),ixH H,Qe H⟩ (Ret g [] ids (.tup []) H')):Later P f args H md H':=by
 simp only[agN] at hok
 obtain⟨⟨⟨⟨⟨k1,k2⟩,k3⟩,k4⟩,k5⟩,k6⟩:=hok
 refine⟨⟨fn,hf,by rw[hb];rfl,hname⟩,k2,k3,by simpa using k4,λw F ρ vals hF hE hH hargs=>?_⟩
 have h0:=Ju (fn:=fn) hF hE hH hargs hn k1 k2 (by simp [hfix])
 refine callsD_of_wpS hf hb λc₀ cs hu=>?_
 generalize hA:({tmps:=vals.toArray++Array.replicate (fn.ntmps-vals.toArray.size) undef,defers:=[]}:Act)=a0 at h0
 have k5:d1<g.n:=by simpa using k5
 have k6:d2<g.n:=by simpa using k6
 have hs1:=h0.put (d:=d1) (v:=.d md.got) (x:=md.ru) k5 (show R3 ρ F w (.d md.got) md.ru from md.Yb) Z
 have hs2:=hs1.put (d:=d2) (v:=.d md.got) (x:=md.ru) k6 (show R3 ρ F w (.d md.got) md.ru from md.Yb) Z
 have hsz:a0.tmps.size=g.n:=h0.size
 have hev:(a0.put (some d1) md.ru).eval (.tmp d1)=md.ru:=by
  simp [Act.put,Act.eval,hsz,k5]
 have hr1:(execOp a0.eval o1).run P.P w=.ok .recover w:=by simp only[execOp,p1];rfl
 have hr2:(execOp (a0.put (some d1) md.ru).eval o2).run P.P w=.ok (.value md.ru) w:=by
  simp only[execOp,p2,hev];rfl
 have fin:∀cs',cs'={c₀ with mode:=md.done}::cs->rest.wpS P.P (bodyPostS P.P fn c₀ cs (λe u w'=>u=md.done∧Post w F ρ H.length H (.tup []) H' e w')) ((a0.put (some d1) md.ru).put (some d2) md.ru) cs' w:=by
  rintro cs' rfl
  refine wpS_of_wp ?_
  have:=hgo (U5 P g w F ρ H []) ⟨⟨Z,Z,Z,yG⟩,Z⟩ _ w ⟨ρ,F,by rw[FP,FQ,Au];exact hs2⟩
  refine wp_mono (tq.1 this) ?_
  rintro e a' w' ⟨s',⟨ρ',F',h'⟩,hret⟩
  obtain⟨y,y1,y2⟩:=Gg (fn:=fn) (rs:=[]) yG hrs k3 h' hret
  rw[hfix] at y2
  rcases hret.1 with rfl | rfl
  ·exact⟨h'.defers.none Z,md.done,Z,y,y1,Z,y2⟩
  ·exact⟨h'.defers.none Z,md.done,Z,y,y1,Z,y2⟩
 refine wpS_seq (wpS_region ?_)
 have hwt:∀(o:Oper) ys,o.guard=none->Region.wanted o ys=true:=λo ys h=>by simp [Region.wanted,h]
 show wpOpsS P.P #[o1,o2] _ [0,1] a0 (c₀::cs) w
 have hrec:=md.recovers c₀ cs hu
 have e0:(#[o1,o2]:Array Oper)[0]?=some o1:=rfl
 have e1:(#[o1,o2]:Array Oper)[1]?=some o2:=rfl
 rw[wpOpsS,e0]
 simp only[hwt o1 _ g1,if_true,hr1]
 split at hrec
 ·rename_i v cs' hh
  obtain⟨rfl,rfl⟩:=hrec
  rw[hh]
  simp only[q1]
  rw[wpOpsS,e1]
  simp only[hwt o2 _ g2,if_true,hr2,Oper.upon,q2,wpOpsS]
  exact fin _ Z
 ·rename_i hh
  rw[hh]
  simp only[q1]
  rw[show (Value.nilIface)=md.ru from hrec.1.symm,wpOpsS,e1]
  simp only[hwt o2 _ g2,if_true,hr2,Oper.upon,q2,wpOpsS]
  exact fin _ hrec.2
def Yc:Nat->Code->Option (List Code×Code)
 | 0,c=>some ([],c)
 | n+1,.seq a b=>match Yc n b with
  | some (f,r)=>some (a::f,r)
  | none=>none
 | _+1,_=>none
theorem Gh{C:Ctx}{Q:Exit->Act->World->Prop}{id:Nat}{ops:Array Oper}{K:List Item}{a:Act}{w:World}(hr:C.rd=none)(h:wpList C.P ops (den C Q K) ops.toList a w):den C Q (.code (.region id ops false)::K) .normal a w:=by
 rw[iR,hr]
 exact tq.2 (wp_region_list h)
theorem MI{C:Ctx}{Q:Exit->Act->World->Prop}:∀(n:Nat) (c:Code) {f:List Code} {r:Code} (h:Yc n c=some (f,r)) {a:Act} {w:World},den C Q (codes f [.code r]) .normal a w->den C Q [.code c] .normal a w
 | 0,c,f,r,h,a,w,hd=>by
  simp only[Yc,agR,agW] at h
  obtain⟨rfl,rfl⟩:=h
  exact hd
 | n+1,.seq x b,f,r,h,a,w,hd=>by
  refine zh ?_
  simp only[Yc] at h
  split at h
  ·rename_i f' r' hb
   simp only[agR,agW] at h
   obtain⟨rfl,rfl⟩:=h
   refine tu hd λe a w hq=>?_
   cases e with
   | normal=>exact MI n b hb hq
   | _=>
    have:=hq
    change den C Q (codes f' [.code r']) _ a w at this
    rw[sj (by simp)] at this
    exact this
  ·cases h
theorem Ql{P:Program}{all:Array Oper}{Q1 Q2:Exit->Act->World->Prop}{o:Oper}{rest:List Oper}{a:Act}{w:World}(h:wpList P all Q1 [o] a w)(hn:∀a w,Q1 .normal a w->wpList P all Q2 rest a w)
  (hp:∀c a w,Q1 (.panic c) a w->Q2 (.panic c) a w) (ho:∀a w,¬Q1 .outgrown a w):wpList P all Q2 (o::rest) a w:=by
 unfold wpList at h ⊢
 split at h
 ·rename_i hw
  rw[if_pos hw]
  rcases h with h | ⟨_,a4,w4,h6⟩
  ·exact .inl (Oper.zu (λa w h=>hn a w h) hp ho h)
  ·exact absurd h6 (ho a4 w4)
 ·rename_i hw
  rw[if_neg hw]
  exact hn _ _ h
def SG(k:Nat):List V->Bool
 | []=>true
 | .ptr i _::r=>Nat.blt i k&&SG k r
 | _=>false
def Jv(s:St)(o:Oper):Option (FuncId×List V):=
 match o.op,o.guard,o.dst with
 | .defer c,none,none=>match c.callee,c.args.toList with
  | .value fo,[]=>match ev s.L [] fo with
   | some (.fn f caps)=>some (f,caps)
   | _=>none
  | _,_=>none
 | _,_,_=>none
def behind(s:St)(is:List Nat)(H':List Ch):St:=
 let ids:=og is (gF s.m (H'.length-is.length))
 {L:=tH (bB (jc is.length is)) s.L,H:=og (rnH ids ids H') (qB (bB (jc is.length is)) (aJ is s.H)),m:=s.m+(H'.length-is.length)}
def aaL(pins:List Nat):List (Nat×V)->Bool
 | []=>true
 | (t,v)::r=>inL t pins&&!isG v&&aaL pins r
def dim(s:St)(id:Nat):St:=
 match get s.H id with
 | some (.box us)=>⟨s.L,(id,.box (us.map λ_=>.dead))::nM id s.H,s.m⟩
 | _=>s
theorem aF.dim{C:Ctx}{s:St}{a:Act}{w:World}{ρ:Nat->Value}{F:Nat->Prop}(h:aF C s a w ρ F)(id:Nat):aF C (dim s id) a w ρ F:=by
 unfold Sx.dim
 split
 ·rename_i us hg
  have hm:=get_mem hg
  obtain⟨b,cs,T,h1,h2,h3⟩:=h.ch id _ hm
  refine h.touch (c':=.box (us.map λ_=>.dead)) hm (w':=w) ⟨Z,Z,Z,Nat.le_refl _,λ_ _ _=>rfl⟩ ⟨b,cs,T,h1,h2,h3.imp λa b _ hab=>R1.one hab⟩ ?_
  simp [Ch.all,V.all1,fresh]
 ·exact h
def iU(P:Pg)(g:Cfg)(pins:List Nat)(k:Nat)(C1:Ctx)(f:FuncId)(A:List V)(rs:List ResultVar)(ids:List Nat)(r:V)(H':List Ch):Exit->St->Prop:=λe s=>
 ∃(md:Md) (args:List V) (is:List Nat) (H1 H2:List Ch) (s2:St),md.ends e∧((∃c,e=.panic c)->aaL pins s.L=true)∧(∀a w ρ F,aF C1 s a w ρ F->aF C1 s2 a w ρ F)∧Later P f args H1 md H2∧AEq A (args.map (V.dz (cK is)))∧zk {g with fix:=k} s2.m is H1.length H1.length=true∧HLE s2.H (rnH is is H1)∧Ret g rs ids r H' .ret (behind s2 is H2)
def KL(P:Pg)(g:Cfg)(pins:List Nat)(C:Ctx)(o2:Oper)(rest:Code)(rs:List ResultVar)(ids:List Nat)(r:V)(H':List Ch)(s:St):Prop:=
 ∃f A k,Jv s o2=some (f,A)∧(SG k A&&Nat.ble k s.m&&Nat.ble g.fix k)=true∧eO P.P f∧∀C1,Cx P {g with fix:=k} C1->Go C1 [.code rest] s (iU P g pins k C1 f A rs ids r H')
def aaM(pins:List Nat):List Oper->Bool
 | []=>true
 | o::r=>(match o.dst with | some d=>!inL d pins | none=>true)&&aaM pins r
theorem MJ{pins:List Nat}{t:Nat}{v:V}:∀{L:List (Nat×V)},aaL pins L=true->(t,v)∈L->isG v=false∧inL t pins=true
 | (t',v')::r,h,hm=>by
  simp only[aaL,agN,agZ] at h
  rcases List.mem_cons.1 hm with e | hm
  ·obtain⟨rfl,rfl⟩:=Prod.mk.inj e;exact⟨h.1.2,h.1.1⟩
  ·exact MJ h.2 hm
theorem MK{pins:List Nat}{o:Oper}{d:Nat}(hd:o.dst=some d):∀{l:List Oper},aaM pins l=true->o∈l->inL d pins=false
 | o'::r,h,hm=>by
  simp only[aaM,agN] at h
  rcases List.mem_cons.1 hm with e | hm
  ·subst e;have h1:=h.1;rw[hd] at h1;simpa using h1
  ·exact MK hd h.2 hm
theorem iU.quiet{P:Pg}{g:Cfg}{pins:List Nat}{k:Nat}{C1:Ctx}{f:FuncId}{A:List V}{rs:List ResultVar}{ids:List Nat}{r:V}{H':List Ch}{ops:Array Oper}(hp:aaM pins ops.toList=true):rC ops (iU P g pins k C1 f A rs ids r H'):=by
 rintro c s ⟨md,args,is,H1,H2,s2,_,hpin,_⟩ t v hv
 obtain⟨h1,h2⟩:=MJ (hpin ⟨c,Z⟩) hv
 exact⟨h1,λo ho e=>by rw[MK e hp ho] at h2;cases h2⟩
theorem Jr.bG{Φ:Exit->St->Prop}:NoPanic (Jr Φ):=λc s h=>h
theorem Jw{ρ ρ':Nat->Value}{F F':Nat->Prop}{w w':World}{k:Nat}(hρ:∀i,i<k->ρ' i=ρ i):∀{A:List V} {cs:List Value},SG k A=true->aH (R0 ρ F w) A cs->aH (R3 ρ' F' w') A cs
 | [],[],_,_=>trivial
 | .ptr i o::r,c::cs,h,⟨h1,h2⟩=>by
  simp only[SG,agN] at h
  obtain⟨b,e1,e2⟩:=h1
  exact⟨⟨b,by rw[hρ i (by simpa using h.1)];exact e1,e2⟩,Jw hρ h.2 h2⟩
 | [],_::_,_,h=>h.elim
 | .ptr _ _::_,[],_,h=>h.elim
 | .d _::_,_,h,_=>by cases h
 | .aD::_,_,h,_=>by cases h
 | .own _::_,_,h,_=>by cases h
 | .bD ..::_,_,h,_=>by cases h
 | .gU _::_,_,h,_=>by cases h
 | .fn ..::_,_,h,_=>by cases h
 | .agg _::_,_,h,_=>by cases h
 | .tup _::_,_,h,_=>by cases h
 | .g ..::_,_,h,_=>by cases h
 | .dead::_,_,h,_=>by cases h
theorem holds_of{C:Ctx}{s:St}{a:Act}{w:World}{ρ:Nat->Value}{F:Nat->Prop}(h:aF C s a w ρ F){is:List Nat}{args:List V}{H:List Ch}(hfr:aN args H H.length=true)(hl:is.length=H.length)(hnd:nodupB is=true)(hH:HLE s.H (rnH is is H)) :
  Holds (λi=>ρ (nth is i)) F w H:=by
 simp only[aN,agN,List.all_eq_true] at hfr
 have hx:∀i,i<H.length->∃c,H[i]?=some c∧∃c0,(nth is i,c0)∈s.H∧mH c0 (c.map (cK is)):=λi hi=>by
  obtain⟨c0,k1,k2⟩:=oz hl hH (agO hi)
  exact⟨_,agO hi,c0,k1,k2⟩
 refine⟨λi c hc=>?_,λi j b hi hj hij e=>?_,λi b hi e=>?_⟩
 ·have hi:=(List.getElem?_eq_some_iff.1 hc).1
  obtain⟨c',hc',c0,k1,k2⟩:=hx i hi
  rw[hc] at hc'
  obtain rfl:=agS hc'
  exact jf.dW (k:=H.length) (ρ:=λi=>ρ (nth is i)) (λ_ _=>rfl) hi (hfr.2 c (List.mem_of_getElem? hc)).1 (jg k2 (h.ch _ _ k1))
 ·obtain⟨_,_,c0,k1,_⟩:=hx i hi
  obtain⟨_,_,c1,k3,_⟩:=hx j hj
  exact λe2=>h.sep _ _ c0 c1 b k1 k3 (iq hnd i j (by omega) (by omega) hij) (aT e) (aT e2)
 ·obtain⟨_,_,c0,k1,_⟩:=hx i hi
  exact h.out _ c0 b k1 (aT e)
theorem U6{P:Program}{f:FuncId}{cs:Array Value}(hcall:eO P f)(w:World):(invoke (.fn (.func f) cs) #[]).run P w=.ok (.enter f cs) w:=by
 obtain⟨fn,h1,h2,h3⟩:=hcall
 have hb:fn.body.isNone=false:=by cases hh:fn.body<;>simp_all
 simp only[invoke,callFunc,program,Sem.run_bind,Sem.run_pure,Result.andThen]
 simp [Sem.run,h1,h3,hb]
theorem aG.SH{P:Pg}(g:Cfg)(yG:bV P.P g.tys)(ids:List Nat)(n:Nat)(pins:List Nat){f:FuncId}{fn:Func}{c:Code}{pre:List Code}{id:Nat}{o1 o2:Oper}{rest:Code}{args:List V}{H:List Ch}{r:V}{H':List Ch}{rs:List ResultVar}
  (hf:P.P.funcs[f]?=some fn) (hb:fn.body=some c) (hcut:Yc n c=some (pre,.seq (.region id #[o1,o2] false) rest)) (hname:(fn.name == "runtime.NumGoroutine")=false)
  (hn:g.n=fn.ntmps) (hrs:fn.results=rs.toArray) (hok:(Nat.ble args.length g.n&&aN args H H.length&&aN [r] H' H'.length&&Nat.ble g.fix H.length&&Nat.ble H.length H'.length)=true)
  (hgo:∀(C:Ctx),Cx P g C->Go C (codes pre [.back λs=>Go C [.ops #[o1,o2] [o1],.back (KL P g pins C o2 rest rs ids r H')] s λ_ _=>False]) ⟨ixL args,ixH H,Qe H⟩ (Jr (Ret g rs ids r H'))):aG P f g.fix args H r H':=by
 simp only[agN] at hok
 obtain⟨⟨⟨⟨k1,k2⟩,k3⟩,k4⟩,k5⟩:=hok
 refine⟨⟨fn,hf,by rw[hb];rfl,hname⟩,k2,k3,by simpa using k4,by simpa using k5,λw F ρ vals hF hE hH hargs=>?_⟩
 have h0:=Ju (fn:=fn) hF hE hH hargs hn k1 k2 k4
 refine calls_of_wp_defers hf hb ?_
 let C:=U5 P g w F ρ H []
 have hx:Cx P g C:=⟨⟨Z,Z,Z,yG⟩,Z⟩
 have hgo:=hgo C hx _ w ⟨ρ,F,by rw[FP,FQ,Au];exact h0⟩
 refine tq.1 (MI (C:=C) (Q:=bodyPostD P.P fn (Post w F ρ g.fix H r H')) n c hcut (Js (J:=λs=>Go C [.ops #[o1,o2] [o1],.back (KL P g pins C o2 rest rs ids r H')] s λ_ _=>False) (Φ:=Ret g rs ids r H') (λs a w' hs hj=>?_) (λs a w' hs hr=>?_) pre _ _ hgo))
 ·refine zh (Gh Z ?_)
  show wpList C.P #[o1,o2] (den C (bodyPostD P.P fn (Post w F ρ g.fix H r H')) [.code rest]) [o1,o2] a w'
  refine Ql (Q1:=den C (gP C λ_ _=>False) [.back (KL P g pins C o2 rest rs ids r H')]) (show gD C.rd C.P #[o1,o2] (den C (gP C λ_ _=>False) [.back (KL P g pins C o2 rest rs ids r H')]) [o1] a w' from hj a w' hs).1 (λa1 w1 h1=>?_) (λc a w h=>by obtain⟨_,_,h⟩:=h;exact h.elim) (λa w h=>by obtain⟨_,_,h⟩:=h;exact h.elim)
  obtain⟨s1,⟨ρ1,F1,hs1⟩,f1,A,k,hdi,hkb,hcall,hgo1⟩:=h1
  simp only[agN] at hkb
  obtain⟨⟨b1,b2⟩,b3⟩:=hkb
  have b2:k≤s1.m:=by simpa using b2
  have b3:g.fix≤k:=by simpa using b3
  unfold Jv at hdi
  split at hdi
  ·rename_i cl hop hgd hds
   split at hdi
   ·rename_i fo hcl hca
    split at hdi
    ·rename_i f2 caps hev
     simp only[agR,agW] at hdi
     obtain⟨rfl,rfl⟩:=hdi
     obtain⟨cs,hcs,vR⟩:=(show R1 ρ1 F1 w1 (.fn f2 caps) _ from (aC hs1 (dn _) hev).1)
     have hca:cl.args=#[]:=by cases hcc:cl.args;simp_all
     have hrun:(execOp a1.eval o2).run C.P w1=.ok (.defer {target:=.fn (.func f2) cs.toArray,args:=#[]}) w1:=by
      simp only[execOp,hop,resolve,hcl,hcs,hca,Deferred.ofValue]
      simp [Sem.run,bind,pure]
      rfl
     refine wpList_plain hgd λN hN=>?_
     unfold Oper.wp
     rw[hrun,Oper.upon_defer,hds]
     refine hN _ _ ?_
     let d:Deferred:={target:=.fn (.func f2) cs.toArray,args:=#[]}
     have hdef:a1.defers=[]:=hs1.defers.none Z
     refine tq.2 ?_
     show Code.wp C.P rest (bodyPostD P.P fn (Post w F ρ g.fix H r H')) {a1 with defers:=d::a1.defers} w1
     rw[hdef]
     let C1:Ctx:={C with defs:=[d],fix:=k,ρ0:=ρ1}
     have hx1:Cx P {g with fix:=k} C1:=⟨⟨Z,Z,Z,yG⟩,Z⟩
     have XP:aF C1 s1 {a1 with defers:=[d]} w1 ρ1 F1:=
      {size:=hs1.size,defers:=.start Z,slot:=hs1.slot,ch:=hs1.ch,sep:=hs1.sep,out:=hs1.out,aR:=hs1.aR,aK:=hs1.aK,lt:=hs1.lt,mine:=hs1.mine,sub:=hs1.sub,base:=hs1.base,cu:=⟨b2,λ_ _=>rfl⟩,keep:=hs1.keep,env:=hs1.env}
     have hfx1:∀i,i<g.fix->ρ1 i=ρ i:=hs1.cu.2
     refine wp_mono (tq.1 (hgo1 C1 hx1 _ _ ⟨ρ1,F1,XP⟩)) ?_
     rintro e a2 w2 ⟨s2,⟨ρ2,F2,hs2⟩,md,args2,is,H1,H2,s3,hend,_,aeG,hlat,hA,hok,hHL,hret⟩
     have hs3:=aeG a2 w2 ρ2 F2 hs2
     obtain⟨_,l2,l3,l4,l5⟩:=hlat
     have hok2:=hok
     simp only[zk,agN] at hok2
     obtain⟨⟨⟨o1',_⟩,_⟩,o4⟩:=hok2
     have o4:=agU o4
     have DT:=holds_of hs3 l2 o4 o1' hHL
     have hA3:aH (R3 ρ2 F2 w2) caps cs:=Jw (λi hi=>hs3.cu.2 i hi) b1 vR
     have hA4:=lJ hA hA3
     simp only[aN,agN,List.all_eq_true] at l2
     have hA5:aH (R3 (λi=>ρ2 (nth is i)) F2 w2) args2 cs:=hA4.unmap λu v hu hr=>R3.dW (k:=H1.length) (λ_ _=>rfl) (l2.1 u hu) hr
     have hdel:=l5 w2 F2 _ cs hs3.lt (show jG P.env F2 w2 from hs3.env) DT hA5
     have key:Leaves P.P fn a2.tmps (Post w F ρ g.fix H r H') a2.defers md.mode w2:=by
      rw[show a2.defers=[d] from hs2.defers.none rfl]
      refine leaves_cons md.ac5 (U6 hcall w2) (hdel.mono ?_)
      rintro e3 u3 w3 ⟨rfl,hpost⟩
      obtain⟨v3,ρ3,F3,rfl,_,_,hs4⟩:=aF.called (g:={g with fix:=k}) hs3 Z hok hHL l4 l3 hpost
      have hs5:aF (U5 P g w F ρ H [d]) (behind s3 is H2) a2 w3 ρ3 F3:=by
       have hs4:aF C1 (behind s3 is H2) a2 w3 ρ3 F3:=by
        rw[←o4] at hs4
        exact hs4
       exact {size:=hs4.size,defers:=hs4.defers,slot:=hs4.slot,ch:=hs4.ch,sep:=hs4.sep,out:=hs4.out,aR:=hs4.aR,aK:=hs4.aK,lt:=hs4.lt,mine:=hs4.mine,sub:=hs4.sub,base:=hs4.base,cu:=⟨Nat.le_trans b3 hs4.cu.1,λi hi=>(hs4.cu.2 i (Nat.lt_of_lt_of_le hi b3)).trans (hfx1 i hi)⟩,keep:=hs4.keep,env:=hs4.env}
      obtain⟨y,y1,y2⟩:=Gg (fn:=fn) yG hrs k3 hs5 hret
      show Leaves P.P fn a2.tmps (Post w F ρ g.fix H r H') [] (settle md.done) w3
      rw[md.settled]
      exact⟨y,y1,y2⟩
     cases md with
     | back=>
      rcases hend with rfl | rfl
      ·exact key
      ·exact key
     | pan t ns=>
      have hend:e=.panic (IL t ns):=hend
      subst hend
      exact key
    ·simp at hdi
   ·simp at hdi
  ·simp at hdi
 ·obtain⟨ρ',F',hs⟩:=hs
  obtain⟨y,y1,y2⟩:=Gg (fn:=fn) yG hrs k3 hs hr
  show Leaves P.P fn a.tmps (Post w F ρ g.fix H r H') a.defers .returning w'
  rw[show a.defers=[] from hs.defers.none rfl]
  exact⟨y,y1,y2⟩
inductive iG where
 | leaf
 | no
 | fork (i:Nat) (here others:iG)
def inN:List Nat->Nat->Bool
 | [],_=>false
 | a::r,t=>bif Nat.beq a t then true else inN r t
def okO(d:List Nat):List (Nat×List Nat)->List Nat
 | []=>[]
 | (i,p)::r=>bif inN d i then okO d r else bif p.all (inN d) then i::okO d r else okO d r
def mkR(f:Nat->iG):List Nat->iG
 | []=>.no
 | i::r=>.fork i (f i) (mkR f r)
def mkO(l:List (Nat×List Nat)):Nat->List Nat->iG
 | 0,_=>.leaf
 | n+1,d=>match okO d l with
  | []=>.leaf
  | q=>mkR (λi=>mkO l n (i::d)) q
def iG.firsts:iG->List Nat
 | .fork i _ b=>i::b.firsts
 | _=>[]
def iG.depth:iG->Nat
 | .fork _ a b=>max (a.depth+1) b.depth
 | _=>0
def iG.top(ops:Array Oper)(t:iG)(l:Array Bool):Bool:=match t with
 | .leaf=>true
 | .no=>false
 | t=>decide (t.firsts=Region.ready .any ops l)
def iG.chk(ops:Array Oper):iG->Array Bool->Bool
 | .leaf,l=>(Region.ready .any ops l).isEmpty
 | .no,_=>true
 | .fork i a b,l=>a.chk ops (l.setIfInBounds i true)&&a.top ops (l.setIfInBounds i true)&&b.chk ops l
def EvT(C:Ctx)(ops:Array Oper)(J:St->Prop):iG->St->Prop
 | .leaf,s=>J s
 | .no,_=>True
 | .fork i a b,s=>Go C [.ops ops (aW ops.toList [i]),.back (EvT C ops J a)] s (λ_ _=>False)∧EvT C ops J b s
section
variable{C:Ctx}{ops:Array Oper}{J:St->Prop}{Q:Exit->Act->World->Prop}
theorem EvT.pick{t:iG}{s:St}{l:Array Bool}(h:EvT C ops J t s)(hc:t.chk ops l=true){i:Nat}(hi:i∈t.firsts) :
  ∃a,a.chk ops (l.setIfInBounds i true)=true∧a.top ops (l.setIfInBounds i true)=true∧a.depth+1≤t.depth∧Go C [.ops ops (aW ops.toList [i]),.back (EvT C ops J a)] s (λ_ _=>False):=by
 induction t with
 | leaf=>cases hi
 | no=>cases hi
 | fork j a b _ ih=>
  simp only[iG.chk,agN] at hc
  obtain⟨⟨h2,h3⟩,h4⟩:=hc
  rcases List.mem_cons.1 hi with e | hi
  ·subst e;exact⟨a,h2,h3,Nat.le_max_left _ _,h.1⟩
  ·obtain⟨c,c1,c2,c3,c4⟩:=ih h.2 h4 hi
   exact⟨c,c1,c2,Nat.le_trans c3 (Nat.le_max_right _ _),c4⟩
theorem EvT.sound(hJ:∀s a w,Sat C s a w->J s->Q .normal a w):∀(n:Nat) (t:iG) (l:Array Bool) (s:St) (a:Act) (w:World),t.chk ops l=true->t.top ops l=true->EvT C ops J t s->Sat C s a w->t.depth≤n->wpAny C.P .any ops Q n l a w
 | n,.leaf,l,s,a,w,hc,_,ht,hs,_=>by
  have hr:Region.ready .any ops l=[]:=by simpa [iG.chk] using hc
  cases n with
  | zero=>exact⟨hr,hJ s a w hs ht⟩
  | succ n=>exact⟨λ_=>hJ s a w hs ht,λi hi=>by rw[hr] at hi;cases hi⟩
 | n,.no,l,s,a,w,_,htop,_,_,_=>by simp [iG.top] at htop
 | 0,.fork i x y,l,s,a,w,_,_,_,_,hd=>by
  have:x.depth+1≤(iG.fork i x y).depth:=Nat.le_max_left _ _
  omega
 | n+1,.fork i x y,l,s,a,w,hc,htop,ht,hs,hd=>by
  have hr:(iG.fork i x y).firsts=Region.ready .any ops l:=by simpa [iG.top] using htop
  refine⟨λh=>(by rw[←hr] at h;cases h),λj hj=>?_⟩
  rw[←hr] at hj
  obtain⟨b,b1,b2,b4,b3⟩:=ht.pick hc hj
  refine Gd b3 hs (λs1 a1 w1 h1 hj1=>EvT.sound hJ n b _ s1 a1 w1 b1 b2 hj1 h1 (by omega)) (λ_ _ _ _ _ h=>h.elim) (λ_ h=>h.elim)
end
theorem Cx.every{P:Pg}{g:Cfg}{C:Ctx}(x:Cx P g C){s s':St}{K K':List Item}{Φ:Exit->St->Prop}{ob:List Prop}(t:iG)(s2:St){id:Nat}{ops:Array Oper}(h:run g 1000 K s []=.code ob (.region id ops true) K' s')(ho:ak ob)(hm:P.P.follows .mixedOrders=true)
  (hc:(t.chk ops (Array.replicate ops.size false)&&t.top ops (Array.replicate ops.size false)&&Nat.ble t.depth ops.size)=true) (he:EvT C ops (λs=>LE g.fix s s2) t s') (k:Go C K' s2 Φ):Go C K s Φ:=by
 refine st x.ty x.n x.fix h ⟨ho,?_⟩
 rintro a w ⟨ρ,F,hs⟩
 have hd:Mod none w {w with drawn:=w.drawn+1}:=⟨Z,Z,Z,Nat.le_refl _,λ_ _ _=>rfl⟩
 have hs1:=hs.mod hd
 simp only[agN] at hc
 obtain⟨⟨h1,h2⟩,h3⟩:=hc
 have hP:C.P.follows .mixedOrders=true:=x.rY.symm▸hm
 refine x.KF ?_
 exact wp_region_any hP (EvT.sound (λs a w hs hj=>k a w (LE.sat (x.fix▸hj) hs)) ops.size t _ s' a _ h1 h2 he ⟨ρ,F,hs1⟩ (by simpa using h3))
section
variable{P:Program}{Q Q':Exit->Act->World->Prop}
theorem LetsOut.mono(h:∀e a w,Q e a w->Q' e a w):LetsOut Q->LetsOut Q':=λ⟨a,w,hq⟩=>⟨a,w,h _ a w hq⟩
theorem Oper.Qm{o:Oper}{a:Act}{K K':Act->World->Prop}(hK:∀a w,K a w->K' a w)(h:∀e a w,Q e a w->Q' e a w):∀{r:Result Next},o.upon P a K Q r->o.upon P a K' Q' r:=by
 intro r hr
 cases r with
 | ok n w'=>
  cases n<;>simp only[Oper.upon] at hr ⊢<;>
   first
    | exact hK _ _ hr
    | exact Calls.mono hr (λe w'' he=>by
     cases e with
     | returned v=>exact hK _ _ he
     | panicked c=>exact h _ _ _ he
     | outgrown=>exact LetsOut.mono h he)
    | exact Rows.mono hr (λ_ _ he=>hK _ _ he)
 | halt x w'=>
  cases x<;>simp only[Oper.upon] at hr ⊢
  exact h _ _ _ hr
theorem wh{ops:Array Oper}(h:∀e a w,Q e a w->Q' e a w):∀{l:List Oper} {a:Act} {w:World},wpList P ops Q l a w->wpList P ops Q' l a w
 | [],a,w,hl=>h _ a w hl
 | o::r,a,w,hl=>by
  unfold wpList at hl ⊢
  split
  ·rename_i hw
   rw[if_pos hw] at hl
   rcases hl with hl | hl
   ·exact .inl (Oper.Qm (λa w hh=>wh h hh) h hl)
   ·exact .inr ⟨hl.1,LetsOut.mono h hl.2⟩
  ·rename_i hw
   rw[if_neg hw] at hl
   exact wh h hl
theorem Qn{Fc:Fence}{n:Nat}{o:Oper}{a:Act}{K K':Act->World->Prop}(hK:∀a w,K a w->K' a w)(h:∀e a w,Q e a w->Q' e a w):∀{r:Result Next},o.uponIn Fc n P a K Q r->o.uponIn Fc n P a K' Q' r:=by
 intro r hr
 cases r with
 | ok x w'=>
  cases x<;>simp only[Oper.uponIn] at hr ⊢<;>
   first
    | exact hK _ _ hr
    | exact⟨hr.1,CallsIn.mono hr.2 (λe w'' he=>by
     cases e with
     | returned v=>exact hK _ _ he
     | panicked c=>exact h _ _ _ he
     | outgrown=>exact LetsOut.mono h he)⟩
    | exact⟨hr.1,RowsIn.mono hr.2 (λ_ _ he=>hK _ _ he)⟩
    | exact⟨hr.1,RoundIn.mono hr.2 (λe w'' he=>by
     cases e with
     | returned v=>exact hK _ _ he
     | panicked c=>exact h _ _ _ he
     | outgrown=>exact LetsOut.mono h he)⟩
 | halt x w'=>
  cases x<;>simp only[Oper.uponIn] at hr ⊢
  exact h _ _ _ hr
theorem pO{Fc:Fence}{n:Nat}{ops:Array Oper}(h:∀e a w,Q e a w->Q' e a w):∀{l:List Oper} {a:Act} {w:World},wpListIn Fc n P ops Q l a w->wpListIn Fc n P ops Q' l a w
 | [],a,w,hl=>h _ a w hl
 | o::r,a,w,hl=>by
  unfold wpListIn at hl ⊢
  split
  ·rename_i hw
   rw[if_pos hw] at hl
   exact⟨hl.1,Qn (λa w hh=>pO h hh) h hl.2⟩
  ·rename_i hw
   rw[if_neg hw] at hl
   exact⟨hl.1,pO h hl.2⟩
theorem D8{rr:Option Nat}{ops:Array Oper}(h:∀e a w,Q e a w->Q' e a w){l:List Oper}{a:Act}{w:World}(hl:gD rr P ops Q l a w):gD rr P ops Q' l a w:=
 ⟨wh h hl.1,pO h hl.2⟩
end
section
variable{C:Ctx}{s:St}{K:List Item}{Φ Φ':Exit->St->Prop}
theorem lX{Q Q':Exit->Act->World->Prop}(h:∀e a w,Q e a w->Q' e a w):∀(K:List Item) (e:Exit) (a:Act) (w:World),den C Q K e a w->den C Q' K e a w
 | [],e,a,w,hd=>h e a w hd
 | .code c::K,e,a,w,hd=>by
  cases e with
  | normal=>exact tu hd λe a w hq=>lX h K e a w hq
  | _=>exact lX h K _ a w hd
 | .ops all l::K,e,a,w,hd=>by
  cases e with
  | normal=>exact D8 (λe a w hq=>lX h K e a w hq) hd
  | _=>exact lX h K _ a w hd
 | .blk id::K,e,a,w,hd=>by
  cases e with
  | exit i=>
   simp only[den,Exit.inBlock] at hd ⊢
   split
   ·rename_i hi;rw[if_pos hi] at hd;exact lX h K _ a w hd
   ·rename_i hi;rw[if_neg hi] at hd;exact lX h K _ a w hd
  | _=>exact lX h K _ a w hd
 | .back J::K,e,a,w,hd=>by
  cases e with
  | normal=>exact hd
  | _=>exact lX h K _ a w hd
theorem Go.relax(h:∀e s a w,Φ' e s->Sat C s a w->∃s2,Sat C s2 a w∧Φ e s2)(k:Go C K s Φ'):Go C K s Φ:=λa w hs=>
 lX (λe a w ⟨s1,h1,h2⟩=>h e s1 a w h2 h1) K _ a w (k a w hs)
theorem Sat.frozen{a:Act}{w:World}(h:Sat C s a w)(id:Nat):Sat C (frozen s id) a w:=by
 have:Go C [] s (λ_ s'=>s'=Sx.frozen s id):=Go.freeze id λa w hs=>⟨_,hs,Z⟩
 obtain⟨s',h1,rfl⟩:=this a w h
 exact h1
def freezes:List Nat->St->St
 | [],s=>s
 | id::r,s=>freezes r (frozen s id)
theorem Sat.freezes{a:Act}{w:World}:∀(ids:List Nat) {s:St},Sat C s a w->Sat C (freezes ids s) a w
 | [],_,h=>h
 | id::r,_,h=>(h.frozen id).freezes r
theorem Go.ac6(ids:List Nat)(k:Go C K s λe s=>Φ e (freezes ids s)):Go C K s Φ:=
 Go.relax (λe s a w hp hs=>⟨_,hs.freezes ids,hp⟩) k
theorem aH.qC{α β:Type}{R:α->β->Prop}{a:α}:∀{xs:List α} {ys:List β} {j:Nat},aH R xs ys->(∀b,ys[j]?=some b->R a b)->aH R (xs.set j a) ys
 | [],[],_,_,_=>trivial
 | _::_,_::_,0,⟨_,h⟩,e=>⟨e _ rfl,h⟩
 | _::_,_::_,_+1,⟨h0,h⟩,e=>⟨h0,aH.qC h λb hb=>e b (by simpa using hb)⟩
 | [],_::_,_,h,_=>h.elim
 | _::_,[],_,h,_=>h.elim
theorem j3{J:St->Prop}{Q:Exit->Act->World->Prop}{K2:List Item}(hJ:∀s a w,Sat C s a w->J s->den C Q K2 .normal a w):∀(K1:List Item) (e:Exit) (a:Act) (w:World),den C (gP C λ_ _=>False) (K1++[.back J]) e a w->den C Q (K1++K2) e a w
 | [],e,a,w,hd=>by
  cases e with
  | normal=>obtain⟨s,h1,h2⟩:=hd;exact hJ s a w h1 h2
  | _=>obtain⟨_,_,h⟩:=hd;exact h.elim
 | .code c::K,e,a,w,hd=>by
  cases e with
  | normal=>exact tu hd λe a w hq=>j3 hJ K e a w hq
  | _=>exact j3 hJ K _ a w hd
 | .ops all l::K,e,a,w,hd=>by
  cases e with
  | normal=>exact D8 (λe a w hq=>j3 hJ K e a w hq) hd
  | _=>exact j3 hJ K _ a w hd
 | .blk id::K,e,a,w,hd=>by
  cases e with
  | exit i=>
   simp only[List.cons_append,den,Exit.inBlock] at hd ⊢
   split
   ·rename_i hi;rw[if_pos hi] at hd;exact j3 hJ K _ a w hd
   ·rename_i hi;rw[if_neg hi] at hd;exact j3 hJ K _ a w hd
  | _=>exact j3 hJ K _ a w hd
 | .back J'::K,e,a,w,hd=>by
  cases e with
  | normal=>exact hd
  | _=>exact j3 hJ K _ a w hd
def ML:Nat->List Item->List Item
 | 0,_=>[]
 | _+1,[]=>[]
 | n+1,i::K=>i::ML n K
def MN:Nat->List Item->List Item
 | 0,K=>K
 | _+1,[]=>[]
 | n+1,_::K=>MN n K
theorem Gi:∀(n:Nat) (K:List Item),ML n K++MN n K=K
 | 0,K=>rfl
 | _+1,[]=>rfl
 | n+1,i::K=>by simp only[ML,MN,List.cons_append,Gi n K]
def aaN(J:St->Prop):List Item->List Item
 | []=>[.back J]
 | i::K=>i::aaN J K
theorem SK{J:St->Prop}:∀K:List Item,aaN J K=K++[.back J]
 | []=>rfl
 | i::K=>by simp only[aaN,List.cons_append,SK K]
theorem Go.split(n:Nat)(k:Go C (aaN (λs=>Go C (MN n K) s Φ) (ML n K)) s λ_ _=>False):Go C K s Φ:=by
 intro a w hs
 rw[←Gi n K]
 refine j3 (J:=λs=>Go C (MN n K) s Φ) (λs a w h1 h2=>h2 a w h1) (ML n K) _ a w ?_
 rw[←SK]
 exact k a w hs
end
def Yd(is:List Nat):List (Nat×V)->List (Nat×V)
 | []=>[]
 | (t,v)::r=>(t,v.yZ (cK is))::Yd is r
def Ye(is:List Nat):List (Nat×Ch)->List (Nat×Ch)
 | []=>[]
 | (i,c)::r=>(nth is i,c.map (cK is))::Ye is r
def Jy(is:List Nat)(s:St):St:=⟨Yd is s.L,Ye is s.H,s.m⟩
def wm:Nat->(Nat->Bool)->Bool
 | 0,_=>true
 | n+1,p=>p n&&wm n p
theorem rD{p:Nat->Bool}:∀{n:Nat},wm n p=true->∀i,i<n->p i=true
 | n+1,h,i,hi=>by
  simp only[wm,agN] at h
  by_cases e:i=n
  ·subst e;exact h.1
  ·exact rD h.2 i (by omega)
def zx(is:List Nat)(m fix:Nat):Bool:=Nat.beq is.length m&&wm m (λi=>Nat.blt (nth is i) m&&Nat.beq (nth is (nth is i)) i)&&wm fix (λi=>Nat.beq (nth is i) i)&&Nat.ble fix m
theorem Cq{is:List Nat}{t:Nat}{v':V}:∀{L:List (Nat×V)},(t,v')∈Yd is L->∃v,(t,v)∈L∧v'=v.yZ (cK is)
 | (t',v)::r,h=>by
  rcases List.mem_cons.1 h with e | h
  ·obtain⟨rfl,rfl⟩:=Prod.mk.inj e;exact⟨v,by simp,Z⟩
  ·obtain⟨v,h1,h2⟩:=Cq h;exact⟨v,by simp [h1],h2⟩
theorem nk{is:List Nat}{i:Nat}{c':Ch}:∀{H:List (Nat×Ch)},(i,c')∈Ye is H->∃j c,(j,c)∈H∧i=nth is j∧c'=c.map (cK is)
 | (j,c)::r,h=>by
  rcases List.mem_cons.1 h with e | h
  ·obtain⟨rfl,rfl⟩:=Prod.mk.inj e;exact⟨j,c,by simp,Z,Z⟩
  ·obtain⟨j,c,h1,h2⟩:=nk h;exact⟨j,c,by simp [h1],h2⟩
theorem Sat.perm{C:Ctx}{s:St}{a:Act}{w:World}{is:List Nat}(hp:zx is s.m C.fix=true)(h:Sat C s a w):Sat C (Jy is s) a w:=by
 obtain⟨ρ,F,h⟩:=h
 simp only[zx,agN] at hp
 obtain⟨⟨⟨p1,p2⟩,p3⟩,p4⟩:=hp
 have q2:∀i,i<s.m->nth is i<s.m∧nth is (nth is i)=i:=λi hi=>by
  have:=rD p2 i hi
  simp only[agN] at this
  exact⟨by simpa using this.1,agU this.2⟩
 have q3:∀i,i<C.fix->nth is i=i:=λi hi=>agU (rD p3 i hi)
 let ρ':Nat->Value:=λi=>ρ (nth is i)
 have hρ:∀i,i<s.m->ρ' (nth is i)=ρ i:=λi hi=>by show ρ (nth is (nth is i))=ρ i;rw[(q2 i hi).2]
 have hlt:∀i,i<s.m->nth is i<s.m:=λi hi=>(q2 i hi).1
 have hk:∀u v,fresh s.m u=true->R0 ρ F w u v->R0 ρ' F w (cK is u) v:=λu v hu hr=>R0.ren hρ hu hr
 have hfr:∀i c,(i,c)∈s.H->i<s.m:=λi c hi=>(h.aK i c hi).1
 have hbk:∀i c b,(i,c)∈s.H->(bks ρ' (nth is i) (c.map (cK is)) b↔bks ρ i c b):=λi c b hi=>by
  have e:=hρ i (hfr i c hi)
  cases c<;>simp only[Ch.map,bks,e]
 refine⟨ρ',F,{size:=h.size,defers:=h.defers,slot:=λt v' hv=>?_,ch:=λi c' hi=>?_,sep:=λi j ci cj b hi hj hij e=>?_,out:=λi c b hi e=>?_,aR:=λt v' hv=>?_,aK:=λi c' hi=>?_,lt:=h.lt,mine:=λi c b hi e=>?_,sub:=h.sub,base:=h.base,cu:=⟨h.cu.1,λi hi=>?_⟩,keep:=h.keep,env:=h.env}⟩
 ·obtain⟨v,hv0,rfl⟩:=Cq hv
  obtain⟨x,hx,hr⟩:=h.slot t v hv0
  refine⟨x,hx,?_⟩
  have hf:=h.aR t v hv0
  cases v with
  | g p u=>exact⟨λhp=>R3.map hk hf (hr.1 hp),hr.2⟩
  | d y=>exact iK (R3.map (u:=.d y) hk hf hr)
  | aD=>exact iK (R3.map (u:=.aD) hk hf hr)
  | ptr y z=>exact iK (R3.map (u:=.ptr y z) hk hf hr)
  | own y=>exact iK (R3.map (u:=.own y) hk hf hr)
  | bD y z i j=>exact iK (R3.map (u:=.bD y z i j) hk hf hr)
  | gU y=>exact iK (R3.map (u:=.gU y) hk hf hr)
  | fn f y=>exact iK (R3.map (u:=.fn f y) hk hf hr)
  | agg y=>exact iK (R3.map (u:=.agg y) hk hf hr)
  | tup y=>exact iK (R3.map (u:=.tup y) hk hf hr)
  | dead=>exact iK (R3.map (u:=.dead) hk hf hr)
 ·obtain⟨j,c,hc,rfl,rfl⟩:=nk hi
  exact jf.ren hρ (hfr j c hc) (h.aK j c hc).2 (h.ch j c hc)
 ·obtain⟨i',ci,hi0,rfl,rfl⟩:=nk hi
  obtain⟨j',cj,hj0,rfl,rfl⟩:=nk hj
  exact λe2=>h.sep i' j' ci cj b hi0 hj0 (λe3=>hij (by rw[e3])) ((hbk _ _ _ hi0).1 e) ((hbk _ _ _ hj0).1 e2)
 ·obtain⟨j,c,hc,rfl,rfl⟩:=nk hi
  exact h.out j c b hc ((hbk _ _ _ hc).1 e)
 ·obtain⟨v,hv0,rfl⟩:=Cq hv
  have hf:=h.aR t v hv0
  have h3:∀{u:V},u.aQ (fresh s.m)=true->(u.dz (cK is)).aQ (fresh s.m)=true:=λhu=>FE hlt hu
  cases v with
  | g p u=>exact h3 hf
  | d y=>rfl
  | aD=>rfl
  | ptr y z=>exact h3 (u:=.ptr y z) hf
  | own y=>exact h3 (u:=.own y) hf
  | bD y z i j=>exact h3 (u:=.bD y z i j) hf
  | gU y=>rfl
  | fn f y=>exact h3 (u:=.fn f y) hf
  | agg y=>exact h3 (u:=.agg y) hf
  | tup y=>exact h3 (u:=.tup y) hf
  | dead=>rfl
 ·obtain⟨j,c,hc,rfl,rfl⟩:=nk hi
  exact⟨hlt j (hfr j c hc),FH hlt (h.aK j c hc).2⟩
 ·obtain⟨j,c,hc,rfl,rfl⟩:=nk hi
  exact h.mine j c b hc ((hbk _ _ _ hc).1 e)
 ·show ρ (nth is i)=C.ρ0 i
  rw[q3 i hi];exact h.cu.2 i hi
theorem EvT.zy{C:Ctx}{ops:Array Oper}{J:St->Prop}{Q:Exit->Act->World->Prop}{S0:World->Prop}(hS:∀s a w,Sat C s a w->S0 w)(hJ:∀s a w,Sat C s a w->J s->Q .normal a w):∀(n:Nat) (t:iG) (l:Array Bool) (s:St) (a:Act) (w:World),t.chk ops l=true->t.top ops l=true->EvT C ops J t s->Sat C s a w->t.depth≤n->wpAnyH C.P .any ops Q S0 n l a w
 | n,.leaf,l,s,a,w,hc,_,ht,hs,_=>by
  have hr:Region.ready .any ops l=[]:=by simpa [iG.chk] using hc
  cases n with
  | zero=>exact⟨hr,hJ s a w hs ht⟩
  | succ n=>exact⟨λ_=>hJ s a w hs ht,λi hi=>by rw[hr] at hi;cases hi⟩
 | n,.no,l,s,a,w,_,htop,_,_,_=>by simp [iG.top] at htop
 | 0,.fork i x y,l,s,a,w,_,_,_,_,hd=>by
  have:x.depth+1≤(iG.fork i x y).depth:=Nat.le_max_left _ _
  omega
 | n+1,.fork i x y,l,s,a,w,hc,htop,ht,hs,hd=>by
  have hr:(iG.fork i x y).firsts=Region.ready .any ops l:=by simpa [iG.top] using htop
  refine⟨λh=>(by rw[←hr] at h;cases h),λj hj=>?_⟩
  rw[←hr] at hj
  obtain⟨b,b1,b2,b4,b3⟩:=ht.pick hc hj
  refine Gd b3 hs (λs1 a1 w1 h1 hj1=>⟨hS s1 a1 w1 h1,EvT.zy hS hJ n b _ s1 a1 w1 b1 b2 hj1 h1 (by omega)⟩) (λ_ _ _ _ _ h=>h.elim) (λ_ h=>h.elim)
def Aw(ops:Array Oper)(A:List Nat)(t:iG):Bool:=
 Region.noSelect ops&&Nat.beq (A.length+t.depth) ops.size&&uZ .any ops [] A (Array.replicate ops.size false) λl=>t.chk ops l&&t.top ops l
theorem Cx.rE{P:Pg}{g:Cfg}{C:Ctx}(x:Cx P g C){s s':St}{K K':List Item}{Φ:Exit->St->Prop}{ob:List Prop}(is0 A:List Nat)(t:iG)(s2:St){id:Nat}{ops:Array Oper}(h:run g 1000 K s []=.code ob (.region id ops true) K' s')(ho:ak ob)(hm:P.P.follows .mixedOrders=true)
  (hB:Aw ops A t=true) (hΦ:NoPanic Φ)
  {obA:List Prop} {sA:St} (hqA:rA g ops 1000 (aW ops.toList A) ⟨s'.L,aJ is0 s'.H,s'.m⟩ []=.done obA sA) (hoA:ak obA)
  (he:∀C2,Cx P {g with fix:=s'.m} C2->EvT C2 ops (λs=>LE s'.m s s2∨∃is,zx is s.m s'.m=true∧LE s'.m (Jy is s) s2) t ⟨sA.L,fM is0 s'.H,s'.m⟩)
  (k:Go C K' ⟨s2.L,mY s2.H (aJ is0 s'.H),s2.m⟩ Φ):Go C K s Φ:=by
 refine st x.ty x.n x.fix h ⟨ho,?_⟩
 rintro a w ⟨ρ,F,hs⟩
 have hd:Mod none w {w with drawn:=w.drawn+1}:=⟨Z,Z,Z,Nat.le_refl _,λ_ _ _=>rfl⟩
 have hs1:=hs.mod hd
 generalize hw1:({w with drawn:=w.drawn+1}:World)=w1 at hs1
 let S0:World->Prop:=λw'=>∀k,k<w1.heap.size->¬eU ρ s'.H is0 k->w'.heap[k]?=w1.heap[k]?
 obtain⟨_,hmA,hrA⟩:=lg (F:=F) x.ty x.n (S:=S0) (λw' hw' k hk hlt=>hw' k hlt hk) 1000 _ _ _ hqA hoA
 refine x.KF ?_
 have hP:C.P.follows .mixedOrders=true:=x.rY.symm▸hm
 simp only[Aw,agN] at hB
 obtain⟨⟨hns,hsz⟩,hpl⟩:=hB
 have hsz:=agU hsz
 refine wp_region_any hP (wpAny_of_held (S:=S0) _ _ _ _ ?_)
 have inv0:Inv .any ops [] (Array.replicate ops.size false):=⟨by simp,λj oj _ hl=>(by rw[getD_replicate_false] at hl;cases hl),λt ht=>(by cases ht)⟩
 have key:wpAnyH C.P .any ops (den C (gP C Φ) K') S0 (A.length+t.depth) (Array.replicate ops.size false) a {w with drawn:=w.drawn+1}:=?_
 ·rw[hsz] at key;exact key
 refine lK (T:=[]) hns (λc o v a w ho hq=>o7 hΦ.quiet K' c ho v a w hq) (by rw[hw1];exact λk _ _=>rfl) (λlisted a1 inv hk hl=>?_) A _ a inv0 hpl (hrA a hs1)
 rw[hw1]
 simp only[agN] at hk
 have hl:aF C ⟨sA.L,s'.H,s'.m⟩ a1 w1 ρ F:=hl
 let C2:=C.sub s' is0 w1 ρ F
 have h2f:aF C2 ⟨sA.L,fM is0 s'.H,s'.m⟩ a1 w1 ρ F:=hl.frame (s:=⟨sA.L,s'.H,s'.m⟩) is0
 have hx2:Cx P {g with fix:=s'.m} C2:=⟨⟨x.prog,x.n,Z,x.tys⟩,x.rd⟩
 refine EvT.zy (C:=C2) (λs a w hs=>?_) (λs3 a3 w3 hs3 hj=>?_) t.depth t listed _ a1 w1 hk.1 hk.2 (he C2 hx2) ⟨ρ,F,h2f⟩ (Nat.le_refl _)
 ·obtain⟨ρ',F',hs⟩:=hs
  exact λk hk hb=>hs.keep.block k hk hb
 ·have hs4:Sat C2 s2 a3 w3:=by
   rcases hj with hj | ⟨is,hp,hj⟩
   ·exact LE.sat hj hs3
   ·exact LE.sat hj (Sat.perm hp hs3)
  obtain⟨ρ4,F4,h4⟩:=hs4
  exact k a3 w3 ⟨ρ4,F4,hl.EP (s:=⟨sA.L,s'.H,s'.m⟩) h4⟩
end Go.Sx
namespace Go.Sx
open Go.Shelf Go.RowKit Go.Proofs
section
variable{P:Program}(w:World)
theorem Qo(t u ty e:TypeId)(i:TypeInfo)(ht:P.underlying t=some (.slice e))(hu:P.underlying u=some .string)(hi:P.info? e=some i)(hz:i.zero=some (.int .u8 0))
  (hsize:i.size=1) (hby:i.bytes=1) (v:Value) (n:Nat) (xs:List Value) (hown:w.ownsRow 0 e 1 v n xs) (s:BY) (hbytes:n+s.size≤140737488355328) :
  ∃v' w',(Builtin.append_ #[t,u] ty #[v,.string s]).run P w=.ok v' w'∧w'.ownsRow 0 e 1 v' (n+s.size) (xs++Lib.strCells s)∧w.grownBy w' v.ownBlock∧∀b,blk v'=some b->w.heap.size≤b∨blk v=some b:=by
 have h63:n+s.size≤maxLen:=by simp only[maxLen];omega
 obtain⟨v',w',r1,r2,r3,r4⟩:=Lib.run_append_own_string (P:=P) w 0 t u ty e i ht hu hi hz hsize hby v n xs hown s h63 hbytes (Nat.zero_le _)
 refine⟨v',w',r1,r2,r3,λb hb=>?_⟩
 have hxl:xs.length=n:=by simpa using hown.1
 rcases hown.2 with⟨rfl,rfl⟩ | ⟨g,cap,cur,rfl,hbg,hg,hnc,hcm,hcs,htake⟩
 ·obtain⟨v2,w2,q1,q2,q3,q4⟩:=Lib.run_append_own_string (P:=P) w w.heap.size t u ty e i ht hu hi hz hsize hby (.slice none 0 0) 0 xs ⟨hown.1,.inl ⟨Z,Z⟩⟩ s h63 hbytes (Nat.le_refl _)
  rw[q1] at r1
  simp only[Result.ok.injEq] at r1
  obtain⟨rfl,rfl⟩:=r1
  rcases q2.2 with⟨h1,_⟩ | ⟨g,cap,cur,h1,h2,_⟩
  ·rw[h1] at hb;simp [blk] at hb
  ·rw[h1] at hb
   simp only[blk,agR] at hb
   exact .inl (by omega)
 ·by_cases hroom:n+s.size≤cap
  ·have hcs':cur.size=cap:=by simpa using hcs
   have hr:=Lib.run_append_room_string (P:=P) w t u ty e i ht hu hi hsize g n cap cur hg s hroom (by omega)
   rw[hr] at r1
   simp only[Result.ok.injEq] at r1
   rw[←r1.1] at hb
   exact .inr hb
  ·have holds:∀j u,xs[j]?=some u->w.cell? ((⟨g,0,none⟩:Addr).add j)=some u:=hown.cells (g:=g) Z
   have hr:=Lib.run_append_grow_string (P:=P) w t u ty e i (.int .u8 0) ht hu hi hz ⟨g,0,none⟩ n cap xs (by rw[hsize];simpa using hxl) holds s (by omega) (by omega) (by rw[hby];exact growslice_fits (by omega) (by omega))
   rw[hr] at r1
   simp only[Result.ok.injEq] at r1
   rw[←r1.1] at hb
   simp only[blk,agR] at hb
   exact .inl (by omega)
theorem Ay{ops:Array Oper}{rest:List Oper}{o:Oper}{a:Act}{Q:Exit->Act->World->Prop}(hgd:o.guard=none)(sl x:Operand)(t u:TypeId)
  (ho:o.op=.call {callee:=.builtin .append,args:=#[sl,x],argTypes:=#[t,u]})
  (e:TypeId) (i:TypeInfo) (ht:P.underlying t=some (.slice e)) (hu:P.underlying u=some .string) (hi:P.info? e=some i) (hz:i.zero=some (.int .u8 0))
  (hsize:i.size=1) (hby:i.bytes=1)
  (v:Value) (n:Nat) (xs:List Value) (hs:a.eval sl=v) (hown:w.ownsRow 0 e 1 v n xs) (s:BY) (hx:a.eval x=.string s)
  (hbytes:n+s.size≤140737488355328)
  (h:∀v' w',w'.ownsRow 0 e 1 v' (n+s.size) (xs++Lib.strCells s)->w.grownBy w' v.ownBlock->(∀b,blk v'=some b->w.heap.size≤b∨blk v=some b)->wpList P ops Q rest (a.put o.dst v') w'):wpList P ops Q (o::rest) a w:=by
 refine wpList_plain hgd λK hK=>?_
 obtain⟨v',w',hr,h2,h3,h4⟩:=Qo (P:=P) w t u o.type e i ht hu hi hz hsize hby v n xs hown s hbytes
 unfold Oper.wp execOp
 simp only[ho,resolve,invoke,builtin,Sem.run_bind,Sem.run_pure,Result.andThen_ok,List.map_toArray,List.map_cons,List.map_nil,hs,hx,hr]
 exact hK _ _ (h v' w' h2 h3 h4)
end
theorem Qp:∀{v:Value} {k:Nat},v.ownBlock=some k->blk v=some k
 | .slice (some a) _ _,k,h=>by simpa [Value.ownBlock,blk] using h
 | .slice none _ _,k,h=>by simp [Value.ownBlock] at h
 | .pointer _,k,h=>by simp [Value.ownBlock] at h
 | .map _,k,h=>by simp [Value.ownBlock] at h
 | .int _ _,k,h=>by simp [Value.ownBlock] at h
 | .bool _,k,h=>by simp [Value.ownBlock] at h
 | .string _,k,h=>by simp [Value.ownBlock] at h
 | .agg _,k,h=>by simp [Value.ownBlock] at h
 | .tuple _,k,h=>by simp [Value.ownBlock] at h
 | .nilFunc,k,h=>by simp [Value.ownBlock] at h
 | .nilIface,k,h=>by simp [Value.ownBlock] at h
 | v,k,h=>by revert h;unfold Value.ownBlock;split<;>intro h<;>first | (simp only[agR] at h;subst h;rfl) | cases h
structure But(S:Nat->Prop)(w w':World):Prop where
 os:w'.os=w.os
 tape:w'.tape=w.tape
 output:w'.output=w.output
 size:w.heap.size≤w'.heap.size
 block:∀k,k<w.heap.size->¬S k->w'.heap[k]?=w.heap[k]?
theorem But.refl{S:Nat->Prop}{w:World}:But S w w:=⟨Z,Z,Z,Nat.le_refl _,λ_ _ _=>rfl⟩
theorem But.trans{S:Nat->Prop}{w w1 w2:World}(h:But S w w1)(k:But S w1 w2):But S w w2:=⟨k.os.trans h.os,k.tape.trans h.tape,k.output.trans h.output,Nat.le_trans h.size k.size,λj hj hS=>(k.block j (Nat.lt_of_lt_of_le hj h.size) hS).trans (h.block j hj hS)⟩
theorem But.setCell{S:Nat->Prop}{w:World}{b j:Nat}{x:Value}(h:S b):But S w (w.setCell ⟨b,j,none⟩ x):=
 ⟨Z,Z,Z,by simp [World.setCell],λk _ hk=>Below.heap_setCell _ _ _ _ (λe=>hk (by rw[show k=b from e];exact h))⟩
theorem But.grown{S:Nat->Prop}{w w':World}{row:Option Nat}(h:w.grownBy w' row)(hr:∀k,row=some k->S k):But S w w':=
 ⟨h.os,h.tape,h.output,h.size,λk hk hS=>h.block k hk (λe=>hS (hr k e.symm))⟩
section
variable{P:Program}{r:Ren}
set_option maxRecDepth 100000 in
theorem MO(L:Lays.n166 P r)(X:Builder.Extra P r)(b:Nat)(p v:Value)(bs:List Value)(s:BY)(w:World)(hp:p=.pointer none∨p=.pointer (some ⟨b,0,none⟩))
  (hbk:w.heap[b]?=some (.cells #[p,v] (r.t 72) (0,0))) (hown:w.ownsRow 0 (r.t 5) 1 v bs.length bs) (hlen:bs.length+s.size≤140737488355328) :
  Calls P (r.f 166) #[.pointer (some ⟨b,0,none⟩),.string s] w λe w'=>e=.returned (.tuple #[.int .i64 s.size,.nilIface])∧
   ∃v',w'.heap[b]?=some (.cells #[.pointer (some ⟨b,0,none⟩),v'] (r.t 72) (0,0))∧w'.ownsRow 0 (r.t 5) 1 v' (bs.length+s.size) (bs++Lib.strCells s)∧But (λk=>k=b∨blk v=some k) w w'∧(∀k,blk v'=some k->w.heap.size≤k∨blk v=some k):=by
 have hne:v.ownBlock≠some b:=Lib.ownBlock_ne hown hbk X.neB5
 obtain⟨i0,hi,hz0,hz1,hz2⟩:=info_parts X.infoByte
 have mixed:=L.mixed
 have t72:=L.t72;have a72:=L.a72;have z72:=L.z72;have v72:=L.v72;have u72:=run_underlying L.t72
 have t70:=L.t70;have a70:=L.a70;have z70:=L.z70;have v70:=L.v70;have u70:=run_underlying L.t70
 have t37:=L.t37;have a37:=L.a37;have z37:=L.z37;have v37:=L.v37;have u37:=run_underlying L.t37
 have t3:=L.t3;have a3:=L.a3;have z3:=L.z3;have v3:=L.v3;have u3:=run_underlying L.t3
 have t9:=L.t9;have a9:=L.a9;have z9:=L.z9;have v9:=L.v9;have u9:=run_underlying L.t9
 have t4:=L.t4;have a4:=L.a4;have z4:=L.z4;have v4:=L.v4;have u4:=run_underlying L.t4
 have t164:=L.t164;have a164:=L.a164;have z164:=L.z164;have v164:=L.v164;have u164:=run_underlying L.t164
 have t5:=X.t5;have a5:=X.a5;have z5:=X.z5;have v5:=X.v5;have u5:=run_underlying X.t5
 have e240:∀args w,(callFunc (r.f 240) args).run P w=.ok (.enter (r.f 240) args) w:=enters_of L.f240 (by kernel_rfl) Z
 have hcc:Calls P (r.f 240) #[.pointer (some ⟨b,0,none⟩)] w λe w'=>e=.returned (.tuple #[])∧w'.heap[b]?=some (.cells #[.pointer (some ⟨b,0,none⟩),v] (r.t 72) (0,0))∧w'.ownsRow 0 (r.t 5) 1 v bs.length bs∧But (λk=>k=b∨blk v=some k) w w':=by
  have hat:Lib.BuilderAt (r.t 72) (r.t 5) 0 b p bs w:=⟨Nat.zero_le _,v,hbk,hown,hne⟩
  rcases hp with rfl | rfl
  ·refine (Any.Builder_copyCheck_fresh {L with} X.toX72 b w hat.cell0 hat.shape hat.frozen0).mono ?_
   rintro e w' ⟨rfl,rfl⟩
   obtain⟨_,v2,k1,k2,_⟩:=hat.used (.pointer (some ⟨b,0,none⟩))
   refine⟨Z,by simp [World.setCell,Array.getElem?_modify,hbk],?_,But.setCell (.inl Z)⟩
   exact hown.kept (row:=some b) ⟨Z,Z,Z,by simp [World.setCell],λk _ hk=>Below.heap_setCell _ _ _ _ (λe=>hk (by simp [e]))⟩ (Or.inr hne)
  ·refine (Any.Builder_copyCheck_used {L with} X.toX72 b w hat.cell0).mono ?_
   rintro e w' ⟨rfl,rfl⟩
   exact⟨Z,hbk,hown,But.refl⟩
 go_enter L.f166,Body.n166_ntmps r
 go_wp2_with (go_at_fn (r.f 240);refine hcc.mono ?_)
 rintro e w1 ⟨rfl,hbk1,hown1,aeH⟩
 have c0:w1.cell? ⟨b,0,none⟩=some (.pointer (some ⟨b,0,none⟩)):=by rw[Lib.cell_of_heap hbk1];rfl
 have c1:w1.cell? ⟨b,1,none⟩=some v:=by rw[Lib.cell_of_heap hbk1];rfl
 go_wp2_with (at_builtin;refine Ay _ Z _ _ (r.t 37) (r.t 9) Z (r.t 5) i0 L.t37 L.t9 hi hz0 hz1 hz2 _ _ _ Z hown1 s Z hlen ?_)
 intro v' w2 hown' hgrow hnew
 have hlt:b<w1.heap.size:=(Array.getElem?_eq_some_iff.1 hbk1).1
 have hb2:w2.heap[b]?=some (.cells #[.pointer (some ⟨b,0,none⟩),v] (r.t 72) (0,0)):=by
  rw[hgrow.block b hlt (λe=>hne e.symm)]
  exact hbk1
 have d0:w2.cell? ⟨b,0,none⟩=some (.pointer (some ⟨b,0,none⟩)):=by rw[Lib.cell_of_heap hb2];rfl
 have d1:w2.cell? ⟨b,1,none⟩=some v:=by rw[Lib.cell_of_heap hb2];rfl
 have f1:w2.frozen? ⟨b,1,none⟩=false:=Lib.frozen_of_heap hb2 1
 obtain⟨ao,n',cap,rfl⟩:∃ao n' cap,v'=.slice ao n' cap:=by
  rcases hown'.2 with⟨hv,_⟩ | ⟨g,cap,cur,hv,_⟩
  ·exact⟨_,_,_,hv⟩
  ·exact⟨_,_,_,hv⟩
 have hbl:∀k,v.ownBlock=some k->blk v=some k:=λk hk=>Qp hk
 go_wp2
 go_ret2
 refine⟨Z,.slice ao n' cap,?_,?_,(aeH.trans (But.grown hgrow λk hk=>.inr (hbl k hk))).trans (But.setCell (.inl Z)),λk hk=>?_⟩
 ·simp [World.setCell,Array.getElem?_modify,hb2]
 ·have hne':=Lib.ownBlock_ne hown' hb2 X.neB5
  exact hown'.kept (row:=some b) ⟨Z,Z,Z,by simp [World.setCell],λk _ hk=>Below.heap_setCell _ _ _ _ (λe=>hk (by simp [e]))⟩ (Or.inr hne')
 ·rcases hnew k hk with h | h
  ·exact .inl (Nat.le_trans aeH.size h)
  ·exact .inr h
set_option maxRecDepth 100000 in
theorem KM(L:Lays.n169 P r)(X:Builder.Extra P r)(b:Nat)(p v:Value)(l:List UInt8)(w:World)
  (hbk:w.heap[b]?=some (.cells #[p,v] (r.t 72) (0,0))) (hown:w.ownsRow 0 (r.t 5) 1 v l.length (Lib.byteCells l)) :
  Calls P (r.f 169) #[.pointer (some ⟨b,0,none⟩)] w λe w'=>e=.returned (.string ⟨l.toArray⟩)∧But (λk=>blk v=some k) w w':=by
 have ofB:∀{w':World},Below w.heap.size w w'->But (λk=>blk v=some k) w w':=λ⟨b1,b2,b3,b4,b5⟩=>⟨b1,b2,b3,b4,λk hk _=>b5 k hk⟩
 by_cases h0:l=[]
 ·subst h0
  rcases hown.2 with⟨rfl,_⟩ | ⟨g,cap,cur,rfl,hbg,hg,_,_,_,_⟩
  ·exact (Any.Builder_String_nil L X w.heap.size b p w hbk).mono λe w' ⟨he,hb⟩=>⟨he,ofB hb⟩
  ·by_cases hc0:cap=0
   ·subst hc0
    exact (Any.Builder_String_noroom L X w.heap.size b g p cur w (Nat.le_refl _) hbk hg).mono λe w' ⟨he,hb⟩=>⟨he,ofB hb⟩
   ·exact (Any.Builder_String_room L X w.heap.size b g cap p w hc0 hbk).mono λe w' ⟨he,hb⟩=>⟨he,ofB hb⟩
 have hl0:l.length≠0:=by simpa using h0
 obtain⟨g,cap,cur,rfl,hbg,hg,hnc,hcm,hcs,htake⟩:∃g cap cur,v=.slice (some ⟨g,0,none⟩) l.length cap∧0≤g∧w.heap[g]?=some (.cells cur (r.t 5) (0,0))∧l.length≤cap∧cap≤maxLen∧cur.size=cap*1∧cur.toList.take (l.length*1)=Lib.byteCells l:=by
  rcases hown.2 with⟨_,hz⟩ | ⟨g,cap,cur,hv,q⟩
  ·exact absurd hz hl0
  ·exact⟨g,cap,cur,hv,q⟩
 have c1:w.drew.cell? ⟨b,1,none⟩=some (.slice (some ⟨g,0,none⟩) l.length cap):=by
  have:w.drew.heap[b]?=some (.cells #[p,.slice (some ⟨g,0,none⟩) l.length cap] (r.t 72) (0,0)):=hbk
  rw[Lib.cell_of_heap this];rfl
 have hSD:(Builtin.unsafeSliceData_ #[(r.t 37)] (r.t 127) #[.slice (some ⟨g,0,none⟩) l.length cap]).run P w.drew=.ok (.pointer (some ⟨g,0,none⟩)) w.drew:=
  Lib.run_unsafeSliceData_row _ _ _ _ _ _ (by omega)
 have hUS:(Builtin.unsafeString_ #[(r.t 127),(r.t 3)] (r.t 9) #[.pointer (some ⟨g,0,none⟩),.int .i64 l.length]).run P w.drew=.ok (.string ⟨l.toArray⟩) (w.drew.freeze ⟨g,0,none⟩ l.length):=by
  refine Lib.run_unsafeString_row w.drew (r.t 127) (r.t 3) (r.t 9) (r.t 5) L.t127 X.cellsByte g cur.size (by have hg':w.drew.heap[g]?=some (.cells cur (r.t 5) (0,0)):=hg;simp [World.shape?,hg']) l h0 (by omega) (by unfold maxLen at hcm;omega) ?_
  intro j x hx
  have:=hown.cells (g:=g) Z j (.int .u8 x.toNat) (by simp [Lib.byteCells,hx])
  exact this
 have hfin:But (λk=>blk (.slice (some ⟨g,0,none⟩) l.length cap)=some k) w (w.drew.freeze ⟨g,0,none⟩ l.length):=by
  unfold World.freeze
  rw[if_neg hl0]
  exact⟨Z,Z,Z,by simp,λk hk hS=>by
   simp only[Array.getElem?_modify]
   rw[if_neg (λe=>hS (by simp [blk,e]))]
   rfl⟩
 have mixed:=L.mixed
 have t72:=L.t72;have a72:=L.a72;have z72:=L.z72;have v72:=L.v72;have u72:=run_underlying L.t72
 have t70:=L.t70;have a70:=L.a70;have z70:=L.z70;have v70:=L.v70;have u70:=run_underlying L.t70
 have t37:=L.t37;have a37:=L.a37;have z37:=L.z37;have v37:=L.v37;have u37:=run_underlying L.t37
 have t127:=L.t127;have a127:=L.a127;have z127:=L.z127;have v127:=L.v127;have u127:=run_underlying L.t127
 have t3:=L.t3;have a3:=L.a3;have z3:=L.z3;have v3:=L.v3;have u3:=run_underlying L.t3
 have t9:=L.t9;have a9:=L.a9;have z9:=L.z9;have v9:=L.v9;have u9:=run_underlying L.t9
 have t5:=X.t5;have a5:=X.a5;have z5:=X.z5;have v5:=X.v5;have u5:=run_underlying X.t5
 clear hfin
 go_enter L.f169,Body.n169_ntmps r
 go_wp2
 go_region_o
 all_goals (go_wp2;go_ret;refine⟨Z,?_⟩)
 all_goals
  unfold World.freeze
  rw[if_neg hl0]
  exact⟨Z,Z,Z,by simp,λk hk hS=>by
   simp only[Array.getElem?_modify]
   rw[if_neg (λe=>hS (by simp [blk,e]))]
   rfl⟩
end
abbrev fu(e:TypeId)(l:BY):Ch:=.vec e 1 l.size λi=>[.int .u8 (sb l i)]
theorem ab3(l:BY){i:Nat}(hi:i<l.size):(Lib.byteCells l.data.toList)[i]?=some (.int .u8 (sb l i)):=by
 have hi':i<l.data.toList.length:=by simpa using hi
 simp only[Lib.byteCells,List.getElem?_map,agO hi',Option.map_some,sb,agM,Option.getD_some]
theorem lM(l:BY):(Lib.byteCells l.data.toList).length=l.size:=by simp [Lib.byteCells]
theorem Gj(l:BY):Lib.strCells l=Lib.byteCells l.data.toList:=rfl
theorem MP{F:Nat->Prop}{w:World}(l:BY):iZ F w 1 l.size (λi=>[.int .u8 (sb l i)]) (Lib.byteCells l.data.toList):=λi hi=>⟨Z,λj d hd=>by
 cases j with
 | zero=>
  simp only[List.getElem?_cons_zero,agR] at hd
  subst hd
  exact⟨_,by rw[Nat.mul_one,Nat.add_zero];exact ab3 l hi,.int _ _⟩
 | succ j=>simp at hd⟩
theorem Gl{F:Nat->Prop}{w:World}{l:BY}{xs:List Value}(hl:xs.length=l.size*1)(h:iZ F w 1 l.size (λi=>[.int .u8 (sb l i)]) xs):xs=Lib.byteCells l.data.toList:=by
 refine List.ext_getElem? λi=>?_
 by_cases hi:i<l.size
 ·obtain⟨c,h1,h2⟩:=(h i hi).2 0 _ Z
  rw[Nat.mul_one,Nat.add_zero] at h1
  rw[h1,ab3 l hi]
  cases h2;rfl
 ·rw[List.getElem?_eq_none (by omega),List.getElem?_eq_none (by rw[lM];omega)]
theorem U7(l s:BY):Lib.byteCells l.data.toList++Lib.strCells s=Lib.byteCells (l++s).data.toList:=by
 rw[Gj]
 simp only[Lib.byteCells,ByteArray.data_append,Array.toList_append,List.map_append]
theorem U8(l s:BY):(l++s).size=l.size+s.size:=by
 show (l++s).data.size=l.data.size+s.data.size
 rw[ByteArray.data_append,Array.size_append]
section
variable{P:Pg}{r:Ren}
theorem aG.aaO(L:Lays.n166 P.P r)(X:Builder.Extra P.P r)(hc:eO P.P (r.f 166))(l s:BY)(hlen:l.size+s.size≤140737488355328) :
  aG P (r.f 166) 1 [.ptr 0 0,vs s] [.bld (r.t 72) (.own 1),fu (r.t 5) l] (.tup [vi s.size,.d .ni]) [.bld (r.t 72) (.own 1),fu (r.t 5) (l++s)]:=by
 refine⟨hc,Z,Z,by show 1≤2;omega,Nat.le_refl _,λw F ρ vals hF hE hH hargs=>?_⟩
 match vals,hargs with
 | [v0,v1],⟨h0,h1,_⟩=>
  obtain⟨b,e1,rfl⟩:=(show R0 ρ F w (.ptr 0 0) v0 from h0)
  cases (show RD F w _ v1 from h1)
  obtain⟨b',p,x,c1,c2,c3,c4⟩:=hH.ch 0 _ Z
  rw[e1] at c1
  simp only[Value.pointer.injEq,agR,Addr.mk.injEq,and_true] at c1
  subst c1
  obtain⟨rfl,Dv⟩:=(show R0 ρ F w (.own 1) x from c4)
  obtain⟨xs,d1,d2⟩:=hH.ch 1 _ Z
  have d3:=Gl d1.1 d2
  subst d3
  have d1':w.ownsRow 0 (r.t 5) 1 (ρ 1) (Lib.byteCells l.data.toList).length (Lib.byteCells l.data.toList):=by rw[lM];exact d1
  refine (MO L X b p (ρ 1) _ s w c3 c2 d1' (by rw[lM];exact hlen)).mono ?_
  rintro e w' ⟨rfl,v',k1,k2,k3,k4⟩
  rw[lM,U7] at k2
  have hown:∀k,(k=b∨blk (ρ 1)=some k)->ownB ρ [.bld (r.t 72) (.own 1),fu (r.t 5) l] k:=λk hk=>by
   rcases hk with rfl | hk
   ·exact⟨0,by show 0<2;omega,by rw[e1];rfl⟩
   ·exact⟨1,by show 1<2;omega,hk⟩
  have hFw:∀k,F k->w'.heap[k]?=w.heap[k]?:=λk hk=>k3.block k (hF k hk) λhS=>by
   rcases hS with rfl | hS
   ·exact hH.out 0 k (by show 0<2;omega) (by rw[e1];rfl) hk
   ·exact hH.out 1 k (by show 1<2;omega) hS hk
  have hne:blk v'≠some b:=λhb=>by
   rcases k2.2 with⟨h1,_⟩ | ⟨g,cap,cur,h1,_,h3,_⟩
   ·rw[h1] at hb;simp [blk] at hb
   ·rw[h1] at hb
    simp only[blk,agR] at hb
    subst hb
    rw[k1] at h3
    simp only[agR,Obj.cells.injEq] at h3
    exact X.neB5 h3.2.1
  have hm':mine v':=by
   rcases k2.2 with⟨h1,_⟩ | ⟨g,cap,cur,h1,_⟩<;>exact .inl ⟨_,_,_,h1⟩
  let ρ':Nat->Value:=λi=>if i=1 then v' else ρ i
  have r0:ρ' 0=.pointer (some ⟨b,0,none⟩):=e1
  have r1:ρ' 1=v':=rfl
  refine⟨_,ρ',F,Z,⟨k3.os,k3.tape,k3.output,k3.size,λk hk hE=>k3.block k hk λhS=>hE (hown k hS)⟩,λi hi=>by
   have:i=0:=by omega
   subst this;rfl,λ_ hk=>hk,λk hk=>Nat.lt_of_lt_of_le (hF k hk) k3.size,λ_ hk=>.inl hk,⟨[_,_],rfl,RD.int _ _,RD.ni,tR⟩,⟨λi c hi=>?_,λi j k hi hj hij=>?_,λi k hi hk hFk=>?_⟩,λi k hi hk=>?_⟩
  ·match i,hi with
   | 0,hi=>
    simp only[List.getElem?_cons_zero,agR] at hi
    subst hi
    exact⟨b,_,v',r0,k1,.inr Z,⟨Z,hm'⟩⟩
   | 1,hi=>
    simp only[List.getElem?_cons_succ,List.getElem?_cons_zero,agR] at hi
    subst hi
    exact⟨_,by rw[U8,r1];exact k2,MP _⟩
   | i+2,hi=>simp at hi
  ·have:i=0∧j=1∨i=1∧j=0:=by simp only[List.length_cons,List.length_nil] at hi hj;omega
   rcases this with⟨rfl,rfl⟩ | ⟨rfl,rfl⟩
   ·rw[r0,r1];intro h h2
    simp only[blk,agR] at h
    subst h
    exact hne h2
   ·rw[r0,r1];intro h h2
    simp only[blk,agR] at h2
    subst h2
    exact hne h
  ·have:i=0∨i=1:=by simp only[List.length_cons,List.length_nil] at hi;omega
   rcases this with rfl | rfl
   ·exact hH.out 0 k (by show 0<2;omega) (by rw[r0] at hk;rw[e1];exact hk) hFk
   ·rcases k4 k hk with h | h
    ·have:=hF k hFk;omega
    ·exact hH.out 1 k (by show 1<2;omega) h hFk
  ·have:i=0∨i=1:=by simp only[List.length_cons,List.length_nil] at hi;omega
   rcases this with rfl | rfl
   ·exact .inr ⟨0,by show 0<2;omega,by rw[r0] at hk;rw[e1];exact hk⟩
   ·rcases k4 k hk with h | h
    ·exact .inl h
    ·exact .inr ⟨1,by show 1<2;omega,h⟩
 | [],h=>exact h.elim
 | [_],h=>exact h.2.elim
 | _::_::_::_,h=>exact h.2.2.elim
theorem aG.ofString(L:Lays.n169 P.P r)(X:Builder.Extra P.P r)(hc:eO P.P (r.f 169))(l:BY) :
  aG P (r.f 169) 1 [.ptr 0 0] [.bld (r.t 72) (.own 1),fu (r.t 5) l] (vs l) [.box [.dead,.dead],.vec (r.t 5) 1 0 λ_=>[]]:=by
 refine⟨hc,Z,Z,by show 1≤2;omega,Nat.le_refl _,λw F ρ vals hF hE hH hargs=>?_⟩
 match vals,hargs with
 | [v0],⟨h0,_⟩=>
  obtain⟨b,e1,rfl⟩:=(show R0 ρ F w (.ptr 0 0) v0 from h0)
  obtain⟨b',p,x,c1,c2,c3,c4⟩:=hH.ch 0 _ Z
  rw[e1] at c1
  simp only[Value.pointer.injEq,agR,Addr.mk.injEq,and_true] at c1
  subst c1
  obtain⟨rfl,Dv⟩:=(show R0 ρ F w (.own 1) x from c4)
  obtain⟨xs,d1,d2⟩:=hH.ch 1 _ Z
  have d3:=Gl d1.1 d2
  subst d3
  have hll:l.data.toList.length=l.size:=by simp
  refine (KM L X b p (ρ 1) l.data.toList w c2 (by rw[hll];exact d1)).mono ?_
  rintro e w' ⟨rfl,k3⟩
  have hne:blk (ρ 1)≠some b:=λhb=>hH.sep 0 1 b (by show 0<2;omega) (by show 1<2;omega) (by omega) (by rw[e1];rfl) hb
  have hb':w'.heap[b]?=w.heap[b]?:=k3.block b (Array.getElem?_eq_some_iff.1 c2).1 hne
  let ρ':Nat->Value:=λi=>if i=1 then .slice none 0 0 else ρ i
  have r0:ρ' 0=.pointer (some ⟨b,0,none⟩):=e1
  have r1:ρ' 1=.slice none 0 0:=rfl
  have pone:p.oneCell'=true:=by rcases c3 with rfl | rfl<;>rfl
  have xone:(ρ 1).oneCell'=true:=by
   rcases d1.2 with⟨h1,_⟩ | ⟨g,cap,cur,h1,_⟩<;>rw[h1]<;>rfl
  refine⟨_,ρ',F,Z,⟨k3.os,k3.tape,k3.output,k3.size,λk hk hE=>k3.block k hk λhS=>hE ⟨1,by show 1<2;omega,hS⟩⟩,λi hi=>by
   have:i=0:=by omega
   subst this;rfl,λ_ hk=>hk,λk hk=>Nat.lt_of_lt_of_le (hF k hk) k3.size,λ_ hk=>.inl hk,?_,⟨λi c hi=>?_,λi j k hi hj hij=>?_,λi k hi hk hFk=>?_⟩,λi k hi hk=>?_⟩
  ·rw[rW];exact RD.str _
  ·match i,hi with
   | 0,hi=>
    simp only[List.getElem?_cons_zero,agR] at hi
    subst hi
    exact⟨b,[p,ρ 1],_,r0,by rw[hb',c2],pone,xone,tR⟩
   | 1,hi=>
    simp only[List.getElem?_cons_succ,List.getElem?_cons_zero,agR] at hi
    subst hi
    exact⟨[],by rw[r1];exact⟨by simp,.inl ⟨Z,Z⟩⟩,λk hk=>absurd hk (agV _)⟩
   | i+2,hi=>simp at hi
  ·have:i=0∧j=1∨i=1∧j=0:=by simp only[List.length_cons,List.length_nil] at hi hj;omega
   rcases this with⟨rfl,rfl⟩ | ⟨rfl,rfl⟩<;>(rw[r0,r1];simp [blk])
  ·have:i=0∨i=1:=by simp only[List.length_cons,List.length_nil] at hi;omega
   rcases this with rfl | rfl
   ·exact hH.out 0 k (by show 0<2;omega) (by rw[r0] at hk;rw[e1];exact hk) hFk
   ·rw[r1] at hk;simp [blk] at hk
  ·have:i=0∨i=1:=by simp only[List.length_cons,List.length_nil] at hi;omega
   rcases this with rfl | rfl
   ·exact .inr ⟨0,by show 0<2;omega,by rw[r0] at hk;rw[e1];exact hk⟩
   ·rw[r1] at hk;simp [blk] at hk
 | [],h=>exact h.elim
 | _::_::_,h=>exact h.2.elim
theorem aG.aeI(L:Lays.n170 P.P r)(X:Builder.Extra P.P r)(hc:eO P.P (r.f 170))(l:BY) :
  aG P (r.f 170) 1 [.ptr 0 0] [.bld (r.t 72) (.own 1),fu (r.t 5) l] (vi l.size) [.bld (r.t 72) (.own 1),fu (r.t 5) l]:=by
 refine⟨hc,Z,Z,by show 1≤2;omega,Nat.le_refl _,λw F ρ vals hF hE hH hargs=>?_⟩
 match vals,hargs with
 | [v0],⟨h0,_⟩=>
  obtain⟨b,e1,rfl⟩:=(show R0 ρ F w (.ptr 0 0) v0 from h0)
  obtain⟨b',p,x,c1,c2,c3,c4⟩:=hH.ch 0 _ Z
  rw[e1] at c1
  simp only[Value.pointer.injEq,agR,Addr.mk.injEq,and_true] at c1
  subst c1
  obtain⟨rfl,Dv⟩:=(show R0 ρ F w (.own 1) x from c4)
  obtain⟨xs,d1,d2⟩:=hH.ch 1 _ Z
  have d3:=Gl d1.1 d2
  subst d3
  have d1':w.ownsRow 0 (r.t 5) 1 (ρ 1) (Lib.byteCells l.data.toList).length (Lib.byteCells l.data.toList):=by rw[lM];exact d1
  have hne:(ρ 1).ownBlock≠some b:=Lib.ownBlock_ne d1' c2 X.neB5
  have hat:Lib.IsBuilder (r.t 72) (r.t 5) 0 b (Lib.byteCells l.data.toList) w:=by
   rcases c3 with rfl | rfl
   ·exact .inl ⟨Nat.zero_le _,ρ 1,c2,d1',hne⟩
   ·exact .inr ⟨Nat.zero_le _,ρ 1,c2,d1',hne⟩
  refine (Any.Builder_Len L 0 b _ w hat).mono ?_
  rintro e w' ⟨rfl,rfl⟩
  refine⟨_,ρ,F,Z,⟨Z,Z,Z,Nat.le_refl _,λ_ _ _=>rfl⟩,λ_ _=>rfl,λ_ hk=>hk,hF,λ_ hk=>.inl hk,?_,hH,λi k hi hk=>.inr ⟨i,hi,hk⟩⟩
  rw[lM];exact RD.int _ _
 | [],h=>exact h.elim
 | _::_::_,h=>exact h.2.elim
def bq(xs:List BY)(sep:BY):BY:=⟨(Lib.join (xs.map (·.data.toList)) sep.data.toList).toArray⟩
theorem Pure.ac7(L:Lays.n156 P.P r)(X:Builder.Extra P.P r)(hc:eO P.P (r.f 156))(xs:List BY)(sep:BY)(hN:xs.length≤140737488355328)(hlen:(bq xs sep).size≤140737488355328) :
  Pure P (r.f 156) [.d (.sl 1 xs.length λi=>[.str (xs.getD i .empty)]),vs sep] (vs (bq xs sep)) []:=by
 refine⟨hc,Z,Z,Nat.le_refl _,Nat.le_refl _,λw F ρ vals hF hE hH hargs=>?_⟩
 have fin:∀{w':World},Below w.heap.size w w'->Post w F ρ 0 [] (vs (bq xs sep)) [] (.returned (.string (bq xs sep))) w':=λ⟨b1,b2,b3,b4,b5⟩=>
  ⟨_,ρ,F,Z,⟨b1,b2,b3,b4,λk hk _=>b5 k hk⟩,λ_ _=>rfl,λ_ hk=>hk,λk hk=>Nat.lt_of_lt_of_le (hF k hk) b4,λ_ hk=>.inl hk,RD.str _,⟨λi c hi=>by simp at hi,λi j b hi=>absurd hi (agV _),λi b hi=>absurd hi (agV _)⟩,λi b hi=>absurd hi (agV _)⟩
 match vals,hargs with
 | [v0,v1],⟨h0,h1,_⟩=>
  cases (show RD F w _ v1 from h1)
  have h0:RD F w (.sl 1 xs.length λi=>[.str (xs.getD i .empty)]) v0:=h0
  generalize hn:xs.length=n at h0
  cases h0 with
  | emp sz f a cap=>
   have:xs=[]:=List.eq_nil_of_length_eq_zero hn
   subst this
   refine (Any.strings_Join_none L X a cap sep w).mono ?_
   rintro e w' ⟨rfl,rfl⟩
   exact fin (Below.refl _ _)
  | sl sz n f b o cap cs hFb hcap hcl hl hr=>
   subst hn
   refine (Any.strings_Join L X b o cap xs sep w (λj x hx=>?_) (hF b hFb) hN (by omega) (by
    have:(bq xs sep).size=(Lib.join (xs.map (·.data.toList)) sep.data.toList).length:=by simp [bq];rfl
    rw[←this];exact hlen)).mono ?_
   ·have hj:j<xs.length:=(List.getElem?_eq_some_iff.1 hx).1
    have e1:=hcl j 0 (by omega) (by omega)
    have e2:=hr j 0 (.str (xs.getD j .empty)) (by omega) Z
    rw[Nat.mul_one,Nat.add_zero] at e1
    rw[e1]
    have e3:xs.getD j .empty=x:=by rw[agM,hx];rfl
    rw[e3] at e2
    generalize cs j 0=y at e2 ⊢
    cases e2;rfl
   ·rintro e w' ⟨rfl,hb⟩
    exact fin hb
 | [],h=>exact h.elim
 | [_],h=>exact h.2.elim
 | _::_::_::_,h=>exact h.2.2.elim
end
theorem Go.ac8{C:Ctx}{s:St}{K:List Item}{Φ:Exit->St->Prop}(id:Nat)(e T:TypeId)(sz:Nat)(f:Nat->List D)(h:get s.H id=some (.bld T .aD))
  (k:Go C K ⟨s.L,(id,.bld T (.own s.m))::nM id ((s.m,.vec e sz 0 f)::s.H),s.m+1⟩ Φ):Go C K s Φ:=by
 rintro a w ⟨ρ,F,hs⟩
 have hm0:Mod none w w:=⟨Z,Z,Z,Nat.le_refl _,λ_ _ _=>rfl⟩
 have hmem:=get_mem h
 have hlt:=(hs.aK _ _ hmem).1
 have h1:=hs.new hm0 (x:=.slice none 0 0) (λb hb=>by simp [blk] at hb) (c:=.vec e sz 0 f) ⟨[],by rw[upd_same];exact⟨by simp,.inl ⟨Z,Z⟩⟩,λi hi=>absurd hi (agV _)⟩ Z
 have Jt:(id,Ch.bld T .aD)∈((s.m,Ch.vec e sz 0 f)::s.H):=List.mem_cons_of_mem _ hmem
 obtain⟨b,p,x,e1,e2,e3,e4⟩:=h1.ch id _ Jt
 have e4:x=.slice none 0 0:=e4
 have hown:R1 (upd ρ s.m (.slice none 0 0)) F w (.own s.m) x:=⟨by rw[upd_same];exact e4,by rw[upd_same];exact .inl ⟨_,_,_,Z⟩⟩
 have h2:=h1.touch Jt (c':=.bld T (.own s.m)) ⟨Z,Z,Z,Nat.le_refl _,λ_ _ _=>rfl⟩ ⟨b,p,x,e1,e2,e3,hown⟩ (by show Nat.blt s.m (s.m+1)=true;simp)
 exact k a w ⟨_,F,h2⟩
end Go.Sx
namespace Go.Sx
def Jz(g:Cfg)(s:St)(o:Oper):Option (Nat×Nat×Int×Nat):=
 match o.guard,o.dst,o.op with
 | none,some d,.indexAddr t (.global gl) ix=>match ev s.L [] ix,lk g t with
  | some (.d (.int _ n)),some ti=>match ti.kind with
   | .array N e=>bif isz g e 1&&Nat.blt d g.n then some (gl,N,n,d) else none
   | _=>none
  | _,_=>none
 | _,_,_=>none
theorem Cr.aeJ{P:Pg}{g:Cfg}{C:Ctx}(x:Cr P g C){s s':St}{K K':List Item}{Φ:Exit->St->Prop}{ob:List Prop}(tab:Nat->D){all:Array Oper}{o:Oper}{rest:List Oper}{gl N d:Nat}{n:Int}(h:run g 1000 K s []=.op ob all o rest K' s')(ho:ak ob)
  (hi:Jz g s' o=some (gl,N,n,d)) (hE:KI P.env gl N tab) (hb:0≤n∧n<(N:Int)) (k:Go C (.ops all rest::K') {s' with L:=put s'.L d (.gU [tab n.toNat])} Φ):Go C K s Φ:=by
 refine st x.ty x.n x.fix h ⟨ho,?_⟩
 rintro a w ⟨ρ,F,hs⟩
 have hg:=x.ty
 unfold Jz at hi
 split at hi
 ·rename_i d' t gl' ix hgd hd hop
  split at hi
  ·rename_i kk n' ti hix hti
   split at hi
   ·rename_i N' e hkind
    cases hc:(isz g e 1&&Nat.blt d' g.n) with
    | false=>rw[hc] at hi;simp at hi
    | true=>
     rw[hc] at hi
     simp only[cond_true,agR,agW] at hi
     obtain⟨rfl,rfl,rfl,rfl⟩:=hi
     simp only[agN] at hc
     obtain⟨b0,b1⟩:=hc
     show gD C.rd C.P all (den C (gP C Φ) K') (o::rest) a w
     refine jW hgd λM hM=>?_
     obtain⟨h0,h1⟩:=hb
     obtain⟨f,hf,hlit⟩:=hE
     have Qf:jG P.env F w:=by have:=hs.env;rwa [show C.env=P.env from congrArg Pg.env x.prog] at this
     obtain⟨hF,hcell,_⟩:=Qf _ _ _ hf
     have hiv:=(aC hs (dn _) hix).1
     generalize hex:a.eval ix=vx at hiv
     cases (show RD F w _ _ from hiv)
     have hu:=(bS hg hti).und
     rw[hkind] at hu
     have hrun:(execOp a.eval o).run C.P w=.ok (.value (.pointer (some ⟨gl',n'.toNat,none⟩))) w:=by
      unfold execOp
      rw[hop]
      refine uY ?_
      simp [Act.eval,hex] at hex ⊢
      simp [hex,Instr.indexAt,Instr.sureAddr,asIntOf,aP (show C.P.underlying t=some (.array N' e) from hu),h0,h1,jA hg b0,Addr.add_lit]
     refine qZ hrun tR ?_
     refine hM _ _ ?_
     rw[hd]
     refine k _ _ ⟨ρ,F,hs.yC (by rw[←x.n];simpa using b1) (show RS _ ρ F w (.gU _) _ from⟨gl',n'.toNat,λ_=>f n'.toNat,Z,hF,λi dd hi=>?_⟩) Z⟩
     cases i with
     | succ i=>simp at hi
     | zero=>
      simp only[List.getElem?_cons_zero,agR] at hi
      subst hi
      exact⟨hcell n'.toNat (by omega),SE (hlit n'.toNat (by omega))⟩
   ·simp at hi
  ·simp at hi
 ·simp at hi
theorem Yf{a:Act}{t:Nat}{x:Value}(h:a.tmps[t]?=some x):a.put (some t) x=a:=by
 have:a.tmps.setIfInBounds t x=a.tmps:=by
  obtain⟨hi,e⟩:=Array.getElem?_eq_some_iff.1 h
  subst e
  refine Array.ext_getElem? λi=>?_
  rw[Array.getElem?_setIfInBounds]
  by_cases e:t=i
  ·subst e
   rw[if_pos Z,if_pos hi,Array.getElem?_eq_getElem hi]
  ·rw[if_neg e]
 show {a with tmps:=a.tmps.setIfInBounds t x}=a
 rw[this]
theorem Go.dq{C:Ctx}{s:St}{K:List Item}{Φ:Exit->St->Prop}(t:Nat){d:D}(d':D)(h:get s.L t=some (.d d))(q:DQ d d')(k:Go C K {s with L:=put s.L t (.d d')} Φ):Go C K s Φ:=by
 rintro a w ⟨ρ,F,hs⟩
 obtain⟨x,hx,hr⟩:=hs.slot t _ (get_mem h)
 have hlt:t<C.n:=by rw[←hs.size];exact (Array.getElem?_eq_some_iff.1 hx).1
 have h2:=hs.put (d:=t) (v:=.d d') (x:=x) hlt (show RD F w d' x from q.sound hr) Z
 rw[Yf hx] at h2
 exact k a w ⟨ρ,F,h2⟩
theorem DQ.one{z:Nat}{f f':Nat->List D}(hl:(f 0).length=(f' 0).length)(h:∀(j:Nat) (d d':D),(f 0)[j]?=some d->(f' 0)[j]?=some d'->DQ d d'):DQ (.sl z 1 f) (.sl z 1 f'):=
 .sl z 1 f f' (λi hi=>by
  obtain rfl:i=0:=by omega
  exact hl) (λi j d d' hi h1 h2=>by
   obtain rfl:i=0:=by omega
   exact h j d d' h1 h2)
end Go.Sx
