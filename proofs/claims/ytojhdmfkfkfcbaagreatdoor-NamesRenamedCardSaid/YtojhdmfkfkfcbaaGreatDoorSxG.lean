import Derived.Test.YtojhdmfkfkfcbaaGreatDoorSxF
import Derived.Recover
import Derived.Shelf.Strings.Builder1
import Derived.Shelf.Strings.OnBuilder
import Derived.RangeFuncSeq
set_option linter.unusedVariables false
set_option linter.unusedSimpArgs false
namespace Go.Sx
section
variable {P:Program} {ops:Array Oper} {md:Region.Mode} {Q:Exit->Act->World->Prop} {T:List Nat} {S S0:World->Prop}
theorem Ci {g:Nat} {L:Array Bool->Act->World->Prop} (hSS:∀w,S w->S0 w) (hL:∀listed a w,L listed a w->wpAnyH P md ops Q S0 g listed a w) :
  ∀(f:Nat) (listed:Array Bool) (a:Act) (w:World),xX P md ops Q S T L f listed a w->wpAnyH P md ops Q S0 (f+g) listed a w
 | 0,listed,a,w,h=>by rw[Nat.zero_add];exact hL _ _ _ h
 | f+1,listed,a,w,h=>by
  rw[show f+1+g=(f+g)+1 by omega]
  exact⟨fun h0=>absurd h0 h.1,fun i hi=>wpOp_mono (fun a' w' h'=>⟨hSS _ h'.1,Ci hSS hL f _ a' w' h'.2⟩) (h.2 i hi).2⟩
theorem Ez:∀(T:List Nat) (listed:Array Bool) (a:Act) (w:World),uI md ops T listed=true->jy P ops Q S0 (fun a w=>Q .normal a w) T a w->wpAnyH P md ops Q S0 T.length listed a w
 | [],listed,a,w,h,hc=>⟨by simpa [uI] using h,hc⟩
 | i::r,listed,a,w,h,hc=>by
  simp only[uI,adg,adn] at h
  refine⟨fun h1=>(by rw[h.1] at h1;cases h1),fun k hk=>?_⟩
  rw[h.1] at hk
  obtain rfl:=List.mem_singleton.1 hk
  exact wpOp_mono (fun a' w' h'=>⟨h'.1,Ez r _ a' w' h.2 h'.2⟩) hc
theorem kI (hs:Region.noSelect ops=true) (hQ:∀c (o:Oper) v a w,o∈ops.toList->Q (.panic c) (a.put o.dst v) w->Q (.panic c) a w) {f:Nat} {k:Array Bool->Bool} {R:Act->Prop} {w:World} (hw:S0 w)
  (hk:∀listed a,Inv md ops T listed->k listed=true->R a->wpAnyH P md ops Q S0 f listed a w) :
  ∀(A:List Nat) (listed:Array Bool) (a:Act),Inv md ops T listed->tQ md ops T A listed k=true->gZ P ops S0 R (aS ops.toList A) a->wpAnyH P md ops Q S0 (A.length+f) listed a w
 | [],listed,a,inv,hp,h=>by rw[List.length_nil,Nat.zero_add];exact hk _ _ inv hp h
 | i::r,listed,a,inv,hp,h=>by
  simp only[tQ,adg] at hp
  obtain⟨o,ho,hr,hf,hiT⟩:=nW hp.1
  rw[nJ (by simpa using ho)] at h
  obtain⟨v,hy,hK⟩:=h
  rw[show (i::r).length+f=(r.length+f)+1 by simp;omega]
  exact wpAnyH_take ho hs hf (by simpa using hr) (fun c a w=>hQ c o _ a w (NY ho)) hy hw (kI hs hQ hw hk r _ _ (inv.set hr hiT) hp.2 hK)
def NZ (md:Region.Mode) (ops:Array Oper) (A B E T:List Nat):Bool:=
 Region.noSelect ops&&Nat.beq (A.length+B.length+E.length+T.length) ops.size&&!T.isEmpty&&uJ md ops (nV T) (lq B E)&&nU md ops T&&
 tQ md ops T A (Array.replicate ops.size false) fun l=>tQ md ops T B l fun l=>RP md ops T E l
theorem Db {id:Nat} {a:Act} {w:World} {A B E T:List Nat} (hm:P.follows .mixedOrders=true) (hp:NZ .any ops A B E T=true) (hQ:∀c (o:Oper) v a w,o∈ops.toList->Q (.panic c) (a.put o.dst v) w->Q (.panic c) a w)
  (hS0:S0 {w with drawn:=w.drawn+1}) (hS:S {w with drawn:=w.drawn+1}) (hSS:∀w,S w->S0 w)
  (h:gZ P ops S0 (fun a1=>gZ P ops S (fun a2=>jy P ops Q S (fun a w=>jy P ops Q S0 (fun a w=>Q .normal a w) T a w) E a2 {w with drawn:=w.drawn+1}) (aS ops.toList B) a1) (aS ops.toList A) a):(Code.region id ops true).wp P Q a w:=by
 simp only[NZ,adg] at hp
 obtain⟨⟨⟨⟨⟨hs,hsz⟩,hT⟩,hsk⟩,hch⟩,hpl⟩:=hp
 refine wp_region_any hm (wpAny_of_held (S:=S0) _ _ _ _ ?_)
 have inv0:Inv .any ops T (Array.replicate ops.size false):=⟨by simp,fun j oj _ hl=>(by rw[getD_replicate_false] at hl;cases hl),fun t _=>getD_replicate_false _ _⟩
 have hsz:=ado hsz
 have e:A.length+(B.length+E.length+T.length)=ops.size:=by omega
 have key:wpAnyH P .any ops Q S0 (A.length+(B.length+E.length+T.length)) (Array.replicate ops.size false) a {w with drawn:=w.drawn+1}:=?_
 ·rw[e] at key;exact key
 refine kI (T:=T) hs hQ hS0 (fun listed a inv hk hl=>?_) A _ a inv0 hpl h
 have hB:=uM (md:=.any) hs hsk hch hQ hS B listed a (fun i hi=>(by rw[r9];exact List.mem_append_left _ hi)) inv hk hl
 exact Ci (g:=T.length) hSS (fun l a' w' hL=>Ez T l a' w' hL.1 hL.2) _ _ _ _ hB
end
theorem EA {C1:Ctx} {Q:Exit->Act->World->Prop} {ops:Array Oper} {i:Nat} {J:St->Prop} {Φ1:Exit->St->Prop} {s1:St} {a:Act} {w:World} {R:Act->World->Prop}
  (hgo:Go C1 [.ops ops (aS ops.toList [i]), .back J] s1 Φ1) (hs:Sat C1 s1 a w) (hJ:∀s a w,Sat C1 s a w->J s->R a w) (hp:∀c s a w,Sat C1 s a w->Φ1 (.panic c) s->Q (.panic c) a w) (hog:∀s,¬Φ1 .outgrown s):wpOp C1.P ops Q i R a w:=by
 have h5:wpList C1.P ops (den C1 (fE C1 Φ1) [.back J]) (aS ops.toList [i]) a w:=(show eD C1.rd C1.P ops (den C1 (fE C1 Φ1) [.back J]) (aS ops.toList [i]) a w from hgo a w hs).1
 have hK:∀a w,den C1 (fE C1 Φ1) [.back J] .normal a w->R a w:=fun a w ⟨s,h1,h2⟩=>hJ s a w h1 h2
 have hpp:∀c a w,den C1 (fE C1 Φ1) [.back J] (.panic c) a w->Q (.panic c) a w:=fun c a w ⟨s,h1,h2⟩=>hp c s a w h1 h2
 have hoo:∀a w,¬den C1 (fE C1 Φ1) [.back J] .outgrown a w:=fun a w ⟨s,_,h2⟩=>hog s h2
 unfold wpOp
 cases ho:ops[i]? with
 | none=>
  simp only[aS,Array.getElem?_toList,ho] at h5
  exact hK _ _ h5
 | some o=>
  simp only[aS,Array.getElem?_toList,ho] at h5
  unfold wpList at h5
  simp only
  split at h5
  ·rename_i hw
   rw[if_pos hw]
   rcases h5 with h5 | ⟨_,a4,w4,h6⟩
   ·exact .inl (Oper.xY (fun a w h=>hK a w h) hpp hoo h5)
   ·exact absurd h6 (hoo a4 w4)
  ·rename_i hw
   rw[if_neg hw]
   exact hK _ _ h5
def N7 (C C2:Ctx) (ops:Array Oper) (K:List Item) (Φ:Exit->St->Prop) (EC:List (Nat×Ch)):List Nat->St->Prop
 | [],s=>Go C K ⟨s.L,lq s.H EC,s.m⟩ Φ
 | i::r,s=>Go C2 [.ops ops (aS ops.toList [i]), .back (N7 C C2 ops K Φ EC r)] s (FrP Φ EC)
def N8 (C C1 C2:Ctx) (ops:Array Oper) (T:List Nat) (K:List Item) (Φ:Exit->St->Prop) (EC Vg:List (Nat×Ch)):List Nat->St->Prop
 | [],s=>N7 C C2 ops K Φ EC T ⟨s.L,lq s.H Vg,s.m⟩
 | i::r,s=>Go C1 [.ops ops (aS ops.toList [i]), .back (N8 C C1 C2 ops T K Φ EC Vg r)] s (FrP (FrP Φ EC) Vg)
theorem xZ {P:Program} {ops:Array Oper} {S:World->Prop} {R R':Act->Prop} (hR:∀a,R a->R' a):∀(l:List Oper) (a:Act),gZ P ops S R l a->gZ P ops S R' l a
 | [],a,h=>hR a h
 | _::r,a,⟨v,h1,h2⟩=>⟨v,h1,xZ hR r _ h2⟩
theorem Cx.P8 {P:Pg} {g:Cfg} {C:Ctx} (x:Cx P g C) {s s':St} {K K':List Item} {Φ:Exit->St->Prop} {ob:List Prop} (is0:List Nat) (k0:Nat) (is A B E T:List Nat) {id:Nat} {ops:Array Oper} (h:run g 1000 K s []=.code ob (.region id ops true) K' s') (ho:aj ob) (hm:P.P.follows .mixedOrders=true) (hB:NZ .any ops A B E T=true) (hΦ:qj ops Φ)
  (hfr:(Nat.ble k0 s'.m&&Nat.ble g.fix k0&&(aH is0 s'.H).all fun e=>Nat.blt e.1 k0&&e.2.all (fresh k0))=true)
  {obA:List Prop} {sA:St} (hqA:oU g ops 1000 (aS ops.toList A) ⟨s'.L,aH is0 s'.H,s'.m⟩ []=.done obA sA) (hoA:aj obA)
  {obB:List Prop} {sB:St} (hqB:oU g ops 1000 (aS ops.toList B) ⟨sA.L,aH is s'.H,s'.m⟩ []=.done obB sB) (hoB:aj obB)
  (k:∀C1 C2,Cx P {g with fix:=s'.m} C1->Cx P {g with fix:=k0} C2->N8 C C1 C2 ops T K' Φ (aH is0 s'.H) (aH is (dX is0 s'.H)) E ⟨sB.L,dX is (dX is0 s'.H),s'.m⟩):Go C K s Φ:=by
 refine st x.ty x.n x.fix h ⟨ho,?_⟩
 rintro a w ⟨ρ,F,hs⟩
 have hd:Mod none w {w with drawn:=w.drawn+1}:=⟨rfl,rfl,rfl,Nat.le_refl _,fun _ _ _=>rfl⟩
 have hs1:=hs.mod hd
 generalize hw1:({w with drawn:=w.drawn+1}:World)=w1 at hs1
 simp only[adg,List.all_eq_true] at hfr
 obtain⟨⟨f1,f2⟩,f3⟩:=hfr
 have f1:k0≤s'.m:=by simpa using f1
 have f2:C.fix≤k0:=by rw[←x.fix];simpa using f2
 have hlow:∀i c,(i,c)∈aH is0 s'.H->i<k0∧c.all (fresh k0)=true:=fun i c hi=>by
  have:=f3 (i,c) hi
  simpa using this
 let S0:World->Prop:=fun w'=>∀k,k<w1.heap.size->¬dR ρ s'.H is0 k->w'.heap[k]?=w1.heap[k]?
 let S:World->Prop:=fun w'=>∀k,k<w1.heap.size->¬dR ρ (dX is0 s'.H) is k->w'.heap[k]?=w1.heap[k]?
 have hSS:∀w',S w'->S0 w':=fun w' hw' k hk hb=>hw' k hk fun ⟨i,c,h1,h2,h3⟩=>hb ⟨i,c,(bW h2).2,(bW h2).1,h3⟩
 obtain⟨_,_,hrA⟩:=j5 (F:=F) x.ty x.n (S:=S0) (fun w' hw' k hk hlt=>hw' k hlt hk) 1000 _ _ _ hqA hoA
 obtain⟨_,_,hrB⟩:=j5 (F:=F) (ρ:=ρ) (w:=w1) x.ty x.n (S:=S) (is:=is) (H0:=s'.H) (fun w' hw' k hk hlt=>hw' k hlt fun ⟨i,c,h1,h2,h3⟩=>hk ⟨i,c,h1,(bW h2).1,h3⟩) 1000 _ _ _ hqB hoB
 refine x.Gp ?_
 have hP:C.P.follows .mixedOrders=true:=x.qJ.symm▸hm
 refine Db (S:=S) (S0:=S0) hP hB (fun c o v a w ho hq=>nL hΦ K' c ho v a w hq) (by rw[hw1];exact fun k _ _=>rfl) (by rw[hw1];exact fun k _ _=>rfl) hSS ?_
 rw[hw1]
 refine xZ (fun a1 h1=>xZ (fun a2 h2=>?_) _ a1 (hrB a1 h1)) _ a (hrA a hs1)
 let C2:=C.RQ s' is0 w1 ρ F k0
 let s2:St:=⟨sB.L,dX is0 s'.H,s'.m⟩
 have h2f:aD C2 s2 a2 w1 ρ F:=h2.Jf (s:=⟨sB.L,s'.H,s'.m⟩) is0 f1
 let C1:=C2.sub s2 is w1 ρ F
 have hx1:Cx P {g with fix:=s'.m} C1:=⟨⟨x.prog,x.n,rfl,x.tys⟩,x.rd⟩
 have hx2:Cx P {g with fix:=k0} C2:=⟨⟨x.prog,x.n,rfl,x.tys⟩,x.rd⟩
 have Vh:∀{s3 a3 w3 ρ3 F3},aD C2 s3 a3 w3 ρ3 F3->aD C ⟨s3.L,lq s3.H (aH is0 s'.H),s3.m⟩ a3 w3 ρ3 F3:=fun h3=>h2.uN (s:=⟨sB.L,s'.H,s'.m⟩) f2 hlow h3
 have YS:∀{s3 a3 w3 ρ3 F3},aD C1 s3 a3 w3 ρ3 F3->aD C2 ⟨s3.L,lq s3.H (aH is (dX is0 s'.H)),s3.m⟩ a3 w3 ρ3 F3:=fun h3=>h2f.Dn (s:=s2) h3
 have tail:∀(T:List Nat) (s3:St) (a3:Act) (w3:World),Sat C2 s3 a3 w3->N7 C C2 ops K' Φ (aH is0 s'.H) T s3->jy C.P ops (den C (fE C Φ) K') S0 (fun a w=>den C (fE C Φ) K' .normal a w) T a3 w3:=by
  intro T
  induction T with
  | nil=>rintro s3 a3 w3 ⟨ρ3,F3,h3⟩ hgo;exact hgo a3 w3 ⟨ρ3,F3,Vh h3⟩
  | cons i r ih=>
   intro s3 a3 w3 h3 hgo
   refine EA (C1:=C2) hgo h3 (fun s4 a4 w4 h4 hj=>⟨?_,ih s4 a4 w4 h4 hj⟩) (fun c s4 a4 w4 h4 hp=>?_) (fun s4 hp=>by obtain⟨⟨c,hc⟩,_⟩:=hp;cases hc)
   ·obtain⟨ρ4,F4,h4⟩:=h4
    exact fun k hk hb=>h4.keep.block k hk hb
   ·obtain⟨ρ4,F4,h4⟩:=h4
    obtain⟨_,hl,Ve⟩:=hp
    rw[jS]
    have h6:=Vh h4
    exact⟨_,⟨ρ4,F4,h6⟩,Ve⟩
 have key:∀(E:List Nat) (s3:St) (a3:Act) (w3:World),Sat C1 s3 a3 w3->N8 C C1 C2 ops T K' Φ (aH is0 s'.H) (aH is (dX is0 s'.H)) E s3->jy C.P ops (den C (fE C Φ) K') S (fun a w=>jy C.P ops (den C (fE C Φ) K') S0 (fun a w=>den C (fE C Φ) K' .normal a w) T a w) E a3 w3:=by
  intro E
  induction E with
  | nil=>rintro s3 a3 w3 ⟨ρ3,F3,h3⟩ hgo;exact tail T _ a3 w3 ⟨ρ3,F3,YS h3⟩ hgo
  | cons i r ih=>
   intro s3 a3 w3 h3 hgo
   refine EA (C1:=C1) hgo h3 (fun s4 a4 w4 h4 hj=>⟨?_,ih s4 a4 w4 h4 hj⟩) (fun c s4 a4 w4 h4 hp=>?_) (fun s4 hp=>by obtain⟨⟨c,hc⟩,_⟩:=hp;cases hc)
   ·obtain⟨ρ4,F4,h4⟩:=h4
    exact fun k hk hb=>h4.keep.block k hk hb
   ·obtain⟨ρ4,F4,h4⟩:=h4
    obtain⟨_,hl,_,_,Ve⟩:=hp
    rw[jS]
    have h6:=Vh (YS h4)
    exact⟨_,⟨ρ4,F4,h6⟩,Ve⟩
 exact key E _ a2 w1 ⟨ρ,F,h2f.frame (s:=s2) is⟩ (k C1 C2 hx1 hx2)
end Go.Sx
set_option linter.unusedVariables false
set_option linter.unusedSimpArgs false
namespace Go.Sx
inductive Md where
 | back
 | pan (t:TypeId) (ns:List (IntKind×Int))
def Md.mode:Md->FrameMode
 | .back=>.returning
 | .pan t ns=>.panicking (Gq t ns)
def Md.done:Md->FrameMode
 | .back=>.returning
 | .pan t ns=>.panicking [{v:=XD t ns,recovered:=true}]
def Md.got:Md->D
 | .back=>.ni
 | .pan t ns=>.ifc t ns
def Md.qg:Md->Value
 | .back=>.nilIface
 | .pan t ns=>XD t ns
def Md.ends:Md->Exit->Prop
 | .back,e=>e=.normal∨e=.ret
 | .pan t ns,e=>e=.panic (Gq t ns)
theorem Md.Vi {F:Nat->Prop} {w:World}:∀md:Md,RD F w md.got md.qg
 | .back=>.ni
 | .pan t ns=>.ifc t ns
theorem Md.settled:∀md:Md,settle md.done=.returning
 | .back=>rfl
 | .pan t ns=>rfl
theorem Md.ZO:∀md:Md,md.mode≠.run
 | .back=>by simp [Md.mode]
 | .pan t ns=>by simp [Md.mode]
theorem Md.recovers (md:Md) (c:Frame) (cs:List Frame) (h:c.mode=md.mode):(match recoverD (c::cs) with | some (v,cs')=>v=md.qg∧cs'={c with mode:=md.done}::cs | none=>md.qg=.nilIface∧c::cs={c with mode:=md.done}::cs):=by
 cases md with
 | back=>
  have h:c.mode=.returning:=h
  simp only[recoverD,h]
  exact⟨rfl,by cases c;simp_all [Md.done]⟩
 | pan t ns=>
  have h:c.mode=.panicking (Gq t ns):=h
  simp only[recoverD,h,Gq]
  exact⟨rfl,rfl⟩
def Later (P:Pg) (f:FuncId) (args:List V) (H:List Ch) (md:Md) (H':List Ch):Prop:=
 iA P.P f∧aL args H H.length=true∧aL [.tup []] H' H'.length=true∧H.length≤H'.length∧
 ∀(w:World) (F:Nat->Prop) (ρ:Nat->Value) (vals:List Value),(∀k,F k->k<w.heap.size)->je P.env F w->Holds ρ F w H->aF (R3 ρ F w) args vals->
  CallsD P.P f vals.toArray md.mode w fun e u w'=>u=md.done∧Post w F ρ H.length H (.tup []) H' e w'
def RU (P:Pg) (g:Cfg) (w:World) (F:Nat->Prop) (ρ:Nat->Value) (H:List Ch) (ds:List Deferred):Ctx:={P:=P.P,env:=P.env,n:=g.n,w0:=w,E:=ownB ρ H,F0:=F,ρ0:=ρ,fix:=g.fix,defs:=ds}
section
variable {P:Pg} {g:Cfg} {fn:Func} {args:List V} {H H':List Ch} {w:World} {F:Nat->Prop} {ρ:Nat->Value} {vals:List Value}
theorem He (hF:∀k,F k->k<w.heap.size) (hE:je P.env F w) (hH:Holds ρ F w H) (hargs:aF (R3 ρ F w) args vals) (hn:g.n=fn.ntmps) (hlen:Nat.ble args.length g.n=true) (hfr:aL args H H.length=true) (hfx:Nat.ble g.fix H.length=true) :
  aD (RU P g w F ρ H []) ⟨ixV 0 args,ixC 0 H,H.length⟩ {tmps:=vals.toArray++Array.replicate (fn.ntmps-vals.toArray.size) undef,defers:=[]} w ρ F:=by
 have UY:g.fix≤H.length:=by simpa using hfx
 have hlen':args.length≤g.n:=by simpa using hlen
 have hvl:=hargs.length
 simp only[aL,adg,List.all_eq_true] at hfr
 refine {size:=?_,defers:=.start rfl,slot:=?_,ch:=?_,sep:=?_,out:=?_,aP:=?_,aJ:=?_,lt:=hF,mine:=?_,sub:=fun k hk=>.inl hk,base:=fun _ hk=>hk,bU:=⟨UY,fun _ _=>rfl⟩,keep:=⟨rfl,rfl,rfl,Nat.le_refl _,fun _ _ _=>rfl⟩,env:=hE}
 ·simp only[Array.size_append,List.size_toArray,Array.size_replicate]
  show _=g.n
  omega
 ·intro t v hv
  obtain⟨_,hv⟩:=rT hv
  obtain⟨x,hx,hr⟩:=hargs.get hv
  refine⟨x,?_,gV hr⟩
  simp only[Nat.sub_zero] at hx
  have:t<vals.length:=(List.getElem?_eq_some_iff.1 hx).1
  rw[Array.getElem?_append_left (by simpa using this)]
  simpa using hx
 ·intro i c hc
  obtain⟨_,hc⟩:=eH hc
  exact hH.ch i c (by simpa using hc)
 ·intro i j ci cj b hi hj hij e
  obtain⟨_,hi⟩:=eH hi
  obtain⟨_,hj⟩:=eH hj
  exact fun e2=>hH.sep i j b (by simpa using (List.getElem?_eq_some_iff.1 hi).1) (by simpa using (List.getElem?_eq_some_iff.1 hj).1) hij (dz (hfr.2 ci (List.mem_of_getElem? hi)).2 e) (dz (hfr.2 cj (List.mem_of_getElem? hj)).2 e2)
 ·intro i ci b hi e
  obtain⟨_,hi⟩:=eH hi
  exact hH.out i b (by simpa using (List.getElem?_eq_some_iff.1 hi).1) (dz (hfr.2 ci (List.mem_of_getElem? hi)).2 e)
 ·intro t v hv
  obtain⟨_,hv⟩:=rT hv
  obtain⟨x,hx,hr⟩:=hargs.get hv
  have:=hfr.1 v (List.mem_of_getElem? hv)
  cases v<;>first | exact this | exact (show False from hr).elim
 ·intro i ci hi
  obtain⟨_,hi⟩:=eH hi
  exact⟨by simpa using (List.getElem?_eq_some_iff.1 hi).1,(hfr.2 ci (List.mem_of_getElem? hi)).1⟩
 ·intro i ci b hi e
  obtain⟨_,hi⟩:=eH hi
  exact .inr ⟨i,by simpa using (List.getElem?_eq_some_iff.1 hi).1,dz (hfr.2 ci (List.mem_of_getElem? hi)).2 e⟩
theorem ED {rs:List ResultVar} {ids:List Nat} {r:V} {ds:List Deferred} (hg:bP P.P g.tys) (hrs:fn.results=rs.toArray) (wO:aL [r] H' H'.length=true) {s':St} {a':Act} {w':World} {ρ':Nat->Value} {F':Nat->Prop} (h':aD (RU P g w F ρ H ds) s' a' w' ρ' F') {e:Exit} (hret:Ret g rs ids r H' e s') :
  ∃y,(results fn a'.tmps).run P.P w'=.ok y w'∧Post w F ρ g.fix H r H' (.returned y) w':=by
 obtain⟨_,hr,hH',hok⟩:=hret
 cases hres:gB g s' rs with
 | none=>rw[hres] at hr;exact hr.elim
 | some r0=>
  rw[hres] at hr
  obtain⟨y,h1,h2⟩:=GZ (C:=RU P g w F ρ H ds) hg h' hrs hres
  simp only[UW,adg] at hok
  obtain⟨⟨o1,o2⟩,o3⟩:=hok
  have o1:=ado o1
  have hy:=wh hr h1
  simp only[aL,adg,List.all_eq_true] at wO
  have U0:∀i,i<H'.length->ρ' (nth ids i)=(fun i=>ρ' (nth ids i)) i:=fun _ _=>rfl
  have hex:∀i,i<H'.length->∃c,H'[i]?=some c∧∃c0,(nth ids i,c0)∈s'.H∧lS c0 (c.map (bZ ids)):=fun i hi=>by
   obtain⟨c0,k1,k2⟩:=mZ o1 hH' (adh hi)
   exact⟨_,adh hi,c0,k1,k2⟩
  refine⟨y,h2,y,fun i=>ρ' (nth ids i),F',rfl,h'.keep,?_,fun k hk=>?_,h'.lt,h'.sub,?_,?_,?_⟩
  ·intro i hi
   show ρ' (nth ids i)=ρ i
   rw[Aw o3 i hi,Nat.zero_add]
   exact h'.bU.2 i hi
  ·exact h'.base k hk
  ·exact R3.dJ U0 (wO.1 r (by simp)) hy
  ·refine⟨fun i c hc=>?_,fun i j b hi hj hij e=>?_,fun i b hi e=>?_⟩
   ·have hi:=(List.getElem?_eq_some_iff.1 hc).1
    obtain⟨c',hc',c0,k1,k2⟩:=hex i hi
    rw[hc] at hc'
    obtain rfl:=adl hc'
    exact iG.dJ U0 hi (wO.2 c (List.mem_of_getElem? hc)).1 (iK k2 (h'.ch _ _ k1))
   ·obtain⟨_,_,c0,k1,_⟩:=hex i hi
    obtain⟨_,_,c1,k3,_⟩:=hex j hj
    exact fun e2=>h'.sep _ _ c0 c1 b k1 k3 (gG o2 i j (by omega) (by omega) hij) (aR e) (aR e2)
   ·obtain⟨_,_,c0,k1,_⟩:=hex i hi
    exact h'.out _ c0 b k1 (aR e)
  ·intro i b hi e
   obtain⟨_,_,c0,k1,_⟩:=hex i hi
   exact h'.mine _ c0 b k1 (aR e)
end
theorem Later.mk {P:Pg} (g:Cfg) (wQ:bP P.P g.tys) (ids:List Nat) {f:FuncId} {fn:Func} {id d1 d2:Nat} {o1 o2:Oper} {rest:Code} {args:List V} {H H':List Ch} {md:Md}
  (hf:P.P.funcs[f]?=some fn) (hb:fn.body=some (.seq (.region id #[o1,o2] false) rest)) (hname:(fn.name == "runtime.NumGoroutine")=false) (hn:g.n=fn.ntmps) (hrs:fn.results=#[])
  (g1:o1.guard=none) (p1:o1.op=.call {callee:=.builtin .recover,args:=#[],argTypes:=#[]}) (q1:o1.dst=some d1) (g2:o2.guard=none) (p2:o2.op=.assign (.tmp d1)) (q2:o2.dst=some d2)
  (hfix:g.fix=H.length)
  (hok:(Nat.ble args.length g.n&&aL args H H.length&&aL [.tup []] H' H'.length&&Nat.ble H.length H'.length&&Nat.blt d1 g.n&&Nat.blt d2 g.n)=true)
  (hgo:∀(C:Ctx),Cx P g C->Go C [.code rest] ⟨put (put (ixL args) d1 (.d md.got)) d2 (.d md.got),ixH H,NT H⟩ (Ret g [] ids (.tup []) H')):Later P f args H md H':=by
 simp only[adg] at hok
 obtain⟨⟨⟨⟨⟨k1,k2⟩,k3⟩,k4⟩,k5⟩,k6⟩:=hok
 refine⟨⟨fn,hf,by rw[hb];rfl,hname⟩,k2,k3,by simpa using k4,fun w F ρ vals hF hE hH hargs=>?_⟩
 have h0:=He (fn:=fn) hF hE hH hargs hn k1 k2 (by simp [hfix])
 refine callsD_of_wpS hf hb fun c₀ cs hu=>?_
 generalize hA:({tmps:=vals.toArray++Array.replicate (fn.ntmps-vals.toArray.size) undef,defers:=[]}:Act)=a0 at h0
 have k5:d1<g.n:=by simpa using k5
 have k6:d2<g.n:=by simpa using k6
 have hs1:=h0.put (d:=d1) (v:=.d md.got) (x:=md.qg) k5 (show R3 ρ F w (.d md.got) md.qg from md.Vi) rfl
 have hs2:=hs1.put (d:=d2) (v:=.d md.got) (x:=md.qg) k6 (show R3 ρ F w (.d md.got) md.qg from md.Vi) rfl
 have hsz:a0.tmps.size=g.n:=h0.size
 have hev:(a0.put (some d1) md.qg).eval (.tmp d1)=md.qg:=by
  simp [Act.put,Act.eval,hsz,k5]
 have hr1:(execOp a0.eval o1).run P.P w=.ok .recover w:=by simp only[execOp,p1];rfl
 have hr2:(execOp (a0.put (some d1) md.qg).eval o2).run P.P w=.ok (.value md.qg) w:=by
  simp only[execOp,p2,hev];rfl
 have fin:∀cs',cs'={c₀ with mode:=md.done}::cs->rest.wpS P.P (bodyPostS P.P fn c₀ cs (fun e u w'=>u=md.done∧Post w F ρ H.length H (.tup []) H' e w')) ((a0.put (some d1) md.qg).put (some d2) md.qg) cs' w:=by
  rintro cs' rfl
  refine wpS_of_wp ?_
  have:=hgo (RU P g w F ρ H []) ⟨⟨rfl,rfl,rfl,wQ⟩,rfl⟩ _ w ⟨ρ,F,by rw[Ef,Eh,y8];exact hs2⟩
  refine wp_mono (pq.1 this) ?_
  rintro e a' w' ⟨s',⟨ρ',F',h'⟩,hret⟩
  obtain⟨y,y1,y2⟩:=ED (fn:=fn) (rs:=[]) wQ hrs k3 h' hret
  rw[hfix] at y2
  rcases hret.1 with rfl | rfl
  ·exact⟨h'.defers.none rfl,md.done,rfl,y,y1,rfl,y2⟩
  ·exact⟨h'.defers.none rfl,md.done,rfl,y,y1,rfl,y2⟩
 refine wpS_seq (wpS_region ?_)
 have hwt:∀(o:Oper) ys,o.guard=none->Region.wanted o ys=true:=fun o ys h=>by simp [Region.wanted,h]
 show wpOpsS P.P #[o1,o2] _ [0,1] a0 (c₀::cs) w
 have hrec:=md.recovers c₀ cs hu
 have e0:(#[o1,o2]:Array Oper)[0]?=some o1:=rfl
 have e1:(#[o1,o2]:Array Oper)[1]?=some o2:=rfl
 rw[wpOpsS,e0]
 simp only[hwt o1 _ g1,if_true,hr1]
 split at hrec
 ·rename_i v cs' hh
  obtain⟨rfl,rfl⟩:=hrec
  rw[hh]
  simp only[q1]
  rw[wpOpsS,e1]
  simp only[hwt o2 _ g2,if_true,hr2,Oper.upon,q2,wpOpsS]
  exact fin _ rfl
 ·rename_i hh
  rw[hh]
  simp only[q1]
  rw[show (Value.nilIface)=md.qg from hrec.1.symm,wpOpsS,e1]
  simp only[hwt o2 _ g2,if_true,hr2,Oper.upon,q2,wpOpsS]
  exact fin _ hrec.2
def Vj:Nat->Code->Option (List Code×Code)
 | 0,c=>some ([],c)
 | n+1, .seq a b=>match Vj n b with
  | some (f,r)=>some (a::f,r)
  | none=>none
 | _+1,_=>none
theorem EF {C:Ctx} {Q:Exit->Act->World->Prop} {id:Nat} {ops:Array Oper} {K:List Item} {a:Act} {w:World} (hr:C.rd=none) (h:wpList C.P ops (den C Q K) ops.toList a w):den C Q (.code (.region id ops false)::K) .normal a w:=by
 rw[gF,hr]
 exact pq.2 (wp_region_list h)
theorem KR {C:Ctx} {Q:Exit->Act->World->Prop}:∀(n:Nat) (c:Code) {f:List Code} {r:Code} (h:Vj n c=some (f,r)) {a:Act} {w:World},den C Q (codes f [.code r]) .normal a w->den C Q [.code c] .normal a w
 | 0,c,f,r,h,a,w,hd=>by
  simp only[Vj,adk,adq] at h
  obtain⟨rfl,rfl⟩:=h
  exact hd
 | n+1, .seq x b,f,r,h,a,w,hd=>by
  refine xP ?_
  simp only[Vj] at h
  split at h
  ·rename_i f' r' hb
   simp only[adk,adq] at h
   obtain⟨rfl,rfl⟩:=h
   refine rE hd fun e a w hq=>?_
   cases e with
   | normal=>exact KR n b hb hq
   | _=>
    have:=hq
    change den C Q (codes f' [.code r']) _ a w at this
    rw[qN (by simp)] at this
    exact this
  ·cases h
theorem N9 {P:Program} {all:Array Oper} {Q1 Q2:Exit->Act->World->Prop} {o:Oper} {rest:List Oper} {a:Act} {w:World} (h:wpList P all Q1 [o] a w) (hn:∀a w,Q1 .normal a w->wpList P all Q2 rest a w)
  (hp:∀c a w,Q1 (.panic c) a w->Q2 (.panic c) a w) (ho:∀a w,¬Q1 .outgrown a w):wpList P all Q2 (o::rest) a w:=by
 unfold wpList at h ⊢
 split at h
 ·rename_i hw
  rw[if_pos hw]
  rcases h with h | ⟨_,a4,w4,h6⟩
  ·exact .inl (Oper.xY (fun a w h=>hn a w h) hp ho h)
  ·exact absurd h6 (ho a4 w4)
 ·rename_i hw
  rw[if_neg hw]
  exact hn _ _ h
def P9 (k:Nat):List V->Bool
 | []=>true
 | .ptr i _::r=>Nat.blt i k&&P9 k r
 | _=>false
def Hf (s:St) (o:Oper):Option (FuncId×List V):=
 match o.op,o.guard,o.dst with
 | .defer c,none,none=>match c.callee,c.args.toList with
  | .value fo,[]=>match ev s.L [] fo with
   | some (.fn f caps)=>some (f,caps)
   | _=>none
  | _,_=>none
 | _,_,_=>none
def behind (s:St) (is:List Nat) (H':List Ch):St:=
 let ids:=mP is (fF s.m (H'.length-is.length))
 {L:=rH (bn (iI is.length is)) s.L,H:=mP (rnH ids ids H') (oQ (bn (iI is.length is)) (aH is s.H)),m:=s.m+(H'.length-is.length)}
def XF (pins:List Nat):List (Nat×V)->Bool
 | []=>true
 | (t,v)::r=>inL t pins&&!isG v&&XF pins r
def dim (s:St) (id:Nat):St:=
 match get s.H id with
 | some (.box us)=>⟨s.L,(id, .box (us.map fun _=>.dead))::jY id s.H,s.m⟩
 | _=>s
theorem aD.dim {C:Ctx} {s:St} {a:Act} {w:World} {ρ:Nat->Value} {F:Nat->Prop} (h:aD C s a w ρ F) (id:Nat):aD C (dim s id) a w ρ F:=by
 unfold Sx.dim
 split
 ·rename_i us hg
  have hm:=get_mem hg
  obtain⟨b,cs,T,h1,h2,h3⟩:=h.ch id _ hm
  refine h.touch (c':=.box (us.map fun _=>.dead)) hm (w':=w) ⟨rfl,rfl,rfl,Nat.le_refl _,fun _ _ _=>rfl⟩ ⟨b,cs,T,h1,h2,h3.imp fun a b _ hab=>R1.one hab⟩ ?_
  simp [Ch.all,V.all1,fresh]
 ·exact h
def iD (P:Pg) (g:Cfg) (pins:List Nat) (k:Nat) (C1:Ctx) (f:FuncId) (A:List V) (rs:List ResultVar) (ids:List Nat) (r:V) (H':List Ch):Exit->St->Prop:=fun e s=>
 ∃(md:Md) (args:List V) (is:List Nat) (H1 H2:List Ch) (s2:St),md.ends e∧((∃c,e=.panic c)->XF pins s.L=true)∧(∀a w ρ F,aD C1 s a w ρ F->aD C1 s2 a w ρ F)∧Later P f args H1 md H2∧AEq A (args.map (V.cu (bZ is)))∧xR {g with fix:=k} s2.m is H1.length H1.length=true∧HLE s2.H (rnH is is H1)∧Ret g rs ids r H' .ret (behind s2 is H2)
def Jg (P:Pg) (g:Cfg) (pins:List Nat) (C:Ctx) (o2:Oper) (rest:Code) (rs:List ResultVar) (ids:List Nat) (r:V) (H':List Ch) (s:St):Prop:=
 ∃f A k,Hf s o2=some (f,A)∧(P9 k A&&Nat.ble k s.m&&Nat.ble g.fix k)=true∧iA P.P f∧∀C1,Cx P {g with fix:=k} C1->Go C1 [.code rest] s (iD P g pins k C1 f A rs ids r H')
def XG (pins:List Nat):List Oper->Bool
 | []=>true
 | o::r=>(match o.dst with | some d=>!inL d pins | none=>true)&&XG pins r
theorem KS {pins:List Nat} {t:Nat} {v:V}:∀{L:List (Nat×V)},XF pins L=true->(t,v)∈L->isG v=false∧inL t pins=true
 | (t',v')::r,h,hm=>by
  simp only[XF,adg,adt] at h
  rcases List.mem_cons.1 hm with e | hm
  ·obtain⟨rfl,rfl⟩:=Prod.mk.inj e;exact⟨h.1.2,h.1.1⟩
  ·exact KS h.2 hm
theorem KT {pins:List Nat} {o:Oper} {d:Nat} (hd:o.dst=some d):∀{l:List Oper},XG pins l=true->o∈l->inL d pins=false
 | o'::r,h,hm=>by
  simp only[XG,adg] at h
  rcases List.mem_cons.1 hm with e | hm
  ·subst e;have h1:=h.1;rw[hd] at h1;simpa using h1
  ·exact KT hd h.2 hm
theorem iD.quiet {P:Pg} {g:Cfg} {pins:List Nat} {k:Nat} {C1:Ctx} {f:FuncId} {A:List V} {rs:List ResultVar} {ids:List Nat} {r:V} {H':List Ch} {ops:Array Oper} (hp:XG pins ops.toList=true):qj ops (iD P g pins k C1 f A rs ids r H'):=by
 rintro c s ⟨md,args,is,H1,H2,s2,_,hpin,_⟩ t v hv
 obtain⟨h1,h2⟩:=KS (hpin ⟨c,rfl⟩) hv
 exact⟨h1,fun o ho e=>by rw[KT e hp ho] at h2;cases h2⟩
theorem G8.bT {Φ:Exit->St->Prop}:NoPanic (G8 Φ):=fun c s h=>h
theorem Hg {ρ ρ':Nat->Value} {F F':Nat->Prop} {w w':World} {k:Nat} (hρ:∀i,i<k->ρ' i=ρ i):∀{A:List V} {cs:List Value},P9 k A=true->aF (R0 ρ F w) A cs->aF (R3 ρ' F' w') A cs
 | [],[],_,_=>trivial
 | .ptr i o::r,c::cs,h,⟨h1,h2⟩=>by
  simp only[P9,adg] at h
  obtain⟨b,e1,e2⟩:=h1
  exact⟨⟨b,by rw[hρ i (by simpa using h.1)];exact e1,e2⟩,Hg hρ h.2 h2⟩
 | [],_::_,_,h=>h.elim
 | .ptr _ _::_,[],_,h=>h.elim
 | .d _::_,_,h,_=>by cases h
 | .aB::_,_,h,_=>by cases h
 | .own _::_,_,h,_=>by cases h
 | .bA ..::_,_,h,_=>by cases h
 | .gq _::_,_,h,_=>by cases h
 | .fn ..::_,_,h,_=>by cases h
 | .agg _::_,_,h,_=>by cases h
 | .tup _::_,_,h,_=>by cases h
 | .g ..::_,_,h,_=>by cases h
 | .dead::_,_,h,_=>by cases h
theorem holds_of {C:Ctx} {s:St} {a:Act} {w:World} {ρ:Nat->Value} {F:Nat->Prop} (h:aD C s a w ρ F) {is:List Nat} {args:List V} {H:List Ch} (hfr:aL args H H.length=true) (hl:is.length=H.length) (hnd:nodupB is=true) (hH:HLE s.H (rnH is is H)) :
  Holds (fun i=>ρ (nth is i)) F w H:=by
 simp only[aL,adg,List.all_eq_true] at hfr
 have hx:∀i,i<H.length->∃c,H[i]?=some c∧∃c0,(nth is i,c0)∈s.H∧lS c0 (c.map (bZ is)):=fun i hi=>by
  obtain⟨c0,k1,k2⟩:=mZ hl hH (adh hi)
  exact⟨_,adh hi,c0,k1,k2⟩
 refine⟨fun i c hc=>?_,fun i j b hi hj hij e=>?_,fun i b hi e=>?_⟩
 ·have hi:=(List.getElem?_eq_some_iff.1 hc).1
  obtain⟨c',hc',c0,k1,k2⟩:=hx i hi
  rw[hc] at hc'
  obtain rfl:=adl hc'
  exact iG.dJ (k:=H.length) (ρ:=fun i=>ρ (nth is i)) (fun _ _=>rfl) hi (hfr.2 c (List.mem_of_getElem? hc)).1 (iK k2 (h.ch _ _ k1))
 ·obtain⟨_,_,c0,k1,_⟩:=hx i hi
  obtain⟨_,_,c1,k3,_⟩:=hx j hj
  exact fun e2=>h.sep _ _ c0 c1 b k1 k3 (gG hnd i j (by omega) (by omega) hij) (aR e) (aR e2)
 ·obtain⟨_,_,c0,k1,_⟩:=hx i hi
  exact h.out _ c0 b k1 (aR e)
theorem RV {P:Program} {f:FuncId} {cs:Array Value} (hcall:iA P f) (w:World):(invoke (.fn (.func f) cs) #[]).run P w=.ok (.enter f cs) w:=by
 obtain⟨fn,h1,h2,h3⟩:=hcall
 have hb:fn.body.isNone=false:=by cases hh:fn.body<;>simp_all
 simp only[invoke,callFunc,program,Sem.run_bind,Sem.run_pure,Result.andThen]
 simp [Sem.run,h1,h3,hb]
theorem aI.Qa {P:Pg} (g:Cfg) (wQ:bP P.P g.tys) (ids:List Nat) (n:Nat) (pins:List Nat) {f:FuncId} {fn:Func} {c:Code} {pre:List Code} {id:Nat} {o1 o2:Oper} {rest:Code} {args:List V} {H:List Ch} {r:V} {H':List Ch} {rs:List ResultVar}
  (hf:P.P.funcs[f]?=some fn) (hb:fn.body=some c) (hcut:Vj n c=some (pre, .seq (.region id #[o1,o2] false) rest)) (hname:(fn.name == "runtime.NumGoroutine")=false)
  (hn:g.n=fn.ntmps) (hrs:fn.results=rs.toArray) (hok:(Nat.ble args.length g.n&&aL args H H.length&&aL [r] H' H'.length&&Nat.ble g.fix H.length&&Nat.ble H.length H'.length)=true)
  (hgo:∀(C:Ctx),Cx P g C->Go C (codes pre [.back fun s=>Go C [.ops #[o1,o2] [o1], .back (Jg P g pins C o2 rest rs ids r H')] s fun _ _=>False]) ⟨ixL args,ixH H,NT H⟩ (G8 (Ret g rs ids r H'))):aI P f g.fix args H r H':=by
 simp only[adg] at hok
 obtain⟨⟨⟨⟨k1,k2⟩,k3⟩,k4⟩,k5⟩:=hok
 refine⟨⟨fn,hf,by rw[hb];rfl,hname⟩,k2,k3,by simpa using k4,by simpa using k5,fun w F ρ vals hF hE hH hargs=>?_⟩
 have h0:=He (fn:=fn) hF hE hH hargs hn k1 k2 k4
 refine calls_of_wp_defers hf hb ?_
 let C:=RU P g w F ρ H []
 have hx:Cx P g C:=⟨⟨rfl,rfl,rfl,wQ⟩,rfl⟩
 have hgo:=hgo C hx _ w ⟨ρ,F,by rw[Ef,Eh,y8];exact h0⟩
 refine pq.1 (KR (C:=C) (Q:=bodyPostD P.P fn (Post w F ρ g.fix H r H')) n c hcut (G9 (J:=fun s=>Go C [.ops #[o1,o2] [o1], .back (Jg P g pins C o2 rest rs ids r H')] s fun _ _=>False) (Φ:=Ret g rs ids r H') (fun s a w' hs hj=>?_) (fun s a w' hs hr=>?_) pre _ _ hgo))
 ·refine xP (EF rfl ?_)
  show wpList C.P #[o1,o2] (den C (bodyPostD P.P fn (Post w F ρ g.fix H r H')) [.code rest]) [o1,o2] a w'
  refine N9 (Q1:=den C (fE C fun _ _=>False) [.back (Jg P g pins C o2 rest rs ids r H')]) (show eD C.rd C.P #[o1,o2] (den C (fE C fun _ _=>False) [.back (Jg P g pins C o2 rest rs ids r H')]) [o1] a w' from hj a w' hs).1 (fun a1 w1 h1=>?_) (fun c a w h=>by obtain⟨_,_,h⟩:=h;exact h.elim) (fun a w h=>by obtain⟨_,_,h⟩:=h;exact h.elim)
  obtain⟨s1,⟨ρ1,F1,hs1⟩,f1,A,k,hdi,hkb,hcall,hgo1⟩:=h1
  simp only[adg] at hkb
  obtain⟨⟨b1,b2⟩,b3⟩:=hkb
  have b2:k≤s1.m:=by simpa using b2
  have b3:g.fix≤k:=by simpa using b3
  unfold Hf at hdi
  split at hdi
  ·rename_i cl hop hgd hds
   split at hdi
   ·rename_i fo hcl hca
    split at hdi
    ·rename_i f2 caps hev
     simp only[adk,adq] at hdi
     obtain⟨rfl,rfl⟩:=hdi
     obtain⟨cs,hcs,uH⟩:=(show R1 ρ1 F1 w1 (.fn f2 caps) _ from (aA hs1 (bY _) hev).1)
     have hca:cl.args=#[]:=by cases hcc:cl.args;simp_all
     have hrun:(execOp a1.eval o2).run C.P w1=.ok (.defer {target:=.fn (.func f2) cs.toArray,args:=#[]}) w1:=by
      simp only[execOp,hop,resolve,hcl,hcs,hca,Deferred.ofValue]
      simp [Sem.run,bind,pure]
      rfl
     refine wpList_plain hgd fun N hN=>?_
     unfold Oper.wp
     rw[hrun,Oper.upon_defer,hds]
     refine hN _ _ ?_
     let d:Deferred:={target:=.fn (.func f2) cs.toArray,args:=#[]}
     have hdef:a1.defers=[]:=hs1.defers.none rfl
     refine pq.2 ?_
     show Code.wp C.P rest (bodyPostD P.P fn (Post w F ρ g.fix H r H')) {a1 with defers:=d::a1.defers} w1
     rw[hdef]
     let C1:Ctx:={C with defs:=[d],fix:=k,ρ0:=ρ1}
     have hx1:Cx P {g with fix:=k} C1:=⟨⟨rfl,rfl,rfl,wQ⟩,rfl⟩
     have UZ:aD C1 s1 {a1 with defers:=[d]} w1 ρ1 F1:=
      {size:=hs1.size,defers:=.start rfl,slot:=hs1.slot,ch:=hs1.ch,sep:=hs1.sep,out:=hs1.out,aP:=hs1.aP,aJ:=hs1.aJ,lt:=hs1.lt,mine:=hs1.mine,sub:=hs1.sub,base:=hs1.base,bU:=⟨b2,fun _ _=>rfl⟩,keep:=hs1.keep,env:=hs1.env}
     have hfx1:∀i,i<g.fix->ρ1 i=ρ i:=hs1.bU.2
     refine wp_mono (pq.1 (hgo1 C1 hx1 _ _ ⟨ρ1,F1,UZ⟩)) ?_
     rintro e a2 w2 ⟨s2,⟨ρ2,F2,hs2⟩,md,args2,is,H1,H2,s3,hend,_,abo,hlat,hA,hok,hHL,hret⟩
     have hs3:=abo a2 w2 ρ2 F2 hs2
     obtain⟨_,l2,l3,l4,l5⟩:=hlat
     have hok2:=hok
     simp only[xR,adg] at hok2
     obtain⟨⟨⟨o1',_⟩,_⟩,o4⟩:=hok2
     have o4:=ado o4
     have BU:=holds_of hs3 l2 o4 o1' hHL
     have hA3:aF (R3 ρ2 F2 w2) caps cs:=Hg (fun i hi=>hs3.bU.2 i hi) b1 uH
     have hA4:=kH hA hA3
     simp only[aL,adg,List.all_eq_true] at l2
     have hA5:aF (R3 (fun i=>ρ2 (nth is i)) F2 w2) args2 cs:=hA4.unmap fun u v hu hr=>R3.dJ (k:=H1.length) (fun _ _=>rfl) (l2.1 u hu) hr
     have hdel:=l5 w2 F2 _ cs hs3.lt (show je P.env F2 w2 from hs3.env) BU hA5
     have key:Leaves P.P fn a2.tmps (Post w F ρ g.fix H r H') a2.defers md.mode w2:=by
      rw[show a2.defers=[d] from hs2.defers.none rfl]
      refine leaves_cons md.ZO (RV hcall w2) (hdel.mono ?_)
      rintro e3 u3 w3 ⟨rfl,hpost⟩
      obtain⟨v3,ρ3,F3,rfl,_,_,hs4⟩:=aD.called (g:={g with fix:=k}) hs3 rfl hok hHL l4 l3 hpost
      have hs5:aD (RU P g w F ρ H [d]) (behind s3 is H2) a2 w3 ρ3 F3:=by
       have hs4:aD C1 (behind s3 is H2) a2 w3 ρ3 F3:=by
        rw[←o4] at hs4
        exact hs4
       exact {size:=hs4.size,defers:=hs4.defers,slot:=hs4.slot,ch:=hs4.ch,sep:=hs4.sep,out:=hs4.out,aP:=hs4.aP,aJ:=hs4.aJ,lt:=hs4.lt,mine:=hs4.mine,sub:=hs4.sub,base:=hs4.base,bU:=⟨Nat.le_trans b3 hs4.bU.1,fun i hi=>(hs4.bU.2 i (Nat.lt_of_lt_of_le hi b3)).trans (hfx1 i hi)⟩,keep:=hs4.keep,env:=hs4.env}
      obtain⟨y,y1,y2⟩:=ED (fn:=fn) wQ hrs k3 hs5 hret
      show Leaves P.P fn a2.tmps (Post w F ρ g.fix H r H') [] (settle md.done) w3
      rw[md.settled]
      exact⟨y,y1,y2⟩
     cases md with
     | back=>
      rcases hend with rfl | rfl
      ·exact key
      ·exact key
     | pan t ns=>
      have hend:e=.panic (Gq t ns):=hend
      subst hend
      exact key
    ·simp at hdi
   ·simp at hdi
  ·simp at hdi
 ·obtain⟨ρ',F',hs⟩:=hs
  obtain⟨y,y1,y2⟩:=ED (fn:=fn) wQ hrs k3 hs hr
  show Leaves P.P fn a.tmps (Post w F ρ g.fix H r H') a.defers .returning w'
  rw[show a.defers=[] from hs.defers.none rfl]
  exact⟨y,y1,y2⟩
end Go.Sx
set_option linter.unusedVariables false
set_option linter.unusedSimpArgs false
namespace Go.Sx
inductive iE where
 | leaf
 | no
 | fork (i:Nat) (here others:iE)
def iE.firsts:iE->List Nat
 | .fork i _ b=>i::b.firsts
 | _=>[]
def iE.depth:iE->Nat
 | .fork _ a b=>max (a.depth+1) b.depth
 | _=>0
def iE.top (ops:Array Oper) (t:iE) (l:Array Bool):Bool:=match t with
 | .leaf=>true
 | .no=>false
 | t=>decide (t.firsts=Region.ready .any ops l)
def iE.chk (ops:Array Oper):iE->Array Bool->Bool
 | .leaf,l=>(Region.ready .any ops l).isEmpty
 | .no,_=>true
 | .fork i a b,l=>a.chk ops (l.setIfInBounds i true)&&a.top ops (l.setIfInBounds i true)&&b.chk ops l
def EvT (C:Ctx) (ops:Array Oper) (J:St->Prop):iE->St->Prop
 | .leaf,s=>J s
 | .no,_=>True
 | .fork i a b,s=>Go C [.ops ops (aS ops.toList [i]), .back (EvT C ops J a)] s (fun _ _=>False)∧EvT C ops J b s
section
variable {C:Ctx} {ops:Array Oper} {J:St->Prop} {Q:Exit->Act->World->Prop}
theorem EvT.pick {t:iE} {s:St} {l:Array Bool} (h:EvT C ops J t s) (hc:t.chk ops l=true) {i:Nat} (hi:i∈t.firsts) :
  ∃a,a.chk ops (l.setIfInBounds i true)=true∧a.top ops (l.setIfInBounds i true)=true∧a.depth+1≤t.depth∧Go C [.ops ops (aS ops.toList [i]), .back (EvT C ops J a)] s (fun _ _=>False):=by
 induction t with
 | leaf=>cases hi
 | no=>cases hi
 | fork j a b _ ih=>
  simp only[iE.chk,adg] at hc
  obtain⟨⟨h2,h3⟩,h4⟩:=hc
  rcases List.mem_cons.1 hi with e | hi
  ·subst e;exact⟨a,h2,h3,Nat.le_max_left _ _,h.1⟩
  ·obtain⟨c,c1,c2,c3,c4⟩:=ih h.2 h4 hi
   exact⟨c,c1,c2,Nat.le_trans c3 (Nat.le_max_right _ _),c4⟩
theorem EvT.sound (hJ:∀s a w,Sat C s a w->J s->Q .normal a w):∀(n:Nat) (t:iE) (l:Array Bool) (s:St) (a:Act) (w:World),t.chk ops l=true->t.top ops l=true->EvT C ops J t s->Sat C s a w->t.depth≤n->wpAny C.P .any ops Q n l a w
 | n, .leaf,l,s,a,w,hc,_,ht,hs,_=>by
  have hr:Region.ready .any ops l=[]:=by simpa [iE.chk] using hc
  cases n with
  | zero=>exact⟨hr,hJ s a w hs ht⟩
  | succ n=>exact⟨fun _=>hJ s a w hs ht,fun i hi=>by rw[hr] at hi;cases hi⟩
 | n, .no,l,s,a,w,_,htop,_,_,_=>by simp [iE.top] at htop
 | 0, .fork i x y,l,s,a,w,_,_,_,_,hd=>by
  have:x.depth+1≤(iE.fork i x y).depth:=Nat.le_max_left _ _
  omega
 | n+1, .fork i x y,l,s,a,w,hc,htop,ht,hs,hd=>by
  have hr:(iE.fork i x y).firsts=Region.ready .any ops l:=by simpa [iE.top] using htop
  refine⟨fun h=>(by rw[←hr] at h;cases h),fun j hj=>?_⟩
  rw[←hr] at hj
  obtain⟨b,b1,b2,b4,b3⟩:=ht.pick hc hj
  refine EA b3 hs (fun s1 a1 w1 h1 hj1=>EvT.sound hJ n b _ s1 a1 w1 b1 b2 hj1 h1 (by omega)) (fun _ _ _ _ _ h=>h.elim) (fun _ h=>h.elim)
end
theorem Cx.every {P:Pg} {g:Cfg} {C:Ctx} (x:Cx P g C) {s s':St} {K K':List Item} {Φ:Exit->St->Prop} {ob:List Prop} (t:iE) (s2:St) {id:Nat} {ops:Array Oper} (h:run g 1000 K s []=.code ob (.region id ops true) K' s') (ho:aj ob) (hm:P.P.follows .mixedOrders=true)
  (hc:(t.chk ops (Array.replicate ops.size false)&&t.top ops (Array.replicate ops.size false)&&Nat.ble t.depth ops.size)=true) (he:EvT C ops (fun s=>LE g.fix s s2) t s') (k:Go C K' s2 Φ):Go C K s Φ:=by
 refine st x.ty x.n x.fix h ⟨ho,?_⟩
 rintro a w ⟨ρ,F,hs⟩
 have hd:Mod none w {w with drawn:=w.drawn+1}:=⟨rfl,rfl,rfl,Nat.le_refl _,fun _ _ _=>rfl⟩
 have hs1:=hs.mod hd
 simp only[adg] at hc
 obtain⟨⟨h1,h2⟩,h3⟩:=hc
 have hP:C.P.follows .mixedOrders=true:=x.qJ.symm▸hm
 refine x.Gp ?_
 exact wp_region_any hP (EvT.sound (fun s a w hs hj=>k a w (LE.sat (x.fix▸hj) hs)) ops.size t _ s' a _ h1 h2 he ⟨ρ,F,hs1⟩ (by simpa using h3))
end Go.Sx
set_option linter.unusedVariables false
set_option linter.unusedSimpArgs false
namespace Go.Sx
section
variable {P:Program} {Q Q':Exit->Act->World->Prop}
theorem LetsOut.mono (h:∀e a w,Q e a w->Q' e a w):LetsOut Q->LetsOut Q':=fun ⟨a,w,hq⟩=>⟨a,w,h _ a w hq⟩
theorem Oper.Oa {o:Oper} {a:Act} {K K':Act->World->Prop} (hK:∀a w,K a w->K' a w) (h:∀e a w,Q e a w->Q' e a w):∀{r:Result Next},o.upon P a K Q r->o.upon P a K' Q' r:=by
 intro r hr
 cases r with
 | ok n w'=>
  cases n<;>simp only[Oper.upon] at hr ⊢<;>
   first
    | exact hK _ _ hr
    | exact Calls.mono hr (fun e w'' he=>by
     cases e with
     | returned v=>exact hK _ _ he
     | panicked c=>exact h _ _ _ he
     | outgrown=>exact LetsOut.mono h he)
    | exact Rows.mono hr (fun _ _ he=>hK _ _ he)
 | halt x w'=>
  cases x<;>simp only[Oper.upon] at hr ⊢
  exact h _ _ _ hr
theorem uO {ops:Array Oper} (h:∀e a w,Q e a w->Q' e a w):∀{l:List Oper} {a:Act} {w:World},wpList P ops Q l a w->wpList P ops Q' l a w
 | [],a,w,hl=>h _ a w hl
 | o::r,a,w,hl=>by
  unfold wpList at hl ⊢
  split
  ·rename_i hw
   rw[if_pos hw] at hl
   rcases hl with hl | hl
   ·exact .inl (Oper.Oa (fun a w hh=>uO h hh) h hl)
   ·exact .inr ⟨hl.1,LetsOut.mono h hl.2⟩
  ·rename_i hw
   rw[if_neg hw] at hl
   exact uO h hl
theorem Ob {Fc:Fence} {n:Nat} {o:Oper} {a:Act} {K K':Act->World->Prop} (hK:∀a w,K a w->K' a w) (h:∀e a w,Q e a w->Q' e a w):∀{r:Result Next},o.uponIn Fc n P a K Q r->o.uponIn Fc n P a K' Q' r:=by
 intro r hr
 cases r with
 | ok x w'=>
  cases x<;>simp only[Oper.uponIn] at hr ⊢<;>
   first
    | exact hK _ _ hr
    | exact⟨hr.1,CallsIn.mono hr.2 (fun e w'' he=>by
     cases e with
     | returned v=>exact hK _ _ he
     | panicked c=>exact h _ _ _ he
     | outgrown=>exact LetsOut.mono h he)⟩
    | exact⟨hr.1,RowsIn.mono hr.2 (fun _ _ he=>hK _ _ he)⟩
    | exact⟨hr.1,RoundIn.mono hr.2 (fun e w'' he=>by
     cases e with
     | returned v=>exact hK _ _ he
     | panicked c=>exact h _ _ _ he
     | outgrown=>exact LetsOut.mono h he)⟩
 | halt x w'=>
  cases x<;>simp only[Oper.uponIn] at hr ⊢
  exact h _ _ _ hr
theorem nY {Fc:Fence} {n:Nat} {ops:Array Oper} (h:∀e a w,Q e a w->Q' e a w):∀{l:List Oper} {a:Act} {w:World},wpListIn Fc n P ops Q l a w->wpListIn Fc n P ops Q' l a w
 | [],a,w,hl=>h _ a w hl
 | o::r,a,w,hl=>by
  unfold wpListIn at hl ⊢
  split
  ·rename_i hw
   rw[if_pos hw] at hl
   exact⟨hl.1,Ob (fun a w hh=>nY h hh) h hl.2⟩
  ·rename_i hw
   rw[if_neg hw] at hl
   exact⟨hl.1,nY h hl.2⟩
theorem Cj {rr:Option Nat} {ops:Array Oper} (h:∀e a w,Q e a w->Q' e a w) {l:List Oper} {a:Act} {w:World} (hl:eD rr P ops Q l a w):eD rr P ops Q' l a w:=
 ⟨uO h hl.1,nY h hl.2⟩
end
section
variable {C:Ctx} {s:St} {K:List Item} {Φ Φ':Exit->St->Prop}
theorem kQ {Q Q':Exit->Act->World->Prop} (h:∀e a w,Q e a w->Q' e a w):∀(K:List Item) (e:Exit) (a:Act) (w:World),den C Q K e a w->den C Q' K e a w
 | [],e,a,w,hd=>h e a w hd
 | .code c::K,e,a,w,hd=>by
  cases e with
  | normal=>exact rE hd fun e a w hq=>kQ h K e a w hq
  | _=>exact kQ h K _ a w hd
 | .ops all l::K,e,a,w,hd=>by
  cases e with
  | normal=>exact Cj (fun e a w hq=>kQ h K e a w hq) hd
  | _=>exact kQ h K _ a w hd
 | .blk id::K,e,a,w,hd=>by
  cases e with
  | exit i=>
   simp only[den,Exit.inBlock] at hd ⊢
   split
   ·rename_i hi;rw[if_pos hi] at hd;exact kQ h K _ a w hd
   ·rename_i hi;rw[if_neg hi] at hd;exact kQ h K _ a w hd
  | _=>exact kQ h K _ a w hd
 | .back J::K,e,a,w,hd=>by
  cases e with
  | normal=>exact hd
  | _=>exact kQ h K _ a w hd
theorem Go.relax (h:∀e s a w,Φ' e s->Sat C s a w->∃s2,Sat C s2 a w∧Φ e s2) (k:Go C K s Φ'):Go C K s Φ:=fun a w hs=>
 kQ (fun e a w ⟨s1,h1,h2⟩=>h e s1 a w h2 h1) K _ a w (k a w hs)
theorem Sat.frozen {a:Act} {w:World} (h:Sat C s a w) (id:Nat):Sat C (frozen s id) a w:=by
 have:Go C [] s (fun _ s'=>s'=Sx.frozen s id):=Go.freeze id fun a w hs=>⟨_,hs,rfl⟩
 obtain⟨s',h1,rfl⟩:=this a w h
 exact h1
theorem aF.rM {α β:Type} {R:α->β->Prop} {a:α}:∀{xs:List α} {ys:List β} {j:Nat},aF R xs ys->(∀b,ys[j]?=some b->R a b)->aF R (xs.set j a) ys
 | [],[],_,_,_=>trivial
 | _::_,_::_,0,⟨_,h⟩,e=>⟨e _ rfl,h⟩
 | _::_,_::_,_+1,⟨h0,h⟩,e=>⟨h0,aF.rM h fun b hb=>e b (by simpa using hb)⟩
 | [],_::_,_,h,_=>h.elim
 | _::_,[],_,h,_=>h.elim
theorem jA {J:St->Prop} {Q:Exit->Act->World->Prop} {K2:List Item} (hJ:∀s a w,Sat C s a w->J s->den C Q K2 .normal a w):∀(K1:List Item) (e:Exit) (a:Act) (w:World),den C (fE C fun _ _=>False) (K1++[.back J]) e a w->den C Q (K1++K2) e a w
 | [],e,a,w,hd=>by
  cases e with
  | normal=>obtain⟨s,h1,h2⟩:=hd;exact hJ s a w h1 h2
  | _=>obtain⟨_,_,h⟩:=hd;exact h.elim
 | .code c::K,e,a,w,hd=>by
  cases e with
  | normal=>exact rE hd fun e a w hq=>jA hJ K e a w hq
  | _=>exact jA hJ K _ a w hd
 | .ops all l::K,e,a,w,hd=>by
  cases e with
  | normal=>exact Cj (fun e a w hq=>jA hJ K e a w hq) hd
  | _=>exact jA hJ K _ a w hd
 | .blk id::K,e,a,w,hd=>by
  cases e with
  | exit i=>
   simp only[List.cons_append,den,Exit.inBlock] at hd ⊢
   split
   ·rename_i hi;rw[if_pos hi] at hd;exact jA hJ K _ a w hd
   ·rename_i hi;rw[if_neg hi] at hd;exact jA hJ K _ a w hd
  | _=>exact jA hJ K _ a w hd
 | .back J'::K,e,a,w,hd=>by
  cases e with
  | normal=>exact hd
  | _=>exact jA hJ K _ a w hd
def KU:Nat->List Item->List Item
 | 0,_=>[]
 | _+1,[]=>[]
 | n+1,i::K=>i::KU n K
def KV:Nat->List Item->List Item
 | 0,K=>K
 | _+1,[]=>[]
 | n+1,_::K=>KV n K
theorem EG:∀(n:Nat) (K:List Item),KU n K++KV n K=K
 | 0,K=>rfl
 | _+1,[]=>rfl
 | n+1,i::K=>by simp only[KU,KV,List.cons_append,EG n K]
def XH (J:St->Prop):List Item->List Item
 | []=>[.back J]
 | i::K=>i::XH J K
theorem Qb {J:St->Prop}:∀K:List Item,XH J K=K++[.back J]
 | []=>rfl
 | i::K=>by simp only[XH,List.cons_append,Qb K]
theorem Go.split (n:Nat) (k:Go C (XH (fun s=>Go C (KV n K) s Φ) (KU n K)) s fun _ _=>False):Go C K s Φ:=by
 intro a w hs
 rw[←EG n K]
 refine jA (J:=fun s=>Go C (KV n K) s Φ) (fun s a w h1 h2=>h2 a w h1) (KU n K) _ a w ?_
 rw[←Qb]
 exact k a w hs
end
end Go.Sx
set_option linter.unusedVariables false
set_option linter.unusedSimpArgs false
namespace Go.Sx
def Vk (is:List Nat):List (Nat×V)->List (Nat×V)
 | []=>[]
 | (t,v)::r=>(t,v.xJ (bZ is))::Vk is r
def Vl (is:List Nat):List (Nat×Ch)->List (Nat×Ch)
 | []=>[]
 | (i,c)::r=>(nth is i,c.map (bZ is))::Vl is r
def EH (is:List Nat) (s:St):St:=⟨Vk is s.L,Vl is s.H,s.m⟩
def uP:Nat->(Nat->Bool)->Bool
 | 0,_=>true
 | n+1,p=>p n&&uP n p
theorem ql {p:Nat->Bool}:∀{n:Nat},uP n p=true->∀i,i<n->p i=true
 | n+1,h,i,hi=>by
  simp only[uP,adg] at h
  by_cases e:i=n
  ·subst e;exact h.1
  ·exact ql h.2 i (by omega)
def uQ (is:List Nat) (m fix:Nat):Bool:=Nat.beq is.length m&&uP m (fun i=>Nat.blt (nth is i) m&&Nat.beq (nth is (nth is i)) i)&&uP fix (fun i=>Nat.beq (nth is i) i)&&Nat.ble fix m
theorem AA {is:List Nat} {t:Nat} {v':V}:∀{L:List (Nat×V)},(t,v')∈Vk is L->∃v,(t,v)∈L∧v'=v.xJ (bZ is)
 | (t',v)::r,h=>by
  rcases List.mem_cons.1 h with e | h
  ·obtain⟨rfl,rfl⟩:=Prod.mk.inj e;exact⟨v,by simp,rfl⟩
  ·obtain⟨v,h1,h2⟩:=AA h;exact⟨v,by simp [h1],h2⟩
theorem lU {is:List Nat} {i:Nat} {c':Ch}:∀{H:List (Nat×Ch)},(i,c')∈Vl is H->∃j c,(j,c)∈H∧i=nth is j∧c'=c.map (bZ is)
 | (j,c)::r,h=>by
  rcases List.mem_cons.1 h with e | h
  ·obtain⟨rfl,rfl⟩:=Prod.mk.inj e;exact⟨j,c,by simp,rfl,rfl⟩
  ·obtain⟨j,c,h1,h2⟩:=lU h;exact⟨j,c,by simp [h1],h2⟩
theorem Sat.perm {C:Ctx} {s:St} {a:Act} {w:World} {is:List Nat} (hp:uQ is s.m C.fix=true) (h:Sat C s a w):Sat C (EH is s) a w:=by
 obtain⟨ρ,F,h⟩:=h
 simp only[uQ,adg] at hp
 obtain⟨⟨⟨p1,p2⟩,p3⟩,p4⟩:=hp
 have q2:∀i,i<s.m->nth is i<s.m∧nth is (nth is i)=i:=fun i hi=>by
  have:=ql p2 i hi
  simp only[adg] at this
  exact⟨by simpa using this.1,ado this.2⟩
 have q3:∀i,i<C.fix->nth is i=i:=fun i hi=>ado (ql p3 i hi)
 let ρ':Nat->Value:=fun i=>ρ (nth is i)
 have hρ:∀i,i<s.m->ρ' (nth is i)=ρ i:=fun i hi=>by show ρ (nth is (nth is i))=ρ i;rw[(q2 i hi).2]
 have hlt:∀i,i<s.m->nth is i<s.m:=fun i hi=>(q2 i hi).1
 have hk:∀u v,fresh s.m u=true->R0 ρ F w u v->R0 ρ' F w (bZ is u) v:=fun u v hu hr=>R0.ren hρ hu hr
 have hfr:∀i c,(i,c)∈s.H->i<s.m:=fun i c hi=>(h.aJ i c hi).1
 have hbk:∀i c b,(i,c)∈s.H->(bks ρ' (nth is i) (c.map (bZ is)) b↔bks ρ i c b):=fun i c b hi=>by
  have e:=hρ i (hfr i c hi)
  cases c<;>simp only[Ch.map,bks,e]
 refine⟨ρ',F,{size:=h.size,defers:=h.defers,slot:=fun t v' hv=>?_,ch:=fun i c' hi=>?_,sep:=fun i j ci cj b hi hj hij e=>?_,out:=fun i c b hi e=>?_,aP:=fun t v' hv=>?_,aJ:=fun i c' hi=>?_,lt:=h.lt,mine:=fun i c b hi e=>?_,sub:=h.sub,base:=h.base,bU:=⟨h.bU.1,fun i hi=>?_⟩,keep:=h.keep,env:=h.env}⟩
 ·obtain⟨v,hv0,rfl⟩:=AA hv
  obtain⟨x,hx,hr⟩:=h.slot t v hv0
  refine⟨x,hx,?_⟩
  have hf:=h.aP t v hv0
  cases v with
  | g p u=>exact⟨fun hp=>R3.map hk hf (hr.1 hp),hr.2⟩
  | d y=>exact gV (R3.map (u:=.d y) hk hf hr)
  | aB=>exact gV (R3.map (u:=.aB) hk hf hr)
  | ptr y z=>exact gV (R3.map (u:=.ptr y z) hk hf hr)
  | own y=>exact gV (R3.map (u:=.own y) hk hf hr)
  | bA y z i j=>exact gV (R3.map (u:=.bA y z i j) hk hf hr)
  | gq y=>exact gV (R3.map (u:=.gq y) hk hf hr)
  | fn f y=>exact gV (R3.map (u:=.fn f y) hk hf hr)
  | agg y=>exact gV (R3.map (u:=.agg y) hk hf hr)
  | tup y=>exact gV (R3.map (u:=.tup y) hk hf hr)
  | dead=>exact gV (R3.map (u:=.dead) hk hf hr)
 ·obtain⟨j,c,hc,rfl,rfl⟩:=lU hi
  exact iG.ren hρ (hfr j c hc) (h.aJ j c hc).2 (h.ch j c hc)
 ·obtain⟨i',ci,hi0,rfl,rfl⟩:=lU hi
  obtain⟨j',cj,hj0,rfl,rfl⟩:=lU hj
  exact fun e2=>h.sep i' j' ci cj b hi0 hj0 (fun e3=>hij (by rw[e3])) ((hbk _ _ _ hi0).1 e) ((hbk _ _ _ hj0).1 e2)
 ·obtain⟨j,c,hc,rfl,rfl⟩:=lU hi
  exact h.out j c b hc ((hbk _ _ _ hc).1 e)
 ·obtain⟨v,hv0,rfl⟩:=AA hv
  have hf:=h.aP t v hv0
  have h3:∀{u:V},u.aO (fresh s.m)=true->(u.cu (bZ is)).aO (fresh s.m)=true:=fun hu=>D8 hlt hu
  cases v with
  | g p u=>exact h3 hf
  | d y=>rfl
  | aB=>rfl
  | ptr y z=>exact h3 (u:=.ptr y z) hf
  | own y=>exact h3 (u:=.own y) hf
  | bA y z i j=>exact h3 (u:=.bA y z i j) hf
  | gq y=>rfl
  | fn f y=>exact h3 (u:=.fn f y) hf
  | agg y=>exact h3 (u:=.agg y) hf
  | tup y=>exact h3 (u:=.tup y) hf
  | dead=>rfl
 ·obtain⟨j,c,hc,rfl,rfl⟩:=lU hi
  exact⟨hlt j (hfr j c hc),D9 hlt (h.aJ j c hc).2⟩
 ·obtain⟨j,c,hc,rfl,rfl⟩:=lU hi
  exact h.mine j c b hc ((hbk _ _ _ hc).1 e)
 ·show ρ (nth is i)=C.ρ0 i
  rw[q3 i hi];exact h.bU.2 i hi
theorem EvT.x9 {C:Ctx} {ops:Array Oper} {J:St->Prop} {Q:Exit->Act->World->Prop} {S0:World->Prop} (hS:∀s a w,Sat C s a w->S0 w) (hJ:∀s a w,Sat C s a w->J s->Q .normal a w):∀(n:Nat) (t:iE) (l:Array Bool) (s:St) (a:Act) (w:World),t.chk ops l=true->t.top ops l=true->EvT C ops J t s->Sat C s a w->t.depth≤n->wpAnyH C.P .any ops Q S0 n l a w
 | n, .leaf,l,s,a,w,hc,_,ht,hs,_=>by
  have hr:Region.ready .any ops l=[]:=by simpa [iE.chk] using hc
  cases n with
  | zero=>exact⟨hr,hJ s a w hs ht⟩
  | succ n=>exact⟨fun _=>hJ s a w hs ht,fun i hi=>by rw[hr] at hi;cases hi⟩
 | n, .no,l,s,a,w,_,htop,_,_,_=>by simp [iE.top] at htop
 | 0, .fork i x y,l,s,a,w,_,_,_,_,hd=>by
  have:x.depth+1≤(iE.fork i x y).depth:=Nat.le_max_left _ _
  omega
 | n+1, .fork i x y,l,s,a,w,hc,htop,ht,hs,hd=>by
  have hr:(iE.fork i x y).firsts=Region.ready .any ops l:=by simpa [iE.top] using htop
  refine⟨fun h=>(by rw[←hr] at h;cases h),fun j hj=>?_⟩
  rw[←hr] at hj
  obtain⟨b,b1,b2,b4,b3⟩:=ht.pick hc hj
  refine EA b3 hs (fun s1 a1 w1 h1 hj1=>⟨hS s1 a1 w1 h1,EvT.x9 hS hJ n b _ s1 a1 w1 b1 b2 hj1 h1 (by omega)⟩) (fun _ _ _ _ _ h=>h.elim) (fun _ h=>h.elim)
def xA (ops:Array Oper) (A:List Nat) (t:iE):Bool:=
 Region.noSelect ops&&Nat.beq (A.length+t.depth) ops.size&&tQ .any ops [] A (Array.replicate ops.size false) fun l=>t.chk ops l&&t.top ops l
theorem Cx.qm {P:Pg} {g:Cfg} {C:Ctx} (x:Cx P g C) {s s':St} {K K':List Item} {Φ:Exit->St->Prop} {ob:List Prop} (is0 A:List Nat) (t:iE) (s2:St) {id:Nat} {ops:Array Oper} (h:run g 1000 K s []=.code ob (.region id ops true) K' s') (ho:aj ob) (hm:P.P.follows .mixedOrders=true)
  (hB:xA ops A t=true) (hΦ:NoPanic Φ)
  {obA:List Prop} {sA:St} (hqA:oU g ops 1000 (aS ops.toList A) ⟨s'.L,aH is0 s'.H,s'.m⟩ []=.done obA sA) (hoA:aj obA)
  (he:∀C2,Cx P {g with fix:=s'.m} C2->EvT C2 ops (fun s=>LE s'.m s s2∨∃is,uQ is s.m s'.m=true∧LE s'.m (EH is s) s2) t ⟨sA.L,dX is0 s'.H,s'.m⟩)
  (k:Go C K' ⟨s2.L,lq s2.H (aH is0 s'.H),s2.m⟩ Φ):Go C K s Φ:=by
 refine st x.ty x.n x.fix h ⟨ho,?_⟩
 rintro a w ⟨ρ,F,hs⟩
 have hd:Mod none w {w with drawn:=w.drawn+1}:=⟨rfl,rfl,rfl,Nat.le_refl _,fun _ _ _=>rfl⟩
 have hs1:=hs.mod hd
 generalize hw1:({w with drawn:=w.drawn+1}:World)=w1 at hs1
 let S0:World->Prop:=fun w'=>∀k,k<w1.heap.size->¬dR ρ s'.H is0 k->w'.heap[k]?=w1.heap[k]?
 obtain⟨_,hmA,hrA⟩:=j5 (F:=F) x.ty x.n (S:=S0) (fun w' hw' k hk hlt=>hw' k hlt hk) 1000 _ _ _ hqA hoA
 refine x.Gp ?_
 have hP:C.P.follows .mixedOrders=true:=x.qJ.symm▸hm
 simp only[xA,adg] at hB
 obtain⟨⟨hns,hsz⟩,hpl⟩:=hB
 have hsz:=ado hsz
 refine wp_region_any hP (wpAny_of_held (S:=S0) _ _ _ _ ?_)
 have inv0:Inv .any ops [] (Array.replicate ops.size false):=⟨by simp,fun j oj _ hl=>(by rw[getD_replicate_false] at hl;cases hl),fun t ht=>(by cases ht)⟩
 have key:wpAnyH C.P .any ops (den C (fE C Φ) K') S0 (A.length+t.depth) (Array.replicate ops.size false) a {w with drawn:=w.drawn+1}:=?_
 ·rw[hsz] at key;exact key
 refine kI (T:=[]) hns (fun c o v a w ho hq=>nL hΦ.quiet K' c ho v a w hq) (by rw[hw1];exact fun k _ _=>rfl) (fun listed a1 inv hk hl=>?_) A _ a inv0 hpl (hrA a hs1)
 rw[hw1]
 simp only[adg] at hk
 have hl:aD C ⟨sA.L,s'.H,s'.m⟩ a1 w1 ρ F:=hl
 let C2:=C.sub s' is0 w1 ρ F
 have h2f:aD C2 ⟨sA.L,dX is0 s'.H,s'.m⟩ a1 w1 ρ F:=hl.frame (s:=⟨sA.L,s'.H,s'.m⟩) is0
 have hx2:Cx P {g with fix:=s'.m} C2:=⟨⟨x.prog,x.n,rfl,x.tys⟩,x.rd⟩
 refine EvT.x9 (C:=C2) (fun s a w hs=>?_) (fun s3 a3 w3 hs3 hj=>?_) t.depth t listed _ a1 w1 hk.1 hk.2 (he C2 hx2) ⟨ρ,F,h2f⟩ (Nat.le_refl _)
 ·obtain⟨ρ',F',hs⟩:=hs
  exact fun k hk hb=>hs.keep.block k hk hb
 ·have hs4:Sat C2 s2 a3 w3:=by
   rcases hj with hj | ⟨is,hp,hj⟩
   ·exact LE.sat hj hs3
   ·exact LE.sat hj (Sat.perm hp hs3)
  obtain⟨ρ4,F4,h4⟩:=hs4
  exact k a3 w3 ⟨ρ4,F4,hl.Dn (s:=⟨sA.L,s'.H,s'.m⟩) h4⟩
end Go.Sx
set_option linter.unusedVariables false
set_option linter.unusedSimpArgs false
namespace Go.Sx
open Go.Shelf Go.RowKit Go.Proofs
section
variable {P:Program} (w:World)
end
structure But (S:Nat->Prop) (w w':World):Prop where
 os:w'.os=w.os
 tape:w'.tape=w.tape
 output:w'.output=w.output
 size:w.heap.size≤w'.heap.size
 block:∀k,k<w.heap.size->¬S k->w'.heap[k]?=w.heap[k]?
theorem But.refl {S:Nat->Prop} {w:World}:But S w w:=⟨rfl,rfl,rfl,Nat.le_refl _,fun _ _ _=>rfl⟩
theorem But.trans {S:Nat->Prop} {w w1 w2:World} (h:But S w w1) (k:But S w1 w2):But S w w2:=⟨k.os.trans h.os,k.tape.trans h.tape,k.output.trans h.output,Nat.le_trans h.size k.size,fun j hj hS=>(k.block j (Nat.lt_of_lt_of_le hj h.size) hS).trans (h.block j hj hS)⟩
section
variable {P:Program} {r:Ren}
end
end Go.Sx
set_option linter.unusedVariables false
set_option linter.unusedSimpArgs false
namespace Go.Sx
open Go.Shelf Go.RowKit Go.Proofs
section
variable {P:Pg} {r:Ren}
def EJ (xs:List ByteArray) (sep:ByteArray):ByteArray:=⟨(Lib.join (xs.map (·.data.toList)) sep.data.toList).toArray⟩
end
end Go.Sx
set_option linter.unusedVariables false
set_option linter.unusedSimpArgs false
namespace Go.Sx
def Hl (g:Cfg) (s:St) (o:Oper):Option (Nat×Nat×Int×Nat):=
 match o.guard,o.dst,o.op with
 | none,some d, .indexAddr t (.global gl) ix=>match ev s.L [] ix,lk g t with
  | some (.d (.int _ n)),some ti=>match ti.kind with
   | .array N e=>bif isz g e 1&&Nat.blt d g.n then some (gl,N,n,d) else none
   | _=>none
  | _,_=>none
 | _,_,_=>none
theorem Cr.abp {P:Pg} {g:Cfg} {C:Ctx} (x:Cr P g C) {s s':St} {K K':List Item} {Φ:Exit->St->Prop} {ob:List Prop} (tab:Nat->D) {all:Array Oper} {o:Oper} {rest:List Oper} {gl N d:Nat} {n:Int} (h:run g 1000 K s []=.op ob all o rest K' s') (ho:aj ob)
  (hi:Hl g s' o=some (gl,N,n,d)) (hE:Je P.env gl N tab) (hb:0≤n∧n<(N:Int)) (k:Go C (.ops all rest::K') {s' with L:=put s'.L d (.gq [tab n.toNat])} Φ):Go C K s Φ:=by
 refine st x.ty x.n x.fix h ⟨ho,?_⟩
 rintro a w ⟨ρ,F,hs⟩
 have hg:=x.ty
 unfold Hl at hi
 split at hi
 ·rename_i d' t gl' ix hgd hd hop
  split at hi
  ·rename_i kk n' ti hix hti
   split at hi
   ·rename_i N' e hkind
    cases hc:(isz g e 1&&Nat.blt d' g.n) with
    | false=>rw[hc] at hi;simp at hi
    | true=>
     rw[hc] at hi
     simp only[cond_true,adk,adq] at hi
     obtain⟨rfl,rfl,rfl,rfl⟩:=hi
     simp only[adg] at hc
     obtain⟨b0,b1⟩:=hc
     show eD C.rd C.P all (den C (fE C Φ) K') (o::rest) a w
     refine iJ hgd fun M hM=>?_
     obtain⟨h0,h1⟩:=hb
     obtain⟨f,hf,hlit⟩:=hE
     have NU:je P.env F w:=by have:=hs.env;rwa [show C.env=P.env from congrArg Pg.env x.prog] at this
     obtain⟨hF,hcell,_⟩:=NU _ _ _ hf
     have hiv:=(aA hs (bY _) hix).1
     generalize hex:a.eval ix=vx at hiv
     cases (show RD F w _ _ from hiv)
     have hu:=(bJ hg hti).und
     rw[hkind] at hu
     have hrun:(execOp a.eval o).run C.P w=.ok (.value (.pointer (some ⟨gl',n'.toNat,none⟩))) w:=by
      unfold execOp
      rw[hop]
      refine tO ?_
      simp [Act.eval,hex] at hex ⊢
      simp [hex,Instr.indexAt,Instr.sureAddr,asIntOf,aM (show C.P.underlying t=some (.array N' e) from hu),h0,h1,iU hg b0,Addr.add_lit]
     refine nP hrun tR ?_
     refine hM _ _ ?_
     rw[hd]
     refine k _ _ ⟨ρ,F,hs.wM (by rw[←x.n];simpa using b1) (show RS _ ρ F w (.gq _) _ from⟨gl',n'.toNat,fun _=>f n'.toNat,rfl,hF,fun i dd hi=>?_⟩) rfl⟩
     cases i with
     | succ i=>simp at hi
     | zero=>
      simp only[List.getElem?_cons_zero,adk] at hi
      subst hi
      exact⟨hcell n'.toNat (by omega),P7 (hlit n'.toNat (by omega))⟩
   ·simp at hi
  ·simp at hi
 ·simp at hi
end Go.Sx
set_option linter.unusedVariables false
set_option linter.unusedSimpArgs false
namespace Go.Sx
theorem DQ.one {z:Nat} {f f':Nat->List D} (hl:(f 0).length=(f' 0).length) (h:∀(j:Nat) (d d':D),(f 0)[j]?=some d->(f' 0)[j]?=some d'->DQ d d'):DQ (.sl z 1 f) (.sl z 1 f'):=
 .sl z 1 f f' (fun i hi=>by
  obtain rfl:i=0:=by omega
  exact hl) (fun i j d d' hi h1 h2=>by
   obtain rfl:i=0:=by omega
   exact h j d d' h1 h2)
end Go.Sx
set_option linter.unusedVariables false
set_option linter.unusedSimpArgs false
namespace Go.Sx
def Qc (Φ:Exit->St->Prop):Prop:=∀s,¬Φ .outgrown s
theorem zi {C:Ctx} {Q:Exit->Act->World->Prop} (hQ:∀a w,¬Q .outgrown a w):∀(K:List Item) (a:Act) (w:World),¬den C Q K .outgrown a w
 | [],a,w,h=>hQ a w h
 | .code _::K,a,w,h=>zi hQ K a w h
 | .ops _ _::K,a,w,h=>zi hQ K a w h
 | .blk _::K,a,w,h=>zi hQ K a w h
 | .back _::K,a,w,h=>zi hQ K a w h
theorem Ho {C:Ctx} {Φ:Exit->St->Prop} (h:Qc Φ) (K:List Item):¬LetsOut (den C (fE C Φ) K):=fun ⟨a,w,hd⟩=>zi (fun a w ⟨s,_,hs⟩=>h s hs) K a w hd
namespace Cr
variable {P:Pg} {g:Cfg} {C:Ctx} (x:Cr P g C) {s s':St} {K K':List Item} {Φ:Exit->St->Prop} {ob:List Prop}
include x
theorem Vm {id:Nat} {ops:Array Oper} (h:run g 1000 K s []=.code ob (.region id ops true) K' s') (ho:aj ob) (hm:P.P.follows .mixedOrders=true) (hB:(Region.lexB .any ops&&Dk ops)=true) (hΦ:Qc Φ)
  (k:QGo C ops ops.toList s' K' Φ):Go C K s Φ:=by
 refine st x.ty x.n x.fix h ⟨ho,?_⟩
 rintro a w ⟨ρ,F,hs⟩
 simp only[adg] at hB
 obtain⟨hB,hnd⟩:=hB
 simp only[Region.lexB,adg] at hB
 refine w9 (x.qJ.symm▸hm) hnd (Ho hΦ K') ?_
 refine wpAny_of_quiet (C:=Mod none w) (Q:=fun a'=>∀w',Mod none w w'->den C (fE C Φ) K' .normal a' w') (fun _ w' hw' h=>h w' hw') _ _ _ _ (⟨rfl,rfl,rfl,Nat.le_refl _,fun _ _ _=>rfl⟩:Mod none w {w with drawn:=w.drawn+1}) ?_
 have:=wpAnyQ_lex (C:=Mod none w) (md:=.any) hB.1 ops.toList 0 (Array.replicate ops.size false) a (by simp) (by simpa using hB.2) (k a w ρ F hs)
 simpa using this
theorem abq (A B T:List Nat) {id:Nat} {ops:Array Oper} (h:run g 1000 K s []=.code ob (.region id ops true) K' s') (ho:aj ob) (hm:P.P.follows .mixedOrders=true) (hB:(KI .any ops A B T&&Dk ops)=true) (hΦ:NoPanic Φ) (hΦ':Qc Φ)
  (k:QGo C ops (aS ops.toList (lq A B)) s' (.ops ops (aS ops.toList T)::K') Φ):Go C K s Φ:=by
 refine st x.ty x.n x.fix h ⟨ho,?_⟩
 rintro a w ⟨ρ,F,hs⟩
 simp only[adg] at hB
 obtain⟨hB,hnd⟩:=hB
 have hd:Mod none w {w with drawn:=w.drawn+1}:=⟨rfl,rfl,rfl,Nat.le_refl _,fun _ _ _=>rfl⟩
 have hpk:aS ops.toList (lq A B)=aS ops.toList A++aS ops.toList B:=by
  rw[r9]
  clear k hB
  induction A with
  | nil=>rfl
  | cons i r ih=>
   simp only[List.cons_append,aS]
   split<;>simp [ih]
 rw[hpk] at k
 exact w9 (x.qJ.symm▸hm) hnd (Ho hΦ' K') (Ep (C:=Mod none w) hB (nK (fun c a w ⟨s,_,hh⟩=>hΦ c s hh) K') hd (nk (fun a h w' hw'=>(h w' hw').1) (k a w ρ F hs)))
end Cr
def plainO:Obj->Bool
 | .loop _=>false
 | .deferred _=>false
 | _=>true
section
variable {C:Ctx} {s:St} {a:Act} {w w':World} {ρ:Nat->Value} {F:Nat->Prop} {g:Cfg}
theorem iG.obj {id:Nat} {c:Ch} (h:iG ρ F w id c) {b:Nat} (hb:bks ρ id c b):∃o,w.heap[b]?=some o∧plainO o=true:=by
 have own:∀{e:TypeId} {sz n:Nat} {v:Value} {xs:List Value},w.ownsRow 0 e sz v n xs->blk v=some b->∃o,w.heap[b]?=some o∧plainO o=true:=fun h1 hb=>by
  rcases h1.2 with⟨h2,_⟩ | ⟨g,cap,cur,h2,_,h4,_⟩
  ·rw[h2] at hb;simp [blk] at hb
  ·rw[h2] at hb;simp [blk] at hb;subst hb;exact⟨_,h4,rfl⟩
 cases c with
 | box us=>obtain⟨b',cs,T,h1,h2,_⟩:=h;change blk (ρ id)=some b at hb;rw[h1] at hb;simp [blk] at hb;subst hb;exact⟨_,h2,rfl⟩
 | arr sz n f=>obtain⟨b',cs,T,h1,h2,_⟩:=h;change blk (ρ id)=some b at hb;rw[h1] at hb;simp [blk] at hb;subst hb;exact⟨_,h2,rfl⟩
 | iter s pos=>obtain⟨b',h1,h2⟩:=h;change blk (ρ id)=some b at hb;rw[h1] at hb;simp [blk] at hb;subst hb;exact⟨_,h2,rfl⟩
 | bld T u=>obtain⟨b',p,x,h1,h2,_⟩:=h;change blk (ρ id)=some b at hb;rw[h1] at hb;simp [blk] at hb;subst hb;exact⟨_,h2,rfl⟩
 | pos l=>obtain⟨b',arr,clock,h1,h2,_⟩:=h;change blk (ρ id)=some b at hb;rw[h1] at hb;simp [blk] at hb;subst hb;exact⟨_,h2,rfl⟩
 | tbl es=>obtain⟨b',arr,clock,h1,h2,_⟩:=h;change blk (ρ id)=some b at hb;rw[h1] at hb;simp [blk] at hb;subst hb;exact⟨_,h2,rfl⟩
 | vec e sz n f=>
  obtain⟨xs,h1,_⟩:=h
  exact own h1 hb
 | rows e e' sz n hole hs m f=>
  obtain⟨xs,h1,h2,_⟩:=h
  rcases hb with hb | ⟨k,hk,hh,hb⟩
  ·exact own h1 hb
  ·obtain⟨_,ys,h3,_⟩:=h2 k hk hh
   exact own h3 hb
 | held e e' sz n i u hs m f=>
  obtain⟨xs,h1,_,h2,_⟩:=h
  rcases hb with hb | ⟨k,hk,hh,hb⟩
  ·exact own h1 hb
  ·obtain⟨_,ys,h3,_⟩:=h2 k hk hh
   exact own h3 hb
def wo (ρ:Nat->Value) (H:List (Nat×Ch)):Nat->Prop:=fun b=>∃i c,(i,c)∈H∧bks ρ i c b
def Ctx.inR (C:Ctx) (l fx:Nat) (s:St) (w:World) (ρ:Nat->Value) (F:Nat->Prop):Ctx:=
 {C with w0:=w,E:=wo ρ s.H,F0:=F,ρ0:=ρ,fix:=fx,defs:=[],rd:=some l,mks:=false}
theorem aD.Vn (h:aD C s a w ρ F) (l:Nat) {fx:Nat} (hfx:fx≤s.m) {L':List (Nat×V)} {a':Act} (hn:a'.tmps.size=C.n) (hd:a'.defers=[]) (hs:∀t v,(t,v)∈L'->∃x,a'.tmps[t]?=some x∧RS a'.tmps ρ F w v x) (hf:∀t v,(t,v)∈L'->v.qd (fresh s.m)=true) :
  aD (C.inR l fx s w ρ F) ⟨L',s.H,s.m⟩ a' w ρ F where
 size:=hn
 defers:=.start hd
 slot:=hs
 ch:=h.ch
 sep:=h.sep
 out:=h.out
 aP:=hf
 aJ:=h.aJ
 lt:=h.lt
 mine i c b hi e:=.inr ⟨i,c,hi,e⟩
 sub k hk:=.inl hk
 base k hk:=hk
 bU:=⟨hfx,fun _ _=>rfl⟩
 keep:=⟨rfl,rfl,rfl,Nat.le_refl _,fun _ _ _=>rfl⟩
 env:=h.env
theorem aD.Vo (h:aD C s a w ρ F) {l fx:Nat} (hfx:C.fix≤fx) (hL:∀t v,(t,v)∈s.L->v.qd (fresh fx)=true) {s1:St} {a1:Act} {w1:World} {ρ1:Nat->Value} {F1:Nat->Prop} (h1:aD (C.inR l fx s w ρ F) s1 a1 w1 ρ1 F1) :
  aD C ⟨s.L,s1.H,s1.m⟩ a w1 ρ1 F1:=by
 have hm:fx≤s1.m:=h1.bU.1
 have hρ:∀i,i<fx->ρ1 i=ρ i:=h1.bU.2
 have hE:∀b,wo ρ s.H b->C.w0.heap.size≤b∨C.E b:=fun b ⟨i,c,hi,e⟩=>h.mine i c b hi e
 have hFw:∀k,F k->w1.heap[k]?=w.heap[k]?:=fun k hk=>h1.keep.block k (h.lt k hk) fun ⟨i,c,hi,e⟩=>h.out i c k hi e hk
 have hk0:∀(u:V) (v:Value),fresh fx u=true->R0 ρ F w u v->R0 ρ1 F1 w1 u v:=fun u v hu hr=>by
  have:=R0.bn (xs:=[]) (m:=fx) (ρ':=ρ1) (F':=F1) (w':=w1) (fun i hi _=>hρ i hi) (fun k hk=>h1.base k hk) hFw hu hr
  rwa [show bn [] u=u by cases u<;>rfl] at this
 have h3:∀(u:V) (v:Value),u.aO (fresh fx)=true->R3 ρ F w u v->R3 ρ1 F1 w1 u v:=fun u v hu hr=>by
  have:=R3.map (k:=fun u=>u) hk0 hu hr
  rwa [rJ] at this
 exact
  {
   size:=h.size,defers:=h.defers.mono h1.base hFw,ch:=h1.ch,sep:=h1.sep,out:=h1.out,aJ:=h1.aJ,lt:=h1.lt,env:=h1.env
   slot:=fun t v hv=>by
    obtain⟨x,hx,hr⟩:=h.slot t v hv
    refine⟨x,hx,?_⟩
    have hf:=hL t v hv
    by_cases hg:∃p y,v=.g p y
    ·obtain⟨p,y,rfl⟩:=hg
     exact⟨fun hp=>h3 _ _ hf (hr.1 hp),hr.2⟩
    ·have h0:R3 ρ F w v x:=by cases v<;>first | exact hr | exact (hg ⟨_,_,rfl⟩).elim
     have hf':v.aO (fresh fx)=true:=by cases v<;>first | exact hf | exact (hg ⟨_,_,rfl⟩).elim
     exact gV (h3 _ _ hf' h0)
   aP:=fun t v hv=>DR (fun u hu=>bM hm hu) (hL t v hv)
   mine:=fun i c b hi e=>by
    rcases h1.mine i c b hi e with h5 | h5
    ·exact .inl (Nat.le_trans h.keep.size h5)
    ·exact hE b h5
   sub:=fun k hk=>by
    rcases h1.sub k hk with h5 | h5 | h5
    ·exact h.sub k h5
    ·exact .inr (.inl (Nat.le_trans h.keep.size h5))
    ·exact .inr (hE k h5)
   base:=fun k hk=>h1.base k (h.base k hk)
   bU:=⟨Nat.le_trans hfx hm,fun i hi=>by rw[hρ i (Nat.lt_of_lt_of_le hi hfx)];exact h.bU.2 i hi⟩
   keep:=⟨h1.keep.os.trans h.keep.os,h1.keep.tape.trans h.keep.tape,h1.keep.output.trans h.keep.output,Nat.le_trans h.keep.size h1.keep.size,fun k hk hne=>by
    refine (h1.keep.block k (Nat.lt_of_lt_of_le hk h.keep.size) fun hb=>?_).trans (h.keep.block k hk hne)
    rcases hE k hb with h5 | h5
    ·omega
    ·exact hne h5⟩}
theorem zk {l:Nat} {r:Loop} {o:Obj} (hl:w.heap[l]?=some (.loop r)) (k:Nat) (f:Nat) (v:Value) (hc:w.cell? ⟨k,f,none⟩=some v):(w.putObj l o).cell? ⟨k,f,none⟩=some v:=by
 by_cases e:k=l
 ·subst e
  unfold World.cell? at hc
  rw[hl] at hc
  simp at hc
 ·rw[←hc];exact World.cell?_of_block (w:=w) (World.putObj_heap_other e)
theorem KW {l:Nat} {r:Loop} {o:Obj} (hl:w.heap[l]?=some (.loop r)) (k:Nat) {arr:Array MapEntry} {clock:Nat} (hc:w.heap[k]?=some (.map arr clock)):(w.putObj l o).heap[k]?=some (.map arr clock):=by
 by_cases e:k=l
 ·subst e;rw[hl] at hc;cases hc
 ·rw[World.putObj_heap_other e];exact hc
theorem aD.Jh (h:aD C s a w ρ F) {l:Nat} {r:Loop} (hl:w.heap[l]?=some (.loop r)) (hlo:C.w0.heap.size≤l) (o:Obj):aD C s a (w.putObj l o) ρ F:=by
 have hw:xu F w (w.putObj l o):=⟨fun k f v _ hc=>zk hl k f v hc,fun k arr clock _ hc=>by
  by_cases e:k=l
  ·subst e;rw[hl] at hc;cases hc
  ·rw[World.putObj_heap_other e];exact hc⟩
 have hb:∀i c,(i,c)∈s.H->∀b,bks ρ i c b->(w.putObj l o).heap[b]?=w.heap[b]?:=fun i c hi b e=>World.putObj_heap_other fun e2=>by
  subst e2
  obtain⟨o',h1,h2⟩:=(h.ch i c hi).obj e
  rw[hl] at h1
  obtain rfl:=adl h1
  cases h2
 exact
  {
   size:=h.size,sep:=h.sep,out:=h.out,aP:=h.aP,aJ:=h.aJ,mine:=h.mine,sub:=h.sub,base:=h.base,bU:=h.bU
   slot:=fun t v hv=>let ⟨x,hx,hr⟩:=h.slot t v hv;⟨x,hx,RS.mono' hw hr⟩
   ch:=fun i c hi=>iG.mono' hw (hb i c hi) (h.ch i c hi)
   lt:=fun k hk=>by rw[World.putObj_size];exact h.lt k hk
   env:=fun g n f hm=>⟨(h.env g n f hm).1,fun j hj=>hw.1 _ _ _ (h.env g n f hm).1 ((h.env g n f hm).2.1 j hj),fun h0=>let ⟨m,hm'⟩:=(h.env g n f hm).2.2 h0;⟨m,hw.1 _ _ _ (h.env g n f hm).1 hm'⟩⟩
   keep:=⟨h.keep.os,h.keep.tape,h.keep.output,by rw[World.putObj_size];exact h.keep.size,fun k hk he=>(World.putObj_heap_other (by omega)).trans (h.keep.block k hk he)⟩
   defers:=by
    obtain⟨ms,m1,m2,m3,m4⟩:=h.defers
    refine⟨ms,m1,m2,m3,fun D hD=>?_⟩
    obtain⟨k1,k2,k3⟩:=m4 D hD
    refine⟨k1,k2,(World.putObj_heap_other fun e=>?_).trans k3⟩
    subst e
    rw[hl] at k3
    cases k3}
theorem aD.addF (h:aD C s a w ρ F) {D:Nat} (hD:D<w.heap.size) (hlo:C.w0.heap.size≤D) (hn:∀i c,(i,c)∈s.H->¬bks ρ i c D):aD C s a w ρ (fun k=>F k∨k=D):=by
 refine h.change (fun u=>u) (fun u v hu hr=>hr.keep (x:=s.m) (fun _ _=>rfl) (fun _=>.inl) (fun _ _=>rfl) (iH (Nat.le_refl _) hu)) (fun t v hv=>⟨⟨v,hv,(pE v).symm⟩,h.aP t v hv⟩) (fun i c hc=>?_) (fun _=>.inl) (fun _ _=>rfl) (fun k hk=>?_) h.keep (Nat.le_refl _) (fun k hk=>?_) h.bU.2
 ·refine⟨⟨c,hc,(jf c).symm⟩,(h.aJ i c hc).2,rfl,fun b e=>⟨rfl,?_⟩⟩
  rintro (e2 | rfl)
  ·exact h.out i c b hc e e2
  ·exact hn i c hc e
 ·rcases hk with hk | rfl
  ·exact h.lt k hk
  ·exact hD
 ·rcases hk with hk | rfl
  ·exact h.sub k hk
  ·exact .inr (.inl hlo)
theorem aD.shrink {L:List (Nat×V)} {H1 H':List (Nat×Ch)} {m m1:Nat} (h:aD C ⟨L,H1,m1⟩ a w ρ F) (hH:HLE H1 H') (hok:okH m H'=true) (hL:∀t v,(t,v)∈L->v.qd (fresh m)=true) (hm:C.fix≤m):aD C ⟨L,H',m⟩ a w ρ F:=
 {
  size:=h.size,defers:=h.defers,slot:=h.slot,aP:=hL,lt:=h.lt,sub:=h.sub,base:=h.base,bU:=⟨hm,h.bU.2⟩,keep:=h.keep,env:=h.env
  ch:=fun i c hc=>by
   obtain⟨u,hu,he⟩:=gY hH hc
   exact iK he (h.ch i u hu)
  sep:=fun i j ci cj b hi hj hij e=>by
   obtain⟨u,hu,he⟩:=gY hH hi
   obtain⟨u2,hu2,he2⟩:=gY hH hj
   exact fun e2=>h.sep i j u u2 b hu hu2 hij (iP he e) (iP he2 e2)
  out:=fun i c b hi e=>by
   obtain⟨u,hu,he⟩:=gY hH hi
   exact h.out i u b hu (iP he e)
  aJ:=fun i c hi=>Dm hok hi
  mine:=fun i c b hi e=>by
   obtain⟨u,hu,he⟩:=gY hH hi
   exact h.mine i u b hu (iP he e)}
def Its (P:Pg) (f:FuncId) (caps:List V) (H:List Ch) (xs:List (List V)):Prop:=
 iA P.P f∧aL caps H H.length=true∧(∀x∈xs,x.all (V.aO (fresh 0))=true)∧
 ∀(w:World) (F:Nat->Prop) (ρ:Nat->Value) (cs:List Value),(∀k,F k->k<w.heap.size)->je P.env F w->Holds ρ F w H->aF (R3 ρ F w) caps cs->
  ∀(l:Nat) (J Jx:Nat->World->Prop),
   (∀k W W',J k W->Mod none W W'->J k W')->(∀k W,J k W->(∃F',je P.env F' W∧(∀k,F' k->k<W.heap.size))∧∀b,F b->W.heap[b]?=w.heap[b]?)->J 0 w->
   (∀k x W1 vals,xs[k]?=some x->J k W1->aF (R3 ρ F W1) x vals->YieldAt Fence.wide 7 P.P l vals.toArray W1 fun e W'=>(e=.returned (.bool true)∧J (k+1) W')∨(e=.returned (.bool false)∧Jx k W'))->
   CallsIn Fence.wide 8 P.P f (#[.func (.yield l) #[] #[]]++cs.toArray) w fun e W'=>(∃v,e=.returned v)∧(J xs.length W'∨∃k,k<xs.length∧Jx k W')
def nZ (p:Prop) (J:List (Nat×Ch)) (X:Code->List (Nat×Ch)->Prop):Exit->St->Prop
 | .normal,s=>p∧HLE s.H J
 | .ret,s=>∃H,X .ret H∧HLE s.H H
 | .exit id,s=>∃H,X (.exit id) H∧HLE s.H H
 | .goto l,s=>∃H,X (.goto l) H∧HLE s.H H
 | _,_=>False
theorem nZ.Vp {p:Prop} {J:List (Nat×Ch)} {X:Code->List (Nat×Ch)->Prop}:Qc (nZ p J X):=fun _ h=>h
theorem nZ.bT {p:Prop} {J:List (Nat×Ch)} {X:Code->List (Nat×Ch)->Prop}:NoPanic (nZ p J X):=fun _ _ h=>h
def KX (L:List (Nat×V)):List Nat->List V->List (Nat×V)
 | p::ps,v::vs=>KX (put L p v) ps vs
 | _,_=>L
theorem KY {m:Nat} {H:List (Nat×Ch)}:∀(ps:List Nat) (x:List V) (vals:List Value) (L:List (Nat×V)) (a:Act),aD C ⟨L,H,m⟩ a w ρ F->ps.all (fun p=>Nat.blt p C.n)=true->x.length=ps.length->aF (R3 ρ F w) x vals->x.all (V.aO (fresh 0))=true->
  aD C ⟨KX L ps x,H,m⟩ {a with tmps:=(ps.zip vals).foldl (fun t q=>t.setIfInBounds q.1 q.2) a.tmps} w ρ F
 | [],[],[],L,a,h,_,_,_,_=>h
 | p::ps,v::x,y::vals,L,a,h,hp,hl,hr,hf=>by
  simp only[List.all_cons,adg] at hp hf
  have h1:=h.put (d:=p) (v:=v) (x:=y) (by simpa using hp.1) hr.1 (iy (fun u hu=>bM (Nat.zero_le _) hu) hf.1)
  exact KY ps x vals _ _ h1 hp.2 (by simpa using hl) hr.2 hf.2
 | [],_::_,_,_,_,_,_,hl,_,_=>by simp at hl
 | _::_,[],_,_,_,_,_,hl,_,_=>by simp at hl
 | [],[],_::_,_,_,_,_,_,hr,_=>hr.elim
 | _::_,_::_,[],_,_,_,_,_,hr,_=>hr.elim
end
theorem zm {P:Program} {f:FuncId} (hcall:iA P f) (args:Array Value) (w:World):(callFunc f args).run P w=.ok (.enter f args) w:=by
 obtain⟨fn,h1,h2,h3⟩:=hcall
 have hb:fn.body.isNone=false:=by cases hh:fn.body<;>simp_all
 simp only[callFunc,program,Sem.run_bind,Sem.run_pure,Result.andThen]
 simp [Sem.run,h1,h3,hb]
section
variable {C:Ctx} {s:St} {K:List Item} {Φ:Exit->St->Prop} {g:Cfg}
theorem Go.range {fx:Nat} (RX:fx=s.m∨(Nat.ble C.fix fx&&Nat.ble fx s.m&&s.L.all fun q=>q.2.qd (fresh fx))=true) (hrd:C.rd=none) (hmk:C.mks=true∧C.lo≤C.w0.heap.size) {gop:Operand} {ps:List Tmp} {assign body:Code} {f:FuncId} {caps A:List V} {H:List Ch} {xs:List (List V)} (is:List Nat)
  (hev:ev s.L [] gop=some (.fn f A)) (hseq:Its C.pg f caps H xs) (hA:AEq A (caps.map (V.cu (bZ is)))) (hok:(nodupB is&&Nat.beq is.length H.length&&ps.all fun p=>Nat.blt p C.n)=true) (hH:HLE s.H (rnH is is H))
  (hps:∀x∈xs,x.length=ps.length) (P:Nat->Prop) (J:Nat->List (Nat×Ch)) (X:Nat->Code->List (Nat×Ch)->Prop)
  (hJ:∀k,okH s.m (J k)=true) (hX:∀k c H',X k c H'->okH s.m H'=true) (hP:P 0) (h0:HLE s.H (J 0))
  (hb:∀k x l,xs[k]?=some x->P k->∀C1:Ctx,C1.pg=C.pg->C1.n=C.n->C1.fix=fx->C1.rd=some l->Go C1 [.code assign] ⟨KX s.L ps x,J k,s.m⟩ fun e s1=>e=.normal∧
   ∀C2:Ctx,C2.pg=C.pg->C2.n=C.n->C2.fix=fx->C2.rd=some l->Go C2 [.code body] s1 (nZ (P (k+1)) (J (k+1)) (X k)))
  (k1:P xs.length->Go C K ⟨s.L,J xs.length,s.m⟩ Φ) (k2:∀k c H',k<xs.length->P k->X k c H'->Go C (.code c::K) ⟨s.L,H',s.m⟩ Φ):Go C (.code (.rangeFunc gop ps.toArray assign body)::K) s Φ:=by
 rintro a w ⟨ρ,F,hs⟩
 obtain⟨hcall,hfr,hfx,hseq⟩:=hseq
 simp only[adg] at hok
 obtain⟨⟨o1,o2⟩,o3⟩:=hok
 have o2:=ado o2
 have hm0:C.fix≤s.m:=hs.bU.1
 obtain⟨hx1,hx2,hx3⟩:C.fix≤fx∧fx≤s.m∧∀t v,(t,v)∈s.L->v.qd (fresh fx)=true:=by
  rcases RX with rfl | RX
  ·exact⟨hm0,Nat.le_refl _,hs.aP⟩
  ·simp only[adg,List.all_eq_true] at RX
   exact⟨Nat.le_of_ble_eq_true RX.1.1,Nat.le_of_ble_eq_true RX.1.2,fun t v hv=>RX.2 (t,v) hv⟩
 rw[gF,hrd]
 show Code.wpIn (fr none) 9 C.P _ _ a w
 rw[Xg]
 refine wpIn_rangeFunc fun fn hfn=>?_
 obtain⟨rec,hrec⟩:∃rec:LoopState->Option Code->Loop,rec=fun st pe=>{state:=st,pending:=pe,fn,tmps:=a.tmps,params:=ps.toArray,assign,body,defers:=w.heap.size}:=⟨_,rfl⟩
 obtain⟨D,hDw⟩:∃D,D=w.heap.size:=⟨_,rfl⟩
 obtain⟨l,hlw⟩:∃l,l=w.heap.size+1:=⟨_,rfl⟩
 obtain⟨W1,hW1⟩:∃W1,(w.alloc (.deferred (some []))).alloc (.loop (rec .ready none))=W1:=⟨_,rfl⟩
 have hL1:W1.heap[l]?=some (.loop (rec .ready none)):=by
  rw[←hW1,hlw];have:=World.alloc_heap_new (w.alloc (.deferred (some []))) (.loop (rec .ready none));rwa [World.size_alloc] at this
 have hK1:W1.heap[D]?=some (.deferred (some [])):=by
  rw[←hW1,hDw];exact ((Mod.alloc _ _).block _ (by simp) (by simp)).trans (World.alloc_heap_new w _)
 have hM:Mod none w W1:=by rw[←hW1];exact (Mod.alloc w _).trans (Mod.alloc _ _)
 have hsz:W1.heap.size=w.heap.size+2:=by rw[←hW1];simp
 have hDl:D≠l:=by omega
 have hlo:C.w0.heap.size≤D:=by rw[hDw];exact hs.keep.size
 have ZP:C.w0.heap.size≤l:=by omega
 have hs1:aD C s a W1 ρ (fun k=>F k∨k=D):=(hs.mod hM).addF (by omega) hlo fun i c hi e=>by
  obtain⟨o',h1,h2⟩:=((hs.mod hM).ch i c hi).obj e
  rw[hK1] at h1
  obtain rfl:=adl h1
  cases h2
 obtain⟨F1,hF1⟩:∃F1:Nat->Prop,F1=fun k=>F k∨k=D:=⟨_,rfl⟩
 rw[←hF1] at hs1
 have hev1:=(aA hs1 (bY _) hev).1
 obtain⟨cs,hcs,uH⟩:=(show R1 ρ F1 W1 (.fn f A) _ from hev1)
 have hold:=holds_of hs1 hfr o2 o1 hH
 have ZQ:aF (R3 ρ F1 W1) A cs:=uH.mono fun u v hr=>jI (iZ (qC hr))
 have hfr2:=hfr
 simp only[aL,adg,List.all_eq_true] at hfr2
 have ZR:aF (R3 (fun i=>ρ (nth is i)) F1 W1) caps cs:=(kH hA ZQ).unmap fun u v hu hr=>R3.dJ (k:=H.length) (fun _ _=>rfl) (hfr2.1 u hu) hr
 have hFlt:∀b,F1 b->b<W1.heap.size:=hs1.lt
 refine⟨l,[rF D],W1,{target:=.fn (.func f) cs.toArray,args:=#[.func (.yield l) #[] #[]]},W1,f,#[.func (.yield l) #[] #[]]++cs.toArray,W1,?_,?_,fun _ _=>trivial,?_,fun h=>(by cases h),?_⟩
 ·rw[←hW1,hrec,hDw,hlw];exact run_enterLoop_outer _ _ _ _ _
 ·simp only[resolve,hcs]
  simp [go_sem]
 ·simp [invoke,go_sem,zm hcall]
 refine (hseq W1 F1 (fun i=>ρ (nth is i)) cs hFlt hs1.env hold ZR l
  (fun k W=>P k∧∃ρ' F',aD C ⟨s.L,J k,s.m⟩ a W ρ' F'∧(∀b,F1 b->F' b∧W.heap[b]?=W1.heap[b]?)∧W.heap[l]?=some (.loop (rec .ready none)))
  (fun k W=>∃c H' ρ' F',(P k∧X k c H')∧aD C ⟨s.L,H',s.m⟩ a W ρ' F'∧(∀b,F1 b->F' b∧W.heap[b]?=W1.heap[b]?)∧W.heap[l]?=some (.loop (rec .done (some c))))
  ?_ ?_ ?_ ?_).mono ?_
 ·rintro k W W' ⟨hPk,ρ',F',h1,h2,h3⟩ hm
  refine⟨hPk,ρ',F',h1.mod hm,fun b hb=>⟨(h2 b hb).1,(hm.block b (h1.lt b (h2 b hb).1) (by simp)).trans (h2 b hb).2⟩,(hm.block l (Array.getElem?_eq_some_iff.1 h3).1 (by simp)).trans h3⟩
 ·rintro k W ⟨hPk,ρ',F',h1,h2,h3⟩
  exact⟨⟨F',h1.env,h1.lt⟩,fun b hb=>(h2 b hb).2⟩
 ·exact⟨hP,ρ,F1,aD.shrink (L:=s.L) (H1:=s.H) (m1:=s.m) hs1 h0 (hJ 0) hs1.aP hm0,fun b hb=>⟨hb,rfl⟩,hL1⟩
 ·
  rintro k x W vals hx ⟨hPk,ρ',F',h1,h2,h3⟩ xw
  have hxm:x∈xs:=List.mem_of_getElem? hx
  have hxl:=hps x hxm
  have hlt:l<W.heap.size:=(Array.getElem?_eq_some_iff.1 h3).1
  have hvl:=xw.length
  have hy:=run_yield (P:=C.P) (args:=vals.toArray) h3 (by rw[hrec];simp;omega)
  rw[hrec] at hy
  have abr:=hfx x hxm
  have ZT:aF (R3 ρ' F' W) x vals:=by
   have:=xw.imp (g:=fun u=>u) (R':=R3 ρ' F' W) (fun u v hu hr=>by
    have:=R3.map (p:=fresh 0) (k:=fun u=>u) (ρ':=ρ') (F':=F') (w':=W) (fun u v hu hr=>by
     have:=R0.bn (xs:=[]) (m:=0) (ρ':=ρ') (F':=F') (w':=W) (fun i hi _=>absurd hi (adp _)) (fun b hb=>(h2 b hb).1) (fun _ _=>rfl) hu hr
     rwa [show bn [] u=u by cases u<;>rfl] at this) (by simpa using List.all_eq_true.1 abr u hu) hr
    rwa [rJ] at this)
   rwa [List.map_id'] at this
  have ha:aD C ⟨KX s.L ps x,J k,s.m⟩ {a with tmps:=(ps.zip vals).foldl (fun t q=>t.setIfInBounds q.1 q.2) a.tmps} W ρ' F':=KY ps x vals s.L a h1 o3 hxl ZT abr
  have hA1:=h1.Vn l (fx:=fx) hx2 (L':=KX s.L ps x) (a':={tmps:=(ps.zip vals).foldl (fun t q=>t.setIfInBounds q.1 q.2) a.tmps,defers:=[]}) ha.size rfl ha.slot ha.aP
  have hgo:=hb k x l hx hPk (C.inR l fx ⟨s.L,J k,s.m⟩ W ρ' F') rfl rfl rfl rfl _ W ⟨ρ',F',hA1⟩
  have hzip:(ps.toArray.zip vals.toArray).foldl (fun tmps (q:Tmp×Value)=>tmps.setIfInBounds q.1 q.2) a.tmps=(ps.zip vals).foldl (fun t q=>t.setIfInBounds q.1 q.2) a.tmps:=by simp [List.zip_toArray]
  refine⟨fn,_,assign,body,hy,QX (n:=9) (roundIn_of_wpIn hfn ?_)⟩
  have hgo:Code.wpIn (Fence.wide.inRound l) 9 C.P assign (den _ _ []) _ W:=hgo
  refine wpIn_mono (by rw[hzip];exact hgo) ?_
  rintro e a1 w1 ⟨s1,⟨ρ1,F1',hs2⟩,rfl,hb2⟩
  have hlE:∀{ρ0:Nat->Value} {F0:Nat->Prop} {w0:World} {s0:St} {r:Loop},aD C s0 a w0 ρ0 F0->w0.heap[l]?=some (.loop r)->¬wo ρ0 s0.H l:=fun h hl ⟨i,c,hi,e⟩=>by
   obtain⟨o',k1,k2⟩:=(h.ch i c hi).obj e
   rw[hl] at k1
   obtain rfl:=adl k1
   cases k2
  have h3':w1.heap[l]?=some (.loop (rec .ready none)):=(hs2.keep.block l hlt (hlE h1 h3)).trans h3
  have q1:=h1.Vo hx1 hx3 hs2
  have XI:∀b,F1 b->F1' b∧w1.heap[b]?=W1.heap[b]?:=fun b hb=>⟨hs2.base b (h2 b hb).1,(hs2.keep.block b (h1.lt b (h2 b hb).1) fun ⟨i,c,hi,e⟩=>h1.out i c b hi e (h2 b hb).1).trans (h2 b hb).2⟩
  refine⟨_,run_beginRound h3' (by rw[hrec]),?_⟩
  have hlt1:l<w1.heap.size:=(Array.getElem?_eq_some_iff.1 h3').1
  have q2:=q1.Jh h3' ZP (.loop {rec .ready none with state:=.busy})
  have hcell:=zk (o:=.loop {rec .ready none with state:=.busy}) h3'
  have hB1:=q2.Vn l (fx:=fx) hs2.bU.1 (L':=s1.L) (a':=a1) hs2.size (hs2.defers.none rfl) (fun t v hv=>let ⟨x,hx,hr⟩:=hs2.slot t v hv;⟨x,hx,RS.mono' ⟨fun k o v _ hc=>hcell k o v hc,fun k arr clock _ hc=>KW h3' k hc⟩ hr⟩) hs2.aP
  have ZU:=hb2 (C.inR l fx ⟨s.L,s1.H,s1.m⟩ (w1.putObj l (.loop {rec .ready none with state:=.busy})) ρ1 F1') rfl rfl rfl rfl a1 _ ⟨ρ1,F1',hB1⟩
  have ZU:Code.wpIn (Fence.wide.inRound l) 9 C.P body (den _ _ []) _ _:=ZU
  refine wpIn_mono ZU ?_
  rintro e a2 w2 ⟨s2,⟨ρ2,F2,hs3⟩,hR⟩
  have hl4:(w1.putObj l (.loop {rec .ready none with state:=.busy})).heap[l]?=some (.loop {rec .ready none with state:=.busy}):=World.putObj_heap_same hlt1
  have h4:w2.heap[l]?=some (.loop {rec .ready none with state:=.busy}):=(hs3.keep.block l (by show l<(w1.putObj l _).heap.size;rw[World.putObj_size];exact hlt1) (hlE q2 hl4)).trans hl4
  have q3:=q2.Vo hx1 hx3 hs3
  have hlF:∀b,F1 b->b≠l:=fun b hb e=>by
   have e1:=(h2 b hb).2
   rw[hF1] at hb
   rcases hb with hb | hb
   ·have:=hs.lt b hb;omega
   ·omega
  have hF2:∀b,F1 b->F2 b∧w2.heap[b]?=W1.heap[b]?:=fun b hb=>⟨hs3.base b (XI b hb).1,(hs3.keep.block b (q2.lt b (XI b hb).1) fun ⟨i,c,hi,e⟩=>q2.out i c b hi e (XI b hb).1).trans ((World.putObj_heap_other (hlF b hb)).trans (XI b hb).2)⟩
  have fin:∀(jump:Option Code) (H':List (Nat×Ch)),HLE s2.H H'->okH s.m H'=true->
    (Instr.endRound l jump).run C.P w2=.ok (.bool jump.isNone) (w2.putObj l (.loop (rec (if jump.isNone then .ready else .done) jump)))∧
    aD C ⟨s.L,H',s.m⟩ a (w2.putObj l (.loop (rec (if jump.isNone then .ready else .done) jump))) ρ2 F2∧
    (∀b,F1 b->F2 b∧(w2.putObj l (.loop (rec (if jump.isNone then .ready else .done) jump))).heap[b]?=W1.heap[b]?)∧
    (w2.putObj l (.loop (rec (if jump.isNone then .ready else .done) jump))).heap[l]?=some (.loop (rec (if jump.isNone then .ready else .done) jump)):=fun jump H' hle hok'=>by
   refine⟨?_,?_,fun b hb=>⟨(hF2 b hb).1,(World.putObj_heap_other (hlF b hb)).trans (hF2 b hb).2⟩,World.putObj_heap_same (Array.getElem?_eq_some_iff.1 h4).1⟩
   ·have:=run_endRound (P:=C.P) jump h4
    rw[hrec] at this ⊢
    exact this
   ·exact (aD.shrink (L:=s.L) (H1:=s2.H) (m1:=s2.m) q3 hle hok' hs.aP hm0).Jh h4 ZP _
  have leave:∀c,(∃H,X k c H∧HLE s2.H H)->∃v w',(Instr.endRound l (some c)).run C.P w2=.ok v w'∧((Ending.returned v=.returned (.bool true)∧P (k+1)∧∃ρ' F',aD C ⟨s.L,J (k+1),s.m⟩ a w' ρ' F'∧(∀b,F1 b->F' b∧w'.heap[b]?=W1.heap[b]?)∧w'.heap[l]?=some (.loop (rec .ready none)))∨
    (Ending.returned v=.returned (.bool false)∧∃c H' ρ' F',(P k∧X k c H')∧aD C ⟨s.L,H',s.m⟩ a w' ρ' F'∧(∀b,F1 b->F' b∧w'.heap[b]?=W1.heap[b]?)∧w'.heap[l]?=some (.loop (rec .done (some c))))):=fun c hc=>by
   obtain⟨H',hXc,hc⟩:=hc
   obtain⟨r1,r2,r3,r4⟩:=fin (some c) H' hc (hX k c H' hXc)
   exact⟨_,_,r1, .inr ⟨rfl,c,H',ρ2,F2,⟨hPk,hXc⟩,r2,r3,r4⟩⟩
  cases e with
  | normal=>
   obtain⟨r1,r2,r3,r4⟩:=fin none (J (k+1)) hR.2 (hJ _)
   exact⟨_,_,r1, .inl ⟨rfl,hR.1,ρ2,F2,r2,r3,r4⟩⟩
  | ret=>exact leave .ret hR
  | exit id=>exact leave (.exit id) hR
  | goto t=>exact leave (.goto t) hR
  | panic ch=>exact hR.elim
  | outgrown=>exact hR.elim
 ·
  have fin:∀{W:World} {ρ':Nat->Value} {F':Nat->Prop} {H':List (Nat×Ch)} {r:Loop} (o:Obj),aD C ⟨s.L,H',s.m⟩ a W ρ' F'->(∀b,F1 b->F' b∧W.heap[b]?=W1.heap[b]?)->W.heap[l]?=some (.loop r)->
    Sat C ⟨s.L,H',s.m⟩ {a with defers:=rF D::a.defers} (W.putObj l o):=fun {W ρ' F' H' r} o h1 h2 h3=>by
   have q:=h1.Jh h3 ZP o
   have hFD:F1 D:=by rw[hF1];exact .inr rfl
   obtain⟨d1,d2⟩:=h2 D hFD
   refine⟨ρ',F',{size:=q.size,slot:=q.slot,ch:=q.ch,sep:=q.sep,out:=q.out,aP:=q.aP,aJ:=q.aJ,lt:=q.lt,mine:=q.mine,sub:=q.sub,base:=q.base,bU:=q.bU,keep:=q.keep,env:=q.env,defers:=?_}⟩
   obtain⟨ms,m1,m2,m3,m4⟩:=q.defers
   obtain⟨ms0,m10,_,_,m40⟩:=hs.defers
   have hms:ms=ms0:=by
    have e:ms.map rF++C.defs=ms0.map rF++C.defs:=m1.symm.trans m10
    have:=List.append_cancel_right e
    exact (List.map_inj_right fun a b e=>by simp [rF] at e;exact e).1 this
   subst hms
   refine⟨D::ms,by rw[m1];rfl,List.nodup_cons.2 ⟨fun hm=>?_,m2⟩,fun e=>(by rw[hmk.1] at e;cases e),fun k hk=>?_⟩
   ·have:=hs.lt D (m40 D hm).2.1;omega
   ·rcases List.mem_cons.1 hk with rfl | hk
    ·exact⟨Nat.le_trans hmk.2 hlo,d1,(World.putObj_heap_other hDl).trans (d2.trans hK1)⟩
    ·exact m4 k hk
  rintro e W ⟨⟨v,rfl⟩,⟨hPk,ρ',F',h1,h2,h3⟩ | ⟨k,hk,c,H',ρ',F',⟨hPk,hXc⟩,h1,h2,h3⟩⟩
  ·have hend:=run_endLoop (P:=C.P) h3 (by rw[hrec];simp)
   exact⟨none,W.putObj l (.loop {rec .ready none with state:=.exhausted}),by rw[hend,hrec],k1 hPk _ _ (fin (.loop {rec .ready none with state:=.exhausted}) h1 h2 h3)⟩
  ·have hend:=run_endLoop (P:=C.P) h3 (by rw[hrec];simp)
   refine⟨some c,W.putObj l (.loop {rec .done (some c) with state:=.exhausted}),by rw[hend,hrec],?_⟩
   have:=k2 k c H' hk hPk hXc _ _ (fin (.loop {rec .done (some c) with state:=.exhausted}) h1 h2 h3)
   rw[gF,hrd] at this
   exact this
end
theorem aI.mkR {P:Pg} (g:Cfg) (wQ:bP P.P g.tys) (ids:List Nat) {f:FuncId} {fn:Func} {c:Code} {args:List V} {H:List Ch} {r:V} {H':List Ch} {rs:List ResultVar} (hf:P.P.funcs[f]?=some fn) (hb:fn.body=some c) (hname:(fn.name == "runtime.NumGoroutine")=false)
  (hn:g.n=fn.ntmps) (hrs:fn.results=rs.toArray) (hok:(Nat.ble args.length g.n&&aL args H H.length&&aL [r] H' H'.length&&Nat.ble g.fix H.length&&Nat.ble H.length H'.length)=true)
  (hgo:∀(C:Ctx),Cx P g C->(C.mks=true∧C.lo≤C.w0.heap.size)->Go C [.code c] ⟨ixL args,ixH H,NT H⟩ (Ret g rs ids r H')):aI P f g.fix args H r H':=by
 simp only[adg] at hok
 obtain⟨⟨⟨⟨h1,h2⟩,h3⟩,h4⟩,h5⟩:=hok
 exact aI.intro hf hb hname wQ hn hrs h1 h2 h3 h4 h5 ids fun C e1 e2 e3 _ e5 e6=>by rw[←Ef,←Eh,←y8];exact hgo C ⟨⟨e1,e2,e3,wQ⟩,e5⟩ e6
theorem Cx.ZV {P:Pg} {g:Cfg} {C:Ctx} (x:Cx P g C) (fx:Nat) (hmk:C.mks=true∧C.lo≤C.w0.heap.size) {s s':St} {K K':List Item} {Φ:Exit->St->Prop} {ob:List Prop} {gop:Operand} {ps:List Tmp} {assign body:Code} {f:FuncId} {caps A:List V} {H:List Ch} {xs:List (List V)} (is:List Nat) (Pr:Nat->Prop) (J:Nat->List (Nat×Ch)) (X:Nat->Code->List (Nat×Ch)->Prop)
  (h:run g 1000 K s []=.code ob (.rangeFunc gop ps.toArray assign body) K' s') (hfx:fx=s'.m∨(Nat.ble g.fix fx&&Nat.ble fx s'.m&&s'.L.all fun q=>q.2.qd (fresh fx))=true) (ho:aj ob)
  (hev:ev s'.L [] gop=some (.fn f A)) (hseq:Its P f caps H xs) (hA:AEq A (caps.map (V.cu (bZ is)))) (hok:(nodupB is&&Nat.beq is.length H.length&&ps.all fun p=>Nat.blt p g.n)=true) (hH:HLE s'.H (rnH is is H))
  (hps:∀x∈xs,x.length=ps.length) (hJ:∀k,okH s'.m (J k)=true) (hX:∀k c H',X k c H'->okH s'.m H'=true) (hP:Pr 0) (h0:HLE s'.H (J 0))
  (hb:∀k x,xs[k]?=some x->Pr k->∀C1:Ctx,Cr P {g with fix:=fx} C1->Go C1 [.code assign] ⟨KX s'.L ps x,J k,s'.m⟩ fun e s1=>e=.normal∧
   ∀C2:Ctx,Cr P {g with fix:=fx} C2->Go C2 [.code body] s1 (nZ (Pr (k+1)) (J (k+1)) (X k)))
  (k1:Pr xs.length->Go C K' ⟨s'.L,J xs.length,s'.m⟩ Φ) (k2:∀k c H',k<xs.length->Pr k->X k c H'->Go C (.code c::K') ⟨s'.L,H',s'.m⟩ Φ):Go C K s Φ:=by
 refine st x.ty x.n x.fix h ⟨ho,?_⟩
 refine Go.range (by rw[←x.fix];exact hfx) x.rd hmk is hev (x.prog▸hseq) hA (by rw[←x.n];exact hok) hH hps Pr J X hJ hX hP h0 (fun k y l hy hPk C1 e1 e2 e3 e4 a w hs=>?_) k1 k2
 refine rE (hb k y hy hPk C1 ⟨e1.trans x.prog,x.n.trans e2.symm,e3.symm,x.tys⟩ a w hs) ?_
 intro e a' w' hq
 have hq:den C1 (fE C1 _) [] e a' w':=hq
 obtain⟨s1,q1,q2,q3⟩:=hq
 exact⟨s1,q1,q2,fun C2 f1 f2 f3 f4=>q3 C2 ⟨f1.trans x.prog,x.n.trans f2.symm,f3.symm,x.tys⟩⟩
theorem Cx.range {P:Pg} {g:Cfg} {C:Ctx} (x:Cx P g C) (hmk:C.mks=true∧C.lo≤C.w0.heap.size) {s s':St} {K K':List Item} {Φ:Exit->St->Prop} {ob:List Prop} {gop:Operand} {ps:List Tmp} {assign body:Code} {f:FuncId} {caps A:List V} {H:List Ch} {xs:List (List V)} (is:List Nat) (Pr:Nat->Prop) (J:Nat->List (Nat×Ch)) (X:Nat->Code->List (Nat×Ch)->Prop)
  (h:run g 1000 K s []=.code ob (.rangeFunc gop ps.toArray assign body) K' s') (ho:aj ob)
  (hev:ev s'.L [] gop=some (.fn f A)) (hseq:Its P f caps H xs) (hA:AEq A (caps.map (V.cu (bZ is)))) (hok:(nodupB is&&Nat.beq is.length H.length&&ps.all fun p=>Nat.blt p g.n)=true) (hH:HLE s'.H (rnH is is H))
  (hps:∀x∈xs,x.length=ps.length) (hJ:∀k,okH s'.m (J k)=true) (hX:∀k c H',X k c H'->okH s'.m H'=true) (hP:Pr 0) (h0:HLE s'.H (J 0))
  (hb:∀k x,xs[k]?=some x->Pr k->∀C1:Ctx,Cr P {g with fix:=s'.m} C1->Go C1 [.code assign] ⟨KX s'.L ps x,J k,s'.m⟩ fun e s1=>e=.normal∧
   ∀C2:Ctx,Cr P {g with fix:=s'.m} C2->Go C2 [.code body] s1 (nZ (Pr (k+1)) (J (k+1)) (X k)))
  (k1:Pr xs.length->Go C K' ⟨s'.L,J xs.length,s'.m⟩ Φ) (k2:∀k c H',k<xs.length->Pr k->X k c H'->Go C (.code c::K') ⟨s'.L,H',s'.m⟩ Φ):Go C K s Φ:=by
 exact x.ZV s'.m hmk is Pr J X h (.inl rfl) ho hev hseq hA hok hH hps hJ hX hP h0 hb k1 k2
end Go.Sx
