import Derived.Test.YtojhdmfkfkfcbaaGreatDoorSxG
import Derived.Shelf.SlicesE.Clone
set_option linter.unusedSimpArgs false
set_option linter.unusedVariables false
namespace Go.Sx
def lend(H:List Ch):V->V
 | .own i=>match H[i]? with
  | some (.vec _ sz n f)=>.d (.sl sz n f)
  | _=>.own i
 | v=>v
def ace(H:List Ch):Bool:=H.all λc=>match c with | .vec ..=>true | _=>false
theorem zV{ρ:Nat->Value}{F F':Nat->Prop}{w:World}{e:TypeId}{sz n:Nat}{f:Nat->List D}{v:Value}{xs:List Value}(hFF:∀k,F k->F' k)(hb:∀b,blk v=some b->F' b)(hown:w.ownsRow 0 e sz v n xs)(hel:jo F w sz n f xs):RD F' w (.sl sz n f) v:=by
 have hown':=hown
 rcases hown.2 with⟨h1,h2⟩ | ⟨b,cap,cur,h1,_,h3,h4,h5,h6,h7⟩
 ·subst h2;rw[h1];exact .emp _ _ _ _
 ·rw[h1]
  refine .sl sz n f b 0 cap (λi j=>(xs[i*sz+j]?).getD undef) (hb b (by rw[h1];rfl)) h4 (λi j hi hj=>?_) (λi hi=>(hel i hi).1) (λi j d hi hd=>?_)
  ·have hl:=(hel i hi).1
   obtain⟨c,c1,c2⟩:=(hel i hi).2 j _ (afG (show j<(f i).length by omega))
   have:=hown'.cells (g:=b) (by rw[h1];rfl) _ _ c1
   rw[Addr.add_lit] at this
   rw[this,c1];rfl
  ·obtain⟨c,c1,c2⟩:=(hel i hi).2 j d hd
   rw[c1]
   exact RD.mono hFF (λ_ _=>rfl) c2
theorem Pure.borrow{P:Pg}{f:FuncId}{args args':List V}{r:V}{y:Value}(H:List Ch)(hp:Pure P f args' r [])(ha:args'=args.map (V.dx (lend H)))(hr:valOf r=some y)(hok:(aM args H H.length&&aM [r] H H.length&&ace H)=true):aD P f H.length args H r H:=by
 subst ha
 simp only[afF] at hok
 obtain⟨⟨h1,h2⟩,h3⟩:=hok
 obtain⟨hcall,hfr,xG,_,_,hc⟩:=hp
 refine⟨hcall,h1,h2,Nat.le_refl _,Nat.le_refl _,λw F ρ vals hF hE hH hargs=>?_⟩
 let F':Nat->Prop:=λk=>F k∨ownB ρ H k
 have hFF:∀k,F k->F' k:=λk hk=>.inl hk
 have hF':∀k,F' k->k<w.heap.size:=λk hk=>by
  rcases hk with hk | ⟨i,hi,e⟩
  ·exact hF k hk
  ·exact (hH.ch i _ (afG hi)).lt (aT e)
 have h1':=h1
 simp only[aM,afF,List.all_eq_true] at h1'
 have hargs':aH (R3 ρ F' w) (args.map (V.dx (lend H))) vals:=hargs.imp λu v hu hr=>R3.map (p:=fresh H.length) (λu v hf hr=>by
  cases u with
  | own i=>
   have hi:i<H.length:=by simpa [fresh] using hf
   have hm:=List.all_eq_true.1 h3 _ (List.getElem_mem hi)
   obtain⟨e1,e2⟩:=hr
   simp only[lend,afG hi]
   cases hc:H[i] with
   | vec e sz n f=>
    have:=hH.ch i _ (afG hi)
    rw[hc] at this
    obtain⟨xs,k1,k2⟩:=this
    subst e1
    exact zV (ρ:=ρ) hFF (λb hb=>.inr ⟨i,hi,hb⟩) k1 k2
   | _=>rw[hc] at hm;cases hm
  | _=>exact R0.world hFF (λ_ _=>rfl) hr) (h1'.1 u hu) hr
 refine (hc w F' ρ vals hF' (hE.mono hFF λ_ _=>rfl) ⟨λi c hi=>by simp at hi,λi j b hi=>absurd hi (afN _),λi b hi=>absurd hi (afN _)⟩ hargs').mono ?_
 rintro e w' ⟨v,ρ',F'',rfl,hk,_,_,_,_,hr3,_,_⟩
 obtain rfl:=qH hr hr3
 have hblk:∀k,k<w.heap.size->w'.heap[k]?=w.heap[k]?:=λk hk'=>hk.block k hk' λ⟨i,hi,_⟩=>absurd hi (afN _)
 refine⟨v,ρ,F,Z,⟨hk.os,hk.tape,hk.output,hk.size,λk hk' _=>hblk k hk'⟩,λ_ _=>rfl,λ_ hk=>hk,λk hk'=>Nat.lt_of_lt_of_le (hF k hk') hk.size,λ_ hk=>.inl hk,vI hr,⟨λi c hi=>?_,hH.sep,hH.out⟩,λi b hi e=>.inr ⟨i,hi,e⟩⟩
 have:=iV.keep (x:=0) (p:=λ_=>true) (k:=λu=>u) (ρ':=ρ) (F':=F) (w':=w') (λu v _ hr=>R0.world (λ_ hk=>hk) (λk hk=>hblk k (hF k hk)) hr) (λ_ hk=>hk) (λk hk=>hblk k (hF k hk)) Z (λb e=>hblk b ((hH.ch i c hi).lt e)) (by
  cases c<;>simp [Ch.all,all_true]) (hH.ch i c hi)
 rwa [kF] at this
theorem Pure.acf{P:Pg}{f:FuncId}{args:List V}{vals:List Value}{vs:Array Value}{d:D}(hc:iN P.P f)(hfr:aM args [] 0=true)(ha:IL args=some vals)(hvs:vs=vals.toArray)
  (h:∀(w:World) (F:Nat->Prop),jv P.env F w->Calls P.P f vs w λe w'=>∃v,e=.returned v∧Go.RowKit.Below w.heap.size w w'∧RD (λk=>w.heap.size≤k∧k<w'.heap.size) w' d v):Pure P f args (.d d) []:=by
 subst hvs
 refine⟨hc,hfr,Z,Nat.le_refl _,Nat.le_refl _,λw F ρ ys hF hE hH hargs=>?_⟩
 obtain rfl:=vL ha hargs
 refine (h w F hE).mono ?_
 rintro e w' ⟨v,rfl,hb,hr⟩
 obtain⟨b1,b2,b3,b4,b5⟩:=hb
 refine⟨v,ρ,λk=>F k∨(w.heap.size≤k∧k<w'.heap.size),Z,⟨b1,b2,b3,b4,λk hk _=>b5 k hk⟩,λ_ _=>rfl,λ_ hk=>.inl hk,λk hk=>?_,λk hk=>?_,RD.mono (λ_ hk=>.inr hk) (λ_ _=>rfl) hr,⟨λi c hi=>by simp at hi,λi j b hi=>absurd hi (afN _),λi b hi=>absurd hi (afN _)⟩,λi b hi=>absurd hi (afN _)⟩
 ·rcases hk with hk | hk
  ·exact Nat.lt_of_lt_of_le (hF k hk) b4
  ·exact hk.2
 ·rcases hk with hk | hk
  ·exact .inl hk
  ·exact .inr (.inl hk.1)
theorem Pure.args{P:Pg}{f:FuncId}{args args':List V}{r:V}{H':List Ch}(hp:Pure P f args r H')(hA:AEq args' args)(hfr:aM args' [] 0=true):Pure P f args' r H':=by
 obtain⟨hcall,_,xG,h1,h2,hc⟩:=hp
 exact⟨hcall,hfr,xG,h1,h2,λw F ρ vals hF hE hH hargs=>hc w F ρ vals hF hE hH (lC hA hargs)⟩
theorem Pure.froze{P:Pg}{f:FuncId}{args:List V}{e:TypeId}{sz n:Nat}{g:Nat->List D}(hp:Pure P f args (.own 0) [.vec e sz n g]):Pure P f args (.d (.sl sz n g)) []:=by
 obtain⟨hcall,hfr,xG,_,_,hc⟩:=hp
 refine⟨hcall,hfr,Z,Nat.le_refl _,Nat.le_refl _,λw F ρ vals hF hE hH hargs=>(hc w F ρ vals hF hE hH hargs).mono ?_⟩
 rintro e w' ⟨v,ρ',F',rfl,hk,hρ,hFF,hlt,hsub,hr,C8,La⟩
 obtain⟨xs,k1,k2⟩:=C8.ch 0 _ Z
 obtain⟨e1,e2⟩:=(show R0 ρ' F' w' (.own 0) v from hr)
 subst e1
 refine⟨ρ' 0,ρ',λk=>F' k∨blk (ρ' 0)=some k,Z,hk,hρ,λk hk=>.inl (hFF k hk),λk hk=>?_,λk hk=>?_,zV (ρ:=ρ') (λ_=>.inl) (λb hb=>.inr hb) k1 k2,⟨λi c hi=>by simp at hi,λi j b hi=>absurd hi (afN _),λi b hi=>absurd hi (afN _)⟩,λi b hi=>absurd hi (afN _)⟩
 ·rcases hk with hk | hk
  ·exact hlt k hk
  ·exact (C8.ch 0 _ Z).lt (aT hk)
 ·rcases hk with hk | hk
  ·exact hsub k hk
  ·exact .inr (La 0 k (by simp) hk)
theorem Cr.lU{P:Pg}{g:Cfg}{C:Ctx}(x:Cr P g C){s:St}{K:List Item}{Φ:Exit->St->Prop}(k:Go C K s λe s=>∃s2,LE g.fix s s2∧Φ e s2):Go C K s Φ:=
 Go.relax (λe s a w ⟨s2,h1,h2⟩ hs=>⟨s2,LE.sat (x.fix▸h1) hs,h2⟩) k
theorem acg{k:Key}{G:V->Bool->Prop}{z:V}:∀{es:List (Key×V)},G ((dN k es).getD z) (dN k es).isSome->oh k G z es
 | [],h=>h
 | (a,v)::r,h=>by
  unfold dN at h
  refine⟨λhk=>?_,λhk=>?_⟩
  ·rw[if_pos hk] at h;exact h
  ·rw[if_neg hk] at h;exact acg h
theorem ach{k:Key}{G:V->Bool->Prop}{z v:V}{es:List (Key×V)}(h:dN k es=some v)(g:G v true):oh k G z es:=acg (by rw[h];exact g)
theorem aci{k:Key}{G:V->Bool->Prop}{z:V}{es:List (Key×V)}(h:dN k es=none)(g:G z false):oh k G z es:=acg (by rw[h];exact g)
def Mg(H:List (Nat×Ch)):V->V
 | .own i=>match get H i with
  | some (.vec _ sz n f)=>.d (.sl sz n f)
  | _=>.own i
 | v=>v
section
variable{C:Ctx}{s:St}{a:Act}{w:World}{ρ:Nat->Value}{F:Nat->Prop}{g:Cfg}{K:List Item}{Φ:Exit->St->Prop}
theorem Mh(h:aG C s a w ρ F){q:List (Nat×Bool)}(hq:pcA a.tmps q){o:Oper}{f:FuncId}{A:List V}(hco:jC s.L q o=some (f,A)){args:List V}{r:V}{x:Value}
  (hp:Pure C.pg f args r []) (hx:valOf r=some x) (hA:AEq (A.map (V.dx (Mg s.H))) args) :
  ∃vals,(execOp a.eval o).run C.P w=.ok (.enter f vals) w∧Calls C.P f vals w λe w'=>e=.returned x∧Mod none w w':=by
 obtain⟨hcall,hfr,xG,_,_,EU⟩:=hp
 unfold jC at hco
 split at hco
 ·rename_i c hop
  split at hco
  ·rename_i fo hc
   split at hco
   ·rename_i f' caps A' he hes
    simp only[afJ,afO] at hco
    obtain⟨rfl,rfl⟩:=hco
    obtain⟨cs,hcs,vH⟩:=(show R1 ρ F w (.fn f' caps) _ from (aC h hq he).1)
    have hargs:=(jh h hq hes).1
    have xU:c.args.map a.eval++cs.toArray=(c.args.toList.map a.eval++cs).toArray:=by
     cases c.args;simp
    have hall:aH (R3 ρ F w) (A'++caps) (c.args.toList.map a.eval++cs):=hargs.app (vH.mono λu v hr=>kE (jm (rO hr)))
    let F':Nat->Prop:=λk=>F k∨wW ρ s.H k
    have hFF:∀k,F k->F' k:=λk hk=>.inl hk
    have hF':∀k,F' k->k<w.heap.size:=λk hk=>by
     rcases hk with hk | ⟨i,c,hi,e⟩
     ·exact h.lt k hk
     ·exact (h.ch i c hi).lt e
    have EW:aH (R3 ρ F' w) ((A'++caps).map (V.dx (Mg s.H))) (c.args.toList.map a.eval++cs):=hall.imp λu v hu hr=>R3.map (p:=λ_=>true) (λu v _ hr=>by
     cases u with
     | own i=>
      simp only[Mg]
      cases hg:get s.H i with
      | none=>exact R0.world hFF (λ_ _=>rfl) hr
      | some ch=>
       cases ch with
       | vec e sz n f=>
        obtain⟨e1,e2⟩:=hr
        obtain⟨xs,k1,k2⟩:=h.ch i _ (get_mem hg)
        subst e1
        exact zV (ρ:=ρ) hFF (λb hb=>.inr ⟨i,_,get_mem hg,hb⟩) k1 k2
       | _=>exact R0.world hFF (λ_ _=>rfl) hr
     | _=>exact R0.world hFF (λ_ _=>rfl) hr) ((all_true (λ_=>rfl) u).2.2) hr
    have EX:=lC hA EW
    refine⟨_,zP hop hc hcs hcall w,?_⟩
    rw[xU]
    refine (EU w F' ρ _ hF' (h.env.mono hFF λ_ _=>rfl) ⟨λi c hi=>by simp at hi,λi j b hi=>absurd hi (afN _),λi b hi=>absurd hi (afN _)⟩ EX).mono ?_
    rintro e w' ⟨v,ρ',F'',rfl,hk,_,_,_,_,hr3,_,_⟩
    refine⟨by rw[qH hx hr3],⟨hk.os,hk.tape,hk.output,hk.size,λk hlt _=>hk.block k hlt λ⟨i,hi,_⟩=>absurd hi (afN _)⟩⟩
   ·simp at hco
  ·simp at hco
 ·simp at hco
theorem QGo.adG(hn:g.n=C.n){all:Array Oper}{o:Oper}{rest:List Oper}{args:List V}{r:V}{f:FuncId}{A:List V}{d:Nat}{x:Value}
  (hp:Pure C.pg f args r []) (hx:valOf r=some x) (hgd:o.guard=none) (hd:o.dst=some d) (hdn:(Nat.blt d g.n&&r.aQ (fresh 0))=true) (hco:jC s.L [] o=some (f,A)) (hA:AEq (A.map (V.dx (Mg s.H))) args)
  (k:QGo C all rest {s with L:=put s.L d r} K Φ):QGo C all (o::rest) s K Φ:=by
 intro a w ρ F h
 simp only[afF] at hdn
 refine QGo.J3 hgd (x:=x) (λw' hm=>?_) ?_
 ·obtain⟨vals,h1,h2⟩:=Mh (h.mod hm) (cO _) hco hp hx hA
  unfold Oper.quietAt
  rw[h1]
  refine⟨Z,h2.mono ?_⟩
  rintro e w'' ⟨rfl,hm2⟩
  exact⟨Z,hm.trans hm2⟩
 ·rw[hd]
  exact k _ _ _ _ (h.put (by rw[←hn];simpa using hdn.1) (vI hx) (jc (λu hu=>cB (Nat.zero_le _) hu) hdn.2))
end
namespace Cr
variable{P:Pg}{g:Cfg}{C:Ctx}(x:Cr P g C){s s':St}{K K':List Item}{Φ:Exit->St->Prop}{ob:List Prop}
include x
theorem yJ{all:Array Oper}{l rest:List Oper}{o:Oper}{args A:List V}{r:V}{f d:Nat}{y:Value}(h:qx g all 1000 l s []=.op ob o rest s')(ho:ak ob)
  (hco:jE g s' o=some (f,A,d)) (hp:Pure P f args r []) (hy:valOf r=some y) (hr:r.aQ (fresh 0)=true) (hA:AEq (A.map (V.dx (Mg s'.H))) args) (k:QGo C all rest {s' with L:=put s'.L d r} K Φ):QGo C all l s K Φ:=by
 suffices kk:QGo C all (o::rest) s' K Φ from (tT (K:=K) (Φ:=Φ) x.ty x.n 1000 l s [] (by rw[h];exact⟨ho,kk⟩)).2
 unfold jE at hco
 split at hco
 ·rename_i d' hg hd
  cases hb:Nat.blt d' g.n with
  | false=>rw[hb] at hco;simp at hco
  | true=>
   rw[hb] at hco
   simp only[cond_true] at hco
   split at hco
   ·rename_i f' A' hc
    simp only[afJ,afO] at hco
    obtain⟨rfl,rfl,rfl⟩:=hco
    exact QGo.adG x.n (x.prog▸hp) hy hg hd (by simp only[afF];exact⟨hb,hr⟩) hc hA k
   ·simp at hco
 ·simp at hco
end Cr
theorem Cx.perm{P:Pg}{g:Cfg}{C:Ctx}(x:Cx P g C){s:St}{K:List Item}{Φ:Exit->St->Prop}(is:List Nat)(hp:vS is s.m g.fix=true)(k:Go C K (FH is s) Φ):Go C K s Φ:=λa w hs=>k a w (hs.perm (x.fix▸hp))
end Go.Sx
namespace Go.Sx
open Go.Shelf Go.RowKit Go.Proofs
section
variable{P:Program}{ρ:Ren}
end
theorem Cx.FJ{P:Pg}{g:Cfg}{C:Ctx}(x:Cx P g C){s s':St}{K K':List Item}{Φ:Exit->St->Prop}{ob:List Prop}(kx:Nat)(is0 A:List Nat)(t:gL)(s2:St){id:Nat}{ops:Array Oper}(h:run g 1000 K s []=.code ob (.region id ops true) K' s')(ho:ak ob)(hm:P.P.follows .mixedOrders=true)
  (hlow:(Nat.ble g.fix kx&&Nat.ble kx s'.m&&(aI is0 s'.H).all λq=>Nat.blt q.1 kx&&q.2.all (fresh kx))=true)
  (hB:xW ops A t=true) (hΦ:NoPanic Φ)
  {obA:List Prop} {sA:St} (hqA:qx g ops 1000 (aU ops.toList A) ⟨s'.L,aI is0 s'.H,s'.m⟩ []=.done obA sA) (hoA:ak obA)
  (he:∀C2,Cx P {g with fix:=kx} C2->EvT C2 ops (λs=>LE kx s s2∨∃is,vS is s.m kx=true∧LE kx (FH is s) s2) t ⟨sA.L,eO is0 s'.H,s'.m⟩)
  (k:Go C K' ⟨s2.L,mF s2.H (aI is0 s'.H),s2.m⟩ Φ):Go C K s Φ:=by
 simp only[afF,List.all_eq_true] at hlow
 obtain⟨⟨f1,f2⟩,hlow⟩:=hlow
 have f1:=Nat.le_of_ble_eq_true f1
 have f2:=Nat.le_of_ble_eq_true f2
 have hlow:∀i c,(i,c)∈aI is0 s'.H->i<kx∧c.all (fresh kx)=true:=λi c hi=>⟨by simpa using (hlow (i,c) hi).1,(hlow (i,c) hi).2⟩
 refine st x.ty x.n x.fix h ⟨ho,?_⟩
 rintro a w ⟨ρ,F,hs⟩
 have hd:Mod none w {w with drawn:=w.drawn+1}:=⟨Z,Z,Z,Nat.le_refl _,λ_ _ _=>rfl⟩
 have hs1:=hs.mod hd
 generalize hw1:({w with drawn:=w.drawn+1}:World)=w1 at hs1
 let S0:World->Prop:=λw'=>∀k,k<w1.heap.size->¬eu ρ s'.H is0 k->w'.heap[k]?=w1.heap[k]?
 obtain⟨_,hmA,hrA⟩:=kV (F:=F) x.ty x.n (S:=S0) (λw' hw' k hk hlt=>hw' k hlt hk) 1000 _ _ _ hqA hoA
 refine x.J5 ?_
 have hP:C.P.follows .mixedOrders=true:=x.rV.symm▸hm
 simp only[xW,afF] at hB
 obtain⟨⟨hns,hsz⟩,hpl⟩:=hB
 have hsz:=afM hsz
 refine wp_region_any hP (wpAny_of_held (S:=S0) _ _ _ _ ?_)
 have inv0:Inv .any ops [] (Array.replicate ops.size false):=⟨by simp,λj oj _ hl=>(by rw[getD_replicate_false] at hl;cases hl),λt ht=>(by cases ht)⟩
 have key:wpAnyH C.P .any ops (den C (gB C Φ) K') S0 (A.length+t.depth) (Array.replicate ops.size false) a {w with drawn:=w.drawn+1}:=?_
 ·rw[hsz] at key;exact key
 refine lD (T:=[]) hns (λc o v a w ho hq=>oK hΦ.quiet K' c ho v a w hq) (by rw[hw1];exact λk _ _=>rfl) (λlisted a1 inv hk hl=>?_) A _ a inv0 hpl (hrA a hs1)
 rw[hw1]
 simp only[afF] at hk
 have hl:aG C ⟨sA.L,s'.H,s'.m⟩ a1 w1 ρ F:=hl
 let C2:=C.Ue s' is0 w1 ρ F kx
 have h2f:aG C2 ⟨sA.L,eO is0 s'.H,s'.m⟩ a1 w1 ρ F:=hl.Ka (s:=⟨sA.L,s'.H,s'.m⟩) is0 f2
 have hx2:Cx P {g with fix:=kx} C2:=⟨⟨x.prog,x.n,Z,x.tys⟩,x.rd⟩
 refine EvT.yI (C:=C2) (λs a w hs=>?_) (λs3 a3 w3 hs3 hj=>?_) t.depth t listed _ a1 w1 hk.1 hk.2 (he C2 hx2) ⟨ρ,F,h2f⟩ (Nat.le_refl _)
 ·obtain⟨ρ',F',hs⟩:=hs
  exact λk hk hb=>hs.keep.block k hk hb
 ·have hs4:Sat C2 s2 a3 w3:=by
   rcases hj with hj | ⟨is,hp,hj⟩
   ·exact LE.sat hj hs3
   ·exact LE.sat hj (Sat.perm hp hs3)
  obtain⟨ρ4,F4,h4⟩:=hs4
  exact k a3 w3 ⟨ρ4,F4,hl.vP (s:=⟨sA.L,s'.H,s'.m⟩) (x.fix▸f1) hlow h4⟩
def EvP(C:Ctx)(ops:Array Oper)(Φ1:Exit->St->Prop)(J:St->Prop):gL->St->Prop
 | .leaf,s=>J s
 | .no,_=>True
 | .fork i a b,s=>Go C [.ops ops (aU ops.toList [i]),.back (EvP C ops Φ1 J a)] s Φ1∧EvP C ops Φ1 J b s
theorem EvP.pick{C:Ctx}{ops:Array Oper}{Φ1:Exit->St->Prop}{J:St->Prop}{t:gL}{s:St}{l:Array Bool}(h:EvP C ops Φ1 J t s)(hc:t.chk ops l=true){i:Nat}(hi:i∈t.firsts) :
  ∃a,a.chk ops (l.setIfInBounds i true)=true∧a.top ops (l.setIfInBounds i true)=true∧a.depth+1≤t.depth∧Go C [.ops ops (aU ops.toList [i]),.back (EvP C ops Φ1 J a)] s Φ1:=by
 induction t with
 | leaf=>cases hi
 | no=>cases hi
 | fork j a b _ ih=>
  simp only[gL.chk,afF] at hc
  obtain⟨⟨h2,h3⟩,h4⟩:=hc
  rcases List.mem_cons.1 hi with e | hi
  ·subst e;exact⟨a,h2,h3,Nat.le_max_left _ _,h.1⟩
  ·obtain⟨c,c1,c2,c3,c4⟩:=ih h.2 h4 hi
   exact⟨c,c1,c2,Nat.le_trans c3 (Nat.le_max_right _ _),c4⟩
theorem EvP.yI{C:Ctx}{ops:Array Oper}{Φ1:Exit->St->Prop}{J:St->Prop}{Q:Exit->Act->World->Prop}{S0:World->Prop}(hS:∀s a w,Sat C s a w->S0 w)(hJ:∀s a w,Sat C s a w->J s->Q .normal a w)(hP:∀c s a w,Sat C s a w->Φ1 (.panic c) s->Q (.panic c) a w)(hno:∀s,¬Φ1 .outgrown s):∀(n:Nat) (t:gL) (l:Array Bool) (s:St) (a:Act) (w:World),t.chk ops l=true->t.top ops l=true->EvP C ops Φ1 J t s->Sat C s a w->t.depth≤n->wpAnyH C.P .any ops Q S0 n l a w
 | n,.leaf,l,s,a,w,hc,_,ht,hs,_=>by
  have hr:Region.ready .any ops l=[]:=by simpa [gL.chk] using hc
  cases n with
  | zero=>exact⟨hr,hJ s a w hs ht⟩
  | succ n=>exact⟨λ_=>hJ s a w hs ht,λi hi=>by rw[hr] at hi;cases hi⟩
 | n,.no,l,s,a,w,_,htop,_,_,_=>by simp [gL.top] at htop
 | 0,.fork i x y,l,s,a,w,_,_,_,_,hd=>by
  have:x.depth+1≤(gL.fork i x y).depth:=Nat.le_max_left _ _
  omega
 | n+1,.fork i x y,l,s,a,w,hc,htop,ht,hs,hd=>by
  have hr:(gL.fork i x y).firsts=Region.ready .any ops l:=by simpa [gL.top] using htop
  refine⟨λh=>(by rw[←hr] at h;cases h),λj hj=>?_⟩
  rw[←hr] at hj
  obtain⟨b,b1,b2,b4,b3⟩:=ht.pick hc hj
  refine Fz b3 hs (λs1 a1 w1 h1 hj1=>⟨hS s1 a1 w1 h1,EvP.yI hS hJ hP hno n b _ s1 a1 w1 b1 b2 hj1 h1 (by omega)⟩) (λc s a w h1 h2=>hP c s a w h1 h2) hno
theorem Cx.wX{P:Pg}{g:Cfg}{C:Ctx}(x:Cx P g C){s s':St}{K K':List Item}{Φ:Exit->St->Prop}{ob:List Prop}(kx:Nat)(is0 A:List Nat)(t:gL)(s2:St){id:Nat}{ops:Array Oper}(h:run g 1000 K s []=.code ob (.region id ops true) K' s')(ho:ak ob)(hm:P.P.follows .mixedOrders=true)
  (hlow:(Nat.ble g.fix kx&&Nat.ble kx s'.m&&(aI is0 s'.H).all λq=>Nat.blt q.1 kx&&q.2.all (fresh kx))=true)
  (hB:xW ops A t=true) (hΦ:q9 ops Φ)
  {obA:List Prop} {sA:St} (hqA:qx g ops 1000 (aU ops.toList A) ⟨s'.L,aI is0 s'.H,s'.m⟩ []=.done obA sA) (hoA:ak obA)
  (he:∀C2,Cx P {g with fix:=kx} C2->EvP C2 ops (FrP Φ (aI is0 s'.H)) (λs=>LE kx s s2∨∃is,vS is s.m kx=true∧LE kx (FH is s) s2) t ⟨sA.L,eO is0 s'.H,s'.m⟩)
  (k:Go C K' ⟨s2.L,mF s2.H (aI is0 s'.H),s2.m⟩ Φ):Go C K s Φ:=by
 simp only[afF,List.all_eq_true] at hlow
 obtain⟨⟨f1,f2⟩,hlow⟩:=hlow
 have f1:=Nat.le_of_ble_eq_true f1
 have f2:=Nat.le_of_ble_eq_true f2
 have hlow:∀i c,(i,c)∈aI is0 s'.H->i<kx∧c.all (fresh kx)=true:=λi c hi=>⟨by simpa using (hlow (i,c) hi).1,(hlow (i,c) hi).2⟩
 refine st x.ty x.n x.fix h ⟨ho,?_⟩
 rintro a w ⟨ρ,F,hs⟩
 have hd:Mod none w {w with drawn:=w.drawn+1}:=⟨Z,Z,Z,Nat.le_refl _,λ_ _ _=>rfl⟩
 have hs1:=hs.mod hd
 generalize hw1:({w with drawn:=w.drawn+1}:World)=w1 at hs1
 let S0:World->Prop:=λw'=>∀k,k<w1.heap.size->¬eu ρ s'.H is0 k->w'.heap[k]?=w1.heap[k]?
 obtain⟨_,hmA,hrA⟩:=kV (F:=F) x.ty x.n (S:=S0) (λw' hw' k hk hlt=>hw' k hlt hk) 1000 _ _ _ hqA hoA
 refine x.J5 ?_
 have hP:C.P.follows .mixedOrders=true:=x.rV.symm▸hm
 simp only[xW,afF] at hB
 obtain⟨⟨hns,hsz⟩,hpl⟩:=hB
 have hsz:=afM hsz
 refine wp_region_any hP (wpAny_of_held (S:=S0) _ _ _ _ ?_)
 have inv0:Inv .any ops [] (Array.replicate ops.size false):=⟨by simp,λj oj _ hl=>(by rw[getD_replicate_false] at hl;cases hl),λt ht=>(by cases ht)⟩
 have key:wpAnyH C.P .any ops (den C (gB C Φ) K') S0 (A.length+t.depth) (Array.replicate ops.size false) a {w with drawn:=w.drawn+1}:=?_
 ·rw[hsz] at key;exact key
 refine lD (T:=[]) hns (λc o v a w ho hq=>oK hΦ K' c ho v a w hq) (by rw[hw1];exact λk _ _=>rfl) (λlisted a1 inv hk hl=>?_) A _ a inv0 hpl (hrA a hs1)
 rw[hw1]
 simp only[afF] at hk
 have hl:aG C ⟨sA.L,s'.H,s'.m⟩ a1 w1 ρ F:=hl
 let C2:=C.Ue s' is0 w1 ρ F kx
 have h2f:aG C2 ⟨sA.L,eO is0 s'.H,s'.m⟩ a1 w1 ρ F:=hl.Ka (s:=⟨sA.L,s'.H,s'.m⟩) is0 f2
 have hx2:Cx P {g with fix:=kx} C2:=⟨⟨x.prog,x.n,Z,x.tys⟩,x.rd⟩
 refine EvP.yI (C:=C2) (λs a w hs=>?_) (λs3 a3 w3 hs3 hj=>?_) (λc s3 a3 w3 hs3 hj=>?_) (λs h=>by obtain⟨⟨c,h⟩,_⟩:=h;cases h) t.depth t listed _ a1 w1 hk.1 hk.2 (he C2 hx2) ⟨ρ,F,h2f⟩ (Nat.le_refl _)
 ·obtain⟨ρ',F',hs⟩:=hs
  exact λk hk hb=>hs.keep.block k hk hb
 ·have hs4:Sat C2 s2 a3 w3:=by
   rcases hj with hj | ⟨is,hp,hj⟩
   ·exact LE.sat hj hs3
   ·exact LE.sat hj (Sat.perm hp hs3)
  obtain⟨ρ4,F4,h4⟩:=hs4
  exact k a3 w3 ⟨ρ4,F4,hl.vP (s:=⟨sA.L,s'.H,s'.m⟩) (x.fix▸f1) hlow h4⟩
 ·obtain⟨ρ4,F4,h4⟩:=hs3
  rw[kN]
  exact⟨_,⟨ρ4,F4,hl.vP (s:=⟨sA.L,s'.H,s'.m⟩) (x.fix▸f1) hlow h4⟩,hj.2.2⟩
theorem Cx.qK{P:Pg}{g:Cfg}{C:Ctx}(x:Cx P g C){s s':St}{K K':List Item}{Φ:Exit->St->Prop}{ob:List Prop}(kx:Nat)(is0 A:List Nat)(t:gL){id:Nat}{ops:Array Oper}(h:run g 1000 K s []=.code ob (.region id ops true) K' s')(ho:ak ob)(hm:P.P.follows .mixedOrders=true)
  (hlow:(Nat.ble g.fix kx&&Nat.ble kx s'.m&&(aI is0 s'.H).all λq=>Nat.blt q.1 kx&&q.2.all (fresh kx))=true)
  (hB:xW ops A t=true) (hΦ:q9 ops Φ)
  {obA:List Prop} {sA:St} (hqA:qx g ops 1000 (aU ops.toList A) ⟨s'.L,aI is0 s'.H,s'.m⟩ []=.done obA sA) (hoA:ak obA)
  (he:∀C2,Cx P {g with fix:=kx} C2->EvP C2 ops (FrP Φ (aI is0 s'.H)) (λ_=>False) t ⟨sA.L,eO is0 s'.H,s'.m⟩):Go C K s Φ:=by
 simp only[afF,List.all_eq_true] at hlow
 obtain⟨⟨f1,f2⟩,hlow⟩:=hlow
 have f1:=Nat.le_of_ble_eq_true f1
 have f2:=Nat.le_of_ble_eq_true f2
 have hlow:∀i c,(i,c)∈aI is0 s'.H->i<kx∧c.all (fresh kx)=true:=λi c hi=>⟨by simpa using (hlow (i,c) hi).1,(hlow (i,c) hi).2⟩
 refine st x.ty x.n x.fix h ⟨ho,?_⟩
 rintro a w ⟨ρ,F,hs⟩
 have hd:Mod none w {w with drawn:=w.drawn+1}:=⟨Z,Z,Z,Nat.le_refl _,λ_ _ _=>rfl⟩
 have hs1:=hs.mod hd
 generalize hw1:({w with drawn:=w.drawn+1}:World)=w1 at hs1
 let S0:World->Prop:=λw'=>∀k,k<w1.heap.size->¬eu ρ s'.H is0 k->w'.heap[k]?=w1.heap[k]?
 obtain⟨_,hmA,hrA⟩:=kV (F:=F) x.ty x.n (S:=S0) (λw' hw' k hk hlt=>hw' k hlt hk) 1000 _ _ _ hqA hoA
 refine x.J5 ?_
 have hP:C.P.follows .mixedOrders=true:=x.rV.symm▸hm
 simp only[xW,afF] at hB
 obtain⟨⟨hns,hsz⟩,hpl⟩:=hB
 have hsz:=afM hsz
 refine wp_region_any hP (wpAny_of_held (S:=S0) _ _ _ _ ?_)
 have inv0:Inv .any ops [] (Array.replicate ops.size false):=⟨by simp,λj oj _ hl=>(by rw[getD_replicate_false] at hl;cases hl),λt ht=>(by cases ht)⟩
 have key:wpAnyH C.P .any ops (den C (gB C Φ) K') S0 (A.length+t.depth) (Array.replicate ops.size false) a {w with drawn:=w.drawn+1}:=?_
 ·rw[hsz] at key;exact key
 refine lD (T:=[]) hns (λc o v a w ho hq=>oK hΦ K' c ho v a w hq) (by rw[hw1];exact λk _ _=>rfl) (λlisted a1 inv hk hl=>?_) A _ a inv0 hpl (hrA a hs1)
 rw[hw1]
 simp only[afF] at hk
 have hl:aG C ⟨sA.L,s'.H,s'.m⟩ a1 w1 ρ F:=hl
 let C2:=C.Ue s' is0 w1 ρ F kx
 have h2f:aG C2 ⟨sA.L,eO is0 s'.H,s'.m⟩ a1 w1 ρ F:=hl.Ka (s:=⟨sA.L,s'.H,s'.m⟩) is0 f2
 have hx2:Cx P {g with fix:=kx} C2:=⟨⟨x.prog,x.n,Z,x.tys⟩,x.rd⟩
 refine EvP.yI (C:=C2) (λs a w hs=>?_) (λs3 a3 w3 hs3 hj=>?_) (λc s3 a3 w3 hs3 hj=>?_) (λs h=>by obtain⟨⟨c,h⟩,_⟩:=h;cases h) t.depth t listed _ a1 w1 hk.1 hk.2 (he C2 hx2) ⟨ρ,F,h2f⟩ (Nat.le_refl _)
 ·obtain⟨ρ',F',hs⟩:=hs
  exact λk hk hb=>hs.keep.block k hk hb
 ·exact hj.elim
 ·obtain⟨ρ4,F4,h4⟩:=hs3
  rw[kN]
  exact⟨_,⟨ρ4,F4,hl.vP (s:=⟨sA.L,s'.H,s'.m⟩) (x.fix▸f1) hlow h4⟩,hj.2.2⟩
section
variable{C:Ctx}{s:St}{a:Act}{w w':World}{ρ:Nat->Value}{F:Nat->Prop}{g:Cfg}{K:List Item}{Φ:Exit->St->Prop}
end
end Go.Sx
namespace Go.Sx
theorem aB.rfl'(v:V):aB v v:=by
 cases v with
 | d a=>exact DEq.rfl' a
 | aF=>exact tR
 | ptr i o=>exact⟨rfl,rfl⟩
 | bA i z k o=>exact⟨rfl,rfl,rfl,rfl⟩
 | _=>exact rfl
theorem zN.rfl':∀us:List V,zN us us
 | []=>trivial
 | v::r=>⟨aB.rfl' v,zN.rfl' r⟩
theorem VEq.rfl'(v:V):VEq v v:=by
 cases v with
 | agg us=>exact zN.rfl' us
 | tup us=>exact zN.rfl' us
 | d a=>exact DEq.rfl' a
 | aF=>exact tR
 | ptr i o=>exact⟨rfl,rfl⟩
 | bA i z k o=>exact⟨rfl,rfl,rfl,rfl⟩
 | _=>exact rfl
theorem O8.rfl':∀us:List (Key×V),O8 us us
 | []=>trivial
 | v::r=>⟨rfl,aB.rfl' v.2,O8.rfl' r⟩
theorem mE.rfl'(c:Ch):mE c c:=by
 cases c with
 | box us=>exact zN.rfl' us
 | arr z n f=>exact⟨rfl,rfl,λ_ _=>rfl⟩
 | vec e z n f=>exact⟨rfl,rfl,rfl,λ_ _=>rfl⟩
 | iter s p=>exact⟨rfl,rfl⟩
 | rows=>exact⟨rfl,rfl,rfl,rfl,rfl,λ_ _=>⟨rfl,rfl,λ_ _=>rfl⟩⟩
 | held=>exact⟨rfl,rfl,rfl,rfl,rfl,aB.rfl' _,λ_ _ _=>⟨rfl,rfl,λ_ _=>rfl⟩⟩
 | tbl es=>exact O8.rfl' es
 | bld T u=>exact⟨rfl,aB.rfl' u⟩
 | pos l=>exact rfl
def PE:List Nat->Nat->Bool
 | [],_=>false
 | a::r,t=>bif Nat.beq a t then true else PE r t
def HV{α:Type}(ex:List Nat)(L:List (Nat×α)):List (Nat×α)->List (Option α)
 | []=>[]
 | (t,_)::r=>bif PE ex t then HV ex L r else get L t::HV ex L r
def HY{α:Type}(ex:List Nat):List (Nat×α)->List (Option α)
 | []=>[]
 | (t,v)::r=>bif PE ex t then HY ex r else some v::HY ex r
def onL(ex:List Nat)(L:List (Nat×V)):List (Nat×V)->Prop
 | []=>True
 | (t,v)::r=>bif PE ex t then (match get L t with | some u=>VEq u v | none=>False)∧onL ex L r else onL ex L r
def onH(ex:List Nat)(L:List (Nat×Ch)):List (Nat×Ch)->Prop
 | []=>True
 | (t,v)::r=>bif PE ex t then (match get L t with | some u=>mE u v | none=>False)∧onH ex L r else onH ex L r
theorem LLE.ex{el:List Nat}{L:List (Nat×V)}:∀{L':List (Nat×V)},HV el L L'=HY el L'->onL el L L'->LLE L L'
 | [],_,_=>trivial
 | (t,v)::r,h,x=>by
  unfold HV HY at h
  unfold onL at x
  cases hc:PE el t with
  | true=>
   rw[hc] at h x
   exact⟨x.1,LLE.ex h x.2⟩
  | false=>
   rw[hc] at h x
   obtain⟨h1,h2⟩:=List.cons.inj h
   refine⟨?_,LLE.ex h2 x⟩
   rw[h1]
   exact VEq.rfl' v
theorem HLE.ex{el:List Nat}{L:List (Nat×Ch)}:∀{L':List (Nat×Ch)},HV el L L'=HY el L'->onH el L L'->HLE L L'
 | [],_,_=>trivial
 | (t,v)::r,h,x=>by
  unfold HV HY at h
  unfold onH at x
  cases hc:PE el t with
  | true=>
   rw[hc] at h x
   exact⟨x.1,HLE.ex h x.2⟩
  | false=>
   rw[hc] at h x
   obtain⟨h1,h2⟩:=List.cons.inj h
   refine⟨?_,HLE.ex h2 x⟩
   rw[h1]
   exact mE.rfl' v
theorem LE.ex{fix:Nat}{s s':St}(el eh:List Nat)(x1:onL el s.L s'.L)(x2:onH eh s.H s'.H)(h1:HV el s.L s'.L=HY el s'.L:=by exact Z)(h2:HV eh s.H s'.H=HY eh s'.H:=by exact Z)(ok:okS fix s'=true:=by exact Z):LE fix s s':=
 ⟨.ex h1 x1,.ex h2 x2,ok⟩
theorem LE.is{fix:Nat}{s s':St}(h1:HV [] s.L s'.L=HY [] s'.L:=by exact Z)(h2:HV [] s.H s'.H=HY [] s'.H:=by exact Z)(ok:okS fix s'=true:=by exact Z):LE fix s s':=
 ⟨.ex (el:=[]) h1 (by generalize s'.L=l;induction l with | nil=>exact tR | cons e r ih=>exact ih),.ex (el:=[]) h2 (by generalize s'.H=l;induction l with | nil=>exact tR | cons e r ih=>exact ih),ok⟩
def RG(L:List (Nat×V)):List Nat->List (Nat×V)
 | []=>[]
 | t::r=>match get L t with
  | some v=>(t,v)::RG L r
  | none=>RG L r
def aa9:List (Nat×Ch)->List (Nat×Ch)->List (Nat×Ch)
 | [],H=>H
 | (i,_)::r,H=>aa9 r (nQ i H)
def abb(H:List (Nat×Ch)):List (Nat×Ch)->List (Nat×Ch)->List (Nat×Ch)
 | a,[]=>aa9 a H
 | a,e::r=>e::abb H a r
def St.at(s:St)(ks:List Nat)(ls:List (Nat×V))(hs:List (Nat×Ch)):St:=⟨mF ls (RG s.L ks),abb s.H hs hs,s.m⟩
def St.on(s:St)(ks:List Nat)(ls:List (Nat×V))(hs:List (Nat×Ch))(m:Nat):St:=⟨mF ls (RG s.L ks),hs,m⟩
def St.ch(s:St)(id:Nat):Ch:=match get s.H id with
 | some c=>c
 | none=>.box []
theorem viE{a b:Int}(h:a=b):aB (vi a) (vi b):=by subst h;exact rfl
theorem vbE{a b:Bool}(h:a=b):aB (vb a) (vb b):=by subst h;exact rfl
section
variable{P:Pg}{g:Cfg}{C:Ctx}{s s':St}{K K':List Item}{Φ:Exit->St->Prop}{ob:List Prop}
def acj(n i fix:Nat)(I:Nat->St)(s:St):Prop:=∃z:{j:Nat // j≤n},n-z.1<n-i∧LE fix s (I z.1)
def abd(n i fix:Nat)(Q:Nat->Prop)(I:Nat->St)(s:St):Prop:=∃z:{j:Nat // j≤n∧Q j},n-z.1<n-i∧LE fix s (I z.1)
theorem upN{n i fix:Nat}{I:Nat->St}(h:i<n)(k:LE fix s (I (i+1))):acj n i fix I s:=
 ⟨⟨i+1,h⟩,by show n-(i+1)<n-i;omega,k⟩
theorem Cr.adH(x:Cr P g C)(n:Nat)(I:St->Nat->St){c:Code}(h:run g 1000 K s []=.loop ob c K' s')(ho:ak ob)(h0:LE g.fix s' (I s' 0))
  (hr:∀i,i≤n->Go C (.code c::.back (acj n i g.fix (I s'))::K') (I s' i) Φ):Go C K s Φ:=
 x.loop (α:={j:Nat // j≤n}) (λy=>I s' y.1) (λy=>n-y.1) ⟨0,Nat.zero_le _⟩ h ho h0 λy=>hr y.1 y.2
theorem Cr.for(x:Cr P g C)(n:Nat)(I:St->Nat->St){c cx cy:Code}{Kx:Nat->List Item}{sx:Nat->St}{oc:Nat->List Prop}(h:run g 1000 K s []=.loop ob c K' s')(ho:ak ob)(h0:LE g.fix s' (I s' 0))
  (hc:∀i,run g 1000 (.code c::.back (acj n i g.fix (I s'))::K') (I s' i) []=.cond (oc i) (decide ((i:Int)<(n:Int))) cx cy (Kx i) (sx i)) (hob:∀i,ak (oc i))
  (hr:∀i,i<n->Go C (.code cx::Kx i) (sx i) Φ) (he:Go C (.code cy::Kx n) (sx n) Φ):Go C K s Φ:=
 x.adH n I h ho h0 λi hi=>x.cond (hc i) (hob i) (λe=>hr i (by have:=afH e;omega)) λe=>by
  have:i=n:=by have:=afI e;omega
  subst this;exact he
theorem upQ{n i fix:Nat}{Q:Nat->Prop}{I:Nat->St}(h:i<n)(q:Q (i+1))(k:LE fix s (I (i+1))):abd n i fix Q I s:=
 ⟨⟨i+1,h,q⟩,by show n-(i+1)<n-i;omega,k⟩
theorem Cr.Mi(x:Cr P g C)(n:Nat)(Q:Nat->Prop)(I:St->Nat->St){c cx cy:Code}{Kx:Nat->List Item}{sx:Nat->St}{oc:Nat->List Prop}(h:run g 1000 K s []=.loop ob c K' s')(ho:ak ob)(q0:Q 0)(h0:LE g.fix s' (I s' 0))
  (hc:∀i,run g 1000 (.code c::.back (abd n i g.fix Q (I s'))::K') (I s' i) []=.cond (oc i) (decide ((i:Int)<(n:Int))) cx cy (Kx i) (sx i)) (hob:∀i,ak (oc i))
  (hr:∀i,i<n->Q i->Go C (.code cx::Kx i) (sx i) Φ) (he:Q n->Go C (.code cy::Kx n) (sx n) Φ):Go C K s Φ:=
 x.loop (α:={j:Nat // j≤n∧Q j}) (λy=>I s' y.1) (λy=>n-y.1) ⟨0,Nat.zero_le _,q0⟩ h ho h0 λy=>x.cond (hc y.1) (hob y.1) (λe=>hr y.1 (by have:=afH e;omega) y.2.2) λe=>by
  obtain⟨i,hi,hq⟩:=y
  have:i=n:=by have:=afI e;simp only at this;omega
  subst this;exact he hq
theorem Cr.dec(x:Cr P g C){p:Prop}[Decidable p]{c1 c2:Code}(h:run g 1000 K s []=.cond ob (decide p) c1 c2 K' s')(ho:ak ob)(h1:p->Go C (.code c1::K') s' Φ)(h2:¬p->Go C (.code c2::K') s' Φ):Go C K s Φ:=
 x.cond h ho (λe=>h1 (afH e)) λe=>h2 (afI e)
theorem Cx.ev2(x:Cx P g C)(is0 A:List Nat)(t:gL)(f:St->St){id:Nat}{ops:Array Oper}(h:run g 1000 K s []=.code ob (.region id ops true) K' s')(ho:ak ob)(hm:P.P.follows .mixedOrders=true)
 (hB:xW ops A t=true) (hΦ:NoPanic Φ)
 {obA:List Prop} {sA:St} (hqA:qx g ops 1000 (aU ops.toList A) ⟨s'.L,aI is0 s'.H,s'.m⟩ []=.done obA sA) (hoA:ak obA)
 (he:∀C2,Cx P {g with fix:=s'.m} C2->EvT C2 ops (λs=>LE s'.m s (f s')∨∃is,vS is s.m s'.m=true∧LE s'.m (FH is s) (f s')) t ⟨sA.L,eO is0 s'.H,s'.m⟩)
 (k:Go C K' ⟨(f s').L,mF (f s').H (aI is0 s'.H),(f s').m⟩ Φ):Go C K s Φ:=x.rz is0 A t (f s') h ho hm hB hΦ hqA hoA he k
theorem Cx.ev3(x:Cx P g C)(kx:Nat)(is0 A:List Nat)(t:gL)(f:St->St){id:Nat}{ops:Array Oper}(h:run g 1000 K s []=.code ob (.region id ops true) K' s')(ho:ak ob)(hm:P.P.follows .mixedOrders=true)
 (hlow:(Nat.ble g.fix kx&&Nat.ble kx s'.m&&(aI is0 s'.H).all λq=>Nat.blt q.1 kx&&q.2.all (fresh kx))=true)
 (hB:xW ops A t=true) (hΦ:NoPanic Φ)
 {obA:List Prop} {sA:St} (hqA:qx g ops 1000 (aU ops.toList A) ⟨s'.L,aI is0 s'.H,s'.m⟩ []=.done obA sA) (hoA:ak obA)
 (he:∀C2,Cx P {g with fix:=kx} C2->EvT C2 ops (λs=>LE kx s (f s')∨∃is,vS is s.m kx=true∧LE kx (FH is s) (f s')) t ⟨sA.L,eO is0 s'.H,s'.m⟩)
 (k:Go C K' ⟨(f s').L,mF (f s').H (aI is0 s'.H),(f s').m⟩ Φ):Go C K s Φ:=x.FJ kx is0 A t (f s') h ho hm hlow hB hΦ hqA hoA he k
theorem Cr.join(x:Cr P g C)(I:St->St){b:Bool}{c1 c2:Code}(h:run g 1000 K s []=.cond ob b c1 c2 K' s')(ho:ak ob)
  (h1:b=true->Go C (.code c1::.back (λs''=>∃_:Unit,LE g.fix s'' (I s'))::K') s' Φ) (h2:b=false->Go C (.code c2::.back (λs''=>∃_:Unit,LE g.fix s'' (I s'))::K') s' Φ) (h3:Go C K' (I s') Φ):Go C K s Φ:=
 x.ite (α:=Unit) (λ_=>I s') h ho h1 h2 λ_=>h3
theorem Cr.adI(x:Cr P g C)(Q:Prop)(I:St->St){b:Bool}{c1 c2:Code}(h:run g 1000 K s []=.cond ob b c1 c2 K' s')(ho:ak ob)
  (h1:b=true->Go C (.code c1::.back (λs''=>∃_:PLift Q,LE g.fix s'' (I s'))::K') s' Φ) (h2:b=false->Go C (.code c2::.back (λs''=>∃_:PLift Q,LE g.fix s'' (I s'))::K') s' Φ) (h3:Q->Go C K' (I s') Φ):Go C K s Φ:=
 x.ite (α:=PLift Q) (λ_=>I s') h ho h1 h2 λy=>h3 y.1
end
end Go.Sx
