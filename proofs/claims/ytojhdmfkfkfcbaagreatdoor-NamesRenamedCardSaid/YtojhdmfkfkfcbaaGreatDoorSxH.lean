import Derived.Test.YtojhdmfkfkfcbaaGreatDoorSxG
import Derived.Shelf.SlicesE.Clone
set_option linter.unusedVariables false
set_option linter.unusedSimpArgs false
namespace Go.Sx
def lend (H:List Ch):V->V
 | .own i=>match H[i]? with
  | some (.vec _ sz n f)=>.d (.sl sz n f)
  | _=>.own i
 | v=>v
def ZW (H:List Ch):Bool:=H.all fun c=>match c with | .vec ..=>true | _=>false
theorem zn {ρ:Nat->Value} {F F':Nat->Prop} {w:World} {e:TypeId} {sz n:Nat} {f:Nat->List D} {v:Value} {xs:List Value} (hFF:∀k,F k->F' k) (hb:∀b,blk v=some b->F' b) (hown:w.ownsRow 0 e sz v n xs) (hel:jc F w sz n f xs):RD F' w (.sl sz n f) v:=by
 have hown':=hown
 rcases hown.2 with⟨h1,h2⟩ | ⟨b,cap,cur,h1,_,h3,h4,h5,h6,h7⟩
 ·subst h2;rw[h1];exact .emp _ _ _ _
 ·rw[h1]
  refine .sl sz n f b 0 cap (fun i j=>(xs[i*sz+j]?).getD undef) (hb b (by rw[h1];rfl)) h4 (fun i j hi hj=>?_) (fun i hi=>(hel i hi).1) (fun i j d hi hd=>?_)
  ·have hl:=(hel i hi).1
   obtain⟨c,c1,c2⟩:=(hel i hi).2 j _ (adh (show j<(f i).length by omega))
   have:=hown'.cells (g:=b) (by rw[h1];rfl) _ _ c1
   rw[Addr.add_lit] at this
   rw[this,c1];rfl
  ·obtain⟨c,c1,c2⟩:=(hel i hi).2 j d hd
   rw[c1]
   exact RD.mono hFF (fun _ _=>rfl) c2
theorem Pure.borrow {P:Pg} {f:FuncId} {args args':List V} {r:V} {y:Value} (H:List Ch) (hp:Pure P f args' r []) (ha:args'=args.map (V.cu (lend H))) (hr:valOf r=some y) (hok:(aL args H H.length&&aL [r] H H.length&&ZW H)=true):aI P f H.length args H r H:=by
 subst ha
 simp only[adg] at hok
 obtain⟨⟨h1,h2⟩,h3⟩:=hok
 obtain⟨hcall,hfr,wO,_,_,hc⟩:=hp
 refine⟨hcall,h1,h2,Nat.le_refl _,Nat.le_refl _,fun w F ρ vals hF hE hH hargs=>?_⟩
 let F':Nat->Prop:=fun k=>F k∨ownB ρ H k
 have hFF:∀k,F k->F' k:=fun k hk=>.inl hk
 have hF':∀k,F' k->k<w.heap.size:=fun k hk=>by
  rcases hk with hk | ⟨i,hi,e⟩
  ·exact hF k hk
  ·exact (hH.ch i _ (adh hi)).lt (aR e)
 have h1':=h1
 simp only[aL,adg,List.all_eq_true] at h1'
 have hargs':aF (R3 ρ F' w) (args.map (V.cu (lend H))) vals:=hargs.imp fun u v hu hr=>R3.map (p:=fresh H.length) (fun u v hf hr=>by
  cases u with
  | own i=>
   have hi:i<H.length:=by simpa [fresh] using hf
   have hm:=List.all_eq_true.1 h3 _ (List.getElem_mem hi)
   obtain⟨e1,e2⟩:=hr
   simp only[lend,adh hi]
   cases hc:H[i] with
   | vec e sz n f=>
    have:=hH.ch i _ (adh hi)
    rw[hc] at this
    obtain⟨xs,k1,k2⟩:=this
    subst e1
    exact zn (ρ:=ρ) hFF (fun b hb=>.inr ⟨i,hi,hb⟩) k1 k2
   | _=>rw[hc] at hm;cases hm
  | _=>exact R0.world hFF (fun _ _=>rfl) hr) (h1'.1 u hu) hr
 refine (hc w F' ρ vals hF' (hE.mono hFF fun _ _=>rfl) ⟨fun i c hi=>by simp at hi,fun i j b hi=>absurd hi (adp _),fun i b hi=>absurd hi (adp _)⟩ hargs').mono ?_
 rintro e w' ⟨v,ρ',F'',rfl,hk,_,_,_,_,hr3,_,_⟩
 obtain rfl:=pI hr hr3
 have hblk:∀k,k<w.heap.size->w'.heap[k]?=w.heap[k]?:=fun k hk'=>hk.block k hk' fun ⟨i,hi,_⟩=>absurd hi (adp _)
 refine⟨v,ρ,F,rfl,⟨hk.os,hk.tape,hk.output,hk.size,fun k hk' _=>hblk k hk'⟩,fun _ _=>rfl,fun _ hk=>hk,fun k hk'=>Nat.lt_of_lt_of_le (hF k hk') hk.size,fun _ hk=>.inl hk,qK hr,⟨fun i c hi=>?_,hH.sep,hH.out⟩,fun i b hi e=>.inr ⟨i,hi,e⟩⟩
 have:=iG.keep (x:=0) (p:=fun _=>true) (k:=fun u=>u) (ρ':=ρ) (F':=F) (w':=w') (fun u v _ hr=>R0.world (fun _ hk=>hk) (fun k hk=>hblk k (hF k hk)) hr) (fun _ hk=>hk) (fun k hk=>hblk k (hF k hk)) rfl (fun b e=>hblk b ((hH.ch i c hi).lt e)) (by
  cases c<;>simp [Ch.all,all_true]) (hH.ch i c hi)
 rwa [jf] at this
theorem Pure.ZX {P:Pg} {f:FuncId} {args:List V} {vals:List Value} {vs:Array Value} {d:D} (hc:iA P.P f) (hfr:aL args [] 0=true) (ha:G6 args=some vals) (hvs:vs=vals.toArray)
  (h:∀(w:World) (F:Nat->Prop),je P.env F w->Calls P.P f vs w fun e w'=>∃v,e=.returned v∧Go.RowKit.Below w.heap.size w w'∧RD (fun k=>w.heap.size≤k∧k<w'.heap.size) w' d v):Pure P f args (.d d) []:=by
 subst hvs
 refine⟨hc,hfr,rfl,Nat.le_refl _,Nat.le_refl _,fun w F ρ ys hF hE hH hargs=>?_⟩
 obtain rfl:=uK ha hargs
 refine (h w F hE).mono ?_
 rintro e w' ⟨v,rfl,hb,hr⟩
 obtain⟨b1,b2,b3,b4,b5⟩:=hb
 refine⟨v,ρ,fun k=>F k∨(w.heap.size≤k∧k<w'.heap.size),rfl,⟨b1,b2,b3,b4,fun k hk _=>b5 k hk⟩,fun _ _=>rfl,fun _ hk=>.inl hk,fun k hk=>?_,fun k hk=>?_,RD.mono (fun _ hk=>.inr hk) (fun _ _=>rfl) hr,⟨fun i c hi=>by simp at hi,fun i j b hi=>absurd hi (adp _),fun i b hi=>absurd hi (adp _)⟩,fun i b hi=>absurd hi (adp _)⟩
 ·rcases hk with hk | hk
  ·exact Nat.lt_of_lt_of_le (hF k hk) b4
  ·exact hk.2
 ·rcases hk with hk | hk
  ·exact .inl hk
  ·exact .inr (.inl hk.1)
theorem Pure.args {P:Pg} {f:FuncId} {args args':List V} {r:V} {H':List Ch} (hp:Pure P f args r H') (hA:AEq args' args) (hfr:aL args' [] 0=true):Pure P f args' r H':=by
 obtain⟨hcall,_,wO,h1,h2,hc⟩:=hp
 exact⟨hcall,hfr,wO,h1,h2,fun w F ρ vals hF hE hH hargs=>hc w F ρ vals hF hE hH (kH hA hargs)⟩
theorem Pure.froze {P:Pg} {f:FuncId} {args:List V} {e:TypeId} {sz n:Nat} {g:Nat->List D} (hp:Pure P f args (.own 0) [.vec e sz n g]):Pure P f args (.d (.sl sz n g)) []:=by
 obtain⟨hcall,hfr,wO,_,_,hc⟩:=hp
 refine⟨hcall,hfr,rfl,Nat.le_refl _,Nat.le_refl _,fun w F ρ vals hF hE hH hargs=>(hc w F ρ vals hF hE hH hargs).mono ?_⟩
 rintro e w' ⟨v,ρ',F',rfl,hk,hρ,hFF,hlt,hsub,hr,BU,Ke⟩
 obtain⟨xs,k1,k2⟩:=BU.ch 0 _ rfl
 obtain⟨e1,e2⟩:=(show R0 ρ' F' w' (.own 0) v from hr)
 subst e1
 refine⟨ρ' 0,ρ',fun k=>F' k∨blk (ρ' 0)=some k,rfl,hk,hρ,fun k hk=>.inl (hFF k hk),fun k hk=>?_,fun k hk=>?_,zn (ρ:=ρ') (fun _=>.inl) (fun b hb=>.inr hb) k1 k2,⟨fun i c hi=>by simp at hi,fun i j b hi=>absurd hi (adp _),fun i b hi=>absurd hi (adp _)⟩,fun i b hi=>absurd hi (adp _)⟩
 ·rcases hk with hk | hk
  ·exact hlt k hk
  ·exact (BU.ch 0 _ rfl).lt (aR hk)
 ·rcases hk with hk | hk
  ·exact hsub k hk
  ·exact .inr (Ke 0 k (by simp) hk)
theorem Cr.lV {P:Pg} {g:Cfg} {C:Ctx} (x:Cr P g C) {s:St} {K:List Item} {Φ:Exit->St->Prop} (k:Go C K s fun e s=>∃s2,LE g.fix s s2∧Φ e s2):Go C K s Φ:=
 Go.relax (fun e s a w ⟨s2,h1,h2⟩ hs=>⟨s2,LE.sat (x.fix▸h1) hs,h2⟩) k
theorem ZY {k:Key} {G:V->Bool->Prop} {z:V}:∀{es:List (Key×V)},G ((dI k es).getD z) (dI k es).isSome->nu k G z es
 | [],h=>h
 | (a,v)::r,h=>by
  unfold dI at h
  refine⟨fun hk=>?_,fun hk=>?_⟩
  ·rw[if_pos hk] at h;exact h
  ·rw[if_neg hk] at h;exact ZY h
theorem Z0 {k:Key} {G:V->Bool->Prop} {z v:V} {es:List (Key×V)} (h:dI k es=some v) (g:G v true):nu k G z es:=ZY (by rw[h];exact g)
theorem Z4 {k:Key} {G:V->Bool->Prop} {z:V} {es:List (Key×V)} (h:dI k es=none) (g:G z false):nu k G z es:=ZY (by rw[h];exact g)
def Hq (H:List (Nat×Ch)):V->V
 | .own i=>match get H i with
  | some (.vec _ sz n f)=>.d (.sl sz n f)
  | _=>.own i
 | v=>v
section
variable {C:Ctx} {s:St} {a:Act} {w:World} {ρ:Nat->Value} {F:Nat->Prop} {g:Cfg} {K:List Item} {Φ:Exit->St->Prop}
theorem Ck (h:aD C s a w ρ F) {q:List (Nat×Bool)} (hq:pcA a.tmps q) {o:Oper} {f:FuncId} {A:List V} (hco:iY s.L q o=some (f,A)) {args:List V} {r:V} {x:Value}
  (hp:Pure C.pg f args r []) (hx:valOf r=some x) (hA:AEq (A.map (V.cu (Hq s.H))) args) :
  ∃vals,(execOp a.eval o).run C.P w=.ok (.enter f vals) w∧Calls C.P f vals w fun e w'=>e=.returned x∧Mod none w w':=by
 obtain⟨hcall,hfr,wO,_,_,Eb⟩:=hp
 unfold iY at hco
 split at hco
 ·rename_i c hop
  split at hco
  ·rename_i fo hc
   split at hco
   ·rename_i f' caps A' he hes
    simp only[adk,adq] at hco
    obtain⟨rfl,rfl⟩:=hco
    obtain⟨cs,hcs,uH⟩:=(show R1 ρ F w (.fn f' caps) _ from (aA h hq he).1)
    have hargs:=(iV h hq hes).1
    have xw:c.args.map a.eval++cs.toArray=(c.args.toList.map a.eval++cs).toArray:=by
     cases c.args;simp
    have hall:aF (R3 ρ F w) (A'++caps) (c.args.toList.map a.eval++cs):=hargs.app (uH.mono fun u v hr=>jI (iZ (qC hr)))
    let F':Nat->Prop:=fun k=>F k∨wo ρ s.H k
    have hFF:∀k,F k->F' k:=fun k hk=>.inl hk
    have hF':∀k,F' k->k<w.heap.size:=fun k hk=>by
     rcases hk with hk | ⟨i,c,hi,e⟩
     ·exact h.lt k hk
     ·exact (h.ch i c hi).lt e
    have Ec:aF (R3 ρ F' w) ((A'++caps).map (V.cu (Hq s.H))) (c.args.toList.map a.eval++cs):=hall.imp fun u v hu hr=>R3.map (p:=fun _=>true) (fun u v _ hr=>by
     cases u with
     | own i=>
      simp only[Hq]
      cases hg:get s.H i with
      | none=>exact R0.world hFF (fun _ _=>rfl) hr
      | some ch=>
       cases ch with
       | vec e sz n f=>
        obtain⟨e1,e2⟩:=hr
        obtain⟨xs,k1,k2⟩:=h.ch i _ (get_mem hg)
        subst e1
        exact zn (ρ:=ρ) hFF (fun b hb=>.inr ⟨i,_,get_mem hg,hb⟩) k1 k2
       | _=>exact R0.world hFF (fun _ _=>rfl) hr
     | _=>exact R0.world hFF (fun _ _=>rfl) hr) ((all_true (fun _=>rfl) u).2.2) hr
    have Ed:=kH hA Ec
    refine⟨_,y7 hop hc hcs hcall w,?_⟩
    rw[xw]
    refine (Eb w F' ρ _ hF' (h.env.mono hFF fun _ _=>rfl) ⟨fun i c hi=>by simp at hi,fun i j b hi=>absurd hi (adp _),fun i b hi=>absurd hi (adp _)⟩ Ed).mono ?_
    rintro e w' ⟨v,ρ',F'',rfl,hk,_,_,_,_,hr3,_,_⟩
    refine⟨by rw[pI hx hr3],⟨hk.os,hk.tape,hk.output,hk.size,fun k hlt _=>hk.block k hlt fun ⟨i,hi,_⟩=>absurd hi (adp _)⟩⟩
   ·simp at hco
  ·simp at hco
 ·simp at hco
theorem QGo.YT (hn:g.n=C.n) {all:Array Oper} {o:Oper} {rest:List Oper} {args:List V} {r:V} {f:FuncId} {A:List V} {d:Nat} {x:Value}
  (hp:Pure C.pg f args r []) (hx:valOf r=some x) (hgd:o.guard=none) (hd:o.dst=some d) (hdn:(Nat.blt d g.n&&r.aO (fresh 0))=true) (hco:iY s.L [] o=some (f,A)) (hA:AEq (A.map (V.cu (Hq s.H))) args)
  (k:QGo C all rest {s with L:=put s.L d r} K Φ):QGo C all (o::rest) s K Φ:=by
 intro a w ρ F h
 simp only[adg] at hdn
 refine QGo.Ja hgd (x:=x) (fun w' hm=>?_) ?_
 ·obtain⟨vals,h1,h2⟩:=Ck (h.mod hm) (bY _) hco hp hx hA
  unfold Oper.quietAt
  rw[h1]
  refine⟨rfl,h2.mono ?_⟩
  rintro e w'' ⟨rfl,hm2⟩
  exact⟨rfl,hm.trans hm2⟩
 ·rw[hd]
  exact k _ _ _ _ (h.put (by rw[←hn];simpa using hdn.1) (qK hx) (iy (fun u hu=>bM (Nat.zero_le _) hu) hdn.2))
theorem Go.YT (hn:g.n=C.n) {all:Array Oper} {o:Oper} {rest:List Oper} {args:List V} {r:V} {f:FuncId} {A:List V} {d:Nat} {x:Value}
  (hp:Pure C.pg f args r []) (hx:valOf r=some x) (hgd:o.guard=none) (hd:o.dst=some d) (hdn:(Nat.blt d g.n&&r.aO (fresh 0))=true) (hco:iY s.L [] o=some (f,A)) (hA:AEq (A.map (V.cu (Hq s.H))) args)
  (k:Go C (.ops all rest::K) {s with L:=put s.L d r} Φ):Go C (.ops all (o::rest)::K) s Φ:=by
 rintro a w ⟨ρ,F,h⟩
 simp only[adg] at hdn
 obtain⟨vals,h1,h2⟩:=Ck h (bY _) hco hp hx hA
 show eD C.rd C.P all (den C (fE C Φ) K) (o::rest) a w
 refine iJ hgd fun N hN=>?_
 refine nP h1 tR ?_
 rw[Oper.upon_enter]
 refine h2.mono ?_
 rintro e w' ⟨rfl,hm⟩
 refine hN _ _ ?_
 rw[hd]
 exact k _ _ ⟨ρ,F,(h.mod hm).put (by rw[←hn];simpa using hdn.1) (qK hx) (iy (fun u hu=>bM (Nat.zero_le _) hu) hdn.2)⟩
end
namespace Cr
variable {P:Pg} {g:Cfg} {C:Ctx} (x:Cr P g C) {s s':St} {K K':List Item} {Φ:Exit->St->Prop} {ob:List Prop}
include x
theorem yc {all:Array Oper} {l rest:List Oper} {o:Oper} {args A:List V} {r:V} {f d:Nat} {y:Value} (h:oU g all 1000 l s []=.op ob o rest s') (ho:aj ob)
  (hco:ji g s' o=some (f,A,d)) (hp:Pure P f args r []) (hy:valOf r=some y) (hr:r.aO (fresh 0)=true) (hA:AEq (A.map (V.cu (Hq s'.H))) args) (k:QGo C all rest {s' with L:=put s'.L d r} K Φ):QGo C all l s K Φ:=by
 suffices kk:QGo C all (o::rest) s' K Φ from (rZ (K:=K) (Φ:=Φ) x.ty x.n 1000 l s [] (by rw[h];exact⟨ho,kk⟩)).2
 unfold ji at hco
 split at hco
 ·rename_i d' hg hd
  cases hb:Nat.blt d' g.n with
  | false=>rw[hb] at hco;simp at hco
  | true=>
   rw[hb] at hco
   simp only[cond_true] at hco
   split at hco
   ·rename_i f' A' hc
    simp only[adk,adq] at hco
    obtain⟨rfl,rfl,rfl⟩:=hco
    exact QGo.YT x.n (x.prog▸hp) hy hg hd (by simp only[adg];exact⟨hb,hr⟩) hc hA k
   ·simp at hco
 ·simp at hco
end Cr
theorem Cx.perm {P:Pg} {g:Cfg} {C:Ctx} (x:Cx P g C) {s:St} {K:List Item} {Φ:Exit->St->Prop} (is:List Nat) (hp:uQ is s.m g.fix=true) (k:Go C K (EH is s) Φ):Go C K s Φ:=fun a w hs=>k a w (hs.perm (x.fix▸hp))
end Go.Sx
set_option linter.unusedVariables false
set_option linter.unusedSimpArgs false
namespace Go.Sx
open Go.Shelf Go.RowKit Go.Proofs
section
variable {P:Program} {ρ:Ren}
end
end Go.Sx
set_option linter.unusedVariables false
set_option linter.unusedSimpArgs false
namespace Go.Sx
open Go.Shelf Go.RowKit Go.Proofs
theorem Cx.EK {P:Pg} {g:Cfg} {C:Ctx} (x:Cx P g C) {s s':St} {K K':List Item} {Φ:Exit->St->Prop} {ob:List Prop} (kx:Nat) (is0 A:List Nat) (t:iE) (s2:St) {id:Nat} {ops:Array Oper} (h:run g 1000 K s []=.code ob (.region id ops true) K' s') (ho:aj ob) (hm:P.P.follows .mixedOrders=true)
  (hlow:(Nat.ble g.fix kx&&Nat.ble kx s'.m&&(aH is0 s'.H).all fun q=>Nat.blt q.1 kx&&q.2.all (fresh kx))=true)
  (hB:xA ops A t=true) (hΦ:NoPanic Φ)
  {obA:List Prop} {sA:St} (hqA:oU g ops 1000 (aS ops.toList A) ⟨s'.L,aH is0 s'.H,s'.m⟩ []=.done obA sA) (hoA:aj obA)
  (he:∀C2,Cx P {g with fix:=kx} C2->EvT C2 ops (fun s=>LE kx s s2∨∃is,uQ is s.m kx=true∧LE kx (EH is s) s2) t ⟨sA.L,dX is0 s'.H,s'.m⟩)
  (k:Go C K' ⟨s2.L,lq s2.H (aH is0 s'.H),s2.m⟩ Φ):Go C K s Φ:=by
 simp only[adg,List.all_eq_true] at hlow
 obtain⟨⟨f1,f2⟩,hlow⟩:=hlow
 have f1:=Nat.le_of_ble_eq_true f1
 have f2:=Nat.le_of_ble_eq_true f2
 have hlow:∀i c,(i,c)∈aH is0 s'.H->i<kx∧c.all (fresh kx)=true:=fun i c hi=>⟨by simpa using (hlow (i,c) hi).1,(hlow (i,c) hi).2⟩
 refine st x.ty x.n x.fix h ⟨ho,?_⟩
 rintro a w ⟨ρ,F,hs⟩
 have hd:Mod none w {w with drawn:=w.drawn+1}:=⟨rfl,rfl,rfl,Nat.le_refl _,fun _ _ _=>rfl⟩
 have hs1:=hs.mod hd
 generalize hw1:({w with drawn:=w.drawn+1}:World)=w1 at hs1
 let S0:World->Prop:=fun w'=>∀k,k<w1.heap.size->¬dR ρ s'.H is0 k->w'.heap[k]?=w1.heap[k]?
 obtain⟨_,hmA,hrA⟩:=j5 (F:=F) x.ty x.n (S:=S0) (fun w' hw' k hk hlt=>hw' k hlt hk) 1000 _ _ _ hqA hoA
 refine x.Gp ?_
 have hP:C.P.follows .mixedOrders=true:=x.qJ.symm▸hm
 simp only[xA,adg] at hB
 obtain⟨⟨hns,hsz⟩,hpl⟩:=hB
 have hsz:=ado hsz
 refine wp_region_any hP (wpAny_of_held (S:=S0) _ _ _ _ ?_)
 have inv0:Inv .any ops [] (Array.replicate ops.size false):=⟨by simp,fun j oj _ hl=>(by rw[getD_replicate_false] at hl;cases hl),fun t ht=>(by cases ht)⟩
 have key:wpAnyH C.P .any ops (den C (fE C Φ) K') S0 (A.length+t.depth) (Array.replicate ops.size false) a {w with drawn:=w.drawn+1}:=?_
 ·rw[hsz] at key;exact key
 refine kI (T:=[]) hns (fun c o v a w ho hq=>nL hΦ.quiet K' c ho v a w hq) (by rw[hw1];exact fun k _ _=>rfl) (fun listed a1 inv hk hl=>?_) A _ a inv0 hpl (hrA a hs1)
 rw[hw1]
 simp only[adg] at hk
 have hl:aD C ⟨sA.L,s'.H,s'.m⟩ a1 w1 ρ F:=hl
 let C2:=C.RQ s' is0 w1 ρ F kx
 have h2f:aD C2 ⟨sA.L,dX is0 s'.H,s'.m⟩ a1 w1 ρ F:=hl.Jf (s:=⟨sA.L,s'.H,s'.m⟩) is0 f2
 have hx2:Cx P {g with fix:=kx} C2:=⟨⟨x.prog,x.n,rfl,x.tys⟩,x.rd⟩
 refine EvT.x9 (C:=C2) (fun s a w hs=>?_) (fun s3 a3 w3 hs3 hj=>?_) t.depth t listed _ a1 w1 hk.1 hk.2 (he C2 hx2) ⟨ρ,F,h2f⟩ (Nat.le_refl _)
 ·obtain⟨ρ',F',hs⟩:=hs
  exact fun k hk hb=>hs.keep.block k hk hb
 ·have hs4:Sat C2 s2 a3 w3:=by
   rcases hj with hj | ⟨is,hp,hj⟩
   ·exact LE.sat hj hs3
   ·exact LE.sat hj (Sat.perm hp hs3)
  obtain⟨ρ4,F4,h4⟩:=hs4
  exact k a3 w3 ⟨ρ4,F4,hl.uN (s:=⟨sA.L,s'.H,s'.m⟩) (x.fix▸f1) hlow h4⟩
end Go.Sx
set_option linter.unusedVariables false
set_option linter.unusedSimpArgs false
namespace Go.Sx
open Go.Shelf Go.RowKit Go.Proofs
def EvP (C:Ctx) (ops:Array Oper) (Φ1:Exit->St->Prop) (J:St->Prop):iE->St->Prop
 | .leaf,s=>J s
 | .no,_=>True
 | .fork i a b,s=>Go C [.ops ops (aS ops.toList [i]), .back (EvP C ops Φ1 J a)] s Φ1∧EvP C ops Φ1 J b s
theorem EvP.pick {C:Ctx} {ops:Array Oper} {Φ1:Exit->St->Prop} {J:St->Prop} {t:iE} {s:St} {l:Array Bool} (h:EvP C ops Φ1 J t s) (hc:t.chk ops l=true) {i:Nat} (hi:i∈t.firsts) :
  ∃a,a.chk ops (l.setIfInBounds i true)=true∧a.top ops (l.setIfInBounds i true)=true∧a.depth+1≤t.depth∧Go C [.ops ops (aS ops.toList [i]), .back (EvP C ops Φ1 J a)] s Φ1:=by
 induction t with
 | leaf=>cases hi
 | no=>cases hi
 | fork j a b _ ih=>
  simp only[iE.chk,adg] at hc
  obtain⟨⟨h2,h3⟩,h4⟩:=hc
  rcases List.mem_cons.1 hi with e | hi
  ·subst e;exact⟨a,h2,h3,Nat.le_max_left _ _,h.1⟩
  ·obtain⟨c,c1,c2,c3,c4⟩:=ih h.2 h4 hi
   exact⟨c,c1,c2,Nat.le_trans c3 (Nat.le_max_right _ _),c4⟩
theorem EvP.x9 {C:Ctx} {ops:Array Oper} {Φ1:Exit->St->Prop} {J:St->Prop} {Q:Exit->Act->World->Prop} {S0:World->Prop} (hS:∀s a w,Sat C s a w->S0 w) (hJ:∀s a w,Sat C s a w->J s->Q .normal a w) (hP:∀c s a w,Sat C s a w->Φ1 (.panic c) s->Q (.panic c) a w) (hno:∀s,¬Φ1 .outgrown s):∀(n:Nat) (t:iE) (l:Array Bool) (s:St) (a:Act) (w:World),t.chk ops l=true->t.top ops l=true->EvP C ops Φ1 J t s->Sat C s a w->t.depth≤n->wpAnyH C.P .any ops Q S0 n l a w
 | n, .leaf,l,s,a,w,hc,_,ht,hs,_=>by
  have hr:Region.ready .any ops l=[]:=by simpa [iE.chk] using hc
  cases n with
  | zero=>exact⟨hr,hJ s a w hs ht⟩
  | succ n=>exact⟨fun _=>hJ s a w hs ht,fun i hi=>by rw[hr] at hi;cases hi⟩
 | n, .no,l,s,a,w,_,htop,_,_,_=>by simp [iE.top] at htop
 | 0, .fork i x y,l,s,a,w,_,_,_,_,hd=>by
  have:x.depth+1≤(iE.fork i x y).depth:=Nat.le_max_left _ _
  omega
 | n+1, .fork i x y,l,s,a,w,hc,htop,ht,hs,hd=>by
  have hr:(iE.fork i x y).firsts=Region.ready .any ops l:=by simpa [iE.top] using htop
  refine⟨fun h=>(by rw[←hr] at h;cases h),fun j hj=>?_⟩
  rw[←hr] at hj
  obtain⟨b,b1,b2,b4,b3⟩:=ht.pick hc hj
  refine EA b3 hs (fun s1 a1 w1 h1 hj1=>⟨hS s1 a1 w1 h1,EvP.x9 hS hJ hP hno n b _ s1 a1 w1 b1 b2 hj1 h1 (by omega)⟩) (fun c s a w h1 h2=>hP c s a w h1 h2) hno
theorem Cx.wu {P:Pg} {g:Cfg} {C:Ctx} (x:Cx P g C) {s s':St} {K K':List Item} {Φ:Exit->St->Prop} {ob:List Prop} (kx:Nat) (is0 A:List Nat) (t:iE) (s2:St) {id:Nat} {ops:Array Oper} (h:run g 1000 K s []=.code ob (.region id ops true) K' s') (ho:aj ob) (hm:P.P.follows .mixedOrders=true)
  (hlow:(Nat.ble g.fix kx&&Nat.ble kx s'.m&&(aH is0 s'.H).all fun q=>Nat.blt q.1 kx&&q.2.all (fresh kx))=true)
  (hB:xA ops A t=true) (hΦ:qj ops Φ)
  {obA:List Prop} {sA:St} (hqA:oU g ops 1000 (aS ops.toList A) ⟨s'.L,aH is0 s'.H,s'.m⟩ []=.done obA sA) (hoA:aj obA)
  (he:∀C2,Cx P {g with fix:=kx} C2->EvP C2 ops (FrP Φ (aH is0 s'.H)) (fun s=>LE kx s s2∨∃is,uQ is s.m kx=true∧LE kx (EH is s) s2) t ⟨sA.L,dX is0 s'.H,s'.m⟩)
  (k:Go C K' ⟨s2.L,lq s2.H (aH is0 s'.H),s2.m⟩ Φ):Go C K s Φ:=by
 simp only[adg,List.all_eq_true] at hlow
 obtain⟨⟨f1,f2⟩,hlow⟩:=hlow
 have f1:=Nat.le_of_ble_eq_true f1
 have f2:=Nat.le_of_ble_eq_true f2
 have hlow:∀i c,(i,c)∈aH is0 s'.H->i<kx∧c.all (fresh kx)=true:=fun i c hi=>⟨by simpa using (hlow (i,c) hi).1,(hlow (i,c) hi).2⟩
 refine st x.ty x.n x.fix h ⟨ho,?_⟩
 rintro a w ⟨ρ,F,hs⟩
 have hd:Mod none w {w with drawn:=w.drawn+1}:=⟨rfl,rfl,rfl,Nat.le_refl _,fun _ _ _=>rfl⟩
 have hs1:=hs.mod hd
 generalize hw1:({w with drawn:=w.drawn+1}:World)=w1 at hs1
 let S0:World->Prop:=fun w'=>∀k,k<w1.heap.size->¬dR ρ s'.H is0 k->w'.heap[k]?=w1.heap[k]?
 obtain⟨_,hmA,hrA⟩:=j5 (F:=F) x.ty x.n (S:=S0) (fun w' hw' k hk hlt=>hw' k hlt hk) 1000 _ _ _ hqA hoA
 refine x.Gp ?_
 have hP:C.P.follows .mixedOrders=true:=x.qJ.symm▸hm
 simp only[xA,adg] at hB
 obtain⟨⟨hns,hsz⟩,hpl⟩:=hB
 have hsz:=ado hsz
 refine wp_region_any hP (wpAny_of_held (S:=S0) _ _ _ _ ?_)
 have inv0:Inv .any ops [] (Array.replicate ops.size false):=⟨by simp,fun j oj _ hl=>(by rw[getD_replicate_false] at hl;cases hl),fun t ht=>(by cases ht)⟩
 have key:wpAnyH C.P .any ops (den C (fE C Φ) K') S0 (A.length+t.depth) (Array.replicate ops.size false) a {w with drawn:=w.drawn+1}:=?_
 ·rw[hsz] at key;exact key
 refine kI (T:=[]) hns (fun c o v a w ho hq=>nL hΦ K' c ho v a w hq) (by rw[hw1];exact fun k _ _=>rfl) (fun listed a1 inv hk hl=>?_) A _ a inv0 hpl (hrA a hs1)
 rw[hw1]
 simp only[adg] at hk
 have hl:aD C ⟨sA.L,s'.H,s'.m⟩ a1 w1 ρ F:=hl
 let C2:=C.RQ s' is0 w1 ρ F kx
 have h2f:aD C2 ⟨sA.L,dX is0 s'.H,s'.m⟩ a1 w1 ρ F:=hl.Jf (s:=⟨sA.L,s'.H,s'.m⟩) is0 f2
 have hx2:Cx P {g with fix:=kx} C2:=⟨⟨x.prog,x.n,rfl,x.tys⟩,x.rd⟩
 refine EvP.x9 (C:=C2) (fun s a w hs=>?_) (fun s3 a3 w3 hs3 hj=>?_) (fun c s3 a3 w3 hs3 hj=>?_) (fun s h=>by obtain⟨⟨c,h⟩,_⟩:=h;cases h) t.depth t listed _ a1 w1 hk.1 hk.2 (he C2 hx2) ⟨ρ,F,h2f⟩ (Nat.le_refl _)
 ·obtain⟨ρ',F',hs⟩:=hs
  exact fun k hk hb=>hs.keep.block k hk hb
 ·have hs4:Sat C2 s2 a3 w3:=by
   rcases hj with hj | ⟨is,hp,hj⟩
   ·exact LE.sat hj hs3
   ·exact LE.sat hj (Sat.perm hp hs3)
  obtain⟨ρ4,F4,h4⟩:=hs4
  exact k a3 w3 ⟨ρ4,F4,hl.uN (s:=⟨sA.L,s'.H,s'.m⟩) (x.fix▸f1) hlow h4⟩
 ·obtain⟨ρ4,F4,h4⟩:=hs3
  rw[jS]
  exact⟨_,⟨ρ4,F4,hl.uN (s:=⟨sA.L,s'.H,s'.m⟩) (x.fix▸f1) hlow h4⟩,hj.2.2⟩
theorem Cx.pK {P:Pg} {g:Cfg} {C:Ctx} (x:Cx P g C) {s s':St} {K K':List Item} {Φ:Exit->St->Prop} {ob:List Prop} (kx:Nat) (is0 A:List Nat) (t:iE) {id:Nat} {ops:Array Oper} (h:run g 1000 K s []=.code ob (.region id ops true) K' s') (ho:aj ob) (hm:P.P.follows .mixedOrders=true)
  (hlow:(Nat.ble g.fix kx&&Nat.ble kx s'.m&&(aH is0 s'.H).all fun q=>Nat.blt q.1 kx&&q.2.all (fresh kx))=true)
  (hB:xA ops A t=true) (hΦ:qj ops Φ)
  {obA:List Prop} {sA:St} (hqA:oU g ops 1000 (aS ops.toList A) ⟨s'.L,aH is0 s'.H,s'.m⟩ []=.done obA sA) (hoA:aj obA)
  (he:∀C2,Cx P {g with fix:=kx} C2->EvP C2 ops (FrP Φ (aH is0 s'.H)) (fun _=>False) t ⟨sA.L,dX is0 s'.H,s'.m⟩):Go C K s Φ:=by
 simp only[adg,List.all_eq_true] at hlow
 obtain⟨⟨f1,f2⟩,hlow⟩:=hlow
 have f1:=Nat.le_of_ble_eq_true f1
 have f2:=Nat.le_of_ble_eq_true f2
 have hlow:∀i c,(i,c)∈aH is0 s'.H->i<kx∧c.all (fresh kx)=true:=fun i c hi=>⟨by simpa using (hlow (i,c) hi).1,(hlow (i,c) hi).2⟩
 refine st x.ty x.n x.fix h ⟨ho,?_⟩
 rintro a w ⟨ρ,F,hs⟩
 have hd:Mod none w {w with drawn:=w.drawn+1}:=⟨rfl,rfl,rfl,Nat.le_refl _,fun _ _ _=>rfl⟩
 have hs1:=hs.mod hd
 generalize hw1:({w with drawn:=w.drawn+1}:World)=w1 at hs1
 let S0:World->Prop:=fun w'=>∀k,k<w1.heap.size->¬dR ρ s'.H is0 k->w'.heap[k]?=w1.heap[k]?
 obtain⟨_,hmA,hrA⟩:=j5 (F:=F) x.ty x.n (S:=S0) (fun w' hw' k hk hlt=>hw' k hlt hk) 1000 _ _ _ hqA hoA
 refine x.Gp ?_
 have hP:C.P.follows .mixedOrders=true:=x.qJ.symm▸hm
 simp only[xA,adg] at hB
 obtain⟨⟨hns,hsz⟩,hpl⟩:=hB
 have hsz:=ado hsz
 refine wp_region_any hP (wpAny_of_held (S:=S0) _ _ _ _ ?_)
 have inv0:Inv .any ops [] (Array.replicate ops.size false):=⟨by simp,fun j oj _ hl=>(by rw[getD_replicate_false] at hl;cases hl),fun t ht=>(by cases ht)⟩
 have key:wpAnyH C.P .any ops (den C (fE C Φ) K') S0 (A.length+t.depth) (Array.replicate ops.size false) a {w with drawn:=w.drawn+1}:=?_
 ·rw[hsz] at key;exact key
 refine kI (T:=[]) hns (fun c o v a w ho hq=>nL hΦ K' c ho v a w hq) (by rw[hw1];exact fun k _ _=>rfl) (fun listed a1 inv hk hl=>?_) A _ a inv0 hpl (hrA a hs1)
 rw[hw1]
 simp only[adg] at hk
 have hl:aD C ⟨sA.L,s'.H,s'.m⟩ a1 w1 ρ F:=hl
 let C2:=C.RQ s' is0 w1 ρ F kx
 have h2f:aD C2 ⟨sA.L,dX is0 s'.H,s'.m⟩ a1 w1 ρ F:=hl.Jf (s:=⟨sA.L,s'.H,s'.m⟩) is0 f2
 have hx2:Cx P {g with fix:=kx} C2:=⟨⟨x.prog,x.n,rfl,x.tys⟩,x.rd⟩
 refine EvP.x9 (C:=C2) (fun s a w hs=>?_) (fun s3 a3 w3 hs3 hj=>?_) (fun c s3 a3 w3 hs3 hj=>?_) (fun s h=>by obtain⟨⟨c,h⟩,_⟩:=h;cases h) t.depth t listed _ a1 w1 hk.1 hk.2 (he C2 hx2) ⟨ρ,F,h2f⟩ (Nat.le_refl _)
 ·obtain⟨ρ',F',hs⟩:=hs
  exact fun k hk hb=>hs.keep.block k hk hb
 ·exact hj.elim
 ·obtain⟨ρ4,F4,h4⟩:=hs3
  rw[jS]
  exact⟨_,⟨ρ4,F4,hl.uN (s:=⟨sA.L,s'.H,s'.m⟩) (x.fix▸f1) hlow h4⟩,hj.2.2⟩
end Go.Sx
set_option linter.unusedVariables false
set_option linter.unusedSimpArgs false
namespace Go.Sx
open Go.Shelf Go.RowKit Go.Proofs
section
variable {C:Ctx} {s:St} {a:Act} {w w':World} {ρ:Nat->Value} {F:Nat->Prop} {g:Cfg} {K:List Item} {Φ:Exit->St->Prop}
end
end Go.Sx
set_option linter.unusedVariables false
set_option linter.unusedSimpArgs false
namespace Go.Sx
theorem aG.rfl' (v:V):aG v v:=by
 cases v with
 | d a=>exact DEq.rfl' a
 | aB=>exact tR
 | ptr i o=>exact⟨rfl,rfl⟩
 | bA i z k o=>exact⟨rfl,rfl,rfl,rfl⟩
 | _=>exact rfl
theorem C9.rfl':∀us:List V,C9 us us
 | []=>trivial
 | v::r=>⟨aG.rfl' v,C9.rfl' r⟩
theorem VEq.rfl' (v:V):VEq v v:=by
 cases v with
 | agg us=>exact C9.rfl' us
 | tup us=>exact C9.rfl' us
 | d a=>exact DEq.rfl' a
 | aB=>exact tR
 | ptr i o=>exact⟨rfl,rfl⟩
 | bA i z k o=>exact⟨rfl,rfl,rfl,rfl⟩
 | _=>exact rfl
theorem NJ.rfl':∀us:List (Key×V),NJ us us
 | []=>trivial
 | v::r=>⟨rfl,aG.rfl' v.2,NJ.rfl' r⟩
theorem lS.rfl' (c:Ch):lS c c:=by
 cases c with
 | box us=>exact C9.rfl' us
 | arr z n f=>exact⟨rfl,rfl,fun _ _=>rfl⟩
 | vec e z n f=>exact⟨rfl,rfl,rfl,fun _ _=>rfl⟩
 | iter s p=>exact⟨rfl,rfl⟩
 | rows=>exact⟨rfl,rfl,rfl,rfl,rfl,fun _ _=>⟨rfl,rfl,fun _ _=>rfl⟩⟩
 | held=>exact⟨rfl,rfl,rfl,rfl,rfl,aG.rfl' _,fun _ _ _=>⟨rfl,rfl,fun _ _=>rfl⟩⟩
 | tbl es=>exact NJ.rfl' es
 | bld T u=>exact⟨rfl,aG.rfl' u⟩
 | pos l=>exact rfl
def Oc:List Nat->Nat->Bool
 | [],_=>false
 | a::r,t=>bif Nat.beq a t then true else Oc r t
def Gt {α:Type} (ex:List Nat) (L:List (Nat×α)):List (Nat×α)->List (Option α)
 | []=>[]
 | (t,_)::r=>bif Oc ex t then Gt ex L r else get L t::Gt ex L r
def Gu {α:Type} (ex:List Nat):List (Nat×α)->List (Option α)
 | []=>[]
 | (t,v)::r=>bif Oc ex t then Gu ex r else some v::Gu ex r
def onL (ex:List Nat) (L:List (Nat×V)):List (Nat×V)->Prop
 | []=>True
 | (t,v)::r=>bif Oc ex t then (match get L t with | some u=>VEq u v | none=>False)∧onL ex L r else onL ex L r
def onH (ex:List Nat) (L:List (Nat×Ch)):List (Nat×Ch)->Prop
 | []=>True
 | (t,v)::r=>bif Oc ex t then (match get L t with | some u=>lS u v | none=>False)∧onH ex L r else onH ex L r
theorem LLE.ex {el:List Nat} {L:List (Nat×V)}:∀{L':List (Nat×V)},Gt el L L'=Gu el L'->onL el L L'->LLE L L'
 | [],_,_=>trivial
 | (t,v)::r,h,x=>by
  unfold Gt Gu at h
  unfold onL at x
  cases hc:Oc el t with
  | true=>
   rw[hc] at h x
   exact⟨x.1,LLE.ex h x.2⟩
  | false=>
   rw[hc] at h x
   obtain⟨h1,h2⟩:=List.cons.inj h
   refine⟨?_,LLE.ex h2 x⟩
   rw[h1]
   exact VEq.rfl' v
theorem HLE.ex {el:List Nat} {L:List (Nat×Ch)}:∀{L':List (Nat×Ch)},Gt el L L'=Gu el L'->onH el L L'->HLE L L'
 | [],_,_=>trivial
 | (t,v)::r,h,x=>by
  unfold Gt Gu at h
  unfold onH at x
  cases hc:Oc el t with
  | true=>
   rw[hc] at h x
   exact⟨x.1,HLE.ex h x.2⟩
  | false=>
   rw[hc] at h x
   obtain⟨h1,h2⟩:=List.cons.inj h
   refine⟨?_,HLE.ex h2 x⟩
   rw[h1]
   exact lS.rfl' v
theorem LE.ex {fix:Nat} {s s':St} (el eh:List Nat) (x1:onL el s.L s'.L) (x2:onH eh s.H s'.H) (h1:Gt el s.L s'.L=Gu el s'.L:=by exact rfl) (h2:Gt eh s.H s'.H=Gu eh s'.H:=by exact rfl) (ok:okS fix s'=true:=by exact rfl):LE fix s s':=
 ⟨.ex h1 x1, .ex h2 x2,ok⟩
theorem LE.is {fix:Nat} {s s':St} (h1:Gt [] s.L s'.L=Gu [] s'.L:=by exact rfl) (h2:Gt [] s.H s'.H=Gu [] s'.H:=by exact rfl) (ok:okS fix s'=true:=by exact rfl):LE fix s s':=
 ⟨.ex (el:=[]) h1 (by generalize s'.L=l;induction l with | nil=>exact tR | cons e r ih=>exact ih), .ex (el:=[]) h2 (by generalize s'.H=l;induction l with | nil=>exact tR | cons e r ih=>exact ih),ok⟩
def Qd (L:List (Nat×V)):List Nat->List (Nat×V)
 | []=>[]
 | t::r=>match get L t with
  | some v=>(t,v)::Qd L r
  | none=>Qd L r
def YU:List (Nat×Ch)->List (Nat×Ch)->List (Nat×Ch)
 | [],H=>H
 | (i,_)::r,H=>YU r (jY i H)
def YV (H:List (Nat×Ch)):List (Nat×Ch)->List (Nat×Ch)->List (Nat×Ch)
 | a,[]=>YU a H
 | a,e::r=>e::YV H a r
def St.at (s:St) (ks:List Nat) (ls:List (Nat×V)) (hs:List (Nat×Ch)):St:=⟨lq ls (Qd s.L ks),YV s.H hs hs,s.m⟩
def St.on (s:St) (ks:List Nat) (ls:List (Nat×V)) (hs:List (Nat×Ch)) (m:Nat):St:=⟨lq ls (Qd s.L ks),hs,m⟩
def St.ch (s:St) (id:Nat):Ch:=match get s.H id with
 | some c=>c
 | none=>.box []
theorem vbE {a b:Bool} (h:a=b):aG (vb a) (vb b):=by subst h;exact rfl
section
variable {P:Pg} {g:Cfg} {C:Ctx} {s s':St} {K K':List Item} {Φ:Exit->St->Prop} {ob:List Prop}
def Z5 (n i fix:Nat) (I:Nat->St) (s:St):Prop:=∃z:{j:Nat // j≤n},n-z.1<n-i∧LE fix s (I z.1)
theorem upN {n i fix:Nat} {I:Nat->St} (h:i<n) (k:LE fix s (I (i+1))):Z5 n i fix I s:=
 ⟨⟨i+1,h⟩,by show n-(i+1)<n-i;omega,k⟩
theorem Cr.forN (x:Cr P g C) (n:Nat) (I:St->Nat->St) {c:Code} (h:run g 1000 K s []=.loop ob c K' s') (ho:aj ob) (h0:LE g.fix s' (I s' 0))
  (hr:∀i,i≤n->Go C (.code c::.back (Z5 n i g.fix (I s'))::K') (I s' i) Φ):Go C K s Φ:=
 x.loop (α:={j:Nat // j≤n}) (fun y=>I s' y.1) (fun y=>n-y.1) ⟨0,Nat.zero_le _⟩ h ho h0 fun y=>hr y.1 y.2
theorem Cr.for (x:Cr P g C) (n:Nat) (I:St->Nat->St) {c cx cy:Code} {Kx:Nat->List Item} {sx:Nat->St} {oc:Nat->List Prop} (h:run g 1000 K s []=.loop ob c K' s') (ho:aj ob) (h0:LE g.fix s' (I s' 0))
  (hc:∀i,run g 1000 (.code c::.back (Z5 n i g.fix (I s'))::K') (I s' i) []=.cond (oc i) (decide ((i:Int)<(n:Int))) cx cy (Kx i) (sx i)) (hob:∀i,aj (oc i))
  (hr:∀i,i<n->Go C (.code cx::Kx i) (sx i) Φ) (he:Go C (.code cy::Kx n) (sx n) Φ):Go C K s Φ:=
 x.forN n I h ho h0 fun i hi=>x.cond (hc i) (hob i) (fun e=>hr i (by have:=adi e;omega)) fun e=>by
  have:i=n:=by have:=adj e;omega
  subst this;exact he
theorem Cr.dec (x:Cr P g C) {p:Prop} [Decidable p] {c1 c2:Code} (h:run g 1000 K s []=.cond ob (decide p) c1 c2 K' s') (ho:aj ob) (h1:p->Go C (.code c1::K') s' Φ) (h2:¬p->Go C (.code c2::K') s' Φ):Go C K s Φ:=
 x.cond h ho (fun e=>h1 (adi e)) fun e=>h2 (adj e)
theorem Cx.ev2 (x:Cx P g C) (is0 A:List Nat) (t:iE) (f:St->St) {id:Nat} {ops:Array Oper} (h:run g 1000 K s []=.code ob (.region id ops true) K' s') (ho:aj ob) (hm:P.P.follows .mixedOrders=true)
 (hB:xA ops A t=true) (hΦ:NoPanic Φ)
 {obA:List Prop} {sA:St} (hqA:oU g ops 1000 (aS ops.toList A) ⟨s'.L,aH is0 s'.H,s'.m⟩ []=.done obA sA) (hoA:aj obA)
 (he:∀C2,Cx P {g with fix:=s'.m} C2->EvT C2 ops (fun s=>LE s'.m s (f s')∨∃is,uQ is s.m s'.m=true∧LE s'.m (EH is s) (f s')) t ⟨sA.L,dX is0 s'.H,s'.m⟩)
 (k:Go C K' ⟨(f s').L,lq (f s').H (aH is0 s'.H),(f s').m⟩ Φ):Go C K s Φ:=x.qm is0 A t (f s') h ho hm hB hΦ hqA hoA he k
theorem Cx.ev3 (x:Cx P g C) (kx:Nat) (is0 A:List Nat) (t:iE) (f:St->St) {id:Nat} {ops:Array Oper} (h:run g 1000 K s []=.code ob (.region id ops true) K' s') (ho:aj ob) (hm:P.P.follows .mixedOrders=true)
 (hlow:(Nat.ble g.fix kx&&Nat.ble kx s'.m&&(aH is0 s'.H).all fun q=>Nat.blt q.1 kx&&q.2.all (fresh kx))=true)
 (hB:xA ops A t=true) (hΦ:NoPanic Φ)
 {obA:List Prop} {sA:St} (hqA:oU g ops 1000 (aS ops.toList A) ⟨s'.L,aH is0 s'.H,s'.m⟩ []=.done obA sA) (hoA:aj obA)
 (he:∀C2,Cx P {g with fix:=kx} C2->EvT C2 ops (fun s=>LE kx s (f s')∨∃is,uQ is s.m kx=true∧LE kx (EH is s) (f s')) t ⟨sA.L,dX is0 s'.H,s'.m⟩)
 (k:Go C K' ⟨(f s').L,lq (f s').H (aH is0 s'.H),(f s').m⟩ Φ):Go C K s Φ:=x.EK kx is0 A t (f s') h ho hm hlow hB hΦ hqA hoA he k
theorem Cr.join (x:Cr P g C) (I:St->St) {b:Bool} {c1 c2:Code} (h:run g 1000 K s []=.cond ob b c1 c2 K' s') (ho:aj ob)
  (h1:b=true->Go C (.code c1::.back (fun s''=>∃_:Unit,LE g.fix s'' (I s'))::K') s' Φ) (h2:b=false->Go C (.code c2::.back (fun s''=>∃_:Unit,LE g.fix s'' (I s'))::K') s' Φ) (h3:Go C K' (I s') Φ):Go C K s Φ:=
 x.ite (α:=Unit) (fun _=>I s') h ho h1 h2 fun _=>h3
end
end Go.Sx
