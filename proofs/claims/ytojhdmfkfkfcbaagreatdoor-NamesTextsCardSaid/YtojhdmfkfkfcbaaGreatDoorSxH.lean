import Derived.Test.YtojhdmfkfkfcbaaGreatDoorSxG
import Derived.Shelf.SlicesE.Clone
set_option linter.unusedVariables false
set_option linter.unusedSimpArgs false
namespace Go.Sx
def lend (H:List Ch):V->V
 | .own i=>match H[i]? with
  | some (.vec _ sz n f)=>.d (.sl sz n f)
  | _=>.own i
 | v=>v
def allVec (H:List Ch):Bool:=H.all fun c=>match c with | .vec ..=>true | _=>false
theorem vec_data {ρ:Nat->Value} {F F':Nat->Prop} {w:World} {e:TypeId} {sz n:Nat} {f:Nat->List D} {v:Value} {xs:List Value} (hFF:∀k,F k->F' k) (hb:∀b,blk v=some b->F' b) (hown:w.ownsRow 0 e sz v n xs) (hel:Elems F w sz n f xs):RD F' w (.sl sz n f) v:=by
 have hown':=hown
 rcases hown.2 with⟨h1,h2⟩ | ⟨b,cap,cur,h1,_,h3,h4,h5,h6,h7⟩
 ·subst h2;rw[h1];exact .emp _ _ _ _
 ·rw[h1]
  refine .sl sz n f b 0 cap (fun i j=>(xs[i*sz+j]?).getD undef) (hb b (by rw[h1];rfl)) h4 (fun i j hi hj=>?_) (fun i hi=>(hel i hi).1) (fun i j d hi hd=>?_)
  ·have hl:=(hel i hi).1
   obtain⟨c,c1,c2⟩:=(hel i hi).2 j _ (List.getElem?_eq_getElem (show j<(f i).length by omega))
   have:=hown'.cells (g:=b) (by rw[h1];rfl) _ _ c1
   rw[Addr.add_lit] at this
   rw[this,c1];rfl
  ·obtain⟨c,c1,c2⟩:=(hel i hi).2 j d hd
   rw[c1]
   exact RD.mono hFF (fun _ _=>rfl) c2
theorem Pure.borrow {P:Pg} {f:FuncId} {args args':List V} {r:V} {y:Value} (H:List Ch) (hp:Pure P f args' r []) (ha:args'=args.map (V.map3 (lend H))) (hr:valOf r=some y) (hok:(freshAll args H H.length&&freshAll [r] H H.length&&allVec H)=true):Proc P f H.length args H r H:=by
 subst ha
 simp only[Bool.and_eq_true] at hok
 obtain⟨⟨h1,h2⟩,h3⟩:=hok
 obtain⟨hcall,hfr,hfr',_,_,hc⟩:=hp
 refine⟨hcall,h1,h2,Nat.le_refl _,Nat.le_refl _,fun w F ρ vals hF hE hH hargs=>?_⟩
 let F':Nat->Prop:=fun k=>F k∨ownB ρ H k
 have hFF:∀k,F k->F' k:=fun k hk=>.inl hk
 have hF':∀k,F' k->k<w.heap.size:=fun k hk=>by
  rcases hk with hk | ⟨i,hi,e⟩
  ·exact hF k hk
  ·exact (hH.ch i _ (List.getElem?_eq_getElem hi)).lt (bks_main e)
 have h1':=h1
 simp only[freshAll,Bool.and_eq_true,List.all_eq_true] at h1'
 have hargs':All2 (R3 ρ F' w) (args.map (V.map3 (lend H))) vals:=hargs.imp fun u v hu hr=>R3.map (p:=fresh H.length) (fun u v hf hr=>by
  cases u with
  | own i=>
   have hi:i<H.length:=by simpa [fresh] using hf
   have hm:=List.all_eq_true.1 h3 _ (List.getElem_mem hi)
   obtain⟨e1,e2⟩:=hr
   simp only[lend,List.getElem?_eq_getElem hi]
   cases hc:H[i] with
   | vec e sz n f=>
    have:=hH.ch i _ (List.getElem?_eq_getElem hi)
    rw[hc] at this
    obtain⟨xs,k1,k2⟩:=this
    subst e1
    exact vec_data (ρ:=ρ) hFF (fun b hb=>.inr ⟨i,hi,hb⟩) k1 k2
   | _=>rw[hc] at hm;cases hm
  | _=>exact R0.world hFF (fun _ _=>rfl) hr) (h1'.1 u hu) hr
 refine (hc w F' ρ vals hF' (hE.mono hFF fun _ _=>rfl) ⟨fun i c hi=>by simp at hi,fun i j b hi=>absurd hi (Nat.not_lt_zero _),fun i b hi=>absurd hi (Nat.not_lt_zero _)⟩ hargs').mono ?_
 rintro e w' ⟨v,ρ',F'',rfl,hk,_,_,_,_,hr3,_,_⟩
 obtain rfl:=valOf_sound hr hr3
 have hblk:∀k,k<w.heap.size->w'.heap[k]?=w.heap[k]?:=fun k hk'=>hk.block k hk' fun ⟨i,hi,_⟩=>absurd hi (Nat.not_lt_zero _)
 refine⟨v,ρ,F,rfl,⟨hk.os,hk.tape,hk.output,hk.size,fun k hk' _=>hblk k hk'⟩,fun _ _=>rfl,fun _ hk=>hk,fun k hk'=>Nat.lt_of_lt_of_le (hF k hk') hk.size,fun _ hk=>.inl hk,valOf_mk hr,⟨fun i c hi=>?_,hH.sep,hH.out⟩,fun i b hi e=>.inr ⟨i,hi,e⟩⟩
 have:=ChOK.keep (x:=0) (p:=fun _=>true) (k:=fun u=>u) (ρ':=ρ) (F':=F) (w':=w') (fun u v _ hr=>R0.world (fun _ hk=>hk) (fun k hk=>hblk k (hF k hk)) hr) (fun _ hk=>hk) (fun k hk=>hblk k (hF k hk)) rfl (fun b e=>hblk b ((hH.ch i c hi).lt e)) (by
  cases c<;>simp [Ch.all,all_true]) (hH.ch i c hi)
 rwa [chmap_id] at this
theorem Pure.ofLibD {P:Pg} {f:FuncId} {args:List V} {vals:List Value} {vs:Array Value} {d:D} (hc:Callable P.P f) (hfr:freshAll args [] 0=true) (ha:vals0 args=some vals) (hvs:vs=vals.toArray)
  (h:∀(w:World) (F:Nat->Prop),EnvOK P.env F w->Calls P.P f vs w fun e w'=>∃v,e=.returned v∧Go.RowKit.Below w.heap.size w w'∧RD (fun k=>w.heap.size≤k∧k<w'.heap.size) w' d v):Pure P f args (.d d) []:=by
 subst hvs
 refine⟨hc,hfr,rfl,Nat.le_refl _,Nat.le_refl _,fun w F ρ ys hF hE hH hargs=>?_⟩
 obtain rfl:=vals0_sound ha hargs
 refine (h w F hE).mono ?_
 rintro e w' ⟨v,rfl,hb,hr⟩
 obtain⟨b1,b2,b3,b4,b5⟩:=hb
 refine⟨v,ρ,fun k=>F k∨(w.heap.size≤k∧k<w'.heap.size),rfl,⟨b1,b2,b3,b4,fun k hk _=>b5 k hk⟩,fun _ _=>rfl,fun _ hk=>.inl hk,fun k hk=>?_,fun k hk=>?_,RD.mono (fun _ hk=>.inr hk) (fun _ _=>rfl) hr,⟨fun i c hi=>by simp at hi,fun i j b hi=>absurd hi (Nat.not_lt_zero _),fun i b hi=>absurd hi (Nat.not_lt_zero _)⟩,fun i b hi=>absurd hi (Nat.not_lt_zero _)⟩
 ·rcases hk with hk | hk
  ·exact Nat.lt_of_lt_of_le (hF k hk) b4
  ·exact hk.2
 ·rcases hk with hk | hk
  ·exact .inl hk
  ·exact .inr (.inl hk.1)
theorem Pure.args {P:Pg} {f:FuncId} {args args':List V} {r:V} {H':List Ch} (hp:Pure P f args r H') (hA:AEq args' args) (hfr:freshAll args' [] 0=true):Pure P f args' r H':=by
 obtain⟨hcall,_,hfr',h1,h2,hc⟩:=hp
 exact⟨hcall,hfr,hfr',h1,h2,fun w F ρ vals hF hE hH hargs=>hc w F ρ vals hF hE hH (AEq_sound hA hargs)⟩
theorem Pure.froze {P:Pg} {f:FuncId} {args:List V} {e:TypeId} {sz n:Nat} {g:Nat->List D} (hp:Pure P f args (.own 0) [.vec e sz n g]):Pure P f args (.d (.sl sz n g)) []:=by
 obtain⟨hcall,hfr,hfr',_,_,hc⟩:=hp
 refine⟨hcall,hfr,rfl,Nat.le_refl _,Nat.le_refl _,fun w F ρ vals hF hE hH hargs=>(hc w F ρ vals hF hE hH hargs).mono ?_⟩
 rintro e w' ⟨v,ρ',F',rfl,hk,hρ,hFF,hlt,hsub,hr,hhold,hmine⟩
 obtain⟨xs,k1,k2⟩:=hhold.ch 0 _ rfl
 obtain⟨e1,e2⟩:=(show R0 ρ' F' w' (.own 0) v from hr)
 subst e1
 refine⟨ρ' 0,ρ',fun k=>F' k∨blk (ρ' 0)=some k,rfl,hk,hρ,fun k hk=>.inl (hFF k hk),fun k hk=>?_,fun k hk=>?_,vec_data (ρ:=ρ') (fun _=>.inl) (fun b hb=>.inr hb) k1 k2,⟨fun i c hi=>by simp at hi,fun i j b hi=>absurd hi (Nat.not_lt_zero _),fun i b hi=>absurd hi (Nat.not_lt_zero _)⟩,fun i b hi=>absurd hi (Nat.not_lt_zero _)⟩
 ·rcases hk with hk | hk
  ·exact hlt k hk
  ·exact (hhold.ch 0 _ rfl).lt (bks_main hk)
 ·rcases hk with hk | hk
  ·exact hsub k hk
  ·exact .inr (hmine 0 k (by simp) hk)
theorem Cr.leExit {P:Pg} {g:Cfg} {C:Ctx} (x:Cr P g C) {s:St} {K:List Item} {Φ:Exit->St->Prop} (k:Go C K s fun e s=>∃s2,LE g.fix s s2∧Φ e s2):Go C K s Φ:=
 Go.relax (fun e s a w ⟨s2,h1,h2⟩ hs=>⟨s2,LE.sat (x.fix▸h1) hs,h2⟩) k
theorem lkGo {k:Key} {G:V->Bool->Prop} {z:V}:∀{es:List (Key×V)},G ((tblAt k es).getD z) (tblAt k es).isSome->lkGoals k G z es
 | [],h=>h
 | (a,v)::r,h=>by
  unfold tblAt at h
  refine⟨fun hk=>?_,fun hk=>?_⟩
  ·rw[if_pos hk] at h;exact h
  ·rw[if_neg hk] at h;exact lkGo h
theorem lkSome {k:Key} {G:V->Bool->Prop} {z v:V} {es:List (Key×V)} (h:tblAt k es=some v) (g:G v true):lkGoals k G z es:=lkGo (by rw[h];exact g)
theorem lkNone {k:Key} {G:V->Bool->Prop} {z:V} {es:List (Key×V)} (h:tblAt k es=none) (g:G z false):lkGoals k G z es:=lkGo (by rw[h];exact g)
def lendS (H:List (Nat×Ch)):V->V
 | .own i=>match get H i with
  | some (.vec _ sz n f)=>.d (.sl sz n f)
  | _=>.own i
 | v=>v
section
variable {C:Ctx} {s:St} {a:Act} {w:World} {ρ:Nat->Value} {F:Nat->Prop} {g:Cfg} {K:List Item} {Φ:Exit->St->Prop}
theorem call_borrow (h:SatW C s a w ρ F) {q:List (Nat×Bool)} (hq:pcA a.tmps q) {o:Oper} {f:FuncId} {A:List V} (hco:callOf s.L q o=some (f,A)) {args:List V} {r:V} {x:Value}
  (hp:Pure C.pg f args r []) (hx:valOf r=some x) (hA:AEq (A.map (V.map3 (lendS s.H))) args) :
  ∃vals,(execOp a.eval o).run C.P w=.ok (.enter f vals) w∧Calls C.P f vals w fun e w'=>e=.returned x∧Mod none w w':=by
 obtain⟨hcall,hfr,hfr',_,_,hcalls⟩:=hp
 unfold callOf at hco
 split at hco
 ·rename_i c hop
  split at hco
  ·rename_i fo hc
   split at hco
   ·rename_i f' caps A' he hes
    simp only[Option.some.injEq,Prod.mk.injEq] at hco
    obtain⟨rfl,rfl⟩:=hco
    obtain⟨cs,hcs,hcaps⟩:=(show R1 ρ F w (.fn f' caps) _ from (ev_sound h hq he).1)
    have hargs:=(evs_sound h hq hes).1
    have hvals:c.args.map a.eval++cs.toArray=(c.args.toList.map a.eval++cs).toArray:=by
     cases c.args;simp
    have hall:All2 (R3 ρ F w) (A'++caps) (c.args.toList.map a.eval++cs):=hargs.app (hcaps.mono fun u v hr=>R3_of (R2_of (R1_of hr)))
    let F':Nat->Prop:=fun k=>F k∨allBlocks ρ s.H k
    have hFF:∀k,F k->F' k:=fun k hk=>.inl hk
    have hF':∀k,F' k->k<w.heap.size:=fun k hk=>by
     rcases hk with hk | ⟨i,c,hi,e⟩
     ·exact h.lt k hk
     ·exact (h.ch i c hi).lt e
    have hall2:All2 (R3 ρ F' w) ((A'++caps).map (V.map3 (lendS s.H))) (c.args.toList.map a.eval++cs):=hall.imp fun u v hu hr=>R3.map (p:=fun _=>true) (fun u v _ hr=>by
     cases u with
     | own i=>
      simp only[lendS]
      cases hg:get s.H i with
      | none=>exact R0.world hFF (fun _ _=>rfl) hr
      | some ch=>
       cases ch with
       | vec e sz n f=>
        obtain⟨e1,e2⟩:=hr
        obtain⟨xs,k1,k2⟩:=h.ch i _ (get_mem hg)
        subst e1
        exact vec_data (ρ:=ρ) hFF (fun b hb=>.inr ⟨i,_,get_mem hg,hb⟩) k1 k2
       | _=>exact R0.world hFF (fun _ _=>rfl) hr
     | _=>exact R0.world hFF (fun _ _=>rfl) hr) ((all_true (fun _=>rfl) u).2.2) hr
    have hall3:=AEq_sound hA hall2
    refine⟨_,run_call hop hc hcs hcall w,?_⟩
    rw[hvals]
    refine (hcalls w F' ρ _ hF' (h.env.mono hFF fun _ _=>rfl) ⟨fun i c hi=>by simp at hi,fun i j b hi=>absurd hi (Nat.not_lt_zero _),fun i b hi=>absurd hi (Nat.not_lt_zero _)⟩ hall3).mono ?_
    rintro e w' ⟨v,ρ',F'',rfl,hk,_,_,_,_,hr3,_,_⟩
    refine⟨by rw[valOf_sound hx hr3],⟨hk.os,hk.tape,hk.output,hk.size,fun k hlt _=>hk.block k hlt fun ⟨i,hi,_⟩=>absurd hi (Nat.not_lt_zero _)⟩⟩
   ·simp at hco
  ·simp at hco
 ·simp at hco
theorem QGo.callB (hn:g.n=C.n) {all:Array Oper} {o:Oper} {rest:List Oper} {args:List V} {r:V} {f:FuncId} {A:List V} {d:Nat} {x:Value}
  (hp:Pure C.pg f args r []) (hx:valOf r=some x) (hgd:o.guard=none) (hd:o.dst=some d) (hdn:(Nat.blt d g.n&&r.all3 (fresh 0))=true) (hco:callOf s.L [] o=some (f,A)) (hA:AEq (A.map (V.map3 (lendS s.H))) args)
  (k:QGo C all rest {s with L:=put s.L d r} K Φ):QGo C all (o::rest) s K Φ:=by
 intro a w ρ F h
 simp only[Bool.and_eq_true] at hdn
 refine QGo.op_next hgd (x:=x) (fun w' hm=>?_) ?_
 ·obtain⟨vals,h1,h2⟩:=call_borrow (h.mod hm) (pc_nil _) hco hp hx hA
  unfold Oper.quietAt
  rw[h1]
  refine⟨rfl,h2.mono ?_⟩
  rintro e w'' ⟨rfl,hm2⟩
  exact⟨rfl,hm.trans hm2⟩
 ·rw[hd]
  exact k _ _ _ _ (h.put (by rw[←hn];simpa using hdn.1) (valOf_mk hx) (all3_imp (fun u hu=>fresh_mono (Nat.zero_le _) hu) hdn.2))
theorem Go.callB (hn:g.n=C.n) {all:Array Oper} {o:Oper} {rest:List Oper} {args:List V} {r:V} {f:FuncId} {A:List V} {d:Nat} {x:Value}
  (hp:Pure C.pg f args r []) (hx:valOf r=some x) (hgd:o.guard=none) (hd:o.dst=some d) (hdn:(Nat.blt d g.n&&r.all3 (fresh 0))=true) (hco:callOf s.L [] o=some (f,A)) (hA:AEq (A.map (V.map3 (lendS s.H))) args)
  (k:Go C (.ops all rest::K) {s with L:=put s.L d r} Φ):Go C (.ops all (o::rest)::K) s Φ:=by
 rintro a w ⟨ρ,F,h⟩
 simp only[Bool.and_eq_true] at hdn
 obtain⟨vals,h1,h2⟩:=call_borrow h (pc_nil _) hco hp hx hA
 show wqList C.rd C.P all (den C (conc C Φ) K) (o::rest) a w
 refine wqList_plain hgd fun N hN=>?_
 refine wqO_of h1 tR ?_
 rw[Oper.upon_enter]
 refine h2.mono ?_
 rintro e w' ⟨rfl,hm⟩
 refine hN _ _ ?_
 rw[hd]
 exact k _ _ ⟨ρ,F,(h.mod hm).put (by rw[←hn];simpa using hdn.1) (valOf_mk hx) (all3_imp (fun u hu=>fresh_mono (Nat.zero_le _) hu) hdn.2)⟩
end
namespace Cr
variable {P:Pg} {g:Cfg} {C:Ctx} (x:Cr P g C) {s s':St} {K K':List Item} {Φ:Exit->St->Prop} {ob:List Prop}
include x
theorem qcallB {all:Array Oper} {l rest:List Oper} {o:Oper} {args A:List V} {r:V} {f d:Nat} {y:Value} (h:qrun g all 1000 l s []=.op ob o rest s') (ho:AllP ob)
  (hco:callInfo g s' o=some (f,A,d)) (hp:Pure P f args r []) (hy:valOf r=some y) (hr:r.all3 (fresh 0)=true) (hA:AEq (A.map (V.map3 (lendS s'.H))) args) (k:QGo C all rest {s' with L:=put s'.L d r} K Φ):QGo C all l s K Φ:=by
 suffices kk:QGo C all (o::rest) s' K Φ from (qrun_holds (K:=K) (Φ:=Φ) x.ty x.n 1000 l s [] (by rw[h];exact⟨ho,kk⟩)).2
 unfold callInfo at hco
 split at hco
 ·rename_i d' hg hd
  cases hb:Nat.blt d' g.n with
  | false=>rw[hb] at hco;simp at hco
  | true=>
   rw[hb] at hco
   simp only[cond_true] at hco
   split at hco
   ·rename_i f' A' hc
    simp only[Option.some.injEq,Prod.mk.injEq] at hco
    obtain⟨rfl,rfl,rfl⟩:=hco
    exact QGo.callB x.n (x.prog▸hp) hy hg hd (by simp only[Bool.and_eq_true];exact⟨hb,hr⟩) hc hA k
   ·simp at hco
 ·simp at hco
end Cr
theorem Cx.perm {P:Pg} {g:Cfg} {C:Ctx} (x:Cx P g C) {s:St} {K:List Item} {Φ:Exit->St->Prop} (is:List Nat) (hp:okPerm is s.m g.fix=true) (k:Go C K (permS is s) Φ):Go C K s Φ:=fun a w hs=>k a w (hs.perm (x.fix▸hp))
end Go.Sx
set_option linter.unusedVariables false
set_option linter.unusedSimpArgs false
namespace Go.Sx
open Go.Shelf Go.RowKit Go.Proofs
section
variable {P:Program} {ρ:Ren}
end
end Go.Sx
set_option linter.unusedVariables false
set_option linter.unusedSimpArgs false
namespace Go.Sx
open Go.Shelf Go.RowKit Go.Proofs
theorem Cx.every3 {P:Pg} {g:Cfg} {C:Ctx} (x:Cx P g C) {s s':St} {K K':List Item} {Φ:Exit->St->Prop} {ob:List Prop} (kx:Nat) (is0 A:List Nat) (t:Ords) (s2:St) {id:Nat} {ops:Array Oper} (h:run g 1000 K s []=.code ob (.region id ops true) K' s') (ho:AllP ob) (hm:P.P.follows .mixedOrders=true)
  (hlow:(Nat.ble g.fix kx&&Nat.ble kx s'.m&&(delAll is0 s'.H).all fun q=>Nat.blt q.1 kx&&q.2.all (fresh kx))=true)
  (hB:planE ops A t=true) (hΦ:NoPanic Φ)
  {obA:List Prop} {sA:St} (hqA:qrun g ops 1000 (pickL ops.toList A) ⟨s'.L,delAll is0 s'.H,s'.m⟩ []=.done obA sA) (hoA:AllP obA)
  (he:∀C2,Cx P {g with fix:=kx} C2->EvT C2 ops (fun s=>LE kx s s2∨∃is,okPerm is s.m kx=true∧LE kx (permS is s) s2) t ⟨sA.L,onlyIn is0 s'.H,s'.m⟩)
  (k:Go C K' ⟨s2.L,app3 s2.H (delAll is0 s'.H),s2.m⟩ Φ):Go C K s Φ:=by
 simp only[Bool.and_eq_true,List.all_eq_true] at hlow
 obtain⟨⟨f1,f2⟩,hlow⟩:=hlow
 have f1:=Nat.le_of_ble_eq_true f1
 have f2:=Nat.le_of_ble_eq_true f2
 have hlow:∀i c,(i,c)∈delAll is0 s'.H->i<kx∧c.all (fresh kx)=true:=fun i c hi=>⟨by simpa using (hlow (i,c) hi).1,(hlow (i,c) hi).2⟩
 refine st x.ty x.n x.fix h ⟨ho,?_⟩
 rintro a w ⟨ρ,F,hs⟩
 have hd:Mod none w {w with drawn:=w.drawn+1}:=⟨rfl,rfl,rfl,Nat.le_refl _,fun _ _ _=>rfl⟩
 have hs1:=hs.mod hd
 generalize hw1:({w with drawn:=w.drawn+1}:World)=w1 at hs1
 let S0:World->Prop:=fun w'=>∀k,k<w1.heap.size->¬blocksOf ρ s'.H is0 k->w'.heap[k]?=w1.heap[k]?
 obtain⟨_,hmA,hrA⟩:=qrun_reads (F:=F) x.ty x.n (S:=S0) (fun w' hw' k hk hlt=>hw' k hlt hk) 1000 _ _ _ hqA hoA
 refine x.ofWp ?_
 have hP:C.P.follows .mixedOrders=true:=x.progP.symm▸hm
 simp only[planE,Bool.and_eq_true] at hB
 obtain⟨⟨hns,hsz⟩,hpl⟩:=hB
 have hsz:=Nat.eq_of_beq_eq_true hsz
 refine wp_region_any hP (wpAny_of_held (S:=S0) _ _ _ _ ?_)
 have inv0:Inv .any ops [] (Array.replicate ops.size false):=⟨by simp,fun j oj _ hl=>(by rw[getD_replicate_false] at hl;cases hl),fun t ht=>(by cases ht)⟩
 have key:wpAnyH C.P .any ops (den C (conc C Φ) K') S0 (A.length+t.depth) (Array.replicate ops.size false) a {w with drawn:=w.drawn+1}:=?_
 ·rw[hsz] at key;exact key
 refine planH_sound (T:=[]) hns (fun c o v a w ho hq=>den_quiet hΦ.quiet K' c ho v a w hq) (by rw[hw1];exact fun k _ _=>rfl) (fun listed a1 inv hk hl=>?_) A _ a inv0 hpl (hrA a hs1)
 rw[hw1]
 simp only[Bool.and_eq_true] at hk
 have hl:SatW C ⟨sA.L,s'.H,s'.m⟩ a1 w1 ρ F:=hl
 let C2:=C.subk s' is0 w1 ρ F kx
 have h2f:SatW C2 ⟨sA.L,onlyIn is0 s'.H,s'.m⟩ a1 w1 ρ F:=hl.framek (s:=⟨sA.L,s'.H,s'.m⟩) is0 f2
 have hx2:Cx P {g with fix:=kx} C2:=⟨⟨x.prog,x.n,rfl,x.tys⟩,x.rd⟩
 refine EvT.soundH (C:=C2) (fun s a w hs=>?_) (fun s3 a3 w3 hs3 hj=>?_) t.depth t listed _ a1 w1 hk.1 hk.2 (he C2 hx2) ⟨ρ,F,h2f⟩ (Nat.le_refl _)
 ·obtain⟨ρ',F',hs⟩:=hs
  exact fun k hk hb=>hs.keep.block k hk hb
 ·have hs4:Sat C2 s2 a3 w3:=by
   rcases hj with hj | ⟨is,hp,hj⟩
   ·exact LE.sat hj hs3
   ·exact LE.sat hj (Sat.perm hp hs3)
  obtain⟨ρ4,F4,h4⟩:=hs4
  exact k a3 w3 ⟨ρ4,F4,hl.unframek (s:=⟨sA.L,s'.H,s'.m⟩) (x.fix▸f1) hlow h4⟩
end Go.Sx
set_option linter.unusedVariables false
set_option linter.unusedSimpArgs false
namespace Go.Sx
open Go.Shelf Go.RowKit Go.Proofs
def EvP (C:Ctx) (ops:Array Oper) (Φ1:Exit->St->Prop) (J:St->Prop):Ords->St->Prop
 | .leaf,s=>J s
 | .no,_=>True
 | .fork i a b,s=>Go C [.ops ops (pickL ops.toList [i]), .back (EvP C ops Φ1 J a)] s Φ1∧EvP C ops Φ1 J b s
theorem EvP.pick {C:Ctx} {ops:Array Oper} {Φ1:Exit->St->Prop} {J:St->Prop} {t:Ords} {s:St} {l:Array Bool} (h:EvP C ops Φ1 J t s) (hc:t.chk ops l=true) {i:Nat} (hi:i∈t.firsts) :
  ∃a,a.chk ops (l.setIfInBounds i true)=true∧a.top ops (l.setIfInBounds i true)=true∧a.depth+1≤t.depth∧Go C [.ops ops (pickL ops.toList [i]), .back (EvP C ops Φ1 J a)] s Φ1:=by
 induction t with
 | leaf=>cases hi
 | no=>cases hi
 | fork j a b _ ih=>
  simp only[Ords.chk,Bool.and_eq_true] at hc
  obtain⟨⟨h2,h3⟩,h4⟩:=hc
  rcases List.mem_cons.1 hi with e | hi
  ·subst e;exact⟨a,h2,h3,Nat.le_max_left _ _,h.1⟩
  ·obtain⟨c,c1,c2,c3,c4⟩:=ih h.2 h4 hi
   exact⟨c,c1,c2,Nat.le_trans c3 (Nat.le_max_right _ _),c4⟩
theorem EvP.soundH {C:Ctx} {ops:Array Oper} {Φ1:Exit->St->Prop} {J:St->Prop} {Q:Exit->Act->World->Prop} {S0:World->Prop} (hS:∀s a w,Sat C s a w->S0 w) (hJ:∀s a w,Sat C s a w->J s->Q .normal a w) (hP:∀c s a w,Sat C s a w->Φ1 (.panic c) s->Q (.panic c) a w) (hno:∀s,¬Φ1 .outgrown s):∀(n:Nat) (t:Ords) (l:Array Bool) (s:St) (a:Act) (w:World),t.chk ops l=true->t.top ops l=true->EvP C ops Φ1 J t s->Sat C s a w->t.depth≤n->wpAnyH C.P .any ops Q S0 n l a w
 | n, .leaf,l,s,a,w,hc,_,ht,hs,_=>by
  have hr:Region.ready .any ops l=[]:=by simpa [Ords.chk] using hc
  cases n with
  | zero=>exact⟨hr,hJ s a w hs ht⟩
  | succ n=>exact⟨fun _=>hJ s a w hs ht,fun i hi=>by rw[hr] at hi;cases hi⟩
 | n, .no,l,s,a,w,_,htop,_,_,_=>by simp [Ords.top] at htop
 | 0, .fork i x y,l,s,a,w,_,_,_,_,hd=>by
  have:x.depth+1≤(Ords.fork i x y).depth:=Nat.le_max_left _ _
  omega
 | n+1, .fork i x y,l,s,a,w,hc,htop,ht,hs,hd=>by
  have hr:(Ords.fork i x y).firsts=Region.ready .any ops l:=by simpa [Ords.top] using htop
  refine⟨fun h=>(by rw[←hr] at h;cases h),fun j hj=>?_⟩
  rw[←hr] at hj
  obtain⟨b,b1,b2,b4,b3⟩:=ht.pick hc hj
  refine one_op b3 hs (fun s1 a1 w1 h1 hj1=>⟨hS s1 a1 w1 h1,EvP.soundH hS hJ hP hno n b _ s1 a1 w1 b1 b2 hj1 h1 (by omega)⟩) (fun c s a w h1 h2=>hP c s a w h1 h2) hno
theorem Cx.every3Q {P:Pg} {g:Cfg} {C:Ctx} (x:Cx P g C) {s s':St} {K K':List Item} {Φ:Exit->St->Prop} {ob:List Prop} (kx:Nat) (is0 A:List Nat) (t:Ords) (s2:St) {id:Nat} {ops:Array Oper} (h:run g 1000 K s []=.code ob (.region id ops true) K' s') (ho:AllP ob) (hm:P.P.follows .mixedOrders=true)
  (hlow:(Nat.ble g.fix kx&&Nat.ble kx s'.m&&(delAll is0 s'.H).all fun q=>Nat.blt q.1 kx&&q.2.all (fresh kx))=true)
  (hB:planE ops A t=true) (hΦ:QuietP ops Φ)
  {obA:List Prop} {sA:St} (hqA:qrun g ops 1000 (pickL ops.toList A) ⟨s'.L,delAll is0 s'.H,s'.m⟩ []=.done obA sA) (hoA:AllP obA)
  (he:∀C2,Cx P {g with fix:=kx} C2->EvP C2 ops (FrP Φ (delAll is0 s'.H)) (fun s=>LE kx s s2∨∃is,okPerm is s.m kx=true∧LE kx (permS is s) s2) t ⟨sA.L,onlyIn is0 s'.H,s'.m⟩)
  (k:Go C K' ⟨s2.L,app3 s2.H (delAll is0 s'.H),s2.m⟩ Φ):Go C K s Φ:=by
 simp only[Bool.and_eq_true,List.all_eq_true] at hlow
 obtain⟨⟨f1,f2⟩,hlow⟩:=hlow
 have f1:=Nat.le_of_ble_eq_true f1
 have f2:=Nat.le_of_ble_eq_true f2
 have hlow:∀i c,(i,c)∈delAll is0 s'.H->i<kx∧c.all (fresh kx)=true:=fun i c hi=>⟨by simpa using (hlow (i,c) hi).1,(hlow (i,c) hi).2⟩
 refine st x.ty x.n x.fix h ⟨ho,?_⟩
 rintro a w ⟨ρ,F,hs⟩
 have hd:Mod none w {w with drawn:=w.drawn+1}:=⟨rfl,rfl,rfl,Nat.le_refl _,fun _ _ _=>rfl⟩
 have hs1:=hs.mod hd
 generalize hw1:({w with drawn:=w.drawn+1}:World)=w1 at hs1
 let S0:World->Prop:=fun w'=>∀k,k<w1.heap.size->¬blocksOf ρ s'.H is0 k->w'.heap[k]?=w1.heap[k]?
 obtain⟨_,hmA,hrA⟩:=qrun_reads (F:=F) x.ty x.n (S:=S0) (fun w' hw' k hk hlt=>hw' k hlt hk) 1000 _ _ _ hqA hoA
 refine x.ofWp ?_
 have hP:C.P.follows .mixedOrders=true:=x.progP.symm▸hm
 simp only[planE,Bool.and_eq_true] at hB
 obtain⟨⟨hns,hsz⟩,hpl⟩:=hB
 have hsz:=Nat.eq_of_beq_eq_true hsz
 refine wp_region_any hP (wpAny_of_held (S:=S0) _ _ _ _ ?_)
 have inv0:Inv .any ops [] (Array.replicate ops.size false):=⟨by simp,fun j oj _ hl=>(by rw[getD_replicate_false] at hl;cases hl),fun t ht=>(by cases ht)⟩
 have key:wpAnyH C.P .any ops (den C (conc C Φ) K') S0 (A.length+t.depth) (Array.replicate ops.size false) a {w with drawn:=w.drawn+1}:=?_
 ·rw[hsz] at key;exact key
 refine planH_sound (T:=[]) hns (fun c o v a w ho hq=>den_quiet hΦ K' c ho v a w hq) (by rw[hw1];exact fun k _ _=>rfl) (fun listed a1 inv hk hl=>?_) A _ a inv0 hpl (hrA a hs1)
 rw[hw1]
 simp only[Bool.and_eq_true] at hk
 have hl:SatW C ⟨sA.L,s'.H,s'.m⟩ a1 w1 ρ F:=hl
 let C2:=C.subk s' is0 w1 ρ F kx
 have h2f:SatW C2 ⟨sA.L,onlyIn is0 s'.H,s'.m⟩ a1 w1 ρ F:=hl.framek (s:=⟨sA.L,s'.H,s'.m⟩) is0 f2
 have hx2:Cx P {g with fix:=kx} C2:=⟨⟨x.prog,x.n,rfl,x.tys⟩,x.rd⟩
 refine EvP.soundH (C:=C2) (fun s a w hs=>?_) (fun s3 a3 w3 hs3 hj=>?_) (fun c s3 a3 w3 hs3 hj=>?_) (fun s h=>by obtain⟨⟨c,h⟩,_⟩:=h;cases h) t.depth t listed _ a1 w1 hk.1 hk.2 (he C2 hx2) ⟨ρ,F,h2f⟩ (Nat.le_refl _)
 ·obtain⟨ρ',F',hs⟩:=hs
  exact fun k hk hb=>hs.keep.block k hk hb
 ·have hs4:Sat C2 s2 a3 w3:=by
   rcases hj with hj | ⟨is,hp,hj⟩
   ·exact LE.sat hj hs3
   ·exact LE.sat hj (Sat.perm hp hs3)
  obtain⟨ρ4,F4,h4⟩:=hs4
  exact k a3 w3 ⟨ρ4,F4,hl.unframek (s:=⟨sA.L,s'.H,s'.m⟩) (x.fix▸f1) hlow h4⟩
 ·obtain⟨ρ4,F4,h4⟩:=hs3
  rw[den_pan]
  exact⟨_,⟨ρ4,F4,hl.unframek (s:=⟨sA.L,s'.H,s'.m⟩) (x.fix▸f1) hlow h4⟩,hj.2.2⟩
theorem Cx.every3D {P:Pg} {g:Cfg} {C:Ctx} (x:Cx P g C) {s s':St} {K K':List Item} {Φ:Exit->St->Prop} {ob:List Prop} (kx:Nat) (is0 A:List Nat) (t:Ords) {id:Nat} {ops:Array Oper} (h:run g 1000 K s []=.code ob (.region id ops true) K' s') (ho:AllP ob) (hm:P.P.follows .mixedOrders=true)
  (hlow:(Nat.ble g.fix kx&&Nat.ble kx s'.m&&(delAll is0 s'.H).all fun q=>Nat.blt q.1 kx&&q.2.all (fresh kx))=true)
  (hB:planE ops A t=true) (hΦ:QuietP ops Φ)
  {obA:List Prop} {sA:St} (hqA:qrun g ops 1000 (pickL ops.toList A) ⟨s'.L,delAll is0 s'.H,s'.m⟩ []=.done obA sA) (hoA:AllP obA)
  (he:∀C2,Cx P {g with fix:=kx} C2->EvP C2 ops (FrP Φ (delAll is0 s'.H)) (fun _=>False) t ⟨sA.L,onlyIn is0 s'.H,s'.m⟩):Go C K s Φ:=by
 simp only[Bool.and_eq_true,List.all_eq_true] at hlow
 obtain⟨⟨f1,f2⟩,hlow⟩:=hlow
 have f1:=Nat.le_of_ble_eq_true f1
 have f2:=Nat.le_of_ble_eq_true f2
 have hlow:∀i c,(i,c)∈delAll is0 s'.H->i<kx∧c.all (fresh kx)=true:=fun i c hi=>⟨by simpa using (hlow (i,c) hi).1,(hlow (i,c) hi).2⟩
 refine st x.ty x.n x.fix h ⟨ho,?_⟩
 rintro a w ⟨ρ,F,hs⟩
 have hd:Mod none w {w with drawn:=w.drawn+1}:=⟨rfl,rfl,rfl,Nat.le_refl _,fun _ _ _=>rfl⟩
 have hs1:=hs.mod hd
 generalize hw1:({w with drawn:=w.drawn+1}:World)=w1 at hs1
 let S0:World->Prop:=fun w'=>∀k,k<w1.heap.size->¬blocksOf ρ s'.H is0 k->w'.heap[k]?=w1.heap[k]?
 obtain⟨_,hmA,hrA⟩:=qrun_reads (F:=F) x.ty x.n (S:=S0) (fun w' hw' k hk hlt=>hw' k hlt hk) 1000 _ _ _ hqA hoA
 refine x.ofWp ?_
 have hP:C.P.follows .mixedOrders=true:=x.progP.symm▸hm
 simp only[planE,Bool.and_eq_true] at hB
 obtain⟨⟨hns,hsz⟩,hpl⟩:=hB
 have hsz:=Nat.eq_of_beq_eq_true hsz
 refine wp_region_any hP (wpAny_of_held (S:=S0) _ _ _ _ ?_)
 have inv0:Inv .any ops [] (Array.replicate ops.size false):=⟨by simp,fun j oj _ hl=>(by rw[getD_replicate_false] at hl;cases hl),fun t ht=>(by cases ht)⟩
 have key:wpAnyH C.P .any ops (den C (conc C Φ) K') S0 (A.length+t.depth) (Array.replicate ops.size false) a {w with drawn:=w.drawn+1}:=?_
 ·rw[hsz] at key;exact key
 refine planH_sound (T:=[]) hns (fun c o v a w ho hq=>den_quiet hΦ K' c ho v a w hq) (by rw[hw1];exact fun k _ _=>rfl) (fun listed a1 inv hk hl=>?_) A _ a inv0 hpl (hrA a hs1)
 rw[hw1]
 simp only[Bool.and_eq_true] at hk
 have hl:SatW C ⟨sA.L,s'.H,s'.m⟩ a1 w1 ρ F:=hl
 let C2:=C.subk s' is0 w1 ρ F kx
 have h2f:SatW C2 ⟨sA.L,onlyIn is0 s'.H,s'.m⟩ a1 w1 ρ F:=hl.framek (s:=⟨sA.L,s'.H,s'.m⟩) is0 f2
 have hx2:Cx P {g with fix:=kx} C2:=⟨⟨x.prog,x.n,rfl,x.tys⟩,x.rd⟩
 refine EvP.soundH (C:=C2) (fun s a w hs=>?_) (fun s3 a3 w3 hs3 hj=>?_) (fun c s3 a3 w3 hs3 hj=>?_) (fun s h=>by obtain⟨⟨c,h⟩,_⟩:=h;cases h) t.depth t listed _ a1 w1 hk.1 hk.2 (he C2 hx2) ⟨ρ,F,h2f⟩ (Nat.le_refl _)
 ·obtain⟨ρ',F',hs⟩:=hs
  exact fun k hk hb=>hs.keep.block k hk hb
 ·exact hj.elim
 ·obtain⟨ρ4,F4,h4⟩:=hs3
  rw[den_pan]
  exact⟨_,⟨ρ4,F4,hl.unframek (s:=⟨sA.L,s'.H,s'.m⟩) (x.fix▸f1) hlow h4⟩,hj.2.2⟩
end Go.Sx
set_option linter.unusedVariables false
set_option linter.unusedSimpArgs false
namespace Go.Sx
open Go.Shelf Go.RowKit Go.Proofs
section
variable {C:Ctx} {s:St} {a:Act} {w w':World} {ρ:Nat->Value} {F:Nat->Prop} {g:Cfg} {K:List Item} {Φ:Exit->St->Prop}
end
end Go.Sx
