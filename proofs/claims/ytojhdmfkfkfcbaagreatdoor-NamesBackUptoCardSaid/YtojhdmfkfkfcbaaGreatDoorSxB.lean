import Derived.Test.YtojhdmfkfkfcbaaGreatDoorSxA
import Derived.MapKept
import Derived.Laws.Tables
set_option maxHeartbeats 1000000000
set_option linter.unusedSimpArgs false
set_option linter.unusedVariables false
namespace Go.Sx
section
variable{P:Program}{w:World}{ρ:Nat->Value}{F:Nat->Prop}{g:Cfg}{m:Nat}
abbrev Agree(w w':World):Prop:=∀k,k<w.heap.size->w'.heap[k]?=w.heap[k]?
def Agr(B:Nat->Prop)(w w':World):Prop:=∀k,B k->k<w.heap.size->w'.heap[k]?=w.heap[k]?
variable{B:Nat->Prop}
theorem y8{w w':World}(h:Agr B w w'){a:Addr}{v:Value}(hB:B a.block)(hc:w.cell? a=some v):w'.cell? a=some v:=
 (World.cell?_of_block (w:=w) (h a.block hB (World.block_lt_of_cell? w a hc))).trans hc
theorem Xp{t:TypeId}{ti:TI}(h:ti.OK P t):∃d,P.underlying t=some d:=by
 have hk:=h.und
 cases hh:ti.kind<;>rw[hh] at hk
 case struct fs ks=>obtain⟨⟨f,h1,_⟩,_⟩:=hk;exact⟨_,h1⟩
 case other=>obtain⟨d,h1,_⟩:=hk;exact⟨_,h1⟩
 case func=>obtain⟨_,_,_,h1⟩:=hk;exact⟨_,h1⟩
 case iface=>obtain⟨_,h1⟩:=hk;exact⟨_,h1⟩
 case ptr=>obtain⟨_,h1⟩:=hk;exact⟨_,h1⟩
 all_goals exact⟨_,hk⟩
theorem rV{t:TypeId}{ti:TI}(h:ti.OK P t)(w:World):(isAgg t).run P w=.ok (Fg ti.kind) w:=by
 have hk:=h.und
 unfold isAgg
 cases hh:ti.kind<;>rw[hh] at hk
 case struct fs ks=>obtain⟨⟨f,h1,_⟩,_⟩:=hk;simp only[Sem.run_bind,aP h1,Result.andThen];rfl
 case other=>
  obtain⟨d,h1,h2⟩:=hk
  simp only[Sem.run_bind,aP h1,Result.andThen]
  cases d<;>first | rfl | exact h2.elim
 case func=>obtain⟨_,_,_,h1⟩:=hk;simp only[Sem.run_bind,aP h1,Result.andThen];rfl
 case iface=>obtain⟨_,h1⟩:=hk;simp only[Sem.run_bind,aP h1,Result.andThen];rfl
 case ptr=>obtain⟨_,h1⟩:=hk;simp only[Sem.run_bind,aP h1,Result.andThen];rfl
 all_goals (simp only[Sem.run_bind,aP hk,Result.andThen];rfl)
theorem run_sizeOf{t:TypeId}{ti:TI}(h:ti.OK P t)(w:World):(sizeOf t).run P w=.ok ti.size w:=by
 obtain⟨i,z,h1,h2,_⟩:=h.info
 simp [sizeOf,typeInfo,h1,h2]
theorem jA(hg:bV P g.tys){e:TypeId}{sz:Nat}(h:isz g e sz=true)(w:World):(sizeOf e).run P w=.ok sz w:=by
 unfold isz at h
 cases hl:lk g e with
 | none=>rw[hl] at h;simp at h
 | some te=>
  rw[hl] at h
  have:=agU h
  rw[run_sizeOf (bS hg hl),this]
theorem Xq{ck:Bool}{op:UnOp}{u v:V}{x:Value}{ob:List Prop}(h:unE ck op u=some (v,ob))(hob:ak ob)(hx:R3 ρ F w u x) :
  ∃r,R3 ρ F w v r∧v.aQ (fresh m)=true∧∀w',(Op.unary op x).run P w'=.ok r w':=by
 unfold unE at h
 split at h
 ·cases (show RD F w _ _ from hx)
  split at h
  ·obtain⟨rfl,rfl⟩:=Prod.mk.inj (agS h)
   exact⟨_,RD.bool _,Z,λw'=>rfl⟩
  ·simp at h
 ·cases (show RD F w _ _ from hx)
  rename_i k n
  split at h
  ·obtain⟨rfl,rfl⟩:_∧_:=⟨congrArg Prod.fst (agS h),congrArg Prod.snd (agS h)⟩
   refine⟨.int k (k.wrap (0-n)),?_,?_,λw'=>by simp [Op.unary,Op.intArith]⟩
   ·rw[rU hob];exact RD.int _ _
   ·rw[rU hob];rfl
  ·obtain⟨rfl,rfl⟩:=Prod.mk.inj (agS h)
   exact⟨_,RD.int _ _,Z,λw'=>by simp [Op.unary,Op.intBits,ou]⟩
  ·simp at h
 ·simp at h
theorem aaz{us:List V}{cs:List Value}(h:aH (R1 ρ F w) us cs):∀{n:Nat},n<us.length->∃c,cs[n]?=some c∧R1 ρ F w (us.getD n .dead) c:=by
 induction us generalizing cs with
 | nil=>exact λh=>absurd h (agV _)
 | cons u us ih=>cases cs with
  | nil=>exact h.elim
  | cons c cs=>
   intro n hn
   cases n with
   | zero=>exact⟨c,rfl,h.1⟩
   | succ n=>exact ih h.2 (Nat.lt_of_succ_lt_succ hn)
theorem Sj:∀{us:List V} {n:Nat} {d:D},yD us n=some d->n<us.length->us.getD n .dead=.d d
 | [],_,_,h,_=>by simp [yD] at h
 | [.d a],0,d,h,_=>by simp only[yD,agR] at h;subst h;rfl
 | [.d a],n+1,d,_,hn=>by simp at hn
 | .d a::b::r,n,d,h,hn=>by
  simp only[yD] at h
  split at h
  ·rename_i e he
   simp only[agR] at h
   subst h
   cases n with
   | zero=>rw[vI rfl];rfl
   | succ n=>
    rw[vJ (Nat.succ_ne_zero n)]
    show (b::r).getD n .dead=.d e
    exact Sj (us:=b::r) (n:=n) he (by simpa using hn)
  ·simp at h
 | .aD::_,_,_,h,_=>by simp [yD] at h
 | .ptr _ _::_,_,_,h,_=>by simp [yD] at h
 | .own _::_,_,_,h,_=>by simp [yD] at h
 | .bD _ _ _ _::_,_,_,h,_=>by simp [yD] at h
 | .gU _::_,_,_,h,_=>by simp [yD] at h
 | .fn _ _::_,_,_,h,_=>by simp [yD] at h
 | .agg _::_,_,_,h,_=>by simp [yD] at h
 | .tup _::_,_,_,h,_=>by simp [yD] at h
 | .g _ _::_,_,_,h,_=>by simp [yD] at h
 | .dead::_,_,_,h,_=>by simp [yD] at h
theorem Ur(hg:bV P g.tys){t:TypeId}{x i v:V}{vx vi:Value}{ob:List Prop}(h:acM g t x i=some (v,ob))(hob:ak ob)(hx:R3 ρ F w x vx)(hxf:x.aQ (fresh m)=true)(hi:R3 ρ F w i vi) :
  ∃r,R3 ρ F w v r∧v.aQ (fresh m)=true∧∀w',(Instr.index t vx vi).run P w'=.ok r w':=by
 unfold acM at h
 split at h
 ·rename_i ti s k n hl
  cases (show RD F w _ _ from hx);cases (show RD F w _ _ from hi)
  split at h
  ·rename_i hk
   have hu:P.underlying t=some .string:=by have:=(bS hg hl).und;rw[hk] at this;exact this
   obtain⟨rfl,rfl⟩:=Prod.mk.inj (agS h)
   obtain⟨h0,h1⟩:=hob
   refine⟨_,RD.int _ _,Z,λw'=>?_⟩
   have hlt:n.toNat<s.size:=by omega
   have hlt':n.toNat<s.data.toList.length:=by simpa using hlt
   simp only[Instr.index,asIntOf,Sem.run_bind,aP hu,Result.andThen,Sem.run_pure,h0,if_true]
   have e:s[n.toNat]?=some (s[n.toNat]):=getElem?_pos s n.toNat hlt
   rw[e]
   have e2:s.data.toList.getD n.toNat 0=s[n.toNat]:=by
    rw[agM,agO hlt'];rfl
   simp only[sb,e2]
   rfl
  ·simp at h
 ·rename_i ti us k n hl
  split at h
  ·rename_i len e hk
   have hu:P.underlying t=some (.array len e):=by have:=(bS hg hl).und;rw[hk] at this;exact this
   split at h
   ·rename_i te hte
    cases hb:(te.kind.flat&&(Nat.beq te.size 1&&Nat.beq len us.length)) with
    | false=>rw[hb] at h;simp at h
    | true=>
     rw[hb] at h
     simp only[cond_true] at h
     split at h
     ·rename_i d hd
      simp only[agR,agW] at h
      obtain⟨rfl,rfl⟩:=h
      simp only[agN] at hb
      obtain⟨b1,b2,b3⟩:=hb
      have b2:=agU b2
      have b3:=agU b3
      obtain⟨cs,rfl,hall⟩:∃cs:List Value,vx=.agg cs.toArray∧aH (R1 ρ F w) us cs:=hx
      cases (show RD F w _ _ from hi)
      obtain⟨h0,h1⟩:0≤n∧n<(len:Int):=hob
      obtain⟨c,hc,hr⟩:=aaz hall (n:=n.toNat) (by omega)
      rw[Sj hd (by omega)] at hr
      have hagg:Fg te.kind=false:=by
       cases hkk:te.kind<;>rw[hkk] at b1<;>first | rfl | cases b1
      refine⟨c,hr,Z,λw'=>?_⟩
      simp only[Instr.index,asIntOf,Sem.run_bind,aP hu,Result.andThen,Sem.run_pure,h0,h1,and_self,if_true,run_sizeOf (bS hg hte),b2,part,rV (bS hg hte),hagg]
      simp [hc]
     ·simp at h
   ·simp at h
  ·simp at h
 ·simp at h
theorem Us(hg:bV P g.tys){C:Ctx}{s:St}{a:Act}(hs:aF C s a w ρ F){t:TypeId}{ty:TypeId}{x v:V}{vx:Value}{ob:List Prop}(h:acO g s.H t x=some (v,ob))(hx:R3 ρ F w x vx) :
  ∃r,R3 ρ F w v r∧v.aQ (fresh m)=true∧∀w',(Builtin.len_ #[t] ty #[vx]).run P w'=.ok r w':=by
 have slc:∀{e a n c},P.underlying t=some (.slice e)->vx=.slice a n c->∃r,R3 ρ F w (vi (n:Int)) r∧(vi (n:Int)).aQ (fresh m)=true∧∀w',(Builtin.len_ #[t] ty #[vx]).run P w'=.ok r w':=by
  intro e a n c hu hv
  subst hv
  exact⟨_,RD.int _ _,Z,λw'=>by simp [Builtin.len_,aP hu,goInt]⟩
 unfold acO at h
 split at h
 ·simp at h
 ·rename_i ti hl
  have hk:=(bS hg hl).und
  split at h
  ·rename_i hkk
   rw[hkk] at hk
   cases (show RD F w _ _ from hx)
   obtain⟨rfl,rfl⟩:=Prod.mk.inj (agS h)
   exact⟨_,RD.int _ _,Z,λw'=>by simp [Builtin.len_,aP (show P.underlying t=some .string from hk),goInt]⟩
  ·rename_i hkk
   rw[hkk] at hk
   obtain⟨rfl,rfl⟩:=Prod.mk.inj (agS h)
   exact slc hk (show vx=_ from hx)
  ·rename_i e hkk _
   rw[hkk] at hk
   split at h
   ·rename_i sz n f hp
    obtain⟨rfl,rfl⟩:=Prod.mk.inj (agS h)
    unfold parts at hp
    split at hp
    ·simp only[agR,agW] at hp
     obtain⟨rfl,rfl,rfl⟩:=hp
     cases (show RD F w _ _ from hx)
     ·exact slc hk Z
     ·exact slc hk Z
    ·rename_i id _
     split at hp
     ·rename_i e' sz' n' f' hgH
      simp only[agR,agW] at hp
      obtain⟨rfl,rfl,rfl⟩:=hp
      obtain⟨xs,ho,_⟩:=hs.ch id _ (get_mem hgH)
      have hv:vx=ρ id:=(show R0 ρ F w (.own id) vx from hx).1
      rcases ho.2 with⟨h1,h2⟩ | ⟨b,cap,cur,h1,_⟩
      ·subst h2;exact slc hk (hv.trans h1)
      ·exact slc hk (hv.trans h1)
     ·simp at hp
    ·simp at hp
   ·split at h
    ·rename_i n hp
     obtain⟨rfl,rfl⟩:=Prod.mk.inj (agS h)
     unfold abS at hp
     split at hp
     ·rename_i id _ _
      split at hp
      ·rename_i hgH
       simp only[agR] at hp
       subst hp
       obtain⟨xs,ho,_⟩:=hs.ch id _ (get_mem hgH)
       have hv:vx=ρ id:=(show R0 ρ F w (.own id) vx from hx).1
       rcases ho.2 with⟨h1,h2⟩ | ⟨b,cap,cur,h1,_⟩
       ·subst h2;exact slc hk (hv.trans h1)
       ·exact slc hk (hv.trans h1)
      ·rename_i hgH
       simp only[agR] at hp
       subst hp
       obtain⟨xs,ho,_⟩:=hs.ch id _ (get_mem hgH)
       have hv:vx=ρ id:=(show R0 ρ F w (.own id) vx from hx).1
       rcases ho.2 with⟨h1,h2⟩ | ⟨b,cap,cur,h1,_⟩
       ·subst h2;exact slc hk (hv.trans h1)
       ·exact slc hk (hv.trans h1)
      ·simp at hp
     ·simp at hp
    ·simp at h
  ·rename_i n e hkk
   rw[hkk] at hk
   obtain⟨rfl,rfl⟩:=Prod.mk.inj (agS h)
   exact⟨_,RD.int _ _,Z,λw'=>by simp [Builtin.len_,aP (show P.underlying t=some (.array n e) from hk),goInt]⟩
  ·simp at h
theorem abT(p:V->Bool)(hp:∀d,p (.d d)=true):∀us:List D,(us.map V.d).all (V.all1 p)=true:=by
 intro us;simp [V.all1,hp]
theorem xE{ti:TI}{t:TypeId}(hti:ti.OK P t){us:List V}{v:V}(h:asV ti us=some v){cs:List Value}(hr:aH (R1 ρ F w) us cs)(hf:us.all (V.all1 (fresh m))=true){b o:Nat}
  (hc:∀j x,cs[j]?=some x->w.cell? ⟨b,o+j,none⟩=some x) (hB:B b) :
  ∃r,R3 ρ F w v r∧v.aQ (fresh m)=true∧∀w',Agr B w w'->(loadVar t ⟨b,o,none⟩).run P w'=.ok r w':=by
 unfold asV at h
 cases hk:Fg ti.kind with
 | true=>
  rw[hk] at h
  simp only[cond_true] at h
  cases hn:Nat.beq (us.take ti.size).length ti.size with
  | false=>rw[hn] at h;simp at h
  | true=>
   rw[hn] at h
   simp only[cond_true,agR] at h
   subst h
   have hlen:=agU hn
   have hcl:(cs.take ti.size).length=ti.size:=by rw[←(hr.take ti.size).length];exact hlen
   refine⟨.agg (cs.take ti.size).toArray,⟨_,Z,hr.take _⟩,?_,λw' hw'=>?_⟩
   ·simp only[V.aQ,V.all2,List.all_eq_true] at *
    exact λx hx=>hf x (List.mem_of_mem_take hx)
   ·have hl:=run_loadCells_list (P:=P) w' ⟨b,o,none⟩ (cs.take ti.size) (λj x hx=>by
     rw[Addr.add_lit]
     refine y8 hw' hB (hc j x ?_)
     rw[List.getElem?_take] at hx
     split at hx
     ·exact hx
     ·simp at hx)
    rw[hcl] at hl
    simp only[loadVar,Sem.run_bind,rV hti,Result.andThen,hk,if_true,run_sizeOf hti,hl]
    rfl
 | false=>
  rw[hk] at h
  simp only[cond_false] at h
  cases us with
  | nil=>simp at h
  | cons u us=>
   cases cs with
   | nil=>exact hr.elim
   | cons c cs=>
    simp only[agR] at h
    subst h
    have hu:R3 ρ F w u c:=kE (jE hr.1)
    refine⟨c,hu,?_,λw' hw'=>?_⟩
    ·simp only[List.all_cons,agN] at hf
     have h1:=hf.1
     have h0:=hr.1
     cases u<;>first | exact h1 | exact (show False from h0).elim
    ·have:=y8 hw' hB (hc 0 c Z)
     simp only[loadVar,Sem.run_bind,rV hti,Result.andThen,hk,ag0,if_false,run_load]
     rw[show (⟨b,o,none⟩:Addr)=⟨b,o+0,none⟩ from rfl,this]
theorem aH.LY{us:List D}{cs:Nat->Value}(h:∀j d,us[j]?=some d->RD F w d (cs j)):aH (R1 ρ F w) (us.map V.d) ((List.range us.length).map cs):=by
 induction us generalizing cs with
 | nil=>trivial
 | cons u us ih=>
  simp only[List.map_cons,List.length_cons,List.range_succ_eq_map,List.map_map]
  refine⟨h 0 u Z,?_⟩
  have:=ih (cs:=λj=>cs (j+1)) (λj d hd=>h (j+1) d (by simpa using hd))
  exact this
theorem LZ(hg:bV P g.tys){C:Ctx}{s:St}{a:Act}(hs:aF C s a w ρ F){t:TypeId}{x v:V}{vx:Value}{ob:List Prop}(h:ldE g s.H t x=some (v,ob))(hob:ak ob)(hx:R3 ρ F w x vx)(hBF:∀k,F k->B k)(hBH:∀i c k,(i,c)∈s.H->blk (ρ i)=some k->B k) :
  ∃r,R3 ρ F w v r∧v.aQ (fresh s.m)=true∧∀w',Agr B w w'->(Instr.loadAt t vx).run P w'=.ok r w':=by
 have fin:∀{b o:Nat},vx=.pointer (some ⟨b,o,none⟩)->(∃r,R3 ρ F w v r∧v.aQ (fresh s.m)=true∧∀w',Agr B w w'->(loadVar t ⟨b,o,none⟩).run P w'=.ok r w')->
   ∃r,R3 ρ F w v r∧v.aQ (fresh s.m)=true∧∀w',Agr B w w'->(Instr.loadAt t vx).run P w'=.ok r w':=by
  rintro b o rfl ⟨r,h1,h2,h3⟩
  exact⟨r,h1,h2,λw' hw'=>by simp only[Instr.loadAt,Instr.sureAddr,Sem.run_bind,Sem.run_pure,Result.andThen];exact h3 w' hw'⟩
 have elems:∀{id sz i o n:Nat} {f:Nat->List D} {xs:List Value} {b:Nat} {ti:TI},ti.OK P t->asV ti (((f i).drop o).map .d)=some v->i<n->iZ F w sz n f xs->
   (∀j y,xs[j]?=some y->w.cell? ⟨b,j,none⟩=some y)->B b->∃r,R3 ρ F w v r∧v.aQ (fresh s.m)=true∧∀w',Agr B w w'->(loadVar t ⟨b,i*sz+o,none⟩).run P w'=.ok r w':=by
  intro id sz i o n f xs b ti hti ha hi he hc hBb
  have h1:=(he i hi).2
  have hex:∃cs:Nat->Value,∀j d,((f i).drop o)[j]?=some d->xs[i*sz+o+j]?=some (cs j)∧RD F w d (cs j):=by
   refine⟨λj=>(xs[i*sz+o+j]?).getD undef,λj d hd=>?_⟩
   rw[List.getElem?_drop] at hd
   obtain⟨c,hc1,hc2⟩:=h1 (o+j) d hd
   rw[←Nat.add_assoc] at hc1
   simp only[hc1,Option.getD_some]
   exact⟨tR,hc2⟩
  obtain⟨cs,hcs⟩:=hex
  refine xE hti ha (aH.LY (ρ:=ρ) λj d hd=>(hcs j d hd).2) (abT _ (λ_=>rfl) _) (λj x hx=>?_) hBb
  rw[List.getElem?_map,Option.map_eq_some_iff] at hx
  obtain⟨j',hj',rfl⟩:=hx
  have hlt:j<((f i).drop o).length:=by
   have:=(List.getElem?_eq_some_iff.1 hj').1
   simpa using this
  have:j'=j:=by
   rw[List.getElem?_range (by simpa using hlt)] at hj'
   exact (agS hj').symm
  subst this
  exact hc _ _ (hcs j' _ (agO hlt)).1
 unfold ldE at h
 split at h
 ·simp at h
 ·rename_i ti hl
  have hti:=bS hg hl
  split at h
  ·
   rename_i ds
   split at h
   ·rename_i v' hv
    obtain⟨rfl,rfl⟩:=Prod.mk.inj (agS h)
    obtain⟨b,o,cs,hp,hFb,hc⟩:=(show R0 ρ F w (.gU ds) vx from hx)
    refine fin hp (xE hti hv (aH.LY (ρ:=ρ) λj d hd=>(hc j d hd).2) (abT _ (λ_=>rfl) _) (λj x hx=>?_) (hBF _ hFb))
    rw[List.getElem?_map,Option.map_eq_some_iff] at hx
    obtain⟨j',hj',rfl⟩:=hx
    have hlt:j<ds.length:=by simpa using (List.getElem?_eq_some_iff.1 hj').1
    have:j'=j:=by
     rw[List.getElem?_range hlt] at hj'
     exact (agS hj').symm
    subst this
    exact (hc j' _ (agO hlt)).1
   ·simp at h
  ·split at h
   ·obtain⟨rfl,rfl⟩:=Prod.mk.inj (agS h)
    exact hob.elim
   ·simp at h
  ·
   rename_i id o
   split at h
   ·rename_i us hgH
    split at h
    ·rename_i v' hv
     obtain⟨rfl,rfl⟩:=Prod.mk.inj (agS h)
     obtain⟨b,hb,hp⟩:=(show R0 ρ F w (.ptr id o) vx from hx)
     obtain⟨b',cs,T,hb',hheap,hall⟩:=hs.ch id _ (get_mem hgH)
     rw[hb] at hb'
     simp only[Value.pointer.injEq,agR,Addr.mk.injEq,and_true] at hb'
     subst hb'
     refine fin hp (xE hti hv (hall.drop o) ?_ (λj x hx=>?_) (hBH id _ b (get_mem hgH) (by rw[hb];rfl)))
     ·have:=(hs.aK id _ (get_mem hgH)).2
      simp only[Ch.all,List.all_eq_true] at this ⊢
      exact λy hy=>this y (List.mem_of_mem_drop hy)
     ·rw[List.getElem?_drop] at hx
      simp [World.cell?,hheap,hx]
    ·simp at h
   ·simp at h
  ·
   rename_i id sz i o
   split at h
   ·rename_i e sz' n f hgH
    cases hsz:Nat.beq sz sz' with
    | false=>rw[hsz] at h;simp at h
    | true=>
     rw[hsz] at h
     simp only[cond_true] at h
     have:=agU hsz
     subst this
     split at h
     ·rename_i v' hv
      obtain⟨rfl,rfl⟩:=Prod.mk.inj (agS h)
      obtain⟨b,hb,hp⟩:=(show R0 ρ F w (.bD id sz i o) vx from hx)
      obtain⟨xs,ho,he⟩:=hs.ch id _ (get_mem hgH)
      refine fin hp (elems (id:=id) hti hv hob he (λj y hy=>?_) (hBH id _ b (get_mem hgH) hb))
      have:=ho.cells (g:=b) (by
       rcases ho.2 with⟨h1,h2⟩ | ⟨g',cap,cur,h1,_⟩
       ·rw[h1] at hb;simp [blk] at hb
       ·rw[h1] at hb ⊢;simpa [blk,Value.ownBlock] using hb) j y hy
      rwa [Addr.add_lit,Nat.zero_add] at this
     ·simp at h
   ·rename_i sz' n f hgH
    cases hsz:Nat.beq sz sz' with
    | false=>rw[hsz] at h;simp at h
    | true=>
     rw[hsz] at h
     simp only[cond_true] at h
     have:=agU hsz
     subst this
     split at h
     ·rename_i v' hv
      obtain⟨rfl,rfl⟩:=Prod.mk.inj (agS h)
      obtain⟨b,hb,hp⟩:=(show R0 ρ F w (.bD id sz i o) vx from hx)
      obtain⟨b',cs,T,hb',hheap,_,he⟩:=hs.ch id _ (get_mem hgH)
      have hBb:=hBH id _ b (get_mem hgH) hb
      rw[hb'] at hb
      simp [blk] at hb
      subst hb
      exact fin hp (elems (id:=id) hti hv hob he (λj y hy=>by simp [World.cell?,hheap,hy]) hBb)
     ·simp at h
   ·rename_i e e' z n k u hs' m' f' hgH
    cases hsz:(Nat.beq sz 1&&Nat.beq o 0) with
    | false=>rw[hsz] at h;simp at h
    | true=>
     rw[hsz] at h
     simp only[cond_true] at h
     simp only[agN] at hsz
     have e1:=agU hsz.1
     have e2:=agU hsz.2
     subst e1 e2
     split at h
     ·rename_i v' hv
      obtain⟨rfl,rfl⟩:=Prod.mk.inj (agS h)
      obtain⟨rfl,hin⟩:=hob
      obtain⟨b,hb,hp⟩:=(show R0 ρ F w (.bD id 1 i 0) vx from hx)
      obtain⟨xs,ho,hk,_⟩:=hs.ch id _ (get_mem hgH)
      obtain⟨y,hy,hu⟩:=hk hin
      refine fin hp (xE (cs:=[y]) hti hv ⟨hu,tR⟩ ?_ (λj x hx=>?_) (hBH id _ b (get_mem hgH) hb))
      ·have:=(hs.aK id _ (get_mem hgH)).2
       simpa [Ch.all] using this
      ·cases j with
       | succ j=>simp at hx
       | zero=>
        simp at hx
        subst hx
        have:=ho.cells (g:=b) (by
         rcases ho.2 with⟨h1,h2⟩ | ⟨g',cap,cur,h1,_⟩
         ·rw[h1] at hb;simp [blk] at hb
         ·rw[h1] at hb ⊢;simpa [blk,Value.ownBlock] using hb) i y hy
        rw[Addr.add_lit,Nat.zero_add] at this
        simpa using this
     ·simp at h
   ·simp at h
  ·simp at h
end
section
variable{P:Program}{w:World}{ρ:Nat->Value}{F:Nat->Prop}{g:Cfg}{m:Nat}
theorem Xr(hg:bV P g.tys){C:Ctx}{s:St}{a:Act}(hs:aF C s a w ρ F){t:TypeId}{x i v:V}{vx vi:Value}{ob:List Prop}(h:iaE g s.H t x i=some (v,ob))(hob:ak ob)(hx:R3 ρ F w x vx)(hxf:x.aQ (fresh s.m)=true)(hi:R3 ρ F w i vi) :
  ∃r,R3 ρ F w v r∧v.aQ (fresh s.m)=true∧∀w',(Instr.indexAt t vx vi).run P w'=.ok r w':=by
 unfold iaE at h
 split at h
 ·rename_i ti kk k hl
  have hk:=(bS hg hl).und
  cases (show RD F w _ _ from hi)
  split at h
  ·
   rename_i e sz n f hkk
   rw[hkk] at hk
   cases hz:isz g e sz with
   | false=>rw[hz] at h;simp at h
   | true=>
    rw[hz] at h
    simp only[cond_true] at h
    obtain⟨rfl,rfl⟩:=Prod.mk.inj (agS h)
    obtain⟨h0,h1⟩:=hob
    cases (show RD F w _ _ from hx) with
    | emp=>omega
    | sl _ _ _ b o cap cs hF hn hc hlen hr=>
     refine⟨.pointer (some ⟨b,o+k.toNat*sz,none⟩),⟨b,o+k.toNat*sz,λj=>cs k.toNat j,Z,hF,λj d hd=>⟨?_,hr _ j d (by omega) hd⟩⟩,Z,λw'=>?_⟩
     ·rw[Nat.add_assoc]
      refine hc k.toNat j (by omega) ?_
      have:=(List.getElem?_eq_some_iff.1 hd).1
      rw[hlen k.toNat (by omega)] at this
      exact this
     ·simp [Instr.indexAt,asIntOf,aP (show P.underlying t=some (.slice e) from hk),h0,h1,jA hg hz,Addr.add_lit]
  ·
   rename_i e id hkk
   rw[hkk] at hk
   split at h
   ·rename_i e' sz n f hgH
    cases hz:isz g e sz with
    | false=>rw[hz] at h;simp at h
    | true=>
     rw[hz] at h
     simp only[cond_true] at h
     obtain⟨rfl,rfl⟩:=Prod.mk.inj (agS h)
     obtain⟨h0,h1⟩:=hob
     obtain⟨xs,ho,_⟩:=hs.ch id _ (get_mem hgH)
     have hv:vx=ρ id:=(show R0 ρ F w (.own id) vx from hx).1
     rcases ho.2 with⟨_,h2⟩ | ⟨b,cap,cur,h3,_⟩
     ·omega
     ·rw[h3] at hv
      subst hv
      exact⟨.pointer (some ⟨b,k.toNat*sz+0,none⟩),⟨b,by rw[h3];rfl,Z⟩,hxf,λw'=>by simp [Instr.indexAt,asIntOf,aP (show P.underlying t=some (.slice e) from hk),h0,h1,jA hg hz,Addr.add_lit]⟩
   ·rename_i hgH
    cases hz:isz g e 1 with
    | false=>rw[hz] at h;simp at h
    | true=>
     rw[hz] at h
     simp only[cond_true] at h
     obtain⟨rfl,rfl⟩:=Prod.mk.inj (agS h)
     obtain⟨h0,h1⟩:=hob
     obtain⟨xs,ho,_⟩:=hs.ch id _ (get_mem hgH)
     have hv:vx=ρ id:=(show R0 ρ F w (.own id) vx from hx).1
     rcases ho.2 with⟨_,h2⟩ | ⟨b,cap,cur,h3,_⟩
     ·omega
     ·rw[h3] at hv
      subst hv
      exact⟨.pointer (some ⟨b,k.toNat*1+0,none⟩),⟨b,by rw[h3];rfl,Z⟩,hxf,λw'=>by simp [Instr.indexAt,asIntOf,aP (show P.underlying t=some (.slice e) from hk),h0,h1,jA hg hz,Addr.add_lit]⟩
   ·rename_i hgH
    cases hz:isz g e 1 with
    | false=>rw[hz] at h;simp at h
    | true=>
     rw[hz] at h
     simp only[cond_true] at h
     obtain⟨rfl,rfl⟩:=Prod.mk.inj (agS h)
     obtain⟨h0,h1⟩:=hob
     obtain⟨xs,ho,_⟩:=hs.ch id _ (get_mem hgH)
     have hv:vx=ρ id:=(show R0 ρ F w (.own id) vx from hx).1
     rcases ho.2 with⟨_,h2⟩ | ⟨b,cap,cur,h3,_⟩
     ·omega
     ·rw[h3] at hv
      subst hv
      exact⟨.pointer (some ⟨b,k.toNat*1+0,none⟩),⟨b,by rw[h3];rfl,Z⟩,hxf,λw'=>by simp [Instr.indexAt,asIntOf,aP (show P.underlying t=some (.slice e) from hk),h0,h1,jA hg hz,Addr.add_lit]⟩
   ·simp at h
  ·
   rename_i n e id off hkk
   rw[hkk] at hk
   split at h
   ·rename_i sz n' f hgH
    cases hz:(isz g e sz&&Nat.beq n n'&&Nat.beq off 0) with
    | false=>rw[hz] at h;simp at h
    | true=>
     rw[hz] at h
     simp only[cond_true] at h
     simp only[agN] at hz
     obtain⟨⟨hz,hn⟩,hoff⟩:=hz
     have hn:=agU hn
     have hoff:=agU hoff
     subst hn hoff
     obtain⟨rfl,rfl⟩:=Prod.mk.inj (agS h)
     obtain⟨h0,h1⟩:=hob
     obtain⟨b,hb,hp⟩:=(show R0 ρ F w (.ptr id 0) vx from hx)
     subst hp
     exact⟨.pointer (some ⟨b,k.toNat*sz+0,none⟩),⟨b,by rw[hb];rfl,Z⟩,hxf,λw'=>by simp [Instr.indexAt,Instr.sureAddr,asIntOf,aP (show P.underlying t=some (.array n e) from hk),h0,h1,jA hg hz,Addr.add_lit]⟩
   ·simp at h
  ·
   rename_i n e ds hkk
   rw[hkk] at hk
   split at h
   ·rename_i te hlt
    have hz:isz g e te.size=true:=by simp [isz,hlt]
    obtain⟨rfl,rfl⟩:=Prod.mk.inj (agS h)
    obtain⟨h0,h1⟩:=hob
    obtain⟨b,o,cs,hp,hF,hc⟩:=(show R0 ρ F w (.gU ds) vx from hx)
    subst hp
    refine⟨.pointer (some ⟨b,o+k.toNat*te.size,none⟩),⟨b,o+k.toNat*te.size,λj=>cs (k.toNat*te.size+j),Z,hF,λj d hd=>?_⟩,Z,λw'=>by simp [Instr.indexAt,Instr.sureAddr,asIntOf,aP (show P.underlying t=some (.array n e) from hk),h0,h1,jA hg hz,Addr.add_lit]⟩
    rw[List.getElem?_drop] at hd
    rw[Nat.add_assoc]
    exact hc _ _ hd
   ·simp at h
  ·simp at h
 ·simp at h
theorem L6{fields:Array Field}{fs:List (Nat×TypeId)}(h:fields.toList.map (λf=>(f.offset,f.type))=fs){i off:Nat}{ty:TypeId}(hi:fs[i]?=some (off,ty)):∃f,fields[i]?=some f∧f.offset=off∧f.type=ty:=by
 subst h
 rw[List.getElem?_map,Option.map_eq_some_iff] at hi
 obtain⟨f,h1,h2⟩:=hi
 simp only[agW] at h2
 exact⟨f,by simpa using h1,h2.1,h2.2⟩
theorem Xt(hg:bV P g.tys){t:TypeId}{x v:V}{vx:Value}{fld:Nat}{ob:List Prop}(h:faE g t x fld=some (v,ob))(hob:ak ob)(hx:R3 ρ F w x vx)(hxf:x.aQ (fresh m)=true) :
  ∃r,R3 ρ F w v r∧v.aQ (fresh m)=true∧∀w',(Instr.fieldAt t vx fld).run P w'=.ok r w':=by
 unfold faE at h
 split at h
 ·rename_i ti hl
  have hk:=(bS hg hl).und
  split at h
  ·rename_i fs _ hkk
   rw[hkk] at hk
   obtain⟨⟨fields,hu,hfs⟩,_⟩:=hk
   split at h
   ·rename_i off ty hf
    obtain⟨f,hf1,hf2,hf3⟩:=L6 hfs hf
    cases hz:isz g ty 0 with
    | true=>rw[hz] at h;simp at h
    | false=>
     rw[hz] at h
     simp only[cond_false] at h
     split at h
     ·simp at h
     ·rename_i tf hlt
      have hsz:tf.size≠0:=by
       intro e
       simp [isz,hlt,e] at hz
      have hrun:∀(b o:Nat) w',(Instr.fieldAt t (.pointer (some ⟨b,o,none⟩)) fld).run P w'=.ok (.pointer (some ⟨b,o+off,none⟩)) w':=by
       intro b o w'
       have hs2:=run_sizeOf (P:=P) (bS hg hlt) w'
       simp [Instr.fieldAt,aP hu,hf1,Instr.sureAddr,fieldPlace,hf2,hf3,hs2,hsz,Addr.add_lit]
      split at h
      ·rename_i id o
       obtain⟨rfl,rfl⟩:=Prod.mk.inj (agS h)
       obtain⟨b,hb,hp⟩:=(show R0 ρ F w (.ptr id o) vx from hx)
       subst hp
       exact⟨_,⟨b,hb,Z⟩,hxf,hrun b o⟩
      ·rename_i id sz i o
       obtain⟨rfl,rfl⟩:=Prod.mk.inj (agS h)
       obtain⟨b,hb,hp⟩:=(show R0 ρ F w (.bD id sz i o) vx from hx)
       subst hp
       exact⟨_,⟨b,hb,by rw[←Nat.add_assoc]⟩,hxf,hrun b _⟩
      ·rename_i ds
       obtain⟨rfl,rfl⟩:=Prod.mk.inj (agS h)
       obtain⟨b,o,cs,hp,hF,hc⟩:=(show R0 ρ F w (.gU ds) vx from hx)
       subst hp
       refine⟨_,⟨b,o+off,λj=>cs (off+j),Z,hF,λj d hd=>?_⟩,Z,hrun b o⟩
       rw[List.getElem?_drop] at hd
       rw[Nat.add_assoc]
       exact hc _ _ hd
      ·obtain⟨rfl,rfl⟩:=Prod.mk.inj (agS h)
       exact hob.elim
      ·simp at h
   ·simp at h
  ·simp at h
 ·simp at h
theorem aaA{ti:TI}{t:TypeId}(hti:ti.OK P t){us:List V}{v:V}(h:asV ti us=some v){cs:List Value}{off:Nat}(hr:aH (R1 ρ F w) us (cs.drop off))(hf:us.all (V.all1 (fresh m))=true) :
  ∃r,R3 ρ F w v r∧v.aQ (fresh m)=true∧∀w',(part t cs.toArray off).run P w'=.ok r w':=by
 unfold asV at h
 cases hk:Fg ti.kind with
 | true=>
  rw[hk] at h
  simp only[cond_true] at h
  cases hn:Nat.beq (us.take ti.size).length ti.size with
  | false=>rw[hn] at h;simp at h
  | true=>
   rw[hn] at h
   simp only[cond_true,agR] at h
   subst h
   refine⟨.agg ((cs.drop off).take ti.size).toArray,⟨_,Z,hr.take _⟩,?_,λw'=>?_⟩
   ·simp only[V.aQ,V.all2,List.all_eq_true] at *
    exact λx hx=>hf x (List.mem_of_mem_take hx)
   ·simp only[part,Sem.run_bind,rV hti,Result.andThen,hk,if_true,run_sizeOf hti,Sem.run_pure]
    congr 2
    rw[List.extract_toArray]
    congr 1
    simp [List.extract_eq_take_drop]
 | false=>
  rw[hk] at h
  simp only[cond_false] at h
  cases us with
  | nil=>simp at h
  | cons u us=>
   cases hcs:cs.drop off with
   | nil=>rw[hcs] at hr;exact hr.elim
   | cons c rest=>
    rw[hcs] at hr
    simp only[agR] at h
    subst h
    have hu:R3 ρ F w u c:=kE (jE hr.1)
    refine⟨c,hu,?_,λw'=>?_⟩
    ·simp only[List.all_cons,agN] at hf
     have h1:=hf.1
     have h0:=hr.1
     cases u<;>first | exact h1 | exact (show False from h0).elim
    ·have:cs[off]?=some c:=by
      have h2:(cs.drop off)[0]?=some c:=by rw[hcs];rfl
      simpa using h2
     simp [part,rV hti,hk,this]
theorem Ut(hg:bV P g.tys){t:TypeId}{x v:V}{vx:Value}{fld:Nat}{ob:List Prop}(h:acN g t x fld=some (v,ob))(hx:R3 ρ F w x vx)(hxf:x.aQ (fresh m)=true) :
  ∃r,R3 ρ F w v r∧v.aQ (fresh m)=true∧∀w',(Instr.field t vx fld).run P w'=.ok r w':=by
 unfold acN at h
 split at h
 ·rename_i ti us hl
  have hk:=(bS hg hl).und
  split at h
  ·rename_i fs _ hkk
   rw[hkk] at hk
   obtain⟨⟨fields,hu,hfs⟩,_⟩:=hk
   split at h
   ·rename_i off ty hf
    obtain⟨f,hf1,hf2,hf3⟩:=L6 hfs hf
    split at h
    ·rename_i ty' hlt
     split at h
     ·rename_i v' hv
      obtain⟨rfl,rfl⟩:=Prod.mk.inj (agS h)
      obtain⟨cs,rfl,hall⟩:=(show R2 ρ F w (.agg us) vx from hx)
      obtain⟨r,h1,h2,h3⟩:=aaA (m:=m) (bS hg hlt) hv (hall.drop off) (by
       simp only[V.aQ,V.all2,List.all_eq_true] at hxf ⊢
       exact λy hy=>hxf y (List.mem_of_mem_drop hy))
      exact⟨r,h1,h2,λw'=>by simp [Instr.field,aP hu,hf1,asAgg,hf2,hf3,h3]⟩
     ·simp at h
    ·simp at h
   ·simp at h
  ·simp at h
 ·simp at h
end
section
variable{B:Nat->Prop}{P:Program}{w:World}{ρ:Nat->Value}{F:Nat->Prop}{g:Cfg}{m:Nat}
def PD(ρ:Nat->Value)(F:Nat->Prop)(w:World):Option V->Option Value->Prop
 | none,none=>True
 | some v,some x=>R3 ρ F w v x
 | _,_=>False
theorem y9{n cap:Nat}(hcap:n≤cap){lo hi:Option V}{l h:Int}{p:List Prop}(hb:aaw n lo hi=some (l,h,p))(hp:ak p){vl vh:Option Value}(hl:PD ρ F w lo vl)(hh:PD ρ F w hi vh)(isS:Bool) :
  0≤l∧l≤h∧h≤(n:Int)∧∀w',(Instr.sliceBounds isS n cap vl vh none).run P w'=.ok (l.toNat,h.toNat,cap) w':=by
 unfold aaw at hb
 split at hb
 ·obtain⟨rfl,hb2⟩:=Prod.mk.inj (agS hb);obtain⟨rfl,rfl⟩:=Prod.mk.inj hb2
  cases vl<;>cases vh<;>first | exact hl.elim | exact hh.elim | skip
  exact⟨by omega,by omega,by omega,λw'=>by simp [Instr.sliceBounds]⟩
 ·rename_i k l'
  cases vl<;>cases vh<;>first | exact hl.elim | exact hh.elim | skip
  cases (show RD F w _ _ from hl)
  obtain⟨rfl,hb2⟩:=Prod.mk.inj (agS hb);obtain⟨rfl,rfl⟩:=Prod.mk.inj hb2
  obtain⟨h0,h1⟩:=hp
  exact⟨h0,h1,by omega,λw'=>by simp [Instr.sliceBounds,Instr.sliceBound,asIntOf,h0,h1]⟩
 ·rename_i kk hv
  cases vl<;>cases vh<;>first | exact hl.elim | exact hh.elim | skip
  cases (show RD F w _ _ from hh)
  obtain⟨rfl,hb2⟩:=Prod.mk.inj (agS hb);obtain⟨rfl,rfl⟩:=Prod.mk.inj hb2
  obtain⟨h0,h1⟩:=hp
  have h2:hv≤(cap:Int):=by omega
  exact⟨by omega,by omega,by omega,λw'=>by simp [Instr.sliceBounds,Instr.sliceBound,asIntOf,h0,h2]⟩
 ·rename_i kl lv kk hv
  cases vl<;>cases vh<;>first | exact hl.elim | exact hh.elim | skip
  cases (show RD F w _ _ from hl);cases (show RD F w _ _ from hh)
  obtain⟨rfl,hb2⟩:=Prod.mk.inj (agS hb);obtain⟨rfl,rfl⟩:=Prod.mk.inj hb2
  obtain⟨h0,h1,h3⟩:=hp
  have h2:hv≤(cap:Int):=by omega
  have h4:0≤hv:=by omega
  have h5:lv≤max hv 0:=by omega
  exact⟨h0,h1,by omega,λw'=>by simp [Instr.sliceBounds,Instr.sliceBound,asIntOf,h0,h2,h4,h5]⟩
 ·simp at hb
theorem Uu(hg:bV P g.tys){t:TypeId}{x v:V}{vx:Value}{lo hi:Option V}{vl vh:Option Value}{ob:List Prop}(h:acP g t x lo hi=some (v,ob))(hob:ak ob)(hx:R3 ρ F w x vx)(hl:PD ρ F w lo vl)(hh:PD ρ F w hi vh) :
  ∃r,R3 ρ F w v r∧v.aQ (fresh m)=true∧∀w',(Instr.sliceAt t vx vl vh none).run P w'=.ok r w':=by
 unfold acP at h
 split at h
 ·simp at h
 ·rename_i ti hlk
  have hk:=(bS hg hlk).und
  split at h
  ·rename_i s hkk
   rw[hkk] at hk
   have hu:P.underlying t=some .string:=hk
   split at h
   ·rename_i l hh' p hb
    obtain⟨rfl,rfl⟩:=Prod.mk.inj (agS h)
    cases (show RD F w _ _ from hx)
    obtain⟨_,_,_,hr⟩:=y9 (P:=P) (Nat.le_refl _) hb hob hl hh false
    exact⟨_,RD.str _,Z,λw'=>by simp [Instr.sliceAt,Instr.slice,aP hu,hr]⟩
   ·simp at h
  ·rename_i e sz n f hkk
   rw[hkk] at hk
   have hu:P.underlying t=some (.slice e):=hk
   cases hz:isz g e sz with
   | false=>rw[hz] at h;simp at h
   | true=>
    rw[hz] at h
    simp only[cond_true] at h
    split at h
    ·rename_i l hh' p hb
     obtain⟨rfl,rfl⟩:=Prod.mk.inj (agS h)
     have hs:∀w',(sizeOf e).run P w'=.ok sz w':=jA hg hz
     cases (show RD F w _ _ from hx) with
     | emp _ _ a cap=>
      obtain⟨h0,h1,h2,hr⟩:=y9 (P:=P) (Nat.zero_le cap) hb hob hl hh true
      have e1:hh'.toNat-l.toNat=0:=by omega
      rw[e1]
      exact⟨_,RD.emp _ _ _ _,Z,λw'=>by simp [Instr.sliceAt,Instr.slice,aP hu,hr,hs,e1];exact⟨Z,Z⟩⟩
     | sl _ _ _ b o cap cs hF hn hc hlen hrd=>
      obtain⟨h0,h1,h2,hr⟩:=y9 (P:=P) hn hb hob hl hh true
      by_cases hz0:hh'.toNat-l.toNat=0
      ·rw[hz0]
       exact⟨_,RD.emp _ _ _ _,Z,λw'=>by simp [Instr.sliceAt,Instr.slice,aP hu,hr,hs,hz0];exact⟨Z,Z⟩⟩
      ·have hne:¬cap=l.toNat:=by omega
       refine⟨.slice (some ⟨b,o+l.toNat*sz,none⟩) (hh'.toNat-l.toNat) (cap-l.toNat),?_,Z,λw'=>by simp [Instr.sliceAt,Instr.slice,aP hu,hr,hs,hne,Addr.add_lit]⟩
       refine RD.sl _ _ _ b (o+l.toNat*sz) _ (λi j=>cs (l.toNat+i) j) hF (by omega) (λi j hi hj=>?_) (λi hi=>hlen _ (by omega)) (λi j d hi hd=>hrd _ j d (by omega) hd)
       have:=hc (l.toNat+i) j (by omega) hj
       rwa [Nat.add_mul,Nat.add_assoc,←Nat.add_assoc o] at this
    ·simp at h
  ·simp at h
theorem PE(hg:bV P g.tys){t:TypeId}{x v mx:V}{vx vm:Value}{lo hi:Option V}{vl vh:Option Value}{ob:List Prop}(h:Xl g t x lo hi mx=some (v,ob))(hob:ak ob)(hx:R3 ρ F w x vx)(hl:PD ρ F w lo vl)(hh:PD ρ F w hi vh)(hm:R3 ρ F w mx vm) :
  ∃r,R3 ρ F w v r∧v.aQ (fresh m)=true∧∀w',(Instr.sliceAt t vx vl vh (some vm)).run P w'=.ok r w':=by
 unfold Xl at h
 split at h
 ·simp at h
 ·rename_i ti hlk
  have hk:=(bS hg hlk).und
  split at h
  ·rename_i e sz n f k1 hv k2 mv hkk
   rw[hkk] at hk
   have hu:P.underlying t=some (.slice e):=hk
   cases hz:isz g e sz with
   | false=>rw[hz] at h;simp at h
   | true=>
    rw[hz] at h
    simp only[cond_true] at h
    obtain⟨rfl,rfl⟩:=Prod.mk.inj (agS h)
    obtain⟨h0,h1,h2⟩:=hob
    have hs:∀w',(sizeOf e).run P w'=.ok sz w':=jA hg hz
    cases vl<;>cases vh<;>first | exact hl.elim | exact hh.elim | skip
    cases (show RD F w _ _ from hh);cases (show RD F w _ _ from hm)
    have h3:0≤mv:=by omega
    have hr:∀(cap:Nat),n≤cap->∀w',(Instr.sliceBounds true n cap none (some (.int k1 hv)) (some (.int k2 mv))).run P w'=.ok (0,hv.toNat,mv.toNat) w':=λcap hc w'=>by
     have h4:mv≤(cap:Int):=by omega
     have h5:hv≤max mv 0:=by omega
     simp [Instr.sliceBounds,Instr.sliceBound,asIntOf,h0,h3,h4,h5]
    cases (show RD F w _ _ from hx) with
    | emp _ _ a cap=>
     have e0:hv=0:=by omega
     have e1:mv=0:=by omega
     subst e0 e1
     exact⟨_,RD.emp _ _ _ _,Z,λw'=>by simp [Instr.sliceAt,Instr.slice,aP hu,hr cap (Nat.zero_le _),hs];exact⟨Z,Z⟩⟩
    | sl _ _ _ b o cap cs hF hn hc hlen hrd=>
     by_cases hz0:hv.toNat=0
     ·rw[hz0]
      exact⟨_,RD.emp _ _ _ _,Z,λw'=>by simp [Instr.sliceAt,Instr.slice,aP hu,hr cap hn,hs,hz0];exact⟨Z,Z⟩⟩
     ·have hne:¬mv.toNat=0:=by omega
      refine⟨.slice (some ⟨b,o,none⟩) hv.toNat mv.toNat,?_,Z,λw'=>by simp [Instr.sliceAt,Instr.slice,aP hu,hr cap hn,hs,hne,Addr.add_lit]⟩
      exact RD.sl _ _ _ b o _ cs hF (by omega) (λi j hi hj=>hc i j (by omega) hj) (λi hi=>hlen _ (by omega)) (λi j d hi hd=>hrd i j d (by omega) hd)
  ·simp at h
theorem Ag{C:Ctx}{s:St}{a:Act}(hs:aF C s a w ρ F){x:V}{sz n:Nat}{f:Nat->List D}{vx:Value}(h:parts s.H x=some (sz,n,f))(hx:R3 ρ F w x vx) :
  (∃ad cap,vx=.slice ad 0 cap∧n=0)∨∃b o cap,∃cs:Nat->Nat->Value,vx=.slice (some ⟨b,o,none⟩) n cap∧n≤cap∧(∀i,i<n->(f i).length=sz)∧(∀i j d,i<n->(f i)[j]?=some d->w.cell? ⟨b,o+(i*sz+j),none⟩=some (cs i j)∧RD F w d (cs i j))∧(F b∨∃i c,(i,c)∈s.H∧blk (ρ i)=some b):=by
 unfold parts at h
 split at h
 ·simp only[agR,agW] at h
  obtain⟨rfl,rfl,rfl⟩:=h
  cases (show RD F w _ _ from hx) with
  | emp _ _ a cap=>exact .inl ⟨a,cap,rfl,rfl⟩
  | sl _ _ _ b o cap cs hF hn hc hlen hrd=>
   refine .inr ⟨b,o,cap,cs,Z,hn,hlen,λi j d hi hd=>⟨hc i j hi ?_,hrd i j d hi hd⟩,.inl hF⟩
   have:=(List.getElem?_eq_some_iff.1 hd).1
   rwa [hlen i hi] at this
 ·rename_i id
  split at h
  ·rename_i e' sz' n' f' hgH
   simp only[agR,agW] at h
   obtain⟨rfl,rfl,rfl⟩:=h
   obtain⟨xs,ho,he⟩:=hs.ch id _ (get_mem hgH)
   have hv:vx=ρ id:=(show R0 ρ F w (.own id) vx from hx).1
   rcases ho.2 with⟨h1,h2⟩ | ⟨b,cap,cur,h1,h2,h3,h4,h5⟩
   ·subst h2;exact .inl ⟨none,0,hv.trans h1,rfl⟩
   ·have hc:=ho.cells (g:=b) (by rw[h1];rfl)
    refine .inr ⟨b,0,cap,λi j=>(xs[i*sz'+j]?).getD undef,hv.trans h1,h4,λi hi=>(he i hi).1,λi j d hi hd=>?_,.inr ⟨id,_,get_mem hgH,by rw[h1];rfl⟩⟩
    obtain⟨c,hc1,hc2⟩:=(he i hi).2 j d hd
    have:=hc _ _ hc1
    rw[Addr.add_lit,Nat.zero_add] at this
    simp only[hc1,Option.getD_some,Nat.zero_add]
    exact⟨this,hc2⟩
  ·simp at h
 ·simp at h
theorem L8{C:Ctx}{s:St}{a:Act}(hs:aF C s a w ρ F){x:V}{sz n:Nat}{f:Nat->List D}{vx:Value}(h:parts s.H x=some (sz,n,f))(hx:R3 ρ F w x vx) :
  (∃ad cap,vx=.slice ad 0 cap∧n=0)∨∃b o cap,∃cs:Nat->Nat->Value,vx=.slice (some ⟨b,o,none⟩) n cap∧n≤cap∧(∀i,i<n->(f i).length=sz)∧∀i j d,i<n->(f i)[j]?=some d->w.cell? ⟨b,o+(i*sz+j),none⟩=some (cs i j)∧RD F w d (cs i j):=by
 rcases Ag hs h hx with h1 | ⟨b,o,cap,cs,h1,h2,h3,h4,_⟩
 ·exact .inl h1
 ·exact .inr ⟨b,o,cap,cs,h1,h2,h3,h4⟩
theorem Uv{l:List D}(h:acL l):∃n,l=[.int .u8 n]:=by
 unfold acL at h
 split at h
 ·exact⟨_,Z⟩
 ·exact h.elim
theorem foldl_push(l:List Int)(s:BY):(l.foldl (λr n=>r.push (UInt8.ofNat n.toNat)) s).data.toList=s.data.toList++l.map λn=>UInt8.ofNat n.toNat:=by
 induction l generalizing s with
 | nil=>simp
 | cons n l ih=>rw[List.foldl_cons,ih];simp [ByteArray.push]
theorem PK(hg:bV P g.tys){C:Ctx}{s:St}{a:Act}(hs:aF C s a w ρ F){ck:Bool}{src dst:TypeId}{x v:V}{vx:Value}{ob:List Prop}(h:Xk g ck s.H src dst x=some (v,ob))(hob:ak ob)(hx:R3 ρ F w x vx)(hBF:∀k,F k->B k)(hBH:∀i c k,(i,c)∈s.H->blk (ρ i)=some k->B k) :
  ∃r,R3 ρ F w v r∧v.aQ (fresh m)=true∧∀w',Agr B w w'->(convert src dst vx).run P w'=.ok r w':=by
 unfold Xk at h
 split at h
 ·rename_i ts td hls hld
  have hkd:=(bS hg hld).und
  have hks:=(bS hg hls).und
  obtain⟨ds,hds⟩:=Xp (bS hg hls)
  split at h
  ·
   rename_i k' k n hkk
   rw[hkk] at hkd
   cases (show RD F w _ _ from hx)
   obtain⟨rfl,rfl⟩:_∧_:=⟨congrArg Prod.fst (agS h),congrArg Prod.snd (agS h)⟩
   refine⟨.int k' (k'.wrap n),?_,?_,λw' _=>by simp [convert,aP hds,aP (show P.underlying dst=some (.int k') from hkd),Conv.intToInt]⟩
   ·rw[rU hob];exact RD.int _ _
   ·rw[rU hob];rfl
  ·rename_i y hkk
   rw[hkk] at hkd
   cases (show RD F w _ _ from hx)
   obtain⟨rfl,rfl⟩:=Prod.mk.inj (agS h)
   exact⟨_,RD.str _,Z,λw' _=>by simp [convert,aP hds,aP (show P.underlying dst=some .string from hkd)]⟩
  ·rename_i hkk
   rw[hkk] at hkd
   split at h
   ·rename_i e hke
    rw[hke] at hks
    split at h
    ·rename_i te hlt
     have hkt:=(bS hg hlt).und
     split at h
     ·rename_i hku
      rw[hku] at hkt
      obtain⟨rfl,rfl⟩:=Prod.mk.inj (agS h)
      have hv:vx=.slice none 0 0:=hx
      subst hv
      exact⟨_,RD.str _,Z,λw' _=>by rw[run_convert_bytes_string (P:=P) w' src dst e none 0 0 hks hkt hkd];rfl⟩
     ·simp at h
    ·simp at h
   ·simp at h
  ·rename_i hkk _ _
   rw[hkk] at hkd
   split at h
   ·rename_i e hke
    rw[hke] at hks
    split at h
    ·rename_i te hlt
     have hkt:=(bS hg hlt).und
     split at h
     ·rename_i sz n f hku hp
      rw[hku] at hkt
      cases h1:Nat.beq sz 1 with
      | false=>rw[h1] at h;simp at h
      | true=>
       rw[h1] at h
       simp only[cond_true] at h
       have h1:=agU h1
       subst h1
       obtain⟨rfl,rfl⟩:=Prod.mk.inj (agS h)
       refine⟨_,RD.str _,Z,λw' hw'=>?_⟩
       rcases Ag hs hp hx with⟨ad,cap,rfl,rfl⟩ | ⟨b,o,cap,cs,rfl,hn,hlen,hc,hBb⟩
       ·rw[run_convert_bytes_string (P:=P) w' src dst e ad 0 cap hks hkt hkd]
        cases ad with
        | none=>rfl
        | some ad=>exact run_bytesToString w' ad 0 cap [] (by simp [loadCells,loadCellsFrom])
       ·have hBb:B b:=by
         rcases hBb with h1 | ⟨i,c,h1,h2⟩
         ·exact hBF _ h1
         ·exact hBH i c b h1 h2
        rw[run_convert_bytes_string (P:=P) w' src dst e _ n cap hks hkt hkd]
        have hl:(loadCells ⟨b,o,none⟩ n).run P w'=.ok (((List.range n).map λi=>aav (f i)).map (Value.int .u8)).toArray w':=by
         have:=run_loadCells (P:=P) w' ⟨b,o,none⟩ n (λi=>.int .u8 (aav (f i))) (λj hj=>by
          obtain⟨k,hk⟩:=Uv (hob j hj)
          obtain⟨h1,h2⟩:=hc j 0 (.int .u8 k) hj (by rw[hk];rfl)
          rw[Addr.add_lit]
          have h3:=y8 hw' hBb h1
          generalize hcs:cs j 0=c at h2 h3
          cases h2
          rw[hk]
          simpa [aav] using h3)
         rw[this]
         simp [Function.comp_def]
        rw[run_bytesToString w' _ n cap _ hl]
        congr 2
        apply Go.WideShapes.bytes_inj
        rw[foldl_push]
        simp [bytesOf,Function.comp_def]
     ·simp at h
    ·simp at h
   ·simp at h
  ·simp at h
 ·simp at h
end
section
variable{B:Nat->Prop}{w:World}{ρ:Nat->Value}{F:Nat->Prop}{g:Cfg}{C:Ctx}{s:St}{a:Act}{q:List (Nat×Bool)}
theorem Uw(h:aF C s a w ρ F)(hq:pcA a.tmps q){t:Nat}{x:Bool}(he:ev s.L q (.tmp t)=some (.d (.bool x))):pcA a.tmps (pathOf s.L t++[(t,x)])∧a.eval (.tmp t)=.bool x:=by
 have hr:=(aC h hq he).1
 have hv:a.eval (.tmp t)=.bool x:=by
  generalize a.eval (.tmp t)=y at hr
  cases (show RD F w _ _ from hr);rfl
 refine⟨?_,hv⟩
 simp only[ev] at he
 unfold pathOf
 cases hg:get s.L t with
 | none=>rw[hg] at he;simp at he
 | some u=>
  rw[hg] at he
  obtain⟨y,hy,hrs⟩:=h.slot t u (get_mem hg)
  have hyx:y=.bool x:=by
   have:a.eval (.tmp t)=y:=by simp [Act.eval,Array.getD_eq_getD_getElem?,hy]
   rw[←this];exact hv
  have last:∀p,pcA a.tmps p->pcA a.tmps (p++[(t,x)]):=λp hp e he=>by
   rcases List.mem_append.1 he with he | he
   ·exact hp e he
   ·simp only[List.mem_singleton] at he
    subst he
    rw[hy,hyx]
  cases u with
  | g p v=>
   simp only[strip] at he
   cases hp:pre p q with
   | false=>simp [hp] at he
   | true=>exact last p (BQ hp hq)
  | _=>exact last [] (λe he=>by cases he)
theorem Ux{x:Operand}(h:isTrue x=true):x=.const (.bool true):=by
 unfold isTrue at h
 split at h
 ·subst h;rfl
 ·simp at h
theorem PL{x:Operand}(h:isFalse x=true):x=.const (.bool false):=by
 unfold isFalse at h
 split at h
 ·rename_i b;cases b<;>simp at h;rfl
 ·simp at h
theorem PN(h:aF C s a w ρ F)(hq:pcA a.tmps q){c x y:Operand}{v:V}{ob:List Prop}(he:Xm s.L q c x y=some (v,ob)) :
  ∃r,R3 ρ F w v r∧v.aQ (fresh s.m)=true∧∀P w',(do pure (if ←asBool (a.eval c) then a.eval x else a.eval y):Sem Value).run P w'=.ok r w':=by
 unfold Xm at he
 split at he
 ·rename_i t
  split at he
  ·rename_i b hb
   obtain⟨abU,hv⟩:=Uw h hq hb
   have run:∀P w',(do pure (if ←asBool (a.eval (.tmp t)) then a.eval x else a.eval y):Sem Value).run P w'=.ok (if b then a.eval x else a.eval y) w':=λP w'=>by
    rw[hv];rfl
   cases ht:isTrue x with
   | true=>
    rw[ht] at he
    simp only[cond_true] at he
    split at he
    ·rename_i z hz
     obtain⟨rfl,rfl⟩:=Prod.mk.inj (agS he)
     have hx:=Ux ht
     subst hx
     refine⟨.bool (b||z),RD.bool _,Z,λP w'=>?_⟩
     rw[run]
     cases b with
     | true=>rfl
     | false=>
      have hr:=(aC h abU hz).1
      generalize a.eval y=u at hr
      cases (show RD F w _ _ from hr)
      simp
    ·simp at he
   | false=>
    rw[ht] at he
    simp only[cond_false] at he
    cases hf:isFalse y with
    | true=>
     rw[hf] at he
     simp only[cond_true] at he
     split at he
     ·rename_i z hz
      obtain⟨rfl,rfl⟩:=Prod.mk.inj (agS he)
      have hy:=PL hf
      subst hy
      refine⟨.bool (b&&z),RD.bool _,Z,λP w'=>?_⟩
      rw[run]
      cases b with
      | false=>rfl
      | true=>
       have hr:=(aC h abU hz).1
       generalize a.eval x=u at hr
       cases (show RD F w _ _ from hr)
       simp
     ·simp at he
    | false=>rw[hf] at he;simp at he
  ·simp at he
 ·simp at he
theorem Uy{P:Program}{m:Nat}{x y v:V}{vx vy:Value}{ob:List Prop}(h:acQ x y=some (v,ob))(hx:R3 ρ F w x vx)(hy:R3 ρ F w y vy)(ts:Array TypeId)(ty:TypeId) :
  ∃r,R3 ρ F w v r∧v.aQ (fresh m)=true∧∀w',(Builtin.max_ ts ty #[vx,vy]).run P w'=.ok r w':=by
 unfold acQ at h
 split at h
 ·obtain⟨rfl,rfl⟩:=Prod.mk.inj (agS h)
  cases (show RD F w _ _ from hx);cases (show RD F w _ _ from hy)
  exact⟨_,RD.int _ _,Z,λw'=>by simp [Builtin.max_,Builtin.max2]⟩
 ·simp at h
theorem Uz{P:Program}{m:Nat}{x y v:V}{vx vy:Value}{ob:List Prop}(h:acR x y=some (v,ob))(hx:R3 ρ F w x vx)(hy:R3 ρ F w y vy)(ts:Array TypeId)(ty:TypeId) :
  ∃r,R3 ρ F w v r∧v.aQ (fresh m)=true∧∀w',(Builtin.min_ ts ty #[vx,vy]).run P w'=.ok r w':=by
 unfold acR at h
 split at h
 ·obtain⟨rfl,rfl⟩:=Prod.mk.inj (agS h)
  cases (show RD F w _ _ from hx);cases (show RD F w _ _ from hy)
  exact⟨_,RD.int _ _,Z,λw'=>by simp [Builtin.min_,Builtin.min2]⟩
 ·simp at h
theorem jB(h:aF C s a w ρ F)(hq:pcA a.tmps q):∀{xs:List Operand} {us:List V},evs s.L q xs=some us->aH (R3 ρ F w) us (xs.map a.eval)∧∀u∈us,u.aQ (fresh s.m)=true
 | [],us,he=>by simp [evs] at he;subst he;exact⟨tR,by simp⟩
 | x::xs,us,he=>by
  simp only[evs] at he
  split at he
  ·simp at he
  ·rename_i v hv
   split at he
   ·simp at he
   ·rename_i us' hus
    simp only[agR] at he
    subst he
    obtain⟨h1,h2⟩:=aC h hq hv
    obtain⟨h3,h4⟩:=jB h hq hus
    exact⟨⟨h1,h3⟩,by simp only[List.mem_cons,forall_eq_or_imp];exact⟨h2,h4⟩⟩
theorem Fh:∀{us:List V} {cs:List Value},leaves us=true->aH (R3 ρ F w) us cs->aH (R0 ρ F w) us cs
 | [],[],_,_=>trivial
 | u::us,c::cs,h,⟨h1,h2⟩=>by
  simp only[leaves,agN] at h
  refine⟨?_,Fh h.2 h2⟩
  have hl:=h.1
  cases u<;>first | exact h1 | simp [V.leaf] at hl
 | [],_::_,_,h=>h.elim
 | _::_,[],_,h=>h.elim
theorem Ah{m:Nat}:∀{us:List V},leaves us=true->(∀u∈us,u.aQ (fresh m)=true)->us.all (fresh m)=true
 | [],_,_=>rfl
 | u::us,h,hf=>by
  simp only[leaves,agN] at h
  simp only[List.all_cons,agN]
  refine⟨?_,Ah h.2 λu hu=>hf u (by simp [hu])⟩
  have hl:=h.1
  have h1:=hf u (by simp)
  cases u<;>first | exact h1 | simp [V.leaf] at hl
theorem xG(h:aF C s a w ρ F)(hq:pcA a.tmps q){x:Option Operand}{u:Option V}(he:evo s.L q x=some u):PD ρ F w u (x.map a.eval):=by
 cases x with
 | none=>simp [evo] at he;subst he;trivial
 | some x=>
  simp only[evo] at he
  split at he
  ·simp at he
  ·rename_i v hv
   simp only[agR] at he
   subst he
   exact (aC h hq hv).1
theorem Xu{v:V}{c:Value}(h:qA v c):R1 ρ F w v c:=by
 cases v with
 | d y=>cases y<;>first | (rw[show c=_ from h];constructor) | exact h.elim
 | aD=>exact h
 | dead=>exact h
 | _=>exact h.elim
theorem Xv{v:V}{c:Value}{m:Nat}(h:qA v c):v.all1 (fresh m)=true:=by cases v<;>first | rfl | exact h.elim
theorem Fj{us:List V}{cs:List Value}{m:Nat}(h:aH qA us cs):aH (R1 ρ F w) us cs∧us.all (V.all1 (fresh m))=true:=by
 induction us generalizing cs with
 | nil=>cases cs with
  | nil=>exact⟨tR,rfl⟩
  | cons _ _=>exact h.elim
 | cons u us ih=>cases cs with
  | nil=>exact h.elim
  | cons c cs=>exact⟨⟨Xu h.1,(ih h.2).1⟩,by simp only[List.all_cons,agN];exact⟨Xv h.1,(ih h.2).2⟩⟩
theorem vK{v:V}{c:Value}{m:Nat}(hv:R1 ρ F w v c)(hf:v.all1 (fresh m)=true):∀{us us':List V} {off:Nat} {cs:List Value},setAt us off v=some us'->aH (R1 ρ F w) us cs->us.all (V.all1 (fresh m))=true->
  off<cs.length∧aH (R1 ρ F w) us' (cs.set off c)∧us'.all (V.all1 (fresh m))=true
 | [],_,_,_,h,_,_=>by simp [setAt] at h
 | _::r,_,0,[],_,h2,_=>h2.elim
 | _::r,us',0,_::cs,h,h2,h3=>by
  simp only[setAt,agR] at h
  subst h
  simp only[List.all_cons,agN] at h3 ⊢
  exact⟨by simp,⟨hv,h2.2⟩,hf,h3.2⟩
 | _::r,_,n+1,[],_,h2,_=>h2.elim
 | u::r,us',n+1,c0::cs,h,h2,h3=>by
  simp only[setAt] at h
  split at h
  ·rename_i r' hr
   simp only[agR] at h
   subst h
   simp only[List.all_cons,agN] at h3 ⊢
   obtain⟨a1,a2,a3⟩:=vK hv hf hr h2.2 h3.2
   exact⟨by simp only[List.length_cons];omega,⟨h2.1,a2⟩,h3.1,a3⟩
  ·simp at h
theorem PO{v v':V}{c:Value}{m:Nat}(h:Uo v=some v')(hr:R3 ρ F w v c)(hf:v.aQ (fresh m)=true):R1 ρ F w v c∧v.all1 (fresh m)=true∧c.cells=#[c]:=by
 have one:∀{c:Value},c.oneCell'=true->c.cells=#[c]:=λ{c} h=>by cases c<;>first | rfl | cases h
 cases v<;>simp only[Uo,reduceCtorEq] at h
 ·exact⟨hr,Z,one (RD.one (show RD F w _ _ from hr))⟩
 ·exact⟨hr,Z,one (by rw[show c=.slice none 0 0 from hr];rfl)⟩
 ·exact⟨hr,hf,one (R1.one (ρ:=ρ) (F:=F) (w:=w) (u:=.ptr _ _) hr)⟩
 ·exact⟨hr,hf,one (R1.one (ρ:=ρ) (F:=F) (w:=w) (u:=.own _) hr)⟩
 ·exact⟨hr,hf,one (R1.one (ρ:=ρ) (F:=F) (w:=w) (u:=.fn _ _) hr)⟩
theorem yO{m off:Nat}:∀{vs:List V} {ds:List Value} {us us':List V} {k:Nat} {cs:Array Value},setMany us (off+k) vs=some us'->aH (R1 ρ F w) vs ds->vs.all (V.all1 (fresh m))=true->aH (R1 ρ F w) us cs.toList->us.all (V.all1 (fresh m))=true->
  (ds=[]∨off+k+ds.length≤cs.size)∧aH (R1 ρ F w) us' ((ds.zipIdx k).foldl (λcs (x:Value×Nat)=>cs.setIfInBounds (off+x.2) x.1) cs).toList∧us'.all (V.all1 (fresh m))=true
 | [],[],us,us',k,cs,h,_,_,h3,h4=>by
  simp only[setMany,agR] at h
  subst h
  exact⟨.inl Z,h3,h4⟩
 | [],_::_,_,_,_,_,_,h,_,_,_=>h.elim
 | _::_,[],_,_,_,_,_,h,_,_,_=>h.elim
 | v::vs,d::ds,us,us',k,cs,h,h1,h2,h3,h4=>by
  simp only[setMany] at h
  split at h
  ·rename_i us2 hs
   simp only[List.all_cons,agN] at h2
   obtain⟨a1,a2,a3⟩:=vK h1.1 h2.1 hs h3 h4
   have a2:aH (R1 ρ F w) us2 (cs.setIfInBounds (off+k) d).toList:=by rw[Array.toList_setIfInBounds];exact a2
   obtain⟨b1,b2,b3⟩:=yO (k:=k+1) (by rw[←Nat.add_assoc];exact h) h1.2 h2.2 a2 a3
   have hl:cs.toList.length=cs.size:=Array.length_toList
   refine⟨.inr ?_,by rw[List.zipIdx_cons,List.foldl_cons];exact b2,b3⟩
   rw[List.length_cons]
   rcases b1 with rfl | b1
   ·simp;omega
   ·rw[Array.size_setIfInBounds] at b1;omega
  ·simp at h
theorem PS{v:V}{c:Value}{m off n:Nat}{us us':List V}{cs:Array Value}(h:aax us off n v=some us')(hr:R3 ρ F w v c)(hf:v.aQ (fresh m)=true)(h1:aH (R1 ρ F w) us cs.toList)(h2:us.all (V.all1 (fresh m))=true) :
  c.cells.size=n∧off+n≤cs.size∧aH (R1 ρ F w) us' (c.cells.zipIdx.foldl (λcs (x:Value×Nat)=>cs.setIfInBounds (off+x.2) x.1) cs).toList∧us'.all (V.all1 (fresh m))=true:=by
 have flat:∀{v':V},Uo v=some v'->(match Uo v,setAt us off v with | some _,some us'=>bif Nat.beq n 1 then some us' else none | _,_=>none)=some us'->c.cells.size=n∧off+n≤cs.size∧aH (R1 ρ F w) us' (c.cells.zipIdx.foldl (λcs (x:Value×Nat)=>cs.setIfInBounds (off+x.2) x.1) cs).toList∧us'.all (V.all1 (fresh m))=true:=λ{v'} ho h=>by
  rw[ho] at h
  split at h
  ·rename_i us2 hs
   cases hn:Nat.beq n 1 with
   | false=>rw[hn] at h;simp at h
   | true=>
    rw[hn] at h
    simp only[cond_true,agR] at h
    subst h
    have hn:=agU hn
    subst hn
    rename_i hs
    obtain⟨c1,c2,c3⟩:=PO (m:=m) ho hr hf
    obtain⟨d1,d2,d3⟩:=vK c1 c2 hs h1 h2
    have hl:cs.toList.length=cs.size:=Array.length_toList
    rw[c3]
    refine⟨Z,by omega,?_,d3⟩
    rw[show (#[c].zipIdx.foldl (λcs (x:Value×Nat)=>cs.setIfInBounds (off+x.2) x.1) cs)=cs.setIfInBounds off c from by simp,Array.toList_setIfInBounds]
    exact d2
  ·simp at h
 cases v with
 | agg vs=>
  simp only[aax] at h
  cases hn:(Nat.beq n vs.length&&Nat.ble 1 n) with
  | false=>rw[hn] at h;simp at h
  | true=>
   rw[hn] at h
   simp only[cond_true] at h
   simp only[agN] at hn
   have hn1:=agU hn.1
   have hn2:=Nat.le_of_ble_eq_true hn.2
   obtain⟨ds,rfl,hds⟩:=(show R2 ρ F w (.agg vs) c from hr)
   obtain⟨a1,a2,a3⟩:=yO (off:=off) (k:=0) h hds hf h1 h2
   have hlen:=hds.length
   have hc:(Value.agg ds.toArray).cells=ds.toArray:=rfl
   rw[hc]
   refine⟨by rw[List.size_toArray];omega,?_,?_,a3⟩
   ·rcases a1 with rfl | a1
    ·rw[List.length_nil] at hlen;omega
    ·omega
   ·have:ds.toArray.zipIdx.foldl (λcs (x:Value×Nat)=>cs.setIfInBounds (off+x.2) x.1) cs=(ds.zipIdx 0).foldl (λcs (x:Value×Nat)=>cs.setIfInBounds (off+x.2) x.1) cs:=by
     rw[←Array.foldl_toList];simp
    rw[this];exact a2
 | d y=>exact flat rfl h
 | aD=>exact flat rfl h
 | ptr _ _=>exact flat rfl h
 | own _=>exact flat rfl h
 | fn _ _=>exact flat rfl h
 | _=>simp [aax,Uo] at h
theorem tF(h:aF C s a w ρ F)(hq:pcA a.tmps q){pl:List (Nat×Nat)}{pf:Nat->Option (Nat×Nat)}(hpf:∀i x,pl[i]?=some x->pf i=some x):∀{ps:List (Nat×Operand)} {us us':List V} {cs:Array Value},BS s.L q pl us ps=some us'->aH (R1 ρ F w) us cs.toList->us.all (V.all1 (fresh s.m))=true->
  ∃cs',Instr.fill pf cs (ps.map λ(i,x)=>(i,a.eval x))=some cs'∧aH (R1 ρ F w) us' cs'.toList∧us'.all (V.all1 (fresh s.m))=true
 | [],us,us',cs,he,h1,h2=>by
  simp only[BS,agR] at he
  subst he
  exact⟨cs,Z,h1,h2⟩
 | (i,x)::ps,us,us',cs,he,h1,h2=>by
  simp only[BS] at he
  split at he
  ·rename_i off n v hpl hv
   split at he
   ·rename_i us2 hs
    obtain⟨b1,b2⟩:=aC h hq hv
    obtain⟨c1,c2,d2,d3⟩:=PS (m:=s.m) hs b1 b2 h1 h2
    obtain⟨cs',e1,e2,e3⟩:=tF h hq hpf (ps:=ps) he d2 d3
    refine⟨cs',?_,e2,e3⟩
    have hp2:pf i=some (off,n):=hpf _ _ hpl
    show Instr.fill pf cs ((i,a.eval x)::ps.map λ(i,x)=>(i,a.eval x))=some cs'
    rw[Instr.fill,hp2]
    simp only[c1]
    rw[if_neg]
    ·exact e1
    ·simp
     omega
   ·simp at he
  ·simp at he
theorem yP(hg:bV C.P g.tys):∀{fl:List Field} {pl:List (Nat×Nat)},Af g (fl.map λf=>(f.offset,f.type))=some pl->fl.mapM (λf=>(C.P.info? f.type).map λi=>(f.offset,i.size))=some pl
 | [],pl,h=>by simp only[List.map_nil,Af,agR] at h;subst h;rfl
 | f::fl,pl,h=>by
  simp only[List.map_cons,Af] at h
  split at h
  ·rename_i ti l h1 h2
   simp only[agR] at h
   subst h
   obtain⟨i,z,hi,hs,_⟩:=(bS hg h1).info
   simp only[List.mapM_cons,yP hg h2,hi,Option.map_some,hs]
   rfl
  ·simp at h
theorem L9:∀{n k i:Nat} {x:Nat×Nat},(Jf k n)[i]?=some x->x=(k+i,1)
 | 0,k,i,x,h=>by simp [Jf] at h
 | n+1,k,0,x,h=>by
  simp only[Jf,List.getElem?_cons_zero,agR] at h
  exact h.symm
 | n+1,k,i+1,x,h=>by
  simp only[Jf,List.getElem?_cons_succ] at h
  rw[L9 h,Nat.add_assoc,Nat.add_comm 1 i]
theorem UA(hg:bV C.P g.tys)(h:aF C s a w ρ F)(hq:pcA a.tmps q){t:TypeId}{ps:Array (Nat×Operand)}{v:V}{ob:List Prop}(he:acS g s.L q t ps.toList=some (v,ob)) :
  ∃x,R3 ρ F w v x∧v.aQ (fresh s.m)=true∧∀w',(Instr.build t (ps.map λ(i,x)=>(i,a.eval x))).run C.P w'=.ok x w':=by
 unfold acS at he
 split at he
 ·rename_i ti hti
  split at he
  ·rename_i fs _ hk
   split at he
   ·rename_i pl hpl
    split at he
    ·rename_i us hus
     simp only[agR,agW] at he
     obtain⟨rfl,rfl⟩:=he
     have hok:=bS hg hti
     obtain⟨i,z,hi,hs,hby,hz,hsz,hall⟩:=hok.info
     have nN:=hok.und
     rw[hk] at nN hall
     obtain⟨⟨fields,hf,rfl⟩,_⟩:=nN
     obtain⟨l1,l2⟩:=Fj (ρ:=ρ) (F:=F) (w:=w) (m:=s.m) hall
     obtain⟨cs',e1,e2,e3⟩:=tF h hq (pf:=(pl.toArray[·]?)) (λi x hx=>by show pl.toArray[i]?=_;rw[List.getElem?_toArray];exact hx) hus l1 l2
     refine⟨.agg cs',⟨cs'.toList,by simp,e2⟩,e3,λw'=>run_build w' t _ cs' ?_⟩
     unfold Program.built
     rw[hi,hf]
     simp only[hz,yP hg hpl]
     rw[Array.toList_map]
     exact e1
    ·simp at he
   ·simp at he
  ·rename_i n e hk
   split at he
   ·rename_i te hte
    cases hb:Nat.beq te.size 1 with
    | false=>rw[hb] at he;simp at he
    | true=>
     rw[hb] at he
     simp only[cond_true] at he
     have hb:=agU hb
     split at he
     ·rename_i us hus
      simp only[agR,agW] at he
      obtain⟨rfl,rfl⟩:=he
      have hok:=bS hg hti
      obtain⟨i,z,hi,hs,hby,hz,hsz,hall⟩:=hok.info
      obtain⟨ie,ze,hie,hse,_⟩:=(bS hg hte).info
      have nN:=hok.und
      rw[hk] at nN hall
      have nN:C.P.underlying t=some (.array n e):=nN
      obtain⟨l1,l2⟩:=Fj (ρ:=ρ) (F:=F) (w:=w) (m:=s.m) hall
      obtain⟨cs',e1,e2,e3⟩:=tF h hq (pf:=λi=>some (i*ie.size,ie.size)) (λi x hx=>by rw[L9 hx,hse,hb,Nat.mul_one,Nat.zero_add]) hus l1 l2
      refine⟨.agg cs',⟨cs'.toList,by simp,e2⟩,e3,λw'=>run_build w' t _ cs' ?_⟩
      unfold Program.built
      rw[hi,nN]
      simp only[hz,hie]
      rw[Array.toList_map]
      exact e1
     ·simp at he
   ·simp at he
  ·simp at he
 ·simp at he
theorem Ai:∀{us:List V} {ns:List (IntKind×Int)} {cs:List Value},gV us=some ns->aH (R1 ρ F w) us cs->cs=ns.map λx=>Value.int x.1 x.2
 | [],ns,[],h,_=>by simp only[gV,agR] at h;subst h;rfl
 | [],_,_::_,_,h=>h.elim
 | .d (.int k n)::us,ns,c::cs,h,hr=>by
  simp only[gV] at h
  split at h
  ·rename_i l hl
   simp only[agR] at h
   subst h
   cases (show RD F w (.int k n) c from hr.1)
   rw[Ai hl hr.2];rfl
  ·simp at h
 | .d (.int k n)::us,ns,[],h,hr=>hr.elim
 | .d (.bool _)::_,_,_,h,_=>by simp [gV] at h
 | .d (.str _)::_,_,_,h,_=>by simp [gV] at h
 | .d (.sl _ _ _)::_,_,_,h,_=>by simp [gV] at h
 | .d .nf::_,_,_,h,_=>by simp [gV] at h
 | .d .ni::_,_,_,h,_=>by simp [gV] at h
 | .d .np::_,_,_,h,_=>by simp [gV] at h
 | .d (.ifc _ _)::_,_,_,h,_=>by simp [gV] at h
 | .aD::_,_,_,h,_=>by simp [gV] at h
 | .ptr _ _::_,_,_,h,_=>by simp [gV] at h
 | .own _::_,_,_,h,_=>by simp [gV] at h
 | .bD _ _ _ _::_,_,_,h,_=>by simp [gV] at h
 | .gU _::_,_,_,h,_=>by simp [gV] at h
 | .fn _ _::_,_,_,h,_=>by simp [gV] at h
 | .agg _::_,_,_,h,_=>by simp [gV] at h
 | .tup _::_,_,_,h,_=>by simp [gV] at h
 | .g _ _::_,_,_,h,_=>by simp [gV] at h
 | .dead::_,_,_,h,_=>by simp [gV] at h
theorem UC(hg:bV C.P g.tys){t:TypeId}{u v:V}{vx:Value}{ob:List Prop}{m:Nat}(he:acT g t u=some (v,ob))(hx:R3 ρ F w u vx) :
  ∃x,R3 ρ F w v x∧v.aQ (fresh m)=true∧∀w',(Instr.makeInterface t vx).run C.P w'=.ok x w':=by
 unfold acT at he
 split at he
 ·rename_i ti hti
  have nN:=(bS hg hti).und
  split at he
  ·rename_i fs ks us hk
   rw[hk] at nN
   obtain⟨⟨fields,hf,_⟩,_⟩:=nN
   split at he
   ·rename_i ns hns
    obtain⟨rfl,rfl⟩:=Prod.mk.inj (agS he)
    obtain⟨cs,rfl,hc⟩:=(show R2 ρ F w (.agg us) vx from hx)
    obtain rfl:=Ai hns hc
    exact⟨_,RD.ifc t ns,Z,λw'=>by simp only[Instr.makeInterface,Sem.run_bind,aP hf,Result.andThen];rfl⟩
   ·simp at he
  ·simp at he
 ·simp at he
theorem UD(hg:bV C.P g.tys){t xt:TypeId}{u v:V}{vx:Value}{ob:List Prop}{m:Nat}(he:acU g t u=some (v,ob))(hx:R3 ρ F w u vx) :
  ∃x,R3 ρ F w v x∧v.aQ (fresh m)=true∧∀w',(Instr.typeAssert vx xt t true).run C.P w'=.ok x w':=by
 unfold acU at he
 split at he
 ·rename_i ti hti
  have nN:=(bS hg hti).und
  split at he
  ·rename_i fs ks t' ns hk
   rw[hk] at nN
   obtain⟨⟨fields,hf,_⟩,_⟩:=nN
   cases hb:Nat.beq t' t with
   | false=>rw[hb] at he;simp at he
   | true=>
    rw[hb] at he
    simp only[cond_true] at he
    have:=agU hb
    subst this
    obtain⟨rfl,rfl⟩:=Prod.mk.inj (agS he)
    cases (show RD F w (.ifc t' ns) vx from hx)
    refine⟨.tuple #[.agg (ns.map λx=>Value.int x.1 x.2).toArray,.bool true],⟨[_,_],Z,⟨_,Z,?_⟩,RD.bool _,tR⟩,?_,λw'=>?_⟩
    ·have key:∀l:List (IntKind×Int),aH (R1 ρ F w) (l.map λx=>V.d (D.int x.1 x.2)) (l.map λx=>Value.int x.1 x.2):=λl=>by
      induction l with
      | nil=>exact tR
      | cons n l ih=>exact⟨RD.int _ _,ih⟩
     exact key ns
    ·simp [V.aQ,V.all2,V.all1,fresh]
    ·simp only[Instr.typeAssert,Sem.run_bind,aP hf,Result.andThen,if_true];rfl
  ·simp at he
 ·simp at he
theorem Ma(a b:BY):Instr.sameNow .string (.string a) (.string b)=some (decide (a=b)):=by
 show some (a == b)=_
 congr 1
 rw[Bool.eq_iff_iff,decide_eq_true_iff]
 exact MapKept.bytes_beq a b
theorem rW(s:BY):(⟨s.data.toList.toArray⟩:BY)=s:=by cases s;simp
def lV:Key->TypeDesc
 | .inl _=>.string
 | .inr _=>.int .u8
theorem Dy{a b:Key}(h:Sg a b=true):Instr.sameNow (lV a) (dO a) (dO b)=some (decide (qJ a b)):=by
 cases a with
 | inl a=>cases b with
  | inl b=>
   show Instr.sameNow .string (.string ⟨a.toArray⟩) (.string ⟨b.toArray⟩)=_
   rw[Ma]
   congr 1
   rw[decide_eq_decide]
   show _↔a=b
   constructor
   ·intro e
    have:=congrArg (λs:BY=>s.data.toList) e
    simpa using this
   ·rintro rfl;rfl
  | inr b=>cases h
 | inr a=>cases b with
  | inl b=>cases h
  | inr b=>
   show (if IntKind.u8=IntKind.u8 then some (a == b) else none)=_
   rw[if_pos rfl]
   congr 1
theorem BU(k:Key):MapKept.IsKey (lV k) (dO k):=by cases k<;>trivial
theorem Dz{tk:TK}{v:V}{k:Key}{x:Value}{P:Program}{t:TypeId}{ti:TI}(h:keyOf tk v=some k)(hr:R3 ρ F w v x)(hti:ti.OK P t)(hk:ti.kind=tk):x=dO k∧P.underlying t=some (lV k):=by
 have hu:=hti.und
 rw[hk] at hu
 unfold keyOf at h
 split at h
 ·simp only[agR] at h
  subst h
  cases (show RD F w _ x from hr)
  exact⟨by show _=Value.string ⟨_⟩;rw[rW],hu⟩
 ·simp only[agR] at h
  subst h
  cases (show RD F w _ x from hr)
  exact⟨Z,hu⟩
 ·cases h
def dV(k:Key):List (Key×V)->Option V
 | []=>none
 | (a,v)::r=>if qJ k a then some v else dV k r
theorem Jg{k:Key}:∀{es:List (Key×V)} {v:V},dV k es=some v->∃a,(a,v)∈es
 | [],v,h=>by simp [dV] at h
 | (a,u)::es,v,h=>by
  unfold dV at h
  split at h
  ·simp only[agR] at h;subst h;exact⟨a,by simp⟩
  ·obtain⟨a',h'⟩:=Jg h;exact⟨a',by simp [h']⟩
theorem nO(k:Key):∀{es:List (Key×V)} {l:List MapEntry} (i:Nat),mW k es=true->aH (λe x=>x.key=dO e.1∧R2 ρ F w e.2 x.val) es l->
  (dV k es=none∧Instr.findNow (lV k) (dO k) l i=some none)∨∃v j x,dV k es=some v∧Instr.findNow (lV k) (dO k) l i=some (some (j,x))∧R2 ρ F w v x
 | [],[],i,_,_=>.inl ⟨rfl,rfl⟩
 | [],_::_,_,_,h=>h.elim
 | _::_,[],_,_,h=>h.elim
 | (a,v)::es,x::l,i,hok,⟨⟨h1,h2⟩,h3⟩=>by
  simp only[mW,agN] at hok
  simp only at h1 h2
  unfold Instr.findNow dV
  rw[h1,Dy hok.1]
  by_cases hk:qJ k a
  ·simp only[hk,if_true,decide_true]
   exact .inr ⟨v,i,x.val,Z,Z,h2⟩
  ·simp only[hk,if_false,decide_false]
   exact nO k (i+1) hok.2 h3
theorem Kr{k:Key}:∀{es:List (Key×V)},allI es=true->(dV k es=none∧Uq k es=0)∨∃n,dV k es=some (vi n)∧Uq k es=n
 | [],_=>.inl ⟨rfl,rfl⟩
 | (a,v)::es,h=>by
  cases v with
  | d x=>
   cases x with
   | int kk n=>
    cases kk<;>simp only[allI,ag0] at h
    unfold dV Uq
    by_cases hk:qJ k a
    ·simp only[hk,if_true];exact .inr ⟨n,Z,Z⟩
    ·simp only[hk,if_false];exact Kr h
   | _=>simp [allI] at h
  | _=>simp [allI] at h
def ru:Option (Nat×Value)->Value->Value
 | some (_,v),_=>v
 | none,z=>z
theorem vL{P:Program}{t kt et:TypeId}(hu:P.underlying t=some (.map kt et))(k:Key)(hk:P.underlying kt=some (lV k)){b clock:Nat}{arr:Array MapEntry}{w':World}(hb:w'.heap[b]?=some (.map arr clock)){r:Option (Nat×Value)}(hf:Instr.findNow (lV k) (dO k) arr.toList 0=some r){z:Value}(hz:(zeroValue et).run P w'=.ok z w')(c:Bool) :
  (Instr.lookup t (.map (some b)) (dO k) c).run P w'=.ok (if c then .tuple #[ru r z,.bool r.isSome] else ru r z) w':=by
 have h1:=MapKept.run_checkKey (P:=P) (w:=w') hk (k:=dO k) (BU k) arr.isEmpty 9999
 have h2:=MapKept.run_findKey (P:=P) (w:=w') hk hf
 simp only[Instr.lookup,Sem.run_bind,aP hu,Result.andThen,MapKept.run_getObj_map hb,Sem.run_pure,h1,h2]
 cases r with
 | some p=>cases c<;>rfl
 | none=>simp only[Sem.run_bind,hz,Result.andThen,Sem.run_pure];cases c<;>rfl
theorem BX{P:Program}{t:TypeId}{ti:TI}(hti:ti.OK P t)(w:World):∃z,(zeroValue t).run P w=.ok z w∧z.cells.size=ti.size∧aH qA (match ti.kind with | .array n _=>(List.replicate n ti.zero).flatten | _=>ti.zero) z.cells.toList:=by
 obtain⟨i,z,h1,h2,h3,h4,h5,h6⟩:=hti.info
 exact⟨z,by simp [zeroValue,typeInfo,h1,h4],h5,h6⟩
theorem PU(hg:bV C.P g.tys)(h:aF C s a w ρ F){t:TypeId}{u k v:V}{vx vk:Value}{ob:List Prop}{m:Nat}(he:Xn g s.H t u k=some (v,ob))(hx:R3 ρ F w u vx)(hk:R3 ρ F w k vk)(hBH:∀i c k,(i,c)∈s.H->blk (ρ i)=some k->B k) :
  ∃x,R3 ρ F w v x∧v.aQ (fresh m)=true∧∀w',Agr B w w'->(Instr.lookup t vx vk false).run C.P w'=.ok x w':=by
 unfold Xn at he
 split at he
 ·rename_i ti id sk hti
  split at he
  ·rename_i kt et es hkind hget
   split at he
   ·rename_i tk te htk hte
    split at he
    ·rename_i hk1 hk2 hz0
     cases hall:(allI es&&mW (.inl sk.data.toList) es) with
     | false=>rw[hall] at he;simp at he
     | true=>
      rw[hall] at he
      simp only[cond_true] at he
      simp only[agN] at hall
      obtain⟨hall,hks⟩:=hall
      obtain⟨rfl,rfl⟩:=Prod.mk.inj (agS he)
      have hu:=(bS hg hti).und
      rw[hkind] at hu
      have huk:=(bS hg htk).und
      rw[hk1] at huk
      cases (show RD F w _ vk from hk)
      rw[show Value.string sk=dO (.inl sk.data.toList) by show _=Value.string ⟨_⟩;rw[rW]]
      obtain⟨rfl,_⟩:=(show R0 ρ F w (.own id) vx from hx)
      obtain⟨b,arr,clock,e1,e2,e3⟩:=h.ch _ _ (get_mem hget)
      have hblt:b<w.heap.size:=(Array.getElem?_eq_some_iff.1 e2).1
      have hBb:=hBH id _ b (get_mem hget) (by rw[e1];rfl)
      rw[e1]
      have key:∀w',Agr B w w'->w'.heap[b]?=some (.map arr clock):=λw' hw'=>(hw' b hBb hblt).trans e2
      have zv:∀w',(zeroValue et).run C.P w'=.ok (.int .i64 0) w':=λw'=>by
       obtain⟨z,z1,z2,z3⟩:=BX (bS hg hte) w'
       rw[hk2,hz0] at z3
       have z4:=(bS hg hte).und
       have z5:z.oneCell'=true:=by
        obtain⟨i,zz,i1,_,_,i4,_⟩:=(bS hg hte).info
        have:z=zz:=by
         have:=z1
         simp [zeroValue,typeInfo,i1,i4] at this
         exact this.symm
        subst this
        exact (bS hg hte).one i _ i1 i4 (by rw[hk2];rfl)
       rw[z1]
       congr 1
       cases z with
       | agg cs=>simp [Value.oneCell'] at z5
       | _=>simp only[Value.cells] at z3;exact z3.1
      rcases nO (ρ:=ρ) (F:=F) (w:=w) (.inl sk.data.toList) 0 hks e3 with⟨f1,f2⟩ | ⟨v',j,x,f1,f2,f3⟩
      ·rcases Kr (k:=.inl sk.data.toList) hall with⟨g1,g2⟩ | ⟨n,g1,g2⟩
       ·rw[g2]
        exact⟨_,RD.int _ _,Z,λw' hw'=>vL hu (.inl sk.data.toList) huk (key w' hw') f2 (zv w') false⟩
       ·rw[f1] at g1;cases g1
      ·rcases Kr (k:=.inl sk.data.toList) hall with⟨g1,g2⟩ | ⟨n,g1,g2⟩
       ·rw[f1] at g1;cases g1
       ·rw[f1] at g1
        obtain rfl:=agS g1
        rw[g2]
        exact⟨x,f3,Z,λw' hw'=>vL hu (.inl sk.data.toList) huk (key w' hw') f2 (zv w') false⟩
    ·simp at he
   ·simp at he
  ·simp at he
 ·simp at he
def UE:Nat->List BY->List (Key×V)
 | _,[]=>[]
 | i,s::r=>(.inl s.data.toList,vi (i:Int))::UE (i+1) r
theorem Kt(k:List UInt8):∀(i:Nat) (l:List BY),mW (.inl k) (UE i l)=true
 | _,[]=>rfl
 | i,s::r=>by show (true&&mW (.inl k) (UE (i+1) r))=true;rw[Kt k (i+1) r];rfl
theorem xH(s:BY):∀(i:Nat) (l:List BY),dV (.inl s.data.toList) (UE i l)=(vC i l s).map λn:Nat=>vi (n:Int)
 | _,[]=>rfl
 | i,a::r=>by
  unfold UE dV vC
  by_cases h:a.data.toList=s.data.toList
  ·rw[if_pos h,if_pos (show qJ (.inl s.data.toList) (.inl a.data.toList) from h.symm)];rfl
  ·rw[if_neg h,if_neg (λe:qJ (.inl s.data.toList) (.inl a.data.toList)=>h (Eq.symm e)),xH s (i+1) r]
theorem BZ:∀{i:Nat} {l:List BY} {L:List MapEntry},L.map (λe=>(e.key,e.val))=yB i l->aH (λe x=>x.key=dO e.1∧R2 ρ F w e.2 x.val) (UE i l) L
 | _,[],[],_=>trivial
 | _,[],_::_,h=>by simp [yB] at h
 | _,_::_,[],h=>by simp [yB] at h
 | i,s::r,x::L,h=>by
  simp only[yB,List.map_cons,List.cons.injEq,agW] at h
  refine⟨⟨?_,?_⟩,BZ h.2⟩
  ·rw[h.1.1];show _=Value.string ⟨_⟩;rw[rW]
  ·rw[h.1.2];exact jE (RD.int _ _)
theorem Mc:∀{i:Nat} {l:List BY} {L:List MapEntry},L.map (λe=>(e.key,e.val))=yB i l->L.length=l.length
 | _,[],[],_=>rfl
 | _,[],_::_,h=>by simp [yB] at h
 | _,_::_,[],h=>by simp [yB] at h
 | i,s::r,x::L,h=>by
  simp only[yB,List.map_cons,List.cons.injEq] at h
  simp [Mc h.2]
theorem DC(h:aF C s a w ρ F){m:V}{l:List BY}{vm:Value}(hp:posOf s.H m=some l)(hm:R3 ρ F w m vm)(hBF:∀k,F k->B k)(hBH:∀i c k,(i,c)∈s.H->blk (ρ i)=some k->B k) :
  ∃b arr clock,vm=.map (some b)∧B b∧w.heap[b]?=some (.map arr clock)∧arr.toList.map (λe=>(e.key,e.val))=yB 0 l:=by
 unfold posOf at hp
 split at hp
 ·obtain rfl:=agS hp
  cases (show RD F w _ vm from hm) with
  | mp _ b arr clock hF hh hk=>exact⟨b,arr,clock,rfl,hBF _ hF,hh,hk⟩
 ·rename_i id
  split at hp
  ·rename_i l' hget
   obtain rfl:=agS hp
   obtain⟨rfl,_⟩:=(show R0 ρ F w (.own id) vm from hm)
   obtain⟨b,arr,clock,e1,e2,e3⟩:=h.ch _ _ (get_mem hget)
   exact⟨b,arr,clock,e1,hBH id _ b (get_mem hget) (by rw[e1];rfl),e2,e3⟩
  ·cases hp
 ·cases hp
theorem Xw{te:TI}{et:TypeId}{P:Program}(hte:te.OK P et)(hk:te.kind=.int .i64)(hz0:te.zero=[.d (.int .i64 0)])(w':World):(zeroValue et).run P w'=.ok (.int .i64 0) w':=by
 obtain⟨z,z1,z2,z3⟩:=BX hte w'
 rw[hk,hz0] at z3
 have z5:z.oneCell'=true:=by
  obtain⟨i,zz,i1,_,_,i4,_⟩:=hte.info
  have:z=zz:=by
   have:=z1
   simp [zeroValue,typeInfo,i1,i4] at this
   exact this.symm
  subst this
  exact hte.one i _ i1 i4 (by rw[hk];rfl)
 rw[z1]
 congr 1
 cases z with
 | agg cs=>simp [Value.oneCell'] at z5
 | _=>simp only[Value.cells] at z3;exact z3.1
theorem DF(hg:bV C.P g.tys)(h:aF C s a w ρ F){t:TypeId}{u k v:V}{vx vk:Value}{ob:List Prop}{m:Nat}{c:Bool}(he:Si g s.H t u k c=some (v,ob))(hx:R3 ρ F w u vx)(hk:R3 ρ F w k vk)(hBF:∀k,F k->B k)(hBH:∀i c k,(i,c)∈s.H->blk (ρ i)=some k->B k) :
  ∃x,R3 ρ F w v x∧v.aQ (fresh m)=true∧∀w',Agr B w w'->(Instr.lookup t vx vk c).run C.P w'=.ok x w':=by
 unfold Si at he
 split at he
 ·rename_i ti l sk hti hpos
  split at he
  ·rename_i kt et hkind
   split at he
   ·rename_i tk te htk hte
    split at he
    ·rename_i hk1 hk2 hz0
     have hu:=(bS hg hti).und
     rw[hkind] at hu
     have huk:=(bS hg htk).und
     rw[hk1] at huk
     cases (show RD F w _ vk from hk)
     rw[show Value.string sk=dO (.inl sk.data.toList) by show _=Value.string ⟨_⟩;rw[rW]]
     obtain⟨b,arr,clock,rfl,hB,hh,hm⟩:=DC h hpos hx hBF hBH
     have hblt:b<w.heap.size:=(Array.getElem?_eq_some_iff.1 hh).1
     have key:∀w',Agr B w w'->w'.heap[b]?=some (.map arr clock):=λw' hw'=>(hw' b hB hblt).trans hh
     have zv:=Xw (bS hg hte) hk2 hz0
     have fin:∃r:Option (Nat×Value),Instr.findNow (lV (.inl sk.data.toList)) (dO (.inl sk.data.toList)) arr.toList 0=some r∧r.isSome=posB l sk∧ru r (.int .i64 0)=.int .i64 (dN l sk):=by
      rcases nO (ρ:=ρ) (F:=F) (w:=w) (.inl sk.data.toList) 0 (Kt _ 0 l) (BZ hm) with⟨f1,f2⟩ | ⟨v',j,x,f1,f2,f3⟩
      ·rw[xH] at f1
       have f1:vC 0 l sk=none:=Option.map_eq_none_iff.1 f1
       exact⟨none,f2,by rw[posB,f1];rfl,by rw[dN,f1];rfl⟩
      ·rw[xH] at f1
       cases hp:vC 0 l sk with
       | none=>rw[hp] at f1;cases f1
       | some n=>
        rw[hp] at f1
        obtain rfl:=agS f1
        cases (show RD F w _ x from f3)
        exact⟨some (j,.int .i64 n),f2,by rw[posB,hp];rfl,by rw[dN,hp];rfl⟩
     obtain⟨r,r1,r2,r3⟩:=fin
     split at he
     ·obtain⟨rfl,rfl⟩:=Prod.mk.inj (agS he)
      refine⟨.tuple #[.int .i64 (dN l sk),.bool (posB l sk)],⟨[.int .i64 (dN l sk),.bool (posB l sk)],Z,jE (RD.int _ _),jE (RD.bool _),tR⟩,Z,λw' hw'=>?_⟩
      rw[vL hu (.inl sk.data.toList) huk (key w' hw') r1 (zv w') true,r2,r3];rfl
     ·obtain⟨rfl,rfl⟩:=Prod.mk.inj (agS he)
      refine⟨.int .i64 (dN l sk),RD.int _ _,Z,λw' hw'=>?_⟩
      rw[vL hu (.inl sk.data.toList) huk (key w' hw') r1 (zv w') false,r3];rfl
    ·simp at he
   ·simp at he
  ·simp at he
 ·simp at he
theorem PV(hg:bV C.P g.tys)(h:aF C s a w ρ F){t ty:TypeId}{u v:V}{vx:Value}{ob:List Prop}{m:Nat}(he:aay g s.H t u=some (v,ob))(hx:R3 ρ F w u vx)(hBF:∀k,F k->B k)(hBH:∀i c k,(i,c)∈s.H->blk (ρ i)=some k->B k) :
  ∃x,R3 ρ F w v x∧v.aQ (fresh m)=true∧∀w',Agr B w w'->(Builtin.len_ #[t] ty #[vx]).run C.P w'=.ok x w':=by
 unfold aay at he
 split at he
 ·rename_i ti l hti hpos
  split at he
  ·rename_i kt et hkind
   obtain⟨rfl,rfl⟩:=Prod.mk.inj (agS he)
   have hu:=(bS hg hti).und
   rw[hkind] at hu
   obtain⟨b,arr,clock,rfl,hB,hh,hm⟩:=DC h hpos hx hBF hBH
   have hblt:b<w.heap.size:=(Array.getElem?_eq_some_iff.1 hh).1
   refine⟨.int .i64 (l.length:Int),RD.int _ _,Z,λw' hw'=>?_⟩
   have hl:=Mc hm
   have hb:w'.heap[b]?=some (.map arr clock):=(hw' b hB hblt).trans hh
   simp only[Builtin.len_,List.getElem?_toArray,List.getElem?_cons_zero,Sem.run_bind,aP (show C.P.underlying t=some (.map kt et) from hu),Result.andThen,MapKept.run_getObj_map hb,Sem.run_pure,goInt]
   rw[show arr.size=l.length by rw[←hl];simp]
  ·simp at he
 ·simp at he
theorem Me(hg:bV C.P g.tys)(h:aF C s a w ρ F){t:TypeId}{u k v:V}{vx vk:Value}{ob:List Prop}{m:Nat}{c:Bool}(he:Xo g s.H t u k c=some (v,ob))(hx:R3 ρ F w u vx)(hk:R3 ρ F w k vk)(hBF:∀k,F k->B k)(hBH:∀i c k,(i,c)∈s.H->blk (ρ i)=some k->B k) :
  ∃x,R3 ρ F w v x∧v.aQ (fresh m)=true∧∀w',Agr B w w'->(Instr.lookup t vx vk c).run C.P w'=.ok x w':=by
 unfold Xo at he
 split at he
 ·split at he
  ·rename_i r hr
   obtain rfl:=agS he
   exact PU (m:=m) hg h hr hx hk hBH
  ·exact DF (m:=m) hg h he hx hk hBF hBH
 ·exact DF (m:=m) hg h he hx hk hBF hBH
theorem Ca(hg:bV C.P g.tys)(h:aF C s a w ρ F)(hq:pcA a.tmps q){ck:Bool}{o:Oper}{v:V}{ob:List Prop}(he:rdE g ck s q o.op=some (v,ob))(hob:ak ob)(hBF:∀k,F k->B k)(hBH:∀i c k,(i,c)∈s.H->blk (ρ i)=some k->B k) :
  ∃x,R3 ρ F w v x∧v.aQ (fresh s.m)=true∧∀w',Agr B w w'->(execOp a.eval o).run C.P w'=.ok (.value x) w':=by
 have lift:∀{m:Sem Value},(execOp a.eval o=do pure (.value (←m)))->(∃x,R3 ρ F w v x∧v.aQ (fresh s.m)=true∧∀w',Agr B w w'->m.run C.P w'=.ok x w')->
   ∃x,R3 ρ F w v x∧v.aQ (fresh s.m)=true∧∀w',Agr B w w'->(execOp a.eval o).run C.P w'=.ok (.value x) w':=by
  rintro m hm ⟨x,h1,h2,h3⟩
  exact⟨x,h1,h2,λw' hw'=>by rw[hm];exact uY (h3 w' hw')⟩
 have drop:∀{m:Sem Value},(∃x,R3 ρ F w v x∧v.aQ (fresh s.m)=true∧∀w',m.run C.P w'=.ok x w')->∃x,R3 ρ F w v x∧v.aQ (fresh s.m)=true∧∀w',Agr B w w'->m.run C.P w'=.ok x w':=
  λ⟨x,h1,h2,h3⟩=>⟨x,h1,h2,λw' _=>h3 w'⟩
 obtain⟨dst,op,ty,pos,after,guard⟩:=o
 dsimp only at he
 unfold rdE at he
 split at he
 ·split at he
  ·rename_i u hu
   obtain⟨rfl,rfl⟩:=Prod.mk.inj (agS he)
   obtain⟨h1,h2⟩:=aC h hq hu
   exact⟨_,h1,h2,λw' _=>rfl⟩
  ·simp at he
 ·split at he
  ·rename_i u hu
   obtain⟨rfl,rfl⟩:=Prod.mk.inj (agS he)
   obtain⟨h1,h2⟩:=aC h hq hu
   exact⟨_,h1,h2,λw' _=>rfl⟩
  ·simp at he
 ·rename_i c x y
  obtain⟨r,h1,h2,h3⟩:=PN h hq he
  refine⟨r,h1,h2,λw' _=>?_⟩
  have:=h3 C.P w'
  simp only[execOp,Sem.run_bind] at this ⊢
  revert this
  cases (asBool (a.eval c)).run C.P w' with
  | ok b w2=>
   simp only[Result.andThen,Sem.run_pure]
   intro e
   simp only[Result.ok.injEq] at e
   rw[e.1,e.2]
  | halt hh w2=>intro e;simp [Result.andThen] at e
 ·rename_i op t x y _
  split at he
  ·rename_i k hk
   obtain rfl:=Xj hk
   split at he
   ·rename_i u hu
    exact lift Z (drop (Un hg he (aC h hq hu).1))
   ·simp at he
  ·split at he
   ·rename_i u u2 hu hu2
    exact lift Z (drop (Um hg he hob (aC h hq hu).1 (aC h hq hu2).1))
   ·simp at he
 ·split at he
  ·rename_i u hu
   exact lift Z (drop (Xq he hob (aC h hq hu).1))
  ·simp at he
 ·split at he
  ·rename_i u hu
   exact lift Z (PK hg h he hob (aC h hq hu).1 hBF hBH)
  ·simp at he
 ·split at he
  ·rename_i u u2 hu hu2
   exact lift Z (drop (Ur hg he hob (aC h hq hu).1 (aC h hq hu).2 (aC h hq hu2).1))
  ·simp at he
 ·split at he
  ·rename_i u u2 hu hu2
   exact lift Z (drop (Xr hg h he hob (aC h hq hu).1 (aC h hq hu).2 (aC h hq hu2).1))
  ·simp at he
 ·split at he
  ·rename_i u hu
   exact lift Z (drop (Xt hg he hob (aC h hq hu).1 (aC h hq hu).2))
  ·simp at he
 ·split at he
  ·rename_i u hu
   exact lift Z (drop (Ut hg he (aC h hq hu).1 (aC h hq hu).2))
  ·simp at he
 ·split at he
  ·rename_i u hu
   exact lift Z (LZ hg h he hob (aC h hq hu).1 hBF hBH)
  ·simp at he
 ·split at he
  ·rename_i u l hh hu hl hhi
   exact lift Z (drop (Uu hg he hob (aC h hq hu).1 (xG h hq hl) (xG h hq hhi)))
  ·simp at he
 ·rename_i t x lo hi mx
  split at he
  ·rename_i u l hh m hu hl hhi hm
   exact lift Z (drop (PE hg he hob (aC h hq hu).1 (xG h hq hl) (xG h hq hhi) (aC h hq hm).1))
  ·simp at he
 ·split at he
  ·rename_i i us hu
   split at he
   ·rename_i v' hv'
    obtain⟨rfl,rfl⟩:=Prod.mk.inj (agS he)
    obtain⟨h1,h2⟩:=aC h hq hu
    obtain⟨cs,hcs,hall⟩:=(show R3 ρ F w (.tup us) _ from h1)
    obtain⟨c,hc1,hc2⟩:=hall.get hv'
    refine lift Z ⟨c,kE hc2,?_,λw' _=>?_⟩
    ·simp only[V.aQ,List.all_eq_true] at h2
     have:=h2 _ (List.mem_of_getElem? hv')
     cases v'<;>first | exact this | exact (show False from hc2).elim
    ·rw[hcs]
     simp [Instr.extract,hc1]
   ·simp at he
  ·simp at he
 ·rename_i f first caps
  split at he
  ·rename_i us Xx hu
   cases hl:leaves us with
   | false=>rw[hl] at he;simp at he
   | true=>
    rw[hl] at he
    simp only[cond_true] at he
    obtain⟨rfl,rfl⟩:=Prod.mk.inj (agS he)
    obtain⟨h1,h2⟩:=jB h hq hu
    have hf0:first=#[]:=by cases first;simp at Xx;rw[Xx]
    subst hf0
    have e:caps.map a.eval=(caps.toList.map a.eval).toArray:=by cases caps;simp
    refine lift Z ⟨.func (.func f) #[] (caps.map a.eval),⟨caps.toList.map a.eval,by rw[e],Fh hl h1⟩,Ah hl h2,λw' _=>by simp [Instr.makeFunc]⟩
  ·simp at he
 ·rename_i c
  obtain⟨callee,args,argTypes⟩:=c
  dsimp only at he
  split at he
  ·split at he
   ·rename_i u t hu ht
    obtain⟨h1,h2⟩:=jB h hq hu
    obtain⟨args⟩:=args
    obtain⟨argTypes⟩:=argTypes
    simp only at hu ht h1
    subst ht
    match args,h1 with
    | [x],h1=>
     split at he
     ·rename_i r0 hr0
      obtain rfl:=agS he
      obtain⟨r,g1,g2,g3⟩:=Us (m:=s.m) (ty:=ty) hg h hr0 h1.1
      exact⟨r,g1,g2,λw' _=>by simp [execOp,resolve,invoke,builtin,g3]⟩
     ·obtain⟨r,g1,g2,g3⟩:=PV (m:=s.m) (ty:=ty) hg h he h1.1 hBF hBH
      exact⟨r,g1,g2,λw' hw'=>by simp [execOp,resolve,invoke,builtin,g3 w' hw']⟩
    | [],h1=>exact h1.elim
    | _::_::_,h1=>exact h1.2.elim
   ·rename_i u u2 hu
    obtain⟨h1,h2⟩:=jB h hq hu
    obtain⟨args⟩:=args
    simp only at hu h1
    match args,h1 with
    | [x,y],h1=>
     obtain⟨r,g1,g2,g3⟩:=Uy (P:=C.P) (m:=s.m) he h1.1 h1.2.1 argTypes ty
     exact⟨r,g1,g2,λw' _=>by simp [execOp,resolve,invoke,builtin,g3]⟩
    | [],h1=>exact h1.elim
    | [_],h1=>exact h1.2.elim
    | _::_::_::_,h1=>exact h1.2.2.elim
   ·rename_i u u2 hu
    obtain⟨h1,h2⟩:=jB h hq hu
    obtain⟨args⟩:=args
    simp only at hu h1
    match args,h1 with
    | [x,y],h1=>
     obtain⟨r,g1,g2,g3⟩:=Uz (P:=C.P) (m:=s.m) he h1.1 h1.2.1 argTypes ty
     exact⟨r,g1,g2,λw' _=>by simp [execOp,resolve,invoke,builtin,g3]⟩
    | [],h1=>exact h1.elim
    | [_],h1=>exact h1.2.elim
    | _::_::_::_,h1=>exact h1.2.2.elim
   ·simp at he
  ·simp at he
 ·exact lift Z (drop (UA hg h hq he))
 ·split at he
  ·rename_i u hu
   obtain⟨h1,h2⟩:=aC h hq hu
   unfold aes at he
   split at he
   ·obtain⟨rfl,rfl⟩:=Prod.mk.inj (agS he)
    obtain⟨b,_,e⟩:=(show R0 ρ F w (.ptr _ _) _ from h1)
    exact⟨_,h1,h2,λw' _=>by simp only[execOp,e];rfl⟩
   ·obtain⟨rfl,rfl⟩:=Prod.mk.inj (agS he)
    obtain⟨b,_,e⟩:=(show R0 ρ F w (.bD _ _ _ _) _ from h1)
    exact⟨_,h1,h2,λw' _=>by simp only[execOp,e];rfl⟩
   ·obtain⟨rfl,rfl⟩:=Prod.mk.inj (agS he)
    obtain⟨b,o,cs,e,_⟩:=(show R0 ρ F w (.gU _) _ from h1)
    exact⟨_,h1,h2,λw' _=>by simp only[execOp,e];rfl⟩
   ·obtain⟨rfl,rfl⟩:=Prod.mk.inj (agS he)
    exact hob.elim
   ·simp at he
  ·simp at he
 ·split at he
  ·rename_i u hu
   exact lift Z (drop (UC hg he (aC h hq hu).1))
  ·simp at he
 ·split at he
  ·rename_i u v' hu hv'
   exact lift Z (Me (m:=s.m) hg h he (aC h hq hu).1 (aC h hq hv').1 hBF hBH)
  ·simp at he
 ·split at he
  ·rename_i u hu
   exact lift Z (drop (UD hg he (aC h hq hu).1))
  ·simp at he
 ·simp at he
theorem Aj(hg:bV C.P g.tys)(h:aF C s a w ρ F)(hq:pcA a.tmps q){ck:Bool}{o:Oper}{v:V}{ob:List Prop}(he:rdE g ck s q o.op=some (v,ob))(hob:ak ob) :
  ∃x,R3 ρ F w v x∧v.aQ (fresh s.m)=true∧∀w',Agree w w'->(execOp a.eval o).run C.P w'=.ok (.value x) w':=by
 obtain⟨x,h1,h2,h3⟩:=Ca (B:=λ_=>True) hg h hq he hob (λ_ _=>trivial) (λ_ _ _ _ _=>trivial)
 exact⟨x,h1,h2,λw' hw'=>h3 w' λk _ hk=>hw' k hk⟩
end
end Go.Sx
