import Derived.Test.YtojhdmfkfkfcbaaGreatDoorSxC
import Derived.Test.YtojhdmfkfkfcbaaGreatDoorSxA
import Derived.Deep.LoopGhost
import Derived.RangeFuncLeaves
set_option linter.unusedVariables false
set_option linter.unusedSimpArgs false
namespace Go.Sx
section
variable {C:Ctx} {s s':St} {a:Act} {w w':World} {ρ:Nat->Value} {F:Nat->Prop} {g:Cfg}
theorem DX (h:aD C s a w ρ F) {y:V} {sz n:Nat} {f:Nat->List D} {vy:Value} (hp:parts s.H y=some (sz,n,f)) (hy:R3 ρ F w y vy) :
  (∃cap,vy=.slice none 0 cap∧n=0)∨∃ad cap news,vy=.slice (some ad) n cap∧news.length=n*sz∧(∀j u,news[j]?=some u->w.cell? (ad.add j)=some u)∧(∀u∈news,u.oneCell'=true)∧jc F w sz n f news:=by
 rcases Kn h hp hy with⟨ad,cap,rfl,rfl⟩ | ⟨b,o,cap,cs,rfl,hn,hlen,hc⟩
 ·cases ad with
  | none=>exact .inl ⟨cap,rfl,rfl⟩
  | some ad=>exact .inr ⟨ad,cap,[],rfl,by simp,by simp,by simp,fun i hi=>by omega⟩
 ·have aa9:∀j u,((List.range (n*sz)).map fun k=>cs (k/sz) (k%sz))[j]?=some u->w.cell? ⟨b,o+j,none⟩=some u∧u.oneCell'=true:=by
   intro j u hj
   rw[List.getElem?_map,Option.map_eq_some_iff] at hj
   obtain⟨k,hk,rfl⟩:=hj
   have hlt:j<n*sz:=by simpa using (List.getElem?_eq_some_iff.1 hk).1
   rw[List.getElem?_range hlt] at hk
   obtain rfl:=adl hk
   have hpos:0<sz:=by
    rcases Nat.eq_zero_or_pos sz with e0 | hp
    ·rw[e0] at hlt;omega
    ·exact hp
   have hi:j/sz<n:=(Nat.div_lt_iff_lt_mul hpos).2 hlt
   have hm:j%sz<(f (j/sz)).length:=by rw[hlen _ hi];exact Nat.mod_lt _ hpos
   obtain⟨h1,h2⟩:=hc (j/sz) (j%sz) _ hi (adh hm)
   have e:j/sz*sz+j%sz=j:=Nat.div_add_mod' j sz
   rw[e] at h1
   exact⟨h1,h2.one⟩
  refine .inr ⟨⟨b,o,none⟩,cap,(List.range (n*sz)).map fun k=>cs (k/sz) (k%sz),rfl,by simp,fun j u hj=>?_,fun u hu=>?_,fun i hi=>?_⟩
  ·have:=aa9 j u hj
   rw[Addr.add_lit];exact this.1
  ·obtain⟨j,hj⟩:=List.getElem?_of_mem hu
   exact (aa9 j u hj).2
  ·refine⟨hlen i hi,fun j d hj=>?_⟩
   have hj':j<sz:=by rw[←hlen i hi];exact (List.getElem?_eq_some_iff.1 hj).1
   obtain⟨h1,h2⟩:=hc i j d hi hj
   refine⟨cs i j,?_,h2⟩
   have hlt:i*sz+j<n*sz:=by
    have:=Nat.mul_le_mul_right sz (show i+1≤n by omega)
    rw[Nat.add_mul,Nat.one_mul] at this
    omega
   have hpos:0<sz:=by omega
   have e1:(i*sz+j)/sz=i:=by rw[Nat.mul_comm,Nat.mul_add_div hpos,Nat.div_eq_of_lt hj'];rfl
   have e2:(i*sz+j)%sz=j:=by rw[Nat.mul_comm,Nat.mul_add_mod,Nat.mod_eq_of_lt hj']
   rw[List.getElem?_map,List.getElem?_range hlt]
   simp [e1,e2]
theorem Rw {sz n m:Nat} {f h:Nat->List D} {xs news:List Value} (hx:jc F w sz n f xs) (hxl:xs.length=n*sz) (hn:jc F w sz m h news):jc F w sz (n+m) (app n f h) (xs++news):=by
 intro i hi
 unfold app
 by_cases hin:i<n
 ·rw[jZ hin]
  obtain⟨h1,h2⟩:=hx i hin
  refine⟨h1,fun j d hj=>?_⟩
  obtain⟨c,c1,c2⟩:=h2 j d hj
  exact⟨c,by rw[List.getElem?_append_left (List.getElem?_eq_some_iff.1 c1).1];exact c1,c2⟩
 ·rw[j3 hin]
  obtain⟨h1,h2⟩:=hn (i-n) (by omega)
  refine⟨h1,fun j d hj=>?_⟩
  obtain⟨c,c1,c2⟩:=h2 j d hj
  refine⟨c,?_,c2⟩
  have e:i*sz=n*sz+(i-n)*sz:=by rw[←Nat.add_mul];congr 1;omega
  rw[List.getElem?_append_right (by omega),hxl,←c1]
  congr 1;omega
theorem uE {P:Program} {t ty e:TypeId} {te:TI} (hu:P.underlying t=some (.slice e)) (hte:te.OK P e) {sz:Nat} {v:Value} {n:Nat} {xs:List Value} (hown:w.ownsRow 0 e sz v n xs) (cap:Nat) :
  (Builtin.append_ #[t,t] ty #[v, .slice none 0 cap]).run P w=.ok v w:=by
 obtain⟨i,z,h1,_⟩:=hte.info
 rcases hown.2 with⟨rfl,rfl⟩ | ⟨g,c,cur,rfl,_,_,hnc,_⟩
 ·simp [Builtin.append_,aM hu,sizeOf,typeInfo,h1,Builtin.lenOf,Builtin.firstCells]
 ·simp [Builtin.append_,aM hu,sizeOf,typeInfo,h1,Builtin.lenOf,Builtin.firstCells,hnc,storeCells]
theorem DY {P:Program} {t ty e:TypeId} {te:TI} (hu:P.underlying t=some (.slice e)) (hte:te.OK P e) (hsz:0<te.size)
  {v:Value} {n:Nat} {xs:List Value} (hown:w.ownsRow 0 e te.size v n xs) {ad:Addr} {m c:Nat} {news:List Value} (hl:news.length=m*te.size) (hnews:∀j u,news[j]?=some u->w.cell? (ad.add j)=some u) (h1:∀u∈news,u.oneCell'=true)
  (hb1:(n+m)*te.bytes≤big) (hb2:n+m≤big) :
  ∃v' w',(Builtin.append_ #[t,t] ty #[v, .slice (some ad) m c]).run P w=.ok v' w'∧w'.ownsRow 0 e te.size v' (n+m) (xs++news)∧w.grownBy w' v.ownBlock∧∀b,blk v'=some b->w.heap.size≤b∨blk v=some b:=by
 obtain⟨i,z,i1,i2,i3,i4,i5,_⟩:=hte.info
 unfold big at hb1 hb2
 have h63:n+m≤maxLen:=by simp only[maxLen];omega
 obtain⟨v',w',r1,r2,r3,_⟩:=run_append_own (P:=P) w 0 t ty e i z te.size te.bytes hu i1 i4 i2 i3 i5 hsz v n xs hown ad m c news hl hnews h1 h63 hb1 (Nat.zero_le _)
 refine⟨v',w',r1,r2,r3,fun b hb=>?_⟩
 rcases hown.2 with⟨rfl,rfl⟩ | ⟨gg,cap,cur,rfl,_,hg,hnc,hcm,hcs,htake⟩
 ·by_cases hm:m=0
  ·subst hm
   have hn:news=[]:=List.eq_nil_of_length_eq_zero (by simpa using hl)
   subst hn
   have:(Builtin.append_ #[t,t] ty #[.slice none 0 0, .slice (some ad) 0 c]).run P w=.ok (.slice none 0 0) w:=by
    simp [Builtin.append_,aM hu,sizeOf,typeInfo,i1,Builtin.lenOf,Builtin.firstCells,loadCells,loadCellsFrom]
   rw[this] at r1
   simp only[Result.ok.injEq] at r1
   rw[←r1.1] at hb
   simp [blk] at hb
  ·have hr:=run_append_nil (P:=P) w t ty e i z hu i1 i4 ad m c news (by rw[hl,i2]) hnews (by omega) (by simp only[maxLen] at h63;omega) (by rw[i3];simp only[Nat.zero_add] at hb1;omega)
   rw[hr] at r1
   simp only[Result.ok.injEq] at r1
   rw[←r1.1] at hb
   simp only[blk,adk] at hb
   exact .inl (by omega)
 ·by_cases hroom:n+m≤cap
  ·have hfit:n*i.size+news.length≤cur.size:=by rw[hl,hcs,i2,←Nat.add_mul];exact Nat.mul_le_mul_right _ hroom
   have hr:=run_append_room (P:=P) w t ty e i hu i1 gg n cap cur hg ad m c news (by rw[hl,i2]) hnews h1 hroom hfit
   rw[hr] at r1
   simp only[Result.ok.injEq] at r1
   rw[←r1.1] at hb
   exact .inr hb
  ·have holds:∀j u,xs[j]?=some u->w.cell? ((⟨gg,0,none⟩:Addr).add j)=some u:=hown.cells (g:=gg) rfl
   have hr:=run_append_grow (P:=P) w t ty e i z hu i1 i4 ⟨gg,0,none⟩ n cap xs (by rw[hown.1,i2]) holds ad m c news (by rw[hl,i2]) hnews (by omega) (by simp only[maxLen] at h63;omega) (growslice_fits (by omega) (by rw[i3];exact hb1))
   rw[hr] at r1
   simp only[Result.ok.injEq] at r1
   rw[←r1.1] at hb
   simp only[blk,adk] at hb
   exact .inl (by omega)
theorem Rx (hg:bP C.P g.tys) (hfx:g.fix=C.fix) (h:aD C s a w ρ F) {d:Nat} (hd:d<C.n) {t t' ty:TypeId} {x y:V} {vx vy:Value} {ob:List Prop} (he:ZC g s d t t' x y=some (s',ob)) (hob:aj ob) (hx:R3 ρ F w x vx) (hy:R3 ρ F w y vy) :
  ∃r w',(Builtin.append_ #[t,t'] ty #[vx,vy]).run C.P w=.ok r w'∧Sat C s' (a.put (some d) r) w':=by
 unfold ZC at he
 cases htt:Nat.beq t t' with
 | false=>rw[htt] at he;simp at he
 | true=>
  rw[htt] at he
  simp only[cond_true] at he
  have htt:=ado htt
  subst htt
  split at he
  ·simp at he
  ·rename_i e te hse
   obtain⟨hu,hte,_⟩:=mY hg hse
   split at he
   ·
    split at he
    ·rename_i sz m hh hp
     cases hc:(Nat.beq sz te.size&&Nat.ble 1 sz) with
     | false=>rw[hc] at he;simp at he
     | true=>
      rw[hc] at he
      simp only[cond_true] at he
      simp only[adg] at hc
      have hsz:=ado hc.1
      have hpos:1≤sz:=by simpa using hc.2
      subst hsz
      obtain⟨rfl,rfl⟩:=Prod.mk.inj (adl he)
      obtain⟨b1,b2⟩:=hob
      have hvx:vx=.slice none 0 0:=hx
      subst hvx
      have hnil:=World.ownsRow_nil w 0 e te.size
      rcases DX h hp hy with⟨cap,rfl,rfl⟩ | ⟨ad,cap,news,rfl,n1,n2,n3,n4⟩
      ·exact⟨_,_,uE hu hte hnil cap,h.row (xs:=[]) hd ⟨rfl,rfl,rfl,Nat.le_refl _,fun _ _ _=>rfl⟩ (fun b hb=>by simp [blk] at hb) ⟨_,_,_,rfl⟩ hnil (fun i hi=>by omega)⟩
      ·obtain⟨v',w',r1,r2,r3,r4⟩:=DY (ty:=ty) hu hte hpos hnil n1 n2 n3 (by rw[Nat.zero_add];exact b1) (by rw[Nat.zero_add];exact b2)
       rw[Nat.zero_add,List.nil_append] at r2
       have hm:Mod none w w':=Mod.DT r3
       refine⟨v',w',r1,h.row hd hm (fun b hb=>?_) ?_ r2 (n4.keep (fun _=>_root_.id) fun k hk=>hm.block k (h.lt k hk) (by simp))⟩
       ·rcases r4 b hb with h1 | h1
        ·exact h1
        ·simp [blk] at h1
       ·rcases r2.2 with⟨e1,_⟩ | ⟨_,_,_,e1,_⟩<;>exact⟨_,_,_,e1⟩
    ·simp at he
   ·
    rename_i id
    split at he
    ·rename_i e' sz n f hgH
     obtain⟨xs,hown,hel⟩:=h.ch id _ (get_mem hgH)
     have hvx:vx=ρ id:=(show R0 ρ F w (.own id) vx from hx).1
     have hlt:=(h.aJ id _ (get_mem hgH)).1
     split at he
     ·cases hc:(Nat.beq e e'&&Nat.beq sz te.size) with
      | false=>rw[hc] at he;simp at he
      | true=>
       rw[hc] at he
       simp only[cond_true] at he
       simp only[adg] at hc
       have h1:=ado hc.1
       have h2:=ado hc.2
       subst h1 h2
       obtain⟨rfl,rfl⟩:=Prod.mk.inj (adl he)
       have hvy:vy=.slice none 0 0:=hy
       subst hvy
       refine⟨vx,w,?_,ρ,F,h.put hd hx (by show Nat.blt id s.m=true;simpa using hlt)⟩
       rw[hvx];exact uE hu hte hown 0
     ·split at he
      ·rename_i sz' m hh hp
       cases hc:(Nat.beq e e'&&Nat.beq sz te.size&&Nat.beq sz' sz&&Nat.ble 1 sz&&!(names id y)&&Nat.ble g.fix id) with
       | false=>rw[hc] at he;simp at he
       | true=>
        rw[hc] at he
        simp only[cond_true] at he
        simp only[adg,adt] at hc
        obtain⟨⟨⟨⟨⟨c1,c2⟩,c3⟩,c4⟩,c5⟩,c6⟩:=hc
        have h1:=ado c1
        have h2:=ado c2
        have h3:=ado c3
        have hpos:1≤sz:=by simpa using c4
        subst h1 h2 h3
        obtain⟨rfl,rfl⟩:=Prod.mk.inj (adl he)
        obtain⟨b1,b2⟩:=hob
        subst hvx
        have hH:∀{v':Value} {w':World},Mod (blk (ρ id)) w w'->(∀b,blk v'=some b->w.heap.size≤b∨blk (ρ id)=some b)->(∃news,w'.ownsRow 0 e te.size v' (n+m) (xs++news)∧jc F w te.size m hh news)->(∃ad l c,v'=.slice ad l c)->
          Sat C {L:=put (rH (kill id) s.L) d (.own id),H:=(id, .vec e te.size (n+m) (app n f hh))::oQ (kill id) (jY id s.H),m:=s.m} (a.put (some d) v') w':=by
         rintro v' w' hm hbl ⟨news,o1,o2⟩ hsl
         have hwF:∀k,F k->w'.heap[k]?=w.heap[k]?:=fun k hk=>hm.block k (h.lt k hk) (fun e=>h.out id _ k (get_mem hgH) e.symm hk)
         refine⟨_,_,(h.move (get_mem hgH) (by rw[←hfx];simpa using c6) hm (x:=v') hbl (c':=.vec e te.size (n+m) (app n f hh)) ⟨xs++news,by rw[upd_same];exact o1,?_⟩ rfl).put hd ⟨(upd_same ρ id v').symm,by rw[upd_same];exact .inl hsl⟩ (by show Nat.blt id s.m=true;simpa using hlt)⟩
         exact (Rw hel hown.1 o2).keep (fun _=>_root_.id) hwF
        rcases DX h hp hy with⟨cap,rfl,rfl⟩ | ⟨ad,cap,news,rfl,n1,n2,n3,n4⟩
        ·refine⟨_,_,uE hu hte hown cap,hH ⟨rfl,rfl,rfl,Nat.le_refl _,fun _ _ _=>rfl⟩ (fun b hb=>.inr hb) ⟨[],by simpa using hown,fun i hi=>by omega⟩ ?_⟩
         rcases hown.2 with⟨e1,_⟩ | ⟨_,_,_,e1,_⟩<;>exact⟨_,_,_,e1⟩
        ·obtain⟨v',w',r1,r2,r3,r4⟩:=DY (ty:=ty) hu hte hpos hown n1 n2 n3 b1 b2
         refine⟨v',w',r1,hH ?_ r4 ⟨news,r2,n4⟩ ?_⟩
         ·have e1:blk (ρ id)=(ρ id).ownBlock:=by
           rcases hown.2 with⟨e1,_⟩ | ⟨_,_,_,e1,_⟩<;>rw[e1]<;>rfl
          rw[e1];exact Mod.DT r3
         ·rcases r2.2 with⟨e1,_⟩ | ⟨_,_,_,e1,_⟩<;>exact⟨_,_,_,e1⟩
      ·simp at he
    ·simp at he
   ·simp at he
theorem aF.app {α β:Type} {R:α->β->Prop}:∀{as cs:List α} {bs ds:List β},aF R as bs->aF R cs ds->aF R (as++cs) (bs++ds)
 | [],_,[],_,_,h=>h
 | _::_,_,_::_,_,h1,h2=>⟨h1.1,aF.app h1.2 h2⟩
 | [],_,_::_,_,h,_=>h.elim
 | _::_,_,[],_,h,_=>h.elim
theorem BM (k:Key):∀{es:List (Key×V)} {l:List MapEntry},rO k es->lQ k es=true->aF (fun e x=>x.key=dF e.1∧R2 ρ F w e.2 x.val) es l->∀i,Instr.findNow (kN k) (dF k) l i=some none
 | [],[],_,_,_,i=>rfl
 | [],_::_,_,_,h,_=>h.elim
 | _::_,[],_,_,h,_=>h.elim
 | (a,v)::es,x::l,hk,hok,⟨⟨h1,h2⟩,h3⟩,i=>by
  simp only[lQ,adg] at hok
  simp only at h1
  unfold Instr.findNow
  rw[h1,BI hok.1]
  simp only[hk.1,decide_false]
  exact BM k hk.2 hok.2 h3 (i+1)
theorem KC:∀{i:Nat} {l:List ByteArray} {s:ByteArray},wL i (l++[s])=wL i l++[(.string s, .int .i64 ((i+l.length:Nat):Int))]
 | i,[],s=>rfl
 | i,a::l,s=>by
  show (Value.string a,Value.int .i64 (i:Int))::wL (i+1) (l++[s])=_
  rw[KC]
  show _=(Value.string a,Value.int .i64 (i:Int))::(wL (i+1) l++_)
  rw[show i+(a::l).length=i+1+l.length by simp only[List.length_cons];omega]
theorem GY (hg:bP C.P g.tys) (h:aD C s a w ρ F) {t:TypeId} {id:Nat} {kv v:V} {vm vk vx:Value} {ob:List Prop} (he:Xv g s t id kv v=some (s',ob)) (hob:aj ob) (hm:R3 ρ F w (.own id) vm) (hk:R3 ρ F w kv vk) (hv:R3 ρ F w v vx) (hvf:v.aO (fresh s.m)=true) :
  ∃w',(Instr.mapUpdate t vm vk vx).run C.P w=.ok () w'∧aD C s' a w' ρ F:=by
 unfold Xv at he
 split at he
 ·rename_i ti es hti hget
  split at he
  ·rename_i kt et hkind
   split at he
   ·rename_i tk htk
    split at he
    ·rename_i key hk1
     cases h1:(is1 v&&lQ key es) with
     | false=>rw[h1] at he;simp at he
     | true=>
      rw[h1] at he
      simp only[cond_true] at he
      obtain⟨rfl,rfl⟩:=Prod.mk.inj (adl he)
      have hu:=(bJ hg hti).und
      rw[hkind] at hu
      simp only[adg] at h1
      obtain⟨h1,hks⟩:=h1
      obtain⟨rfl,huk⟩:=BJ hk1 hk (bJ hg htk) rfl
      obtain⟨rfl,_⟩:=(show R0 ρ F w (.own id) vm from hm)
      obtain⟨b,arr,clock,e1,e2,e3⟩:=h.ch _ _ (get_mem hget)
      have hob:rO key es:=hob
      have hblt:b<w.heap.size:=(Array.getElem?_eq_some_iff.1 e2).1
      have hf:=BM (ρ:=ρ) (F:=F) (w:=w) key hob hks e3 0
      have hv1:R2 ρ F w v vx:=by cases v<;>first | exact hv | simp [is1] at h1
      have hv2:v.all2 (fresh s.m)=true:=by cases v<;>first | exact hvf | simp [is1] at h1
      let o:Obj:=.map (arr.push {key:=dF key,val:=vx,born:=clock}) (clock+1)
      have hmod:Mod (blk (ρ id)) w {w with heap:=w.heap.setIfInBounds b o}:=by
       rw[e1]
       exact⟨rfl,rfl,rfl,by simp,fun k _ hk=>by
        have:k≠b:=fun e=>hk (by rw[e];rfl)
        simp [Array.getElem?_setIfInBounds,Ne.symm this]⟩
      have UK:∀u y,u.all2 (fresh s.m)=true->R2 ρ F w u y->R2 ρ F {w with heap:=w.heap.setIfInBounds b o} u y:=fun u y hu hr=>by
       have hwF:∀k,F k->(w.heap.setIfInBounds b o)[k]?=w.heap[k]?:=fun k hk=>hmod.block k (h.lt k hk) (fun e=>h.out id _ k (get_mem hget) (show blk (ρ id)=some k from e.symm) hk)
       have:=R2.map (p:=fresh s.m) (k:=fun u=>u) (fun u v hu hr=>hr.keep (x:=s.m) (ρ':=ρ) (F':=F) (w':={w with heap:=w.heap.setIfInBounds b o}) (fun _ _=>rfl) (fun _=>_root_.id) hwF (iH (Nat.le_refl _) hu)) hu hr
       rwa [yT] at this
      have hfr:=(h.aJ _ _ (get_mem hget)).2
      simp only[Ch.all,List.all_eq_true] at hfr
      refine⟨{w with heap:=w.heap.setIfInBounds b o},?_,h.touch (get_mem hget) hmod (c':=.tbl (es++[(key,v)])) ⟨b,_,_,e1,(MapKept.heap_set e2).1,?_⟩ ?_⟩
      ·have h1:=MapKept.run_checkKey (P:=C.P) (w:=w) huk (k:=dF key) (Ak key) false 9999
       have h2:=MapKept.run_findKey (P:=C.P) (w:=w) huk hf
       rw[e1]
       simp only[Instr.mapUpdate,Sem.run_bind,aM hu,Result.andThen,MapKept.run_getObj_map e2,h1,h2,MapKept.run_setObj_map _ e2]
       rfl
      ·rw[Array.toList_push]
       refine aF.app ?_ ⟨⟨rfl,UK v vx hv2 hv1⟩,tR⟩
       have:∀{es:List (Key×V)} {l:List MapEntry},(∀e∈es,e.2.all2 (fresh s.m)=true)->aF (fun e x=>x.key=dF e.1∧R2 ρ F w e.2 x.val) es l->aF (fun e x=>x.key=dF e.1∧R2 ρ F {w with heap:=w.heap.setIfInBounds b o} e.2 x.val) es l:=by
        intro es
        induction es with
        | nil=>intro l _ h;cases l<;>first | trivial | exact h.elim
        | cons e es ih=>
         intro l hf h
         cases l with
         | nil=>exact h.elim
         | cons x l=>exact⟨⟨h.1.1,UK _ _ (hf e (by simp)) h.1.2⟩,ih (fun e he=>hf e (by simp [he])) h.2⟩
       exact this hfr e3
      ·simp only[Ch.all,List.all_append,List.all_cons,List.all_nil,Bool.and_true,adg,List.all_eq_true]
       exact⟨hfr,hv2⟩
    ·simp at he
   ·simp at he
  ·simp at he
 ·rename_i ti l hti hget
  split at he
  ·rename_i kt et kk n hkind
   split at he
   ·rename_i tk htk
    split at he
    ·rename_i hks
     obtain⟨rfl,rfl⟩:=Prod.mk.inj (adl he)
     have hu:=(bJ hg hti).und
     rw[hkind] at hu
     have huk:=(bJ hg htk).und
     rw[hks] at huk
     obtain⟨abb,hob2⟩:posB l kk=false∧n=(l.length:Int):=hob
     subst hob2
     cases (show RD F w _ vk from hk)
     cases (show RD F w _ vx from hv)
     obtain⟨rfl,_⟩:=(show R0 ρ F w (.own id) vm from hm)
     obtain⟨b,arr,clock,e1,e2,e3⟩:=h.ch _ _ (get_mem hget)
     have hblt:b<w.heap.size:=(Array.getElem?_eq_some_iff.1 e2).1
     have hf:Instr.findNow (kN (.inl kk.data.toList)) (dF (.inl kk.data.toList)) arr.toList 0=some none:=by
      rcases mo (ρ:=ρ) (F:=F) (w:=w) (.inl kk.data.toList) 0 (IY _ 0 l) (Am e3) with⟨_,f2⟩ | ⟨v',j,x,f1,_,_⟩
      ·exact f2
      ·rw[vW] at f1
       rw[posB] at abb
       cases hp:oP 0 l kk<;>simp [hp] at abb f1
     have abd:Value.string kk=dF (.inl kk.data.toList):=by show _=Value.string ⟨_⟩;rw[uw]
     let o:Obj:=.map (arr.push {key:=dF (.inl kk.data.toList),val:=.int .i64 (l.length:Int),born:=clock}) (clock+1)
     have hmod:Mod (blk (ρ id)) w {w with heap:=w.heap.setIfInBounds b o}:=by
      rw[e1]
      exact⟨rfl,rfl,rfl,by simp,fun k _ hk=>by
       have:k≠b:=fun e=>hk (by rw[e];rfl)
       simp [Array.getElem?_setIfInBounds,Ne.symm this]⟩
     refine⟨{w with heap:=w.heap.setIfInBounds b o},?_,h.touch (get_mem hget) hmod (c':=.pos (l++[kk])) ⟨b,_,_,e1,(MapKept.heap_set e2).1,?_⟩ rfl⟩
     ·have h1:=MapKept.run_checkKey (P:=C.P) (w:=w) huk (k:=dF (.inl kk.data.toList)) (Ak (.inl kk.data.toList)) false 9999
      have h2:=MapKept.run_findKey (P:=C.P) (w:=w) huk hf
      rw[e1,abd]
      simp only[Instr.mapUpdate,Sem.run_bind,aM hu,Result.andThen,MapKept.run_getObj_map e2,h1,h2,MapKept.run_setObj_map _ e2]
      rfl
     ·rw[Array.toList_push,List.map_append,e3,KC,Nat.zero_add,abd];rfl
    ·simp at he
   ·simp at he
  ·simp at he
 ·simp at he
theorem UL (hg:bP C.P g.tys) (hn:g.n=C.n) (hfx:g.fix=C.fix) (h:aD C s a w ρ F) {o:Oper} {ob:List Prop} (he:efE g s o.dst o.op=some (s',ob)) (hob:aj ob) :
  ∃x w',((execOp a.eval o).run C.P w=.ok (.value x) w'∨((execOp a.eval o).run C.P w=.ok .skip w'∧x=undef))∧Sat C s' (a.put o.dst x) w':=by
 obtain⟨dst,op,ty,pos,after,guard⟩:=o
 dsimp only at he
 unfold efE at he
 split at he
 ·
  rename_i t x
  split at he
  ·rename_i d v hv
   split at he
   ·rename_i us hus
    cases hd:Nat.blt d g.n with
    | false=>rw[hd] at he;simp at he
    | true=>
     rw[hd] at he
     simp only[cond_true] at he
     obtain⟨rfl,rfl⟩:=Prod.mk.inj (adl he)
     obtain⟨h1,h2⟩:=aA h (bY _) hv
     obtain⟨h3,h4⟩:=qh hus h1 h2
     refine⟨_,_, .inl ?_,GV (T:=t) h (by rw[←hn];simpa using hd) h3 h4⟩
     simp [execOp,Instr.box,newVar,newRow,newObj,Sem.run]
   ·simp at he
  ·simp at he
 ·
  rename_i t
  split at he
  ·rename_i d ti hl
   cases hd:Nat.blt d g.n with
   | false=>rw[hd] at he;simp at he
   | true=>
    rw[hd] at he
    simp only[cond_true] at he
    obtain⟨x,w',h1,h2⟩:=KA hg hn h hl (by rw[←hn];simpa using hd) he
    exact⟨x,w', .inl (by simp only[execOp];exact tO h1),h2⟩
  ·simp at he
 ·
  rename_i t p x
  split at he
  ·rename_i u v hu hv
   obtain⟨h1,_⟩:=aA h (bY _) hu
   obtain⟨h3,h4⟩:=aA h (bY _) hv
   obtain⟨w',r1,r2⟩:=UG hg h he hob h1 h3 h4
   exact⟨undef,w', .inr ⟨by simp only[execOp,Sem.run_bind,r1];rfl,rfl⟩,ρ,F,r2⟩
  ·simp at he
 ·
  rename_i t len ps
  split at he
  ·rename_i d e te qs hse hq
   split at he
   ·rename_i zs hzs
    split at he
    ·rename_i xs hxs
     cases hc:(Nat.blt d g.n&&Nat.ble (len*te.size) 16777216&&Nat.ble len 16777216&&Nat.beq zs.length te.size) with
     | false=>rw[hc] at he;simp at he
     | true=>
      rw[hc] at he
      simp only[cond_true] at he
      simp only[adg] at hc
      obtain⟨⟨⟨c1,c2⟩,c3⟩,c4⟩:=hc
      obtain⟨rfl,rfl⟩:=Prod.mk.inj (adl he)
      obtain⟨x,w',r1,r2⟩:=UH hg h (d:=d) (by rw[←hn];simpa using c1) hse hq hzs hxs (by simpa using c2) (by simpa using c3) (ado c4)
      exact⟨x,w', .inl (by simp only[execOp];exact tO r1),r2⟩
    ·simp at he
   ·simp at he
  ·simp at he
 ·
  rename_i t l c
  split at he
  ·rename_i d e te kl n kc k hse hl hc0
   split at he
   ·rename_i e' hsl
    split at he
    ·rename_i te' _
     cases hc:(Nat.blt d g.n&&Nat.beq te.size 1) with
     | false=>rw[hc] at he;simp at he
     | true=>
      rw[hc] at he
      simp only[cond_true] at he
      simp only[adg] at hc
      obtain⟨rfl,rfl⟩:=Prod.mk.inj (adl he)
      obtain⟨o1,o2,o3,o4⟩:=hob
      obtain⟨h1,_⟩:=aA h (bY _) hl
      obtain⟨h3,_⟩:=aA h (bY _) hc0
      generalize hel:a.eval l=vl at h1
      generalize hec:a.eval c=vc at h3
      cases (show RD F w _ _ from h1);cases (show RD F w _ _ from h3)
      obtain⟨x,w',r1,r2⟩:=Xx hg h (d:=d) (by rw[←hn];simpa using hc.1) te'.size hse hsl (ado hc.2) (kl:=kl) (kc:=kc) o1 o2 o3 o4
      exact⟨x,w', .inl (by simp only[execOp,hel,hec];exact tO r1),r2⟩
    ·simp at he
   split at he
   ·rename_i zs hzs
    cases hc:(Nat.blt d g.n&&Nat.beq zs.length te.size) with
    | false=>rw[hc] at he;simp at he
    | true=>
     rw[hc] at he
     simp only[cond_true] at he
     simp only[adg] at hc
     obtain⟨rfl,rfl⟩:=Prod.mk.inj (adl he)
     obtain⟨o1,o2,o3,o4⟩:=hob
     obtain⟨h1,_⟩:=aA h (bY _) hl
     obtain⟨h3,_⟩:=aA h (bY _) hc0
     generalize hel:a.eval l=vl at h1
     generalize hec:a.eval c=vc at h3
     cases (show RD F w _ _ from h1);cases (show RD F w _ _ from h3)
     obtain⟨x,w',r1,r2⟩:=UJ hg h (d:=d) (by rw[←hn];simpa using hc.1) hse hzs (ado hc.2) (kl:=kl) (kc:=kc) o1 o2 o3 o4
     exact⟨x,w', .inl (by simp only[execOp,hel,hec];exact tO r1),r2⟩
   ·simp at he
  ·simp at he
 ·
  rename_i t x
  split at he
  ·rename_i d ti b hl hx
   split at he
   ·rename_i hk
    cases hd:Nat.blt d g.n with
    | false=>rw[hd] at he;simp at he
    | true=>
     rw[hd] at he
     simp only[cond_true] at he
     obtain⟨rfl,rfl⟩:=Prod.mk.inj (adl he)
     have hu:C.P.underlying t=some .string:=by have:=(bJ hg hl).und;rw[hk] at this;exact this
     obtain⟨h1,_⟩:=aA h (bY _) hx
     generalize hex:a.eval x=vx at h1
     cases (show RD F w _ _ from h1)
     refine⟨_,_, .inl (by simp only[execOp,hex];exact tO (run_range_string w t b hu)),?_⟩
     exact h.make (by rw[←hn];simpa using hd) (Mod.alloc _ _) (fun b hb=>by simp [blk] at hb;omega) (c:=.iter b 0) ⟨w.heap.size,upd_same _ _ _,heap_alloc_new w _⟩ rfl (v:=.ptr s.m 0) ⟨w.heap.size,upd_same _ _ _,rfl⟩ (by show Nat.blt s.m (s.m+1)=true;simp)
   ·simp at he
  ·simp at he
 ·
  rename_i t
  split at he
  ·rename_i d
   cases hd:Nat.blt d g.n with
   | false=>rw[hd] at he;simp at he
   | true=>
    rw[hd] at he
    simp only[cond_true] at he
    obtain⟨rfl,rfl⟩:=Prod.mk.inj (adl he)
    refine⟨.map (some w.heap.size),w.alloc (.map #[] 0), .inl ?_,?_⟩
    ·simp only[execOp,Option.map_none]
     refine tO ?_
     simp [Instr.makeMap,Result.andThen]
    ·exact h.make (by rw[←hn];simpa using hd) (Mod.alloc _ _) (fun b hb=>by simp [blk] at hb;omega) (c:=.tbl []) ⟨w.heap.size,#[],0,upd_same _ _ _,heap_alloc_new w _,tR⟩ rfl (v:=.own s.m) ⟨(upd_same _ _ _).symm, .inr ⟨_,upd_same _ _ _⟩⟩ (by show Nat.blt s.m (s.m+1)=true;simp)
  ·simp at he
 ·
  rename_i t m k x
  split at he
  ·rename_i id kv v hm hk hv
   obtain⟨w',r1,r2⟩:=GY hg h he hob (aA h (bY _) hm).1 (aA h (bY _) hk).1 (aA h (bY _) hv).1 (aA h (bY _) hv).2
   refine⟨undef,w', .inr ⟨?_,rfl⟩,ρ,F,r2⟩
   simp only[execOp,Sem.run_bind,r1,Result.andThen,Sem.run_pure]
  ·simp at he
 ·
  rename_i t m k x
  split at he
  ·rename_i id kv v hm hk hv
   obtain⟨w',r1,r2⟩:=GY hg h he hob (aA h (bY _) hm).1 (aA h (bY _) hk).1 (aA h (bY _) hv).1 (aA h (bY _) hv).2
   refine⟨undef,w', .inr ⟨?_,rfl⟩,ρ,F,r2⟩
   simp only[execOp,Sem.run_bind,r1,Result.andThen,Sem.run_pure]
  ·simp at he
 ·
  rename_i c
  obtain⟨callee,args,argTypes⟩:=c
  dsimp only at he
  split at he
  ·rename_i d
   split at he
   ·rename_i x y t t' hxy htt
    cases hd:Nat.blt d g.n with
    | false=>rw[hd] at he;simp at he
    | true=>
     rw[hd] at he
     simp only[cond_true] at he
     obtain⟨h1,_⟩:=iV h (bY _) hxy
     obtain⟨args⟩:=args
     obtain⟨argTypes⟩:=argTypes
     simp only at hxy htt h1
     subst htt
     match args,h1 with
     | [p,q],h1=>
      obtain⟨r,w',r1,r2⟩:=Rx (ty:=ty) hg hfx h (d:=d) (by rw[←hn];simpa using hd) he hob h1.1 h1.2.1
      exact⟨r,w', .inl (by simp [execOp,resolve,invoke,builtin,r1]),r2⟩
     | [],h1=>exact h1.elim
     | [_],h1=>exact h1.2.elim
     | _::_::_::_,h1=>exact h1.2.2.elim
   ·simp at he
  ·simp at he
 ·simp at he
end
end Go.Sx
set_option linter.unusedVariables false
set_option linter.unusedSimpArgs false
namespace Go.Sx
inductive Item where
 | code (c:Code)
 | ops (all:Array Oper) (l:List Oper)
 | blk (id:Nat)
 | back (J:St->Prop)
inductive Ev where
 | exit (ob:List Prop) (e:Exit) (s:St)
 | cond (ob:List Prop) (b:Bool) (x y:Code) (K:List Item) (s:St)
 | loop (ob:List Prop) (c:Code) (K:List Item) (s:St)
 | back (ob:List Prop) (J:St->Prop) (s:St)
 | op (ob:List Prop) (all:Array Oper) (o:Oper) (rest:List Oper) (K:List Item) (s:St)
 | code (ob:List Prop) (c:Code) (K:List Item) (s:St)
 | stuck (why:String)
def fN {α:Type}:Nat->(Nat->α)->α
 | 0,c=>c 0
 | 1,c=>c 1
 | 2,c=>c 2
 | 3,c=>c 3
 | 4,c=>c 4
 | 5,c=>c 5
 | 6,c=>c 6
 | 7,c=>c 7
 | 8,c=>c 8
 | 9,c=>c 9
 | 10,c=>c 10
 | 11,c=>c 11
 | 12,c=>c 12
 | 13,c=>c 13
 | 14,c=>c 14
 | 15,c=>c 15
 | 16,c=>c 16
 | 17,c=>c 17
 | 18,c=>c 18
 | 19,c=>c 19
 | 20,c=>c 20
 | 21,c=>c 21
 | 22,c=>c 22
 | 23,c=>c 23
 | 24,c=>c 24
 | 25,c=>c 25
 | 26,c=>c 26
 | 27,c=>c 27
 | 28,c=>c 28
 | 29,c=>c 29
 | 30,c=>c 30
 | 31,c=>c 31
 | 32,c=>c 32
 | 33,c=>c 33
 | 34,c=>c 34
 | 35,c=>c 35
 | 36,c=>c 36
 | 37,c=>c 37
 | 38,c=>c 38
 | 39,c=>c 39
 | n,c=>c n
def fD {α:Type}:D->(D->α)->α
 | .int k n,c=>c (.int k n)
 | .bool b,c=>c (.bool b)
 | .str s,c=>c (.str s)
 | .sl z n f,c=>c (.sl z n f)
 | .nf,c=>c .nf
 | .ni,c=>c .ni
 | .np,c=>c .np
 | .ifc t ns,c=>c (.ifc t ns)
 | .mp l,c=>c (.mp l)
 | .nm,c=>c .nm
def fDs {α:Type}:List D->(List D->α)->α
 | [],c=>c []
 | d::r,c=>fD d fun d'=>fDs r fun r'=>c (d'::r')
def f0 {α:Type}:V->(V->α)->α
 | .d x,c=>fD x fun x'=>c (.d x')
 | .gq ds,c=>fDs ds fun ds'=>c (.gq ds')
 | .aB,c=>c .aB
 | .ptr i o,c=>fN i fun i'=>c (.ptr i' o)
 | .own i,c=>fN i fun i'=>c (.own i')
 | .bA i z k o,c=>fN i fun i'=>c (.bA i' z k o)
 | .dead,c=>c .dead
 | .fn f us,c=>c (.fn f us)
 | .agg us,c=>c (.agg us)
 | .tup us,c=>c (.tup us)
 | .g p v,c=>c (.g p v)
def f0s {α:Type}:List V->(List V->α)->α
 | [],c=>c []
 | v::r,c=>f0 v fun v'=>f0s r fun r'=>c (v'::r')
def f1 {α:Type}:V->(V->α)->α
 | .fn f us,c=>f0s us fun us'=>c (.fn f us')
 | v,c=>f0 v c
def f1s {α:Type}:List V->(List V->α)->α
 | [],c=>c []
 | v::r,c=>f1 v fun v'=>f1s r fun r'=>c (v'::r')
def f2 {α:Type}:V->(V->α)->α
 | .agg us,c=>f1s us fun us'=>c (.agg us')
 | v,c=>f1 v c
def f2s {α:Type}:List V->(List V->α)->α
 | [],c=>c []
 | v::r,c=>f2 v fun v'=>f2s r fun r'=>c (v'::r')
def f3 {α:Type}:V->(V->α)->α
 | .tup us,c=>f2s us fun us'=>c (.tup us')
 | v,c=>f2 v c
def fP {α:Type}:List (Nat×Bool)->(List (Nat×Bool)->α)->α
 | [],c=>c []
 | (t,b)::r,c=>fP r fun r'=>c ((t,b)::r')
def f4 {α:Type}:V->(V->α)->α
 | .g p v,c=>fP p fun p'=>f3 v fun v'=>c (.g p' v')
 | v,c=>f3 v c
def fL {α:Type}:List (Nat×V)->(List (Nat×V)->α)->α
 | [],c=>c []
 | (t,v)::r,c=>f4 v fun v'=>fL r fun r'=>c ((t,v')::r')
def fT {α:Type}:List (Key×V)->(List (Key×V)->α)->α
 | [],c=>c []
 | (a,v)::r,c=>f2 v fun v'=>fT r fun r'=>c ((a,v')::r')
def fC {α:Type}:Ch->(Ch->α)->α
 | .box us,c=>f1s us fun us'=>c (.box us')
 | .arr z n f,c=>c (.arr z n f)
 | .vec e z n f,c=>c (.vec e z n f)
 | .iter s p,c=>c (.iter s p)
 | .rows e e' z n h hs m f,c=>c (.rows e e' z n h hs m f)
 | .held e e' z n k u hs m f,c=>f1 u fun u'=>c (.held e e' z n k u' hs m f)
 | .tbl es,c=>fT es fun es'=>c (.tbl es')
 | .bld T u,c=>f1 u fun u'=>c (.bld T u')
 | .pos l,c=>c (.pos l)
def fH {α:Type}:List (Nat×Ch)->(List (Nat×Ch)->α)->α
 | [],c=>c []
 | (t,v)::r,c=>fN t fun t'=>fC v fun v'=>fH r fun r'=>c ((t',v')::r')
def fS {α:Type}:St->(St->α)->α
 | ⟨L,H,m⟩,c=>fL L fun L'=>fH H fun H'=>fN m fun m'=>c ⟨L',H',m'⟩
def fO {α:Type}:List Prop->(List Prop->α)->α
 | [],c=>c []
 | p::r,c=>fO r fun r'=>c (p::r')
def fA {α:Type}:List Prop->List Prop->(List Prop->α)->α
 | [],q,c=>fO q c
 | p::r,q,c=>fA r q fun r'=>c (p::r')
section
variable {α:Type}
theorem KD (n:Nat) (c:Nat->α):fN n c=c n:=by unfold fN;split<;>rfl
theorem YJ (d:D) (c:D->α):fD d c=c d:=by cases d<;>rfl
theorem UM:∀(l:List D) (c:List D->α),fDs l c=c l
 | [],_=>rfl
 | d::r,c=>by simp [fDs,YJ,UM r]
theorem YK (v:V) (c:V->α):f0 v c=c v:=by cases v<;>simp [f0,YJ,UM,KD]
theorem UN:∀(l:List V) (c:List V->α),f0s l c=c l
 | [],_=>rfl
 | d::r,c=>by simp [f0s,YK,UN r]
theorem UO (v:V) (c:V->α):f1 v c=c v:=by cases v<;>simp [f1,UN,YK]
theorem NH:∀(l:List V) (c:List V->α),f1s l c=c l
 | [],_=>rfl
 | d::r,c=>by simp [f1s,UO,NH r]
theorem UQ (v:V) (c:V->α):f2 v c=c v:=by cases v<;>simp [f2,NH,UO]
theorem UR:∀(l:List V) (c:List V->α),f2s l c=c l
 | [],_=>rfl
 | d::r,c=>by simp [f2s,UQ,UR r]
theorem DZ (v:V) (c:V->α):f3 v c=c v:=by cases v<;>simp [f3,UR,UQ]
theorem KE:∀(l:List (Nat×Bool)) (c:List (Nat×Bool)->α),fP l c=c l
 | [],_=>rfl
 | (t,b)::r,c=>by simp [fP,KE r]
theorem abe (v:V) (c:V->α):f4 v c=c v:=by cases v<;>simp [f4,DZ,KE]
theorem BN:∀(l:List (Nat×V)) (c:List (Nat×V)->α),fL l c=c l
 | [],_=>rfl
 | (t,b)::r,c=>by simp [fL,abe,BN r,KD]
theorem YL:∀(l:List (Key×V)) (c:List (Key×V)->α),fT l c=c l
 | [],_=>rfl
 | (a,d)::r,c=>by simp [fT,UQ,YL r]
theorem abf (v:Ch) (c:Ch->α):fC v c=c v:=by cases v<;>simp [fC,NH,KD,UO,YL]
theorem YM:∀(l:List (Nat×Ch)) (c:List (Nat×Ch)->α),fH l c=c l
 | [],_=>rfl
 | (t,b)::r,c=>by simp [fH,abf,YM r,KD]
theorem mD (s:St) (c:St->α):fS s c=c s:=by cases s;simp [fS,BN,YM,KD]
theorem lD:∀(l:List Prop) (c:List Prop->α),fO l c=c l
 | [],_=>rfl
 | p::r,c=>by simp [fO,lD r]
end
theorem BO {α:Type}:∀(l q:List Prop) (c:List Prop->α),fA l q c=c (l++q)
 | [],_,_=>by simp [fA,lD]
 | p::r,q,_=>by simp [fA,BO r q]
def imp (L:List (Nat×V)):List (Nat×Bool)->Prop->Prop
 | [],P=>P
 | (t,u)::q,P=>match get L t with
  | some (.d (.bool b))=>b=u->imp L q P
  | some (.g _ (.d (.bool b)))=>b=u->imp L q P
  | _=>imp L q P
def Ry (L:List (Nat×V)) (q:List (Nat×Bool)):List Prop->List Prop
 | []=>[]
 | p::r=>imp L q p::Ry L q r
def fI {α:Type} (L:List (Nat×V)):List (Nat×Bool)->Prop->(Prop->α)->α
 | [],P,c=>c P
 | (t,u)::q,P,c=>match get L t with
  | some (.d (.bool b))=>fI L q P fun Q=>c (b=u->Q)
  | some (.g _ (.d (.bool b)))=>fI L q P fun Q=>c (b=u->Q)
  | _=>fI L q P c
def fIs {α:Type} (L:List (Nat×V)) (q:List (Nat×Bool)):List Prop->(List Prop->α)->α
 | [],c=>c []
 | p::r,c=>fI L q p fun p'=>fIs L q r fun r'=>c (p'::r')
theorem YN {α:Type} (L:List (Nat×V)):∀(q:List (Nat×Bool)) (P:Prop) (c:Prop->α),fI L q P c=c (imp L q P)
 | [],_,_=>rfl
 | (t,u)::q,P,c=>by
  simp only[fI,imp]
  split<;>simp_all [YN L q]
theorem IZ {α:Type} (L:List (Nat×V)) (q:List (Nat×Bool)):∀(l:List Prop) (c:List Prop->α),fIs L q l c=c (Ry L q l)
 | [],_=>rfl
 | p::r,c=>by simp only[fIs,YN,Ry,IZ L q r]
def yV (L:List (Nat×V)) (all:Array Oper) (j:Nat) (u:Bool):Option (List (Nat×Bool)):=
 match all.toList[j]? with
 | some o=>match o.dst with
  | some t=>match get L t with
   | some (.d (.bool _))=>some [(t,u)]
   | some (.g p (.d (.bool _)))=>some (p++[(t,u)])
   | _=>none
  | none=>none
 | none=>none
def D5 (id:Nat):List Item->Option (List Item)
 | []=>none
 | .blk i::K=>bif Nat.beq i id then some K else D5 id K
 | _::K=>D5 id K
def run (g:Cfg):Nat->List Item->St->List Prop->Ev
 | 0,K,s,ob=>.stuck "fuel"
 | n+1,K,⟨L,H,m⟩,ob=>match K with
  | []=>fS ⟨L,H,m⟩ fun S=>fO ob fun ob=>.exit ob .normal S
  | .blk _::K=>run g n K ⟨L,H,m⟩ ob
  | .back J::K=>fS ⟨L,H,m⟩ fun S=>fO ob fun ob=>.back ob J S
  | .code c::K=>match c with
   | .skip=>run g n K ⟨L,H,m⟩ ob
   | .label _=>run g n K ⟨L,H,m⟩ ob
   | .seq x y=>run g n (.code x::.code y::K) ⟨L,H,m⟩ ob
   | .block id b=>run g n (.code b::.blk id::K) ⟨L,H,m⟩ ob
   | .region _ ops false=>run g n (.ops ops ops.toList::K) ⟨L,H,m⟩ ob
   | .cond c x y=>match ev L [] c with
    | some (.d (.bool b))=>fS ⟨L,H,m⟩ fun S=>fO ob fun ob=>.cond ob b x y K S
    | _=>.stuck "cond"
   | .loop b=>fS ⟨L,H,m⟩ fun S=>fO ob fun ob=>.loop ob b K S
   | .exit id=>match D5 id K with
    | some K=>run g n K ⟨L,H,m⟩ ob
    | none=>fS ⟨L,H,m⟩ fun S=>fO ob fun ob=>.exit ob (.exit id) S
   | .goto id=>fS ⟨L,H,m⟩ fun S=>fO ob fun ob=>.exit ob (.goto id) S
   | .ret=>fS ⟨L,H,m⟩ fun S=>fO ob fun ob=>.exit ob .ret S
   | c=>fS ⟨L,H,m⟩ fun S=>fO ob fun ob=>.code ob c K S
  | .ops all l::K=>match l with
   | []=>run g n K ⟨L,H,m⟩ ob
   | o::rest=>match o.guard with
    | none=>match rdE g g.ck ⟨L,H,m⟩ [] o.op with
     | some (v,p)=>match o.dst with
      | some d=>bif Nat.blt d g.n then f3 v fun v=>fL (put L d v) fun L'=>fA ob p fun ob=>run g n (.ops all rest::K) ⟨L',H,m⟩ ob else .stuck "slot"
      | none=>.stuck "no slot"
     | none=>match efE g ⟨L,H,m⟩ o.dst o.op with
      | some (s',p)=>fS s' fun s'=>fA ob p fun ob=>run g n (.ops all rest::K) s' ob
      | none=>fS ⟨L,H,m⟩ fun S=>fO ob fun ob=>.op ob all o rest K S
    | some (j,u)=>match yV L all j u with
     | none=>.stuck "guard"
     | some q=>match rdE g g.ck ⟨L,H,m⟩ q o.op with
      | some (v,p)=>match o.dst with
       | some d=>bif Nat.blt d g.n&&!(q.any fun e=>Nat.beq e.1 d)&&v.aO (fresh m) then fIs L q p fun p=>f3 v fun v=>fP q fun q=>fL (put L d (.g q v)) fun L'=>fA ob p fun ob=>run g n (.ops all rest::K) ⟨L',H,m⟩ ob else .stuck "slot"
       | none=>.stuck "no slot"
      | none=>fS ⟨L,H,m⟩ fun S=>fO ob fun ob=>.op ob all o rest K S
def fE (C:Ctx) (Φ:Exit->St->Prop):Exit->Act->World->Prop:=fun e a w=>∃s,Sat C s a w∧Φ e s
def den (C:Ctx) (Q:Exit->Act->World->Prop):List Item->Exit->Act->World->Prop
 | []=>Q
 | .code c::K=>fun e a w=>match e with
  | .normal=>wq C.rd C.P c (den C Q K) a w
  | e=>den C Q K e a w
 | .ops all l::K=>fun e a w=>match e with
  | .normal=>eD C.rd C.P all (den C Q K) l a w
  | e=>den C Q K e a w
 | .blk id::K=>Exit.inBlock id (den C Q K)
 | .back J::K=>fun e a w=>match e with
  | .normal=>∃s,Sat C s a w∧J s
  | e=>den C Q K e a w
def Go (C:Ctx) (K:List Item) (s:St) (Φ:Exit->St->Prop):Prop:=∀a w,Sat C s a w->den C (fE C Φ) K .normal a w
def Ev.holds (C:Ctx) (Φ:Exit->St->Prop):Ev->Prop
 | .exit ob e s=>aj ob∧Φ e s
 | .cond ob b x y K s=>aj ob∧(b=true->Go C (.code x::K) s Φ)∧(b=false->Go C (.code y::K) s Φ)
 | .loop ob c K s=>aj ob∧Go C (.code (.loop c)::K) s Φ
 | .back ob J s=>aj ob∧J s
 | .op ob all o rest K s=>aj ob∧Go C (.ops all (o::rest)::K) s Φ
 | .code ob c K s=>aj ob∧Go C (.code c::K) s Φ
 | .stuck _=>False
end Go.Sx
set_option linter.unusedVariables false
set_option linter.unusedSimpArgs false
namespace Go.Sx
section
variable {C:Ctx} {Q:Exit->Act->World->Prop} {a:Act} {w:World}
theorem jK {id:Nat}:∀{K K':List Item},D5 id K=some K'->den C Q K (.exit id) a w=den C Q K' .normal a w
 | .blk i::K,K',h=>by
  simp only[D5] at h
  cases hi:Nat.beq i id with
  | true=>
   rw[hi] at h
   simp only[cond_true,adk] at h
   subst h
   have:=ado hi
   subst this
   simp [den,Exit.inBlock]
  | false=>
   rw[hi] at h
   simp only[cond_false] at h
   have:id≠i:=by rintro rfl;simp at hi
   simp only[den,Exit.inBlock,this,if_false]
   exact jK h
 | .code c::K,K',h=>by simp only[den];exact jK (K:=K) h
 | .ops _ _::K,K',h=>by simp only[den];exact jK (K:=K) h
 | .back _::K,K',h=>by simp only[den];exact jK (K:=K) h
theorem jL {id:Nat}:∀{K:List Item},D5 id K=none->den C Q K (.exit id) a w=Q (.exit id) a w
 | [],_=>rfl
 | .blk i::K,h=>by
  simp only[D5] at h
  cases hi:Nat.beq i id with
  | true=>rw[hi] at h;simp at h
  | false=>
   rw[hi] at h
   simp only[cond_false] at h
   have:id≠i:=by rintro rfl;simp at hi
   simp only[den,Exit.inBlock,this,if_false]
   exact jL h
 | .code c::K,h=>by simp only[den];exact jL (K:=K) h
 | .ops _ _::K,h=>by simp only[den];exact jL (K:=K) h
 | .back _::K,h=>by simp only[den];exact jL (K:=K) h
theorem yX:∀{K:List Item},den C Q K .ret a w=Q .ret a w
 | []=>rfl
 | .blk i::K=>by simp only[den,Exit.inBlock];exact yX
 | .code c::K=>by simp only[den];exact yX
 | .ops _ _::K=>by simp only[den];exact yX
 | .back _::K=>by simp only[den];exact yX
theorem uF {l:Nat}:∀{K:List Item},den C Q K (.goto l) a w=Q (.goto l) a w
 | []=>rfl
 | .blk i::K=>by simp only[den,Exit.inBlock];exact uF
 | .code c::K=>by simp only[den];exact uF
 | .ops _ _::K=>by simp only[den];exact uF
 | .back _::K=>by simp only[den];exact uF
theorem gF (c:Code) (K:List Item):den C Q (.code c::K) .normal a w=wq C.rd C.P c (den C Q K) a w:=rfl
theorem UU (c:Code) (K:List Item):den C Q (.code c::K)=Exit.then (wq C.rd C.P c (den C Q K)) (den C Q K):=by
 funext e a w;cases e<;>rfl
theorem xP {x y:Code} {K:List Item} (h:den C Q (.code x::.code y::K) .normal a w):den C Q (.code (.seq x y)::K) .normal a w:=by
 rw[gF] at *
 refine Zi ?_
 rwa [UU] at h
theorem I4 {id:Nat} {b:Code} {K:List Item} (h:den C Q (.code b::.blk id::K) .normal a w):den C Q (.code (.block id b)::K) .normal a w:=by
 rw[gF] at *
 exact Uh h
theorem Gl {id:Nat} {ops:Array Oper} {K:List Item} (h:den C Q (.ops ops ops.toList::K) .normal a w):den C Q (.code (.region id ops false)::K) .normal a w:=by
 rw[gF]
 exact DF h
theorem yY {all:Array Oper} {o:Oper} {rest:List Oper} {K:List Item} (hg:o.guard=none) {x:Value} {w':World}
  (hr:(execOp a.eval o).run C.P w=.ok (.value x) w'∨((execOp a.eval o).run C.P w=.ok .skip w'∧x=undef))
  (h:den C Q (.ops all rest::K) .normal (a.put o.dst x) w'):den C Q (.ops all (o::rest)::K) .normal a w:=by
 show eD C.rd C.P all (den C Q K) (o::rest) a w
 refine iJ hg fun N hN=>?_
 rcases hr with hr | ⟨hr,rfl⟩
 ·exact nP hr tR (hN _ _ h)
 ·exact nP hr tR (hN _ _ h)
theorem BP {all:Array Oper} {o:Oper} {rest:List Oper} {K:List Item} {x:Value}
  (hyes:Region.wanted o (yielded all a.tmps)=true->(execOp a.eval o).run C.P w=.ok (.value x) w)
  (hno:Region.wanted o (yielded all a.tmps)=false->x=undef)
  (h:den C Q (.ops all rest::K) .normal (a.put o.dst x) w):den C Q (.ops all (o::rest)::K) .normal a w:=by
 show eD C.rd C.P all (den C Q K) (o::rest) a w
 refine mg fun N hN=>?_
 cases hw:Region.wanted o (yielded all a.tmps) with
 | true=>
  simp only[if_true]
  exact nP (hyes hw) tR (hN _ _ h)
 | false=>
  simp only[adu,if_false]
  rw[←hno hw]
  exact hN _ _ h
end
section
variable {C:Ctx} {s:St} {a:Act} {w:World} {ρ:Nat->Value} {F:Nat->Prop} {g:Cfg}
theorem kG (h:aD C s a w ρ F):∀{q:List (Nat×Bool)} {P:Prop},pcA a.tmps q->imp s.L q P->P
 | [],P,_,hp=>hp
 | (t,u)::q,P,hq,hp=>by
  have hq':pcA a.tmps q:=fun e he=>hq e (by simp [he])
  have ht:a.tmps[t]?=some (.bool u):=hq (t,u) (by simp)
  simp only[imp] at hp
  split at hp
  ·rename_i b hb
   obtain⟨x,hx,hr⟩:=h.slot t _ (get_mem hb)
   rw[ht] at hx
   obtain rfl:=adl hx
   cases (show RD F w _ _ from hr)
   exact kG h hq' (hp rfl)
  ·rename_i p b hb
   obtain⟨x,hx,hr⟩:=h.slot t _ (get_mem hb)
   rw[ht] at hx
   obtain rfl:=adl hx
   by_cases hpc:pcA a.tmps p
   ·cases (show RD F w _ _ from hr.1 hpc)
    exact kG h hq' (hp rfl)
   ·have:=hr.2 hpc
    simp [undef] at this
  ·exact kG h hq' hp
theorem rQ (h:aD C s a w ρ F) {q:List (Nat×Bool)} (hq:pcA a.tmps q):∀{l:List Prop},aj (Ry s.L q l)->aj l
 | [],_=>trivial
 | p::r,hp=>by
  simp only[Ry,vS] at hp ⊢
  exact⟨kG h hq hp.1,rQ h hq hp.2⟩
theorem jg (h:aD C s a w ρ F) {all:Array Oper} {j:Nat} {u:Bool} {q:List (Nat×Bool)} (hg:yV s.L all j u=some q):(yielded all a.tmps j=some u↔pcA a.tmps q):=by
 unfold yV at hg
 split at hg
 ·rename_i o ho
  split at hg
  ·rename_i t ht
   have hy:yielded all a.tmps j=match a.tmps[t]? with | some (.bool b)=>some b | _=>none:=by
    have:all[j]?=some o:=by simpa using ho
    unfold yielded
    rw[this]
    simp only[Option.bind_some,ht]
    rfl
   split at hg
   ·rename_i b hb
    simp only[adk] at hg
    subst hg
    obtain⟨x,hx,hr⟩:=h.slot t _ (get_mem hb)
    cases (show RD F w _ _ from hr)
    rw[hy,hx]
    simp [pcA,hx]
   ·rename_i p b hb
    simp only[adk] at hg
    subst hg
    obtain⟨x,hx,hr⟩:=h.slot t _ (get_mem hb)
    have happ:pcA a.tmps (p++[(t,u)])↔pcA a.tmps p∧a.tmps[t]?=some (.bool u):=by
     unfold pcA
     simp only[List.mem_append,List.mem_singleton]
     exact⟨fun H=>⟨fun e he=>H e (.inl he),H (t,u) (.inr rfl)⟩,fun H e he=>by
      rcases he with he | rfl
      ·exact H.1 e he
      ·exact H.2⟩
    rw[hy,happ,hx]
    by_cases hpc:pcA a.tmps p
    ·cases (show RD F w _ _ from hr.1 hpc)
     simp [hpc]
    ·have:=hr.2 hpc
     subst this
     simp [hpc,undef]
   ·simp at hg
  ·simp at hg
 ·simp at hg
theorem nR {a b:List Prop} (h:aj (a++b)):aj a∧aj b:=(BH a b).1 h
set_option maxHeartbeats 1000000 in
theorem Rz (hg:bP C.P g.tys) (hn:g.n=C.n) (hfx:g.fix=C.fix) {Φ:Exit->St->Prop}:∀(n:Nat) (K:List Item) (s:St) (ob:List Prop),(run g n K s ob).holds C Φ->aj ob∧Go C K s Φ:=by
 intro n
 induction n with
 | zero=>intro K s ob h;exact h.elim
 | succ n ih=>
  intro K s ob h
  unfold run at h
  split at h
  ·
   rw[mD,lD] at h
   exact⟨h.1,fun a w hs=>⟨s,hs,h.2⟩⟩
  ·obtain⟨h1,h2⟩:=ih _ _ _ h
   exact⟨h1,fun a w hs=>h2 a w hs⟩
  ·rw[mD,lD] at h
   exact⟨h.1,fun a w hs=>⟨s,hs,h.2⟩⟩
  ·
   split at h
   ·obtain⟨h1,h2⟩:=ih _ _ _ h
    exact⟨h1,fun a w hs=>Xh (h2 a w hs)⟩
   ·obtain⟨h1,h2⟩:=ih _ _ _ h
    exact⟨h1,fun a w hs=>Ug (h2 a w hs)⟩
   ·obtain⟨h1,h2⟩:=ih _ _ _ h
    exact⟨h1,fun a w hs=>xP (h2 a w hs)⟩
   ·obtain⟨h1,h2⟩:=ih _ _ _ h
    exact⟨h1,fun a w hs=>I4 (h2 a w hs)⟩
   ·obtain⟨h1,h2⟩:=ih _ _ _ h
    exact⟨h1,fun a w hs=>Gl (h2 a w hs)⟩
   ·rename_i c x y
    split at h
    ·rename_i b hb
     rw[mD,lD] at h
     refine⟨h.1,fun a w hs=>?_⟩
     obtain⟨ρ,F,hw⟩:=hs
     have hr:=(aA hw (bY _) hb).1
     have hv:a.eval c=.bool b:=by
      generalize a.eval c=v at hr
      cases (show RD F w _ _ from hr);rfl
     rw[gF]
     exact Gh hv (fun hb=>h.2.1 hb a w ⟨ρ,F,hw⟩) (fun hb=>h.2.2 hb a w ⟨ρ,F,hw⟩)
    ·exact h.elim
   ·rw[mD,lD] at h;exact h
   ·split at h
    ·rename_i id K' hp
     obtain⟨h1,h2⟩:=ih _ _ _ h
     refine⟨h1,fun a w hs=>?_⟩
     rw[gF]
     refine Px ?_
     rw[jK hp]
     exact h2 a w hs
    ·rename_i id hp
     rw[mD,lD] at h
     refine⟨h.1,fun a w hs=>?_⟩
     rw[gF]
     refine Px ?_
     rw[jL hp]
     exact⟨s,hs,h.2⟩
   ·rw[mD,lD] at h
    refine⟨h.1,fun a w hs=>?_⟩
    rw[gF]
    refine Xi ?_
    rw[uF]
    exact⟨s,hs,h.2⟩
   ·rw[mD,lD] at h
    refine⟨h.1,fun a w hs=>?_⟩
    rw[gF]
    refine Zh ?_
    rw[yX]
    exact⟨s,hs,h.2⟩
   ·rw[mD,lD] at h;exact h
  ·
   split at h
   ·obtain⟨h1,h2⟩:=ih _ _ _ h
    exact⟨h1,fun a w hs=>Nk (h2 a w hs)⟩
   ·rename_i all K l o rest
    split at h
    ·rename_i hgd
     split at h
     ·rename_i v p hrd
      split at h
      ·rename_i d hd
       cases hb:Nat.blt d g.n with
       | false=>rw[hb] at h;exact h.elim
       | true=>
        rw[hb] at h
        simp only[cond_true,DZ,BN,BO] at h
        obtain⟨h1,h2⟩:=ih _ _ _ h
        obtain⟨h3,h4⟩:=nR h1
        refine⟨h3,fun a w hs=>?_⟩
        obtain⟨ρ,F,hw⟩:=hs
        obtain⟨x,r1,r2,r3⟩:=yS hg hw (bY _) hrd h4
        refine yY hgd (.inl (r3 w fun _ _=>rfl)) ?_
        rw[hd]
        exact h2 _ _ ⟨ρ,F,hw.put (by rw[←hn];simpa using hb) r1 r2⟩
      ·exact h.elim
     ·split at h
      ·rename_i s' p hef
       simp only[mD,BO] at h
       obtain⟨h1,h2⟩:=ih _ _ _ h
       obtain⟨h3,h4⟩:=nR h1
       refine⟨h3,fun a w hs=>?_⟩
       obtain⟨ρ,F,hw⟩:=hs
       obtain⟨x,w',r1,r2⟩:=UL hg hn hfx hw hef h4
       exact yY hgd r1 (h2 _ _ r2)
      ·rw[mD,lD] at h;exact h
    ·rename_i j u hgd
     split at h
     ·exact h.elim
     ·rename_i q hq
      split at h
      ·rename_i v p hrd
       split at h
       ·rename_i d hd
        cases hb:(Nat.blt d g.n&&!(q.any fun e=>Nat.beq e.1 d)&&v.aO (fresh s.m)) with
        | false=>rw[hb] at h;exact h.elim
        | true=>
         rw[hb] at h
         simp only[cond_true,IZ,DZ,BN,KE,BO] at h
         simp only[adg,adt] at hb
         obtain⟨⟨b1,b2⟩,b3⟩:=hb
         obtain⟨h1,h2⟩:=ih _ _ _ h
         obtain⟨h3,h4⟩:=nR h1
         refine⟨h3,fun a w hs=>?_⟩
         obtain⟨ρ,F,hw⟩:=hs
         have hgp:=jg hw hq
         have hwant:Region.wanted o (yielded all a.tmps)=true↔pcA a.tmps q:=by
          rw[←hgp];simp [Region.wanted,hgd]
         by_cases hpc:pcA a.tmps q
         ·obtain⟨x,r1,r2,r3⟩:=yS hg hw hpc hrd (rQ hw hpc h4)
          refine BP (x:=x) (fun _=>r3 w fun _ _=>rfl) (fun hno=>by rw[hwant.2 hpc] at hno;simp at hno) ?_
          rw[hd]
          exact h2 _ _ ⟨ρ,F,hw.wM (by rw[←hn];simpa using b1) ⟨fun _=>r1,fun hno=>(hno ((gX b2).2 hpc)).elim⟩ b3⟩
         ·refine BP (x:=undef) (fun hyes=>(hpc (hwant.1 hyes)).elim) (fun _=>rfl) ?_
          rw[hd]
          exact h2 _ _ ⟨ρ,F,hw.wM (by rw[←hn];simpa using b1) ⟨fun hp=>(hpc ((gX b2).1 hp)).elim,fun _=>rfl⟩ b3⟩
       ·exact h.elim
      ·rw[mD,lD] at h;exact h
end
end Go.Sx
set_option linter.unusedVariables false
set_option linter.unusedSimpArgs false
namespace Go.Sx
def DEq:D->D->Prop
 | .int k a, .int k' b=>bif xK k k' then a=b else False
 | .bool a, .bool b=>a=b
 | .str a, .str b=>a=b
 | .nf, .nf=>True
 | .ni, .ni=>True
 | .np, .np=>True
 | .ifc t a, .ifc t' b=>t=t'∧a=b
 | .mp l, .mp l'=>l=l'
 | .nm, .nm=>True
 | .sl z n f, .sl z' n' f'=>n=n'∧(n≠0->z=z')∧∀i,i<n->f i=f' i
 | _,_=>False
def aG:V->V->Prop
 | .d a, .d b=>DEq a b
 | .aB, .d (.sl _ n _)=>n=0
 | .aB, .aB=>True
 | .ptr i o, .ptr j p=>i=j∧o=p
 | .own i, .own j=>i=j
 | .bA a b c e, .bA a' b' c' e'=>a=a'∧b=b'∧c=c'∧e=e'
 | a, .dead=>a.leaf=true
 | a,b=>a=b
def C9:List V->List V->Prop
 | [],[]=>True
 | a::r,b::q=>aG a b∧C9 r q
 | _,_=>False
def VEq:V->V->Prop
 | .agg us, .agg vs=>C9 us vs
 | .tup us, .tup vs=>C9 us vs
 | a,b=>aG a b
def NJ:List (Key×V)->List (Key×V)->Prop
 | [],[]=>True
 | a::r,b::q=>a.1=b.1∧aG a.2 b.2∧NJ r q
 | _,_=>False
def lS:Ch->Ch->Prop
 | .box us, .box vs=>C9 us vs
 | .arr z n f, .arr z' n' f'=>z=z'∧n=n'∧∀i,i<n->f i=f' i
 | .vec e z n f, .vec e' z' n' f'=>e=e'∧z=z'∧n=n'∧∀i,i<n->f i=f' i
 | .iter s p, .iter s' p'=>s=s'∧p=p'
 | .rows e e' z n h hs m f, .rows e2 e2' z' n' h' hs' m' f'=>e=e2∧e'=e2'∧z=z'∧n=n'∧h=h'∧∀i,i<n->hs i=hs' i∧m i=m' i∧∀j,j<m i->f i j=f' i j
 | .held e e' z n k u hs m f, .held e2 e2' z' n' k' u' hs' m' f'=>e=e2∧e'=e2'∧z=z'∧n=n'∧k=k'∧aG u u'∧∀i,i<n->i≠k->hs i=hs' i∧m i=m' i∧∀j,j<m i->f i j=f' i j
 | .tbl es, .tbl fs=>NJ es fs
 | .bld T u, .bld T' u'=>T=T'∧aG u u'
 | .pos l, .pos l'=>l=l'
 | .tbl [], .pos []=>True
 | _,_=>False
def isG:V->Bool
 | .g ..=>true
 | _=>false
def LLE (L:List (Nat×V)):List (Nat×V)->Prop
 | []=>True
 | (t,v)::r=>(match get L t with | some u=>VEq u v | none=>False)∧LLE L r
def HLE (H:List (Nat×Ch)):List (Nat×Ch)->Prop
 | []=>True
 | (t,v)::r=>(match get H t with | some u=>lS u v | none=>False)∧HLE H r
def okL (m:Nat):List (Nat×V)->Bool
 | []=>true
 | (_,v)::r=>!isG v&&v.aO (fresh m)&&okL m r
def okH (m:Nat):List (Nat×Ch)->Bool
 | []=>true
 | (i,c)::r=>Nat.blt i m&&c.all (fresh m)&&okH m r
def okS (fix:Nat) (s:St):Bool:=okL s.m s.L&&okH s.m s.H&&Nat.ble fix s.m
def LE (fix:Nat) (s s':St):Prop:=LLE s.L s'.L∧HLE s.H s'.H∧okS fix s'=true
section
variable {C:Ctx} {s s':St} {a:Act} {w w':World} {ρ:Nat->Value} {F:Nat->Prop} {g:Cfg}
theorem RB {x y:D} {v:Value} (h:DEq x y) (hr:RD F w x v):RD F w y v:=by
 cases x<;>cases y<;>simp only[DEq] at h<;>first | exact h.elim | skip
 ·rename_i k a k' b
  cases hk:xK k k' with
  | false=>rw[hk] at h;exact h.elim
  | true=>rw[hk] at h;have:=Dl hk;subst this;simp only[cond_true] at h;subst h;exact hr
 ·subst h;exact hr
 ·subst h;exact hr
 ·rename_i z n f z' n' f'
  obtain⟨h1,hz,hf⟩:=h
  subst h1
  by_cases h0:n=0
  ·subst h0
   cases hr<;>exact .emp _ _ _ _
  cases hr with
  | emp=>exact .emp _ _ _ _
  | sl _ _ _ b o cap cs hF hn hc hl hrr=>
   ·obtain rfl:=hz h0
    exact .sl _ _ _ b o cap cs hF hn hc (fun i hi=>by rw[←hf i hi];exact hl i hi) (fun i j d hi hd=>hrr i j d hi (by rw[hf i hi];exact hd))
 ·exact hr
 ·exact hr
 ·exact hr
 ·obtain⟨rfl,rfl⟩:=h;exact hr
 ·subst h;exact hr
 ·exact hr
theorem lT {x y:V} {v:Value} (h:aG x y) (hr:R1 ρ F w x v):R1 ρ F w y v:=by
 unfold aG at h
 split at h
 ·exact RB h hr
 ·subst h
  rw[show v=.slice none 0 0 from hr]
  exact RD.emp _ _ _ _
 ·exact hr
 ·obtain⟨rfl,rfl⟩:=h;exact hr
 ·subst h;exact hr
 ·obtain⟨rfl,rfl,rfl,rfl⟩:=h;exact hr
 ·exact R1.one hr
 ·subst h;exact hr
theorem xQ:∀{us vs:List V} {cs:List Value},C9 us vs->aF (R1 ρ F w) us cs->aF (R1 ρ F w) vs cs
 | [],[],_,_,hr=>hr
 | u::us,v::vs,c::cs,h,hr=>⟨lT h.1 hr.1,xQ h.2 hr.2⟩
 | u::us,v::vs,[],h,hr=>hr.elim
 | [],_::_,_,h,_=>h.elim
 | _::_,[],_,h,_=>h.elim
theorem YO {u:V} {v:Value} (h:∀us,u≠.agg us) (hr:R2 ρ F w u v):R1 ρ F w u v:=by
 cases u<;>first | exact hr | exact (h _ rfl).elim
theorem rR {x y:V} (hx:x.leaf=false) (h:aG x y):y=x:=by
 cases x<;>first | (simp [V.leaf] at hx;done) | (cases y<;>first | exact Eq.symm h | exact absurd (show false=true from h) (by simp))
theorem KF {u v:V} {c:Value} (h:aG u v) (hr:R2 ρ F w u c):R2 ρ F w v c:=by
 by_cases hu:∃xs,u=.agg xs
 ·obtain⟨xs,rfl⟩:=hu
  rw[rR rfl h];exact hr
 ·exact iZ (lT h (YO (fun us e=>hu ⟨us,e⟩) hr))
theorem D6:∀{us vs:List (Key×V)} {cs:List MapEntry},NJ us vs->aF (fun e x=>x.key=dF e.1∧R2 ρ F w e.2 x.val) us cs->aF (fun e x=>x.key=dF e.1∧R2 ρ F w e.2 x.val) vs cs
 | [],[],_,_,hr=>hr
 | u::us,v::vs,c::cs,h,hr=>⟨⟨by rw[←h.1];exact hr.1.1,KF h.2.1 hr.1.2⟩,D6 h.2.2 hr.2⟩
 | u::us,v::vs,[],h,hr=>hr.elim
 | [],_::_,_,h,_=>h.elim
 | _::_,[],_,h,_=>h.elim
theorem BQ:∀{us vs:List V} {cs:List Value},C9 us vs->aF (R2 ρ F w) us cs->aF (R2 ρ F w) vs cs
 | [],[],_,_,hr=>hr
 | u::us,v::vs,c::cs,h,hr=>by
  refine⟨?_,BQ h.2 hr.2⟩
  have h1:=h.1
  have h2:=hr.1
  by_cases hu:∃xs,u=.agg xs
  ·obtain⟨xs,rfl⟩:=hu
   rw[rR rfl h1];exact h2
  ·exact iZ (lT h1 (YO (fun us e=>hu ⟨us,e⟩) h2))
 | u::us,v::vs,[],h,hr=>hr.elim
 | [],_::_,_,h,_=>h.elim
 | _::_,[],_,h,_=>h.elim
theorem wh {x y:V} {v:Value} (h:VEq x y) (hr:R3 ρ F w x v):R3 ρ F w y v:=by
 unfold VEq at h
 split at h
 ·obtain⟨cs,rfl,hc⟩:=(show R2 ρ F w (.agg _) v from hr)
  exact⟨cs,rfl,xQ h hc⟩
 ·obtain⟨cs,rfl,hc⟩:=hr
  exact⟨cs,rfl,BQ h hc⟩
 ·by_cases ha:∃us,x=.agg us
  ·obtain⟨us,rfl⟩:=ha
   rw[rR rfl h];exact hr
  ·by_cases ht:∃us,x=.tup us
   ·obtain⟨us,rfl⟩:=ht
    rw[rR rfl h];exact hr
   ·have h1:R1 ρ F w x v:=by
     cases x<;>first | exact hr | exact (ha ⟨_,rfl⟩).elim | exact (ht ⟨_,rfl⟩).elim
    exact jI (iZ (lT h h1))
theorem jc.ext {sz n:Nat} {f f':Nat->List D} {xs:List Value} (h:jc F w sz n f xs) (hf:∀i,i<n->f i=f' i):jc F w sz n f' xs:=
 fun i hi=>by rw[←hf i hi];exact h i hi
theorem iK {id:Nat} {c c':Ch} (h:lS c c') (hr:iG ρ F w id c):iG ρ F w id c':=by
 unfold lS at h
 split at h
 ·obtain⟨b,cs,T,h1,h2,h3⟩:=hr
  exact⟨b,cs,T,h1,h2,xQ h h3⟩
 ·obtain⟨rfl,rfl,hf⟩:=h
  obtain⟨b,cs,T,h1,h2,h3,h4⟩:=hr
  exact⟨b,cs,T,h1,h2,h3,h4.ext hf⟩
 ·obtain⟨rfl,rfl,rfl,hf⟩:=h
  obtain⟨xs,h1,h2⟩:=hr
  exact⟨xs,h1,h2.ext hf⟩
 ·obtain⟨rfl,rfl⟩:=h
  exact hr
 ·obtain⟨rfl,rfl,rfl,rfl,rfl,hf⟩:=h
  obtain⟨xs,h1,h2,h3,h4⟩:=hr
  refine⟨xs,h1,fun i hi hh=>?_,fun i b hi hh=>by rw[←(hf i hi).1];exact h3 i b hi hh,fun i j b hi hj hhi hhj hij=>by rw[←(hf i hi).1,←(hf j hj).1];exact h4 i j b hi hj hhi hhj hij⟩
  obtain⟨h5,ys,h6,h7⟩:=h2 i hi hh
  obtain⟨f1,f2,f3⟩:=hf i hi
  rw[←f1,←f2]
  exact⟨h5,ys,h6,h7.ext f3⟩
 ·obtain⟨rfl,rfl,rfl,rfl,rfl,hu,hf⟩:=h
  obtain⟨xs,h1,h0,h2,h3,h4⟩:=hr
  refine⟨xs,h1,fun hk=>?_,fun i hi hh=>?_,fun i b hi hh=>by rw[←(hf i hi hh).1];exact h3 i b hi hh,fun i j b hi hj hhi hhj hij=>by rw[←(hf i hi hhi).1,←(hf j hj hhj).1];exact h4 i j b hi hj hhi hhj hij⟩
  ·obtain⟨y,h5,h6⟩:=h0 hk
   exact⟨y,h5,lT hu h6⟩
  ·obtain⟨h5,ys,h6,h7⟩:=h2 i hi hh
   obtain⟨f1,f2,f3⟩:=hf i hi hh
   rw[←f1,←f2]
   exact⟨h5,ys,h6,h7.ext f3⟩
 ·obtain⟨b,arr,clock,h1,h2,h3⟩:=hr
  exact⟨b,arr,clock,h1,h2,D6 h h3⟩
 ·obtain⟨rfl,hu⟩:=h
  obtain⟨b,p,x,h1,h2,h3,h4⟩:=hr
  exact⟨b,p,x,h1,h2,h3,lT hu h4⟩
 ·subst h;exact hr
 ·obtain⟨b,arr,clock,h1,h2,h3⟩:=hr
  refine⟨b,arr,clock,h1,h2,?_⟩
  cases ha:arr.toList with
  | nil=>rfl
  | cons x l=>rw[ha] at h3;exact h3.elim
 ·exact h.elim
theorem iP {ρ:Nat->Value} {i b:Nat} {c c':Ch} (h:lS c c') (hb:bks ρ i c' b):bks ρ i c b:=by
 unfold lS at h
 split at h
 ·exact hb
 ·exact hb
 ·exact hb
 ·exact hb
 ·obtain⟨rfl,rfl,rfl,rfl,rfl,hf⟩:=h
  rcases hb with hb | ⟨k,hk,hh,hb⟩
  ·exact .inl hb
  ·exact .inr ⟨k,hk,hh,by rw[(hf k hk).1];exact hb⟩
 ·obtain⟨rfl,rfl,rfl,rfl,rfl,hu,hf⟩:=h
  rcases hb with hb | ⟨k,hk,hh,hb⟩
  ·exact .inl hb
  ·exact .inr ⟨k,hk,hh,by rw[(hf k hk hh).1];exact hb⟩
 ·exact hb
 ·exact hb
 ·exact hb
 ·exact hb
 ·exact h.elim
theorem PS {L:List (Nat×V)}:∀{L':List (Nat×V)} {t:Nat} {v:V},LLE L L'->(t,v)∈L'->∃u,(t,u)∈L∧VEq u v
 | (t',v')::r,t,v,h,hm=>by
  rcases List.mem_cons.1 hm with e | hm
  ·obtain⟨rfl,rfl⟩:=Prod.mk.inj e
   have h1:=h.1
   cases hg:get L t with
   | none=>rw[hg] at h1;exact h1.elim
   | some u=>rw[hg] at h1;exact⟨u,get_mem hg,h1⟩
  ·exact PS h.2 hm
theorem gY {L:List (Nat×Ch)}:∀{L':List (Nat×Ch)} {t:Nat} {v:Ch},HLE L L'->(t,v)∈L'->∃u,(t,u)∈L∧lS u v
 | (t',v')::r,t,v,h,hm=>by
  rcases List.mem_cons.1 hm with e | hm
  ·obtain⟨rfl,rfl⟩:=Prod.mk.inj e
   have h1:=h.1
   cases hg:get L t with
   | none=>rw[hg] at h1;exact h1.elim
   | some u=>rw[hg] at h1;exact⟨u,get_mem hg,h1⟩
  ·exact gY h.2 hm
theorem I5 {m:Nat}:∀{L:List (Nat×V)} {t:Nat} {v:V},okL m L=true->(t,v)∈L->isG v=false∧v.aO (fresh m)=true
 | (t',v')::r,t,v,h,hm=>by
  simp only[okL,adg,adt] at h
  rcases List.mem_cons.1 hm with e | hm
  ·obtain⟨rfl,rfl⟩:=Prod.mk.inj e;exact⟨h.1.1,h.1.2⟩
  ·exact I5 h.2 hm
theorem Dm {m:Nat}:∀{L:List (Nat×Ch)} {t:Nat} {v:Ch},okH m L=true->(t,v)∈L->t<m∧v.all (fresh m)=true
 | (t',v')::r,t,v,h,hm=>by
  simp only[okH,adg] at h
  rcases List.mem_cons.1 hm with e | hm
  ·obtain⟨rfl,rfl⟩:=Prod.mk.inj e;exact⟨by simpa using h.1.1,h.1.2⟩
  ·exact Dm h.2 hm
theorem LE.sat (hle:LE C.fix s s') (h:Sat C s a w):Sat C s' a w:=by
 obtain⟨ρ,F,h⟩:=h
 obtain⟨hL,hH,hok⟩:=hle
 simp only[okS,adg] at hok
 obtain⟨⟨ok1,ok2⟩,ok3⟩:=hok
 refine⟨ρ,F,{size:=h.size,defers:=h.defers,slot:=?_,ch:=?_,sep:=?_,out:=?_,aP:=?_,aJ:=?_,lt:=h.lt,mine:=?_,sub:=h.sub,base:=h.base,bU:=⟨by simpa using ok3,h.bU.2⟩,keep:=h.keep,env:=h.env}⟩
 ·intro t v hv
  obtain⟨u,hu,he⟩:=PS hL hv
  obtain⟨x,hx,hr⟩:=h.slot t u hu
  have hg:=(I5 ok1 hv).1
  refine⟨x,hx,?_⟩
  cases u with
  | g p y=>
   have:v=.g p y:=by
    unfold VEq aG at he
    cases v<;>simp_all [isG,V.leaf]
   subst this
   simp [isG] at hg
  | _=>exact gV (wh he hr)
 ·intro i c hc
  obtain⟨u,hu,he⟩:=gY hH hc
  exact iK he (h.ch i u hu)
 ·intro i j ci cj b hi hj hij e
  obtain⟨u,hu,he⟩:=gY hH hi
  obtain⟨u2,hu2,he2⟩:=gY hH hj
  exact fun e2=>h.sep i j u u2 b hu hu2 hij (iP he e) (iP he2 e2)
 ·intro i c b hi e
  obtain⟨u,hu,he⟩:=gY hH hi
  exact h.out i u b hu (iP he e)
 ·intro t v hv
  obtain⟨h1,h2⟩:=I5 ok1 hv
  cases v<;>first | exact h2 | simp [isG] at h1
 ·intro i c hc;exact Dm ok2 hc
 ·intro i c b hi e
  obtain⟨u,hu,he⟩:=gY hH hi
  exact h.mine i u b hu (iP he e)
variable {K:List Item} {Φ:Exit->St->Prop}
theorem Go.le {fix:Nat} (hf:fix=C.fix) (h:LE fix s s') (k:Go C K s' Φ):Go C K s Φ:=fun a w hs=>k a w (LE.sat (hf▸h) hs)
theorem Go.loop {α:Type} {fix:Nat} (hf:fix=C.fix) (I:α->St) (μ:α->Nat) (x0:α) (h0:LE fix s (I x0)) {body:Code}
  (hr:∀x,Go C (.code body::.back (fun s'=>∃y,μ y<μ x∧LE fix s' (I y))::K) (I x) Φ):Go C (.code (.loop body)::K) s Φ:=by
 subst hf
 intro a w hs
 rw[gF]
 refine Gi (fun n a w=>∃x,μ x=n∧Sat C (I x) a w) (μ x0) ⟨x0,rfl,LE.sat h0 hs⟩ ?_
 rintro n a w ⟨x,rfl,hx⟩
 refine rE (hr x a w hx) ?_
 intro e a' w' hq
 cases e with
 | normal=>
  obtain⟨s',h1,y,h2,h3⟩:=hq
  exact⟨μ y,h2,y,rfl,LE.sat h3 h1⟩
 | _=>exact hq
theorem Go.cut {α:Type} {fix:Nat} (hf:fix=C.fix) (I:α->St) {c:Code} (h1:Go C (.code c::.back (fun s'=>∃y,LE fix s' (I y))::K) s Φ) (h2:∀y,Go C K (I y) Φ):Go C (.code c::K) s Φ:=by
 subst hf
 intro a w hs
 rw[gF]
 refine rE (h1 a w hs) ?_
 intro e a' w' hq
 cases e with
 | normal=>
  obtain⟨s',h3,y,h4⟩:=hq
  exact h2 y _ _ (LE.sat h4 h3)
 | _=>exact hq
section
variable (hg:bP C.P g.tys) (hn:g.n=C.n) (hfx:g.fix=C.fix) {n:Nat}
include hg hn hfx
theorem st {ev:Ev} (h:run g n K s []=ev) (k:ev.holds C Φ):Go C K s Φ:=(Rz hg hn hfx n K s [] (h▸k)).2
end
end
end Go.Sx
set_option linter.unusedVariables false
set_option linter.unusedSimpArgs false
namespace Go.Sx
def ixV:Nat->List V->List (Nat×V)
 | _,[]=>[]
 | k,v::r=>(k,v)::ixV (k+1) r
def ixC:Nat->List Ch->List (Nat×Ch)
 | _,[]=>[]
 | k,v::r=>(k,v)::ixC (k+1) r
theorem rT {k t:Nat} {v:V}:∀{l:List V},(t,v)∈ixV k l->k≤t∧l[t-k]?=some v
 | u::r,h=>by
  rcases List.mem_cons.1 h with e | h
  ·obtain⟨rfl,rfl⟩:=Prod.mk.inj e;simp
  ·obtain⟨h1,h2⟩:=rT (k:=k+1) h
   refine⟨by omega,?_⟩
   rw[show t-k=(t-(k+1))+1 by omega];simpa using h2
 | [],h=>by cases h
theorem eH {k t:Nat} {v:Ch}:∀{l:List Ch},(t,v)∈ixC k l->k≤t∧l[t-k]?=some v
 | u::r,h=>by
  rcases List.mem_cons.1 h with e | h
  ·obtain⟨rfl,rfl⟩:=Prod.mk.inj e;simp
  ·obtain⟨h1,h2⟩:=eH (k:=k+1) h
   refine⟨by omega,?_⟩
   rw[show t-k=(t-(k+1))+1 by omega];simpa using h2
 | [],h=>by cases h
def nth:List Nat->Nat->Nat
 | [],i=>i
 | x::_,0=>x
 | _::r,i+1=>nth r i
def bZ (is:List Nat):V->V
 | .ptr i o=>.ptr (nth is i) o
 | .own i=>.own (nth is i)
 | .bA i z k o=>.bA (nth is i) z k o
 | v=>v
theorem kP {is:List Nat} {i:Nat} (h:i<is.length):is[i]?=some (nth is i):=by
 induction is generalizing i with
 | nil=>simp at h
 | cons x r ih=>
  cases i with
  | zero=>rfl
  | succ i=>simpa [nth] using ih (by simpa using h)
section
variable {ρ ρ':Nat->Value} {F:Nat->Prop} {w:World}
theorem R0.ren {is:List Nat} {k:Nat} (hρ:∀i,i<k->ρ' (nth is i)=ρ i) {u:V} {v:Value} (hf:fresh k u=true) (h:R0 ρ F w u v):R0 ρ' F w (bZ is u) v:=by
 have go:∀id,Nat.blt id k=true->ρ' (nth is id)=ρ id:=fun id h=>hρ id (by simpa using h)
 cases u with
 | ptr id o=>obtain⟨b,h1,h2⟩:=h;exact⟨b,by rw[go id hf];exact h1,h2⟩
 | own id=>obtain⟨h1,h2⟩:=h;exact⟨by rw[go id hf];exact h1,by rw[go id hf];exact h2⟩
 | bA id z i o=>obtain⟨b,h1,h2⟩:=h;exact⟨b,by rw[go id hf];exact h1,h2⟩
 | _=>exact h
theorem R0.dJ {is:List Nat} {k:Nat} (hρ:∀i,i<k->ρ' (nth is i)=ρ i) {u:V} {v:Value} (hf:fresh k u=true) (h:R0 ρ' F w (bZ is u) v):R0 ρ F w u v:=by
 have go:∀id,Nat.blt id k=true->ρ' (nth is id)=ρ id:=fun id h=>hρ id (by simpa using h)
 cases u with
 | ptr id o=>obtain⟨b,h1,h2⟩:=h;exact⟨b,by rw[←go id hf];exact h1,h2⟩
 | own id=>obtain⟨h1,h2⟩:=h;exact⟨by rw[←go id hf];exact h1,by rw[←go id hf];exact h2⟩
 | bA id z i o=>obtain⟨b,h1,h2⟩:=h;exact⟨b,by rw[←go id hf];exact h1,h2⟩
 | _=>exact h
theorem aF.unmap {α α' β:Type} {R:α->β->Prop} {R':α'->β->Prop} {g:α->α'}:∀{as:List α} {bs:List β},(∀a b,a∈as->R' (g a) b->R a b)->aF R' (as.map g) bs->aF R as bs
 | [],[],_,_=>trivial
 | a::as,b::bs,h,⟨h1,h2⟩=>⟨h a b (by simp) h1,aF.unmap (fun a b ha=>h a b (by simp [ha])) h2⟩
 | [],_::_,_,h=>h.elim
 | _::_,[],_,h=>h.elim
theorem R1.dJ {is:List Nat} {k:Nat} (hρ:∀i,i<k->ρ' (nth is i)=ρ i) {u:V} {v:Value} (hf:u.all1 (fresh k)=true) (h:R1 ρ' F w (u.eG (bZ is)) v):R1 ρ F w u v:=by
 cases u with
 | fn f caps=>
  obtain⟨cs,rfl,hc⟩:=h
  exact⟨cs,rfl,hc.unmap fun a b ha hab=>R0.dJ hρ (by simpa using (List.all_eq_true.1 hf) a ha) hab⟩
 | d y=>exact h
 | aB=>exact h
 | ptr y z=>exact qC (R0.dJ (u:=.ptr y z) hρ hf h)
 | own y=>exact qC (R0.dJ (u:=.own y) hρ hf h)
 | bA y z i j=>exact qC (R0.dJ (u:=.bA y z i j) hρ hf h)
 | gq y=>exact h
 | dead=>exact h
 | _=>exact (show False from h).elim
theorem R2.dJ {is:List Nat} {k:Nat} (hρ:∀i,i<k->ρ' (nth is i)=ρ i) {u:V} {v:Value} (hf:u.all2 (fresh k)=true) (h:R2 ρ' F w (u.iw (bZ is)) v):R2 ρ F w u v:=by
 cases u with
 | agg us=>
  obtain⟨cs,rfl,hc⟩:=h
  exact⟨cs,rfl,hc.unmap fun a b ha hab=>R1.dJ hρ (by simpa using (List.all_eq_true.1 hf) a ha) hab⟩
 | fn f caps=>exact iZ (R1.dJ (u:=.fn f caps) hρ hf h)
 | d y=>exact h
 | aB=>exact h
 | ptr y z=>exact iZ (R1.dJ (u:=.ptr y z) hρ hf h)
 | own y=>exact iZ (R1.dJ (u:=.own y) hρ hf h)
 | bA y z i j=>exact iZ (R1.dJ (u:=.bA y z i j) hρ hf h)
 | gq y=>exact h
 | dead=>exact h
 | _=>exact (show False from h).elim
theorem R3.dJ {is:List Nat} {k:Nat} (hρ:∀i,i<k->ρ' (nth is i)=ρ i) {u:V} {v:Value} (hf:u.aO (fresh k)=true) (h:R3 ρ' F w (u.cu (bZ is)) v):R3 ρ F w u v:=by
 cases u with
 | tup us=>
  obtain⟨cs,rfl,hc⟩:=h
  exact⟨cs,rfl,hc.unmap fun a b ha hab=>R2.dJ hρ (by simpa using (List.all_eq_true.1 hf) a ha) hab⟩
 | agg us=>exact jI (R2.dJ (u:=.agg us) hρ hf h)
 | fn f caps=>exact jI (R2.dJ (u:=.fn f caps) hρ hf h)
 | d y=>exact h
 | aB=>exact h
 | ptr y z=>exact jI (R2.dJ (u:=.ptr y z) hρ hf h)
 | own y=>exact jI (R2.dJ (u:=.own y) hρ hf h)
 | bA y z i j=>exact jI (R2.dJ (u:=.bA y z i j) hρ hf h)
 | gq y=>exact h
 | dead=>exact h
 | _=>exact (show False from h).elim
theorem iG.ren {is:List Nat} {k:Nat} (hρ:∀i,i<k->ρ' (nth is i)=ρ i) {i:Nat} (hi:i<k) {c:Ch} (hf:c.all (fresh k)=true) (h:iG ρ F w i c):iG ρ' F w (nth is i) (c.map (bZ is)):=by
 have e:=hρ i hi
 cases c with
 | box us=>
  obtain⟨b,cs,T,h1,h2,h3⟩:=h
  exact⟨b,cs,T,e.trans h1,h2,h3.imp fun a b ha hab=>R1.map (p:=fresh k) (fun u v hu hr=>R0.ren hρ hu hr) (by simpa using (List.all_eq_true.1 hf) a ha) hab⟩
 | arr sz n f=>obtain⟨b,cs,T,h1,h2,h3⟩:=h;exact⟨b,cs,T,e.trans h1,h2,h3⟩
 | vec ee sz n f=>obtain⟨xs,h1,h2⟩:=h;exact⟨xs,by rw[e];exact h1,h2⟩
 | iter s pos=>obtain⟨b,h1,h2⟩:=h;exact⟨b,e.trans h1,h2⟩
 | rows _ _ _ _ _ _ _ _=>obtain⟨xs,h1,h2,h3,h4⟩:=h;exact⟨xs,by rw[e];exact h1,h2,by rw[e];exact h3,h4⟩
 | held _ _ _ _ _ _ _ _ _=>obtain⟨xs,h1,h0,h2,h3,h4⟩:=h;exact⟨xs,by rw[e];exact h1,fun hi=>by obtain⟨y,h5,h6⟩:=h0 hi;exact⟨y,h5,R1.map (p:=fresh k) (fun u v hu hr=>R0.ren hρ hu hr) hf h6⟩,h2,by rw[e];exact h3,h4⟩
 | bld T u=>obtain⟨b,p,x,h1,h2,h3,h4⟩:=h;exact⟨b,p,x,e.trans h1,h2,h3,R1.map (p:=fresh k) (fun u v hu hr=>R0.ren hρ hu hr) hf h4⟩
 | pos l=>obtain⟨b,arr,clock,h1,h2,h3⟩:=h;exact⟨b,arr,clock,e.trans h1,h2,h3⟩
 | tbl es=>obtain⟨b,arr,clock,h1,h2,h3⟩:=h;exact⟨b,arr,clock,e.trans h1,h2,h3.imp fun a x ha hx=>⟨hx.1,R2.map (p:=fresh k) (fun u v hu hr=>R0.ren hρ hu hr) (by simpa using (List.all_eq_true.1 hf) a ha) hx.2⟩⟩
theorem iG.dJ {is:List Nat} {k:Nat} (hρ:∀i,i<k->ρ' (nth is i)=ρ i) {i:Nat} (hi:i<k) {c:Ch} (hf:c.all (fresh k)=true) (h:iG ρ' F w (nth is i) (c.map (bZ is))):iG ρ F w i c:=by
 have e:=hρ i hi
 cases c with
 | box us=>
  obtain⟨b,cs,T,h1,h2,h3⟩:=h
  exact⟨b,cs,T,e.symm.trans h1,h2,h3.unmap fun a b ha hab=>R1.dJ hρ (by simpa using (List.all_eq_true.1 hf) a ha) hab⟩
 | arr sz n f=>obtain⟨b,cs,T,h1,h2,h3⟩:=h;exact⟨b,cs,T,e.symm.trans h1,h2,h3⟩
 | vec ee sz n f=>obtain⟨xs,h1,h2⟩:=h;exact⟨xs,by rw[←e];exact h1,h2⟩
 | iter s pos=>obtain⟨b,h1,h2⟩:=h;exact⟨b,e.symm.trans h1,h2⟩
 | rows _ _ _ _ _ _ _ _=>obtain⟨xs,h1,h2,h3,h4⟩:=h;exact⟨xs,by rw[←e];exact h1,h2,by rw[←e];exact h3,h4⟩
 | held _ _ _ _ _ _ _ _ _=>obtain⟨xs,h1,h0,h2,h3,h4⟩:=h;exact⟨xs,by rw[←e];exact h1,fun hi=>by obtain⟨y,h5,h6⟩:=h0 hi;exact⟨y,h5,R1.dJ hρ hf h6⟩,h2,by rw[←e];exact h3,h4⟩
 | bld T u=>obtain⟨b,p,x,h1,h2,h3,h4⟩:=h;exact⟨b,p,x,e.symm.trans h1,h2,h3,R1.dJ hρ hf h4⟩
 | pos l=>obtain⟨b,arr,clock,h1,h2,h3⟩:=h;exact⟨b,arr,clock,e.symm.trans h1,h2,h3⟩
 | tbl es=>obtain⟨b,arr,clock,h1,h2,h3⟩:=h;exact⟨b,arr,clock,e.symm.trans h1,h2,h3.unmap fun a x ha hx=>⟨hx.1,R2.dJ hρ (by simpa using (List.all_eq_true.1 hf) a ha) hx.2⟩⟩
end
structure Holds (ρ:Nat->Value) (F:Nat->Prop) (w:World) (H:List Ch):Prop where
 ch:∀i c,H[i]?=some c->iG ρ F w i c
 sep:∀(i j:Nat) b,i<H.length->j<H.length->i≠j->blk (ρ i)=some b->blk (ρ j)≠some b
 out:∀(i b:Nat),i<H.length->blk (ρ i)=some b->¬F b
def ownB (ρ:Nat->Value) (H:List Ch):Nat->Prop:=fun b=>∃i,i<H.length∧blk (ρ i)=some b
def Post (w:World) (F:Nat->Prop) (ρ:Nat->Value) (fix:Nat) (H:List Ch) (r:V) (H':List Ch) (e:Ending) (w':World):Prop:=
 ∃v ρ' F',e=.returned v∧Keeps w (ownB ρ H) w'∧(∀i,i<fix->ρ' i=ρ i)∧(∀k,F k->F' k)∧(∀k,F' k->k<w'.heap.size)∧
  (∀k,F' k->F k∨w.heap.size≤k∨ownB ρ H k)∧R3 ρ' F' w' r v∧Holds ρ' F' w' H'∧(∀(i b:Nat),i<H'.length->blk (ρ' i)=some b->w.heap.size≤b∨ownB ρ H b)
def iA (P:Program) (f:FuncId):Prop:=∃fn,P.funcs[f]?=some fn∧fn.body.isSome=true∧(fn.name == "runtime.NumGoroutine")=false
def aL (args:List V) (H:List Ch) (k:Nat):Bool:=args.all (V.aO (fresh k))&&H.all (fun c=>Ch.all (fresh k) c&&IV c)
def aI (P:Pg) (f:FuncId) (fix:Nat) (args:List V) (H:List Ch) (r:V) (H':List Ch):Prop:=
 iA P.P f∧aL args H H.length=true∧aL [r] H' H'.length=true∧fix≤H.length∧H.length≤H'.length∧
 ∀(w:World) (F:Nat->Prop) (ρ:Nat->Value) (vals:List Value),(∀k,F k->k<w.heap.size)->je P.env F w->Holds ρ F w H->aF (R3 ρ F w) args vals->
  Calls P.P f vals.toArray w (Post w F ρ fix H r H')
abbrev Pure (P:Pg) (f:FuncId) (args:List V) (r:V) (H':List Ch):Prop:=aI P f 0 args [] r H'
end Go.Sx
set_option linter.unusedVariables false
set_option linter.unusedSimpArgs false
namespace Go.Sx
def PU:V->Option V
 | .tup _=>none
 | .g _ _=>none
 | v=>some v
def res1 (g:Cfg) (s:St):ResultVar->Option V
 | .tmp t=>match get s.L t with
  | some v=>PU v
  | none=>none
 | .cell t ty=>match get s.L t with
  | some (.ptr i o)=>match ldE g s.H ty (.ptr i o) with
   | some (v,[])=>PU v
   | _=>none
  | _=>none
def gB (g:Cfg) (s:St):List ResultVar->Option V
 | []=>some (.tup [])
 | [x]=>res1 g s x
 | [x,y]=>match res1 g s x,res1 g s y with
  | some u,some v=>some (.tup [u,v])
  | _,_=>none
 | [x,y,z]=>match res1 g s x,res1 g s y,res1 g s z with
  | some u,some v,some t=>some (.tup [u,v,t])
  | _,_,_=>none
 | [x,y,z,q]=>match res1 g s x,res1 g s y,res1 g s z,res1 g s q with
  | some u,some v,some t,some r=>some (.tup [u,v,t,r])
  | _,_,_,_=>none
 | [x,y,z,q,p]=>match res1 g s x,res1 g s y,res1 g s z,res1 g s q,res1 g s p with
  | some u,some v,some t,some r,some o=>some (.tup [u,v,t,r,o])
  | _,_,_,_,_=>none
 | _=>none
def rnH (is:List Nat):List Nat->List Ch->List (Nat×Ch)
 | x::xs,c::cs=>(x,c.map (bZ is))::rnH is xs cs
 | _,_=>[]
def PV (x:Nat):List Nat->Bool
 | []=>true
 | y::r=>!(Nat.beq x y)&&PV x r
def nodupB:List Nat->Bool
 | []=>true
 | x::r=>PV x r&&nodupB r
def idB:Nat->Nat->List Nat->Bool
 | 0,_,_=>true
 | n+1,k,x::r=>Nat.beq x k&&idB n (k+1) r
 | _+1,_,[]=>false
def UW (fix:Nat) (ids:List Nat) (n:Nat):Bool:=Nat.beq ids.length n&&nodupB ids&&idB fix 0 ids
theorem uG {x:Nat}:∀{l:List Nat},PV x l=true->x∉l
 | [],_=>by simp
 | y::r,h=>by
  simp only[PV,adg,adt] at h
  intro hm
  rcases List.mem_cons.1 hm with rfl | hm
  ·simp at h
  ·exact uG h.2 hm
theorem gG:∀{l:List Nat},nodupB l=true->∀i j,i<l.length->j<l.length->i≠j->nth l i≠nth l j
 | x::r,h,i,j,hi,hj,hij=>by
  simp only[nodupB,adg] at h
  cases i with
  | zero=>
   cases j with
   | zero=>exact (hij rfl).elim
   | succ j=>
    intro e
    have hj':j<r.length:=by simpa using hj
    exact uG h.1 (by simp only[nth] at e;rw[e];exact List.mem_of_getElem? (kP hj'))
  | succ i=>
   have hi':i<r.length:=by simpa using hi
   cases j with
   | zero=>
    intro e
    exact uG h.1 (by simp only[nth] at e;rw[←e];exact List.mem_of_getElem? (kP hi'))
   | succ j=>exact gG h.2 i j hi' (by simpa using hj) (by omega)
 | [],_,_,_,hi,_,_=>by simp at hi
theorem Aw:∀{n k:Nat} {l:List Nat},idB n k l=true->∀i,i<n->nth l i=k+i
 | n+1,k,x::r,h,i,hi=>by
  simp only[idB,adg] at h
  have h1:=ado h.1
  subst h1
  cases i with
  | zero=>rfl
  | succ i=>simp only[nth];rw[Aw h.2 i (by omega)];omega
 | n+1,k,[],h,i,hi=>by simp [idB] at h
 | 0,_,_,_,i,hi=>by omega
theorem mZ {is:List Nat} {H':List (Nat×Ch)}:∀{xs:List Nat} {cs:List Ch} {i:Nat} {c:Ch},xs.length=cs.length->HLE H' (rnH is xs cs)->cs[i]?=some c->∃c0,(nth xs i,c0)∈H'∧lS c0 (c.map (bZ is))
 | x::xs,c'::cs,i,c,hl,h,hc=>by
  cases i with
  | zero=>
   simp at hc
   subst hc
   have h1:=h.1
   cases hg:get H' x with
   | none=>rw[hg] at h1;exact h1.elim
   | some u=>rw[hg] at h1;exact⟨u,get_mem hg,h1⟩
  | succ i=>exact mZ (xs:=xs) (cs:=cs) (by simpa using hl) h.2 (by simpa using hc)
 | [],[],_,_,_,_,hc=>by simp at hc
 | [],_::_,_,_,hl,_,_=>by simp at hl
 | _::_,[],_,_,hl,_,_=>by simp at hl
def Ret (g:Cfg) (rs:List ResultVar) (ids:List Nat) (r:V) (H':List Ch):Exit->St->Prop:=fun e s=>
 (e=.normal∨e=.ret)∧(match gB g s rs with | some r0=>VEq r0 (r.cu (bZ ids)) | none=>False)∧HLE s.H (rnH ids ids H')∧UW g.fix ids H'.length=true
section
variable {C:Ctx} {s:St} {a:Act} {w w':World} {ρ:Nat->Value} {F:Nat->Prop} {g:Cfg}
def I6 (tmps:Array Value):ResultVar->Sem Value
 | .tmp t=>pure (tmps.getD t undef)
 | .cell t ty=>do loadVar ty (←asAddr (tmps.getD t undef))
theorem BS {u v:V} {x:Value} (h:PU u=some v) (hr:RS a.tmps ρ F w u x):R2 ρ F w v x∧u=v:=by
 cases u<;>simp only[PU,adk,reduceCtorEq] at h<;>subst h<;>exact⟨hr,rfl⟩
theorem dh (hg:bP C.P g.tys) (h:aD C s a w ρ F) {x:ResultVar} {v:V} (he:res1 g s x=some v) :
  ∃y,R2 ρ F w v y∧(I6 a.tmps x).run C.P w=.ok y w:=by
 cases x with
 | tmp t=>
  simp only[res1] at he
  split at he
  ·rename_i u hu
   obtain⟨y,hy,hr⟩:=h.slot t u (get_mem hu)
   exact⟨y,(BS he hr).1,by simp [I6,Array.getD_eq_getD_getElem?,hy]⟩
  ·simp at he
 | cell t ty=>
  simp only[res1] at he
  split at he
  ·rename_i i o hg0
   split at he
   ·rename_i v' hld
    obtain⟨y,hy,hr⟩:=h.slot t _ (get_mem hg0)
    obtain⟨r,h1,_,h3⟩:=Kl (P:=C.P) (B:=fun _=>True) hg h hld tR (show R3 ρ F w (.ptr i o) y from hr) (fun _ _=>trivial) (fun _ _ _ _ _=>trivial)
    refine⟨r,(BS (a:=a) he (gV h1)).1,?_⟩
    obtain⟨b,_,rfl⟩:=(show R0 ρ F w (.ptr i o) y from hr)
    have:=h3 w (fun _ _ _=>rfl)
    simp only[Instr.loadAt,Instr.sureAddr,Sem.run_bind,Sem.run_pure,Result.andThen] at this
    simp only[I6,Sem.run_bind,Array.getD_eq_getD_getElem?,hy,Option.getD_some,asAddr,Sem.run_pure,Result.andThen]
    exact this
   ·simp at he
  ·simp at he
theorem NK (fn:Func) (tmps:Array Value):results fn tmps=(do
  let vs ←fn.results.mapM (I6 tmps)
  pure (if h:vs.size=1 then vs[0] else .tuple vs)):=by
 unfold results
 congr 1
theorem GZ (hg:bP C.P g.tys) (h:aD C s a w ρ F) {fn:Func} {rs:List ResultVar} (hrs:fn.results=rs.toArray) {v:V} (he:gB g s rs=some v) :
  ∃y,R3 ρ F w v y∧(results fn a.tmps).run C.P w=.ok y w:=by
 rw[NK]
 unfold gB at he
 split at he
 ·simp only[adk] at he
  subst he
  exact⟨.tuple #[],⟨[],rfl,tR⟩,by simp [hrs]⟩
 ·rename_i x
  obtain⟨y,h1,h2⟩:=dh hg h he
  exact⟨y,jI h1,by simp [hrs,h2]⟩
 ·rename_i x y
  split at he
  ·rename_i u v' hu hv
   simp only[adk] at he
   subst he
   obtain⟨y1,h1,h2⟩:=dh hg h hu
   obtain⟨y2,h3,h4⟩:=dh hg h hv
   exact⟨.tuple #[y1,y2],⟨[y1,y2],rfl,h1,h3,tR⟩,by simp [hrs,h2,h4]⟩
  ·simp at he
 ·rename_i x y z
  split at he
  ·rename_i u v' t hu hv ht
   simp only[adk] at he
   subst he
   obtain⟨y1,h1,h2⟩:=dh hg h hu
   obtain⟨y2,h3,h4⟩:=dh hg h hv
   obtain⟨y3,h5,h6⟩:=dh hg h ht
   exact⟨.tuple #[y1,y2,y3],⟨[y1,y2,y3],rfl,h1,h3,h5,tR⟩,by simp [hrs,h2,h4,h6]⟩
  ·simp at he
 ·rename_i x y z q
  split at he
  ·rename_i u v' t p hu hv ht hp
   simp only[adk] at he
   subst he
   obtain⟨y1,h1,h2⟩:=dh hg h hu
   obtain⟨y2,h3,h4⟩:=dh hg h hv
   obtain⟨y3,h5,h6⟩:=dh hg h ht
   obtain⟨y4,h7,h8⟩:=dh hg h hp
   exact⟨.tuple #[y1,y2,y3,y4],⟨[y1,y2,y3,y4],rfl,h1,h3,h5,h7,tR⟩,by simp [hrs,h2,h4,h6,h8]⟩
  ·simp at he
 ·rename_i x y z q p
  split at he
  ·rename_i u v' t r o hu hv ht hr ho
   simp only[adk] at he
   subst he
   obtain⟨y1,h1,h2⟩:=dh hg h hu
   obtain⟨y2,h3,h4⟩:=dh hg h hv
   obtain⟨y3,h5,h6⟩:=dh hg h ht
   obtain⟨y4,h7,h8⟩:=dh hg h hr
   obtain⟨y5,h9,h10⟩:=dh hg h ho
   exact⟨.tuple #[y1,y2,y3,y4,y5],⟨[y1,y2,y3,y4,y5],rfl,h1,h3,h5,h7,h9,tR⟩,by simp [hrs,h2,h4,h6,h8,h10]⟩
  ·simp at he
 ·simp at he
def xu (F:Nat->Prop) (w w':World):Prop:=(∀k o v,F k->w.cell? ⟨k,o,none⟩=some v->w'.cell? ⟨k,o,none⟩=some v)∧∀k arr clock,F k->w.heap[k]?=some (.map arr clock)->w'.heap[k]?=some (.map arr clock)
theorem RD.mono' (hw:xu F w w') {d:D} {v:Value} (h:RD F w d v):RD F w' d v:=by
 induction h with
 | int k n=>exact .int k n
 | bool b=>exact .bool b
 | str s=>exact .str s
 | emp sz f a cap=>exact .emp sz f a cap
 | nf=>exact .nf
 | ni=>exact .ni
 | np=>exact .np
 | nm=>exact .nm
 | ifc t ns=>exact .ifc t ns
 | mp l b arr clock hFb hh hm=>exact .mp l b arr clock hFb (hw.2 _ _ _ hFb hh) hm
 | sl sz n f b o cap cs hFb hn hc hl _ ih=>exact .sl sz n f b o cap cs hFb hn (fun i j hi hj=>hw.1 _ _ _ hFb (hc i j hi hj)) hl ih
theorem R0.mono' (hw:xu F w w') {u:V} {v:Value} (h:R0 ρ F w u v):R0 ρ F w' u v:=by
 cases u with
 | d d=>exact RD.mono' hw h
 | gq ds=>
  obtain⟨b,o,cs,h1,h2,h3⟩:=h
  exact⟨b,o,cs,h1,h2,fun j d hd=>⟨hw.1 _ _ _ h2 (h3 j d hd).1,RD.mono' hw (h3 j d hd).2⟩⟩
 | _=>exact h
theorem jc.mono' (hw:xu F w w') {sz n:Nat} {f:Nat->List D} {xs:List Value} (h:jc F w sz n f xs):jc F w' sz n f xs:=
 fun i hi=>⟨(h i hi).1,fun j d hd=>let ⟨c,h1,h2⟩:=(h i hi).2 j d hd;⟨c,h1,RD.mono' hw h2⟩⟩
theorem all_true {p:V->Bool} (hp:∀u,p u=true):∀u:V,u.all1 p=true∧u.all2 p=true∧u.aO p=true:=by
 have h1:∀u:V,u.all1 p=true:=fun u=>by cases u<;>simp [V.all1,hp]
 have h2:∀u:V,u.all2 p=true:=fun u=>by cases u<;>simp [V.all2,h1]
 have h3:∀u:V,u.aO p=true:=fun u=>by cases u<;>simp [V.aO,h2]
 exact fun u=>⟨h1 u,h2 u,h3 u⟩
theorem Ay (u:V):u.eG (fun u=>u)=u:=by cases u<;>simp [V.eG]
theorem Az (u:V):u.iw (fun u=>u)=u:=by
 cases u<;>simp only[V.iw]<;>first | exact Ay _ | skip
 rename_i us
 congr 1
 induction us with
 | nil=>rfl
 | cons u us ih=>rw[List.map_cons,ih,Ay]
theorem RF (u:V):u.cu (fun u=>u)=u:=by
 cases u<;>simp only[V.cu]<;>first | exact Az _ | skip
 rename_i us
 congr 1
 induction us with
 | nil=>rfl
 | cons u us ih=>rw[List.map_cons,ih,Az]
theorem R1.mono' (hw:xu F w w') {u:V} {v:Value} (h:R1 ρ F w u v):R1 ρ F w' u v:=by
 have:=R1.map (p:=fun _=>true) (k:=fun u=>u) (ρ':=ρ) (F':=F) (w':=w') (fun u v _ hr=>R0.mono' hw hr) (all_true (fun _=>rfl) u).1 h
 rwa [Ay] at this
theorem R2.mono' (hw:xu F w w') {u:V} {v:Value} (h:R2 ρ F w u v):R2 ρ F w' u v:=by
 have:=R2.map (p:=fun _=>true) (k:=fun u=>u) (ρ':=ρ) (F':=F) (w':=w') (fun u v _ hr=>R0.mono' hw hr) (all_true (fun _=>rfl) u).2.1 h
 rwa [Az] at this
theorem R3.mono' (hw:xu F w w') {u:V} {v:Value} (h:R3 ρ F w u v):R3 ρ F w' u v:=by
 have:=R3.map (p:=fun _=>true) (k:=fun u=>u) (ρ':=ρ) (F':=F) (w':=w') (fun u v _ hr=>R0.mono' hw hr) (all_true (fun _=>rfl) u).2.2 h
 rwa [RF] at this
theorem RS.mono' {tmps:Array Value} (hw:xu F w w') {u:V} {v:Value} (h:RS tmps ρ F w u v):RS tmps ρ F w' u v:=by
 by_cases hg:∃p y,u=.g p y
 ·obtain⟨p,y,rfl⟩:=hg
  exact⟨fun hp=>R3.mono' hw (h.1 hp),h.2⟩
 ·have h0:R3 ρ F w u v:=by cases u<;>first | exact h | exact (hg ⟨_,_,rfl⟩).elim
  exact gV (R3.mono' hw h0)
theorem iG.mono' (hw:xu F w w') {id:Nat} {c:Ch} (hb:∀b,bks ρ id c b->w'.heap[b]?=w.heap[b]?) (h:iG ρ F w id c):iG ρ F w' id c:=by
 have hall:∀{us:List V} {cs:List Value},aF (R1 ρ F w) us cs->aF (R1 ρ F w') us cs:=fun {us cs} h=>by
  have:=h.imp (g:=fun u=>u) (R':=R1 ρ F w') (fun a b _ hab=>R1.mono' hw hab)
  rwa [List.map_id'] at this
 cases c with
 | box us=>
  obtain⟨b,cs,T,h1,h2,h3⟩:=h
  exact⟨b,cs,T,h1,by rw[hb b (by show blk (ρ id)=some b;rw[h1];rfl)];exact h2,hall h3⟩
 | arr sz n f=>
  obtain⟨b,cs,T,h1,h2,h3,h4⟩:=h
  exact⟨b,cs,T,h1,by rw[hb b (by show blk (ρ id)=some b;rw[h1];rfl)];exact h2,h3,h4.mono' hw⟩
 | vec e sz n f=>
  obtain⟨xs,h1,h2⟩:=h
  exact⟨xs,dP h1 hb,h2.mono' hw⟩
 | iter s pos=>
  obtain⟨b,h1,h2⟩:=h
  exact⟨b,h1,by rw[hb b (by show blk (ρ id)=some b;rw[h1];rfl)];exact h2⟩
 | rows e e' sz n hole hs m f=>
  obtain⟨xs,h1,h2,h3,h4⟩:=h
  refine⟨xs,dP h1 fun b e=>hb b (.inl e),fun i hi hh=>?_,h3,h4⟩
  obtain⟨h5,ys,h6,h7⟩:=h2 i hi hh
  exact⟨h5,ys,dP h6 fun b e=>hb b (.inr ⟨i,hi,hh,e⟩),h7.mono' hw⟩
 | held e e' sz n i u hs m f=>
  obtain⟨xs,h1,h0,h2,h3,h4⟩:=h
  refine⟨xs,dP h1 fun b e=>hb b (.inl e),fun hi=>?_,fun i hi hh=>?_,h3,h4⟩
  ·obtain⟨y,h5,h6⟩:=h0 hi
   exact⟨y,h5,R1.mono' hw h6⟩
  ·obtain⟨h5,ys,h6,h7⟩:=h2 i hi hh
   exact⟨h5,ys,dP h6 fun b e=>hb b (.inr ⟨i,hi,hh,e⟩),h7.mono' hw⟩
 | bld T u=>
  obtain⟨b,p,x,h1,h2,h3,h4⟩:=h
  exact⟨b,p,x,h1,by rw[hb b (by show blk (ρ id)=some b;rw[h1];rfl)];exact h2,h3,R1.mono' hw h4⟩
 | pos l=>
  obtain⟨b,arr,clock,h1,h2,h3⟩:=h
  exact⟨b,arr,clock,h1,by rw[hb b (by show blk (ρ id)=some b;rw[h1];rfl)];exact h2,h3⟩
 | tbl es=>
  obtain⟨b,arr,clock,h1,h2,h3⟩:=h
  refine⟨b,arr,clock,h1,by rw[hb b (by show blk (ρ id)=some b;rw[h1];rfl)];exact h2,?_⟩
  have:=h3.imp (g:=fun e=>e) (R':=fun e x=>x.key=dF e.1∧R2 ρ F w' e.2 x.val) (fun a x _ hx=>⟨hx.1,R2.mono' hw hx.2⟩)
  rwa [List.map_id'] at this
theorem aD.take {D:Nat} {ms:List Nat} (h:aD C s a w ρ F) (hm:(D::ms).Nodup) (hmk:C.mks=true) (hlo:C.w0.heap.size≤C.lo) (hD:∀k∈D::ms,C.lo≤k∧F k∧w.heap[k]?=some (.deferred (some []))) :
  aD C s {a with defers:=ms.map rF++C.defs} (w.putObj D (.deferred none)) ρ F:=by
 obtain⟨d1,d2,d3⟩:=hD D (by simp)
 have hw:xu F w (w.putObj D (.deferred none)):=by
  refine⟨fun k o v hk hc=>?_,fun k arr clock hk hc=>?_⟩
  rotate_left
  ·by_cases e:k=D
   ·subst e;rw[d3] at hc;cases hc
   ·rw[World.putObj_heap_other e];exact hc
  by_cases e:k=D
  ·subst e
   unfold World.cell? at hc
   rw[d3] at hc
   simp at hc
  ·rw[←hc];exact World.cell?_of_block (w:=w) (World.putObj_heap_other e)
 have hb:∀i c,(i,c)∈s.H->∀b,bks ρ i c b->(w.putObj D (.deferred none)).heap[b]?=w.heap[b]?:=fun i c hi b e=>World.putObj_heap_other fun e2=>by subst e2;exact h.out i c b hi e d2
 exact
  {
   size:=h.size,sep:=h.sep,out:=h.out,aP:=h.aP,aJ:=h.aJ,mine:=h.mine,sub:=h.sub,base:=h.base,bU:=h.bU
   slot:=fun t v hv=>let ⟨x,hx,hr⟩:=h.slot t v hv;⟨x,hx,RS.mono' hw hr⟩
   ch:=fun i c hi=>iG.mono' hw (hb i c hi) (h.ch i c hi)
   lt:=fun k hk=>by rw[World.putObj_size];exact h.lt k hk
   env:=fun g n f hm=>⟨(h.env g n f hm).1,fun j hj=>hw.1 _ _ _ (h.env g n f hm).1 ((h.env g n f hm).2.1 j hj),fun h0=>let ⟨m,hm'⟩:=(h.env g n f hm).2.2 h0;⟨m,hw.1 _ _ _ (h.env g n f hm).1 hm'⟩⟩
   keep:=⟨h.keep.os,h.keep.tape,h.keep.output,by rw[World.putObj_size];exact h.keep.size,fun k hk he=>(World.putObj_heap_other (by omega)).trans (h.keep.block k hk he)⟩
   defers:=⟨ms,rfl,(List.nodup_cons.1 hm).2,fun e=>(by rw[hmk] at e;cases e),fun k hk=>by
    obtain⟨k1,k2,k3⟩:=hD k (by simp [hk])
    exact⟨k1,k2,(World.putObj_heap_other fun e=>(List.nodup_cons.1 hm).1 (by rw[←e];exact hk)).trans k3⟩⟩}
theorem I7 {fn:Func} {R:Ending->World->Prop} (hmk:C.mks=true) (abg:C.defs=[]) (hlo:C.w0.heap.size≤C.lo):∀(ms:List Nat) (a:Act) (w:World),a.defers=ms.map rF++C.defs->ms.Nodup->(∀k∈ms,C.lo≤k∧F k∧w.heap[k]?=some (.deferred (some [])))->aD C s a w ρ F->
  (∀w',aD C s {a with defers:=[]} w' ρ F->∃y,(results fn a.tmps).run C.P w'=.ok y w'∧R (.returned y) w')->LeavesInM Fence.wide 9 C.P fn a.tmps R a.defers .returning w:=by
 intro ms
 induction ms with
 | nil=>
  intro a w he _ _ h k
  rw[abg] at he
  rw[he]
  have ha:({a with defers:=[]}:Act)=a:=by cases a;simp at he;subst he;rfl
  exact k w (by rw[ha];exact h)
 | cons D ms ih=>
  intro a w he hnd hD h k
  rw[he]
  refine⟨by simp, .inl ⟨D,_,rfl,run_takeDeferred (hD D (by simp)).2.2,?_⟩⟩
  have h2:=h.take hnd hmk hlo hD
  exact ih {a with defers:=ms.map rF++C.defs} _ rfl (List.nodup_cons.1 hnd).2 (fun j hj=>by
   obtain⟨k1,k2,k3⟩:=hD j (by simp [hj])
   exact⟨k1,k2,(World.putObj_heap_other fun e=>(List.nodup_cons.1 hnd).1 (by rw[←e];exact hj)).trans k3⟩) h2 k
theorem aI.intro {P:Pg} {f:FuncId} {fn:Func} {c:Code} {args:List V} {H:List Ch} {r:V} {H':List Ch} (hf:P.P.funcs[f]?=some fn) (hb:fn.body=some c) (hname:(fn.name == "runtime.NumGoroutine")=false)
  (hg:bP P.P g.tys) (hn:g.n=fn.ntmps) {rs:List ResultVar} (hrs:fn.results=rs.toArray) (hlen:Nat.ble args.length g.n=true) (hfr:aL args H H.length=true) (wO:aL [r] H' H'.length=true) (hfx:Nat.ble g.fix H.length=true) (hHH:Nat.ble H.length H'.length=true)
  (ids:List Nat)
  (hgo:∀(C:Ctx),C.pg=P->g.n=C.n->g.fix=C.fix->C.defs=[]->C.rd=none->C.mks=true∧C.lo≤C.w0.heap.size->Go C [.code c] ⟨ixV 0 args,ixC 0 H,H.length⟩ (Ret g rs ids r H')):aI P f g.fix args H r H':=by
 refine⟨⟨fn,hf,by rw[hb];rfl,hname⟩,hfr,wO,by simpa using hfx,by simpa using hHH,fun w F ρ vals hF hE hH hargs=>?_⟩
 have UY:g.fix≤H.length:=by simpa using hfx
 have hlen':args.length≤g.n:=by simpa using hlen
 have hvl:=hargs.length
 simp only[aL,adg,List.all_eq_true] at hfr
 let C:Ctx:={P:=P.P,env:=P.env,n:=g.n,w0:=w,E:=ownB ρ H,F0:=F,ρ0:=ρ,fix:=g.fix,defs:=[],mks:=true,lo:=w.heap.size}
 refine callsIn_wide.1 (callsIn_of_wp_marks (n:=9) hf hb tR ?_)
 have UZ:Sat C ⟨ixV 0 args,ixC 0 H,H.length⟩ {tmps:=vals.toArray++Array.replicate (fn.ntmps-vals.toArray.size) undef,defers:=[]} w:=by
  refine⟨ρ,F,{size:=?_,defers:=.start rfl,slot:=?_,ch:=?_,sep:=?_,out:=?_,aP:=?_,aJ:=?_,lt:=hF,mine:=?_,sub:=fun k hk=>.inl hk,base:=fun _ hk=>hk,bU:=⟨UY,fun _ _=>rfl⟩,keep:=⟨rfl,rfl,rfl,Nat.le_refl _,fun _ _ _=>rfl⟩,env:=hE}⟩
  ·simp only[Array.size_append,List.size_toArray,Array.size_replicate]
   show _=g.n
   omega
  ·intro t v hv
   obtain⟨_,hv⟩:=rT hv
   obtain⟨x,hx,hr⟩:=hargs.get hv
   refine⟨x,?_,gV hr⟩
   simp only[Nat.sub_zero] at hx
   have:t<vals.length:=(List.getElem?_eq_some_iff.1 hx).1
   rw[Array.getElem?_append_left (by simpa using this)]
   simpa using hx
  ·intro i c hc
   obtain⟨_,hc⟩:=eH hc
   exact hH.ch i c (by simpa using hc)
  ·intro i j ci cj b hi hj hij e
   obtain⟨_,hi⟩:=eH hi
   obtain⟨_,hj⟩:=eH hj
   exact fun e2=>hH.sep i j b (by simpa using (List.getElem?_eq_some_iff.1 hi).1) (by simpa using (List.getElem?_eq_some_iff.1 hj).1) hij (dz (hfr.2 ci (List.mem_of_getElem? hi)).2 e) (dz (hfr.2 cj (List.mem_of_getElem? hj)).2 e2)
  ·intro i ci b hi e
   obtain⟨_,hi⟩:=eH hi
   exact hH.out i b (by simpa using (List.getElem?_eq_some_iff.1 hi).1) (dz (hfr.2 ci (List.mem_of_getElem? hi)).2 e)
  ·intro t v hv
   obtain⟨_,hv⟩:=rT hv
   obtain⟨x,hx,hr⟩:=hargs.get hv
   have:=hfr.1 v (List.mem_of_getElem? hv)
   cases v<;>first | exact this | exact (show False from hr).elim
  ·intro i ci hi
   obtain⟨_,hi⟩:=eH hi
   exact⟨by simpa using (List.getElem?_eq_some_iff.1 hi).1,(hfr.2 ci (List.mem_of_getElem? hi)).1⟩
  ·intro i ci b hi e
   obtain⟨_,hi⟩:=eH hi
   exact .inr ⟨i,by simpa using (List.getElem?_eq_some_iff.1 hi).1,dz (hfr.2 ci (List.mem_of_getElem? hi)).2 e⟩
 refine wpIn_mono (show Code.wpIn Fence.wide 9 P.P c _ _ w from hgo C rfl rfl rfl rfl rfl ⟨rfl,Nat.le_refl _⟩ _ _ UZ) ?_
 rintro e a' w' ⟨s',⟨ρ',F',h'⟩,he,hr,hH',hok⟩
 have key:bodyPostM Fence.wide 9 P.P fn (Post w F ρ g.fix H r H') .ret a' w':=by
  obtain⟨ms,m1,m2,_,m4⟩:=h'.defers
  refine I7 (C:=C) rfl rfl (Nat.le_refl _) ms a' w' m1 m2 m4 h' ?_
  clear h' m1 m2 m4
  intro w' h'
  cases hres:gB g s' rs with
  | none=>rw[hres] at hr;exact hr.elim
  | some r0=>
   rw[hres] at hr
   obtain⟨y,h1,h2⟩:=GZ (C:=C) hg h' hrs hres
   simp only[UW,adg] at hok
   obtain⟨⟨o1,o2⟩,o3⟩:=hok
   have o1:=ado o1
   have hy:=wh hr h1
   simp only[aL,adg,List.all_eq_true] at wO
   have U0:∀i,i<H'.length->ρ' (nth ids i)=(fun i=>ρ' (nth ids i)) i:=fun _ _=>rfl
   have hex:∀i,i<H'.length->∃c,H'[i]?=some c∧∃c0,(nth ids i,c0)∈s'.H∧lS c0 (c.map (bZ ids)):=fun i hi=>by
    obtain⟨c0,k1,k2⟩:=mZ o1 hH' (adh hi)
    exact⟨_,adh hi,c0,k1,k2⟩
   refine⟨y,h2,y,fun i=>ρ' (nth ids i),F',rfl,h'.keep,?_,fun k hk=>?_,h'.lt,h'.sub,?_,?_,?_⟩
   ·intro i hi
    show ρ' (nth ids i)=ρ i
    rw[Aw o3 i hi,Nat.zero_add]
    exact h'.bU.2 i hi
   ·exact h'.base k hk
   ·exact R3.dJ U0 (wO.1 r (by simp)) hy
   ·refine⟨fun i c hc=>?_,fun i j b hi hj hij e=>?_,fun i b hi e=>?_⟩
    ·have hi:=(List.getElem?_eq_some_iff.1 hc).1
     obtain⟨c',hc',c0,k1,k2⟩:=hex i hi
     rw[hc] at hc'
     obtain rfl:=adl hc'
     exact iG.dJ U0 hi (wO.2 c (List.mem_of_getElem? hc)).1 (iK k2 (h'.ch _ _ k1))
    ·obtain⟨_,_,c0,k1,_⟩:=hex i hi
     obtain⟨_,_,c1,k3,_⟩:=hex j hj
     exact fun e2=>h'.sep _ _ c0 c1 b k1 k3 (gG o2 i j (by omega) (by omega) hij) (aR e) (aR e2)
    ·obtain⟨_,_,c0,k1,_⟩:=hex i hi
     exact h'.out _ c0 b k1 (aR e)
   ·intro i b hi e
    obtain⟨_,_,c0,k1,_⟩:=hex i hi
    exact h'.mine _ c0 b k1 (aR e)
 rcases he with rfl | rfl
 ·exact key
 ·exact key
end
end Go.Sx
