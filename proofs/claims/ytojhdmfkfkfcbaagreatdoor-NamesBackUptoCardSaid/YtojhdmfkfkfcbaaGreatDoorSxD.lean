import Derived.Test.YtojhdmfkfkfcbaaGreatDoorSxC
import Derived.Test.YtojhdmfkfkfcbaaGreatDoorSxA
import Derived.Deep.LoopGhost
import Derived.RangeFuncLeaves
set_option maxHeartbeats 1000000000
set_option linter.unusedSimpArgs false
set_option linter.unusedVariables false
namespace Go.Sx
section
variable{C:Ctx}{s s':St}{a:Act}{w w':World}{ρ:Nat->Value}{F:Nat->Prop}{g:Cfg}
theorem Fx(h:aF C s a w ρ F){y:V}{sz n:Nat}{f:Nat->List D}{vy:Value}(hp:parts s.H y=some (sz,n,f))(hy:R3 ρ F w y vy) :
  (∃cap,vy=.slice none 0 cap∧n=0)∨∃ad cap news,vy=.slice (some ad) n cap∧news.length=n*sz∧(∀j u,news[j]?=some u->w.cell? (ad.add j)=some u)∧(∀u∈news,u.oneCell'=true)∧iZ F w sz n f news:=by
 rcases L8 h hp hy with⟨ad,cap,rfl,rfl⟩ | ⟨b,o,cap,cs,rfl,hn,hlen,hc⟩
 ·cases ad with
  | none=>exact .inl ⟨cap,rfl,rfl⟩
  | some ad=>exact .inr ⟨ad,cap,[],rfl,by simp,by simp,by simp,λi hi=>by omega⟩
 ·have aev:∀j u,((List.range (n*sz)).map λk=>cs (k/sz) (k%sz))[j]?=some u->w.cell? ⟨b,o+j,none⟩=some u∧u.oneCell'=true:=by
   intro j u hj
   rw[List.getElem?_map,Option.map_eq_some_iff] at hj
   obtain⟨k,hk,rfl⟩:=hj
   have hlt:j<n*sz:=by simpa using (List.getElem?_eq_some_iff.1 hk).1
   rw[List.getElem?_range hlt] at hk
   obtain rfl:=agS hk
   have hpos:0<sz:=by
    rcases Nat.eq_zero_or_pos sz with e0 | hp
    ·rw[e0] at hlt;omega
    ·exact hp
   have hi:j/sz<n:=(Nat.div_lt_iff_lt_mul hpos).2 hlt
   have hm:j%sz<(f (j/sz)).length:=by rw[hlen _ hi];exact Nat.mod_lt _ hpos
   obtain⟨h1,h2⟩:=hc (j/sz) (j%sz) _ hi (agO hm)
   have e:j/sz*sz+j%sz=j:=Nat.div_add_mod' j sz
   rw[e] at h1
   exact⟨h1,h2.one⟩
  refine .inr ⟨⟨b,o,none⟩,cap,(List.range (n*sz)).map λk=>cs (k/sz) (k%sz),Z,by simp,λj u hj=>?_,λu hu=>?_,λi hi=>?_⟩
  ·have:=aev j u hj
   rw[Addr.add_lit];exact this.1
  ·obtain⟨j,hj⟩:=List.getElem?_of_mem hu
   exact (aev j u hj).2
  ·refine⟨hlen i hi,λj d hj=>?_⟩
   have hj':j<sz:=by rw[←hlen i hi];exact (List.getElem?_eq_some_iff.1 hj).1
   obtain⟨h1,h2⟩:=hc i j d hi hj
   refine⟨cs i j,?_,h2⟩
   have hlt:i*sz+j<n*sz:=by
    have:=Nat.mul_le_mul_right sz (show i+1≤n by omega)
    rw[Nat.add_mul,Nat.one_mul] at this
    omega
   have hpos:0<sz:=by omega
   have e1:(i*sz+j)/sz=i:=by rw[Nat.mul_comm,Nat.mul_add_div hpos,Nat.div_eq_of_lt hj'];rfl
   have e2:(i*sz+j)%sz=j:=by rw[Nat.mul_comm,Nat.mul_add_mod,Nat.mod_eq_of_lt hj']
   rw[List.getElem?_map,List.getElem?_range hlt]
   simp [e1,e2]
theorem UL{sz n m:Nat}{f h:Nat->List D}{xs news:List Value}(hx:iZ F w sz n f xs)(hxl:xs.length=n*sz)(hn:iZ F w sz m h news):iZ F w sz (n+m) (app n f h) (xs++news):=by
 intro i hi
 unfold app
 by_cases hin:i<n
 ·rw[jI hin]
  obtain⟨h1,h2⟩:=hx i hin
  refine⟨h1,λj d hj=>?_⟩
  obtain⟨c,c1,c2⟩:=h2 j d hj
  exact⟨c,by rw[List.getElem?_append_left (List.getElem?_eq_some_iff.1 c1).1];exact c1,c2⟩
 ·rw[jJ hin]
  obtain⟨h1,h2⟩:=hn (i-n) (by omega)
  refine⟨h1,λj d hj=>?_⟩
  obtain⟨c,c1,c2⟩:=h2 j d hj
  refine⟨c,?_,c2⟩
  have e:i*sz=n*sz+(i-n)*sz:=by rw[←Nat.add_mul];congr 1;omega
  rw[List.getElem?_append_right (by omega),hxl,←c1]
  congr 1;omega
theorem vO{P:Program}{t ty e:TypeId}{te:TI}(hu:P.underlying t=some (.slice e))(hte:te.OK P e){sz:Nat}{v:Value}{n:Nat}{xs:List Value}(hown:w.ownsRow 0 e sz v n xs)(cap:Nat) :
  (Builtin.append_ #[t,t] ty #[v,.slice none 0 cap]).run P w=.ok v w:=by
 obtain⟨i,z,h1,_⟩:=hte.info
 rcases hown.2 with⟨rfl,rfl⟩ | ⟨g,c,cur,rfl,_,_,hnc,_⟩
 ·simp [Builtin.append_,aP hu,sizeOf,typeInfo,h1,Builtin.lenOf,Builtin.firstCells]
 ·simp [Builtin.append_,aP hu,sizeOf,typeInfo,h1,Builtin.lenOf,Builtin.firstCells,hnc,storeCells]
theorem Fy{P:Program}{t ty e:TypeId}{te:TI}(hu:P.underlying t=some (.slice e))(hte:te.OK P e)(hsz:0<te.size)
  {v:Value} {n:Nat} {xs:List Value} (hown:w.ownsRow 0 e te.size v n xs) {ad:Addr} {m c:Nat} {news:List Value} (hl:news.length=m*te.size) (hnews:∀j u,news[j]?=some u->w.cell? (ad.add j)=some u) (h1:∀u∈news,u.oneCell'=true)
  (hb1:(n+m)*te.bytes≤big) (hb2:n+m≤big) :
  ∃v' w',(Builtin.append_ #[t,t] ty #[v,.slice (some ad) m c]).run P w=.ok v' w'∧w'.ownsRow 0 e te.size v' (n+m) (xs++news)∧w.grownBy w' v.ownBlock∧∀b,blk v'=some b->w.heap.size≤b∨blk v=some b:=by
 obtain⟨i,z,i1,i2,i3,i4,i5,_⟩:=hte.info
 unfold big at hb1 hb2
 have h63:n+m≤maxLen:=by simp only[maxLen];omega
 obtain⟨v',w',r1,r2,r3,_⟩:=run_append_own (P:=P) w 0 t ty e i z te.size te.bytes hu i1 i4 i2 i3 i5 hsz v n xs hown ad m c news hl hnews h1 h63 hb1 (Nat.zero_le _)
 refine⟨v',w',r1,r2,r3,λb hb=>?_⟩
 rcases hown.2 with⟨rfl,rfl⟩ | ⟨gg,cap,cur,rfl,_,hg,hnc,hcm,hcs,htake⟩
 ·by_cases hm:m=0
  ·subst hm
   have hn:news=[]:=List.eq_nil_of_length_eq_zero (by simpa using hl)
   subst hn
   have:(Builtin.append_ #[t,t] ty #[.slice none 0 0,.slice (some ad) 0 c]).run P w=.ok (.slice none 0 0) w:=by
    simp [Builtin.append_,aP hu,sizeOf,typeInfo,i1,Builtin.lenOf,Builtin.firstCells,loadCells,loadCellsFrom]
   rw[this] at r1
   simp only[Result.ok.injEq] at r1
   rw[←r1.1] at hb
   simp [blk] at hb
  ·have hr:=run_append_nil (P:=P) w t ty e i z hu i1 i4 ad m c news (by rw[hl,i2]) hnews (by omega) (by simp only[maxLen] at h63;omega) (by rw[i3];simp only[Nat.zero_add] at hb1;omega)
   rw[hr] at r1
   simp only[Result.ok.injEq] at r1
   rw[←r1.1] at hb
   simp only[blk,agR] at hb
   exact .inl (by omega)
 ·by_cases hroom:n+m≤cap
  ·have hfit:n*i.size+news.length≤cur.size:=by rw[hl,hcs,i2,←Nat.add_mul];exact Nat.mul_le_mul_right _ hroom
   have hr:=run_append_room (P:=P) w t ty e i hu i1 gg n cap cur hg ad m c news (by rw[hl,i2]) hnews h1 hroom hfit
   rw[hr] at r1
   simp only[Result.ok.injEq] at r1
   rw[←r1.1] at hb
   exact .inr hb
  ·have holds:∀j u,xs[j]?=some u->w.cell? ((⟨gg,0,none⟩:Addr).add j)=some u:=hown.cells (g:=gg) Z
   have hr:=run_append_grow (P:=P) w t ty e i z hu i1 i4 ⟨gg,0,none⟩ n cap xs (by rw[hown.1,i2]) holds ad m c news (by rw[hl,i2]) hnews (by omega) (by simp only[maxLen] at h63;omega) (growslice_fits (by omega) (by rw[i3];exact hb1))
   rw[hr] at r1
   simp only[Result.ok.injEq] at r1
   rw[←r1.1] at hb
   simp only[blk,agR] at hb
   exact .inl (by omega)
theorem UM(hg:bV C.P g.tys)(hfx:g.fix=C.fix)(h:aF C s a w ρ F){d:Nat}(hd:d<C.n){t t' ty:TypeId}{x y:V}{vx vy:Value}{ob:List Prop}(he:acW g s d t t' x y=some (s',ob))(hob:ak ob)(hx:R3 ρ F w x vx)(hy:R3 ρ F w y vy) :
  ∃r w',(Builtin.append_ #[t,t'] ty #[vx,vy]).run C.P w=.ok r w'∧Sat C s' (a.put (some d) r) w':=by
 unfold acW at he
 cases htt:Nat.beq t t' with
 | false=>rw[htt] at he;simp at he
 | true=>
  rw[htt] at he
  simp only[cond_true] at he
  have htt:=agU htt
  subst htt
  split at he
  ·simp at he
  ·rename_i e te hse
   obtain⟨hu,hte,_⟩:=ow hg hse
   split at he
   ·
    split at he
    ·rename_i sz m hh hp
     cases hc:(Nat.beq sz te.size&&Nat.ble 1 sz) with
     | false=>rw[hc] at he;simp at he
     | true=>
      rw[hc] at he
      simp only[cond_true] at he
      simp only[agN] at hc
      have hsz:=agU hc.1
      have hpos:1≤sz:=by simpa using hc.2
      subst hsz
      obtain⟨rfl,rfl⟩:=Prod.mk.inj (agS he)
      obtain⟨b1,b2⟩:=hob
      have hvx:vx=.slice none 0 0:=hx
      subst hvx
      have hnil:=World.ownsRow_nil w 0 e te.size
      rcases Fx h hp hy with⟨cap,rfl,rfl⟩ | ⟨ad,cap,news,rfl,n1,n2,n3,n4⟩
      ·exact⟨_,_,vO hu hte hnil cap,h.row (xs:=[]) hd ⟨Z,Z,Z,Nat.le_refl _,λ_ _ _=>rfl⟩ (λb hb=>by simp [blk] at hb) ⟨_,_,_,Z⟩ hnil (λi hi=>by omega)⟩
      ·obtain⟨v',w',r1,r2,r3,r4⟩:=Fy (ty:=ty) hu hte hpos hnil n1 n2 n3 (by rw[Nat.zero_add];exact b1) (by rw[Nat.zero_add];exact b2)
       rw[Nat.zero_add,List.nil_append] at r2
       have hm:Mod none w w':=Mod.Fq r3
       refine⟨v',w',r1,h.row hd hm (λb hb=>?_) ?_ r2 (n4.keep (λ_=>_root_.id) λk hk=>hm.block k (h.lt k hk) (by simp))⟩
       ·rcases r4 b hb with h1 | h1
        ·exact h1
        ·simp [blk] at h1
       ·rcases r2.2 with⟨e1,_⟩ | ⟨_,_,_,e1,_⟩<;>exact⟨_,_,_,e1⟩
    ·simp at he
   ·
    rename_i id
    split at he
    ·rename_i e' sz n f hgH
     obtain⟨xs,hown,hel⟩:=h.ch id _ (get_mem hgH)
     have hvx:vx=ρ id:=(show R0 ρ F w (.own id) vx from hx).1
     have hlt:=(h.aK id _ (get_mem hgH)).1
     split at he
     ·cases hc:(Nat.beq e e'&&Nat.beq sz te.size) with
      | false=>rw[hc] at he;simp at he
      | true=>
       rw[hc] at he
       simp only[cond_true] at he
       simp only[agN] at hc
       have h1:=agU hc.1
       have h2:=agU hc.2
       subst h1 h2
       obtain⟨rfl,rfl⟩:=Prod.mk.inj (agS he)
       have hvy:vy=.slice none 0 0:=hy
       subst hvy
       refine⟨vx,w,?_,ρ,F,h.put hd hx (by show Nat.blt id s.m=true;simpa using hlt)⟩
       rw[hvx];exact vO hu hte hown 0
     ·split at he
      ·rename_i sz' m hh hp
       cases hc:(Nat.beq e e'&&Nat.beq sz te.size&&Nat.beq sz' sz&&Nat.ble 1 sz&&!(names id y)&&Nat.ble g.fix id) with
       | false=>rw[hc] at he;simp at he
       | true=>
        rw[hc] at he
        simp only[cond_true] at he
        simp only[agN,agZ] at hc
        obtain⟨⟨⟨⟨⟨c1,c2⟩,c3⟩,c4⟩,c5⟩,c6⟩:=hc
        have h1:=agU c1
        have h2:=agU c2
        have h3:=agU c3
        have hpos:1≤sz:=by simpa using c4
        subst h1 h2 h3
        obtain⟨rfl,rfl⟩:=Prod.mk.inj (agS he)
        obtain⟨b1,b2⟩:=hob
        subst hvx
        have hH:∀{v':Value} {w':World},Mod (blk (ρ id)) w w'->(∀b,blk v'=some b->w.heap.size≤b∨blk (ρ id)=some b)->(∃news,w'.ownsRow 0 e te.size v' (n+m) (xs++news)∧iZ F w te.size m hh news)->(∃ad l c,v'=.slice ad l c)->
          Sat C {L:=put (tH (kill id) s.L) d (.own id),H:=(id,.vec e te.size (n+m) (app n f hh))::qB (kill id) (nM id s.H),m:=s.m} (a.put (some d) v') w':=by
         rintro v' w' hm hbl ⟨news,o1,o2⟩ hsl
         have hwF:∀k,F k->w'.heap[k]?=w.heap[k]?:=λk hk=>hm.block k (h.lt k hk) (λe=>h.out id _ k (get_mem hgH) e.symm hk)
         refine⟨_,_,(h.move (get_mem hgH) (by rw[←hfx];simpa using c6) hm (x:=v') hbl (c':=.vec e te.size (n+m) (app n f hh)) ⟨xs++news,by rw[upd_same];exact o1,?_⟩ Z).put hd ⟨(upd_same ρ id v').symm,by rw[upd_same];exact .inl hsl⟩ (by show Nat.blt id s.m=true;simpa using hlt)⟩
         exact (UL hel hown.1 o2).keep (λ_=>_root_.id) hwF
        rcases Fx h hp hy with⟨cap,rfl,rfl⟩ | ⟨ad,cap,news,rfl,n1,n2,n3,n4⟩
        ·refine⟨_,_,vO hu hte hown cap,hH ⟨Z,Z,Z,Nat.le_refl _,λ_ _ _=>rfl⟩ (λb hb=>.inr hb) ⟨[],by simpa using hown,λi hi=>by omega⟩ ?_⟩
         rcases hown.2 with⟨e1,_⟩ | ⟨_,_,_,e1,_⟩<;>exact⟨_,_,_,e1⟩
        ·obtain⟨v',w',r1,r2,r3,r4⟩:=Fy (ty:=ty) hu hte hpos hown n1 n2 n3 b1 b2
         refine⟨v',w',r1,hH ?_ r4 ⟨news,r2,n4⟩ ?_⟩
         ·have e1:blk (ρ id)=(ρ id).ownBlock:=by
           rcases hown.2 with⟨e1,_⟩ | ⟨_,_,_,e1,_⟩<;>rw[e1]<;>rfl
          rw[e1];exact Mod.Fq r3
         ·rcases r2.2 with⟨e1,_⟩ | ⟨_,_,_,e1,_⟩<;>exact⟨_,_,_,e1⟩
      ·simp at he
    ·simp at he
   ·simp at he
theorem aH.app{α β:Type}{R:α->β->Prop}:∀{as cs:List α} {bs ds:List β},aH R as bs->aH R cs ds->aH R (as++cs) (bs++ds)
 | [],_,[],_,_,h=>h
 | _::_,_,_::_,_,h1,h2=>⟨h1.1,aH.app h1.2 h2⟩
 | [],_,_::_,_,h,_=>h.elim
 | _::_,_,[],_,h,_=>h.elim
theorem DI(k:Key):∀{es:List (Key×V)} {l:List MapEntry},tL k es->mW k es=true->aH (λe x=>x.key=dO e.1∧R2 ρ F w e.2 x.val) es l->∀i,Instr.findNow (lV k) (dO k) l i=some none
 | [],[],_,_,_,i=>rfl
 | [],_::_,_,_,h,_=>h.elim
 | _::_,[],_,_,h,_=>h.elim
 | (a,v)::es,x::l,hk,hok,⟨⟨h1,h2⟩,h3⟩,i=>by
  simp only[mW,agN] at hok
  simp only at h1
  unfold Instr.findNow
  rw[h1,Dy hok.1]
  simp only[hk.1,decide_false]
  exact DI k hk.2 hok.2 h3 (i+1)
theorem Mq:∀{i:Nat} {l:List BY} {s:BY},yB i (l++[s])=yB i l++[(.string s,.int .i64 ((i+l.length:Nat):Int))]
 | i,[],s=>rfl
 | i,a::l,s=>by
  show (Value.string a,Value.int .i64 (i:Int))::yB (i+1) (l++[s])=_
  rw[Mq]
  show _=(Value.string a,Value.int .i64 (i:Int))::(yB (i+1) l++_)
  rw[show i+(a::l).length=i+1+l.length by simp only[List.length_cons];omega]
theorem Jl(hg:bV C.P g.tys)(h:aF C s a w ρ F){t:TypeId}{id:Nat}{kv v:V}{vm vk vx:Value}{ob:List Prop}(he:aaB g s t id kv v=some (s',ob))(hob:ak ob)(hm:R3 ρ F w (.own id) vm)(hk:R3 ρ F w kv vk)(hv:R3 ρ F w v vx)(hvf:v.aQ (fresh s.m)=true) :
  ∃w',(Instr.mapUpdate t vm vk vx).run C.P w=.ok () w'∧aF C s' a w' ρ F:=by
 unfold aaB at he
 split at he
 ·rename_i ti es hti hget
  split at he
  ·rename_i kt et hkind
   split at he
   ·rename_i tk htk
    split at he
    ·rename_i key hk1
     cases h1:(is1 v&&mW key es) with
     | false=>rw[h1] at he;simp at he
     | true=>
      rw[h1] at he
      simp only[cond_true] at he
      obtain⟨rfl,rfl⟩:=Prod.mk.inj (agS he)
      have hu:=(bS hg hti).und
      rw[hkind] at hu
      simp only[agN] at h1
      obtain⟨h1,hks⟩:=h1
      obtain⟨rfl,huk⟩:=Dz hk1 hk (bS hg htk) Z
      obtain⟨rfl,_⟩:=(show R0 ρ F w (.own id) vm from hm)
      obtain⟨b,arr,clock,e1,e2,e3⟩:=h.ch _ _ (get_mem hget)
      have hob:tL key es:=hob
      have hblt:b<w.heap.size:=(Array.getElem?_eq_some_iff.1 e2).1
      have hf:=DI (ρ:=ρ) (F:=F) (w:=w) key hob hks e3 0
      have hv1:R2 ρ F w v vx:=by cases v<;>first | exact hv | simp [is1] at h1
      have hv2:v.all2 (fresh s.m)=true:=by cases v<;>first | exact hvf | simp [is1] at h1
      let o:Obj:=.map (arr.push {key:=dO key,val:=vx,born:=clock}) (clock+1)
      have hmod:Mod (blk (ρ id)) w {w with heap:=w.heap.setIfInBounds b o}:=by
       rw[e1]
       exact⟨Z,Z,Z,by simp,λk _ hk=>by
        have:k≠b:=λe=>hk (by rw[e];rfl)
        simp [Array.getElem?_setIfInBounds,Ne.symm this]⟩
      have XE:∀u y,u.all2 (fresh s.m)=true->R2 ρ F w u y->R2 ρ F {w with heap:=w.heap.setIfInBounds b o} u y:=λu y hu hr=>by
       have hwF:∀k,F k->(w.heap.setIfInBounds b o)[k]?=w.heap[k]?:=λk hk=>hmod.block k (h.lt k hk) (λe=>h.out id _ k (get_mem hget) (show blk (ρ id)=some k from e.symm) hk)
       have:=R2.map (p:=fresh s.m) (k:=λu=>u) (λu v hu hr=>hr.keep (x:=s.m) (ρ':=ρ) (F':=F) (w':={w with heap:=w.heap.setIfInBounds b o}) (λ_ _=>rfl) (λ_=>_root_.id) hwF (jH (Nat.le_refl _) hu)) hu hr
       rwa [Ak] at this
      have hfr:=(h.aK _ _ (get_mem hget)).2
      simp only[Ch.all,List.all_eq_true] at hfr
      refine⟨{w with heap:=w.heap.setIfInBounds b o},?_,h.touch (get_mem hget) hmod (c':=.tbl (es++[(key,v)])) ⟨b,_,_,e1,(MapKept.heap_set e2).1,?_⟩ ?_⟩
      ·have h1:=MapKept.run_checkKey (P:=C.P) (w:=w) huk (k:=dO key) (BU key) false 9999
       have h2:=MapKept.run_findKey (P:=C.P) (w:=w) huk hf
       rw[e1]
       simp only[Instr.mapUpdate,Sem.run_bind,aP hu,Result.andThen,MapKept.run_getObj_map e2,h1,h2,MapKept.run_setObj_map _ e2]
       rfl
      ·rw[Array.toList_push]
       refine aH.app ?_ ⟨⟨Z,XE v vx hv2 hv1⟩,tR⟩
       have:∀{es:List (Key×V)} {l:List MapEntry},(∀e∈es,e.2.all2 (fresh s.m)=true)->aH (λe x=>x.key=dO e.1∧R2 ρ F w e.2 x.val) es l->aH (λe x=>x.key=dO e.1∧R2 ρ F {w with heap:=w.heap.setIfInBounds b o} e.2 x.val) es l:=by
        intro es
        induction es with
        | nil=>intro l _ h;cases l<;>first | trivial | exact h.elim
        | cons e es ih=>
         intro l hf h
         cases l with
         | nil=>exact h.elim
         | cons x l=>exact⟨⟨h.1.1,XE _ _ (hf e (by simp)) h.1.2⟩,ih (λe he=>hf e (by simp [he])) h.2⟩
       exact this hfr e3
      ·simp only[Ch.all,List.all_append,List.all_cons,List.all_nil,Bool.and_true,agN,List.all_eq_true]
       exact⟨hfr,hv2⟩
    ·simp at he
   ·simp at he
  ·simp at he
 ·rename_i ti l hti hget
  split at he
  ·rename_i kt et kk n hkind
   split at he
   ·rename_i tk htk
    split at he
    ·rename_i hks
     obtain⟨rfl,rfl⟩:=Prod.mk.inj (agS he)
     have hu:=(bS hg hti).und
     rw[hkind] at hu
     have huk:=(bS hg htk).und
     rw[hks] at huk
     obtain⟨aew,hob2⟩:posB l kk=false∧n=(l.length:Int):=hob
     subst hob2
     cases (show RD F w _ vk from hk)
     cases (show RD F w _ vx from hv)
     obtain⟨rfl,_⟩:=(show R0 ρ F w (.own id) vm from hm)
     obtain⟨b,arr,clock,e1,e2,e3⟩:=h.ch _ _ (get_mem hget)
     have hblt:b<w.heap.size:=(Array.getElem?_eq_some_iff.1 e2).1
     have hf:Instr.findNow (lV (.inl kk.data.toList)) (dO (.inl kk.data.toList)) arr.toList 0=some none:=by
      rcases nO (ρ:=ρ) (F:=F) (w:=w) (.inl kk.data.toList) 0 (Kt _ 0 l) (BZ e3) with⟨_,f2⟩ | ⟨v',j,x,f1,_,_⟩
      ·exact f2
      ·rw[xH] at f1
       rw[posB] at aew
       cases hp:vC 0 l kk<;>simp [hp] at aew f1
     have aex:Value.string kk=dO (.inl kk.data.toList):=by show _=Value.string ⟨_⟩;rw[rW]
     let o:Obj:=.map (arr.push {key:=dO (.inl kk.data.toList),val:=.int .i64 (l.length:Int),born:=clock}) (clock+1)
     have hmod:Mod (blk (ρ id)) w {w with heap:=w.heap.setIfInBounds b o}:=by
      rw[e1]
      exact⟨Z,Z,Z,by simp,λk _ hk=>by
       have:k≠b:=λe=>hk (by rw[e];rfl)
       simp [Array.getElem?_setIfInBounds,Ne.symm this]⟩
     refine⟨{w with heap:=w.heap.setIfInBounds b o},?_,h.touch (get_mem hget) hmod (c':=.pos (l++[kk])) ⟨b,_,_,e1,(MapKept.heap_set e2).1,?_⟩ Z⟩
     ·have h1:=MapKept.run_checkKey (P:=C.P) (w:=w) huk (k:=dO (.inl kk.data.toList)) (BU (.inl kk.data.toList)) false 9999
      have h2:=MapKept.run_findKey (P:=C.P) (w:=w) huk hf
      rw[e1,aex]
      simp only[Instr.mapUpdate,Sem.run_bind,aP hu,Result.andThen,MapKept.run_getObj_map e2,h1,h2,MapKept.run_setObj_map _ e2]
      rfl
     ·rw[Array.toList_push,List.map_append,e3,Mq,Nat.zero_add,aex];rfl
    ·simp at he
   ·simp at he
  ·simp at he
 ·simp at he
theorem XF(hg:bV C.P g.tys)(hn:g.n=C.n)(hfx:g.fix=C.fix)(h:aF C s a w ρ F){o:Oper}{ob:List Prop}(he:efE g s o.dst o.op=some (s',ob))(hob:ak ob) :
  ∃x w',((execOp a.eval o).run C.P w=.ok (.value x) w'∨((execOp a.eval o).run C.P w=.ok .skip w'∧x=undef))∧Sat C s' (a.put o.dst x) w':=by
 obtain⟨dst,op,ty,pos,after,guard⟩:=o
 dsimp only at he
 unfold efE at he
 split at he
 ·
  rename_i t x
  split at he
  ·rename_i d v hv
   split at he
   ·rename_i us hus
    cases hd:Nat.blt d g.n with
    | false=>rw[hd] at he;simp at he
    | true=>
     rw[hd] at he
     simp only[cond_true] at he
     obtain⟨rfl,rfl⟩:=Prod.mk.inj (agS he)
     obtain⟨h1,h2⟩:=aC h (dn _) hv
     obtain⟨h3,h4⟩:=rz hus h1 h2
     refine⟨_,_,.inl ?_,Jj (T:=t) h (by rw[←hn];simpa using hd) h3 h4⟩
     simp [execOp,Instr.box,newVar,newRow,newObj,Sem.run]
   ·simp at he
  ·simp at he
 ·
  rename_i t
  split at he
  ·rename_i d ti hl
   cases hd:Nat.blt d g.n with
   | false=>rw[hd] at he;simp at he
   | true=>
    rw[hd] at he
    simp only[cond_true] at he
    obtain⟨x,w',h1,h2⟩:=Ml hg hn h hl (by rw[←hn];simpa using hd) he
    exact⟨x,w',.inl (by simp only[execOp];exact uY h1),h2⟩
  ·simp at he
 ·
  rename_i t p x
  split at he
  ·rename_i u v hu hv
   obtain⟨h1,_⟩:=aC h (dn _) hu
   obtain⟨h3,h4⟩:=aC h (dn _) hv
   obtain⟨w',r1,r2⟩:=XB hg h he hob h1 h3 h4
   exact⟨undef,w',.inr ⟨by simp only[execOp,Sem.run_bind,r1];rfl,Z⟩,ρ,F,r2⟩
  ·simp at he
 ·
  rename_i t len ps
  split at he
  ·rename_i d e te qs hse hq
   split at he
   ·rename_i zs hzs
    split at he
    ·rename_i xs hxs
     cases hc:(Nat.blt d g.n&&Nat.ble (len*te.size) 16777216&&Nat.ble len 16777216&&Nat.beq zs.length te.size) with
     | false=>rw[hc] at he;simp at he
     | true=>
      rw[hc] at he
      simp only[cond_true] at he
      simp only[agN] at hc
      obtain⟨⟨⟨c1,c2⟩,c3⟩,c4⟩:=hc
      obtain⟨rfl,rfl⟩:=Prod.mk.inj (agS he)
      obtain⟨x,w',r1,r2⟩:=XC hg h (d:=d) (by rw[←hn];simpa using c1) hse hq hzs hxs (by simpa using c2) (by simpa using c3) (agU c4)
      exact⟨x,w',.inl (by simp only[execOp];exact uY r1),r2⟩
    ·simp at he
   ·simp at he
  ·simp at he
 ·
  rename_i t l c
  split at he
  ·rename_i d e te kl n kc k hse hl hc0
   split at he
   ·rename_i e' hsl
    split at he
    ·rename_i te' _
     cases hc:(Nat.blt d g.n&&Nat.beq te.size 1) with
     | false=>rw[hc] at he;simp at he
     | true=>
      rw[hc] at he
      simp only[cond_true] at he
      simp only[agN] at hc
      obtain⟨rfl,rfl⟩:=Prod.mk.inj (agS he)
      obtain⟨o1,o2,o3,o4⟩:=hob
      obtain⟨h1,_⟩:=aC h (dn _) hl
      obtain⟨h3,_⟩:=aC h (dn _) hc0
      generalize hel:a.eval l=vl at h1
      generalize hec:a.eval c=vc at h3
      cases (show RD F w _ _ from h1);cases (show RD F w _ _ from h3)
      obtain⟨x,w',r1,r2⟩:=aaD hg h (d:=d) (by rw[←hn];simpa using hc.1) te'.size hse hsl (agU hc.2) (kl:=kl) (kc:=kc) o1 o2 o3 o4
      exact⟨x,w',.inl (by simp only[execOp,hel,hec];exact uY r1),r2⟩
    ·simp at he
   split at he
   ·rename_i zs hzs
    cases hc:(Nat.blt d g.n&&Nat.beq zs.length te.size) with
    | false=>rw[hc] at he;simp at he
    | true=>
     rw[hc] at he
     simp only[cond_true] at he
     simp only[agN] at hc
     obtain⟨rfl,rfl⟩:=Prod.mk.inj (agS he)
     obtain⟨o1,o2,o3,o4⟩:=hob
     obtain⟨h1,_⟩:=aC h (dn _) hl
     obtain⟨h3,_⟩:=aC h (dn _) hc0
     generalize hel:a.eval l=vl at h1
     generalize hec:a.eval c=vc at h3
     cases (show RD F w _ _ from h1);cases (show RD F w _ _ from h3)
     obtain⟨x,w',r1,r2⟩:=XD hg h (d:=d) (by rw[←hn];simpa using hc.1) hse hzs (agU hc.2) (kl:=kl) (kc:=kc) o1 o2 o3 o4
     exact⟨x,w',.inl (by simp only[execOp,hel,hec];exact uY r1),r2⟩
   ·simp at he
  ·simp at he
 ·
  rename_i t x
  split at he
  ·rename_i d ti b hl hx
   split at he
   ·rename_i hk
    cases hd:Nat.blt d g.n with
    | false=>rw[hd] at he;simp at he
    | true=>
     rw[hd] at he
     simp only[cond_true] at he
     obtain⟨rfl,rfl⟩:=Prod.mk.inj (agS he)
     have hu:C.P.underlying t=some .string:=by have:=(bS hg hl).und;rw[hk] at this;exact this
     obtain⟨h1,_⟩:=aC h (dn _) hx
     generalize hex:a.eval x=vx at h1
     cases (show RD F w _ _ from h1)
     refine⟨_,_,.inl (by simp only[execOp,hex];exact uY (run_range_string w t b hu)),?_⟩
     exact h.make (by rw[←hn];simpa using hd) (Mod.alloc _ _) (λb hb=>by simp [blk] at hb;omega) (c:=.iter b 0) ⟨w.heap.size,upd_same _ _ _,heap_alloc_new w _⟩ Z (v:=.ptr s.m 0) ⟨w.heap.size,upd_same _ _ _,Z⟩ (by show Nat.blt s.m (s.m+1)=true;simp)
   ·simp at he
  ·simp at he
 ·
  rename_i t
  split at he
  ·rename_i d
   cases hd:Nat.blt d g.n with
   | false=>rw[hd] at he;simp at he
   | true=>
    rw[hd] at he
    simp only[cond_true] at he
    obtain⟨rfl,rfl⟩:=Prod.mk.inj (agS he)
    refine⟨.map (some w.heap.size),w.alloc (.map #[] 0),.inl ?_,?_⟩
    ·simp only[execOp,Option.map_none]
     refine uY ?_
     simp [Instr.makeMap,Result.andThen]
    ·exact h.make (by rw[←hn];simpa using hd) (Mod.alloc _ _) (λb hb=>by simp [blk] at hb;omega) (c:=.tbl []) ⟨w.heap.size,#[],0,upd_same _ _ _,heap_alloc_new w _,tR⟩ Z (v:=.own s.m) ⟨(upd_same _ _ _).symm,.inr ⟨_,upd_same _ _ _⟩⟩ (by show Nat.blt s.m (s.m+1)=true;simp)
  ·simp at he
 ·
  rename_i t m k x
  split at he
  ·rename_i id kv v hm hk hv
   obtain⟨w',r1,r2⟩:=Jl hg h he hob (aC h (dn _) hm).1 (aC h (dn _) hk).1 (aC h (dn _) hv).1 (aC h (dn _) hv).2
   refine⟨undef,w',.inr ⟨?_,Z⟩,ρ,F,r2⟩
   simp only[execOp,Sem.run_bind,r1,Result.andThen,Sem.run_pure]
  ·simp at he
 ·
  rename_i t m k x
  split at he
  ·rename_i id kv v hm hk hv
   obtain⟨w',r1,r2⟩:=Jl hg h he hob (aC h (dn _) hm).1 (aC h (dn _) hk).1 (aC h (dn _) hv).1 (aC h (dn _) hv).2
   refine⟨undef,w',.inr ⟨?_,Z⟩,ρ,F,r2⟩
   simp only[execOp,Sem.run_bind,r1,Result.andThen,Sem.run_pure]
  ·simp at he
 ·
  rename_i c
  obtain⟨callee,args,argTypes⟩:=c
  dsimp only at he
  split at he
  ·rename_i d
   split at he
   ·rename_i x y t t' hxy htt
    cases hd:Nat.blt d g.n with
    | false=>rw[hd] at he;simp at he
    | true=>
     rw[hd] at he
     simp only[cond_true] at he
     obtain⟨h1,_⟩:=jB h (dn _) hxy
     obtain⟨args⟩:=args
     obtain⟨argTypes⟩:=argTypes
     simp only at hxy htt h1
     subst htt
     match args,h1 with
     | [p,q],h1=>
      obtain⟨r,w',r1,r2⟩:=UM (ty:=ty) hg hfx h (d:=d) (by rw[←hn];simpa using hd) he hob h1.1 h1.2.1
      exact⟨r,w',.inl (by simp [execOp,resolve,invoke,builtin,r1]),r2⟩
     | [],h1=>exact h1.elim
     | [_],h1=>exact h1.2.elim
     | _::_::_::_,h1=>exact h1.2.2.elim
   ·simp at he
  ·simp at he
 ·simp at he
end
inductive Item where
 | code (c:Code)
 | ops (all:Array Oper) (l:List Oper)
 | blk (id:Nat)
 | back (J:St->Prop)
inductive Ev where
 | exit (ob:List Prop) (e:Exit) (s:St)
 | cond (ob:List Prop) (b:Bool) (x y:Code) (K:List Item) (s:St)
 | loop (ob:List Prop) (c:Code) (K:List Item) (s:St)
 | back (ob:List Prop) (J:St->Prop) (s:St)
 | op (ob:List Prop) (all:Array Oper) (o:Oper) (rest:List Oper) (K:List Item) (s:St)
 | code (ob:List Prop) (c:Code) (K:List Item) (s:St)
 | stuck (why:String)
def fN{α:Type}:Nat->(Nat->α)->α
 | 0,c=>c 0
 | 1,c=>c 1
 | 2,c=>c 2
 | 3,c=>c 3
 | 4,c=>c 4
 | 5,c=>c 5
 | 6,c=>c 6
 | 7,c=>c 7
 | 8,c=>c 8
 | 9,c=>c 9
 | 10,c=>c 10
 | 11,c=>c 11
 | 12,c=>c 12
 | 13,c=>c 13
 | 14,c=>c 14
 | 15,c=>c 15
 | 16,c=>c 16
 | 17,c=>c 17
 | 18,c=>c 18
 | 19,c=>c 19
 | 20,c=>c 20
 | 21,c=>c 21
 | 22,c=>c 22
 | 23,c=>c 23
 | 24,c=>c 24
 | 25,c=>c 25
 | 26,c=>c 26
 | 27,c=>c 27
 | 28,c=>c 28
 | 29,c=>c 29
 | 30,c=>c 30
 | 31,c=>c 31
 | 32,c=>c 32
 | 33,c=>c 33
 | 34,c=>c 34
 | 35,c=>c 35
 | 36,c=>c 36
 | 37,c=>c 37
 | 38,c=>c 38
 | 39,c=>c 39
 | n,c=>c n
def fD{α:Type}:D->(D->α)->α
 | .int k n,c=>c (.int k n)
 | .bool b,c=>c (.bool b)
 | .str s,c=>c (.str s)
 | .sl z n f,c=>c (.sl z n f)
 | .nf,c=>c .nf
 | .ni,c=>c .ni
 | .np,c=>c .np
 | .ifc t ns,c=>c (.ifc t ns)
 | .mp l,c=>c (.mp l)
 | .nm,c=>c .nm
def fDs{α:Type}:List D->(List D->α)->α
 | [],c=>c []
 | d::r,c=>fD d λd'=>fDs r λr'=>c (d'::r')
def f0{α:Type}:V->(V->α)->α
 | .d x,c=>fD x λx'=>c (.d x')
 | .gU ds,c=>fDs ds λds'=>c (.gU ds')
 | .aD,c=>c .aD
 | .ptr i o,c=>fN i λi'=>c (.ptr i' o)
 | .own i,c=>fN i λi'=>c (.own i')
 | .bD i z k o,c=>fN i λi'=>c (.bD i' z k o)
 | .dead,c=>c .dead
 | .fn f us,c=>c (.fn f us)
 | .agg us,c=>c (.agg us)
 | .tup us,c=>c (.tup us)
 | .g p v,c=>c (.g p v)
def f0s{α:Type}:List V->(List V->α)->α
 | [],c=>c []
 | v::r,c=>f0 v λv'=>f0s r λr'=>c (v'::r')
def f1{α:Type}:V->(V->α)->α
 | .fn f us,c=>f0s us λus'=>c (.fn f us')
 | v,c=>f0 v c
def f1s{α:Type}:List V->(List V->α)->α
 | [],c=>c []
 | v::r,c=>f1 v λv'=>f1s r λr'=>c (v'::r')
def f2{α:Type}:V->(V->α)->α
 | .agg us,c=>f1s us λus'=>c (.agg us')
 | v,c=>f1 v c
def f2s{α:Type}:List V->(List V->α)->α
 | [],c=>c []
 | v::r,c=>f2 v λv'=>f2s r λr'=>c (v'::r')
def f3{α:Type}:V->(V->α)->α
 | .tup us,c=>f2s us λus'=>c (.tup us')
 | v,c=>f2 v c
def fP{α:Type}:List (Nat×Bool)->(List (Nat×Bool)->α)->α
 | [],c=>c []
 | (t,b)::r,c=>fP r λr'=>c ((t,b)::r')
def f4{α:Type}:V->(V->α)->α
 | .g p v,c=>fP p λp'=>f3 v λv'=>c (.g p' v')
 | v,c=>f3 v c
def fL{α:Type}:List (Nat×V)->(List (Nat×V)->α)->α
 | [],c=>c []
 | (t,v)::r,c=>f4 v λv'=>fL r λr'=>c ((t,v')::r')
def fT{α:Type}:List (Key×V)->(List (Key×V)->α)->α
 | [],c=>c []
 | (a,v)::r,c=>f2 v λv'=>fT r λr'=>c ((a,v')::r')
def fC{α:Type}:Ch->(Ch->α)->α
 | .box us,c=>f1s us λus'=>c (.box us')
 | .arr z n f,c=>c (.arr z n f)
 | .vec e z n f,c=>c (.vec e z n f)
 | .iter s p,c=>c (.iter s p)
 | .rows e e' z n h hs m f,c=>c (.rows e e' z n h hs m f)
 | .held e e' z n k u hs m f,c=>f1 u λu'=>c (.held e e' z n k u' hs m f)
 | .tbl es,c=>fT es λes'=>c (.tbl es')
 | .bld T u,c=>f1 u λu'=>c (.bld T u')
 | .pos l,c=>c (.pos l)
def fH{α:Type}:List (Nat×Ch)->(List (Nat×Ch)->α)->α
 | [],c=>c []
 | (t,v)::r,c=>fN t λt'=>fC v λv'=>fH r λr'=>c ((t',v')::r')
def fS{α:Type}:St->(St->α)->α
 | ⟨L,H,m⟩,c=>fL L λL'=>fH H λH'=>fN m λm'=>c ⟨L',H',m'⟩
def fO{α:Type}:List Prop->(List Prop->α)->α
 | [],c=>c []
 | p::r,c=>fO r λr'=>c (p::r')
def fA{α:Type}:List Prop->List Prop->(List Prop->α)->α
 | [],q,c=>fO q c
 | p::r,q,c=>fA r q λr'=>c (p::r')
section
variable{α:Type}
theorem Mr(n:Nat)(c:Nat->α):fN n c=c n:=by unfold fN;split<;>rfl
theorem abV(d:D)(c:D->α):fD d c=c d:=by cases d<;>rfl
theorem XG:∀(l:List D) (c:List D->α),fDs l c=c l
 | [],_=>rfl
 | d::r,c=>by simp [fDs,abV,XG r]
theorem abW(v:V)(c:V->α):f0 v c=c v:=by cases v<;>simp [f0,abV,XG,Mr]
theorem XH:∀(l:List V) (c:List V->α),f0s l c=c l
 | [],_=>rfl
 | d::r,c=>by simp [f0s,abW,XH r]
theorem XI(v:V)(c:V->α):f1 v c=c v:=by cases v<;>simp [f1,XH,abW]
theorem P5:∀(l:List V) (c:List V->α),f1s l c=c l
 | [],_=>rfl
 | d::r,c=>by simp [f1s,XI,P5 r]
theorem XJ(v:V)(c:V->α):f2 v c=c v:=by cases v<;>simp [f2,P5,XI]
theorem XK:∀(l:List V) (c:List V->α),f2s l c=c l
 | [],_=>rfl
 | d::r,c=>by simp [f2s,XJ,XK r]
theorem Fz(v:V)(c:V->α):f3 v c=c v:=by cases v<;>simp [f3,XK,XJ]
theorem Ms:∀(l:List (Nat×Bool)) (c:List (Nat×Bool)->α),fP l c=c l
 | [],_=>rfl
 | (t,b)::r,c=>by simp [fP,Ms r]
theorem aey(v:V)(c:V->α):f4 v c=c v:=by cases v<;>simp [f4,Fz,Ms]
theorem DJ:∀(l:List (Nat×V)) (c:List (Nat×V)->α),fL l c=c l
 | [],_=>rfl
 | (t,b)::r,c=>by simp [fL,aey,DJ r,Mr]
theorem abX:∀(l:List (Key×V)) (c:List (Key×V)->α),fT l c=c l
 | [],_=>rfl
 | (a,d)::r,c=>by simp [fT,XJ,abX r]
theorem aez(v:Ch)(c:Ch->α):fC v c=c v:=by cases v<;>simp [fC,P5,Mr,XI,abX]
theorem abY:∀(l:List (Nat×Ch)) (c:List (Nat×Ch)->α),fH l c=c l
 | [],_=>rfl
 | (t,b)::r,c=>by simp [fH,aez,abY r,Mr]
theorem nQ(s:St)(c:St->α):fS s c=c s:=by cases s;simp [fS,DJ,abY,Mr]
theorem mK:∀(l:List Prop) (c:List Prop->α),fO l c=c l
 | [],_=>rfl
 | p::r,c=>by simp [fO,mK r]
end
theorem DK{α:Type}:∀(l q:List Prop) (c:List Prop->α),fA l q c=c (l++q)
 | [],_,_=>by simp [fA,mK]
 | p::r,q,_=>by simp [fA,DK r q]
def imp(L:List (Nat×V)):List (Nat×Bool)->Prop->Prop
 | [],P=>P
 | (t,u)::q,P=>match get L t with
  | some (.d (.bool b))=>b=u->imp L q P
  | some (.g _ (.d (.bool b)))=>b=u->imp L q P
  | _=>imp L q P
def UN(L:List (Nat×V))(q:List (Nat×Bool)):List Prop->List Prop
 | []=>[]
 | p::r=>imp L q p::UN L q r
def fI{α:Type}(L:List (Nat×V)):List (Nat×Bool)->Prop->(Prop->α)->α
 | [],P,c=>c P
 | (t,u)::q,P,c=>match get L t with
  | some (.d (.bool b))=>fI L q P λQ=>c (b=u->Q)
  | some (.g _ (.d (.bool b)))=>fI L q P λQ=>c (b=u->Q)
  | _=>fI L q P c
def fIs{α:Type}(L:List (Nat×V))(q:List (Nat×Bool)):List Prop->(List Prop->α)->α
 | [],c=>c []
 | p::r,c=>fI L q p λp'=>fIs L q r λr'=>c (p'::r')
theorem abZ{α:Type}(L:List (Nat×V)):∀(q:List (Nat×Bool)) (P:Prop) (c:Prop->α),fI L q P c=c (imp L q P)
 | [],_,_=>rfl
 | (t,u)::q,P,c=>by
  simp only[fI,imp]
  split<;>simp_all [abZ L q]
theorem Ku{α:Type}(L:List (Nat×V))(q:List (Nat×Bool)):∀(l:List Prop) (c:List Prop->α),fIs L q l c=c (UN L q l)
 | [],_=>rfl
 | p::r,c=>by simp only[fIs,abZ,UN,Ku L q r]
def Am(L:List (Nat×V))(all:Array Oper)(j:Nat)(u:Bool):Option (List (Nat×Bool)):=
 match all.toList[j]? with
 | some o=>match o.dst with
  | some t=>match get L t with
   | some (.d (.bool _))=>some [(t,u)]
   | some (.g p (.d (.bool _)))=>some (p++[(t,u)])
   | _=>none
  | none=>none
 | none=>none
def FB(id:Nat):List Item->Option (List Item)
 | []=>none
 | .blk i::K=>bif Nat.beq i id then some K else FB id K
 | _::K=>FB id K
def run(g:Cfg):Nat->List Item->St->List Prop->Ev
 | 0,K,s,ob=>.stuck "fuel"
 | n+1,K,⟨L,H,m⟩,ob=>match K with
  | []=>fS ⟨L,H,m⟩ λS=>fO ob λob=>.exit ob .normal S
  | .blk _::K=>run g n K ⟨L,H,m⟩ ob
  | .back J::K=>fS ⟨L,H,m⟩ λS=>fO ob λob=>.back ob J S
  | .code c::K=>match c with
   | .skip=>run g n K ⟨L,H,m⟩ ob
   | .label _=>run g n K ⟨L,H,m⟩ ob
   | .seq x y=>run g n (.code x::.code y::K) ⟨L,H,m⟩ ob
   | .block id b=>run g n (.code b::.blk id::K) ⟨L,H,m⟩ ob
   | .region _ ops false=>run g n (.ops ops ops.toList::K) ⟨L,H,m⟩ ob
   | .cond c x y=>match ev L [] c with
    | some (.d (.bool b))=>fS ⟨L,H,m⟩ λS=>fO ob λob=>.cond ob b x y K S
    | _=>.stuck "cond"
   | .loop b=>fS ⟨L,H,m⟩ λS=>fO ob λob=>.loop ob b K S
   | .exit id=>match FB id K with
    | some K=>run g n K ⟨L,H,m⟩ ob
    | none=>fS ⟨L,H,m⟩ λS=>fO ob λob=>.exit ob (.exit id) S
   | .goto id=>fS ⟨L,H,m⟩ λS=>fO ob λob=>.exit ob (.goto id) S
   | .ret=>fS ⟨L,H,m⟩ λS=>fO ob λob=>.exit ob .ret S
   | c=>fS ⟨L,H,m⟩ λS=>fO ob λob=>.code ob c K S
  | .ops all l::K=>match l with
   | []=>run g n K ⟨L,H,m⟩ ob
   | o::rest=>match o.guard with
    | none=>match rdE g g.ck ⟨L,H,m⟩ [] o.op with
     | some (v,p)=>match o.dst with
      | some d=>bif Nat.blt d g.n then f3 v λv=>fL (put L d v) λL'=>fA ob p λob=>run g n (.ops all rest::K) ⟨L',H,m⟩ ob else .stuck "slot"
      | none=>.stuck "no slot"
     | none=>match efE g ⟨L,H,m⟩ o.dst o.op with
      | some (s',p)=>fS s' λs'=>fA ob p λob=>run g n (.ops all rest::K) s' ob
      | none=>fS ⟨L,H,m⟩ λS=>fO ob λob=>.op ob all o rest K S
    | some (j,u)=>match Am L all j u with
     | none=>.stuck "guard"
     | some q=>match rdE g g.ck ⟨L,H,m⟩ q o.op with
      | some (v,p)=>match o.dst with
       | some d=>bif Nat.blt d g.n&&!(q.any λe=>Nat.beq e.1 d)&&v.aQ (fresh m) then fIs L q p λp=>f3 v λv=>fP q λq=>fL (put L d (.g q v)) λL'=>fA ob p λob=>run g n (.ops all rest::K) ⟨L',H,m⟩ ob else .stuck "slot"
       | none=>.stuck "no slot"
      | none=>fS ⟨L,H,m⟩ λS=>fO ob λob=>.op ob all o rest K S
def gP(C:Ctx)(Φ:Exit->St->Prop):Exit->Act->World->Prop:=λe a w=>∃s,Sat C s a w∧Φ e s
def den(C:Ctx)(Q:Exit->Act->World->Prop):List Item->Exit->Act->World->Prop
 | []=>Q
 | .code c::K=>λe a w=>match e with
  | .normal=>wq C.rd C.P c (den C Q K) a w
  | e=>den C Q K e a w
 | .ops all l::K=>λe a w=>match e with
  | .normal=>gD C.rd C.P all (den C Q K) l a w
  | e=>den C Q K e a w
 | .blk id::K=>Exit.inBlock id (den C Q K)
 | .back J::K=>λe a w=>match e with
  | .normal=>∃s,Sat C s a w∧J s
  | e=>den C Q K e a w
def Go(C:Ctx)(K:List Item)(s:St)(Φ:Exit->St->Prop):Prop:=∀a w,Sat C s a w->den C (gP C Φ) K .normal a w
def Ev.holds(C:Ctx)(Φ:Exit->St->Prop):Ev->Prop
 | .exit ob e s=>ak ob∧Φ e s
 | .cond ob b x y K s=>ak ob∧(b=true->Go C (.code x::K) s Φ)∧(b=false->Go C (.code y::K) s Φ)
 | .loop ob c K s=>ak ob∧Go C (.code (.loop c)::K) s Φ
 | .back ob J s=>ak ob∧J s
 | .op ob all o rest K s=>ak ob∧Go C (.ops all (o::rest)::K) s Φ
 | .code ob c K s=>ak ob∧Go C (.code c::K) s Φ
 | .stuck _=>False
section
variable{C:Ctx}{Q:Exit->Act->World->Prop}{a:Act}{w:World}
theorem kG{id:Nat}:∀{K K':List Item},FB id K=some K'->den C Q K (.exit id) a w=den C Q K' .normal a w
 | .blk i::K,K',h=>by
  simp only[FB] at h
  cases hi:Nat.beq i id with
  | true=>
   rw[hi] at h
   simp only[cond_true,agR] at h
   subst h
   have:=agU hi
   subst this
   simp [den,Exit.inBlock]
  | false=>
   rw[hi] at h
   simp only[cond_false] at h
   have:id≠i:=by rintro rfl;simp at hi
   simp only[den,Exit.inBlock,this,if_false]
   exact kG h
 | .code c::K,K',h=>by simp only[den];exact kG (K:=K) h
 | .ops _ _::K,K',h=>by simp only[den];exact kG (K:=K) h
 | .back _::K,K',h=>by simp only[den];exact kG (K:=K) h
theorem kH{id:Nat}:∀{K:List Item},FB id K=none->den C Q K (.exit id) a w=Q (.exit id) a w
 | [],_=>rfl
 | .blk i::K,h=>by
  simp only[FB] at h
  cases hi:Nat.beq i id with
  | true=>rw[hi] at h;simp at h
  | false=>
   rw[hi] at h
   simp only[cond_false] at h
   have:id≠i:=by rintro rfl;simp at hi
   simp only[den,Exit.inBlock,this,if_false]
   exact kH h
 | .code c::K,h=>by simp only[den];exact kH (K:=K) h
 | .ops _ _::K,h=>by simp only[den];exact kH (K:=K) h
 | .back _::K,h=>by simp only[den];exact kH (K:=K) h
theorem Ao:∀{K:List Item},den C Q K .ret a w=Q .ret a w
 | []=>rfl
 | .blk i::K=>by simp only[den,Exit.inBlock];exact Ao
 | .code c::K=>by simp only[den];exact Ao
 | .ops _ _::K=>by simp only[den];exact Ao
 | .back _::K=>by simp only[den];exact Ao
theorem vP{l:Nat}:∀{K:List Item},den C Q K (.goto l) a w=Q (.goto l) a w
 | []=>rfl
 | .blk i::K=>by simp only[den,Exit.inBlock];exact vP
 | .code c::K=>by simp only[den];exact vP
 | .ops _ _::K=>by simp only[den];exact vP
 | .back _::K=>by simp only[den];exact vP
theorem iR(c:Code)(K:List Item):den C Q (.code c::K) .normal a w=wq C.rd C.P c (den C Q K) a w:=rfl
theorem XL(c:Code)(K:List Item):den C Q (.code c::K)=Exit.then (wq C.rd C.P c (den C Q K)) (den C Q K):=by
 funext e a w;cases e<;>rfl
theorem zh{x y:Code}{K:List Item}(h:den C Q (.code x::.code y::K) .normal a w):den C Q (.code (.seq x y)::K) .normal a w:=by
 rw[iR] at *
 refine acD ?_
 rwa [XL] at h
theorem Kv{id:Nat}{b:Code}{K:List Item}(h:den C Q (.code b::.blk id::K) .normal a w):den C Q (.code (.block id b)::K) .normal a w:=by
 rw[iR] at *
 exact Xc h
theorem IG{id:Nat}{ops:Array Oper}{K:List Item}(h:den C Q (.ops ops ops.toList::K) .normal a w):den C Q (.code (.region id ops false)::K) .normal a w:=by
 rw[iR]
 exact Fb h
theorem Ap{all:Array Oper}{o:Oper}{rest:List Oper}{K:List Item}(hg:o.guard=none){x:Value}{w':World}
  (hr:(execOp a.eval o).run C.P w=.ok (.value x) w'∨((execOp a.eval o).run C.P w=.ok .skip w'∧x=undef))
  (h:den C Q (.ops all rest::K) .normal (a.put o.dst x) w'):den C Q (.ops all (o::rest)::K) .normal a w:=by
 show gD C.rd C.P all (den C Q K) (o::rest) a w
 refine jW hg λN hN=>?_
 rcases hr with hr | ⟨hr,rfl⟩
 ·exact qZ hr tR (hN _ _ h)
 ·exact qZ hr tR (hN _ _ h)
theorem DL{all:Array Oper}{o:Oper}{rest:List Oper}{K:List Item}{x:Value}
  (hyes:Region.wanted o (yielded all a.tmps)=true->(execOp a.eval o).run C.P w=.ok (.value x) w)
  (hno:Region.wanted o (yielded all a.tmps)=false->x=undef)
  (h:den C Q (.ops all rest::K) .normal (a.put o.dst x) w):den C Q (.ops all (o::rest)::K) .normal a w:=by
 show gD C.rd C.P all (den C Q K) (o::rest) a w
 refine nL λN hN=>?_
 cases hw:Region.wanted o (yielded all a.tmps) with
 | true=>
  simp only[if_true]
  exact qZ (hyes hw) tR (hN _ _ h)
 | false=>
  simp only[ag0,if_false]
  rw[←hno hw]
  exact hN _ _ h
end
section
variable{C:Ctx}{s:St}{a:Act}{w:World}{ρ:Nat->Value}{F:Nat->Prop}{g:Cfg}
theorem lI(h:aF C s a w ρ F):∀{q:List (Nat×Bool)} {P:Prop},pcA a.tmps q->imp s.L q P->P
 | [],P,_,hp=>hp
 | (t,u)::q,P,hq,hp=>by
  have hq':pcA a.tmps q:=λe he=>hq e (by simp [he])
  have ht:a.tmps[t]?=some (.bool u):=hq (t,u) (by simp)
  simp only[imp] at hp
  split at hp
  ·rename_i b hb
   obtain⟨x,hx,hr⟩:=h.slot t _ (get_mem hb)
   rw[ht] at hx
   obtain rfl:=agS hx
   cases (show RD F w _ _ from hr)
   exact lI h hq' (hp Z)
  ·rename_i p b hb
   obtain⟨x,hx,hr⟩:=h.slot t _ (get_mem hb)
   rw[ht] at hx
   obtain rfl:=agS hx
   by_cases hpc:pcA a.tmps p
   ·cases (show RD F w _ _ from hr.1 hpc)
    exact lI h hq' (hp Z)
   ·have:=hr.2 hpc
    simp [undef] at this
  ·exact lI h hq' hp
theorem tO(h:aF C s a w ρ F){q:List (Nat×Bool)}(hq:pcA a.tmps q):∀{l:List Prop},ak (UN s.L q l)->ak l
 | [],_=>trivial
 | p::r,hp=>by
  simp only[UN,xC] at hp ⊢
  exact⟨lI h hq hp.1,tO h hq hp.2⟩
theorem jK(h:aF C s a w ρ F){all:Array Oper}{j:Nat}{u:Bool}{q:List (Nat×Bool)}(hg:Am s.L all j u=some q):(yielded all a.tmps j=some u↔pcA a.tmps q):=by
 unfold Am at hg
 split at hg
 ·rename_i o ho
  split at hg
  ·rename_i t ht
   have hy:yielded all a.tmps j=match a.tmps[t]? with | some (.bool b)=>some b | _=>none:=by
    have:all[j]?=some o:=by simpa using ho
    unfold yielded
    rw[this]
    simp only[Option.bind_some,ht]
    rfl
   split at hg
   ·rename_i b hb
    simp only[agR] at hg
    subst hg
    obtain⟨x,hx,hr⟩:=h.slot t _ (get_mem hb)
    cases (show RD F w _ _ from hr)
    rw[hy,hx]
    simp [pcA,hx]
   ·rename_i p b hb
    simp only[agR] at hg
    subst hg
    obtain⟨x,hx,hr⟩:=h.slot t _ (get_mem hb)
    have happ:pcA a.tmps (p++[(t,u)])↔pcA a.tmps p∧a.tmps[t]?=some (.bool u):=by
     unfold pcA
     simp only[List.mem_append,List.mem_singleton]
     exact⟨λH=>⟨λe he=>H e (.inl he),H (t,u) (.inr Z)⟩,λH e he=>by
      rcases he with he | rfl
      ·exact H.1 e he
      ·exact H.2⟩
    rw[hy,happ,hx]
    by_cases hpc:pcA a.tmps p
    ·cases (show RD F w _ _ from hr.1 hpc)
     simp [hpc]
    ·have:=hr.2 hpc
     subst this
     simp [hpc,undef]
   ·simp at hg
  ·simp at hg
 ·simp at hg
theorem pE{a b:List Prop}(h:ak (a++b)):ak a∧ak b:=(Dx a b).1 h
theorem UO(hg:bV C.P g.tys)(hn:g.n=C.n)(hfx:g.fix=C.fix){Φ:Exit->St->Prop}:∀(n:Nat) (K:List Item) (s:St) (ob:List Prop),(run g n K s ob).holds C Φ->ak ob∧Go C K s Φ:=by
 intro n
 induction n with
 | zero=>intro K s ob h;exact h.elim
 | succ n ih=>
  intro K s ob h
  unfold run at h
  split at h
  ·
   rw[nQ,mK] at h
   exact⟨h.1,λa w hs=>⟨s,hs,h.2⟩⟩
  ·obtain⟨h1,h2⟩:=ih _ _ _ h
   exact⟨h1,λa w hs=>h2 a w hs⟩
  ·rw[nQ,mK] at h
   exact⟨h.1,λa w hs=>⟨s,hs,h.2⟩⟩
  ·
   split at h
   ·obtain⟨h1,h2⟩:=ih _ _ _ h
    exact⟨h1,λa w hs=>aao (h2 a w hs)⟩
   ·obtain⟨h1,h2⟩:=ih _ _ _ h
    exact⟨h1,λa w hs=>Xb (h2 a w hs)⟩
   ·obtain⟨h1,h2⟩:=ih _ _ _ h
    exact⟨h1,λa w hs=>zh (h2 a w hs)⟩
   ·obtain⟨h1,h2⟩:=ih _ _ _ h
    exact⟨h1,λa w hs=>Kv (h2 a w hs)⟩
   ·obtain⟨h1,h2⟩:=ih _ _ _ h
    exact⟨h1,λa w hs=>IG (h2 a w hs)⟩
   ·rename_i c x y
    split at h
    ·rename_i b hb
     rw[nQ,mK] at h
     refine⟨h.1,λa w hs=>?_⟩
     obtain⟨ρ,F,hw⟩:=hs
     have hr:=(aC hw (dn _) hb).1
     have hv:a.eval c=.bool b:=by
      generalize a.eval c=v at hr
      cases (show RD F w _ _ from hr);rfl
     rw[iR]
     exact IC hv (λhb=>h.2.1 hb a w ⟨ρ,F,hw⟩) (λhb=>h.2.2 hb a w ⟨ρ,F,hw⟩)
    ·exact h.elim
   ·rw[nQ,mK] at h;exact h
   ·split at h
    ·rename_i id K' hp
     obtain⟨h1,h2⟩:=ih _ _ _ h
     refine⟨h1,λa w hs=>?_⟩
     rw[iR]
     refine Sc ?_
     rw[kG hp]
     exact h2 a w hs
    ·rename_i id hp
     rw[nQ,mK] at h
     refine⟨h.1,λa w hs=>?_⟩
     rw[iR]
     refine Sc ?_
     rw[kH hp]
     exact⟨s,hs,h.2⟩
   ·rw[nQ,mK] at h
    refine⟨h.1,λa w hs=>?_⟩
    rw[iR]
    refine aap ?_
    rw[vP]
    exact⟨s,hs,h.2⟩
   ·rw[nQ,mK] at h
    refine⟨h.1,λa w hs=>?_⟩
    rw[iR]
    refine acC ?_
    rw[Ao]
    exact⟨s,hs,h.2⟩
   ·rw[nQ,mK] at h;exact h
  ·
   split at h
   ·obtain⟨h1,h2⟩:=ih _ _ _ h
    exact⟨h1,λa w hs=>Pw (h2 a w hs)⟩
   ·rename_i all K l o rest
    split at h
    ·rename_i hgd
     split at h
     ·rename_i v p hrd
      split at h
      ·rename_i d hd
       cases hb:Nat.blt d g.n with
       | false=>rw[hb] at h;exact h.elim
       | true=>
        rw[hb] at h
        simp only[cond_true,Fz,DJ,DK] at h
        obtain⟨h1,h2⟩:=ih _ _ _ h
        obtain⟨h3,h4⟩:=pE h1
        refine⟨h3,λa w hs=>?_⟩
        obtain⟨ρ,F,hw⟩:=hs
        obtain⟨x,r1,r2,r3⟩:=Aj hg hw (dn _) hrd h4
        refine Ap hgd (.inl (r3 w λ_ _=>rfl)) ?_
        rw[hd]
        exact h2 _ _ ⟨ρ,F,hw.put (by rw[←hn];simpa using hb) r1 r2⟩
      ·exact h.elim
     ·split at h
      ·rename_i s' p hef
       simp only[nQ,DK] at h
       obtain⟨h1,h2⟩:=ih _ _ _ h
       obtain⟨h3,h4⟩:=pE h1
       refine⟨h3,λa w hs=>?_⟩
       obtain⟨ρ,F,hw⟩:=hs
       obtain⟨x,w',r1,r2⟩:=XF hg hn hfx hw hef h4
       exact Ap hgd r1 (h2 _ _ r2)
      ·rw[nQ,mK] at h;exact h
    ·rename_i j u hgd
     split at h
     ·exact h.elim
     ·rename_i q hq
      split at h
      ·rename_i v p hrd
       split at h
       ·rename_i d hd
        cases hb:(Nat.blt d g.n&&!(q.any λe=>Nat.beq e.1 d)&&v.aQ (fresh s.m)) with
        | false=>rw[hb] at h;exact h.elim
        | true=>
         rw[hb] at h
         simp only[cond_true,Ku,Fz,DJ,Ms,DK] at h
         simp only[agN,agZ] at hb
         obtain⟨⟨b1,b2⟩,b3⟩:=hb
         obtain⟨h1,h2⟩:=ih _ _ _ h
         obtain⟨h3,h4⟩:=pE h1
         refine⟨h3,λa w hs=>?_⟩
         obtain⟨ρ,F,hw⟩:=hs
         have hgp:=jK hw hq
         have hwant:Region.wanted o (yielded all a.tmps)=true↔pcA a.tmps q:=by
          rw[←hgp];simp [Region.wanted,hgd]
         by_cases hpc:pcA a.tmps q
         ·obtain⟨x,r1,r2,r3⟩:=Aj hg hw hpc hrd (tO hw hpc h4)
          refine DL (x:=x) (λ_=>r3 w λ_ _=>rfl) (λhno=>by rw[hwant.2 hpc] at hno;simp at hno) ?_
          rw[hd]
          exact h2 _ _ ⟨ρ,F,hw.yC (by rw[←hn];simpa using b1) ⟨λ_=>r1,λhno=>(hno ((iL b2).2 hpc)).elim⟩ b3⟩
         ·refine DL (x:=undef) (λhyes=>(hpc (hwant.1 hyes)).elim) (λ_=>rfl) ?_
          rw[hd]
          exact h2 _ _ ⟨ρ,F,hw.yC (by rw[←hn];simpa using b1) ⟨λhp=>(hpc ((iL b2).1 hp)).elim,λ_=>rfl⟩ b3⟩
       ·exact h.elim
      ·rw[nQ,mK] at h;exact h
end
def DEq:D->D->Prop
 | .int k a,.int k' b=>bif y7 k k' then a=b else False
 | .bool a,.bool b=>a=b
 | .str a,.str b=>a=b
 | .nf,.nf=>True
 | .ni,.ni=>True
 | .np,.np=>True
 | .ifc t a,.ifc t' b=>t=t'∧a=b
 | .mp l,.mp l'=>l=l'
 | .nm,.nm=>True
 | .sl z n f,.sl z' n' f'=>n=n'∧(n≠0->z=z')∧∀i,i<n->f i=f' i
 | _,_=>False
def aI:V->V->Prop
 | .d a,.d b=>DEq a b
 | .aD,.d (.sl _ n _)=>n=0
 | .aD,.aD=>True
 | .ptr i o,.ptr j p=>i=j∧o=p
 | .own i,.own j=>i=j
 | .bD a b c e,.bD a' b' c' e'=>a=a'∧b=b'∧c=c'∧e=e'
 | a,.dead=>a.leaf=true
 | a,b=>a=b
def EC:List V->List V->Prop
 | [],[]=>True
 | a::r,b::q=>aI a b∧EC r q
 | _,_=>False
def VEq:V->V->Prop
 | .agg us,.agg vs=>EC us vs
 | .tup us,.tup vs=>EC us vs
 | a,b=>aI a b
def P6:List (Key×V)->List (Key×V)->Prop
 | [],[]=>True
 | a::r,b::q=>a.1=b.1∧aI a.2 b.2∧P6 r q
 | _,_=>False
def mH:Ch->Ch->Prop
 | .box us,.box vs=>EC us vs
 | .arr z n f,.arr z' n' f'=>z=z'∧n=n'∧∀i,i<n->f i=f' i
 | .vec e z n f,.vec e' z' n' f'=>e=e'∧z=z'∧n=n'∧∀i,i<n->f i=f' i
 | .iter s p,.iter s' p'=>s=s'∧p=p'
 | .rows e e' z n h hs m f,.rows e2 e2' z' n' h' hs' m' f'=>e=e2∧e'=e2'∧z=z'∧n=n'∧h=h'∧∀i,i<n->hs i=hs' i∧m i=m' i∧∀j,j<m i->f i j=f' i j
 | .held e e' z n k u hs m f,.held e2 e2' z' n' k' u' hs' m' f'=>e=e2∧e'=e2'∧z=z'∧n=n'∧k=k'∧aI u u'∧∀i,i<n->i≠k->hs i=hs' i∧m i=m' i∧∀j,j<m i->f i j=f' i j
 | .tbl es,.tbl fs=>P6 es fs
 | .bld T u,.bld T' u'=>T=T'∧aI u u'
 | .pos l,.pos l'=>l=l'
 | .tbl [],.pos []=>True
 | _,_=>False
def isG:V->Bool
 | .g ..=>true
 | _=>false
def LLE(L:List (Nat×V)):List (Nat×V)->Prop
 | []=>True
 | (t,v)::r=>(match get L t with | some u=>VEq u v | none=>False)∧LLE L r
def HLE(H:List (Nat×Ch)):List (Nat×Ch)->Prop
 | []=>True
 | (t,v)::r=>(match get H t with | some u=>mH u v | none=>False)∧HLE H r
def okL(m:Nat):List (Nat×V)->Bool
 | []=>true
 | (_,v)::r=>!isG v&&v.aQ (fresh m)&&okL m r
def okH(m:Nat):List (Nat×Ch)->Bool
 | []=>true
 | (i,c)::r=>Nat.blt i m&&c.all (fresh m)&&okH m r
def okS(fix:Nat)(s:St):Bool:=okL s.m s.L&&okH s.m s.H&&Nat.ble fix s.m
def LE(fix:Nat)(s s':St):Prop:=LLE s.L s'.L∧HLE s.H s'.H∧okS fix s'=true
section
variable{C:Ctx}{s s':St}{a:Act}{w w':World}{ρ:Nat->Value}{F:Nat->Prop}{g:Cfg}
theorem UQ{x y:D}{v:Value}(h:DEq x y)(hr:RD F w x v):RD F w y v:=by
 cases x<;>cases y<;>simp only[DEq] at h<;>first | exact h.elim | skip
 ·rename_i k a k' b
  cases hk:y7 k k' with
  | false=>rw[hk] at h;exact h.elim
  | true=>rw[hk] at h;have:=EN hk;subst this;simp only[cond_true] at h;subst h;exact hr
 ·subst h;exact hr
 ·subst h;exact hr
 ·rename_i z n f z' n' f'
  obtain⟨h1,hz,hf⟩:=h
  subst h1
  by_cases h0:n=0
  ·subst h0
   cases hr<;>exact .emp _ _ _ _
  cases hr with
  | emp=>exact .emp _ _ _ _
  | sl _ _ _ b o cap cs hF hn hc hl hrr=>
   ·obtain rfl:=hz h0
    exact .sl _ _ _ b o cap cs hF hn hc (λi hi=>by rw[←hf i hi];exact hl i hi) (λi j d hi hd=>hrr i j d hi (by rw[hf i hi];exact hd))
 ·exact hr
 ·exact hr
 ·exact hr
 ·obtain⟨rfl,rfl⟩:=h;exact hr
 ·subst h;exact hr
 ·exact hr
theorem mX{x y:V}{v:Value}(h:aI x y)(hr:R1 ρ F w x v):R1 ρ F w y v:=by
 unfold aI at h
 split at h
 ·exact UQ h hr
 ·subst h
  rw[show v=.slice none 0 0 from hr]
  exact RD.emp _ _ _ _
 ·exact hr
 ·obtain⟨rfl,rfl⟩:=h;exact hr
 ·subst h;exact hr
 ·obtain⟨rfl,rfl,rfl,rfl⟩:=h;exact hr
 ·exact R1.one hr
 ·subst h;exact hr
theorem zi:∀{us vs:List V} {cs:List Value},EC us vs->aH (R1 ρ F w) us cs->aH (R1 ρ F w) vs cs
 | [],[],_,_,hr=>hr
 | u::us,v::vs,c::cs,h,hr=>⟨mX h.1 hr.1,zi h.2 hr.2⟩
 | u::us,v::vs,[],h,hr=>hr.elim
 | [],_::_,_,h,_=>h.elim
 | _::_,[],_,h,_=>h.elim
theorem ab0{u:V}{v:Value}(h:∀us,u≠.agg us)(hr:R2 ρ F w u v):R1 ρ F w u v:=by
 cases u<;>first | exact hr | exact (h _ rfl).elim
theorem tQ{x y:V}(hx:x.leaf=false)(h:aI x y):y=x:=by
 cases x<;>first | (simp [V.leaf] at hx;done) | (cases y<;>first | exact Eq.symm h | exact absurd (show false=true from h) (by simp))
theorem Mt{u v:V}{c:Value}(h:aI u v)(hr:R2 ρ F w u c):R2 ρ F w v c:=by
 by_cases hu:∃xs,u=.agg xs
 ·obtain⟨xs,rfl⟩:=hu
  rw[tQ Z h];exact hr
 ·exact jE (mX h (ab0 (λus e=>hu ⟨us,e⟩) hr))
theorem FC:∀{us vs:List (Key×V)} {cs:List MapEntry},P6 us vs->aH (λe x=>x.key=dO e.1∧R2 ρ F w e.2 x.val) us cs->aH (λe x=>x.key=dO e.1∧R2 ρ F w e.2 x.val) vs cs
 | [],[],_,_,hr=>hr
 | u::us,v::vs,c::cs,h,hr=>⟨⟨by rw[←h.1];exact hr.1.1,Mt h.2.1 hr.1.2⟩,FC h.2.2 hr.2⟩
 | u::us,v::vs,[],h,hr=>hr.elim
 | [],_::_,_,h,_=>h.elim
 | _::_,[],_,h,_=>h.elim
theorem DN:∀{us vs:List V} {cs:List Value},EC us vs->aH (R2 ρ F w) us cs->aH (R2 ρ F w) vs cs
 | [],[],_,_,hr=>hr
 | u::us,v::vs,c::cs,h,hr=>by
  refine⟨?_,DN h.2 hr.2⟩
  have h1:=h.1
  have h2:=hr.1
  by_cases hu:∃xs,u=.agg xs
  ·obtain⟨xs,rfl⟩:=hu
   rw[tQ Z h1];exact h2
  ·exact jE (mX h1 (ab0 (λus e=>hu ⟨us,e⟩) h2))
 | u::us,v::vs,[],h,hr=>hr.elim
 | [],_::_,_,h,_=>h.elim
 | _::_,[],_,h,_=>h.elim
theorem xK{x y:V}{v:Value}(h:VEq x y)(hr:R3 ρ F w x v):R3 ρ F w y v:=by
 unfold VEq at h
 split at h
 ·obtain⟨cs,rfl,hc⟩:=(show R2 ρ F w (.agg _) v from hr)
  exact⟨cs,Z,zi h hc⟩
 ·obtain⟨cs,rfl,hc⟩:=hr
  exact⟨cs,Z,DN h hc⟩
 ·by_cases ha:∃us,x=.agg us
  ·obtain⟨us,rfl⟩:=ha
   rw[tQ Z h];exact hr
  ·by_cases ht:∃us,x=.tup us
   ·obtain⟨us,rfl⟩:=ht
    rw[tQ Z h];exact hr
   ·have h1:R1 ρ F w x v:=by
     cases x<;>first | exact hr | exact (ha ⟨_,rfl⟩).elim | exact (ht ⟨_,rfl⟩).elim
    exact kE (jE (mX h h1))
theorem iZ.ext{sz n:Nat}{f f':Nat->List D}{xs:List Value}(h:iZ F w sz n f xs)(hf:∀i,i<n->f i=f' i):iZ F w sz n f' xs:=
 λi hi=>by rw[←hf i hi];exact h i hi
theorem jg{id:Nat}{c c':Ch}(h:mH c c')(hr:jf ρ F w id c):jf ρ F w id c':=by
 unfold mH at h
 split at h
 ·obtain⟨b,cs,T,h1,h2,h3⟩:=hr
  exact⟨b,cs,T,h1,h2,zi h h3⟩
 ·obtain⟨rfl,rfl,hf⟩:=h
  obtain⟨b,cs,T,h1,h2,h3,h4⟩:=hr
  exact⟨b,cs,T,h1,h2,h3,h4.ext hf⟩
 ·obtain⟨rfl,rfl,rfl,hf⟩:=h
  obtain⟨xs,h1,h2⟩:=hr
  exact⟨xs,h1,h2.ext hf⟩
 ·obtain⟨rfl,rfl⟩:=h
  exact hr
 ·obtain⟨rfl,rfl,rfl,rfl,rfl,hf⟩:=h
  obtain⟨xs,h1,h2,h3,h4⟩:=hr
  refine⟨xs,h1,λi hi hh=>?_,λi b hi hh=>by rw[←(hf i hi).1];exact h3 i b hi hh,λi j b hi hj hhi hhj hij=>by rw[←(hf i hi).1,←(hf j hj).1];exact h4 i j b hi hj hhi hhj hij⟩
  obtain⟨h5,ys,h6,h7⟩:=h2 i hi hh
  obtain⟨f1,f2,f3⟩:=hf i hi
  rw[←f1,←f2]
  exact⟨h5,ys,h6,h7.ext f3⟩
 ·obtain⟨rfl,rfl,rfl,rfl,rfl,hu,hf⟩:=h
  obtain⟨xs,h1,h0,h2,h3,h4⟩:=hr
  refine⟨xs,h1,λhk=>?_,λi hi hh=>?_,λi b hi hh=>by rw[←(hf i hi hh).1];exact h3 i b hi hh,λi j b hi hj hhi hhj hij=>by rw[←(hf i hi hhi).1,←(hf j hj hhj).1];exact h4 i j b hi hj hhi hhj hij⟩
  ·obtain⟨y,h5,h6⟩:=h0 hk
   exact⟨y,h5,mX hu h6⟩
  ·obtain⟨h5,ys,h6,h7⟩:=h2 i hi hh
   obtain⟨f1,f2,f3⟩:=hf i hi hh
   rw[←f1,←f2]
   exact⟨h5,ys,h6,h7.ext f3⟩
 ·obtain⟨b,arr,clock,h1,h2,h3⟩:=hr
  exact⟨b,arr,clock,h1,h2,FC h h3⟩
 ·obtain⟨rfl,hu⟩:=h
  obtain⟨b,p,x,h1,h2,h3,h4⟩:=hr
  exact⟨b,p,x,h1,h2,h3,mX hu h4⟩
 ·subst h;exact hr
 ·obtain⟨b,arr,clock,h1,h2,h3⟩:=hr
  refine⟨b,arr,clock,h1,h2,?_⟩
  cases ha:arr.toList with
  | nil=>rfl
  | cons x l=>rw[ha] at h3;exact h3.elim
 ·exact h.elim
theorem jv{ρ:Nat->Value}{i b:Nat}{c c':Ch}(h:mH c c')(hb:bks ρ i c' b):bks ρ i c b:=by
 unfold mH at h
 split at h
 ·exact hb
 ·exact hb
 ·exact hb
 ·exact hb
 ·obtain⟨rfl,rfl,rfl,rfl,rfl,hf⟩:=h
  rcases hb with hb | ⟨k,hk,hh,hb⟩
  ·exact .inl hb
  ·exact .inr ⟨k,hk,hh,by rw[(hf k hk).1];exact hb⟩
 ·obtain⟨rfl,rfl,rfl,rfl,rfl,hu,hf⟩:=h
  rcases hb with hb | ⟨k,hk,hh,hb⟩
  ·exact .inl hb
  ·exact .inr ⟨k,hk,hh,by rw[(hf k hk hh).1];exact hb⟩
 ·exact hb
 ·exact hb
 ·exact hb
 ·exact hb
 ·exact h.elim
theorem Sq{L:List (Nat×V)}:∀{L':List (Nat×V)} {t:Nat} {v:V},LLE L L'->(t,v)∈L'->∃u,(t,u)∈L∧VEq u v
 | (t',v')::r,t,v,h,hm=>by
  rcases List.mem_cons.1 hm with e | hm
  ·obtain⟨rfl,rfl⟩:=Prod.mk.inj e
   have h1:=h.1
   cases hg:get L t with
   | none=>rw[hg] at h1;exact h1.elim
   | some u=>rw[hg] at h1;exact⟨u,get_mem hg,h1⟩
  ·exact Sq h.2 hm
theorem iM{L:List (Nat×Ch)}:∀{L':List (Nat×Ch)} {t:Nat} {v:Ch},HLE L L'->(t,v)∈L'->∃u,(t,u)∈L∧mH u v
 | (t',v')::r,t,v,h,hm=>by
  rcases List.mem_cons.1 hm with e | hm
  ·obtain⟨rfl,rfl⟩:=Prod.mk.inj e
   have h1:=h.1
   cases hg:get L t with
   | none=>rw[hg] at h1;exact h1.elim
   | some u=>rw[hg] at h1;exact⟨u,get_mem hg,h1⟩
  ·exact iM h.2 hm
theorem Kw{m:Nat}:∀{L:List (Nat×V)} {t:Nat} {v:V},okL m L=true->(t,v)∈L->isG v=false∧v.aQ (fresh m)=true
 | (t',v')::r,t,v,h,hm=>by
  simp only[okL,agN,agZ] at h
  rcases List.mem_cons.1 hm with e | hm
  ·obtain⟨rfl,rfl⟩:=Prod.mk.inj e;exact⟨h.1.1,h.1.2⟩
  ·exact Kw h.2 hm
theorem EO{m:Nat}:∀{L:List (Nat×Ch)} {t:Nat} {v:Ch},okH m L=true->(t,v)∈L->t<m∧v.all (fresh m)=true
 | (t',v')::r,t,v,h,hm=>by
  simp only[okH,agN] at h
  rcases List.mem_cons.1 hm with e | hm
  ·obtain⟨rfl,rfl⟩:=Prod.mk.inj e;exact⟨by simpa using h.1.1,h.1.2⟩
  ·exact EO h.2 hm
theorem LE.sat(hle:LE C.fix s s')(h:Sat C s a w):Sat C s' a w:=by
 obtain⟨ρ,F,h⟩:=h
 obtain⟨hL,hH,hok⟩:=hle
 simp only[okS,agN] at hok
 obtain⟨⟨ok1,ok2⟩,ok3⟩:=hok
 refine⟨ρ,F,{size:=h.size,defers:=h.defers,slot:=?_,ch:=?_,sep:=?_,out:=?_,aR:=?_,aK:=?_,lt:=h.lt,mine:=?_,sub:=h.sub,base:=h.base,cu:=⟨by simpa using ok3,h.cu.2⟩,keep:=h.keep,env:=h.env}⟩
 ·intro t v hv
  obtain⟨u,hu,he⟩:=Sq hL hv
  obtain⟨x,hx,hr⟩:=h.slot t u hu
  have hg:=(Kw ok1 hv).1
  refine⟨x,hx,?_⟩
  cases u with
  | g p y=>
   have:v=.g p y:=by
    unfold VEq aI at he
    cases v<;>simp_all [isG,V.leaf]
   subst this
   simp [isG] at hg
  | _=>exact iK (xK he hr)
 ·intro i c hc
  obtain⟨u,hu,he⟩:=iM hH hc
  exact jg he (h.ch i u hu)
 ·intro i j ci cj b hi hj hij e
  obtain⟨u,hu,he⟩:=iM hH hi
  obtain⟨u2,hu2,he2⟩:=iM hH hj
  exact λe2=>h.sep i j u u2 b hu hu2 hij (jv he e) (jv he2 e2)
 ·intro i c b hi e
  obtain⟨u,hu,he⟩:=iM hH hi
  exact h.out i u b hu (jv he e)
 ·intro t v hv
  obtain⟨h1,h2⟩:=Kw ok1 hv
  cases v<;>first | exact h2 | simp [isG] at h1
 ·intro i c hc;exact EO ok2 hc
 ·intro i c b hi e
  obtain⟨u,hu,he⟩:=iM hH hi
  exact h.mine i u b hu (jv he e)
variable{K:List Item}{Φ:Exit->St->Prop}
theorem Go.le{fix:Nat}(hf:fix=C.fix)(h:LE fix s s')(k:Go C K s' Φ):Go C K s Φ:=λa w hs=>k a w (LE.sat (hf▸h) hs)
theorem Go.loop{α:Type}{fix:Nat}(hf:fix=C.fix)(I:α->St)(μ:α->Nat)(x0:α)(h0:LE fix s (I x0)){body:Code}
  (hr:∀x,Go C (.code body::.back (λs'=>∃y,μ y<μ x∧LE fix s' (I y))::K) (I x) Φ):Go C (.code (.loop body)::K) s Φ:=by
 subst hf
 intro a w hs
 rw[iR]
 refine IE (λn a w=>∃x,μ x=n∧Sat C (I x) a w) (μ x0) ⟨x0,Z,LE.sat h0 hs⟩ ?_
 rintro n a w ⟨x,rfl,hx⟩
 refine tu (hr x a w hx) ?_
 intro e a' w' hq
 cases e with
 | normal=>
  obtain⟨s',h1,y,h2,h3⟩:=hq
  exact⟨μ y,h2,y,Z,LE.sat h3 h1⟩
 | _=>exact hq
theorem Go.cut{α:Type}{fix:Nat}(hf:fix=C.fix)(I:α->St){c:Code}(h1:Go C (.code c::.back (λs'=>∃y,LE fix s' (I y))::K) s Φ)(h2:∀y,Go C K (I y) Φ):Go C (.code c::K) s Φ:=by
 subst hf
 intro a w hs
 rw[iR]
 refine tu (h1 a w hs) ?_
 intro e a' w' hq
 cases e with
 | normal=>
  obtain⟨s',h3,y,h4⟩:=hq
  exact h2 y _ _ (LE.sat h4 h3)
 | _=>exact hq
section
variable(hg:bV C.P g.tys)(hn:g.n=C.n)(hfx:g.fix=C.fix){n:Nat}
include hg hn hfx
theorem st{ev:Ev}(h:run g n K s []=ev)(k:ev.holds C Φ):Go C K s Φ:=(UO hg hn hfx n K s [] (h▸k)).2
end
end
def ixV:Nat->List V->List (Nat×V)
 | _,[]=>[]
 | k,v::r=>(k,v)::ixV (k+1) r
def ixC:Nat->List Ch->List (Nat×Ch)
 | _,[]=>[]
 | k,v::r=>(k,v)::ixC (k+1) r
theorem tT{k t:Nat}{v:V}:∀{l:List V},(t,v)∈ixV k l->k≤t∧l[t-k]?=some v
 | u::r,h=>by
  rcases List.mem_cons.1 h with e | h
  ·obtain⟨rfl,rfl⟩:=Prod.mk.inj e;simp
  ·obtain⟨h1,h2⟩:=tT (k:=k+1) h
   refine⟨by omega,?_⟩
   rw[show t-k=(t-(k+1))+1 by omega];simpa using h2
 | [],h=>by cases h
theorem fK{k t:Nat}{v:Ch}:∀{l:List Ch},(t,v)∈ixC k l->k≤t∧l[t-k]?=some v
 | u::r,h=>by
  rcases List.mem_cons.1 h with e | h
  ·obtain⟨rfl,rfl⟩:=Prod.mk.inj e;simp
  ·obtain⟨h1,h2⟩:=fK (k:=k+1) h
   refine⟨by omega,?_⟩
   rw[show t-k=(t-(k+1))+1 by omega];simpa using h2
 | [],h=>by cases h
def nth:List Nat->Nat->Nat
 | [],i=>i
 | x::_,0=>x
 | _::r,i+1=>nth r i
def cK(is:List Nat):V->V
 | .ptr i o=>.ptr (nth is i) o
 | .own i=>.own (nth is i)
 | .bD i z k o=>.bD (nth is i) z k o
 | v=>v
theorem lW{is:List Nat}{i:Nat}(h:i<is.length):is[i]?=some (nth is i):=by
 induction is generalizing i with
 | nil=>simp at h
 | cons x r ih=>
  cases i with
  | zero=>rfl
  | succ i=>simpa [nth] using ih (by simpa using h)
section
variable{ρ ρ':Nat->Value}{F:Nat->Prop}{w:World}
theorem R0.ren{is:List Nat}{k:Nat}(hρ:∀i,i<k->ρ' (nth is i)=ρ i){u:V}{v:Value}(hf:fresh k u=true)(h:R0 ρ F w u v):R0 ρ' F w (cK is u) v:=by
 have go:∀id,Nat.blt id k=true->ρ' (nth is id)=ρ id:=λid h=>hρ id (by simpa using h)
 cases u with
 | ptr id o=>obtain⟨b,h1,h2⟩:=h;exact⟨b,by rw[go id hf];exact h1,h2⟩
 | own id=>obtain⟨h1,h2⟩:=h;exact⟨by rw[go id hf];exact h1,by rw[go id hf];exact h2⟩
 | bD id z i o=>obtain⟨b,h1,h2⟩:=h;exact⟨b,by rw[go id hf];exact h1,h2⟩
 | _=>exact h
theorem R0.dW{is:List Nat}{k:Nat}(hρ:∀i,i<k->ρ' (nth is i)=ρ i){u:V}{v:Value}(hf:fresh k u=true)(h:R0 ρ' F w (cK is u) v):R0 ρ F w u v:=by
 have go:∀id,Nat.blt id k=true->ρ' (nth is id)=ρ id:=λid h=>hρ id (by simpa using h)
 cases u with
 | ptr id o=>obtain⟨b,h1,h2⟩:=h;exact⟨b,by rw[←go id hf];exact h1,h2⟩
 | own id=>obtain⟨h1,h2⟩:=h;exact⟨by rw[←go id hf];exact h1,by rw[←go id hf];exact h2⟩
 | bD id z i o=>obtain⟨b,h1,h2⟩:=h;exact⟨b,by rw[←go id hf];exact h1,h2⟩
 | _=>exact h
theorem aH.unmap{α α' β:Type}{R:α->β->Prop}{R':α'->β->Prop}{g:α->α'}:∀{as:List α} {bs:List β},(∀a b,a∈as->R' (g a) b->R a b)->aH R' (as.map g) bs->aH R as bs
 | [],[],_,_=>trivial
 | a::as,b::bs,h,⟨h1,h2⟩=>⟨h a b (by simp) h1,aH.unmap (λa b ha=>h a b (by simp [ha])) h2⟩
 | [],_::_,_,h=>h.elim
 | _::_,[],_,h=>h.elim
theorem R1.dW{is:List Nat}{k:Nat}(hρ:∀i,i<k->ρ' (nth is i)=ρ i){u:V}{v:Value}(hf:u.all1 (fresh k)=true)(h:R1 ρ' F w (u.fJ (cK is)) v):R1 ρ F w u v:=by
 cases u with
 | fn f caps=>
  obtain⟨cs,rfl,hc⟩:=h
  exact⟨cs,Z,hc.unmap λa b ha hab=>R0.dW hρ (by simpa using (List.all_eq_true.1 hf) a ha) hab⟩
 | d y=>exact h
 | aD=>exact h
 | ptr y z=>exact rQ (R0.dW (u:=.ptr y z) hρ hf h)
 | own y=>exact rQ (R0.dW (u:=.own y) hρ hf h)
 | bD y z i j=>exact rQ (R0.dW (u:=.bD y z i j) hρ hf h)
 | gU y=>exact h
 | dead=>exact h
 | _=>exact (show False from h).elim
theorem R2.dW{is:List Nat}{k:Nat}(hρ:∀i,i<k->ρ' (nth is i)=ρ i){u:V}{v:Value}(hf:u.all2 (fresh k)=true)(h:R2 ρ' F w (u.iQ (cK is)) v):R2 ρ F w u v:=by
 cases u with
 | agg us=>
  obtain⟨cs,rfl,hc⟩:=h
  exact⟨cs,Z,hc.unmap λa b ha hab=>R1.dW hρ (by simpa using (List.all_eq_true.1 hf) a ha) hab⟩
 | fn f caps=>exact jE (R1.dW (u:=.fn f caps) hρ hf h)
 | d y=>exact h
 | aD=>exact h
 | ptr y z=>exact jE (R1.dW (u:=.ptr y z) hρ hf h)
 | own y=>exact jE (R1.dW (u:=.own y) hρ hf h)
 | bD y z i j=>exact jE (R1.dW (u:=.bD y z i j) hρ hf h)
 | gU y=>exact h
 | dead=>exact h
 | _=>exact (show False from h).elim
theorem R3.dW{is:List Nat}{k:Nat}(hρ:∀i,i<k->ρ' (nth is i)=ρ i){u:V}{v:Value}(hf:u.aQ (fresh k)=true)(h:R3 ρ' F w (u.dz (cK is)) v):R3 ρ F w u v:=by
 cases u with
 | tup us=>
  obtain⟨cs,rfl,hc⟩:=h
  exact⟨cs,Z,hc.unmap λa b ha hab=>R2.dW hρ (by simpa using (List.all_eq_true.1 hf) a ha) hab⟩
 | agg us=>exact kE (R2.dW (u:=.agg us) hρ hf h)
 | fn f caps=>exact kE (R2.dW (u:=.fn f caps) hρ hf h)
 | d y=>exact h
 | aD=>exact h
 | ptr y z=>exact kE (R2.dW (u:=.ptr y z) hρ hf h)
 | own y=>exact kE (R2.dW (u:=.own y) hρ hf h)
 | bD y z i j=>exact kE (R2.dW (u:=.bD y z i j) hρ hf h)
 | gU y=>exact h
 | dead=>exact h
 | _=>exact (show False from h).elim
theorem jf.ren{is:List Nat}{k:Nat}(hρ:∀i,i<k->ρ' (nth is i)=ρ i){i:Nat}(hi:i<k){c:Ch}(hf:c.all (fresh k)=true)(h:jf ρ F w i c):jf ρ' F w (nth is i) (c.map (cK is)):=by
 have e:=hρ i hi
 cases c with
 | box us=>
  obtain⟨b,cs,T,h1,h2,h3⟩:=h
  exact⟨b,cs,T,e.trans h1,h2,h3.imp λa b ha hab=>R1.map (p:=fresh k) (λu v hu hr=>R0.ren hρ hu hr) (by simpa using (List.all_eq_true.1 hf) a ha) hab⟩
 | arr sz n f=>obtain⟨b,cs,T,h1,h2,h3⟩:=h;exact⟨b,cs,T,e.trans h1,h2,h3⟩
 | vec ee sz n f=>obtain⟨xs,h1,h2⟩:=h;exact⟨xs,by rw[e];exact h1,h2⟩
 | iter s pos=>obtain⟨b,h1,h2⟩:=h;exact⟨b,e.trans h1,h2⟩
 | rows _ _ _ _ _ _ _ _=>obtain⟨xs,h1,h2,h3,h4⟩:=h;exact⟨xs,by rw[e];exact h1,h2,by rw[e];exact h3,h4⟩
 | held _ _ _ _ _ _ _ _ _=>obtain⟨xs,h1,h0,h2,h3,h4⟩:=h;exact⟨xs,by rw[e];exact h1,λhi=>by obtain⟨y,h5,h6⟩:=h0 hi;exact⟨y,h5,R1.map (p:=fresh k) (λu v hu hr=>R0.ren hρ hu hr) hf h6⟩,h2,by rw[e];exact h3,h4⟩
 | bld T u=>obtain⟨b,p,x,h1,h2,h3,h4⟩:=h;exact⟨b,p,x,e.trans h1,h2,h3,R1.map (p:=fresh k) (λu v hu hr=>R0.ren hρ hu hr) hf h4⟩
 | pos l=>obtain⟨b,arr,clock,h1,h2,h3⟩:=h;exact⟨b,arr,clock,e.trans h1,h2,h3⟩
 | tbl es=>obtain⟨b,arr,clock,h1,h2,h3⟩:=h;exact⟨b,arr,clock,e.trans h1,h2,h3.imp λa x ha hx=>⟨hx.1,R2.map (p:=fresh k) (λu v hu hr=>R0.ren hρ hu hr) (by simpa using (List.all_eq_true.1 hf) a ha) hx.2⟩⟩
theorem jf.dW{is:List Nat}{k:Nat}(hρ:∀i,i<k->ρ' (nth is i)=ρ i){i:Nat}(hi:i<k){c:Ch}(hf:c.all (fresh k)=true)(h:jf ρ' F w (nth is i) (c.map (cK is))):jf ρ F w i c:=by
 have e:=hρ i hi
 cases c with
 | box us=>
  obtain⟨b,cs,T,h1,h2,h3⟩:=h
  exact⟨b,cs,T,e.symm.trans h1,h2,h3.unmap λa b ha hab=>R1.dW hρ (by simpa using (List.all_eq_true.1 hf) a ha) hab⟩
 | arr sz n f=>obtain⟨b,cs,T,h1,h2,h3⟩:=h;exact⟨b,cs,T,e.symm.trans h1,h2,h3⟩
 | vec ee sz n f=>obtain⟨xs,h1,h2⟩:=h;exact⟨xs,by rw[←e];exact h1,h2⟩
 | iter s pos=>obtain⟨b,h1,h2⟩:=h;exact⟨b,e.symm.trans h1,h2⟩
 | rows _ _ _ _ _ _ _ _=>obtain⟨xs,h1,h2,h3,h4⟩:=h;exact⟨xs,by rw[←e];exact h1,h2,by rw[←e];exact h3,h4⟩
 | held _ _ _ _ _ _ _ _ _=>obtain⟨xs,h1,h0,h2,h3,h4⟩:=h;exact⟨xs,by rw[←e];exact h1,λhi=>by obtain⟨y,h5,h6⟩:=h0 hi;exact⟨y,h5,R1.dW hρ hf h6⟩,h2,by rw[←e];exact h3,h4⟩
 | bld T u=>obtain⟨b,p,x,h1,h2,h3,h4⟩:=h;exact⟨b,p,x,e.symm.trans h1,h2,h3,R1.dW hρ hf h4⟩
 | pos l=>obtain⟨b,arr,clock,h1,h2,h3⟩:=h;exact⟨b,arr,clock,e.symm.trans h1,h2,h3⟩
 | tbl es=>obtain⟨b,arr,clock,h1,h2,h3⟩:=h;exact⟨b,arr,clock,e.symm.trans h1,h2,h3.unmap λa x ha hx=>⟨hx.1,R2.dW hρ (by simpa using (List.all_eq_true.1 hf) a ha) hx.2⟩⟩
end
structure Holds(ρ:Nat->Value)(F:Nat->Prop)(w:World)(H:List Ch):Prop where
 ch:∀i c,H[i]?=some c->jf ρ F w i c
 sep:∀(i j:Nat) b,i<H.length->j<H.length->i≠j->blk (ρ i)=some b->blk (ρ j)≠some b
 out:∀(i b:Nat),i<H.length->blk (ρ i)=some b->¬F b
def ownB(ρ:Nat->Value)(H:List Ch):Nat->Prop:=λb=>∃i,i<H.length∧blk (ρ i)=some b
def Post(w:World)(F:Nat->Prop)(ρ:Nat->Value)(fix:Nat)(H:List Ch)(r:V)(H':List Ch)(e:Ending)(w':World):Prop:=
 ∃v ρ' F',e=.returned v∧Keeps w (ownB ρ H) w'∧(∀i,i<fix->ρ' i=ρ i)∧(∀k,F k->F' k)∧(∀k,F' k->k<w'.heap.size)∧
  (∀k,F' k->F k∨w.heap.size≤k∨ownB ρ H k)∧R3 ρ' F' w' r v∧Holds ρ' F' w' H'∧(∀(i b:Nat),i<H'.length->blk (ρ' i)=some b->w.heap.size≤b∨ownB ρ H b)
def eO(P:Program)(f:FuncId):Prop:=∃fn,P.funcs[f]?=some fn∧fn.body.isSome=true∧(fn.name == "runtime.NumGoroutine")=false
def aN(args:List V)(H:List Ch)(k:Nat):Bool:=args.all (V.aQ (fresh k))&&H.all (λc=>Ch.all (fresh k) c&&Ko c)
def aG(P:Pg)(f:FuncId)(fix:Nat)(args:List V)(H:List Ch)(r:V)(H':List Ch):Prop:=
 eO P.P f∧aN args H H.length=true∧aN [r] H' H'.length=true∧fix≤H.length∧H.length≤H'.length∧
 ∀(w:World) (F:Nat->Prop) (ρ:Nat->Value) (vals:List Value),(∀k,F k->k<w.heap.size)->jG P.env F w->Holds ρ F w H->aH (R3 ρ F w) args vals->
  Calls P.P f vals.toArray w (Post w F ρ fix H r H')
abbrev Pure(P:Pg)(f:FuncId)(args:List V)(r:V)(H':List Ch):Prop:=aG P f 0 args [] r H'
def Sr:V->Option V
 | .tup _=>none
 | .g _ _=>none
 | v=>some v
def res1(g:Cfg)(s:St):ResultVar->Option V
 | .tmp t=>match get s.L t with
  | some v=>Sr v
  | none=>none
 | .cell t ty=>match get s.L t with
  | some (.ptr i o)=>match ldE g s.H ty (.ptr i o) with
   | some (v,[])=>Sr v
   | _=>none
  | _=>none
def ig(g:Cfg)(s:St):List ResultVar->Option V
 | []=>some (.tup [])
 | [x]=>res1 g s x
 | [x,y]=>match res1 g s x,res1 g s y with
  | some u,some v=>some (.tup [u,v])
  | _,_=>none
 | [x,y,z]=>match res1 g s x,res1 g s y,res1 g s z with
  | some u,some v,some t=>some (.tup [u,v,t])
  | _,_,_=>none
 | [x,y,z,q]=>match res1 g s x,res1 g s y,res1 g s z,res1 g s q with
  | some u,some v,some t,some r=>some (.tup [u,v,t,r])
  | _,_,_,_=>none
 | [x,y,z,q,p]=>match res1 g s x,res1 g s y,res1 g s z,res1 g s q,res1 g s p with
  | some u,some v,some t,some r,some o=>some (.tup [u,v,t,r,o])
  | _,_,_,_,_=>none
 | _=>none
def rnH(is:List Nat):List Nat->List Ch->List (Nat×Ch)
 | x::xs,c::cs=>(x,c.map (cK is))::rnH is xs cs
 | _,_=>[]
def Sv(x:Nat):List Nat->Bool
 | []=>true
 | y::r=>!(Nat.beq x y)&&Sv x r
def nodupB:List Nat->Bool
 | []=>true
 | x::r=>Sv x r&&nodupB r
def idB:Nat->Nat->List Nat->Bool
 | 0,_,_=>true
 | n+1,k,x::r=>Nat.beq x k&&idB n (k+1) r
 | _+1,_,[]=>false
def XM(fix:Nat)(ids:List Nat)(n:Nat):Bool:=Nat.beq ids.length n&&nodupB ids&&idB fix 0 ids
theorem vQ{x:Nat}:∀{l:List Nat},Sv x l=true->x∉l
 | [],_=>by simp
 | y::r,h=>by
  simp only[Sv,agN,agZ] at h
  intro hm
  rcases List.mem_cons.1 hm with rfl | hm
  ·simp at h
  ·exact vQ h.2 hm
theorem iq:∀{l:List Nat},nodupB l=true->∀i j,i<l.length->j<l.length->i≠j->nth l i≠nth l j
 | x::r,h,i,j,hi,hj,hij=>by
  simp only[nodupB,agN] at h
  cases i with
  | zero=>
   cases j with
   | zero=>exact (hij rfl).elim
   | succ j=>
    intro e
    have hj':j<r.length:=by simpa using hj
    exact vQ h.1 (by simp only[nth] at e;rw[e];exact List.mem_of_getElem? (lW hj'))
  | succ i=>
   have hi':i<r.length:=by simpa using hi
   cases j with
   | zero=>
    intro e
    exact vQ h.1 (by simp only[nth] at e;rw[←e];exact List.mem_of_getElem? (lW hi'))
   | succ j=>exact iq h.2 i j hi' (by simpa using hj) (by omega)
 | [],_,_,_,hi,_,_=>by simp at hi
theorem Cm:∀{n k:Nat} {l:List Nat},idB n k l=true->∀i,i<n->nth l i=k+i
 | n+1,k,x::r,h,i,hi=>by
  simp only[idB,agN] at h
  have h1:=agU h.1
  subst h1
  cases i with
  | zero=>rfl
  | succ i=>simp only[nth];rw[Cm h.2 i (by omega)];omega
 | n+1,k,[],h,i,hi=>by simp [idB] at h
 | 0,_,_,_,i,hi=>by omega
theorem oz{is:List Nat}{H':List (Nat×Ch)}:∀{xs:List Nat} {cs:List Ch} {i:Nat} {c:Ch},xs.length=cs.length->HLE H' (rnH is xs cs)->cs[i]?=some c->∃c0,(nth xs i,c0)∈H'∧mH c0 (c.map (cK is))
 | x::xs,c'::cs,i,c,hl,h,hc=>by
  cases i with
  | zero=>
   simp at hc
   subst hc
   have h1:=h.1
   cases hg:get H' x with
   | none=>rw[hg] at h1;exact h1.elim
   | some u=>rw[hg] at h1;exact⟨u,get_mem hg,h1⟩
  | succ i=>exact oz (xs:=xs) (cs:=cs) (by simpa using hl) h.2 (by simpa using hc)
 | [],[],_,_,_,_,hc=>by simp at hc
 | [],_::_,_,_,hl,_,_=>by simp at hl
 | _::_,[],_,_,hl,_,_=>by simp at hl
def Ret(g:Cfg)(rs:List ResultVar)(ids:List Nat)(r:V)(H':List Ch):Exit->St->Prop:=λe s=>
 (e=.normal∨e=.ret)∧(match ig g s rs with | some r0=>VEq r0 (r.dz (cK ids)) | none=>False)∧HLE s.H (rnH ids ids H')∧XM g.fix ids H'.length=true
section
variable{C:Ctx}{s:St}{a:Act}{w w':World}{ρ:Nat->Value}{F:Nat->Prop}{g:Cfg}
def Ky(tmps:Array Value):ResultVar->Sem Value
 | .tmp t=>pure (tmps.getD t undef)
 | .cell t ty=>do loadVar ty (←asAddr (tmps.getD t undef))
theorem DR{u v:V}{x:Value}(h:Sr u=some v)(hr:RS a.tmps ρ F w u x):R2 ρ F w v x∧u=v:=by
 cases u<;>simp only[Sr,agR,reduceCtorEq] at h<;>subst h<;>exact⟨hr,rfl⟩
theorem dD(hg:bV C.P g.tys)(h:aF C s a w ρ F){x:ResultVar}{v:V}(he:res1 g s x=some v) :
  ∃y,R2 ρ F w v y∧(Ky a.tmps x).run C.P w=.ok y w:=by
 cases x with
 | tmp t=>
  simp only[res1] at he
  split at he
  ·rename_i u hu
   obtain⟨y,hy,hr⟩:=h.slot t u (get_mem hu)
   exact⟨y,(DR he hr).1,by simp [Ky,Array.getD_eq_getD_getElem?,hy]⟩
  ·simp at he
 | cell t ty=>
  simp only[res1] at he
  split at he
  ·rename_i i o hg0
   split at he
   ·rename_i v' hld
    obtain⟨y,hy,hr⟩:=h.slot t _ (get_mem hg0)
    obtain⟨r,h1,_,h3⟩:=LZ (P:=C.P) (B:=λ_=>True) hg h hld tR (show R3 ρ F w (.ptr i o) y from hr) (λ_ _=>trivial) (λ_ _ _ _ _=>trivial)
    refine⟨r,(DR (a:=a) he (iK h1)).1,?_⟩
    obtain⟨b,_,rfl⟩:=(show R0 ρ F w (.ptr i o) y from hr)
    have:=h3 w (λ_ _ _=>rfl)
    simp only[Instr.loadAt,Instr.sureAddr,Sem.run_bind,Sem.run_pure,Result.andThen] at this
    simp only[Ky,Sem.run_bind,Array.getD_eq_getD_getElem?,hy,Option.getD_some,asAddr,Sem.run_pure,Result.andThen]
    exact this
   ·simp at he
  ·simp at he
theorem P7(fn:Func)(tmps:Array Value):results fn tmps=(do
  let vs ←fn.results.mapM (Ky tmps)
  pure (if h:vs.size=1 then vs[0] else .tuple vs)):=by
 unfold results
 congr 1
theorem Jm(hg:bV C.P g.tys)(h:aF C s a w ρ F){fn:Func}{rs:List ResultVar}(hrs:fn.results=rs.toArray){v:V}(he:ig g s rs=some v) :
  ∃y,R3 ρ F w v y∧(results fn a.tmps).run C.P w=.ok y w:=by
 rw[P7]
 unfold ig at he
 split at he
 ·simp only[agR] at he
  subst he
  exact⟨.tuple #[],⟨[],Z,tR⟩,by simp [hrs]⟩
 ·rename_i x
  obtain⟨y,h1,h2⟩:=dD hg h he
  exact⟨y,kE h1,by simp [hrs,h2]⟩
 ·rename_i x y
  split at he
  ·rename_i u v' hu hv
   simp only[agR] at he
   subst he
   obtain⟨y1,h1,h2⟩:=dD hg h hu
   obtain⟨y2,h3,h4⟩:=dD hg h hv
   exact⟨.tuple #[y1,y2],⟨[y1,y2],Z,h1,h3,tR⟩,by simp [hrs,h2,h4]⟩
  ·simp at he
 ·rename_i x y z
  split at he
  ·rename_i u v' t hu hv ht
   simp only[agR] at he
   subst he
   obtain⟨y1,h1,h2⟩:=dD hg h hu
   obtain⟨y2,h3,h4⟩:=dD hg h hv
   obtain⟨y3,h5,h6⟩:=dD hg h ht
   exact⟨.tuple #[y1,y2,y3],⟨[y1,y2,y3],Z,h1,h3,h5,tR⟩,by simp [hrs,h2,h4,h6]⟩
  ·simp at he
 ·rename_i x y z q
  split at he
  ·rename_i u v' t p hu hv ht hp
   simp only[agR] at he
   subst he
   obtain⟨y1,h1,h2⟩:=dD hg h hu
   obtain⟨y2,h3,h4⟩:=dD hg h hv
   obtain⟨y3,h5,h6⟩:=dD hg h ht
   obtain⟨y4,h7,h8⟩:=dD hg h hp
   exact⟨.tuple #[y1,y2,y3,y4],⟨[y1,y2,y3,y4],Z,h1,h3,h5,h7,tR⟩,by simp [hrs,h2,h4,h6,h8]⟩
  ·simp at he
 ·rename_i x y z q p
  split at he
  ·rename_i u v' t r o hu hv ht hr ho
   simp only[agR] at he
   subst he
   obtain⟨y1,h1,h2⟩:=dD hg h hu
   obtain⟨y2,h3,h4⟩:=dD hg h hv
   obtain⟨y3,h5,h6⟩:=dD hg h ht
   obtain⟨y4,h7,h8⟩:=dD hg h hr
   obtain⟨y5,h9,h10⟩:=dD hg h ho
   exact⟨.tuple #[y1,y2,y3,y4,y5],⟨[y1,y2,y3,y4,y5],Z,h1,h3,h5,h7,h9,tR⟩,by simp [hrs,h2,h4,h6,h8,h10]⟩
  ·simp at he
 ·simp at he
def yQ(F:Nat->Prop)(w w':World):Prop:=(∀k o v,F k->w.cell? ⟨k,o,none⟩=some v->w'.cell? ⟨k,o,none⟩=some v)∧∀k arr clock,F k->w.heap[k]?=some (.map arr clock)->w'.heap[k]?=some (.map arr clock)
theorem RD.mono'(hw:yQ F w w'){d:D}{v:Value}(h:RD F w d v):RD F w' d v:=by
 induction h with
 | int k n=>exact .int k n
 | bool b=>exact .bool b
 | str s=>exact .str s
 | emp sz f a cap=>exact .emp sz f a cap
 | nf=>exact .nf
 | ni=>exact .ni
 | np=>exact .np
 | nm=>exact .nm
 | ifc t ns=>exact .ifc t ns
 | mp l b arr clock hFb hh hm=>exact .mp l b arr clock hFb (hw.2 _ _ _ hFb hh) hm
 | sl sz n f b o cap cs hFb hn hc hl _ ih=>exact .sl sz n f b o cap cs hFb hn (λi j hi hj=>hw.1 _ _ _ hFb (hc i j hi hj)) hl ih
theorem R0.mono'(hw:yQ F w w'){u:V}{v:Value}(h:R0 ρ F w u v):R0 ρ F w' u v:=by
 cases u with
 | d d=>exact RD.mono' hw h
 | gU ds=>
  obtain⟨b,o,cs,h1,h2,h3⟩:=h
  exact⟨b,o,cs,h1,h2,λj d hd=>⟨hw.1 _ _ _ h2 (h3 j d hd).1,RD.mono' hw (h3 j d hd).2⟩⟩
 | _=>exact h
theorem iZ.mono'(hw:yQ F w w'){sz n:Nat}{f:Nat->List D}{xs:List Value}(h:iZ F w sz n f xs):iZ F w' sz n f xs:=
 λi hi=>⟨(h i hi).1,λj d hd=>let ⟨c,h1,h2⟩:=(h i hi).2 j d hd;⟨c,h1,RD.mono' hw h2⟩⟩
theorem all_true{p:V->Bool}(hp:∀u,p u=true):∀u:V,u.all1 p=true∧u.all2 p=true∧u.aQ p=true:=by
 have h1:∀u:V,u.all1 p=true:=λu=>by cases u<;>simp [V.all1,hp]
 have h2:∀u:V,u.all2 p=true:=λu=>by cases u<;>simp [V.all2,h1]
 have h3:∀u:V,u.aQ p=true:=λu=>by cases u<;>simp [V.aQ,h2]
 exact λu=>⟨h1 u,h2 u,h3 u⟩
theorem Cn(u:V):u.fJ (λu=>u)=u:=by cases u<;>simp [V.fJ]
theorem Co(u:V):u.iQ (λu=>u)=u:=by
 cases u<;>simp only[V.iQ]<;>first | exact Cn _ | skip
 rename_i us
 congr 1
 induction us with
 | nil=>rfl
 | cons u us ih=>rw[List.map_cons,ih,Cn]
theorem UR(u:V):u.dz (λu=>u)=u:=by
 cases u<;>simp only[V.dz]<;>first | exact Co _ | skip
 rename_i us
 congr 1
 induction us with
 | nil=>rfl
 | cons u us ih=>rw[List.map_cons,ih,Co]
theorem R1.mono'(hw:yQ F w w'){u:V}{v:Value}(h:R1 ρ F w u v):R1 ρ F w' u v:=by
 have:=R1.map (p:=λ_=>true) (k:=λu=>u) (ρ':=ρ) (F':=F) (w':=w') (λu v _ hr=>R0.mono' hw hr) (all_true (λ_=>rfl) u).1 h
 rwa [Cn] at this
theorem R2.mono'(hw:yQ F w w'){u:V}{v:Value}(h:R2 ρ F w u v):R2 ρ F w' u v:=by
 have:=R2.map (p:=λ_=>true) (k:=λu=>u) (ρ':=ρ) (F':=F) (w':=w') (λu v _ hr=>R0.mono' hw hr) (all_true (λ_=>rfl) u).2.1 h
 rwa [Co] at this
theorem R3.mono'(hw:yQ F w w'){u:V}{v:Value}(h:R3 ρ F w u v):R3 ρ F w' u v:=by
 have:=R3.map (p:=λ_=>true) (k:=λu=>u) (ρ':=ρ) (F':=F) (w':=w') (λu v _ hr=>R0.mono' hw hr) (all_true (λ_=>rfl) u).2.2 h
 rwa [UR] at this
theorem RS.mono'{tmps:Array Value}(hw:yQ F w w'){u:V}{v:Value}(h:RS tmps ρ F w u v):RS tmps ρ F w' u v:=by
 by_cases hg:∃p y,u=.g p y
 ·obtain⟨p,y,rfl⟩:=hg
  exact⟨λhp=>R3.mono' hw (h.1 hp),h.2⟩
 ·have h0:R3 ρ F w u v:=by cases u<;>first | exact h | exact (hg ⟨_,_,rfl⟩).elim
  exact iK (R3.mono' hw h0)
theorem jf.mono'(hw:yQ F w w'){id:Nat}{c:Ch}(hb:∀b,bks ρ id c b->w'.heap[b]?=w.heap[b]?)(h:jf ρ F w id c):jf ρ F w' id c:=by
 have hall:∀{us:List V} {cs:List Value},aH (R1 ρ F w) us cs->aH (R1 ρ F w') us cs:=λ{us cs} h=>by
  have:=h.imp (g:=λu=>u) (R':=R1 ρ F w') (λa b _ hab=>R1.mono' hw hab)
  rwa [List.map_id'] at this
 cases c with
 | box us=>
  obtain⟨b,cs,T,h1,h2,h3⟩:=h
  exact⟨b,cs,T,h1,by rw[hb b (by show blk (ρ id)=some b;rw[h1];rfl)];exact h2,hall h3⟩
 | arr sz n f=>
  obtain⟨b,cs,T,h1,h2,h3,h4⟩:=h
  exact⟨b,cs,T,h1,by rw[hb b (by show blk (ρ id)=some b;rw[h1];rfl)];exact h2,h3,h4.mono' hw⟩
 | vec e sz n f=>
  obtain⟨xs,h1,h2⟩:=h
  exact⟨xs,eD h1 hb,h2.mono' hw⟩
 | iter s pos=>
  obtain⟨b,h1,h2⟩:=h
  exact⟨b,h1,by rw[hb b (by show blk (ρ id)=some b;rw[h1];rfl)];exact h2⟩
 | rows e e' sz n hole hs m f=>
  obtain⟨xs,h1,h2,h3,h4⟩:=h
  refine⟨xs,eD h1 λb e=>hb b (.inl e),λi hi hh=>?_,h3,h4⟩
  obtain⟨h5,ys,h6,h7⟩:=h2 i hi hh
  exact⟨h5,ys,eD h6 λb e=>hb b (.inr ⟨i,hi,hh,e⟩),h7.mono' hw⟩
 | held e e' sz n i u hs m f=>
  obtain⟨xs,h1,h0,h2,h3,h4⟩:=h
  refine⟨xs,eD h1 λb e=>hb b (.inl e),λhi=>?_,λi hi hh=>?_,h3,h4⟩
  ·obtain⟨y,h5,h6⟩:=h0 hi
   exact⟨y,h5,R1.mono' hw h6⟩
  ·obtain⟨h5,ys,h6,h7⟩:=h2 i hi hh
   exact⟨h5,ys,eD h6 λb e=>hb b (.inr ⟨i,hi,hh,e⟩),h7.mono' hw⟩
 | bld T u=>
  obtain⟨b,p,x,h1,h2,h3,h4⟩:=h
  exact⟨b,p,x,h1,by rw[hb b (by show blk (ρ id)=some b;rw[h1];rfl)];exact h2,h3,R1.mono' hw h4⟩
 | pos l=>
  obtain⟨b,arr,clock,h1,h2,h3⟩:=h
  exact⟨b,arr,clock,h1,by rw[hb b (by show blk (ρ id)=some b;rw[h1];rfl)];exact h2,h3⟩
 | tbl es=>
  obtain⟨b,arr,clock,h1,h2,h3⟩:=h
  refine⟨b,arr,clock,h1,by rw[hb b (by show blk (ρ id)=some b;rw[h1];rfl)];exact h2,?_⟩
  have:=h3.imp (g:=λe=>e) (R':=λe x=>x.key=dO e.1∧R2 ρ F w' e.2 x.val) (λa x _ hx=>⟨hx.1,R2.mono' hw hx.2⟩)
  rwa [List.map_id'] at this
theorem aF.take{D:Nat}{ms:List Nat}(h:aF C s a w ρ F)(hm:(D::ms).Nodup)(hmk:C.mks=true)(hlo:C.w0.heap.size≤C.lo)(hD:∀k∈D::ms,C.lo≤k∧F k∧w.heap[k]?=some (.deferred (some []))) :
  aF C s {a with defers:=ms.map tC++C.defs} (w.putObj D (.deferred none)) ρ F:=by
 obtain⟨d1,d2,d3⟩:=hD D (by simp)
 have hw:yQ F w (w.putObj D (.deferred none)):=by
  refine⟨λk o v hk hc=>?_,λk arr clock hk hc=>?_⟩
  rotate_left
  ·by_cases e:k=D
   ·subst e;rw[d3] at hc;cases hc
   ·rw[World.putObj_heap_other e];exact hc
  by_cases e:k=D
  ·subst e
   unfold World.cell? at hc
   rw[d3] at hc
   simp at hc
  ·rw[←hc];exact World.cell?_of_block (w:=w) (World.putObj_heap_other e)
 have hb:∀i c,(i,c)∈s.H->∀b,bks ρ i c b->(w.putObj D (.deferred none)).heap[b]?=w.heap[b]?:=λi c hi b e=>World.putObj_heap_other λe2=>by subst e2;exact h.out i c b hi e d2
 exact
  {
   size:=h.size,sep:=h.sep,out:=h.out,aR:=h.aR,aK:=h.aK,mine:=h.mine,sub:=h.sub,base:=h.base,cu:=h.cu
   slot:=λt v hv=>let ⟨x,hx,hr⟩:=h.slot t v hv;⟨x,hx,RS.mono' hw hr⟩
   ch:=λi c hi=>jf.mono' hw (hb i c hi) (h.ch i c hi)
   lt:=λk hk=>by rw[World.putObj_size];exact h.lt k hk
   env:=λg n f hm=>⟨(h.env g n f hm).1,λj hj=>hw.1 _ _ _ (h.env g n f hm).1 ((h.env g n f hm).2.1 j hj),λh0=>let ⟨m,hm'⟩:=(h.env g n f hm).2.2 h0;⟨m,hw.1 _ _ _ (h.env g n f hm).1 hm'⟩⟩
   keep:=⟨h.keep.os,h.keep.tape,h.keep.output,by rw[World.putObj_size];exact h.keep.size,λk hk he=>(World.putObj_heap_other (by omega)).trans (h.keep.block k hk he)⟩
   defers:=⟨ms,rfl,(List.nodup_cons.1 hm).2,λe=>(by rw[hmk] at e;cases e),λk hk=>by
    obtain⟨k1,k2,k3⟩:=hD k (by simp [hk])
    exact⟨k1,k2,(World.putObj_heap_other λe=>(List.nodup_cons.1 hm).1 (by rw[←e];exact hk)).trans k3⟩⟩}
theorem Kz{fn:Func}{R:Ending->World->Prop}(hmk:C.mks=true)(aeA:C.defs=[])(hlo:C.w0.heap.size≤C.lo):∀(ms:List Nat) (a:Act) (w:World),a.defers=ms.map tC++C.defs->ms.Nodup->(∀k∈ms,C.lo≤k∧F k∧w.heap[k]?=some (.deferred (some [])))->aF C s a w ρ F->
  (∀w',aF C s {a with defers:=[]} w' ρ F->∃y,(results fn a.tmps).run C.P w'=.ok y w'∧R (.returned y) w')->LeavesInM Fence.wide 9 C.P fn a.tmps R a.defers .returning w:=by
 intro ms
 induction ms with
 | nil=>
  intro a w he _ _ h k
  rw[aeA] at he
  rw[he]
  have ha:({a with defers:=[]}:Act)=a:=by cases a;simp at he;subst he;rfl
  exact k w (by rw[ha];exact h)
 | cons D ms ih=>
  intro a w he hnd hD h k
  rw[he]
  refine⟨by simp,.inl ⟨D,_,Z,run_takeDeferred (hD D (by simp)).2.2,?_⟩⟩
  have h2:=h.take hnd hmk hlo hD
  exact ih {a with defers:=ms.map tC++C.defs} _ Z (List.nodup_cons.1 hnd).2 (λj hj=>by
   obtain⟨k1,k2,k3⟩:=hD j (by simp [hj])
   exact⟨k1,k2,(World.putObj_heap_other λe=>(List.nodup_cons.1 hnd).1 (by rw[←e];exact hj)).trans k3⟩) h2 k
theorem aG.intro {P:Pg} {f:FuncId} {fn:Func} {c:Code} {args:List V} {H:List Ch} {r:V} {H':List Ch} (hf:P.P.funcs[f]?=some fn) (hb:fn.body=some c) (hname:(fn.name == "runtime.NumGoroutine")=false)
  (hg:bV P.P g.tys) (hn:g.n=fn.ntmps) {rs:List ResultVar} (hrs:fn.results=rs.toArray) (hlen:Nat.ble args.length g.n=true) (hfr:aN args H H.length=true) (yE:aN [r] H' H'.length=true) (hfx:Nat.ble g.fix H.length=true) (hHH:Nat.ble H.length H'.length=true)
  (ids:List Nat)
  (hgo:∀(C:Ctx),C.pg=P->g.n=C.n->g.fix=C.fix->C.defs=[]->C.rd=none->C.mks=true∧C.lo≤C.w0.heap.size->Go C [.code c] ⟨ixV 0 args,ixC 0 H,H.length⟩ (Ret g rs ids r H')):aG P f g.fix args H r H':=by
 refine⟨⟨fn,hf,by rw[hb];rfl,hname⟩,hfr,yE,by simpa using hfx,by simpa using hHH,λw F ρ vals hF hE hH hargs=>?_⟩
 have XO:g.fix≤H.length:=by simpa using hfx
 have hlen':args.length≤g.n:=by simpa using hlen
 have hvl:=hargs.length
 simp only[aN,agN,List.all_eq_true] at hfr
 let C:Ctx:={P:=P.P,env:=P.env,n:=g.n,w0:=w,E:=ownB ρ H,F0:=F,ρ0:=ρ,fix:=g.fix,defs:=[],mks:=true,lo:=w.heap.size}
 refine callsIn_wide.1 (callsIn_of_wp_marks (n:=9) hf hb tR ?_)
 have XP:Sat C ⟨ixV 0 args,ixC 0 H,H.length⟩ {tmps:=vals.toArray++Array.replicate (fn.ntmps-vals.toArray.size) undef,defers:=[]} w:=by
  refine⟨ρ,F,{size:=?_,defers:=.start Z,slot:=?_,ch:=?_,sep:=?_,out:=?_,aR:=?_,aK:=?_,lt:=hF,mine:=?_,sub:=λk hk=>.inl hk,base:=λ_ hk=>hk,cu:=⟨XO,λ_ _=>rfl⟩,keep:=⟨Z,Z,Z,Nat.le_refl _,λ_ _ _=>rfl⟩,env:=hE}⟩
  ·simp only[Array.size_append,List.size_toArray,Array.size_replicate]
   show _=g.n
   omega
  ·intro t v hv
   obtain⟨_,hv⟩:=tT hv
   obtain⟨x,hx,hr⟩:=hargs.get hv
   refine⟨x,?_,iK hr⟩
   simp only[Nat.sub_zero] at hx
   have:t<vals.length:=(List.getElem?_eq_some_iff.1 hx).1
   rw[Array.getElem?_append_left (by simpa using this)]
   simpa using hx
  ·intro i c hc
   obtain⟨_,hc⟩:=fK hc
   exact hH.ch i c (by simpa using hc)
  ·intro i j ci cj b hi hj hij e
   obtain⟨_,hi⟩:=fK hi
   obtain⟨_,hj⟩:=fK hj
   exact λe2=>hH.sep i j b (by simpa using (List.getElem?_eq_some_iff.1 hi).1) (by simpa using (List.getElem?_eq_some_iff.1 hj).1) hij (dI (hfr.2 ci (List.mem_of_getElem? hi)).2 e) (dI (hfr.2 cj (List.mem_of_getElem? hj)).2 e2)
  ·intro i ci b hi e
   obtain⟨_,hi⟩:=fK hi
   exact hH.out i b (by simpa using (List.getElem?_eq_some_iff.1 hi).1) (dI (hfr.2 ci (List.mem_of_getElem? hi)).2 e)
  ·intro t v hv
   obtain⟨_,hv⟩:=tT hv
   obtain⟨x,hx,hr⟩:=hargs.get hv
   have:=hfr.1 v (List.mem_of_getElem? hv)
   cases v<;>first | exact this | exact (show False from hr).elim
  ·intro i ci hi
   obtain⟨_,hi⟩:=fK hi
   exact⟨by simpa using (List.getElem?_eq_some_iff.1 hi).1,(hfr.2 ci (List.mem_of_getElem? hi)).1⟩
  ·intro i ci b hi e
   obtain⟨_,hi⟩:=fK hi
   exact .inr ⟨i,by simpa using (List.getElem?_eq_some_iff.1 hi).1,dI (hfr.2 ci (List.mem_of_getElem? hi)).2 e⟩
 refine wpIn_mono (show Code.wpIn Fence.wide 9 P.P c _ _ w from hgo C Z Z Z Z Z ⟨Z,Nat.le_refl _⟩ _ _ XP) ?_
 rintro e a' w' ⟨s',⟨ρ',F',h'⟩,he,hr,hH',hok⟩
 have key:bodyPostM Fence.wide 9 P.P fn (Post w F ρ g.fix H r H') .ret a' w':=by
  obtain⟨ms,m1,m2,_,m4⟩:=h'.defers
  refine Kz (C:=C) Z Z (Nat.le_refl _) ms a' w' m1 m2 m4 h' ?_
  clear h' m1 m2 m4
  intro w' h'
  cases hres:ig g s' rs with
  | none=>rw[hres] at hr;exact hr.elim
  | some r0=>
   rw[hres] at hr
   obtain⟨y,h1,h2⟩:=Jm (C:=C) hg h' hrs hres
   simp only[XM,agN] at hok
   obtain⟨⟨o1,o2⟩,o3⟩:=hok
   have o1:=agU o1
   have hy:=xK hr h1
   simp only[aN,agN,List.all_eq_true] at yE
   have XQ:∀i,i<H'.length->ρ' (nth ids i)=(λi=>ρ' (nth ids i)) i:=λ_ _=>rfl
   have hex:∀i,i<H'.length->∃c,H'[i]?=some c∧∃c0,(nth ids i,c0)∈s'.H∧mH c0 (c.map (cK ids)):=λi hi=>by
    obtain⟨c0,k1,k2⟩:=oz o1 hH' (agO hi)
    exact⟨_,agO hi,c0,k1,k2⟩
   refine⟨y,h2,y,λi=>ρ' (nth ids i),F',Z,h'.keep,?_,λk hk=>?_,h'.lt,h'.sub,?_,?_,?_⟩
   ·intro i hi
    show ρ' (nth ids i)=ρ i
    rw[Cm o3 i hi,Nat.zero_add]
    exact h'.cu.2 i hi
   ·exact h'.base k hk
   ·exact R3.dW XQ (yE.1 r (by simp)) hy
   ·refine⟨λi c hc=>?_,λi j b hi hj hij e=>?_,λi b hi e=>?_⟩
    ·have hi:=(List.getElem?_eq_some_iff.1 hc).1
     obtain⟨c',hc',c0,k1,k2⟩:=hex i hi
     rw[hc] at hc'
     obtain rfl:=agS hc'
     exact jf.dW XQ hi (yE.2 c (List.mem_of_getElem? hc)).1 (jg k2 (h'.ch _ _ k1))
    ·obtain⟨_,_,c0,k1,_⟩:=hex i hi
     obtain⟨_,_,c1,k3,_⟩:=hex j hj
     exact λe2=>h'.sep _ _ c0 c1 b k1 k3 (iq o2 i j (by omega) (by omega) hij) (aT e) (aT e2)
    ·obtain⟨_,_,c0,k1,_⟩:=hex i hi
     exact h'.out _ c0 b k1 (aT e)
   ·intro i b hi e
    obtain⟨_,_,c0,k1,_⟩:=hex i hi
    exact h'.mine _ c0 b k1 (aT e)
 rcases he with rfl | rfl
 ·exact key
 ·exact key
end
end Go.Sx
