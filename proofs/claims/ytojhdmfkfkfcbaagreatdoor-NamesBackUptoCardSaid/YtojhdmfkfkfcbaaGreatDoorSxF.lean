import Derived.Test.YtojhdmfkfkfcbaaGreatDoorSxE
import Derived.Below
import Derived.Scope
import Derived.ChangeArms
import Derived.Carry
import Derived.SizedLaws
import Derived.ScopeJumps
import Derived.OrdersHeld
set_option linter.unusedSimpArgs false
set_option linter.unusedVariables false
namespace Go.Sx
theorem aeD(c:Prop)[Decidable c](a b:D):dh c [a] [b]=[LX c a b]:=by
 unfold dh
 congr 1
 unfold dh
 simp
theorem MC(c:Prop)[Decidable c](k:IntKind)(a b:Int):LX c (.int k a) (.int k b)=.int k (if c then a else b):=by
 show (bif y7 k k then D.int k (if c then a else b) else if c then D.int k a else D.int k b)=_
 rw[show y7 k k=true by simp [y7]]
 rfl
theorem r9(k:IntKind)(b:Nat->Int)(i:Nat)(v:Int):Cc (λj=>[D.int k (b j)]) i 0 [.int k v]=λj=>[D.int k (if j=i then v else b j)]:=by
 funext j
 show dh (j=i) [D.int k v] [D.int k (b j)]=_
 rw[aeD,MC]
theorem XZ(k:IntKind)(l:List Int)(v:Int)(j:Nat)(hj:j<l.length+1):app l.length (λj=>[D.int k (l.getD j 0)]) (λ_=>[D.int k v]) j=[D.int k ((l++[v]).getD j 0)]:=by
 show dh (j<l.length) [D.int k (l.getD j 0)] [D.int k v]=_
 rw[aeD,MC]
 congr 2
 by_cases h:j<l.length
 ·rw[if_pos h];simp [agM,List.getElem?_append_left h]
 ·rw[if_neg h]
  have:j=l.length:=by omega
  subst this
  simp [agM]
theorem Cr.ite{P:Pg}{g:Cfg}{C:Ctx}(x:Cr P g C){s s':St}{K K':List Item}{Φ:Exit->St->Prop}{ob:List Prop}{α:Type}(I:α->St){b:Bool}{c1 c2:Code}(h:run g 1000 K s []=.cond ob b c1 c2 K' s')(ho:ak ob)
  (h1:b=true->Go C (.code c1::.back (λs'=>∃y,LE g.fix s' (I y))::K') s' Φ) (h2:b=false->Go C (.code c2::.back (λs'=>∃y,LE g.fix s' (I y))::K') s' Φ) (h3:∀y,Go C K' (I y) Φ):Go C K s Φ:=
 x.cond h ho (λhb=>x.cut I (h1 hb) h3) (λhb=>x.cut I (h2 hb) h3)
theorem Go.own{C:Ctx}{s:St}{K:List Item}{Φ:Exit->St->Prop}(t:Nat)(e:TypeId)(sz:Nat)(f:Nat->List D)(h:get s.L t=some .aD)(k:Go C K (mJ s t (.own s.m) (.vec e sz 0 f)) Φ):Go C K s Φ:=by
 rintro a w ⟨ρ,F,hs⟩
 obtain⟨x,hx,hr⟩:=hs.slot t _ (get_mem h)
 obtain rfl:x=.slice none 0 0:=hr
 have hlt:t<a.tmps.size:=(Array.getElem?_eq_some_iff.1 hx).1
 have hput:a.put (some t) (.slice none 0 0)=a:=by
  cases a with
  | mk tmps defers=>
   simp only[Act.put,Act.mk.injEq,and_true]
   apply Array.ext
   ·simp
   ·intro i h1 h2
    by_cases hi:t=i
    ·subst hi
     have:=(Array.getElem?_eq_some_iff.1 hx).2
     simp [this]
    ·rw[Array.getElem_setIfInBounds_ne _ hi]
 have:=hs.row (d:=t) (x:=.slice none 0 0) (e:=e) (sz:=sz) (n:=0) (f:=f) (xs:=[]) (w':=w) (by rw[←hs.size];exact hlt) ⟨Z,Z,Z,Nat.le_refl _,λ_ _ _=>rfl⟩ (λb hb=>by simp [blk] at hb) ⟨_,_,_,Z⟩ ⟨by simp,.inl ⟨Z,Z⟩⟩ (λi hi=>absurd hi (agV _))
 rw[hput] at this
 exact k a w this
theorem Cr.toLoop{P:Pg}{g:Cfg}{C:Ctx}(x:Cr P g C){s s':St}{K K':List Item}{Φ:Exit->St->Prop}{ob:List Prop}{c:Code}(h:run g 1000 K s []=.loop ob c K' s')(ho:ak ob)
  (k:Go C (.code (.loop c)::K') s' Φ):Go C K s Φ:=
 st x.ty x.n x.fix h ⟨ho,k⟩
def ba(l:List UInt8):BY:=⟨l.toArray⟩
theorem ac4(a b:List UInt8):ba a++ba b=ba (a++b):=by
 apply ByteArray.ext
 simp [ba,ByteArray.data_append]
theorem ba_eq(s:BY):s=ba s.data.toList:=by cases s;rfl
theorem xL(l:List UInt8):(ba l).size=l.length:=by simp [ba,ByteArray.size]
theorem F7(n:Nat)(b:Nat->Int):bytesOf n (λj=>[D.int .u8 (b j)])=ba ((List.range n).map λi=>UInt8.ofNat (b i).toNat):=rfl
theorem eT {P:Program} {f:FuncId} {fn:Func} (h:P.funcs[f]?=some fn) (hb:fn.body.isSome=true) (hn:(fn.name == "runtime.NumGoroutine")=false):eO P f:=⟨fn,h,hb,hn⟩
def Jp:List V->Option (List Value)
 | []=>some []
 | v::r=>match valOf v,Jp r with
  | some x,some xs=>some (x::xs)
  | _,_=>none
theorem vW{ρ:Nat->Value}{F:Nat->Prop}{w:World}:∀{us:List V} {xs ys:List Value},Jp us=some xs->aH (R3 ρ F w) us ys->ys=xs
 | [],xs,ys,h,hr=>by
  cases ys with
  | nil=>simpa [Jp] using h
  | cons=>exact hr.elim
 | u::us,xs,ys,h,hr=>by
  cases ys with
  | nil=>exact hr.elim
  | cons y ys=>
   simp only[Jp] at h
   split at h
   ·rename_i x0 xs0 e1 e2
    simp only[agR] at h
    subst h
    rw[qM e1 hr.1,vW e2 hr.2]
   ·simp at h
theorem Pure.X0{P:Pg}{f:FuncId}{args:List V}{vals:List Value}{vs:Array Value}{r:V}{v:Value}(hc:eO P.P f)(hfr:(aN args [] 0&&aN [r] [] 0)=true)(ha:Jp args=some vals)(hvs:vs=vals.toArray)(hr:valOf r=some v)
  (h:∀(w:World) (F:Nat->Prop),jG P.env F w->Calls P.P f vs w λe w'=>e=.returned v∧Go.RowKit.Below w.heap.size w w'):Pure P f args r []:=by
 subst hvs
 simp only[agN] at hfr
 refine⟨hc,hfr.1,hfr.2,Nat.le_refl _,Nat.le_refl _,λw F ρ ys hF hE hH hargs=>?_⟩
 obtain rfl:=vW ha hargs
 refine (h w F hE).mono ?_
 rintro e w' ⟨rfl,hb⟩
 obtain⟨b1,b2,b3,b4,b5⟩:=hb
 refine⟨v,ρ,F,Z,⟨b1,b2,b3,b4,λk hk _=>b5 k hk⟩,λ_ _=>rfl,λ_ hk=>hk,λk hk=>Nat.lt_of_lt_of_le (hF k hk) b4,λ_ hk=>.inl hk,vS hr,⟨λi c hi=>by simp at hi,λi j b hi=>absurd hi (agV _),λi b hi=>absurd hi (agV _)⟩,λi b hi=>absurd hi (agV _)⟩
inductive DTy where
 | bool
 | int (k:IntKind)
 | str
 | sl (b:Nat) (e:List DTy)
inductive mM(W:Nat):DTy->D->Prop
 | bool (b:Bool):mM W .bool (.bool b)
 | int (k:IntKind) (n:Int) (h:(Lit.int k n).wf=true):mM W (.int k) (.int k n)
 | str (s:BY) (h:s.size≤maxLen) (hz:s.size≤W):mM W .str (.str s)
 | sl (b:Nat) (e:List DTy) (n:Nat) (f:Nat->List D) (hn:n≤maxLen) (hz:n*b≤W) (hl:∀i,i<n->(f i).length=e.length)
  (h:∀(i j:Nat) (t:DTy) (d:D),i<n->e[j]?=some t->(f i)[j]?=some d->mM W t d):mM W (.sl b e) (.sl e.length n f)
def mZ(W:Nat)(τ:List DTy)(ds:List D):Prop:=ds.length=τ.length∧∀(j:Nat) (t:DTy) (d:D),τ[j]?=some t->ds[j]?=some d->mM W t d
variable{W:Nat}
def F8(go:TypeId->Option (List DTy))(sz:TypeId->Nat):Nat->List (Nat×TypeId)->Option (List DTy)
 | _,[]=>some []
 | o,(off,ty)::r=>match go ty,F8 go sz (o+sz ty) r with
  | some a,some b=>bif Nat.beq off o&&Nat.beq a.length (sz ty) then some (a++b) else none
  | _,_=>none
def uj(P:Program):Nat->TypeId->Option (List DTy)
 | 0,_=>none
 | k+1,t=>match P.underlying t with
  | some .bool=>some [.bool]
  | some (.int kd)=>some [.int kd]
  | some .string=>some [.str]
  | some (.slice e)=>match uj P k e with
   | some τ=>bif Nat.beq τ.length (P.cellsOf e)&&Nat.ble 1 τ.length then some [.sl (P.bytesOf e) τ] else none
   | none=>none
  | some (.struct fs)=>match F8 (uj P k) P.cellsOf 0 (fs.toList.map λf=>(f.offset,f.type)) with
   | some τ=>bif Nat.beq τ.length (P.cellsOf t) then some τ else none
   | none=>none
  | _=>none
section
variable{P:Program}{H:Type}{enc:TypeId×Value->H}{w:World}{spare:Nat->Bool}{held:Bool}
abbrev Old(w:World):Nat->Prop:=λk=>k<w.heap.size
theorem UZ{a:Addr}{n:Nat}{cs:List Value}(h:w.cells? 0 a n=some cs):cs.length=n∧∀j,j<n->w.cell? (a.add j)=cs[j]?:=by
 unfold World.cells? at h
 rw[if_pos (Nat.zero_le _)] at h
 exact⟨by simpa using mapM_some_length h,λj hj=>mapM_some_get h j j (by simp [hj])⟩
theorem X3{a:Addr}{v:Value}(h:w.cell? a=some v):Old w a.block∧a.spot=none:=by
 unfold World.cell? at h
 split at h
 ·rename_i c _ _ hh
  refine⟨(Array.getElem?_eq_some_iff.1 hh).1,?_⟩
  cases hs:a.spot with
  | none=>rfl
  | some _=>simp [hs] at h
 ·simp at h
def Opens(W:Nat)(P:Program)(w:World)(t:TypeId)(τ:List DTy)(cs:List Value):Prop:=∃ds,mZ W τ ds∧aH (RD (Old w) w) ds cs
theorem X4{τ σ:List DTy}{as bs:List D}(h1:mZ W τ as)(h2:mZ W σ bs):mZ W (τ++σ) (as++bs):=by
 refine⟨by simp [h1.1,h2.1],λj t d ht hd=>?_⟩
 by_cases hj:j<τ.length
 ·rw[List.getElem?_append_left hj] at ht
  rw[List.getElem?_append_left (by rw[h1.1];exact hj)] at hd
  exact h1.2 j t d ht hd
 ·rw[List.getElem?_append_right (by omega)] at ht
  rw[List.getElem?_append_right (by rw[h1.1];omega),h1.1] at hd
  exact h2.2 _ t d ht hd
theorem SA(go:TypeId->Option (List DTy)):∀(l:List (Nat×TypeId)) (o:Nat) (τ:List DTy) (cs:List Value),F8 go P.cellsOf o l=some τ->o+τ.length=cs.length->
  (∀f∈l,∀σ,go f.2=some σ->Opens W P w f.2 σ ((cs.drop f.1).take (P.cellsOf f.2)))->∃ds,mZ W τ ds∧aH (RD (Old w) w) ds (cs.drop o)
 | [],o,τ,cs,h,hl,_=>by
  simp only[F8,agR] at h
  subst h
  refine⟨[],⟨Z,λj t d ht=>by simp at ht⟩,?_⟩
  rw[List.drop_eq_nil_of_le (by simp at hl;omega)]
  trivial
 | (off,ty)::r,o,τ,cs,h,hl,hop=>by
  simp only[F8] at h
  split at h
  ·rename_i a b h1 h2
   cases hb:(Nat.beq off o&&Nat.beq a.length (P.cellsOf ty)) with
   | false=>rw[hb] at h;simp at h
   | true=>
    rw[hb] at h
    simp only[cond_true,agR] at h
    subst h
    simp only[agN] at hb
    have e1:=agU hb.1
    have e2:=agU hb.2
    subst e1
    simp only[List.length_append] at hl
    obtain⟨as,c1,r1⟩:=hop (off,ty) (by simp) a h1
    obtain⟨bs,c2,r2⟩:=SA go r (off+P.cellsOf ty) b cs h2 (by omega) λf hf=>hop f (List.mem_cons_of_mem _ hf)
    refine⟨as++bs,X4 c1 c2,?_⟩
    have:=r1.app r2
    simp only at this
    rwa [show (cs.drop off).take (P.cellsOf ty)++cs.drop (off+P.cellsOf ty)=cs.drop off by rw[←List.drop_drop,List.take_append_drop]] at this
  ·simp at h
theorem vX{P:Program}{e:TypeId}:∀{l:List (DataW H)} {d:DataW H},d∈l->∀n∈d.weights P e,n∈DataW.weightsAll P e l
 | a::l,d,hd,n,hn=>by
  simp only[DataW.weightsAll,List.mem_append]
  rcases List.mem_cons.1 hd with rfl | hd
  ·exact .inl hn
  ·exact .inr (vX hd n hn)
 | [],_,hd,_,_=>by cases hd
theorem zo:∀(k:Nat) (t:TypeId) (τ:List DTy) (fuel:Nat) (cs:List Value) (x:DataW H×List MemPlace),uj P k t=some τ->DataW.trod enc P w 0 spare held fuel t cs=some x->(∀n∈DataW.weights P t x.1,n≤W)->Opens W P w t τ cs
 | 0,t,τ,_,_,_,h,_,_=>by simp [uj] at h
 | k+1,t,τ,fuel,cs,x,h,hx,hwt=>by
  unfold uj at h
  split at h
  ·rename_i hu
   obtain⟨b,rfl,_⟩:=DataW.trod_bool hu hx
   simp only[agR] at h
   subst h
   exact⟨[.bool b],⟨Z,λj t d ht hd=>by
    match j with
    | 0=>simp at ht hd;subst ht hd;exact .bool b
    | j+1=>simp at ht⟩,.bool b,tR⟩
  ·rename_i kd hu
   obtain⟨n,rfl,_,hw⟩:=DataW.trod_int hu hx
   simp only[agR] at h
   subst h
   exact⟨[.int kd n],⟨Z,λj t d ht hd=>by
    match j with
    | 0=>simp at ht hd;subst ht hd;exact .int kd n hw
    | j+1=>simp at ht⟩,.int kd n,tR⟩
  ·rename_i hu
   obtain⟨s,rfl,hxe,hw⟩:=DataW.trod_string hu hx
   have hz:s.size≤W:=by
    have h0:=hwt s.data.toList.length (by
     rw[hxe]
     show _∈DataW.weights P t (.lit (.string s.data.toList))
     rw[DataW.weights]
     exact List.mem_singleton.2 Z)
    rw[Array.length_toList] at h0
    exact h0
   simp only[agR] at h
   subst h
   exact⟨[.str s],⟨Z,λj t d ht hd=>by
    match j with
    | 0=>simp at ht hd;subst ht hd;exact .str s hw hz
    | j+1=>simp at ht⟩,.str s,tR⟩
  ·rename_i e hu
   split at h
   ·rename_i σ hσ
    cases hb:(Nat.beq σ.length (P.cellsOf e)&&Nat.ble 1 σ.length) with
    | false=>rw[hb] at h;simp at h
    | true=>
     rw[hb] at h
     simp only[cond_true,agR] at h
     subst h
     simp only[agN] at hb
     have hsz:=agU hb.1
     have hpos:1≤σ.length:=by simpa using hb.2
     have one:∀d:D,mM W (.sl (P.bytesOf e) σ) d->mZ W [.sl (P.bytesOf e) σ] [d]:=λd hd=>⟨Z,λj t d' ht hd'=>by
      match j with
      | 0=>simp at ht hd';subst ht hd';exact hd
      | j+1=>simp at ht⟩
     rcases DataW.trod_slice hu hx with⟨rfl,_⟩ | ⟨a,len,cap,elems,rest,n,rfl,rfl,hxe,_,hl,hm,hlen,hel,_,_⟩
     ·exact⟨[.sl σ.length 0 λ_=>[]],one _ (.sl _ σ 0 _ (Nat.zero_le _) (by simp) (λi hi=>absurd hi (agV _)) (λi j t d hi=>absurd hi (agV _))),.emp _ _ _ _,tR⟩
     ·have hin:∀y∈elems,∀n∈DataW.weights P e y.1,n≤W:=λy hy n hn=>hwt n (by
       rw[hxe]
       show _∈DataW.weights P t (.slice (elems.map (·.1)) (rest.map (·.1)))
       simp only[DataW.weights,hu,List.mem_cons,List.mem_append]
       exact .inr (.inl (vX (List.mem_map_of_mem hy) n hn)))
      have hz:len*P.bytesOf e≤W:=by
       have h0:=hwt (((elems.map (·.1)).length+(rest.map (·.1)).length)*P.bytesOf e) (by
        rw[hxe]
        show _∈DataW.weights P t (.slice (elems.map (·.1)) (rest.map (·.1)))
        simp only[DataW.weights,hu,List.mem_cons]
        exact .inl tR)
       refine Nat.le_trans (Nat.mul_le_mul_right _ ?_) h0
       simp only[List.length_map]
       omega
      have each:∀i,i<len->∃(cs':List Value) (ds:List D),cs'.length=σ.length∧(∀j,j<σ.length->w.cell? ((a.add (i*σ.length)).add j)=cs'[j]?)∧mZ W σ ds∧aH (RD (Old w) w) ds cs':=λi hi=>by
       have h1:=hel i hi
       obtain⟨y,hy⟩:∃y,elems[i]?=some y:=⟨_,agO (by omega)⟩
       rw[hy,Option.bind_eq_some_iff] at h1
       obtain⟨cs',h2,h3⟩:=h1
       obtain⟨h4,h5⟩:=UZ h2
       obtain⟨ds,h6,h7⟩:=zo k e σ n cs' y hσ h3 (hin y (List.mem_of_getElem? hy))
       rw[←hsz] at h4 h5
       exact⟨cs',ds,h4,h5,h6,h7⟩
      by_cases h0:len=0
      ·subst h0
       exact⟨[.sl σ.length 0 λ_=>[]],one _ (.sl _ σ 0 _ (Nat.zero_le _) (by simp) (λi hi=>absurd hi (agV _)) (λi j t d hi=>absurd hi (agV _))),.emp _ _ _ _,tR⟩
      ·let ff:Nat->List D:=λi=>if h:i<len then Classical.choose (Classical.choose_spec (each i h)) else []
       let cc:Nat->List Value:=λi=>if h:i<len then Classical.choose (each i h) else []
       have prop:∀i,i<len->(cc i).length=σ.length∧(∀j,j<σ.length->w.cell? ((a.add (i*σ.length)).add j)=(cc i)[j]?)∧mZ W σ (ff i)∧aH (RD (Old w) w) (ff i) (cc i):=λi hi=>by
        have e1:ff i=Classical.choose (Classical.choose_spec (each i hi)):=by simp only[ff,hi,dite_true]
        have e2:cc i=Classical.choose (each i hi):=by simp only[cc,hi,dite_true]
        rw[e1,e2]
        exact Classical.choose_spec (Classical.choose_spec (each i hi))
       have hsp:Old w a.block∧a.spot=none:=by
        obtain⟨p1,p2,_⟩:=prop 0 (by omega)
        have hc:=p2 0 (by omega)
        rw[agO (by omega)] at hc
        have:=X3 hc
        simpa [Addr.add] using this
       obtain⟨b,o,sp⟩:=a
       simp only at hsp
       obtain⟨hb',rfl⟩:=hsp
       refine⟨[.sl σ.length len ff],one _ (.sl _ σ len ff (by omega) hz (λi hi=>(prop i hi).2.2.1.1) (λi j t d hi ht hd=>(prop i hi).2.2.1.2 j t d ht hd)),?_,tR⟩
       refine .sl σ.length len ff b o cap (λi j=>((cc i)[j]?).getD undef) hb' hl (λi j hi hj=>?_) (λi hi=>(prop i hi).2.2.1.1) (λi j d hi hd=>?_)
       ·obtain⟨p1,p2,_⟩:=prop i hi
        have hc:=p2 j hj
        rw[Addr.add_lit,Addr.add_lit] at hc
        rw[←Nat.add_assoc,hc,agO (by omega)]
        rfl
       ·obtain⟨p1,p2,p3,p4⟩:=prop i hi
        obtain⟨c,c1,c2⟩:=p4.get hd
        rw[c1]
        exact c2
   ·simp at h
  ·rename_i fs hu
   split at h
   ·rename_i σ hσ
    cases hb:Nat.beq σ.length (P.cellsOf t) with
    | false=>rw[hb] at h;simp at h
    | true=>
     rw[hb] at h
     simp only[cond_true,agR] at h
     subst h
     have hsz:=agU hb
     obtain⟨xs,n,rfl,hxe,hlen,_,hfs⟩:=DataW.trod_struct hu hx
     have:=SA (P:=P) (w:=w) (uj P k) (fs.toList.map λf=>(f.offset,f.type)) 0 σ cs hσ (by omega) (λf hf σ' hσ'=>by
      obtain⟨f0,hf0,rfl⟩:=List.mem_map.1 hf
      obtain⟨i,hi⟩:=List.getElem?_of_mem hf0
      have h1:=hfs i f0 (by simpa using hi)
      have hlt:i<xs.length:=by
       have:=(List.getElem?_eq_some_iff.1 hi).1
       simp at this
       omega
      rw[agO hlt] at h1
      exact zo k f0.type σ' n _ _ hσ' h1 (λm hm=>hwt m (by
       rw[hxe]
       show _∈DataW.weights P t (.agg (xs.map (·.1)))
       simp only[DataW.weights,hu]
       exact DataW.weights_mem_each (j:=i) (by simpa using congrArg (Option.map Field.type) hi) (by simp [agO hlt]) m hm)))
     rw[List.drop_zero] at this
     exact this
   ·simp at h
  ·simp at h
theorem DY{t:TypeId}{r:Reach}{base:Nat}{v:Value}{d:DataW H}{ps:List MemPlace}{τ:List DTy}{fs:Array Field}(k:Nat)(hok:Value.okWide P w r base t v)(h:DataW.Trod enc P w 0 spare held t v d ps)
  (hu:P.underlying t=some (.struct fs)) (hf:uj P k t=some τ) (hwt:∀n∈DataW.weights P t d,n≤W):∃(cs:List Value) (ds:List D),v=.agg cs.toArray∧mZ W τ ds∧aH (RD (Old w) w) ds cs:=by
 unfold Value.okWide at hok
 rw[hu] at hok
 obtain⟨cs,rfl,_,_⟩:=hok
 obtain⟨fuel,h⟩:=h
 obtain⟨ds,hc,hr⟩:=zo k t τ fuel _ _ hf h hwt
 exact⟨cs.toList,ds,by simp,hc,hr⟩
end
theorem DEq.rfl'(d:D):DEq d d:=by
 cases d with
 | int k n=>show bif y7 k k then n=n else False;simp [y7]
 | bool b=>exact rfl
 | str s=>exact rfl
 | sl z n f=>exact⟨rfl,λ_=>rfl,λ_ _=>rfl⟩
 | nf=>trivial
 | ni=>trivial
 | np=>trivial
 | ifc t ns=>exact⟨rfl,rfl⟩
 | mp l=>exact rfl
 | nm=>trivial
theorem av{d d':D}(h:d=d'):VEq (.d d) (.d d'):=by subst h;exact DEq.rfl' d
inductive DQ:D->D->Prop
 | refl (d:D):DQ d d
 | emp (z z':Nat) (f f':Nat->List D):DQ (.sl z 0 f) (.sl z' 0 f')
 | sl (z n:Nat) (f f':Nat->List D) (hl:∀i,i<n->(f i).length=(f' i).length) (h:∀(i j:Nat) (d d':D),i<n->(f i)[j]?=some d->(f' i)[j]?=some d'->DQ d d'):DQ (.sl z n f) (.sl z n f')
theorem DQ.sound{F:Nat->Prop}{w:World}{d d':D}(h:DQ d d'):∀{v:Value},RD F w d v->RD F w d' v:=by
 induction h with
 | refl d=>exact λh=>h
 | emp z z' f f'=>intro v hr;cases hr<;>exact .emp _ _ _ _
 | sl z n f f' hl _ ih=>
  intro v hr
  cases hr with
  | emp=>exact .emp _ _ _ _
  | sl _ _ _ b o cap cs hF hn hc hlen hrr=>
   refine .sl _ _ _ b o cap cs hF hn hc (λi hi=>by rw[←hl i hi];exact hlen i hi) (λi j d' hi hd'=>?_)
   have hj:j<(f i).length:=by rw[hl i hi];exact (List.getElem?_eq_some_iff.1 hd').1
   exact ih i j _ d' hi (agO hj) hd' (hrr i j _ hi (agO hj))
theorem X5{b:Nat}{σ:DTy}{x:D}(h:mM W (.sl b [σ]) x):∃(n:Nat) (g:Nat->D),DQ x (.sl 1 n λi=>[g i])∧(n≤maxLen∧n*b≤W)∧∀i,i<n->mM W σ (g i):=by
 cases h with
 | sl _ _ n f hn hz hl hc=>
  have one:∀i,i<n->∃d,f i=[d]:=λi hi=>by
   have:=hl i hi
   match hf:f i with
   | [d]=>exact⟨d,rfl⟩
   | []=>rw[hf] at this;cases this
   | _::_::_=>rw[hf] at this;simp at this
  refine⟨n,λi=>(f i).headD (.bool false),.sl 1 n f _ (λi hi=>by rw[hl i hi];rfl) (λi j d d' hi hd hd'=>?_),⟨hn,hz⟩,λi hi=>?_⟩
  ·obtain⟨y,hy⟩:=one i hi
   dsimp only at hd'
   rw[hy] at hd hd'
   match j with
   | 0=>simp at hd hd';subst hd hd';exact .refl _
   | j+1=>simp at hd
  ·obtain⟨y,hy⟩:=one i hi
   show mM W σ ((f i).headD (.bool false))
   rw[hy]
   exact hc i 0 σ y hi Z (by rw[hy];rfl)
theorem DQ.trans{a b:D}(h:DQ a b):∀{c:D},DQ b c->DQ a c:=by
 induction h with
 | refl d=>exact λh=>h
 | emp z z' f f'=>
  intro c hc
  cases hc with
  | refl=>exact .emp _ _ _ _
  | emp=>exact .emp _ _ _ _
  | sl _ _ _ f''=>exact .emp _ _ _ _
 | sl z n f f' hl h ih=>
  intro c hc
  cases hc with
  | refl=>exact .sl z n f f' hl h
  | emp=>exact .emp _ _ _ _
  | sl _ _ _ f'' hl' h'=>
   refine .sl z n f f'' (λi hi=>(hl i hi).trans (hl' i hi)) λi j d d'' hi hd hd''=>?_
   have hj:j<(f' i).length:=by rw[←hl i hi];exact (List.getElem?_eq_some_iff.1 hd).1
   exact ih i j d _ hi hd (agO hj) (h' i j _ d'' hi (agO hj) hd'')
def SB(l:List Int):D:=.sl 1 l.length λj=>[.int .i64 (l.getD j 0)]
theorem fF{k:IntKind}{x:D}(h:mM W (.int k) x):∃n,x=.int k n∧(Lit.int k n).wf=true:=by
 cases h with
 | int _ n h=>exact⟨n,rfl,h⟩
theorem Jq{b:Nat}{x:D}(h:mM W (.sl b [.int .i64]) x):∃l:List Int,DQ x (SB l)∧(l.length≤maxLen∧l.length*b≤W)∧∀y∈l,(Lit.int .i64 y).wf=true:=by
 obtain⟨n,g,hq,hn,hg⟩:=X5 h
 let num:D->Int:=fun | .int _ n=>n | _=>0
 have IK:∀i,i<n->g i=.int .i64 (num (g i))∧(Lit.int .i64 (num (g i))).wf=true:=λi hi=>by
  obtain⟨m,e,hw⟩:=fF (hg i hi)
  rw[e]
  exact⟨Z,hw⟩
 refine⟨(List.range n).map λi=>num (g i),hq.trans ?_,by simpa using hn,λy hy=>?_⟩
 ·unfold SB
  rw[show ((List.range n).map λi=>num (g i)).length=n by simp]
  refine .sl 1 n _ _ (λi hi=>rfl) λi j d d' hi hd hd'=>?_
  match j with
  | 0=>
   simp only[List.getElem?_cons_zero,agR] at hd hd'
   subst hd hd'
   rw[(IK i hi).1]
   simp [agM,hi]
   exact .refl _
  | j+1=>simp at hd
 ·obtain⟨i,hi,rfl⟩:=List.mem_map.1 hy
  exact (IK i (List.mem_range.1 hi)).2
section
variable{C:Ctx}{s:St}{a:Act}{w w':World}{ρ:Nat->Value}{F:Nat->Prop}{g:Cfg}{K:List Item}{Φ:Exit->St->Prop}
end
namespace Cr
variable{P:Pg}{g:Cfg}{C:Ctx}(x:Cr P g C){s s' s1:St}{K K':List Item}{Φ:Exit->St->Prop}{ob:List Prop}
include x
end Cr
end Go.Sx
namespace Go.Sx
theorem ah{d d':D}(h:d=d'):aI (.d d) (.d d'):=by subst h;exact DEq.rfl' d
theorem ME{W:Nat}{x:D}(h:mM W .str x):∃s,x=.str s∧s.size≤maxLen∧s.size≤W:=by
 cases h with
 | str s h1 h2=>exact⟨s,rfl,h1,h2⟩
structure OpV where
 k:Int
 s:Int
 a:Int
 b:Int
 c:Int
 l:List Int
 m:List Int
 v:Int
 e:Int
instance : Inhabited OpV := ⟨⟨0, 0, 0, 0, 0, [], [], 0, 0⟩⟩
def dOp(o:OpV):List D:=[.int .u8 o.k,.int .u8 o.s,.int .i64 o.a,.int .i64 o.b,.int .i64 o.c,SB o.l,SB o.m,.int .i64 o.v,.int .i64 o.e]
def um(l:List OpV):D:=.sl 9 l.length λj=>dOp (l.getD j default)
def codes:List Code->List Item->List Item
 | [],K=>K
 | c::r,K=>.code c::codes r K
def Jr(Φ:Exit->St->Prop):Exit->St->Prop
 | .ret,s=>Φ .ret s
 | _,_=>False
theorem sj{C:Ctx}{Q:Exit->Act->World->Prop}{K:List Item}{e:Exit}(he:e≠.normal){a:Act}{w:World}:∀f:List Code,den C Q (codes f K) e a w=den C Q K e a w
 | []=>rfl
 | c::r=>by
  have:=sj (C:=C) (Q:=Q) (K:=K) he (a:=a) (w:=w) r
  cases e with
  | normal=>exact absurd rfl he
  | _=>exact this
theorem Js{C:Ctx}{Φ:Exit->St->Prop}{Q:Exit->Act->World->Prop}{J:St->Prop}{K:List Item}
  (h1:∀s a w,Sat C s a w->J s->den C Q K .normal a w) (h2:∀s a w,Sat C s a w->Φ .ret s->den C Q K .ret a w) :
  ∀(f:List Code) (a:Act) (w:World),den C (gP C (Jr Φ)) (codes f [.back J]) .normal a w->den C Q (codes f K) .normal a w
 | [],a,w,h=>by
  obtain⟨s,hs,hj⟩:=h
  exact h1 s a w hs hj
 | c::r,a,w,h=>by
  refine tu h λe a w hq=>?_
  cases e with
  | normal=>exact Js h1 h2 r a w hq
  | ret=>
   have hq:den C (gP C (Jr Φ)) (codes r [.back J]) .ret a w:=hq
   rw[sj (by simp)] at hq
   show den C Q (codes r K) .ret a w
   rw[sj (by simp)]
   obtain⟨s,hs,hj⟩:=hq
   exact h2 s a w hs hj
  | _=>
   have:=hq
   change den C (gP C (Jr Φ)) (codes r [.back J]) _ a w at this
   rw[sj (by simp)] at this
   obtain⟨s,_,hj⟩:=this
   exact hj.elim
section
variable{C:Ctx}{s:St}{a:Act}{w w':World}{ρ:Nat->Value}{F:Nat->Prop}{g:Cfg}{K:List Item}{Φ:Exit->St->Prop}
end
section
variable{C:Ctx}{s:St}{K:List Item}{Φ:Exit->St->Prop}
end
namespace Cr
variable{P:Pg}{g:Cfg}{C:Ctx}(x:Cr P g C){s s':St}{K K':List Item}{Φ:Exit->St->Prop}{ob:List Prop}
include x
end Cr
end Go.Sx
namespace Go.Sx
inductive Out where
 | ret (r:V) (H':List Ch)
 | die (t:TypeId) (ns:List (IntKind×Int))
def aaJ(t:TypeId)(ns:List (IntKind×Int)):Value:=.iface t (.agg (ns.map λx=>Value.int x.1 x.2).toArray)
def IL(t:TypeId)(ns:List (IntKind×Int)):List PanicEntry:=[{v:=aaJ t ns,recovered:=false}]
def IQ(P:Pg)(f:FuncId)(args:List V)(H:List Ch)(t:TypeId)(ns:List (IntKind×Int)):Prop:=
 eO P.P f∧aN args H H.length=true∧
 ∀(w:World) (F:Nat->Prop) (ρ:Nat->Value) (vals:List Value),(∀k,F k->k<w.heap.size)->jG P.env F w->Holds ρ F w H->aH (R3 ρ F w) args vals->
  Calls P.P f vals.toArray w λe w'=>e=.panicked (IL t ns)∧Keeps w (ownB ρ H) w'
def aX(P:Pg)(f:FuncId)(fix:Nat)(args:List V)(H:List Ch):Out->Prop
 | .ret r H'=>aG P f fix args H r H'
 | .die t ns=>IQ P f args H t ns
def X6(t:TypeId)(ns:List (IntKind×Int)):Exit->St->Prop:=λe s=>e=.panic (IL t ns)∧s.L=[]
def gQ(g:Cfg)(rs:List ResultVar)(ids:List Nat):Out->Exit->St->Prop
 | .ret r H'=>Ret g rs ids r H'
 | .die t ns=>X6 t ns
def SC(g:Cfg)(args:List V)(H:List Ch):Out->Bool
 | .ret r H'=>Nat.ble args.length g.n&&aN args H H.length&&aN [r] H' H'.length&&Nat.ble g.fix H.length&&Nat.ble H.length H'.length
 | .die _ _=>Nat.ble args.length g.n&&aN args H H.length&&Nat.ble g.fix H.length
def rC(ops:Array Oper)(Φ:Exit->St->Prop):Prop:=∀c s,Φ (.panic c) s->∀t v,(t,v)∈s.L->isG v=false∧∀o∈ops.toList,o.dst≠some t
theorem U0{ops:Array Oper}{s:St}(h:s.L=[]):∀t v,(t,v)∈s.L->isG v=false∧∀o∈ops.toList,o.dst≠some t:=λt v hv=>by rw[h] at hv;cases hv
theorem X6.quiet{ops:Array Oper}{t:TypeId}{ns:List (IntKind×Int)}:rC ops (X6 t ns):=λc s h=>U0 h.2
theorem gQ.quiet{ops:Array Oper}{g:Cfg}{rs:List ResultVar}{ids:List Nat}:∀{o:Out},rC ops (gQ g rs ids o)
 | .ret _ _=>λc s h=>absurd h (Ret.bG c s)
 | .die _ _=>X6.quiet
theorem NoPanic.quiet{ops:Array Oper}{Φ:Exit->St->Prop}(h:NoPanic Φ):rC ops Φ:=λc s hh=>absurd hh (h c s)
theorem kT{C:Ctx}{Q:Exit->Act->World->Prop}:∀(K:List Item) (c:_) (a:Act) (w:World),den C Q K (.panic c) a w=Q (.panic c) a w
 | [],c,a,w=>rfl
 | .code _::K,c,a,w=>kT K c a w
 | .ops _ _::K,c,a,w=>kT K c a w
 | .blk _::K,c,a,w=>kT K c a w
 | .back _::K,c,a,w=>kT K c a w
section
variable{C:Ctx}{s:St}{a:Act}{w w':World}{ρ:Nat->Value}{F:Nat->Prop}{g:Cfg}
theorem aaK{tmps aeE:Array Value}{v:V}{x:Value}(hg:isG v=false)(h:RS tmps ρ F w v x):RS aeE ρ F w v x:=by
 cases v<;>first | exact h | cases hg
theorem Sat.U1{d:Option Nat}{v:Value}(hs:∀t v,(t,v)∈s.L->isG v=false∧d≠some t)(h:Sat C s (a.put d v) w):Sat C s a w:=by
 obtain⟨ρ,F,h⟩:=h
 refine⟨ρ,F,{size:=?_,defers:=?_,slot:=λt u hu=>?_,ch:=h.ch,sep:=h.sep,out:=h.out,aR:=h.aR,aK:=h.aK,lt:=h.lt,mine:=h.mine,sub:=h.sub,base:=h.base,cu:=h.cu,keep:=h.keep,env:=h.env}⟩
 ·have:=h.size
  cases d with
  | none=>exact this
  | some d=>simpa [Act.put] using this
 ·have:=h.defers
  cases d with
  | none=>exact this
  | some d=>exact this
 ·obtain⟨x,hx,hr⟩:=h.slot t u hu
  obtain⟨h1,h2⟩:=hs t u hu
  refine⟨x,?_,aaK h1 hr⟩
  cases d with
  | none=>exact hx
  | some d=>
   have hne:d≠t:=λe=>h2 (by rw[e])
   simp only[Act.put] at hx
   rwa [Array.getElem?_setIfInBounds_ne hne] at hx
theorem o7{Φ:Exit->St->Prop}{ops:Array Oper}(hΦ:rC ops Φ)(K:List Item)(c:_){o:Oper}(ho:o∈ops.toList)(v:Value)(a:Act)(w:World)(h:den C (gP C Φ) K (.panic c) (a.put o.dst v) w):den C (gP C Φ) K (.panic c) a w:=by
 rw[kT] at h ⊢
 obtain⟨s,h1,h2⟩:=h
 exact⟨s,h1.U1 λt v hv=>⟨(hΦ c s h2 t v hv).1,(hΦ c s h2 t v hv).2 o ho⟩,h2⟩
def okD(m:Nat)(is:List Nat)(k:Nat):Bool:=nodupB is&&is.all (λi=>Nat.blt i m)&&Nat.beq is.length k
theorem U2(h:aF C s a w ρ F){q:List (Nat×Bool)}(hq:pcA a.tmps q){o:Oper}{f:FuncId}{A:List V}(hco:jL s.L q o=some (f,A))(hcall:eO C.P f)
  {is:List Nat} {args:List V} {H:List Ch} (hfr:aN args H H.length=true) (hA:AEq A (args.map (V.dz (cK is)))) (hok:okD s.m is H.length=true) (hH:HLE s.H (rnH is is H)) :
  ∃vals:List Value,(execOp a.eval o).run C.P w=.ok (.enter f vals.toArray) w∧aH (R3 (λi=>ρ (nth is i)) F w) args vals∧Holds (λi=>ρ (nth is i)) F w H:=by
 unfold jL at hco
 split at hco
 ·rename_i c hop
  split at hco
  ·rename_i fo hc
   split at hco
   ·rename_i f' caps A' he hes
    simp only[agR,agW] at hco
    obtain⟨rfl,rfl⟩:=hco
    obtain⟨cs,hcs,vR⟩:=(show R1 ρ F w (.fn f' caps) _ from (aC h hq he).1)
    have hargs:=(jB h hq hes).1
    simp only[okD,agN,List.all_eq_true] at hok
    obtain⟨⟨o1,o2⟩,o4⟩:=hok
    have KC:=agU o4
    simp only[aN,agN,List.all_eq_true] at hfr
    have yR:c.args.map a.eval++cs.toArray=(c.args.toList.map a.eval++cs).toArray:=by
     cases c.args;simp
    have hall:aH (R3 ρ F w) (A'++caps) (c.args.toList.map a.eval++cs):=hargs.app (vR.mono λu v hr=>kE (jE (rQ hr)))
    have FK:=lJ hA hall
    have FL:aH (R3 (λi=>ρ (nth is i)) F w) args (c.args.toList.map a.eval++cs):=FK.unmap λu v hu hr=>R3.dW (k:=H.length) (λ_ _=>rfl) (hfr.1 u hu) hr
    refine⟨_,by rw[←yR];exact Ar hop hc hcs hcall w,FL,?_⟩
    have hx:∀i,i<H.length->∃c,H[i]?=some c∧∃c0,(nth is i,c0)∈s.H∧mH c0 (c.map (cK is)):=λi hi=>by
     obtain⟨c0,k1,k2⟩:=oz KC hH (agO hi)
     exact⟨_,agO hi,c0,k1,k2⟩
    refine⟨λi c hc=>?_,λi j b hi hj hij e=>?_,λi b hi e=>?_⟩
    ·have hi:=(List.getElem?_eq_some_iff.1 hc).1
     obtain⟨c',hc',c0,k1,k2⟩:=hx i hi
     rw[hc] at hc'
     obtain rfl:=agS hc'
     exact jf.dW (k:=H.length) (ρ:=λi=>ρ (nth is i)) (λ_ _=>rfl) hi (hfr.2 c (List.mem_of_getElem? hc)).1 (jg k2 (h.ch _ _ k1))
    ·obtain⟨_,_,c0,k1,_⟩:=hx i hi
     obtain⟨_,_,c1,k3,_⟩:=hx j hj
     exact λe2=>h.sep _ _ c0 c1 b k1 k3 (iq o1 i j (by omega) (by omega) hij) (aT e) (aT e2)
    ·obtain⟨_,_,c0,k1,_⟩:=hx i hi
     exact h.out _ c0 b k1 (aT e)
   ·simp at hco
  ·simp at hco
 ·simp at hco
def DZ(pins:List Nat):List (Nat×V)->List (Nat×V)
 | []=>[]
 | (t,v)::r=>bif inL t pins&&!isG v then (t,v)::DZ pins r else DZ pins r
theorem xM{pins:List Nat}{t:Nat}{v:V}:∀{L:List (Nat×V)},(t,v)∈DZ pins L->(t,v)∈L
 | (t',v')::r,h=>by
  simp only[DZ] at h
  cases hb:(inL t' pins&&!isG v') with
  | true=>
   rw[hb] at h
   simp only[cond_true,List.mem_cons] at h
   rcases h with h | h
   ·rw[h];exact List.mem_cons_self
   ·exact List.mem_cons_of_mem _ (xM h)
  | false=>rw[hb] at h;exact List.mem_cons_of_mem _ (xM h)
theorem aF.died(pins:List Nat)(h:aF C s a w ρ F){is:List Nat}{H:List Ch}(hok:okD s.m is H.length=true)(hH:HLE s.H (rnH is is H))(hk:Keeps w (ownB (λi=>ρ (nth is i)) H) w') :
  aF C ⟨DZ pins s.L,aJ is s.H,s.m⟩ a w' ρ F:=by
 simp only[okD,agN,List.all_eq_true] at hok
 obtain⟨⟨o1,o2⟩,o4⟩:=hok
 have KC:=agU o4
 have hE:∀b,ownB (λi=>ρ (nth is i)) H b->∃p c0,p<is.length∧(nth is p,c0)∈s.H∧bks ρ (nth is p) c0 b:=λb hb=>by
  obtain⟨p,hp,hb⟩:=hb
  obtain⟨c0,k1,_⟩:=oz KC hH (agO hp)
  exact⟨p,c0,by omega,k1,aT hb⟩
 have hwF:∀k,F k->w'.heap[k]?=w.heap[k]?:=λk hk'=>hk.block k (h.lt k hk') (λhb=>by
  obtain⟨p,c0,hp,k1,k2⟩:=hE k hb
  exact h.out _ c0 k k1 k2 hk')
 have Qb:Keeps C.w0 C.E w':=⟨hk.os.trans h.keep.os,hk.tape.trans h.keep.tape,hk.output.trans h.keep.output,Nat.le_trans h.keep.size hk.size,λk hk0 hne=>by
  refine (hk.block k (Nat.lt_of_lt_of_le hk0 h.keep.size) (λhb=>?_)).trans (h.keep.block k hk0 hne)
  obtain⟨p,c0,hp,k1,k2⟩:=hE k hb
  rcases h.mine _ c0 k k1 k2 with h1 | h1
  ·omega
  ·exact hne h1⟩
 refine h.change (λu=>u) (λu v hu hr=>hr.keep (x:=s.m) (λ_ _=>rfl) (λ_=>id) hwF (jH (Nat.le_refl _) hu)) (λt v hv=>⟨⟨v,xM hv,(tK v).symm⟩,h.aR t v (xM hv)⟩) (λi c hc=>?_) (λ_=>id) hwF (λk hk'=>Nat.lt_of_lt_of_le (h.lt k hk') hk.size) Qb (Nat.le_refl _) h.sub h.cu.2
 obtain⟨hc,hni⟩:=bn hc
 refine⟨⟨c,hc,(kF c).symm⟩,(h.aK i c hc).2,Z,λb e=>⟨hk.block b ((h.ch i c hc).lt e) (λhb=>?_),h.out i c b hc e⟩⟩
 obtain⟨p,c1,hp,k1,k2⟩:=hE b hb
 exact h.sep i (nth is p) c c1 b hc k1 (λe2=>hni (by rw[e2];exact tX hp)) e k2
theorem Oper.upon_enter'{P:Program}{o:Oper}{a:Act}{w:World}{f:FuncId}{vals:Array Value}{K:Act->World->Prop}{Q:Exit->Act->World->Prop}(h:(execOp a.eval o).run P w=.ok (.enter f vals) w){c:List PanicEntry}{R:World->Prop}
  (hc:Calls P f vals w λe w'=>e=.panicked c∧R w') (hQ:∀w',R w'->Q (.panic c) a w') {rr:Option Nat}:wqO rr P o a w K Q:=by
 refine qZ h tR ?_
 rw[Oper.upon_enter]
 refine hc.mono ?_
 rintro e w' ⟨rfl,hr⟩
 exact hQ w' hr
end
namespace Cr
variable{P:Pg}{g:Cfg}{C:Ctx}(x:Cr P g C){s s':St}{K K':List Item}{Φ:Exit->St->Prop}{ob:List Prop}
include x
theorem ED(pins is:List Nat){all:Array Oper}{o:Oper}{rest:List Oper}{args A:List V}{H:List Ch}{f d:Nat}{t:TypeId}{ns:List (IntKind×Int)}(h:run g 1000 K s []=.op ob all o rest K' s')(ho:ak ob)
  (hco:jN g s' o=some (f,A,d)) (hp:IQ P f args H t ns) (hA:AEq A (args.map (V.dz (cK is)))) (hok:okD s'.m is H.length=true) (hH:HLE s'.H (rnH is is H))
  (k:Φ (.panic (IL t ns)) ⟨DZ pins s'.L,aJ is s'.H,s'.m⟩):Go C K s Φ:=by
 refine st x.ty x.n x.fix h ⟨ho,?_⟩
 unfold jN at hco
 split at hco
 ·rename_i d' hg hd
  cases hb:Nat.blt d' g.n with
  | false=>rw[hb] at hco;simp at hco
  | true=>
   rw[hb] at hco
   simp only[cond_true] at hco
   split at hco
   ·rename_i f' A' hc
    simp only[agR,agW] at hco
    obtain⟨rfl,rfl,rfl⟩:=hco
    rintro a w ⟨ρ,F,hs⟩
    obtain⟨h1,h2,h3⟩:=hp
    rw[←x.rY] at h1 h3
    obtain⟨vals,r1,r2,r3⟩:=U2 hs (dn _) hc h1 h2 hA hok hH
    have Qf:jG P.env F w:=by have:=hs.env;rwa [show C.env=P.env from congrArg Pg.env x.prog] at this
    show gD C.rd C.P all (den C (gP C Φ) K') (o::rest) a w
    refine jW hg λN hN=>?_
    refine Oper.upon_enter' r1 (h3 w F _ vals hs.lt Qf r3 r2) λw' hk=>?_
    rw[kT]
    exact⟨_,⟨ρ,F,hs.died pins hok hH hk⟩,k⟩
   ·simp at hco
 ·simp at hco
theorem die(is:List Nat){all:Array Oper}{o:Oper}{rest:List Oper}{args A:List V}{H:List Ch}{f d:Nat}{t:TypeId}{ns:List (IntKind×Int)}(h:run g 1000 K s []=.op ob all o rest K' s')(ho:ak ob)
  (hco:jN g s' o=some (f,A,d)) (hp:IQ P f args H t ns) (hA:AEq A (args.map (V.dz (cK is)))) (hok:okD s'.m is H.length=true) (hH:HLE s'.H (rnH is is H))
  (k:Φ (.panic (IL t ns)) ⟨[],aJ is s'.H,s'.m⟩):Go C K s Φ:=
 ED x [] is h ho hco hp hA hok hH (by
  have:∀L,DZ [] L=[]:=λL=>by induction L with
   | nil=>rfl
   | cons e L ih=>obtain⟨t,v⟩:=e;simp [DZ,inL,ih]
  rw[this];exact k)
theorem raise{all:Array Oper}{o:Oper}{rest:List Oper}{y:Operand}{t:TypeId}{ns:List (IntKind×Int)}(h:run g 1000 K s []=.op ob all o rest K' s')(ho:ak ob)(hgd:o.guard=none)(hop:o.op=.panic y)(hy:ev s'.L [] y=some (.d (.ifc t ns)))
  (k:Φ (.panic (IL t ns)) ⟨[],s'.H,s'.m⟩):Go C K s Φ:=by
 refine st x.ty x.n x.fix h ⟨ho,?_⟩
 rintro a w ⟨ρ,F,hs⟩
 show gD C.rd C.P all (den C (gP C Φ) K') (o::rest) a w
 refine jW hgd λN hN=>?_
 have hv:=(aC hs (dn _) hy).1
 generalize hev:a.eval y=vy at hv
 cases (show RD F w _ _ from hv)
 have hrun:(execOp a.eval o).run C.P w=.halt (.panic (aaJ t ns)) w:=by
  simp only[execOp,hop,hev,Instr.panic]
  rfl
 refine Xe hrun ?_
 rw[kT]
 exact⟨⟨[],s'.H,s'.m⟩,⟨ρ,F,{size:=hs.size,defers:=hs.defers,slot:=λt v hv=>(by cases hv),ch:=hs.ch,sep:=hs.sep,out:=hs.out,aR:=λt v hv=>(by cases hv),aK:=hs.aK,lt:=hs.lt,mine:=hs.mine,sub:=hs.sub,base:=hs.base,cu:=hs.cu,keep:=hs.keep,env:=hs.env}⟩,k⟩
end Cr
theorem IQ.intro {P:Pg} {f:FuncId} {fn:Func} {c:Code} {args:List V} {H:List Ch} {t:TypeId} {ns:List (IntKind×Int)} (hf:P.P.funcs[f]?=some fn) (hb:fn.body=some c) (hname:(fn.name == "runtime.NumGoroutine")=false)
  {g:Cfg} (hn:g.n=fn.ntmps) (hlen:Nat.ble args.length g.n=true) (hfr:aN args H H.length=true) (hfx:Nat.ble g.fix H.length=true)
  (hgo:∀(C:Ctx),C.pg=P->g.n=C.n->g.fix=C.fix->C.rd=none->Go C [.code c] ⟨ixV 0 args,ixC 0 H,H.length⟩ (X6 t ns)):IQ P f args H t ns:=by
 refine⟨⟨fn,hf,by rw[hb];rfl,hname⟩,hfr,λw F ρ vals hF hE hH hargs=>?_⟩
 have XO:g.fix≤H.length:=by simpa using hfx
 have hlen':args.length≤g.n:=by simpa using hlen
 have hvl:=hargs.length
 simp only[aN,agN,List.all_eq_true] at hfr
 let C:Ctx:={P:=P.P,env:=P.env,n:=g.n,w0:=w,E:=ownB ρ H,F0:=F,ρ0:=ρ,fix:=g.fix,defs:=[]}
 refine calls_of_wp hf hb ?_
 have XP:Sat C ⟨ixV 0 args,ixC 0 H,H.length⟩ {tmps:=vals.toArray++Array.replicate (fn.ntmps-vals.toArray.size) undef,defers:=[]} w:=by
  refine⟨ρ,F,{size:=?_,defers:=.start Z,slot:=?_,ch:=?_,sep:=?_,out:=?_,aR:=?_,aK:=?_,lt:=hF,mine:=?_,sub:=λk hk=>.inl hk,base:=λ_ hk=>hk,cu:=⟨XO,λ_ _=>rfl⟩,keep:=⟨Z,Z,Z,Nat.le_refl _,λ_ _ _=>rfl⟩,env:=hE}⟩
  ·simp only[Array.size_append,List.size_toArray,Array.size_replicate]
   show _=g.n
   omega
  ·intro t v hv
   obtain⟨_,hv⟩:=tT hv
   obtain⟨x,hx,hr⟩:=hargs.get hv
   refine⟨x,?_,iK hr⟩
   simp only[Nat.sub_zero] at hx
   have:t<vals.length:=(List.getElem?_eq_some_iff.1 hx).1
   rw[Array.getElem?_append_left (by simpa using this)]
   simpa using hx
  ·intro i c hc
   obtain⟨_,hc⟩:=fK hc
   exact hH.ch i c (by simpa using hc)
  ·intro i j ci cj b hi hj hij e
   obtain⟨_,hi⟩:=fK hi
   obtain⟨_,hj⟩:=fK hj
   exact λe2=>hH.sep i j b (by simpa using (List.getElem?_eq_some_iff.1 hi).1) (by simpa using (List.getElem?_eq_some_iff.1 hj).1) hij (dI (hfr.2 ci (List.mem_of_getElem? hi)).2 e) (dI (hfr.2 cj (List.mem_of_getElem? hj)).2 e2)
  ·intro i ci b hi e
   obtain⟨_,hi⟩:=fK hi
   exact hH.out i b (by simpa using (List.getElem?_eq_some_iff.1 hi).1) (dI (hfr.2 ci (List.mem_of_getElem? hi)).2 e)
  ·intro t v hv
   obtain⟨_,hv⟩:=tT hv
   obtain⟨x,hx,hr⟩:=hargs.get hv
   have:=hfr.1 v (List.mem_of_getElem? hv)
   cases v<;>first | exact this | exact (show False from hr).elim
  ·intro i ci hi
   obtain⟨_,hi⟩:=fK hi
   exact⟨by simpa using (List.getElem?_eq_some_iff.1 hi).1,(hfr.2 ci (List.mem_of_getElem? hi)).1⟩
  ·intro i ci b hi e
   obtain⟨_,hi⟩:=fK hi
   exact .inr ⟨i,by simpa using (List.getElem?_eq_some_iff.1 hi).1,dI (hfr.2 ci (List.mem_of_getElem? hi)).2 e⟩
 refine wp_mono (tq.1 (hgo C Z Z Z Z _ _ XP)) ?_
 rintro e a' w' ⟨s',⟨ρ',F',h'⟩,rfl,_⟩
 exact⟨h'.defers.none Z,Z,h'.keep⟩
theorem aX.mk {P:Pg} (g:Cfg) (yG:bV P.P g.tys) (ids:List Nat) {f:FuncId} {fn:Func} {c:Code} {args:List V} {H:List Ch} {out:Out} {rs:List ResultVar} (hf:P.P.funcs[f]?=some fn) (hb:fn.body=some c) (hname:(fn.name == "runtime.NumGoroutine")=false)
  (hn:g.n=fn.ntmps) (hrs:fn.results=rs.toArray) (hok:SC g args H out=true)
  (hgo:∀(C:Ctx),Cx P g C->Go C [.code c] ⟨ixL args,ixH H,Qe H⟩ (gQ g rs ids out)):aX P f g.fix args H out:=by
 cases out with
 | ret r H'=>exact aG.mk g yG ids hf hb hname hn hrs hok hgo
 | die t ns=>
  simp only[SC,agN] at hok
  exact IQ.intro hf hb hname hn hok.1.1 hok.1.2 hok.2 λC e1 e2 e3 e4=>by rw[←FP,←FQ,←Au];exact hgo C ⟨⟨e1,e2,e3,yG⟩,e4⟩
end Go.Sx
namespace Go.Sx
def eU(ρ:Nat->Value)(H:List (Nat×Ch))(is:List Nat):Nat->Prop:=λb=>∃i c,inL i is=true∧(i,c)∈H∧bks ρ i c b
def fM(is:List Nat):List (Nat×Ch)->List (Nat×Ch)
 | []=>[]
 | (i,c)::r=>bif inL i is then (i,c)::fM is r else fM is r
theorem bY{is:List Nat}{H:List (Nat×Ch)}{i:Nat}{c:Ch}(h:(i,c)∈fM is H):(i,c)∈H∧inL i is=true:=by
 induction H with
 | nil=>cases h
 | cons e r ih=>
  obtain⟨j,d⟩:=e
  unfold fM at h
  cases hj:inL j is with
  | false=>rw[hj] at h;simp at h;exact⟨List.mem_cons_of_mem _ (ih h).1,(ih h).2⟩
  | true=>
   rw[hj] at h
   simp only[cond_true,List.mem_cons,agW] at h
   rcases h with⟨rfl,rfl⟩ | h
   ·exact⟨by simp,hj⟩
   ·exact⟨List.mem_cons_of_mem _ (ih h).1,(ih h).2⟩
section
variable{C:Ctx}{s:St}{a:Act}{w:World}{ρ:Nat->Value}{F:Nat->Prop}
def Ctx.sub(C:Ctx)(s:St)(is:List Nat)(w:World)(ρ:Nat->Value)(F:Nat->Prop):Ctx:={C with w0:=w,E:=eU ρ s.H is,F0:=F,ρ0:=ρ,fix:=s.m}
theorem aF.frame(h:aF C s a w ρ F)(is:List Nat):aF (C.sub s is w ρ F) ⟨s.L,fM is s.H,s.m⟩ a w ρ F where
 size:=h.size
 defers:=h.defers
 slot:=h.slot
 ch i c hi:=h.ch i c (bY hi).1
 sep i j ci cj b hi hj:=h.sep i j ci cj b (bY hi).1 (bY hj).1
 out i c b hi:=h.out i c b (bY hi).1
 aR:=h.aR
 aK i c hi:=h.aK i c (bY hi).1
 lt:=h.lt
 mine i c b hi e:=.inr ⟨i,c,(bY hi).2,(bY hi).1,e⟩
 sub k hk:=.inl hk
 base k hk:=hk
 cu:=⟨Nat.le_refl _,λ_ _=>rfl⟩
 keep:=⟨Z,Z,Z,Nat.le_refl _,λ_ _ _=>rfl⟩
 env:=h.env
theorem aF.EP(h:aF C s a w ρ F){is:List Nat}{s1:St}{a1:Act}{w1:World}{ρ1:Nat->Value}{F1:Nat->Prop}(h1:aF (C.sub s is w ρ F) s1 a1 w1 ρ1 F1) :
  aF C ⟨s1.L,mY s1.H (aJ is s.H),s1.m⟩ a1 w1 ρ1 F1:=by
 have hm:s.m≤s1.m:=h1.cu.1
 have hρ:∀i,i<s.m->ρ1 i=ρ i:=h1.cu.2
 have hE:∀b,eU ρ s.H is b->C.w0.heap.size≤b∨C.E b:=λb ⟨i,c,_,hi,e⟩=>h.mine i c b hi e
 have hFw:∀k,F k->w1.heap[k]?=w.heap[k]?:=λk hk=>h1.keep.block k (h.lt k hk) λ⟨i,c,_,hi,e⟩=>h.out i c k hi e hk
 have hrest:∀{i c b},(i,c)∈aJ is s.H->bks ρ i c b->b<w.heap.size∧¬eU ρ s.H is b:=λ{i c b} hi e=>by
  obtain⟨hi,hni⟩:=bn hi
  refine⟨(h.ch i c hi).lt e,λ⟨j,d,hj,hjd,e2⟩=>h.sep i j c d b hi hjd (λe3=>hni (by rw[e3];exact Aq.1 hj)) e e2⟩
 have split:∀{i c},(i,c)∈mY s1.H (aJ is s.H)->(i,c)∈s1.H∨(i,c)∈aJ is s.H:=λ{i c} hi=>by rw[uh] at hi;exact List.mem_append.1 hi
 have hbk:∀{i c b},(i,c)∈aJ is s.H->(bks ρ1 i c b↔bks ρ i c b):=λ{i c b} hi=>by
  rw[jX (hρ i (h.aK i c (bn hi).1).1)]
 exact
  {
   size:=h1.size,defers:=h1.defers,slot:=h1.slot,aR:=h1.aR,lt:=h1.lt,env:=h1.env
   ch:=λi c hi=>by
    rcases split hi with hi | hi
    ·exact h1.ch i c hi
    ·obtain⟨hi2,hni⟩:=bn hi
     have:=jf.keep (x:=0) (p:=fresh s.m) (k:=λu=>u) (ρ':=ρ1) (F':=F1) (w':=w1) (λu v hu hr=>by
      have:=R0.bB (xs:=[]) (m:=s.m) (ρ':=ρ1) (F':=F1) (w':=w1) (λi hi _=>hρ i hi) (λk hk=>h1.base k hk) hFw hu hr
      rwa [show bB [] u=u by cases u<;>rfl] at this) (λk hk=>h1.base k hk) hFw (hρ i (h.aK i c hi2).1) (λb e=>by
       obtain⟨e1,e2⟩:=hrest hi e
       exact h1.keep.block b e1 e2) (h.aK i c hi2).2 (h.ch i c hi2)
     rwa [kF] at this
   sep:=λi j ci cj b hi hj hij e=>by
    have cross:∀{i j ci cj b},(i,ci)∈s1.H->(j,cj)∈aJ is s.H->bks ρ1 i ci b->¬bks ρ1 j cj b:=λ{i j ci cj b} hi hj e e2=>by
     obtain⟨e3,e4⟩:=hrest hj ((hbk hj).1 e2)
     rcases h1.mine i ci b hi e with h5 | h5
     ·exact absurd (show w.heap.size≤b from h5) (by omega)
     ·exact e4 h5
    rcases split hi with hi | hi<;>rcases split hj with hj | hj
    ·exact h1.sep i j ci cj b hi hj hij e
    ·exact cross hi hj e
    ·exact λe2=>cross hj hi e2 e
    ·exact λe2=>h.sep i j ci cj b (bn hi).1 (bn hj).1 hij ((hbk hi).1 e) ((hbk hj).1 e2)
   out:=λi c b hi e=>by
    rcases split hi with hi | hi
    ·exact h1.out i c b hi e
    ·intro hF
     have e0:=(hbk hi).1 e
     obtain⟨e3,e4⟩:=hrest hi e0
     rcases h1.sub b hF with h5 | h5 | h5
     ·exact h.out i c b (bn hi).1 e0 h5
     ·exact absurd (show w.heap.size≤b from h5) (by omega)
     ·exact e4 h5
   aK:=λi c hi=>by
    rcases split hi with hi | hi
    ·exact h1.aK i c hi
    ·obtain⟨h5,h6⟩:=h.aK i c (bn hi).1
     exact⟨Nat.lt_of_lt_of_le h5 hm,Cb (λu hu=>cZ hm hu) h6⟩
   mine:=λi c b hi e=>by
    rcases split hi with hi | hi
    ·rcases h1.mine i c b hi e with h5 | h5
     ·exact .inl (Nat.le_trans h.keep.size h5)
     ·exact hE b h5
    ·exact h.mine i c b (bn hi).1 ((hbk hi).1 e)
   sub:=λk hk=>by
    rcases h1.sub k hk with h5 | h5 | h5
    ·exact h.sub k h5
    ·exact .inr (.inl (Nat.le_trans h.keep.size h5))
    ·exact .inr (hE k h5)
   base:=λk hk=>h1.base k (h.base k hk)
   cu:=⟨Nat.le_trans h.cu.1 hm,λi hi=>by rw[hρ i (Nat.lt_of_lt_of_le hi h.cu.1)];exact h.cu.2 i hi⟩
   keep:=⟨h1.keep.os.trans h.keep.os,h1.keep.tape.trans h.keep.tape,h1.keep.output.trans h.keep.output,Nat.le_trans h.keep.size h1.keep.size,λk hk hne=>by
    refine (h1.keep.block k (Nat.lt_of_lt_of_le hk h.keep.size) λhb=>?_).trans (h.keep.block k hk hne)
    rcases hE k hb with h5 | h5
    ·omega
    ·exact hne h5⟩}
end
section
variable{P:Program}{ops:Array Oper}{md:Region.Mode}{Q:Exit->Act->World->Prop}{T:List Nat}{S:World->Prop}
def zq(P:Program)(md:Region.Mode)(ops:Array Oper)(Q:Exit->Act->World->Prop)(S:World->Prop)(T:List Nat)(L:Array Bool->Act->World->Prop):Nat->Array Bool->Act->World->Prop
 | 0,listed,a,w=>L listed a w
 | f+1,listed,a,w=>Region.ready md ops listed≠[]∧∀i∈Region.ready md ops listed,i∉T∧wpOp P ops Q i (λa' w'=>S w'∧zq P md ops Q S T L f (listed.setIfInBounds i true) a' w') a w
theorem F9{g:Nat}{L:Array Bool->Act->World->Prop}(hL:∀listed a w,L listed a w->wpAny P md ops Q g listed a w) :
  ∀(f:Nat) (listed:Array Bool) (a:Act) (w:World),zq P md ops Q S T L f listed a w->wpAny P md ops Q (f+g) listed a w
 | 0,listed,a,w,h=>by rw[Nat.zero_add];exact hL _ _ _ h
 | f+1,listed,a,w,h=>by
  rw[show f+1+g=(f+g)+1 by omega]
  exact⟨λh0=>absurd h0 h.1,λi hi=>wpOp_mono (λa' w' h'=>F9 hL f _ a' w' h'.2) (h.2 i hi).2⟩
theorem KH{B:List Nat}{i:Nat}{oi:Oper}{v:Value}{L:Array Bool->Act->World->Prop}(hi:ops[i]?=some oi)(hsel:∀(j:Nat) (o:Oper) cs b,ops[j]?=some o->o.op≠.select cs b)
  (hQ:∀c a w,Q (.panic c) (a.put oi.dst v) w->Q (.panic c) a w) (hs:vV md ops (pJ T) B=true) (hc:pI md ops T=true) (hin:i∈B)
  (hdone:∀listed a w,L listed a w->∀j∈Region.ready md ops listed,j∈T) :
  ∀(f:Nat) (listed:Array Bool) (a:Act) (w:World),Inv md ops T listed->
   (∀j oj,ops[j]?=some oj->j≠i->listed.getD j true=false->(∀e∈oj.after,Region.binds md e=true->e.on≠i)->oi.apart ops oj=true)->
   i∈Region.ready md ops listed->YieldsIf P ops S oi v a->S w->
   zq P md ops Q S T L f (listed.setIfInBounds i true) (a.put oi.dst v) w->zq P md ops Q S T L (f+1) listed a w:=by
 intro f
 induction f with
 | zero=>
  intro listed a w inv _ hr hy hS H
  have hun:=(mem_ready.1 hr).1
  refine⟨λh=>(by rw[h] at hr;cases hr),λj hj=>?_⟩
  have hjn:=Av inv hs hc hin hun hj
  refine⟨hjn,?_⟩
  by_cases hji:j=i
  ·subst hji;exact hy.wpOp hi hS ⟨hS,H⟩
  ·exact absurd (hdone _ _ _ H j (ready_mono hj hji)) hjn
 | succ f ih=>
  intro listed a w inv hfree hr hy hS H
  have hun:=(mem_ready.1 hr).1
  refine⟨λh=>(by rw[h] at hr;cases hr),λj hj=>?_⟩
  have hjn:=Av inv hs hc hin hun hj
  refine⟨hjn,?_⟩
  by_cases hji:j=i
  ·subst hji;exact hy.wpOp hi hS ⟨hS,H⟩
  ·have h1:=(H.2 j (ready_mono hj hji)).2
   obtain⟨hjun,oj,hoj,hall⟩:=mem_ready.1 hj
   have hnot:∀e∈oj.after,Region.binds md e=true->e.on≠i:=λe he hb heq=>by
    have h1:=hall e he hb
    rw[heq,getD_both hun] at h1
    cases h1
   have h2:=wpOp_putIf hoj (hfree j oj hoj hji hjun hnot) (λcs b=>hsel i oi cs b hi) (λcs b=>hsel j oj cs b hoj) hQ hy h1
   have hfree':∀k ok,ops[k]?=some ok->k≠i->(listed.setIfInBounds j true).getD k true=false->
     (∀e∈ok.after,Region.binds md e=true->e.on≠i)->oi.apart ops ok=true:=λk ok hk hki hun hno=>by
    refine hfree k ok hk hki ?_ hno
    by_cases hjk:j=k
    ·subst hjk;exact hjun
    ·rw[getD_set_ne true hjk] at hun;exact hun
   refine wpOp_mono (λa' w' h3=>⟨h3.2.1,ih (listed.setIfInBounds j true) a' w' (inv.set hj hjn) hfree' (ready_mono hr (Ne.symm hji)) h3.1 h3.2.1 ?_⟩) h2
   rw[Array.setIfInBounds_comm _ _ hji]
   exact h3.2.2
def iN(P:Program)(ops:Array Oper)(S:World->Prop)(R:Act->Prop):List Oper->Act->Prop
 | [],a=>R a
 | o::r,a=>∃v,YieldsIf P ops S o v a∧iN P ops S R r (a.put o.dst v)
theorem D5{R:Act->Prop}:∀{l l':List Oper} {a:Act},iN P ops S R (l++l') a->iN P ops S (λa=>iN P ops S R l' a) l a
 | [],_,_,h=>h
 | _::_,_,_,⟨v,h1,h2⟩=>⟨v,h1,D5 h2⟩
def jZ(P:Program)(ops:Array Oper)(Q:Exit->Act->World->Prop)(S:World->Prop)(R:Act->World->Prop):List Nat->Act->World->Prop
 | [],a,w=>R a w
 | i::r,a,w=>wpOp P ops Q i (λa' w'=>S w'∧jZ P ops Q S R r a' w') a w
def U3(md:Region.Mode)(ops:Array Oper)(T:List Nat):List Nat->Array Bool->Bool
 | [],l=>vT md ops T l
 | i::r,l=>decide (Region.ready md ops l=[i])&&!UY i T&&U3 md ops T r (l.setIfInBounds i true)
def X7(md:Region.Mode)(ops:Array Oper)(A B E T:List Nat):Bool:=
 Region.noSelect ops&&Nat.beq (A.length+B.length+E.length+T.length) ops.size&&!T.isEmpty&&T.all (λt=>Nat.blt t ops.size)&&vV md ops (pJ T) (mY B E)&&pI md ops T&&
 FU md ops T A (Array.replicate ops.size false) λl=>uZ md ops T B l λl=>U3 md ops T E l
theorem Ga{R:Act->World->Prop}:∀(E:List Nat) (listed:Array Bool) (a:Act) (w:World),U3 md ops T E listed=true->jZ P ops Q S R E a w->zq P md ops Q S T (λl a w=>vT md ops T l=true∧R a w) E.length listed a w
 | [],listed,a,w,h,hc=>⟨h,hc⟩
 | i::r,listed,a,w,h,hc=>by
  simp only[U3,agN,agT,agZ] at h
  obtain⟨⟨h1,h2⟩,h3⟩:=h
  refine⟨λh=>(by rw[h1] at h;cases h),λk hk=>?_⟩
  rw[h1] at hk
  obtain rfl:=List.mem_singleton.1 hk
  exact⟨λhm=>(by rw[FT.2 hm] at h2;cases h2),wpOp_mono (λa' w' h'=>⟨h'.1,Ga r _ a' w' h3 h'.2⟩) hc⟩
theorem Qh{ops:Array Oper}{i:Nat}{o:Oper}(h:ops[i]?=some o):o∈ops.toList:=List.mem_of_getElem? (i:=i) (by rw[Array.getElem?_toList];exact h)
theorem vY(hs:Region.noSelect ops=true){B0:List Nat}(hsk:vV md ops (pJ T) B0=true)(hc:pI md ops T=true)(hQ:∀c (o:Oper) v a w,o∈ops.toList->Q (.panic c) (a.put o.dst v) w->Q (.panic c) a w)
  {R:Act->World->Prop} {E:List Nat} {w:World} (hS:S w) :
  ∀(B:List Nat) (listed:Array Bool) (a:Act),(∀i∈B,i∈B0)->Inv md ops T listed->uZ md ops T B listed (λl=>U3 md ops T E l)=true->
   iN P ops S (λa=>jZ P ops Q S R E a w) (aW ops.toList B) a->zq P md ops Q S T (λl a w=>vT md ops T l=true∧R a w) (B.length+E.length) listed a w
 | [],listed,a,_,inv,hp,h=>by rw[List.length_nil,Nat.zero_add];exact Ga E listed a w hp h
 | i::r,listed,a,hB,inv,hp,h=>by
  simp only[uZ,agN] at hp
  obtain⟨o,ho,hr,hf,hiT⟩:=pK hp.1
  rw[oW (by simpa using ho)] at h
  obtain⟨v,hy,hK⟩:=h
  rw[show (i::r).length+E.length=(r.length+E.length)+1 by simp;omega]
  refine KH ho (Region.noSelect_spec hs) (λc a w=>hQ c o _ a w (Qh ho)) hsk hc (hB i (by simp)) ?_ (r.length+E.length) listed a w inv (Region.free_spec ho hf) hr hy hS
   (vY hs hsk hc hQ hS r _ _ (λj hj=>hB j (List.mem_cons_of_mem _ hj)) (inv.set hr hiT) hp.2 hK)
  rintro l a' w' ⟨hl,_⟩ j hj
  cases hT:T with
  | nil=>rw[hT] at hl;simp only[vT,List.isEmpty_iff] at hl;rw[hl] at hj;cases hj
  | cons t T'=>
   rw[hT] at hl
   simp only[vT,agN,agT] at hl
   rw[hl.1] at hj
   simpa using .inl (List.mem_singleton.1 hj)
theorem D6(hs:Region.noSelect ops=true)(hQ:∀c (o:Oper) v a w,o∈ops.toList->Q (.panic c) (a.put o.dst v) w->Q (.panic c) a w){f:Nat}{k:Array Bool->Bool}{R:Act->Prop}{w:World}(hw:S w)
  (hk:∀listed a,Inv md ops T listed->k listed=true->R a->wpAny P md ops Q f listed a w) :
  ∀(A:List Nat) (listed:Array Bool) (a:Act),Inv md ops T listed->FU md ops T A listed k=true->iN P ops S R (aW ops.toList A) a->wpAny P md ops Q (A.length+f) listed a w
 | [],listed,a,inv,hp,h=>by rw[List.length_nil,Nat.zero_add];exact hk _ _ inv hp h
 | i::r,listed,a,inv,hp,h=>by
  simp only[FU,agN] at hp
  obtain⟨⟨hp1,hm⟩,hp2⟩:=hp
  obtain⟨o,ho,hr,hf,hiT⟩:=pK hp1
  rw[oW (by simpa using ho)] at h
  obtain⟨v,hy,hK⟩:=h
  rw[show (i::r).length+f=(r.length+f)+1 by simp;omega]
  simp only[Qg,ho] at hm
  have hgo:∀x:Operand,o.guard=none->(∀w',(execOp a.eval o).run P w'=.ok (.value (a.eval x)) w')->wpAny P md ops Q (r.length+f+1) listed a w:=λx hg hv=>by
   have hwt:Region.wanted o (yielded ops a.tmps)=true:=by simp [Region.wanted,hg]
   rcases hy with⟨_,h2⟩ | ⟨h2,_⟩
   ·have h3:=h2 w hw
    rw[hv] at h3
    simp only[Result.ok.injEq,Next.value.injEq,and_true] at h3
    subst h3
    exact wpAny_take ho hs hf (by simpa using hr) (λc a w=>hQ c o _ a w (Qh ho)) (.inl ⟨hwt,hv⟩) (D6 hs hQ hw hk r _ _ (inv.set hr hiT) hp2 hK)
   ·rw[hwt] at h2;cases h2
  split at hm
  ·rename_i x hg hop
   exact hgo x hg λw'=>by unfold execOp;rw[hop];rfl
  ·rename_i x hg hop
   exact hgo x hg λw'=>by unfold execOp;rw[hop];rfl
  ·cases hm
theorem wp_region_draw{id:Nat}{a:Act}{w:World}{A B E T:List Nat}(hm:P.follows .mixedOrders=true)(hp:X7 .any ops A B E T=true)(hQ:∀c (o:Oper) v a w,o∈ops.toList->Q (.panic c) (a.put o.dst v) w->Q (.panic c) a w)(hS:S {w with drawn:=w.drawn+1})
  (h:iN P ops S (λa'=>jZ P ops Q S (λa w=>wpList P ops Q (aW ops.toList T) a w) E a' {w with drawn:=w.drawn+1}) (aW ops.toList A++aW ops.toList B) a):(Code.region id ops true).wp P Q a w:=by
 simp only[X7,agN] at hp
 obtain⟨⟨⟨⟨⟨⟨hs,hsz⟩,hT⟩,hTl⟩,hsk⟩,hch⟩,hpl⟩:=hp
 refine wp_region_any hm ?_
 have inv0:Inv .any ops T (Array.replicate ops.size false):=⟨by simp,λj oj _ hl=>(by rw[getD_replicate_false] at hl;cases hl),λt _=>getD_replicate_false _ _⟩
 have hsz:=agU hsz
 have e:A.length+(B.length+E.length+T.length)=ops.size:=by omega
 have key:wpAny P .any ops Q (A.length+(B.length+E.length+T.length)) (Array.replicate ops.size false) a {w with drawn:=w.drawn+1}:=?_
 ·rw[e] at key;exact key
 refine D6 (S:=S) (T:=T) (R:=λa=>iN P ops S (λa'=>jZ P ops Q S (λa w=>wpList P ops Q (aW ops.toList T) a w) E a' {w with drawn:=w.drawn+1}) (aW ops.toList B) a) hs hQ hS
  (λlisted a inv hk hl=>?_) A _ a inv0 hpl (D5 h)
 have hB:=vY (md:=.any) hs hsk hch hQ hS B listed a (λi hi=>(by rw[uh];exact List.mem_append_left _ hi)) inv hk hl
 refine F9 (g:=T.length) (λl a' w' hL=>zn T l a' w' (λt ht=>?_) hL.1 hL.2) _ _ _ _ hB
 have:=List.all_eq_true.1 hTl t ht
 simpa using this
end
section
variable{C:Ctx}{s:St}{a:Act}{w:World}{ρ:Nat->Value}{F:Nat->Prop}{g:Cfg}
theorem aF.less{L:List (Nat×V)}{H:List (Nat×Ch)}{m:Nat}(h:aF C ⟨L,H,m⟩ a w ρ F)(is:List Nat):aF C ⟨L,aJ is H,m⟩ a w ρ F:=
 {
  size:=h.size,defers:=h.defers,slot:=h.slot,aR:=h.aR,lt:=h.lt,sub:=h.sub,base:=h.base,cu:=h.cu,keep:=h.keep,env:=h.env
  ch:=λi c hi=>h.ch i c (bn hi).1
  sep:=λi j ci cj b hi hj=>h.sep i j ci cj b (bn hi).1 (bn hj).1
  out:=λi c b hi=>h.out i c b (bn hi).1
  aK:=λi c hi=>h.aK i c (bn hi).1
  mine:=λi c b hi=>h.mine i c b (bn hi).1}
theorem lg(hg:bV C.P g.tys)(hn:g.n=C.n){all:Array Oper}{S:World->Prop}{is:List Nat}{H0:List (Nat×Ch)}(hS:∀w',S w'->Agr (λk=>¬eU ρ H0 is k) w w'){m:Nat}{s':St}{ob':List Prop} :
  ∀(n:Nat) (l:List Oper) (L:List (Nat×V)) (ob:List Prop),rA g all n l ⟨L,aJ is H0,m⟩ ob=.done ob' s'->ak ob'->
   ak ob∧s'.m=m∧∀a,aF C ⟨L,H0,m⟩ a w ρ F->iN C.P all S (λa'=>aF C ⟨s'.L,H0,m⟩ a' w ρ F) l a:=by
 intro n
 induction n with
 | zero=>intro l L ob h;simp [rA] at h
 | succ n ih=>
  intro l L ob h hob
  have facts:∀{L a},aF C ⟨L,H0,m⟩ a w ρ F->(∀k,F k->¬eU ρ H0 is k)∧∀i c k,(i,c)∈aJ is H0->blk (ρ i)=some k->¬eU ρ H0 is k:=λ{L a} hw=>
   ⟨λk hk ⟨i,c,_,hi,e⟩=>hw.out i c k hi e hk,λi c k hi e ⟨j,d,hj,hjd,e2⟩=>
    hw.sep i j c d k (bn hi).1 hjd (λe3=>(bn hi).2 (by rw[e3];exact Aq.1 hj)) (aT e) e2⟩
  cases l with
  | nil=>
   unfold rA at h
   simp only[nQ,mK,QEv.done.injEq] at h
   obtain⟨rfl,rfl⟩:=h
   exact⟨hob,Z,λa hw=>hw⟩
  | cons o rest=>
  unfold rA at h
  simp only at h
  split at h
  ·rename_i hgd
   split at h
   ·rename_i v p hrd
    split at h
    ·rename_i d hd
     cases hb:Nat.blt d g.n with
     | false=>rw[hb] at h;simp at h
     | true=>
      rw[hb] at h
      simp only[cond_true,Fz,DJ,DK] at h
      obtain⟨h1,h2,h2'⟩:=ih _ _ _ h hob
      obtain⟨h3,h4⟩:=pE h1
      refine⟨h3,h2,λa hw=>?_⟩
      obtain⟨f1,f2⟩:=facts hw
      obtain⟨x,r1,r2,r3⟩:=Ca hg (hw.less is) (dn _) hrd h4 f1 f2
      refine⟨x,.inl ⟨by simp [Region.wanted,hgd],λw' hw'=>r3 w' (hS w' hw')⟩,?_⟩
      rw[hd]
      exact h2' _ (hw.put (by rw[←hn];simpa using hb) r1 r2)
    ·simp at h
   ·rw[nQ,mK] at h;simp at h
  ·rename_i j u hgd
   split at h
   ·simp at h
   ·rename_i q hq
    split at h
    ·rename_i v p hrd
     split at h
     ·rename_i d hd
      cases hb:(Nat.blt d g.n&&!(q.any λe=>Nat.beq e.1 d)&&v.aQ (fresh m)) with
      | false=>rw[hb] at h;simp at h
      | true=>
       rw[hb] at h
       simp only[cond_true,Ku,Fz,DJ,Ms,DK] at h
       simp only[agN,agZ] at hb
       obtain⟨⟨b1,b2⟩,b3⟩:=hb
       obtain⟨h1,h2,h2'⟩:=ih _ _ _ h hob
       obtain⟨h3,h4⟩:=pE h1
       refine⟨h3,h2,λa hw=>?_⟩
       obtain⟨f1,f2⟩:=facts hw
       have hgp:=jK hw hq
       have hwant:Region.wanted o (yielded all a.tmps)=true↔pcA a.tmps q:=by
        rw[←hgp];simp [Region.wanted,hgd]
       by_cases hpc:pcA a.tmps q
       ·obtain⟨x,r1,r2,r3⟩:=Ca hg (hw.less is) hpc hrd (tO (hw.less is) hpc h4) f1 f2
        refine⟨x,.inl ⟨hwant.2 hpc,λw' hw'=>r3 w' (hS w' hw')⟩,?_⟩
        rw[hd]
        exact h2' _ (hw.yC (by rw[←hn];simpa using b1) ⟨λ_=>r1,λhno=>(hno ((iL b2).2 hpc)).elim⟩ b3)
       ·refine⟨undef,.inr ⟨by cases hw':Region.wanted o (yielded all a.tmps) with | false=>rfl | true=>exact absurd (hwant.1 hw') hpc,rfl⟩,?_⟩
        rw[hd]
        exact h2' _ (hw.yC (by rw[←hn];simpa using b1) ⟨λhp=>(hpc ((iL b2).1 hp)).elim,λ_=>rfl⟩ b3)
     ·simp at h
    ·rw[nQ,mK] at h;simp at h
end
def FrP(Φ:Exit->St->Prop)(rest:List (Nat×Ch)):Exit->St->Prop:=λe s=>(∃c,e=.panic c)∧s.L=s.L∧Φ e ⟨s.L,mY s.H rest,s.m⟩
def qN(C C1:Ctx)(ops:Array Oper)(T:List Nat)(K:List Item)(Φ:Exit->St->Prop)(rest:List (Nat×Ch)):List Nat->St->Prop
 | [],s=>Go C (.ops ops (aW ops.toList T)::K) ⟨s.L,mY s.H rest,s.m⟩ Φ
 | i::r,s=>Go C1 [.ops ops (aW ops.toList [i]),.back (qN C C1 ops T K Φ rest r)] s (FrP Φ rest)
theorem Oper.zu{P:Program}{o:Oper}{a:Act}{K K':Act->World->Prop}{Q Q':Exit->Act->World->Prop}(hK:∀a w,K a w->K' a w)(hp:∀c a w,Q (.panic c) a w->Q' (.panic c) a w)(ho:∀a w,¬Q .outgrown a w):∀{r:Result Next},o.upon P a K Q r->o.upon P a K' Q' r:=by
 intro r h
 cases r with
 | ok n w'=>
  cases n<;>simp only[Oper.upon] at h ⊢<;>
   first
    | exact hK _ _ h
    | exact Calls.mono h (λe w'' he=>by
     cases e with
     | returned v=>exact hK _ _ he
     | panicked c=>exact hp _ _ _ he
     | outgrown=>exact absurd he (λ⟨a,w,hq⟩=>ho a w hq))
    | exact Rows.mono h (λ_ _ he=>hK _ _ he)
 | halt x w'=>
  cases x<;>simp only[Oper.upon] at h ⊢
  exact hp _ _ _ h
theorem Cx.draw{P:Pg}{g:Cfg}{C:Ctx}(x:Cx P g C){s s':St}{K K':List Item}{Φ:Exit->St->Prop}{ob:List Prop}(is A B E T:List Nat){id:Nat}{ops:Array Oper}(h:run g 1000 K s []=.code ob (.region id ops true) K' s')(ho:ak ob)(hm:P.P.follows .mixedOrders=true)(hB:X7 .any ops A B E T=true)(hΦ:rC ops Φ)
  {ob2:List Prop} {s2:St} (hq:rA g ops 1000 (aW ops.toList (mY A B)) ⟨s'.L,aJ is s'.H,s'.m⟩ []=.done ob2 s2) (ho2:ak ob2)
  (k:∀C1,Cx P {g with fix:=s'.m} C1->qN C C1 ops T K' Φ (aJ is s'.H) E ⟨s2.L,fM is s'.H,s'.m⟩):Go C K s Φ:=by
 refine st x.ty x.n x.fix h ⟨ho,?_⟩
 rintro a w ⟨ρ,F,hs⟩
 have hd:Mod none w {w with drawn:=w.drawn+1}:=⟨Z,Z,Z,Nat.le_refl _,λ_ _ _=>rfl⟩
 have hs1:=hs.mod hd
 generalize hw1:({w with drawn:=w.drawn+1}:World)=w1 at hs1
 let S:World->Prop:=λw'=>∀k,k<w1.heap.size->¬eU ρ s'.H is k->w'.heap[k]?=w1.heap[k]?
 have hS:∀w',S w'->Agr (λk=>¬eU ρ s'.H is k) w1 w':=λw' hw' k hk hlt=>hw' k hlt hk
 obtain⟨_,hm2,hreads⟩:=lg (F:=F) x.ty x.n (S:=S) hS 1000 _ _ _ hq ho2
 have hpk:aW ops.toList (mY A B)=aW ops.toList A++aW ops.toList B:=by
  rw[uh]
  clear k hB hq hreads
  induction A with
  | nil=>rfl
  | cons i r ih=>
   simp only[List.cons_append,aW]
   split<;>simp [ih]
 rw[hpk] at hreads
 refine x.KF ?_
 have hP:C.P.follows .mixedOrders=true:=x.rY.symm▸hm
 refine wp_region_draw (S:=S) hP hB (λc o v a w ho hq=>o7 hΦ K' c ho v a w hq) (by rw[hw1];exact λk _ _=>rfl) ?_
 rw[hw1]
 have hmono:∀{R R':Act->Prop},(∀a,R a->R' a)->∀(l:List Oper) (a:Act),iN C.P ops S R l a->iN C.P ops S R' l a:=λ{R R'} hR l=>by
  induction l with
  | nil=>exact λa h=>hR a h
  | cons o r ih=>exact λa ⟨v,h1,h2⟩=>⟨v,h1,ih _ h2⟩
 refine hmono (λa' hsa=>?_) _ a (hreads a hs1)
 let C1:=C.sub s' is w1 ρ F
 have hx1:Cx P {g with fix:=s'.m} C1:=⟨⟨x.prog,x.n,Z,x.tys⟩,x.rd⟩
 have key:∀(E:List Nat) (s1:St) (a:Act) (w2:World),Sat C1 s1 a w2->qN C C1 ops T K' Φ (aJ is s'.H) E s1->jZ C.P ops (den C (gP C Φ) K') S (λa w=>wpList C.P ops (den C (gP C Φ) K') (aW ops.toList T) a w) E a w2:=by
  intro E
  induction E with
  | nil=>
   rintro s1 a2 w2 ⟨ρ1,F1,h1⟩ hgo
   exact (show gD C.rd C.P ops (den C (gP C Φ) K') (aW ops.toList T) a2 w2 from hgo a2 w2 ⟨ρ1,F1,hsa.EP (s:=⟨s2.L,s'.H,s'.m⟩) (is:=is) h1⟩).1
  | cons i r ih=>
   rintro s1 a2 w2 hs1' hgo
   have h5:wpList C1.P ops (den C1 (gP C1 (FrP Φ (aJ is s'.H))) [.back (qN C C1 ops T K' Φ (aJ is s'.H) r)]) (aW ops.toList [i]) a2 w2:=(show gD C1.rd C1.P ops (den C1 (gP C1 (FrP Φ (aJ is s'.H))) [.back (qN C C1 ops T K' Φ (aJ is s'.H) r)]) (aW ops.toList [i]) a2 w2 from hgo a2 w2 hs1').1
   have hK:∀a w,den C1 (gP C1 (FrP Φ (aJ is s'.H))) [.back (qN C C1 ops T K' Φ (aJ is s'.H) r)] .normal a w->S w∧jZ C.P ops (den C (gP C Φ) K') S (λa w=>wpList C.P ops (den C (gP C Φ) K') (aW ops.toList T) a w) r a w:=by
    rintro a3 w3 ⟨s3,hs3,hj⟩
    refine⟨?_,ih s3 a3 w3 hs3 hj⟩
    obtain⟨ρ3,F3,h3⟩:=hs3
    exact λk hk hb=>h3.keep.block k hk hb
   have hp:∀c a w,den C1 (gP C1 (FrP Φ (aJ is s'.H))) [.back (qN C C1 ops T K' Φ (aJ is s'.H) r)] (.panic c) a w->den C (gP C Φ) K' (.panic c) a w:=by
    rintro c a3 w3 ⟨s3,⟨ρ3,F3,h3⟩,_,hl,X8⟩
    rw[kT]
    have h6:=hsa.EP (s:=⟨s2.L,s'.H,s'.m⟩) (is:=is) h3
    exact⟨_,⟨ρ3,F3,h6⟩,X8⟩
   have hog:∀a w,¬den C1 (gP C1 (FrP Φ (aJ is s'.H))) [.back (qN C C1 ops T K' Φ (aJ is s'.H) r)] .outgrown a w:=by
    rintro a3 w3 ⟨s3,_,⟨c,hc⟩,_⟩
    cases hc
   show wpOp C.P ops _ i _ a2 w2
   unfold wpOp
   cases ho:ops[i]? with
   | none=>
    simp only[aW,Array.getElem?_toList,ho] at h5
    exact hK _ _ h5
   | some o=>
    simp only[aW,Array.getElem?_toList,ho] at h5
    unfold wpList at h5
    simp only
    split at h5
    ·rename_i hw
     rw[if_pos hw]
     rcases h5 with h5 | ⟨_,a4,w4,h6⟩
     ·exact .inl (Oper.zu (λa w h=>hK a w h) hp hog h5)
     ·exact absurd h6 (hog a4 w4)
    ·rename_i hw
     rw[if_neg hw]
     exact hK _ _ h5
 refine key E ⟨s2.L,fM is s'.H,s'.m⟩ a' w1 ⟨ρ,F,?_⟩ (k C1 hx1)
 exact (hsa.frame (s:=⟨s2.L,s'.H,s'.m⟩) is)
def zeroV(te:TI):Option V:=
 match te.kind with
 | .struct _ _=>some (.agg te.zero)
 | .array _ _=>none
 | _=>match te.zero with
  | [z]=>some z
  | _=>none
def MF(g:Cfg)(s:St)(o:Oper):Option (Nat×List (Key×V)×Key×V×Bool):=
 match o.guard,o.dst,o.op with
 | none,some d,.lookup t m k c=>match ev s.L [] m,ev s.L [] k,lk g t with
  | some (.own id),some kv,some ti=>match ti.kind,get s.H id with
   | .map kt et,some (.tbl es)=>match lk g kt,lk g et with
    | some tk,some te=>match keyOf tk.kind kv,zeroV te with
     | some key,some z=>bif mW key es&&Nat.blt d g.n then some (d,es,key,z,c) else none
     | _,_=>none
    | _,_=>none
   | _,_=>none
  | _,_,_=>none
 | _,_,_=>none
def oD(k:Key)(G:V->Bool->Prop)(z:V):List (Key×V)->Prop
 | []=>G z false
 | (a,v)::r=>(qJ k a->G v true)∧(¬qJ k a->oD k G z r)
theorem Gb{k:Key}{G:V->Bool->Prop}{z:V}:∀{es:List (Key×V)},oD k G z es->G ((dV k es).getD z) (dV k es).isSome
 | [],h=>h
 | (a,v)::r,h=>by
  unfold dV
  by_cases hk:qJ k a
  ·rw[if_pos hk];exact h.1 hk
  ·rw[if_neg hk];exact Gb (h.2 hk)
theorem MG{P:Program}{t:TypeId}{te:TI}{z:V}(h:zeroV te=some z)(hti:te.OK P t)(ρ:Nat->Value)(F:Nat->Prop)(w:World)(m:Nat):∃zv,(zeroValue t).run P w=.ok zv w∧R2 ρ F w z zv∧z.all2 (fresh m)=true:=by
 obtain⟨zv,z1,z2,z3⟩:=BX hti w
 have hinfo:∃i,P.info? t=some i∧i.zero=some zv:=by
  obtain⟨i,zz,i1,_,_,i4,_⟩:=hti.info
  have:zv=zz:=by
   have:=z1
   simp [zeroValue,typeInfo,i1,i4] at this
   exact this.symm
  subst this
  exact⟨i,i1,i4⟩
 obtain⟨i,i1,i2⟩:=hinfo
 refine⟨zv,z1,?_⟩
 unfold zeroV at h
 split at h
 ·rename_i fs ks hk
  simp only[agR] at h
  subst h
  obtain⟨cs,rfl⟩:=hti.two i zv i1 i2 (by rw[hk];rfl)
  rw[hk] at z3
  obtain⟨l1,l2⟩:=Fj (ρ:=ρ) (F:=F) (w:=w) (m:=m) z3
  exact⟨⟨cs.toList,by simp,l1⟩,l2⟩
 ·cases h
 ·rename_i hn1 hn2
  split at h
  ·rename_i z' hz
   simp only[agR] at h
   subst h
   have hf:te.kind.flat=true:=by
    cases hkk:te.kind<;>first | rfl | exact absurd hkk (hn1 _ _) | exact absurd hkk (hn2 _ _)
   have z5:=hti.one i zv i1 i2 hf
   have z6:aH qA [z'] zv.cells.toList:=by
    rw[←hz]
    revert z3 hf
    cases te.kind<;>first | exact λh _=>Bool.noConfusion h | exact λ_ h=>Bool.noConfusion h | exact λh _=>h
   rw[cells_one z5] at z6
   have zl:=z6.1
   have r1:R1 ρ F w z' zv:=Xu zl
   have r2:z'.all1 (fresh m)=true:=Xv zl
   exact⟨jE r1,by cases z'<;>first | exact r2 | exact (show False from r1).elim⟩
  ·cases h
def lkV(c:Bool)(v:V)(b:Bool):V:=if c then .tup [v,.d (.bool b)] else v
theorem Cr.look{P:Pg}{g:Cfg}{C:Ctx}(x:Cr P g C){s s':St}{K K':List Item}{Φ:Exit->St->Prop}{ob:List Prop}{all:Array Oper}{o:Oper}{rest:List Oper}{d:Nat}{es:List (Key×V)}{key:Key}{z:V}{c:Bool}(h:run g 1000 K s []=.op ob all o rest K' s')(ho:ak ob)
  (hi:MF g s' o=some (d,es,key,z,c)) (k:oD key (λv b=>Go C (.ops all rest::K') {s' with L:=put s'.L d (lkV c v b)} Φ) z es):Go C K s Φ:=by
 refine st x.ty x.n x.fix h ⟨ho,?_⟩
 have k:=Gb k
 rintro a w ⟨ρ,F,hs⟩
 have hg:=x.ty
 unfold MF at hi
 split at hi
 ·rename_i d' t m kk c' hgd hd hop
  split at hi
  ·rename_i id kv ti hm hk hti
   split at hi
   ·rename_i kt et es' hkind hget
    split at hi
    ·rename_i tk te htk hte
     split at hi
     ·rename_i key' z' hk1 hz0
      cases hb:(mW key' es'&&Nat.blt d' g.n) with
      | false=>rw[hb] at hi;simp at hi
      | true=>
       rw[hb] at hi
       simp only[cond_true,agR,agW] at hi
       obtain⟨rfl,rfl,rfl,rfl,rfl⟩:=hi
       simp only[agN] at hb
       obtain⟨b1,b2⟩:=hb
       have hu:=(bS hg hti).und
       rw[hkind] at hu
       have hm1:=(aC hs (dn _) hm).1
       have hk2:=(aC hs (dn _) hk).1
       generalize hem:a.eval m=vm at hm1
       generalize hek:a.eval kk=vk at hk2
       obtain⟨rfl,huk⟩:=Dz hk1 hk2 (bS hg htk) Z
       obtain⟨rfl,_⟩:=(show R0 ρ F w (.own id) vm from hm1)
       obtain⟨b,arr,clock,e1,e2,e3⟩:=hs.ch _ _ (get_mem hget)
       have hfr:=(hs.aK _ _ (get_mem hget)).2
       simp only[Ch.all,List.all_eq_true] at hfr
       obtain⟨zv,z1,zl,zf⟩:=MG hz0 (bS hg hte) ρ F w s'.m
       have val:∃r:Option (Nat×Value),Instr.findNow (lV key') (dO key') arr.toList 0=some r∧r.isSome=(dV key' es').isSome∧R2 ρ F w ((dV key' es').getD z') (ru r zv)∧((dV key' es').getD z').all2 (fresh s'.m)=true:=by
        rcases nO (ρ:=ρ) (F:=F) (w:=w) key' 0 b1 e3 with⟨f1,f2⟩ | ⟨v',j,y,f1,f2,f3⟩
        ·rw[f1]
         exact⟨none,f2,Z,zl,zf⟩
        ·rw[f1]
         obtain⟨a',h'⟩:=Jg f1
         exact⟨some (j,y),f2,Z,f3,hfr _ h'⟩
       obtain⟨r,r1,r0,r2,r3⟩:=val
       have hrun:=vL hu key' huk e2 r1 z1 c'
       show gD C.rd C.P all (den C (gP C Φ) K') (o::rest) a w
       refine jW hgd λN hN=>?_
       generalize hres:(if c' then Value.tuple #[ru r zv,.bool r.isSome] else ru r zv)=res at hrun
       have hex:(execOp a.eval o).run C.P w=.ok (.value res) w:=by
        unfold execOp
        rw[hop]
        simp only[hem,hek]
        refine uY ?_
        rw[e1]
        exact hrun
       refine qZ hex tR ?_
       refine hN _ _ ?_
       rw[hd]
       generalize (dV key' es').getD z'=u at r2 r3 k
       generalize (dV key' es').isSome=f at r0 k
       rw[r0] at hres
       have hR:R3 ρ F w (lkV c' u f) res∧(lkV c' u f).aQ (fresh s'.m)=true:=by
        subst hres
        cases c' with
        | true=>exact⟨⟨[_,_],rfl,r2,RD.bool _,tR⟩,by show ([u,.d (.bool f)].all (V.all2 (fresh s'.m)))=true;simp only[List.all_cons,List.all_nil,agN];exact⟨r3,rfl,tR⟩⟩
        | false=>exact⟨kE r2,by
          cases u<;>first | exact r3 | exact (show False from r2).elim⟩
       exact k _ _ ⟨ρ,F,hs.put (by rw[←x.n];simpa using b2) hR.1 hR.2⟩
     ·simp at hi
    ·simp at hi
   ·simp at hi
  ·simp at hi
 ·simp at hi
theorem Go.ownB{C:Ctx}{s:St}{K:List Item}{Φ:Exit->St->Prop}(id j:Nat)(e:TypeId)(sz:Nat)(f:Nat->List D){us:List V}(h:get s.H id=some (.box us))(hu:us[j]?=some .aD)
  (k:Go C K ⟨s.L,(id,.box (us.set j (.own s.m)))::nM id ((s.m,.vec e sz 0 f)::s.H),s.m+1⟩ Φ):Go C K s Φ:=by
 rintro a w ⟨ρ,F,hs⟩
 have hm0:Mod none w w:=⟨Z,Z,Z,Nat.le_refl _,λ_ _ _=>rfl⟩
 have hmem:=get_mem h
 have hlt:=(hs.aK _ _ hmem).1
 have h1:=hs.new hm0 (x:=.slice none 0 0) (λb hb=>by simp [blk] at hb) (c:=.vec e sz 0 f) ⟨[],by rw[upd_same];exact⟨by simp,.inl ⟨Z,Z⟩⟩,λi hi=>absurd hi (agV _)⟩ Z
 have Jt:(id,Ch.box us)∈((s.m,Ch.vec e sz 0 f)::s.H):=List.mem_cons_of_mem _ hmem
 obtain⟨b,cs,T,e1,e2,e3⟩:=h1.ch id _ Jt
 obtain⟨c,c1,c2⟩:=e3.get hu
 have c2:c=.slice none 0 0:=c2
 have hset:cs.set j c=cs:=by
  obtain⟨hj,hc⟩:=List.getElem?_eq_some_iff.1 c1
  rw[←hc];simp
 have hown:R1 (upd ρ s.m (.slice none 0 0)) F w (.own s.m) c:=⟨by rw[upd_same];exact c2,by rw[upd_same];exact .inl ⟨_,_,_,Z⟩⟩
 have hfr:=(h1.aK id _ Jt).2
 simp only[Ch.all,List.all_eq_true] at hfr
 have h2:=h1.touch Jt (c':=.box (us.set j (.own s.m))) ⟨Z,Z,Z,Nat.le_refl _,λ_ _ _=>rfl⟩ ⟨b,cs,T,e1,e2,by have:=e3.set (i:=j) hown;rwa [hset] at this⟩ (by
  simp only[Ch.all,List.all_eq_true]
  intro v hv
  rcases List.mem_or_eq_of_mem_set hv with hv | rfl
  ·exact hfr v hv
  ·show Nat.blt s.m (s.m+1)=true;simp)
 exact k a w ⟨_,F,h2⟩
def KI(E:List (Nat×Nat×(Nat->Value)))(gl N:Nat)(tab:Nat->D):Prop:=∃f,(gl,N,f)∈E∧∀j,j<N->qA (.d (tab j)) (f j)
theorem SE{F:Nat->Prop}{w:World}{d:D}{v:Value}(h:qA (.d d) v):RD F w d v:=by
 cases d with
 | int k n=>rw[show v=_ from h];exact .int _ _
 | bool b=>rw[show v=_ from h];exact .bool _
 | str s=>rw[show v=_ from h];exact .str _
 | nf=>rw[show v=_ from h];exact .nf
 | ni=>rw[show v=_ from h];exact .ni
 | np=>rw[show v=_ from h];exact .np
 | sl _ _ _=>exact h.elim
 | ifc _ _=>exact h.elim
 | mp _=>exact h.elim
 | nm=>rw[show v=_ from h];exact .nm
def MH(g:Cfg)(s:St)(all:Array Oper)(o:Oper):Option (Nat×Nat×Int×Nat×List (Nat×Bool)):=
 match o.guard,o.dst,o.op with
 | some (j,u),some d,.indexAddr t (.global gl) ix=>match Am s.L all j u with
  | some q=>match ev s.L q ix,lk g t with
   | some (.d (.int _ n)),some ti=>match ti.kind with
    | .array N e=>bif isz g e 1&&Nat.blt d g.n&&!(q.any λe=>Nat.beq e.1 d) then some (gl,N,n,d,q) else none
    | _=>none
   | _,_=>none
  | none=>none
 | _,_,_=>none
theorem Cr.aeF{P:Pg}{g:Cfg}{C:Ctx}(x:Cr P g C){s s':St}{K K':List Item}{Φ:Exit->St->Prop}{ob:List Prop}(tab:Nat->D){all:Array Oper}{o:Oper}{rest:List Oper}{gl N d:Nat}{n:Int}{q:List (Nat×Bool)}(h:run g 1000 K s []=.op ob all o rest K' s')(ho:ak ob)
  (hi:MH g s' all o=some (gl,N,n,d,q)) (hE:KI P.env gl N tab) (hb:imp s'.L q (0≤n∧n<(N:Int))) (k:Go C (.ops all rest::K') {s' with L:=put s'.L d (.g q (.gU [tab n.toNat]))} Φ):Go C K s Φ:=by
 refine st x.ty x.n x.fix h ⟨ho,?_⟩
 rintro a w ⟨ρ,F,hs⟩
 have hg:=x.ty
 unfold MH at hi
 split at hi
 ·rename_i j u d' t gl' ix hgd hd hop
  split at hi
  ·rename_i q' hq
   split at hi
   ·rename_i kk n' ti hix hti
    split at hi
    ·rename_i N' e hkind
     cases hc:(isz g e 1&&Nat.blt d' g.n&&!(q'.any λe=>Nat.beq e.1 d')) with
     | false=>rw[hc] at hi;simp at hi
     | true=>
      rw[hc] at hi
      simp only[cond_true,agR,agW] at hi
      obtain⟨rfl,rfl,rfl,rfl,rfl⟩:=hi
      simp only[agN,agZ] at hc
      obtain⟨⟨b0,b1⟩,b2⟩:=hc
      have hgs:=jK hs hq
      have hwant:Region.wanted o (yielded all a.tmps)=true↔pcA a.tmps q':=by rw[←hgs];simp [Region.wanted,hgd]
      show gD C.rd C.P all (den C (gP C Φ) K') (o::rest) a w
      refine nL λM hM=>?_
      cases hw:Region.wanted o (yielded all a.tmps) with
      | true=>
       have hpc:=hwant.1 hw
       obtain⟨h0,h1⟩:=lI hs hpc hb
       obtain⟨f,hf,hlit⟩:=hE
       have Qf:jG P.env F w:=by have:=hs.env;rwa [show C.env=P.env from congrArg Pg.env x.prog] at this
       obtain⟨hF,hcell,_⟩:=Qf _ _ _ hf
       have hiv:=(aC hs hpc hix).1
       generalize hex:a.eval ix=vx at hiv
       cases (show RD F w _ _ from hiv)
       have hu:=(bS hg hti).und
       rw[hkind] at hu
       have hrun:(execOp a.eval o).run C.P w=.ok (.value (.pointer (some ⟨gl',n'.toNat,none⟩))) w:=by
        unfold execOp
        rw[hop]
        refine uY ?_
        simp [Act.eval,hex] at hex ⊢
        simp [hex,Instr.indexAt,Instr.sureAddr,asIntOf,aP (show C.P.underlying t=some (.array N' e) from hu),h0,h1,jA hg b0,Addr.add_lit]
       simp only[if_true]
       refine qZ hrun tR ?_
       refine hM _ _ ?_
       rw[hd]
       refine k _ _ ⟨ρ,F,hs.yC (by rw[←x.n];simpa using b1) ⟨λ_=>⟨gl',n'.toNat,λ_=>f n'.toNat,Z,hF,λi dd hi=>?_⟩,λhno=>(hno ((iL b2).2 hpc)).elim⟩ Z⟩
       cases i with
       | succ i=>simp at hi
       | zero=>
        simp only[List.getElem?_cons_zero,agR] at hi
        subst hi
        exact⟨hcell n'.toNat (by omega),SE (hlit n'.toNat (by omega))⟩
      | false=>
       simp only[ag0,if_false]
       have hpc:¬pcA a.tmps q':=λhc=>by rw[hwant.2 hc] at hw;cases hw
       refine hM _ _ ?_
       rw[hd]
       exact k _ _ ⟨ρ,F,hs.yC (by rw[←x.n];simpa using b1) ⟨λhc=>(hpc ((iL b2).1 hc)).elim,λ_=>rfl⟩ Z⟩
    ·simp at hi
   ·simp at hi
  ·simp at hi
 ·simp at hi
section
variable{C:Ctx}{s:St}{a:Act}{w:World}{ρ:Nat->Value}{F:Nat->Prop}
def Ctx.U4(C:Ctx)(s:St)(is:List Nat)(w:World)(ρ:Nat->Value)(F:Nat->Prop)(k:Nat):Ctx:={C with w0:=w,E:=eU ρ s.H is,F0:=F,ρ0:=ρ,fix:=k}
theorem aF.KJ(h:aF C s a w ρ F)(is:List Nat){k:Nat}(hk:k≤s.m):aF (C.U4 s is w ρ F k) ⟨s.L,fM is s.H,s.m⟩ a w ρ F where
 size:=h.size
 defers:=h.defers
 slot:=h.slot
 ch i c hi:=h.ch i c (bY hi).1
 sep i j ci cj b hi hj:=h.sep i j ci cj b (bY hi).1 (bY hj).1
 out i c b hi:=h.out i c b (bY hi).1
 aR:=h.aR
 aK i c hi:=h.aK i c (bY hi).1
 lt:=h.lt
 mine i c b hi e:=.inr ⟨i,c,(bY hi).2,(bY hi).1,e⟩
 sub k hk:=.inl hk
 base k hk:=hk
 cu:=⟨hk,λ_ _=>rfl⟩
 keep:=⟨Z,Z,Z,Nat.le_refl _,λ_ _ _=>rfl⟩
 env:=h.env
theorem aF.vZ(h:aF C s a w ρ F){is:List Nat}{k:Nat}(hfk:C.fix≤k)(hlow:∀i c,(i,c)∈aJ is s.H->i<k∧c.all (fresh k)=true){s1:St}{a1:Act}{w1:World}{ρ1:Nat->Value}{F1:Nat->Prop}(h1:aF (C.U4 s is w ρ F k) s1 a1 w1 ρ1 F1) :
  aF C ⟨s1.L,mY s1.H (aJ is s.H),s1.m⟩ a1 w1 ρ1 F1:=by
 have hm:k≤s1.m:=h1.cu.1
 have hρ:∀i,i<k->ρ1 i=ρ i:=h1.cu.2
 have hE:∀b,eU ρ s.H is b->C.w0.heap.size≤b∨C.E b:=λb ⟨i,c,_,hi,e⟩=>h.mine i c b hi e
 have hFw:∀k,F k->w1.heap[k]?=w.heap[k]?:=λk hk=>h1.keep.block k (h.lt k hk) λ⟨i,c,_,hi,e⟩=>h.out i c k hi e hk
 have hrest:∀{i c b},(i,c)∈aJ is s.H->bks ρ i c b->b<w.heap.size∧¬eU ρ s.H is b:=λ{i c b} hi e=>by
  obtain⟨hi,hni⟩:=bn hi
  refine⟨(h.ch i c hi).lt e,λ⟨j,d,hj,hjd,e2⟩=>h.sep i j c d b hi hjd (λe3=>hni (by rw[e3];exact Aq.1 hj)) e e2⟩
 have split:∀{i c},(i,c)∈mY s1.H (aJ is s.H)->(i,c)∈s1.H∨(i,c)∈aJ is s.H:=λ{i c} hi=>by rw[uh] at hi;exact List.mem_append.1 hi
 have hbk:∀{i c b},(i,c)∈aJ is s.H->(bks ρ1 i c b↔bks ρ i c b):=λ{i c b} hi=>by
  rw[jX (hρ i (hlow i c hi).1)]
 exact
  {
   size:=h1.size,defers:=h1.defers,slot:=h1.slot,aR:=h1.aR,lt:=h1.lt,env:=h1.env
   ch:=λi c hi=>by
    rcases split hi with hi | hi
    ·exact h1.ch i c hi
    ·obtain⟨hi2,hni⟩:=bn hi
     have:=jf.keep (x:=0) (p:=fresh k) (k:=λu=>u) (ρ':=ρ1) (F':=F1) (w':=w1) (λu v hu hr=>by
      have:=R0.bB (xs:=[]) (m:=k) (ρ':=ρ1) (F':=F1) (w':=w1) (λi hi _=>hρ i hi) (λk hk=>h1.base k hk) hFw hu hr
      rwa [show bB [] u=u by cases u<;>rfl] at this) (λk hk=>h1.base k hk) hFw (hρ i (hlow i c hi).1) (λb e=>by
       obtain⟨e1,e2⟩:=hrest hi e
       exact h1.keep.block b e1 e2) (hlow i c hi).2 (h.ch i c hi2)
     rwa [kF] at this
   sep:=λi j ci cj b hi hj hij e=>by
    have cross:∀{i j ci cj b},(i,ci)∈s1.H->(j,cj)∈aJ is s.H->bks ρ1 i ci b->¬bks ρ1 j cj b:=λ{i j ci cj b} hi hj e e2=>by
     obtain⟨e3,e4⟩:=hrest hj ((hbk hj).1 e2)
     rcases h1.mine i ci b hi e with h5 | h5
     ·exact absurd (show w.heap.size≤b from h5) (by omega)
     ·exact e4 h5
    rcases split hi with hi | hi<;>rcases split hj with hj | hj
    ·exact h1.sep i j ci cj b hi hj hij e
    ·exact cross hi hj e
    ·exact λe2=>cross hj hi e2 e
    ·exact λe2=>h.sep i j ci cj b (bn hi).1 (bn hj).1 hij ((hbk hi).1 e) ((hbk hj).1 e2)
   out:=λi c b hi e=>by
    rcases split hi with hi | hi
    ·exact h1.out i c b hi e
    ·intro hF
     have e0:=(hbk hi).1 e
     obtain⟨e3,e4⟩:=hrest hi e0
     rcases h1.sub b hF with h5 | h5 | h5
     ·exact h.out i c b (bn hi).1 e0 h5
     ·exact absurd (show w.heap.size≤b from h5) (by omega)
     ·exact e4 h5
   aK:=λi c hi=>by
    rcases split hi with hi | hi
    ·exact h1.aK i c hi
    ·obtain⟨h5,h6⟩:=hlow i c hi
     exact⟨Nat.lt_of_lt_of_le h5 hm,Cb (λu hu=>cZ hm hu) h6⟩
   mine:=λi c b hi e=>by
    rcases split hi with hi | hi
    ·rcases h1.mine i c b hi e with h5 | h5
     ·exact .inl (Nat.le_trans h.keep.size h5)
     ·exact hE b h5
    ·exact h.mine i c b (bn hi).1 ((hbk hi).1 e)
   sub:=λk hk=>by
    rcases h1.sub k hk with h5 | h5 | h5
    ·exact h.sub k h5
    ·exact .inr (.inl (Nat.le_trans h.keep.size h5))
    ·exact .inr (hE k h5)
   base:=λk hk=>h1.base k (h.base k hk)
   cu:=⟨Nat.le_trans hfk hm,λi hi=>by rw[hρ i (Nat.lt_of_lt_of_le hi hfk)];exact h.cu.2 i hi⟩
   keep:=⟨h1.keep.os.trans h.keep.os,h1.keep.tape.trans h.keep.tape,h1.keep.output.trans h.keep.output,Nat.le_trans h.keep.size h1.keep.size,λk hk hne=>by
    refine (h1.keep.block k (Nat.lt_of_lt_of_le hk h.keep.size) λhb=>?_).trans (h.keep.block k hk hne)
    rcases hE k hb with h5 | h5
    ·omega
    ·exact hne h5⟩}
end
end Go.Sx
