import Derived.Test.YtojhdmfkfkfcbaaGreatDoorMG
import Derived.Test.YtojhdmfkfkfcbaaGreatDoorMC
import Derived.Test.YtojhdmfkfkfcbaaGreatDoorMB
import Derived.Test.YtojhdmfkfkfcbaaGreatDoorMD
import Derived.Test.YtojhdmfkfkfcbaaGreatDoorMF
import Derived.Test.YtojhdmfkfkfcbaaGreatDoorShelf
import Derived.Test.YtojhdmfkfkfcbaaGreatDoorME
import Derived.Test.YtojhdmfkfkfcbaaGreatDoorSxF
import Derived.Handed
import Derived.Shelf.Vars
set_option linter.unusedSimpArgs false
set_option linter.unusedVariables false
namespace Go.Proofs.YtojhdmfkfkfcbaaGreatDoor
open Go.Sx
set_option maxRecDepth 100000
abbrev aaz(b:Bod):Scp:=⟨rng b.blocks.length λk=>nmN 98 (k:Int),rng b.vars.toNat λk=>nmN 118 (k:Int)⟩
abbrev abr(p:Pol)(c:Cod)(q:Prg):Res:=⟨p,q,rng c.arrays.length λk=>nmN 97 (k:Int),rng c.funcs.length λi=>fnN c.main i⟩
theorem AJ{p:Pol}{c:Cod}(hc:kL p c){b:Bod}(hb:b∈c.funcs){l:List Op9}(hl:l∈b.blocks){x:Op9}(hx:x∈l):cZ (aN p c.main x)=true:=by
 obtain⟨n,d,r,a,h⟩:=Jy (hc.bod b hb) hl hx
 have hB:=hc.bod b hb
 have hv:=Ep hc hb
 have hbl:=hB.len
 obtain⟨_,f1,f2,_⟩:=GX hc hb h ⟨[],[]⟩
 have hD:=Er h
 have fd:dZ (if 0≤x.dst then nmN 118 x.dst else .empty) d=true:=by
  cases d with
  | true=>
   have:=KS hB hl hx hD
   rw[if_pos this.1]
   unfold dZ
   rw[yg (by decide) (by decide) this.1 (by omega)];rfl
  | false=>
   rw[h.d0 Z,if_neg (by omega)];decide
 have ha:gU (x.args.map (nmN 118))=true:=List.all_eq_true.2 λs hs=>by
  obtain⟨k,hk,rfl⟩:=List.mem_map.1 hs
  have:=h.args k hk
  exact yg (by decide) (by decide) this.1 (by omega)
 have hf:gU (x.frm.map (nmN 98))=true:=List.all_eq_true.2 λs hs=>by
  obtain⟨k,hk,rfl⟩:=List.mem_map.1 hs
  have:=h.frm k hk
  exact yg (by decide) (by decide) this.1 (by omega)
 have o1:(decide (x.op≠0) != decide (x.kind=2))=false:=by
  by_cases hk:x.kind=2
  ·have:=h.op1 hk
   rw[decide_eq_true hk,decide_eq_true (show x.op≠0 by omega)];rfl
  ·rw[decide_eq_false hk,decide_eq_false (show ¬x.op≠0 from λg=>g (h.op0 hk))];rfl
 have o2:(decide (x.op≠0)&&decide ((opName x.op).data.toList=[]))=false:=by
  by_cases hk:x.kind=2
  ·rw[decide_eq_false (show ¬(opName x.op).data.toList=[] from GN.2 (h.op1 hk)),Bool.and_false]
  ·rw[decide_eq_false (show ¬x.op≠0 from λg=>g (h.op0 hk))];rfl
 have o3:(decide (x.num≠0)&&decide (x.kind≠1))=false:=by
  by_cases hk:x.kind=1
  ·rw[decide_eq_false (show ¬x.kind≠1 from λg=>g hk),Bool.and_false]
  ·rw[decide_eq_false (show ¬x.num≠0 from λg=>g (h.num hk))];rfl
 unfold cZ
 rw[if_neg (by
  show ¬((decide (x.op≠0) != decide (x.kind=2))||(decide (x.op≠0)&&decide ((opName x.op).data.toList=[]))||(decide (x.num≠0)&&decide (x.kind≠1))||!gU (x.args.map (nmN 118))||!gU (x.frm.map (nmN 98)))=true
  rw[o1,o2,o3,ha,hf];simp)]
 rcases sN h.sh with⟨hk,rfl,rfl,rfl,rfl⟩ | ⟨h3,hs⟩
 ·rw[if_pos (show (aN p c.main x).kind=3 from hk)]
  obtain⟨g1,g2,g3⟩:=h.phi hk
  have e1:okN (aN p c.main x).dst=true:=R9 fd
  have e2:(aN p c.main x).ref=.empty:=GA f1
  have e3:(aN p c.main x).alt=.empty:=GA f2
  rw[e1,e2,e3]
  simp only[aN,List.length_map]
  rw[decide_eq_true g1,decide_eq_true g2,decide_eq_true g3];rfl
 ·rw[if_neg (show ¬(aN p c.main x).kind=3 from h3),show jL (aN p c.main x).kind=some (n,d,r,a) from hs]
  obtain⟨g1,g2⟩:=h.KP h3
  show (!(decide (0<(x.frm.map (nmN 98)).length)||(decide (0≤n)&&decide (((x.args.map (nmN 118)).length:Int)≠n))||decide (6<(x.args.map (nmN 118)).length))&&(dZ _ d&&dZ _ r&&dZ _ a))=true
  rw[show dZ (aN p c.main x).dst d=true from fd,show dZ (aN p c.main x).ref r=true from f1,show dZ (aN p c.main x).alt a=true from f2,List.length_map,List.length_map,g1]
  have hlen:(0≤n->(x.args.length:Int)=n)∧x.args.length≤6:=by
   by_cases h7:x.kind=7
   ·rw[if_pos h7] at g2
    rcases nk hs with g | g | g | g | g | g | g | g | g | g | g | g
    case inr.inr.inr.inr.inr.inl=>
     have hm:=h.r1 g.2.2.2.1
     unfold uU at hm
     simp only[h7] at hm
     have hm:0≤x.ref∧x.ref<(c.funcs.length:Int):=hm
     have:=(hc.bod _ (getD_in (l:=c.funcs) (i:=x.ref.toNat) aA (by omega))).p0
     exact⟨λhn=>by omega,by omega⟩
    all_goals (exfalso;omega)
   ·rw[if_neg h7] at g2
    rcases nk hs with g | g | g | g | g | g | g | g | g | g | g | g<;>exact⟨λ_=>g2,by omega⟩
  have h1:(decide (0≤n)&&decide ((x.args.length:Int)≠n))=false:=by
   by_cases hn:0≤n
   ·rw[decide_eq_false (show ¬(x.args.length:Int)≠n from λg=>g (hlen.1 hn)),Bool.and_false]
   ·rw[decide_eq_false hn];rfl
  rw[h1,decide_eq_false (show ¬6<x.args.length by have:=hlen.2;omega)];rfl
theorem Od{p:Pol}{c:Cod}(hc:kL p c){b:Bod}(hb:b∈c.funcs){l:List Op9}(hl:l∈b.blocks){x:Op9}(hx:x∈l){q:Prg}(hq:∀k:Int,0≤k∧k<(c.funcs.length:Int)->(qR q k:Int)=(c.funcs.getD k.toNat aA).params):Cb (abr p c q) (aaz b) (aN p c.main x)=.ok x:=by
 obtain⟨n,d,r,a,h⟩:=Jy (hc.bod b hb) hl hx
 have hB:=hc.bod b hb
 have hv:=Ep hc hb
 have hbl:=hB.len
 obtain⟨_,f1,f2,f3⟩:=GX hc hb h q
 have hD:=Er h
 have hvars:0≤b.vars:=by have:=hB.vars;have:=hB.p0;omega
 have ev:((b.vars.toNat:Nat):Int)=b.vars:=Int.toNat_of_nonneg hvars
 unfold Cb
 rw[f3]
 show bd (iD _ _ (x.args.map (nmN 118)) []) _=_
 rw[Cn (nmN 118) x.args [] λk hk=>oD (by omega) (by rw[ev];exact h.args k hk) _]
 show bd (iD _ _ (x.frm.map (nmN 98)) []) _=_
 rw[Cn (nmN 98) x.frm [] λk hk=>oD (by omega) (h.frm k hk) _]
 show (if x.kind=7∧(x.args.map (nmN 118)).length≠qR q x.ref then _ else _)=_
 rw[if_neg]
 ·have hdst:(if (if 0≤x.dst then nmN 118 x.dst else ByteArray.empty).data.toList=[] then -1 else dJ (aaz b).vals (if 0≤x.dst then nmN 118 x.dst else ByteArray.empty))=x.dst:=by
   cases d with
   | true=>
    have hd:=KS hB hl hx hD
    have hd2:0≤x.dst∧x.dst<((b.vars.toNat:Nat):Int):=by rw[ev];exact hd
    rw[if_pos hd.1,if_neg (by rw[Av];simp)]
    have:=(Aq (oD (c:=118) (n:=b.vars.toNat) (by omega) hd2 0)).2
    exact this.symm
   | false=>
    have hd:=h.d0 Z
    simp only[hd]
    rw[if_neg (show ¬(0:Int)≤-1 by omega),if_pos (show ByteArray.empty.data.toList=[] from rfl)]
  show Except.ok (⟨x.kind,x.op,(if (if 0≤x.dst then nmN 118 x.dst else ByteArray.empty).data.toList=[] then -1 else dJ (aaz b).vals (if 0≤x.dst then nmN 118 x.dst else ByteArray.empty)),x.ref,x.alt,[]++x.args,[]++x.frm,x.num,x.at_⟩:Op9)=_
  rw[hdst];rfl
 ·rintro ⟨h7,hne⟩
  have h3:x.kind≠3:=by omega
  have g2:=(h.KP h3).2
  rw[if_pos h7] at g2
  have hr:r=true:=by
   have hs:=h.sh
   rw[h7] at hs
   have:shp 7=some (-1,true,true,false):=rfl
   rw[this] at hs;cases hs;rfl
  have hm:=h.r1 hr
  unfold uU at hm
  simp only[h7] at hm
  have hm:0≤x.ref∧x.ref<(c.funcs.length:Int):=hm
  have:=hq x.ref hm
  rw[List.length_map] at hne
  omega
theorem DU{p:Pol}{m:Int}:∀{l:List Op9},(∀x∈l,(lM x.kind=true->0≤x.dst)∧(lM x.kind=false->x.dst=-1))->(Cc (l.map (aN p m))).map (·.1)=(eG l).map (nmN 118)
 | [],_=>rfl
 | x::l,h=>by
  have ih:=DU (p:=p) (m:=m) (l:=l) λy hy=>h y (.tail _ hy)
  obtain⟨h1,h2⟩:=h x (.head _)
  unfold Cc eG at *
  rw[List.map_cons,List.filterMap_cons,List.filterMap_cons]
  cases hd:lM x.kind with
  | true=>
   have e:(aN p m x).dst=nmN 118 x.dst:=if_pos (h1 hd)
   rw[e,if_neg (by rw[Av];simp),if_pos rfl]
   simp only[List.map_cons]
   rw[ih]
  | false=>
   have e:(aN p m x).dst=.empty:=if_neg (by rw[h2 hd];omega)
   rw[e,if_pos (show ByteArray.empty.data.toList=[] from rfl),if_neg (by simp)]
   exact ih
theorem DV{p:Pol}{m:Int}:∀{ls:List (List Op9)} {bs:List Blk},bs.length=ls.length->(∀k,k<ls.length->(bs.getD k bq).code=(ls.getD k []).map (aN p m))->(∀l∈ls,∀x∈l,(lM x.kind=true->0≤x.dst)∧(lM x.kind=false->x.dst=-1))->(p8 bs).map (·.1)=(dw ls).map (nmN 118)
 | [],[],_,_,_=>rfl
 | [],_::_,h,_,_=>by cases h
 | _::_,[],h,_,_=>by cases h
 | l::ls,b::bs,h,h2,h3=>by
  have ih:=DV (p:=p) (m:=m) (ls:=ls) (bs:=bs) (by simpa using h) (λk hk=>h2 (k+1) (by simpa using hk)) λl hl=>h3 l (.tail _ hl)
  have h0:b.code=l.map (aN p m):=h2 0 (Nat.zero_lt_succ _)
  unfold p8 dw at *
  rw[List.flatMap_cons,List.flatMap_cons,List.map_append,List.map_append,h0,DU (h3 l (.head _)),ih]
theorem KT{p:Pol}{c:Cod}(hc:kL p c){b:Bod}(hb:b∈c.funcs)(i:Nat):wM (oz p c.main i b)=rng b.vars.toNat λk=>nmN 118 (k:Int):=by
 have hB:=hc.bod b hb
 have hp:=hB.p0
 have hv:=hB.vars
 have e1:(p8 (oz p c.main i b).blocks).map (·.1)=(dw b.blocks).map (nmN 118):=by
  refine DV (p:=p) (m:=c.main) (by show (rng _ _).length=_;rw[bD]) (λk hk=>?_) λl hl x hx=>?_
  ·show ((rng b.blocks.length λk=>GI p c.main k (b.blocks.getD k [])).getD k bq).code=_
   rw[kM _ hk];rfl
  ·obtain⟨n,d,r,a,h⟩:=Jy hB hl hx
   have hD:=Er h
   exact⟨λg=>(KS hB hl hx g).1,λg=>h.d0 (by rw[←hD];exact g)⟩
 have e2:dw b.blocks=rng (dw b.blocks).length λi=>b.params+(i:Int):=Sy 0 Z hB.seq
 show Cj b.params++(p8 (oz p c.main i b).blocks).map (·.1)=_
 rw[e1,e2,AB,show b.vars.toNat=b.params.toNat+(dw b.blocks).length by omega,Sw]
 unfold Cj
 congr 2
 funext k
 rw[show b.params+(k:Int)=((b.params.toNat+k:Nat):Int) by omega]
theorem VD{p:Pol}{c:Cod}(hc:kL p c){i:Nat}(hi:i<c.funcs.length):Sn (oz p c.main i (c.funcs.getD i aA)):=by
 have hb:c.funcs.getD i aA∈c.funcs:=getD_in _ hi
 have hB:=hc.bod _ hb
 have hp:=hB.p0
 have hfl:=hc.fl
 have hbl:=hB.len
 refine⟨?_,?_,by show (rng _ _).length≤6;rw[bD];omega,by show 1≤(rng _ _).length;rw[bD];omega,by show (rng _ _).length≤64;rw[bD];omega,λbk hbk=>?_⟩
 ·show okN (fnN c.main i)=true
  unfold fnN
  split
  ·decide
  ·exact yg (by decide) (by decide) (by omega) (by omega)
 ·refine List.all_eq_true.2 λs hs=>?_
  obtain⟨k,hk,rfl⟩:=kT.1 hs
  exact yg (by decide) (by decide) (by omega) (by omega)
 ·obtain⟨k,hk,rfl⟩:=kT.1 hbk
  refine⟨yg (by decide) (by decide) (by omega) (by omega),λx hx=>?_⟩
  obtain⟨y,hy,rfl⟩:=List.mem_map.1 hx
  exact AJ hc hb (getD_in _ hk) hy
theorem zq{p:Pol}{c:Cod}(hc:kL p c):YF (jl p c):=by
 have hP:=(lJ p).1 hc.pol
 have hal:=hc.al
 refine⟨by show (rng _ _).length≤16;rw[bD];exact hc.al,by show (rng _ _).length≤64;rw[bD];exact hc.fl,λa ha=>?_,λf hf=>?_,?_⟩
 ·obtain⟨i,hi,rfl⟩:=kT.1 ha
  obtain⟨h1,h2,h3⟩:=hc.arr _ (getD_in bB hi)
  exact⟨yg (by decide) (by decide) (by omega) (by omega),uI hP.names (by omega),h1.1,h1.2⟩
 ·obtain⟨i,hi,rfl⟩:=kT.1 hf
  exact VD hc hi
 ·have:(c.funcs.map λb=>(b.blocks.map λl=>l.length).sum)=(jl p c).funcs.map λf=>(f.blocks.map λb=>b.code.length).sum:=by
   refine sO aA bG (by show _=(rng _ _).length;rw[bD]) λi hi=>?_
   have hi:i<c.funcs.length:=by
    have hi:i<(rng _ _).length:=hi
    rwa [bD] at hi
   show _=(((rng c.funcs.length λi=>oz p c.main i (c.funcs.getD i aA)).getD i bG).blocks.map λb=>b.code.length).sum
   rw[kM _ hi]
   congr 1
   refine sO [] bq (by show _=(rng _ _).length;rw[bD]) λk hk=>?_
   have hk:k<(c.funcs.getD i aA).blocks.length:=by
    have hk:k<(rng _ _).length:=hk
    rwa [bD] at hk
   show _=((rng _ λk=>GI p c.main k ((c.funcs.getD i aA).blocks.getD k [])).getD k bq).code.length
   rw[kM _ hk]
   show _=(List.map _ _).length
   rw[List.length_map]
  unfold ko
  rw[←this];exact hc.all
theorem qj{p:Pol}{c:Cod}(hc:kL p c):kC p c=some (jl p c):=by
 unfold kC
 rw[if_pos]
 rw[afF]
 constructor
 ·refine List.all_eq_true.2 λa ha=>?_
  obtain⟨h1,h2,h3⟩:=hc.arr a ha
  unfold wL
  rw[decide_eq_true h2,decide_eq_true h3];rfl
 ·refine List.all_eq_true.2 λb hb=>?_
  have hB:=hc.bod b hb
  unfold qU
  rw[decide_eq_true hB.p0.1,decide_eq_true hB.p0.2]
  show (List.all _ _)=true
  refine List.all_eq_true.2 λl hl=>?_
  unfold NS
  refine List.all_eq_true.2 λx hx=>?_
  obtain⟨n,d,r,a,h⟩:=Jy hB hl hx
  exact (GX hc hb h ⟨[],[]⟩).1
theorem QF{p:Pol}{c:Cod}(hc:kL p c):Js p (jl p c) c:=by
 have hP:=(lJ p).1 hc.pol
 have hal:=hc.al
 have hfl:=hc.fl
 have eA:Sk (jl p c)=rng c.arrays.length λk=>nmN 97 (k:Int):=AB _ _ _
 have eF:KO (jl p c)=rng c.funcs.length λi=>fnN c.main i:=AB _ _ _
 have hF:(rng c.funcs.length λi=>fnN c.main i).Nodup:=Cu λi j hi hj e=>by
  unfold fnN at e
  split at e<;>split at e
  ·omega
  ·exact absurd e (El (by decide))
  ·exact absurd e.symm (El (by decide))
  ·have:=(QA (n:=(i:Int)) (m:=(j:Int)) (by unfold aj;omega) (by unfold aj;omega) e).2
   omega
 have em:fnN c.main c.main.toNat=eH:=by unfold fnN;rw[if_pos (by have:=hc.m;omega)]
 have hmain:dJ (rng c.funcs.length λi=>fnN c.main i) eH=c.main:=by
  have:=(Aq (GV hF hc.m 0)).2
  rw[em] at this
  exact this.symm
 have hpar:∀k:Int,0≤k∧k<(c.funcs.length:Int)->(qR (jl p c) k:Int)=(c.funcs.getD k.toNat aA).params:=λk hk=>by
  unfold qR
  show ((((rng c.funcs.length λi=>oz p c.main i (c.funcs.getD i aA)).getD k.toNat bG).params.length:Nat):Int)=_
  rw[kM _ (by omega)]
  show ((Cj _).length:Int)=_
  unfold Cj
  rw[bD]
  have:=(hc.bod _ (getD_in (l:=c.funcs) (i:=k.toNat) aA (by omega))).p0
  omega
 refine⟨by rw[eA];exact KR (by omega),λa ha=>?_,?_,by rw[eF];exact hF,?_,?_,by rw[eF];exact hmain.symm,by show _=(rng _ _).length;rw[bD],λi hi=>?_⟩
 ·obtain⟨i,hi,rfl⟩:=kT.1 ha
  obtain⟨h1,h2,h3⟩:=hc.arr _ (getD_in bB hi)
  show 0≤bE p.lev (p.lev.getD _ .empty)
  rw[Eo hP.nl (by omega)];omega
 ·show _=(rng _ _).map _
  rw[AB]
  refine Sy bB Z λi hi=>?_
  obtain⟨h1,h2,h3⟩:=hc.arr _ (getD_in bB hi)
  show c.arrays.getD i bB=((c.arrays.getD i bB).1,bE p.lev (p.lev.getD (c.arrays.getD i bB).2.toNat .empty))
  rw[Eo hP.nl (by omega),Int.toNat_of_nonneg h2]
 ·rw[eF]
  exact kT.2 ⟨c.main.toNat,by have:=hc.m;omega,em⟩
 ·rw[eF,hmain]
  have:=hpar c.main hc.m
  rw[hc.mp] at this
  omega
 ·have hi:i<c.funcs.length:=by
   have hi:i<(rng _ _).length:=hi
   rwa [bD] at hi
  have hb:c.funcs.getD i aA∈c.funcs:=getD_in _ hi
  have hB:=hc.bod _ hb
  have hv:=Ep hc hb
  have hbl:=hB.len
  have hvars:0≤(c.funcs.getD i aA).vars:=by have:=hB.vars;have:=hB.p0;omega
  show N7 _ ((rng c.funcs.length λi=>oz p c.main i (c.funcs.getD i aA)).getD i bG) _
  rw[kM _ hi]
  have eV:=KT hc hb i
  have eB:GK (oz p c.main i (c.funcs.getD i aA))=rng (c.funcs.getD i aA).blocks.length λk=>nmN 98 (k:Int):=AB _ _ _
  refine⟨by rw[eB];exact KR (by omega),by rw[eV];exact KR (by omega),?_,by rw[eV,bD];omega,by show _=(rng _ _).length;rw[bD],λk hk=>?_⟩
  ·show _=((Cj _).length:Int)
   unfold Cj
   rw[bD]
   have:=hB.p0
   omega
  ·have hk:k<(c.funcs.getD i aA).blocks.length:=by
    have hk:k<(rng _ _).length:=hk
    rwa [bD] at hk
   have hl:(c.funcs.getD i aA).blocks.getD k []∈(c.funcs.getD i aA).blocks:=getD_in _ hk
   have hO:=hB.ops _ hl
   show YC _ _ ((rng _ λk=>GI p c.main k ((c.funcs.getD i aA).blocks.getD k [])).getD k bq) _
   rw[kM _ hk]
   have eS:qV (oz p c.main i (c.funcs.getD i aA))=aaz (c.funcs.getD i aA):=by
    show Scp.mk _ _=Scp.mk _ _
    rw[eV,eB]
   have eR:DR p (jl p c)=abr p c (jl p c):=by
    show Res.mk _ _ _ _=Res.mk _ _ _ _
    rw[eA,eF]
   rw[eS,eR]
   obtain⟨L,hL⟩:∃L,(c.funcs.getD i aA).blocks.getD k []=L:=⟨_,Z⟩
   rw[hL] at hl hO ⊢
   have hget:∀j,j<L.length->(L.map (aN p c.main)).getD j (aP 0)=aN p c.main (L.getD j op0):=λj hj=>by
    rw[afE,afE,List.getElem?_map,afG hj];rfl
   have hlen:(L.map (aN p c.main)).length=L.length:=List.length_map _
   have hL1:=hO.len
   refine⟨?_,hlen.symm,λj hj=>wN.2 ?_⟩
   ·unfold Gv
    show (decide (1≤(L.map (aN p c.main)).length)&&j5 ((L.map (aN p c.main)).getD ((L.map (aN p c.main)).length-1) (aP 0)).kind)=true
    rw[hlen,decide_eq_true hL1,hget _ (by omega)]
    show j5 (L.getD (L.length-1) op0).kind=true
    exact (hO.e _ (by omega)).2 (by omega)
   ·have hj:j<L.length:=by
     have hj:j<(L.map (aN p c.main)).length:=hj
     rwa [hlen] at hj
    refine⟨?_,?_,?_⟩
    ·show j5 ((L.map (aN p c.main)).getD j (aP 0)).kind=true->j+1=(L.map (aN p c.main)).length
     rw[hlen,hget j hj]
     exact (hO.e j hj).1
    ·show ((L.map (aN p c.main)).getD j (aP 0)).kind=3->j≠0->((L.map (aN p c.main)).getD (j-1) (aP 0)).kind=3
     rw[hget j hj,hget (j-1) (by omega)]
     exact hO.ph j hj
    ·show Cb _ _ ((L.map (aN p c.main)).getD j (aP 0))=_
     rw[hget j hj]
     exact Od hc hb hl (getD_in _ hj) hpar
section
variable{s:BY}{l:List Tok}
def Sm(k:Nat)(x:Ins):Prop:=x.args.length≤k∧x.frm.length≤k
theorem Sm.up{k j:Nat}{x:Ins}(h:Sm k x)(hk:k≤j):Sm j x:=⟨Nat.le_trans h.1 hk,Nat.le_trans h.2 hk⟩
abbrev cap(l:List Tok):Nat:=l.length+10
end
theorem sP{f:Nat->Bool}{k i:Nat}(h:∀j,f j=true):gT f k i=true:=sD.2 λj _ _=>h j
theorem DW(a:List BY):mY a a=true:=by
 unfold mY
 rw[decide_eq_true Z,sP λj=>decide_eq_true rfl];rfl
theorem Ik(a:Ins)(p:Bool):sF a a p=true:=by
 unfold sF
 simp [DW]
theorem Il(a:Blk)(p:Bool):jJ a a p=true:=by
 unfold jJ
 rw[sP (f:=oM a.code a.code p) λj=>Ik _ p]
 simp
theorem Im(a:Fun)(p:Bool):je a a p=true:=by
 unfold je
 rw[sP λj=>Il _ p,DW]
 simp
theorem Io(a:Arr)(p:Bool):jK a a p=true:=by
 unfold jK
 simp
theorem QG(a:Prg)(p:Bool):Gd a a p=true:=by
 unfold Gd
 rw[sP λj=>Io _ p,sP λj=>Im _ p]
 simp
def erI(x:Ins):Ins:={x with at_:=0}
def erB(b:Blk):Blk:=⟨b.name,b.code.map erI,0⟩
structure Sim(s:BY)(l:List Tok)(s':BY)(l':List Tok)(d:Nat):Prop where
 len:l'.length=d+l.length
 kind:∀n k,isV l' (d+n) k=isV l n k
 text:∀n,txV s' l' (d+n)=txV s l n
def aaA{α:Type}(d:Nat)(E:α->α->Prop)(r r':Except (Int×Int) (Nat×α)):Prop:=
 match r with
 | .ok (n,x)=>∃x',r'=.ok (d+n,x')∧E x x'
 | .error (a,e)=>∃a',r'=.error (a',e)
def QH{α:Type}(d c0:Nat)(E:α->α->Prop)(r r':Except (Int×Int) (Nat×(Nat×α))):Prop:=
 match r with
 | .ok (n,(c,x))=>if c0+c≤4096 then ∃x',r'=.ok (d+n,(c0+c,x'))∧E x x' else ∃a',r'=.error (a',3)
 | .error (a,e)=>c0=0->∃a',r'=.error (a',e)
section
variable{s:BY}{l:List Tok}{s':BY}{l':List Tok}{d c0:Nat}(S:Sim s l s' l' d){α β:Type}{E:α->α->Prop}{E2:β->β->Prop}
omit S in
theorem aaA.bind{r r':Except (Int×Int) (Nat×α)}{k k':Nat->α->Except (Int×Int) (Nat×β)}(h1:aaA d E r r')(h2:∀n x x',E x x'->aaA d E2 (k n x) (k' (d+n) x')):aaA d E2 (bnd r k) (bnd r' k'):=by
 rcases r with⟨a,e⟩ | ⟨n,x⟩
 ·obtain⟨a',rfl⟩:=h1
  exact⟨a',Z⟩
 ·obtain⟨x',rfl,hx⟩:=h1
  exact h2 n x x' hx
omit S in
theorem QH.bind{r r':Except (Int×Int) (Nat×(Nat×α))}{k k':Nat->Nat×α->Except (Int×Int) (Nat×(Nat×β))}(h1:QH d c0 E r r')(hb:∀n c x,r=.ok (n,(c,x))->c≤4096)(hm:∀n c x n2 c2 y,r=.ok (n,(c,x))->k n (c,x)=.ok (n2,(c2,y))->c≤c2)
  (h2:∀n c x x',r=.ok (n,(c,x))->c0+c≤4096->E x x'->QH d c0 E2 (k n (c,x)) (k' (d+n) (c0+c,x'))):QH d c0 E2 (bnd r k) (bnd r' k'):=by
 rcases r with⟨a,e⟩ | ⟨n,c,x⟩
 ·exact λh0=>by obtain⟨a',rfl⟩:=h1 h0;exact⟨a',Z⟩
 ·unfold QH at h1
  dsimp only at h1
  split at h1
  ·rename_i hc
   obtain⟨x',rfl,hx⟩:=h1
   exact h2 n c x x' Z hc hx
  ·rename_i hc
   obtain⟨a',rfl⟩:=h1
   show QH d c0 E2 (k n (c,x)) (.error (a',3))
   rcases hk:k n (c,x) with⟨a2,e2⟩ | ⟨n2,c2,y⟩
   ·exact λh0=>by have:=hb n c x rfl;omega
   ·have:=hm n c x n2 c2 y Z hk
    unfold QH
    dsimp only
    rw[if_neg (by omega)]
    exact⟨a',Z⟩
include S
def EI(x x':Ins):Prop:=∃b,x'={x with at_:=b}
omit S in
theorem EI.kind{x x':Ins}(h:EI x x')(k:Int):EI {x with kind:=k} {x' with kind:=k}:=by obtain⟨b,rfl⟩:=h;exact⟨b,Z⟩
omit S in
theorem EI.p8{x x':Ins}(h:EI x x'){a a':BY}(e:a=a'):EI {x with dst:=a} {x' with dst:=a'}:=by obtain⟨b,rfl⟩:=h;exact⟨b,by rw[e]⟩
omit S in
theorem QI{n c:Nat}:gI s l n c=bnd (nmV s l n) λn1 nm=>bnd (dY s l n1 58) λn2 _=>bnd (codeF s l 4098 n2 c []) λn3 r=>.ok (n3,(r.1,⟨nm,r.2,atV s l n⟩)):=rfl
def EB(b b':Blk):Prop:=erB b=erB b'
def EBs(bs bs':List Blk):Prop:=bs.map erB=bs'.map erB
omit S in
theorem EBs.add{bs bs':List Blk}{b b':Blk}(h:EBs bs bs')(hb:EB b b'):EBs (bs++[b]) (bs'++[b']):=by
 unfold EBs at h ⊢
 rw[List.map_append,List.map_append,h,List.map_cons,List.map_cons,show erB b=erB b' from hb]
omit S in
theorem VE{n c:Nat}:mK s l n c=bnd (nmV s l (n+1)) λn1 nm=>bnd (iX s l n1) λn2 ps=>bnd (dY s l n2 123) λn3 _=>bnd (gI s l n3 c) λn4 r=>
 bnd (gP s l 65 n4 r.1 [r.2]) λn5 q=>bnd (dY s l n5 125) λn6 _=>.ok (n6,(q.1,⟨nm,ps,q.2,atV s l n⟩)):=rfl
end
section
variable{s:BY}{l:List Tok}{s':BY}{l':List Tok}{d c0:Nat}(S:Sim s l s' l' d)(A0:List Arr)(F0:List Fun)
end
theorem bt_end{s x:BY}(h10:bt x 0=10):bt (s++x) s.size=10:=by have:=nJ s x 0;rw[Nat.add_zero] at this;rw[this,h10]
section
variable{s x:BY}(hx:0<x.size)(h10:bt x 0=10)
include hx h10
theorem aaB:∀(n:Nat) (rm:Bool) (p:Nat),s.size≤p+n->p≤s.size->(skV s rm p<s.size->skV (s++x) rm p=skV s rm p)∧(skV s rm p=s.size->skV (s++x) rm p=skV (s++x) false (s.size+1))
 | n,rm,p,h,hp=>by
  have hz:s.size<(s++x).size:=by rw[bJ];omega
  by_cases hl:p<s.size
  ·match n with
   | 0=>omega
   | n+1=>
    have eb:bt (s++x) p=bt s p:=fE hl
    rw[pF hl,pF (by omega:p<(s++x).size),eb]
    cases hs:uQ (nextR (bt s p) rm) (bt s p) with
    | true=>exact⟨λ_=>rfl,λe=>by simp at e;omega⟩
    | false=>
     simp only[afS,if_false]
     exact aaB n _ _ (by omega) (by omega)
  ·have e:p=s.size:=by omega
   subst e
   rw[qO (Nat.le_refl _)]
   refine⟨λh=>by omega,λ_=>?_⟩
   have eb:=bt_end (s:=s) h10
   rw[pF hz,eb]
   rfl
end
theorem Es(s:BY)(p q:Nat):(s.extract p q).data.toList=(s.data.toList.drop p).take (q-p):=by
 rw[ByteArray.data_extract,Array.toList_extract,List.extract_eq_take_drop]
theorem YM{a b:BY}(h:a.data.toList=b.data.toList):a=b:=by rw[ba_eq a,ba_eq b,h]
theorem VF(c y:BY):∀(n:Nat) (rm:Bool) (q:Nat),y.size≤q+n->skV (c++y) rm (c.size+q)=c.size+skV y rm q
 | n,rm,q,h=>by
  by_cases hl:q<y.size
  ·match n with
   | 0=>omega
   | n+1=>
    rw[pF hl,pF (by rw[bJ];omega),nJ]
    split
    ·rfl
    ·exact VF c y n _ (q+1) (by omega)
  ·rw[qO (by rw[bJ];omega),qO (by omega)]
theorem zu(c y:BY):∀(n q:Nat),y.size≤q+n->qy (c++y) (c.size+q)=c.size+qy y q
 | n,q,h=>by
  by_cases hl:q<y.size
  ·match n with
   | 0=>omega
   | n+1=>
    have h1:=(bF y q).1
    rw[jX hl,jX (by rw[bJ];omega),j6,j6,ug]
    split
    ·rw[Nat.add_assoc];exact zu c y n _ (by omega)
    ·rfl
  ·rw[kI (by rw[bJ];omega),kI (by omega)]
theorem GY(c y:BY)(q:Nat):bC (c++y) (c.size+q)=c.size+bC y q:=by
 have ed:qN (c++y) (c.size+q+1)=qN y (q+1):=by
  unfold qN
  rw[Nat.add_assoc,nJ,bJ]
  congr 1
  rw[Bool.eq_iff_iff,afL,afL];omega
 unfold bC
 rw[nJ,ed,Nat.add_assoc,zu c y y.size (q+1) (by omega),zu c y y.size q (by omega)]
 split<;>rfl
def shT(k:Nat)(t:Tok):Tok:=⟨t.k,t.f+k,t.t+k⟩
def shE(k:Nat)(r:Tok×Int×Int):Tok×Int×Int:=if r.2.2=0 then (shT k r.1,r.2) else (r.1,r.2.1+k,r.2.2)
theorem AL{s:BY}{p:Nat}(h:p<s.size):(cu s (p:Int)).2≠0->(p:Int)+(cu s (p:Int)).2=((p+(Utf8.decode s p).2:Nat):Int):=λhne=>by
 have:=FM h
 unfold lW at this
 rwa [if_neg hne] at this
theorem QJ{s y:BY}{p q:Nat}(hp:p<s.size)(hq:q<y.size)(hd:Utf8.decode s p=Utf8.decode y q):(cu s (p:Int)).2=0↔(cu y (q:Int)).2=0:=by
 rw[rY hp,rY hq,hd]
theorem nu(s:BY):∀(n m p:Nat),s.size≤p+n->s.size≤p+m->dA s n (p:Int)=dA s m (p:Int)
 | 0,m,p,h,_=>by rw[lX (by omega),lX (by omega)]
 | n+1,0,p,_,h=>by rw[lX (by omega),lX (by omega)]
 | n+1,m+1,p,h1,h2=>by
  rw[dA,dA]
  split
  ·rename_i hl
   have hl:p<s.size:=by omega
   split
   ·rfl
   ·rename_i h0
    rw[AL hl h0]
    have:=(bF s p).1
    exact nu s n m _ (by omega) (by omega)
  ·rfl
theorem Sz(s:BY):∀(n p:Nat),dA s n (p:Int)=-1∨(p:Int)≤dA s n (p:Int)∧dA s n (p:Int)<s.size
 | 0,p=>.inl rfl
 | n+1,p=>by
  rw[dA]
  split
  ·rename_i hl
   have hl:p<s.size:=by omega
   split
   ·exact .inr ⟨Int.le_refl _,by omega⟩
   ·rename_i h0
    rw[AL hl h0]
    rcases Sz s n (p+(Utf8.decode s p).2) with h | h
    ·exact .inl h
    ·exact .inr ⟨by omega,h.2⟩
  ·exact .inl Z
theorem GZ(c y:BY):∀(n q:Nat),y.size≤q+n->dA (c++y) (c++y).size ((c.size+q:Nat):Int)=if dA y y.size (q:Int)=-1 then -1 else dA y y.size (q:Int)+c.size
 | n,q,h=>by
  by_cases hl:q<y.size
  ·match n with
   | 0=>omega
   | n+1=>
    have hl2:c.size+q<(c++y).size:=by rw[bJ];omega
    have ed:=ug c y q
    have hc:=QJ hl2 hl ed
    have h1:=(bF y q).1
    have e1:=nu y y.size (y.size-1+1) q (by omega) (by omega)
    have e2:=nu (c++y) (c++y).size ((c++y).size-1+1) (c.size+q) (by omega) (by omega)
    rw[dA,if_pos (by omega)] at e1 e2
    rw[e1,e2]
    by_cases h0:(cu y (q:Int)).2=0
    ·rw[if_pos h0,if_pos (hc.2 h0),if_neg (by omega)];omega
    ·have h0':(cu (c++y) ((c.size+q:Nat):Int)).2≠0:=λe=>h0 (hc.1 e)
     rw[if_neg h0,if_neg h0',AL hl h0,AL hl2 h0',ed,Nat.add_assoc]
     rw[nu y (y.size-1) y.size _ (by omega) (by omega),nu (c++y) ((c++y).size-1) (c++y).size _ (by rw[bJ];omega) (by rw[bJ];omega)]
     exact GZ c y n _ (by omega)
  ·rw[lX (by rw[bJ];omega),lX (by omega),if_pos rfl]
def Run(s:BY):Nat->List Tok->Int×Int->Prop
 | a,[],r=>(iq s a).2=r∧r.2≠0
 | a,t::l,r=>iq s a=(t,0,0)∧(a:Int)≤t.f∧t.f<t.t∧t.t≤s.size∧Run s t.t.toNat l r
theorem YN{s:BY}{a:Nat}(h:(iq s a).2.2=0):(iq s a).2.1=0:=by
 unfold iq at h ⊢
 split
 ·rename_i e;rw[if_pos e] at h;exact absurd h (show ¬((4:Int)=0) by decide)
 ·rename_i e
  rw[if_neg e] at h
  split
  ·rfl
  ·rename_i e2
   rw[if_neg e2] at h
   split
   ·rename_i e3;rw[if_pos e3] at h;exact absurd h (show ¬((6:Int)=0) by decide)
   ·rfl
theorem QK(s:BY):∀(n a:Nat),s.size≤a+n->a≤s.size->∃l r,Run s a l r
 | n,a,h,ha=>by
  rcases r9 ha with⟨h0,h1,h2,h3⟩ | h4 | h6
  ·match n with
   | 0=>omega
   | n+1=>
    obtain⟨l,r,hr⟩:=QK s n (iq s a).1.t.toNat (by omega) (by omega)
    exact⟨(iq s a).1::l,r,Prod.ext Z (Prod.ext (YN h0) h0),h1,h2,h3,hr⟩
  ·exact⟨[],_,Z,by omega⟩
  ·exact⟨[],_,Z,by omega⟩
theorem Oe{s:BY}:∀{l:List Tok} {a n:Nat} {r:Int×Int} (out:List Tok),Run s a l r->s.size+1≤a+n->a≤s.size->pK s n a out=if r.2=4 then (out++l,0,0) else ([],r.1,r.2)
 | [],a,n,r,out,h,hn,ha=>by
  obtain⟨n,rfl⟩:∃m,n=m+1:=⟨n-1,by omega⟩
  obtain⟨h1,h2⟩:=h
  subst h1
  rw[pK,List.append_nil]
  by_cases e:(iq s a).2.2=4
  ·rw[if_pos e,if_pos e]
  ·rw[if_neg e,if_neg e,if_neg h2]
 | t::l,a,n,r,out,h,hn,ha=>by
  obtain⟨n,rfl⟩:∃m,n=m+1:=⟨n-1,by omega⟩
  obtain⟨h1,h2,h3,h4,h5⟩:=h
  rw[pK,h1,if_neg (show ¬((0:Int)=4) by decide),if_pos rfl]
  show pK s n t.t.toNat (out++[t])=_
  rw[Oe (out++[t]) h5 (by omega) (by omega),List.append_assoc]
  rfl
theorem run_end{s:BY}:∀{l:List Tok} {a:Nat} {r:Int×Int},Run s a l r->a≤s.size->r.2=4∨r.2=6
 | [],a,r,⟨h1,h2⟩,ha=>by
  rcases r9 ha with⟨h0,_⟩ | h4 | h6
  ·rw[h1] at h0;exact absurd h0 h2
  ·rw[h1] at h4;exact .inl h4
  ·rw[h1] at h6;exact .inr h6
 | t::l,a,r,⟨h1,h2,h3,h4,h5⟩,ha=>run_end h5 (by omega)
theorem Og{s:BY}(h:s.size≤65536)(hb:0≤dA s s.size 0):fG s=([],dA s s.size 0,5):=by
 rw[fG,if_neg (by omega),if_pos hb]
theorem Oh{s:BY}(h:s.size≤65536)(hb:dA s s.size 0=-1){l:List Tok}{r:Int×Int}(hr:Run s 0 l r):fG s=if r.2=4 then (l,0,0) else ([],r.1,r.2):=by
 rw[fG,if_neg (by omega),if_neg (by omega),Oe [] hr (by omega) (by omega),List.nil_append]
theorem Jz(s:BY):dA s s.size 0=-1∨0≤dA s s.size 0∧dA s s.size 0<s.size:=Sz s s.size 0
theorem JA(a b c:BY):a++b++c=a++(b++c):=YM (by rw[jG,jG,jG,jG,List.append_assoc])
theorem ac3{sz sz' p a b c d b' c' d':Nat}(hz:sz≤sz')(hb:p+1<sz->b'=b)(hc:p+2<sz->c'=c)(hd:p+3<sz->d'=d)(h:(dec sz p a b c d).1≠65533):dec sz' p a b' c' d'=dec sz p a b c d:=by
 unfold dec at h ⊢
 by_cases h1:a<128
 ·rw[if_pos h1,if_pos h1]
 rw[if_neg h1] at h ⊢
 rw[if_neg h1]
 by_cases c2:a/32=6∧p+1<sz∧b/64=2
 ·have eb:=hb c2.2.1
  subst eb
  rw[if_pos c2,if_pos ⟨c2.1,by omega,c2.2.2⟩]
 rw[if_neg c2] at h ⊢
 by_cases c3:a/16=14∧p+1<sz∧b/64=2∧p+2<sz∧c/64=2
 ·have eb:=hb c3.2.1
  have ec:=hc c3.2.2.2.1
  subst eb ec
  rw[if_pos c3,if_neg (show ¬(a/32=6∧_) by omega),if_pos ⟨c3.1,by omega,c3.2.2.1,by omega,c3.2.2.2.2⟩]
 rw[if_neg c3] at h ⊢
 by_cases c4:a/8=30∧p+1<sz∧b/64=2∧p+2<sz∧c/64=2∧p+3<sz∧d/64=2
 ·have eb:=hb c4.2.1
  have ec:=hc c4.2.2.2.1
  have ed:=hd c4.2.2.2.2.2.1
  subst eb ec ed
  rw[if_pos c4,if_neg (show ¬(a/32=6∧_) by omega),if_neg (show ¬(a/16=14∧_) by omega),if_pos ⟨c4.1,by omega,c4.2.2.1,by omega,c4.2.2.2.2.1,by omega,c4.2.2.2.2.2.2⟩]
 rw[if_neg c4] at h
 exact absurd Z h
theorem YO{sz sz' p a b c d b' c' d':Nat}(hz:sz≤sz')(hb:p+1<sz->b'=b)(hc:p+2<sz->c'=c)(hd:p+3<sz->d'=d)(h:(dec sz' p a b' c' d').1≠65533)(hr:p+(dec sz' p a b' c' d').2≤sz):dec sz p a b c d=dec sz' p a b' c' d':=by
 unfold dec at h hr ⊢
 by_cases h1:a<128
 ·rw[if_pos h1,if_pos h1]
 rw[if_neg h1] at h hr ⊢
 rw[if_neg h1]
 by_cases c2:a/32=6∧p+1<sz'∧b'/64=2
 ·rw[if_pos c2] at h hr ⊢
  by_cases v:128≤a%32*64+b'%64
  ·rw[if_pos v] at hr
   dsimp only at hr
   have eb:=hb (by omega)
   subst eb
   rw[if_pos ⟨c2.1,by omega,c2.2.2⟩]
  ·rw[if_neg v] at h;exact absurd Z h
 rw[if_neg c2] at h hr ⊢
 rw[if_neg (show ¬(a/32=6∧p+1<sz∧b/64=2) from λ⟨x,y,z⟩=>c2 ⟨x,by omega,by rw[hb y];exact z⟩)]
 by_cases c3:a/16=14∧p+1<sz'∧b'/64=2∧p+2<sz'∧c'/64=2
 ·rw[if_pos c3] at h hr ⊢
  split at hr
  ·rename_i v
   dsimp only at hr
   have eb:=hb (by omega)
   have ec:=hc (by omega)
   subst eb ec
   rw[if_pos ⟨c3.1,by omega,c3.2.2.1,by omega,c3.2.2.2.2⟩]
  ·rename_i v
   rw[if_neg v] at h;exact absurd Z h
 rw[if_neg c3] at h hr ⊢
 rw[if_neg (show ¬(a/16=14∧p+1<sz∧b/64=2∧p+2<sz∧c/64=2) from λ⟨x,y,z,u,v⟩=>c3 ⟨x,by omega,by rw[hb y];exact z,by omega,by rw[hc u];exact v⟩)]
 by_cases c4:a/8=30∧p+1<sz'∧b'/64=2∧p+2<sz'∧c'/64=2∧p+3<sz'∧d'/64=2
 ·rw[if_pos c4] at h hr ⊢
  split at hr
  ·rename_i v
   dsimp only at hr
   have eb:=hb (by omega)
   have ec:=hc (by omega)
   have ed:=hd (by omega)
   subst eb ec ed
   rw[if_pos ⟨c4.1,by omega,c4.2.2.1,by omega,c4.2.2.2.2.1,by omega,c4.2.2.2.2.2.2⟩]
  ·rename_i v
   rw[if_neg v] at h;exact absurd Z h
 rw[if_neg c4] at h
 exact absurd Z h
theorem abt{w x:BY}{p:Nat}(hp:p<w.size)(h:(Utf8.decode w p).1≠65533):Utf8.decode (w++x) p=Utf8.decode w p:=by
 rw[bH] at h ⊢
 rw[bH,fE hp]
 exact ac3 (by rw[bJ];omega) (λh=>fE h) (λh=>fE h) (λh=>fE h) h
theorem QL{w x:BY}{p:Nat}(hp:p<w.size)(h:(Utf8.decode (w++x) p).1≠65533)(hr:p+(Utf8.decode (w++x) p).2≤w.size):Utf8.decode w p=Utf8.decode (w++x) p:=by
 rw[bH,fE hp] at h hr
 rw[bH,bH (w++x),fE hp]
 exact YO (by rw[bJ];omega) (λh=>fE h) (λh=>fE h) (λh=>fE h) h hr
theorem YP{s:BY}{p:Nat}(h:j6 s p=true):(Utf8.decode s p).1≠65533:=λe=>by
 unfold j6 at h
 rw[e] at h
 exact absurd h (by decide)
theorem G5{w x:BY}:∀(n p:Nat),w.size≤p+n->p≤w.size->qy (w++x) p=w.size->qy w p=w.size
 | n,p,h,hp,e=>by
  by_cases hl:p<w.size
  ·match n with
   | 0=>omega
   | n+1=>
    have hl2:p<(w++x).size:=by rw[bJ];omega
    have h1:=(bF (w++x) p).1
    rw[jX hl2] at e
    split at e
    ·rename_i hb
     have hle:=qM hl2
     have hr:=(wY (w++x) (w++x).size (p+(Utf8.decode (w++x) p).2) (by omega) hle).1
     have ed:=QL hl (YP hb) (by omega)
     have hb':j6 w p=true:=by
      unfold j6 at hb ⊢
      rw[ed];exact hb
     rw[jX hl,if_pos hb',ed]
     exact G5 n _ (by omega) (by omega) e
    ·omega
  ·rw[kI (by omega)];omega
def Pc(k:Int)(w:BY):Prop:=0<w.size∧uQ false (bt w 0)=true∧bt w 0≠35∧(uP (bt w 0)=true∧w.size=1∧k=4∨uP (bt w 0)=false∧bC w 0=w.size∧kindOf w=k∧k≠0)
theorem ac4(s:BY){p q:Nat}(h1:p≤q)(h2:q≤s.size):s=s.extract 0 p++(s.extract p q++s.extract q s.size):=by
 refine YM ?_
 rw[ji] at h2
 rw[jG,jG,Es,Es,Es,ji,List.drop_zero,Nat.sub_zero,List.take_of_length_le (l:=s.data.toList.drop q) (by rw[List.length_drop];omega)]
 have e1:s.data.toList.drop q=(s.data.toList.drop p).drop (q-p):=by rw[List.drop_drop,Nat.add_sub_cancel' h1]
 rw[e1,List.take_append_drop,List.take_append_drop]
theorem G6(s:BY){p q:Nat}(h2:q≤s.size):(s.extract p q).size=q-p:=by
 rw[ByteArray.size_extract,Nat.min_eq_left h2]
theorem abu(s:BY){p q:Nat}(h:p<q):bt (s.extract p q) 0=bt s p:=by
 have e1:=nI (s.extract p q) 0
 have e2:=nI s p
 unfold sb at e1 e2
 rw[Es,afE,List.getElem?_take,if_pos (by omega),List.getElem?_drop,Nat.add_zero,←afE,e2] at e1
 omega
theorem G7{s:BY}{p:Nat}(h:qN s p=true):p<s.size∧48≤bt s p∧bt s p≤57:=by
 unfold qN at h
 simpa using h
theorem VG{s:BY}{p:Nat}(h:qN s p=true):j6 s p=true∧(Utf8.decode s p).2=1:=by
 obtain⟨h1,h2,h3⟩:=G7 h
 unfold j6
 rw[decode_ascii (by omega)]
 refine⟨?_,Z⟩
 unfold rA rZ
 rw[decide_eq_true (show (48:Int)≤(bt s p:Int) by omega),decide_eq_true (show (bt s p:Int)≤57 by omega)]
 simp
theorem KU{w x:BY}(hw:0<w.size)(h:bC (w++x) 0=w.size):bC w 0=w.size:=by
 unfold bC at h ⊢
 rw[fE hw] at h
 by_cases c:bt w 0=45∧qN (w++x) (0+1)=true
 ·rw[if_pos c] at h
  obtain⟨d1,d2,d3⟩:=G7 c.2
  have h1:1<w.size:=by
   rcases Nat.lt_or_ge 1 w.size with h1 | h1
   ·exact h1
   ·obtain⟨p1,p2⟩:=VG c.2
    rw[jX d1,if_pos p1,p2] at h
    have:=(wY (w++x) (w++x).size (0+1+1) (by omega) (by omega)).1
    omega
  have hd:qN w (0+1)=true:=by
   have:=c.2
   unfold qN at this ⊢
   rw[fE h1] at this
   rw[decide_eq_true (show 0+1<w.size from h1)]
   simpa using (by simpa using this:_∧_∧_).2
  rw[if_pos ⟨c.1,hd⟩]
  exact G5 w.size _ (by omega) (by omega) h
 ·rw[if_neg c] at h
  rw[if_neg (λhc=>c ⟨hc.1,?_⟩)]
  ·exact G5 w.size _ (by omega) (by omega) h
  ·obtain⟨d1,d2,d3⟩:=G7 hc.2
   unfold qN
   rw[fE d1,decide_eq_true (show 0+1<(w++x).size by rw[bJ];omega),decide_eq_true d2,decide_eq_true d3]
   rfl
theorem afk{s:BY}{a:Nat}{t:Tok}(ha:a≤s.size)(h:iq s a=(t,0,0)):Pc t.k (s.extract t.f.toNat t.t.toNat):=by
 obtain⟨h1,h2,h3⟩:=FR s s.size false a (by omega) ha
 obtain⟨p,hp⟩:∃p,skV s false a=p:=⟨_,Z⟩
 rw[hp] at h1 h2 h3
 by_cases e:p=s.size
 ·rw[BH hp e] at h
  exact absurd (congrArg (λr=>r.2.2) h) (show ¬((4:Int)=0) by decide)
 obtain⟨g1,g2⟩:=h3 (by omega)
 cases hs:uP (bt s p) with
 | true=>
  rw[BJ hp e hs] at h
  obtain rfl:=(Prod.mk.inj h).1
  show Pc 4 (s.extract ((p:Int)).toNat ((p:Int)+1).toNat)
  rw[show ((p:Int)).toNat=p by omega,show ((p:Int)+1).toNat=p+1 by omega]
  have z2:=G6 s (p:=p) (q:=p+1) (by omega)
  rw[←abu s (show p<p+1 by omega)] at g1 g2 hs
  exact⟨by omega,g1,g2,.inl ⟨hs,by omega,Z⟩⟩
 | false=>
  by_cases hk:kindOf (s.extract p (bC s p))=0
  ·rw[FY hp e hs hk] at h
   exact absurd (congrArg (λr=>r.2.2) h) (show ¬((6:Int)=0) by decide)
  rw[Kk hp e hs hk] at h
  obtain rfl:=(Prod.mk.inj h).1
  obtain⟨q,hq⟩:∃q,bC s p=q:=⟨_,Z⟩
  have h4:=F5 hk
  have h5:=vZ (s:=s) (p:=p) (by omega)
  rw[hq] at h4 h5 hk ⊢
  show Pc (kindOf (s.extract p q)) (s.extract ((p:Int)).toNat ((q:Int)).toNat)
  rw[show ((p:Int)).toNat=p by omega,show ((q:Int)).toNat=q by omega]
  have sp:=ac4 s (show p≤q by omega) h5.2
  have z1:=G6 s (p:=0) (q:=p) (by omega)
  have z2:=G6 s (p:=p) (q:=q) h5.2
  have ep:bC (s.extract p q++s.extract q s.size) 0=(s.extract p q).size:=by
   have:=GY (s.extract 0 p) (s.extract p q++s.extract q s.size) 0
   rw[←sp,z1,show p-0+0=p by omega,hq] at this
   omega
  rw[←abu s h4] at g1 g2 hs
  exact⟨by omega,g1,g2,.inr ⟨hs,KU (by omega) ep,Z,hk⟩⟩
def rem:BY:=⟨#[32,35,32,114,101,109,97,114,107,10]⟩
theorem ac5(y:BY){i:Nat}(hi:i<10):bt (rem++y) i=bt rem i:=fE hi
theorem YQ(y:BY):(rem++y).size=y.size+10:=by rw[bJ];show 10+y.size=_;omega
def tx(s:BY)(t:Tok):Int×BY:=(t.k,s.extract t.f.toNat t.t.toNat)
theorem ac6{s:BY}{p:Nat}(hp:p<s.size)(hd:(Utf8.decode s p).1≠65533)(h:dA s s.size ((p+(Utf8.decode s p).2:Nat):Int)=-1):dA s s.size (p:Int)=-1:=by
 have h1:=(bF s p).1
 have hne:¬(cu s (p:Int)).2=0:=λe=>hd ((rY hp).1 e).1
 rw[nu s s.size (s.size-1+1) p (by omega) (by omega),dA,if_pos (by omega),if_neg hne,AL hp hne,nu s (s.size-1) s.size _ (by omega) (by omega)]
 exact h
theorem VH{s:BY}{p:Nat}(hp:p<s.size)(hb:bt s p<128)(h:dA s s.size ((p+1:Nat):Int)=-1):dA s s.size (p:Int)=-1:=by
 have hd:=decode_ascii hb
 refine ac6 hp (by rw[hd];show bt s p≠65533;omega) ?_
 rw[hd];exact h
theorem afB(y:BY)(h:dA y y.size 0=-1):dA (rem++y) (rem++y).size 0=-1:=by
 have hz:=YQ y
 have h2:=GZ rem y y.size 0 (by omega)
 rw[show ((0:Nat):Int)=0 from rfl,if_pos h] at h2
 have ha:∀i,i<10->bt rem i<128:=by decide +kernel
 have step:∀i,i<10->dA (rem++y) (rem++y).size ((i+1:Nat):Int)=-1->dA (rem++y) (rem++y).size (i:Int)=-1:=λi hi hb=>
  VH (by omega) (by rw[ac5 y hi];exact ha i hi) hb
 exact step 0 (by omega) (step 1 (by omega) (step 2 (by omega) (step 3 (by omega) (step 4 (by omega) (step 5 (by omega) (step 6 (by omega) (step 7 (by omega) (step 8 (by omega) (step 9 (by omega) h2)))))))))
theorem aaC{s:BY}(h:(fG s).2.2=0):s.size≤65536∧dA s s.size 0=-1∧∃r,r.2=4∧Run s 0 (fG s).1 r:=by
 by_cases hs:s.size≤65536
 rotate_left
 ·unfold fG at h
  rw[if_pos (by omega)] at h
  exact absurd h (show ¬((2:Int)=0) by decide)
 refine⟨hs,?_⟩
 rcases Jz s with hb | hb
 ·refine⟨hb,?_⟩
  obtain⟨l,r,hr⟩:=QK s s.size 0 (by omega) (Nat.zero_le _)
  have e:=Oh hs hb hr
  by_cases h4:r.2=4
  ·rw[if_pos h4] at e
   rw[e]
   exact⟨r,h4,hr⟩
  ·rw[if_neg h4] at e
   rw[e] at h
   have:=run_end hr (Nat.zero_le _)
   have h:r.2=0:=h
   omega
 ·rw[Og hs hb.1] at h
  exact absurd h (show ¬((5:Int)=0) by decide)
def QQ{α:Type}(s:BY)(p:α->Prop):Except (Int×Int) (Nat×α)->Prop
 | .ok (_,x)=>p x
 | .error e=>0≤e.1∧e.1≤s.size
section
variable{s:BY}{l:List Tok}(H:qz s l)
theorem dD{α β:Type}{p:α->Prop}{q:β->Prop}{r:Except (Int×Int) (Nat×α)}{k:Nat->α->Except (Int×Int) (Nat×β)}(h1:QQ s p r)(h2:∀n a,p a->QQ s q (k n a)):QQ s q (bnd r k):=by
 rcases r with e | ⟨n,a⟩
 ·exact h1
 ·exact h2 n a h1
theorem YR{α:Type}{p q:α->Prop}{r:Except (Int×Int) (Nat×α)}(h:QQ s p r)(hq:∀x,p x->q x):QQ s q r:=by
 rcases r with e | ⟨n,a⟩
 ·exact h
 ·exact hq a h
theorem qq0{α:Type}{p:α->Prop}{k:Int}:QQ (α:=α) s p (.error (0,k)):=⟨Int.le_refl _,by omega⟩
include H
theorem mO{α:Type}{p:α->Prop}(n:Nat)(k:Int):QQ (α:=α) s p (.error (atV s l n,k)):=by
 show 0≤atV s l n∧atV s l n≤s.size
 unfold atV
 split
 ·rename_i hn
  have:=H.get hn
  omega
 ·omega
abbrev TT{α:Type}:α->Prop:=λ_=>True
theorem abv{n:Nat}:QQ s (λx=>x=txV s l n) (nmV s l n):=by
 unfold nmV
 split
 ·exact Z
 ·exact mO H _ _
theorem mq{n:Nat}:QQ s TT (nmV s l n):=YR (abv H) λ_ _=>trivial
theorem uJ{n:Nat}{b:UInt8}:QQ s TT (dY s l n b):=by
 unfold dY
 split
 ·exact tR
 ·exact mO H _ _
theorem Oi{α:Type}{p:α->Prop}{b:UInt8}{r:Except (Int×Int) (Nat×α)}(h:QQ s p r):QQ s p (kW s l b r):=by
 rw[PZ]
 exact dD h λn x hx=>dD (uJ H) λn _ _=>hx
theorem JB:∀(f n k:Nat) (o:List BY),QQ s TT (lY s l f n k o)
 | 0,n,k,o=>qq0
 | f+1,n,k,o=>by
  rw[lY]
  split
  ·split
   ·exact mO H _ _
   ·split
    ·exact JB f _ _ _
    ·exact tR
  ·exact mO H _ _
theorem Oj{n:Nat}:QQ s TT (iX s l n):=by
 unfold iX
 split
 ·split
  ·exact tR
  ·exact Oi H (JB H _ _ _ _)
 ·exact mO H _ _
def KK(a:Int)(d:BY)(x:Ins):Prop:=x.at_=a∧x.dst=d
variable{a:Int}{d:BY}
theorem zw{n:Nat}{x:Ins}(h:KK a d x):QQ s (KK a d) (lZ s l n x):=dD (mq H) λn _ _=>h
theorem QM{n:Nat}{x:Ins}(h:KK a d x):QQ s (KK a d) (nL s l n x):=dD (mq H) λn _ _=>h
theorem G8{n:Nat}{x:Ins}(h:KK a d x):QQ s (KK a d) (um s l n x):=dD (mq H) λn _ _=>h
theorem Ol:∀(f n k:Nat) (x:Ins),KK a d x->QQ s (KK a d) (l7 s l f n k x)
 | 0,n,k,x,h=>qq0
 | f+1,n,k,x,h=>by
  rw[l7]
  split
  ·exact mO H _ _
  ·refine dD (p:=KK a d) (dD (mq H) λn _ _=>dD (uJ H) λn _ _=>dD (mq H) λn _ _=>h) λn y hy=>?_
   split
   ·exact Ol f _ _ _ hy
   ·exact hy
theorem aaD{n:Nat}{x:Ins}{w:List UInt8}(h:KK a d x):QQ s (KK a d) (Dt s l n x w):=by
 have h0:∀k:Int,KK a d ({x with kind:=k}:Ins):=λk=>h
 unfold Dt
 split
 ·unfold rC;split
  ·exact h
  ·exact mO H _ _
 split
 ·exact dD (G8 H (h0 4)) λn y hy=>QM H hy
 split
 ·exact dD (G8 H (h0 5)) λn y hy=>QM H hy
 split
 ·exact G8 H (h0 8)
 split
 ·exact dD (G8 H (h0 7)) λn y hy=>dD (Oj H) λn o _=>hy
 split
 ·exact dD (QM H (h0 10)) λn y hy=>G8 H hy
 split
 ·exact dD (uJ H) λn _ _=>Oi H (Ol H _ _ _ _ (h0 3))
 ·exact mO H _ _
theorem YS{n:Nat}{x:Ins}(h:KK a d x):QQ s (KK a d) (dU s l n x):=by
 unfold dU
 split
 ·exact dD (zw H (x:={x with kind:=2,op:=_}) h) λn y hy=>zw H hy
 ·exact aaD H h
theorem ac7{w:List UInt8}{f:Nat->Ins->Except (Int×Int) (Nat×Ins)}(hf:rD s l w=some f){n:Nat}{x:Ins}(h:KK a d x):QQ s (KK a d) (f n x):=by
 unfold rD at hf
 split at hf
 ·obtain rfl:=afK hf
  exact dD (mq H) λn r _=>dD (zw H (x:={{x with kind:=6} with ref:=r}) h) λn y hy=>dD (zw H hy) λn y hy=>hy
 split at hf
 ·obtain rfl:=afK hf
  exact dD (mq H) λn r _=>dD (zw H (x:={{x with kind:=9} with ref:=r}) h) λn y hy=>hy
 split at hf
 ·obtain rfl:=afK hf
  exact dD (mq H) λn r _=>h
 split at hf
 ·obtain rfl:=afK hf
  exact dD (zw H (x:={x with kind:=12}) h) λn y hy=>dD (mq H) λn _ _=>dD (mq H) λn _ _=>hy
 split at hf
 ·obtain rfl:=afK hf
  exact dD (zw H (x:={x with kind:=13}) h) λn y hy=>hy
 ·cases hf
def PI(s:BY)(l:List Tok)(n:Nat)(x:Ins):Prop:=x.at_=atV s l n∧(0<x.dst.size->x.dst=txV s l n)
theorem YT{n c:Nat}:QQ s (PI s l n) (bN s l n c):=by
 unfold bN
 split
 ·exact mO H _ _
 split
 ·exact mO H _ _
 split
 ·exact mO H _ _
 split
 ·rename_i f hf
  exact YR (ac7 H hf (a:=atV s l n) (d:=.empty) ⟨Z,Z⟩) λy hy=>⟨hy.1,λh=>by rw[hy.2] at h;exact absurd h (by decide)⟩
 ·refine dD (abv H) λn1 d hd=>dD (uJ H) λn2 _ _=>?_
  exact YR (YS H (a:=atV s l n) (d:=d) ⟨Z,Z⟩) λy hy=>⟨hy.1,λ_=>by rw[hy.2,hd]⟩
def Chn(s:BY)(l:List Tok):Nat->List Ins->Nat->Prop
 | lo,[],hi=>lo≤hi
 | lo,x::xs,hi=>∃k,lo≤k∧k<l.length∧PI s l k x∧Chn s l (k+1) xs hi
omit H in
theorem Chn.low{lo lo':Nat}(h:lo'≤lo):∀{xs:List Ins} {hi:Nat},Chn s l lo xs hi->Chn s l lo' xs hi
 | [],hi,h1=>Nat.le_trans h h1
 | x::xs,hi,⟨k,h1,h2⟩=>⟨k,Nat.le_trans h h1,h2⟩
theorem G9:∀{f n c:Nat} {xs:List Ins},n≤l.length->QQ s TT (codeF s l f n c xs)∧∀{n' c':Nat} {ys:List Ins},codeF s l f n c xs=.ok (n',(c',ys))->∃zs,ys=xs++zs∧Chn s l n zs n'
 | 0,n,c,xs,hn=>⟨qq0,λh=>by simp [codeF] at h⟩
 | f+1,n,c,xs,hn=>by
  rw[codeF]
  split
  ·refine⟨tR,λh=>?_⟩
   simp only[Except.ok.injEq,afO] at h
   obtain⟨rfl,rfl,rfl⟩:=h
   exact⟨[],(List.append_nil _).symm,Nat.le_refl _⟩
  ·have hq:=YT H (n:=n) (c:=c)
   rcases hV:bN s l n c with e | ⟨n1,x⟩
   ·rw[hV] at hq
    exact⟨hq,λh=>by cases h⟩
   ·rw[hV] at hq
    obtain⟨u1,u2⟩:=F7 _ _ hV
    obtain⟨g1,g2⟩:=G9 (f:=f) (n:=n1) (c:=c+1) (xs:=xs++[x]) u2
    refine⟨g1,λh=>?_⟩
    obtain⟨zs,e,hc⟩:=g2 h
    exact⟨x::zs,by rw[e,List.append_assoc];rfl,n,Nat.le_refl _,by omega,hq,hc.low (by omega)⟩
def ChB(s:BY)(l:List Tok):Nat->List Blk->Nat->Prop
 | lo,[],hi=>lo≤hi
 | lo,b::bs,hi=>∃k m,lo≤k∧k<l.length∧b.at_=atV s l k∧Chn s l (k+1) b.code m∧ChB s l m bs hi
theorem DX{n c:Nat}:QQ s TT (gI s l n c)∧∀{n' c':Nat} {b:Blk},gI s l n c=.ok (n',(c',b))->b.at_=atV s l n∧n<l.length∧Chn s l (n+1) b.code n':=by
 rw[QI]
 have q1:=mq H (n:=n)
 rcases h1:nmV s l n with e | ⟨n1,nm⟩
 ·rw[h1] at q1;exact⟨q1,λh=>by cases h⟩
 obtain⟨u1,u2⟩:=pO _ _ h1
 simp only[bnd]
 have q2:=uJ H (n:=n1) (b:=58)
 rcases h2:dY s l n1 58 with e | ⟨n2,u⟩
 ·rw[h2] at q2;exact⟨q2,λh=>by cases h⟩
 obtain⟨u3,u4⟩:=uq _ _ h2
 simp only
 obtain⟨q3,q4⟩:=G9 H (f:=4098) (n:=n2) (c:=c) (xs:=[]) u4
 rcases h3:codeF s l 4098 n2 c [] with e | ⟨n3,c3,ys⟩
 ·rw[h3] at q3;exact⟨q3,λh=>by cases h⟩
 refine⟨tR,λh=>?_⟩
 obtain⟨zs,e,hc⟩:=q4 h3
 simp only[Except.ok.injEq,afO] at h
 obtain⟨rfl,rfl,rfl⟩:=h
 rw[List.nil_append] at e
 subst e
 exact⟨Z,by omega,hc.low (by omega)⟩
theorem AO:∀{f n c:Nat} {bs:List Blk},c≤4096->QQ s TT (gP s l f n c bs)∧∀{n' c':Nat} {ys:List Blk},gP s l f n c bs=.ok (n',(c',ys))->∃zs,ys=bs++zs∧ChB s l n zs n'
 | 0,n,c,bs,hc=>⟨qq0,λh=>by simp [gP] at h⟩
 | f+1,n,c,bs,hc=>by
  rw[gP]
  split
  ·split
   ·exact⟨mO H _ _,λh=>by cases h⟩
   ·obtain⟨q1,q2⟩:=DX H (n:=n) (c:=c)
    rcases hV:gI s l n c with e | ⟨n1,c1,b⟩
    ·rw[hV] at q1
     exact⟨q1,λh=>by cases h⟩
    ·obtain⟨r1,r2,r3⟩:=q2 hV
     obtain⟨g1,g2⟩:=AO (f:=f) (n:=n1) (c:=c1) (bs:=bs++[b]) (su hc hV).2.2
     refine⟨g1,λh=>?_⟩
     obtain⟨zs,e,hz⟩:=g2 h
     exact⟨b::zs,by rw[e,List.append_assoc];rfl,n,n1,Nat.le_refl _,r2,r1,r3,hz⟩
  ·refine⟨tR,λh=>?_⟩
   simp only[Except.ok.injEq,afO] at h
   obtain⟨rfl,rfl,rfl⟩:=h
   exact⟨[],(List.append_nil _).symm,Nat.le_refl _⟩
def ChF(s:BY)(l:List Tok)(f:Fun):Prop:=∃k hi,k<l.length∧(txV s l k).data.toList=[102,110]∧f.at_=atV s l k∧ChB s l (k+1) f.blocks hi
theorem QN{n c:Nat}(hc:c≤4096):QQ s TT (mK s l n c)∧∀{n' c':Nat} {f:Fun},mK s l n c=.ok (n',(c',f))->∃hi,f.at_=atV s l n∧ChB s l (n+1) f.blocks hi:=by
 rw[VE]
 have q1:=mq H (n:=n+1)
 rcases h1:nmV s l (n+1) with e | ⟨n1,nm⟩
 ·rw[h1] at q1;exact⟨q1,λh=>by cases h⟩
 obtain⟨u1,u2⟩:=pO _ _ h1
 simp only[bnd]
 have q2:=Oj H (n:=n1)
 rcases h2:iX s l n1 with e | ⟨n2,ps⟩
 ·rw[h2] at q2;exact⟨q2,λh=>by cases h⟩
 obtain⟨u3,u4⟩:=Ac _ _ h2
 simp only
 have q3:=uJ H (n:=n2) (b:=123)
 rcases h3:dY s l n2 123 with e | ⟨n3,u⟩
 ·rw[h3] at q3;exact⟨q3,λh=>by cases h⟩
 obtain⟨u5,u6⟩:=uq _ _ h3
 simp only
 obtain⟨q4,q5⟩:=DX H (n:=n3) (c:=c)
 rcases h4:gI s l n3 c with e | ⟨n4,c4,b⟩
 ·rw[h4] at q4;exact⟨q4,λh=>by cases h⟩
 obtain⟨b1,b2,b3⟩:=q5 h4
 obtain⟨u7,u8,u9⟩:=su hc h4
 simp only
 obtain⟨q6,q7⟩:=AO H (f:=65) (n:=n4) (c:=c4) (bs:=[b]) u9
 rcases h5:gP s l 65 n4 c4 [b] with e | ⟨n5,c5,q⟩
 ·rw[h5] at q6;exact⟨q6,λh=>by cases h⟩
 obtain⟨zs,e,hz⟩:=q7 h5
 simp only
 have q8:=uJ H (n:=n5) (b:=125)
 rcases h6:dY s l n5 125 with e | ⟨n6,u⟩
 ·rw[h6] at q8;exact⟨q8,λh=>by cases h⟩
 refine⟨tR,λh=>?_⟩
 simp only[Except.ok.injEq,afO] at h
 obtain⟨rfl,rfl,rfl⟩:=h
 subst e
 exact⟨n5,Z,n3,n4,by omega,b2,b1,b3,hz⟩
theorem ac8{n:Nat}:QQ s TT (xK s l n):=by
 unfold xK
 refine dD (mq H) λn1 nm _=>?_
 split
 ·split
  ·exact mO H _ _
  ·exact dD (mq H) λn2 lv _=>trivial
 ·exact mO H _ _
theorem zx:∀{f n c:Nat} {p:Prg},c≤4096->(∀f,f∈p.funcs->ChF s l f)->QQ s (λq:Prg=>∀f,f∈q.funcs->ChF s l f) (pR s l f n c p)
 | 0,n,c,p,hc,hp=>qq0
 | f+1,n,c,p,hc,hp=>by
  rw[pR]
  split
  ·rename_i hlt
   split
   ·split
    ·exact mO H _ _
    ·refine dD (ac8 H) λn1 x _=>?_
     exact zx (p:=⟨p.arrays++[x],p.funcs⟩) hc hp
   ·split
    ·rename_i hw
     split
     ·exact mO H _ _
     ·obtain⟨q1,q2⟩:=QN H (n:=n) hc
      rcases hV:mK s l n c with e | ⟨n1,c1,x⟩
      ·rw[hV] at q1;exact q1
      ·obtain⟨hi,e1,e2⟩:=q2 hV
       refine zx (p:=⟨p.arrays,p.funcs++[x]⟩) (RX hc hV).2.2 λg hg=>?_
       rcases List.mem_append.1 hg with hg | hg
       ·exact hp g hg
       ·obtain rfl:=List.mem_singleton.1 hg
        exact⟨n,hi,hlt,hw,e1,e2⟩
    ·exact mO H _ _
  ·exact hp
end
theorem aaE{s:BY}:0≤(fG s).2.1∧(fG s).2.1≤s.size:=by
 rcases Nat.lt_or_ge 65536 s.size with h1 | h1
 ·rw[fG,if_pos h1];exact⟨Int.le_refl _,Int.natCast_nonneg _⟩
 rcases Jz s with hb | hb
 ·obtain⟨l,r,hr⟩:=QK s s.size 0 (by omega) (Nat.zero_le _)
  rw[Oh h1 hb hr]
  split
  ·exact⟨Int.le_refl _,Int.natCast_nonneg _⟩
  ·rename_i h4
   have VI:∀{l:List Tok} {a:Nat} {r:Int×Int},a≤s.size->Run s a l r->0≤r.1∧r.1≤s.size:=λ{l}=>by
    induction l with
    | nil=>
     intro a r ha h
     have hle:=FR s s.size false a (by omega) ha
     have e:=h.1
     unfold iq at e
     split at e
     ·subst e;exact⟨Int.natCast_nonneg _,Int.le_refl _⟩
     ·split at e
      ·subst e;exact absurd rfl h.2
      ·split at e
       ·subst e;exact⟨Int.natCast_nonneg _,by show ((skV s false a:Nat):Int)≤_;omega⟩
       ·subst e;exact absurd rfl h.2
    | cons t l ih=>
     intro a r ha ⟨g1,g2,g3,g4,g5⟩
     exact ih (by omega) g5
   exact VI (Nat.zero_le _) hr
 ·rw[Og h1 hb.1]
  exact⟨hb.1,by show dA s s.size 0≤_;omega⟩
theorem Om(s:BY):(0≤(bY s).2.1∧(bY s).2.1≤s.size)∧((bY s).2.2=0->(fG s).2.2=0∧∀f,f∈(bY s).1.funcs->ChF s (fG s).1 f):=by
 unfold bY
 split
 ·rename_i h0
  have H:=Gb s (BN h0)
  have hp:=zx H (f:=(fG s).1.length+1) (n:=0) (c:=0) (p:=⟨[],[]⟩) (Nat.zero_le _) (λf hf=>by cases hf)
  rcases hV:pR s (fG s).1 ((fG s).1.length+1) 0 0 ⟨[],[]⟩ with⟨a,e⟩ | ⟨n,q⟩
  ·rw[hV] at hp
   exact⟨hp,λ_=>⟨h0,λf hf=>by cases hf⟩⟩
  ·rw[hV] at hp
   exact⟨⟨Int.le_refl _,Int.natCast_nonneg _⟩,λ_=>⟨h0,hp⟩⟩
 ·rename_i h0
  exact⟨aaE,λh=>absurd h h0⟩
def abw(c:Nat):Bool:=decide (c<128)&&!rA c&&!rZ c
def ac9(y:BY):Prop:=y.size=0∨0<y.size∧abw (bt y 0)=true
inductive Txt:List (Int×BY)->BY->Prop
 | nil:Txt [] .empty
 | blank (b:BY) (hb:b=⟨#[32]⟩∨b=⟨#[10]⟩) {l:List (Int×BY)} {y:BY} (h:Txt l y):Txt l (b++y)
 | tok {k:Int} {w:BY} {l:List (Int×BY)} {y:BY} (hp:Pc k w) (hs:k=4∨ac9 y) (h:Txt l y):Txt ((k,w)::l) (w++y)
def TxH(l:List (Int×BY))(y:BY):Prop:=∀m z,Txt m z->Txt (l++m) (y++z)
def TxS(l:List (Int×BY))(y:BY):Prop:=∀m z,Txt m z->ac9 z->Txt (l++m) (y++z)
def Beg(y:BY):Prop:=0<y.size∧abw (bt y 0)=true
theorem Beg.app{y:BY}(h:Beg y)(z:BY):Beg (y++z):=⟨by rw[bJ];have:=h.1;omega,by rw[fE h.1];exact h.2⟩
theorem Beg.soft{y:BY}(h:Beg y):ac9 y:=.inr h
theorem TxH.weak{l:List (Int×BY)}{y:BY}(h:TxH l y):TxS l y:=λm z hz _=>h m z hz
theorem TxH.app{l m:List (Int×BY)}{y z:BY}(h:TxH l y)(k:TxH m z):TxH (l++m) (y++z):=λn x hx=>by
 rw[List.append_assoc,JA];exact h _ _ (k _ _ hx)
theorem TxS.app{l m:List (Int×BY)}{y z:BY}(h:TxS l y)(k:TxH m z)(hb:Beg z):TxH (l++m) (y++z):=λn x hx=>by
 rw[List.append_assoc,JA];exact h _ _ (k _ _ hx) (hb.app x).soft
instance(k : Int)(w : BY) : Decidable (Pc k w) := by unfold Pc; exact inferInstance
theorem qI(l:List UInt8):(ba l).size=l.length:=by show l.toArray.size=l.length;simp
abbrev Tks:=List (Int×BY)
def hdT:Tks->BY
 | []=>.empty
 | (_,w)::_=>w
def AtT(s:BY)(l:List Tok)(n:Nat)(T:Tks):Prop:=n≤l.length∧(l.map (tx s)).drop n=T
section
variable{s:BY}{l:List Tok}{n:Nat}{T:Tks}
theorem AtT.of(h:l.map (tx s)=T):AtT s l 0 T:=⟨Nat.zero_le _,by rw[List.drop_zero];exact h⟩
theorem AtT.len(h:AtT s l n T):l.length=n+T.length:=by
 have:=congrArg List.length h.2
 simp only[List.length_drop,List.length_map] at this
 have:=h.1
 omega
theorem AtT.hd{k:Int}{w:BY}(h:AtT s l n ((k,w)::T)):n<l.length∧(l.getD n mX).k=k∧txV s l n=w∧AtT s l (n+1) T:=by
 have hl:=h.len
 rw[List.length_cons] at hl
 have hn:n<l.length:=by omega
 have h2:=h.2
 have hn':n<(l.map (tx s)).length:=by rw[List.length_map];exact hn
 rw[List.drop_eq_getElem_cons hn'] at h2
 obtain⟨e1,e2⟩:=List.cons.inj h2
 rw[List.getElem_map] at e1
 have e3:l.getD n mX=l[n]:=by rw[afE,afG hn];rfl
 refine⟨hn,?_,?_,by omega,e2⟩
 ·rw[e3];exact congrArg Prod.fst e1
 ·unfold txV
  rw[if_pos hn,e3]
  exact congrArg Prod.snd e1
theorem AtT.app:∀{A:Tks} {n:Nat},AtT s l n (A++T)->AtT s l (n+A.length) T
 | [],n,h=>h
 | (k,w)::A,n,h=>by
  have:=AtT.app (A:=A) h.hd.2.2.2
  rw[List.length_cons]
  rwa [show n+1+A.length=n+(A.length+1) by omega] at this
theorem AtT.text(h:AtT s l n T):txV s l n=hdT T:=by
 match T,h with
 | [],h=>
  have:=h.len
  unfold txV
  rw[if_neg (by simp at this;omega)]
  rfl
 | (k,w)::T,h=>exact h.hd.2.2.1
theorem AtT.kind{k k2:Int}{w:BY}(h:AtT s l n ((k,w)::T)):isV l n k2=decide (k=k2):=by
 unfold isV
 rw[decide_eq_true h.hd.1,h.hd.2.1]
 rfl
theorem AtT.is{k:Int}{w:BY}(h:AtT s l n ((k,w)::T)):isV l n k=true:=by rw[h.kind];simp
end
def cN(bs:List Blk):Nat:=(bs.map λb=>b.code.length).sum
theorem aaF{a:Arr}(h:lG a=true):(RY a).size≤300:=by
 unfold lG at h
 simp only[afR,afU,afP,Bool.not_eq_false'] at h
 obtain⟨⟨⟨h1,h2⟩,h3⟩,h4⟩:=h
 have s1:=l8 h1
 have s2:=l8 h2
 have s3:=xg (n:=a.size) (by unfold aj;omega)
 unfold RY
 rw[ae3,bJ,bJ,bJ,bJ,bJ,bJ]
 show 5+(1+(_+(1+(_+(1+_)))))≤_
 omega
structure BlkR(b:Blk):Prop where
 name:okN b.name=true
 code:∀x,x∈b.code->cZ x=true
 few:b.code.length≤4096
structure FunR(f:Fun):Prop where
 name:okN f.name=true
 params:gU f.params=true
 acP:f.params.length≤6
 aaq:f.blocks.length≤64
 blocks:∀b,b∈f.blocks->BlkR b
structure PrgR(p:Prg):Prop where
 yT:p.arrays.length≤16
 Ku:p.funcs.length≤64
 arrays:∀a,a∈p.arrays->lG a=true
 funcs:∀f,f∈p.funcs->FunR f
theorem VJ{p:Prg}(h:rightG p=true):PrgR p:=by
 unfold rightG at h
 simp only[afF,afR,afU,afP,afL,List.all_eq_true] at h
 obtain⟨⟨⟨⟨h1,h2⟩,h3⟩,h4⟩,h5⟩:=h
 refine⟨by omega,by omega,h3,λf hf=>?_⟩
 have hk:=h4 f hf
 unfold lH at hk
 simp only[afF,afR,afU,afP,Bool.not_eq_false',List.all_eq_true] at hk
 obtain⟨⟨⟨⟨⟨k1,k2⟩,k3⟩,k4⟩,k5⟩,k6⟩:=hk
 refine⟨k1,k2,by omega,by omega,λb hb=>?_⟩
 have hq:=k6 b hb
 unfold pU at hq
 simp only[afF,List.all_eq_true] at hq
 refine⟨hq.1,hq.2,?_⟩
 have s1:b.code.length≤fN f:=Sb (List.mem_map.2 ⟨b,hb,Z⟩)
 have s2:fN f≤ko p.funcs:=Sb (l:=p.funcs.map fN) (List.mem_map.2 ⟨f,hf,Z⟩)
 omega
theorem QO{k:Int}{q:Int×Bool×Bool×Bool}(h:jL k=some q):1≤k∧k≤13:=by
 refine Classical.byContradiction λhk=>?_
 unfold jL at h
 rw[if_neg (by omega),if_neg (by omega),if_neg (by omega),if_neg (by omega),if_neg (by omega),if_neg (by omega),if_neg (by omega),if_neg (by omega),if_neg (by omega),if_neg (by omega),if_neg (by omega),if_neg (by omega)] at h
 cases h
theorem QS{x:Ins}(h:cZ x=true):1≤x.kind∧x.kind≤13:=by
 rcases jP h with⟨h1,_⟩ | ⟨n,d,r,a,e,_,_⟩
 ·omega
 ·exact QO e
theorem YU{x:Ins}(h:cZ x=true):0≤x.op∧x.op<13:=by
 rcases jP h with⟨_,hp⟩ | ⟨n,d,r,a,e,_,hi,ho⟩
 ·have:=hp.op;omega
 ·by_cases hk:x.kind=2
  ·have:=ho hk
   refine Classical.byContradiction λhc=>this ?_
   unfold opName
   by_cases h13:13≤x.op
   ·rw[if_pos h13];rfl
   ·rw[if_neg h13,show x.op.toNat=0 by omega];rfl
  ·have:x.op=0:=Classical.byContradiction λhc=>hk (hi.op.1 hc)
   omega
theorem VK{x:Ins}(h:cZ x=true)(hn:aj x.num):acN x:=by
 have hk:=QS h
 have ho:=YU h
 obtain⟨s1,s2,s3,s4,s5,s6,s7⟩:=MW h
 refine⟨by omega,by omega,by unfold okL;omega,by unfold okL;omega,by unfold okL;omega,by unfold Eb;omega,by unfold Eb;omega,λa ha=>by have:=s4 a ha;unfold okL;omega,λa ha=>by have:=s5 a ha;unfold okL;omega,hn⟩
theorem Cv{p:Prg}(h:rightG p=true)(hn:∀f,f∈p.funcs->∀b,b∈f.blocks->∀x,x∈b.code->aj x.num):NJ p:=by
 obtain⟨r1,r2,r3,r4⟩:=VJ h
 refine⟨by unfold jY;omega,λa ha=>?_,by unfold jY;omega,λf hf=>?_⟩
 ·have hk:=r3 a ha
  unfold lG at hk
  simp only[afR,afU,afP,Bool.not_eq_false'] at hk
  obtain⟨⟨⟨h1,h2⟩,h3⟩,h4⟩:=hk
  have s1:=l8 h1
  have s2:=l8 h2
  exact⟨by unfold okL;omega,by unfold okL;omega,by unfold aj;omega⟩
 ·obtain⟨f1,f2,f3,f4,f5⟩:=r4 f hf
  have s1:=l8 f1
  refine⟨by unfold okL;omega,by unfold Eb;omega,λa ha=>by have:=BP f2 a ha;unfold okL;omega,by unfold jY;omega,λb hb=>?_⟩
  obtain⟨b1,b2,b3⟩:=f5 b hb
  have s2:=l8 b1
  exact⟨by unfold okL;omega,by unfold jY;omega,λx hx=>VK (b2 x hx) (hn f hf b hb x hx)⟩
theorem YV{s:BY}:∀{l:List Tok} {a:Nat} {r:Int×Int},a≤s.size->Run s a l r->∀t,t∈l->Pc t.k (s.extract t.f.toNat t.t.toNat)
 | [],a,r,_,_,t,ht=>by cases ht
 | q::l,a,r,ha,h,t,ht=>by
  obtain⟨h1,h2,h3,h4,h5⟩:=h
  rcases List.mem_cons.1 ht with rfl | ht
  ·exact afk ha h1
  ·exact YV (by omega) h5 t ht
theorem VL(s:BY):aj (fF s).1:=by
 unfold fF aj
 dsimp only
 split
 ·dsimp only;omega
 ·split
  ·dsimp only;omega
  ·split
   ·rename_i h
    dsimp only;omega
   ·split
    ·rename_i h
     dsimp only;omega
    ·dsimp only;omega
theorem aaG{b:BY}(h:kindOf b=1):okN b=true:=by
 unfold kindOf at h
 split at h
 ·cases h
 ·rename_i hw
  split at h
  ·rename_i hn
   unfold okN
   rw[hn]
   simpa using hw
  ·split at h<;>cases h
def KV(s:BY)(l:List Tok):Prop:=∀n,isV l n 1=true->okN (txV s l n)=true
theorem YW{s:BY}(h:(fG s).2.2=0):KV s (fG s).1:=λn hn=>by
 obtain⟨hz,hb,r,_,hr⟩:=aaC h
 have hlt:=dB hn
 have hk:((fG s).1.getD n mX).k=1:=by
  unfold isV at hn
  simp only[afF,afL] at hn
  exact hn.2
 have hm:(fG s).1.getD n mX∈(fG s).1:=eX hlt
 have hp:=YV (Nat.zero_le _) hr _ hm
 rw[hk] at hp
 unfold txV
 rw[if_pos hlt]
 obtain⟨_,_,_,h4⟩:=hp
 rcases h4 with⟨_,_,h5⟩ | ⟨_,_,h5,_⟩
 ·exact absurd h5 (by decide)
 ·exact aaG h5
theorem dP{x:Ins}{n:Int}{d r a:Bool}(hs:jL x.kind=some (n,d,r,a))(h3:x.kind≠3)(hi:RIn x n d r a)(ho:x.kind=2->(opName x.op).data.toList≠[]):cZ x=true:=by
 have c1:(decide (x.op≠0) != decide (x.kind=2))=false:=by
  by_cases e:x.op=0
  ·have:¬x.kind=2:=λh=>(hi.op.2 h) e
   simp [e,this]
  ·have:=hi.op.1 e
   simp [e,this]
 have c2:(decide (x.op≠0)&&decide ((opName x.op).data.toList=[]))=false:=by
  by_cases e:x.op=0
  ·simp [e]
  ·have:=ho (hi.op.1 e)
   simp only[this,decide_false,Bool.and_false]
 have c3:(decide (x.num≠0)&&decide (x.kind≠1))=false:=by
  by_cases e:x.num=0
  ·simp [e]
  ·have:=hi.num e
   simp [this]
 unfold cZ
 rw[c1,c2,c3,hi.args,hi.frm,if_neg (by simp [gU]),if_neg h3,hs]
 dsimp only
 rw[hi.dst,hi.ref,hi.alt]
 have l1:=hi.yT.1
 have l2:=hi.yT.2
 have e1:(decide (0≤n)&&decide ((x.args.length:Int)≠n))=false:=by
  by_cases e:0≤n
  ·simp [l1 e]
  ·simp [e]
 rw[e1,decide_eq_false (show ¬6<x.args.length by omega)]
 rfl
theorem KW{x:Ins}(h3:x.kind=3)(hp:afc x):cZ x=true:=by
 unfold cZ
 rw[hp.op,hp.num,h3,hp.args,hp.frm,if_neg (by decide),if_pos Z,hp.dst,hp.ref,hp.alt]
 have h1:=hp.len
 rw[decide_eq_true h1.1,decide_eq_true h1.2.1,decide_eq_true h1.2.2]
 rfl
theorem aS{α β:Type}{r:Except (Int×Int) (Nat×α)}{k:Nat->α->Except (Int×Int) (Nat×β)}{z:Nat×β}(h:bnd r k=.ok z):∃n a,r=.ok (n,a)∧k n a=.ok z:=by
 rcases r with e | ⟨n,a⟩
 ·cases h
 ·exact⟨n,a,Z,h⟩
theorem Oo{α:Type}{s:BY}{l:List Tok}{b:UInt8}{r:Except (Int×Int) (Nat×α)}{n:Nat}{o:α}(h:kW s l b r=.ok (n,o)):∃m,r=.ok (m,o):=by
 rcases r with e | ⟨m,q⟩
 ·cases h
 ·unfold kW at h
  dsimp only at h
  split at h
  ·injection h with h;obtain⟨_,rfl⟩:=Prod.mk.inj h;exact⟨m,Z⟩
  ·cases h
theorem afl(o:Int)(h:0≤o):decide ((opName o).data.toList=[])=(decide (o<1)||decide (12<o)):=by
 unfold opName
 by_cases h13:13≤o
 ·rw[if_pos h13,decide_eq_true (show 12<o by omega)]
  simp
 ·rw[if_neg h13]
  have:∀n,n<13->decide ((opAt n).data.toList=[])=(decide ((n:Int)<1)||decide (12<(n:Int))):=by decide +kernel
  have h2:=this o.toNat (by omega)
  rwa [show ((o.toNat:Nat):Int)=o by omega] at h2
theorem YX(b:List UInt8):∀(k i:Nat),i+k≤13->opF b k i<13
 | 0,i,_=>by rw[opF];omega
 | k+1,i,h=>by
  rw[opF]
  split
  ·omega
  ·exact YX b k (i+1) (by omega)
theorem ada(w:BY):opV w<13:=YX _ 13 0 (by omega)
section
variable{s:BY}{l:List Tok}(hN:KV s l)
include hN
theorem ny{n n':Nat}{w:BY}(h:nmV s l n=.ok (n',w)):okN w=true:=by
 unfold nmV at h
 split at h
 ·rename_i hi
  injection h with h;obtain⟨_,rfl⟩:=Prod.mk.inj h
  exact hN n hi
 ·cases h
theorem Oq:∀(f n k:Nat) (o:List BY) {n':Nat} {q:List BY},gU o=true->o.length=k->k≤6->lY s l f n k o=.ok (n',q)->gU q=true∧q.length≤6
 | 0,_,_,_,_,_,_,_,_,h=>by cases h
 | f+1,n,k,o,n',q,ho,hk,h6,h=>by
  rw[lY] at h
  split at h
  ·rename_i hi
   split at h
   ·cases h
   ·have ho2:gU (o++[txV s l n])=true:=by
     unfold gU at ho ⊢
     rw[List.all_append,ho]
     simp [hN n hi]
    split at h
    ·exact Oq f (n+2) (k+1) _ ho2 (by simp;omega) (by omega) h
    ·injection h with h;obtain⟨_,rfl⟩:=Prod.mk.inj h
     exact⟨ho2,by simp;omega⟩
  ·cases h
theorem SA{n n':Nat}{q:List BY}(h:iX s l n=.ok (n',q)):gU q=true∧q.length≤6:=by
 unfold iX at h
 split at h
 ·split at h
  ·injection h with h;obtain⟨_,rfl⟩:=Prod.mk.inj h
   exact⟨Z,by simp⟩
  ·obtain⟨m,hm⟩:=Oo h
   exact Oq hN _ _ 0 [] Z Z (by omega) hm
 ·cases h
structure PhG(a:Int)(d:BY)(x:Ins):Prop where
 eq:x=⟨3,0,d,.empty,.empty,x.args,x.frm,0,a⟩
 args:gU x.args=true
 frm:gU x.frm=true
 len:x.frm.length=x.args.length
theorem Ot{a:Int}{d:BY}:∀(f n k:Nat) (x:Ins) {n':Nat} {y:Ins},PhG a d x->x.frm.length=k->k≤64->l7 s l f n k x=.ok (n',y)->PhG a d y∧1≤y.frm.length∧y.frm.length≤64
 | 0,_,_,_,_,_,_,_,_,h=>by cases h
 | f+1,n,k,x,n',y,hx,hk,h64,h=>by
  rw[l7] at h
  split at h
  ·cases h
  ·rename_i hno
   obtain⟨n1,x1,hp,h⟩:=aS h
   unfold sj at hp
   obtain⟨m1,w1,p1,hp⟩:=aS hp
   obtain⟨m2,w2,p2,hp⟩:=aS hp
   obtain⟨m3,w3,p3,hp⟩:=aS hp
   injection hp with hp
   obtain⟨rfl,rfl⟩:=Prod.mk.inj hp
   have hlt:k<64:=by
    have hi:isV l n 1=true:=by
     unfold nmV at p1
     split at p1
     ·assumption
     ·cases p1
    have:¬64≤k:=λh=>hno ⟨hi,h⟩
    omega
   have hx1:PhG a d {x with frm:=x.frm++[w1],args:=x.args++[w3]}:=by
    refine⟨?_,?_,?_,?_⟩
    ·rw[hx.eq]
    ·have:=hx.args
     unfold gU at this ⊢
     rw[List.all_append,this]
     simp [ny hN p3]
    ·have:=hx.frm
     unfold gU at this ⊢
     rw[List.all_append,this]
     simp [ny hN p1]
    ·have:=hx.len;simp;omega
   split at h
   ·exact Ot f _ (k+1) _ hx1 (by simp;omega) (by omega) h
   ·injection h with h;obtain⟨_,rfl⟩:=Prod.mk.inj h
    exact⟨hx1,by simp,by simp;omega⟩
theorem aaH{n n':Nat}{a:Int}{d:BY}{x:Ins}(hd:okN d=true)(h:dU s l n {aP a with dst:=d}=.ok (n',x)):cZ x=true∧aj x.num:=by
 have z0:aj 0:=by unfold aj;omega
 have hdt:dZ d true=true:=by unfold dZ;rw[hd];rfl
 have hrt:∀{w:BY},okN w=true->dZ w true=true:=λh=>by unfold dZ;rw[h];rfl
 have one:∀{w:BY},okN w=true->gU [w]=true:=λh=>by unfold gU;simp [h]
 unfold dU at h
 split at h
 ·rename_i hop
  obtain⟨n1,x1,h1,h⟩:=aS h
  obtain⟨m1,w1,p1,h1⟩:=aS h1
  injection h1 with h1;obtain⟨rfl,rfl⟩:=Prod.mk.inj h1
  obtain⟨m2,w2,p2,h2⟩:=aS h
  injection h2 with h2;obtain⟨rfl,rfl⟩:=Prod.mk.inj h2
  have hlt:opV (txV s l n)<13:=ada _
  have hne:(opName ((opV (txV s l n):Nat):Int)).data.toList≠[]:=by
   intro e
   have:=afl ((opV (txV s l n):Nat):Int) (by omega)
   rw[decide_eq_true e] at this
   simp only[Bool.true_eq,Bool.or_eq_true,afL] at this
   omega
  refine⟨dP (n:=2) (d:=true) (r:=false) (a:=false) Z (by show (2:Int)≠3;decide) ⟨?_,Z,⟨λ_=>rfl,by show 2≤6;decide⟩,hdt,Z,Z,?_,λh=>absurd Z h⟩ λ_=>hne,z0⟩
  ·unfold gU;simp [aP,ny hN p1,ny hN p2]
  ·constructor
   ·intro _;rfl
   ·intro _
    show ((opV (txV s l n):Nat):Int)≠0
    omega
 ·unfold Dt at h
  split at h
  ·unfold rC at h
   split at h
   ·injection h with h;obtain⟨_,rfl⟩:=Prod.mk.inj h
    exact⟨dP (n:=0) (d:=true) (r:=false) (a:=false) Z (by show (1:Int)≠3;decide) ⟨Z,Z,⟨λ_=>rfl,by show 0≤6;decide⟩,hdt,Z,Z,⟨λh=>absurd Z h,λh=>absurd h (by show ¬(1:Int)=2;decide)⟩,λ_=>rfl⟩ (λh=>absurd h (by show ¬(1:Int)=2;decide)),VL _⟩
   ·cases h
  split at h
  ·obtain⟨n1,x1,h1,h⟩:=aS h
   obtain⟨m1,w1,p1,h1⟩:=aS h1
   injection h1 with h1;obtain⟨rfl,rfl⟩:=Prod.mk.inj h1
   obtain⟨m2,w2,p2,h2⟩:=aS h
   injection h2 with h2;obtain⟨rfl,rfl⟩:=Prod.mk.inj h2
   exact⟨dP (n:=1) (d:=true) (r:=true) (a:=false) Z (by show (4:Int)≠3;decide) ⟨one (ny hN p2),Z,⟨λ_=>rfl,by show 1≤6;decide⟩,hdt,hrt (ny hN p1),Z,⟨λh=>absurd Z h,λh=>absurd h (by show ¬(4:Int)=2;decide)⟩,λh=>absurd Z h⟩ (λh=>absurd h (by show ¬(4:Int)=2;decide)),z0⟩
  split at h
  ·obtain⟨n1,x1,h1,h⟩:=aS h
   obtain⟨m1,w1,p1,h1⟩:=aS h1
   injection h1 with h1;obtain⟨rfl,rfl⟩:=Prod.mk.inj h1
   obtain⟨m2,w2,p2,h2⟩:=aS h
   injection h2 with h2;obtain⟨rfl,rfl⟩:=Prod.mk.inj h2
   exact⟨dP (n:=1) (d:=true) (r:=true) (a:=false) Z (by show (5:Int)≠3;decide) ⟨one (ny hN p2),Z,⟨λ_=>rfl,by show 1≤6;decide⟩,hdt,hrt (ny hN p1),Z,⟨λh=>absurd Z h,λh=>absurd h (by show ¬(5:Int)=2;decide)⟩,λh=>absurd Z h⟩ (λh=>absurd h (by show ¬(5:Int)=2;decide)),z0⟩
  split at h
  ·obtain⟨m1,w1,p1,h1⟩:=aS h
   injection h1 with h1;obtain⟨rfl,rfl⟩:=Prod.mk.inj h1
   exact⟨dP (n:=0) (d:=true) (r:=true) (a:=false) Z (by show (8:Int)≠3;decide) ⟨Z,Z,⟨λ_=>rfl,by show 0≤6;decide⟩,hdt,hrt (ny hN p1),Z,⟨λh=>absurd Z h,λh=>absurd h (by show ¬(8:Int)=2;decide)⟩,λh=>absurd Z h⟩ (λh=>absurd h (by show ¬(8:Int)=2;decide)),z0⟩
  split at h
  ·obtain⟨n1,x1,h1,h⟩:=aS h
   obtain⟨m1,w1,p1,h1⟩:=aS h1
   injection h1 with h1;obtain⟨rfl,rfl⟩:=Prod.mk.inj h1
   obtain⟨m2,w2,p2,h2⟩:=aS h
   injection h2 with h2;obtain⟨rfl,rfl⟩:=Prod.mk.inj h2
   obtain⟨q1,q2⟩:=SA hN p2
   exact⟨dP (n:=-1) (d:=true) (r:=true) (a:=false) Z (by show (7:Int)≠3;decide) ⟨q1,Z,⟨λh=>absurd h (by decide),q2⟩,hdt,hrt (ny hN p1),Z,⟨λh=>absurd Z h,λh=>absurd h (by show ¬(7:Int)=2;decide)⟩,λh=>absurd Z h⟩ (λh=>absurd h (by show ¬(7:Int)=2;decide)),z0⟩
  split at h
  ·obtain⟨n1,x1,h1,h⟩:=aS h
   obtain⟨m1,w1,p1,h1⟩:=aS h1
   injection h1 with h1;obtain⟨rfl,rfl⟩:=Prod.mk.inj h1
   obtain⟨m2,w2,p2,h2⟩:=aS h
   injection h2 with h2;obtain⟨rfl,rfl⟩:=Prod.mk.inj h2
   exact⟨dP (n:=1) (d:=true) (r:=true) (a:=false) Z (by show (10:Int)≠3;decide) ⟨one (ny hN p1),Z,⟨λ_=>rfl,by show 1≤6;decide⟩,hdt,hrt (ny hN p2),Z,⟨λh=>absurd Z h,λh=>absurd h (by show ¬(10:Int)=2;decide)⟩,λh=>absurd Z h⟩ (λh=>absurd h (by show ¬(10:Int)=2;decide)),z0⟩
  split at h
  ·obtain⟨n1,_,h1,h⟩:=aS h
   obtain⟨m,hm⟩:=Oo h
   obtain⟨g1,g2,g3⟩:=Ot hN (a:=a) (d:=d) _ _ 0 _ ⟨Z,Z,Z,Z⟩ Z (by omega) hm
   have e:=g1.eq
   have k3:x.kind=3:=by rw[e]
   have o0:x.op=0:=by rw[e]
   have d0:x.dst=d:=by rw[e]
   have r0:x.ref=.empty:=by rw[e]
   have a0:x.alt=.empty:=by rw[e]
   have m0:x.num=0:=by rw[e]
   exact⟨KW k3 ⟨g1.args,g1.frm,by rw[d0];exact hd,r0,a0,⟨g1.len,g2,g3⟩,o0,m0⟩,by rw[m0];exact z0⟩
  ·cases h
end
theorem kD{α:Type}{a b:Nat×α}(h:(Except.ok a:Except (Int×Int) (Nat×α))=.ok b):a=b:=by cases h;rfl
section
variable{s:BY}{l:List Tok}(hN:KV s l)
include hN
theorem aaI{n n' c:Nat}{x:Ins}(h:bN s l n c=.ok (n',x)):cZ x=true∧aj x.num∧c<4096:=by
 have z0:aj 0:=by unfold aj;omega
 have hrt:∀{w:BY},okN w=true->dZ w true=true:=λh=>by unfold dZ;rw[h];rfl
 have one:∀{w:BY},okN w=true->gU [w]=true:=λh=>by unfold gU;simp [h]
 unfold bN at h
 split at h
 ·cases h
 split at h
 ·cases h
 split at h
 ·cases h
 rename_i hc
 have hc:c<4096:=by omega
 split at h
 ·rename_i g hg
  unfold rD at hg
  split at hg
  ·obtain rfl:=afK hg
   unfold wh at h
   dsimp only at h
   obtain⟨m1,w1,p1,h1⟩:=aS h
   obtain⟨m2,x2,p2,h2⟩:=aS h1
   obtain⟨m3,x3,p3,h3⟩:=aS h2
   obtain⟨m4,w4,p4,qp2⟩:=aS p2
   obtain⟨m5,w5,p5,qp3⟩:=aS p3
   obtain⟨rfl,rfl⟩:=Prod.mk.inj (kD qp2)
   obtain⟨rfl,rfl⟩:=Prod.mk.inj (kD qp3)
   obtain⟨rfl,rfl⟩:=Prod.mk.inj (kD h3)
   refine⟨dP (n:=2) (d:=false) (r:=true) (a:=false) Z (by show (6:Int)≠3;decide) ⟨?_,Z,⟨λ_=>rfl,by show 2≤6;decide⟩,Z,hrt (ny hN p1),Z,⟨λh=>absurd Z h,λh=>absurd h (by show ¬(6:Int)=2;decide)⟩,λh=>absurd Z h⟩ (λh=>absurd h (by show ¬(6:Int)=2;decide)),z0,hc⟩
   unfold gU;simp [aP,ny hN p4,ny hN p5]
  split at hg
  ·obtain rfl:=afK hg
   unfold xY at h
   dsimp only at h
   obtain⟨m1,w1,p1,h1⟩:=aS h
   obtain⟨m2,x2,p2,h2⟩:=aS h1
   obtain⟨m4,w4,p4,qp2⟩:=aS p2
   obtain⟨rfl,rfl⟩:=Prod.mk.inj (kD qp2)
   obtain⟨rfl,rfl⟩:=Prod.mk.inj (kD h2)
   exact⟨dP (n:=1) (d:=false) (r:=true) (a:=false) Z (by show (9:Int)≠3;decide) ⟨one (ny hN p4),Z,⟨λ_=>rfl,by show 1≤6;decide⟩,Z,hrt (ny hN p1),Z,⟨λh=>absurd Z h,λh=>absurd h (by show ¬(9:Int)=2;decide)⟩,λh=>absurd Z h⟩ (λh=>absurd h (by show ¬(9:Int)=2;decide)),z0,hc⟩
  split at hg
  ·obtain rfl:=afK hg
   unfold Ab at h
   dsimp only at h
   obtain⟨m1,w1,p1,h1⟩:=aS h
   obtain⟨rfl,rfl⟩:=Prod.mk.inj (kD h1)
   exact⟨dP (n:=0) (d:=false) (r:=true) (a:=false) Z (by show (11:Int)≠3;decide) ⟨Z,Z,⟨λ_=>rfl,by show 0≤6;decide⟩,Z,hrt (ny hN p1),Z,⟨λh=>absurd Z h,λh=>absurd h (by show ¬(11:Int)=2;decide)⟩,λh=>absurd Z h⟩ (λh=>absurd h (by show ¬(11:Int)=2;decide)),z0,hc⟩
  split at hg
  ·obtain rfl:=afK hg
   unfold wm at h
   dsimp only at h
   obtain⟨m1,x1,p1,h1⟩:=aS h
   obtain⟨m4,w4,p4,qp1⟩:=aS p1
   obtain⟨rfl,rfl⟩:=Prod.mk.inj (kD qp1)
   obtain⟨m2,w2,p2,h2⟩:=aS h1
   obtain⟨m3,w3,p3,h3⟩:=aS h2
   obtain⟨rfl,rfl⟩:=Prod.mk.inj (kD h3)
   exact⟨dP (n:=1) (d:=false) (r:=true) (a:=true) Z (by show (12:Int)≠3;decide) ⟨one (ny hN p4),Z,⟨λ_=>rfl,by show 1≤6;decide⟩,Z,hrt (ny hN p2),hrt (ny hN p3),⟨λh=>absurd Z h,λh=>absurd h (by show ¬(12:Int)=2;decide)⟩,λh=>absurd Z h⟩ (λh=>absurd h (by show ¬(12:Int)=2;decide)),z0,hc⟩
  split at hg
  ·obtain rfl:=afK hg
   obtain⟨m1,x1,p1,h1⟩:=aS h
   obtain⟨m4,w4,p4,qp1⟩:=aS p1
   obtain⟨rfl,rfl⟩:=Prod.mk.inj (kD qp1)
   obtain⟨rfl,rfl⟩:=Prod.mk.inj (kD h1)
   exact⟨dP (n:=1) (d:=false) (r:=false) (a:=false) Z (by show (13:Int)≠3;decide) ⟨one (ny hN p4),Z,⟨λ_=>rfl,by show 1≤6;decide⟩,Z,Z,Z,⟨λh=>absurd Z h,λh=>absurd h (by show ¬(13:Int)=2;decide)⟩,λh=>absurd Z h⟩ (λh=>absurd h (by show ¬(13:Int)=2;decide)),z0,hc⟩
  ·cases hg
 ·obtain⟨m1,w1,p1,h1⟩:=aS h
  obtain⟨m2,w2,p2,h2⟩:=aS h1
  obtain⟨g1,g2⟩:=aaH hN (ny hN p1) h2
  exact⟨g1,g2,hc⟩
def adb(x:Ins):Prop:=cZ x=true∧aj x.num
theorem YZ:∀(f n c:Nat) (xs:List Ins) {n' c':Nat} {ys:List Ins},c≤4096->(∀x,x∈xs->adb x)->codeF s l f n c xs=.ok (n',(c',ys))->(∀x,x∈ys->adb x)∧c'≤4096∧c'+xs.length=c+ys.length
 | 0,_,_,_,_,_,_,_,_,h=>by cases h
 | f+1,n,c,xs,n',c',ys,hc,hx,h=>by
  rw[codeF] at h
  split at h
  ·obtain⟨_,h⟩:=Prod.mk.inj (kD h)
   obtain⟨rfl,rfl⟩:=Prod.mk.inj h
   exact⟨hx,hc,Z⟩
  ·obtain⟨m,x,p,h⟩:=aS h
   obtain⟨q1,q2,q3⟩:=aaI hN p
   obtain⟨k1,k2,k3⟩:=YZ f m (c+1) (xs++[x]) (by omega) (λy hy=>by
    rcases List.mem_append.1 hy with hy | hy
    ·exact hx y hy
    ·rw[List.mem_singleton.1 hy];exact⟨q1,q2⟩) h
   refine⟨k1,k2,?_⟩
   simp only[List.length_append,List.length_cons,List.length_nil] at k3
   omega
structure aaJ(b:Blk):Prop where
 name:okN b.name=true
 code:∀x,x∈b.code->adb x
theorem SB{n c n' c':Nat}{b:Blk}(hc:c≤4096)(h:gI s l n c=.ok (n',(c',b))):aaJ b∧c'≤4096∧c'=c+b.code.length:=by
 unfold gI at h
 obtain⟨m1,w1,p1,h⟩:=aS h
 obtain⟨m2,w2,p2,h⟩:=aS h
 obtain⟨m3,⟨c3,ys⟩,p3,h⟩:=aS h
 obtain⟨_,h⟩:=Prod.mk.inj (kD h)
 obtain⟨rfl,rfl⟩:=Prod.mk.inj h
 obtain⟨k1,k2,k3⟩:=YZ hN _ _ _ [] hc (λx hx=>by cases hx) p3
 simp only[List.length_nil] at k3
 exact⟨⟨ny hN p1,k1⟩,k2,by show c3=_;dsimp only;omega⟩
theorem Ou:∀(f n c:Nat) (bs:List Blk) {n' c':Nat} {ys:List Blk},c≤4096->bs.length≤64->(∀b,b∈bs->aaJ b)->gP s l f n c bs=.ok (n',(c',ys))->(∀b,b∈ys->aaJ b)∧c'≤4096∧c'+cN bs=c+cN ys∧ys.length≤64∧bs.length≤ys.length
 | 0,_,_,_,_,_,_,_,_,_,h=>by cases h
 | f+1,n,c,bs,n',c',ys,hc,h64,hb,h=>by
  rw[gP] at h
  split at h
  ·split at h
   ·cases h
   ·rename_i hlt
    obtain⟨m,⟨c1,b⟩,p,h⟩:=aS h
    obtain⟨q1,q2,q3⟩:=SB hN hc p
    obtain⟨k1,k2,k3,k4,k5⟩:=Ou f m c1 (bs++[b]) q2 (by simp;omega) (λy hy=>by
     rcases List.mem_append.1 hy with hy | hy
     ·exact hb y hy
     ·rw[List.mem_singleton.1 hy];exact q1) h
    have e:cN (bs++[b])=cN bs+b.code.length:=by unfold cN;rw[List.map_append,List.sum_append];simp
    simp only[List.length_append,List.length_cons,List.length_nil] at k5
    exact⟨k1,k2,by omega,k4,by omega⟩
  ·obtain⟨_,h⟩:=Prod.mk.inj (kD h)
   obtain⟨rfl,rfl⟩:=Prod.mk.inj h
   exact⟨hb,hc,Z,h64,Nat.le_refl _⟩
structure afm(f:Fun):Prop where
 name:okN f.name=true
 params:gU f.params=true
 acP:f.params.length≤6
 aaq:1≤f.blocks.length∧f.blocks.length≤64
 blocks:∀b,b∈f.blocks->aaJ b
theorem ade{n c n' c':Nat}{f:Fun}(hc:c≤4096)(h:mK s l n c=.ok (n',(c',f))):afm f∧c'≤4096∧c'=c+fN f:=by
 unfold mK at h
 obtain⟨m1,w1,p1,h⟩:=aS h
 obtain⟨m2,w2,p2,h⟩:=aS h
 obtain⟨m3,w3,p3,h⟩:=aS h
 obtain⟨m4,⟨c4,b4⟩,p4,h⟩:=aS h
 obtain⟨m5,⟨c5,b5⟩,p5,h⟩:=aS h
 obtain⟨m6,w6,p6,h⟩:=aS h
 obtain⟨_,h⟩:=Prod.mk.inj (kD h)
 obtain⟨rfl,rfl⟩:=Prod.mk.inj h
 obtain⟨q1,q2⟩:=SA hN p2
 obtain⟨r1,r2,r3⟩:=SB hN hc p4
 obtain⟨k1,k2,k3,k4,k5⟩:=Ou hN _ _ _ [b4] r2 (by simp) (λy hy=>by rw[List.mem_singleton.1 hy];exact r1) p5
 have e:cN [b4]=b4.code.length:=by simp [cN]
 have e2:fN ⟨w1,w2,b5,atV s l n⟩=cN b5:=rfl
 simp only[List.length_cons,List.length_nil] at k5
 exact⟨⟨ny hN p1,q1,q2,⟨by show 1≤b5.length;omega,k4⟩,k1⟩,k2,by show c5=_;rw[e2];omega⟩
theorem afn{n n':Nat}{a:Arr}(h:xK s l n=.ok (n',a)):lG a=true:=by
 unfold xK at h
 obtain⟨m1,w1,p1,h⟩:=aS h
 split at h
 ·split at h
  ·cases h
  ·rename_i hr
   obtain⟨m2,w2,p2,h⟩:=aS h
   obtain⟨_,rfl⟩:=Prod.mk.inj (kD h)
   unfold lG
   rw[show okN w1=true from ny hN p1,show okN w2=true from ny hN p2]
   dsimp only
   rw[decide_eq_false (show ¬(fF (txV s l m1)).1<1 by omega),decide_eq_false (show ¬256<(fF (txV s l m1)).1 by omega)]
   rfl
 ·cases h
structure adf(p:Prg):Prop where
 yT:p.arrays.length≤16
 Ku:p.funcs.length≤64
 arrays:∀a,a∈p.arrays->lG a=true
 funcs:∀f,f∈p.funcs->afm f
 few:ko p.funcs≤4096
theorem QT:∀(f n c:Nat) (p:Prg) {n':Nat} {q:Prg},adf p->c=ko p.funcs->pR s l f n c p=.ok (n',q)->adf q
 | 0,_,_,_,_,_,_,_,h=>by cases h
 | f+1,n,c,p,n',q,hp,hc,h=>by
  have hfew:=hp.few
  rw[pR] at h
  split at h
  ·split at h
   ·split at h
    ·cases h
    ·rename_i h16
     obtain⟨m,a,k,h⟩:=aS h
     have ha:=afn hN k
     exact QT f m c ⟨p.arrays++[a],p.funcs⟩ ⟨by simp;omega,hp.Ku,λy hy=>by
      rcases List.mem_append.1 hy with hy | hy
      ·exact hp.arrays y hy
      ·rw[List.mem_singleton.1 hy];exact ha,hp.funcs,hp.few⟩ hc h
   ·split at h
    ·split at h
     ·cases h
     ·rename_i h64
      obtain⟨m,⟨c1,g⟩,k,h⟩:=aS h
      obtain⟨q1,q2,q3⟩:=ade hN (by omega) k
      have e:ko (p.funcs++[g])=ko p.funcs+fN g:=by
       show ((p.funcs++[g]).map fN).sum=(p.funcs.map fN).sum+fN g
       rw[List.map_append,List.sum_append];simp
      exact QT f m c1 ⟨p.arrays,p.funcs++[g]⟩ ⟨hp.yT,by simp;omega,hp.arrays,λy hy=>by
       rcases List.mem_append.1 hy with hy | hy
       ·exact hp.funcs y hy
       ·rw[List.mem_singleton.1 hy];exact q1,by show ko (p.funcs++[g])≤4096;omega⟩ (by show c1=ko (p.funcs++[g]);omega) h
    ·cases h
  ·obtain⟨_,rfl⟩:=Prod.mk.inj (kD h)
   exact hp
end
theorem JC{p:Prg}(h:adf p):rightG p=true∧∀f,f∈p.funcs->∀b,b∈f.blocks->∀x,x∈b.code->aj x.num:=by
 refine⟨?_,λf hf b hb x hx=>(((h.funcs f hf).blocks b hb).code x hx).2⟩
 have e1:p.arrays.all lG=true:=List.all_eq_true.2 h.arrays
 have e2:p.funcs.all lH=true:=List.all_eq_true.2 λf hf=>by
  have g:=h.funcs f hf
  have e3:f.blocks.all pU=true:=List.all_eq_true.2 λb hb=>by
   have k:=g.blocks b hb
   unfold pU
   rw[k.name,List.all_eq_true.2 λx hx=>(k.code x hx).1];rfl
  unfold lH
  have l1:=g.acP
  have l2:=g.aaq
  rw[e3,g.name,g.params,decide_eq_false (show ¬6<f.params.length by omega),decide_eq_false (show ¬f.blocks.length<1 by omega),decide_eq_false (show ¬64<f.blocks.length by omega)]
  rfl
 unfold rightG
 have l1:=h.yT
 have l2:=h.Ku
 rw[e1,e2,decide_eq_true h.few,decide_eq_false (show ¬16<p.arrays.length by omega),decide_eq_false (show ¬64<p.funcs.length by omega)]
 rfl
theorem AP{s:BY}(h:(bY s).2.2=0):rightG (bY s).1=true∧∀f,f∈(bY s).1.funcs->∀b,b∈f.blocks->∀x,x∈b.code->aj x.num:=by
 unfold bY at h ⊢
 split at h
 ·rename_i h0
  rw[if_pos h0]
  rcases hV:pR s (fG s).1 ((fG s).1.length+1) 0 0 ⟨[],[]⟩ with⟨a,e⟩ | ⟨n',q⟩
  ·rw[hV] at h
   have h:e=0:=h
   exact JC (p:=⟨[],[]⟩) ⟨Nat.zero_le _,Nat.zero_le _,λa ha=>(by simp at ha),λf hf=>(by simp at hf),Nat.zero_le _⟩
  ·exact JC (QT (YW h0) _ _ _ ⟨[],[]⟩ ⟨Nat.zero_le _,Nat.zero_le _,λa ha=>(by simp at ha),λf hf=>(by simp at hf),Nat.zero_le _⟩ Z hV)
 ·rename_i h0
  exact absurd h h0
end Go.Proofs.YtojhdmfkfkfcbaaGreatDoor
namespace Go.Proofs.YtojhdmfkfkfcbaaGreatDoor
open Go.Sx
variable{W:Nat}
theorem ql{α:Type}{z:Nat}{τ:List DTy}{x:D}(d:α->List D)(P:α->Prop)(a0:α)(each:∀ds,mR W τ ds->∃a,P a∧ds.length=(d a).length∧∀(j:Nat) (u u':D),ds[j]?=some u->(d a)[j]?=some u'->DQ u u')
  (h:mI W (.sl z τ) x):∃l:List α,DQ x (.sl τ.length l.length λi=>d (l.getD i a0))∧(l.length≤maxLen∧l.length*z≤W)∧∀a∈l,P a:=by
 cases h with
 | sl _ _ n f hn hz hl hc=>
  have Y0:∀i,i<n->∃a,P a∧(f i).length=(d a).length∧∀(j:Nat) (u u':D),(f i)[j]?=some u->(d a)[j]?=some u'->DQ u u':=λi hi=>each (f i) ⟨hl i hi,λj t d ht hd=>hc i j t d hi ht hd⟩
  let g:Nat->α:=λi=>if h:i<n then Classical.choose (Y0 i h) else a0
  have hg:∀i,i<n->P (g i)∧(f i).length=(d (g i)).length∧∀(j:Nat) (u u':D),(f i)[j]?=some u->(d (g i))[j]?=some u'->DQ u u':=λi hi=>by
   have e:g i=Classical.choose (Y0 i hi):=by simp only[g,hi,dite_true]
   rw[e]
   exact Classical.choose_spec (Y0 i hi)
  have hgd:∀i,i<n->((List.range n).map g).getD i a0=g i:=λi hi=>by
   rw[afE,afG (by simpa using hi)];simp
  refine⟨(List.range n).map g,?_,by simpa using ⟨hn,hz⟩,λo ho=>?_⟩
  ·rw[show ((List.range n).map g).length=n by simp]
   refine .sl _ n _ _ (λi hi=>?_) λi j u u' hi hd hd'=>?_
   ·rw[hgd i hi];exact (hg i hi).2.1
   ·rw[hgd i hi] at hd'
    exact (hg i hi).2.2 j u u' hd hd'
  ·obtain⟨i,hi,rfl⟩:=List.mem_map.1 ho
   exact (hg i (List.mem_range.1 hi)).1
def Ip(s:BY):Prop:=s.size≤140737488355328
theorem SC{s:BY}(h:s.size≤reachBytes):Ip s:=by
 have:=reachBytes_lt
 unfold Ip;omega
theorem wf_i64{n:Int}(h:(Lit.int .i64 n).wf=true):aj n:=by
 simp only[Lit.wf,afF,afL] at h
 exact h
theorem wf_u64{n:Int}(h:(Lit.int .u64 n).wf=true):0≤n∧n≤18446744073709551615:=by
 simp only[Lit.wf,afF,afL] at h
 exact h
structure JD(p:Pol):Prop where
 sz:PolSz p
 lev:∀s∈p.lev,Ip s
 ins:∀c∈p.ins,Ip c.1∧aj c.2
 outs:∀c∈p.outs,Ip c.1∧aj c.2
 depth:aj p.depth
theorem aaK{z:Nat}{x:D}(h:mI W (.sl z [.str]) x)(hW:W≤reachBytes:=by exact Nat.le_refl _):∃l:List BY,DQ x (dSs l)∧(l.length≤maxLen∧l.length*z≤W)∧∀a∈l,Ip a:=
 ql (λs=>[D.str s]) Ip .empty (λds ⟨hl,hc⟩=>by
  match ds,hl with
  | [d0],_=>
   obtain⟨s,rfl,h1,h2⟩:=LU (hc 0 _ _ Z Z)
   refine⟨s,SC (Nat.le_trans h2 hW),Z,λj u u' hd hd'=>?_⟩
   match j with
   | 0=>simp at hd hd';subst hd hd';exact .refl _
   | j+1=>simp at hd) h
theorem aaL{z:Nat}{x:D}(h:mI W (.sl z [.int .u64]) x):∃l:List M64,DQ x (dUp l)∧(l.length≤maxLen∧l.length*z≤W)∧∀a∈l,True:=
 ql (λm=>[dm m]) (λ_=>True) 0#64 (λds ⟨hl,hc⟩=>by
  match ds,hl with
  | [d0],_=>
   obtain⟨n,rfl,h1⟩:=eU (hc 0 _ _ Z Z)
   have h2:=wf_u64 h1
   refine⟨BitVec.ofInt 64 n,tR,Z,λj u u' hd hd'=>?_⟩
   match j with
   | 0=>
    simp only[List.getElem?_cons_zero,afJ] at hd hd'
    subst hd hd'
    have e:((BitVec.ofInt 64 n).toNat:Int)=n:=by
     rw[BitVec.toNat_ofInt];omega
    unfold dm
    rw[e];exact .refl _
   | j+1=>simp at hd) h
theorem Ov{z:Nat}{x:D}(h:mI W (.sl z [.str,.int .i64]) x)(hW:W≤reachBytes:=by exact Nat.le_refl _):∃l:List Chan,DQ x (ae4 l)∧(l.length≤maxLen∧l.length*z≤W)∧∀a∈l,Ip a.1∧aj a.2:=
 ql (λc:Chan=>[D.str c.1,D.int .i64 c.2]) (λc=>Ip c.1∧aj c.2) aL (λds ⟨hl,hc⟩=>by
  match ds,hl with
  | [d0,d1],_=>
   obtain⟨s,rfl,h1,h2⟩:=LU (hc 0 _ _ Z Z)
   obtain⟨n,rfl,h3⟩:=eU (hc 1 _ _ Z Z)
   refine⟨(s,n),⟨SC (Nat.le_trans h2 hW),wf_i64 h3⟩,Z,λj u u' hd hd'=>?_⟩
   match j with
   | 0=>simp at hd hd';subst hd hd';exact .refl _
   | 1=>simp at hd hd';subst hd hd';exact .refl _
   | j+2=>simp at hd) h
abbrev abx:List DTy:=[.sl 16 [.str],.sl 8 [.int .u64],.sl 24 [.str,.int .i64],.sl 24 [.str,.int .i64],.int .i64]
theorem VN(hW:W≤reachBytes){F:Nat->Prop}{w:World}{ρ:Nat->Value}{ds:List D}{cs:List Value}(h:mR W abx ds)(hr:aH (RD F w) ds cs):∃x:Pol,(JD x∧x.ins.length*24≤W∧x.outs.length*24≤W)∧R3 ρ F w (qB x) (.agg cs.toArray):=by
 obtain⟨hl,hc⟩:=h
 match ds,hl,cs,hr with
 | [d0,d1,d2,d3,d4],_,[c0,c1,c2,c3,c4],⟨r0,r1,r2,r3,r4,_⟩=>
  obtain⟨l0,q0,w0,z0⟩:=aaK (hc 0 _ _ Z Z) hW
  obtain⟨l1,q1,w1,z1⟩:=aaL (hc 1 _ _ Z Z)
  obtain⟨l2,q2,w2,z2⟩:=Ov (hc 2 _ _ Z Z) hW
  obtain⟨l3,q3,w3,z3⟩:=Ov (hc 3 _ _ Z Z) hW
  obtain⟨n4,rfl,w4⟩:=eU (hc 4 _ _ Z Z)
  have:=reachBytes_lt
  exact⟨⟨l0,l1,l2,l3,n4⟩,⟨⟨⟨by show l0.length*16≤_;omega,by show l1.length*8≤_;omega,by show l2.length*24≤_;omega,by show l3.length*24≤_;omega⟩,z0,z2,z3,wf_i64 w4⟩,w2.2,w3.2⟩,⟨_,Z,q0.sound r0,q1.sound r1,q2.sound r2,q3.sound r3,r4,tR⟩⟩
end Go.Proofs.YtojhdmfkfkfcbaaGreatDoor
namespace Go.Proofs.YtojhdmfkfkfcbaaGreatDoor
open Go.Sx
set_option maxRecDepth 100000
theorem JD.z{p:Pol}(h:JD p):Ie p:=⟨h.sz,λs hs=>Nat.le_trans (h.lev s hs) (by decide),λc hc=>Nat.le_trans (h.ins c hc).1 (by decide),λc hc=>Nat.le_trans (h.outs c hc).1 (by decide)⟩
theorem Vz.z{p:Pol}(h:Vz p):Ie p:=by
 have ho:dV p.up=true:=by have:=h.up;unfold dW at this;rw[afF] at this;exact this.1
 have hl:=(sG ho).2
 have h1:=h.len
 have h2:=h.il
 have h3:=h.ol
 exact⟨⟨by omega,by omega,by omega,by omega⟩,λs hs=>by have:=(xA (h.names s hs)).2.1;omega,λc hc=>by have:=(xA (h.iok c hc).1).2.1;omega,λc hc=>by have:=(xA (h.ook c hc).1).2.1;omega⟩
def inT(m:Int):Int->Prop:=λa=>0≤a∧a≤m
structure AtQ(m:Int->Prop)(q:Prg):Prop where
 arr:∀a∈q.arrays,m a.at_
 fn:∀f∈q.funcs,m f.at_
 blk:∀f∈q.funcs,∀b∈f.blocks,m b.at_
 ins:∀f∈q.funcs,∀b∈f.blocks,∀x∈b.code,m x.at_
theorem KX{s:BY}{l:List Tok}(H:qz s l)(k:Nat):0≤atV s l k∧atV s l k≤(s.size:Int):=by
 have:=mO (α:=Unit) (p:=λ_=>True) H k 0
 exact this
theorem Y1{s:BY}{l:List Tok}(H:qz s l):∀{xs:List Ins} {lo hi:Nat},Chn s l lo xs hi->∀x∈xs,0≤x.at_∧x.at_≤(s.size:Int)
 | [],_,_,_,x,hx=>by cases hx
 | y::ys,lo,hi,⟨k,_,_,hp,hc⟩,x,hx=>by
  rcases List.mem_cons.1 hx with rfl | hx
  ·rw[hp.1];exact KX H k
  ·exact Y1 H hc x hx
theorem QU{s:BY}{l:List Tok}(H:qz s l):∀{bs:List Blk} {lo hi:Nat},ChB s l lo bs hi->∀b∈bs,(0≤b.at_∧b.at_≤(s.size:Int))∧∀x∈b.code,0≤x.at_∧x.at_≤(s.size:Int)
 | [],_,_,_,x,hx=>by cases hx
 | y::ys,lo,hi,⟨k,m,_,_,hp,hc,hr⟩,x,hx=>by
  rcases List.mem_cons.1 hx with rfl | hx
  ·exact⟨by rw[hp];exact KX H k,Y1 H hc⟩
  ·exact QU H hr x hx
theorem Cw{s:BY}{l:List Tok}(H:qz s l):∀{f n c:Nat} {p:Prg} {n':Nat} {q:Prg},(∀a∈p.arrays,0≤a.at_∧a.at_≤(s.size:Int))->pR s l f n c p=.ok (n',q)->∀a∈q.arrays,0≤a.at_∧a.at_≤(s.size:Int)
 | 0,n,c,p,n',q,hp,h=>by cases h
 | f+1,n,c,p,n',q,hp,h=>by
  rw[pR] at h
  split at h
  ·split at h
   ·split at h
    ·cases h
    ·obtain⟨n1,x,h1,h2⟩:=aS h
     refine Cw H (p:=⟨p.arrays++[x],p.funcs⟩) (λa ha=>?_) h2
     rcases List.mem_append.1 ha with ha | ha
     ·exact hp a ha
     ·obtain rfl:=List.mem_singleton.1 ha
      unfold xK at h1
      obtain⟨n2,nm,g1,g2⟩:=aS h1
      split at g2
      ·split at g2
       ·cases g2
       ·obtain⟨n3,lv,g3,g4⟩:=aS g2
        cases g4
        exact KX H n
      ·cases g2
   ·split at h
    ·split at h
     ·cases h
     ·obtain⟨n1,x,h1,h2⟩:=aS h
      exact Cw H (p:=⟨p.arrays,p.funcs++[x.2]⟩) hp h2
    ·cases h
  ·cases h;exact hp
theorem Y2{s:BY}(h:(bY s).2.2=0):AtQ (inT s.size) (bY s).1:=by
 have hc:=((Om s).2 h)
 have h0:=hc.1
 have H:=Gb s (BN h0)
 have ha:∀a∈(bY s).1.arrays,0≤a.at_∧a.at_≤(s.size:Int):=by
  unfold bY at h ⊢
  rw[if_pos h0] at h ⊢
  rcases hV:pR s (fG s).1 ((fG s).1.length+1) 0 0 ⟨[],[]⟩ with⟨a,e⟩ | ⟨n',q⟩
  ·intro a ha;cases ha
  ·exact Cw H (p:=⟨[],[]⟩) (λa ha=>by cases ha) hV
 refine⟨ha,λf hf=>?_,λf hf b hb=>?_,λf hf b hb=>?_⟩
 ·obtain⟨k,hi,_,_,e,_⟩:=hc.2 f hf
  rw[e];exact KX H k
 ·obtain⟨k,hi,_,_,e,hB⟩:=hc.2 f hf
  exact (QU H hB b hb).1
 ·obtain⟨k,hi,_,_,e,hB⟩:=hc.2 f hf
  exact (QU H hB b hb).2
def Ers{α:Type}(m:Int->Prop)(r:Flt α):Prop:=∀e,r=.error e->m e.1∧e.2≠0
theorem iY{α β:Type}{m:Int->Prop}{r:Flt α}{k:α->Flt β}(h1:Ers m r)(h2:∀a,Ers m (k a)):Ers m (bd r k):=by
 rcases r with e | a
 ·intro e' he
  cases he
  exact h1 e Z
 ·exact h2 a
theorem lg{α:Type}{m:Int->Prop}(a:α):Ers m (.ok a):=λe h=>by cases h
theorem uK{α:Type}{m:Int->Prop}{a k:Int}(h:m a)(hk:k≠0:=by decide):Ers (α:=α) m (.error (a,k)):=λe he=>by cases he;exact⟨h,hk⟩
theorem AQ{m:Int->Prop}:∀{L:List (BY×Int)} {acc:List BY},(∀e∈L,m e.2)->Ers m (iB acc L)
 | [],acc,_=>lg _
 | (s,a)::r,acc,h=>by
  rw[iB]
  split
  ·exact uK (h _ (.head _))
  ·exact AQ λe he=>h e (.tail _ he)
theorem AU{m:Int->Prop}{a:Int}{l:List BY}{s:BY}(h:m a):Ers m (jO l s a):=by
 unfold jO;split
 ·exact lg _
 ·exact uK h
theorem JE{m:Int->Prop}{n a:Int}(h:m a):Ers m (gJ n a):=by
 unfold gJ;split
 ·exact lg _
 ·exact uK h
theorem Cy{m:Int->Prop}{a:Int}{l:List BY}(h:m a):∀{r:List BY} {acc:List Int},Ers m (iD l a r acc)
 | [],_=>lg _
 | s::r,acc=>by rw[iD];exact iY (AU h) λ_=>Cy h
theorem Y3{m:Int->Prop}{R:Res}{s:Scp}{x:Ins}(h:m x.at_):Ers m (qQ R s x):=by
 unfold qQ
 repeat' split
 all_goals first
  | exact iY (AU h) λ_=>lg _
  | exact iY (JE h) λ_=>lg _
  | exact iY (AU h) λ_=>iY (AU h) λ_=>lg _
  | exact lg _
theorem aaM{m:Int->Prop}{R:Res}{s:Scp}{x:Ins}(h:m x.at_):Ers m (Cb R s x):=by
 unfold Cb
 refine iY (Y3 h) λ_=>iY (Cy h) λ_=>iY (Cy h) λ_=>?_
 split
 ·exact uK h
 ·exact lg _
theorem Et{α β:Type}{m:Int->Prop}{g:Nat->α->Flt β}:∀{l:List α} {i:Nat} {acc:List β},(∀j a,a∈l->Ers m (g j a))->Ers m (xM g l i acc)
 | [],_,_,_=>lg _
 | a::l,i,acc,h=>by rw[xM];exact iY (h _ _ (.head _)) λ_=>Et λj b hb=>h j b (.tail _ hb)
theorem SE{m:Int->Prop}{R:Res}{s:Scp}{code:List Ins}(h:∀x∈code,m x.at_):∀(f i:Nat) (acc:List Op9),i+f=code.length->Ers m (KF R s code f i acc)
 | 0,_,_,_=>lg _
 | f+1,i,acc,hi=>by
  rw[KF]
  have hx:=h _ (getD_in (aP 0) (show i<code.length by omega))
  refine iY ?_ λ_=>SE h f (i+1) _ (by omega)
  unfold Ai
  split
  ·exact uK hx
  ·split
   ·exact uK hx
   ·exact aaM hx
theorem SF{m:Int->Prop}(hm:m 0){p:Pol}{q:Prg}(h:AtQ m q):Ers m (Gx p q):=by
 unfold Gx
 have hA:∀{l:List Arr} {acc:List BY} {cs:List Cel},(∀a∈l,m a.at_)->Ers m (nW p l acc cs):=λ{l}=>by
  induction l with
  | nil=>intro acc cs _;exact lg _
  | cons a l ih=>
   intro acc cs hl
   rw[nW]
   split
   ·exact uK (hl _ (.head _))
   ·exact iY (JE (hl _ (.head _))) λ_=>ih λb hb=>hl b (.tail _ hb)
 refine iY (hA h.arr) λac=>iY (AQ λe he=>?_) λfn=>?_
 ·obtain⟨f,hf,rfl⟩:=List.mem_map.1 he
  exact h.fn f hf
 split
 ·refine iY ?_ λss=>iY ?_ λbs=>lg _
  ·rw[Az q.funcs 0]
   refine Et λj f hf=>?_
   unfold KG
   refine iY (AQ λe he=>?_) λvs=>iY (AQ λe he=>?_) λbs=>iY (AQ λe he=>?_) λ_=>lg _
   ·obtain⟨t,_,rfl⟩:=List.mem_map.1 he
    exact h.fn f hf
   ·obtain⟨b,hb,rfl⟩:=List.mem_map.1 he
    exact h.blk f hf b hb
   ·obtain⟨b,hb,he⟩:=List.mem_flatMap.1 he
    obtain⟨x,hx,he⟩:=List.mem_filterMap.1 he
    split at he
    ·cases he
    ·cases he
     exact h.ins f hf b hb x hx
  ·rw[AA _ _ q.funcs 0]
   refine Et λj f hf=>?_
   unfold Vb
   refine iY ?_ λ_=>lg _
   rw[Co _ _ f.blocks 0]
   refine Et λk b hb=>?_
   unfold yc
   split
   ·exact SE (h.ins f hf b hb) _ _ _ (by omega)
   ·exact uK (h.blk f hf b hb)
 ·exact uK hm
def JF(c:Cod):Prop:=∀b∈c.funcs,∀l∈b.blocks,∀x∈l,aj x.num
theorem Y4{p:Pol}{c:Cod}(hc:kL p c){b:Bod}(hb:b∈c.funcs){l:List Op9}(hl:l∈b.blocks){x:Op9}(hx:x∈l):Yv x:=by
 have hB:=hc.bod b hb
 have hv:=Ep hc hb
 have hbl:=hB.len
 have hP:=(lJ p).1 hc.pol
 obtain⟨n,d,r,a,h⟩:=Jy hB hl hx
 have hD:=Er h
 have hal:x.args.length≤5000000:=by
  have:x.args.length≤64:=by
   rcases sN h.sh with⟨hk,_⟩ | ⟨h3,hs⟩
   ·have:=h.phi hk;omega
   ·have hr:=AJ hc hb hl hx
    rcases jP hr with⟨g,_⟩ | ⟨_,_,_,_,_,_,hi,_⟩
    ·exact absurd g h3
    ·have g:=hi.yT.2
     have e:(aN p c.main x).args.length=x.args.length:=List.length_map _
     omega
  omega
 have hfl:x.frm.length≤64:=by
  rcases sN h.sh with⟨hk,_⟩ | ⟨h3,hs⟩
  ·exact (h.phi hk).2.2
  ·rw[(h.KP h3).1];exact Nat.zero_le _
 have hcf:=hc.fl
 have hca:=hc.al
 refine⟨by omega,by omega,λk hk=>?_,λk hk=>?_,?_,?_,?_⟩
 ·have:=h.args k hk;unfold aj;omega
 ·have:=h.frm k hk;unfold aj;omega
 ·cases d with
  | true=>have:=KS hB hl hx hD;unfold aj;omega
  | false=>rw[h.d0 rfl];unfold aj;omega
 ·cases r with
  | false=>rw[h.r0 rfl];unfold aj;omega
  | true=>
   have hm:=h.r1 Z
   have hpl:p.lev.length≤1000000:=by
    have:=hP.len
    have ho:dV p.up=true:=by have:=hP.up;unfold dW at this;rw[afF] at this;exact this.1
    have:=(sG ho).2
    omega
   have i1:=hP.il
   have i2:=hP.ol
   unfold uU at hm
   unfold aj
   repeat' split at hm
   all_goals omega
 ·cases a with
  | false=>rw[h.a0 rfl];unfold aj;omega
  | true=>have:=h.a1 rfl;unfold aj;omega
theorem KY{p:Pol}{c:Cod}(hc:kL p c){b:Bod}(hb:b∈c.funcs){l:List Op9}(hl:l∈b.blocks):l.length≤4096:=by
 have h1:=wK (g:=λl:List Op9=>l.length) hl
 have h2:=wK (g:=λb:Bod=>(b.blocks.map λl=>l.length).sum) hb
 have:=hc.all
 omega
theorem Y5{p:Pol}{c:Cod}(hc:kL p c):NT c:=by
 refine⟨by have:=hc.al;omega,by have:=hc.fl;omega,λb hb=>by have:=(hc.bod b hb).len;omega,λb hb l hl=>⟨by have:=KY hc hb hl;omega,λx hx=>Y4 hc hb hl hx⟩⟩
theorem QV{p:Pol}{c:Cod}(hc:kL p c):RsZ c:=by
 refine⟨by have:=hc.al;omega,by have:=hc.fl;omega,λb hb=>⟨by have:=(hc.bod b hb).len;omega,λl hl=>⟨by have:=KY hc hb hl;omega,λx hx=>?_⟩⟩⟩
 have:=Y4 hc hb hl hx
 exact⟨by have:=this.a;omega,by have:=this.f;omega⟩
theorem Cz{p:Pol}{c:Cod}(hc:kL p c)(hn:JF c):NJ (jl p c):=by
 refine Cv (kZ.2 (zq hc)) λf hf b hb x hx=>?_
 obtain⟨i,hi,rfl⟩:=kT.1 hf
 obtain⟨k,hk,rfl⟩:=kT.1 hb
 obtain⟨y,hy,rfl⟩:=List.mem_map.1 hx
 exact hn _ (getD_in aA hi) _ (getD_in [] hk) y hy
theorem uL{p:Pol}{c:Cod}(hc:kL p c):iG p (jl p c)=(c,0,0):=by
 unfold iG
 rw[if_pos (by rw[hc.pol,kZ.2 (zq hc)];rfl),Em.2 (QF hc)];rfl
theorem zy{α:Type}{P:α->α->Bool}{d:α}(h:∀a,P a a=true)(l:List α):lI P d l l=true:=by
 unfold lI
 rw[decide_eq_true Z,Bool.true_and,iQ]
 exact λi _ _=>h _
theorem Iq(l:List Bod):sM l l=true:=by
 refine zy (λb=>?_) l
 unfold j4
 rw[decide_eq_true Z,decide_eq_true Z,Bool.true_and,Bool.true_and]
 refine zy (λl=>?_) b.blocks
 refine zy (λx=>?_) l
 unfold nV
 simp
theorem He{p:Pol}{c:Cod}(hc:kL p c):mo p c=some (jl p c):=by
 have e1:((iG p (jl p c)).2.2)=0:=by rw[uL hc]
 have e2:((iG p (jl p c)).1)=c:=by rw[uL hc]
 unfold mo
 rw[if_pos (by rw[hc.pol,decide_eq_true hc.fl,decide_eq_true hc.al];rfl),qj hc]
 simp only[e1,e2]
 rw[if_pos (by rw[Iq];simp)]
theorem afo{p:Pol}{c:Cod}(hc:kL p c)(hn:JF c):Pure PG 8 [qB p,rM c] (Ck (some (jl p c))) []:=by
 have hP:=(lJ p).1 hc.pol
 have h:=zm p c hP.z ⟨by have:=hP.il;omega,by have:=hP.ol;omega⟩ (Y5 hc) (λq hq=>by rw[qj hc] at hq;cases hq;exact Cz hc hn) (λq hq=>by rw[qj hc] at hq;cases hq;rw[uL hc];exact QV hc)
 rwa [He hc] at h
theorem VO{p:Pol}{c:Cod}(hc:kL p c)(hn:JF c):Pure PG 13 [qB p,rM c] (vb true) []:=by
 have hP:=(lJ p).1 hc.pol
 have h:=DN p c hP.z ⟨by have:=hP.il;omega,by have:=hP.ol;omega⟩ (Y5 hc) (λq hq=>by rw[qj hc] at hq;cases hq;exact Cz hc hn) (λq hq=>by rw[qj hc] at hq;cases hq;rw[uL hc];exact QV hc)
 rwa [He hc] at h
theorem Y6{p:Pol}{q:Prg}{c:Cod}(hi:Js p q c)(hn:∀f,f∈q.funcs->∀b,b∈f.blocks->∀x,x∈b.code->aj x.num):JF c:=by
 intro b hb l hl x hx
 obtain⟨i,hi1,rfl⟩:=List.getElem_of_mem hb
 have hi2:i<q.funcs.length:=by rw[←hi.len];exact hi1
 have hB:=hi.fn i hi2
 rw[show c.funcs.getD i aA=c.funcs[i] by rw[afE,afG hi1];rfl] at hB
 obtain⟨k,hk1,rfl⟩:=List.getElem_of_mem hl
 have hk2:k<(q.funcs.getD i bG).blocks.length:=by rw[←hB.len];exact hk1
 have hL:=hB.blk k hk2
 rw[show c.funcs[i].blocks.getD k []=c.funcs[i].blocks[k] by rw[afE,afG hk1];rfl] at hL
 obtain⟨j,hj1,rfl⟩:=List.getElem_of_mem hx
 have hj2:j<((q.funcs.getD i bG).blocks.getD k bq).code.length:=by rw[←hL.len];exact hj1
 obtain⟨o,ho⟩:=YE (wN.1 (hL.ins j hj2)).op
 have hy:=ho.y
 rw[show c.funcs[i].blocks[k].getD j op0=c.funcs[i].blocks[k][j] by rw[afE,afG hj1];rfl] at hy
 rw[hy]
 exact hn _ (getD_in _ hi2) _ (getD_in _ hk2) _ (getD_in _ hj2)
theorem adg{m:Int}(hm:0≤m){p:Pol}{q:Prg}(hat:AtQ (inT m) q)(hp:Vz p)(hq:rightG q=true)(hn:∀f,f∈q.funcs->∀b,b∈f.blocks->∀x,x∈b.code->aj x.num)(h:(iG p q).2.2=0):kL p (iG p q).1∧JF (iG p q).1:=by
 have hr:=(lJ p).2 hp
 unfold iG at h ⊢
 rw[if_pos (by rw[hr,hq];rfl)] at h ⊢
 rcases hV:Gx p q with⟨a,e⟩ | c
 ·exfalso
  rw[hV] at h
  exact (SF (m:=inT m) ⟨Int.le_refl _,hm⟩ hat _ hV).2 h
 ·have hi:=Em.1 hV
  exact⟨Cq hr (kZ.1 hq) hi,Y6 hi hn⟩
def noA(x:Op9):Op9:=⟨x.kind,x.op,x.dst,x.ref,x.alt,x.args,x.frm,x.num,0⟩
def stB(b:Bod):Bod:=⟨b.params,b.vars,b.blocks.map λl=>l.map noA⟩
def stC(c:Cod):Cod:=⟨c.arrays,c.funcs.map stB,c.main⟩
theorem SG{α β:Type}(f:α->β)(l:List α)(i:Nat)(d:α):(l.map f).getD i (f d)=f (l.getD i d):=by
 rw[afE,afE,List.getElem?_map]
 cases l[i]?<;>rfl
theorem QW(c:Cod)(i:Nat):((stC c).funcs.getD i aA).params=(c.funcs.getD i aA).params:=by
 have h:=congrArg Bod.params (SG stB c.funcs i aA)
 exact h
theorem Ow(c:Cod):(stC c).funcs.length=c.funcs.length:=List.length_map ..
theorem Hf(b:Bod):(stB b).blocks.length=b.blocks.length:=List.length_map ..
theorem Y7{p:Pol}{c:Cod}{b:Bod}{x:Op9}{n:Int}{d r a:Bool}:ROp p (stC c) (stB b) (noA x) n d r a↔ROp p c b x n d r a:=by
 have e3:=QW c x.ref.toNat
 constructor
 ·intro h
  have h1:=h.r1
  have h2:=h.a1
  have h3:=h.KP
  have h4:=h.frm
  rw[Ow,Hf] at h1
  rw[Hf] at h2 h4
  exact⟨h.sh,h.d0,h.r0,h.a0,h.num,h.op0,h.op1,h1,h2,h.phi,λg=>by
   have h5:=h3 g
   rw[show (noA x).ref=x.ref from rfl,e3] at h5;exact h5,h.args,h4⟩
 ·intro h
  have h1:=h.r1
  have h2:=h.a1
  have h4:=h.frm
  exact⟨h.sh,h.d0,h.r0,h.a0,h.num,h.op0,h.op1,by rw[Ow,Hf];exact h1,by rw[Hf];exact h2,h.phi,λg=>by
   rw[show (noA x).ref=x.ref from rfl,e3];exact h.KP g,h.args,by rw[Hf];exact h4⟩
theorem aaN(bs:List (List Op9)):dw (bs.map λl=>l.map noA)=dw bs:=by
 unfold dw
 rw[List.flatMap_map]
 congr 1
 funext l
 unfold eG
 rw[List.filterMap_map];rfl
theorem SH{p:Pol}{c:Cod}{b:Bod}{l:List Op9}:acV p (stC c) (stB b) (l.map noA)↔acV p c b l:=by
 have e:∀j,(l.map noA).getD j op0=noA (l.getD j op0):=λj=>SG noA l j op0
 constructor
 ·rintro ⟨h1,h2,h3,h4⟩
  rw[List.length_map] at h1 h2 h3 h4
  simp only[e] at h2 h3 h4
  exact⟨h1,λj hj=>by obtain⟨n,d,r,a,h⟩:=h2 j hj;exact⟨n,d,r,a,Y7.1 h⟩,h3,h4⟩
 ·rintro ⟨h1,h2,h3,h4⟩
  refine⟨by rw[List.length_map];exact h1,?_,?_,?_⟩<;>rw[List.length_map]<;>simp only[e]
  ·exact λj hj=>by obtain⟨n,d,r,a,h⟩:=h2 j hj;exact⟨n,d,r,a,Y7.2 h⟩
  ·exact h3
  ·exact h4
theorem SK{p:Pol}{c:Cod}{b:Bod}:Ij p (stC c) (stB b)↔Ij p c b:=by
 have e:dw (stB b).blocks=dw b.blocks:=aaN b.blocks
 constructor
 ·rintro ⟨h1,h2,h3,h4,h5⟩
  rw[Hf] at h2
  rw[e] at h3 h4
  exact⟨h1,h2,h3,h4,λl hl=>SH.1 (h5 _ (List.mem_map.2 ⟨l,hl,Z⟩))⟩
 ·rintro ⟨h1,h2,h3,h4,h5⟩
  refine⟨h1,by rw[Hf];exact h2,by rw[e];exact h3,by rw[e];exact h4,λl hl=>?_⟩
  obtain⟨l,hm,rfl⟩:=List.mem_map.1 hl
  exact SH.2 (h5 l hm)
theorem Y8(fs:List Bod):((fs.map stB).map λb=>(b.blocks.map λl=>l.length).sum).sum=(fs.map λb=>(b.blocks.map λl=>l.length).sum).sum:=by
 rw[List.map_map]
 congr 1
 refine List.map_congr_left λb _=>?_
 show ((b.blocks.map λl=>l.map noA).map λl=>l.length).sum=_
 rw[List.map_map]
 congr 1
 exact List.map_congr_left λl _=>List.length_map ..
theorem SL{p:Pol}{c:Cod}:kL p (stC c)↔kL p c:=by
 constructor
 ·rintro ⟨h1,h2,h3,h4,h5,h6,h7,h8⟩
  rw[Ow] at h3 h4
  rw[QW] at h5
  exact⟨h1,h2,h3,h4,h5,h6,λb hb=>SK.1 (h7 _ (List.mem_map.2 ⟨b,hb,Z⟩)),by rw[←Y8];exact h8⟩
 ·rintro ⟨h1,h2,h3,h4,h5,h6,h7,h8⟩
  refine⟨h1,h2,by rw[Ow];exact h3,by rw[Ow];exact h4,by rw[QW];exact h5,h6,λb hb=>?_,by rw[←Y8] at h8;exact h8⟩
  obtain⟨b,hm,rfl⟩:=List.mem_map.1 hb
  exact SK.2 (h7 b hm)
theorem CB{α β:Type}{P:α->α->Bool}{d:α}{f:α->β}(hP:∀a b,P a b=true->f a=f b){a b:List α}(h:lI P d a b=true):a.map f=b.map f:=by
 unfold lI at h
 rw[afF,afL] at h
 exact sO d d h.1 λi hi=>hP _ _ (iQ.1 h.2 i (Nat.zero_le _) (by rw[h.1];omega))
theorem VP{a b:Op9}(h:nV a b=true):noA a=noA b:=by
 unfold nV at h
 simp only[afF,afL] at h
 obtain⟨⟨⟨⟨⟨⟨⟨h1,h2⟩,h3⟩,h4⟩,h5⟩,h6⟩,h7⟩,h8⟩:=h
 unfold noA
 rw[h1,h2,h3,h4,h5,h6,h7,h8]
theorem QX{a b:Bod}(h:j4 a b=true):stB a=stB b:=by
 unfold j4 at h
 simp only[afF,afL] at h
 obtain⟨⟨h1,h2⟩,h3⟩:=h
 unfold stB
 have h4:a.blocks.map (λl=>l.map noA)=b.blocks.map λl=>l.map noA:=CB (P:=oC) (d:=[]) (λu v g=>CB (P:=nV) (d:=op0) (λ_ _=>VP) g) h3
 rw[h1,h2,h4]
theorem aaO{p:Pol}{q:Prg}{a e:Int}(h:Gx p q=.error (a,e)):e≠0:=(SF (m:=λ_=>True) tR ⟨λ_ _=>trivial,λ_ _=>trivial,λ_ _ _ _=>trivial,λ_ _ _ _ _ _=>trivial⟩ _ h).2
theorem VQ{p:Pol}{c:Cod}{q:Prg}(h:mo p c=some q):kL p c:=by
 unfold mo at h
 split at h
 ·rename_i h0
  split at h
  ·cases h
  ·rename_i q' hq
   split at h
   ·rename_i h1
    simp only[afF,afL] at h1
    obtain⟨h2,h3,h4,h5⟩:=h1
    obtain⟨c',hc'⟩:∃c',(iG p q').1=c':=⟨_,Z⟩
    rw[hc'] at h3 h4 h5
    have hr:kL p c':=by
     subst hc'
     unfold iG at h2 ⊢
     split at h2
     ·rename_i hg
      rw[if_pos hg]
      rw[afF] at hg
      rcases hV:Gx p q' with⟨a,e⟩ | c2
      ·rw[hV] at h2
       have h2:e=0:=h2
       exact absurd h2 (aaO hV)
      ·exact Cq hg.1 (kZ.1 hg.2) (Em.1 hV)
     ·cases h2
    have e:stC c'=stC c:=by
     unfold stC
     rw[h3,h4,CB (P:=j4) (d:=aA) (λ_ _=>QX) h5]
    exact SL.1 (e▸SL.2 hr)
   ·cases h
 ·cases h
end Go.Proofs.YtojhdmfkfkfcbaaGreatDoor
