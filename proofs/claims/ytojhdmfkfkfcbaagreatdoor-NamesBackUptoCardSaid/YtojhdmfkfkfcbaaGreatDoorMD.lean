import Derived.Test.YtojhdmfkfkfcbaaGreatDoorMC
import Derived.Test.YtojhdmfkfkfcbaaGreatDoorMA
import Derived.Shelf.Strings.FieldsFuncGrows
import Derived.Test.YtojhdmfkfkfcbaaGreatDoorSxG
set_option maxHeartbeats 1000000000
set_option linter.unusedSimpArgs false
set_option linter.unusedVariables false
namespace Go.Proofs.YtojhdmfkfkfcbaaGreatDoor
open Go.Sx
set_option maxRecDepth 100000
theorem drop_cons{α:Type}{l:List α}{k:Nat}{a:α}(h:l[k]?=some a):l.drop k=a::l.drop (k+1):=by
 obtain⟨h1,rfl⟩:=List.getElem?_eq_some_iff.1 h;rw[List.drop_eq_getElem_cons h1]
theorem K3{m:M64}{k:Nat}{y:List V}(h:((bits m).map λ(i:Nat)=>[vi (i:Int)])[k]?=some y):∃i,(bits m)[k]?=some i∧y=[vi (i:Int)]∧bit m i=true∧i<64:=by
 rw[List.getElem?_map] at h
 cases hk:(bits m)[k]? with
 | none=>rw[hk] at h;cases h
 | some i=>
  rw[hk] at h;have hm:=List.mem_of_getElem? hk;exact⟨i,Z,by simpa using h.symm,mh.1 hm,aa5 hm⟩
theorem wP{m:M64}:((bits m).map λ(i:Nat)=>[vi (i:Int)]).length=(bits m).length:=List.length_map ..
theorem qR{x y:M64}:ou .andNot .u64 (x.toNat:Int) (y.toNat:Int)=0↔x&&& ~~~ y=0#64:=by rw[YE,toNat_zero_iff]
theorem QK(up:List M64)(set:M64)(hi:InU up.length set):Pure PG 116 [vU up,vm set] (vi (wO up set)) []:=by
 refine aG.mkR (cfg 17) aA [] Tryz.func116 Z (by kernel_rfl) Z Z Z ?_
 intro C x hmk;refine x.pure Z tR Z (GX set) ⟨Z,tR⟩ ?_;refine x.range (ps:=[8]) hmk [3] (λk=>GY up set ((bits set).drop k)=wO up set) (λk=>[(0,.box [vU up]),(1,.box [vm set]),(2,.box [vi 0])]) (λk c H'=>c=.ret∧H'=[(2,.box [vi (((bits set).getD k 0:Nat):Int)])]∧set&&& ~~~ upA up ((bits set).getD k 0)=0#64) Z tR Z (KZ set) ⟨⟨Z,Z⟩,tR⟩ Z ⟨⟨Z,tR⟩,tR⟩ (λy hy=>?_) (λk=>rfl) (λk c H' h=>by obtain⟨_,rfl,_⟩:=h;rfl) Z ⟨⟨ah Z,tR⟩,⟨Z,tR⟩,⟨Z,tR⟩,tR⟩ (λk y hy hP C1 x1=>?_) (λhP=>?_) (λk c H' hk hP h=>?_)
 ·obtain⟨i,_,rfl⟩:=List.mem_map.1 hy
  rfl
 ·obtain⟨i,hgi,rfl,hb,h64⟩:=K3 hy
  have hi:=hi i hb;have hgD:(bits set).getD k 0=i:=by rw[agM,hgi];rfl
  refine x1.exit Z tR ⟨Z,λC2 x2=>?_⟩
  refine x2.Yg Z tR ay (by kernel_rfl) pQ.Yj ?_
  refine x2.eY Z (by simp only[ak];omega) ?_
  refine x2.cond Z tR (λh=>?_) (λh=>?_)
  ·have h0:=qR.1 (agP h)
   refine x2.exit Z tR ?_;exact⟨[(2,.box [vi (((bits set).getD k 0:Nat):Int)])],⟨Z,Z,by rw[hgD];exact h0⟩,⟨ah (by rw[hgD]),tR⟩,tR⟩
  ·have h0:¬set&&& ~~~ upA up i=0#64:=λe=>agQ h (qR.2 e)
   refine x2.exit Z tR ?_;refine⟨?_,⟨ah Z,tR⟩,⟨Z,tR⟩,⟨Z,tR⟩,tR⟩;rw[←hP,drop_cons hgi,GY,if_neg h0]
 ·refine x.exit Z tR ?_
  rw[wP,List.drop_length] at hP;exact⟨.inr Z,(show aI (vi (-1)) (vi (wO up set)) by rw[←hP];rfl),tR,Z⟩
 ·obtain⟨rfl,rfl,h⟩:=h
  rw[wP] at hk;refine x.exit Z tR ?_;have hgi:(bits set)[k]?=some ((bits set).getD k 0):=by rw[agM,agO hk];rfl
  refine⟨.inr Z,?_,tR,Z⟩;show aI (vi (((bits set).getD k 0:Nat):Int)) (vi (wO up set));rw[←hP,drop_cons hgi,GY,if_pos h];exact Z
def qE(up:List M64)(i:Nat)(l:List Nat)(k:Nat):M64:=ofP λa=>(decide (a<i)&&bit (upA up a) k)||(decide (a=i)&&decide (k∈l))
theorem VD{up:List M64}{i k r:Nat}{l:List Nat}(hi:i<64):(if r=k then wM (qE up i l k) (i:Int) else qE up i l r)=qE up i (l++[k]) r:=by
 refine Ef λa ha=>?_
 unfold qE;rw[jl _ ha];split
 ·rename_i e
  subst e;rw[CS,jl _ ha];by_cases h:a=i
  ·subst h;simp [ha]
  ·have:¬(a<64∧(a:Int)=(i:Int)):=by omega
   simp [h,this]
 ·rename_i e
  rw[jl _ ha];simp [e]
theorem VE{up:List M64}{i r:Nat}:qE up i (bits (upA up i)) r=qE up (i+1) [] r:=by
 unfold qE;refine JK λa ha=>?_
 by_cases h:a=i
 ·subst h
  by_cases hb:bit (upA up a) r=true
  ·simp [mh,hb]
  ·simp [mh,hb]
 ·by_cases h2:a<i
  ·have h3:a<i+1:=by omega
   simp [h,h2,h3]
  ·have h3:¬a<i+1:=by omega
   simp [h,h2,h3]
theorem VF{up:List M64}{r:Nat}:qE up 0 [] r=0#64:=QE.2 λa ha=>by unfold qE;rw[jl _ ha];simp
theorem YJ{up:List M64}{r:Nat}(hr:r<up.length):qE up up.length [] r=upA (iP up) r:=by
 rw[zI up hr];unfold qE;exact JK λa ha=>by simp
abbrev CW(n:Nat)(f:Nat->M64):Ch:=.vec 178 1 n λr=>[dm (f r)]
theorem take_succ{α:Type}{l:List α}{k:Nat}{a:α}(h:l[k]?=some a):l.take (k+1)=l.take k++[a]:=by
 obtain⟨h1,rfl⟩:=List.getElem?_eq_some_iff.1 h;rw[List.take_succ_eq_append_getElem h1]
theorem NM(up:List M64)(h64:up.length≤64)(hin:∀i,i<up.length->InU up.length (upA up i)):Pure PG 117 [vU up] (.own 0) [CW up.length λr=>upA (iP up) r]:=by
 refine aG.mkR (cfg 31) aA [0] Tryz.func117 Z (by kernel_rfl) Z Z Z ?_
 intro C x hmk;refine x.loop (α:={i:Nat // i≤up.length}) (λy=>⟨[(0,vU up),(3,.ptr 1 0),(10,vi (up.length:Int)),(11,vi (y.1:Int))],[(0,CW up.length λr=>qE up y.1 [] r),(1,.box [.own 0])],2⟩) (λy=>up.length-y.1) ⟨0,by omega⟩ Z ?_ ?_ (λy=>?_)
 ·simp only[ak,big,ag1];omega
 ·refine⟨⟨av Z,⟨Z,Z⟩,Z,Z,tR⟩,⟨⟨Z,Z,ag1 _,λr hr=>?_⟩,⟨Z,tR⟩,tR⟩,Z⟩
  show [D.int .u64 0]=[dm (qE up 0 [] r)];rw[VF];rfl
 obtain⟨i,hi⟩:=y;change Go C _ ⟨[(0,vU up),(3,.ptr 1 0),(10,vi (up.length:Int)),(11,vi (i:Int))],[(0,CW up.length λr=>qE up i [] r),(1,.box [.own 0])],2⟩ _
 refine x.cond Z tR (λh1=>?_) (λh1=>?_)
 ·have h1:i<up.length:=by have:=agP h1;omega
  refine x.pure Z ?_ Z (GX (upA up i)) ⟨Z,tR⟩ ?_
  ·simp only[ak];omega
  refine x.range (ps:=[19]) hmk [3] (λ_=>True) (λk=>[(0,CW up.length λr=>qE up i ((bits (upA up i)).take k) r),(1,.box [.own 0]),(2,.box [vi (i:Int)])]) (λ_ _ _=>False) Z tR Z (KZ (upA up i)) ⟨⟨Z,Z⟩,tR⟩ Z ⟨⟨Z,tR⟩,tR⟩ (λy hy=>?_) (λk=>rfl) (λk c H' h=>h.elim) tR ?_ (λk y hy _ C1 x1=>?_) (λ_=>?_) (λk c H' _ _ h=>h.elim)
  ·obtain⟨i,_,rfl⟩:=List.mem_map.1 hy
   rfl
  ·exact⟨⟨Z,Z,Z,λ_ _=>rfl⟩,⟨Z,tR⟩,⟨Z,tR⟩,tR⟩
  ·obtain⟨k',hgi,rfl,hb,hk64⟩:=K3 hy
   have hk:=hin i h1 k' hb;refine x1.exit Z tR ⟨Z,λC2 x2=>?_⟩
   refine x2.aeK [1,3] [0,2,4,5,6,7,8] [9] Z tR ay (by kernel_rfl) pQ.bG pQ.Yj ?_
   refine x2.rZ Z ?_ Z (CR (qE up i ((bits (upA up i)).take k) k') i) Z Z ⟨Z,Z,tR⟩ ?_
   ·simp only[ak];omega
   refine x2.eY Z ?_ ?_
   ·simp only[ak];omega
   refine x2.exit Z ?_ ⟨tR,⟨Z,Z,Z,λr hr=>?_⟩,⟨Z,tR⟩,⟨Z,tR⟩,tR⟩
   ·simp only[ak,List.length,ag1];omega
   ·have:=VD (up:=up) (i:=i) (k:=k') (r:=r) (l:=(bits (upA up i)).take k) (by omega)
    show Cc (λr=>[dm (qE up i ((bits (upA up i)).take k) r)]) k' 0 [dm (wM (qE up i ((bits (upA up i)).take k) k') (i:Int))] r=[dm (qE up i ((bits (upA up i)).take (k+1)) r)]
    rw[r9,take_succ hgi,←this];show [D.int .u64 (if r=k' then _ else _)]=[dm (if r=k' then _ else _)]
    split<;>rfl
  ·refine x.back Z ?_ ⟨⟨i+1,by omega⟩,by show up.length-(i+1)<up.length-i;omega,?_⟩
   ·simp only[ak,aj];omega
   ·refine⟨⟨av Z,⟨Z,Z⟩,Z,(show aI (vi ((i:Int)+1)) (vi ((i+1:Nat):Int)) by rw[agY];rfl),tR⟩,⟨⟨Z,Z,Z,λr hr=>?_⟩,⟨Z,tR⟩,tR⟩,Z⟩
    show [dm (qE up i ((bits (upA up i)).take _) r)]=[dm (qE up (i+1) [] r)];rw[wP,List.take_length,VE]
 ·have h1:i=up.length:=by have:=agQ h1;omega
  refine x.exit Z tR ?_;refine⟨.inr Z,Z,⟨⟨Z,Z,Z,λr hr=>?_⟩,tR⟩,Z⟩
  show [dm (qE up i [] r)]=[dm (upA (iP up) r)];rw[h1,YJ hr]
theorem VG{n:Nat}(h:n≤64):rH (n:Int)=ofP λj=>decide (j<n):=Ef λj hj=>by
 rw[QG,jl _ hj];simp only[decide_eq_decide];omega
def JM(up:List M64)(i k:Nat):Bool:=decide (upA up k&&& ~~~ upA up i=0#64)&&!(decide (k≠i)&&bit (upA up k) i)
theorem Ei(up:List M64)(i:Nat):nV up i=(bit (upA up i) i&&decide (upA up i&&& ~~~ ofP (λj=>decide (j<up.length))=0#64)&&(bits (upA up i)).all (JM up i)):=rfl
theorem QL(up:List M64)(hl:aj (up.length:Int)):Pure PG 114 [vU up] (vb (gI up)) []:=by
 refine aG.mkR (cfg 59) aA [] Tryz.func114 Z (by kernel_rfl) Z Z Z ?_
 intro C x hmk;refine x.cond Z tR (λh0=>?_) (λh0=>?_)
 ·refine x.exit Z tR ⟨.inr Z,?_,tR,Z⟩
  show false=gI up;have h0:(decide ((up.length:Int)<1)||decide (64<(up.length:Int)))=true:=h0
  rw[eq_comm,gI,Bool.and_eq_false_iff,Bool.and_eq_false_iff];simp only[Bool.or_eq_true,agT] at h0;refine .inl (h0.imp (λh=>decide_eq_false (by omega)) (λh=>decide_eq_false (by omega)))
 have hlen:1≤up.length∧up.length≤64:=by
  have h0:(decide ((up.length:Int)<1)||decide (64<(up.length:Int)))=false:=h0
  simp only[ag2,agX] at h0;omega
 have hno:∀i,i<up.length->nV up i=false->gI up=false:=λi hi h=>by
  rw[gI,Bool.and_eq_false_iff];refine .inr (List.all_eq_false.2 ⟨i,List.mem_range.2 hi,by rw[h];simp⟩)
 have hand:∀i,ou .andNot .u64 ((upA up i).toNat:Int) ((rH (up.length:Int)).toNat:Int)=0↔upA up i&&& ~~~ ofP (λj=>decide (j<up.length))=0#64:=λi=>by rw[qR,VG hlen.2]
 refine x.pure Z tR Z (QH (up.length:Int) hl) ⟨Z,tR⟩ ?_;refine x.loop (α:={i:Nat // i≤up.length∧∀a,a<i->nV up a=true}) (λy=>⟨[(1,.ptr 0 0),(2,.ptr 1 0),(3,vm (rH (up.length:Int))),(18,vU up),(19,vi (up.length:Int)),(20,vi (y.1:Int))],[(0,.box [vU up]),(1,.box [vb false])],2⟩) (λy=>up.length-y.1) ⟨0,by omega,λa ha=>by omega⟩ Z tR ?_ (λy=>?_)
 ·exact⟨⟨⟨Z,Z⟩,⟨Z,Z⟩,Z,av Z,Z,Z,tR⟩,⟨⟨ah Z,tR⟩,⟨Z,tR⟩,tR⟩,Z⟩
 obtain⟨i,hi,hdone⟩:=y;change Go C _ ⟨[(1,.ptr 0 0),(2,.ptr 1 0),(3,vm (rH (up.length:Int))),(18,vU up),(19,vi (up.length:Int)),(20,vi (i:Int))],[(0,.box [vU up]),(1,.box [vb false])],2⟩ _;refine x.cond Z tR (λh1=>?_) (λh1=>?_)
 ·have h1:i<up.length:=by have:=agP h1;omega
  refine x.pure Z ?_ Z (GR (upA up i) i) ⟨Z,Z,tR⟩ ?_
  ·simp only[ak];omega
  refine x.cond Z tR (λh2=>?_) (λh2=>?_)
  ·refine x.exit Z tR ⟨.inr Z,?_,tR,Z⟩
   show false=gI up;refine (hno i h1 ?_).symm;have h2:(!IX (upA up i) (i:Int)||!decide (ou .andNot .u64 ((upA up i).toNat:Int) ((rH (up.length:Int)).toNat:Int)=0))=true:=h2
   rw[wL,Bool.or_eq_true,agZ,agZ,agX,hand] at h2;rw[Ei,Bool.and_eq_false_iff,Bool.and_eq_false_iff];exact .inl (h2.imp id decide_eq_false)
  have hrow:bit (upA up i) i=true∧upA up i&&& ~~~ ofP (λj=>decide (j<up.length))=0#64:=by
   have h2:(!IX (upA up i) (i:Int)||!decide (ou .andNot .u64 ((upA up i).toNat:Int) ((rH (up.length:Int)).toNat:Int)=0))=false:=h2
   rw[wL,ag2,Bool.not_eq_false',Bool.not_eq_false',agT,hand] at h2;exact h2
  have hin:InU up.length (upA up i):=λj hj=>by
   have h64:j<64:=by
    by_cases h64:j<64
    ·exact h64
    ·rw[wK _ (by omega)] at hj;cases hj
   have:=uK.1 hrow.2 j hj;rw[jl _ h64] at this
   simpa using this
  have acd:nV up i=(bits (upA up i)).all (JM up i):=by rw[Ei,hrow.1,decide_eq_true hrow.2];rfl
  refine x.pure Z tR Z (GX (upA up i)) ⟨Z,tR⟩ ?_;refine x.range (ps:=[37]) hmk [4] (λk=>∀j,j<k->JM up i ((bits (upA up i)).getD j 0)=true) (λk=>[(0,.box [vU up]),(1,.box [vb false]),(2,.box [vi (i:Int)]),(3,.box [vm (upA up i)])]) (λk c H'=>c=.ret∧H'=[(1,.box [vb false])]∧JM up i ((bits (upA up i)).getD k 0)=false) Z tR Z (KZ (upA up i)) ⟨⟨Z,Z⟩,tR⟩ Z ⟨⟨Z,tR⟩,tR⟩ (λy hy=>?_) (λk=>rfl) (λk c H' h=>by obtain⟨_,rfl,_⟩:=h;rfl) (λj hj=>by omega) ⟨⟨ah Z,tR⟩,⟨Z,tR⟩,⟨Z,tR⟩,⟨Z,tR⟩,tR⟩ (λk y hy hP C1 x1=>?_) (λhP=>?_) (λk c H' hk hP h=>?_)
  ·obtain⟨i,_,rfl⟩:=List.mem_map.1 hy
   rfl
  ·obtain⟨k',hgi,rfl,hb,hk64⟩:=K3 hy
   have hk:=hin k' hb;have hgD:(bits (upA up i)).getD k 0=k':=by rw[agM,hgi];rfl
   refine x1.exit Z tR ⟨Z,λC2 x2=>?_⟩
   refine x2.Yg Z tR ay (by kernel_rfl) pQ.Yj ?_
   refine x2.XY Z ?_ Z (λ_ _=>GR (upA up k') i) Z Z ⟨Z,Z,tR⟩ ?_
   ·have hh:0≤(k':Int)∧(k':Int)<(up.length:Int):=by omega
    exact⟨hh,λ_ _=>hh⟩
   refine x2.eY Z tR ?_
   have hE:JM up i k'=!(!decide (ou .andNot .u64 ((upA up k').toNat:Int) ((upA up i).toNat:Int)=0)||(!decide ((k':Int)=(i:Int))&&IX (upA up k') (i:Int))):=by
    unfold JM;rw[wL,Bool.not_or,Bool.not_not]
    congr 1
    ·rw[decide_eq_decide];exact qR.symm
    ·congr 2
     rw[decide_not]
     congr 1
     rw[decide_eq_decide];omega
   refine x2.cond Z tR (λh=>?_) (λh=>?_)
   ·refine x2.exit Z tR ?_
    refine⟨[(1,.box [vb false])],⟨Z,Z,?_⟩,⟨Z,tR⟩,tR⟩;rw[hgD,hE];exact (congrArg not h).trans Z
   ·refine x2.exit Z tR ?_
    refine⟨λj hj=>?_,⟨ah Z,tR⟩,⟨Z,tR⟩,⟨Z,tR⟩,⟨Z,tR⟩,tR⟩
    by_cases e:j=k
    ·rw[e,hgD,hE]
     exact (congrArg not h).trans Z
    ·exact hP j (by omega)
  ·refine x.back Z ?_ ⟨⟨i+1,by omega,λa ha=>?_⟩,by show up.length-(i+1)<up.length-i;omega,?_⟩
   ·simp only[ak,aj];omega
   ·by_cases e:a=i
    ·rw[e,acd,List.all_eq_true]
     intro k' hk';obtain⟨k,hk,rfl⟩:=List.getElem_of_mem hk';have:=hP k (by rw[wP];exact hk)
     rwa [agM,agO hk] at this
    ·exact hdone a (by omega)
   ·exact⟨⟨⟨Z,Z⟩,⟨Z,Z⟩,Z,av Z,Z,(show aI (vi ((i:Int)+1)) (vi ((i+1:Nat):Int)) by rw[agY];rfl),tR⟩,⟨⟨ah Z,tR⟩,⟨Z,tR⟩,tR⟩,Z⟩
  ·obtain⟨rfl,rfl,h⟩:=h
   rw[wP] at hk;refine x.exit Z tR ⟨.inr Z,?_,tR,Z⟩;show false=gI up;refine (hno i h1 ?_).symm;rw[acd,List.all_eq_false];exact⟨(bits (upA up i)).getD k 0,by rw[agM,agO hk];exact List.getElem_mem hk,by rw[h];simp⟩
 ·have h1:i=up.length:=by have:=agQ h1;omega
  refine x.exit Z tR ⟨.inr Z,?_,tR,Z⟩;show true=gI up;rw[eq_comm,gI,decide_eq_true hlen.1,decide_eq_true hlen.2];refine List.all_eq_true.2 λa ha=>hdone a (by have:=List.mem_range.1 ha;omega)
theorem QM{up:List M64}{a b:Nat}(ha:a<up.length)(hb:b<a)(h:wO up (upA up a&&& upA up b)<0):Ba up=false:=by
 unfold Ba;rw[List.all_eq_false];refine⟨a,List.mem_range.2 ha,?_⟩;rw[Bool.not_eq_true,List.all_eq_false];exact⟨b,List.mem_range.2 hb,by simp;omega⟩
theorem JN(up:List M64)(h64:up.length≤64)(hin:∀i,i<up.length->InU up.length (upA up i)):Pure PG 115 [vU up] (vb (Ba up)) []:=by
 refine aG.mk (cfg 28) aA [] Tryz.func115 Z (by kernel_rfl) Z Z Z ?_
 intro C x;refine x.loop (α:={i:Nat // i≤up.length∧∀a b,a<i->b<a->0≤wO up (upA up a&&& upA up b)}) (λy=>⟨[(0,vU up),(6,vi (up.length:Int)),(7,vi (y.1:Int))],[],0⟩) (λy=>up.length-y.1) ⟨0,by omega,λa b ha=>by omega⟩ Z tR ⟨⟨av Z,Z,Z,tR⟩,tR,Z⟩ (λy=>?_)
 obtain⟨i,hi,hdone⟩:=y;change Go C _ ⟨[(0,vU up),(6,vi (up.length:Int)),(7,vi (i:Int))],[],0⟩ _;refine x.cond Z tR (λh1=>?_) (λh1=>?_)
 ·have h1:i<up.length:=by have:=agP h1;omega
  refine x.loop (α:={b:Nat // b≤i∧∀c,c<b->0≤wO up (upA up i&&& upA up c)}) (λz=>⟨[(0,vU up),(3,vi (i:Int)),(6,vi (up.length:Int)),(7,vi (i:Int)),(10,vi (i:Int)),(11,vi (z.1:Int))],[],0⟩) (λz=>i-z.1) ⟨0,by omega,λa ha=>by omega⟩ Z tR ⟨⟨av Z,Z,Z,Z,Z,Z,tR⟩,tR,Z⟩ (λz=>?_)
  obtain⟨b,hb,hd2⟩:=z;change Go C _ ⟨[(0,vU up),(3,vi (i:Int)),(6,vi (up.length:Int)),(7,vi (i:Int)),(10,vi (i:Int)),(11,vi (b:Int))],[],0⟩ _;refine x.cond Z tR (λh2=>?_) (λh2=>?_)
  ·have h2:b<i:=by have:=agP h2;omega
   refine x.quiet Z tR ay (by kernel_rfl) ?_
   refine x.rZ Z ?_ Z (QK up (upA up i&&& upA up b) (aa6 (hin i h1))) Z Z ⟨av Z,(show aI (.d (.int .u64 (ou .and .u64 ((upA up i).toNat:Int) ((upA up b).toNat:Int)))) (vm (upA up i&&& upA up b)) by rw[Tc];rfl),tR⟩ ?_
   ·simp only[ak];omega
   refine x.eY Z tR ?_;refine x.cond Z tR (λh3=>?_) (λh3=>?_)
   ·refine x.exit Z tR ⟨.inr Z,?_,tR,Z⟩
    exact (QM h1 h2 (agP h3)).symm
   ·have h3:=agQ h3
    refine x.back Z ?_ ⟨⟨b+1,by omega,λc hc=>?_⟩,by show i-(b+1)<i-b;omega,⟨av Z,Z,Z,Z,Z,(show aI (vi ((b:Int)+1)) (vi ((b+1:Nat):Int)) by rw[agY];rfl),tR⟩,tR,Z⟩
    ·simp only[ak,aj];omega
    ·by_cases e:c=b
     ·rw[e];omega
     ·exact hd2 c (by omega)
  ·have h2:b=i:=by have:=agQ h2;omega
   subst h2;refine x.back Z ?_ ⟨⟨b+1,by omega,λa c ha hc=>?_⟩,by show up.length-(b+1)<up.length-b;omega,⟨av Z,Z,(show aI (vi ((b:Int)+1)) (vi ((b+1:Nat):Int)) by rw[agY];rfl),tR⟩,tR,Z⟩
   ·simp only[ak,aj];omega
   ·by_cases e:a=b
    ·subst e;exact hd2 c hc
    ·exact hdone a c (by omega) hc
 ·have h1:i=up.length:=by have:=agQ h1;omega
  subst h1;refine x.exit Z tR ⟨.inr Z,?_,tR,Z⟩;show true=Ba up;rw[eq_comm,Ba,List.all_eq_true];intro a ha;rw[List.all_eq_true];intro b hb;exact decide_eq_true (hdone a b (List.mem_range.1 ha) (List.mem_range.1 hb))
theorem IZ(up:List M64)(h64:up.length≤64)(hin:∀i,i<up.length->InU up.length (upA up i)):Pure PG 117 [vU up] (vU (iP up)) []:=by
 have h:=Pure.froze (NM up h64 hin);unfold vU dUp;rw[uJ];exact h
theorem Ej(up:List M64)(hl:aj (up.length:Int)):Pure PG 70 [vU up] (vb (gJ up)) []:=by
 refine aG.mk (cfg 16) aA [] Tryz.func70 Z (by kernel_rfl) Z Z Z ?_
 intro C x;refine x.pure Z tR Z (QL up hl) ⟨av Z,tR⟩ ?_;refine x.cond Z tR (λh=>?_) (λh=>?_)
 ·have h:(!gI up)=true:=h
  refine x.exit Z tR ⟨.inr Z,?_,tR,Z⟩;show false=gJ up;rw[gJ,show gI up=false by simpa using h];rfl
 have ho:gI up=true:=by
  have h:(!gI up)=false:=h
  simpa using h
 have h64:=(x9 ho).2;have hin:∀i,i<up.length->InU up.length (upA up i):=λi hi=>JL ho hi
 have ht64:(iP up).length≤64:=by rw[uJ];exact h64
 refine x.pure Z tR Z (JN up h64 hin) ⟨av Z,tR⟩ ?_;refine x.gG Z tR Z (λ_=>IZ up h64 hin) Z ⟨av Z,tR⟩ ?_
 refine x.gG Z tR Z (λ_=>JN (iP up) ht64 λi hi=>QJ (by rw[←uJ up];exact hi)) Z ⟨av Z,tR⟩ ?_
 refine x.exit Z tR ⟨.inr Z,?_,tR,Z⟩;show aI (vb (Ba up&&Ba (iP up))) (vb (gJ up));rw[gJ,ho];exact Z
def adz(ps:List (Nat×Nat)):D:=.sl 2 ps.length λi=>[.int .i64 ((ps.getD i (0,0)).1:Int),.int .i64 ((ps.getD i (0,0)).2:Int)]
abbrev GZ(ps:List (Nat×Nat)):V:=.d (adz ps)
def bL(ps:List (Nat×Nat))(r:Nat):M64:=ofP λj=>decide (j=r)||decide ((r,j)∈ps)
def NN(f:Nat->M64)(k i:Nat):Nat->M64:=λr=>if r=i then (if bit (f i) k then f i||| f k else f i) else f r
def zJ(f:Nat->M64)(k:Nat):Nat->Nat->M64
 | 0=>f
 | i+1=>NN (zJ f k i) k i
def sN(n:Nat)(f:Nat->M64):Nat->Nat->M64
 | 0=>f
 | k+1=>zJ (sN n f k) k n
def closed(n:Nat)(ps:List (Nat×Nat)):Nat->M64:=sN n (bL ps) n
def iJ(n:Nat)(ps:List (Nat×Nat)):List M64:=(List.range n).map (closed n ps)
theorem yc(n:Nat)(ps:List (Nat×Nat)):(iJ n ps).length=n:=by simp [iJ]
theorem YK{n:Nat}{ps:List (Nat×Nat)}{i:Nat}(hi:i<n):upA (iJ n ps) i=closed n ps i:=by
 unfold upA iJ;rw[agM,List.getElem?_map,List.getElem?_range hi];rfl
theorem QN{i:Nat}(hi:i<64):wM 0#64 (i:Int)=one i:=Ef λj hj=>by
 rw[CS,uH hi];by_cases h:j=i
 ·subst h;simp [hj,bit]
 ·have:¬((j:Int)=(i:Int)):=by omega
  simp [h,this,bit]
theorem NP{r:Nat}(hr:r<64):bL [] r=one r:=Ef λj hj=>by
 unfold bL;rw[jl _ hj,uH hr];simp
theorem K4{ps:List (Nat×Nat)}{a b r:Nat}(hb:b<64):bL (ps++[(a,b)]) r=if r=a then wM (bL ps a) (b:Int) else bL ps r:=by
 refine Ef λj hj=>?_
 unfold bL;rw[jl _ hj];split
 ·rename_i e
  subst e;rw[CS,jl _ hj];by_cases h:j=b
  ·subst h;simp [hj]
  ·have:¬((j:Int)=(b:Int)):=by omega
   simp [h,this]
 ·rename_i e
  rw[jl _ hj];simp [e]
theorem QO(n:Nat)(ps:List (Nat×Nat))(h1:1≤n)(h64:n≤64)(hps:∀p∈ps,p.1<n∧p.2<n)(hl:aj (ps.length:Int)) :
  Pure PG 41 [vi (n:Int),GZ ps] (.tup [vU (if gJ (iJ n ps) then iJ n ps else []),vi (if gJ (iJ n ps) then 0 else 11)]) []:=by
 refine aG.mk (cfg 99) aA [] Tryz.func41 Z (by kernel_rfl) Z Z Z ?_
 intro C x;unfold aj at hl;refine x.cond Z tR (λh=>?_) (λ_=>?_)
 ·have h:(decide ((n:Int)<1)||decide (64<(n:Int)))=true:=h
  simp only[Bool.or_eq_true,agT] at h;omega
 refine x.loop (α:={i:Nat // i≤n}) (λy=>⟨[(0,vi (n:Int)),(1,GZ ps),(6,.own 0),(20,vi (n:Int)),(21,vi (y.1:Int))],[(0,CW n λr=>if r<y.1 then one r else 0#64)],1⟩) (λy=>n-y.1) ⟨0,by omega⟩ Z ?_ ?_ (λy=>?_)
 ·simp only[ak,big,ag1];omega
 ·refine⟨⟨Z,av Z,Z,Z,Z,tR⟩,⟨⟨Z,Z,ag1 _,λr hr=>?_⟩,tR⟩,Z⟩
  show [D.int .u64 0]=[dm (if r<0 then one r else 0#64)]
  rw[if_neg (by omega)];rfl
 obtain⟨i,hi⟩:=y;change Go C _ ⟨[(0,vi (n:Int)),(1,GZ ps),(6,.own 0),(20,vi (n:Int)),(21,vi (i:Int))],[(0,CW n λr=>if r<i then one r else 0#64)],1⟩ _
 refine x.cond Z tR (λh2=>?_) (λh2=>?_)
 ·have h2:i<n:=by have:=agP h2;omega
  refine x.pure Z tR Z (CR 0#64 i) ⟨Z,Z,tR⟩ ?_;refine x.back Z ?_ ⟨⟨i+1,by omega⟩,by show n-(i+1)<n-i;omega,?_⟩
  ·simp only[ak,List.length,ag1,aj];omega
  ·refine⟨⟨Z,av Z,Z,Z,(show aI (vi ((i:Int)+1)) (vi ((i+1:Nat):Int)) by rw[agY];rfl),tR⟩,⟨⟨Z,Z,Z,λr hr=>?_⟩,tR⟩,Z⟩
   show Cc (λr=>[dm (if r<i then one r else 0#64)]) i 0 [dm (wM 0#64 (i:Int))] r=[dm (if r<i+1 then one r else 0#64)]
   rw[r9,QN (by omega)]
   show [D.int .u64 (if r=i then _ else _)]=_
   by_cases e:r=i
   ·rw[if_pos e,if_pos (by omega),e]
   ·rw[if_neg e]
    by_cases e2:r<i
    ·rw[if_pos e2,if_pos (by omega)]
    ·rw[if_neg e2,if_neg (by omega)]
 have h2:i=n:=by have:=agQ h2;omega
 subst h2;refine x.loop (α:={j:Nat // j≤ps.length}) (λy=>⟨[(0,vi (i:Int)),(6,.own 0),(30,GZ ps),(31,vi (ps.length:Int)),(32,vi (y.1:Int))],[(0,CW i λr=>bL (ps.take y.1) r)],1⟩) (λy=>ps.length-y.1) ⟨0,by omega⟩ Z tR ?_ (λy=>?_)
 ·refine⟨⟨Z,Z,av Z,Z,Z,tR⟩,⟨⟨Z,Z,Z,λr hr=>?_⟩,tR⟩,Z⟩
  show [dm (if r<i then one r else 0#64)]=[dm (bL [] r)]
  rw[if_pos hr,NP (by omega)]
 obtain⟨j,hj⟩:=y;change Go C _ ⟨[(0,vi (i:Int)),(6,.own 0),(30,GZ ps),(31,vi (ps.length:Int)),(32,vi (j:Int))],[(0,CW i λr=>bL (ps.take j) r)],1⟩ _
 refine x.cond Z tR (λh3=>?_) (λh3=>?_)
 ·have h3:j<ps.length:=by have:=agP h3;omega
  have hgD:ps.getD j (0,0)=ps[j]:=by rw[agM,agO h3];rfl
  obtain⟨p1,p2⟩:=hps _ (List.getElem_mem h3);have hq:ps.getD j (0,0)∈ps:=by rw[hgD];exact List.getElem_mem h3
  obtain⟨p1,p2⟩:=hps _ hq;refine x.cond Z ?_ (λh=>?_) (λ_=>?_)
  ·simp only[ak]
   exact⟨by omega,by decide,by decide,λ_=>by decide,λ_=>by decide,λ_=>by decide,λ_=>by decide,λ_=>by decide,λ_=>by decide⟩
  ·exfalso
   have h:(((decide (((ps.getD j (0,0)).1:Int)<0)||decide ((i:Int)≤((ps.getD j (0,0)).1:Int)))||decide (((ps.getD j (0,0)).2:Int)<0))||decide ((i:Int)≤((ps.getD j (0,0)).2:Int)))=true:=h
   simp only[Bool.or_eq_true,agT] at h;omega
  refine x.plan [0,3] [1,2,4,5,6,7,8,9,10,11] [12] Z tR ay (by kernel_rfl) Ret.bG ?_
  refine x.rZ Z ?_ Z (CR (bL (ps.take j) (ps.getD j (0,0)).1) (ps.getD j (0,0)).2) Z Z ⟨Z,Z,tR⟩ ?_
  ·simp only[ak,ag1]
   exact⟨by decide,by decide,by decide,by decide,⟨by omega,by omega⟩,p1,by decide,by decide⟩
  refine x.eY Z (by simp only[ak,ag1];omega) ?_
  refine x.back Z ?_ ⟨⟨j+1,by omega⟩,by show ps.length-(j+1)<ps.length-j;omega,?_⟩
  ·simp only[ak,List.length,ag1,aj];omega
  ·refine⟨⟨Z,Z,av Z,Z,(show aI (vi ((j:Int)+1)) (vi ((j+1:Nat):Int)) by rw[agY];rfl),tR⟩,⟨⟨Z,Z,Z,λr hr=>?_⟩,tR⟩,Z⟩
   show Cc (λr=>[dm (bL (ps.take j) r)]) (ps.getD j (0,0)).1 0 [dm (wM (bL (ps.take j) (ps.getD j (0,0)).1) ((ps.getD j (0,0)).2:Int))] r=[dm (bL (ps.take (j+1)) r)]
   have e:ps.take (j+1)=ps.take j++[((ps.getD j (0,0)).1,(ps.getD j (0,0)).2)]:=by rw[take_succ (a:=ps[j]) (agO h3),hgD]
   rw[r9,e,K4 (by omega)]
   show [D.int .u64 (if r=_ then _ else _)]=[dm (if r=_ then _ else _)]
   split<;>rfl
 have h3:j=ps.length:=by have:=agQ h3;omega
 refine x.loop (α:={k:Nat // k≤i}) (λy=>⟨[(0,vi (i:Int)),(6,.own 0),(69,vi (i:Int)),(70,vi (y.1:Int))],[(0,CW i λr=>sN i (bL ps) y.1 r)],1⟩) (λy=>i-y.1) ⟨0,by omega⟩ Z tR ?_ (λy=>?_)
 ·refine⟨⟨Z,Z,Z,Z,tR⟩,⟨⟨Z,Z,Z,λr hr=>?_⟩,tR⟩,Z⟩
  show [dm (bL (ps.take j) r)]=[dm (bL ps r)];rw[h3,List.take_length]
 obtain⟨k,hk⟩:=y;change Go C _ ⟨[(0,vi (i:Int)),(6,.own 0),(69,vi (i:Int)),(70,vi (k:Int))],[(0,CW i λr=>sN i (bL ps) k r)],1⟩ _
 refine x.cond Z tR (λh4=>?_) (λh4=>?_)
 ·have h4:k<i:=by have:=agP h4;omega
  refine x.loop (α:={m:Nat // m≤i}) (λy=>⟨[(0,vi (i:Int)),(6,.own 0),(10,vi (k:Int)),(69,vi (i:Int)),(70,vi (k:Int)),(73,vi (i:Int)),(74,vi (y.1:Int))],[(0,CW i λr=>zJ (sN i (bL ps) k) k y.1 r)],1⟩) (λy=>i-y.1) ⟨0,by omega⟩ Z tR ?_ (λy=>?_)
  ·exact⟨⟨Z,Z,Z,Z,Z,Z,Z,tR⟩,⟨⟨Z,Z,Z,λr hr=>rfl⟩,tR⟩,Z⟩
  obtain⟨m,hm⟩:=y;change Go C _ ⟨[(0,vi (i:Int)),(6,.own 0),(10,vi (k:Int)),(69,vi (i:Int)),(70,vi (k:Int)),(73,vi (i:Int)),(74,vi (m:Int))],[(0,CW i λr=>zJ (sN i (bL ps) k) k m r)],1⟩ _
  refine x.cond Z tR (λh5=>?_) (λh5=>?_)
  ·have h5:m<i:=by have:=agP h5;omega
   refine x.pure Z ?_ Z (GR (zJ (sN i (bL ps) k) k m m) k) ⟨Z,Z,tR⟩ ?_
   ·simp only[ak];omega
   refine x.cond Z tR (λh6=>?_) (λh6=>?_)
   ·have h6:IX (zJ (sN i (bL ps) k) k m m) (k:Int)=true:=h6
    rw[wL] at h6;refine x.plan [0,1,4,5] [2,3,6,7,8,9] [10] Z tR ay (by kernel_rfl) Ret.bG ?_
    refine x.eY Z (by simp only[ak];omega) ?_
    refine x.back Z ?_ ⟨⟨m+1,by omega⟩,by show i-(m+1)<i-m;omega,?_⟩
    ·simp only[ak,List.length,ag1,aj];omega
    ·refine⟨⟨Z,Z,Z,Z,Z,Z,(show aI (vi ((m:Int)+1)) (vi ((m+1:Nat):Int)) by rw[agY];rfl),tR⟩,⟨⟨Z,Z,Z,λr hr=>?_⟩,tR⟩,Z⟩
     show Cc (λr=>[dm (zJ (sN i (bL ps) k) k m r)]) m 0 [D.int .u64 (ou .or .u64 ((zJ (sN i (bL ps) k) k m m).toNat:Int) ((zJ (sN i (bL ps) k) k m k).toNat:Int))] r=[dm (NN (zJ (sN i (bL ps) k) k m) k m r)]
     rw[r9,adx,NN,if_pos h6];show [D.int .u64 (if r=_ then _ else _)]=[dm (if r=_ then _ else _)]
     split<;>rfl
   ·have h6:IX (zJ (sN i (bL ps) k) k m m) (k:Int)=false:=h6
    rw[wL] at h6;refine x.back Z ?_ ⟨⟨m+1,by omega⟩,by show i-(m+1)<i-m;omega,?_⟩
    ·simp only[ak,aj];omega
    ·refine⟨⟨Z,Z,Z,Z,Z,Z,(show aI (vi ((m:Int)+1)) (vi ((m+1:Nat):Int)) by rw[agY];rfl),tR⟩,⟨⟨Z,Z,Z,λr hr=>?_⟩,tR⟩,Z⟩
     show [dm (zJ (sN i (bL ps) k) k m r)]=[dm (NN (zJ (sN i (bL ps) k) k m) k m r)];rw[NN,h6];split
     ·rename_i e;rw[e];rfl
     ·rfl
  ·have h5:m=i:=by have:=agQ h5;omega
   refine x.back Z ?_ ⟨⟨k+1,by omega⟩,by show i-(k+1)<i-k;omega,?_⟩
   ·simp only[ak,aj];omega
   ·refine⟨⟨Z,Z,Z,(show aI (vi ((k:Int)+1)) (vi ((k+1:Nat):Int)) by rw[agY];rfl),tR⟩,⟨⟨Z,Z,Z,λr hr=>?_⟩,tR⟩,Z⟩
    show [dm (zJ (sN i (bL ps) k) k m r)]=[dm (zJ (sN i (bL ps) k) k i r)];rw[h5]
 have h4:k=i:=by have:=agQ h4;omega
 have hrow:∀r,r<i->[dm (sN i (bL ps) k r)]=[dm (upA (iJ i ps) r)]:=λr hr=>by rw[YK hr,closed,h4]
 have hR:Pure PG 70 [.d (.sl 1 i λr=>[dm (sN i (bL ps) k r)])] (vb (gJ (iJ i ps))) []:=by
  have h:=Ej (iJ i ps) (by rw[yc];unfold aj;omega)
  refine Pure.args (args:=[vU (iJ i ps)]) h ⟨⟨(yc i ps).symm,λ_=>rfl,λr hr=>hrow r hr⟩,tR⟩ Z
 refine x.call [0] Z tR Z (Pure.borrow [CW i λr=>sN i (bL ps) k r] hR (args:=[.own 0]) Z Z Z) Z ⟨Z,tR⟩ ⟨⟨Z,Z,Z,λ_ _=>rfl⟩,tR⟩ ?_
 refine x.cond Z tR (λh7=>?_) (λh7=>?_)
 ·have h7:(!gJ (iJ i ps))=true:=h7
  have h7:gJ (iJ i ps)=false:=by simpa using h7
  refine x.exit Z tR ⟨.inr Z,?_,tR,Z⟩;rw[h7];exact⟨Z,Z,tR⟩
 ·have h7:(!gJ (iJ i ps))=false:=h7
  have h7:gJ (iJ i ps)=true:=by simpa using h7
  refine Sx.Go.freeze 0 ?_;refine x.exit Z tR ⟨.inr Z,?_,tR,Z⟩;rw[h7];refine⟨⟨(yc i ps).symm,λ_=>rfl,λr hr=>hrow r hr⟩,Z,tR⟩
theorem iD{α:Type}(d:α->List D)(N:Nat)(hd:∀a,(d a).length=N)(x0:α)(xs:List α)(x:α)(j:Nat)(hj:j<xs.length+1):app xs.length (λi=>d (xs.getD i x0)) (λ_=>d x) j=d ((xs++[x]).getD j x0):=by
 unfold app;show dh (j<xs.length) (d (xs.getD j x0)) (d x)=_;by_cases h:j<xs.length
 ·rw[Go.Sx.jI h,agM,agM,List.getElem?_append_left h]
 ·have e:j=xs.length:=by omega
  rw[Go.Sx.jJ h,agM (l:=xs++[x]),List.getElem?_append_right (by omega),e,Nat.sub_self]
  rfl
structure Rdr where
 lev:List BY
 ins:List Chan
 outs:List Chan
 depth:Int
 flows:List (Nat×Nat)
abbrev YL(l:List BY):Ch:=.vec 9 1 l.length λi=>[.str (l.getD i .empty)]
abbrev I4(l:List Chan):Ch:=.vec 162 2 l.length λi=>[.str (l.getD i bf).1,.int .i64 (l.getD i bf).2]
abbrev YM(l:List (Nat×Nat)):Ch:=.vec 180 2 l.length λi=>[.int .i64 ((l.getD i (0,0)).1:Int),.int .i64 ((l.getD i (0,0)).2:Int)]
abbrev NQ(k:Int):Ch:=.box [.own 1,.aD,.own 2,.own 3,vi k,.own 4]
abbrev rdH(r:Rdr):List Ch:=[NQ r.depth,YL r.lev,I4 r.ins,I4 r.outs,YM r.flows]
structure Small(r:Rdr):Prop where
 lev:r.lev.length≤64
 ins:r.ins.length≤32
 outs:r.outs.length≤32
 flows:r.flows.length≤100000
 depth:aj r.depth
theorem Small.i64{r:Rdr}(h:Small r):aj (r.lev.length:Int)∧aj (r.ins.length:Int)∧aj (r.outs.length:Int)∧aj (r.flows.length:Int):=by
 have h1:=h.lev;have h2:=h.ins;have h3:=h.outs;have h4:=h.flows;unfold aj;omega
def w_(w:List BY)(k:Nat):BY:=w.getD k .empty
theorem adA{ops:Array Oper}{g:Cfg}{rs:List ResultVar}{ids:List Nat}{r:V}{H':List Ch}:rC ops (Ret g rs ids r H'):=gQ.quiet (o:=.ret r H')
theorem fB{k:Int}:mH (NQ k) ((NQ k).map (cK [0,1,2,3,4])):=⟨Z,tR,Z,Z,Z,Z,tR⟩
theorem aL{e:TypeId}{sz n:Nat}{f:Nat->List D}{is:List Nat}:mH (.vec e sz n f) ((Ch.vec e sz n f).map (cK is)):=⟨Z,Z,Z,λ_ _=>rfl⟩
def qg(r:Rdr)(w:List BY):Rdr×Int:=
 if 0≤bH r.lev (w_ w 0) then (r,9) else if r.lev.length=64 then (r,3) else ({r with lev:=r.lev++[w_ w 0]},0)
theorem NR(r:Rdr)(w:List BY)(hr:Small r)(hw:1≤w.length):aG PG 134 1 [.ptr 0 0,vSs w] (rdH r) (vi (qg r w).2) (rdH (qg r w).1):=by
 obtain⟨i1,i2,i3,i4⟩:=hr.i64
 refine aG.mk (dP 40 1) aA [0,1,2,3,4] Tryz.func134 Z (by kernel_rfl) Z Z (by
  simp only[qg];split<;>(try split)<;>rfl) ?_
 intro C x;refine x.quiet Z tR ay (by kernel_rfl) ?_
 refine x.zA Z ?_ Z (jT r.lev (w_ w 0) i1) Z Z ⟨⟨ah Z,Z,Z,Z,Z,tR⟩,Z,tR⟩ ?_
 ·simp only[ak];omega
 refine x.eY Z tR ?_;refine x.cond Z tR (λh1=>?_) (λh1=>?_)
 ·have h1:0≤bH r.lev (w_ w 0):=agP h1
  refine x.exit Z tR ?_;rw[qg,if_pos h1];exact⟨.inr Z,Z,⟨fB,aL,aL,aL,aL,tR⟩,Z⟩
 have h1:¬0≤bH r.lev (w_ w 0):=agQ h1;refine x.cond Z tR (λh2=>?_) (λh2=>?_)
 ·have h2:r.lev.length=64:=by have:=agP h2;omega
  refine x.exit Z tR ?_;rw[qg,if_neg h1,if_pos h2];exact⟨.inr Z,Z,⟨fB,aL,aL,aL,aL,tR⟩,Z⟩
 have h2:¬r.lev.length=64:=by have:=agQ h2;omega
 refine x.draw [] [0,1,6] [2,3,4,5] [7,8,9] [10,11,12,13,14] Z tR ay (by kernel_rfl) adA Z tR (λC1 x1=>?_)
 refine x1.back Z ?_ ?_
 ·simp only[ak];omega
 refine x1.back Z tR ?_;refine x1.back Z tR ?_;have adB:=hr.lev;refine x.exit Z (by simp only[ak,big];omega) ?_
 rw[qg,if_neg h1,if_neg h2];exact⟨.inr Z,Z,⟨fB,⟨Z,Z,by simp,λj hj=>iD (λt=>[D.str t]) 1 (λ_=>rfl) .empty r.lev (w_ w 0) j hj⟩,aL,aL,aL,tR⟩,Z⟩
def yV(r:Rdr)(w:List BY):Rdr×Int:=
 if 0≤bH r.lev (w_ w 0)∧0≤bH r.lev (w_ w 1) then ({r with flows:=r.flows++[((bH r.lev (w_ w 0)).toNat,(bH r.lev (w_ w 1)).toNat)]},0) else (r,10)
theorem YN{k:Int}(h:0≤k):(if 0 > k then 0 else k)=((k.toNat:Nat):Int):=by rw[if_neg (by omega)];omega
theorem QS(r:Rdr)(w:List BY)(hr:Small r)(hw:2≤w.length):aG PG 135 1 [.ptr 0 0,vSs w] (rdH r) (vi (yV r w).2) (rdH (yV r w).1):=by
 obtain⟨i1,i2,i3,i4⟩:=hr.i64
 refine aG.mk (dP 49 1) aA [0,1,2,3,4] Tryz.func135 Z (by kernel_rfl) Z Z (by
  simp only[yV];split<;>rfl) ?_
 intro C x;refine x.quiet Z tR ay (by kernel_rfl) ?_
 refine x.zA Z ?_ Z (jT r.lev (w_ w 0) i1) Z Z ⟨⟨ah Z,Z,Z,Z,Z,tR⟩,Z,tR⟩ ?_
 ·simp only[ak];omega
 refine x.eY Z tR ?_;refine x.quiet Z tR ay (by kernel_rfl) ?_
 refine x.zA Z ?_ Z (jT r.lev (w_ w 1) i1) Z Z ⟨⟨ah Z,Z,Z,Z,Z,tR⟩,Z,tR⟩ ?_
 ·simp only[ak];omega
 refine x.eY Z tR ?_;refine x.cond Z tR (λh1=>?_) (λh1=>?_)
 ·have h1:(!decide (0≤bH r.lev (w_ w 0))||!decide (0≤bH r.lev (w_ w 1)))=true:=h1
  have h1:¬(0≤bH r.lev (w_ w 0)∧0≤bH r.lev (w_ w 1)):=λ⟨a,b⟩=>by rw[decide_eq_true a,decide_eq_true b] at h1;cases h1
  refine x.exit Z tR ?_;rw[yV,if_neg h1];exact⟨.inr Z,Z,⟨fB,aL,aL,aL,aL,tR⟩,Z⟩
 have h1:(!decide (0≤bH r.lev (w_ w 0))||!decide (0≤bH r.lev (w_ w 1)))=false:=h1
 simp only[ag2,Bool.not_eq_false',agT] at h1;have hfl:=hr.flows;refine x.exit Z (by simp only[ak,big];omega) ?_
 rw[yV,if_pos h1];refine⟨.inr Z,Z,⟨fB,aL,aL,aL,⟨Z,Z,by simp,λj hj=>?_⟩,tR⟩,Z⟩
 have:=iD (λt:Nat×Nat=>[D.int .i64 (t.1:Int),D.int .i64 (t.2:Int)]) 2 (λ_=>rfl) (0,0) r.flows ((bH r.lev (w_ w 0)).toNat,(bH r.lev (w_ w 1)).toNat) j hj
 refine Eq.trans ?_ this;show app _ _ (λ_=>[D.int .i64 (if 0 > bH r.lev (w_ w 0) then 0 else bH r.lev (w_ w 0)),D.int .i64 (if 0 > bH r.lev (w_ w 1) then 0 else bH r.lev (w_ w 1))]) j=_
 rw[YN h1.1,YN h1.2]
def mo(lev:List BY)(l:List Chan)(w:List BY):Int:=
 if 0≤gT l (w_ w 0) then 9 else if ¬0≤bH lev (w_ w 1) then 10 else if l.length=32 then 3 else 0
def kL(lev:List BY)(l:List Chan)(w:List BY):List Chan:=if mo lev l w=0 then l++[(w_ w 0,bH lev (w_ w 1))] else l
theorem NS(r:Rdr)(w:List BY)(hr:Small r)(hw:2≤w.length):aG PG 176 1 [.ptr 0 0,.ptr 0 2,vSs w] (rdH r) (vi (mo r.lev r.ins w)) (rdH {r with ins:=kL r.lev r.ins w}):=by
 obtain⟨i1,i2,i3,i4⟩:=hr.i64;refine aG.mk (dP 52 1) aA [0,1,2,3,4] Tryz.func176 Z (by kernel_rfl) Z Z Z ?_
 intro C x;refine x.quiet Z tR ay (by kernel_rfl) ?_
 refine x.zA Z ?_ Z (qd r.ins (w_ w 0) i2) Z Z ⟨av Z,Z,Z,tR⟩ ?_
 ·simp only[ak];omega
 refine x.eY Z tR ?_;refine x.cond Z tR (λh1=>?_) (λh1=>?_)
 ·have h1:0≤gT r.ins (w_ w 0):=agP h1
  refine x.exit Z tR ?_;rw[kL,mo,if_pos h1,if_neg (by decide)]
  exact⟨.inr Z,Z,⟨fB,aL,aL,aL,aL,tR⟩,Z⟩
 have h1:¬0≤gT r.ins (w_ w 0):=agQ h1;refine x.quiet Z tR ay (by kernel_rfl) ?_
 refine x.zA Z ?_ Z (jT r.lev (w_ w 1) i1) Z Z ⟨⟨ah Z,Z,Z,Z,Z,tR⟩,Z,tR⟩ ?_
 ·simp only[ak];omega
 refine x.eY Z tR ?_;refine x.cond Z tR (λh2=>?_) (λh2=>?_)
 ·have h2:(!decide (0≤bH r.lev (w_ w 1)))=true:=h2
  have h2:¬0≤bH r.lev (w_ w 1):=λa=>by rw[decide_eq_true a] at h2;cases h2
  refine x.exit Z tR ?_;rw[kL,mo,if_neg h1,if_pos h2,if_neg (by decide)]
  exact⟨.inr Z,Z,⟨fB,aL,aL,aL,aL,tR⟩,Z⟩
 have h2:(!decide (0≤bH r.lev (w_ w 1)))=false:=h2;have h2:0≤bH r.lev (w_ w 1):=by simpa using h2
 refine x.cond Z tR (λh3=>?_) (λh3=>?_)
 ·have h3:r.ins.length=32:=by have:=agP h3;omega
  refine x.exit Z tR ?_;rw[kL,mo,if_neg h1,if_neg (λh=>h h2),if_pos h3,if_neg (by decide)]
  exact⟨.inr Z,Z,⟨fB,aL,aL,aL,aL,tR⟩,Z⟩
 have h3:¬r.ins.length=32:=by have:=agQ h3;omega
 have hlen:=hr.ins;refine x.draw [] [0,1,4,7] [2,3] [5,6,8,9] [10,11,12] Z tR ay (by kernel_rfl) adA Z tR (λC1 x1=>?_)
 refine x1.back Z ?_ ?_
 ·simp only[ak];omega
 refine x1.back Z tR ?_;refine x1.back Z tR ?_;refine x1.back Z tR ?_;refine x.exit Z (by simp only[ak,big];omega) ?_
 rw[kL,mo,if_neg h1,if_neg (λh=>h h2),if_neg h3,if_pos rfl]
 refine⟨.inr Z,Z,⟨fB,aL,⟨Z,Z,by simp,λj hj=>?_⟩,aL,aL,tR⟩,Z⟩
 have:=iD (λt:Chan=>[D.str t.1,D.int .i64 t.2]) 2 (λ_=>rfl) bf r.ins (w_ w 0,bH r.lev (w_ w 1)) j hj
 refine Eq.trans ?_ this;show app _ _ (λ_=>[D.str (w_ w 0),D.int .i64 (if 0 > bH r.lev (w_ w 1) then 0 else bH r.lev (w_ w 1))]) j=_
 rw[if_neg (by omega)]
theorem NT(r:Rdr)(w:List BY)(hr:Small r)(hw:2≤w.length):aG PG 136 1 [.ptr 0 0,vSs w] (rdH r) (vi (mo r.lev r.ins w)) (rdH {r with ins:=kL r.lev r.ins w}):=by
 refine aG.mk (dP 12 1) aA [0,1,2,3,4] Tryz.func136 Z (by kernel_rfl) Z Z Z ?_
 intro C x;refine x.call [0,1,2,3,4] Z tR Z (NS r w hr hw) Z ⟨⟨Z,Z⟩,⟨Z,Z⟩,av Z,tR⟩ ⟨fB,aL,aL,aL,aL,tR⟩ ?_;exact x.exit Z tR ⟨.inr Z,Z,⟨fB,aL,aL,aL,aL,tR⟩,Z⟩
theorem NU(r:Rdr)(w:List BY)(hr:Small r)(hw:2≤w.length):aG PG 176 1 [.ptr 0 0,.ptr 0 3,vSs w] (rdH r) (vi (mo r.lev r.outs w)) (rdH {r with outs:=kL r.lev r.outs w}):=by
 obtain⟨i1,i2,i3,i4⟩:=hr.i64;refine aG.mk (dP 52 1) aA [0,1,2,3,4] Tryz.func176 Z (by kernel_rfl) Z Z Z ?_
 intro C x;refine x.quiet Z tR ay (by kernel_rfl) ?_
 refine x.zA Z ?_ Z (qd r.outs (w_ w 0) i3) Z Z ⟨av Z,Z,Z,tR⟩ ?_
 ·simp only[ak];omega
 refine x.eY Z tR ?_;refine x.cond Z tR (λh1=>?_) (λh1=>?_)
 ·have h1:0≤gT r.outs (w_ w 0):=agP h1
  refine x.exit Z tR ?_;rw[kL,mo,if_pos h1,if_neg (by decide)]
  exact⟨.inr Z,Z,⟨fB,aL,aL,aL,aL,tR⟩,Z⟩
 have h1:¬0≤gT r.outs (w_ w 0):=agQ h1;refine x.quiet Z tR ay (by kernel_rfl) ?_
 refine x.zA Z ?_ Z (jT r.lev (w_ w 1) i1) Z Z ⟨⟨ah Z,Z,Z,Z,Z,tR⟩,Z,tR⟩ ?_
 ·simp only[ak];omega
 refine x.eY Z tR ?_;refine x.cond Z tR (λh2=>?_) (λh2=>?_)
 ·have h2:(!decide (0≤bH r.lev (w_ w 1)))=true:=h2
  have h2:¬0≤bH r.lev (w_ w 1):=λa=>by rw[decide_eq_true a] at h2;cases h2
  refine x.exit Z tR ?_;rw[kL,mo,if_neg h1,if_pos h2,if_neg (by decide)]
  exact⟨.inr Z,Z,⟨fB,aL,aL,aL,aL,tR⟩,Z⟩
 have h2:(!decide (0≤bH r.lev (w_ w 1)))=false:=h2;have h2:0≤bH r.lev (w_ w 1):=by simpa using h2
 refine x.cond Z tR (λh3=>?_) (λh3=>?_)
 ·have h3:r.outs.length=32:=by have:=agP h3;omega
  refine x.exit Z tR ?_;rw[kL,mo,if_neg h1,if_neg (λh=>h h2),if_pos h3,if_neg (by decide)]
  exact⟨.inr Z,Z,⟨fB,aL,aL,aL,aL,tR⟩,Z⟩
 have h3:¬r.outs.length=32:=by have:=agQ h3;omega
 have hlen:=hr.outs;refine x.draw [] [0,1,4,7] [2,3] [5,6,8,9] [10,11,12] Z tR ay (by kernel_rfl) adA Z tR (λC1 x1=>?_)
 refine x1.back Z ?_ ?_
 ·simp only[ak];omega
 refine x1.back Z tR ?_;refine x1.back Z tR ?_;refine x1.back Z tR ?_;refine x.exit Z (by simp only[ak,big];omega) ?_
 rw[kL,mo,if_neg h1,if_neg (λh=>h h2),if_neg h3,if_pos rfl]
 refine⟨.inr Z,Z,⟨fB,aL,aL,⟨Z,Z,by simp,λj hj=>?_⟩,aL,tR⟩,Z⟩
 have:=iD (λt:Chan=>[D.str t.1,D.int .i64 t.2]) 2 (λ_=>rfl) bf r.outs (w_ w 0,bH r.lev (w_ w 1)) j hj
 refine Eq.trans ?_ this;show app _ _ (λ_=>[D.str (w_ w 0),D.int .i64 (if 0 > bH r.lev (w_ w 1) then 0 else bH r.lev (w_ w 1))]) j=_
 rw[if_neg (by omega)]
theorem K5(r:Rdr)(w:List BY)(hr:Small r)(hw:2≤w.length):aG PG 137 1 [.ptr 0 0,vSs w] (rdH r) (vi (mo r.lev r.outs w)) (rdH {r with outs:=kL r.lev r.outs w}):=by
 refine aG.mk (dP 12 1) aA [0,1,2,3,4] Tryz.func137 Z (by kernel_rfl) Z Z Z ?_
 intro C x;refine x.call [0,1,2,3,4] Z tR Z (NU r w hr hw) Z ⟨⟨Z,Z⟩,⟨Z,Z⟩,av Z,tR⟩ ⟨fB,aL,aL,aL,aL,tR⟩ ?_;exact x.exit Z tR ⟨.inr Z,Z,⟨fB,aL,aL,aL,aL,tR⟩,Z⟩
def qh(r:Rdr)(w:List BY):Rdr×Int:=
 if 0<r.depth then (r,9) else if (fQ (w_ w 0)).1<1∨64<(fQ (w_ w 0)).1 then (r,12) else ({r with depth:=(fQ (w_ w 0)).1},0)
theorem NV(r:Rdr)(w:List BY)(hr:Small r)(hw:1≤w.length):aG PG 138 1 [.ptr 0 0,vSs w] (rdH r) (vi (qh r w).2) (rdH (qh r w).1):=by
 refine aG.mk (dP 31 1) aA [0,1,2,3,4] Tryz.func138 Z (by kernel_rfl) Z Z (by
  simp only[qh];split<;>(try split)<;>rfl) ?_
 intro C x;refine x.cond Z tR (λh1=>?_) (λh1=>?_)
 ·have h1:0<r.depth:=agP h1
  refine x.exit Z tR ?_;rw[qh,if_pos h1];exact⟨.inr Z,Z,⟨fB,aL,aL,aL,aL,tR⟩,Z⟩
 have h1:¬0<r.depth:=agQ h1;refine x.pure Z ?_ Z (nS (w_ w 0)) ⟨Z,tR⟩ ?_
 ·simp only[ak];omega
 refine x.cond Z tR (λh2=>?_) (λh2=>?_)
 ·have h2:(decide ((fQ (w_ w 0)).1<1)||decide (64<(fQ (w_ w 0)).1))=true:=h2
  simp only[Bool.or_eq_true,agT] at h2;refine x.exit Z tR ?_;rw[qh,if_neg h1,if_pos h2];exact⟨.inr Z,Z,⟨fB,aL,aL,aL,aL,tR⟩,Z⟩
 ·have h2:(decide ((fQ (w_ w 0)).1<1)||decide (64<(fQ (w_ w 0)).1))=false:=h2
  have h2:¬((fQ (w_ w 0)).1<1∨64<(fQ (w_ w 0)).1):=by
   simp only[ag2,agX] at h2;omega
  refine x.exit Z tR ?_;rw[qh,if_neg h1,if_neg h2];exact⟨.inr Z,Z,⟨fB,aL,aL,aL,aL,tR⟩,Z⟩
def uL:List UInt8:=[108,101,118,101,108]
def Bb:List UInt8:=[102,108,111,119]
def uM:List UInt8:=[105,110,112,117,116]
def oL:List UInt8:=[111,117,116,112,117,116]
def ku:List UInt8:=[100,101,112,116,104]
abbrev kdV(f:Nat)(n:Int):V:=.agg [.fn f [],vi n]
def G5:List (Key×V):=[(.inl [108,101,118,101,108],kdV 134 1),(.inl [102,108,111,119],kdV 135 2),(.inl [105,110,112,117,116],kdV 136 2),(.inl [111,117,116,112,117,116],kdV 137 2),(.inl [100,101,112,116,104],kdV 138 1)]
theorem G6:Pure PG 83 [] (.own 0) [.tbl G5]:=by
 refine aG.mk (cfg 8) aA [0] Tryz.func83 Z (by kernel_rfl) Z Z Z ?_
 intro C x;refine x.exit Z ?_ ?_
 ·simp only[ak,tL]
  decide
 ·exact⟨.inr Z,Z,⟨⟨Z,Z,Z,Z,Z,Z,Z,Z,Z,Z,tR⟩,tR⟩,Z⟩
def okW(w0 s:BY):Bool:=!((decide (w0.data.toList=ku)&&!(fQ s).2)||(!decide (w0.data.toList=ku)&&!jU s))
theorem VH(r:Rdr)(w:List BY)(hw:1≤w.length)(hk:dV (.inl (w_ w 0).data.toList) G5=none):aG PG 39 1 [.ptr 0 0,vSs w] (rdH r) (vi 8) (rdH r):=by
 refine aG.mk (dP 64 1) aA [0,1,2,3,4] Tryz.func39 Z (by kernel_rfl) Z Z Z ?_
 intro C x
 refine x.rE [] [1,2,3] (mkO [(0,[]),(4,[0]),(5,[]),(6,[4,5])] 5 [])
  ⟨[(0,.ptr 0 0),(1,vSs w),(5,.ptr 6 0)],[(6,.box [.d .nf,vi 0])],7⟩ Z tR ay (by kernel_rfl) Ret.bG Z ?_ (λC2 x2=>?_) ?_
 ·simp only[ak];omega
 ·repeat' first
   | exact True.intro
   | refine And.intro ?_ ?_
   | refine x2.back rfl tR ?_
   | refine x2.call [] rfl tR rfl G6 rfl tR tR (x2.back rfl tR ?_)
   | refine x2.look rfl tR rfl (adl hk ?_)
   | exact .inl ⟨⟨⟨rfl,rfl⟩,av rfl,⟨rfl,rfl⟩,tR⟩,⟨⟨tR,rfl,tR⟩,tR⟩,rfl⟩
   | exact .inr ⟨[0,1,2,3,4,6,5],rfl,⟨⟨rfl,rfl⟩,av rfl,⟨rfl,rfl⟩,tR⟩,⟨⟨tR,rfl,tR⟩,tR⟩,rfl⟩
 refine x.cond rfl (by simp only[ak];intro h;cases h) (λh1=>?_) (λh1=>by cases h1)
 exact x.exit Z tR ⟨.inr Z,Z,⟨fB,aL,aL,aL,aL,tR⟩,Z⟩
def zK(w:List BY):Bool:=w.tail.all (okW (w_ w 0))
theorem YO(w:List BY)(i:Nat):w.getD (i+1) .empty=w.tail.getD i .empty:=by
 cases w<;>simp
theorem Td(w:List BY):VEq (.d (.sl 1 ((w.length:Int).toNat-Int.toNat 1) λk=>(λi=>[D.str (w.getD i .empty)]) (Int.toNat 1+k))) (vSs w.tail):=
 ⟨by rw[List.length_tail,ag1];rfl,λ_=>rfl,λi _=>by
  show [D.str (w.getD (1+i) .empty)]=[D.str (w.tail.getD i .empty)]
  rw[Nat.add_comm,YO]⟩
theorem sO(r r':Rdr)(e:Int)(w:List BY)(hw:1≤w.length)(hwl:aj (w.length:Int))(hsz:∀s∈w,s.size≤9223372036854775807)(f:Nat)(n:Int)(hn:1≤n∧n≤2)(hk:dV (.inl (w_ w 0).data.toList) G5=some (kdV f n))
  (hdo:((w.length:Int)=n+1∧zK w=true)->aG PG f 1 [.ptr 0 0,vSs w.tail] (rdH r) (vi e) (rdH r')) :
  aG PG 39 1 [.ptr 0 0,vSs w] (rdH r) (vi (if (w.length:Int)=n+1∧zK w=true then e else 8)) (rdH (if (w.length:Int)=n+1∧zK w=true then r' else r)):=by
 refine aG.mk (dP 64 1) aA [0,1,2,3,4] Tryz.func39 Z (by kernel_rfl) Z Z (by split<;>rfl) ?_
 intro C x;unfold aj at hwl
 refine x.rE [] [1,2,3] (mkO [(0,[]),(4,[0]),(5,[]),(6,[4,5])] 5 [])
  ⟨[(0,.ptr 0 0),(1,vSs w),(5,.ptr 6 0)],[(6,.box [.fn f [],vi n])],7⟩ Z tR ay (by kernel_rfl) Ret.bG Z ?_ (λC2 x2=>?_) ?_
 ·simp only[ak];omega
 ·repeat' first
    | exact True.intro
    | refine And.intro ?_ ?_
    | refine x2.back rfl tR ?_
    | refine x2.call [] rfl tR rfl G6 rfl tR tR (x2.back rfl tR ?_)
    | refine x2.look rfl tR rfl (adk hk ?_)
    | exact .inl ⟨⟨⟨rfl,rfl⟩,av rfl,⟨rfl,rfl⟩,tR⟩,⟨⟨rfl,rfl,tR⟩,tR⟩,rfl⟩
    | exact .inr ⟨[0,1,2,3,4,6,5],rfl,⟨⟨rfl,rfl⟩,av rfl,⟨rfl,rfl⟩,tR⟩,⟨⟨rfl,rfl,tR⟩,tR⟩,rfl⟩
 refine x.cond Z (by simp only[ak,aj];intro _;omega) (λh1=>?_) (λh1=>?_)
 ·have h1:(false||!decide ((w.length:Int)=n+1))=true:=h1
  have h1:¬(w.length:Int)=n+1:=by simpa using h1
  rw[if_neg (λh=>h1 h.1),if_neg (λh=>h1 h.1)]
  exact x.exit Z tR ⟨.inr Z,Z,⟨fB,aL,aL,aL,aL,tR⟩,Z⟩
 have h1:(false||!decide ((w.length:Int)=n+1))=false:=h1
 have h1:(w.length:Int)=n+1:=by simpa using h1
 have htl:w.tail.length=w.length-1:=List.length_tail;refine x.loop (α:={i:Nat // i≤w.tail.length∧∀j,j<i->okW (w_ w 0) (w.tail.getD j .empty)=true}) (λy=>⟨[(0,.ptr 0 0),(1,vSs w),(5,.ptr 6 0),(27,vSs w.tail),(28,vi (w.tail.length:Int)),(29,vi (y.1:Int))],[(0,NQ r.depth),(1,YL r.lev),(2,I4 r.ins),(3,I4 r.outs),(4,YM r.flows),(6,.box [.fn f [],vi n])],7⟩) (λy=>w.tail.length-y.1) ⟨0,by omega,λj hj=>by omega⟩ Z ?_ ?_ (λy=>?_)
 ·simp only[ak];omega
 ·refine⟨⟨⟨Z,Z⟩,av Z,⟨Z,Z⟩,Td w,(show aI (vi (((w.length:Int).toNat-Int.toNat 1:Nat):Int)) (vi (w.tail.length:Int)) by rw[List.length_tail,ag1];rfl),Z,tR⟩,⟨⟨Z,tR,Z,Z,Z,Z,tR⟩,⟨Z,Z,Z,λ_ _=>rfl⟩,⟨Z,Z,Z,λ_ _=>rfl⟩,⟨Z,Z,Z,λ_ _=>rfl⟩,⟨Z,Z,Z,λ_ _=>rfl⟩,⟨Z,Z,tR⟩,tR⟩,Z⟩
 obtain⟨i,hi,hok⟩:=y;change Go C _ ⟨[(0,.ptr 0 0),(1,vSs w),(5,.ptr 6 0),(27,vSs w.tail),(28,vi (w.tail.length:Int)),(29,vi (i:Int))],[(0,NQ r.depth),(1,YL r.lev),(2,I4 r.ins),(3,I4 r.outs),(4,YM r.flows),(6,.box [.fn f [],vi n])],7⟩ _;refine x.cond Z tR (λh2=>?_) (λh2=>?_)
 ·have h2:i<w.tail.length:=by have:=agP h2;omega
  have hmem:w.tail.getD i .empty∈w:=by
   rw[agM,agO h2];exact List.mem_of_mem_tail (List.getElem_mem h2)
  refine x.pure Z ?_ Z (nS (w.tail.getD i .empty)) ⟨Z,tR⟩ ?_
  ·simp only[ak];omega
  refine x.gG Z ?_ Z (λ_ _=>zH (w.tail.getD i .empty) (hsz _ hmem)) Z ⟨Z,tR⟩ ?_
  ·simp only[ak]
   exact⟨by omega,λ_=>by omega⟩
  refine x.cond Z tR (λh3=>?_) (λh3=>?_)
  ·have h3:((decide ((w_ w 0).data.toList=ku)&&!(fQ (w.tail.getD i .empty)).2)||(!decide ((w_ w 0).data.toList=ku)&&!jU (w.tail.getD i .empty)))=true:=h3
   have hno:¬((w.length:Int)=n+1∧zK w=true):=λ⟨_,h⟩=>by
    have:=List.all_eq_true.1 h _ (show w.tail.getD i .empty∈w.tail by rw[agM,agO h2];exact List.getElem_mem h2)
    rw[okW,h3] at this
    cases this
   rw[if_neg hno,if_neg hno];exact x.exit Z tR ⟨.inr Z,Z,⟨fB,aL,aL,aL,aL,tR⟩,Z⟩
  ·have h3:((decide ((w_ w 0).data.toList=ku)&&!(fQ (w.tail.getD i .empty)).2)||(!decide ((w_ w 0).data.toList=ku)&&!jU (w.tail.getD i .empty)))=false:=h3
   refine x.back Z ?_ ⟨⟨i+1,by omega,λj hj=>?_⟩,by show w.tail.length-(i+1)<w.tail.length-i;omega,⟨⟨Z,Z⟩,av Z,⟨Z,Z⟩,av Z,Z,(show aI (vi ((i:Int)+1)) (vi ((i+1:Nat):Int)) by rw[agY];rfl),tR⟩,⟨⟨Z,tR,Z,Z,Z,Z,tR⟩,⟨Z,Z,Z,λ_ _=>rfl⟩,⟨Z,Z,Z,λ_ _=>rfl⟩,⟨Z,Z,Z,λ_ _=>rfl⟩,⟨Z,Z,Z,λ_ _=>rfl⟩,⟨Z,Z,tR⟩,tR⟩,Z⟩
   ·simp only[ak,aj];omega
   ·by_cases e:j=i
    ·rw[e,okW,h3];rfl
    ·exact hok j (by omega)
 ·have h2:i=w.tail.length:=by have:=agQ h2;omega
  have hall:zK w=true:=by
   unfold zK;rw[List.all_eq_true];intro s hs;obtain⟨k,hk,rfl⟩:=List.getElem_of_mem hs;have:=hok k (by omega)
   rwa [agM,agO hk] at this
  rw[if_pos ⟨h1,hall⟩,if_pos ⟨h1,hall⟩];refine x.plan [2,3] [0,1,4] [5,6] Z tR ay (by kernel_rfl) Ret.bG ?_
  refine x.eY Z ?_ ?_
  ·simp only[ak];omega
  refine x.call [0,1,2,3,4] Z tR Z (hdo ⟨h1,hall⟩) Z ⟨⟨Z,Z⟩,Td w,tR⟩ ⟨fB,aL,aL,aL,aL,tR⟩ ?_;exact x.exit Z tR ⟨.inr Z,Z,⟨fB,aL,aL,aL,aL,tR⟩,Z⟩
def vw(r:Rdr)(w:List BY)(n:Nat)(d:Rdr×Int):Rdr×Int:=if w.length=n+1∧zK w=true then d else (r,8)
def nW(r:Rdr)(w:List BY):Rdr×Int:=
 if (w_ w 0).data.toList=uL then vw r w 1 (qg r w.tail)
 else if (w_ w 0).data.toList=Bb then vw r w 2 (yV r w.tail)
 else if (w_ w 0).data.toList=uM then vw r w 2 ({r with ins:=kL r.lev r.ins w.tail},mo r.lev r.ins w.tail)
 else if (w_ w 0).data.toList=oL then vw r w 2 ({r with outs:=kL r.lev r.outs w.tail},mo r.lev r.outs w.tail)
 else if (w_ w 0).data.toList=ku then vw r w 1 (qh r w.tail)
 else (r,8)
theorem VI(k:List UInt8):dV (.inl k) G5 =
  if k=uL then some (kdV 134 1) else if k=Bb then some (kdV 135 2) else if k=uM then some (kdV 136 2) else if k=oL then some (kdV 137 2) else if k=ku then some (kdV 138 1) else none:=by
 unfold G5;simp only[dV,qJ,uL,Bb,uM,oL,ku];by_cases h1:k=[108,101,118,101,108]
 ·simp [h1]
 by_cases h2:k=[102,108,111,119]
 ·simp [h2]
 by_cases h3:k=[105,110,112,117,116]
 ·simp [h3]
 by_cases h4:k=[111,117,116,112,117,116]
 ·simp [h4]
 by_cases h5:k=[100,101,112,116,104]
 ·simp [h5]
 simp [h1,h2,h3,h4,h5]
theorem Bc{r:Rdr}{w:List BY}{n:Nat}{d:Rdr×Int}{f:Nat}
  (h:aG PG f 1 [.ptr 0 0,vSs w] (rdH r) (vi (if (w.length:Int)=(n:Int)+1∧zK w=true then d.2 else 8)) (rdH (if (w.length:Int)=(n:Int)+1∧zK w=true then d.1 else r))) :
  aG PG f 1 [.ptr 0 0,vSs w] (rdH r) (vi (vw r w n d).2) (rdH (vw r w n d).1):=by
 unfold vw
 have e:((w.length:Int)=(n:Int)+1∧zK w=true)↔(w.length=n+1∧zK w=true):=by
  constructor
  ·rintro ⟨a,b⟩;exact⟨by omega,b⟩
  ·rintro ⟨a,b⟩;exact⟨by omega,b⟩
 by_cases hc:w.length=n+1∧zK w=true
 ·rw[if_pos (e.2 hc),if_pos (e.2 hc)] at h
  rw[if_pos hc];exact h
 ·rw[if_neg (λx=>hc (e.1 x)),if_neg (λx=>hc (e.1 x))] at h
  rw[if_neg hc];exact h
theorem VJ(r:Rdr)(hr:Small r)(w:List BY)(hw:1≤w.length)(hwl:aj (w.length:Int))(hsz:∀s∈w,s.size≤9223372036854775807):aG PG 39 1 [.ptr 0 0,vSs w] (rdH r) (vi (nW r w).2) (rdH (nW r w).1):=by
 have htl:w.tail.length=w.length-1:=List.length_tail;have hk:=VI (w_ w 0).data.toList;unfold nW;by_cases e1:(w_ w 0).data.toList=uL
 ·rw[if_pos e1] at hk ⊢
  exact Bc (sO r (qg r w.tail).1 (qg r w.tail).2 w hw hwl hsz _ _ (by omega) hk λhc=>NR r w.tail hr (by omega))
 rw[if_neg e1] at hk ⊢;by_cases e2:(w_ w 0).data.toList=Bb
 ·rw[if_pos e2] at hk ⊢
  exact Bc (sO r (yV r w.tail).1 (yV r w.tail).2 w hw hwl hsz _ _ (by omega) hk λhc=>QS r w.tail hr (by omega))
 rw[if_neg e2] at hk ⊢;by_cases e3:(w_ w 0).data.toList=uM
 ·rw[if_pos e3] at hk ⊢
  exact Bc (sO r {r with ins:=kL r.lev r.ins w.tail} (mo r.lev r.ins w.tail) w hw hwl hsz _ _ (by omega) hk λhc=>NT r w.tail hr (by omega))
 rw[if_neg e3] at hk ⊢;by_cases e4:(w_ w 0).data.toList=oL
 ·rw[if_pos e4] at hk ⊢
  exact Bc (sO r {r with outs:=kL r.lev r.outs w.tail} (mo r.lev r.outs w.tail) w hw hwl hsz _ _ (by omega) hk λhc=>K5 r w.tail hr (by omega))
 rw[if_neg e4] at hk ⊢;by_cases e5:(w_ w 0).data.toList=ku
 ·rw[if_pos e5] at hk ⊢
  exact Bc (sO r (qh r w.tail).1 (qh r w.tail).2 w hw hwl hsz _ _ (by omega) hk λhc=>NV r w.tail hr (by omega))
 rw[if_neg e5] at hk ⊢;exact VH r w hw hk
structure Kept(r:Rdr)(n:Nat):Prop extends Small r where
 count:r.flows.length≤n
 flow:∀p∈r.flows,p.1<r.lev.length∧p.2<r.lev.length
theorem Bd{l:List BY}{s:BY}(h:0≤bH l s):(bH l s).toNat<l.length:=by
 unfold bH at *
 rcases zG (p:=λi=>decide ((l.getD i .empty).data.toList=s.data.toList)) (n:=l.length) (i:=0) with e | e<;>omega
theorem JO{r:Rdr}{n:Nat}(h:Kept r n)(hn:n<100000)(w:List BY):Kept (nW r w).1 (n+1):=by
 obtain⟨⟨h1,h2,h3,h4,h5⟩,h6,h7⟩:=h;have same:Kept r (n+1):=⟨⟨h1,h2,h3,h4,h5⟩,by omega,h7⟩
 have pick:∀{k d},Kept d.1 (n+1)->Kept (vw r w k d).1 (n+1):=λ{k d} hd=>by
  unfold vw;split
  ·exact hd
  ·exact same
 have chan:∀l:List Chan,l.length≤32->(kL r.lev l w.tail).length≤32:=λl hl=>by
  unfold kL;split
  ·rename_i h0
   unfold mo at h0;split at h0
   ·omega
   ·split at h0
    ·omega
    ·split at h0
     ·omega
     ·simp;omega
  ·exact hl
 unfold nW;split
 ·refine pick ?_
  unfold qg;split
  ·exact same
  ·split
   ·exact same
   ·refine⟨⟨by simp;omega,h2,h3,h4,h5⟩,Nat.le_succ_of_le h6,λp hp=>?_⟩
    have:=h7 p hp;simp;omega
 split
 ·refine pick ?_
  unfold yV;split
  ·rename_i hc
   refine⟨⟨h1,h2,h3,by simp;omega,h5⟩,by simp;omega,λp hp=>?_⟩
   rcases List.mem_append.1 hp with hp | hp
   ·exact h7 p hp
   ·rw[List.mem_singleton.1 hp]
    exact⟨Bd hc.1,Bd hc.2⟩
  ·exact same
 split
 ·exact pick ⟨⟨h1,chan _ h2,h3,h4,h5⟩,Nat.le_succ_of_le h6,h7⟩
 split
 ·exact pick ⟨⟨h1,h2,chan _ h3,h4,h5⟩,Nat.le_succ_of_le h6,h7⟩
 split
 ·refine pick ?_
  unfold qh;split
  ·exact same
  ·split
   ·exact same
   ·rename_i hd
    exact⟨⟨h1,h2,h3,h4,by unfold aj;show -9223372036854775808≤(fQ _).1∧(fQ _).1≤_;omega⟩,Nat.le_succ_of_le h6,h7⟩
 ·exact same
theorem QT(c:Int):Pure PG 38 [.d (.int .i32 c)] (vb (decide (c=32)||decide (c=9))) []:=by
 refine aG.mk (cfg 9) aA [] Tryz.func38 Z (by kernel_rfl) Z Z Z ?_
 intro C x;exact x.exit Z tR ⟨.inr Z,Z,tR,Z⟩
def nl:BY:=⟨#[10]⟩
def dL(s:BY):List BY:=Lib.splitB nl 0 (Lib.countB s nl) s
theorem JQ{F:Nat->Prop}{w:World}(h:jG PG.env F w):∃m,w.cell? ⟨0,0,none⟩=some (.int .i64 m):=
 (h 0 0 (λ_=>undef) (by unfold PG;simp)).2.2 Z
theorem JR(s:BY):(dL s).length=Lib.countB s nl+1:=Lib.splitB_all nl (by decide) 0 _ s Z
theorem QU(s:BY)(hs:s.size<4294967281):Pure PG 36 [vs s,vs nl] (vSs (dL s)) []:=by
 refine Pure.adi (vals:=[.string s,.string nl]) (eT Tryz.func36 (by kernel_rfl) (by kernel_rfl)) Z Z Z λw F hE=>?_
 obtain⟨m,hm⟩:=JQ hE;refine (Tryz.strings_Split s nl m w hs hm (by decide)).mono ?_
 rintro e w' ⟨rfl,rfl⟩
 refine⟨_,Z,(Go.RowKit.Below.refl _ w).alloc (Nat.le_refl _) _,?_⟩;rw[←JR];have hnew:(w.alloc (.cells ((dL s).map Value.string).toArray 9)).heap[w.heap.size]?=some (.cells ((dL s).map Value.string).toArray 9):=World.alloc_heap_new w _;refine .sl 1 _ _ w.heap.size 0 _ (λi _=>.string ((dL s).getD i .empty)) ⟨Nat.le_refl _,by simp⟩ (Nat.le_refl _) (λi j hi hj=>?_) (λ_ _=>rfl) (λi j d hi hd=>?_)
 ·unfold World.cell?
  show (match (w.alloc (.cells ((dL s).map Value.string).toArray 9)).heap[w.heap.size]? with | some (.cells c _ _)=>_ | _=>_)=_
  rw[hnew];obtain rfl:j=0:=by omega
  simp [agO hi,agM]
 ·cases j with
  | zero=>simp at hd;subst hd;exact .str _
  | succ j=>simp at hd
theorem index_spec(s sub:BY)(hs:s.size<4294967281):Pure PG 40 [vs s,vs sub] (vi (Lib.index s.data.toList sub.data.toList)) []:=by
 refine Pure.X0 (vals:=[.string s,.string sub]) (eT Tryz.func40 (by kernel_rfl) (by kernel_rfl)) Z Z Z Z λw F hE=>?_
 obtain⟨m,hm⟩:=JQ hE;refine (Tryz.strings_Index s sub m w hs hm).mono ?_
 rintro e w' ⟨rfl,rfl⟩
 exact⟨Z,Go.RowKit.Below.refl _ _⟩
def adC:Go.Shelf.Ren:=⟨fun | 229=>37 | n=>n,fun | 0=>0 | 3=>3 | 4=>4 | 9=>9 | 21=>21 | 31=>22 | 40=>97 | 152=>168 | 154=>170 | n=>n,fun | n=>n⟩
theorem lays229:Go.Proofs.Lays.n229 Tryz.prog adC:={
 mixed:=by kernel_rfl
 f229:=Tryz.func37.trans (congrArg some (by kernel_rfl))
 t0:=Tryz.underlying0
 a0:=Tryz.isAgg0
 z0:=Tryz.sizeOf0
 v0:=Tryz.zeroValue0
 t3:=Tryz.underlying3
 a3:=Tryz.isAgg3
 z3:=Tryz.sizeOf3
 v3:=Tryz.zeroValue3
 t4:=Tryz.underlying4
 a4:=Tryz.isAgg4
 z4:=Tryz.sizeOf4
 v4:=Tryz.zeroValue4
 t9:=Tryz.underlying9
 a9:=Tryz.isAgg9
 z9:=Tryz.sizeOf9
 v9:=Tryz.zeroValue9
 t21:=Tryz.underlying21
 a21:=Tryz.isAgg21
 z21:=Tryz.sizeOf21
 v21:=Tryz.zeroValue21
 t31:=Tryz.underlying22
 a31:=Tryz.isAgg22
 z31:=Tryz.sizeOf22
 v31:=Tryz.zeroValue22
 t40:=Tryz.underlying97
 a40:=Tryz.isAgg97
 z40:=Tryz.sizeOf97
 v40:=Tryz.zeroValue97
 t152:=Tryz.underlying168
 a152:=Tryz.isAgg168
 z152:=Tryz.sizeOf168
 v152:=Tryz.zeroValue168
 t154:=Tryz.underlying170
 a154:=Tryz.isAgg170
 z154:=Tryz.sizeOf170
 v154:=Tryz.zeroValue170}
def K6(c:Nat):Bool:=decide ((c:Int)=32)||decide ((c:Int)=9)
def bA(s:BY):List BY:=Lib.goFieldsP K6 s
theorem NW(w:World)(F:Nat->Prop)(hF:∀k,F k->k<w.heap.size)(hE:jG PG.env F w):PredGrows Tryz.prog 38 #[] K6 w:=by
 intro W x _ hb;obtain⟨_,_,_,_,_,hc⟩:=QT (x:Int);have hE':jG PG.env F W:=hE.mono (λ_ h=>h) λk hk=>hb.block k (hF k hk)
 refine (hc W F (λ_=>.bool true) [.int .i32 (x:Int)] (λk hk=>Nat.lt_of_lt_of_le (hF k hk) hb.size) hE' ⟨λi c hc=>by simp at hc,λi j b hi=>absurd hi (agV _),λi b hi=>absurd hi (agV _)⟩ ⟨RD.int _ _,tR⟩).mono ?_
 intro e w' hp;refine⟨?_,hp.below⟩;obtain⟨v,ρ',F',rfl,_,_,_,_,_,hr,_⟩:=hp
 cases (show RD F' w' (.bool _) v from hr)
 rfl
theorem NY(s:BY)(hs:s.size≤4294967296):Pure PG 37 [vs s,.fn 38 []] (vSs (bA s)) []:=by
 refine⟨eT Tryz.func37 (by kernel_rfl) (by kernel_rfl),Z,Z,Nat.le_refl _,Nat.le_refl _,λw F ρ ys hF hE hH hargs=>?_⟩
 match ys,hargs with
 | [y1,y2],⟨h1,⟨cs,h2,hcs⟩,_⟩=>
  cases (show RD F w (.str s) y1 from h1)
  have hcs0:cs=[]:=by cases cs with
   | nil=>rfl
   | cons _ _=>exact hcs.elim
  subst hcs0;subst h2;have hcall:eO Tryz.prog 38:=eT Tryz.func38 (by kernel_rfl) (by kernel_rfl)
  refine (Any.strings_FieldsFunc_grows lays229 38 #[] (λargs w=>AB hcall args w) K6 s w hs (NW w F hF hE) (by kernel_rfl) (by kernel_rfl)).mono ?_
  rintro e w' ⟨A,rfl,hA,hown,hb⟩
  have hAlt:0<(bA s).length->A<w'.heap.size:=λh0=>by
   rcases hown.2 with⟨h,_⟩ | ⟨g,cap,cur,h3,_,h4,_⟩
   ·simp at h
   ·simp only[Value.slice.injEq,agR,Addr.mk.injEq] at h3
    obtain⟨⟨rfl,_⟩,_⟩:=h3;exact (Array.getElem?_eq_some_iff.1 h4).1
  have hown0:w'.ownsRow 0 9 1 (.slice (some ⟨A,0,none⟩) (bA s).length (bA s).length) (bA s).length ((bA s).map Value.string):=by
   refine⟨hown.1,?_⟩
   rcases hown.2 with h | ⟨g,cap,cur,h3,_,h4⟩
   ·exact .inl h
   ·exact .inr ⟨g,cap,cur,h3,Nat.zero_le _,h4⟩
  obtain⟨b1,b2,b3,b4,b5⟩:=hb;by_cases h0:0<(bA s).length
  ·refine⟨_,ρ,λk=>F k∨(w.heap.size≤k∧k<w'.heap.size),Z,⟨b1,b2,b3,b4,λk hk _=>b5 k hk⟩,λ_ _=>rfl,λ_ hk=>.inl hk,λk hk=>?_,λk hk=>?_,AJ (ρ:=ρ) (F:=F) (λ_=>.inl) (λb hb=>?_) hown0 (λi hi=>⟨Z,λj d hd=>?_⟩),⟨λi c hi=>by simp at hi,λi j b hi=>absurd hi (agV _),λi b hi=>absurd hi (agV _)⟩,λi b hi=>absurd hi (agV _)⟩
   ·rcases hk with hk | hk
    ·exact Nat.lt_of_lt_of_le (hF k hk) b4
    ·exact hk.2
   ·rcases hk with hk | hk
    ·exact .inl hk
    ·exact .inr (.inl hk.1)
   ·simp only[blk,agR] at hb
    subst hb;exact .inr ⟨hA,hAlt h0⟩
   ·cases j with
    | succ j=>simp at hd
    | zero=>
     simp only[List.getElem?_cons_zero,agR] at hd;subst hd;refine⟨.string ((bA s).getD i .empty),?_,.str _⟩;simp [agO hi,agM]
  ·have h1:(bA s).length=0:=by omega
   refine⟨_,ρ,F,Z,⟨b1,b2,b3,b4,λk hk _=>b5 k hk⟩,λ_ _=>rfl,λ_ hk=>hk,λk hk=>Nat.lt_of_lt_of_le (hF k hk) b4,λ_ hk=>.inl hk,?_,⟨λi c hi=>by simp at hi,λi j b hi=>absurd hi (agV _),λi b hi=>absurd hi (agV _)⟩,λi b hi=>absurd hi (agV _)⟩
   show RD F w' (.sl 1 (bA s).length _) (.slice _ (bA s).length (bA s).length);rw[h1];exact .emp _ _ _ _
 | [],h=>exact h.elim
 | [_],h=>exact h.2.elim
 | _::_::_::_,h=>exact h.2.2.elim
theorem wQ(p:Nat->Bool)(s:BY):∀(n pos:Nat) (st:Option Nat) (acc:List (Nat×Nat)),(∀x∈acc,x.1<x.2∧x.2≤s.size)->(∀a,st=some a->a<pos∧a<s.size)->
  (∀x∈(Lib.spansFromP p s n pos st acc).1,x.1<x.2∧x.2≤s.size)∧(∀a,(Lib.spansFromP p s n pos st acc).2=some a->a<s.size)∧(Lib.spansFromP p s n pos st acc).1.length≤acc.length+n
 | 0,pos,st,acc,h1,h2=>⟨h1,λa ha=>(h2 a ha).2,Nat.le_refl _⟩
 | n+1,pos,st,acc,h1,h2=>by
  rw[Lib.spansFromP.eq_def];simp only;have hd:=(aY s pos).1;split
  ·rename_i hp
   split
   ·cases st with
    | none=>
     obtain⟨a,b,c⟩:=wQ p s n (pos+(Utf8.decode s pos).2) none acc h1 (λa ha=>by cases ha)
     exact⟨a,b,Nat.le_trans c (by omega)⟩
    | some a0=>
     obtain⟨q1,q2⟩:=h2 a0 Z
     obtain⟨a,b,c⟩:=wQ p s n (pos+(Utf8.decode s pos).2) none (acc++[(a0,pos)]) (λx hx=>by
      rcases List.mem_append.1 hx with hx | hx
      ·exact h1 x hx
      ·rw[List.mem_singleton.1 hx];exact⟨q1,by show pos≤s.size;omega⟩) (λa ha=>by cases ha)
     exact⟨a,b,Nat.le_trans c (by simp;omega)⟩
   ·cases st with
    | none=>
     obtain⟨a,b,c⟩:=wQ p s n (pos+(Utf8.decode s pos).2) (some pos) acc h1 (λa ha=>by cases ha;omega)
     exact⟨a,b,Nat.le_trans c (by omega)⟩
    | some a0=>
     obtain⟨q1,q2⟩:=h2 a0 Z;obtain⟨a,b,c⟩:=wQ p s n (pos+(Utf8.decode s pos).2) (some a0) acc h1 (λa ha=>by cases ha;omega)
     exact⟨a,b,Nat.le_trans c (by omega)⟩
  ·exact⟨h1,λa ha=>(h2 a ha).2,Nat.le_add_right _ _⟩
theorem VK(s:BY):(∀f∈bA s,0<f.size∧f.size≤s.size)∧(bA s).length≤s.size+1:=by
 unfold bA Lib.goFieldsP Lib.spansOfP Lib.closeSpans;obtain⟨a,b,c⟩:=wQ K6 s s.size 0 none [] (λx hx=>by cases hx) (λa ha=>by cases ha)
 have ok:∀x:Nat×Nat,x.1<x.2∧x.2≤s.size->0<(s.extract x.1 x.2).size∧(s.extract x.1 x.2).size≤s.size:=λx hx=>by
  rw[ByteArray.size_extract];omega
 split
 ·rename_i q hq
  refine⟨λf hf=>?_,by simp at c ⊢;omega⟩
  obtain⟨x,hx,rfl⟩:=List.mem_map.1 hf
  rcases List.mem_append.1 hx with hx | hx
  ·exact ok x (a x hx)
  ·rw[List.mem_singleton.1 hx];exact ok _ ⟨b q hq,Nat.le_refl _⟩
 ·refine⟨λf hf=>?_,by simp at c ⊢;omega⟩
  obtain⟨x,hx,rfl⟩:=List.mem_map.1 hf;exact ok x (a x hx)
theorem index_le:∀(l sub:List UInt8),Lib.index l sub≤(l.length:Int)
 | [],sub=>by unfold Lib.index;split<;>decide
 | b::l,sub=>by
  have:=index_le l sub;unfold Lib.index;split
  ·simp;omega
  ·split
   ·simp;omega
   ·simp;omega
theorem El(sep:BY):∀(k:Nat) (s:BY),∀l∈Lib.splitB sep 0 k s,l.size≤s.size
 | 0,s,l,h=>by simp [Lib.splitB] at h;rw[h];exact Nat.le_refl _
 | k+1,s,l,h=>by
  unfold Lib.splitB at h;split at h
  ·simp at h;rw[h];exact Nat.le_refl _
  ·rcases List.mem_cons.1 h with rfl | h
   ·rw[ByteArray.size_extract];omega
   ·have:=El sep k _ l h
    rw[ByteArray.size_extract] at this;omega
theorem NZ(s:BY):(∀l∈dL s,l.size≤s.size)∧(dL s).length≤s.size+1:=by
 refine⟨El nl _ s,?_⟩;rw[JR];have:=Lib.countB_le nl (by decide) s.size s (Nat.le_refl _)
 omega
structure Pol where
 lev:List BY
 up:List M64
 ins:List Chan
 outs:List Chan
 depth:Int
def VL:Pol:=⟨[],[],[],[],0⟩
def VN:Rdr:=⟨[],[],[],0,[]⟩
abbrev Bf(p:Pol):V:=.agg [vSs p.lev,vU p.up,j4 p.ins,j4 p.outs,vi p.depth]
def says(w:List BY):Bool:=decide (0<w.length)&&!decide (sb (w_ w 0) 0=35)
def rJ:List BY->Int->Rdr->(Int×Int) ⊕ Rdr
 | [],_,r=>.inr r
 | l::rest,at_,r=>
  if says (bA l) then
   if (nW r (bA l)).2≠0 then .inl (at_+Lib.index l.data.toList (w_ (bA l) 0).data.toList,(nW r (bA l)).2)
   else rJ rest (at_+(l.size+1)) (nW r (bA l)).1
  else rJ rest (at_+(l.size+1)) r
def YP(n:Int)(r:Rdr):Pol×Int×Int:=
 if r.lev.length=0∨r.depth=0 then (VL,n,4)
 else if gJ (iJ r.lev.length r.flows) then (⟨r.lev,iJ r.lev.length r.flows,r.ins,r.outs,r.depth⟩,0,0) else (VL,n,11)
def dM(s:BY):Pol×Int×Int:=
 if 65536<s.size then (VL,0,2)
 else if 0≤dB s s.size 0 then (VL,dB s s.size 0,5)
 else match rJ (dL s) 0 VN with
  | .inl (at_,e)=>(VL,at_,e)
  | .inr r=>YP s.size r
abbrev adD(q:Pol×Int×Int):V:=.tup [Bf q.1,vi q.2.1,vi q.2.2]
theorem ace:Kept VN 0:=⟨⟨by decide,by decide,by decide,by decide,by unfold aj;decide⟩,by decide,λp hp=>by cases hp⟩
structure af7 (s:BY) where
 i:Nat
 at_:Int
 r:Rdr
 hi:i≤(dL s).length
 ha:0≤at_∧at_≤(i:Int)*65537
 hr:Kept r i
 same:rJ ((dL s).drop i) at_ r=rJ (dL s) 0 VN
theorem N7(s:BY)(hs:s.size≤9223372036854775807):Pure PG 15 [vs s] (adD (dM s)) []:=by
 refine aG.mk (cfg 112) aA [] Tryz.func15 Z (by kernel_rfl) Z Z Z ?_
 intro C x;refine x.cond Z tR (λh1=>?_) (λh1=>?_)
 ·have h1:65536<s.size:=by have:=agP h1;omega
  rw[dM,if_pos h1];refine x.nu ?_;exact x.exit Z tR ⟨⟨[(2,.ptr 0 0),(3,vi 0),(4,vi 2)],[(0,.box [vSs [],vU [],j4 [],j4 [],vi 0])],1⟩,⟨⟨⟨Z,Z⟩,Z,Z,tR⟩,⟨⟨Z,Z,Z,Z,Z,tR⟩,tR⟩,Z⟩,.inr Z,⟨Z,Z,Z,tR⟩,tR,Z⟩
 have h1:¬65536<s.size:=by have:=agQ h1;omega
 refine x.pure Z tR Z (JB s hs) ⟨Z,tR⟩ ?_;refine x.cond Z tR (λh2=>?_) (λh2=>?_)
 ·have h2:0≤dB s s.size 0:=agP h2
  rw[dM,if_neg h1,if_pos h2];refine x.nu ?_;exact x.exit Z tR ⟨⟨[(2,.ptr 0 0),(3,vi (dB s s.size 0)),(4,vi 5)],[(0,.box [vSs [],vU [],j4 [],j4 [],vi 0])],1⟩,⟨⟨⟨Z,Z⟩,Z,Z,tR⟩,⟨⟨Z,Z,Z,Z,Z,tR⟩,tR⟩,Z⟩,.inr Z,⟨Z,Z,Z,tR⟩,tR,Z⟩
 have h2:¬0≤dB s s.size 0:=agQ h2;obtain⟨l1,l2⟩:=NZ s;refine x.pure Z tR Z (QU s (by omega)) ⟨Z,Z,tR⟩ ?_
 refine x.toLoop Z tR ?_;refine Go.ownB 1 0 9 1 (λi=>[.str (([]:List BY).getD i .empty)]) Z Z ?_
 refine Go.ownB 1 2 162 2 (λi=>[.str (([]:List Chan).getD i bf).1,.int .i64 (([]:List Chan).getD i bf).2]) Z Z ?_
 refine Go.ownB 1 3 162 2 (λi=>[.str (([]:List Chan).getD i bf).1,.int .i64 (([]:List Chan).getD i bf).2]) Z Z ?_
 refine Go.ownB 1 5 180 2 (λi=>[.int .i64 ((([]:List (Nat×Nat)).getD i (0,0)).1:Int),.int .i64 ((([]:List (Nat×Nat)).getD i (0,0)).2:Int)]) Z Z ?_
 refine x.loop (α:=af7 s) (λy=>⟨[(0,vs s),(2,.ptr 0 0),(3,vi 0),(4,vi 0),(6,.ptr 1 0),(7,vi y.at_),(27,vSs (dL s)),(28,vi ((dL s).length:Int)),(29,vi (y.i:Int))],
  [(0,.box [.aD,.aD,.aD,.aD,vi 0]),(1,.box [.own 2,.aD,.own 3,.own 4,vi y.r.depth,.own 5]),(2,YL y.r.lev),(3,I4 y.r.ins),(4,I4 y.r.outs),(5,YM y.r.flows)],6⟩) (λy=>(dL s).length-y.i) ⟨0,0,VN,by omega,by omega,ace,Z⟩ Z tR ?_ (λy=>?_)
 ·exact⟨⟨Z,⟨Z,Z⟩,Z,Z,⟨Z,Z⟩,Z,av Z,Z,Z,tR⟩,⟨⟨tR,tR,tR,tR,Z,tR⟩,⟨Z,tR,Z,Z,Z,Z,tR⟩,⟨Z,Z,Z,λ_ h=>absurd h (agV _)⟩,⟨Z,Z,Z,λ_ h=>absurd h (agV _)⟩,⟨Z,Z,Z,λ_ h=>absurd h (agV _)⟩,⟨Z,Z,Z,λ_ h=>absurd h (agV _)⟩,tR⟩,Z⟩
 obtain⟨i,at_,r,hi,ha,hr,same⟩:=y
 change Go C _ ⟨[(0,vs s),(2,.ptr 0 0),(3,vi 0),(4,vi 0),(6,.ptr 1 0),(7,vi at_),(27,vSs (dL s)),(28,vi ((dL s).length:Int)),(29,vi (i:Int))],
  [(0,.box [.aD,.aD,.aD,.aD,vi 0]),(1,.box [.own 2,.aD,.own 3,.own 4,vi r.depth,.own 5]),(2,YL r.lev),(3,I4 r.ins),(4,I4 r.outs),(5,YM r.flows)],6⟩ _
 refine x.cond Z tR (λh3=>?_) (λh3=>?_)
 ·have h3:i<(dL s).length:=by have:=agP h3;omega
  obtain⟨l,hl⟩:∃l,(dL s).getD i .empty=l:=⟨_,Z⟩;have hget:(dL s)[i]?=some l:=by rw[←hl,agM,agO h3];rfl
  have hlz:=l1 l (List.mem_of_getElem? hget);obtain⟨f1,f2⟩:=VK l;rw[drop_cons hget,rJ] at same
  have hat:at_≤4295032833:=by
   have:(i:Int)≤65536:=by omega
   omega
  refine x.pure Z ?_ Z (NY l (by omega)) ⟨?_,Z,tR⟩ ?_
  ·simp only[ak];omega
  ·show aI (vs ((dL s).getD i .empty)) (vs l)
   rw[hl];exact Z
  refine x.cond Z ?_ (λh4=>?_) (λh4=>?_)
  ·simp only[ak,agT]
   refine⟨λh=>⟨by decide,h⟩,λh=>⟨by decide,?_⟩⟩
   have h:0<(bA l).length:=by omega
   have:=(f1 ((bA l).getD 0 .empty) (by rw[agM,agO h];exact List.getElem_mem h)).1
   show (0:Int)<(((bA l).getD 0 .empty).size:Int);omega
  ·have h4:says (bA l)=true:=by
    refine Eq.trans ?_ h4;unfold says
    congr 1
    rw[decide_eq_decide];omega
   have h0:0<(bA l).length:=by
    unfold says at h4;simp only[agN,agT] at h4;exact h4.1
   rw[if_pos h4] at same;have hw0:=f1 ((bA l).getD 0 .empty) (by rw[agM,agO h0];exact List.getElem_mem h0)
   refine x.call [1,2,3,4,5] Z tR Z (VJ r hr.toSmall (bA l) (by omega) (by unfold aj;omega) (λf hf=>by have:=(f1 f hf).2;omega)) Z ⟨⟨Z,Z⟩,av Z,tR⟩ ⟨⟨Z,tR,Z,Z,Z,Z,tR⟩,⟨Z,Z,Z,λ_ _=>rfl⟩,⟨Z,Z,Z,λ_ _=>rfl⟩,⟨Z,Z,Z,λ_ _=>rfl⟩,⟨Z,Z,Z,λ_ _=>rfl⟩,tR⟩ ?_
   refine x.cond Z tR (λh5=>?_) (λh5=>?_)
   ·have h5:(!decide ((nW r (bA l)).2=0))=true:=h5
    have h5:(nW r (bA l)).2≠0:=by simpa using h5
    rw[if_pos h5] at same;have hix:=index_le l.data.toList (w_ (bA l) 0).data.toList;have hig:=Lib.index_ge l.data.toList (w_ (bA l) 0).data.toList;have hll:l.data.toList.length=l.size:=Array.length_toList;refine x.pure Z ?_ Z (index_spec l (w_ (bA l) 0) (by omega)) ⟨?_,Z,tR⟩ ?_
    ·simp only[ak];omega
    ·show aI (vs ((dL s).getD i .empty)) (vs l)
     rw[hl];exact Z
    have hp:dM s=(VL,at_+Lib.index l.data.toList (w_ (bA l) 0).data.toList,(nW r (bA l)).2):=by
     rw[dM,if_neg h1,if_neg h2,←same]
    rw[hp];refine x.nu ?_;refine x.exit Z ?_ ⟨⟨[(2,.ptr 0 0),(3,vi (at_+Lib.index l.data.toList (w_ (bA l) 0).data.toList)),(4,vi (nW r (bA l)).2)],[(0,.box [vSs [],vU [],j4 [],j4 [],vi 0])],1⟩,⟨⟨⟨Z,Z⟩,Z,Z,tR⟩,⟨⟨Z,Z,Z,Z,Z,tR⟩,tR⟩,Z⟩,.inr Z,⟨Z,Z,Z,tR⟩,tR,Z⟩;simp only[ak,aj];omega
   ·have h5:(!decide ((nW r (bA l)).2=0))=false:=h5
    have h5:¬(nW r (bA l)).2≠0:=by simpa using h5
    rw[if_neg h5] at same;refine x.back Z ?_ ⟨⟨i+1,at_+(l.size+1),(nW r (bA l)).1,by omega,by omega,JO hr (by omega) _,same⟩,by show (dL s).length-(i+1)<(dL s).length-i;omega,?_⟩
    ·simp only[ak,ag1]
     rw[hl];simp only[aj];omega
    ·refine⟨⟨Z,⟨Z,Z⟩,Z,Z,⟨Z,Z⟩,?_,av Z,Z,(show aI (vi ((i:Int)+1)) (vi ((i+1:Nat):Int)) by rw[agY];rfl),tR⟩,⟨⟨tR,tR,tR,tR,Z,tR⟩,⟨Z,tR,Z,Z,Z,Z,tR⟩,⟨Z,Z,Z,λ_ _=>rfl⟩,⟨Z,Z,Z,λ_ _=>rfl⟩,⟨Z,Z,Z,λ_ _=>rfl⟩,⟨Z,Z,Z,λ_ _=>rfl⟩,tR⟩,Z⟩
     show aI (vi (at_+((((dL s).getD i .empty).size:Int)+1))) (vi (at_+(l.size+1)));rw[hl];exact Z
  ·have h4:says (bA l)=false:=by
    refine Eq.trans ?_ h4;unfold says
    congr 1
    rw[decide_eq_decide];omega
   rw[if_neg (by rw[h4];simp)] at same
   refine x.back Z ?_ ⟨⟨i+1,at_+(l.size+1),r,by omega,by omega,⟨hr.toSmall,Nat.le_succ_of_le hr.count,hr.flow⟩,same⟩,by show (dL s).length-(i+1)<(dL s).length-i;omega,?_⟩
   ·simp only[ak,ag1]
    rw[hl];simp only[aj];omega
   ·refine⟨⟨Z,⟨Z,Z⟩,Z,Z,⟨Z,Z⟩,?_,av Z,Z,(show aI (vi ((i:Int)+1)) (vi ((i+1:Nat):Int)) by rw[agY];rfl),tR⟩,⟨⟨tR,tR,tR,tR,Z,tR⟩,⟨Z,tR,Z,Z,Z,Z,tR⟩,⟨Z,Z,Z,λ_ _=>rfl⟩,⟨Z,Z,Z,λ_ _=>rfl⟩,⟨Z,Z,Z,λ_ _=>rfl⟩,⟨Z,Z,Z,λ_ _=>rfl⟩,tR⟩,Z⟩
    show aI (vi (at_+((((dL s).getD i .empty).size:Int)+1))) (vi (at_+(l.size+1)));rw[hl];exact Z
 have h3:i=(dL s).length:=by have:=agQ h3;omega
 rw[h3,List.drop_length] at same
 have hp:dM s=YP s.size r:=by
  rw[dM,if_neg h1,if_neg h2,←same];rfl
 rw[hp];have adB:=hr.lev;refine x.cond Z tR (λh4=>?_) (λh4=>?_)
 ·have h4:(decide ((r.lev.length:Int)=0)||decide (r.depth=0))=true:=h4
  have h4:r.lev.length=0∨r.depth=0:=by
   simp only[Bool.or_eq_true,agT] at h4;omega
  rw[YP,if_pos h4];refine x.nu ?_;exact x.exit Z tR ⟨⟨[(2,.ptr 0 0),(3,vi (s.size:Int)),(4,vi 4)],[(0,.box [vSs [],vU [],j4 [],j4 [],vi 0])],1⟩,⟨⟨⟨Z,Z⟩,Z,Z,tR⟩,⟨⟨Z,Z,Z,Z,Z,tR⟩,tR⟩,Z⟩,.inr Z,⟨Z,Z,Z,tR⟩,tR,Z⟩
 have h4:(decide ((r.lev.length:Int)=0)||decide (r.depth=0))=false:=h4
 have h4:¬(r.lev.length=0∨r.depth=0):=by
  simp only[ag2,agX] at h4;omega
 rw[YP,if_neg h4];have hfl:=hr.flows;refine Sx.Go.freeze 5 ?_;refine Sx.Go.freeze 4 ?_;refine Sx.Go.freeze 3 ?_;refine Sx.Go.freeze 2 ?_;have hbs:=QO r.lev.length r.flows (by omega) adB hr.flow (by unfold aj;omega)
 refine x.rE [] [0,1,2,3,4,5,6,7,8,9] (mkO [(10,[]),(11,[10]),(12,[11]),(13,[11]),(14,[12]),(15,[13,14])] 7 [])
  ⟨[(0,vs s),(2,.ptr 0 0),(3,vi 0),(4,vi 0),(6,.ptr 1 0),(12,vU (if gJ (iJ r.lev.length r.flows) then iJ r.lev.length r.flows else [])),(13,vi (if gJ (iJ r.lev.length r.flows) then 0 else 11))],[],6⟩ Z tR ay (by kernel_rfl) Ret.bG Z tR (λC2 x2=>?_) ?_
 ·repeat' first
    | exact True.intro
    | refine And.intro ?_ ?_
    | refine x2.back rfl tR ?_
    | refine x2.pure rfl tR rfl hbs ⟨rfl,av rfl,tR⟩ (x2.back rfl tR ?_)
    | exact .inl ⟨⟨rfl,⟨rfl,rfl⟩,rfl,rfl,⟨rfl,rfl⟩,av rfl,rfl,tR⟩,tR,rfl⟩
 by_cases hR:gJ (iJ r.lev.length r.flows)=true
 ·simp only[if_pos hR]
  refine x.cond Z tR (λh5=>?_) (λh5=>?_)
  ·cases h5
  ·exact x.exit Z tR ⟨.inr Z,⟨Z,Z,Z,tR⟩,tR,Z⟩
 ·simp only[if_neg hR]
  refine x.cond Z tR (λh5=>?_) (λh5=>?_)
  ·refine x.nu ?_
   exact x.exit Z tR ⟨⟨[(2,.ptr 0 0),(3,vi (s.size:Int)),(4,vi 11)],[(0,.box [vSs [],vU [],j4 [],j4 [],vi 0])],1⟩,⟨⟨⟨Z,Z⟩,Z,Z,tR⟩,⟨⟨Z,Z,Z,Z,Z,tR⟩,tR⟩,Z⟩,.inr Z,⟨Z,Z,Z,tR⟩,tR,Z⟩
  ·cases h5
structure PolSz(p:Pol):Prop where
 lev:p.lev.length*16≤140737488355328
 up:p.up.length*8≤140737488355328
 ins:p.ins.length*24≤140737488355328
 outs:p.outs.length*24≤140737488355328
theorem ER{z z' n:Nat}{us:List D}{f:Nat->List D}(hz:z=z')(h:∀i,app 0 (tab (List.replicate 0 us)) f i=f i):D.sl z (0+n) (app 0 (tab (List.replicate 0 us)) f)=.sl z' n f:=by
 subst hz;rw[Nat.zero_add,show app 0 (tab (List.replicate 0 us)) f=f from funext h]
theorem YQ{u:D}(d:Nat->D)(i:Nat):app 0 (tab (List.replicate 0 [u])) (λi=>[d i]) i=[d i]:=by
 show (if i<0 then [] else [d (i-0)])=_
 rw[if_neg (by omega)];rfl
theorem YR{u v:D}(d e:Nat->D)(i:Nat):app 0 (tab (List.replicate 0 [u,v])) (λi=>[d i,e i]) i=[d i,e i]:=by
 show (if i<0 then [] else [d (i-0),e (i-0)])=_
 rw[if_neg (by omega)];rfl
theorem QV(p:Pol)(h:PolSz p):Pure PG 9 [Bf p] (Bf p) []:=by
 obtain⟨h1,h2,h3,h4⟩:=h;refine aG.mk (cfg 24) aA [] Tryz.func9 Z (by kernel_rfl) Z Z Z ?_
 intro C x;refine Go.ac6 [2,3,4,5] ?_;refine x.exit Z (by simp only[ak,big];omega) ?_
 exact⟨.inr Z,⟨ah (ER Z (YQ _)),ah (ER Z (YQ _)),ah (ER Z (YR _ _)),ah (ER Z (YR _ _)),Z,tR⟩,tR,Z⟩
def exP:BY:=⟨#[108,101,118,101,108,32,108,111,119,10,108,101,118,101,108,32,104,105,103,104,10,102,108,111,119,32,108,111,119,32,104,105,103,104,10,105,110,112,117,116,32,107,101,121,32,104,105,103,104,10,111,117,116,112,117,116,32,110,101,116,32,108,111,119,10,100,101,112,116,104,32,56]⟩
theorem acf:(dM exP).2.2=0∧(dM exP).1.lev.length=2∧(dM exP).1.ins.length=1∧((dM exP).1.ins.getD 0 bf).2=1∧(dM exP).1.depth=8:=by decide +kernel
abbrev kM(p:Pol):Ch:=.box [vSs p.lev,vU p.up,j4 p.ins,j4 p.outs,vi p.depth]
theorem bU(p:Pol):mH (kM p) (kM p):=⟨ah Z,ah Z,ah Z,ah Z,Z,tR⟩
theorem sP{p:Pol}(h:PolSz p):aj (p.lev.length:Int)∧aj (p.up.length:Int)∧aj (p.ins.length:Int)∧aj (p.outs.length:Int):=by
 obtain⟨h1,h2,h3,h4⟩:=h;unfold aj;omega
def qF(p:Nat->Bool):Nat->Nat->Bool
 | 0,_=>true
 | n+1,i=>p i&&qF p n (i+1)
theorem wR{p:Nat->Bool}:∀{n i:Nat},qF p n i=true↔∀j,i≤j->j<i+n->p j=true
 | 0,i=>⟨λ_ j h1 h2=>by omega,λ_=>rfl⟩
 | n+1,i=>by
  rw[qF,agN,wR]
  constructor
  ·rintro ⟨h1,h2⟩ j h3 h4
   by_cases e:j=i
   ·subst e;exact h1
   ·exact h2 j (by omega) (by omega)
  ·intro h
   exact⟨h i (Nat.le_refl _) (by omega),λj h1 h2=>h j (by omega) (by omega)⟩
theorem G7{p:Nat->Bool}:∀{n i:Nat},0≤uG p n i↔∃j,i≤j∧j<i+n∧p j=true
 | 0,i=>⟨λh=>by simp [uG] at h,λ⟨j,h1,h2,_⟩=>by omega⟩
 | n+1,i=>by
  rw[uG];by_cases h:p i=true
  ·rw[if_pos h]
   exact⟨λ_=>⟨i,Nat.le_refl _,by omega,h⟩,λ_=>by omega⟩
  ·rw[if_neg h,G7]
   constructor
   ·rintro ⟨j,h1,h2,h3⟩;exact⟨j,by omega,by omega,h3⟩
   ·rintro ⟨j,h1,h2,h3⟩
    have:j≠i:=λe=>by subst e;exact h h3
    exact⟨j,by omega,by omega,h3⟩
end Go.Proofs.YtojhdmfkfkfcbaaGreatDoor
namespace Go.Proofs.YtojhdmfkfkfcbaaGreatDoor
open Go.Sx
theorem QW{up:List M64}(hl:up.length≤64){a:Nat}(ha:a<up.length)(j:Nat):bit (upA (iP up) a) j=(decide (j<up.length)&&bit (upA up j) a):=by
 rw[zI up ha];by_cases h:j<64
 ·rw[jl _ h]
 ·rw[wK _ (by omega),decide_eq_false (show ¬j<up.length by omega)];rfl
structure Ord(up:List M64):Prop where
 len:up.length≤64
 refl:∀i,i<up.length->bit (upA up i) i=true
 inn:∀i j,i<up.length->bit (upA up i) j=true->j<up.length
 tr:∀i k j,i<up.length->bit (upA up i) k=true->bit (upA up k) j=true->bit (upA up i) j=true
 anti:∀i k,i<up.length->bit (upA up i) k=true->bit (upA up k) i=true->i=k
theorem adE{up:List M64}(h:gI up=true):Ord up:=by
 have hl:=(x9 h).2
 have hrow:∀i,i<up.length->nV up i=true:=λi hi=>by
  unfold gI at h;simp only[agN,List.all_eq_true] at h;exact h.2 i (List.mem_range.2 hi)
 have row:∀i,i<up.length->bit (upA up i) i=true∧∀k,bit (upA up i) k=true->(∀j,bit (upA up k) j=true->bit (upA up i) j=true)∧¬(k≠i∧bit (upA up k) i=true):=λi hi=>by
  have:=hrow i hi;unfold nV at this;simp only[agN,List.all_eq_true,agT,mh,uK,agZ,Bool.and_eq_false_iff,agX] at this;refine⟨this.1.1,λk hk=>⟨(this.2 k hk).1,λ⟨e1,e2⟩=>?_⟩⟩
  rcases (this.2 k hk).2 with e | e
  ·exact e e1
  ·rw[e2] at e;cases e
 exact⟨hl,λi hi=>(row i hi).1,λi j hi hj=>JL h hi j hj,λi k j hi h1 h2=>((row i hi).2 k h1).1 j h2,λi k hi h1 h2=>by
  refine Classical.byContradiction λe=>((row i hi).2 k h1).2 ⟨λe'=>e e'.symm,h2⟩⟩
def ivM(up:List M64)(a b:Nat):M64:=upA up a&&& upA (iP up) b
theorem adF{up:List M64}(h:Ord up){a b:Nat}(ha:a<up.length)(hb:b<up.length)(m:Nat):bit (ivM up a b) m=true↔bit (upA up a) m=true∧bit (upA up m) b=true:=by
 unfold ivM;rw[KX,QW h.len hb,agN,agN,agT];exact⟨λe=>⟨e.1,e.2.2⟩,λe=>⟨e.1,h.inn a m ha e.1,e.2⟩⟩
theorem aa7{l:List Nat}(hn:l.Nodup){a b:Nat}(hab:a≠b)(ha:a∈l)(hb:b∈l):l.length=2↔∀m∈l,m=a∨m=b:=by
 match l with
 | []=>cases ha
 | [x]=>simp at ha hb;omega
 | [x,y]=>
  simp at ha hb;refine⟨λ_ m hm=>?_,λ_=>rfl⟩
  simp at hm;omega
 | x::y::z::l=>
  simp at hn;refine⟨λh=>by simp at h,λh=>?_⟩
  have h1:=h x (by simp)
  have h2:=h y (by simp)
  have h3:=h z (by simp)
  omega
def QX(up:List M64)(a b:Nat):Bool:=decide (YH (ivM up a b)=2)
def ES(up:List M64):List (Nat×Nat):=(List.range up.length).flatMap λa=>((bits (GU (upA up a) (a:Int))).filter (QX up a)).map λb=>(a,b)
def Cov(up:List M64)(a b:Nat):Prop:=a≠b∧bit (upA up a) b=true∧∀m,bit (upA up a) m=true->bit (upA up m) b=true->m=a∨m=b
theorem JU{up:List M64}(h:Ord up){a b:Nat}(ha:a<up.length)(hab:a≠b)(h1:bit (upA up a) b=true):QX up a b=true↔∀m,bit (upA up a) m=true->bit (upA up m) b=true->m=a∨m=b:=by
 have hb:=h.inn a b ha h1;have iv:=adF h ha hb;have:=aa7 (l:=bits (ivM up a b)) (QF _) hab (mh.2 ((iv a).2 ⟨h.refl a ha,h1⟩)) (mh.2 ((iv b).2 ⟨h1,h.refl b hb⟩));unfold QX YH;rw[agT]
 constructor
 ·intro e m m1 m2
  exact this.1 (by omega) m (mh.2 ((iv m).2 ⟨m1,m2⟩))
 ·intro e
  have:=this.2 λm hm=>(λq=>e m q.1 q.2) ((iv m).1 (mh.1 hm))
  omega
theorem QY{up:List M64}(h:Ord up){a b:Nat}:(a,b)∈ES up↔a<up.length∧Cov up a b:=by
 unfold ES;simp only[List.mem_flatMap,List.mem_range,List.mem_map,List.mem_filter,mh,KY,agN,agZ,agX,agW]
 constructor
 ·rintro ⟨a',ha,b',⟨⟨h1,h2⟩,h3⟩,rfl,rfl⟩
  have hab:a'≠b':=λe=>h2 (by rw[e])
  exact⟨ha,hab,h1,(JU h ha hab h1).1 h3⟩
 ·rintro ⟨ha,h1,h2,h3⟩
  exact⟨a,ha,b,⟨⟨h2,by omega⟩,(JU h ha h1 h2).2 h3⟩,Z,Z⟩
theorem VO{up:List M64}(h:Ord up):∀p∈ES up,p.1<up.length∧p.2<up.length:=λp hp=>by
 obtain⟨h1,h2,h3,h4⟩:=(QY (a:=p.1) (b:=p.2) h).1 hp;exact⟨h1,h.inn _ _ h1 h3⟩
end Go.Proofs.YtojhdmfkfkfcbaaGreatDoor
namespace Go.Proofs.YtojhdmfkfkfcbaaGreatDoor
open Go.Sx
set_option maxRecDepth 100000
def K7(n:Nat)(l:List Chan)(i:Nat):Bool:=((jU (l.getD i bf).1&&decide (gT l (l.getD i bf).1=(i:Int)))&&decide (0≤(l.getD i bf).2))&&decide ((l.getD i bf).2<(n:Int))
def rM(n:Nat)(l:List Chan):Bool:=decide (l.length≤32)&&qF (K7 n l) l.length 0
def K8(l:List BY)(i:Nat):Bool:=jU (l.getD i .empty)&&decide (bH l (l.getD i .empty)=(i:Int))
def N8(p:Pol):Bool:=((decide (p.lev.length=p.up.length)&&gJ p.up)&&decide (1≤p.depth))&&decide (p.depth≤64)
def gW(p:Pol):Bool:=(N8 p&&qF (K8 p.lev) p.lev.length 0)&&(rM p.lev.length p.ins&&rM p.lev.length p.outs)
theorem sQ{p:Nat->Bool}{n i:Nat}(h:i<n):qF p (n-i) i=(p i&&qF p (n-(i+1)) (i+1)):=by
 rw[show n-i=(n-(i+1))+1 by omega,qF]
theorem YS{a b c d:Bool}(h:(((!a||b)||c)||d)=true):((((a&&!b)&&!c)&&!d):Bool)=false:=by
 cases a<;>cases b<;>cases c<;>cases d<;>simp_all
theorem N9{p:Nat->Bool}{n i:Nat}(h:i<n)(hp:p i=true):0≤uG p n 0:=G7.2 ⟨i,Nat.zero_le _,by omega,hp⟩
theorem VP{l:List Chan}{i:Nat}(h:i<l.length):0≤gT l (l.getD i bf).1:=N9 (p:=λj=>decide ((l.getD j bf).1.data.toList=(l.getD i bf).1.data.toList)) h (decide_eq_true Z)
theorem VQ{l:List BY}{i:Nat}(h:i<l.length):0≤bH l (l.getD i .empty):=N9 (p:=λj=>decide ((l.getD j .empty).data.toList=(l.getD i .empty).data.toList)) h (decide_eq_true Z)
theorem G8(lev:List BY)(l:List Chan)(adB:aj (lev.length:Int))(hl:aj (l.length:Int))(hz:∀c∈l,c.1.size≤9223372036854775807) :
  Pure PG 72 [.agg [vSs lev,.dead,.dead,.dead,.dead],j4 l] (vb (rM lev.length l)) []:=by
 refine aG.mk (cfg 49) aA [] Tryz.func72 Z (by kernel_rfl) Z Z Z ?_
 intro C x;have hl0:=hl;unfold aj at hl;refine x.cond Z tR (λh=>?_) (λh=>?_)
 ·have h:(32:Int)<l.length:=agP h
  refine x.exit Z tR ⟨.inr Z,?_,tR,Z⟩;rw[rM,decide_eq_false (show ¬l.length≤32 by omega)];exact Z
 have h:¬(32:Int)<l.length:=agQ h;have hle:l.length≤32:=by omega
 refine x.loop (α:={i:Nat // i≤l.length∧qF (K7 lev.length l) (l.length-i) i=qF (K7 lev.length l) l.length 0}) (λy=>⟨[(1,j4 l),(2,.ptr 0 0),(12,j4 l),(13,vi (l.length:Int)),(14,vi (y.1:Int))],[(0,.box [vSs lev,.dead,.dead,.dead,.dead])],1⟩) (λy=>l.length-y.1) ⟨0,by omega,Z⟩ Z tR ⟨⟨av Z,⟨Z,Z⟩,av Z,Z,Z,tR⟩,⟨⟨ah Z,Z,Z,Z,Z,tR⟩,tR⟩,Z⟩ (λy=>?_)
 obtain⟨i,hi,hsame⟩:=y;change Go C _ ⟨[(1,j4 l),(2,.ptr 0 0),(12,j4 l),(13,vi (l.length:Int)),(14,vi (i:Int))],[(0,.box [vSs lev,.dead,.dead,.dead,.dead])],1⟩ _;refine x.cond Z tR (λh1=>?_) (λh1=>?_)
 ·have h1:i<l.length:=by have:=agP h1;omega
  have hsz:(l.getD i bf).1.size≤9223372036854775807:=hz _ (by rw[agM,agO h1];exact List.getElem_mem h1)
  rw[sQ h1] at hsame;have h0:=VP h1;refine x.pure Z (by simp only[ak];omega) Z (qd l (l.getD i bf).1 hl0) ⟨av Z,Z,Z,tR⟩ ?_
  refine x.pure Z tR Z (zH (l.getD i bf).1 hsz) ⟨Z,tR⟩ ?_;refine x.cond Z tR (λh2=>?_) (λh2=>?_)
  ·have h2:(((!jU (l.getD i bf).1||!decide ((if 0 > gT l (l.getD i bf).1 then 0 else gT l (l.getD i bf).1)=(i:Int)))||decide ((l.getD i bf).2<0))||decide ((lev.length:Int)≤(l.getD i bf).2))=true:=h2
   rw[if_neg (by omega)] at h2
   have e:K7 lev.length l i=false:=by
    rw[←YS h2];unfold K7;rw[Bool.not_not,show (!decide ((l.getD i bf).2<0))=decide (0≤(l.getD i bf).2) by rw[←decide_not,decide_eq_decide];omega,show (!decide ((lev.length:Int)≤(l.getD i bf).2))=decide ((l.getD i bf).2<(lev.length:Int)) by rw[←decide_not,decide_eq_decide];omega]
   refine x.exit Z tR ⟨.inr Z,?_,tR,Z⟩;rw[e,Bool.false_and] at hsame;rw[rM,←hsame,Bool.and_false];exact Z
  ·have h2:(((!jU (l.getD i bf).1||!decide ((if 0 > gT l (l.getD i bf).1 then 0 else gT l (l.getD i bf).1)=(i:Int)))||decide ((l.getD i bf).2<0))||decide ((lev.length:Int)≤(l.getD i bf).2))=false:=h2
   rw[if_neg (by omega)] at h2
   simp only[ag2,Bool.not_eq_false',agX,agT] at h2;obtain⟨⟨⟨e1,e2⟩,e3⟩,e4⟩:=h2
   have e:K7 lev.length l i=true:=by
    unfold K7;rw[e1,decide_eq_true e2,decide_eq_true (show 0≤(l.getD i bf).2 by omega),decide_eq_true (show (l.getD i bf).2<(lev.length:Int) by omega)];rfl
   rw[e,Bool.true_and] at hsame;refine x.back Z ?_ ⟨⟨i+1,by omega,hsame⟩,by show l.length-(i+1)<l.length-i;omega,⟨av Z,⟨Z,Z⟩,av Z,Z,(show aI (vi ((i:Int)+1)) (vi ((i+1:Nat):Int)) by rw[agY];rfl),tR⟩,⟨⟨ah Z,Z,Z,Z,Z,tR⟩,tR⟩,Z⟩
   simp only[ak,aj];omega
 ·have h1:i=l.length:=by have:=agQ h1;omega
  refine x.exit Z tR ⟨.inr Z,?_,tR,Z⟩;rw[h1,Nat.sub_self] at hsame;rw[rM,←hsame,decide_eq_true hle];exact Z
structure QZ(p:Pol):Prop extends PolSz p where
 levZ:∀s∈p.lev,s.size≤9223372036854775807
 insZ:∀c∈p.ins,c.1.size≤9223372036854775807
 af8:∀c∈p.outs,c.1.size≤9223372036854775807
theorem Em(p:Pol)(h:QZ p):Pure PG 21 [Bf p] (vb (gW p)) []:=by
 obtain⟨i1,i2,i3,i4⟩:=sP h.toPolSz;refine aG.mk (cfg 63) aA [] Tryz.func21 Z (by kernel_rfl) Z Z Z ?_
 intro C x;refine x.gG Z tR Z (λ_=>Ej p.up i2) Z ⟨av Z,tR⟩ ?_
 have e0:decide ((p.up.length:Int)=(p.lev.length:Int))=decide (p.lev.length=p.up.length):=by rw[decide_eq_decide];omega
 refine x.cond Z tR (λh1=>?_) (λh1=>?_)
 ·have h1:(((!decide ((p.up.length:Int)=(p.lev.length:Int))||!gJ p.up)||decide (p.depth<1))||decide (64<p.depth))=true:=h1
  refine x.exit Z tR ⟨.inr Z,?_,tR,Z⟩;rw[e0] at h1;have e:=YS h1;rw[Bool.not_not,show (!decide (p.depth<1))=decide (1≤p.depth) by rw[←decide_not,decide_eq_decide];omega,show (!decide (64<p.depth))=decide (p.depth≤64) by rw[←decide_not,decide_eq_decide];omega] at e
  rw[gW,N8,e];exact Z
 have h1:(((!decide ((p.up.length:Int)=(p.lev.length:Int))||!gJ p.up)||decide (p.depth<1))||decide (64<p.depth))=false:=h1
 simp only[ag2,Bool.not_eq_false',agX,agT] at h1;obtain⟨⟨⟨e1,e2⟩,e3⟩,e4⟩:=h1
 have eh:N8 p=true:=by
  unfold N8;rw[e2,decide_eq_true (show p.lev.length=p.up.length by omega),decide_eq_true (show 1≤p.depth by omega),decide_eq_true (show p.depth≤64 by omega)];rfl
 have hl:=i1;unfold aj at hl;refine x.loop (α:={i:Nat // i≤p.lev.length∧qF (K8 p.lev) (p.lev.length-i) i=qF (K8 p.lev) p.lev.length 0}) (λy=>⟨[(1,.ptr 0 0),(31,vSs p.lev),(32,vi (p.lev.length:Int)),(33,vi (y.1:Int))],[(0,kM p)],1⟩) (λy=>p.lev.length-y.1) ⟨0,by omega,Z⟩ Z tR ⟨⟨⟨Z,Z⟩,av Z,Z,Z,tR⟩,⟨bU p,tR⟩,Z⟩ (λy=>?_)
 obtain⟨i,hi,hsame⟩:=y;change Go C _ ⟨[(1,.ptr 0 0),(31,vSs p.lev),(32,vi (p.lev.length:Int)),(33,vi (i:Int))],[(0,kM p)],1⟩ _;refine x.cond Z tR (λh1=>?_) (λh1=>?_)
 ·have h1:i<p.lev.length:=by have:=agP h1;omega
  have hsz:(p.lev.getD i .empty).size≤9223372036854775807:=h.levZ _ (by rw[agM,agO h1];exact List.getElem_mem h1)
  rw[sQ h1] at hsame;have h0:=VQ h1;refine x.pure Z (by simp only[ak];omega) Z (jT p.lev (p.lev.getD i .empty) i1) ⟨⟨ah Z,Z,Z,Z,Z,tR⟩,Z,tR⟩ ?_
  refine x.pure Z tR Z (zH (p.lev.getD i .empty) hsz) ⟨Z,tR⟩ ?_;refine x.cond Z tR (λh2=>?_) (λh2=>?_)
  ·have h2:(!jU (p.lev.getD i .empty)||!decide ((if 0 > bH p.lev (p.lev.getD i .empty) then 0 else bH p.lev (p.lev.getD i .empty))=(i:Int)))=true:=h2
   rw[if_neg (by omega)] at h2
   have e:K8 p.lev i=false:=by
    unfold K8;rw[←Bool.not_and,agZ] at h2;exact h2
   refine x.exit Z tR ⟨.inr Z,?_,tR,Z⟩;rw[e,Bool.false_and] at hsame;rw[gW,←hsame,Bool.and_false];exact Z
  ·have h2:(!jU (p.lev.getD i .empty)||!decide ((if 0 > bH p.lev (p.lev.getD i .empty) then 0 else bH p.lev (p.lev.getD i .empty))=(i:Int)))=false:=h2
   rw[if_neg (by omega)] at h2
   have e:K8 p.lev i=true:=by
    unfold K8;rw[←Bool.not_and,Bool.not_eq_false'] at h2;exact h2
   rw[e,Bool.true_and] at hsame;refine x.back Z ?_ ⟨⟨i+1,by omega,hsame⟩,by show p.lev.length-(i+1)<p.lev.length-i;omega,⟨⟨Z,Z⟩,av Z,Z,(show aI (vi ((i:Int)+1)) (vi ((i+1:Nat):Int)) by rw[agY];rfl),tR⟩,⟨bU p,tR⟩,Z⟩
   simp only[ak,aj];omega
 ·have h1:i=p.lev.length:=by have:=agQ h1;omega
  rw[h1,Nat.sub_self] at hsame;have e:gW p=(rM p.lev.length p.ins&&rM p.lev.length p.outs):=by rw[gW,←hsame,eh];rfl
  refine x.pure Z tR Z (G8 p.lev p.ins i1 i3 h.insZ) ⟨⟨ah Z,Z,Z,Z,Z,tR⟩,av Z,tR⟩ ?_;refine x.gG Z tR Z (λ_=>G8 p.lev p.outs i1 i4 h.af8) Z ⟨⟨ah Z,Z,Z,Z,Z,tR⟩,av Z,tR⟩ ?_
  refine x.exit Z tR ⟨.inr Z,?_,tR,Z⟩;rw[e];exact Z
structure Op9 where
 kind:Int
 op:Int
 dst:Int
 ref:Int
 alt:Int
 args:List Int
 frm:List Int
 num:Int
 at_:Int
structure Bod where
 params:Int
 vars:Int
 blocks:List (List Op9)
abbrev Cel:=Int×Int
structure Cod where
 arrays:List Cel
 funcs:List Bod
 main:Int
def op0:Op9:=⟨0,0,0,0,0,[],[],0,0⟩
def aB:Bod:=⟨0,0,[]⟩
def bO:Cel:=(0,0)
def af9:Cod:=⟨[],[],0⟩
abbrev Flt(α:Type):=Except (Int×Int) α
def bd{α β:Type}(r:Flt α)(k:α->Flt β):Flt β:=
 match r with
 | .error e=>.error e
 | .ok a=>k a
theorem mR{α β:Type}{r:Flt α}{k:α->Flt β}{b:β}(h:bd r k=.ok b):∃a,r=.ok a∧k a=.ok b:=by
 cases r with
 | error e=>cases h
 | ok a=>exact⟨a,rfl,h⟩
def gK(acc:List BY):List (BY×Int)->Flt (List BY)
 | []=>.ok acc
 | (s,a)::r=>if posB acc s=true then .error (a,9) else gK (acc++[s]) r
def gL(l:List BY)(s:BY)(a:Int):Flt Int:=if posB l s=true then .ok (dN l s) else .error (a,10)
def dQ(n a:Int):Flt Int:=if 0≤n then .ok n else .error (a,10)
structure Res where
 p:Pol
 q:Prg
 zL:List BY
 fns:List BY
structure Scp where
 blks:List BY
 vals:List BY
def qG:Scp:=⟨[],[]⟩
def mq(k:Int):Bool:=decide (11≤k)
def nX(r:Res)(s:Scp)(x:Ins):Flt (Int×Int):=
 if x.kind=4∨x.kind=5∨x.kind=6 then bd (gL r.zL x.ref x.at_) λn=>.ok (n,0)
 else if x.kind=7 then bd (gL r.fns x.ref x.at_) λn=>.ok (n,0)
 else if x.kind=8 then bd (dQ (gT r.p.ins x.ref) x.at_) λn=>.ok (n,0)
 else if x.kind=9 then bd (dQ (gT r.p.outs x.ref) x.at_) λn=>.ok (n,0)
 else if x.kind=10 then bd (dQ (bH r.p.lev x.ref) x.at_) λn=>.ok (n,0)
 else if x.kind=11 then bd (gL s.blks x.ref x.at_) λn=>.ok (n,0)
 else if x.kind=12 then bd (gL s.blks x.ref x.at_) λn=>bd (gL s.blks x.alt x.at_) λm=>.ok (n,m)
 else .ok (0,0)
def fE(l:List BY)(a:Int):List BY->List Int->Flt (List Int)
 | [],acc=>.ok acc
 | s::r,acc=>bd (gL l s a) λn=>fE l a r (acc++[n])
def nY(q:Prg)(n:Int):Nat:=(q.funcs.getD n.toNat bM).params.length
def yJ(r:Res)(s:Scp)(x:Ins):Flt Op9:=
 bd (nX r s x) λra=>bd (fE s.vals x.at_ x.args []) λaz=>bd (fE s.blks x.at_ x.frm []) λfs=>
  if x.kind=7∧x.args.length≠nY r.q ra.1 then .error (x.at_,13)
  else .ok ⟨x.kind,x.op,if x.dst.data.toList=[] then -1 else dN s.vals x.dst,ra.1,ra.2,az,fs,x.num,x.at_⟩
def vB(r:Res)(s:Scp)(code:List Ins)(i:Nat):Flt Op9:=
 if mq (code.getD i (aM 0)).kind=true∧i+1≠code.length then .error ((code.getD i (aM 0)).at_,15)
 else if (code.getD i (aM 0)).kind=3∧i≠0∧(code.getD (i-1) (aM 0)).kind≠3 then .error ((code.getD i (aM 0)).at_,18)
 else yJ r s (code.getD i (aM 0))
def Bg(r:Res)(s:Scp)(code:List Ins):Nat->Nat->List Op9->Flt (List Op9)
 | 0,_,acc=>.ok acc
 | f+1,i,acc=>bd (vB r s code i) λy=>Bg r s code f (i+1) (acc++[y])
def wS(b:Blk):Bool:=decide (1≤b.code.length)&&mq (b.code.getD (b.code.length-1) (aM 0)).kind
def sS(r:Res)(s:Scp)(b:Blk):Flt (List Op9):=
 if wS b=true then Bg r s b.code b.code.length 0 [] else .error (b.at_,15)
def zM(l:List Ins):List (BY×Int):=l.filterMap λx=>if x.dst.data.toList=[] then none else some (x.dst,x.at_)
def mI(bs:List Blk):List (BY×Int):=bs.flatMap λb=>zM b.code
def EK(f:Fun):Flt Scp:=
 bd (gK [] (f.params.map λs=>(s,f.at_))) λvs=>bd (gK [] (f.blocks.map λb=>(b.name,b.at_))) λbs=>bd (gK vs (mI f.blocks)) λvs'=>.ok ⟨bs,vs'⟩
def lT(p:Pol):List Arr->List BY->List Cel->Flt (List BY×List Cel)
 | [],acc,cs=>.ok (acc,cs)
 | a::r,acc,cs=>if posB acc a.name=true then .error (a.at_,9) else bd (dQ (bH p.lev a.level) a.at_) λk=>lT p r (acc++[a.name]) (cs++[(a.size,k)])
def qj:List Fun->List Scp->Flt (List Scp)
 | [],acc=>.ok acc
 | f::r,acc=>bd (EK f) λs=>qj r (acc++[s])
def mD(r:Res)(s:Scp):List Blk->List (List Op9)->Flt (List (List Op9))
 | [],acc=>.ok acc
 | b::l,acc=>bd (sS r s b) λy=>mD r s l (acc++[y])
def K9(r:Res)(s:Scp)(f:Fun):Flt Bod:=bd (mD r s f.blocks []) λbs=>.ok ⟨(f.params.length:Int),(s.vals.length:Int),bs⟩
def nZ(r:Res)(ss:List Scp):List Fun->Nat->List Bod->Flt (List Bod)
 | [],_,acc=>.ok acc
 | f::l,i,acc=>bd (K9 r (ss.getD i qG) f) λb=>nZ r ss l (i+1) (acc++[b])
abbrev gu:BY:=⟨#[109,97,105,110]⟩
def yX(q:Prg)(fn:List BY):Bool:=posB fn gu&&decide ((nY q (dN fn gu):Int)=0)
def vE(p:Pol)(q:Prg):Flt Cod:=
 bd (lT p q.arrays [] []) λac=>bd (gK [] (q.funcs.map λf=>(f.name,f.at_))) λfn=>
  if yX q fn=true then bd (qj q.funcs []) λss=>bd (nZ ⟨p,q,ac.1,fn⟩ ss q.funcs 0 []) λbs=>.ok ⟨ac.2,bs,dN fn gu⟩ else .error (0,14)
def codO:Flt Cod->Cod×Int×Int
 | .ok c=>(c,0,0)
 | .error (a,e)=>(af9,a,e)
def ig(p:Pol)(q:Prg):Cod×Int×Int:=if (gW p&&rightG q)=true then codO (vE p q) else (af9,0,1)
abbrev dR(l:List Int):D:=.sl 1 l.length λi=>[.int .i64 (l.getD i 0)]
abbrev dOp(y:Op9):List D:=[.int .u8 y.kind,.int .u8 y.op,.int .i64 y.dst,.int .i64 y.ref,.int .i64 y.alt,dR y.args,dR y.frm,.int .i64 y.num,.int .i64 y.at_]
abbrev opW(y:Op9):V:=.agg [.d (.int .u8 y.kind),.d (.int .u8 y.op),vi y.dst,vi y.ref,vi y.alt,.d (dR y.args),.d (dR y.frm),vi y.num,vi y.at_]
abbrev um(l:List Op9):D:=.sl 9 l.length λi=>dOp (l.getD i op0)
abbrev kN(l:List (List Op9)):D:=.sl 1 l.length λi=>[um (l.getD i [])]
abbrev zN(b:Bod):List D:=[.int .i64 b.params,.int .i64 b.vars,kN b.blocks]
abbrev bP(l:List Bod):D:=.sl 3 l.length λi=>zN (l.getD i aB)
abbrev bT(l:List Cel):D:=.sl 2 l.length λi=>[.int .i64 (l.getD i bO).1,.int .i64 (l.getD i bO).2]
abbrev rO(c:Cod):V:=.agg [.d (bT c.arrays),.d (bP c.funcs),vi c.main]
end Go.Proofs.YtojhdmfkfkfcbaaGreatDoor
