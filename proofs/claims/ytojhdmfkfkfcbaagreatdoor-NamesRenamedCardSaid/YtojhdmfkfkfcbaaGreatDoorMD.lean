import Derived.Test.YtojhdmfkfkfcbaaGreatDoorMC
import Derived.Test.YtojhdmfkfkfcbaaGreatDoorMA
import Derived.Shelf.Strings.FieldsFuncGrows
import Derived.Test.YtojhdmfkfkfcbaaGreatDoorSxG
namespace Go.Proofs.YtojhdmfkfkfcbaaGreatDoor
open Go.Sx
set_option linter.unusedVariables false
set_option linter.unusedSimpArgs false
set_option maxRecDepth 100000
theorem drop_cons {α:Type} {l:List α} {k:Nat} {a:α} (h:l[k]?=some a):l.drop k=a::l.drop (k+1):=by
 obtain⟨h1,rfl⟩:=List.getElem?_eq_some_iff.1 h
 rw[List.drop_eq_getElem_cons h1]
theorem Ju {m:M64} {k:Nat} {y:List V} (h:((bits m).map fun (i:Nat)=>[vi (i:Int)])[k]?=some y):∃i,(bits m)[k]?=some i∧y=[vi (i:Int)]∧bit m i=true∧i<64:=by
 rw[List.getElem?_map] at h
 cases hk:(bits m)[k]? with
 | none=>rw[hk] at h;cases h
 | some i=>
  rw[hk] at h
  have hm:=List.mem_of_getElem? hk
  exact⟨i,rfl,by simpa using h.symm,kW.1 hm,X3 hm⟩
theorem vD {m:M64}:((bits m).map fun (i:Nat)=>[vi (i:Int)]).length=(bits m).length:=List.length_map ..
theorem pW {x y:M64}:jJ .andNot .u64 (x.toNat:Int) (y.toNat:Int)=0↔x&&& ~~~ y=0#64:=by rw[VL,toNat_zero_iff]
theorem OB (up:List M64) (set:M64) (hi:InU up.length set):Pure PG 116 [vU up,vm set] (vi (vC up set)) []:=by
 refine aI.mkR (cfg 17) av [] Tryz.func116 rfl (by kernel_rfl) rfl rfl rfl ?_
 intro C x hmk
 refine x.pure rfl tR rfl (Fp set) ⟨rfl,tR⟩ ?_
 refine x.range (ps:=[8]) hmk [3] (fun k=>Fq up set ((bits set).drop k)=vC up set) (fun k=>[(0, .box [vU up]),(1, .box [vm set]),(2, .box [vi 0])]) (fun k c H'=>c=.ret∧H'=[(2, .box [vi (((bits set).getD k 0:Nat):Int)])]∧set&&& ~~~ upA up ((bits set).getD k 0)=0#64) rfl tR rfl (Jt set) ⟨⟨rfl,rfl⟩,tR⟩ rfl ⟨⟨rfl,tR⟩,tR⟩ (fun y hy=>?_) (fun k=>rfl) (fun k c H' h=>by obtain⟨_,rfl,_⟩:=h;rfl) rfl ⟨⟨ah rfl,tR⟩,⟨rfl,tR⟩,⟨rfl,tR⟩,tR⟩ (fun k y hy hP C1 x1=>?_) (fun hP=>?_) (fun k c H' hk hP h=>?_)
 ·obtain⟨i,_,rfl⟩:=List.mem_map.1 hy
  rfl
 ·obtain⟨i,hgi,rfl,hb,h64⟩:=Ju hy
  have hi:=hi i hb
  have hgD:(bits set).getD k 0=i:=by rw[adf,hgi];rfl
  refine x1.exit rfl tR ⟨rfl,fun C2 x2=>?_⟩
  refine x2.Vm rfl tR ay (by kernel_rfl) nZ.Vp ?_
  refine x2.dW rfl (by simp only[aj];omega) ?_
  refine x2.cond rfl tR (fun h=>?_) (fun h=>?_)
  ·have h0:=pW.1 (adi h)
   refine x2.exit rfl tR ?_
   exact⟨[(2, .box [vi (((bits set).getD k 0:Nat):Int)])],⟨rfl,rfl,by rw[hgD];exact h0⟩,⟨ah (by rw[hgD]),tR⟩,tR⟩
  ·have h0:¬set&&& ~~~ upA up i=0#64:=fun e=>adj h (pW.2 e)
   refine x2.exit rfl tR ?_
   refine⟨?_,⟨ah rfl,tR⟩,⟨rfl,tR⟩,⟨rfl,tR⟩,tR⟩
   rw[←hP,drop_cons hgi,Fq,if_neg h0]
 ·refine x.exit rfl tR ?_
  rw[vD,List.drop_length] at hP
  exact⟨.inr rfl,(show aG (vi (-1)) (vi (vC up set)) by rw[←hP];rfl),tR,rfl⟩
 ·obtain⟨rfl,rfl,h⟩:=h
  rw[vD] at hk
  refine x.exit rfl tR ?_
  have hgi:(bits set)[k]?=some ((bits set).getD k 0):=by rw[adf,adh hk];rfl
  refine⟨.inr rfl,?_,tR,rfl⟩
  show aG (vi (((bits set).getD k 0:Nat):Int)) (vi (vC up set))
  rw[←hP,drop_cons hgi,Fq,if_pos h]
  exact rfl
def oZ (up:List M64) (i:Nat) (l:List Nat) (k:Nat):M64:=ofP fun a=>(decide (a<i)&&bit (upA up a) k)||(decide (a=i)&&decide (k∈l))
theorem SE {up:List M64} {i k r:Nat} {l:List Nat} (hi:i<64):(if r=k then vw (oZ up i l k) (i:Int) else oZ up i l r)=oZ up i (l++[k]) r:=by
 refine vo fun a ha=>?_
 unfold oZ
 rw[gK _ ha]
 split
 ·rename_i e
  subst e
  rw[Bf,gK _ ha]
  by_cases h:a=i
  ·subst h;simp [ha]
  ·have:¬(a<64∧(a:Int)=(i:Int)):=by omega
   simp [h,this]
 ·rename_i e
  rw[gK _ ha]
  simp [e]
theorem SF {up:List M64} {i r:Nat}:oZ up i (bits (upA up i)) r=oZ up (i+1) [] r:=by
 unfold oZ
 refine H7 fun a ha=>?_
 by_cases h:a=i
 ·subst h
  by_cases hb:bit (upA up a) r=true
  ·simp [kW,hb]
  ·simp [kW,hb]
 ·by_cases h2:a<i
  ·have h3:a<i+1:=by omega
   simp [h,h2,h3]
  ·have h3:¬a<i+1:=by omega
   simp [h,h2,h3]
theorem SG {up:List M64} {r:Nat}:oZ up 0 [] r=0#64:=Ov.2 fun a ha=>by unfold oZ;rw[gK _ ha];simp
theorem VR {up:List M64} {r:Nat} (hr:r<up.length):oZ up up.length [] r=upA (iq up) r:=by
 rw[yB up hr]
 unfold oZ
 exact H7 fun a ha=>by simp
abbrev Bh (n:Nat) (f:Nat->M64):Ch:=.vec 178 1 n fun r=>[dm (f r)]
theorem take_succ {α:Type} {l:List α} {k:Nat} {a:α} (h:l[k]?=some a):l.take (k+1)=l.take k++[a]:=by
 obtain⟨h1,rfl⟩:=List.getElem?_eq_some_iff.1 h
 rw[List.take_succ_eq_append_getElem h1]
theorem LV (up:List M64) (h64:up.length≤64) (hin:∀i,i<up.length->InU up.length (upA up i)):Pure PG 117 [vU up] (.own 0) [Bh up.length fun r=>upA (iq up) r]:=by
 refine aI.mkR (cfg 31) av [0] Tryz.func117 rfl (by kernel_rfl) rfl rfl rfl ?_
 intro C x hmk
 refine x.loop (α:={i:Nat // i≤up.length}) (fun y=>⟨[(0,vU up),(3, .ptr 1 0),(10,vi (up.length:Int)),(11,vi (y.1:Int))],[(0,Bh up.length fun r=>oZ up y.1 [] r),(1, .box [.own 0])],2⟩) (fun y=>up.length-y.1) ⟨0,by omega⟩ rfl ?_ ?_ (fun y=>?_)
 ·simp only[aj,big,adv];omega
 ·refine⟨⟨au rfl,⟨rfl,rfl⟩,rfl,rfl,tR⟩,⟨⟨rfl,rfl,adv _,fun r hr=>?_⟩,⟨rfl,tR⟩,tR⟩,rfl⟩
  show [D.int .u64 0]=[dm (oZ up 0 [] r)]
  rw[SG];rfl
 obtain⟨i,hi⟩:=y
 change Go C _ ⟨[(0,vU up),(3, .ptr 1 0),(10,vi (up.length:Int)),(11,vi (i:Int))],[(0,Bh up.length fun r=>oZ up i [] r),(1, .box [.own 0])],2⟩ _
 refine x.cond rfl tR (fun h1=>?_) (fun h1=>?_)
 ·have h1:i<up.length:=by have:=adi h1;omega
  refine x.pure rfl ?_ rfl (Fp (upA up i)) ⟨rfl,tR⟩ ?_
  ·simp only[aj];omega
  refine x.range (ps:=[19]) hmk [3] (fun _=>True) (fun k=>[(0,Bh up.length fun r=>oZ up i ((bits (upA up i)).take k) r),(1, .box [.own 0]),(2, .box [vi (i:Int)])]) (fun _ _ _=>False) rfl tR rfl (Jt (upA up i)) ⟨⟨rfl,rfl⟩,tR⟩ rfl ⟨⟨rfl,tR⟩,tR⟩ (fun y hy=>?_) (fun k=>rfl) (fun k c H' h=>h.elim) tR ?_ (fun k y hy _ C1 x1=>?_) (fun _=>?_) (fun k c H' _ _ h=>h.elim)
  ·obtain⟨i,_,rfl⟩:=List.mem_map.1 hy
   rfl
  ·exact⟨⟨rfl,rfl,rfl,fun _ _=>rfl⟩,⟨rfl,tR⟩,⟨rfl,tR⟩,tR⟩
  ·obtain⟨k',hgi,rfl,hb,hk64⟩:=Ju hy
   have hk:=hin i h1 k' hb
   refine x1.exit rfl tR ⟨rfl,fun C2 x2=>?_⟩
   refine x2.abq [1,3] [0,2,4,5,6,7,8] [9] rfl tR ay (by kernel_rfl) nZ.bT nZ.Vp ?_
   refine x2.qL rfl ?_ rfl (Bd (oZ up i ((bits (upA up i)).take k) k') i) rfl rfl ⟨rfl,rfl,tR⟩ ?_
   ·simp only[aj];omega
   refine x2.dW rfl ?_ ?_
   ·simp only[aj];omega
   refine x2.exit rfl ?_ ⟨tR,⟨rfl,rfl,rfl,fun r hr=>?_⟩,⟨rfl,tR⟩,⟨rfl,tR⟩,tR⟩
   ·simp only[aj,List.length,adv];omega
   ·have:=SE (up:=up) (i:=i) (k:=k') (r:=r) (l:=(bits (upA up i)).take k) (by omega)
    show Gj (fun r=>[dm (oZ up i ((bits (upA up i)).take k) r)]) k' 0 [dm (vw (oZ up i ((bits (upA up i)).take k) k') (i:Int))] r=[dm (oZ up i ((bits (upA up i)).take (k+1)) r)]
    rw[qM,take_succ hgi,←this]
    show [D.int .u64 (if r=k' then _ else _)]=[dm (if r=k' then _ else _)]
    split<;>rfl
  ·refine x.back rfl ?_ ⟨⟨i+1,by omega⟩,by show up.length-(i+1)<up.length-i;omega,?_⟩
   ·simp only[aj,ak];omega
   ·refine⟨⟨au rfl,⟨rfl,rfl⟩,rfl,(show aG (vi ((i:Int)+1)) (vi ((i+1:Nat):Int)) by rw[ads];rfl),tR⟩,⟨⟨rfl,rfl,rfl,fun r hr=>?_⟩,⟨rfl,tR⟩,tR⟩,rfl⟩
    show [dm (oZ up i ((bits (upA up i)).take _) r)]=[dm (oZ up (i+1) [] r)]
    rw[vD,List.take_length,SF]
 ·have h1:i=up.length:=by have:=adj h1;omega
  refine x.exit rfl tR ?_
  refine⟨.inr rfl,rfl,⟨⟨rfl,rfl,rfl,fun r hr=>?_⟩,tR⟩,rfl⟩
  show [dm (oZ up i [] r)]=[dm (upA (iq up) r)]
  rw[h1,VR hr]
theorem SH {n:Nat} (h:n≤64):qy (n:Int)=ofP fun j=>decide (j<n):=vo fun j hj=>by
 rw[Ox,gK _ hj]
 simp only[decide_eq_decide]
 omega
def H9 (up:List M64) (i k:Nat):Bool:=decide (upA up k&&& ~~~ upA up i=0#64)&&!(decide (k≠i)&&bit (upA up k) i)
theorem CG (up:List M64) (i:Nat):mI up i=(bit (upA up i) i&&decide (upA up i&&& ~~~ ofP (fun j=>decide (j<up.length))=0#64)&&(bits (upA up i)).all (H9 up i)):=rfl
theorem OC (up:List M64) (hl:ak (up.length:Int)):Pure PG 114 [vU up] (vb (eY up)) []:=by
 refine aI.mkR (cfg 59) av [] Tryz.func114 rfl (by kernel_rfl) rfl rfl rfl ?_
 intro C x hmk
 refine x.cond rfl tR (fun h0=>?_) (fun h0=>?_)
 ·refine x.exit rfl tR ⟨.inr rfl,?_,tR,rfl⟩
  show false=eY up
  have h0:(decide ((up.length:Int)<1)||decide (64<(up.length:Int)))=true:=h0
  rw[eq_comm,eY,Bool.and_eq_false_iff,Bool.and_eq_false_iff]
  simp only[Bool.or_eq_true,adn] at h0
  refine .inl (h0.imp (fun h=>decide_eq_false (by omega)) (fun h=>decide_eq_false (by omega)))
 have hlen:1≤up.length∧up.length≤64:=by
  have h0:(decide ((up.length:Int)<1)||decide (64<(up.length:Int)))=false:=h0
  simp only[adw,adr] at h0
  omega
 have hno:∀i,i<up.length->mI up i=false->eY up=false:=fun i hi h=>by
  rw[eY,Bool.and_eq_false_iff]
  refine .inr (List.all_eq_false.2 ⟨i,List.mem_range.2 hi,by rw[h];simp⟩)
 have hand:∀i,jJ .andNot .u64 ((upA up i).toNat:Int) ((qy (up.length:Int)).toNat:Int)=0↔upA up i&&& ~~~ ofP (fun j=>decide (j<up.length))=0#64:=fun i=>by rw[pW,SH hlen.2]
 refine x.pure rfl tR rfl (Oy (up.length:Int) hl) ⟨rfl,tR⟩ ?_
 refine x.loop (α:={i:Nat // i≤up.length∧∀a,a<i->mI up a=true}) (fun y=>⟨[(1, .ptr 0 0),(2, .ptr 1 0),(3,vm (qy (up.length:Int))),(18,vU up),(19,vi (up.length:Int)),(20,vi (y.1:Int))],[(0, .box [vU up]),(1, .box [vb false])],2⟩) (fun y=>up.length-y.1) ⟨0,by omega,fun a ha=>by omega⟩ rfl tR ?_ (fun y=>?_)
 ·exact⟨⟨⟨rfl,rfl⟩,⟨rfl,rfl⟩,rfl,au rfl,rfl,rfl,tR⟩,⟨⟨ah rfl,tR⟩,⟨rfl,tR⟩,tR⟩,rfl⟩
 obtain⟨i,hi,hdone⟩:=y
 change Go C _ ⟨[(1, .ptr 0 0),(2, .ptr 1 0),(3,vm (qy (up.length:Int))),(18,vU up),(19,vi (up.length:Int)),(20,vi (i:Int))],[(0, .box [vU up]),(1, .box [vb false])],2⟩ _
 refine x.cond rfl tR (fun h1=>?_) (fun h1=>?_)
 ·have h1:i<up.length:=by have:=adi h1;omega
  refine x.pure rfl ?_ rfl (Fg (upA up i) i) ⟨rfl,rfl,tR⟩ ?_
  ·simp only[aj];omega
  refine x.cond rfl tR (fun h2=>?_) (fun h2=>?_)
  ·refine x.exit rfl tR ⟨.inr rfl,?_,tR,rfl⟩
   show false=eY up
   refine (hno i h1 ?_).symm
   have h2:(!Gw (upA up i) (i:Int)||!decide (jJ .andNot .u64 ((upA up i).toNat:Int) ((qy (up.length:Int)).toNat:Int)=0))=true:=h2
   rw[vv,Bool.or_eq_true,adt,adt,adr,hand] at h2
   rw[CG,Bool.and_eq_false_iff,Bool.and_eq_false_iff]
   exact .inl (h2.imp id decide_eq_false)
  have hrow:bit (upA up i) i=true∧upA up i&&& ~~~ ofP (fun j=>decide (j<up.length))=0#64:=by
   have h2:(!Gw (upA up i) (i:Int)||!decide (jJ .andNot .u64 ((upA up i).toNat:Int) ((qy (up.length:Int)).toNat:Int)=0))=false:=h2
   rw[vv,adw,Bool.not_eq_false',Bool.not_eq_false',adn,hand] at h2
   exact h2
  have hin:InU up.length (upA up i):=fun j hj=>by
   have h64:j<64:=by
    by_cases h64:j<64
    ·exact h64
    ·rw[sK _ (by omega)] at hj;cases hj
   have:=sP.1 hrow.2 j hj
   rw[gK _ h64] at this
   simpa using this
  have Y3:mI up i=(bits (upA up i)).all (H9 up i):=by rw[CG,hrow.1,decide_eq_true hrow.2];rfl
  refine x.pure rfl tR rfl (Fp (upA up i)) ⟨rfl,tR⟩ ?_
  refine x.range (ps:=[37]) hmk [4] (fun k=>∀j,j<k->H9 up i ((bits (upA up i)).getD j 0)=true) (fun k=>[(0, .box [vU up]),(1, .box [vb false]),(2, .box [vi (i:Int)]),(3, .box [vm (upA up i)])]) (fun k c H'=>c=.ret∧H'=[(1, .box [vb false])]∧H9 up i ((bits (upA up i)).getD k 0)=false) rfl tR rfl (Jt (upA up i)) ⟨⟨rfl,rfl⟩,tR⟩ rfl ⟨⟨rfl,tR⟩,tR⟩ (fun y hy=>?_) (fun k=>rfl) (fun k c H' h=>by obtain⟨_,rfl,_⟩:=h;rfl) (fun j hj=>by omega) ⟨⟨ah rfl,tR⟩,⟨rfl,tR⟩,⟨rfl,tR⟩,⟨rfl,tR⟩,tR⟩ (fun k y hy hP C1 x1=>?_) (fun hP=>?_) (fun k c H' hk hP h=>?_)
  ·obtain⟨i,_,rfl⟩:=List.mem_map.1 hy
   rfl
  ·obtain⟨k',hgi,rfl,hb,hk64⟩:=Ju hy
   have hk:=hin k' hb
   have hgD:(bits (upA up i)).getD k 0=k':=by rw[adf,hgi];rfl
   refine x1.exit rfl tR ⟨rfl,fun C2 x2=>?_⟩
   refine x2.Vm rfl tR ay (by kernel_rfl) nZ.Vp ?_
   refine x2.U6 rfl ?_ rfl (fun _ _=>Fg (upA up k') i) rfl rfl ⟨rfl,rfl,tR⟩ ?_
   ·have hh:0≤(k':Int)∧(k':Int)<(up.length:Int):=by omega
    exact⟨hh,fun _ _=>hh⟩
   refine x2.dW rfl tR ?_
   have hE:H9 up i k'=!(!decide (jJ .andNot .u64 ((upA up k').toNat:Int) ((upA up i).toNat:Int)=0)||(!decide ((k':Int)=(i:Int))&&Gw (upA up k') (i:Int))):=by
    unfold H9
    rw[vv,Bool.not_or,Bool.not_not]
    congr 1
    ·rw[decide_eq_decide];exact pW.symm
    ·congr 2
     rw[decide_not]
     congr 1
     rw[decide_eq_decide];omega
   refine x2.cond rfl tR (fun h=>?_) (fun h=>?_)
   ·refine x2.exit rfl tR ?_
    refine⟨[(1, .box [vb false])],⟨rfl,rfl,?_⟩,⟨rfl,tR⟩,tR⟩
    rw[hgD,hE]
    exact (congrArg not h).trans rfl
   ·refine x2.exit rfl tR ?_
    refine⟨fun j hj=>?_,⟨ah rfl,tR⟩,⟨rfl,tR⟩,⟨rfl,tR⟩,⟨rfl,tR⟩,tR⟩
    by_cases e:j=k
    ·rw[e,hgD,hE]
     exact (congrArg not h).trans rfl
    ·exact hP j (by omega)
  ·refine x.back rfl ?_ ⟨⟨i+1,by omega,fun a ha=>?_⟩,by show up.length-(i+1)<up.length-i;omega,?_⟩
   ·simp only[aj,ak];omega
   ·by_cases e:a=i
    ·rw[e,Y3,List.all_eq_true]
     intro k' hk'
     obtain⟨k,hk,rfl⟩:=List.getElem_of_mem hk'
     have:=hP k (by rw[vD];exact hk)
     rwa [adf,adh hk] at this
    ·exact hdone a (by omega)
   ·exact⟨⟨⟨rfl,rfl⟩,⟨rfl,rfl⟩,rfl,au rfl,rfl,(show aG (vi ((i:Int)+1)) (vi ((i+1:Nat):Int)) by rw[ads];rfl),tR⟩,⟨⟨ah rfl,tR⟩,⟨rfl,tR⟩,tR⟩,rfl⟩
  ·obtain⟨rfl,rfl,h⟩:=h
   rw[vD] at hk
   refine x.exit rfl tR ⟨.inr rfl,?_,tR,rfl⟩
   show false=eY up
   refine (hno i h1 ?_).symm
   rw[Y3,List.all_eq_false]
   exact⟨(bits (upA up i)).getD k 0,by rw[adf,adh hk];exact List.getElem_mem hk,by rw[h];simp⟩
 ·have h1:i=up.length:=by have:=adj h1;omega
  refine x.exit rfl tR ⟨.inr rfl,?_,tR,rfl⟩
  show true=eY up
  rw[eq_comm,eY,decide_eq_true hlen.1,decide_eq_true hlen.2]
  refine List.all_eq_true.2 fun a ha=>hdone a (by have:=List.mem_range.1 ha;omega)
theorem OD {up:List M64} {a b:Nat} (ha:a<up.length) (hb:b<a) (h:vC up (upA up a&&& upA up b)<0):zD up=false:=by
 unfold zD
 rw[List.all_eq_false]
 refine⟨a,List.mem_range.2 ha,?_⟩
 rw[Bool.not_eq_true,List.all_eq_false]
 exact⟨b,List.mem_range.2 hb,by simp;omega⟩
theorem Ia (up:List M64) (h64:up.length≤64) (hin:∀i,i<up.length->InU up.length (upA up i)):Pure PG 115 [vU up] (vb (zD up)) []:=by
 refine aI.mk (cfg 28) av [] Tryz.func115 rfl (by kernel_rfl) rfl rfl rfl ?_
 intro C x
 refine x.loop (α:={i:Nat // i≤up.length∧∀a b,a<i->b<a->0≤vC up (upA up a&&& upA up b)}) (fun y=>⟨[(0,vU up),(6,vi (up.length:Int)),(7,vi (y.1:Int))],[],0⟩) (fun y=>up.length-y.1) ⟨0,by omega,fun a b ha=>by omega⟩ rfl tR ⟨⟨au rfl,rfl,rfl,tR⟩,tR,rfl⟩ (fun y=>?_)
 obtain⟨i,hi,hdone⟩:=y
 change Go C _ ⟨[(0,vU up),(6,vi (up.length:Int)),(7,vi (i:Int))],[],0⟩ _
 refine x.cond rfl tR (fun h1=>?_) (fun h1=>?_)
 ·have h1:i<up.length:=by have:=adi h1;omega
  refine x.loop (α:={b:Nat // b≤i∧∀c,c<b->0≤vC up (upA up i&&& upA up c)}) (fun z=>⟨[(0,vU up),(3,vi (i:Int)),(6,vi (up.length:Int)),(7,vi (i:Int)),(10,vi (i:Int)),(11,vi (z.1:Int))],[],0⟩) (fun z=>i-z.1) ⟨0,by omega,fun a ha=>by omega⟩ rfl tR ⟨⟨au rfl,rfl,rfl,rfl,rfl,rfl,tR⟩,tR,rfl⟩ (fun z=>?_)
  obtain⟨b,hb,hd2⟩:=z
  change Go C _ ⟨[(0,vU up),(3,vi (i:Int)),(6,vi (up.length:Int)),(7,vi (i:Int)),(10,vi (i:Int)),(11,vi (b:Int))],[],0⟩ _
  refine x.cond rfl tR (fun h2=>?_) (fun h2=>?_)
  ·have h2:b<i:=by have:=adi h2;omega
   refine x.quiet rfl tR ay (by kernel_rfl) ?_
   refine x.qL rfl ?_ rfl (OB up (upA up i&&& upA up b) (X4 (hin i h1))) rfl rfl ⟨au rfl,(show aG (.d (.int .u64 (jJ .and .u64 ((upA up i).toNat:Int) ((upA up b).toNat:Int)))) (vm (upA up i&&& upA up b)) by rw[Qm];rfl),tR⟩ ?_
   ·simp only[aj];omega
   refine x.dW rfl tR ?_
   refine x.cond rfl tR (fun h3=>?_) (fun h3=>?_)
   ·refine x.exit rfl tR ⟨.inr rfl,?_,tR,rfl⟩
    exact (OD h1 h2 (adi h3)).symm
   ·have h3:=adj h3
    refine x.back rfl ?_ ⟨⟨b+1,by omega,fun c hc=>?_⟩,by show i-(b+1)<i-b;omega,⟨au rfl,rfl,rfl,rfl,rfl,(show aG (vi ((b:Int)+1)) (vi ((b+1:Nat):Int)) by rw[ads];rfl),tR⟩,tR,rfl⟩
    ·simp only[aj,ak];omega
    ·by_cases e:c=b
     ·rw[e];omega
     ·exact hd2 c (by omega)
  ·have h2:b=i:=by have:=adj h2;omega
   subst h2
   refine x.back rfl ?_ ⟨⟨b+1,by omega,fun a c ha hc=>?_⟩,by show up.length-(b+1)<up.length-b;omega,⟨au rfl,rfl,(show aG (vi ((b:Int)+1)) (vi ((b+1:Nat):Int)) by rw[ads];rfl),tR⟩,tR,rfl⟩
   ·simp only[aj,ak];omega
   ·by_cases e:a=b
    ·subst e;exact hd2 c hc
    ·exact hdone a c (by omega) hc
 ·have h1:i=up.length:=by have:=adj h1;omega
  subst h1
  refine x.exit rfl tR ⟨.inr rfl,?_,tR,rfl⟩
  show true=zD up
  rw[eq_comm,zD,List.all_eq_true]
  intro a ha
  rw[List.all_eq_true]
  intro b hb
  exact decide_eq_true (hdone a b (List.mem_range.1 ha) (List.mem_range.1 hb))
theorem Gy (up:List M64) (h64:up.length≤64) (hin:∀i,i<up.length->InU up.length (upA up i)):Pure PG 117 [vU up] (vU (iq up)) []:=by
 have h:=Pure.froze (LV up h64 hin)
 unfold vU dUp
 rw[sO]
 exact h
theorem CJ (up:List M64) (hl:ak (up.length:Int)):Pure PG 70 [vU up] (vb (eZ up)) []:=by
 refine aI.mk (cfg 16) av [] Tryz.func70 rfl (by kernel_rfl) rfl rfl rfl ?_
 intro C x
 refine x.pure rfl tR rfl (OC up hl) ⟨au rfl,tR⟩ ?_
 refine x.cond rfl tR (fun h=>?_) (fun h=>?_)
 ·have h:(!eY up)=true:=h
  refine x.exit rfl tR ⟨.inr rfl,?_,tR,rfl⟩
  show false=eZ up
  rw[eZ,show eY up=false by simpa using h];rfl
 have ho:eY up=true:=by
  have h:(!eY up)=false:=h
  simpa using h
 have h64:=(qV ho).2
 have hin:∀i,i<up.length->InU up.length (upA up i):=fun i hi=>H8 ho hi
 have ht64:(iq up).length≤64:=by rw[sO];exact h64
 refine x.pure rfl tR rfl (Ia up h64 hin) ⟨au rfl,tR⟩ ?_
 refine x.gW rfl tR rfl (fun _=>Gy up h64 hin) rfl ⟨au rfl,tR⟩ ?_
 refine x.gW rfl tR rfl (fun _=>Ia (iq up) ht64 fun i hi=>OA (by rw[←sO up];exact hi)) rfl ⟨au rfl,tR⟩ ?_
 refine x.exit rfl tR ⟨.inr rfl,?_,tR,rfl⟩
 show aG (vb (zD up&&zD (iq up))) (vb (eZ up))
 rw[eZ,ho];exact rfl
def aam (ps:List (Nat×Nat)):D:=.sl 2 ps.length fun i=>[.int .i64 ((ps.getD i (0,0)).1:Int), .int .i64 ((ps.getD i (0,0)).2:Int)]
abbrev Fu (ps:List (Nat×Nat)):V:=.d (aam ps)
def aT (ps:List (Nat×Nat)) (r:Nat):M64:=ofP fun j=>decide (j=r)||decide ((r,j)∈ps)
def Ib (f:Nat->M64) (k i:Nat):Nat->M64:=fun r=>if r=i then (if bit (f i) k then f i||| f k else f i) else f r
def qW (f:Nat->M64) (k:Nat):Nat->Nat->M64
 | 0=>f
 | i+1=>Ib (qW f k i) k i
def mR (n:Nat) (f:Nat->M64):Nat->Nat->M64
 | 0=>f
 | k+1=>qW (mR n f k) k n
def closed (n:Nat) (ps:List (Nat×Nat)):Nat->M64:=mR n (aT ps) n
def fu (n:Nat) (ps:List (Nat×Nat)):List M64:=(List.range n).map (closed n ps)
theorem qX (n:Nat) (ps:List (Nat×Nat)):(fu n ps).length=n:=by simp [fu]
theorem LX {n:Nat} {ps:List (Nat×Nat)} {i:Nat} (hi:i<n):upA (fu n ps) i=closed n ps i:=by
 unfold upA fu
 rw[adf,List.getElem?_map,List.getElem?_range hi];rfl
theorem OE {i:Nat} (hi:i<64):vw 0#64 (i:Int)=one i:=vo fun j hj=>by
 rw[Bf,sM hi]
 by_cases h:j=i
 ·subst h;simp [hj,bit]
 ·have:¬((j:Int)=(i:Int)):=by omega
  simp [h,this,bit]
theorem LY {r:Nat} (hr:r<64):aT [] r=one r:=vo fun j hj=>by
 unfold aT
 rw[gK _ hj,sM hr]
 simp
theorem Jv {ps:List (Nat×Nat)} {a b r:Nat} (hb:b<64):aT (ps++[(a,b)]) r=if r=a then vw (aT ps a) (b:Int) else aT ps r:=by
 refine vo fun j hj=>?_
 unfold aT
 rw[gK _ hj]
 split
 ·rename_i e
  subst e
  rw[Bf,gK _ hj]
  by_cases h:j=b
  ·subst h;simp [hj]
  ·have:¬((j:Int)=(b:Int)):=by omega
   simp [h,this]
 ·rename_i e
  rw[gK _ hj]
  simp [e]
theorem OG (n:Nat) (ps:List (Nat×Nat)) (h1:1≤n) (h64:n≤64) (hps:∀p∈ps,p.1<n∧p.2<n) (hl:ak (ps.length:Int)) :
  Pure PG 41 [vi (n:Int),Fu ps] (.tup [vU (if eZ (fu n ps) then fu n ps else []),vi (if eZ (fu n ps) then 0 else 11)]) []:=by
 refine aI.mk (cfg 99) av [] Tryz.func41 rfl (by kernel_rfl) rfl rfl rfl ?_
 intro C x
 unfold ak at hl
 refine x.cond rfl tR (fun h=>?_) (fun _=>?_)
 ·have h:(decide ((n:Int)<1)||decide (64<(n:Int)))=true:=h
  simp only[Bool.or_eq_true,adn] at h
  omega
 refine x.loop (α:={i:Nat // i≤n}) (fun y=>⟨[(0,vi (n:Int)),(1,Fu ps),(6, .own 0),(20,vi (n:Int)),(21,vi (y.1:Int))],[(0,Bh n fun r=>if r<y.1 then one r else 0#64)],1⟩) (fun y=>n-y.1) ⟨0,by omega⟩ rfl ?_ ?_ (fun y=>?_)
 ·simp only[aj,big,adv];omega
 ·refine⟨⟨rfl,au rfl,rfl,rfl,rfl,tR⟩,⟨⟨rfl,rfl,adv _,fun r hr=>?_⟩,tR⟩,rfl⟩
  show [D.int .u64 0]=[dm (if r<0 then one r else 0#64)]
  rw[if_neg (by omega)];rfl
 obtain⟨i,hi⟩:=y
 change Go C _ ⟨[(0,vi (n:Int)),(1,Fu ps),(6, .own 0),(20,vi (n:Int)),(21,vi (i:Int))],[(0,Bh n fun r=>if r<i then one r else 0#64)],1⟩ _
 refine x.cond rfl tR (fun h2=>?_) (fun h2=>?_)
 ·have h2:i<n:=by have:=adi h2;omega
  refine x.pure rfl tR rfl (Bd 0#64 i) ⟨rfl,rfl,tR⟩ ?_
  refine x.back rfl ?_ ⟨⟨i+1,by omega⟩,by show n-(i+1)<n-i;omega,?_⟩
  ·simp only[aj,List.length,adv,ak];omega
  ·refine⟨⟨rfl,au rfl,rfl,rfl,(show aG (vi ((i:Int)+1)) (vi ((i+1:Nat):Int)) by rw[ads];rfl),tR⟩,⟨⟨rfl,rfl,rfl,fun r hr=>?_⟩,tR⟩,rfl⟩
   show Gj (fun r=>[dm (if r<i then one r else 0#64)]) i 0 [dm (vw 0#64 (i:Int))] r=[dm (if r<i+1 then one r else 0#64)]
   rw[qM,OE (by omega)]
   show [D.int .u64 (if r=i then _ else _)]=_
   by_cases e:r=i
   ·rw[if_pos e,if_pos (by omega),e]
   ·rw[if_neg e]
    by_cases e2:r<i
    ·rw[if_pos e2,if_pos (by omega)]
    ·rw[if_neg e2,if_neg (by omega)]
 have h2:i=n:=by have:=adj h2;omega
 subst h2
 refine x.loop (α:={j:Nat // j≤ps.length}) (fun y=>⟨[(0,vi (i:Int)),(6, .own 0),(30,Fu ps),(31,vi (ps.length:Int)),(32,vi (y.1:Int))],[(0,Bh i fun r=>aT (ps.take y.1) r)],1⟩) (fun y=>ps.length-y.1) ⟨0,by omega⟩ rfl tR ?_ (fun y=>?_)
 ·refine⟨⟨rfl,rfl,au rfl,rfl,rfl,tR⟩,⟨⟨rfl,rfl,rfl,fun r hr=>?_⟩,tR⟩,rfl⟩
  show [dm (if r<i then one r else 0#64)]=[dm (aT [] r)]
  rw[if_pos hr,LY (by omega)]
 obtain⟨j,hj⟩:=y
 change Go C _ ⟨[(0,vi (i:Int)),(6, .own 0),(30,Fu ps),(31,vi (ps.length:Int)),(32,vi (j:Int))],[(0,Bh i fun r=>aT (ps.take j) r)],1⟩ _
 refine x.cond rfl tR (fun h3=>?_) (fun h3=>?_)
 ·have h3:j<ps.length:=by have:=adi h3;omega
  have hgD:ps.getD j (0,0)=ps[j]:=by rw[adf,adh h3];rfl
  obtain⟨p1,p2⟩:=hps _ (List.getElem_mem h3)
  have hq:ps.getD j (0,0)∈ps:=by rw[hgD];exact List.getElem_mem h3
  obtain⟨p1,p2⟩:=hps _ hq
  refine x.cond rfl ?_ (fun h=>?_) (fun _=>?_)
  ·simp only[aj]
   exact⟨by omega,by decide,by decide,fun _=>by decide,fun _=>by decide,fun _=>by decide,fun _=>by decide,fun _=>by decide,fun _=>by decide⟩
  ·exfalso
   have h:(((decide (((ps.getD j (0,0)).1:Int)<0)||decide ((i:Int)≤((ps.getD j (0,0)).1:Int)))||decide (((ps.getD j (0,0)).2:Int)<0))||decide ((i:Int)≤((ps.getD j (0,0)).2:Int)))=true:=h
   simp only[Bool.or_eq_true,adn] at h
   omega
  refine x.plan [0,3] [1,2,4,5,6,7,8,9,10,11] [12] rfl tR ay (by kernel_rfl) Ret.bT ?_
  refine x.qL rfl ?_ rfl (Bd (aT (ps.take j) (ps.getD j (0,0)).1) (ps.getD j (0,0)).2) rfl rfl ⟨rfl,rfl,tR⟩ ?_
  ·simp only[aj,adv]
   exact⟨by decide,by decide,by decide,by decide,⟨by omega,by omega⟩,p1,by decide,by decide⟩
  refine x.dW rfl (by simp only[aj,adv];omega) ?_
  refine x.back rfl ?_ ⟨⟨j+1,by omega⟩,by show ps.length-(j+1)<ps.length-j;omega,?_⟩
  ·simp only[aj,List.length,adv,ak];omega
  ·refine⟨⟨rfl,rfl,au rfl,rfl,(show aG (vi ((j:Int)+1)) (vi ((j+1:Nat):Int)) by rw[ads];rfl),tR⟩,⟨⟨rfl,rfl,rfl,fun r hr=>?_⟩,tR⟩,rfl⟩
   show Gj (fun r=>[dm (aT (ps.take j) r)]) (ps.getD j (0,0)).1 0 [dm (vw (aT (ps.take j) (ps.getD j (0,0)).1) ((ps.getD j (0,0)).2:Int))] r=[dm (aT (ps.take (j+1)) r)]
   have e:ps.take (j+1)=ps.take j++[((ps.getD j (0,0)).1,(ps.getD j (0,0)).2)]:=by rw[take_succ (a:=ps[j]) (adh h3),hgD]
   rw[qM,e,Jv (by omega)]
   show [D.int .u64 (if r=_ then _ else _)]=[dm (if r=_ then _ else _)]
   split<;>rfl
 have h3:j=ps.length:=by have:=adj h3;omega
 refine x.loop (α:={k:Nat // k≤i}) (fun y=>⟨[(0,vi (i:Int)),(6, .own 0),(69,vi (i:Int)),(70,vi (y.1:Int))],[(0,Bh i fun r=>mR i (aT ps) y.1 r)],1⟩) (fun y=>i-y.1) ⟨0,by omega⟩ rfl tR ?_ (fun y=>?_)
 ·refine⟨⟨rfl,rfl,rfl,rfl,tR⟩,⟨⟨rfl,rfl,rfl,fun r hr=>?_⟩,tR⟩,rfl⟩
  show [dm (aT (ps.take j) r)]=[dm (aT ps r)]
  rw[h3,List.take_length]
 obtain⟨k,hk⟩:=y
 change Go C _ ⟨[(0,vi (i:Int)),(6, .own 0),(69,vi (i:Int)),(70,vi (k:Int))],[(0,Bh i fun r=>mR i (aT ps) k r)],1⟩ _
 refine x.cond rfl tR (fun h4=>?_) (fun h4=>?_)
 ·have h4:k<i:=by have:=adi h4;omega
  refine x.loop (α:={m:Nat // m≤i}) (fun y=>⟨[(0,vi (i:Int)),(6, .own 0),(10,vi (k:Int)),(69,vi (i:Int)),(70,vi (k:Int)),(73,vi (i:Int)),(74,vi (y.1:Int))],[(0,Bh i fun r=>qW (mR i (aT ps) k) k y.1 r)],1⟩) (fun y=>i-y.1) ⟨0,by omega⟩ rfl tR ?_ (fun y=>?_)
  ·exact⟨⟨rfl,rfl,rfl,rfl,rfl,rfl,rfl,tR⟩,⟨⟨rfl,rfl,rfl,fun r hr=>rfl⟩,tR⟩,rfl⟩
  obtain⟨m,hm⟩:=y
  change Go C _ ⟨[(0,vi (i:Int)),(6, .own 0),(10,vi (k:Int)),(69,vi (i:Int)),(70,vi (k:Int)),(73,vi (i:Int)),(74,vi (m:Int))],[(0,Bh i fun r=>qW (mR i (aT ps) k) k m r)],1⟩ _
  refine x.cond rfl tR (fun h5=>?_) (fun h5=>?_)
  ·have h5:m<i:=by have:=adi h5;omega
   refine x.pure rfl ?_ rfl (Fg (qW (mR i (aT ps) k) k m m) k) ⟨rfl,rfl,tR⟩ ?_
   ·simp only[aj];omega
   refine x.cond rfl tR (fun h6=>?_) (fun h6=>?_)
   ·have h6:Gw (qW (mR i (aT ps) k) k m m) (k:Int)=true:=h6
    rw[vv] at h6
    refine x.plan [0,1,4,5] [2,3,6,7,8,9] [10] rfl tR ay (by kernel_rfl) Ret.bT ?_
    refine x.dW rfl (by simp only[aj];omega) ?_
    refine x.back rfl ?_ ⟨⟨m+1,by omega⟩,by show i-(m+1)<i-m;omega,?_⟩
    ·simp only[aj,List.length,adv,ak];omega
    ·refine⟨⟨rfl,rfl,rfl,rfl,rfl,rfl,(show aG (vi ((m:Int)+1)) (vi ((m+1:Nat):Int)) by rw[ads];rfl),tR⟩,⟨⟨rfl,rfl,rfl,fun r hr=>?_⟩,tR⟩,rfl⟩
     show Gj (fun r=>[dm (qW (mR i (aT ps) k) k m r)]) m 0 [D.int .u64 (jJ .or .u64 ((qW (mR i (aT ps) k) k m m).toNat:Int) ((qW (mR i (aT ps) k) k m k).toNat:Int))] r=[dm (Ib (qW (mR i (aT ps) k) k m) k m r)]
     rw[qM,aak,Ib,if_pos h6]
     show [D.int .u64 (if r=_ then _ else _)]=[dm (if r=_ then _ else _)]
     split<;>rfl
   ·have h6:Gw (qW (mR i (aT ps) k) k m m) (k:Int)=false:=h6
    rw[vv] at h6
    refine x.back rfl ?_ ⟨⟨m+1,by omega⟩,by show i-(m+1)<i-m;omega,?_⟩
    ·simp only[aj,ak];omega
    ·refine⟨⟨rfl,rfl,rfl,rfl,rfl,rfl,(show aG (vi ((m:Int)+1)) (vi ((m+1:Nat):Int)) by rw[ads];rfl),tR⟩,⟨⟨rfl,rfl,rfl,fun r hr=>?_⟩,tR⟩,rfl⟩
     show [dm (qW (mR i (aT ps) k) k m r)]=[dm (Ib (qW (mR i (aT ps) k) k m) k m r)]
     rw[Ib,h6]
     split
     ·rename_i e;rw[e];rfl
     ·rfl
  ·have h5:m=i:=by have:=adj h5;omega
   refine x.back rfl ?_ ⟨⟨k+1,by omega⟩,by show i-(k+1)<i-k;omega,?_⟩
   ·simp only[aj,ak];omega
   ·refine⟨⟨rfl,rfl,rfl,(show aG (vi ((k:Int)+1)) (vi ((k+1:Nat):Int)) by rw[ads];rfl),tR⟩,⟨⟨rfl,rfl,rfl,fun r hr=>?_⟩,tR⟩,rfl⟩
    show [dm (qW (mR i (aT ps) k) k m r)]=[dm (qW (mR i (aT ps) k) k i r)]
    rw[h5]
 have h4:k=i:=by have:=adj h4;omega
 have hrow:∀r,r<i->[dm (mR i (aT ps) k r)]=[dm (upA (fu i ps) r)]:=fun r hr=>by rw[LX hr,closed,h4]
 have hR:Pure PG 70 [.d (.sl 1 i fun r=>[dm (mR i (aT ps) k r)])] (vb (eZ (fu i ps))) []:=by
  have h:=CJ (fu i ps) (by rw[qX];unfold ak;omega)
  refine Pure.args (args:=[vU (fu i ps)]) h ⟨⟨(qX i ps).symm,fun _=>rfl,fun r hr=>hrow r hr⟩,tR⟩ rfl
 refine x.call [0] rfl tR rfl (Pure.borrow [Bh i fun r=>mR i (aT ps) k r] hR (args:=[.own 0]) rfl rfl rfl) rfl ⟨rfl,tR⟩ ⟨⟨rfl,rfl,rfl,fun _ _=>rfl⟩,tR⟩ ?_
 refine x.cond rfl tR (fun h7=>?_) (fun h7=>?_)
 ·have h7:(!eZ (fu i ps))=true:=h7
  have h7:eZ (fu i ps)=false:=by simpa using h7
  refine x.exit rfl tR ⟨.inr rfl,?_,tR,rfl⟩
  rw[h7]
  exact⟨rfl,rfl,tR⟩
 ·have h7:(!eZ (fu i ps))=false:=h7
  have h7:eZ (fu i ps)=true:=by simpa using h7
  refine Sx.Go.freeze 0 ?_
  refine x.exit rfl tR ⟨.inr rfl,?_,tR,rfl⟩
  rw[h7]
  refine⟨⟨(qX i ps).symm,fun _=>rfl,fun r hr=>hrow r hr⟩,rfl,tR⟩
theorem gL {α:Type} (d:α->List D) (N:Nat) (hd:∀a,(d a).length=N) (x0:α) (xs:List α) (x:α) (j:Nat) (hj:j<xs.length+1):app xs.length (fun i=>d (xs.getD i x0)) (fun _=>d x) j=d ((xs++[x]).getD j x0):=by
 unfold app
 show cB (j<xs.length) (d (xs.getD j x0)) (d x)=_
 by_cases h:j<xs.length
 ·rw[Go.Sx.jZ h,adf,adf,List.getElem?_append_left h]
 ·have e:j=xs.length:=by omega
  rw[Go.Sx.j3 h,adf (l:=xs++[x]),List.getElem?_append_right (by omega),e,Nat.sub_self]
  rfl
structure Rdr where
 lev:List ByteArray
 ins:List Chan
 outs:List Chan
 depth:Int
 flows:List (Nat×Nat)
abbrev VT (l:List ByteArray):Ch:=.vec 9 1 l.length fun i=>[.str (l.getD i .empty)]
abbrev Gz (l:List Chan):Ch:=.vec 162 2 l.length fun i=>[.str (l.getD i aZ).1, .int .i64 (l.getD i aZ).2]
abbrev VU (l:List (Nat×Nat)):Ch:=.vec 180 2 l.length fun i=>[.int .i64 ((l.getD i (0,0)).1:Int), .int .i64 ((l.getD i (0,0)).2:Int)]
abbrev LZ (k:Int):Ch:=.box [.own 1, .aB, .own 2, .own 3,vi k, .own 4]
abbrev rdH (r:Rdr):List Ch:=[LZ r.depth,VT r.lev,Gz r.ins,Gz r.outs,VU r.flows]
structure Small (r:Rdr):Prop where
 lev:r.lev.length≤64
 ins:r.ins.length≤32
 outs:r.outs.length≤32
 flows:r.flows.length≤100000
 depth:ak r.depth
theorem Small.i64 {r:Rdr} (h:Small r):ak (r.lev.length:Int)∧ak (r.ins.length:Int)∧ak (r.outs.length:Int)∧ak (r.flows.length:Int):=by
 have h1:=h.lev
 have h2:=h.ins
 have h3:=h.outs
 have h4:=h.flows
 unfold ak;omega
def w_ (w:List ByteArray) (k:Nat):ByteArray:=w.getD k .empty
theorem aan {ops:Array Oper} {g:Cfg} {rs:List ResultVar} {ids:List Nat} {r:V} {H':List Ch}:qj ops (Ret g rs ids r H'):=fU.quiet (o:=.ret r H')
theorem d9 {k:Int}:lS (LZ k) ((LZ k).map (bZ [0,1,2,3,4])):=⟨rfl,tR,rfl,rfl,rfl,rfl,tR⟩
theorem aK {e:TypeId} {sz n:Nat} {f:Nat->List D} {is:List Nat}:lS (.vec e sz n f) ((Ch.vec e sz n f).map (bZ is)):=⟨rfl,rfl,rfl,fun _ _=>rfl⟩
def oF (r:Rdr) (w:List ByteArray):Rdr×Int:=
 if 0≤bE r.lev (w_ w 0) then (r,9) else if r.lev.length=64 then (r,3) else ({r with lev:=r.lev++[w_ w 0]},0)
theorem L6 (r:Rdr) (w:List ByteArray) (hr:Small r) (hw:1≤w.length):aI PG 134 1 [.ptr 0 0,vSs w] (rdH r) (vi (oF r w).2) (rdH (oF r w).1):=by
 obtain⟨i1,i2,i3,i4⟩:=hr.i64
 refine aI.mk (dG 40 1) av [0,1,2,3,4] Tryz.func134 rfl (by kernel_rfl) rfl rfl (by
  simp only[oF];split<;>(try split)<;>rfl) ?_
 intro C x
 refine x.quiet rfl tR ay (by kernel_rfl) ?_
 refine x.yc rfl ?_ rfl (jo r.lev (w_ w 0) i1) rfl rfl ⟨⟨ah rfl,rfl,rfl,rfl,rfl,tR⟩,rfl,tR⟩ ?_
 ·simp only[aj];omega
 refine x.dW rfl tR ?_
 refine x.cond rfl tR (fun h1=>?_) (fun h1=>?_)
 ·have h1:0≤bE r.lev (w_ w 0):=adi h1
  refine x.exit rfl tR ?_
  rw[oF,if_pos h1]
  exact⟨.inr rfl,rfl,⟨d9,aK,aK,aK,aK,tR⟩,rfl⟩
 have h1:¬0≤bE r.lev (w_ w 0):=adj h1
 refine x.cond rfl tR (fun h2=>?_) (fun h2=>?_)
 ·have h2:r.lev.length=64:=by have:=adi h2;omega
  refine x.exit rfl tR ?_
  rw[oF,if_neg h1,if_pos h2]
  exact⟨.inr rfl,rfl,⟨d9,aK,aK,aK,aK,tR⟩,rfl⟩
 have h2:¬r.lev.length=64:=by have:=adj h2;omega
 refine x.draw [] [0,1,6] [2,3,4,5] [7,8,9] [10,11,12,13,14] rfl tR ay (by kernel_rfl) aan rfl tR (fun C1 x1=>?_)
 refine x1.back rfl ?_ ?_
 ·simp only[aj];omega
 refine x1.back rfl tR ?_
 refine x1.back rfl tR ?_
 have aao:=hr.lev
 refine x.exit rfl (by simp only[aj,big];omega) ?_
 rw[oF,if_neg h1,if_neg h2]
 exact⟨.inr rfl,rfl,⟨d9,⟨rfl,rfl,by simp,fun j hj=>gL (fun t=>[D.str t]) 1 (fun _=>rfl) .empty r.lev (w_ w 0) j hj⟩,aK,aK,aK,tR⟩,rfl⟩
def xG (r:Rdr) (w:List ByteArray):Rdr×Int:=
 if 0≤bE r.lev (w_ w 0)∧0≤bE r.lev (w_ w 1) then ({r with flows:=r.flows++[((bE r.lev (w_ w 0)).toNat,(bE r.lev (w_ w 1)).toNat)]},0) else (r,10)
theorem VW {k:Int} (h:0≤k):(if 0 > k then 0 else k)=((k.toNat:Nat):Int):=by rw[if_neg (by omega)];omega
theorem OH (r:Rdr) (w:List ByteArray) (hr:Small r) (hw:2≤w.length):aI PG 135 1 [.ptr 0 0,vSs w] (rdH r) (vi (xG r w).2) (rdH (xG r w).1):=by
 obtain⟨i1,i2,i3,i4⟩:=hr.i64
 refine aI.mk (dG 49 1) av [0,1,2,3,4] Tryz.func135 rfl (by kernel_rfl) rfl rfl (by
  simp only[xG];split<;>rfl) ?_
 intro C x
 refine x.quiet rfl tR ay (by kernel_rfl) ?_
 refine x.yc rfl ?_ rfl (jo r.lev (w_ w 0) i1) rfl rfl ⟨⟨ah rfl,rfl,rfl,rfl,rfl,tR⟩,rfl,tR⟩ ?_
 ·simp only[aj];omega
 refine x.dW rfl tR ?_
 refine x.quiet rfl tR ay (by kernel_rfl) ?_
 refine x.yc rfl ?_ rfl (jo r.lev (w_ w 1) i1) rfl rfl ⟨⟨ah rfl,rfl,rfl,rfl,rfl,tR⟩,rfl,tR⟩ ?_
 ·simp only[aj];omega
 refine x.dW rfl tR ?_
 refine x.cond rfl tR (fun h1=>?_) (fun h1=>?_)
 ·have h1:(!decide (0≤bE r.lev (w_ w 0))||!decide (0≤bE r.lev (w_ w 1)))=true:=h1
  have h1:¬(0≤bE r.lev (w_ w 0)∧0≤bE r.lev (w_ w 1)):=fun ⟨a,b⟩=>by rw[decide_eq_true a,decide_eq_true b] at h1;cases h1
  refine x.exit rfl tR ?_
  rw[xG,if_neg h1]
  exact⟨.inr rfl,rfl,⟨d9,aK,aK,aK,aK,tR⟩,rfl⟩
 have h1:(!decide (0≤bE r.lev (w_ w 0))||!decide (0≤bE r.lev (w_ w 1)))=false:=h1
 simp only[adw,Bool.not_eq_false',adn] at h1
 have hfl:=hr.flows
 refine x.exit rfl (by simp only[aj,big];omega) ?_
 rw[xG,if_pos h1]
 refine⟨.inr rfl,rfl,⟨d9,aK,aK,aK,⟨rfl,rfl,by simp,fun j hj=>?_⟩,tR⟩,rfl⟩
 have:=gL (fun t:Nat×Nat=>[D.int .i64 (t.1:Int),D.int .i64 (t.2:Int)]) 2 (fun _=>rfl) (0,0) r.flows ((bE r.lev (w_ w 0)).toNat,(bE r.lev (w_ w 1)).toNat) j hj
 refine Eq.trans ?_ this
 show app _ _ (fun _=>[D.int .i64 (if 0 > bE r.lev (w_ w 0) then 0 else bE r.lev (w_ w 0)),D.int .i64 (if 0 > bE r.lev (w_ w 1) then 0 else bE r.lev (w_ w 1))]) j=_
 rw[VW h1.1,VW h1.2]
def kX (lev:List ByteArray) (l:List Chan) (w:List ByteArray):Int:=
 if 0≤fV l (w_ w 0) then 9 else if ¬0≤bE lev (w_ w 1) then 10 else if l.length=32 then 3 else 0
def jO (lev:List ByteArray) (l:List Chan) (w:List ByteArray):List Chan:=if kX lev l w=0 then l++[(w_ w 0,bE lev (w_ w 1))] else l
theorem L8 (r:Rdr) (w:List ByteArray) (hr:Small r) (hw:2≤w.length):aI PG 176 1 [.ptr 0 0, .ptr 0 2,vSs w] (rdH r) (vi (kX r.lev r.ins w)) (rdH {r with ins:=jO r.lev r.ins w}):=by
 obtain⟨i1,i2,i3,i4⟩:=hr.i64
 refine aI.mk (dG 52 1) av [0,1,2,3,4] Tryz.func176 rfl (by kernel_rfl) rfl rfl rfl ?_
 intro C x
 refine x.quiet rfl tR ay (by kernel_rfl) ?_
 refine x.yc rfl ?_ rfl (oD r.ins (w_ w 0) i2) rfl rfl ⟨au rfl,rfl,rfl,tR⟩ ?_
 ·simp only[aj];omega
 refine x.dW rfl tR ?_
 refine x.cond rfl tR (fun h1=>?_) (fun h1=>?_)
 ·have h1:0≤fV r.ins (w_ w 0):=adi h1
  refine x.exit rfl tR ?_
  rw[jO,kX,if_pos h1,if_neg (by decide)]
  exact⟨.inr rfl,rfl,⟨d9,aK,aK,aK,aK,tR⟩,rfl⟩
 have h1:¬0≤fV r.ins (w_ w 0):=adj h1
 refine x.quiet rfl tR ay (by kernel_rfl) ?_
 refine x.yc rfl ?_ rfl (jo r.lev (w_ w 1) i1) rfl rfl ⟨⟨ah rfl,rfl,rfl,rfl,rfl,tR⟩,rfl,tR⟩ ?_
 ·simp only[aj];omega
 refine x.dW rfl tR ?_
 refine x.cond rfl tR (fun h2=>?_) (fun h2=>?_)
 ·have h2:(!decide (0≤bE r.lev (w_ w 1)))=true:=h2
  have h2:¬0≤bE r.lev (w_ w 1):=fun a=>by rw[decide_eq_true a] at h2;cases h2
  refine x.exit rfl tR ?_
  rw[jO,kX,if_neg h1,if_pos h2,if_neg (by decide)]
  exact⟨.inr rfl,rfl,⟨d9,aK,aK,aK,aK,tR⟩,rfl⟩
 have h2:(!decide (0≤bE r.lev (w_ w 1)))=false:=h2
 have h2:0≤bE r.lev (w_ w 1):=by simpa using h2
 refine x.cond rfl tR (fun h3=>?_) (fun h3=>?_)
 ·have h3:r.ins.length=32:=by have:=adi h3;omega
  refine x.exit rfl tR ?_
  rw[jO,kX,if_neg h1,if_neg (fun h=>h h2),if_pos h3,if_neg (by decide)]
  exact⟨.inr rfl,rfl,⟨d9,aK,aK,aK,aK,tR⟩,rfl⟩
 have h3:¬r.ins.length=32:=by have:=adj h3;omega
 have hlen:=hr.ins
 refine x.draw [] [0,1,4,7] [2,3] [5,6,8,9] [10,11,12] rfl tR ay (by kernel_rfl) aan rfl tR (fun C1 x1=>?_)
 refine x1.back rfl ?_ ?_
 ·simp only[aj];omega
 refine x1.back rfl tR ?_
 refine x1.back rfl tR ?_
 refine x1.back rfl tR ?_
 refine x.exit rfl (by simp only[aj,big];omega) ?_
 rw[jO,kX,if_neg h1,if_neg (fun h=>h h2),if_neg h3,if_pos rfl]
 refine⟨.inr rfl,rfl,⟨d9,aK,⟨rfl,rfl,by simp,fun j hj=>?_⟩,aK,aK,tR⟩,rfl⟩
 have:=gL (fun t:Chan=>[D.str t.1,D.int .i64 t.2]) 2 (fun _=>rfl) aZ r.ins (w_ w 0,bE r.lev (w_ w 1)) j hj
 refine Eq.trans ?_ this
 show app _ _ (fun _=>[D.str (w_ w 0),D.int .i64 (if 0 > bE r.lev (w_ w 1) then 0 else bE r.lev (w_ w 1))]) j=_
 rw[if_neg (by omega)]
theorem L9 (r:Rdr) (w:List ByteArray) (hr:Small r) (hw:2≤w.length):aI PG 136 1 [.ptr 0 0,vSs w] (rdH r) (vi (kX r.lev r.ins w)) (rdH {r with ins:=jO r.lev r.ins w}):=by
 refine aI.mk (dG 12 1) av [0,1,2,3,4] Tryz.func136 rfl (by kernel_rfl) rfl rfl rfl ?_
 intro C x
 refine x.call [0,1,2,3,4] rfl tR rfl (L8 r w hr hw) rfl ⟨⟨rfl,rfl⟩,⟨rfl,rfl⟩,au rfl,tR⟩ ⟨d9,aK,aK,aK,aK,tR⟩ ?_
 exact x.exit rfl tR ⟨.inr rfl,rfl,⟨d9,aK,aK,aK,aK,tR⟩,rfl⟩
theorem Ma (r:Rdr) (w:List ByteArray) (hr:Small r) (hw:2≤w.length):aI PG 176 1 [.ptr 0 0, .ptr 0 3,vSs w] (rdH r) (vi (kX r.lev r.outs w)) (rdH {r with outs:=jO r.lev r.outs w}):=by
 obtain⟨i1,i2,i3,i4⟩:=hr.i64
 refine aI.mk (dG 52 1) av [0,1,2,3,4] Tryz.func176 rfl (by kernel_rfl) rfl rfl rfl ?_
 intro C x
 refine x.quiet rfl tR ay (by kernel_rfl) ?_
 refine x.yc rfl ?_ rfl (oD r.outs (w_ w 0) i3) rfl rfl ⟨au rfl,rfl,rfl,tR⟩ ?_
 ·simp only[aj];omega
 refine x.dW rfl tR ?_
 refine x.cond rfl tR (fun h1=>?_) (fun h1=>?_)
 ·have h1:0≤fV r.outs (w_ w 0):=adi h1
  refine x.exit rfl tR ?_
  rw[jO,kX,if_pos h1,if_neg (by decide)]
  exact⟨.inr rfl,rfl,⟨d9,aK,aK,aK,aK,tR⟩,rfl⟩
 have h1:¬0≤fV r.outs (w_ w 0):=adj h1
 refine x.quiet rfl tR ay (by kernel_rfl) ?_
 refine x.yc rfl ?_ rfl (jo r.lev (w_ w 1) i1) rfl rfl ⟨⟨ah rfl,rfl,rfl,rfl,rfl,tR⟩,rfl,tR⟩ ?_
 ·simp only[aj];omega
 refine x.dW rfl tR ?_
 refine x.cond rfl tR (fun h2=>?_) (fun h2=>?_)
 ·have h2:(!decide (0≤bE r.lev (w_ w 1)))=true:=h2
  have h2:¬0≤bE r.lev (w_ w 1):=fun a=>by rw[decide_eq_true a] at h2;cases h2
  refine x.exit rfl tR ?_
  rw[jO,kX,if_neg h1,if_pos h2,if_neg (by decide)]
  exact⟨.inr rfl,rfl,⟨d9,aK,aK,aK,aK,tR⟩,rfl⟩
 have h2:(!decide (0≤bE r.lev (w_ w 1)))=false:=h2
 have h2:0≤bE r.lev (w_ w 1):=by simpa using h2
 refine x.cond rfl tR (fun h3=>?_) (fun h3=>?_)
 ·have h3:r.outs.length=32:=by have:=adi h3;omega
  refine x.exit rfl tR ?_
  rw[jO,kX,if_neg h1,if_neg (fun h=>h h2),if_pos h3,if_neg (by decide)]
  exact⟨.inr rfl,rfl,⟨d9,aK,aK,aK,aK,tR⟩,rfl⟩
 have h3:¬r.outs.length=32:=by have:=adj h3;omega
 have hlen:=hr.outs
 refine x.draw [] [0,1,4,7] [2,3] [5,6,8,9] [10,11,12] rfl tR ay (by kernel_rfl) aan rfl tR (fun C1 x1=>?_)
 refine x1.back rfl ?_ ?_
 ·simp only[aj];omega
 refine x1.back rfl tR ?_
 refine x1.back rfl tR ?_
 refine x1.back rfl tR ?_
 refine x.exit rfl (by simp only[aj,big];omega) ?_
 rw[jO,kX,if_neg h1,if_neg (fun h=>h h2),if_neg h3,if_pos rfl]
 refine⟨.inr rfl,rfl,⟨d9,aK,aK,⟨rfl,rfl,by simp,fun j hj=>?_⟩,aK,tR⟩,rfl⟩
 have:=gL (fun t:Chan=>[D.str t.1,D.int .i64 t.2]) 2 (fun _=>rfl) aZ r.outs (w_ w 0,bE r.lev (w_ w 1)) j hj
 refine Eq.trans ?_ this
 show app _ _ (fun _=>[D.str (w_ w 0),D.int .i64 (if 0 > bE r.lev (w_ w 1) then 0 else bE r.lev (w_ w 1))]) j=_
 rw[if_neg (by omega)]
theorem Jw (r:Rdr) (w:List ByteArray) (hr:Small r) (hw:2≤w.length):aI PG 137 1 [.ptr 0 0,vSs w] (rdH r) (vi (kX r.lev r.outs w)) (rdH {r with outs:=jO r.lev r.outs w}):=by
 refine aI.mk (dG 12 1) av [0,1,2,3,4] Tryz.func137 rfl (by kernel_rfl) rfl rfl rfl ?_
 intro C x
 refine x.call [0,1,2,3,4] rfl tR rfl (Ma r w hr hw) rfl ⟨⟨rfl,rfl⟩,⟨rfl,rfl⟩,au rfl,tR⟩ ⟨d9,aK,aK,aK,aK,tR⟩ ?_
 exact x.exit rfl tR ⟨.inr rfl,rfl,⟨d9,aK,aK,aK,aK,tR⟩,rfl⟩
def oG (r:Rdr) (w:List ByteArray):Rdr×Int:=
 if 0<r.depth then (r,9) else if (eT (w_ w 0)).1<1∨64<(eT (w_ w 0)).1 then (r,12) else ({r with depth:=(eT (w_ w 0)).1},0)
theorem Mc (r:Rdr) (w:List ByteArray) (hr:Small r) (hw:1≤w.length):aI PG 138 1 [.ptr 0 0,vSs w] (rdH r) (vi (oG r w).2) (rdH (oG r w).1):=by
 refine aI.mk (dG 31 1) av [0,1,2,3,4] Tryz.func138 rfl (by kernel_rfl) rfl rfl (by
  simp only[oG];split<;>(try split)<;>rfl) ?_
 intro C x
 refine x.cond rfl tR (fun h1=>?_) (fun h1=>?_)
 ·have h1:0<r.depth:=adi h1
  refine x.exit rfl tR ?_
  rw[oG,if_pos h1]
  exact⟨.inr rfl,rfl,⟨d9,aK,aK,aK,aK,tR⟩,rfl⟩
 have h1:¬0<r.depth:=adj h1
 refine x.pure rfl ?_ rfl (mF (w_ w 0)) ⟨rfl,tR⟩ ?_
 ·simp only[aj];omega
 refine x.cond rfl tR (fun h2=>?_) (fun h2=>?_)
 ·have h2:(decide ((eT (w_ w 0)).1<1)||decide (64<(eT (w_ w 0)).1))=true:=h2
  simp only[Bool.or_eq_true,adn] at h2
  refine x.exit rfl tR ?_
  rw[oG,if_neg h1,if_pos h2]
  exact⟨.inr rfl,rfl,⟨d9,aK,aK,aK,aK,tR⟩,rfl⟩
 ·have h2:(decide ((eT (w_ w 0)).1<1)||decide (64<(eT (w_ w 0)).1))=false:=h2
  have h2:¬((eT (w_ w 0)).1<1∨64<(eT (w_ w 0)).1):=by
   simp only[adw,adr] at h2
   omega
  refine x.exit rfl tR ?_
  rw[oG,if_neg h1,if_neg h2]
  exact⟨.inr rfl,rfl,⟨d9,aK,aK,aK,aK,tR⟩,rfl⟩
def sQ:List UInt8:=[108,101,118,101,108]
def zF:List UInt8:=[102,108,111,119]
def sS:List UInt8:=[105,110,112,117,116]
def nC:List UInt8:=[111,117,116,112,117,116]
def jF:List UInt8:=[100,101,112,116,104]
abbrev kdV (f:Nat) (n:Int):V:=.agg [.fn f [],vi n]
def Fv:List (Key×V):=[(.inl [108,101,118,101,108],kdV 134 1),(.inl [102,108,111,119],kdV 135 2),(.inl [105,110,112,117,116],kdV 136 2),(.inl [111,117,116,112,117,116],kdV 137 2),(.inl [100,101,112,116,104],kdV 138 1)]
theorem Fw:Pure PG 83 [] (.own 0) [.tbl Fv]:=by
 refine aI.mk (cfg 8) av [0] Tryz.func83 rfl (by kernel_rfl) rfl rfl rfl ?_
 intro C x
 refine x.exit rfl ?_ ?_
 ·simp only[aj,rO]
  decide
 ·exact⟨.inr rfl,rfl,⟨⟨rfl,rfl,rfl,rfl,rfl,rfl,rfl,rfl,rfl,rfl,tR⟩,tR⟩,rfl⟩
def okW (w0 s:ByteArray):Bool:=!((decide (w0.data.toList=jF)&&!(eT s).2)||(!decide (w0.data.toList=jF)&&!jq s))
set_option maxHeartbeats 2000000 in
theorem SK (r:Rdr) (w:List ByteArray) (hw:1≤w.length) (hk:dI (.inl (w_ w 0).data.toList) Fv=none):aI PG 39 1 [.ptr 0 0,vSs w] (rdH r) (vi 8) (rdH r):=by
 refine aI.mk (dG 64 1) av [0,1,2,3,4] Tryz.func39 rfl (by kernel_rfl) rfl rfl rfl ?_
 intro C x
 refine x.qm [] [1,2,3] (.fork 0 (.fork 4 (.fork 5 (.fork 6 .leaf .no) .no) (.fork 5 (.fork 4 (.fork 6 .leaf .no) .no) .no)) (.fork 5 (.fork 0 (.fork 4 (.fork 6 .leaf .no) .no) .no) .no))
  ⟨[(0, .ptr 0 0),(1,vSs w),(5, .ptr 6 0)],[(6, .box [.d .nf,vi 0])],7⟩ rfl tR ay (by kernel_rfl) Ret.bT rfl ?_ (fun C2 x2=>?_) ?_
 ·simp only[aj];omega
 ·repeat' first
   | exact True.intro
   | refine And.intro ?_ ?_
   | refine x2.back rfl tR ?_
   | refine x2.call [] rfl tR rfl Fw rfl tR tR (x2.back rfl tR ?_)
   | refine x2.look rfl tR rfl (Z4 hk ?_)
   | exact .inl ⟨⟨⟨rfl,rfl⟩,au rfl,⟨rfl,rfl⟩,tR⟩,⟨⟨tR,rfl,tR⟩,tR⟩,rfl⟩
   | exact .inr ⟨[0,1,2,3,4,6,5],rfl,⟨⟨rfl,rfl⟩,au rfl,⟨rfl,rfl⟩,tR⟩,⟨⟨tR,rfl,tR⟩,tR⟩,rfl⟩
 refine x.cond rfl (by simp only[aj];intro h;cases h) (fun h1=>?_) (fun h1=>by cases h1)
 exact x.exit rfl tR ⟨.inr rfl,rfl,⟨d9,aK,aK,aK,aK,tR⟩,rfl⟩
def yC (w:List ByteArray):Bool:=w.tail.all (okW (w_ w 0))
theorem VX (w:List ByteArray) (i:Nat):w.getD (i+1) .empty=w.tail.getD i .empty:=by
 cases w<;>simp
theorem Qn (w:List ByteArray):VEq (.d (.sl 1 ((w.length:Int).toNat-Int.toNat 1) fun k=>(fun i=>[D.str (w.getD i .empty)]) (Int.toNat 1+k))) (vSs w.tail):=
 ⟨by rw[List.length_tail,adv];rfl,fun _=>rfl,fun i _=>by
  show [D.str (w.getD (1+i) .empty)]=[D.str (w.tail.getD i .empty)]
  rw[Nat.add_comm,VX]⟩
set_option maxHeartbeats 4000000 in
theorem qY (r r':Rdr) (e:Int) (w:List ByteArray) (hw:1≤w.length) (hwl:ak (w.length:Int)) (hsz:∀s∈w,s.size≤9223372036854775807) (f:Nat) (n:Int) (hn:1≤n∧n≤2) (hk:dI (.inl (w_ w 0).data.toList) Fv=some (kdV f n))
  (hdo:((w.length:Int)=n+1∧yC w=true)->aI PG f 1 [.ptr 0 0,vSs w.tail] (rdH r) (vi e) (rdH r')) :
  aI PG 39 1 [.ptr 0 0,vSs w] (rdH r) (vi (if (w.length:Int)=n+1∧yC w=true then e else 8)) (rdH (if (w.length:Int)=n+1∧yC w=true then r' else r)):=by
 refine aI.mk (dG 64 1) av [0,1,2,3,4] Tryz.func39 rfl (by kernel_rfl) rfl rfl (by split<;>rfl) ?_
 intro C x
 unfold ak at hwl
 refine x.qm [] [1,2,3] (.fork 0 (.fork 4 (.fork 5 (.fork 6 .leaf .no) .no) (.fork 5 (.fork 4 (.fork 6 .leaf .no) .no) .no)) (.fork 5 (.fork 0 (.fork 4 (.fork 6 .leaf .no) .no) .no) .no))
  ⟨[(0, .ptr 0 0),(1,vSs w),(5, .ptr 6 0)],[(6, .box [.fn f [],vi n])],7⟩ rfl tR ay (by kernel_rfl) Ret.bT rfl ?_ (fun C2 x2=>?_) ?_
 ·simp only[aj];omega
 ·repeat' first
    | exact True.intro
    | refine And.intro ?_ ?_
    | refine x2.back rfl tR ?_
    | refine x2.call [] rfl tR rfl Fw rfl tR tR (x2.back rfl tR ?_)
    | refine x2.look rfl tR rfl (Z0 hk ?_)
    | exact .inl ⟨⟨⟨rfl,rfl⟩,au rfl,⟨rfl,rfl⟩,tR⟩,⟨⟨rfl,rfl,tR⟩,tR⟩,rfl⟩
    | exact .inr ⟨[0,1,2,3,4,6,5],rfl,⟨⟨rfl,rfl⟩,au rfl,⟨rfl,rfl⟩,tR⟩,⟨⟨rfl,rfl,tR⟩,tR⟩,rfl⟩
 refine x.cond rfl (by simp only[aj,ak];intro _;omega) (fun h1=>?_) (fun h1=>?_)
 ·have h1:(false||!decide ((w.length:Int)=n+1))=true:=h1
  have h1:¬(w.length:Int)=n+1:=by simpa using h1
  rw[if_neg (fun h=>h1 h.1),if_neg (fun h=>h1 h.1)]
  exact x.exit rfl tR ⟨.inr rfl,rfl,⟨d9,aK,aK,aK,aK,tR⟩,rfl⟩
 have h1:(false||!decide ((w.length:Int)=n+1))=false:=h1
 have h1:(w.length:Int)=n+1:=by simpa using h1
 have htl:w.tail.length=w.length-1:=List.length_tail
 refine x.loop (α:={i:Nat // i≤w.tail.length∧∀j,j<i->okW (w_ w 0) (w.tail.getD j .empty)=true}) (fun y=>⟨[(0, .ptr 0 0),(1,vSs w),(5, .ptr 6 0),(27,vSs w.tail),(28,vi (w.tail.length:Int)),(29,vi (y.1:Int))],[(0,LZ r.depth),(1,VT r.lev),(2,Gz r.ins),(3,Gz r.outs),(4,VU r.flows),(6, .box [.fn f [],vi n])],7⟩) (fun y=>w.tail.length-y.1) ⟨0,by omega,fun j hj=>by omega⟩ rfl ?_ ?_ (fun y=>?_)
 ·simp only[aj];omega
 ·refine⟨⟨⟨rfl,rfl⟩,au rfl,⟨rfl,rfl⟩,Qn w,(show aG (vi (((w.length:Int).toNat-Int.toNat 1:Nat):Int)) (vi (w.tail.length:Int)) by rw[List.length_tail,adv];rfl),rfl,tR⟩,⟨⟨rfl,tR,rfl,rfl,rfl,rfl,tR⟩,⟨rfl,rfl,rfl,fun _ _=>rfl⟩,⟨rfl,rfl,rfl,fun _ _=>rfl⟩,⟨rfl,rfl,rfl,fun _ _=>rfl⟩,⟨rfl,rfl,rfl,fun _ _=>rfl⟩,⟨rfl,rfl,tR⟩,tR⟩,rfl⟩
 obtain⟨i,hi,hok⟩:=y
 change Go C _ ⟨[(0, .ptr 0 0),(1,vSs w),(5, .ptr 6 0),(27,vSs w.tail),(28,vi (w.tail.length:Int)),(29,vi (i:Int))],[(0,LZ r.depth),(1,VT r.lev),(2,Gz r.ins),(3,Gz r.outs),(4,VU r.flows),(6, .box [.fn f [],vi n])],7⟩ _
 refine x.cond rfl tR (fun h2=>?_) (fun h2=>?_)
 ·have h2:i<w.tail.length:=by have:=adi h2;omega
  have hmem:w.tail.getD i .empty∈w:=by
   rw[adf,adh h2]
   exact List.mem_of_mem_tail (List.getElem_mem h2)
  refine x.pure rfl ?_ rfl (mF (w.tail.getD i .empty)) ⟨rfl,tR⟩ ?_
  ·simp only[aj];omega
  refine x.gW rfl ?_ rfl (fun _ _=>yA (w.tail.getD i .empty) (hsz _ hmem)) rfl ⟨rfl,tR⟩ ?_
  ·simp only[aj]
   exact⟨by omega,fun _=>by omega⟩
  refine x.cond rfl tR (fun h3=>?_) (fun h3=>?_)
  ·have h3:((decide ((w_ w 0).data.toList=jF)&&!(eT (w.tail.getD i .empty)).2)||(!decide ((w_ w 0).data.toList=jF)&&!jq (w.tail.getD i .empty)))=true:=h3
   have hno:¬((w.length:Int)=n+1∧yC w=true):=fun ⟨_,h⟩=>by
    have:=List.all_eq_true.1 h _ (show w.tail.getD i .empty∈w.tail by rw[adf,adh h2];exact List.getElem_mem h2)
    rw[okW,h3] at this
    cases this
   rw[if_neg hno,if_neg hno]
   exact x.exit rfl tR ⟨.inr rfl,rfl,⟨d9,aK,aK,aK,aK,tR⟩,rfl⟩
  ·have h3:((decide ((w_ w 0).data.toList=jF)&&!(eT (w.tail.getD i .empty)).2)||(!decide ((w_ w 0).data.toList=jF)&&!jq (w.tail.getD i .empty)))=false:=h3
   refine x.back rfl ?_ ⟨⟨i+1,by omega,fun j hj=>?_⟩,by show w.tail.length-(i+1)<w.tail.length-i;omega,⟨⟨rfl,rfl⟩,au rfl,⟨rfl,rfl⟩,au rfl,rfl,(show aG (vi ((i:Int)+1)) (vi ((i+1:Nat):Int)) by rw[ads];rfl),tR⟩,⟨⟨rfl,tR,rfl,rfl,rfl,rfl,tR⟩,⟨rfl,rfl,rfl,fun _ _=>rfl⟩,⟨rfl,rfl,rfl,fun _ _=>rfl⟩,⟨rfl,rfl,rfl,fun _ _=>rfl⟩,⟨rfl,rfl,rfl,fun _ _=>rfl⟩,⟨rfl,rfl,tR⟩,tR⟩,rfl⟩
   ·simp only[aj,ak];omega
   ·by_cases e:j=i
    ·rw[e,okW,h3];rfl
    ·exact hok j (by omega)
 ·have h2:i=w.tail.length:=by have:=adj h2;omega
  have hall:yC w=true:=by
   unfold yC
   rw[List.all_eq_true]
   intro s hs
   obtain⟨k,hk,rfl⟩:=List.getElem_of_mem hs
   have:=hok k (by omega)
   rwa [adf,adh hk] at this
  rw[if_pos ⟨h1,hall⟩,if_pos ⟨h1,hall⟩]
  refine x.plan [2,3] [0,1,4] [5,6] rfl tR ay (by kernel_rfl) Ret.bT ?_
  refine x.dW rfl ?_ ?_
  ·simp only[aj];omega
  refine x.call [0,1,2,3,4] rfl tR rfl (hdo ⟨h1,hall⟩) rfl ⟨⟨rfl,rfl⟩,Qn w,tR⟩ ⟨d9,aK,aK,aK,aK,tR⟩ ?_
  exact x.exit rfl tR ⟨.inr rfl,rfl,⟨d9,aK,aK,aK,aK,tR⟩,rfl⟩
def tX (r:Rdr) (w:List ByteArray) (n:Nat) (d:Rdr×Int):Rdr×Int:=if w.length=n+1∧yC w=true then d else (r,8)
def mJ (r:Rdr) (w:List ByteArray):Rdr×Int:=
 if (w_ w 0).data.toList=sQ then tX r w 1 (oF r w.tail)
 else if (w_ w 0).data.toList=zF then tX r w 2 (xG r w.tail)
 else if (w_ w 0).data.toList=sS then tX r w 2 ({r with ins:=jO r.lev r.ins w.tail},kX r.lev r.ins w.tail)
 else if (w_ w 0).data.toList=nC then tX r w 2 ({r with outs:=jO r.lev r.outs w.tail},kX r.lev r.outs w.tail)
 else if (w_ w 0).data.toList=jF then tX r w 1 (oG r w.tail)
 else (r,8)
theorem SL (k:List UInt8):dI (.inl k) Fv =
  if k=sQ then some (kdV 134 1) else if k=zF then some (kdV 135 2) else if k=sS then some (kdV 136 2) else if k=nC then some (kdV 137 2) else if k=jF then some (kdV 138 1) else none:=by
 unfold Fv
 simp only[dI,pz,sQ,zF,sS,nC,jF]
 by_cases h1:k=[108,101,118,101,108]
 ·simp [h1]
 by_cases h2:k=[102,108,111,119]
 ·simp [h2]
 by_cases h3:k=[105,110,112,117,116]
 ·simp [h3]
 by_cases h4:k=[111,117,116,112,117,116]
 ·simp [h4]
 by_cases h5:k=[100,101,112,116,104]
 ·simp [h5]
 simp [h1,h2,h3,h4,h5]
theorem zG {r:Rdr} {w:List ByteArray} {n:Nat} {d:Rdr×Int} {f:Nat}
  (h:aI PG f 1 [.ptr 0 0,vSs w] (rdH r) (vi (if (w.length:Int)=(n:Int)+1∧yC w=true then d.2 else 8)) (rdH (if (w.length:Int)=(n:Int)+1∧yC w=true then d.1 else r))) :
  aI PG f 1 [.ptr 0 0,vSs w] (rdH r) (vi (tX r w n d).2) (rdH (tX r w n d).1):=by
 unfold tX
 have e:((w.length:Int)=(n:Int)+1∧yC w=true)↔(w.length=n+1∧yC w=true):=by
  constructor
  ·rintro ⟨a,b⟩;exact⟨by omega,b⟩
  ·rintro ⟨a,b⟩;exact⟨by omega,b⟩
 by_cases hc:w.length=n+1∧yC w=true
 ·rw[if_pos (e.2 hc),if_pos (e.2 hc)] at h
  rw[if_pos hc];exact h
 ·rw[if_neg (fun x=>hc (e.1 x)),if_neg (fun x=>hc (e.1 x))] at h
  rw[if_neg hc];exact h
theorem SN (r:Rdr) (hr:Small r) (w:List ByteArray) (hw:1≤w.length) (hwl:ak (w.length:Int)) (hsz:∀s∈w,s.size≤9223372036854775807):aI PG 39 1 [.ptr 0 0,vSs w] (rdH r) (vi (mJ r w).2) (rdH (mJ r w).1):=by
 have htl:w.tail.length=w.length-1:=List.length_tail
 have hk:=SL (w_ w 0).data.toList
 unfold mJ
 by_cases e1:(w_ w 0).data.toList=sQ
 ·rw[if_pos e1] at hk ⊢
  exact zG (qY r (oF r w.tail).1 (oF r w.tail).2 w hw hwl hsz _ _ (by omega) hk fun hc=>L6 r w.tail hr (by omega))
 rw[if_neg e1] at hk ⊢
 by_cases e2:(w_ w 0).data.toList=zF
 ·rw[if_pos e2] at hk ⊢
  exact zG (qY r (xG r w.tail).1 (xG r w.tail).2 w hw hwl hsz _ _ (by omega) hk fun hc=>OH r w.tail hr (by omega))
 rw[if_neg e2] at hk ⊢
 by_cases e3:(w_ w 0).data.toList=sS
 ·rw[if_pos e3] at hk ⊢
  exact zG (qY r {r with ins:=jO r.lev r.ins w.tail} (kX r.lev r.ins w.tail) w hw hwl hsz _ _ (by omega) hk fun hc=>L9 r w.tail hr (by omega))
 rw[if_neg e3] at hk ⊢
 by_cases e4:(w_ w 0).data.toList=nC
 ·rw[if_pos e4] at hk ⊢
  exact zG (qY r {r with outs:=jO r.lev r.outs w.tail} (kX r.lev r.outs w.tail) w hw hwl hsz _ _ (by omega) hk fun hc=>Jw r w.tail hr (by omega))
 rw[if_neg e4] at hk ⊢
 by_cases e5:(w_ w 0).data.toList=jF
 ·rw[if_pos e5] at hk ⊢
  exact zG (qY r (oG r w.tail).1 (oG r w.tail).2 w hw hwl hsz _ _ (by omega) hk fun hc=>Mc r w.tail hr (by omega))
 rw[if_neg e5] at hk ⊢
 exact SK r w hw hk
structure Kept (r:Rdr) (n:Nat):Prop extends Small r where
 count:r.flows.length≤n
 flow:∀p∈r.flows,p.1<r.lev.length∧p.2<r.lev.length
theorem zH {l:List ByteArray} {s:ByteArray} (h:0≤bE l s):(bE l s).toNat<l.length:=by
 unfold bE at *
 rcases yx (p:=fun i=>decide ((l.getD i .empty).data.toList=s.data.toList)) (n:=l.length) (i:=0) with e | e<;>omega
theorem Ic {r:Rdr} {n:Nat} (h:Kept r n) (hn:n<100000) (w:List ByteArray):Kept (mJ r w).1 (n+1):=by
 obtain⟨⟨h1,h2,h3,h4,h5⟩,h6,h7⟩:=h
 have same:Kept r (n+1):=⟨⟨h1,h2,h3,h4,h5⟩,by omega,h7⟩
 have pick:∀{k d},Kept d.1 (n+1)->Kept (tX r w k d).1 (n+1):=fun {k d} hd=>by
  unfold tX;split
  ·exact hd
  ·exact same
 have chan:∀l:List Chan,l.length≤32->(jO r.lev l w.tail).length≤32:=fun l hl=>by
  unfold jO
  split
  ·rename_i h0
   unfold kX at h0
   split at h0
   ·omega
   ·split at h0
    ·omega
    ·split at h0
     ·omega
     ·simp;omega
  ·exact hl
 unfold mJ
 split
 ·refine pick ?_
  unfold oF
  split
  ·exact same
  ·split
   ·exact same
   ·refine⟨⟨by simp;omega,h2,h3,h4,h5⟩,Nat.le_succ_of_le h6,fun p hp=>?_⟩
    have:=h7 p hp
    simp;omega
 split
 ·refine pick ?_
  unfold xG
  split
  ·rename_i hc
   refine⟨⟨h1,h2,h3,by simp;omega,h5⟩,by simp;omega,fun p hp=>?_⟩
   rcases List.mem_append.1 hp with hp | hp
   ·exact h7 p hp
   ·rw[List.mem_singleton.1 hp]
    exact⟨zH hc.1,zH hc.2⟩
  ·exact same
 split
 ·exact pick ⟨⟨h1,chan _ h2,h3,h4,h5⟩,Nat.le_succ_of_le h6,h7⟩
 split
 ·exact pick ⟨⟨h1,h2,chan _ h3,h4,h5⟩,Nat.le_succ_of_le h6,h7⟩
 split
 ·refine pick ?_
  unfold oG
  split
  ·exact same
  ·split
   ·exact same
   ·rename_i hd
    exact⟨⟨h1,h2,h3,h4,by unfold ak;show -9223372036854775808≤(eT _).1∧(eT _).1≤_;omega⟩,Nat.le_succ_of_le h6,h7⟩
 ·exact same
theorem OI (c:Int):Pure PG 38 [.d (.int .i32 c)] (vb (decide (c=32)||decide (c=9))) []:=by
 refine aI.mk (cfg 9) av [] Tryz.func38 rfl (by kernel_rfl) rfl rfl rfl ?_
 intro C x
 exact x.exit rfl tR ⟨.inr rfl,rfl,tR,rfl⟩
def nl:ByteArray:=⟨#[10]⟩
def dD (s:ByteArray):List ByteArray:=Lib.splitB nl 0 (Lib.countB s nl) s
theorem Ie {F:Nat->Prop} {w:World} (h:je PG.env F w):∃m,w.cell? ⟨0,0,none⟩=some (.int .i64 m):=
 (h 0 0 (fun _=>undef) (by unfold PG;simp)).2.2 rfl
theorem Ig (s:ByteArray):(dD s).length=Lib.countB s nl+1:=Lib.splitB_all nl (by decide) 0 _ s rfl
theorem OJ (s:ByteArray) (hs:s.size<4294967281):Pure PG 36 [vs s,vs nl] (vSs (dD s)) []:=by
 refine Pure.ZX (vals:=[.string s, .string nl]) (jk Tryz.func36 (by kernel_rfl) (by kernel_rfl)) rfl rfl rfl fun w F hE=>?_
 obtain⟨m,hm⟩:=Ie hE
 refine (Tryz.strings_Split s nl m w hs hm (by decide)).mono ?_
 rintro e w' ⟨rfl,rfl⟩
 refine⟨_,rfl,(Go.RowKit.Below.refl _ w).alloc (Nat.le_refl _) _,?_⟩
 rw[←Ig]
 have hnew:(w.alloc (.cells ((dD s).map Value.string).toArray 9)).heap[w.heap.size]?=some (.cells ((dD s).map Value.string).toArray 9):=World.alloc_heap_new w _
 refine .sl 1 _ _ w.heap.size 0 _ (fun i _=>.string ((dD s).getD i .empty)) ⟨Nat.le_refl _,by simp⟩ (Nat.le_refl _) (fun i j hi hj=>?_) (fun _ _=>rfl) (fun i j d hi hd=>?_)
 ·unfold World.cell?
  show (match (w.alloc (.cells ((dD s).map Value.string).toArray 9)).heap[w.heap.size]? with | some (.cells c _ _)=>_ | _=>_)=_
  rw[hnew]
  obtain rfl:j=0:=by omega
  simp [adh hi,adf]
 ·cases j with
  | zero=>simp at hd;subst hd;exact .str _
  | succ j=>simp at hd
theorem index_spec (s sub:ByteArray) (hs:s.size<4294967281):Pure PG 40 [vs s,vs sub] (vi (Lib.index s.data.toList sub.data.toList)) []:=by
 refine Pure.U8 (vals:=[.string s, .string sub]) (jk Tryz.func40 (by kernel_rfl) (by kernel_rfl)) rfl rfl rfl rfl fun w F hE=>?_
 obtain⟨m,hm⟩:=Ie hE
 refine (Tryz.strings_Index s sub m w hs hm).mono ?_
 rintro e w' ⟨rfl,rfl⟩
 exact⟨rfl,Go.RowKit.Below.refl _ _⟩
def aap:Go.Shelf.Ren:=⟨fun | 229=>37 | n=>n,fun | 0=>0 | 3=>3 | 4=>4 | 9=>9 | 21=>21 | 31=>22 | 40=>97 | 152=>168 | 154=>170 | n=>n,fun | n=>n⟩
theorem lays229:Go.Proofs.Lays.n229 Tryz.prog aap:={
 mixed:=by kernel_rfl
 f229:=Tryz.func37.trans (congrArg some (by kernel_rfl))
 t0:=Tryz.underlying0
 a0:=Tryz.isAgg0
 z0:=Tryz.sizeOf0
 v0:=Tryz.zeroValue0
 t3:=Tryz.underlying3
 a3:=Tryz.isAgg3
 z3:=Tryz.sizeOf3
 v3:=Tryz.zeroValue3
 t4:=Tryz.underlying4
 a4:=Tryz.isAgg4
 z4:=Tryz.sizeOf4
 v4:=Tryz.zeroValue4
 t9:=Tryz.underlying9
 a9:=Tryz.isAgg9
 z9:=Tryz.sizeOf9
 v9:=Tryz.zeroValue9
 t21:=Tryz.underlying21
 a21:=Tryz.isAgg21
 z21:=Tryz.sizeOf21
 v21:=Tryz.zeroValue21
 t31:=Tryz.underlying22
 a31:=Tryz.isAgg22
 z31:=Tryz.sizeOf22
 v31:=Tryz.zeroValue22
 t40:=Tryz.underlying97
 a40:=Tryz.isAgg97
 z40:=Tryz.sizeOf97
 v40:=Tryz.zeroValue97
 t152:=Tryz.underlying168
 a152:=Tryz.isAgg168
 z152:=Tryz.sizeOf168
 v152:=Tryz.zeroValue168
 t154:=Tryz.underlying170
 a154:=Tryz.isAgg170
 z154:=Tryz.sizeOf170
 v154:=Tryz.zeroValue170}
def Jy (c:Nat):Bool:=decide ((c:Int)=32)||decide ((c:Int)=9)
def bg (s:ByteArray):List ByteArray:=Lib.goFieldsP Jy s
theorem Me (w:World) (F:Nat->Prop) (hF:∀k,F k->k<w.heap.size) (hE:je PG.env F w):PredGrows Tryz.prog 38 #[] Jy w:=by
 intro W x _ hb
 obtain⟨_,_,_,_,_,hc⟩:=OI (x:Int)
 have hE':je PG.env F W:=hE.mono (fun _ h=>h) fun k hk=>hb.block k (hF k hk)
 refine (hc W F (fun _=>.bool true) [.int .i32 (x:Int)] (fun k hk=>Nat.lt_of_lt_of_le (hF k hk) hb.size) hE' ⟨fun i c hc=>by simp at hc,fun i j b hi=>absurd hi (adp _),fun i b hi=>absurd hi (adp _)⟩ ⟨RD.int _ _,tR⟩).mono ?_
 intro e w' hp
 refine⟨?_,hp.below⟩
 obtain⟨v,ρ',F',rfl,_,_,_,_,_,hr,_⟩:=hp
 cases (show RD F' w' (.bool _) v from hr)
 rfl
theorem Mf (s:ByteArray) (hs:s.size≤4294967296):Pure PG 37 [vs s, .fn 38 []] (vSs (bg s)) []:=by
 refine⟨jk Tryz.func37 (by kernel_rfl) (by kernel_rfl),rfl,rfl,Nat.le_refl _,Nat.le_refl _,fun w F ρ ys hF hE hH hargs=>?_⟩
 match ys,hargs with
 | [y1,y2],⟨h1,⟨cs,h2,hcs⟩,_⟩=>
  cases (show RD F w (.str s) y1 from h1)
  have hcs0:cs=[]:=by cases cs with
   | nil=>rfl
   | cons _ _=>exact hcs.elim
  subst hcs0
  subst h2
  have hcall:iA Tryz.prog 38:=jk Tryz.func38 (by kernel_rfl) (by kernel_rfl)
  refine (Any.strings_FieldsFunc_grows lays229 38 #[] (fun args w=>zm hcall args w) Jy s w hs (Me w F hF hE) (by kernel_rfl) (by kernel_rfl)).mono ?_
  rintro e w' ⟨A,rfl,hA,hown,hb⟩
  have hAlt:0<(bg s).length->A<w'.heap.size:=fun h0=>by
   rcases hown.2 with⟨h,_⟩ | ⟨g,cap,cur,h3,_,h4,_⟩
   ·simp at h
   ·simp only[Value.slice.injEq,adk,Addr.mk.injEq] at h3
    obtain⟨⟨rfl,_⟩,_⟩:=h3
    exact (Array.getElem?_eq_some_iff.1 h4).1
  have hown0:w'.ownsRow 0 9 1 (.slice (some ⟨A,0,none⟩) (bg s).length (bg s).length) (bg s).length ((bg s).map Value.string):=by
   refine⟨hown.1,?_⟩
   rcases hown.2 with h | ⟨g,cap,cur,h3,_,h4⟩
   ·exact .inl h
   ·exact .inr ⟨g,cap,cur,h3,Nat.zero_le _,h4⟩
  obtain⟨b1,b2,b3,b4,b5⟩:=hb
  by_cases h0:0<(bg s).length
  ·refine⟨_,ρ,fun k=>F k∨(w.heap.size≤k∧k<w'.heap.size),rfl,⟨b1,b2,b3,b4,fun k hk _=>b5 k hk⟩,fun _ _=>rfl,fun _ hk=>.inl hk,fun k hk=>?_,fun k hk=>?_,zn (ρ:=ρ) (F:=F) (fun _=>.inl) (fun b hb=>?_) hown0 (fun i hi=>⟨rfl,fun j d hd=>?_⟩),⟨fun i c hi=>by simp at hi,fun i j b hi=>absurd hi (adp _),fun i b hi=>absurd hi (adp _)⟩,fun i b hi=>absurd hi (adp _)⟩
   ·rcases hk with hk | hk
    ·exact Nat.lt_of_lt_of_le (hF k hk) b4
    ·exact hk.2
   ·rcases hk with hk | hk
    ·exact .inl hk
    ·exact .inr (.inl hk.1)
   ·simp only[blk,adk] at hb
    subst hb
    exact .inr ⟨hA,hAlt h0⟩
   ·cases j with
    | succ j=>simp at hd
    | zero=>
     simp only[List.getElem?_cons_zero,adk] at hd
     subst hd
     refine⟨.string ((bg s).getD i .empty),?_, .str _⟩
     simp [adh hi,adf]
  ·have h1:(bg s).length=0:=by omega
   refine⟨_,ρ,F,rfl,⟨b1,b2,b3,b4,fun k hk _=>b5 k hk⟩,fun _ _=>rfl,fun _ hk=>hk,fun k hk=>Nat.lt_of_lt_of_le (hF k hk) b4,fun _ hk=>.inl hk,?_,⟨fun i c hi=>by simp at hi,fun i j b hi=>absurd hi (adp _),fun i b hi=>absurd hi (adp _)⟩,fun i b hi=>absurd hi (adp _)⟩
   show RD F w' (.sl 1 (bg s).length _) (.slice _ (bg s).length (bg s).length)
   rw[h1]
   exact .emp _ _ _ _
 | [],h=>exact h.elim
 | [_],h=>exact h.2.elim
 | _::_::_::_,h=>exact h.2.2.elim
theorem vE (p:Nat->Bool) (s:ByteArray):∀(n pos:Nat) (st:Option Nat) (acc:List (Nat×Nat)),(∀x∈acc,x.1<x.2∧x.2≤s.size)->(∀a,st=some a->a<pos∧a<s.size)->
  (∀x∈(Lib.spansFromP p s n pos st acc).1,x.1<x.2∧x.2≤s.size)∧(∀a,(Lib.spansFromP p s n pos st acc).2=some a->a<s.size)∧(Lib.spansFromP p s n pos st acc).1.length≤acc.length+n
 | 0,pos,st,acc,h1,h2=>⟨h1,fun a ha=>(h2 a ha).2,Nat.le_refl _⟩
 | n+1,pos,st,acc,h1,h2=>by
  rw[Lib.spansFromP.eq_def]
  simp only
  have hd:=(bB s pos).1
  split
  ·rename_i hp
   split
   ·cases st with
    | none=>
     obtain⟨a,b,c⟩:=vE p s n (pos+(Utf8.decode s pos).2) none acc h1 (fun a ha=>by cases ha)
     exact⟨a,b,Nat.le_trans c (by omega)⟩
    | some a0=>
     obtain⟨q1,q2⟩:=h2 a0 rfl
     obtain⟨a,b,c⟩:=vE p s n (pos+(Utf8.decode s pos).2) none (acc++[(a0,pos)]) (fun x hx=>by
      rcases List.mem_append.1 hx with hx | hx
      ·exact h1 x hx
      ·rw[List.mem_singleton.1 hx];exact⟨q1,by show pos≤s.size;omega⟩) (fun a ha=>by cases ha)
     exact⟨a,b,Nat.le_trans c (by simp;omega)⟩
   ·cases st with
    | none=>
     obtain⟨a,b,c⟩:=vE p s n (pos+(Utf8.decode s pos).2) (some pos) acc h1 (fun a ha=>by cases ha;omega)
     exact⟨a,b,Nat.le_trans c (by omega)⟩
    | some a0=>
     obtain⟨q1,q2⟩:=h2 a0 rfl
     obtain⟨a,b,c⟩:=vE p s n (pos+(Utf8.decode s pos).2) (some a0) acc h1 (fun a ha=>by cases ha;omega)
     exact⟨a,b,Nat.le_trans c (by omega)⟩
  ·exact⟨h1,fun a ha=>(h2 a ha).2,Nat.le_add_right _ _⟩
theorem SQ (s:ByteArray):(∀f∈bg s,0<f.size∧f.size≤s.size)∧(bg s).length≤s.size+1:=by
 unfold bg Lib.goFieldsP Lib.spansOfP Lib.closeSpans
 obtain⟨a,b,c⟩:=vE Jy s s.size 0 none [] (fun x hx=>by cases hx) (fun a ha=>by cases ha)
 have ok:∀x:Nat×Nat,x.1<x.2∧x.2≤s.size->0<(s.extract x.1 x.2).size∧(s.extract x.1 x.2).size≤s.size:=fun x hx=>by
  rw[ByteArray.size_extract];omega
 split
 ·rename_i q hq
  refine⟨fun f hf=>?_,by simp at c ⊢;omega⟩
  obtain⟨x,hx,rfl⟩:=List.mem_map.1 hf
  rcases List.mem_append.1 hx with hx | hx
  ·exact ok x (a x hx)
  ·rw[List.mem_singleton.1 hx];exact ok _ ⟨b q hq,Nat.le_refl _⟩
 ·refine⟨fun f hf=>?_,by simp at c ⊢;omega⟩
  obtain⟨x,hx,rfl⟩:=List.mem_map.1 hf
  exact ok x (a x hx)
theorem index_le:∀(l sub:List UInt8),Lib.index l sub≤(l.length:Int)
 | [],sub=>by unfold Lib.index;split<;>decide
 | b::l,sub=>by
  have:=index_le l sub
  unfold Lib.index
  split
  ·simp;omega
  ·split
   ·simp;omega
   ·simp;omega
theorem CK (sep:ByteArray):∀(k:Nat) (s:ByteArray),∀l∈Lib.splitB sep 0 k s,l.size≤s.size
 | 0,s,l,h=>by simp [Lib.splitB] at h;rw[h];exact Nat.le_refl _
 | k+1,s,l,h=>by
  unfold Lib.splitB at h
  split at h
  ·simp at h;rw[h];exact Nat.le_refl _
  ·rcases List.mem_cons.1 h with rfl | h
   ·rw[ByteArray.size_extract];omega
   ·have:=CK sep k _ l h
    rw[ByteArray.size_extract] at this;omega
theorem Mg (s:ByteArray):(∀l∈dD s,l.size≤s.size)∧(dD s).length≤s.size+1:=by
 refine⟨CK nl _ s,?_⟩
 rw[Ig]
 have:=Lib.countB_le nl (by decide) s.size s (Nat.le_refl _)
 omega
structure Pol where
 lev:List ByteArray
 up:List M64
 ins:List Chan
 outs:List Chan
 depth:Int
def SS:Pol:=⟨[],[],[],[],0⟩
def SV:Rdr:=⟨[],[],[],0,[]⟩
abbrev Jz (p:Pol):V:=.agg [vSs p.lev,vU p.up,jC p.ins,jC p.outs,vi p.depth]
def says (w:List ByteArray):Bool:=decide (0<w.length)&&!decide (sb (w_ w 0) 0=35)
def qz:List ByteArray->Int->Rdr->(Int×Int) ⊕ Rdr
 | [],_,r=>.inr r
 | l::rest,at_,r=>
  if says (bg l) then
   if (mJ r (bg l)).2≠0 then .inl (at_+Lib.index l.data.toList (w_ (bg l) 0).data.toList,(mJ r (bg l)).2)
   else qz rest (at_+(l.size+1)) (mJ r (bg l)).1
  else qz rest (at_+(l.size+1)) r
def OL (n:Int) (r:Rdr):Pol×Int×Int:=
 if r.lev.length=0∨r.depth=0 then (SS,n,4)
 else if eZ (fu r.lev.length r.flows) then (⟨r.lev,fu r.lev.length r.flows,r.ins,r.outs,r.depth⟩,0,0) else (SS,n,11)
def dw (s:ByteArray):Pol×Int×Int:=
 if 65536<s.size then (SS,0,2)
 else if 0≤dQ s s.size 0 then (SS,dQ s s.size 0,5)
 else match qz (dD s) 0 SV with
  | .inl (at_,e)=>(SS,at_,e)
  | .inr r=>OL s.size r
abbrev aaq (q:Pol×Int×Int):V:=.tup [Jz q.1,vi q.2.1,vi q.2.2]
theorem Y4:Kept SV 0:=⟨⟨by decide,by decide,by decide,by decide,by unfold ak;decide⟩,by decide,fun p hp=>by cases hp⟩
structure acU (s:ByteArray) where
 i:Nat
 at_:Int
 r:Rdr
 hi:i≤(dD s).length
 ha:0≤at_∧at_≤(i:Int)*65537
 hr:Kept r i
 same:qz ((dD s).drop i) at_ r=qz (dD s) 0 SV
set_option maxHeartbeats 8000000 in
theorem CO (s:ByteArray) (hs:s.size≤9223372036854775807):Pure PG 15 [vs s] (aaq (dw s)) []:=by
 refine aI.mk (cfg 112) av [] Tryz.func15 rfl (by kernel_rfl) rfl rfl rfl ?_
 intro C x
 refine x.cond rfl tR (fun h1=>?_) (fun h1=>?_)
 ·have h1:65536<s.size:=by have:=adi h1;omega
  rw[dw,if_pos h1]
  refine x.lV ?_
  exact x.exit rfl tR ⟨⟨[(2, .ptr 0 0),(3,vi 0),(4,vi 2)],[(0, .box [vSs [],vU [],jC [],jC [],vi 0])],1⟩,⟨⟨⟨rfl,rfl⟩,rfl,rfl,tR⟩,⟨⟨rfl,rfl,rfl,rfl,rfl,tR⟩,tR⟩,rfl⟩, .inr rfl,⟨rfl,rfl,rfl,tR⟩,tR,rfl⟩
 have h1:¬65536<s.size:=by have:=adj h1;omega
 refine x.pure rfl tR rfl (Ht s hs) ⟨rfl,tR⟩ ?_
 refine x.cond rfl tR (fun h2=>?_) (fun h2=>?_)
 ·have h2:0≤dQ s s.size 0:=adi h2
  rw[dw,if_neg h1,if_pos h2]
  refine x.lV ?_
  exact x.exit rfl tR ⟨⟨[(2, .ptr 0 0),(3,vi (dQ s s.size 0)),(4,vi 5)],[(0, .box [vSs [],vU [],jC [],jC [],vi 0])],1⟩,⟨⟨⟨rfl,rfl⟩,rfl,rfl,tR⟩,⟨⟨rfl,rfl,rfl,rfl,rfl,tR⟩,tR⟩,rfl⟩, .inr rfl,⟨rfl,rfl,rfl,tR⟩,tR,rfl⟩
 have h2:¬0≤dQ s s.size 0:=adj h2
 obtain⟨l1,l2⟩:=Mg s
 refine x.pure rfl tR rfl (OJ s (by omega)) ⟨rfl,rfl,tR⟩ ?_
 refine x.toLoop rfl tR ?_
 refine Go.ownB 1 0 9 1 (fun i=>[.str (([]:List ByteArray).getD i .empty)]) rfl rfl ?_
 refine Go.ownB 1 2 162 2 (fun i=>[.str (([]:List Chan).getD i aZ).1, .int .i64 (([]:List Chan).getD i aZ).2]) rfl rfl ?_
 refine Go.ownB 1 3 162 2 (fun i=>[.str (([]:List Chan).getD i aZ).1, .int .i64 (([]:List Chan).getD i aZ).2]) rfl rfl ?_
 refine Go.ownB 1 5 180 2 (fun i=>[.int .i64 ((([]:List (Nat×Nat)).getD i (0,0)).1:Int), .int .i64 ((([]:List (Nat×Nat)).getD i (0,0)).2:Int)]) rfl rfl ?_
 refine x.loop (α:=acU s) (fun y=>⟨[(0,vs s),(2, .ptr 0 0),(3,vi 0),(4,vi 0),(6, .ptr 1 0),(7,vi y.at_),(27,vSs (dD s)),(28,vi ((dD s).length:Int)),(29,vi (y.i:Int))],
  [(0, .box [.aB, .aB, .aB, .aB,vi 0]),(1, .box [.own 2, .aB, .own 3, .own 4,vi y.r.depth, .own 5]),(2,VT y.r.lev),(3,Gz y.r.ins),(4,Gz y.r.outs),(5,VU y.r.flows)],6⟩) (fun y=>(dD s).length-y.i) ⟨0,0,SV,by omega,by omega,Y4,rfl⟩ rfl tR ?_ (fun y=>?_)
 ·exact⟨⟨rfl,⟨rfl,rfl⟩,rfl,rfl,⟨rfl,rfl⟩,rfl,au rfl,rfl,rfl,tR⟩,⟨⟨tR,tR,tR,tR,rfl,tR⟩,⟨rfl,tR,rfl,rfl,rfl,rfl,tR⟩,⟨rfl,rfl,rfl,fun _ h=>absurd h (adp _)⟩,⟨rfl,rfl,rfl,fun _ h=>absurd h (adp _)⟩,⟨rfl,rfl,rfl,fun _ h=>absurd h (adp _)⟩,⟨rfl,rfl,rfl,fun _ h=>absurd h (adp _)⟩,tR⟩,rfl⟩
 obtain⟨i,at_,r,hi,ha,hr,same⟩:=y
 change Go C _ ⟨[(0,vs s),(2, .ptr 0 0),(3,vi 0),(4,vi 0),(6, .ptr 1 0),(7,vi at_),(27,vSs (dD s)),(28,vi ((dD s).length:Int)),(29,vi (i:Int))],
  [(0, .box [.aB, .aB, .aB, .aB,vi 0]),(1, .box [.own 2, .aB, .own 3, .own 4,vi r.depth, .own 5]),(2,VT r.lev),(3,Gz r.ins),(4,Gz r.outs),(5,VU r.flows)],6⟩ _
 refine x.cond rfl tR (fun h3=>?_) (fun h3=>?_)
 ·have h3:i<(dD s).length:=by have:=adi h3;omega
  obtain⟨l,hl⟩:∃l,(dD s).getD i .empty=l:=⟨_,rfl⟩
  have hget:(dD s)[i]?=some l:=by rw[←hl,adf,adh h3];rfl
  have hlz:=l1 l (List.mem_of_getElem? hget)
  obtain⟨f1,f2⟩:=SQ l
  rw[drop_cons hget,qz] at same
  have hat:at_≤4295032833:=by
   have:(i:Int)≤65536:=by omega
   omega
  refine x.pure rfl ?_ rfl (Mf l (by omega)) ⟨?_,rfl,tR⟩ ?_
  ·simp only[aj];omega
  ·show aG (vs ((dD s).getD i .empty)) (vs l)
   rw[hl];exact rfl
  refine x.cond rfl ?_ (fun h4=>?_) (fun h4=>?_)
  ·simp only[aj,adn]
   refine⟨fun h=>⟨by decide,h⟩,fun h=>⟨by decide,?_⟩⟩
   have h:0<(bg l).length:=by omega
   have:=(f1 ((bg l).getD 0 .empty) (by rw[adf,adh h];exact List.getElem_mem h)).1
   show (0:Int)<(((bg l).getD 0 .empty).size:Int)
   omega
  ·have h4:says (bg l)=true:=by
    refine Eq.trans ?_ h4
    unfold says
    congr 1
    rw[decide_eq_decide];omega
   have h0:0<(bg l).length:=by
    unfold says at h4
    simp only[adg,adn] at h4
    exact h4.1
   rw[if_pos h4] at same
   have hw0:=f1 ((bg l).getD 0 .empty) (by rw[adf,adh h0];exact List.getElem_mem h0)
   refine x.call [1,2,3,4,5] rfl tR rfl (SN r hr.toSmall (bg l) (by omega) (by unfold ak;omega) (fun f hf=>by have:=(f1 f hf).2;omega)) rfl ⟨⟨rfl,rfl⟩,au rfl,tR⟩ ⟨⟨rfl,tR,rfl,rfl,rfl,rfl,tR⟩,⟨rfl,rfl,rfl,fun _ _=>rfl⟩,⟨rfl,rfl,rfl,fun _ _=>rfl⟩,⟨rfl,rfl,rfl,fun _ _=>rfl⟩,⟨rfl,rfl,rfl,fun _ _=>rfl⟩,tR⟩ ?_
   refine x.cond rfl tR (fun h5=>?_) (fun h5=>?_)
   ·have h5:(!decide ((mJ r (bg l)).2=0))=true:=h5
    have h5:(mJ r (bg l)).2≠0:=by simpa using h5
    rw[if_pos h5] at same
    have hix:=index_le l.data.toList (w_ (bg l) 0).data.toList
    have hig:=Lib.index_ge l.data.toList (w_ (bg l) 0).data.toList
    have hll:l.data.toList.length=l.size:=Array.length_toList
    refine x.pure rfl ?_ rfl (index_spec l (w_ (bg l) 0) (by omega)) ⟨?_,rfl,tR⟩ ?_
    ·simp only[aj];omega
    ·show aG (vs ((dD s).getD i .empty)) (vs l)
     rw[hl];exact rfl
    have hp:dw s=(SS,at_+Lib.index l.data.toList (w_ (bg l) 0).data.toList,(mJ r (bg l)).2):=by
     rw[dw,if_neg h1,if_neg h2,←same]
    rw[hp]
    refine x.lV ?_
    refine x.exit rfl ?_ ⟨⟨[(2, .ptr 0 0),(3,vi (at_+Lib.index l.data.toList (w_ (bg l) 0).data.toList)),(4,vi (mJ r (bg l)).2)],[(0, .box [vSs [],vU [],jC [],jC [],vi 0])],1⟩,⟨⟨⟨rfl,rfl⟩,rfl,rfl,tR⟩,⟨⟨rfl,rfl,rfl,rfl,rfl,tR⟩,tR⟩,rfl⟩, .inr rfl,⟨rfl,rfl,rfl,tR⟩,tR,rfl⟩
    simp only[aj,ak];omega
   ·have h5:(!decide ((mJ r (bg l)).2=0))=false:=h5
    have h5:¬(mJ r (bg l)).2≠0:=by simpa using h5
    rw[if_neg h5] at same
    refine x.back rfl ?_ ⟨⟨i+1,at_+(l.size+1),(mJ r (bg l)).1,by omega,by omega,Ic hr (by omega) _,same⟩,by show (dD s).length-(i+1)<(dD s).length-i;omega,?_⟩
    ·simp only[aj,adv]
     rw[hl]
     simp only[ak];omega
    ·refine⟨⟨rfl,⟨rfl,rfl⟩,rfl,rfl,⟨rfl,rfl⟩,?_,au rfl,rfl,(show aG (vi ((i:Int)+1)) (vi ((i+1:Nat):Int)) by rw[ads];rfl),tR⟩,⟨⟨tR,tR,tR,tR,rfl,tR⟩,⟨rfl,tR,rfl,rfl,rfl,rfl,tR⟩,⟨rfl,rfl,rfl,fun _ _=>rfl⟩,⟨rfl,rfl,rfl,fun _ _=>rfl⟩,⟨rfl,rfl,rfl,fun _ _=>rfl⟩,⟨rfl,rfl,rfl,fun _ _=>rfl⟩,tR⟩,rfl⟩
     show aG (vi (at_+((((dD s).getD i .empty).size:Int)+1))) (vi (at_+(l.size+1)))
     rw[hl];exact rfl
  ·have h4:says (bg l)=false:=by
    refine Eq.trans ?_ h4
    unfold says
    congr 1
    rw[decide_eq_decide];omega
   rw[if_neg (by rw[h4];simp)] at same
   refine x.back rfl ?_ ⟨⟨i+1,at_+(l.size+1),r,by omega,by omega,⟨hr.toSmall,Nat.le_succ_of_le hr.count,hr.flow⟩,same⟩,by show (dD s).length-(i+1)<(dD s).length-i;omega,?_⟩
   ·simp only[aj,adv]
    rw[hl]
    simp only[ak];omega
   ·refine⟨⟨rfl,⟨rfl,rfl⟩,rfl,rfl,⟨rfl,rfl⟩,?_,au rfl,rfl,(show aG (vi ((i:Int)+1)) (vi ((i+1:Nat):Int)) by rw[ads];rfl),tR⟩,⟨⟨tR,tR,tR,tR,rfl,tR⟩,⟨rfl,tR,rfl,rfl,rfl,rfl,tR⟩,⟨rfl,rfl,rfl,fun _ _=>rfl⟩,⟨rfl,rfl,rfl,fun _ _=>rfl⟩,⟨rfl,rfl,rfl,fun _ _=>rfl⟩,⟨rfl,rfl,rfl,fun _ _=>rfl⟩,tR⟩,rfl⟩
    show aG (vi (at_+((((dD s).getD i .empty).size:Int)+1))) (vi (at_+(l.size+1)))
    rw[hl];exact rfl
 have h3:i=(dD s).length:=by have:=adj h3;omega
 rw[h3,List.drop_length] at same
 have hp:dw s=OL s.size r:=by
  rw[dw,if_neg h1,if_neg h2,←same];rfl
 rw[hp]
 have aao:=hr.lev
 refine x.cond rfl tR (fun h4=>?_) (fun h4=>?_)
 ·have h4:(decide ((r.lev.length:Int)=0)||decide (r.depth=0))=true:=h4
  have h4:r.lev.length=0∨r.depth=0:=by
   simp only[Bool.or_eq_true,adn] at h4
   omega
  rw[OL,if_pos h4]
  refine x.lV ?_
  exact x.exit rfl tR ⟨⟨[(2, .ptr 0 0),(3,vi (s.size:Int)),(4,vi 4)],[(0, .box [vSs [],vU [],jC [],jC [],vi 0])],1⟩,⟨⟨⟨rfl,rfl⟩,rfl,rfl,tR⟩,⟨⟨rfl,rfl,rfl,rfl,rfl,tR⟩,tR⟩,rfl⟩, .inr rfl,⟨rfl,rfl,rfl,tR⟩,tR,rfl⟩
 have h4:(decide ((r.lev.length:Int)=0)||decide (r.depth=0))=false:=h4
 have h4:¬(r.lev.length=0∨r.depth=0):=by
  simp only[adw,adr] at h4
  omega
 rw[OL,if_neg h4]
 have hfl:=hr.flows
 refine Sx.Go.freeze 5 ?_
 refine Sx.Go.freeze 4 ?_
 refine Sx.Go.freeze 3 ?_
 refine Sx.Go.freeze 2 ?_
 have hbs:=OG r.lev.length r.flows (by omega) aao hr.flow (by unfold ak;omega)
 refine x.qm [] [0,1,2,3,4,5,6,7,8,9] (.fork 10 (.fork 11 (.fork 12 (.fork 13 (.fork 14 (.fork 15 .leaf .no) .no) (.fork 14 (.fork 13 (.fork 15 .leaf .no) .no) .no)) (.fork 13 (.fork 12 (.fork 14 (.fork 15 .leaf .no) .no) .no) .no)) .no) .no)
  ⟨[(0,vs s),(2, .ptr 0 0),(3,vi 0),(4,vi 0),(6, .ptr 1 0),(12,vU (if eZ (fu r.lev.length r.flows) then fu r.lev.length r.flows else [])),(13,vi (if eZ (fu r.lev.length r.flows) then 0 else 11))],[],6⟩ rfl tR ay (by kernel_rfl) Ret.bT rfl tR (fun C2 x2=>?_) ?_
 ·repeat' first
    | exact True.intro
    | refine And.intro ?_ ?_
    | refine x2.back rfl tR ?_
    | refine x2.pure rfl tR rfl hbs ⟨rfl,au rfl,tR⟩ (x2.back rfl tR ?_)
    | exact .inl ⟨⟨rfl,⟨rfl,rfl⟩,rfl,rfl,⟨rfl,rfl⟩,au rfl,rfl,tR⟩,tR,rfl⟩
 by_cases hR:eZ (fu r.lev.length r.flows)=true
 ·simp only[if_pos hR]
  refine x.cond rfl tR (fun h5=>?_) (fun h5=>?_)
  ·cases h5
  ·exact x.exit rfl tR ⟨.inr rfl,⟨rfl,rfl,rfl,tR⟩,tR,rfl⟩
 ·simp only[if_neg hR]
  refine x.cond rfl tR (fun h5=>?_) (fun h5=>?_)
  ·refine x.lV ?_
   exact x.exit rfl tR ⟨⟨[(2, .ptr 0 0),(3,vi (s.size:Int)),(4,vi 11)],[(0, .box [vSs [],vU [],jC [],jC [],vi 0])],1⟩,⟨⟨⟨rfl,rfl⟩,rfl,rfl,tR⟩,⟨⟨rfl,rfl,rfl,rfl,rfl,tR⟩,tR⟩,rfl⟩, .inr rfl,⟨rfl,rfl,rfl,tR⟩,tR,rfl⟩
  ·cases h5
structure PolSz (p:Pol):Prop where
 lev:p.lev.length*16≤140737488355328
 up:p.up.length*8≤140737488355328
 ins:p.ins.length*24≤140737488355328
 outs:p.outs.length*24≤140737488355328
def exP:ByteArray:=⟨#[108,101,118,101,108,32,108,111,119,10,108,101,118,101,108,32,104,105,103,104,10,102,108,111,119,32,108,111,119,32,104,105,103,104,10,105,110,112,117,116,32,107,101,121,32,104,105,103,104,10,111,117,116,112,117,116,32,110,101,116,32,108,111,119,10,100,101,112,116,104,32,56]⟩
theorem Y5:(dw exP).2.2=0∧(dw exP).1.lev.length=2∧(dw exP).1.ins.length=1∧((dw exP).1.ins.getD 0 aZ).2=1∧(dw exP).1.depth=8:=by decide +kernel
abbrev jP (p:Pol):Ch:=.box [vSs p.lev,vU p.up,jC p.ins,jC p.outs,vi p.depth]
theorem bO (p:Pol):lS (jP p) (jP p):=⟨ah rfl,ah rfl,ah rfl,ah rfl,rfl,tR⟩
theorem qZ {p:Pol} (h:PolSz p):ak (p.lev.length:Int)∧ak (p.up.length:Int)∧ak (p.ins.length:Int)∧ak (p.outs.length:Int):=by
 obtain⟨h1,h2,h3,h4⟩:=h
 unfold ak;omega
def o7 (p:Nat->Bool):Nat->Nat->Bool
 | 0,_=>true
 | n+1,i=>p i&&o7 p n (i+1)
theorem zI {p:Nat->Bool}:∀{n i:Nat},o7 p n i=true↔∀j,i≤j->j<i+n->p j=true
 | 0,i=>⟨fun _ j h1 h2=>by omega,fun _=>rfl⟩
 | n+1,i=>by
  rw[o7,adg,zI]
  constructor
  ·rintro ⟨h1,h2⟩ j h3 h4
   by_cases e:j=i
   ·subst e;exact h1
   ·exact h2 j (by omega) (by omega)
  ·intro h
   exact⟨h i (Nat.le_refl _) (by omega),fun j h1 h2=>h j (by omega) (by omega)⟩
theorem Fx {p:Nat->Bool}:∀{n i:Nat},0≤sJ p n i↔∃j,i≤j∧j<i+n∧p j=true
 | 0,i=>⟨fun h=>by simp [sJ] at h,fun ⟨j,h1,h2,_⟩=>by omega⟩
 | n+1,i=>by
  rw[sJ]
  by_cases h:p i=true
  ·rw[if_pos h]
   exact⟨fun _=>⟨i,Nat.le_refl _,by omega,h⟩,fun _=>by omega⟩
  ·rw[if_neg h,Fx]
   constructor
   ·rintro ⟨j,h1,h2,h3⟩;exact⟨j,by omega,by omega,h3⟩
   ·rintro ⟨j,h1,h2,h3⟩
    have:j≠i:=fun e=>by subst e;exact h h3
    exact⟨j,by omega,by omega,h3⟩
end Go.Proofs.YtojhdmfkfkfcbaaGreatDoor
namespace Go.Proofs.YtojhdmfkfkfcbaaGreatDoor
open Go.Sx
set_option linter.unusedVariables false
set_option linter.unusedSimpArgs false
theorem aar {x y:M64}:x||| y=y↔∀j,bit x j=true->bit y j=true:=by
 constructor
 ·intro h j hj
  rw[←h,Bc,hj];rfl
 ·intro h
  refine vo fun j hj=>?_
  rw[Bc]
  cases hx:bit x j with
  | false=>rfl
  | true=>rw[h j hx];rfl
theorem OM {x:M64} {j:Nat} (h:bit x j=true):j<64:=by
 by_cases h64:j<64
 ·exact h64
 ·rw[sK _ (by omega)] at h;cases h
theorem OO {up:List M64} (hl:up.length≤64) {a:Nat} (ha:a<up.length) (j:Nat):bit (upA (iq up) a) j=(decide (j<up.length)&&bit (upA up j) a):=by
 rw[yB up ha]
 by_cases h:j<64
 ·rw[gK _ h]
 ·rw[sK _ (by omega),decide_eq_false (show ¬j<up.length by omega)];rfl
theorem SX (x:M64):x||| x=x:=aar.2 fun _ h=>h
theorem Dp (f:Nat->M64) (k:Nat):∀(i r:Nat),qW f k i r=if r<i∧bit (f r) k=true then f r||| f k else f r
 | 0,r=>by rw[qW,if_neg (by omega)]
 | i+1,r=>by
  have hk:qW f k i k=f k:=by
   rw[Dp f k i k]
   split
   ·exact SX _
   ·rfl
  have hi:qW f k i i=f i:=by rw[Dp f k i i,if_neg (by omega)]
  rw[qW,Ib,hk,hi,Dp f k i r]
  by_cases e:r=i
  ·subst e
   rw[if_pos rfl]
   cases h:bit (f r) k with
   | true=>rw[if_pos rfl,if_pos ⟨by omega,rfl⟩]
   | false=>rw[if_neg (by simp),if_neg (by simp)]
  ·rw[if_neg e]
   by_cases h:r<i∧bit (f r) k=true
   ·rw[if_pos h,if_pos ⟨by omega,h.2⟩]
   ·rw[if_neg h,if_neg (fun ⟨a,b⟩=>h ⟨by omega,b⟩)]
theorem pX {ps:List (Nat×Nat)} {r j:Nat}:bit (aT ps r) j=true↔j<64∧(j=r∨(r,j)∈ps):=by
 unfold aT
 constructor
 ·intro h
  have hj:=OM h
  rw[gK _ hj] at h
  exact⟨hj,by simpa using h⟩
 ·rintro ⟨hj,h⟩
  rw[gK _ hj]
  simpa using h
def TrB (n:Nat) (f:Nat->M64) (k:Nat):Prop:=∀i m j,i<n->m<n->m<k->bit (f i) m=true->bit (f m) j=true->bit (f i) j=true
structure WOK (n:Nat) (ps:List (Nat×Nat)) (f:Nat->M64) (k:Nat):Prop where
 base:∀r j,r<n->bit (aT ps r) j=true->bit (f r) j=true
 inn:∀r,r<n->InU n (f r)
 tr:TrB n f k
 least:∀R:Nat->M64,(∀r j,r<n->bit (aT ps r) j=true->bit (R r) j=true)->TrB n R n->∀r j,r<n->bit (f r) j=true->bit (R r) j=true
theorem JA {n:Nat} {ps:List (Nat×Nat)} (hps:∀p∈ps,p.1<n∧p.2<n):∀k,k≤n->WOK n ps (mR n (aT ps) k) k
 | 0,_=>⟨fun _ _ _ h=>h,fun r hr j hj=>by
   rcases (pX.1 hj).2 with rfl | h
   ·exact hr
   ·exact (hps _ h).2,fun i m j _ _ h=>by omega,fun R hb _ r j hr h=>hb r j hr h⟩
 | k+1,hk=>by
  obtain⟨b,inn,tr,least⟩:=JA hps k (by omega)
  generalize hf:mR n (aT ps) k=f at b inn tr least
  have hr':∀r,mR n (aT ps) (k+1) r=if r<n∧bit (f r) k=true then f r||| f k else f r:=fun r=>by
   rw[mR,hf,Dp]
  have hkn:k<n:=by omega
  have Bj:∀r j,r<n->(bit (mR n (aT ps) (k+1) r) j=true↔bit (f r) j=true∨(bit (f r) k=true∧bit (f k) j=true)):=fun r j hr=>by
   rw[hr']
   by_cases h:bit (f r) k=true
   ·rw[if_pos ⟨hr,h⟩,Bc,Bool.or_eq_true]
    exact⟨fun e=>e.imp id fun e=>⟨h,e⟩,fun e=>e.imp id fun e=>e.2⟩
   ·rw[if_neg (fun e=>h e.2)]
    exact⟨.inl,fun e=>e.elim id fun e=>absurd e.1 h⟩
  refine⟨fun r j hr h=>(Bj r j hr).2 (.inl (b r j hr h)),fun r hr j hj=>?_,fun i m j hi hm hmk h1 h2=>?_,fun R hb ht r j hr h=>?_⟩
  ·rcases (Bj r j hr).1 hj with h | ⟨_,h⟩
   ·exact inn r hr j h
   ·exact inn k hkn j h
  ·rw[Bj i j hi]
   have h1:=(Bj i m hi).1 h1
   have h2:=(Bj m j hm).1 h2
   by_cases e:m=k
   ·subst e
    have h1:bit (f i) m=true:=h1.elim id fun e=>e.1
    have h2:bit (f m) j=true:=h2.elim id fun e=>e.2
    exact .inr ⟨h1,h2⟩
   ·have hmk:m<k:=by omega
    rcases h1 with h1 | ⟨h1,h1'⟩
    ·rcases h2 with h2 | ⟨h2,h2'⟩
     ·exact .inl (tr i m j hi hm hmk h1 h2)
     ·exact .inr ⟨tr i m k hi hm hmk h1 h2,h2'⟩
    ·rcases h2 with h2 | ⟨h2,h2'⟩
     ·exact .inr ⟨h1,tr k m j hkn hm hmk h1' h2⟩
     ·exact .inr ⟨h1,h2'⟩
  ·rcases (Bj r j hr).1 h with h | ⟨h,h'⟩
   ·exact least R hb ht r j hr h
   ·exact ht r k j hr hkn hkn (least R hb ht r k hr h) (least R hb ht k j hkn h')
theorem JB {n:Nat} {ps:List (Nat×Nat)} (hps:∀p∈ps,p.1<n∧p.2<n) {g:Nat->M64} (hb:∀r j,r<n->bit (aT ps r) j=true->bit (g r) j=true) (hc:∀r j,r<n->bit (g r) j=true->bit (closed n ps r) j=true)
  (ht:TrB n g n) {r:Nat} (hr:r<n):g r=closed n ps r:=by
 have h:=JA hps n (Nat.le_refl _)
 refine vo fun j _=>?_
 rw[Bool.eq_iff_iff]
 exact⟨hc r j hr,h.least g hb ht r j hr⟩
theorem SY {n:Nat} {ps:List (Nat×Nat)} (hps:∀p∈ps,p.1<n∧p.2<n):WOK n ps (closed n ps) n:=JA hps n (Nat.le_refl _)
def lack (m:M64):Nat:=64-(bits m).length
theorem JC (m:M64):(bits m).length≤64:=by
 unfold bits
 have:=List.length_filter_le (fun i=>bit m i) (List.range 64)
 rwa [List.length_range] at this
theorem zC (x:M64) (a:Nat) (l:List Nat):((a::l).filter fun i=>bit x i).length=(if bit x a=true then 1 else 0)+(l.filter fun i=>bit x i).length:=by
 by_cases h:bit x a=true
 ·rw[if_pos h,List.filter_cons_of_pos (p:=fun i=>bit x i) h,List.length_cons];omega
 ·rw[if_neg h,List.filter_cons_of_neg (p:=fun i=>bit x i) h];omega
theorem X5 {x y:M64} (h:∀j,bit x j=true->bit y j=true) (hne:x≠y):lack y<lack x:=by
 have hx:∃j,j<64∧bit x j=false∧bit y j=true:=by
  refine Classical.byContradiction fun hn=>hne (vo fun j hj=>?_)
  cases hxj:bit x j with
  | true=>rw[h j hxj]
  | false=>
   cases hyj:bit y j with
   | false=>rfl
   | true=>exact absurd ⟨j,hj,hxj,hyj⟩ hn
 obtain⟨j,hj,h1,h2⟩:=hx
 have hle:∀l:List Nat,(l.filter fun i=>bit x i).length≤(l.filter fun i=>bit y i).length:=fun l=>by
  induction l with
  | nil=>exact Nat.le_refl _
  | cons b l ih=>
   rw[zC,zC]
   by_cases hb:bit x b=true
   ·rw[if_pos hb,if_pos (h b hb)];omega
   ·rw[if_neg hb];omega
 have hlen:∀l:List Nat,j∈l->(l.filter fun i=>bit x i).length<(l.filter fun i=>bit y i).length:=fun l=>by
  induction l with
  | nil=>intro hm;cases hm
  | cons a l ih=>
   intro hm
   rw[zC,zC]
   rcases List.mem_cons.1 hm with rfl | hm
   ·rw[if_neg (by rw[h1];simp),if_pos h2]
    have:=hle l;omega
   ·have:=ih hm
    by_cases hb:bit x a=true
    ·rw[if_pos hb,if_pos (h a hb)];omega
    ·rw[if_neg hb];omega
 have:=hlen (List.range 64) (List.mem_range.2 hj)
 have hy:=JC y
 unfold lack bits at *
 omega
structure Ord (up:List M64):Prop where
 len:up.length≤64
 refl:∀i,i<up.length->bit (upA up i) i=true
 inn:∀i j,i<up.length->bit (upA up i) j=true->j<up.length
 tr:∀i k j,i<up.length->bit (upA up i) k=true->bit (upA up k) j=true->bit (upA up i) j=true
 anti:∀i k,i<up.length->bit (upA up i) k=true->bit (upA up k) i=true->i=k
theorem VY {up:List M64} (h:eY up=true):Ord up:=by
 have hl:=(qV h).2
 have hrow:∀i,i<up.length->mI up i=true:=fun i hi=>by
  unfold eY at h
  simp only[adg,List.all_eq_true] at h
  exact h.2 i (List.mem_range.2 hi)
 have row:∀i,i<up.length->bit (upA up i) i=true∧∀k,bit (upA up i) k=true->(∀j,bit (upA up k) j=true->bit (upA up i) j=true)∧¬(k≠i∧bit (upA up k) i=true):=fun i hi=>by
  have:=hrow i hi
  unfold mI at this
  simp only[adg,List.all_eq_true,adn,kW,sP,adt,Bool.and_eq_false_iff,adr] at this
  refine⟨this.1.1,fun k hk=>⟨(this.2 k hk).1,fun ⟨e1,e2⟩=>?_⟩⟩
  rcases (this.2 k hk).2 with e | e
  ·exact e e1
  ·rw[e2] at e;cases e
 exact⟨hl,fun i hi=>(row i hi).1,fun i j hi hj=>H8 h hi j hj,fun i k j hi h1 h2=>((row i hi).2 k h1).1 j h2,fun i k hi h1 h2=>by
  refine Classical.byContradiction fun e=>((row i hi).2 k h1).2 ⟨fun e'=>e e'.symm,h2⟩⟩
def ivM (up:List M64) (a b:Nat):M64:=upA up a&&& upA (iq up) b
theorem sU {up:List M64} (h:Ord up) {a b:Nat} (ha:a<up.length) (hb:b<up.length) (m:Nat):bit (ivM up a b) m=true↔bit (upA up a) m=true∧bit (upA up m) b=true:=by
 unfold ivM
 rw[Jr,OO h.len hb,adg,adg,adn]
 exact⟨fun e=>⟨e.1,e.2.2⟩,fun e=>⟨e.1,h.inn a m ha e.1,e.2⟩⟩
theorem CP {x y:M64} (h:∀j,bit x j=true->bit y j=true) (hne:∃j,bit y j=true∧bit x j=false):(bits x).length<(bits y).length:=by
 obtain⟨j,h1,h2⟩:=hne
 have:=X5 h (fun e=>by rw[e,h1] at h2;cases h2)
 unfold lack at this
 have:=JC x
 have:=JC y
 omega
theorem X6 {l:List Nat} (hn:l.Nodup) {a b:Nat} (hab:a≠b) (ha:a∈l) (hb:b∈l):l.length=2↔∀m∈l,m=a∨m=b:=by
 match l with
 | []=>cases ha
 | [x]=>simp at ha hb;omega
 | [x,y]=>
  simp at ha hb
  refine⟨fun _ m hm=>?_,fun _=>rfl⟩
  simp at hm
  omega
 | x::y::z::l=>
  simp at hn
  refine⟨fun h=>by simp at h,fun h=>?_⟩
  have h1:=h x (by simp)
  have h2:=h y (by simp)
  have h3:=h z (by simp)
  omega
def OP (up:List M64) (a b:Nat):Bool:=decide (VP (ivM up a b)=2)
def sV (up:List M64):List (Nat×Nat):=(List.range up.length).flatMap fun a=>((bits (Fh (upA up a) (a:Int))).filter (OP up a)).map fun b=>(a,b)
def Cov (up:List M64) (a b:Nat):Prop:=a≠b∧bit (upA up a) b=true∧∀m,bit (upA up a) m=true->bit (upA up m) b=true->m=a∨m=b
theorem Ih {up:List M64} (h:Ord up) {a b:Nat} (ha:a<up.length) (hab:a≠b) (h1:bit (upA up a) b=true):OP up a b=true↔∀m,bit (upA up a) m=true->bit (upA up m) b=true->m=a∨m=b:=by
 have hb:=h.inn a b ha h1
 have iv:=sU h ha hb
 have:=X6 (l:=bits (ivM up a b)) (Ow _) hab (kW.2 ((iv a).2 ⟨h.refl a ha,h1⟩)) (kW.2 ((iv b).2 ⟨h1,h.refl b hb⟩))
 unfold OP VP
 rw[adn]
 constructor
 ·intro e m m1 m2
  exact this.1 (by omega) m (kW.2 ((iv m).2 ⟨m1,m2⟩))
 ·intro e
  have:=this.2 fun m hm=>(fun q=>e m q.1 q.2) ((iv m).1 (kW.1 hm))
  omega
theorem yD {up:List M64} (h:Ord up) {a b:Nat}:(a,b)∈sV up↔a<up.length∧Cov up a b:=by
 unfold sV
 simp only[List.mem_flatMap,List.mem_range,List.mem_map,List.mem_filter,kW,Js,adg,adt,adr,adq]
 constructor
 ·rintro ⟨a',ha,b',⟨⟨h1,h2⟩,h3⟩,rfl,rfl⟩
  have hab:a'≠b':=fun e=>h2 (by rw[e])
  exact⟨ha,hab,h1,(Ih h ha hab h1).1 h3⟩
 ·rintro ⟨ha,h1,h2,h3⟩
  exact⟨a,ha,b,⟨⟨h2,by omega⟩,(Ih h ha h1 h2).2 h3⟩,rfl,rfl⟩
theorem Bl {up:List M64} (h:Ord up):∀p∈sV up,p.1<up.length∧p.2<up.length:=fun p hp=>by
 obtain⟨h1,h2,h3,h4⟩:=(yD (a:=p.1) (b:=p.2) h).1 hp
 exact⟨h1,h.inn _ _ h1 h3⟩
theorem sW {up:List M64} (h:Ord up) {ps:List (Nat×Nat)} (hps:∀p,p∈ps↔p∈sV up):∀(k a b:Nat),(bits (ivM up a b)).length<k->a<up.length->bit (upA up a) b=true->bit (closed up.length ps a) b=true
 | 0,a,b,hk,_,_=>by omega
 | k+1,a,b,hk,ha,h1=>by
  have hb:=h.inn a b ha h1
  have hlt:∀p∈ps,p.1<up.length∧p.2<up.length:=fun p hp=>Bl h p ((hps p).1 hp)
  have ok:=SY hlt
  by_cases e:a=b
  ·subst e
   exact ok.base a a ha (pX.2 ⟨OM h1, .inl rfl⟩)
  by_cases hc:∀m,bit (upA up a) m=true->bit (upA up m) b=true->m=a∨m=b
  ·exact ok.base a b ha (pX.2 ⟨OM h1, .inr ((hps _).2 ((yD h).2 ⟨ha,e,h1,hc⟩))⟩)
  ·obtain⟨m,hm⟩:=Classical.not_forall.1 hc
   have m1:bit (upA up a) m=true:=Classical.byContradiction fun q=>hm fun x=>absurd x q
   have m2:bit (upA up m) b=true:=Classical.byContradiction fun q=>hm fun _ x=>absurd x q
   have m3:¬(m=a∨m=b):=fun q=>hm fun _ _=>q
   have hmn:=h.inn a m ha m1
   have l1:(bits (ivM up a m)).length<(bits (ivM up a b)).length:=CP (fun j hj=>by
    rw[sU h ha hmn] at hj
    rw[sU h ha hb]
    exact⟨hj.1,h.tr j m b (h.inn a j ha hj.1) hj.2 m2⟩) ⟨b,(sU h ha hb b).2 ⟨h1,h.refl b hb⟩,by
     cases q:bit (ivM up a m) b with
     | false=>rfl
     | true=>
      rw[sU h ha hmn] at q
      exact absurd (.inr (h.anti m b hmn m2 q.2)) m3⟩
   have l2:(bits (ivM up m b)).length<(bits (ivM up a b)).length:=CP (fun j hj=>by
    rw[sU h hmn hb] at hj
    rw[sU h ha hb]
    exact⟨h.tr a m j ha m1 hj.1,hj.2⟩) ⟨a,(sU h ha hb a).2 ⟨h.refl a ha,h1⟩,by
     cases q:bit (ivM up m b) a with
     | false=>rfl
     | true=>
      rw[sU h hmn hb] at q
      exact absurd (.inl (h.anti m a hmn q.1 m1)) m3⟩
   exact ok.tr a m b ha hmn hmn (sW h hps k a m (by omega) ha m1) (sW h hps k m b (by omega) hmn m2)
theorem JD {up:List M64} (h:Ord up) {ps:List (Nat×Nat)} (hps:∀p,p∈ps↔p∈sV up):fu up.length ps=up:=by
 have hlt:∀p∈ps,p.1<up.length∧p.2<up.length:=fun p hp=>Bl h p ((hps p).1 hp)
 refine List.ext_getElem (by rw[qX]) fun i h1 h2=>?_
 have e1:=LX (n:=up.length) (ps:=ps) (i:=i) h2
 have e2:=JB (n:=up.length) (ps:=ps) hlt (g:=upA up) (fun r j hr hj=>by
  rcases (pX.1 hj).2 with rfl | hp
  ·exact h.refl _ hr
  ·exact ((yD h).1 ((hps _).1 hp)).2.2.1) (fun r j hr hj=>sW h hps _ r j (Nat.lt_succ_self _) hr hj) (fun i m j hi hm _ a b=>h.tr i m j hi a b) h2
 have e3:(fu up.length ps)[i]=upA (fu up.length ps) i:=by unfold upA;rw[adf,adh h1];rfl
 have e4:up[i]=upA up i:=by unfold upA;rw[adf,adh h2];rfl
 rw[e3,e1,←e2,←e4]
def bR (f:Nat->Nat):Nat->Nat
 | 0=>0
 | n+1=>bR f n+f n
theorem sZ {f g:Nat->Nat}:∀{n:Nat},(∀i,i<n->f i≤g i)->bR f n≤bR g n
 | 0,_=>Nat.le_refl _
 | n+1,h=>Nat.add_le_add (sZ fun i hi=>h i (by omega)) (h n (by omega))
theorem iM {f g:Nat->Nat} {n:Nat} (h:∀i,i<n->f i=g i):bR f n=bR g n:=
 Nat.le_antisymm (sZ fun i hi=>Nat.le_of_eq (h i hi)) (sZ fun i hi=>Nat.le_of_eq (h i hi).symm)
theorem q9 (f g:Nat->Nat):∀n,bR (fun i=>f i+g i) n=bR f n+bR g n
 | 0=>rfl
 | n+1=>by rw[bR,bR,bR,q9 f g n];omega
theorem zJ (k:Nat) (f:Nat->Nat):∀n,bR (fun i=>k*f i) n=k*bR f n
 | 0=>rfl
 | n+1=>by rw[bR,bR,zJ k f n,Nat.mul_add]
theorem iN (k:Nat):∀n,bR (fun _=>k) n=k*n
 | 0=>rfl
 | n+1=>by rw[bR,iN k n,Nat.mul_add,Nat.mul_one]
theorem wG (f:Nat->Nat->Nat) (m:Nat):∀n,bR (fun a=>bR (f a) m) n=bR (fun c=>bR (fun a=>f a c) n) m
 | 0=>by
  show 0=bR (fun _=>0) m
  rw[iN,Nat.zero_mul]
 | n+1=>by
  rw[bR,wG f m n,←q9];rfl
theorem Mh {f:Nat->Nat}:∀{n:Nat},(∀i,i<n->f i≤1)->(∀i j,i<n->j<n->f i≠0->f j≠0->i=j)->bR f n≤1
 | 0,_,_=>Nat.zero_le _
 | n+1,h1,h2=>by
  rw[bR]
  have ih:=Mh (f:=f) (n:=n) (fun i hi=>h1 i (by omega)) (fun i j hi hj=>h2 i j (by omega) (by omega))
  by_cases e:f n=0
  ·omega
  ·have:bR f n=0:=by
    have z:∀i,i<n->f i=0:=fun i hi=>Classical.byContradiction fun q=>by
     have:=h2 i n (by omega) (by omega) q e;omega
    rw[iM z,iN,Nat.zero_mul]
   have:=h1 n (by omega)
   omega
theorem S9 (d:Nat):17*d≤d*d+72:=by
 by_cases h:d<9
 ·have:∀d:Fin 9,17*d.1≤d.1*d.1+72:=by decide
  exact this ⟨d,h⟩
 ·obtain⟨k,rfl⟩:∃k,d=9+k:=⟨d-9,by omega⟩
  have:(9+k)*(9+k)=81+18*k+k*k:=by
   rw[Nat.mul_add,Nat.add_mul,Nat.add_mul];omega
  omega
theorem X7 (f:Nat->Nat) (n:Nat):bR f n*bR f n=bR (fun a=>bR (fun b=>f a*f b) n) n:=by
 have:bR (fun a=>bR (fun b=>f a*f b) n) n=bR (fun a=>bR f n*f a) n:=iM fun a _=>by rw[zJ,Nat.mul_comm]
 rw[this,zJ]
theorem few {n:Nat} (hn:n≤64) (x:Nat->Nat->Nat) (h1:∀a c,x a c≤1) (h2:∀a b c d,a<n->b<n->c<n->d<n->a≠b->x a c≠0->x b c≠0->x a d≠0->x b d≠0->c=d)
  {t:Nat} (ht:t<n) (h3:∀c,c<n->x t c=0):bR (fun a=>bR (x a) n) n≤536:=by
 have hm:∃m,bR (fun a=>bR (x a) n) n=m:=⟨_,rfl⟩
 obtain⟨m,hm⟩:=hm
 rw[hm]
 have hs:bR (fun c=>bR (fun a=>x a c) n) n=m:=by rw[←wG];exact hm
 have lo:17*m≤bR (fun c=>bR (fun a=>x a c) n*bR (fun a=>x a c) n) n+72*n:=by
  rw[←hs,←zJ,←iN,←q9]
  exact sZ fun c _=>S9 _
 have sq:bR (fun c=>bR (fun a=>x a c) n*bR (fun a=>x a c) n) n=bR (fun a=>bR (fun b=>bR (fun c=>x a c*x b c) n) n) n:=by
  have e1:bR (fun c=>bR (fun a=>x a c) n*bR (fun a=>x a c) n) n=bR (fun c=>bR (fun a=>bR (fun b=>x a c*x b c) n) n) n:=iM fun c _=>X7 (fun a=>x a c) n
  rw[e1,←wG (fun a c=>bR (fun b=>x a c*x b c) n)]
  exact iM fun a _=>by rw[←wG (fun b c=>x a c*x b c)]
 have row:∀a,a<n->bR (fun b=>bR (fun c=>x a c*x b c) n) n≤bR (x a) n+if a=t then 0 else n-1:=fun a ha=>by
  by_cases e:a=t
  ·subst e
   have:bR (fun b=>bR (fun c=>x a c*x b c) n) n=0:=by
    have z:∀b,b<n->bR (fun c=>x a c*x b c) n=0:=fun b _=>by
     have:∀c,c<n->x a c*x b c=0:=fun c hc=>by rw[h3 c hc,Nat.zero_mul]
     rw[iM this,iN,Nat.zero_mul]
    rw[iM z,iN,Nat.zero_mul]
   omega
  ·rw[if_neg e]
   have each:∀b,b<n->bR (fun c=>x a c*x b c) n≤(if b=a then bR (x a) n else 0)+(if b=a then 0 else 1):=fun b hb=>by
    by_cases eb:b=a
    ·subst eb
     rw[if_pos rfl,if_pos rfl,Nat.add_zero]
     exact sZ fun c _=>by
      have:=h1 b c
      rcases Nat.le_one_iff_eq_zero_or_eq_one.1 this with q | q<;>rw[q]<;>omega
    ·rw[if_neg eb,if_neg eb,Nat.zero_add]
     have nz:∀{u v:Nat},u*v≠0->u≠0∧v≠0:=fun {u v} q=>⟨fun z=>q (by rw[z,Nat.zero_mul]),fun z=>q (by rw[z,Nat.mul_zero])⟩
     refine Mh (fun c _=>?_) fun c d hc hd q1 q2=>h2 a b c d ha hb hc hd (fun z=>eb z.symm) (nz q1).1 (nz q1).2 (nz q2).1 (nz q2).2
     have u:=h1 a c
     have v:=h1 b c
     exact Nat.le_trans (Nat.mul_le_mul u v) (by decide)
   refine Nat.le_trans (sZ each) ?_
   rw[q9]
   have pick:∀(v:Nat) (k:Nat),a<k->bR (fun b=>if b=a then v else 0) k=v:=fun v k=>by
    induction k with
    | zero=>intro q;omega
    | succ k ih=>
     intro q
     rw[bR]
     by_cases ek:k=a
     ·have:bR (fun b=>if b=a then v else 0) k=0:=by
       rw[iM (g:=fun _=>0) fun i hi=>if_neg (by omega),iN,Nat.zero_mul]
      rw[this,if_pos ek,Nat.zero_add]
     ·rw[ih (by omega),if_neg ek,Nat.add_zero]
   have rest:∀k:Nat,a<k->bR (fun b=>if b=a then 0 else 1) k=k-1:=fun k=>by
    intro q
    have s:bR (fun b=>(if b=a then 1 else 0)+if b=a then 0 else 1) k=k:=by
     rw[iM (g:=fun _=>1) fun i _=>by by_cases z:i=a<;>simp [z],iN,Nat.one_mul]
    rw[q9,pick 1 k q] at s
    omega
   rw[pick _ n ha,rest n ha]
   exact Nat.le_refl _
 have hi:bR (fun c=>bR (fun a=>x a c) n*bR (fun a=>x a c) n) n≤m+(n-1)*(n-1):=by
  rw[sq]
  refine Nat.le_trans (sZ row) ?_
  rw[q9,hm]
  have:bR (fun a=>if a=t then 0 else n-1) n=(n-1)*(n-1):=by
   have s:∀k:Nat,t<k->bR (fun a=>if a=t then 0 else n-1) k=(n-1)*(k-1):=fun k=>by
    induction k with
    | zero=>intro q;omega
    | succ k ih=>
     intro q
     rw[bR]
     by_cases ek:k=t
     ·have:bR (fun a=>if a=t then 0 else n-1) k=(n-1)*k:=by
       rw[iM (g:=fun _=>n-1) fun i hi=>if_neg (by omega),iN]
      rw[this,if_pos ek,Nat.add_zero];rfl
     ·rw[ih (by omega),if_neg ek]
      obtain⟨k',rfl⟩:∃k',k=k'+1:=⟨k-1,by omega⟩
      show (n-1)*(k'+1-1)+(n-1)=(n-1)*(k'+1)
      rw[Nat.mul_add,Nat.mul_one];rfl
   exact s n ht
  omega
 have:(n-1)*(n-1)≤63*63:=Nat.mul_le_mul (by omega) (by omega)
 omega
end Go.Proofs.YtojhdmfkfkfcbaaGreatDoor
namespace Go.Proofs.YtojhdmfkfkfcbaaGreatDoor
open Go.Sx
set_option linter.unusedVariables false
set_option linter.unusedSimpArgs false
set_option maxRecDepth 100000
def JE (n:Nat) (l:List Chan) (i:Nat):Bool:=((jq (l.getD i aZ).1&&decide (fV l (l.getD i aZ).1=(i:Int)))&&decide (0≤(l.getD i aZ).2))&&decide ((l.getD i aZ).2<(n:Int))
def qA (n:Nat) (l:List Chan):Bool:=decide (l.length≤32)&&o7 (JE n l) l.length 0
def JF (l:List ByteArray) (i:Nat):Bool:=jq (l.getD i .empty)&&decide (bE l (l.getD i .empty)=(i:Int))
def Mi (p:Pol):Bool:=((decide (p.lev.length=p.up.length)&&eZ p.up)&&decide (1≤p.depth))&&decide (p.depth≤64)
def gU (p:Pol):Bool:=(Mi p&&o7 (JF p.lev) p.lev.length 0)&&(qA p.lev.length p.ins&&qA p.lev.length p.outs)
theorem ru {p:Nat->Bool} {n i:Nat} (h:i<n):o7 p (n-i) i=(p i&&o7 p (n-(i+1)) (i+1)):=by
 rw[show n-i=(n-(i+1))+1 by omega,o7]
theorem VZ {a b c d:Bool} (h:(((!a||b)||c)||d)=true):((((a&&!b)&&!c)&&!d):Bool)=false:=by
 cases a<;>cases b<;>cases c<;>cases d<;>simp_all
theorem Mj {p:Nat->Bool} {n i:Nat} (h:i<n) (hp:p i=true):0≤sJ p n 0:=Fx.2 ⟨i,Nat.zero_le _,by omega,hp⟩
theorem Ta {l:List Chan} {i:Nat} (h:i<l.length):0≤fV l (l.getD i aZ).1:=Mj (p:=fun j=>decide ((l.getD j aZ).1.data.toList=(l.getD i aZ).1.data.toList)) h (decide_eq_true rfl)
theorem Tc {l:List ByteArray} {i:Nat} (h:i<l.length):0≤bE l (l.getD i .empty):=Mj (p:=fun j=>decide ((l.getD j .empty).data.toList=(l.getD i .empty).data.toList)) h (decide_eq_true rfl)
theorem Fy (lev:List ByteArray) (l:List Chan) (aao:ak (lev.length:Int)) (hl:ak (l.length:Int)) (hz:∀c∈l,c.1.size≤9223372036854775807) :
  Pure PG 72 [.agg [vSs lev, .dead, .dead, .dead, .dead],jC l] (vb (qA lev.length l)) []:=by
 refine aI.mk (cfg 49) av [] Tryz.func72 rfl (by kernel_rfl) rfl rfl rfl ?_
 intro C x
 have hl0:=hl
 unfold ak at hl
 refine x.cond rfl tR (fun h=>?_) (fun h=>?_)
 ·have h:(32:Int)<l.length:=adi h
  refine x.exit rfl tR ⟨.inr rfl,?_,tR,rfl⟩
  rw[qA,decide_eq_false (show ¬l.length≤32 by omega)];exact rfl
 have h:¬(32:Int)<l.length:=adj h
 have hle:l.length≤32:=by omega
 refine x.loop (α:={i:Nat // i≤l.length∧o7 (JE lev.length l) (l.length-i) i=o7 (JE lev.length l) l.length 0}) (fun y=>⟨[(1,jC l),(2, .ptr 0 0),(12,jC l),(13,vi (l.length:Int)),(14,vi (y.1:Int))],[(0, .box [vSs lev, .dead, .dead, .dead, .dead])],1⟩) (fun y=>l.length-y.1) ⟨0,by omega,rfl⟩ rfl tR ⟨⟨au rfl,⟨rfl,rfl⟩,au rfl,rfl,rfl,tR⟩,⟨⟨ah rfl,rfl,rfl,rfl,rfl,tR⟩,tR⟩,rfl⟩ (fun y=>?_)
 obtain⟨i,hi,hsame⟩:=y
 change Go C _ ⟨[(1,jC l),(2, .ptr 0 0),(12,jC l),(13,vi (l.length:Int)),(14,vi (i:Int))],[(0, .box [vSs lev, .dead, .dead, .dead, .dead])],1⟩ _
 refine x.cond rfl tR (fun h1=>?_) (fun h1=>?_)
 ·have h1:i<l.length:=by have:=adi h1;omega
  have hsz:(l.getD i aZ).1.size≤9223372036854775807:=hz _ (by rw[adf,adh h1];exact List.getElem_mem h1)
  rw[ru h1] at hsame
  have h0:=Ta h1
  refine x.pure rfl (by simp only[aj];omega) rfl (oD l (l.getD i aZ).1 hl0) ⟨au rfl,rfl,rfl,tR⟩ ?_
  refine x.pure rfl tR rfl (yA (l.getD i aZ).1 hsz) ⟨rfl,tR⟩ ?_
  refine x.cond rfl tR (fun h2=>?_) (fun h2=>?_)
  ·have h2:(((!jq (l.getD i aZ).1||!decide ((if 0 > fV l (l.getD i aZ).1 then 0 else fV l (l.getD i aZ).1)=(i:Int)))||decide ((l.getD i aZ).2<0))||decide ((lev.length:Int)≤(l.getD i aZ).2))=true:=h2
   rw[if_neg (by omega)] at h2
   have e:JE lev.length l i=false:=by
    rw[←VZ h2]
    unfold JE
    rw[Bool.not_not,show (!decide ((l.getD i aZ).2<0))=decide (0≤(l.getD i aZ).2) by rw[←decide_not,decide_eq_decide];omega,show (!decide ((lev.length:Int)≤(l.getD i aZ).2))=decide ((l.getD i aZ).2<(lev.length:Int)) by rw[←decide_not,decide_eq_decide];omega]
   refine x.exit rfl tR ⟨.inr rfl,?_,tR,rfl⟩
   rw[e,Bool.false_and] at hsame
   rw[qA,←hsame,Bool.and_false];exact rfl
  ·have h2:(((!jq (l.getD i aZ).1||!decide ((if 0 > fV l (l.getD i aZ).1 then 0 else fV l (l.getD i aZ).1)=(i:Int)))||decide ((l.getD i aZ).2<0))||decide ((lev.length:Int)≤(l.getD i aZ).2))=false:=h2
   rw[if_neg (by omega)] at h2
   simp only[adw,Bool.not_eq_false',adr,adn] at h2
   obtain⟨⟨⟨e1,e2⟩,e3⟩,e4⟩:=h2
   have e:JE lev.length l i=true:=by
    unfold JE
    rw[e1,decide_eq_true e2,decide_eq_true (show 0≤(l.getD i aZ).2 by omega),decide_eq_true (show (l.getD i aZ).2<(lev.length:Int) by omega)];rfl
   rw[e,Bool.true_and] at hsame
   refine x.back rfl ?_ ⟨⟨i+1,by omega,hsame⟩,by show l.length-(i+1)<l.length-i;omega,⟨au rfl,⟨rfl,rfl⟩,au rfl,rfl,(show aG (vi ((i:Int)+1)) (vi ((i+1:Nat):Int)) by rw[ads];rfl),tR⟩,⟨⟨ah rfl,rfl,rfl,rfl,rfl,tR⟩,tR⟩,rfl⟩
   simp only[aj,ak];omega
 ·have h1:i=l.length:=by have:=adj h1;omega
  refine x.exit rfl tR ⟨.inr rfl,?_,tR,rfl⟩
  rw[h1,Nat.sub_self] at hsame
  rw[qA,←hsame,decide_eq_true hle];exact rfl
structure Td (p:Pol):Prop extends PolSz p where
 levZ:∀s∈p.lev,s.size≤9223372036854775807
 insZ:∀c∈p.ins,c.1.size≤9223372036854775807
 acV:∀c∈p.outs,c.1.size≤9223372036854775807
set_option maxHeartbeats 2000000 in
theorem CQ (p:Pol) (h:Td p):Pure PG 21 [Jz p] (vb (gU p)) []:=by
 obtain⟨i1,i2,i3,i4⟩:=qZ h.toPolSz
 refine aI.mk (cfg 63) av [] Tryz.func21 rfl (by kernel_rfl) rfl rfl rfl ?_
 intro C x
 refine x.gW rfl tR rfl (fun _=>CJ p.up i2) rfl ⟨au rfl,tR⟩ ?_
 have e0:decide ((p.up.length:Int)=(p.lev.length:Int))=decide (p.lev.length=p.up.length):=by rw[decide_eq_decide];omega
 refine x.cond rfl tR (fun h1=>?_) (fun h1=>?_)
 ·have h1:(((!decide ((p.up.length:Int)=(p.lev.length:Int))||!eZ p.up)||decide (p.depth<1))||decide (64<p.depth))=true:=h1
  refine x.exit rfl tR ⟨.inr rfl,?_,tR,rfl⟩
  rw[e0] at h1
  have e:=VZ h1
  rw[Bool.not_not,show (!decide (p.depth<1))=decide (1≤p.depth) by rw[←decide_not,decide_eq_decide];omega,show (!decide (64<p.depth))=decide (p.depth≤64) by rw[←decide_not,decide_eq_decide];omega] at e
  rw[gU,Mi,e];exact rfl
 have h1:(((!decide ((p.up.length:Int)=(p.lev.length:Int))||!eZ p.up)||decide (p.depth<1))||decide (64<p.depth))=false:=h1
 simp only[adw,Bool.not_eq_false',adr,adn] at h1
 obtain⟨⟨⟨e1,e2⟩,e3⟩,e4⟩:=h1
 have eh:Mi p=true:=by
  unfold Mi
  rw[e2,decide_eq_true (show p.lev.length=p.up.length by omega),decide_eq_true (show 1≤p.depth by omega),decide_eq_true (show p.depth≤64 by omega)];rfl
 have hl:=i1
 unfold ak at hl
 refine x.loop (α:={i:Nat // i≤p.lev.length∧o7 (JF p.lev) (p.lev.length-i) i=o7 (JF p.lev) p.lev.length 0}) (fun y=>⟨[(1, .ptr 0 0),(31,vSs p.lev),(32,vi (p.lev.length:Int)),(33,vi (y.1:Int))],[(0,jP p)],1⟩) (fun y=>p.lev.length-y.1) ⟨0,by omega,rfl⟩ rfl tR ⟨⟨⟨rfl,rfl⟩,au rfl,rfl,rfl,tR⟩,⟨bO p,tR⟩,rfl⟩ (fun y=>?_)
 obtain⟨i,hi,hsame⟩:=y
 change Go C _ ⟨[(1, .ptr 0 0),(31,vSs p.lev),(32,vi (p.lev.length:Int)),(33,vi (i:Int))],[(0,jP p)],1⟩ _
 refine x.cond rfl tR (fun h1=>?_) (fun h1=>?_)
 ·have h1:i<p.lev.length:=by have:=adi h1;omega
  have hsz:(p.lev.getD i .empty).size≤9223372036854775807:=h.levZ _ (by rw[adf,adh h1];exact List.getElem_mem h1)
  rw[ru h1] at hsame
  have h0:=Tc h1
  refine x.pure rfl (by simp only[aj];omega) rfl (jo p.lev (p.lev.getD i .empty) i1) ⟨⟨ah rfl,rfl,rfl,rfl,rfl,tR⟩,rfl,tR⟩ ?_
  refine x.pure rfl tR rfl (yA (p.lev.getD i .empty) hsz) ⟨rfl,tR⟩ ?_
  refine x.cond rfl tR (fun h2=>?_) (fun h2=>?_)
  ·have h2:(!jq (p.lev.getD i .empty)||!decide ((if 0 > bE p.lev (p.lev.getD i .empty) then 0 else bE p.lev (p.lev.getD i .empty))=(i:Int)))=true:=h2
   rw[if_neg (by omega)] at h2
   have e:JF p.lev i=false:=by
    unfold JF
    rw[←Bool.not_and,adt] at h2
    exact h2
   refine x.exit rfl tR ⟨.inr rfl,?_,tR,rfl⟩
   rw[e,Bool.false_and] at hsame
   rw[gU,←hsame,Bool.and_false];exact rfl
  ·have h2:(!jq (p.lev.getD i .empty)||!decide ((if 0 > bE p.lev (p.lev.getD i .empty) then 0 else bE p.lev (p.lev.getD i .empty))=(i:Int)))=false:=h2
   rw[if_neg (by omega)] at h2
   have e:JF p.lev i=true:=by
    unfold JF
    rw[←Bool.not_and,Bool.not_eq_false'] at h2
    exact h2
   rw[e,Bool.true_and] at hsame
   refine x.back rfl ?_ ⟨⟨i+1,by omega,hsame⟩,by show p.lev.length-(i+1)<p.lev.length-i;omega,⟨⟨rfl,rfl⟩,au rfl,rfl,(show aG (vi ((i:Int)+1)) (vi ((i+1:Nat):Int)) by rw[ads];rfl),tR⟩,⟨bO p,tR⟩,rfl⟩
   simp only[aj,ak];omega
 ·have h1:i=p.lev.length:=by have:=adj h1;omega
  rw[h1,Nat.sub_self] at hsame
  have e:gU p=(qA p.lev.length p.ins&&qA p.lev.length p.outs):=by rw[gU,←hsame,eh];rfl
  refine x.pure rfl tR rfl (Fy p.lev p.ins i1 i3 h.insZ) ⟨⟨ah rfl,rfl,rfl,rfl,rfl,tR⟩,au rfl,tR⟩ ?_
  refine x.gW rfl tR rfl (fun _=>Fy p.lev p.outs i1 i4 h.acV) rfl ⟨⟨ah rfl,rfl,rfl,rfl,rfl,tR⟩,au rfl,tR⟩ ?_
  refine x.exit rfl tR ⟨.inr rfl,?_,tR,rfl⟩
  rw[e];exact rfl
end Go.Proofs.YtojhdmfkfkfcbaaGreatDoor
