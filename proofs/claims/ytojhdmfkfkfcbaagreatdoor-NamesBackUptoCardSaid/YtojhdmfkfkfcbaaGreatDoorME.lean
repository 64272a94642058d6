import Derived.Test.YtojhdmfkfkfcbaaGreatDoorMD
import Derived.Test.YtojhdmfkfkfcbaaGreatDoorMC
import Derived.Test.YtojhdmfkfkfcbaaGreatDoorSxH
import Derived.Test.YtojhdmfkfkfcbaaGreatDoorSxG
import Derived.Test.YtojhdmfkfkfcbaaGreatDoorMA
import Derived.Test.YtojhdmfkfkfcbaaGreatDoorMB
import Derived.Test.YtojhdmfkfkfcbaaGreatDoorSxF
import Derived.Test.YtojhdmfkfkfcbaaGreatDoorShelf
set_option maxHeartbeats 1000000000
set_option linter.unusedSimpArgs false
set_option linter.unusedVariables false
namespace Go.Proofs.YtojhdmfkfkfcbaaGreatDoor
open Go.Sx
set_option maxRecDepth 100000
abbrev wT:Nat:=118
abbrev Oa(at_ e:Int):Out:=.die wT [(.i64,at_),(.i64,e)]
theorem kU(a e:Int):Pure PG 51 [vb true,vi a,vi e] (.tup []) []:=by
 refine aG.mk (cfg 12) aA [] Tryz.func51 Z (by kernel_rfl) Z Z Z ?_
 intro C x;refine x.cond Z tR (λh=>?_) (λh=>?_)
 ·cases (show false=true from h)
 ·exact x.exit Z tR ⟨.inl Z,tR,tR,Z⟩
theorem jy(a e:Int):IQ PG 51 [vb false,vi a,vi e] [] wT [(.i64,a),(.i64,e)]:=by
 refine aX.mk (out:=Oa a e) (cfg 12) aA [] Tryz.func51 Z (by kernel_rfl) Z Z Z ?_
 intro C x;refine x.cond Z tR (λh=>?_) (λh=>?_)
 ·exact x.raise Z tR Z Z Z ⟨Z,Z⟩
 ·cases (show true=false from h)
theorem look_ok{l:List BY}{s:BY}(h:posB l s=true)(a:Int):Pure PG 158 [.d (.mp l),vs s,vi a] (vi (dN l s)) []:=by
 refine aG.mk (cfg 19) aA [] Tryz.func158 Z (by kernel_rfl) Z Z Z ?_
 intro C x;refine x.pure Z tR Z (kU a 10) ⟨(show aI (vb (posB l s)) (vb true) by rw[h];exact Z),Z,Z,tR⟩ ?_
 exact x.exit Z tR ⟨.inr Z,Z,tR,Z⟩
theorem ql{l:List BY}{s:BY}(h:posB l s=false)(a:Int):IQ PG 158 [.d (.mp l),vs s,vi a] [] wT [(.i64,a),(.i64,10)]:=by
 refine aX.mk (out:=Oa a 10) (cfg 19) aA [] Tryz.func158 Z (by kernel_rfl) Z Z Z ?_
 intro C x;exact x.die [] Z tR Z (jy a 10) ⟨(show aI (vb (posB l s)) (vb false) by rw[h];exact Z),Z,Z,tR⟩ Z tR ⟨Z,Z⟩
theorem Bh(n a:Int):Pure PG 53 [vi n,vb true,vi a] (vi n) []:=by
 refine aG.mk (cfg 11) aA [] Tryz.func53 Z (by kernel_rfl) Z Z Z ?_
 intro C x;refine x.pure Z tR Z (kU a 10) ⟨Z,Z,Z,tR⟩ ?_;exact x.exit Z tR ⟨.inr Z,Z,tR,Z⟩
theorem yg(n a:Int):IQ PG 53 [vi n,vb false,vi a] [] wT [(.i64,a),(.i64,10)]:=by
 refine aX.mk (out:=Oa a 10) (cfg 11) aA [] Tryz.func53 Z (by kernel_rfl) Z Z Z ?_
 intro C x;exact x.die [] Z tR Z (jy a 10) ⟨Z,Z,Z,tR⟩ Z tR ⟨Z,Z⟩
theorem yh(k:Int):Pure PG 108 [.d (.int .u8 k)] (vb (mq k)) []:=by
 refine aG.mk (cfg 5) aA [] Tryz.func108 Z (by kernel_rfl) Z Z Z ?_
 intro C x;exact x.exit Z tR ⟨.inr Z,Z,tR,Z⟩
theorem Te(s:BY):Pure PG 103 [vs s] (vs s) []:=by
 refine aG.mk (cfg 4) aA [] Tryz.func103 Z (by kernel_rfl) Z Z Z ?_
 intro C x;exact x.exit Z tR ⟨.inr Z,Z,tR,Z⟩
abbrev fnC(f:Fun):Ch:=.box [vs f.name,.d (bE f.params),.d (iA f.blocks),vi f.at_]
theorem zO(f:Fun):mH (fnC f) (fnC f):=⟨Z,ah Z,ah Z,Z,tR⟩
theorem YT(f:Fun)(s:BY):aG PG 104 1 [vs s,.ptr 0 0] [fnC f] (vi f.at_) [fnC f]:=by
 refine aG.mk (dP 6 1) aA [0] Tryz.func104 Z (by kernel_rfl) Z Z Z ?_
 intro C x;exact x.exit Z tR ⟨.inr Z,Z,⟨zO f,tR⟩,Z⟩
abbrev adG(b:Blk):V:=.agg [vs b.name,.d (pY b.code),vi b.at_]
theorem Ob(b:Blk):Pure PG 106 [adG b] (vs b.name) []:=by
 refine aG.mk (cfg 5) aA [] Tryz.func106 Z (by kernel_rfl) Z Z Z ?_
 intro C x;exact x.exit Z tR ⟨.inr Z,Z,tR,Z⟩
theorem YU(b:Blk):Pure PG 107 [adG b] (vi b.at_) []:=by
 refine aG.mk (cfg 5) aA [] Tryz.func107 Z (by kernel_rfl) Z Z Z ?_
 intro C x;exact x.exit Z tR ⟨.inr Z,Z,tR,Z⟩
theorem Oc(f:Fun):Pure PG 55 [fnV f] (vs f.name) []:=by
 refine aG.mk (cfg 5) aA [] Tryz.func55 Z (by kernel_rfl) Z Z Z ?_
 intro C x;exact x.exit Z tR ⟨.inr Z,Z,tR,Z⟩
theorem YV(f:Fun):Pure PG 56 [fnV f] (vi f.at_) []:=by
 refine aG.mk (cfg 5) aA [] Tryz.func56 Z (by kernel_rfl) Z Z Z ?_
 intro C x;exact x.exit Z tR ⟨.inr Z,Z,tR,Z⟩
structure NmW (L:List (BY×Int)) (R:Flt (List BY)) where
 i:Nat
 acc:List BY
 hi:i≤L.length
 ha:acc.length=i
 same:gK acc (L.drop i)=R
theorem G9{L:List (BY×Int)}{acc:List BY}{i:Nat}(h:i<L.length){s:BY}{a:Int}(e:L[i]?=some (s,a)):gK acc (L.drop i)=if posB acc s=true then .error (a,9) else gK (acc++[s]) (L.drop (i+1)):=by
 rw[List.drop_eq_getElem_cons h];rw[agO h] at e;rw[agS e,gK]
abbrev nmO(H:List Ch)(r:V):Flt (List BY)->Out
 | .ok o=>.ret r (H++[.pos o])
 | .error (a,e)=>Oa a e
theorem VR(f:Fun)(hl:f.params.length*16≤140737488355328):aX PG 102 1 [.d (bE f.params),.fn 103 [],.fn 104 [.ptr 0 0]] [fnC f] (nmO [fnC f] (.own 1) (gK [] (f.params.map λs=>(s,f.at_)))):=by
 obtain⟨L,hL⟩:∃L,f.params.map (λs=>(s,f.at_))=L:=⟨_,Z⟩
 have hLl:L.length=f.params.length:=by rw[←hL];simp
 have hLi:∀i,i<f.params.length->L[i]?=some (f.params.getD i .empty,f.at_):=λi hi=>by rw[←hL,List.getElem?_map,agM,agO hi];rfl
 rw[hL];obtain⟨R,hR⟩:∃R,gK [] L=R:=⟨_,Z⟩;rw[hR]
 refine aX.mk (dP 41 1) aA [0,1] Tryz.func102 rfl (by kernel_rfl) rfl rfl (by rcases R with⟨a,e⟩ | o<;>rfl) ?_
 intro C x;refine x.loop (α:=NmW L R) (λy=>⟨[(1,.fn 103 []),(2,.fn 104 [.ptr 0 0]),(7,.own 1),(13,.d (bE f.params)),(14,vi (f.params.length:Int)),(15,vi (y.i:Int))],[(0,fnC f),(1,.pos y.acc)],2⟩) (λy=>f.params.length-y.i) ⟨0,[],Nat.zero_le _,Z,hR⟩ Z tR ⟨⟨Z,Z,Z,av Z,Z,Z,tR⟩,⟨zO f,tR,tR⟩,Z⟩ (λy=>?_)
 obtain⟨i,acc,hi,ha,same⟩:=y;change Go C _ ⟨[(1,.fn 103 []),(2,.fn 104 [.ptr 0 0]),(7,.own 1),(13,.d (bE f.params)),(14,vi (f.params.length:Int)),(15,vi (i:Int))],[(0,fnC f),(1,.pos acc)],2⟩ _;refine x.cond Z tR (λh1=>?_) (λh1=>?_)
 rotate_left
 ·have h1:i=f.params.length:=by have:=agQ h1;omega
  rw[List.drop_of_length_le (by omega),gK] at same
  subst same;exact x.exit Z tR ⟨.inr Z,Z,⟨zO f,Z,tR⟩,Z⟩
 have h1:i<f.params.length:=by have:=agP h1;omega
 rw[G9 (by omega) (hLi i h1)] at same
 refine x.pure Z (by simp only[ak];omega) Z (Te (f.params.getD i .empty)) ⟨Z,tR⟩ ?_
 refine x.call [0] Z tR Z (YT f (f.params.getD i .empty)) Z ⟨Z,⟨Z,Z⟩,tR⟩ ⟨zO f,tR⟩ ?_
 cases hp:posB acc (f.params.getD i .empty) with
 | true=>
  rw[hp,if_pos rfl] at same;subst same;exact x.die [] Z tR Z (jy f.at_ 9) ⟨Z,Z,Z,tR⟩ Z tR ⟨Z,Z⟩
 | false=>
  rw[hp,if_neg (by simp)] at same
  refine x.pure Z tR Z (kU f.at_ 9) ⟨Z,Z,Z,tR⟩ ?_;refine x.pure Z tR Z (Te (f.params.getD i .empty)) ⟨Z,tR⟩ ?_;refine x.back Z (by refine⟨hp,by rw[ha],?_⟩;simp only[ak,aj];omega) ⟨⟨i+1,acc++[f.params.getD i .empty],by omega,by simp [ha],same⟩,by show f.params.length-(i+1)<f.params.length-i;omega,⟨Z,Z,Z,av Z,Z,(show aI (vi ((i:Int)+1)) (vi ((i+1:Nat):Int)) by rw[agY];rfl),tR⟩,⟨zO f,Z,tR⟩,Z⟩
theorem VT(bs:List Blk)(hl:bs.length*48≤140737488355328):aX PG 105 0 [.d (iA bs),.fn 106 [],.fn 107 []] [] (nmO [] (.own 0) (gK [] (bs.map λb=>(b.name,b.at_)))):=by
 obtain⟨L,hL⟩:∃L,bs.map (λb=>(b.name,b.at_))=L:=⟨_,Z⟩
 have hLl:L.length=bs.length:=by rw[←hL];simp
 have hLi:∀i,i<bs.length->L[i]?=some ((bs.getD i bN).name,(bs.getD i bN).at_):=λi hi=>by rw[←hL,List.getElem?_map,agM,agO hi];rfl
 rw[hL];obtain⟨R,hR⟩:∃R,gK [] L=R:=⟨_,Z⟩;rw[hR]
 refine aX.mk (cfg 41) aA [0] Tryz.func105 rfl (by kernel_rfl) rfl rfl (by rcases R with⟨a,e⟩ | o<;>rfl) ?_
 intro C x;refine x.loop (α:=NmW L R) (λy=>⟨[(1,.fn 106 []),(2,.fn 107 []),(7,.own 0),(13,.d (iA bs)),(14,vi (bs.length:Int)),(15,vi (y.i:Int))],[(0,.pos y.acc)],1⟩) (λy=>bs.length-y.i) ⟨0,[],Nat.zero_le _,Z,hR⟩ Z tR ⟨⟨Z,Z,Z,av Z,Z,Z,tR⟩,⟨tR,tR⟩,Z⟩ (λy=>?_)
 obtain⟨i,acc,hi,ha,same⟩:=y;change Go C _ ⟨[(1,.fn 106 []),(2,.fn 107 []),(7,.own 0),(13,.d (iA bs)),(14,vi (bs.length:Int)),(15,vi (i:Int))],[(0,.pos acc)],1⟩ _;refine x.cond Z tR (λh1=>?_) (λh1=>?_)
 rotate_left
 ·have h1:i=bs.length:=by have:=agQ h1;omega
  rw[List.drop_of_length_le (by omega),gK] at same
  subst same;exact x.exit Z tR ⟨.inr Z,Z,⟨Z,tR⟩,Z⟩
 have h1:i<bs.length:=by have:=agP h1;omega
 rw[G9 (by omega) (hLi i h1)] at same
 refine x.pure Z (by simp only[ak];omega) Z (Ob (bs.getD i bN)) ⟨⟨Z,ah Z,Z,tR⟩,tR⟩ ?_
 refine x.pure Z tR Z (YU (bs.getD i bN)) ⟨⟨Z,ah Z,Z,tR⟩,tR⟩ ?_
 cases hp:posB acc (bs.getD i bN).name with
 | true=>
  rw[hp,if_pos rfl] at same;subst same;exact x.die [] Z tR Z (jy (bs.getD i bN).at_ 9) ⟨Z,Z,Z,tR⟩ Z tR ⟨Z,Z⟩
 | false=>
  rw[hp,if_neg (by simp)] at same
  refine x.pure Z tR Z (kU (bs.getD i bN).at_ 9) ⟨Z,Z,Z,tR⟩ ?_;refine x.pure Z tR Z (Ob (bs.getD i bN)) ⟨⟨Z,ah Z,Z,tR⟩,tR⟩ ?_;refine x.back Z (by refine⟨hp,by rw[ha],?_⟩;simp only[ak,aj];omega) ⟨⟨i+1,acc++[(bs.getD i bN).name],by omega,by simp [ha],same⟩,by show bs.length-(i+1)<bs.length-i;omega,⟨Z,Z,Z,av Z,Z,(show aI (vi ((i:Int)+1)) (vi ((i+1:Nat):Int)) by rw[agY];rfl),tR⟩,⟨Z,tR⟩,Z⟩
theorem VU(bs:List Fun)(hl:bs.length*72≤140737488355328):aX PG 54 0 [.d (bW bs),.fn 55 [],.fn 56 []] [] (nmO [] (.own 0) (gK [] (bs.map λb=>(b.name,b.at_)))):=by
 obtain⟨L,hL⟩:∃L,bs.map (λb=>(b.name,b.at_))=L:=⟨_,Z⟩
 have hLl:L.length=bs.length:=by rw[←hL];simp
 have hLi:∀i,i<bs.length->L[i]?=some ((bs.getD i bM).name,(bs.getD i bM).at_):=λi hi=>by rw[←hL,List.getElem?_map,agM,agO hi];rfl
 rw[hL];obtain⟨R,hR⟩:∃R,gK [] L=R:=⟨_,Z⟩;rw[hR]
 refine aX.mk (cfg 41) aA [0] Tryz.func54 rfl (by kernel_rfl) rfl rfl (by rcases R with⟨a,e⟩ | o<;>rfl) ?_
 intro C x;refine x.loop (α:=NmW L R) (λy=>⟨[(1,.fn 55 []),(2,.fn 56 []),(7,.own 0),(13,.d (bW bs)),(14,vi (bs.length:Int)),(15,vi (y.i:Int))],[(0,.pos y.acc)],1⟩) (λy=>bs.length-y.i) ⟨0,[],Nat.zero_le _,Z,hR⟩ Z tR ⟨⟨Z,Z,Z,av Z,Z,Z,tR⟩,⟨tR,tR⟩,Z⟩ (λy=>?_)
 obtain⟨i,acc,hi,ha,same⟩:=y;change Go C _ ⟨[(1,.fn 55 []),(2,.fn 56 []),(7,.own 0),(13,.d (bW bs)),(14,vi (bs.length:Int)),(15,vi (i:Int))],[(0,.pos acc)],1⟩ _;refine x.cond Z tR (λh1=>?_) (λh1=>?_)
 rotate_left
 ·have h1:i=bs.length:=by have:=agQ h1;omega
  rw[List.drop_of_length_le (by omega),gK] at same
  subst same;exact x.exit Z tR ⟨.inr Z,Z,⟨Z,tR⟩,Z⟩
 have h1:i<bs.length:=by have:=agP h1;omega
 rw[G9 (by omega) (hLi i h1)] at same
 refine x.pure Z (by simp only[ak];omega) Z (Oc (bs.getD i bM)) ⟨⟨Z,ah Z,ah Z,Z,tR⟩,tR⟩ ?_
 refine x.pure Z tR Z (YV (bs.getD i bM)) ⟨⟨Z,ah Z,ah Z,Z,tR⟩,tR⟩ ?_
 cases hp:posB acc (bs.getD i bM).name with
 | true=>
  rw[hp,if_pos rfl] at same;subst same;exact x.die [] Z tR Z (jy (bs.getD i bM).at_ 9) ⟨Z,Z,Z,tR⟩ Z tR ⟨Z,Z⟩
 | false=>
  rw[hp,if_neg (by simp)] at same
  refine x.pure Z tR Z (kU (bs.getD i bM).at_ 9) ⟨Z,Z,Z,tR⟩ ?_;refine x.pure Z tR Z (Oc (bs.getD i bM)) ⟨⟨Z,ah Z,ah Z,Z,tR⟩,tR⟩ ?_;refine x.back Z (by refine⟨hp,by rw[ha],?_⟩;simp only[ak,aj];omega) ⟨⟨i+1,acc++[(bs.getD i bM).name],by omega,by simp [ha],same⟩,by show bs.length-(i+1)<bs.length-i;omega,⟨Z,Z,Z,av Z,Z,(show aI (vi ((i:Int)+1)) (vi ((i+1:Nat):Int)) by rw[agY];rfl),tR⟩,⟨Z,tR⟩,Z⟩
abbrev lC(r:Res):Ch:=.box [vSs r.p.lev,vU r.p.up,j4 r.p.ins,j4 r.p.outs,vi r.p.depth,.d (bX r.q.arrays),.d (bW r.q.funcs),.d (.mp r.zL),.d (.mp r.fns)]
theorem aU(r:Res):mH (lC r) (lC r):=⟨ah Z,ah Z,ah Z,ah Z,Z,ah Z,ah Z,Z,Z,tR⟩
abbrev scW(s:Scp):V:=.agg [.d (.mp s.blks),.d (.mp s.vals)]
theorem YW{b:List Ins}{j:Nat}(h:j<b.length):zM (b.drop j)=(if (b.getD j (aM 0)).dst.data.toList=[] then [] else [((b.getD j (aM 0)).dst,(b.getD j (aM 0)).at_)])++zM (b.drop (j+1)):=by
 have e:b[j]=b.getD j (aM 0):=by rw[agM,agO h];rfl
 rw[List.drop_eq_getElem_cons h,e,zM,List.filterMap_cons];split<;>rename_i h1
 ·split at h1
  ·rename_i h2;rw[if_pos h2];rfl
  ·cases h1
 ·split at h1
  ·cases h1
  ·rename_i h2;rw[if_neg h2,←agS h1];rfl
theorem VW{bs:List Blk}{i:Nat}(h:i<bs.length):mI (bs.drop i)=zM (bs.getD i bN).code++mI (bs.drop (i+1)):=by
 have e:bs[i]=bs.getD i bN:=by rw[agM,agO h];rfl
 rw[List.drop_eq_getElem_cons h,e];rfl
structure SpW (bs:List Blk) (R:Flt (List BY)) where
 i:Nat
 acc:List BY
 hi:i≤bs.length
 same:gK acc (mI (bs.drop i))=R
structure SpI (code:List Ins) (L:List (BY×Int)) (R:Flt (List BY)) where
 j:Nat
 acc:List BY
 hj:j≤code.length
 same:gK acc (zM (code.drop j)++L)=R
abbrev spO(r:Res):Flt Scp->Out
 | .ok s=>.ret (scW s) [lC r]
 | .error (a,e)=>Oa a e
structure Tf(f:Fun):Prop where
 p:f.params.length*16≤140737488355328
 b:f.blocks.length*48≤140737488355328
 c:∀b∈f.blocks,b.code.length*120≤140737488355328
theorem Tf.at{f:Fun}(h:Tf f)(i:Nat):(f.blocks.getD i bN).code.length*120≤140737488355328:=by
 by_cases hi:i<f.blocks.length
 ·rw[agM,agO hi];exact h.c _ (List.getElem_mem hi)
 ·rw[agM,List.getElem?_eq_none (by omega)];exact Nat.zero_le _
theorem Q0(r:Res)(f:Fun)(hf:Tf f):aX PG 57 1 [.ptr 0 0,fnV f] [lC r] (spO r (EK f)):=by
 have h1:=VR f hf.p;have h2:=VT f.blocks hf.b;obtain⟨P,hP⟩:∃P,gK [] (f.params.map λs=>(s,f.at_))=P:=⟨_,Z⟩
 obtain⟨B,hB⟩:∃B,gK [] (f.blocks.map λb=>(b.name,b.at_))=B:=⟨_,Z⟩
 rw[EK,hP,hB];rw[hP] at h1;rw[hB] at h2
 refine aX.mk (dP 62 1) aA [0] Tryz.func57 Z (by kernel_rfl) Z Z (by
  rcases P with⟨a,e⟩ | vs
  ·rfl
  rcases B with⟨a,e⟩ | bs
  ·rfl
  show SC _ _ _ (spO r (bd (gK vs (mI f.blocks)) _))=true
  rcases gK vs (mI f.blocks) with⟨a,e⟩ | vs'<;>rfl) ?_
 intro C x
 rcases P with⟨a,e⟩ | vs
 ·exact x.die [1] Z tR Z h1 ⟨av Z,Z,Z,tR⟩ Z ⟨zO f,tR⟩ ⟨Z,Z⟩
 refine x.call [1] Z tR Z h1 Z ⟨av Z,Z,Z,tR⟩ ⟨zO f,tR⟩ ?_
 rcases B with⟨a,e⟩ | bs
 ·exact x.die [] Z tR Z h2 ⟨av Z,Z,Z,tR⟩ Z tR ⟨Z,Z⟩
 refine x.call [] Z tR Z h2 Z ⟨av Z,Z,Z,tR⟩ tR ?_;refine x.toLoop Z tR ?_;refine Sx.Go.freeze 4 ?_;obtain⟨R,hR⟩:∃R,gK vs (mI f.blocks)=R:=⟨_,Z⟩;change Go C _ _ (gQ _ _ _ (spO r (bd (gK vs (mI f.blocks)) λvs'=>.ok ⟨bs,vs'⟩)))
 rw[hR];have hfb:=hf.b;refine x.loop (α:=SpW f.blocks R) (λy=>⟨[(4,.ptr 2 0),(6,.ptr 5 0),(23,.d (iA f.blocks)),(24,vi (f.blocks.length:Int)),(25,vi (y.i:Int))],[(0,lC r),(2,.box [.dead,.dead]),(3,.pos y.acc),(5,.box [.d (.mp bs),.own 3])],6⟩) (λy=>f.blocks.length-y.i) ⟨0,vs,Nat.zero_le _,hR⟩ Z tR ⟨⟨⟨Z,Z⟩,⟨Z,Z⟩,av Z,Z,Z,tR⟩,⟨aU r,⟨Z,Z,tR⟩,Z,⟨Z,Z,tR⟩,tR⟩,Z⟩ (λy=>?_)
 obtain⟨i,acc,hi,same⟩:=y;change Go C _ ⟨[(4,.ptr 2 0),(6,.ptr 5 0),(23,.d (iA f.blocks)),(24,vi (f.blocks.length:Int)),(25,vi (i:Int))],[(0,lC r),(2,.box [.dead,.dead]),(3,.pos acc),(5,.box [.d (.mp bs),.own 3])],6⟩ _;refine x.cond Z tR (λh3=>?_) (λh3=>?_)
 rotate_left
 ·have h3:i=f.blocks.length:=by have:=agQ h3;omega
  rw[List.drop_of_length_le (by omega),show mI []=[] from rfl,gK] at same
  subst same;refine Sx.Go.freeze 3 ?_;exact x.exit Z tR ⟨.inr Z,⟨Z,Z,tR⟩,⟨aU r,tR⟩,Z⟩
 have h3:i<f.blocks.length:=by have:=agP h3;omega
 rw[VW h3] at same;have hfc:=hf.at i;refine x.loop (α:=SpI (f.blocks.getD i bN).code (mI (f.blocks.drop (i+1))) R) (λz=>⟨[(4,.ptr 2 0),(6,.ptr 5 0),(23,.d (iA f.blocks)),(24,vi (f.blocks.length:Int)),(25,vi (i:Int)),(30,.d (pY (f.blocks.getD i bN).code)),(31,vi ((f.blocks.getD i bN).code.length:Int)),(32,vi (z.j:Int))],[(0,lC r),(2,.box [.dead,.dead]),(3,.pos z.acc),(5,.box [.d (.mp bs),.own 3])],6⟩) (λz=>(f.blocks.getD i bN).code.length-z.j) ⟨0,acc,Nat.zero_le _,by rw[List.drop_zero];exact same⟩ Z (by simp only[ak];omega) ⟨⟨⟨Z,Z⟩,⟨Z,Z⟩,av Z,Z,Z,av Z,Z,Z,tR⟩,⟨aU r,⟨Z,Z,tR⟩,Z,⟨Z,Z,tR⟩,tR⟩,Z⟩ (λz=>?_)
 clear same
 obtain⟨j,acc,hj,same⟩:=z;change Go C _ ⟨[(4,.ptr 2 0),(6,.ptr 5 0),(23,.d (iA f.blocks)),(24,vi (f.blocks.length:Int)),(25,vi (i:Int)),(30,.d (pY (f.blocks.getD i bN).code)),(31,vi ((f.blocks.getD i bN).code.length:Int)),(32,vi (j:Int))],[(0,lC r),(2,.box [.dead,.dead]),(3,.pos acc),(5,.box [.d (.mp bs),.own 3])],6⟩ _;refine x.cond Z tR (λh4=>?_) (λh4=>?_)
 rotate_left
 ·have h4:j=(f.blocks.getD i bN).code.length:=by have:=agQ h4;omega
  rw[List.drop_of_length_le (by omega)] at same
  exact x.back Z (by simp only[ak,aj];omega) ⟨⟨i+1,acc,by omega,same⟩,by show f.blocks.length-(i+1)<f.blocks.length-i;omega,⟨⟨Z,Z⟩,⟨Z,Z⟩,av Z,Z,(show aI (vi ((i:Int)+1)) (vi ((i+1:Nat):Int)) by rw[agY];rfl),tR⟩,⟨aU r,⟨Z,Z,tR⟩,Z,⟨Z,Z,tR⟩,tR⟩,Z⟩
 have h4:j<(f.blocks.getD i bN).code.length:=by have:=agP h4;omega
 rw[YW h4] at same;refine x.cond Z (by simp only[ak];omega) (λh5=>?_) (λh5=>?_)
 ·have h5:((f.blocks.getD i bN).code.getD j (aM 0)).dst.data.toList=[]:=agP h5
  rw[if_pos h5,List.nil_append] at same;exact x.back Z (by simp only[ak,aj];omega) ⟨⟨j+1,acc,by omega,same⟩,by show (f.blocks.getD i bN).code.length-(j+1)<(f.blocks.getD i bN).code.length-j;omega,⟨⟨Z,Z⟩,⟨Z,Z⟩,av Z,Z,Z,av Z,Z,(show aI (vi ((j:Int)+1)) (vi ((j+1:Nat):Int)) by rw[agY];rfl),tR⟩,⟨aU r,⟨Z,Z,tR⟩,Z,⟨Z,Z,tR⟩,tR⟩,Z⟩
 have h5:¬((f.blocks.getD i bN).code.getD j (aM 0)).dst.data.toList=[]:=agQ h5;rw[if_neg h5] at same;have same:gK acc ((((f.blocks.getD i bN).code.getD j (aM 0)).dst,((f.blocks.getD i bN).code.getD j (aM 0)).at_)::(zM ((f.blocks.getD i bN).code.drop (j+1))++mI (f.blocks.drop (i+1))))=R:=same;rw[gK] at same
 cases hp:posB acc ((f.blocks.getD i bN).code.getD j (aM 0)).dst with
 | true=>
  rw[hp,if_pos rfl] at same;subst same;exact x.die [] Z tR Z (jy ((f.blocks.getD i bN).code.getD j (aM 0)).at_ 9) ⟨(show aI (vb (!posB acc ((f.blocks.getD i bN).code.getD j (aM 0)).dst)) (vb false) by rw[hp];exact Z),Z,Z,tR⟩ Z tR ⟨Z,Z⟩
 | false=>
  rw[hp,if_neg (by simp)] at same
  refine x.pure Z tR Z (kU ((f.blocks.getD i bN).code.getD j (aM 0)).at_ 9) ⟨(show aI (vb (!posB acc ((f.blocks.getD i bN).code.getD j (aM 0)).dst)) (vb true) by rw[hp];exact Z),Z,Z,tR⟩ ?_
  exact x.back Z (by refine⟨hp,Z,?_⟩;simp only[ak,aj];omega) ⟨⟨j+1,acc++[((f.blocks.getD i bN).code.getD j (aM 0)).dst],by omega,same⟩,by show (f.blocks.getD i bN).code.length-(j+1)<(f.blocks.getD i bN).code.length-j;omega,⟨⟨Z,Z⟩,⟨Z,Z⟩,av Z,Z,Z,av Z,Z,(show aI (vi ((j:Int)+1)) (vi ((j+1:Nat):Int)) by rw[agY];rfl),tR⟩,⟨aU r,⟨Z,Z,tR⟩,Z,⟨Z,Z,tR⟩,tR⟩,Z⟩
abbrev rfO(r:Res):Flt (Int×Int)->Out
 | .ok n=>.ret (.tup [vi n.1,vi n.2]) [lC r]
 | .error (a,e)=>Oa a e
theorem qm{l:List BY}{s:BY}(h:posB l s=true)(a:Int):gL l s a=.ok (dN l s):=by rw[gL,if_pos h]
theorem qo{l:List BY}{s:BY}(h:posB l s=false)(a:Int):gL l s a=.error (a,10):=by rw[gL,if_neg (by rw[h];simp)]
abbrev I5(x:Ins):Ch:=.box [.d (.int .u8 x.kind),.d (.int .u8 x.op),vs x.dst,vs x.ref,vs x.alt,.d (bE x.args),.d (bE x.frm),vi x.num,vi x.at_]
theorem oM(x:Ins):mH (I5 x) (I5 x):=⟨Z,Z,Z,Z,Z,ah Z,ah Z,Z,Z,tR⟩
abbrev scC(s:Scp):Ch:=.box [.d (.mp s.blks),.d (.mp s.vals)]
theorem qp(s:Scp):mH (scC s) (scC s):=⟨Z,Z,tR⟩
theorem VX(r:Res)(s:Scp)(x0:Ins)(hz:PolSz r.p):aX PG 157 1 [.ptr 0 0,scW s,xD x0] [lC r] (rfO r (nX r s x0)):=by
 obtain⟨i1,i2,i3,i4⟩:=sP hz;obtain⟨R,hR⟩:∃R,nX r s x0=R:=⟨_,Z⟩;rw[hR];unfold nX at hR
 refine aX.mk (dP 118 1) aA [0] Tryz.func157 rfl (by kernel_rfl) rfl rfl (by rcases R with⟨a,e⟩ | o<;>rfl) ?_
 intro C x;refine x.ite (α:=Unit) (λ_=>⟨[(0,.ptr 0 0),(4,.ptr 1 0),(5,.ptr 2 0),(6,vi 0),(7,vi 0),(15,.d (.int .u8 x0.kind)),(16,vb (decide (x0.kind=4∨x0.kind=5∨x0.kind=6)))],[(0,lC r),(1,scC s),(2,I5 x0)],3⟩) Z tR (λh=>?_) (λh=>?_) (λ_=>?_)
 ·have h:x0.kind=4:=agP h
  refine x.back Z tR ⟨(),⟨⟨Z,Z⟩,⟨Z,Z⟩,⟨Z,Z⟩,Z,Z,Z,?_,tR⟩,⟨aU r,qp s,oM x0,tR⟩,Z⟩;show aI (vb (decide (x0.kind=4))) (vb _);rw[decide_eq_true h,decide_eq_true (.inl h)];exact Z
 ·have h:¬x0.kind=4:=agQ h
  refine x.cond Z tR (λh5=>?_) (λh5=>?_)
  ·have h5:x0.kind=5:=agP h5
   refine x.back Z tR ⟨(),⟨⟨Z,Z⟩,⟨Z,Z⟩,⟨Z,Z⟩,Z,Z,Z,?_,tR⟩,⟨aU r,qp s,oM x0,tR⟩,Z⟩;show aI (vb (decide (x0.kind=5))) (vb _);rw[decide_eq_true h5,decide_eq_true (.inr (.inl h5))];exact Z
  ·have h5:¬x0.kind=5:=agQ h5
   refine x.back Z tR ⟨(),⟨⟨Z,Z⟩,⟨Z,Z⟩,⟨Z,Z⟩,Z,Z,Z,?_,tR⟩,⟨aU r,qp s,oM x0,tR⟩,Z⟩;show aI (vb (decide (x0.kind=6))) (vb _);rw[show decide (x0.kind=4∨x0.kind=5∨x0.kind=6)=decide (x0.kind=6) by rw[decide_eq_decide];omega];exact Z
 change Go C _ ⟨[(0,.ptr 0 0),(4,.ptr 1 0),(5,.ptr 2 0),(6,vi 0),(7,vi 0),(15,.d (.int .u8 x0.kind)),(16,vb (decide (x0.kind=4∨x0.kind=5∨x0.kind=6)))],[(0,lC r),(1,scC s),(2,I5 x0)],3⟩ _;refine x.cond Z tR (λh=>?_) (λh=>?_)
 ·have h:x0.kind=4∨x0.kind=5∨x0.kind=6:=agP h
  rw[if_pos h] at hR
  cases hp:posB r.zL x0.ref with
  | false=>
   rw[qo hp,bd] at hR;subst hR;refine x.draw [] [] [0,1,2,3,4,5,6,7] [8] [9] Z tR ay (by kernel_rfl) gQ.quiet Z tR (λC1 x1=>?_)
   exact x1.die [] Z tR Z (ql hp x0.at_) ⟨Z,Z,Z,tR⟩ Z tR ⟨⟨_,Z⟩,Z,Z,Z⟩
  | true=>
   rw[qm hp,bd] at hR;subst hR;refine x.draw [] [] [0,1,2,3,4,5,6,7] [8] [9] Z tR ay (by kernel_rfl) gQ.quiet Z tR (λC1 x1=>?_)
   refine x1.pure Z tR Z (look_ok hp x0.at_) ⟨Z,Z,Z,tR⟩ ?_;refine x1.back Z tR ?_;exact x.exit Z tR ⟨.inr Z,⟨Z,Z,tR⟩,⟨aU r,tR⟩,Z⟩
 have h4:¬(x0.kind=4∨x0.kind=5∨x0.kind=6):=agQ h;rw[if_neg h4] at hR;refine x.cond Z tR (λh=>?_) (λh=>?_)
 ·have h:x0.kind=7:=agP h
  rw[if_pos h] at hR
  cases hp:posB r.fns x0.ref with
  | false=>
   rw[qo hp,bd] at hR;subst hR;refine x.draw [] [] [0,1,2,3,4,5,6,7] [8] [9] Z tR ay (by kernel_rfl) gQ.quiet Z tR (λC1 x1=>?_)
   exact x1.die [] Z tR Z (ql hp x0.at_) ⟨Z,Z,Z,tR⟩ Z tR ⟨⟨_,Z⟩,Z,Z,Z⟩
  | true=>
   rw[qm hp,bd] at hR;subst hR;refine x.draw [] [] [0,1,2,3,4,5,6,7] [8] [9] Z tR ay (by kernel_rfl) gQ.quiet Z tR (λC1 x1=>?_)
   refine x1.pure Z tR Z (look_ok hp x0.at_) ⟨Z,Z,Z,tR⟩ ?_;refine x1.back Z tR ?_;exact x.exit Z tR ⟨.inr Z,⟨Z,Z,tR⟩,⟨aU r,tR⟩,Z⟩
 have h7:¬x0.kind=7:=agQ h;rw[if_neg h7] at hR;refine x.cond Z tR (λh=>?_) (λh=>?_)
 ·have h:x0.kind=8:=agP h
  rw[if_pos h] at hR;refine x.quiet Z tR ay (by kernel_rfl) ?_
  refine x.rZ Z tR Z (QC r.p.ins x0.ref i3) Z Z ⟨⟨Z,Z,ah Z,Z,Z,tR⟩,Z,tR⟩ ?_;refine x.eY Z tR ?_;by_cases hp:0≤gT r.p.ins x0.ref
  ·rw[dQ,if_pos hp,bd] at hR
   subst hR;refine x.pure Z tR Z (Bh (gT r.p.ins x0.ref) x0.at_) ⟨(show aI (vi (if 0 > gT r.p.ins x0.ref then 0 else gT r.p.ins x0.ref)) (vi (gT r.p.ins x0.ref)) by rw[if_neg (by omega)];exact Z),(show aI (vb (decide (0≤gT r.p.ins x0.ref))) (vb true) by rw[decide_eq_true hp];exact Z),Z,tR⟩ ?_
   exact x.exit Z tR ⟨.inr Z,⟨Z,Z,tR⟩,⟨aU r,tR⟩,Z⟩
  ·rw[dQ,if_neg hp,bd] at hR
   subst hR;exact x.die [] Z tR Z (yg _ x0.at_) ⟨Z,(show aI (vb (decide (0≤gT r.p.ins x0.ref))) (vb false) by rw[decide_eq_false hp];exact Z),Z,tR⟩ Z tR ⟨Z,Z⟩
 have h8:¬x0.kind=8:=agQ h;rw[if_neg h8] at hR;refine x.cond Z tR (λh=>?_) (λh=>?_)
 ·have h:x0.kind=9:=agP h
  rw[if_pos h] at hR;refine x.quiet Z tR ay (by kernel_rfl) ?_
  refine x.rZ Z tR Z (NG r.p.outs x0.ref i4) Z Z ⟨⟨Z,Z,Z,ah Z,Z,tR⟩,Z,tR⟩ ?_;refine x.eY Z tR ?_;by_cases hp:0≤gT r.p.outs x0.ref
  ·rw[dQ,if_pos hp,bd] at hR
   subst hR;refine x.pure Z tR Z (Bh (gT r.p.outs x0.ref) x0.at_) ⟨(show aI (vi (if 0 > gT r.p.outs x0.ref then 0 else gT r.p.outs x0.ref)) (vi (gT r.p.outs x0.ref)) by rw[if_neg (by omega)];exact Z),(show aI (vb (decide (0≤gT r.p.outs x0.ref))) (vb true) by rw[decide_eq_true hp];exact Z),Z,tR⟩ ?_
   exact x.exit Z tR ⟨.inr Z,⟨Z,Z,tR⟩,⟨aU r,tR⟩,Z⟩
  ·rw[dQ,if_neg hp,bd] at hR
   subst hR;exact x.die [] Z tR Z (yg _ x0.at_) ⟨Z,(show aI (vb (decide (0≤gT r.p.outs x0.ref))) (vb false) by rw[decide_eq_false hp];exact Z),Z,tR⟩ Z tR ⟨Z,Z⟩
 have h9:¬x0.kind=9:=agQ h;rw[if_neg h9] at hR;refine x.cond Z tR (λh=>?_) (λh=>?_)
 ·have h:x0.kind=10:=agP h
  rw[if_pos h] at hR;refine x.quiet Z tR ay (by kernel_rfl) ?_
  refine x.rZ Z tR Z (jT r.p.lev x0.ref i1) Z Z ⟨⟨ah Z,Z,Z,Z,Z,tR⟩,Z,tR⟩ ?_;refine x.eY Z tR ?_;by_cases hp:0≤bH r.p.lev x0.ref
  ·rw[dQ,if_pos hp,bd] at hR
   subst hR;refine x.pure Z tR Z (Bh (bH r.p.lev x0.ref) x0.at_) ⟨(show aI (vi (if 0 > bH r.p.lev x0.ref then 0 else bH r.p.lev x0.ref)) (vi (bH r.p.lev x0.ref)) by rw[if_neg (by omega)];exact Z),(show aI (vb (decide (0≤bH r.p.lev x0.ref))) (vb true) by rw[decide_eq_true hp];exact Z),Z,tR⟩ ?_
   exact x.exit Z tR ⟨.inr Z,⟨Z,Z,tR⟩,⟨aU r,tR⟩,Z⟩
  ·rw[dQ,if_neg hp,bd] at hR
   subst hR;exact x.die [] Z tR Z (yg _ x0.at_) ⟨Z,(show aI (vb (decide (0≤bH r.p.lev x0.ref))) (vb false) by rw[decide_eq_false hp];exact Z),Z,tR⟩ Z tR ⟨Z,Z⟩
 have h10:¬x0.kind=10:=agQ h;rw[if_neg h10] at hR;refine x.cond Z tR (λh=>?_) (λh=>?_)
 ·have h:x0.kind=11:=agP h
  rw[if_pos h] at hR
  cases hp:posB s.blks x0.ref with
  | false=>
   rw[qo hp,bd] at hR;subst hR;exact x.die [] Z tR Z (ql hp x0.at_) ⟨Z,Z,Z,tR⟩ Z tR ⟨Z,Z⟩
  | true=>
   rw[qm hp,bd] at hR;subst hR;refine x.pure Z tR Z (look_ok hp x0.at_) ⟨Z,Z,Z,tR⟩ ?_;exact x.exit Z tR ⟨.inr Z,⟨Z,Z,tR⟩,⟨aU r,tR⟩,Z⟩
 have h11:¬x0.kind=11:=agQ h;rw[if_neg h11] at hR;refine x.cond Z tR (λh=>?_) (λh=>?_)
 ·have h:x0.kind=12:=agP h
  rw[if_pos h] at hR
  cases hp:posB s.blks x0.ref with
  | false=>
   rw[qo hp,bd] at hR;subst hR;refine x.draw [] [] [0,1,2,3,4,5,7,8,9,10,11,12] [6] [13,14,15] Z tR ay (by kernel_rfl) gQ.quiet Z tR (λC1 x1=>?_)
   exact x1.die [] Z tR Z (ql hp x0.at_) ⟨Z,Z,Z,tR⟩ Z tR ⟨⟨_,Z⟩,Z,Z,Z⟩
  | true=>
   rw[qm hp,bd] at hR
   cases hp2:posB s.blks x0.alt with
   | false=>
    rw[qo hp2,bd] at hR;subst hR;refine x.draw [] [] [0,1,2,3,4,5,7,8,9,10,11,12] [6,13] [14,15] Z tR ay (by kernel_rfl) gQ.quiet Z tR (λC1 x1=>?_)
    refine x1.pure Z tR Z (look_ok hp x0.at_) ⟨Z,Z,Z,tR⟩ ?_;refine x1.back Z tR ?_;exact x1.die [] Z tR Z (ql hp2 x0.at_) ⟨Z,Z,Z,tR⟩ Z tR ⟨⟨_,Z⟩,Z,Z,Z⟩
   | true=>
    rw[qm hp2,bd] at hR;subst hR;refine x.draw [] [] [0,1,2,3,4,5,7,8,9,10,11,12] [6,13] [14,15] Z tR ay (by kernel_rfl) gQ.quiet Z tR (λC1 x1=>?_)
    refine x1.pure Z tR Z (look_ok hp x0.at_) ⟨Z,Z,Z,tR⟩ ?_;refine x1.back Z tR ?_;refine x1.pure Z tR Z (look_ok hp2 x0.at_) ⟨Z,Z,Z,tR⟩ ?_;refine x1.back Z tR ?_;exact x.exit Z tR ⟨.inr Z,⟨Z,Z,tR⟩,⟨aU r,tR⟩,Z⟩
 have h12:¬x0.kind=12:=agQ h;rw[if_neg h12] at hR;subst hR;exact x.exit Z tR ⟨.inr Z,⟨Z,Z,tR⟩,⟨aU r,tR⟩,Z⟩
theorem La(s:BY):∀(i:Nat) (l:List BY) (n:Nat),vC i l s=some n->i≤n∧n<i+l.length
 | _,[],_,h=>by cases h
 | i,a::l,n,h=>by
  unfold vC at h;split at h
  ·cases h;simp
  ·have:=La s (i+1) l n h
   simp only[List.length_cons];omega
theorem uN{l:List BY}{s:BY}(h:posB l s=true):0≤dN l s∧dN l s<(l.length:Int):=by
 unfold posB at h;unfold dN
 cases hp:vC 0 l s with
 | none=>rw[hp] at h;cases h
 | some n=>
  have:=La s 0 l n hp;show (0:Int)≤(n:Int)∧(n:Int)<_;omega
abbrev CX(l:List Int):Ch:=.vec 3 1 l.length λi=>[.int .i64 (l.getD i 0)]
structure LkW (l:List BY) (a:Int) (L:List BY) (R:Flt (List Int)) where
 i:Nat
 acc:List Int
 hi:i≤L.length
 ha:acc.length=i
 same:fE l a (L.drop i) acc=R
theorem He{l:List BY}{a:Int}{L:List BY}{i:Nat}(h:i<L.length)(acc:List Int):fE l a (L.drop i) acc=bd (gL l (L.getD i .empty) a) λn=>fE l a (L.drop (i+1)) (acc++[n]):=by
 have e:L[i]=L.getD i .empty:=by rw[agM,agO h];rfl
 rw[List.drop_eq_getElem_cons h,e,fE]
theorem Tg(o:List Int)(n:Int)(j:Nat)(hj:j<o.length+1):app o.length (λi=>[D.int .i64 (o.getD i 0)]) (λ_=>[D.int .i64 n]) j=[D.int .i64 ((o++[n]).getD j 0)]:=iD (λn:Int=>[D.int .i64 n]) 1 (λ_=>rfl) 0 o n j hj
structure Od(x:Ins):Prop where
 a:x.args.length*16≤140737488355328
 f:x.frm.length*16≤140737488355328
abbrev opO(r:Res):Flt Op9->Out
 | .ok y=>.ret (opW y) [lC r]
 | .error (a,e)=>Oa a e
theorem YX(r:Res)(s:Scp)(x0:Ins)(hz:PolSz r.p)(hx:Od x0)(hfn:r.fns.length=r.q.funcs.length):aX PG 109 1 [.ptr 0 0,scW s,xD x0] [lC r] (opO r (yJ r s x0)):=by
 have hrefs:=VX r s x0 hz;have hxa:=hx.a;have hxf:=hx.f;obtain⟨Q,hQ⟩:∃Q,yJ r s x0=Q:=⟨_,Z⟩;rw[hQ];unfold yJ at hQ
 have hk7:∀ra,nX r s x0=.ok ra->x0.kind=7->0≤ra.1∧ra.1<(r.q.funcs.length:Int):=λra h k=>by
  unfold nX at h;rw[if_neg (by omega),if_pos k] at h
  obtain⟨n,h1,h2⟩:=mR h
  cases h2
  unfold gL at h1;split at h1
  ·rename_i hp
   cases h1
   have:=uN hp;rw[←hfn];exact this
  ·cases h1
 obtain⟨RA,hRA⟩:∃RA,nX r s x0=RA:=⟨_,Z⟩;rw[hRA] at hrefs hQ hk7
 refine aX.mk (dP 99 1) aA [0] Tryz.func109 rfl (by kernel_rfl) rfl rfl (by rcases Q with⟨a,e⟩ | o<;>rfl) ?_
 intro C x
 rcases RA with⟨a,e⟩ | ra
 ·rw[bd] at hQ
  subst hQ;exact x.die [0] Z tR Z hrefs ⟨⟨Z,Z⟩,⟨Z,Z,tR⟩,⟨Z,Z,Z,Z,Z,ah Z,ah Z,Z,Z,tR⟩,tR⟩ Z ⟨aU r,tR⟩ ⟨Z,Z⟩
 rw[bd] at hQ;have hk7:=hk7 ra Z;refine x.call [0] Z tR Z hrefs Z ⟨⟨Z,Z⟩,⟨Z,Z,tR⟩,⟨Z,Z,Z,Z,Z,ah Z,ah Z,Z,Z,tR⟩,tR⟩ ⟨aU r,tR⟩ ?_;obtain⟨AZ,hAZ⟩:∃AZ,fE s.vals x0.at_ x0.args []=AZ:=⟨_,Z⟩;rw[hAZ] at hQ;refine x.toLoop Z tR ?_;refine Go.ownB 4 5 3 1 (λi=>[.int .i64 (([]:List Int).getD i 0)]) Z Z ?_
 refine x.loop (α:=LkW s.vals x0.at_ x0.args AZ) (λy=>⟨[(0,.ptr 0 0),(4,.ptr 1 0),(5,.ptr 2 0),(6,.ptr 3 0),(7,.ptr 4 0),(31,.d (bE x0.args)),(32,vi (x0.args.length:Int)),(33,vi (y.i:Int))],[(0,lC r),(1,scC s),(2,I5 x0),(3,.box [.dead,.dead,.dead,.dead,.dead,.dead,.dead,.dead,.dead]),(4,.box [.d (.int .u8 x0.kind),.d (.int .u8 x0.op),vi (-1),vi ra.1,vi ra.2,.own 5,.aD,vi x0.num,vi x0.at_]),(5,CX y.acc)],6⟩) (λy=>x0.args.length-y.i) ⟨0,[],Nat.zero_le _,Z,hAZ⟩ Z tR ⟨⟨⟨Z,Z⟩,⟨Z,Z⟩,⟨Z,Z⟩,⟨Z,Z⟩,⟨Z,Z⟩,av Z,Z,Z,tR⟩,⟨aU r,qp s,oM x0,⟨Z,Z,Z,Z,Z,Z,Z,Z,Z,tR⟩,⟨Z,Z,Z,Z,Z,Z,tR,Z,Z,tR⟩,⟨Z,Z,Z,λ_ h=>absurd h (agV _)⟩,tR⟩,Z⟩ (λy=>?_)
 obtain⟨i,az,hi,ha,same⟩:=y;change Go C _ ⟨[(0,.ptr 0 0),(4,.ptr 1 0),(5,.ptr 2 0),(6,.ptr 3 0),(7,.ptr 4 0),(31,.d (bE x0.args)),(32,vi (x0.args.length:Int)),(33,vi (i:Int))],[(0,lC r),(1,scC s),(2,I5 x0),(3,.box [.dead,.dead,.dead,.dead,.dead,.dead,.dead,.dead,.dead]),(4,.box [.d (.int .u8 x0.kind),.d (.int .u8 x0.op),vi (-1),vi ra.1,vi ra.2,.own 5,.aD,vi x0.num,vi x0.at_]),(5,CX az)],6⟩ _;refine x.cond Z tR (λh1=>?_) (λh1=>?_)
 ·have h1:i<x0.args.length:=by have:=agP h1;omega
  rw[He h1] at same
  cases hp:posB s.vals (x0.args.getD i .empty) with
  | false=>
   rw[qo hp,bd] at same;subst same;rw[bd] at hQ;subst hQ;refine x.qO 4 [4,5] [0,2,3,4,5,6] (mkO [(1,[]),(7,[]),(8,[7]),(9,[1,8]),(10,[9]),(11,[10])] 7 []) Z (by simp only[ak];omega) ay Z (by kernel_rfl) gQ.quiet Z tR (λC2 x2=>?_)
   repeat' first
    | exact True.intro
    | refine And.intro ?_ ?_
    | exact x2.die [] rfl tR rfl (ql hp x0.at_) ⟨rfl,rfl,rfl,tR⟩ rfl tR ⟨⟨_,rfl⟩,rfl,rfl,rfl⟩
    | refine x2.back rfl tR ?_
  | true=>
   rw[qm hp,bd] at same
   refine x.xP 4 [4,5] [0,2,3,4,5,6] (mkO [(1,[]),(7,[]),(8,[7]),(9,[1,8]),(10,[9]),(11,[10])] 7 [])
    ⟨[(0,.ptr 0 0),(4,.ptr 1 0),(5,.ptr 2 0),(6,.ptr 3 0),(7,.ptr 4 0),(31,.d (bE x0.args)),(32,vi (x0.args.length:Int)),(33,vi (i:Int))],[(4,.box [.d (.int .u8 x0.kind),.d (.int .u8 x0.op),vi (-1),vi ra.1,vi ra.2,.own 5,.aD,vi x0.num,vi x0.at_]),(5,CX (az++[dN s.vals (x0.args.getD i .empty)]))],6⟩ Z (by simp only[ak];omega) ay Z (by kernel_rfl) gQ.quiet Z tR (λC2 x2=>?_) ?_
   ·repeat' first
     | exact True.intro
     | refine And.intro ?_ ?_
     | refine x2.pure rfl tR rfl (look_ok hp x0.at_) ⟨rfl,rfl,rfl,tR⟩ (x2.back rfl tR ?_)
     | refine x2.back rfl tR ?_
     | refine x2.back rfl (by simp only[ak,big];omega) ?_
     | exact Or.inl ⟨⟨⟨rfl,rfl⟩,⟨rfl,rfl⟩,⟨rfl,rfl⟩,⟨rfl,rfl⟩,⟨rfl,rfl⟩,av rfl,rfl,rfl,tR⟩,⟨⟨rfl,rfl,rfl,rfl,rfl,rfl,tR,rfl,rfl,tR⟩,⟨rfl,rfl,by simp,Tg az _⟩,tR⟩,rfl⟩
   exact x.back Z (by simp only[ak,aj];omega) ⟨⟨i+1,az++[dN s.vals (x0.args.getD i .empty)],by omega,by simp [ha],same⟩,by show x0.args.length-(i+1)<x0.args.length-i;omega,⟨⟨Z,Z⟩,⟨Z,Z⟩,⟨Z,Z⟩,⟨Z,Z⟩,⟨Z,Z⟩,av Z,Z,(show aI (vi ((i:Int)+1)) (vi ((i+1:Nat):Int)) by rw[agY];rfl),tR⟩,⟨aU r,qp s,oM x0,⟨Z,Z,Z,Z,Z,Z,Z,Z,Z,tR⟩,⟨Z,Z,Z,Z,Z,Z,tR,Z,Z,tR⟩,⟨Z,Z,Z,λ_ _=>rfl⟩,tR⟩,Z⟩
 have h1:i=x0.args.length:=by have:=agQ h1;omega
 rw[List.drop_of_length_le (by omega),fE] at same
 subst same;rw[bd] at hQ;obtain⟨FZ,hFZ⟩:∃FZ,fE s.blks x0.at_ x0.frm []=FZ:=⟨_,Z⟩;rw[hFZ] at hQ;refine Sx.Go.freeze 5 ?_;refine x.toLoop Z tR ?_;refine Go.ownB 4 6 3 1 (λi=>[.int .i64 (([]:List Int).getD i 0)]) Z Z ?_
 refine x.loop (α:=LkW s.blks x0.at_ x0.frm FZ) (λy=>⟨[(0,.ptr 0 0),(4,.ptr 1 0),(5,.ptr 2 0),(6,.ptr 3 0),(7,.ptr 4 0),(50,.d (bE x0.frm)),(51,vi (x0.frm.length:Int)),(52,vi (y.i:Int))],[(0,lC r),(1,scC s),(2,I5 x0),(3,.box [.dead,.dead,.dead,.dead,.dead,.dead,.dead,.dead,.dead]),(4,.box [.d (.int .u8 x0.kind),.d (.int .u8 x0.op),vi (-1),vi ra.1,vi ra.2,.d (dR az),.own 6,vi x0.num,vi x0.at_]),(6,CX y.acc)],7⟩) (λy=>x0.frm.length-y.i) ⟨0,[],Nat.zero_le _,Z,hFZ⟩ Z tR ⟨⟨⟨Z,Z⟩,⟨Z,Z⟩,⟨Z,Z⟩,⟨Z,Z⟩,⟨Z,Z⟩,av Z,Z,Z,tR⟩,⟨aU r,qp s,oM x0,⟨Z,Z,Z,Z,Z,Z,Z,Z,Z,tR⟩,⟨Z,Z,Z,Z,Z,ah Z,Z,Z,Z,tR⟩,⟨Z,Z,Z,λ_ h=>absurd h (agV _)⟩,tR⟩,Z⟩ (λy=>?_)
 obtain⟨i,acc,hi,ha,same⟩:=y;change Go C _ ⟨[(0,.ptr 0 0),(4,.ptr 1 0),(5,.ptr 2 0),(6,.ptr 3 0),(7,.ptr 4 0),(50,.d (bE x0.frm)),(51,vi (x0.frm.length:Int)),(52,vi (i:Int))],[(0,lC r),(1,scC s),(2,I5 x0),(3,.box [.dead,.dead,.dead,.dead,.dead,.dead,.dead,.dead,.dead]),(4,.box [.d (.int .u8 x0.kind),.d (.int .u8 x0.op),vi (-1),vi ra.1,vi ra.2,.d (dR az),.own 6,vi x0.num,vi x0.at_]),(6,CX acc)],7⟩ _;refine x.cond Z tR (λh1=>?_) (λh1=>?_)
 ·have h1:i<x0.frm.length:=by have:=agP h1;omega
  rw[He h1] at same
  cases hp:posB s.blks (x0.frm.getD i .empty) with
  | false=>
   rw[qo hp,bd] at same;subst same;rw[bd] at hQ;subst hQ;refine x.qO 4 [4,6] [0,2,3,4,5,6] (mkO [(1,[]),(7,[]),(8,[7]),(9,[1,8]),(10,[9]),(11,[10])] 7 []) Z (by simp only[ak];omega) ay Z (by kernel_rfl) gQ.quiet Z tR (λC2 x2=>?_)
   repeat' first
    | exact True.intro
    | refine And.intro ?_ ?_
    | exact x2.die [] rfl tR rfl (ql hp x0.at_) ⟨rfl,rfl,rfl,tR⟩ rfl tR ⟨⟨_,rfl⟩,rfl,rfl,rfl⟩
    | refine x2.back rfl tR ?_
  | true=>
   rw[qm hp,bd] at same
   refine x.xP 4 [4,6] [0,2,3,4,5,6] (mkO [(1,[]),(7,[]),(8,[7]),(9,[1,8]),(10,[9]),(11,[10])] 7 [])
    ⟨[(0,.ptr 0 0),(4,.ptr 1 0),(5,.ptr 2 0),(6,.ptr 3 0),(7,.ptr 4 0),(50,.d (bE x0.frm)),(51,vi (x0.frm.length:Int)),(52,vi (i:Int))],[(4,.box [.d (.int .u8 x0.kind),.d (.int .u8 x0.op),vi (-1),vi ra.1,vi ra.2,.d (dR az),.own 6,vi x0.num,vi x0.at_]),(6,CX (acc++[dN s.blks (x0.frm.getD i .empty)]))],7⟩ Z (by simp only[ak];omega) ay Z (by kernel_rfl) gQ.quiet Z tR (λC2 x2=>?_) ?_
   ·repeat' first
     | exact True.intro
     | refine And.intro ?_ ?_
     | refine x2.pure rfl tR rfl (look_ok hp x0.at_) ⟨rfl,rfl,rfl,tR⟩ (x2.back rfl tR ?_)
     | refine x2.back rfl tR ?_
     | refine x2.back rfl (by simp only[ak,big];omega) ?_
     | exact Or.inl ⟨⟨⟨rfl,rfl⟩,⟨rfl,rfl⟩,⟨rfl,rfl⟩,⟨rfl,rfl⟩,⟨rfl,rfl⟩,av rfl,rfl,rfl,tR⟩,⟨⟨rfl,rfl,rfl,rfl,rfl,ah rfl,rfl,rfl,rfl,tR⟩,⟨rfl,rfl,by simp,Tg acc _⟩,tR⟩,rfl⟩
   exact x.back Z (by simp only[ak,aj];omega) ⟨⟨i+1,acc++[dN s.blks (x0.frm.getD i .empty)],by omega,by simp [ha],same⟩,by show x0.frm.length-(i+1)<x0.frm.length-i;omega,⟨⟨Z,Z⟩,⟨Z,Z⟩,⟨Z,Z⟩,⟨Z,Z⟩,⟨Z,Z⟩,av Z,Z,(show aI (vi ((i:Int)+1)) (vi ((i+1:Nat):Int)) by rw[agY];rfl),tR⟩,⟨aU r,qp s,oM x0,⟨Z,Z,Z,Z,Z,Z,Z,Z,Z,tR⟩,⟨Z,Z,Z,Z,Z,ah Z,Z,Z,Z,tR⟩,⟨Z,Z,Z,λ_ _=>rfl⟩,tR⟩,Z⟩
 have h1:i=x0.frm.length:=by have:=agQ h1;omega
 rw[List.drop_of_length_le (by omega),fE] at same
 subst same;rw[bd] at hQ;refine Sx.Go.freeze 6 ?_;have hpl:(nY r.q ra.1:Int)=((r.q.funcs.getD ra.1.toNat bM).params.length:Int):=rfl
 refine x.ite (α:=PLift (¬(x0.kind=7∧x0.args.length≠nY r.q ra.1))) (λ_=>⟨[(0,.ptr 0 0),(4,.ptr 1 0),(5,.ptr 2 0),(6,.ptr 3 0),(7,.ptr 4 0)],[(0,lC r),(1,scC s),(2,I5 x0),(3,.box [.dead,.dead,.dead,.dead,.dead,.dead,.dead,.dead,.dead]),(4,.box [.d (.int .u8 x0.kind),.d (.int .u8 x0.op),vi (-1),vi ra.1,vi ra.2,.d (dR az),.d (dR acc),vi x0.num,vi x0.at_])],7⟩) Z tR (λh=>?_) (λh=>?_) (λy=>?_)
 ·have h:x0.kind=7:=agP h
  have hk:=hk7 h;by_cases hn:x0.args.length=nY r.q ra.1
  ·refine x.quiet Z tR ay (by kernel_rfl) ?_
   refine x.rZ Z (by simp only[ak];omega) Z (kU x0.at_ 13) Z Z ⟨(show aI (vb (decide ((x0.args.length:Int)=(nY r.q ra.1:Int)))) (vb true) by rw[hn,decide_eq_true rfl];exact Z),Z,Z,tR⟩ ?_
   refine x.eY Z tR ?_;exact x.back Z tR ⟨⟨λhh=>hh.2 hn⟩,⟨⟨Z,Z⟩,⟨Z,Z⟩,⟨Z,Z⟩,⟨Z,Z⟩,⟨Z,Z⟩,tR⟩,⟨aU r,qp s,oM x0,⟨Z,Z,Z,Z,Z,Z,Z,Z,Z,tR⟩,⟨Z,Z,Z,Z,Z,ah Z,ah Z,Z,Z,tR⟩,tR⟩,Z⟩
  ·rw[if_pos ⟨h,hn⟩] at hQ
   subst hQ;refine x.qO 7 [] [0,1,2,3,4,5,6,7,8,9,10,11,12,13,14,15,16] (.fork 17 .leaf .no) Z tR ay Z (by kernel_rfl) gQ.quiet Z (by simp only[ak];omega) (λC1 x1=>?_)
   exact⟨x1.die [] Z tR Z (jy x0.at_ 13) ⟨(show aI (vb (decide ((x0.args.length:Int)=(nY r.q ra.1:Int)))) (vb false) by rw[decide_eq_false (by omega)];exact Z),Z,Z,tR⟩ Z tR ⟨⟨_,Z⟩,Z,Z,Z⟩,tR⟩
 ·have h:¬x0.kind=7:=agQ h
  exact x.back Z tR ⟨⟨λhh=>h hh.1⟩,⟨⟨Z,Z⟩,⟨Z,Z⟩,⟨Z,Z⟩,⟨Z,Z⟩,⟨Z,Z⟩,tR⟩,⟨aU r,qp s,oM x0,⟨Z,Z,Z,Z,Z,Z,Z,Z,Z,tR⟩,⟨Z,Z,Z,Z,Z,ah Z,ah Z,Z,Z,tR⟩,tR⟩,Z⟩
 rw[if_neg y.down] at hQ;subst hQ;change Go C _ ⟨[(0,.ptr 0 0),(4,.ptr 1 0),(5,.ptr 2 0),(6,.ptr 3 0),(7,.ptr 4 0)],[(0,lC r),(1,scC s),(2,I5 x0),(3,.box [.dead,.dead,.dead,.dead,.dead,.dead,.dead,.dead,.dead]),(4,.box [.d (.int .u8 x0.kind),.d (.int .u8 x0.op),vi (-1),vi ra.1,vi ra.2,.d (dR az),.d (dR acc),vi x0.num,vi x0.at_])],7⟩ _;refine x.cond Z tR (λh=>?_) (λh=>?_)
 ·have h:(!decide (x0.dst.data.toList=[]))=true:=h
  have h:¬x0.dst.data.toList=[]:=by simpa using h
  rw[if_neg h];exact x.exit Z tR ⟨.inr Z,⟨Z,Z,Z,Z,Z,ah Z,ah Z,Z,Z,tR⟩,⟨aU r,tR⟩,Z⟩
 ·have h:(!decide (x0.dst.data.toList=[]))=false:=h
  have h:x0.dst.data.toList=[]:=by simpa using h
  rw[if_pos h];exact x.exit Z tR ⟨.inr Z,⟨Z,Z,Z,Z,Z,ah Z,ah Z,Z,Z,tR⟩,⟨aU r,tR⟩,Z⟩
abbrev bkC(b:Blk):Ch:=.box [vs b.name,.d (pY b.code),vi b.at_]
theorem YZ(b:Blk):mH (bkC b) (bkC b):=⟨Z,ah Z,Z,tR⟩
abbrev acg(l:List Op9):Ch:=.vec 72 9 l.length λi=>dOp (l.getD i op0)
structure ach(b:Blk):Prop where
 c:b.code.length*120≤140737488355328
 x:∀x∈b.code,Od x
abbrev bkO(r:Res):Flt (List Op9)->Out
 | .ok l=>.ret (.d (um l)) [lC r]
 | .error (a,e)=>Oa a e
structure BkW (r:Res) (s:Scp) (code:List Ins) (R:Flt (List Op9)) where
 i:Nat
 acc:List Op9
 hi:i≤code.length
 ha:acc.length=i
 same:Bg r s code (code.length-i) i acc=R
theorem Oe(r:Res)(s:Scp)(b:Blk)(hz:PolSz r.p)(hb:ach b)(hfn:r.fns.length=r.q.funcs.length):aX PG 58 1 [.ptr 0 0,scW s,adG b] [lC r] (bkO r (sS r s b)):=by
 have hbc:=hb.c;obtain⟨Q,hQ⟩:∃Q,sS r s b=Q:=⟨_,Z⟩;rw[hQ];unfold sS at hQ
 refine aX.mk (dP 79 1) aA [0] Tryz.func58 rfl (by kernel_rfl) rfl rfl (by rcases Q with⟨a,e⟩ | o<;>rfl) ?_
 intro C x
 have hval:(decide (0≤(b.code.length:Int)-1)&&mq (b.code.getD (if (0:Int) > (b.code.length:Int)-1 then 0 else (b.code.length:Int)-1).toNat (aM 0)).kind)=wS b:=by
  unfold wS;by_cases h:1≤b.code.length
  ·rw[if_neg (by omega),show ((b.code.length:Int)-1).toNat=b.code.length-1 by omega,decide_eq_true (by omega),decide_eq_true h]
  ·rw[decide_eq_false (by omega),decide_eq_false h];rfl
 cases he:wS b with
 | false=>
  rw[he,if_neg (by simp)] at hQ
  subst hQ;refine x.qO 3 [] [0,1,2,3,4,5,6,7,8,9,12,13] (mkO [(10,[]),(11,[10]),(14,[11])] 4 []) Z (by simp only[ak,aj];omega) ay Z (by kernel_rfl) gQ.quiet Z ?_ (λC1 x1=>?_)
  ·simp only[ak]
   intro h;have h:=agP h;rw[if_neg (by omega)]
   omega
  ·refine⟨x1.gG Z tR Z (λ_=>yh (b.code.getD (if (0:Int) > (b.code.length:Int)-1 then 0 else (b.code.length:Int)-1).toNat (aM 0)).kind) Z ⟨Z,tR⟩ (x1.back Z tR ⟨x1.back Z tR ⟨?_,tR⟩,tR⟩),tR⟩
   exact x1.die [] Z tR Z (jy b.at_ 15) ⟨(show aI (vb (decide (0≤(b.code.length:Int)-1)&&mq (b.code.getD (if (0:Int) > (b.code.length:Int)-1 then 0 else (b.code.length:Int)-1).toNat (aM 0)).kind)) (vb false) by rw[hval,he];exact Z),Z,Z,tR⟩ Z tR ⟨⟨_,Z⟩,Z,Z,Z⟩
 | true=>
  rw[he,if_pos rfl] at hQ;refine x.quiet Z (by simp only[ak,aj];omega) ay (by kernel_rfl) ?_
  refine x.XY Z ?_ Z (λ_=>yh (b.code.getD (if (0:Int) > (b.code.length:Int)-1 then 0 else (b.code.length:Int)-1).toNat (aM 0)).kind) Z Z ⟨Z,tR⟩ ?_
  ·simp only[ak]
   intro h;have h:=agP h;rw[if_neg (by omega)]
   omega
  refine x.rZ Z tR Z (kU b.at_ 15) Z Z ⟨(show aI (vb (decide (0≤(b.code.length:Int)-1)&&mq (b.code.getD (if (0:Int) > (b.code.length:Int)-1 then 0 else (b.code.length:Int)-1).toNat (aM 0)).kind)) (vb true) by rw[hval,he];exact Z),Z,Z,tR⟩ ?_
  refine x.eY Z tR ?_;refine x.toLoop Z tR ?_;refine Go.own 8 72 9 (λi=>dOp (([]:List Op9).getD i op0)) Z ?_
  refine x.loop (α:=BkW r s b.code Q) (λy=>⟨[(0,.ptr 0 0),(4,.ptr 1 0),(5,.ptr 2 0),(7,vi ((b.code.length:Int)-1)),(8,.own 3),(31,.d (pY b.code)),(32,vi (b.code.length:Int)),(33,vi (y.i:Int))],[(0,lC r),(1,scC s),(2,bkC b),(3,acg y.acc)],4⟩) (λy=>b.code.length-y.i) ⟨0,[],Nat.zero_le _,Z,hQ⟩ Z tR ⟨⟨⟨Z,Z⟩,⟨Z,Z⟩,⟨Z,Z⟩,Z,Z,av Z,Z,Z,tR⟩,⟨aU r,qp s,YZ b,⟨Z,Z,Z,λ_ h=>absurd h (agV _)⟩,tR⟩,Z⟩ (λy=>?_)
  obtain⟨i,acc,hi,ha,same⟩:=y;change Go C _ ⟨[(0,.ptr 0 0),(4,.ptr 1 0),(5,.ptr 2 0),(7,vi ((b.code.length:Int)-1)),(8,.own 3),(31,.d (pY b.code)),(32,vi (b.code.length:Int)),(33,vi (i:Int))],[(0,lC r),(1,scC s),(2,bkC b),(3,acg acc)],4⟩ _;refine x.cond Z tR (λh1=>?_) (λh1=>?_)
  rotate_left
  ·have h1:i=b.code.length:=by have:=agQ h1;omega
   rw[h1,Nat.sub_self,Bg] at same;subst same;refine Sx.Go.freeze 3 ?_;exact x.exit Z tR ⟨.inr Z,av Z,⟨aU r,tR⟩,Z⟩
  have h1:i<b.code.length:=by have:=agP h1;omega
  rw[show b.code.length-i=(b.code.length-(i+1))+1 by omega,Bg] at same
  have hxs:Od (b.code.getD i (aM 0)):=hb.x _ (by rw[agM,agO h1];exact List.getElem_mem h1)
  have hop:=YX r s (b.code.getD i (aM 0)) hz hxs hfn
  have v1:((!mq (b.code.getD i (aM 0)).kind)||decide ((i:Int)=(b.code.length:Int)-1))=!decide (mq (b.code.getD i (aM 0)).kind=true∧i+1≠b.code.length):=by
   rw[show decide ((i:Int)=(b.code.length:Int)-1)=!decide (i+1≠b.code.length) by rw[←decide_not,decide_eq_decide];omega]
   cases mq (b.code.getD i (aM 0)).kind<;>cases hd:decide (i+1≠b.code.length)<;>simp_all
  have v2:(((!decide ((b.code.getD i (aM 0)).kind=3))||decide ((i:Int)=0))||decide ((b.code.getD ((i:Int)-1).toNat (aM 0)).kind=3))=!decide ((b.code.getD i (aM 0)).kind=3∧i≠0∧(b.code.getD (i-1) (aM 0)).kind≠3):=by
   rw[show ((i:Int)-1).toNat=i-1 by omega,show decide ((i:Int)=0)=!decide (i≠0) by rw[←decide_not,decide_eq_decide];omega]
   by_cases c1:(b.code.getD i (aM 0)).kind=3<;>by_cases c2:i≠0<;>by_cases c3:(b.code.getD (i-1) (aM 0)).kind=3<;>simp [c1,c2,c3]
  have hidx:((!decide ((b.code.getD i (aM 0)).kind=3))||decide ((i:Int)=0))=false->0≤(i:Int)-1∧(i:Int)-1<(b.code.length:Int):=λh=>by
   rw[ag2] at h;have:=agQ h.2;omega
  by_cases c1:mq (b.code.getD i (aM 0)).kind=true∧i+1≠b.code.length
  ·rw[vB,if_pos c1,bd] at same
   subst same;refine x.qO 5 [] [0,1,9,10] (mkO [(2,[]),(3,[2]),(4,[3]),(5,[4]),(6,[4]),(7,[5,6]),(8,[7]),(11,[8])] 9 []) Z (by simp only[ak];omega) ay Z (by kernel_rfl) gQ.quiet Z tR (λC1 x1=>?_)
   repeat' first
    | exact True.intro
    | refine And.intro ?_ ?_
    | refine x1.pure rfl tR rfl (yh (b.code.getD i (aM 0)).kind) ⟨rfl,tR⟩ (x1.back rfl tR ?_)
    | exact x1.die [] rfl tR rfl (jy (b.code.getD i (aM 0)).at_ 15) ⟨(show aI (vb ((!mq (b.code.getD i (aM 0)).kind)||decide ((i:Int)=(b.code.length:Int)-1))) (vb false) by rw[v1,decide_eq_true c1];exact rfl),rfl,rfl,tR⟩ rfl tR ⟨⟨_,rfl⟩,rfl,rfl,rfl⟩
    | refine x1.back rfl tR ?_
  refine x.quiet Z (by simp only[ak];omega) ay (by kernel_rfl) ?_
  refine x.rZ Z tR Z (yh (b.code.getD i (aM 0)).kind) Z Z ⟨Z,tR⟩ ?_;refine x.rZ Z tR Z (kU (b.code.getD i (aM 0)).at_ 15) Z Z ⟨(show aI (vb ((!mq (b.code.getD i (aM 0)).kind)||decide ((i:Int)=(b.code.length:Int)-1))) (vb true) by rw[v1,decide_eq_false c1];exact Z),Z,Z,tR⟩ ?_
  refine x.eY Z tR ?_;by_cases c2:(b.code.getD i (aM 0)).kind=3∧i≠0∧(b.code.getD (i-1) (aM 0)).kind≠3
  ·rw[vB,if_neg c1,if_pos c2,bd] at same
   subst same;refine x.qO 5 [] [0,1,2,3,4,5,6,7,8,9,10,11,12,13,14,15,16,17,18] (.fork 19 .leaf .no) Z tR ay Z (by kernel_rfl) gQ.quiet Z ?_ (λC1 x1=>?_)
   ·simp only[ak,aj]
    refine⟨λh=>?_,λh=>?_⟩
    all_goals (have:=hidx h;omega)
   ·exact⟨x1.die [] Z tR Z (jy (b.code.getD i (aM 0)).at_ 18) ⟨(show aI (vb (((!decide ((b.code.getD i (aM 0)).kind=3))||decide ((i:Int)=0))||decide ((b.code.getD ((i:Int)-1).toNat (aM 0)).kind=3))) (vb false) by rw[v2,decide_eq_true c2];exact Z),Z,Z,tR⟩ Z tR ⟨⟨_,Z⟩,Z,Z,Z⟩,tR⟩
  refine x.quiet Z tR ay (by kernel_rfl) ?_
  refine x.rZ Z ?_ Z (kU (b.code.getD i (aM 0)).at_ 18) Z Z ⟨(show aI (vb (((!decide ((b.code.getD i (aM 0)).kind=3))||decide ((i:Int)=0))||decide ((b.code.getD ((i:Int)-1).toNat (aM 0)).kind=3))) (vb true) by rw[v2,decide_eq_false c2];exact Z),Z,Z,tR⟩ ?_
  ·simp only[ak,aj]
   refine⟨λh=>?_,λh=>?_⟩
   all_goals (have:=hidx h;omega)
  refine x.eY Z tR ?_;rw[vB,if_neg c1,if_neg c2] at same;obtain⟨Y,hY⟩:∃Y,yJ r s (b.code.getD i (aM 0))=Y:=⟨_,Z⟩;rw[hY] at hop same
  rcases Y with⟨a,e⟩ | y
  ·rw[bd] at same
   subst same;exact x.die [0] Z tR Z hop ⟨⟨Z,Z⟩,⟨Z,Z,tR⟩,⟨Z,Z,Z,Z,Z,ah Z,ah Z,Z,Z,tR⟩,tR⟩ Z ⟨aU r,tR⟩ ⟨Z,Z⟩
  ·rw[bd] at same
   refine x.call [0] Z tR Z hop Z ⟨⟨Z,Z⟩,⟨Z,Z,tR⟩,⟨Z,Z,Z,Z,Z,ah Z,ah Z,Z,Z,tR⟩,tR⟩ ⟨aU r,tR⟩ ?_;exact x.back Z (by simp only[ak,aj,big];omega) ⟨⟨i+1,acc++[y],by omega,by simp [ha],same⟩,by show b.code.length-(i+1)<b.code.length-i;omega,⟨⟨Z,Z⟩,⟨Z,Z⟩,⟨Z,Z⟩,Z,Z,av Z,Z,(show aI (vi ((i:Int)+1)) (vi ((i+1:Nat):Int)) by rw[agY];rfl),tR⟩,⟨aU r,qp s,YZ b,⟨Z,Z,by simp,λj hj=>iD dOp 9 (λ_=>rfl) op0 acc y j hj⟩,tR⟩,Z⟩
abbrev okL:Nat:=140737488355328
abbrev EL:Nat:=10000000000000
theorem lD(s:BY)(hs:s.size≤okL):Pure PG 98 [vs s] (vb (okN s)) []:=by
 refine aG.mk (cfg 10) aA [] Tryz.func98 Z (by kernel_rfl) Z Z Z ?_
 intro C x;refine x.pure Z tR Z (Ct s (by unfold okL at hs;omega)) ⟨Z,tR⟩ ?_
 refine x.gG Z tR Z (λ_=>Cu s) Z ⟨Z,tR⟩ ?_
 refine x.exit Z tR ?_;refine⟨.inr Z,?_,tR,Z⟩
 rfl
theorem adH(l:List BY):mO (λi=>okN (l.getD i .empty)) l.length 0=fV l:=by
 rw[Bool.eq_iff_iff,xW];unfold fV;rw[List.all_eq_true]
 constructor
 ·intro h x hx
  obtain⟨i,hi,rfl⟩:=List.getElem_of_mem hx;have:=h i (Nat.zero_le _) (by omega)
  rwa [agM,agO hi] at this
 ·intro h j _ hj
  exact h _ (bZ (by omega))
theorem wU(l:List BY)(hl:l.length≤EL)(hs:∀a,a∈l->a.size≤okL):Pure PG 153 [.d (bE l)] (vb (fV l)) []:=by
 refine aG.mk (cfg 15) aA [] Tryz.func153 Z (by kernel_rfl) Z Z Z ?_
 intro C x;unfold EL at hl;obtain⟨R,hR⟩:∃R,fV l=R:=⟨_,Z⟩;have hR2:mO (λi=>okN (l.getD i .empty)) l.length 0=R:=by rw[adH];exact hR
 rw[hR];refine x.loop (α:=AW (λi=>okN (l.getD i .empty)) l.length R) (λy=>⟨[(5,.d (bE l)),(6,vi l.length),(7,vi (y.i:Int))],[],0⟩) (λy=>l.length-y.i) ⟨0,Nat.zero_le _,hR2⟩ Z tR ⟨⟨av Z,Z,Z,tR⟩,tR,Z⟩ (λy=>?_)
 obtain⟨i,hi,same⟩:=y;change Go C _ ⟨[(5,.d (bE l)),(6,vi l.length),(7,vi (i:Int))],[],0⟩ _;refine x.cond Z tR (λh2=>?_) (λh2=>?_)
 ·have h2:(i:Int)<(l.length:Int):=agP h2
  have h2:i<l.length:=by omega
  refine x.pure Z (by simp only[ak];omega) Z (lD (l.getD ((i:Int).toNat) .empty) (hs _ (by rw[ag1];exact bZ h2))) ⟨Z,tR⟩ ?_
  rw[ag1];refine x.cond Z tR (λh3=>?_) (λh3=>?_)
  ·have h3:(!okN (l.getD i .empty))=true:=h3
   refine x.exit Z tR ?_;rw[AW.stop h2 same (by simpa using h3)]
   exact⟨.inr Z,Z,tR,Z⟩
  ·have h3:(!okN (l.getD i .empty))=false:=h3
   refine x.back Z (by simp only[ak,aj];omega) ⟨⟨i+1,by omega,AW.step h2 same (by simpa using h3)⟩,by show l.length-(i+1)<l.length-i;omega,⟨av Z,Z,?_,tR⟩,tR,Z⟩
   show aI (vi ((i:Int)+1)) (vi ((i+1:Nat):Int));rw[agY];rfl
 ·have h2:¬(i:Int)<(l.length:Int):=agQ h2
  refine x.exit Z tR ?_;rw[AW.fin (by omega) hi same]
  exact⟨.inr Z,Z,tR,Z⟩
theorem CY(s:BY)(b:Bool)(hs:s.size≤okL):Pure PG 183 [vs s,vb b] (vb (eu s b)) []:=by
 refine aG.mk (cfg 18) aA [] Tryz.func183 Z (by kernel_rfl) Z Z Z ?_
 intro C x;refine x.gG Z tR Z (λ_=>lD s hs) Z ⟨Z,tR⟩ ?_
 refine x.exit Z tR ?_;refine⟨.inr Z,?_,tR,Z⟩;unfold eu
 cases b
 ·rfl
 ·cases okN s<;>rfl
theorem En(o:Int)(h0:0≤o)(h1:o<256):Pure PG 161 [.d (.int .u8 o)] (vs (opName o)) []:=by
 refine aG.mk (cfg 9) aA [] Tryz.func161 Z (by kernel_rfl) Z Z Z ?_
 intro C x;refine x.cond Z (by simp only[ak,aj];omega) (λh=>?_) (λh=>?_)
 ·have h:13≤o:=agP h
  refine x.exit Z tR ?_;unfold opName;rw[if_pos h];exact⟨.inr Z,Z,tR,Z⟩
 ·have h:¬13≤o:=agQ h
  refine x.aeJ (λj=>.str (opAt j)) Z tR Z Nh ⟨h0,by omega⟩ ?_
  refine x.exit Z tR ?_;unfold opName;rw[if_neg h];exact⟨.inr Z,Z,tR,Z⟩
def Bj:List (Key×V):=[(.inr 1,.agg [vi 0,vb true,vb false,vb false]),(.inr 2,.agg [vi 2,vb true,vb false,vb false]),(.inr 4,.agg [vi 1,vb true,vb true,vb false]),(.inr 5,.agg [vi 1,vb true,vb true,vb false]),(.inr 6,.agg [vi 2,vb false,vb true,vb false]),(.inr 7,.agg [vi (-1),vb true,vb true,vb false]),(.inr 8,.agg [vi 0,vb true,vb true,vb false]),(.inr 9,.agg [vi 1,vb false,vb true,vb false]),(.inr 10,.agg [vi 1,vb true,vb true,vb false]),(.inr 11,.agg [vi 0,vb false,vb true,vb false]),(.inr 12,.agg [vi 1,vb false,vb true,vb true]),(.inr 13,.agg [vi 1,vb false,vb false,vb false])]
theorem Eo:Pure PG 182 [] (.own 0) [.tbl Bj]:=by
 refine aG.mk (cfg 15) aA [0] Tryz.func182 Z (by kernel_rfl) Z Z Z ?_
 intro C x;refine x.exit Z ?_ ?_
 ·simp only[ak,tL,qJ]
  simp
 ·exact⟨.inr Z,Z,⟨⟨Z,Z,Z,Z,Z,Z,Z,Z,Z,Z,Z,Z,Z,Z,Z,Z,Z,Z,Z,Z,Z,Z,Z,Z,tR⟩,tR⟩,Z⟩
theorem zP{k:Key}{G:V->Bool->Prop}{z:V}:∀{es:List (Key×V)},G ((dV k es).getD z) (dV k es).isSome->oD k G z es
 | [],h=>h
 | (a,v)::r,h=>by
  unfold dV at h;refine⟨λhk=>?_,λhk=>?_⟩
  ·rw[if_pos hk] at h;exact h
  ·rw[if_neg hk] at h;exact zP h
theorem kV{k n:Int}{v:V}{r:List (Key×V)}(e:k=n):dV (.inr k) ((.inr n,v)::r)=some v:=by
 unfold dV;exact if_pos e
theorem kW{k n:Int}{v:V}{r:List (Key×V)}(e:¬k=n):dV (.inr k) ((.inr n,v)::r)=dV (.inr k) r:=by
 conv=>lhs;unfold dV
 exact if_neg e
def shV(p:Int×Bool×Bool×Bool):V:=.agg [vi p.1,vb p.2.1,vb p.2.2.1,vb p.2.2.2]
theorem JV(k:Int):dV (.inr k) Bj=(cB k).map shV:=by
 unfold Bj cB;by_cases e1:k=1
 ·rw[kV e1,if_pos e1];rfl
 rw[kW e1,if_neg e1];by_cases e2:k=2
 ·rw[kV e2,if_pos e2];rfl
 rw[kW e2,if_neg e2];by_cases e4:k=4
 ·rw[kV e4,if_pos e4];rfl
 rw[kW e4,if_neg e4];by_cases e5:k=5
 ·rw[kV e5,if_pos e5];rfl
 rw[kW e5,if_neg e5];by_cases e6:k=6
 ·rw[kV e6,if_pos e6];rfl
 rw[kW e6,if_neg e6];by_cases e7:k=7
 ·rw[kV e7,if_pos e7];rfl
 rw[kW e7,if_neg e7];by_cases e8:k=8
 ·rw[kV e8,if_pos e8];rfl
 rw[kW e8,if_neg e8];by_cases e9:k=9
 ·rw[kV e9,if_pos e9];rfl
 rw[kW e9,if_neg e9];by_cases e10:k=10
 ·rw[kV e10,if_pos e10];rfl
 rw[kW e10,if_neg e10];by_cases e11:k=11
 ·rw[kV e11,if_pos e11];rfl
 rw[kW e11,if_neg e11];by_cases e12:k=12
 ·rw[kV e12,if_pos e12];rfl
 rw[kW e12,if_neg e12];by_cases e13:k=13
 ·rw[kV e13,if_pos e13];rfl
 rw[kW e13,if_neg e13]
 rfl
theorem aa8{k:Int}{G:V->Bool->Prop}{z:V}{q:Int×Bool×Bool×Bool}(h:cB k=some q)(g:G (shV q) true):oD (.inr k) G z Bj:=
 zP (by rw[JV,h];exact g)
theorem aa9{k:Int}{G:V->Bool->Prop}{z:V}(h:cB k=none)(g:G z false):oD (.inr k) G z Bj:=
 zP (by rw[JV,h];exact g)
end Go.Proofs.YtojhdmfkfkfcbaaGreatDoor
namespace Go.Proofs.YtojhdmfkfkfcbaaGreatDoor
open Go.Sx
abbrev abb(x:Ins):V:=.agg [.d (.int .u8 x.kind),.d (.int .u8 x.op),vs x.dst,vs x.ref,vs x.alt,.d (bE x.args),.d (bE x.frm),vi x.num,vi x.at_]
end Go.Proofs.YtojhdmfkfkfcbaaGreatDoor
namespace Go.Proofs.YtojhdmfkfkfcbaaGreatDoor
open Go.Sx
set_option maxRecDepth 100000
structure Y0(x:Ins):Prop where
 kind:0≤x.kind∧x.kind<256
 op:0≤x.op∧x.op<256
 dst:x.dst.size≤okL
 ref:x.ref.size≤okL
 alt:x.alt.size≤okL
 jF:x.args.length≤EL
 A9:x.frm.length≤EL
 args:∀a,a∈x.args->a.size≤okL
 frm:∀a,a∈x.frm->a.size≤okL
 num:aj x.num
theorem Q5(x0:Ins)(hx:Y0 x0):Pure PG 154 [abb x0] (vb (bC x0)) []:=by
 refine aG.mk (cfg 135) aA [] Tryz.func154 Z (by kernel_rfl) Z Z Z ?_
 intro C x;have ha:=hx.jF;have hf:=hx.A9;unfold EL at ha hf;refine x.gG Z tR Z (λ_ _=>En x0.op hx.op.1 hx.op.2) Z ⟨Z,tR⟩ ?_
 refine x.gG Z tR Z (λ_=>wU x0.args hx.jF hx.args) Z ⟨av Z,tR⟩ ?_
 refine x.gG Z tR Z (λ_=>wU x0.frm hx.A9 hx.frm) Z ⟨av Z,tR⟩ ?_
 refine x.cond Z tR (λh=>?_) (λh=>?_)
 ·have h:(!((!decide (x0.op=0)) == decide (x0.kind=2))||(!decide (x0.op=0)&&decide ((opName x0.op).data.toList=[]))||(!decide (x0.num=0)&&!decide (x0.kind=1))||!fV x0.args||!fV x0.frm)=true:=h
  refine x.exit Z tR ?_;refine⟨.inr Z,?_,tR,Z⟩;show false=bC x0;unfold bC;rw[if_pos (by simpa only[ne_eq,decide_not,bne] using h)]
 have h:(!((!decide (x0.op=0)) == decide (x0.kind=2))||(!decide (x0.op=0)&&decide ((opName x0.op).data.toList=[]))||(!decide (x0.num=0)&&!decide (x0.kind=1))||!fV x0.args||!fV x0.frm)=false:=h
 have hA:((decide (x0.op≠0) != decide (x0.kind=2))||(decide (x0.op≠0)&&decide ((opName x0.op).data.toList=[]))||(decide (x0.num≠0)&&decide (x0.kind≠1))||!fV x0.args||!fV x0.frm)=false:=by simpa only[ne_eq,decide_not,bne] using h
 clear h
 unfold bC;rw[if_neg (by rw[hA];decide)]
 refine x.cond Z tR (λh2=>?_) (λh2=>?_)
 ·have h2:x0.kind=3:=agP h2
  rw[if_pos h2];refine x.pure Z tR Z (lD x0.dst hx.dst) ⟨Z,tR⟩ ?_;refine x.exit Z tR ?_;refine⟨.inr Z,?_,tR,Z⟩;show (okN x0.dst&&decide (x0.ref.data.toList=[])&&decide (x0.alt.data.toList=[])&&decide ((x0.frm.length:Int)=x0.args.length)&&decide (1≤(x0.frm.length:Int))&&decide ((x0.frm.length:Int)≤64))=_;rw[show decide ((x0.frm.length:Int)=x0.args.length)=decide (x0.frm.length=x0.args.length) by rw[decide_eq_decide];omega,show decide (1≤(x0.frm.length:Int))=decide (1≤x0.frm.length) by rw[decide_eq_decide];omega,show decide ((x0.frm.length:Int)≤64)=decide (x0.frm.length≤64) by rw[decide_eq_decide];omega]
 have h2:¬x0.kind=3:=agQ h2;rw[if_neg h2]
 cases hsh:cB x0.kind with
 | none=>
  refine x.rE [] [1,2] (mkO [(0,[]),(3,[0]),(4,[3]),(5,[4]),(6,[4]),(7,[]),(8,[5,7]),(9,[6,8])] 9 [])
   ⟨[(1,.ptr 0 0),(3,.ptr 2 0),(4,vb false)],[(2,.box [vi 0,vb false,vb false,vb false])],3⟩
   rfl tR ay (by kernel_rfl) Ret.bG Z tR (λC2 x2=>?_) ?_
  ·repeat' first
    | exact True.intro
    | refine And.intro ?_ ?_
    | refine x2.back rfl tR ?_
    | refine x2.call [] rfl tR rfl Eo rfl tR tR (x2.back rfl tR ?_)
    | refine x2.look rfl tR rfl (aa9 hsh ?_)
    | exact .inl ⟨⟨⟨rfl,rfl⟩,⟨rfl,rfl⟩,rfl,tR⟩,⟨⟨rfl,rfl,rfl,rfl,tR⟩,tR⟩,rfl⟩
    | exact .inr ⟨[0,2,1],rfl,⟨⟨rfl,rfl⟩,⟨rfl,rfl⟩,rfl,tR⟩,⟨⟨rfl,rfl,rfl,rfl,tR⟩,tR⟩,rfl⟩
  refine x.cond Z tR (λh3=>?_) (λh3=>?_)
  ·refine x.exit Z tR ?_
   exact⟨.inr Z,Z,tR,Z⟩
  ·have h3:((!false||decide ((0:Int)<x0.frm.length))||(decide ((0:Int)≤0)&&!decide ((x0.args.length:Int)=0))||decide ((6:Int)<x0.args.length))=false:=h3
   simp at h3
 | some q=>
  obtain⟨n,d,r,b⟩:=q
  refine x.rE [] [1,2] (mkO [(0,[]),(3,[0]),(4,[3]),(5,[4]),(6,[4]),(7,[]),(8,[5,7]),(9,[6,8])] 9 [])
   ⟨[(1,.ptr 0 0),(3,.ptr 2 0),(4,vb true)],[(2,.box [vi n,vb d,vb r,vb b])],3⟩
   rfl tR ay (by kernel_rfl) Ret.bG Z tR (λC2 x2=>?_) ?_
  ·repeat' first
    | exact True.intro
    | refine And.intro ?_ ?_
    | refine x2.back rfl tR ?_
    | refine x2.call [] rfl tR rfl Eo rfl tR tR (x2.back rfl tR ?_)
    | refine x2.look rfl tR rfl (aa8 hsh ?_)
    | exact .inl ⟨⟨⟨rfl,rfl⟩,⟨rfl,rfl⟩,rfl,tR⟩,⟨⟨rfl,rfl,rfl,rfl,tR⟩,tR⟩,rfl⟩
    | exact .inr ⟨[0,2,1],rfl,⟨⟨rfl,rfl⟩,⟨rfl,rfl⟩,rfl,tR⟩,⟨⟨rfl,rfl,rfl,rfl,tR⟩,tR⟩,rfl⟩
  have eb:(decide (0<x0.frm.length)||(decide (0≤n)&&decide ((x0.args.length:Int)≠n))||decide (6<x0.args.length))=(((!true||decide ((0:Int)<x0.frm.length))||(decide (0≤n)&&!decide ((x0.args.length:Int)=n)))||decide ((6:Int)<x0.args.length)):=by
   rw[show decide ((0:Int)<x0.frm.length)=decide (0<x0.frm.length) by rw[decide_eq_decide];omega,show decide ((6:Int)<x0.args.length)=decide (6<x0.args.length) by rw[decide_eq_decide];omega]
   simp only[ne_eq,decide_not,Bool.not_true,Bool.false_or]
  refine x.cond Z tR (λh3=>?_) (λh3=>?_)
  ·have h3:(((!true||decide ((0:Int)<x0.frm.length))||(decide (0≤n)&&!decide ((x0.args.length:Int)=n)))||decide ((6:Int)<x0.args.length))=true:=h3
   refine x.exit Z tR ?_;refine⟨.inr Z,?_,tR,Z⟩;show false=(!(_||_||_)&&_)
   rw[eb,h3]
   rfl
  ·have h3:(((!true||decide ((0:Int)<x0.frm.length))||(decide (0≤n)&&!decide ((x0.args.length:Int)=n)))||decide ((6:Int)<x0.args.length))=false:=h3
   refine x.pure Z tR Z (CY x0.dst d hx.dst) ⟨Z,Z,tR⟩ ?_;refine x.gG Z tR Z (λ_=>CY x0.ref r hx.ref) Z ⟨Z,Z,tR⟩ ?_
   refine x.gG Z tR Z (λ_=>CY x0.alt b hx.alt) Z ⟨Z,Z,tR⟩ ?_
   refine x.exit Z tR ?_;refine⟨.inr Z,?_,tR,Z⟩;show (eu x0.dst d&&eu x0.ref r&&eu x0.alt b)=(!(_||_||_)&&_)
   rw[eb,h3]
   rfl
theorem oN{s:BY}(h:eu s true=true):okN s=true:=by unfold eu at h;simpa using h
theorem cO{s:BY}(h:eu s false=true):s=.empty:=gY.uF (by unfold eu at h;simpa using h)
theorem qU{l:List BY}(h:fV l=true){i:Nat}(hi:i<l.length):okN (l.getD i .empty)=true:=List.all_eq_true.1 h _ (bZ hi)
structure RIn(x:Ins)(n:Int)(d r a:Bool):Prop where
 args:fV x.args=true
 frm:x.frm=[]
 jF:(0≤n->(x.args.length:Int)=n)∧x.args.length≤6
 dst:eu x.dst d=true
 ref:eu x.ref r=true
 alt:eu x.alt a=true
 op:x.op≠0↔x.kind=2
 num:x.num≠0->x.kind=1
structure aga(x:Ins):Prop where
 args:fV x.args=true
 frm:fV x.frm=true
 dst:okN x.dst=true
 ref:x.ref=.empty
 alt:x.alt=.empty
 len:x.frm.length=x.args.length∧1≤x.frm.length∧x.frm.length≤64
 op:x.op=0
 num:x.num=0
theorem dx{x:Ins}(h:bC x=true):(x.kind=3∧aga x)∨∃n d r a,cB x.kind=some (n,d,r,a)∧x.kind≠3∧RIn x n d r a∧(x.kind=2->(opName x.op).data.toList≠[]):=by
 unfold bC at h;split at h
 ·cases h
 rename_i h0;simp only[Bool.or_eq_true,not_or,Bool.not_eq_true,Bool.not_eq_false'] at h0;obtain⟨⟨⟨⟨ho,hop⟩,IK⟩,ha⟩,hf⟩:=h0
 have ho:x.op≠0↔x.kind=2:=by
  by_cases c1:x.op=0<;>by_cases c2:x.kind=2<;>simp [c1,c2] at ho ⊢
 have IK:x.num≠0->x.kind=1:=λh=>by
  by_cases c2:x.kind=1
  ·exact c2
  ·simp [h,c2] at IK
 have hop:x.op≠0->(opName x.op).data.toList≠[]:=λh h2=>by simp [h,h2] at hop
 split at h
 ·rename_i hk
  simp only[agN,agT] at h;obtain⟨⟨⟨⟨⟨h1,h2⟩,h3⟩,h4⟩,h5⟩,h6⟩:=h;refine .inl ⟨hk,ha,hf,h1,gY.uF h2,gY.uF h3,⟨h4,h5,h6⟩,?_,?_⟩
  ·exact Classical.byContradiction λhne=>by have:=ho.1 hne;omega
  ·exact Classical.byContradiction λhne=>by have:=IK hne;omega
 ·rename_i hk
  split at h
  ·cases h
  ·rename_i n d r a hs
   simp only[agN,agZ,ag2,agX] at h;obtain⟨⟨⟨h1,h2⟩,h3⟩,⟨h4,h5⟩,h6⟩:=h
   have hlen:0≤n->(x.args.length:Int)=n:=λhn=>by
    by_cases c:(x.args.length:Int)=n
    ·exact c
    ·simp [hn,c] at h2
   exact .inr ⟨n,d,r,a,hs,hk,⟨ha,List.eq_nil_of_length_eq_zero (by omega),⟨hlen,by omega⟩,h4,h5,h6,ho,IK⟩,λhk2=>hop (ho.2 hk2)⟩
def vF(n i:Nat)(b:Nat->Int):Nat->Int:=λk=>if k<i∨n≤k+i then b (n-1-k) else b k
theorem Lb(n:Nat)(b:Nat->Int)(hn:n≤big):aG PG 111 1 [.own 0] [.vec 5 1 n λk=>[.int .u8 (b k)]] (.tup []) [.vec 5 1 n λk=>[.int .u8 (b (n-1-k))]]:=by
 refine aG.mk (afT 28) aA [0] Tryz.func111 Z (by kernel_rfl) Z Z Z ?_
 intro C x;unfold big at hn;refine x.loop (α:={i:Nat // 2*i≤n+1}) (λy=>⟨[(0,.own 0),(2,vi (y.1:Int)),(3,vi ((n:Int)-1-(y.1:Int)))],[(0,.vec 5 1 n λk=>[.int .u8 (vF n y.1 b k)])],1⟩) (λy=>n-y.1) ⟨0,by omega⟩ Z (show aj ((n:Int)-1) by unfold aj;omega) ?_ (λy=>?_)
 ·refine⟨⟨Z,Z,?_,tR⟩,⟨⟨Z,Z,Z,λi hi=>?_⟩,tR⟩,Z⟩
  ·show (n:Int)-1=(n:Int)-1-0;omega
  ·show [D.int .u8 (b i)]=[D.int .u8 (vF n 0 b i)]
   rw[vF,if_neg (by omega)]
 obtain⟨i,hi⟩:=y;change Go C _ ⟨[(0,.own 0),(2,vi (i:Int)),(3,vi ((n:Int)-1-(i:Int)))],[(0,.vec 5 1 n λk=>[.int .u8 (vF n i b k)])],1⟩ _
 refine x.cond Z tR (λh=>?_) (λh=>?_)
 ·have h':(i:Int)<(n:Int)-1-i:=by simpa using h
  refine x.plan [0,1,2,3,4,5,8,9] [6,7,10,11,12] [13,14,15] Z tR ay (by kernel_rfl) Ret.bG ?_
  refine x.eY Z ?_ ?_
  ·simp only[ak];omega
  refine x.back Z ?_ ?_
  ·simp only[ak,List.length,aj];omega
  refine⟨⟨i+1,by omega⟩,by show n-(i+1)<n-i;omega,⟨Z,?_,?_,tR⟩,⟨⟨Z,Z,Z,λk hk=>?_⟩,tR⟩,Z⟩
  ·show (i:Int)+1=((i+1:Nat):Int);omega
  ·show (n:Int)-1-i-1=(n:Int)-1-((i+1:Nat):Int);omega
  ·rw[r9,r9]
   show [D.int .u8 (if k=((n:Int)-1-i).toNat then vF n i b (i:Int).toNat else if k=(i:Int).toNat then vF n i b ((n:Int)-1-i).toNat else vF n i b k)]=[D.int .u8 (vF n (i+1) b k)]
   congr 2
   rw[show ((n:Int)-1-i).toNat=n-1-i by omega,show (i:Int).toNat=i by omega]
   have e1:vF n i b i=b i:=by rw[vF,if_neg (by omega)]
   have e2:vF n i b (n-1-i)=b (n-1-i):=by rw[vF,if_neg (by omega)]
   rw[e1,e2];by_cases h1:k=n-1-i
   ·rw[if_pos h1,vF,if_pos (by omega),h1,show n-1-(n-1-i)=i by omega]
   ·rw[if_neg h1]
    by_cases h2:k=i
    ·rw[if_pos h2,vF,if_pos (by omega),h2]
    ·rw[if_neg h2,vF,vF]
     by_cases h3:k<i∨n≤k+i
     ·rw[if_pos h3,if_pos (by omega)]
     ·rw[if_neg h3,if_neg (by omega)]
 ·have h':¬(i:Int)<(n:Int)-1-i:=by simpa using h
  refine x.exit Z tR ?_;refine⟨.inl Z,tR,⟨⟨Z,Z,Z,λk hk=>?_⟩,tR⟩,Z⟩
  show [D.int .u8 (vF n i b k)]=[D.int .u8 (b (n-1-k))];rw[vF];split
  ·rfl
  ·rw[show n-1-k=k by omega]
structure SI (u0:Nat) where
 u:Nat
 l:List Int
 lo:∀x∈l,48≤x∧x≤57
 same:AQ u++(l.map λx=>UInt8.ofNat x.toNat).reverse=if l=[] then AQ u0 else nA u0
 first:l=[]->u=u0
 len:l.length≤20∧u<10 ^ (20-l.length)
theorem VY(l:List Int):(List.range l.length).map (λi=>UInt8.ofNat (l.getD (l.length-1-i) 0).toNat)=(l.map λx=>UInt8.ofNat x.toNat).reverse:=by
 apply List.ext_getElem
 ·simp
 ·intro i h1 h2
  simp at h1;have:l.length-1-i<l.length:=by omega
  simp [this]
theorem CZ(n:Int)(hn:aj n):Pure PG 65 [vi n] (vs (bF n)) []:=by
 refine aG.mk ⟨34,0,false,tys⟩ aA [] Tryz.func65 Z (by kernel_rfl) Z Z Z ?_
 intro C x;unfold aj at hn;refine x.ite (α:=Unit) (λ_=>⟨[(3,.d (.int .u64 (n.natAbs:Int))),(4,vs (ba (sgV n)))],[],0⟩) Z tR (λh=>?_) (λh=>?_) (λ_=>?_)
 ·refine x.back Z tR ⟨(),⟨?_,?_,tR⟩,tR,Z⟩
  ·show IntKind.u64.wrap (0-IntKind.u64.wrap n)=n.natAbs
   have:n<0:=by simpa using h
   rw[IntKind.wrap_u64,IntKind.wrap_u64];omega
  ·show _=ba (sgV n)
   rw[sgV,if_pos (by simpa using h)]
   rfl
 ·refine x.back Z tR ⟨(),⟨?_,?_,tR⟩,tR,Z⟩
  ·show IntKind.u64.wrap n=n.natAbs
   have:¬n<0:=by simpa using h
   rw[IntKind.wrap_u64];omega
  ·show _=ba (sgV n)
   rw[sgV,if_neg (by simpa using h)]
   rfl
 refine x.toLoop Z tR ?_;refine Go.own 5 5 1 (λ_=>[]) Z ?_
 refine x.loop (α:=SI n.natAbs) (λy=>⟨[(3,.d (.int .u64 (y.u:Int))),(4,vs (ba (sgV n))),(5,.own 0)],[(0,.vec 5 1 y.l.length λi=>[.int .u8 (y.l.getD i 0)])],1⟩) (λy=>21-y.l.length)
  ⟨n.natAbs,[],by simp,by simp,λ_=>rfl,by simp,by show n.natAbs<100000000000000000000;omega⟩ Z tR ?_ (λy=>?_)
 ·exact⟨⟨Z,Z,Z,tR⟩,⟨⟨Z,Z,Z,λi hi=>absurd hi (agV _)⟩,tR⟩,Z⟩
 obtain⟨u,l,lo,same,first,len⟩:=y
 change Go C _ ⟨[(3,.d (.int .u64 (u:Int))),(4,vs (ba (sgV n))),(5,.own 0)],[(0,.vec 5 1 l.length λi=>[.int .u8 (l.getD i 0)])],1⟩ _
 refine x.cond Z tR (λh=>?_) (λh=>?_)
 ·have h':0<u∨l=[]:=by
   simp only[Bool.or_eq_true,agT] at h
   rcases h with h | h
   ·exact .inl (by omega)
   ·exact .inr (List.length_eq_zero_iff.1 (by omega))
  have hl:l.length≤19:=by
   rcases h' with h' | rfl
   ·refine Classical.byContradiction λhh=>?_
    have:l.length=20:=by omega
    rw[this] at len;simp at len;omega
   ·simp
  refine x.back Z ?_ ?_
  ·simp only[ak,big];omega
  have hd:IntKind.u8.wrap (IntKind.u64.wrap (48+(u:Int).tmod 10))=48+((u%10:Nat):Int):=by
   rw[IntKind.wrap_u64,IntKind.wrap_u8,Int.tmod_eq_emod_of_nonneg (by omega)]
   omega
  have hq:IntKind.u64.wrap ((u:Int).tdiv 10)=((u/10:Nat):Int):=by
   have h1:u<10 ^ 20:=Nat.lt_of_lt_of_le len.2 (Nat.pow_le_pow_right (by omega) (by omega))
   have h2:u/10<10000000000000000000:=by omega
   rw[Int.tdiv_eq_ediv_of_nonneg (by omega),IntKind.wrap_u64]
   omega
  refine⟨⟨u/10,l++[48+((u%10:Nat):Int)],?_,?_,?_,?_⟩,?_,⟨?_,Z,Z,tR⟩,⟨⟨Z,Z,?_,?_⟩,tR⟩,Z⟩
  ·intro y hy
   rcases List.mem_append.1 hy with hy | hy
   ·exact lo y hy
   ·rw[List.mem_singleton.1 hy];omega
  ·rw[if_neg (by simp)]
   simp only[List.map_append,List.map_cons,List.map_nil,List.reverse_append,List.reverse_cons,List.reverse_nil,List.nil_append,List.singleton_append];rw[show (48+((u%10:Nat):Int)).toNat=48+u%10 by omega]
   rw[show AQ (u/10)++UInt8.ofNat (48+u%10)::(l.map λx=>UInt8.ofNat x.toNat).reverse=(AQ (u/10)++[UInt8.ofNat (48+u%10)])++(l.map λx=>UInt8.ofNat x.toNat).reverse by simp]
   rw[Vd]
   rcases h' with h' | rfl
   ·by_cases hl0:l=[]
    ·rw[hl0,first hl0];simp
    ·rw[if_neg hl0,AQ,if_neg (by omega)] at same
     exact same
   ·rw[first rfl];simp
  ·intro h;simp at h
  ·refine⟨by simp;omega,?_⟩
   have h1:20-l.length=(19-l.length)+1:=by omega
   rw[h1,Nat.pow_succ] at len;rw[List.length_append,List.length_singleton,show 20-(l.length+1)=19-l.length by omega]
   omega
  ·show 21-(l++[_]).length<21-l.length
   simp;omega
  ·exact hq
  ·show l.length+1=(l++[_]).length
   simp
  ·intro i hi
   have:=XZ .u8 l (48+((u%10:Nat):Int)) i hi;refine Eq.trans ?_ this;show app l.length _ (λ_=>[D.int .u8 (IntKind.u8.wrap (IntKind.u64.wrap (48+(u:Int).tmod 10)))]) i=_
   rw[hd]
 ·have h':u=0∧l≠[]:=by
   simp only[ag2,agX] at h;exact⟨by omega,λe=>h.2 (by rw[e];rfl)⟩
  obtain⟨rfl,hne⟩:=h';rw[if_neg hne,AQ,if_pos Z,List.nil_append] at same;refine x.call [0] Z tR Z (Lb l.length (λk=>l.getD k 0) (by unfold big;omega)) Z ⟨Z,tR⟩ ⟨⟨Z,Z,Z,λ_ _=>rfl⟩,tR⟩ ?_
  refine x.exit Z ?_ ?_
  ·refine⟨λi hi=>trivial,?_⟩
   show (((ba (sgV n)).size+(bytesOf l.length λk=>[D.int .u8 (l.getD (l.length-1-k) 0)]).size:Nat):Int)≤9223372036854775807
   rw[F7,xL,xL];have:(sgV n).length≤1:=by unfold sgV;split<;>simp
   simp only[List.length_map,List.length_range];omega
  refine⟨.inr Z,?_,tR,Z⟩;show ba (sgV n)++bytesOf l.length (λk=>[D.int .u8 (l.getD (l.length-1-k) 0)])=bF n
  rw[F7,VY,same,ac4]
  rfl
theorem uO(xs:List BY)(sep:BY)(hN:xs.length≤okL)(hlen:(bq xs sep).size≤okL):Pure PG 66 [.d (bE xs),vs sep] (vs (bq xs sep)) []:=
 Pure.ac7 (P:=PG) Tryz.lays156 Tryz.Builder_Extra_156 (eT Tryz.func66 (by kernel_rfl) (by kernel_rfl)) xs sep hN hlen
theorem dU(xs:List BY)(hN:xs.length≤okL)(hlen:(bq xs spS).size≤okL):Pure PG 64 [.d (bE xs)] (vs (bq xs spS)) []:=by
 refine aG.mk (cfg 5) aA [] Tryz.func64 Z (by kernel_rfl) Z Z Z ?_
 intro C x;refine x.pure Z tR Z (uO xs spS hN hlen) ⟨av Z,Z,tR⟩ ?_;refine x.exit Z tR ?_;exact⟨.inr Z,Z,tR,Z⟩
theorem Y1{α:Type}{f g:Nat->α}(h0:f 0=g 0)(h1:f 1=g 1):∀i,i<2->f i=g i
 | 0,_=>h0
 | 1,_=>h1
 | n+2,h=>by omega
theorem VZ{α:Type}{f g:Nat->α}(h0:f 0=g 0)(h1:f 1=g 1)(h2:f 2=g 2):∀i,i<3->f i=g i
 | 0,_=>h0
 | 1,_=>h1
 | 2,_=>h2
 | n+3,h=>by omega
theorem ev4{α:Type}{f g:Nat->α}(h0:f 0=g 0)(h1:f 1=g 1)(h2:f 2=g 2)(h3:f 3=g 3):∀i,i<4->f i=g i
 | 0,_=>h0
 | 1,_=>h1
 | 2,_=>h2
 | 3,_=>h3
 | n+4,h=>by omega
theorem gZ{x:Ins}(h:bC x=true){n:Int}{d r a:Bool}(hs:cB x.kind=some (n,d,r,a))(h3:x.kind≠3)(hn:0≤n):(x.args.length:Int)=n:=by
 rcases dx h with⟨h1,_⟩ | ⟨n',d',r',a',e,_,hi,_⟩
 ·exact absurd h1 h3
 ·rw[hs] at e
  obtain⟨rfl,rfl,rfl,rfl⟩:n=n'∧d=d'∧r=r'∧a=a':=by simpa using e
  exact hi.jF.1 hn
theorem C8{x:Ins}(h:bC x=true)(h1:x.kind≠1)(h2:x.kind≠2)(h3:x.kind≠3)(h4:x.kind≠4)(h5:x.kind≠5)(h6:x.kind≠6)(h7:x.kind≠7)(h8:x.kind≠8)(h9:x.kind≠9)(h11:x.kind≠11)(h12:x.kind≠12)(h13:x.kind≠13):x.kind=10:=by
 rcases dx h with⟨h1,_⟩ | ⟨n',d',r',a',e,_,_⟩
 ·exact absurd h1 h3
 ·refine Classical.byContradiction λh10=>?_
  unfold cB at e;rw[if_neg h1,if_neg h2,if_neg h4,if_neg h5,if_neg h6,if_neg h7,if_neg h8,if_neg h9,if_neg h10,if_neg h11,if_neg h12,if_neg h13] at e
  cases e
theorem abd:(⟨#[40]⟩:BY).size=1:=rfl
theorem sz41:(⟨#[41]⟩:BY).size=1:=rfl
theorem sz58:(⟨#[58,32]⟩:BY).size=2:=rfl
theorem sz93:(⟨#[93]⟩:BY).size=1:=rfl
theorem agb:(⟨#[112,104,105,32,91]⟩:BY).size=5:=rfl
structure PhW (n:Nat) where
 i:Nat
 hi:i≤n
theorem Q6(x0:Ins)(hx:Y0 x0)(hr:bC x0=true)(h6:x0.kind≠6)(h9:x0.kind≠9)(h11:x0.kind≠11)(h12:x0.kind≠12)(h13:x0.kind≠13):Pure PG 113 [abb x0] (vs (fZ x0)) []:=by
 refine aG.mk (cfg 102) aA [] Tryz.func113 Z (by kernel_rfl) Z Z Z ?_
 intro C x;have hs:=nT hr;have hz:=GI hs hx.num;have hal:=hs.jF;have hfl:=hs.A9;unfold fZ at hz ⊢;refine x.cond Z tR (λh1=>?_) (λh1=>?_)
 ·have h1:x0.kind=1:=agP h1
  rw[if_pos h1] at hz ⊢;refine x.pure Z tR Z (CZ x0.num hx.num) ⟨Z,tR⟩ ?_;refine x.op Z tR ?_;refine Sx.Go.freeze 1 ?_;refine x.pure Z tR Z (dU [⟨#[99,111,110,115,116]⟩,bF x0.num] (Nat.le_of_ble_eq_true Z) (by unfold okL;omega)) ⟨⟨Z,λ_=>rfl,Y1 Z Z⟩,tR⟩ ?_
  refine x.exit Z tR ?_;exact⟨.inr Z,Z,tR,Z⟩
 have h1:¬x0.kind=1:=agQ h1;rw[if_neg h1] at hz ⊢;refine x.cond Z tR (λh2=>?_) (λh2=>?_)
 ·have h2:x0.kind=2:=agP h2
  rw[if_pos h2] at hz ⊢;have hl:=gZ hr (n:=2) (by rw[h2];rfl) (by omega) (by omega)
  refine x.draw [] [] [0,1,3,4,5,6,7,8,9,10] [2] [11,12,13] Z tR ay (by kernel_rfl) Ret.bG.quiet Z (by simp only[ak];omega) (λC1 x1=>?_)
  refine x1.pure Z tR Z (En x0.op hx.op.1 hx.op.2) ⟨Z,tR⟩ ?_;refine x1.back Z tR ?_;refine x.op Z tR ?_;refine Sx.Go.freeze 1 ?_;refine x.pure Z tR Z (dU [opName x0.op,x0.args.getD 0 .empty,x0.args.getD 1 .empty] (Nat.le_of_ble_eq_true Z) (by unfold okL;omega)) ⟨⟨Z,λ_=>rfl,VZ Z Z Z⟩,tR⟩ ?_
  refine x.exit Z tR ?_;exact⟨.inr Z,Z,tR,Z⟩
 have h2:¬x0.kind=2:=agQ h2;rw[if_neg h2] at hz ⊢;refine x.cond Z tR (λh3=>?_) (λh3=>?_)
 ·have h3:x0.kind=3:=agP h3
  rw[if_pos h3] at hz ⊢
  have hlen:x0.frm.length=x0.args.length:=by
   rcases dx hr with⟨_,hp⟩ | ⟨n',d',r',a',e,hne,_⟩
   ·exact hp.len.1
   ·exact absurd h3 hne
  have hj:=lu d9 194 (sK x0 x0.frm.length) (Nv hs _);rw[sM] at hj;have hj2:(bq (sK x0 x0.frm.length) d9).size≤64*196:=Nat.le_trans hj (Nat.mul_le_mul_right _ hs.A9);refine x.toLoop Z tR ?_;refine Go.own 3 9 1 (λi=>[.str (([]:List BY).getD i .empty)]) Z ?_
  refine x.loop (α:=PhW x0.frm.length) (λy=>⟨[(1,.ptr 0 0),(3,.own 1),(33,.d (bE x0.frm)),(34,vi x0.frm.length),(35,vi (y.i:Int))],[(0,.box [.d (.int .u8 x0.kind),.d (.int .u8 x0.op),vs x0.dst,vs x0.ref,vs x0.alt,.d (bE x0.args),.d (bE x0.frm),vi x0.num,vi x0.at_]),(1,jh (sK x0 y.i))],2⟩) (λy=>x0.frm.length-y.i) ⟨0,Nat.zero_le _⟩ Z tR ⟨⟨⟨Z,Z⟩,Z,av Z,Z,Z,tR⟩,⟨⟨Z,Z,Z,Z,Z,ah Z,ah Z,Z,Z,tR⟩,⟨Z,Z,Z,λj hj=>absurd hj (agV _)⟩,tR⟩,Z⟩ (λy=>?_)
  obtain⟨i,hi⟩:=y;change Go C _ ⟨[(1,.ptr 0 0),(3,.own 1),(33,.d (bE x0.frm)),(34,vi x0.frm.length),(35,vi (i:Int))],[(0,.box [.d (.int .u8 x0.kind),.d (.int .u8 x0.op),vs x0.dst,vs x0.ref,vs x0.alt,.d (bE x0.args),.d (bE x0.frm),vi x0.num,vi x0.at_]),(1,jh (sK x0 i))],2⟩ _;refine x.cond Z tR (λh=>?_) (λh=>?_)
  ·have h:(i:Int)<(x0.frm.length:Int):=agP h
   have g1:=jS hs.frm i;have g2:=jS hs.args i;refine x.back Z (by simp only[ak,aj,big,sM,au,sz58,ag1];omega) ⟨⟨i+1,by omega⟩,by show x0.frm.length-(i+1)<x0.frm.length-i;omega,⟨⟨Z,Z⟩,Z,av Z,Z,?_,tR⟩,⟨⟨Z,Z,Z,Z,Z,ah Z,ah Z,Z,Z,tR⟩,⟨Z,Z,?_,λj hj=>?_⟩,tR⟩,Z⟩
   ·show aI (vi ((i:Int)+1)) (vi ((i+1:Nat):Int));rw[agY];rfl
   ·show (sK x0 i).length+1=(sK x0 (i+1)).length
    rw[sM,sM]
   ·rw[Vx]
    exact ji (sK x0 i) _ j hj
  ·have h:¬(i:Int)<(x0.frm.length:Int):=agQ h
   obtain rfl:i=x0.frm.length:=by omega
   refine Sx.Go.freeze 1 ?_;refine x.pure Z tR Z (uO (sK x0 x0.frm.length) d9 (by rw[sM];unfold okL;omega) (by unfold okL;omega)) ⟨av Z,Z,tR⟩ ?_
   refine x.exit Z (by simp only[ak,au,sz93,agb];omega) ?_
   exact⟨.inr Z,Z,tR,Z⟩
 have h3:¬x0.kind=3:=agQ h3;rw[if_neg h3] at hz ⊢;refine x.cond Z tR (λh4=>?_) (λh4=>?_)
 ·have h4:x0.kind=4:=agP h4
  rw[if_pos h4] at hz ⊢;have hl:=gZ hr (n:=1) (by rw[h4];rfl) (by omega) (by omega)
  refine x.draw [] [] [0,1,2,3,4,5] [] [6,7,8] Z tR ay (by kernel_rfl) Ret.bG.quiet Z (by simp only[ak];omega) (λC1 x1=>?_)
  refine x.op Z tR ?_;refine Sx.Go.freeze 1 ?_;refine x.pure Z tR Z (dU [⟨#[108,111,97,100]⟩,x0.ref,x0.args.getD 0 .empty] (Nat.le_of_ble_eq_true Z) (by unfold okL;omega)) ⟨⟨Z,λ_=>rfl,VZ Z Z Z⟩,tR⟩ ?_
  refine x.exit Z tR ?_;exact⟨.inr Z,Z,tR,Z⟩
 have h4:¬x0.kind=4:=agQ h4;rw[if_neg h4] at hz ⊢;refine x.cond Z tR (λh5=>?_) (λh5=>?_)
 ·have h5:x0.kind=5:=agP h5
  rw[if_pos h5] at hz ⊢;have hl:=gZ hr (n:=1) (by rw[h5];rfl) (by omega) (by omega)
  refine x.draw [] [] [0,1,2,3,4,5] [] [6,7,8] Z tR ay (by kernel_rfl) Ret.bG.quiet Z (by simp only[ak];omega) (λC1 x1=>?_)
  refine x.op Z tR ?_;refine Sx.Go.freeze 1 ?_;refine x.pure Z tR Z (dU [⟨#[119,114,97,112]⟩,x0.ref,x0.args.getD 0 .empty] (Nat.le_of_ble_eq_true Z) (by unfold okL;omega)) ⟨⟨Z,λ_=>rfl,VZ Z Z Z⟩,tR⟩ ?_
  refine x.exit Z tR ?_;exact⟨.inr Z,Z,tR,Z⟩
 have h5:¬x0.kind=5:=agQ h5;rw[if_neg h5] at hz ⊢;refine x.cond Z tR (λh7=>?_) (λh7=>?_)
 ·have h7:x0.kind=7:=agP h7
  rw[if_pos h7] at hz ⊢;have hj:=lu d9 96 x0.args hs.args;have hj2:(bq x0.args d9).size≤64*98:=Nat.le_trans hj (Nat.mul_le_mul_right _ hs.jF);refine x.draw [] [] [0,1,2,3,4] [5] [6,7,8,9,10] Z tR ay (by kernel_rfl) Ret.bG.quiet Z (by have:=hs.ref;simp only[ak,abd];omega) (λC1 x1=>?_)
  refine x1.pure Z tR Z (uO x0.args d9 (by unfold okL;omega) (by unfold okL;omega)) ⟨av Z,Z,tR⟩ ?_
  refine x1.back Z tR ?_;refine x.op Z (by have:=hs.ref;simp only[ak,au,abd,sz41];omega) ?_
  refine Sx.Go.freeze 1 ?_;refine x.pure Z tR Z (dU [⟨#[99,97,108,108]⟩,((x0.ref++(⟨#[40]⟩:BY))++bq x0.args d9)++(⟨#[41]⟩:BY)] (Nat.le_of_ble_eq_true Z) (by unfold okL;omega)) ⟨⟨Z,λ_=>rfl,Y1 Z Z⟩,tR⟩ ?_
  refine x.exit Z tR ?_;exact⟨.inr Z,Z,tR,Z⟩
 have h7:¬x0.kind=7:=agQ h7;rw[if_neg h7] at hz ⊢;refine x.cond Z tR (λh8=>?_) (λh8=>?_)
 ·have h8:x0.kind=8:=agP h8
  rw[if_pos h8] at hz ⊢;refine x.op Z tR ?_;refine Sx.Go.freeze 1 ?_;refine x.pure Z tR Z (dU [⟨#[105,110,112,117,116]⟩,x0.ref] (Nat.le_of_ble_eq_true Z) (by unfold okL;omega)) ⟨⟨Z,λ_=>rfl,Y1 Z Z⟩,tR⟩ ?_
  refine x.exit Z tR ?_;exact⟨.inr Z,Z,tR,Z⟩
 have h8:¬x0.kind=8:=agQ h8;rw[if_neg h8] at hz ⊢;have h10:=C8 hr h1 h2 h3 h4 h5 h6 h7 h8 h9 h11 h12 h13;have hl:=gZ hr (n:=1) (by rw[h10];rfl) (by omega) (by omega)
 refine x.draw [] [] [0,1,2,3,4,5] [] [6,7,8] Z tR ay (by kernel_rfl) Ret.bG.quiet Z (by simp only[ak];omega) (λC1 x1=>?_)
 refine x.op Z tR ?_;refine Sx.Go.freeze 1 ?_;refine x.pure Z tR Z (dU [⟨#[114,101,108,101,97,115,101]⟩,x0.args.getD 0 .empty,x0.ref] (Nat.le_of_ble_eq_true Z) (by unfold okL;omega)) ⟨⟨Z,λ_=>rfl,VZ Z Z Z⟩,tR⟩ ?_
 refine x.exit Z tR ?_;exact⟨.inr Z,Z,tR,Z⟩
theorem V3(x0:Ins)(hx:Y0 x0)(hr:bC x0=true):Pure PG 67 [abb x0] (vs (mP x0)) []:=by
 refine aG.mk (cfg 61) aA [] Tryz.func67 Z (by kernel_rfl) Z Z Z ?_
 intro C x;have hs:=nT hr;have hz:=CQ hs hx.num;unfold mP at hz ⊢;refine x.cond Z tR (λh6=>?_) (λh6=>?_)
 ·have h6:x0.kind=6:=agP h6
  rw[if_pos h6] at hz ⊢;have hl:=gZ hr (n:=2) (by rw[h6];rfl) (by omega) (by omega)
  refine x.draw [] [] [0,1,2,3,4,5,6,7,8,9] [] [10,11,12] Z tR ay (by kernel_rfl) Ret.bG.quiet Z (by simp only[ak];omega) (λC1 x1=>?_)
  refine x.op Z tR ?_;refine Sx.Go.freeze 1 ?_;refine x.pure Z tR Z (dU [⟨#[115,116,111,114,101]⟩,x0.ref,x0.args.getD 0 .empty,x0.args.getD 1 .empty] (Nat.le_of_ble_eq_true Z) (by unfold okL;omega)) ⟨⟨Z,λ_=>rfl,ev4 Z Z Z Z⟩,tR⟩ ?_
  refine x.exit Z tR ?_;exact⟨.inr Z,Z,tR,Z⟩
 have h6:¬x0.kind=6:=agQ h6;rw[if_neg h6] at hz ⊢;refine x.cond Z tR (λh9=>?_) (λh9=>?_)
 ·have h9:x0.kind=9:=agP h9
  rw[if_pos h9] at hz ⊢;have hl:=gZ hr (n:=1) (by rw[h9];rfl) (by omega) (by omega)
  refine x.draw [] [] [0,1,2,3,4,5] [] [6,7,8] Z tR ay (by kernel_rfl) Ret.bG.quiet Z (by simp only[ak];omega) (λC1 x1=>?_)
  refine x.op Z tR ?_;refine Sx.Go.freeze 1 ?_;refine x.pure Z tR Z (dU [⟨#[111,117,116,112,117,116]⟩,x0.ref,x0.args.getD 0 .empty] (Nat.le_of_ble_eq_true Z) (by unfold okL;omega)) ⟨⟨Z,λ_=>rfl,VZ Z Z Z⟩,tR⟩ ?_
  refine x.exit Z tR ?_;exact⟨.inr Z,Z,tR,Z⟩
 have h9:¬x0.kind=9:=agQ h9;rw[if_neg h9] at hz ⊢;refine x.cond Z tR (λh11=>?_) (λh11=>?_)
 ·have h11:x0.kind=11:=agP h11
  rw[if_pos h11] at hz ⊢;refine x.op Z tR ?_;refine Sx.Go.freeze 1 ?_;refine x.pure Z tR Z (dU [⟨#[106,117,109,112]⟩,x0.ref] (Nat.le_of_ble_eq_true Z) (by unfold okL;omega)) ⟨⟨Z,λ_=>rfl,Y1 Z Z⟩,tR⟩ ?_
  refine x.exit Z tR ?_;exact⟨.inr Z,Z,tR,Z⟩
 have h11:¬x0.kind=11:=agQ h11;rw[if_neg h11] at hz ⊢;refine x.cond Z tR (λh12=>?_) (λh12=>?_)
 ·have h12:x0.kind=12:=agP h12
  rw[if_pos h12] at hz ⊢;have hl:=gZ hr (n:=1) (by rw[h12];rfl) (by omega) (by omega)
  refine x.draw [] [] [0,1,2,3,4,5,6,7] [] [8,9,10] Z tR ay (by kernel_rfl) Ret.bG.quiet Z (by simp only[ak];omega) (λC1 x1=>?_)
  refine x.op Z tR ?_;refine Sx.Go.freeze 1 ?_;refine x.pure Z tR Z (dU [⟨#[98,114,97,110,99,104]⟩,x0.args.getD 0 .empty,x0.ref,x0.alt] (Nat.le_of_ble_eq_true Z) (by unfold okL;omega)) ⟨⟨Z,λ_=>rfl,ev4 Z Z Z Z⟩,tR⟩ ?_
  refine x.exit Z tR ?_;exact⟨.inr Z,Z,tR,Z⟩
 have h12:¬x0.kind=12:=agQ h12;rw[if_neg h12] at hz ⊢;refine x.cond Z tR (λh13=>?_) (λh13=>?_)
 ·have h13:x0.kind=13:=agP h13
  rw[if_pos h13] at hz ⊢;have hl:=gZ hr (n:=1) (by rw[h13];rfl) (by omega) (by omega)
  refine x.op Z (by simp only[ak];omega) ?_
  refine Sx.Go.freeze 1 ?_;refine x.pure Z tR Z (dU [⟨#[114,101,116,117,114,110]⟩,x0.args.getD 0 .empty] (Nat.le_of_ble_eq_true Z) (by unfold okL;omega)) ⟨⟨Z,λ_=>rfl,Y1 Z Z⟩,tR⟩ ?_
  refine x.exit Z tR ?_;exact⟨.inr Z,Z,tR,Z⟩
 have h13:¬x0.kind=13:=agQ h13;rw[if_neg h13] at hz ⊢;refine x.draw [] [] [0,1,2] [3] [4,5,6] Z tR ay (by kernel_rfl) Ret.bG.quiet Z tR (λC1 x1=>?_)
 refine x1.pure Z tR Z (Q6 x0 hx hr h6 h9 h11 h12 h13) ⟨⟨Z,Z,Z,Z,Z,ah Z,ah Z,Z,Z,tR⟩,tR⟩ ?_;refine x1.back Z tR ?_;refine x.op Z tR ?_;refine Sx.Go.freeze 1 ?_;refine x.pure Z tR Z (dU [x0.dst,⟨#[61]⟩,fZ x0] (Nat.le_of_ble_eq_true Z) (by unfold okL;omega)) ⟨⟨Z,λ_=>rfl,VZ Z Z Z⟩,tR⟩ ?_
 refine x.exit Z tR ?_;exact⟨.inr Z,Z,tR,Z⟩
theorem Bl{α:Type}(l:List α)(p:α->Bool)(d:α):mO (λi=>p (l.getD i d)) l.length 0=l.all p:=by
 rw[Bool.eq_iff_iff,xW,List.all_eq_true]
 constructor
 ·intro h x hx
  obtain⟨i,hi,rfl⟩:=List.getElem_of_mem hx;have:=h i (Nat.zero_le _) (by omega)
  rwa [agM,agO hi] at this
 ·intro h j _ hj
  exact h _ (bZ (by omega))
theorem Ti{l:List Nat}{a:Nat}(h:a∈l):a≤l.sum:=by
 induction l with
 | nil=>cases h
 | cons b r ih=>
  rw[List.sum_cons]
  rcases List.mem_cons.1 h with rfl | h
  ·omega
  ·have:=ih h;omega
def C9(bs:List Blk)(i:Nat):Nat:=((bs.take i).map λb=>b.code.length).sum
theorem JW{bs:List Blk}{i:Nat}(h:i<bs.length):C9 bs (i+1)=C9 bs i+(bs.getD i bN).code.length:=by
 unfold C9;rw[List.take_succ_eq_append_getElem h,List.map_append,List.sum_append,agM,agO h];simp
theorem Lc{bs:List Blk}{k:Nat}(h:∀b,b∈bs->b.code.length≤k):∀i,i≤bs.length->C9 bs i≤i*k
 | 0,_=>by simp [C9]
 | i+1,hi=>by
  have:=Lc h i (by omega)
  have h2:=h _ (bZ (d:=bN) (show i<bs.length by omega))
  rw[JW (by omega),Nat.succ_mul]
  omega
structure FitB(b:Blk):Prop where
 name:b.name.size≤okL
 len:b.code.length≤uE
 code:∀x,x∈b.code->Y0 x
structure adI(f:Fun):Prop where
 name:f.name.size≤okL
 Og:f.params.length≤EL
 params:∀a,a∈f.params->a.size≤okL
 V4:f.blocks.length≤uE
 blocks:∀b,b∈f.blocks->FitB b
structure FitA(a:Arr):Prop where
 name:a.name.size≤okL
 level:a.level.size≤okL
 size:aj a.size
structure Oh(p:Prg):Prop where
 jF:p.arrays.length≤uE
 arrays:∀a,a∈p.arrays->FitA a
 A9:p.funcs.length≤uE
 funcs:∀f,f∈p.funcs->adI f
def fN(f:Fun):Nat:=(f.blocks.map λb=>b.code.length).sum
theorem Oi(f:Fun):C9 f.blocks f.blocks.length=fN f:=by unfold C9 fN;rw[List.take_length]
def Hf(f:Fun):Int×Bool:=if kK f=true then ((fN f:Int),true) else (0,false)
theorem I6(f:Fun)(hf:adI f):Pure PG 99 [fnV f] (.tup [vi (Hf f).1,vb (Hf f).2]) []:=by
 refine aG.mk (cfg 66) aA [] Tryz.func99 Z (by kernel_rfl) Z Z Z ?_
 intro C x;obtain⟨f1,f2,f3,f4,f5⟩:=hf;have f4':=f4;unfold uE at f4';refine x.pure Z tR Z (lD f.name f1) ⟨Z,tR⟩ ?_;refine x.gG Z tR Z (λ_=>wU f.params f2 f3) Z ⟨av Z,tR⟩ ?_
 have ec:(!okN f.name||!fV f.params||decide (6<f.params.length)||decide (f.blocks.length<1)||decide (64<f.blocks.length))=(((((!okN f.name||!fV f.params)||decide ((6:Int)<f.params.length))||decide ((f.blocks.length:Int)<1)))||decide ((64:Int)<f.blocks.length)):=by
  rw[show decide ((6:Int)<f.params.length)=decide (6<f.params.length) by rw[decide_eq_decide];omega,show decide ((f.blocks.length:Int)<1)=decide (f.blocks.length<1) by rw[decide_eq_decide];omega,show decide ((64:Int)<f.blocks.length)=decide (64<f.blocks.length) by rw[decide_eq_decide];omega]
 refine x.cond Z tR (λh=>?_) (λh=>?_)
 ·have h:(((((!okN f.name||!fV f.params)||decide ((6:Int)<f.params.length))||decide ((f.blocks.length:Int)<1)))||decide ((64:Int)<f.blocks.length))=true:=h
  have hF:kK f=false:=by unfold kK;rw[ec,h];rfl
  refine x.exit Z tR ?_;unfold Hf;rw[hF];exact⟨.inr Z,⟨Z,Z,tR⟩,tR,Z⟩
 have h:(((((!okN f.name||!fV f.params)||decide ((6:Int)<f.params.length))||decide ((f.blocks.length:Int)<1)))||decide ((64:Int)<f.blocks.length))=false:=h
 have h64:f.blocks.length≤64:=by
  simp only[ag2,agX] at h;omega
 obtain⟨R,hR⟩:∃R,f.blocks.all p9=R:=⟨_,Z⟩;have hF:kK f=R:=by unfold kK;rw[ec,h,hR];simp
 have hR2:mO (λi=>p9 (f.blocks.getD i bN)) f.blocks.length 0=R:=by rw[Bl];exact hR
 have bad:R=false->Hf f=(0,false):=λe=>by unfold Hf;rw[hF,e];rfl
 have good:R=true->Hf f=((fN f:Int),true):=λe=>by unfold Hf;rw[hF,e];rfl
 clear h ec
 have hsum:=Lc (k:=uE) (λb hb=>(f5 b hb).len)
 unfold uE at hsum;refine x.loop (α:=AW (λi=>p9 (f.blocks.getD i bN)) f.blocks.length R) (λy=>⟨[(1,.ptr 0 0),(4,vi (C9 f.blocks y.i)),(38,.d (iA f.blocks)),(39,vi f.blocks.length),(40,vi (y.i:Int))],[(0,.box [vs f.name,.d (bE f.params),.d (iA f.blocks),vi f.at_])],1⟩) (λy=>f.blocks.length-y.i) ⟨0,Nat.zero_le _,hR2⟩ Z tR ⟨⟨⟨Z,Z⟩,Z,av Z,Z,Z,tR⟩,⟨⟨Z,ah Z,ah Z,Z,tR⟩,tR⟩,Z⟩ (λy=>?_)
 obtain⟨i,hi,same⟩:=y;change Go C _ ⟨[(1,.ptr 0 0),(4,vi (C9 f.blocks i)),(38,.d (iA f.blocks)),(39,vi f.blocks.length),(40,vi (i:Int))],[(0,.box [vs f.name,.d (bE f.params),.d (iA f.blocks),vi f.at_])],1⟩ _;refine x.cond Z tR (λh2=>?_) (λh2=>?_)
 rotate_left
 ·have h2:¬(i:Int)<(f.blocks.length:Int):=agQ h2
  refine x.exit Z tR ?_;rw[good (AW.fin (by omega) hi same)]
  obtain rfl:i=f.blocks.length:=by omega
  rw[←Oi];exact⟨.inr Z,⟨Z,Z,tR⟩,tR,Z⟩
 have h2:(i:Int)<(f.blocks.length:Int):=agP h2;have h2:i<f.blocks.length:=by omega
 have hb:=f5 _ (bZ (d:=bN) h2);have hs2:=JW h2;have hs3:=hsum i hi;have hs4:i*1000000000000≤64*1000000000000:=Nat.mul_le_mul_right _ (by omega)
 have hfi:∀v,p9 (f.blocks.getD i bN)=v->(λi=>p9 (f.blocks.getD i bN)) i=v:=λv h=>h
 have ei:((i:Int).toNat)=i:=ag1 i;obtain⟨b,hbe⟩:∃b,f.blocks.getD i bN=b:=⟨_,Z⟩;have V5:f.blocks.getD ((i:Int).toNat) bN=b:=by rw[ei];exact hbe
 rw[hbe] at hb hs2 hfi;obtain⟨b1,b2,b3⟩:=hb;unfold uE at b2;refine x.pure Z (by simp only[ak];omega) Z (show Pure PG _ [vs (f.blocks.getD ((i:Int).toNat) bN).name] _ [] from by rw[V5];exact lD b.name b1) ⟨Z,tR⟩ ?_
 refine x.cond Z tR (λh3=>?_) (λh3=>?_)
 ·have h3:(!okN b.name)=true:=h3
  have hv:p9 b=false:=by unfold p9;rw[show okN b.name=false by simpa using h3];rfl
  refine x.exit Z tR ?_;rw[bad (AW.stop h2 same (hfi _ hv))];exact⟨.inr Z,⟨Z,Z,tR⟩,tR,Z⟩
 have h3:(!okN b.name)=false:=h3;obtain⟨Q,hQ⟩:∃Q,b.code.all bC=Q:=⟨_,Z⟩;have hv:p9 b=Q:=by unfold p9;rw[show okN b.name=true by simpa using h3,hQ];rfl
 have hQ2:mO (λi=>bC (b.code.getD i (aM 0))) b.code.length 0=Q:=by rw[Bl];exact hQ
 rw[hv] at hfi;rw[V5];refine x.loop (α:=AW (λi=>bC (b.code.getD i (aM 0))) b.code.length Q) (λy=>⟨[(1,.ptr 0 0),(4,vi (C9 f.blocks i)),(38,.d (iA f.blocks)),(39,vi f.blocks.length),(40,vi (i:Int)),(6,.ptr 1 0),(49,.d (pY b.code)),(50,vi b.code.length),(51,vi (y.i:Int))],[(0,.box [vs f.name,.d (bE f.params),.d (iA f.blocks),vi f.at_]),(1,.box [vs b.name,.d (pY b.code),vi b.at_])],2⟩) (λy=>b.code.length-y.i) ⟨0,Nat.zero_le _,hQ2⟩ Z tR ⟨⟨⟨Z,Z⟩,Z,av Z,Z,Z,⟨Z,Z⟩,av Z,Z,Z,tR⟩,⟨⟨Z,ah Z,ah Z,Z,tR⟩,⟨Z,ah Z,Z,tR⟩,tR⟩,Z⟩ (λy=>?_)
 obtain⟨k,hk,Y2⟩:=y;change Go C _ ⟨[(1,.ptr 0 0),(4,vi (C9 f.blocks i)),(38,.d (iA f.blocks)),(39,vi f.blocks.length),(40,vi (i:Int)),(6,.ptr 1 0),(49,.d (pY b.code)),(50,vi b.code.length),(51,vi (k:Int))],[(0,.box [vs f.name,.d (bE f.params),.d (iA f.blocks),vi f.at_]),(1,.box [vs b.name,.d (pY b.code),vi b.at_])],2⟩ _;refine x.cond Z tR (λh4=>?_) (λh4=>?_)
 rotate_left
 ·have h4:¬(k:Int)<(b.code.length:Int):=agQ h4
  have hv:=AW.fin (by omega) hk Y2
  refine x.back Z (by simp only[ak,aj];omega) ⟨⟨i+1,by omega,AW.step h2 same (hfi _ hv)⟩,by show f.blocks.length-(i+1)<f.blocks.length-i;omega,⟨⟨Z,Z⟩,?_,av Z,Z,?_,tR⟩,⟨⟨Z,ah Z,ah Z,Z,tR⟩,tR⟩,Z⟩
  ·show aI (vi ((C9 f.blocks i:Int)+b.code.length)) (vi (C9 f.blocks (i+1):Int))
   rw[hs2,agY];rfl
  ·show aI (vi ((i:Int)+1)) (vi ((i+1:Nat):Int));rw[agY];rfl
 have h4:(k:Int)<(b.code.length:Int):=agP h4;have h4:k<b.code.length:=by omega
 refine x.pure Z (by simp only[ak];omega) Z (Q5 (b.code.getD ((k:Int).toNat) (aM 0)) (by rw[ag1];exact b3 _ (bZ h4))) ⟨⟨Z,Z,Z,Z,Z,ah Z,ah Z,Z,Z,tR⟩,tR⟩ ?_
 rw[ag1];refine x.cond Z tR (λh5=>?_) (λh5=>?_)
 ·have h5:(!bC (b.code.getD k (aM 0)))=true:=h5
  refine x.exit Z tR ?_;rw[bad (AW.stop h2 same (hfi _ (AW.stop h4 Y2 (by simpa using h5))))]
  exact⟨.inr Z,⟨Z,Z,tR⟩,tR,Z⟩
 ·have h5:(!bC (b.code.getD k (aM 0)))=false:=h5
  refine x.back Z (by simp only[ak,aj];omega) ⟨⟨k+1,by omega,AW.step h4 Y2 (by simpa using h5)⟩,by show b.code.length-(k+1)<b.code.length-k;omega,⟨⟨Z,Z⟩,Z,av Z,Z,Z,⟨Z,Z⟩,av Z,Z,?_,tR⟩,⟨⟨Z,ah Z,ah Z,Z,tR⟩,⟨Z,ah Z,Z,tR⟩,tR⟩,Z⟩
  show aI (vi ((k:Int)+1)) (vi ((k+1:Nat):Int));rw[agY];rfl
def yK(fs:List Fun)(i:Nat):Nat:=((fs.take i).map fN).sum
theorem V6{fs:List Fun}{i:Nat}(h:i<fs.length):yK fs (i+1)=yK fs i+fN (fs.getD i bM):=by
 unfold yK;rw[List.take_succ_eq_append_getElem h,List.map_append,List.sum_append,agM,agO h];simp
theorem abe(fs:List Fun)(i:Nat):yK fs i≤kr fs:=by
 have h:kr fs=((fs.take i++fs.drop i).map fN).sum:=by rw[List.take_append_drop];rfl
 rw[h,List.map_append,List.sum_append];exact Nat.le_add_right _ _
theorem Y3(fs:List Fun):yK fs fs.length=kr fs:=by unfold yK;rw[List.take_length];rfl
structure RW (fs:List Fun) where
 i:Nat
 hi:i≤fs.length
 ok:∀j,j<i->kK (fs.getD j bM)=true
 few:yK fs i≤4096
theorem agc{f:Fun}(hf:adI f)(h:kK f=true):fN f≤64*1000000000000:=by
 have h64:f.blocks.length≤64:=by
  unfold kK at h;simp only[agN,agZ,ag2,agX] at h;omega
 have:=Lc (k:=uE) (λb hb=>(hf.blocks b hb).len) f.blocks.length (Nat.le_refl _)
 rw[Oi] at this;unfold uE at this;exact Nat.le_trans this (Nat.mul_le_mul_right _ h64)
theorem Ep(p:Prg)(hp:Oh p):Pure PG 49 [Ns p] (vb (rightG p)) []:=by
 refine aG.mk (cfg 70) aA [] Tryz.func49 Z (by kernel_rfl) Z Z Z ?_
 intro C x;obtain⟨p1,p2,p3,p4⟩:=hp;unfold uE at p1 p3
 have ec:(decide (16<p.arrays.length)||decide (64<p.funcs.length))=(decide ((16:Int)<p.arrays.length)||decide ((64:Int)<p.funcs.length)):=by
  rw[show decide ((16:Int)<p.arrays.length)=decide (16<p.arrays.length) by rw[decide_eq_decide];omega,show decide ((64:Int)<p.funcs.length)=decide (64<p.funcs.length) by rw[decide_eq_decide];omega]
 refine x.cond Z tR (λh=>?_) (λh=>?_)
 ·have h:(decide ((16:Int)<p.arrays.length)||decide ((64:Int)<p.funcs.length))=true:=h
  refine x.exit Z tR ?_;refine⟨.inr Z,?_,tR,Z⟩;show false=rightG p;unfold rightG;rw[ec,h];rfl
 have h:(decide ((16:Int)<p.arrays.length)||decide ((64:Int)<p.funcs.length))=false:=h
 obtain⟨R,hR⟩:∃R,p.arrays.all je=R:=⟨_,Z⟩;have hF:rightG p=(R&&p.funcs.all kK&&decide (kr p.funcs≤4096)):=by unfold rightG;rw[ec,h,hR];rfl
 have hR2:mO (λi=>je (p.arrays.getD i dZ)) p.arrays.length 0=R:=by rw[Bl];exact hR
 rw[hF]
 have h64:p.funcs.length≤64:=by
  simp only[ag2,agX] at h;omega
 clear h ec hF
 refine x.loop (α:=AW (λi=>je (p.arrays.getD i dZ)) p.arrays.length R) (λy=>⟨[(1,.ptr 0 0),(21,.d (bX p.arrays)),(22,vi p.arrays.length),(23,vi (y.i:Int))],[(0,.box [.d (bX p.arrays),.d (bW p.funcs)])],1⟩) (λy=>p.arrays.length-y.i) ⟨0,Nat.zero_le _,hR2⟩ Z tR ⟨⟨⟨Z,Z⟩,av Z,Z,Z,tR⟩,⟨⟨ah Z,ah Z,tR⟩,tR⟩,Z⟩ (λy=>?_)
 obtain⟨i,hi,same⟩:=y;change Go C _ ⟨[(1,.ptr 0 0),(21,.d (bX p.arrays)),(22,vi p.arrays.length),(23,vi (i:Int))],[(0,.box [.d (bX p.arrays),.d (bW p.funcs)])],1⟩ _
 refine x.cond Z tR (λh2=>?_) (λh2=>?_)
 ·have h2:(i:Int)<(p.arrays.length:Int):=agP h2
  have h2:i<p.arrays.length:=by omega
  have ei:((i:Int).toNat)=i:=ag1 i;have ha:=p2 _ (bZ (d:=dZ) h2);have hfi:∀v,je (p.arrays.getD i dZ)=v->(λi=>je (p.arrays.getD i dZ)) i=v:=λv h=>h
  obtain⟨a,hae⟩:∃a,p.arrays.getD i dZ=a:=⟨_,Z⟩;have abf:p.arrays.getD ((i:Int).toNat) dZ=a:=by rw[ei];exact hae
  rw[hae] at ha hfi;refine x.pure Z (by simp only[ak];omega) Z (show Pure PG _ [vs (p.arrays.getD ((i:Int).toNat) dZ).name] _ [] from by rw[abf];exact lD a.name ha.name) ⟨Z,tR⟩ ?_
  rw[abf];refine x.gG Z tR Z (λ_=>lD a.level ha.level) Z ⟨Z,tR⟩ ?_
  refine x.cond Z tR (λh3=>?_) (λh3=>?_)
  ·have h3:(((!okN a.name||!okN a.level)||decide (a.size<1))||decide (256<a.size))=true:=h3
   have hv:je a=false:=by unfold je;rw[h3];rfl
   refine x.exit Z tR ?_;rw[AW.stop h2 same (hfi _ hv)];exact⟨.inr Z,Z,tR,Z⟩
  ·have h3:(((!okN a.name||!okN a.level)||decide (a.size<1))||decide (256<a.size))=false:=h3
   have hv:je a=true:=by unfold je;rw[h3];rfl
   refine x.back Z (by simp only[ak,aj];omega) ⟨⟨i+1,by omega,AW.step h2 same (hfi _ hv)⟩,by show p.arrays.length-(i+1)<p.arrays.length-i;omega,⟨⟨Z,Z⟩,av Z,Z,?_,tR⟩,⟨⟨ah Z,ah Z,tR⟩,tR⟩,Z⟩
   show aI (vi ((i:Int)+1)) (vi ((i+1:Nat):Int));rw[agY];rfl
 have h2:¬(i:Int)<(p.arrays.length:Int):=agQ h2;have eR:=AW.fin (by omega) hi same
 subst eR;refine x.loop (α:=RW p.funcs) (λy=>⟨[(1,.ptr 0 0),(5,vi (yK p.funcs y.i)),(49,.d (bW p.funcs)),(50,vi p.funcs.length),(51,vi (y.i:Int))],[(0,.box [.d (bX p.arrays),.d (bW p.funcs)])],1⟩) (λy=>p.funcs.length-y.i) ⟨0,Nat.zero_le _,λj hj=>by omega,by simp [yK]⟩ Z tR ⟨⟨⟨Z,Z⟩,Z,av Z,Z,Z,tR⟩,⟨⟨ah Z,ah Z,tR⟩,tR⟩,Z⟩ (λy=>?_)
 obtain⟨k,hk,ok,few⟩:=y;change Go C _ ⟨[(1,.ptr 0 0),(5,vi (yK p.funcs k)),(49,.d (bW p.funcs)),(50,vi p.funcs.length),(51,vi (k:Int))],[(0,.box [.d (bX p.arrays),.d (bW p.funcs)])],1⟩ _
 refine x.cond Z tR (λh3=>?_) (λh3=>?_)
 rotate_left
 ·have h3:¬(k:Int)<(p.funcs.length:Int):=agQ h3
  obtain rfl:k=p.funcs.length:=by omega
  refine x.exit Z tR ?_
  have e1:p.funcs.all kK=true:=by
   rw[←Bl p.funcs kK bM,xW]
   exact λj _ hj=>ok j (by omega)
  rw[Y3] at few;rw[e1,decide_eq_true few];exact⟨.inr Z,Z,tR,Z⟩
 have h3:(k:Int)<(p.funcs.length:Int):=agP h3
 have h3:k<p.funcs.length:=by omega
 have hff:=p4 _ (bZ (d:=bM) h3);have hs:=V6 h3;obtain⟨f,hfe⟩:∃f,p.funcs.getD k bM=f:=⟨_,Z⟩
 have Y4:p.funcs.getD ((k:Int).toNat) bM=f:=by rw[ag1];exact hfe
 rw[hfe] at hff hs;refine x.pure Z (by simp only[ak];omega) Z (show Pure PG _ [fnV (p.funcs.getD ((k:Int).toNat) bM)] _ [] from by rw[Y4];exact I6 f hff) ⟨⟨Z,ah Z,ah Z,Z,tR⟩,tR⟩ ?_
 rw[Y4];have hin:f∈p.funcs:=by rw[←hfe];exact bZ h3
 cases hok:kK f with
 | false=>
  have eR:Hf f=(0,false):=by unfold Hf;rw[hok];rfl
  have e1:p.funcs.all kK=false:=by
   rw[Bool.eq_false_iff,Ne,List.all_eq_true];intro h;rw[h f hin] at hok;cases hok
  rw[eR,e1];refine x.cond Z (by simp only[ak,aj];omega) (λh4=>?_) (λh4=>?_)
  ·refine x.exit Z tR ?_
   exact⟨.inr Z,Z,tR,Z⟩
  ·have h4:(!false||_)=false:=h4
   simp at h4
 | true=>
  have eR:Hf f=((fN f:Int),true):=by unfold Hf;rw[hok];rfl
  have hN:=agc hff hok;rw[eR];refine x.cond Z (by simp only[ak,aj];omega) (λh4=>?_) (λh4=>?_)
  ·have h4:(!true||decide ((4096:Int)<(yK p.funcs k:Int)+(fN f:Int)))=true:=h4
   have h4:(4096:Int)<(yK p.funcs k:Int)+(fN f:Int):=by simpa using h4
   have hle:=abe p.funcs (k+1)
   refine x.exit Z tR ?_;rw[decide_eq_false (show ¬kr p.funcs≤4096 by omega),Bool.and_false]
   exact⟨.inr Z,Z,tR,Z⟩
  ·have h4:(!true||decide ((4096:Int)<(yK p.funcs k:Int)+(fN f:Int)))=false:=h4
   have h4:¬(4096:Int)<(yK p.funcs k:Int)+(fN f:Int):=by simpa using h4
   refine x.back Z (by simp only[ak,aj];omega) ⟨⟨k+1,by omega,λj hj=>?_,by omega⟩,by show p.funcs.length-(k+1)<p.funcs.length-k;omega,⟨⟨Z,Z⟩,?_,av Z,Z,?_,tR⟩,⟨⟨ah Z,ah Z,tR⟩,tR⟩,Z⟩
   ·by_cases e:j=k
    ·rw[e,hfe];exact hok
    ·exact ok j (by omega)
   ·show aI (vi ((yK p.funcs k:Int)+(fN f:Int))) (vi (yK p.funcs (k+1):Int))
    rw[hs,agY];rfl
   ·show aI (vi ((k:Int)+1)) (vi ((k+1:Nat):Int));rw[agY];rfl
end Go.Proofs.YtojhdmfkfkfcbaaGreatDoor
