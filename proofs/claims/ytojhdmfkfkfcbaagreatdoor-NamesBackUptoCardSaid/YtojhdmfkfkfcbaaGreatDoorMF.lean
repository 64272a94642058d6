import Derived.Test.YtojhdmfkfkfcbaaGreatDoorME
import Derived.Test.YtojhdmfkfkfcbaaGreatDoorSxH
set_option maxHeartbeats 1000000000
set_option linter.unusedSimpArgs false
set_option linter.unusedVariables false
namespace Go.Proofs.YtojhdmfkfkfcbaaGreatDoor
open Go.Sx
set_option maxRecDepth 100000
theorem sU(f1 f2:Nat->List D)(a e:Int):Later PG 50 [.ptr 0 0,.ptr 1 0,.ptr 2 0] [.box [.dead,.dead,.dead],.box [.dead],.box [.dead]] (.pan wT [(.i64,a),(.i64,e)]) [.box [.d (.sl 2 0 f1),.d (.sl 3 0 f2),vi 0],.box [vi a],.box [vi e]]:=by
 refine Later.mk (dP 22 3) aA [0,1,2] Tryz.func50 Z (by kernel_rfl) Z Z Z Z Z Z Z Z Z Z ?_
 intro C x;refine x.cond Z tR (λh=>?_) (λh=>?_)
 rotate_left
 ·cases h
 refine x.cond Z tR (λh=>?_) (λh=>?_)
 ·cases h
 refine x.draw [0,1] [] [0,1,2,3,4] [5,6] [7] Z tR ay (by kernel_rfl) (NoPanic.quiet Ret.bG) Z tR (λC1 x1=>?_)
 refine x1.back Z tR ?_;refine x1.back Z tR ?_;refine x.exit Z tR ?_;exact⟨.inl Z,tR,⟨⟨Z,Z,Z,tR⟩,⟨Z,tR⟩,⟨Z,tR⟩,tR⟩,Z⟩
theorem V7(z1 n1 z2 n2:Nat)(f1 f2:Nat->List D)(k a e:Int):Later PG 50 [.ptr 0 0,.ptr 1 0,.ptr 2 0] [.box [.d (.sl z1 n1 f1),.d (.sl z2 n2 f2),vi k],.box [vi a],.box [vi e]] .back [.box [.d (.sl z1 n1 f1),.d (.sl z2 n2 f2),vi k],.box [vi a],.box [vi e]]:=by
 refine Later.mk (dP 22 3) aA [0,1,2] Tryz.func50 Z (by kernel_rfl) Z Z Z Z Z Z Z Z Z Z ?_
 intro C x;refine x.cond Z tR (λh=>?_) (λh=>?_)
 ·cases h
 refine x.exit Z tR ?_;exact⟨.inl Z,tR,⟨⟨ah Z,ah Z,Z,tR⟩,⟨Z,tR⟩,⟨Z,tR⟩,tR⟩,Z⟩
theorem wV{α:Type}{g:α->Nat}{l:List α}{a:α}(h:a∈l):g a≤(l.map g).sum:=by
 induction l with
 | nil=>cases h
 | cons b l ih=>
  simp only[List.map_cons,List.sum_cons]
  rcases List.mem_cons.1 h with rfl | h
  ·omega
  ·have:=ih h;omega
structure Oj(q:Prg):Prop where
 al:q.arrays.length≤16
 fl:q.funcs.length≤64
 f:∀f∈q.funcs,f.params.length≤6∧f.blocks.length≤64∧∀b∈f.blocks,b.code.length≤4096∧∀x∈b.code,Od x
theorem adJ{x:Ins}(h:bC x=true):Od x:=by
 unfold bC at h;split at h
 ·cases h
 ·split at h
  ·simp only[agN,agT] at h
   exact⟨by omega,by omega⟩
  ·split at h
   ·cases h
   ·rw[agN,agZ] at h
    have h1:=h.1;simp only[ag2,agX] at h1;exact⟨by omega,by omega⟩
theorem Y5{q:Prg}(h:rightG q=true):Oj q:=by
 unfold rightG at h;simp only[agN,agZ,ag2,agT,agX,List.all_eq_true] at h;obtain⟨⟨⟨⟨h1,h2⟩,h3⟩,h4⟩,h5⟩:=h;refine⟨by omega,by omega,λf hf=>?_⟩
 have h6:=h4 f hf;unfold kK at h6;simp only[agN,agZ,ag2,agX,List.all_eq_true] at h6;obtain⟨⟨⟨⟨⟨g1,g2⟩,g3⟩,g4⟩,g5⟩,g6⟩:=h6;refine⟨by omega,by omega,λb hb=>?_⟩
 have h7:=g6 b hb;unfold p9 at h7;rw[agN,List.all_eq_true] at h7;refine⟨?_,λx hx=>adJ (h7.2 x hx)⟩
 have e1:=wV (g:=λb:Blk=>b.code.length) hb
 have e2:=wV (g:=λf:Fun=>(f.blocks.map λb=>b.code.length).sum) hf
 unfold kr at h5;omega
theorem Ld{q:Prg}{i:Nat}(h:i<q.funcs.length):q.funcs.getD i bM∈q.funcs:=by rw[agM,agO h];exact List.getElem_mem h
theorem adK{f:Fun}{i:Nat}(h:i<f.blocks.length):f.blocks.getD i bN∈f.blocks:=by rw[agM,agO h];exact List.getElem_mem h
theorem Oj.fn{q:Prg}(h:Oj q){f:Fun}(hf:f∈q.funcs):Tf f:=by
 obtain⟨h1,h2,h3⟩:=h.f f hf;exact⟨by omega,by omega,λb hb=>by have:=(h3 b hb).1;omega⟩
theorem Oj.bk{q:Prg}(h:Oj q){f:Fun}(hf:f∈q.funcs){b:Blk}(hb:b∈f.blocks):ach b:=by
 obtain⟨h1,h2⟩:=(h.f f hf).2.2 b hb;exact⟨by omega,h2⟩
theorem Ol:∀{L:List (BY×Int)} {acc o:List BY},gK acc L=.ok o->o.length=acc.length+L.length
 | [],acc,o,h=>by cases h;rfl
 | (s,a)::r,acc,o,h=>by
  rw[gK] at h;split at h
  ·cases h
  ·have:=Ol h
   simp only[List.length_append,List.length_cons,List.length_nil] at this ⊢;omega
structure ArW (p:Pol) (q:Prg) (R:Flt (List BY×List Cel)) where
 i:Nat
 acc:List BY
 cs:List Cel
 hi:i≤q.arrays.length
 ha:acc.length=i
 hc:cs.length=i
 same:lT p (q.arrays.drop i) acc cs=R
theorem V8{p:Pol}{q:Prg}{i:Nat}(h:i<q.arrays.length)(acc:List BY)(cs:List Cel):lT p (q.arrays.drop i) acc cs=if posB acc (q.arrays.getD i dZ).name=true then .error ((q.arrays.getD i dZ).at_,9) else bd (dQ (bH p.lev (q.arrays.getD i dZ).level) (q.arrays.getD i dZ).at_) λk=>lT p (q.arrays.drop (i+1)) (acc++[(q.arrays.getD i dZ).name]) (cs++[((q.arrays.getD i dZ).size,k)]):=by
 have e:q.arrays[i]=q.arrays.getD i dZ:=by rw[agM,agO h];rfl
 rw[List.drop_eq_getElem_cons h,e,lT]
structure ScW (q:Prg) (R:Flt (List Scp)) where
 i:Nat
 acc:List Scp
 hi:i≤q.funcs.length
 ha:acc.length=i
 same:qj (q.funcs.drop i) acc=R
theorem V9{q:Prg}{i:Nat}(h:i<q.funcs.length)(acc:List Scp):qj (q.funcs.drop i) acc=bd (EK (q.funcs.getD i bM)) λs=>qj (q.funcs.drop (i+1)) (acc++[s]):=by
 have e:q.funcs[i]=q.funcs.getD i bM:=by rw[agM,agO h];rfl
 rw[List.drop_eq_getElem_cons h,e,qj]
structure BoW (r:Res) (ss:List Scp) (R:Flt (List Bod)) where
 i:Nat
 acc:List Bod
 hi:i≤r.q.funcs.length
 ha:acc.length=i
 same:nZ r ss (r.q.funcs.drop i) i acc=R
theorem Wd{r:Res}{ss:List Scp}{i:Nat}(h:i<r.q.funcs.length)(acc:List Bod):nZ r ss (r.q.funcs.drop i) i acc=bd (K9 r (ss.getD i qG) (r.q.funcs.getD i bM)) λb=>nZ r ss (r.q.funcs.drop (i+1)) (i+1) (acc++[b]):=by
 have e:r.q.funcs[i]=r.q.funcs.getD i bM:=by rw[agM,agO h];rfl
 rw[List.drop_eq_getElem_cons h,e,nZ]
structure BlW (r:Res) (s:Scp) (f:Fun) (R:Flt (List (List Op9))) where
 j:Nat
 acc:List (List Op9)
 hj:j≤f.blocks.length
 ha:acc.length=j
 same:mD r s (f.blocks.drop j) acc=R
theorem Q7{r:Res}{s:Scp}{f:Fun}{i:Nat}(h:i<f.blocks.length)(acc:List (List Op9)):mD r s (f.blocks.drop i) acc=bd (sS r s (f.blocks.getD i bN)) λy=>mD r s (f.blocks.drop (i+1)) (acc++[y]):=by
 have e:f.blocks[i]=f.blocks.getD i bN:=by rw[agM,agO h];rfl
 rw[List.drop_eq_getElem_cons h,e,mD]
abbrev adL(l:List Cel):Ch:=.vec 66 2 l.length λi=>[.int .i64 (l.getD i bO).1,.int .i64 (l.getD i bO).2]
abbrev spC(l:List Scp):Ch:=.vec 133 2 l.length λi=>[.mp (l.getD i qG).blks,.mp (l.getD i qG).vals]
abbrev abg(l:List (List Op9)):Ch:=.vec 61 1 l.length λi=>[um (l.getD i [])]
abbrev abh(l:List Bod):Ch:=.vec 60 3 l.length λi=>zN (l.getD i aB)
abbrev Wh(l:List Scp):D:=.sl 2 l.length λi=>[.mp (l.getD i qG).blks,.mp (l.getD i qG).vals]
abbrev resR(R:Cod×Int×Int):V:=.tup [rO R.1,vi R.2.1,vi R.2.2]
theorem mE(p:Pol)(q:Prg)(hz:QZ p)(hq:Oh q):Pure PG 17 [Bf p,Ns q] (resR (ig p q)) []:=by
 obtain⟨i1,i2,i3,i4⟩:=sP hz.toPolSz;refine aG.SH (cfg 182) aA [] 2 [4,5,6] Tryz.func17 Z Z (by kernel_rfl) Z Z Z ?_
 intro C x;refine x.pure Z tR Z (Em p hz) ⟨⟨ah Z,ah Z,ah Z,ah Z,Z,tR⟩,tR⟩ ?_;refine x.gG Z tR Z (λ_=>Ep q hq) Z ⟨⟨ah Z,ah Z,tR⟩,tR⟩ ?_
 refine x.cond Z tR (λh=>?_) (λh=>?_)
 ·have h:(!gW p||!rightG q)=true:=h
  rw[ig,if_neg (by revert h;cases gW p<;>cases rightG q<;>simp)]
  refine x.nu ?_;exact x.exit Z tR ⟨⟨[(4,.ptr 2 0),(5,.ptr 3 0),(6,.ptr 4 0)],[(2,.box [.d (bT []),.d (bP []),vi 0]),(3,.box [vi 0]),(4,.box [vi 1])],5⟩,⟨⟨⟨Z,Z⟩,⟨Z,Z⟩,⟨Z,Z⟩,tR⟩,⟨⟨Z,Z,Z,tR⟩,⟨Z,tR⟩,⟨Z,tR⟩,tR⟩,Z⟩,.inr Z,⟨Z,Z,Z,tR⟩,tR,Z⟩
 have h:(!gW p||!rightG q)=false:=h
 have hR:(gW p&&rightG q)=true:=by revert h;cases gW p<;>cases rightG q<;>simp
 have hs:=Y5 (agN _ _▸hR).2;rw[ig,if_pos hR];refine x.back Z tR ?_;refine x.back Z tR ?_;refine⟨_,_,5,Z,Z,⟨_,Tryz.func50,Z,by kernel_rfl⟩,λC1 x1=>?_⟩
 clear x
 obtain⟨AR,hAR⟩:∃AR,lT p q.arrays [] []=AR:=⟨_,Z⟩;have qH:vE p q=bd AR λac=>bd (gK [] (q.funcs.map λf=>(f.name,f.at_))) λfn=>if yX q fn=true then bd (qj q.funcs []) λss=>bd (nZ ⟨p,q,ac.1,fn⟩ ss q.funcs 0 []) λbs=>.ok ⟨ac.2,bs,dN fn gu⟩ else .error (0,14):=by rw[←hAR];rfl
 obtain⟨CV,hCV⟩:∃CV,vE p q=CV:=⟨_,Z⟩;rw[hCV] at qH ⊢;have hal:=hs.al;have hfl:=hs.fl;refine x1.toLoop Z tR ?_;refine Go.ownB 2 0 66 2 (λi=>[.int .i64 (([]:List Cel).getD i bO).1,.int .i64 (([]:List Cel).getD i bO).2]) Z Z ?_
 refine x1.loop (α:=ArW p q AR) (λy=>⟨[(2,.ptr 0 0),(3,.ptr 1 0),(4,.ptr 2 0),(5,.ptr 3 0),(6,.ptr 4 0),(7,.ptr 6 0),(40,.d (bX q.arrays)),(41,vi (q.arrays.length:Int)),(42,vi (y.i:Int))],[(0,kM p),(1,.box [.d (bX q.arrays),.d (bW q.funcs)]),(2,.box [.own 7,.aD,vi 0]),(3,.box [vi 0]),(4,.box [vi 0]),(5,.pos y.acc),(6,.box [vSs p.lev,vU p.up,j4 p.ins,j4 p.outs,vi p.depth,.d (bX q.arrays),.d (bW q.funcs),.own 5,.dead]),(7,adL y.cs)],8⟩) (λy=>q.arrays.length-y.i) ⟨0,[],[],Nat.zero_le _,Z,Z,hAR⟩ Z tR ⟨⟨⟨Z,Z⟩,⟨Z,Z⟩,⟨Z,Z⟩,⟨Z,Z⟩,⟨Z,Z⟩,⟨Z,Z⟩,av Z,Z,Z,tR⟩,⟨bU p,⟨ah Z,ah Z,tR⟩,⟨Z,tR,Z,tR⟩,⟨Z,tR⟩,⟨Z,tR⟩,tR,⟨ah Z,ah Z,ah Z,ah Z,Z,ah Z,ah Z,Z,Z,tR⟩,⟨Z,Z,Z,λ_ h=>absurd h (agV _)⟩,tR⟩,Z⟩ (λy=>?_)
 obtain⟨i,acc,cs,hi,ha,hc,same⟩:=y;change Go C1 _ ⟨[(2,.ptr 0 0),(3,.ptr 1 0),(4,.ptr 2 0),(5,.ptr 3 0),(6,.ptr 4 0),(7,.ptr 6 0),(40,.d (bX q.arrays)),(41,vi (q.arrays.length:Int)),(42,vi (i:Int))],[(0,kM p),(1,.box [.d (bX q.arrays),.d (bW q.funcs)]),(2,.box [.own 7,.aD,vi 0]),(3,.box [vi 0]),(4,.box [vi 0]),(5,.pos acc),(6,.box [vSs p.lev,vU p.up,j4 p.ins,j4 p.outs,vi p.depth,.d (bX q.arrays),.d (bW q.funcs),.own 5,.dead]),(7,adL cs)],8⟩ _
 refine x1.cond Z tR (λh1=>?_) (λh1=>?_)
 ·have h1:i<q.arrays.length:=by have:=agP h1;omega
  rw[V8 h1] at same;refine x1.quiet Z (by simp only[ak];omega) ay (by kernel_rfl) ?_
  refine x1.eY Z tR ?_
  cases hp:posB acc (q.arrays.getD i dZ).name with
  | true=>
   rw[hp,if_pos rfl] at same;subst same;rw[bd] at qH;subst qH;refine x1.ED [4,5,6] [] Z tR Z (jy (q.arrays.getD i dZ).at_ 9) ⟨(show aI (vb (!posB acc (q.arrays.getD i dZ).name)) (vb false) by rw[hp];exact Z),Z,Z,tR⟩ Z tR ?_
   exact⟨.pan wT [(.i64,_),(.i64,_)],[.ptr 0 0,.ptr 1 0,.ptr 2 0],[2,3,4],_,_,_,Z,λ_=>rfl,λ_ _ _ _ h=>(((h.dim 2).dim 3).dim 4),sU (λi=>[.int .i64 (([]:List Cel).getD i bO).1,.int .i64 (([]:List Cel).getD i bO).2]) (λi=>zN (([]:List Bod).getD i aB)) _ _,⟨⟨Z,Z⟩,⟨Z,Z⟩,⟨Z,Z⟩,tR⟩,Z,⟨⟨Z,Z,Z,tR⟩,⟨Z,tR⟩,⟨Z,tR⟩,tR⟩,.inr Z,⟨Z,Z,Z,tR⟩,tR,Z⟩
  | false=>
   rw[hp,if_neg (by simp)] at same
   refine x1.pure Z tR Z (kU (q.arrays.getD i dZ).at_ 9) ⟨(show aI (vb (!posB acc (q.arrays.getD i dZ).name)) (vb true) by rw[hp];exact Z),Z,Z,tR⟩ ?_
   refine x1.xP 9 [5] [0,1,2,3,4,5,6] (.fork 7 .leaf .no)
    ⟨[(2,.ptr 0 0),(3,.ptr 1 0),(4,.ptr 2 0),(5,.ptr 3 0),(6,.ptr 4 0),(7,.ptr 6 0),(40,.d (bX q.arrays)),(41,vi (q.arrays.length:Int)),(42,vi (i:Int)),(9,.ptr 8 0)],[(5,.pos (acc++[(q.arrays.getD i dZ).name]))],9⟩ Z tR ay Z (by kernel_rfl) (iU.quiet (by kernel_rfl)) Z tR (λC2 x2=>?_) ?_
   ·exact⟨x2.back Z (by refine⟨hp,?_⟩;simp only[ak];omega) (Or.inl ⟨⟨⟨Z,Z⟩,⟨Z,Z⟩,⟨Z,Z⟩,⟨Z,Z⟩,⟨Z,Z⟩,⟨Z,Z⟩,av Z,Z,Z,⟨Z,Z⟩,tR⟩,⟨Z,tR⟩,Z⟩),tR⟩
   refine x1.pure Z tR Z (jT p.lev (q.arrays.getD i dZ).level i1) ⟨⟨ah Z,Z,Z,Z,Z,tR⟩,Z,tR⟩ ?_;refine x1.code Z tR ?_;refine x1.perm [0,1,2,3,4,5,6,8,7] Z ?_;by_cases hk:0≤bH p.lev (q.arrays.getD i dZ).level
   rotate_left
   ·rw[dQ,if_neg hk,bd] at same
    subst same;rw[bd] at qH;subst qH;refine x1.qO 8 [2,8] [0,2,3,4,5,6,7] (mkO [(1,[]),(8,[]),(9,[8]),(10,[9]),(11,[1,10]),(12,[11]),(13,[12])] 8 []) Z tR ay Z (by kernel_rfl) (iU.quiet (by kernel_rfl)) Z tR (λC2 x2=>?_)
    repeat' first
     | exact True.intro
     | refine And.intro ?_ ?_
     | refine x2.ED [4,5,6] [] rfl tR rfl (yg _ (q.arrays.getD i dZ).at_) ⟨rfl,(show aI (vb (decide (0≤bH p.lev (q.arrays.getD i dZ).level))) (vb false) by rw[decide_eq_false hk];exact rfl),rfl,tR⟩ rfl tR ⟨⟨_,rfl⟩,rfl,?_⟩
     | exact⟨.pan wT [(.i64,_),(.i64,_)],[.ptr 0 0,.ptr 1 0,.ptr 2 0],[2,3,4],_,_,_,rfl,λ_=>rfl,λ_ _ _ _ h=>(((h.dim 2).dim 3).dim 4),sU (λi=>[.int .i64 (([]:List Cel).getD i bO).1,.int .i64 (([]:List Cel).getD i bO).2]) (λi=>zN (([]:List Bod).getD i aB)) _ _,⟨⟨rfl,rfl⟩,⟨rfl,rfl⟩,⟨rfl,rfl⟩,tR⟩,rfl,⟨⟨rfl,rfl,rfl,tR⟩,⟨rfl,tR⟩,⟨rfl,tR⟩,tR⟩,.inr rfl,⟨rfl,rfl,rfl,tR⟩,tR,rfl⟩
     | refine x2.back rfl tR ?_
   ·rw[dQ,if_pos hk,bd] at same
    refine x1.xP 8 [2,8] [0,2,3,4,5,6,7] (mkO [(1,[]),(8,[]),(9,[8]),(10,[9]),(11,[1,10]),(12,[11]),(13,[12])] 8 [])
     ⟨[(2,.ptr 0 0),(3,.ptr 1 0),(4,.ptr 2 0),(5,.ptr 3 0),(6,.ptr 4 0),(7,.ptr 6 0),(40,.d (bX q.arrays)),(41,vi (q.arrays.length:Int)),(42,vi (i:Int))],[(2,.box [.own 8,.aD,vi 0]),(8,adL (cs++[((q.arrays.getD i dZ).size,bH p.lev (q.arrays.getD i dZ).level)]))],9⟩ Z tR ay Z (by kernel_rfl) (iU.quiet (by kernel_rfl)) Z tR (λC2 x2=>?_) ?_
    ·repeat' first
      | exact True.intro
      | refine And.intro ?_ ?_
      | refine x2.pure rfl tR rfl (Bh (bH p.lev (q.arrays.getD i dZ).level) (q.arrays.getD i dZ).at_) ⟨(show aI (vi (if 0 > bH p.lev (q.arrays.getD i dZ).level then 0 else bH p.lev (q.arrays.getD i dZ).level)) (vi (bH p.lev (q.arrays.getD i dZ).level)) by rw[if_neg (by omega)];exact rfl),(show aI (vb (decide (0≤bH p.lev (q.arrays.getD i dZ).level))) (vb true) by rw[decide_eq_true hk];exact rfl),rfl,tR⟩ (x2.back rfl tR ?_)
      | refine x2.back rfl tR ?_
      | refine x2.back rfl (by simp only[ak,big];omega) ?_
      | exact Or.inl ⟨⟨⟨rfl,rfl⟩,⟨rfl,rfl⟩,⟨rfl,rfl⟩,⟨rfl,rfl⟩,⟨rfl,rfl⟩,⟨rfl,rfl⟩,av rfl,rfl,rfl,tR⟩,⟨⟨rfl,tR,rfl,tR⟩,⟨rfl,rfl,by simp,λj hj=>iD (λc:Cel=>[D.int .i64 c.1,D.int .i64 c.2]) 2 (λ_=>rfl) bO cs ((q.arrays.getD i dZ).size,bH p.lev (q.arrays.getD i dZ).level) j hj⟩,tR⟩,rfl⟩
    refine x1.perm [0,1,2,3,4,5,6,8,7] Z ?_;exact x1.back Z (by simp only[ak,aj];omega) ⟨⟨i+1,acc++[(q.arrays.getD i dZ).name],cs++[((q.arrays.getD i dZ).size,bH p.lev (q.arrays.getD i dZ).level)],by omega,by simp [ha],by simp [hc],same⟩,by show q.arrays.length-(i+1)<q.arrays.length-i;omega,⟨⟨Z,Z⟩,⟨Z,Z⟩,⟨Z,Z⟩,⟨Z,Z⟩,⟨Z,Z⟩,⟨Z,Z⟩,av Z,Z,(show aI (vi ((i:Int)+1)) (vi ((i+1:Nat):Int)) by rw[agY];rfl),tR⟩,⟨bU p,⟨ah Z,ah Z,tR⟩,⟨Z,tR,Z,tR⟩,⟨Z,tR⟩,⟨Z,tR⟩,Z,⟨ah Z,ah Z,ah Z,ah Z,Z,ah Z,ah Z,Z,Z,tR⟩,⟨Z,Z,Z,λ_ _=>rfl⟩,tR⟩,Z⟩
 have h1:i=q.arrays.length:=by have:=agQ h1;omega
 rw[List.drop_of_length_le (by omega),lT] at same
 subst same;rw[bd] at qH;refine Sx.Go.freeze 5 ?_;refine Sx.Go.freeze 7 ?_;have hnf:=VU q.funcs (by omega)
 obtain⟨FN,hFN⟩:∃FN,gK [] (q.funcs.map λf=>(f.name,f.at_))=FN:=⟨_,Z⟩
 rw[hFN] at hnf qH
 rcases FN with⟨a,e⟩ | fn
 ·rw[bd] at qH
  subst qH;refine x1.ED [4,5,6] [] Z tR Z hnf ⟨av Z,Z,Z,tR⟩ Z tR ?_;exact⟨.pan wT [(.i64,_),(.i64,_)],[.ptr 0 0,.ptr 1 0,.ptr 2 0],[2,3,4],_,_,_,Z,λ_=>rfl,λ_ _ _ _ h=>(((h.dim 2).dim 3).dim 4),sU (λi=>[.int .i64 (([]:List Cel).getD i bO).1,.int .i64 (([]:List Cel).getD i bO).2]) (λi=>zN (([]:List Bod).getD i aB)) _ _,⟨⟨Z,Z⟩,⟨Z,Z⟩,⟨Z,Z⟩,tR⟩,Z,⟨⟨Z,Z,Z,tR⟩,⟨Z,tR⟩,⟨Z,tR⟩,tR⟩,.inr Z,⟨Z,Z,Z,tR⟩,tR,Z⟩
 rw[bd] at qH;have hfn:fn.length=q.funcs.length:=by have:=Ol hFN;simpa using this
 refine x1.call [] Z tR Z hnf Z ⟨av Z,Z,Z,tR⟩ tR ?_;have hmi:posB fn gu=true->0≤dN fn gu∧dN fn gu<(q.funcs.length:Int):=λh=>by have:=uN h;omega
 have hmv:(posB fn gu&&decide (((q.funcs.getD (dN fn gu).toNat bM).params.length:Int)=0))=yX q fn:=rfl
 cases hm:yX q fn with
 | false=>
  rw[hm,if_neg (by simp)] at qH
  subst qH;refine x1.ED [4,5,6] [] Z (by simp only[ak];exact hmi) Z (jy 0 14) ⟨(show aI (vb (posB fn gu&&decide (((q.funcs.getD (dN fn gu).toNat bM).params.length:Int)=0))) (vb false) by rw[hmv,hm];exact Z),Z,Z,tR⟩ Z tR ?_
  exact⟨.pan wT [(.i64,_),(.i64,_)],[.ptr 0 0,.ptr 1 0,.ptr 2 0],[2,3,4],_,_,_,Z,λ_=>rfl,λ_ _ _ _ h=>(((h.dim 2).dim 3).dim 4),sU (λi=>[.int .i64 (([]:List Cel).getD i bO).1,.int .i64 (([]:List Cel).getD i bO).2]) (λi=>zN (([]:List Bod).getD i aB)) _ _,⟨⟨Z,Z⟩,⟨Z,Z⟩,⟨Z,Z⟩,tR⟩,Z,⟨⟨Z,Z,Z,tR⟩,⟨Z,tR⟩,⟨Z,tR⟩,tR⟩,.inr Z,⟨Z,Z,Z,tR⟩,tR,Z⟩
 | true=>
  rw[hm,if_pos rfl] at qH;refine x1.pure Z (by simp only[ak];exact hmi) Z (kU 0 14) ⟨(show aI (vb (posB fn gu&&decide (((q.funcs.getD (dN fn gu).toNat bM).params.length:Int)=0))) (vb true) by rw[hmv,hm];exact Z),Z,Z,tR⟩ ?_
  refine x1.toLoop Z (by simp only[ak,big,ag1];omega) ?_
  refine Sx.Go.freeze 8 ?_;obtain⟨SR,hSR⟩:∃SR,qj q.funcs []=SR:=⟨_,Z⟩
  rw[hSR] at qH;refine x1.loop (α:=ScW q SR) (λy=>⟨[(2,.ptr 0 0),(3,.ptr 1 0),(4,.ptr 2 0),(5,.ptr 3 0),(6,.ptr 4 0),(7,.ptr 6 0),(16,.own 9),(123,.d (bW q.funcs)),(124,vi (q.funcs.length:Int)),(125,vi (y.i:Int))],[(0,kM p),(1,.box [.d (bX q.arrays),.d (bW q.funcs)]),(2,.box [.d (bT cs),.aD,vi (dN fn gu)]),(3,.box [vi 0]),(4,.box [vi 0]),(6,lC ⟨p,q,acc,fn⟩),(9,spC y.acc)],10⟩) (λy=>q.funcs.length-y.i) ⟨0,[],Nat.zero_le _,rfl,hSR⟩ rfl tR ⟨⟨⟨rfl,rfl⟩,⟨rfl,rfl⟩,⟨rfl,rfl⟩,⟨rfl,rfl⟩,⟨rfl,rfl⟩,⟨rfl,rfl⟩,rfl,av rfl,rfl,rfl,tR⟩,⟨bU p,⟨ah rfl,ah rfl,tR⟩,⟨ah rfl,tR,rfl,tR⟩,⟨rfl,tR⟩,⟨rfl,tR⟩,aU ⟨p,q,acc,fn⟩,⟨rfl,rfl,rfl,λ_ h=>absurd h (agV _)⟩,tR⟩,rfl⟩ (λy=>?_)
  obtain⟨i2,om,hi2,hsa,same⟩:=y;change Go C1 _ ⟨[(2,.ptr 0 0),(3,.ptr 1 0),(4,.ptr 2 0),(5,.ptr 3 0),(6,.ptr 4 0),(7,.ptr 6 0),(16,.own 9),(123,.d (bW q.funcs)),(124,vi (q.funcs.length:Int)),(125,vi (i2:Int))],[(0,kM p),(1,.box [.d (bX q.arrays),.d (bW q.funcs)]),(2,.box [.d (bT cs),.aD,vi (dN fn gu)]),(3,.box [vi 0]),(4,.box [vi 0]),(6,lC ⟨p,q,acc,fn⟩),(9,spC om)],10⟩ _
  have hfn0:fn.length=q.funcs.length:=hfn
  refine x1.cond Z tR (λh3=>?_) (λh3=>?_)
  ·have h3:i2<q.funcs.length:=by have:=agP h3;omega
   rw[V9 h3] at same;have hsc:=Q0 ⟨p,q,acc,fn⟩ (q.funcs.getD i2 bM) (hs.fn (Ld h3))
   obtain⟨V,hV⟩:∃V,EK (q.funcs.getD i2 bM)=V:=⟨_,Z⟩
   rw[hV] at hsc same
   rcases V with⟨a,e⟩ | sc
   ·rw[bd] at same
    subst same;rw[bd] at qH;subst qH;refine x1.ED [4,5,6] [6] Z (by simp only[ak];omega) Z hsc ⟨⟨Z,Z⟩,⟨Z,ah Z,ah Z,Z,tR⟩,tR⟩ Z ⟨aU ⟨p,q,acc,fn⟩,tR⟩ ?_
    exact⟨.pan wT [(.i64,_),(.i64,_)],[.ptr 0 0,.ptr 1 0,.ptr 2 0],[2,3,4],_,_,_,Z,λ_=>rfl,λ_ _ _ _ h=>(((h.dim 2).dim 3).dim 4),sU (λi=>[.int .i64 (([]:List Cel).getD i bO).1,.int .i64 (([]:List Cel).getD i bO).2]) (λi=>zN (([]:List Bod).getD i aB)) _ _,⟨⟨Z,Z⟩,⟨Z,Z⟩,⟨Z,Z⟩,tR⟩,Z,⟨⟨Z,Z,Z,tR⟩,⟨Z,tR⟩,⟨Z,tR⟩,tR⟩,.inr Z,⟨Z,Z,Z,tR⟩,tR,Z⟩
   ·rw[bd] at same
    refine x1.call [6] Z (by simp only[ak];omega) Z hsc Z ⟨⟨Z,Z⟩,⟨Z,ah Z,ah Z,Z,tR⟩,tR⟩ ⟨aU ⟨p,q,acc,fn⟩,tR⟩ ?_
    exact x1.back rfl (by simp only[ak,aj,big];omega) ⟨⟨i2+1,om++[sc],by omega,by simp [hsa],same⟩,by show q.funcs.length-(i2+1)<q.funcs.length-i2;omega,⟨⟨rfl,rfl⟩,⟨rfl,rfl⟩,⟨rfl,rfl⟩,⟨rfl,rfl⟩,⟨rfl,rfl⟩,⟨rfl,rfl⟩,rfl,av rfl,rfl,(show aI (vi ((i2:Int)+1)) (vi ((i2+1:Nat):Int)) by rw[agY];rfl),tR⟩,⟨bU p,⟨ah rfl,ah rfl,tR⟩,⟨ah rfl,tR,rfl,tR⟩,⟨rfl,tR⟩,⟨rfl,tR⟩,aU ⟨p,q,acc,fn⟩,⟨rfl,rfl,by simp,λj hj=>iD (λs:Scp=>[D.mp s.blks,D.mp s.vals]) 2 (λ_=>rfl) qG om sc j hj⟩,tR⟩,rfl⟩
  have h3:i2=q.funcs.length:=by have:=agQ h3;omega
  rw[List.drop_of_length_le (by omega),qj] at same
  subst same;rw[bd] at qH;obtain⟨ss,hss⟩:∃ss,om=ss:=⟨_,Z⟩;have hsl:om.length=q.funcs.length:=by omega
  refine Sx.Go.freeze 9 ?_;refine x1.toLoop Z tR ?_;refine Go.ownB 2 1 60 3 (λi=>zN (([]:List Bod).getD i aB)) Z Z ?_
  obtain⟨BR,hBR⟩:∃BR,nZ ⟨p,q,acc,fn⟩ om q.funcs 0 []=BR:=⟨_,Z⟩
  rw[hBR] at qH;refine x1.loop (α:=BoW ⟨p,q,acc,fn⟩ om BR) (λy=>⟨[(2,.ptr 0 0),(3,.ptr 1 0),(4,.ptr 2 0),(5,.ptr 3 0),(6,.ptr 4 0),(7,.ptr 6 0),(16,.d (Wh om)),(137,.d (bW q.funcs)),(138,vi (q.funcs.length:Int)),(139,vi (y.i:Int))],[(0,kM p),(1,.box [.d (bX q.arrays),.d (bW q.funcs)]),(2,.box [.d (bT cs),.own 10,vi (dN fn gu)]),(3,.box [vi 0]),(4,.box [vi 0]),(6,lC ⟨p,q,acc,fn⟩),(10,abh y.acc)],11⟩) (λy=>q.funcs.length-y.i) ⟨0,[],Nat.zero_le _,rfl,hBR⟩ rfl tR ⟨⟨⟨rfl,rfl⟩,⟨rfl,rfl⟩,⟨rfl,rfl⟩,⟨rfl,rfl⟩,⟨rfl,rfl⟩,⟨rfl,rfl⟩,av rfl,av rfl,rfl,rfl,tR⟩,⟨bU p,⟨ah rfl,ah rfl,tR⟩,⟨ah rfl,rfl,rfl,tR⟩,⟨rfl,tR⟩,⟨rfl,tR⟩,aU ⟨p,q,acc,fn⟩,⟨rfl,rfl,rfl,λ_ h=>absurd h (agV _)⟩,tR⟩,rfl⟩ (λy=>?_)
  obtain⟨i3,Om,hi3,hba,same⟩:=y;have hi3:i3≤q.funcs.length:=hi3
  change Go C1 _ ⟨[(2,.ptr 0 0),(3,.ptr 1 0),(4,.ptr 2 0),(5,.ptr 3 0),(6,.ptr 4 0),(7,.ptr 6 0),(16,.d (Wh om)),(137,.d (bW q.funcs)),(138,vi (q.funcs.length:Int)),(139,vi (i3:Int))],[(0,kM p),(1,.box [.d (bX q.arrays),.d (bW q.funcs)]),(2,.box [.d (bT cs),.own 10,vi (dN fn gu)]),(3,.box [vi 0]),(4,.box [vi 0]),(6,lC ⟨p,q,acc,fn⟩),(10,abh Om)],11⟩ _
  refine x1.cond Z tR (λh4=>?_) (λh4=>?_)
  rotate_left
  ·have h4:i3=q.funcs.length:=by have:=agQ h4;omega
   rw[List.drop_of_length_le (by show q.funcs.length≤i3;omega),nZ] at same
   subst same;rw[bd] at qH;subst qH;refine Sx.Go.freeze 10 ?_;refine x1.exit Z tR ?_;exact⟨.back,[.ptr 0 0,.ptr 1 0,.ptr 2 0],[2,3,4],_,_,_,.inr rfl,λh=>(by obtain⟨_,h⟩:=h;cases h),λ_ _ _ _ h=>h,V7 2 cs.length 3 Om.length (λi=>[.int .i64 (cs.getD i bO).1,.int .i64 (cs.getD i bO).2]) (λi=>zN (Om.getD i aB)) (dN fn gu) 0 0,⟨⟨rfl,rfl⟩,⟨rfl,rfl⟩,⟨rfl,rfl⟩,tR⟩,rfl,⟨⟨ah rfl,ah rfl,rfl,tR⟩,⟨rfl,tR⟩,⟨rfl,tR⟩,tR⟩,.inr rfl,⟨rfl,rfl,rfl,tR⟩,tR,rfl⟩
  have h4:i3<q.funcs.length:=by have:=agP h4;omega
  rw[Wd (r:=⟨p,q,acc,fn⟩) h4] at same;have hfs:=hs.fn (Ld h4);obtain⟨q1,q2,q3⟩:=hs.f _ (Ld h4)
  refine x1.xP 12 [] [0,1,2,3,4,5,6,7,8,9] (.fork 10 (.fork 11 .leaf .no) .no)
   ⟨[(2,.ptr 0 0),(3,.ptr 1 0),(4,.ptr 2 0),(5,.ptr 3 0),(6,.ptr 4 0),(7,.ptr 6 0),(16,.d (Wh om)),(137,.d (bW q.funcs)),(138,vi (q.funcs.length:Int)),(139,vi (i3:Int)),(19,vi (i3:Int)),(20,.ptr 11 0),(21,.ptr 12 0)],[(12,.box [vi ((q.funcs.getD i3 bM).params.length:Int),vi ((om.getD i3 qG).vals.length:Int),.aD])],13⟩ Z (by simp only[ak];omega) ay Z (by kernel_rfl) (iU.quiet (by kernel_rfl)) Z (by simp only[ak];omega) (λC2 x2=>?_) ?_
  ·exact⟨x2.back Z tR ⟨x2.back Z tR (Or.inl ⟨⟨⟨Z,Z⟩,⟨Z,Z⟩,⟨Z,Z⟩,⟨Z,Z⟩,⟨Z,Z⟩,⟨Z,Z⟩,av Z,av Z,Z,Z,Z,⟨Z,Z⟩,⟨Z,Z⟩,tR⟩,⟨⟨Z,Z,tR,tR⟩,tR⟩,Z⟩),tR⟩,tR⟩
  refine x1.toLoop Z tR ?_;refine Go.ownB 12 2 61 1 (λi=>[um (([]:List (List Op9)).getD i [])]) Z Z ?_
  obtain⟨LR,hLR⟩:∃LR,mD ⟨p,q,acc,fn⟩ (om.getD i3 qG) (q.funcs.getD i3 bM).blocks []=LR:=⟨_,Z⟩
  have same:bd (bd LR λbs=>.ok ⟨((q.funcs.getD i3 bM).params.length:Int),((om.getD i3 qG).vals.length:Int),bs⟩) (λb=>nZ ⟨p,q,acc,fn⟩ om (q.funcs.drop (i3+1)) (i3+1) (Om++[b]))=BR:=by rw[←hLR];exact same
  refine x1.loop (α:=BlW ⟨p,q,acc,fn⟩ (om.getD i3 qG) (q.funcs.getD i3 bM) LR) (λz=>⟨[(2,.ptr 0 0),(3,.ptr 1 0),(4,.ptr 2 0),(5,.ptr 3 0),(6,.ptr 4 0),(7,.ptr 6 0),(16,.d (Wh om)),(19,vi (i3:Int)),(21,.ptr 12 0),(137,.d (bW q.funcs)),(138,vi (q.funcs.length:Int)),(139,vi (i3:Int)),(155,.d (iA (q.funcs.getD i3 bM).blocks)),(156,vi ((q.funcs.getD i3 bM).blocks.length:Int)),(157,vi (z.j:Int))],[(0,kM p),(1,.box [.d (bX q.arrays),.d (bW q.funcs)]),(2,.box [.d (bT cs),.own 10,vi (dN fn gu)]),(3,.box [vi 0]),(4,.box [vi 0]),(6,lC ⟨p,q,acc,fn⟩),(10,abh Om),(12,.box [vi ((q.funcs.getD i3 bM).params.length:Int),vi ((om.getD i3 qG).vals.length:Int),.own 13]),(13,abg z.acc)],14⟩) (λz=>(q.funcs.getD i3 bM).blocks.length-z.j) ⟨0,[],Nat.zero_le _,rfl,hLR⟩ rfl tR ⟨⟨⟨rfl,rfl⟩,⟨rfl,rfl⟩,⟨rfl,rfl⟩,⟨rfl,rfl⟩,⟨rfl,rfl⟩,⟨rfl,rfl⟩,av rfl,rfl,⟨rfl,rfl⟩,av rfl,rfl,rfl,av rfl,rfl,rfl,tR⟩,⟨bU p,⟨ah rfl,ah rfl,tR⟩,⟨ah rfl,rfl,rfl,tR⟩,⟨rfl,tR⟩,⟨rfl,tR⟩,aU ⟨p,q,acc,fn⟩,⟨rfl,rfl,rfl,λ_ _=>rfl⟩,⟨rfl,rfl,rfl,tR⟩,⟨rfl,rfl,rfl,λ_ h=>absurd h (agV _)⟩,tR⟩,rfl⟩ (λz=>?_)
  obtain⟨j,Wi,hj,hla,Er⟩:=z;change Go C1 _ ⟨[(2,.ptr 0 0),(3,.ptr 1 0),(4,.ptr 2 0),(5,.ptr 3 0),(6,.ptr 4 0),(7,.ptr 6 0),(16,.d (Wh om)),(19,vi (i3:Int)),(21,.ptr 12 0),(137,.d (bW q.funcs)),(138,vi (q.funcs.length:Int)),(139,vi (i3:Int)),(155,.d (iA (q.funcs.getD i3 bM).blocks)),(156,vi ((q.funcs.getD i3 bM).blocks.length:Int)),(157,vi (j:Int))],[(0,kM p),(1,.box [.d (bX q.arrays),.d (bW q.funcs)]),(2,.box [.d (bT cs),.own 10,vi (dN fn gu)]),(3,.box [vi 0]),(4,.box [vi 0]),(6,lC ⟨p,q,acc,fn⟩),(10,abh Om),(12,.box [vi ((q.funcs.getD i3 bM).params.length:Int),vi ((om.getD i3 qG).vals.length:Int),.own 13]),(13,abg Wi)],14⟩ _
  refine x1.cond Z tR (λh5=>?_) (λh5=>?_)
  rotate_left
  ·have h5:j=(q.funcs.getD i3 bM).blocks.length:=by have:=agQ h5;omega
   rw[List.drop_of_length_le (by omega),mD] at Er
   subst Er;rw[bd,bd] at same;refine Sx.Go.freeze 13 ?_;exact x1.back rfl (by simp only[ak,aj,big];omega) ⟨⟨i3+1,Om++[(⟨((q.funcs.getD i3 bM).params.length:Int),((om.getD i3 qG).vals.length:Int),Wi⟩:Bod)],by show i3+1≤q.funcs.length;omega,by simp [hba],same⟩,by show q.funcs.length-(i3+1)<q.funcs.length-i3;omega,⟨⟨rfl,rfl⟩,⟨rfl,rfl⟩,⟨rfl,rfl⟩,⟨rfl,rfl⟩,⟨rfl,rfl⟩,⟨rfl,rfl⟩,av rfl,av rfl,rfl,(show aI (vi ((i3:Int)+1)) (vi ((i3+1:Nat):Int)) by rw[agY];rfl),tR⟩,⟨bU p,⟨ah rfl,ah rfl,tR⟩,⟨ah rfl,rfl,rfl,tR⟩,⟨rfl,tR⟩,⟨rfl,tR⟩,aU ⟨p,q,acc,fn⟩,⟨rfl,rfl,by simp,λj hj=>iD zN 3 (λ_=>rfl) aB Om (⟨((q.funcs.getD i3 bM).params.length:Int),((om.getD i3 qG).vals.length:Int),Wi⟩:Bod) j hj⟩,tR⟩,rfl⟩
  have h5:j<(q.funcs.getD i3 bM).blocks.length:=by have:=agP h5;omega
  rw[Q7 h5] at Er;have hbl:=Oe ⟨p,q,acc,fn⟩ (om.getD i3 qG) ((q.funcs.getD i3 bM).blocks.getD j bN) hz.toPolSz (hs.bk (Ld h4) (adK h5)) hfn0
  obtain⟨V,hV⟩:∃V,sS ⟨p,q,acc,fn⟩ (om.getD i3 qG) ((q.funcs.getD i3 bM).blocks.getD j bN)=V:=⟨_,Z⟩
  rw[hV] at hbl Er;refine x1.code Z (by simp only[ak];omega) ?_
  refine x1.perm [0,1,2,3,4,5,6,7,8,9,10,11,12,14,13] Z ?_
  rcases V with⟨a,e⟩ | y
  ·rw[bd] at Er
   subst Er;rw[bd,bd] at same;subst same;rw[bd] at qH;subst qH;refine x1.qO 14 [6,12,14] [0,2,3,4,5,6,7] (mkO [(1,[]),(8,[]),(9,[8]),(10,[1,9]),(11,[10]),(12,[11])] 7 []) Z tR ay Z (by kernel_rfl) (iU.quiet (by kernel_rfl)) Z (by simp only[ak];omega) (λC2 x2=>?_)
   repeat' first
    | exact True.intro
    | refine And.intro ?_ ?_
    | refine x2.ED [4,5,6] [6] rfl tR rfl hbl ⟨⟨rfl,rfl⟩,⟨rfl,rfl,tR⟩,⟨rfl,ah rfl,rfl,tR⟩,tR⟩ rfl ⟨aU ⟨p,q,acc,fn⟩,tR⟩ ⟨⟨_,rfl⟩,rfl,?_⟩
    | exact⟨.pan wT [(.i64,_),(.i64,_)],[.ptr 0 0,.ptr 1 0,.ptr 2 0],[2,3,4],_,_,_,rfl,λ_=>rfl,λ_ _ _ _ h=>(((h.dim 2).dim 3).dim 4),sU (λi=>[.int .i64 (([]:List Cel).getD i bO).1,.int .i64 (([]:List Cel).getD i bO).2]) (λi=>zN (([]:List Bod).getD i aB)) _ _,⟨⟨rfl,rfl⟩,⟨rfl,rfl⟩,⟨rfl,rfl⟩,tR⟩,rfl,⟨⟨rfl,rfl,rfl,tR⟩,⟨rfl,tR⟩,⟨rfl,tR⟩,tR⟩,.inr rfl,⟨rfl,rfl,rfl,tR⟩,tR,rfl⟩
    | refine x2.back rfl tR ?_
  ·rw[bd] at Er
   refine x1.xP 14 [6,12,14] [0,2,3,4,5,6,7] (mkO [(1,[]),(8,[]),(9,[8]),(10,[1,9]),(11,[10]),(12,[11])] 7 [])
    ⟨[(2,.ptr 0 0),(3,.ptr 1 0),(4,.ptr 2 0),(5,.ptr 3 0),(6,.ptr 4 0),(7,.ptr 6 0),(16,.d (Wh om)),(19,vi (i3:Int)),(21,.ptr 12 0),(137,.d (bW q.funcs)),(138,vi (q.funcs.length:Int)),(139,vi (i3:Int)),(155,.d (iA (q.funcs.getD i3 bM).blocks)),(156,vi ((q.funcs.getD i3 bM).blocks.length:Int)),(157,vi (j:Int))],[(6,lC ⟨p,q,acc,fn⟩),(12,.box [vi ((q.funcs.getD i3 bM).params.length:Int),vi ((om.getD i3 qG).vals.length:Int),.own 14]),(14,abg (Wi++[y]))],15⟩ Z tR ay Z (by kernel_rfl) (iU.quiet (by kernel_rfl)) Z (by simp only[ak];omega) (λC2 x2=>?_) ?_
   ·repeat' first
     | exact True.intro
     | refine And.intro ?_ ?_
     | refine x2.call [6] rfl tR rfl hbl rfl ⟨⟨rfl,rfl⟩,⟨rfl,rfl,tR⟩,⟨rfl,ah rfl,rfl,tR⟩,tR⟩ ⟨aU ⟨p,q,acc,fn⟩,tR⟩ (x2.back rfl tR ?_)
     | refine x2.back rfl tR ?_
     | refine x2.back rfl (by simp only[ak,big];omega) ?_
     | exact Or.inl ⟨⟨⟨rfl,rfl⟩,⟨rfl,rfl⟩,⟨rfl,rfl⟩,⟨rfl,rfl⟩,⟨rfl,rfl⟩,⟨rfl,rfl⟩,av rfl,rfl,⟨rfl,rfl⟩,av rfl,rfl,rfl,av rfl,rfl,rfl,tR⟩,⟨aU ⟨p,q,acc,fn⟩,⟨rfl,rfl,rfl,tR⟩,⟨rfl,rfl,by simp,λk hk=>iD (λl:List Op9=>[um l]) 1 (λ_=>rfl) [] Wi y k hk⟩,tR⟩,rfl⟩
   refine x1.perm [0,1,2,3,4,5,6,7,8,9,10,11,12,14,13] Z ?_;exact x1.back rfl (by simp only[ak,aj];omega) ⟨⟨j+1,Wi++[y],by omega,by simp [hla],Er⟩,by show (q.funcs.getD i3 bM).blocks.length-(j+1)<(q.funcs.getD i3 bM).blocks.length-j;omega,⟨⟨rfl,rfl⟩,⟨rfl,rfl⟩,⟨rfl,rfl⟩,⟨rfl,rfl⟩,⟨rfl,rfl⟩,⟨rfl,rfl⟩,av rfl,rfl,⟨rfl,rfl⟩,av rfl,rfl,rfl,av rfl,rfl,(show aI (vi ((j:Int)+1)) (vi ((j+1:Nat):Int)) by rw[agY];rfl),tR⟩,⟨bU p,⟨ah rfl,ah rfl,tR⟩,⟨ah rfl,rfl,rfl,tR⟩,⟨rfl,tR⟩,⟨rfl,tR⟩,aU ⟨p,q,acc,fn⟩,⟨rfl,rfl,rfl,λ_ _=>rfl⟩,⟨rfl,rfl,rfl,tR⟩,⟨rfl,rfl,rfl,λ_ _=>rfl⟩,tR⟩,rfl⟩
def nmN(c:UInt8)(n:Int):BY:=(⟨#[c]⟩:BY)++bF n
theorem Y6{c:UInt8}{n:Int}(h:aj n):(nmN c n).size≤21:=by
 unfold nmN;have:=xX h;rw[au];show 1+_≤_;omega
theorem kX(c:UInt8)(n:Int)(h:aj n):Pure PG 73 [vs ⟨#[c]⟩,vi n] (vs (nmN c n)) []:=by
 have hs:=xX h;refine aG.mk (cfg 9) aA [] Tryz.func73 Z (by kernel_rfl) Z Z Z ?_
 intro C x;refine x.pure Z tR Z (CZ n h) ⟨Z,tR⟩ ?_;refine x.exit Z ?_ ⟨.inr Z,Z,tR,Z⟩;simp only[ak];show (((1+(bF n).size:Nat)):Int)≤9223372036854775807;omega
def Le(n most:Int):Int:=if (if 0 > most-1 then 0 else most-1)<(if 0 > n then 0 else n) then (if 0 > most-1 then 0 else most-1) else (if 0 > n then 0 else n)
theorem Wj{n most:Int}(h:0≤n)(h2:n<most):Le n most=n:=by
 unfold Le;rw[if_neg (show ¬0 > most-1 by omega),if_neg (show ¬0 > n by omega),if_neg (by omega)]
def nD(n:Int)(most:Nat):Bool:=decide (0≤n)&&decide (n<(most:Int))
theorem Wl(n:Int)(most:Nat)(hm:aj (most:Int)):aG PG 122 1 [vi n,vi (most:Int),.ptr 0 0] [.box [vb true]] (vi (Le n most)) [.box [vb (nD n most)]]:=by
 refine aG.mk (dP 22 1) aA [0] Tryz.func122 Z (by kernel_rfl) Z Z Z ?_
 intro C x;unfold aj at hm;refine x.exit Z (by simp only[ak,aj];omega) ⟨.inr Z,Z,⟨⟨?_,tR⟩,tR⟩,Z⟩
 show aI (vb ((true&&decide (0≤n))&&decide (n<(most:Int)))) (vb (nD n most));rw[Bool.true_and];exact Z
theorem Hg(l:List Chan)(hl:l.length≤1000000000):Pure PG 124 [j4 l] (vSs (l.map (·.1))) []:=by
 refine aG.mk (cfg 18) aA [] Tryz.func124 Z (by kernel_rfl) Z Z Z ?_
 intro C x;refine x.toLoop Z tR ?_;refine Go.own 2 9 1 (λi=>[.str (([]:List BY).getD i .empty)]) Z ?_
 refine x.loop (α:={i:Nat // i≤l.length}) (λy=>⟨[(2,.own 0),(5,j4 l),(6,vi (l.length:Int)),(7,vi (y.1:Int))],[(0,jh ((l.take y.1).map (·.1)))],1⟩) (λy=>l.length-y.1) ⟨0,by omega⟩ Z tR ⟨⟨Z,av Z,Z,Z,tR⟩,⟨⟨Z,Z,Z,λ_ h=>absurd h (agV _)⟩,tR⟩,Z⟩ (λy=>?_)
 obtain⟨i,hi⟩:=y;change Go C _ ⟨[(2,.own 0),(5,j4 l),(6,vi (l.length:Int)),(7,vi (i:Int))],[(0,jh ((l.take i).map (·.1)))],1⟩ _;refine x.cond Z tR (λh1=>?_) (λh1=>?_)
 ·have h1:i<l.length:=by have:=agP h1;omega
  have htl:((l.take i).map (·.1)).length=i:=by rw[List.length_map,List.length_take];omega
  have e:l[i]?=some (l.getD i bf):=by rw[agM,agO h1];rfl
  have et:(l.take (i+1)).map (·.1)=(l.take i).map (·.1)++[(l.getD i bf).1]:=by rw[take_succ e,List.map_append];rfl
  refine x.back Z (by simp only[ak,aj,big,htl];omega) ⟨⟨i+1,by omega⟩,by show l.length-(i+1)<l.length-i;omega,⟨Z,av Z,Z,(show aI (vi ((i:Int)+1)) (vi ((i+1:Nat):Int)) by rw[agY];rfl),tR⟩,⟨⟨Z,Z,by rw[et];simp,λj hj=>?_⟩,tR⟩,Z⟩
  rw[et];exact ji _ _ j hj
 ·have h1:i=l.length:=by have:=agQ h1;omega
  subst h1;rw[List.take_length];refine Sx.Go.freeze 0 ?_;exact x.exit Z tR ⟨.inr Z,av Z,tR,Z⟩
def iY(p:Pol)(main:Int)(x:Op9):BY×Bool:=
 if x.kind=4∨x.kind=5∨x.kind=6 then (nmN 97 x.ref,true)
 else if x.kind=7 then (if x.ref=main then gu else nmN 102 x.ref,true)
 else if x.kind=8 then (if nD x.ref p.ins.length=true then (p.ins.getD x.ref.toNat bf).1 else .empty,nD x.ref p.ins.length)
 else if x.kind=9 then (if nD x.ref p.outs.length=true then (p.outs.getD x.ref.toNat bf).1 else .empty,nD x.ref p.outs.length)
 else if x.kind=10 then (if nD x.ref p.lev.length=true then p.lev.getD x.ref.toNat .empty else .empty,nD x.ref p.lev.length)
 else if x.kind=11∨x.kind=12 then (nmN 98 x.ref,true)
 else (.empty,true)
def bg(p:Pol)(main:Int)(x:Op9):Ins:=⟨x.kind,x.op,if 0≤x.dst then nmN 118 x.dst else .empty,(iY p main x).1,if x.kind=12 then nmN 98 x.alt else .empty,x.args.map (nmN 118),x.frm.map (nmN 98),x.num,x.at_⟩
structure abj(x:Op9):Prop where
 a:x.args.length*16≤140737488355328
 f:x.frm.length*16≤140737488355328
 ai:∀n∈x.args,aj n
 fi:∀n∈x.frm,aj n
 dst:aj x.dst
 ref:aj x.ref
 alt:aj x.alt
abbrev opC(x:Op9):Ch:=.box [.d (.int .u8 x.kind),.d (.int .u8 x.op),vi x.dst,vi x.ref,vi x.alt,.d (dR x.args),.d (dR x.frm),vi x.num,vi x.at_]
theorem gM(x:Op9):mH (opC x) (opC x):=⟨Z,Z,Z,Z,Z,ah Z,ah Z,Z,Z,tR⟩
theorem zQ(x0:Op9)(d a ar:BY)(az fz:List BY)(l:List BY)(hl:aj (l.length:Int)):aG PG 123 4 [vSs l,.ptr 0 0,.ptr 1 0,.ptr 2 0,.ptr 3 0] [.box [.fn 122 [.ptr 2 0]],opC x0,.box [vb true],.box [.d (.int .u8 x0.kind),.d (.int .u8 x0.op),vs d,vs .empty,vs a,.d (bE az),.d (bE fz),vi x0.num,vi x0.at_]] (.tup []) [.box [.fn 122 [.ptr 2 0]],opC x0,.box [vb (nD x0.ref l.length)],.box [.d (.int .u8 x0.kind),.d (.int .u8 x0.op),vs d,vs (if nD x0.ref l.length=true then l.getD x0.ref.toNat .empty else .empty),vs a,.d (bE az),.d (bE fz),vi x0.num,vi x0.at_]]:=by
 refine aG.mk (dP 19 4) aA [0,1,2,3] Tryz.func123 Z (by kernel_rfl) Z Z Z ?_
 intro C x;refine x.call [2] Z tR Z (Wl x0.ref l.length hl) Z ⟨Z,Z,⟨Z,Z⟩,tR⟩ ⟨⟨Z,tR⟩,tR⟩ ?_;refine x.cond Z tR (λh=>?_) (λh=>?_)
 ·have h:nD x0.ref l.length=true:=h
  have hb:0≤x0.ref∧x0.ref<(l.length:Int):=by
   unfold nD at h;rw[agN,agT,agT] at h;exact h
  have hcl:=Wj hb.1 hb.2;refine x.exit Z (by simp only[ak,hcl];omega) ⟨.inl Z,tR,⟨⟨Z,tR⟩,gM x0,⟨Z,tR⟩,⟨Z,Z,Z,?_,Z,ah Z,ah Z,Z,Z,tR⟩,tR⟩,Z⟩
  show aI (vs (l.getD (Le x0.ref l.length).toNat .empty)) (vs _);rw[hcl,if_pos h];exact Z
 ·have h:nD x0.ref l.length=false:=h
  refine x.exit Z tR ⟨.inl Z,tR,⟨⟨Z,tR⟩,gM x0,⟨Z,tR⟩,⟨Z,Z,Z,?_,Z,ah Z,ah Z,Z,Z,tR⟩,tR⟩,Z⟩;show aI (vs .empty) (vs _);rw[h,if_neg (by simp)];exact Z
theorem Bn(l:List Chan)(i:Nat):(l.map (·.1)).getD i ByteArray.empty=(l.getD i bf).1:=by
 rw[agM,agM,List.getElem?_map]
 cases l[i]?<;>rfl
theorem Oo(p:Pol)(c:Cod)(x0:Op9)(hz:PolSz p)(hp:p.ins.length≤1000000000∧p.outs.length≤1000000000)(hx:abj x0):Pure PG 74 [Bf p,rO c,opW x0] (.tup [xD (bg p c.main x0),vb (iY p c.main x0).2]) []:=by
 have hxa:=hx.a;have hxf:=hx.f;obtain⟨dS,hdS⟩:∃d,(if 0≤x0.dst then nmN 118 x0.dst else .empty)=d:=⟨_,Z⟩
 unfold bg;rw[hdS];obtain⟨i1,i2,i3,i4⟩:=sP hz;refine aG.mk (cfg 125) aA [] Tryz.func74 Z (by kernel_rfl) Z Z Z ?_
 intro C x;refine x.ite (α:=Unit) (λ_=>⟨[(3,.ptr 0 0),(4,.ptr 1 0),(5,.ptr 2 0),(6,.ptr 3 0),(8,.ptr 4 0),(9,.ptr 5 0),(10,.ptr 6 0)],[(0,kM p),(1,.box [.d (bT c.arrays),.d (bP c.funcs),vi c.main]),(2,opC x0),(3,.box [.dead,.dead,.dead,.dead,.dead,.dead,.dead,.dead,.dead]),(4,.box [.d (.int .u8 x0.kind),.d (.int .u8 x0.op),vs dS,vs .empty,vs .empty,.aD,.aD,vi x0.num,vi x0.at_]),(5,.box [vb true]),(6,.box [.fn 122 [.ptr 5 0]])],7⟩) Z tR (λh=>?_) (λh=>?_) (λ_=>?_)
 ·have h:0≤x0.dst:=agP h
  rw[if_pos h] at hdS;subst hdS;refine x.pure Z tR Z (kX 118 x0.dst hx.dst) ⟨Z,Z,tR⟩ ?_;exact x.back Z tR ⟨(),⟨⟨Z,Z⟩,⟨Z,Z⟩,⟨Z,Z⟩,⟨Z,Z⟩,⟨Z,Z⟩,⟨Z,Z⟩,⟨Z,Z⟩,tR⟩,⟨bU p,⟨ah Z,ah Z,Z,tR⟩,gM x0,⟨Z,Z,Z,Z,Z,Z,Z,Z,Z,tR⟩,⟨Z,Z,Z,Z,Z,tR,tR,Z,Z,tR⟩,⟨Z,tR⟩,⟨Z,tR⟩,tR⟩,Z⟩
 ·have h:¬0≤x0.dst:=agQ h
  rw[if_neg h] at hdS;subst hdS;exact x.back Z tR ⟨(),⟨⟨Z,Z⟩,⟨Z,Z⟩,⟨Z,Z⟩,⟨Z,Z⟩,⟨Z,Z⟩,⟨Z,Z⟩,⟨Z,Z⟩,tR⟩,⟨bU p,⟨ah Z,ah Z,Z,tR⟩,gM x0,⟨Z,Z,Z,Z,Z,Z,Z,Z,Z,tR⟩,⟨Z,Z,Z,Z,Z,tR,tR,Z,Z,tR⟩,⟨Z,tR⟩,⟨Z,tR⟩,tR⟩,Z⟩
 change Go C _ ⟨[(3,.ptr 0 0),(4,.ptr 1 0),(5,.ptr 2 0),(6,.ptr 3 0),(8,.ptr 4 0),(9,.ptr 5 0),(10,.ptr 6 0)],[(0,kM p),(1,.box [.d (bT c.arrays),.d (bP c.funcs),vi c.main]),(2,opC x0),(3,.box [.dead,.dead,.dead,.dead,.dead,.dead,.dead,.dead,.dead]),(4,.box [.d (.int .u8 x0.kind),.d (.int .u8 x0.op),vs dS,vs .empty,vs .empty,.aD,.aD,vi x0.num,vi x0.at_]),(5,.box [vb true]),(6,.box [.fn 122 [.ptr 5 0]])],7⟩ _
 refine x.toLoop Z tR ?_;refine Go.ownB 4 5 9 1 (λi=>[.str (([]:List BY).getD i .empty)]) Z Z ?_
 refine x.loop (α:={i:Nat // i≤x0.args.length}) (λy=>⟨[(3,.ptr 0 0),(4,.ptr 1 0),(5,.ptr 2 0),(6,.ptr 3 0),(8,.ptr 4 0),(9,.ptr 5 0),(10,.ptr 6 0),(35,.d (dR x0.args)),(36,vi (x0.args.length:Int)),(37,vi (y.1:Int))],[(0,kM p),(1,.box [.d (bT c.arrays),.d (bP c.funcs),vi c.main]),(2,opC x0),(3,.box [.dead,.dead,.dead,.dead,.dead,.dead,.dead,.dead,.dead]),(4,.box [.d (.int .u8 x0.kind),.d (.int .u8 x0.op),vs dS,vs .empty,vs .empty,.own 7,.aD,vi x0.num,vi x0.at_]),(5,.box [vb true]),(6,.box [.fn 122 [.ptr 5 0]]),(7,jh ((x0.args.take y.1).map (nmN 118)))],8⟩) (λy=>x0.args.length-y.1) ⟨0,by omega⟩ Z tR ⟨⟨⟨Z,Z⟩,⟨Z,Z⟩,⟨Z,Z⟩,⟨Z,Z⟩,⟨Z,Z⟩,⟨Z,Z⟩,⟨Z,Z⟩,av Z,Z,Z,tR⟩,⟨bU p,⟨ah Z,ah Z,Z,tR⟩,gM x0,⟨Z,Z,Z,Z,Z,Z,Z,Z,Z,tR⟩,⟨Z,Z,Z,Z,Z,Z,tR,Z,Z,tR⟩,⟨Z,tR⟩,⟨Z,tR⟩,⟨Z,Z,Z,λ_ h=>absurd h (agV _)⟩,tR⟩,Z⟩ (λy=>?_)
 obtain⟨i,hi⟩:=y;change Go C _ ⟨[(3,.ptr 0 0),(4,.ptr 1 0),(5,.ptr 2 0),(6,.ptr 3 0),(8,.ptr 4 0),(9,.ptr 5 0),(10,.ptr 6 0),(35,.d (dR x0.args)),(36,vi (x0.args.length:Int)),(37,vi (i:Int))],[(0,kM p),(1,.box [.d (bT c.arrays),.d (bP c.funcs),vi c.main]),(2,opC x0),(3,.box [.dead,.dead,.dead,.dead,.dead,.dead,.dead,.dead,.dead]),(4,.box [.d (.int .u8 x0.kind),.d (.int .u8 x0.op),vs dS,vs .empty,vs .empty,.own 7,.aD,vi x0.num,vi x0.at_]),(5,.box [vb true]),(6,.box [.fn 122 [.ptr 5 0]]),(7,jh ((x0.args.take i).map (nmN 118)))],8⟩ _
 refine x.cond Z tR (λh1=>?_) (λh1=>?_)
 ·have h1:i<x0.args.length:=by have:=agP h1;omega
  have htl:((x0.args.take i).map (nmN 118)).length=i:=by rw[List.length_map,List.length_take];omega
  have e:x0.args[i]?=some (x0.args.getD i 0):=by rw[agM,agO h1];rfl
  have et:(x0.args.take (i+1)).map (nmN 118)=(x0.args.take i).map (nmN 118)++[nmN 118 (x0.args.getD i 0)]:=by rw[take_succ e,List.map_append];rfl
  have hin:aj (x0.args.getD i 0):=hx.ai _ (by rw[agM,agO h1];exact List.getElem_mem h1)
  refine x.KO 7 [4,7] [0,2] (mkO [(1,[]),(3,[]),(4,[3]),(5,[1,4]),(6,[5]),(7,[6])] 7 [])
   ⟨[(3,.ptr 0 0),(4,.ptr 1 0),(5,.ptr 2 0),(6,.ptr 3 0),(8,.ptr 4 0),(9,.ptr 5 0),(10,.ptr 6 0),(35,.d (dR x0.args)),(36,vi (x0.args.length:Int)),(37,vi (i:Int))],[(4,.box [.d (.int .u8 x0.kind),.d (.int .u8 x0.op),vs dS,vs .empty,vs .empty,.own 7,.aD,vi x0.num,vi x0.at_]),(7,jh ((x0.args.take (i+1)).map (nmN 118)))],8⟩ Z (by simp only[ak];omega) ay Z (by kernel_rfl) Ret.bG Z tR (λC2 x2=>?_) ?_
  ·repeat' first
    | exact True.intro
    | refine And.intro ?_ ?_
    | refine x2.pure rfl tR rfl (kX 118 (x0.args.getD i 0) hin) ⟨rfl,rfl,tR⟩ (x2.back rfl tR ?_)
    | refine x2.back rfl tR ?_
    | refine x2.back rfl (by simp only[ak,big,htl];omega) ?_
    | exact Or.inl ⟨⟨⟨rfl,rfl⟩,⟨rfl,rfl⟩,⟨rfl,rfl⟩,⟨rfl,rfl⟩,⟨rfl,rfl⟩,⟨rfl,rfl⟩,⟨rfl,rfl⟩,av rfl,rfl,rfl,tR⟩,⟨⟨rfl,rfl,rfl,rfl,rfl,rfl,tR,rfl,rfl,tR⟩,⟨rfl,rfl,by rw[et];simp,λj hj=>by rw[et];exact ji _ _ j hj⟩,tR⟩,rfl⟩
  exact x.back Z (by simp only[ak,aj];omega) ⟨⟨i+1,by omega⟩,by show x0.args.length-(i+1)<x0.args.length-i;omega,⟨⟨Z,Z⟩,⟨Z,Z⟩,⟨Z,Z⟩,⟨Z,Z⟩,⟨Z,Z⟩,⟨Z,Z⟩,⟨Z,Z⟩,av Z,Z,(show aI (vi ((i:Int)+1)) (vi ((i+1:Nat):Int)) by rw[agY];rfl),tR⟩,⟨bU p,⟨ah Z,ah Z,Z,tR⟩,gM x0,⟨Z,Z,Z,Z,Z,Z,Z,Z,Z,tR⟩,⟨Z,Z,Z,Z,Z,Z,tR,Z,Z,tR⟩,⟨Z,tR⟩,⟨Z,tR⟩,⟨Z,Z,Z,λ_ _=>rfl⟩,tR⟩,Z⟩
 have h1:i=x0.args.length:=by have:=agQ h1;omega
 subst h1;rw[List.take_length];refine Sx.Go.freeze 7 ?_;refine x.toLoop Z tR ?_;refine Go.ownB 4 6 9 1 (λi=>[.str (([]:List BY).getD i .empty)]) Z Z ?_
 refine x.loop (α:={i:Nat // i≤x0.frm.length}) (λy=>⟨[(3,.ptr 0 0),(4,.ptr 1 0),(5,.ptr 2 0),(6,.ptr 3 0),(8,.ptr 4 0),(9,.ptr 5 0),(10,.ptr 6 0),(50,.d (dR x0.frm)),(51,vi (x0.frm.length:Int)),(52,vi (y.1:Int))],[(0,kM p),(1,.box [.d (bT c.arrays),.d (bP c.funcs),vi c.main]),(2,opC x0),(3,.box [.dead,.dead,.dead,.dead,.dead,.dead,.dead,.dead,.dead]),(4,.box [.d (.int .u8 x0.kind),.d (.int .u8 x0.op),vs dS,vs .empty,vs .empty,.d (bE (x0.args.map (nmN 118))),.own 8,vi x0.num,vi x0.at_]),(5,.box [vb true]),(6,.box [.fn 122 [.ptr 5 0]]),(8,jh ((x0.frm.take y.1).map (nmN 98)))],9⟩) (λy=>x0.frm.length-y.1) ⟨0,by omega⟩ Z tR ⟨⟨⟨Z,Z⟩,⟨Z,Z⟩,⟨Z,Z⟩,⟨Z,Z⟩,⟨Z,Z⟩,⟨Z,Z⟩,⟨Z,Z⟩,av Z,Z,Z,tR⟩,⟨bU p,⟨ah Z,ah Z,Z,tR⟩,gM x0,⟨Z,Z,Z,Z,Z,Z,Z,Z,Z,tR⟩,⟨Z,Z,Z,Z,Z,ah Z,Z,Z,Z,tR⟩,⟨Z,tR⟩,⟨Z,tR⟩,⟨Z,Z,Z,λ_ h=>absurd h (agV _)⟩,tR⟩,Z⟩ (λy=>?_)
 obtain⟨i,hi⟩:=y;change Go C _ ⟨[(3,.ptr 0 0),(4,.ptr 1 0),(5,.ptr 2 0),(6,.ptr 3 0),(8,.ptr 4 0),(9,.ptr 5 0),(10,.ptr 6 0),(50,.d (dR x0.frm)),(51,vi (x0.frm.length:Int)),(52,vi (i:Int))],[(0,kM p),(1,.box [.d (bT c.arrays),.d (bP c.funcs),vi c.main]),(2,opC x0),(3,.box [.dead,.dead,.dead,.dead,.dead,.dead,.dead,.dead,.dead]),(4,.box [.d (.int .u8 x0.kind),.d (.int .u8 x0.op),vs dS,vs .empty,vs .empty,.d (bE (x0.args.map (nmN 118))),.own 8,vi x0.num,vi x0.at_]),(5,.box [vb true]),(6,.box [.fn 122 [.ptr 5 0]]),(8,jh ((x0.frm.take i).map (nmN 98)))],9⟩ _
 refine x.cond Z tR (λh1=>?_) (λh1=>?_)
 ·have h1:i<x0.frm.length:=by have:=agP h1;omega
  have htl:((x0.frm.take i).map (nmN 98)).length=i:=by rw[List.length_map,List.length_take];omega
  have e:x0.frm[i]?=some (x0.frm.getD i 0):=by rw[agM,agO h1];rfl
  have et:(x0.frm.take (i+1)).map (nmN 98)=(x0.frm.take i).map (nmN 98)++[nmN 98 (x0.frm.getD i 0)]:=by rw[take_succ e,List.map_append];rfl
  have hin:aj (x0.frm.getD i 0):=hx.fi _ (by rw[agM,agO h1];exact List.getElem_mem h1)
  refine x.KO 7 [4,8] [0,2] (mkO [(1,[]),(3,[]),(4,[3]),(5,[1,4]),(6,[5]),(7,[6])] 7 [])
   ⟨[(3,.ptr 0 0),(4,.ptr 1 0),(5,.ptr 2 0),(6,.ptr 3 0),(8,.ptr 4 0),(9,.ptr 5 0),(10,.ptr 6 0),(50,.d (dR x0.frm)),(51,vi (x0.frm.length:Int)),(52,vi (i:Int))],[(4,.box [.d (.int .u8 x0.kind),.d (.int .u8 x0.op),vs dS,vs .empty,vs .empty,.d (bE (x0.args.map (nmN 118))),.own 8,vi x0.num,vi x0.at_]),(8,jh ((x0.frm.take (i+1)).map (nmN 98)))],9⟩ Z (by simp only[ak];omega) ay Z (by kernel_rfl) Ret.bG Z tR (λC2 x2=>?_) ?_
  ·repeat' first
    | exact True.intro
    | refine And.intro ?_ ?_
    | refine x2.pure rfl tR rfl (kX 98 (x0.frm.getD i 0) hin) ⟨rfl,rfl,tR⟩ (x2.back rfl tR ?_)
    | refine x2.back rfl tR ?_
    | refine x2.back rfl (by simp only[ak,big,htl];omega) ?_
    | exact Or.inl ⟨⟨⟨rfl,rfl⟩,⟨rfl,rfl⟩,⟨rfl,rfl⟩,⟨rfl,rfl⟩,⟨rfl,rfl⟩,⟨rfl,rfl⟩,⟨rfl,rfl⟩,av rfl,rfl,rfl,tR⟩,⟨⟨rfl,rfl,rfl,rfl,rfl,ah rfl,rfl,rfl,rfl,tR⟩,⟨rfl,rfl,by rw[et];simp,λj hj=>by rw[et];exact ji _ _ j hj⟩,tR⟩,rfl⟩
  exact x.back Z (by simp only[ak,aj];omega) ⟨⟨i+1,by omega⟩,by show x0.frm.length-(i+1)<x0.frm.length-i;omega,⟨⟨Z,Z⟩,⟨Z,Z⟩,⟨Z,Z⟩,⟨Z,Z⟩,⟨Z,Z⟩,⟨Z,Z⟩,⟨Z,Z⟩,av Z,Z,(show aI (vi ((i:Int)+1)) (vi ((i+1:Nat):Int)) by rw[agY];rfl),tR⟩,⟨bU p,⟨ah Z,ah Z,Z,tR⟩,gM x0,⟨Z,Z,Z,Z,Z,Z,Z,Z,Z,tR⟩,⟨Z,Z,Z,Z,Z,ah Z,Z,Z,Z,tR⟩,⟨Z,tR⟩,⟨Z,tR⟩,⟨Z,Z,Z,λ_ _=>rfl⟩,tR⟩,Z⟩
 have h1:i=x0.frm.length:=by have:=agQ h1;omega
 subst h1;rw[List.take_length];refine Sx.Go.freeze 8 ?_;have hr:iY p c.main x0=iY p c.main x0:=rfl
 conv at hr=>rhs;unfold iY
 refine x.ite (α:=Unit) (λ_=>⟨[(5,.ptr 2 0),(6,.ptr 3 0),(8,.ptr 4 0),(9,.ptr 5 0),(10,.ptr 6 0),(3,.ptr 0 0),(4,.ptr 1 0),(15,.fn 123 [.ptr 6 0,.ptr 2 0,.ptr 5 0,.ptr 4 0]),(16,.fn 124 []),(66,.d (.int .u8 x0.kind)),(67,vb (decide (x0.kind=4∨x0.kind=5∨x0.kind=6)))],[(0,kM p),(1,.box [.d (bT c.arrays),.d (bP c.funcs),vi c.main]),(2,opC x0),(3,.box [.dead,.dead,.dead,.dead,.dead,.dead,.dead,.dead,.dead]),(4,.box [.d (.int .u8 x0.kind),.d (.int .u8 x0.op),vs dS,vs .empty,vs .empty,.d (bE (x0.args.map (nmN 118))),.d (bE (x0.frm.map (nmN 98))),vi x0.num,vi x0.at_]),(5,.box [vb true]),(6,.box [.fn 122 [.ptr 5 0]])],9⟩) Z tR (λh=>?_) (λh=>?_) (λ_=>?_)
 ·have h:x0.kind=4:=agP h
  refine x.back Z tR ⟨(),⟨⟨Z,Z⟩,⟨Z,Z⟩,⟨Z,Z⟩,⟨Z,Z⟩,⟨Z,Z⟩,⟨Z,Z⟩,⟨Z,Z⟩,Z,Z,Z,?_,tR⟩,⟨bU p,⟨ah Z,ah Z,Z,tR⟩,gM x0,⟨Z,Z,Z,Z,Z,Z,Z,Z,Z,tR⟩,⟨Z,Z,Z,Z,Z,ah Z,ah Z,Z,Z,tR⟩,⟨Z,tR⟩,⟨Z,tR⟩,tR⟩,Z⟩;show aI (vb (decide (x0.kind=4))) (vb _);rw[decide_eq_true h,decide_eq_true (.inl h)];exact Z
 ·have h:¬x0.kind=4:=agQ h
  refine x.cond Z tR (λh5=>?_) (λh5=>?_)
  ·have h5:x0.kind=5:=agP h5
   refine x.back Z tR ⟨(),⟨⟨Z,Z⟩,⟨Z,Z⟩,⟨Z,Z⟩,⟨Z,Z⟩,⟨Z,Z⟩,⟨Z,Z⟩,⟨Z,Z⟩,Z,Z,Z,?_,tR⟩,⟨bU p,⟨ah Z,ah Z,Z,tR⟩,gM x0,⟨Z,Z,Z,Z,Z,Z,Z,Z,Z,tR⟩,⟨Z,Z,Z,Z,Z,ah Z,ah Z,Z,Z,tR⟩,⟨Z,tR⟩,⟨Z,tR⟩,tR⟩,Z⟩;show aI (vb (decide (x0.kind=5))) (vb _);rw[decide_eq_true h5,decide_eq_true (.inr (.inl h5))];exact Z
  ·have h5:¬x0.kind=5:=agQ h5
   refine x.back Z tR ⟨(),⟨⟨Z,Z⟩,⟨Z,Z⟩,⟨Z,Z⟩,⟨Z,Z⟩,⟨Z,Z⟩,⟨Z,Z⟩,⟨Z,Z⟩,Z,Z,Z,?_,tR⟩,⟨bU p,⟨ah Z,ah Z,Z,tR⟩,gM x0,⟨Z,Z,Z,Z,Z,Z,Z,Z,Z,tR⟩,⟨Z,Z,Z,Z,Z,ah Z,ah Z,Z,Z,tR⟩,⟨Z,tR⟩,⟨Z,tR⟩,tR⟩,Z⟩;show aI (vb (decide (x0.kind=6))) (vb _);rw[show decide (x0.kind=4∨x0.kind=5∨x0.kind=6)=decide (x0.kind=6) by rw[decide_eq_decide];omega];exact Z
 change Go C _ ⟨[(5,.ptr 2 0),(6,.ptr 3 0),(8,.ptr 4 0),(9,.ptr 5 0),(10,.ptr 6 0),(3,.ptr 0 0),(4,.ptr 1 0),(15,.fn 123 [.ptr 6 0,.ptr 2 0,.ptr 5 0,.ptr 4 0]),(16,.fn 124 []),(66,.d (.int .u8 x0.kind)),(67,vb (decide (x0.kind=4∨x0.kind=5∨x0.kind=6)))],[(0,kM p),(1,.box [.d (bT c.arrays),.d (bP c.funcs),vi c.main]),(2,opC x0),(3,.box [.dead,.dead,.dead,.dead,.dead,.dead,.dead,.dead,.dead]),(4,.box [.d (.int .u8 x0.kind),.d (.int .u8 x0.op),vs dS,vs .empty,vs .empty,.d (bE (x0.args.map (nmN 118))),.d (bE (x0.frm.map (nmN 98))),vi x0.num,vi x0.at_]),(5,.box [vb true]),(6,.box [.fn 122 [.ptr 5 0]])],9⟩ _
 refine x.ite (α:=Unit) (λ_=>⟨[(5,.ptr 2 0),(6,.ptr 3 0),(8,.ptr 4 0),(9,.ptr 5 0)],[(2,opC x0),(3,.box [.dead,.dead,.dead,.dead,.dead,.dead,.dead,.dead,.dead]),(4,.box [.d (.int .u8 x0.kind),.d (.int .u8 x0.op),vs dS,vs (iY p c.main x0).1,vs .empty,.d (bE (x0.args.map (nmN 118))),.d (bE (x0.frm.map (nmN 98))),vi x0.num,vi x0.at_]),(5,.box [vb (iY p c.main x0).2])],9⟩) Z tR (λh=>?_) (λh=>?_) (λ_=>?_)
 ·have h:x0.kind=4∨x0.kind=5∨x0.kind=6:=agP h
  rw[if_pos h] at hr;refine x.pure Z tR Z (kX 97 x0.ref hx.ref) ⟨Z,Z,tR⟩ ?_;refine x.back Z tR ⟨(),⟨⟨Z,Z⟩,⟨Z,Z⟩,⟨Z,Z⟩,⟨Z,Z⟩,tR⟩,⟨gM x0,⟨Z,Z,Z,Z,Z,Z,Z,Z,Z,tR⟩,⟨Z,Z,Z,?_,Z,ah Z,ah Z,Z,Z,tR⟩,⟨?_,tR⟩,tR⟩,Z⟩
  ·show aI (vs _) (vs (iY p c.main x0).1)
   rw[hr];exact Z
  ·show aI (vb _) (vb (iY p c.main x0).2)
   rw[hr];exact Z
 ·have h4:¬(x0.kind=4∨x0.kind=5∨x0.kind=6):=agQ h
  rw[if_neg h4] at hr;refine x.cond Z tR (λh=>?_) (λh=>?_)
  ·have h:x0.kind=7:=agP h
   rw[if_pos h] at hr;refine x.pure Z tR Z (kX 102 x0.ref hx.ref) ⟨Z,Z,tR⟩ ?_;refine x.cond Z tR (λh7=>?_) (λh7=>?_)
   ·have h7:x0.ref=c.main:=agP h7
    rw[if_pos h7] at hr;refine x.back Z tR ⟨(),⟨⟨Z,Z⟩,⟨Z,Z⟩,⟨Z,Z⟩,⟨Z,Z⟩,tR⟩,⟨gM x0,⟨Z,Z,Z,Z,Z,Z,Z,Z,Z,tR⟩,⟨Z,Z,Z,?_,Z,ah Z,ah Z,Z,Z,tR⟩,⟨?_,tR⟩,tR⟩,Z⟩
    ·show aI (vs _) (vs (iY p c.main x0).1)
     rw[hr];exact Z
    ·show aI (vb _) (vb (iY p c.main x0).2)
     rw[hr];exact Z
   ·have h7:¬x0.ref=c.main:=agQ h7
    rw[if_neg h7] at hr;refine x.back Z tR ⟨(),⟨⟨Z,Z⟩,⟨Z,Z⟩,⟨Z,Z⟩,⟨Z,Z⟩,tR⟩,⟨gM x0,⟨Z,Z,Z,Z,Z,Z,Z,Z,Z,tR⟩,⟨Z,Z,Z,?_,Z,ah Z,ah Z,Z,Z,tR⟩,⟨?_,tR⟩,tR⟩,Z⟩
    ·show aI (vs _) (vs (iY p c.main x0).1)
     rw[hr];exact Z
    ·show aI (vb _) (vb (iY p c.main x0).2)
     rw[hr];exact Z
  have h7:¬x0.kind=7:=agQ h;rw[if_neg h7] at hr;refine x.cond Z tR (λh=>?_) (λh=>?_)
  ·have h:x0.kind=8:=agP h
   rw[if_pos h] at hr;refine x.pure Z tR Z (Hg p.ins hp.1) ⟨av Z,tR⟩ ?_;refine x.call [6,2,5,4] Z tR Z (zQ x0 dS .empty .empty _ _ (p.ins.map (·.1)) (by rw[List.length_map];exact i3)) Z ⟨av Z,⟨Z,Z⟩,⟨Z,Z⟩,⟨Z,Z⟩,⟨Z,Z⟩,tR⟩ ⟨⟨Z,tR⟩,gM x0,⟨Z,tR⟩,⟨Z,Z,Z,Z,Z,ah Z,ah Z,Z,Z,tR⟩,tR⟩ ?_
   have hm:(if nD x0.ref (p.ins.map (·.1)).length=true then (p.ins.map (·.1)).getD x0.ref.toNat .empty else ByteArray.empty)=(if nD x0.ref p.ins.length=true then (p.ins.getD x0.ref.toNat bf).1 else .empty):=by rw[List.length_map,Bn]
   refine x.back Z tR ⟨(),⟨⟨Z,Z⟩,⟨Z,Z⟩,⟨Z,Z⟩,⟨Z,Z⟩,tR⟩,⟨gM x0,⟨Z,Z,Z,Z,Z,Z,Z,Z,Z,tR⟩,⟨Z,Z,Z,?_,Z,ah Z,ah Z,Z,Z,tR⟩,⟨?_,tR⟩,tR⟩,Z⟩
   ·show aI (vs (if nD x0.ref (p.ins.map (·.1)).length=true then (p.ins.map (·.1)).getD x0.ref.toNat .empty else ByteArray.empty)) (vs (iY p c.main x0).1)
    rw[hr,hm];exact Z
   ·show aI (vb (nD x0.ref (p.ins.map (·.1)).length)) (vb (iY p c.main x0).2)
    rw[hr,List.length_map];exact Z
  have h8:¬x0.kind=8:=agQ h;rw[if_neg h8] at hr;refine x.cond Z tR (λh=>?_) (λh=>?_)
  ·have h:x0.kind=9:=agP h
   rw[if_pos h] at hr;refine x.pure Z tR Z (Hg p.outs hp.2) ⟨av Z,tR⟩ ?_;refine x.call [6,2,5,4] Z tR Z (zQ x0 dS .empty .empty _ _ (p.outs.map (·.1)) (by rw[List.length_map];exact i4)) Z ⟨av Z,⟨Z,Z⟩,⟨Z,Z⟩,⟨Z,Z⟩,⟨Z,Z⟩,tR⟩ ⟨⟨Z,tR⟩,gM x0,⟨Z,tR⟩,⟨Z,Z,Z,Z,Z,ah Z,ah Z,Z,Z,tR⟩,tR⟩ ?_
   have hm:(if nD x0.ref (p.outs.map (·.1)).length=true then (p.outs.map (·.1)).getD x0.ref.toNat .empty else ByteArray.empty)=(if nD x0.ref p.outs.length=true then (p.outs.getD x0.ref.toNat bf).1 else .empty):=by rw[List.length_map,Bn]
   refine x.back Z tR ⟨(),⟨⟨Z,Z⟩,⟨Z,Z⟩,⟨Z,Z⟩,⟨Z,Z⟩,tR⟩,⟨gM x0,⟨Z,Z,Z,Z,Z,Z,Z,Z,Z,tR⟩,⟨Z,Z,Z,?_,Z,ah Z,ah Z,Z,Z,tR⟩,⟨?_,tR⟩,tR⟩,Z⟩
   ·show aI (vs (if nD x0.ref (p.outs.map (·.1)).length=true then (p.outs.map (·.1)).getD x0.ref.toNat .empty else ByteArray.empty)) (vs (iY p c.main x0).1)
    rw[hr,hm];exact Z
   ·show aI (vb (nD x0.ref (p.outs.map (·.1)).length)) (vb (iY p c.main x0).2)
    rw[hr,List.length_map];exact Z
  have h9:¬x0.kind=9:=agQ h;rw[if_neg h9] at hr;refine x.cond Z tR (λh=>?_) (λh=>?_)
  ·have h:x0.kind=10:=agP h
   rw[if_pos h] at hr;refine x.call [6,2,5,4] Z tR Z (zQ x0 dS .empty .empty _ _ p.lev i1) Z ⟨av Z,⟨Z,Z⟩,⟨Z,Z⟩,⟨Z,Z⟩,⟨Z,Z⟩,tR⟩ ⟨⟨Z,tR⟩,gM x0,⟨Z,tR⟩,⟨Z,Z,Z,Z,Z,ah Z,ah Z,Z,Z,tR⟩,tR⟩ ?_;refine x.back Z tR ⟨(),⟨⟨Z,Z⟩,⟨Z,Z⟩,⟨Z,Z⟩,⟨Z,Z⟩,tR⟩,⟨gM x0,⟨Z,Z,Z,Z,Z,Z,Z,Z,Z,tR⟩,⟨Z,Z,Z,?_,Z,ah Z,ah Z,Z,Z,tR⟩,⟨?_,tR⟩,tR⟩,Z⟩
   ·show aI (vs _) (vs (iY p c.main x0).1)
    rw[hr];exact Z
   ·show aI (vb _) (vb (iY p c.main x0).2)
    rw[hr];exact Z
  have h10:¬x0.kind=10:=agQ h;rw[if_neg h10] at hr;refine x.cond Z tR (λh=>?_) (λh=>?_)
  ·have h:x0.kind=11:=agP h
   rw[if_pos (.inl h)] at hr;refine x.cond Z tR (λh2=>?_) (λh2=>?_)
   ·refine x.pure Z tR Z (kX 98 x0.ref hx.ref) ⟨Z,Z,tR⟩ ?_
    refine x.back Z tR ⟨(),⟨⟨Z,Z⟩,⟨Z,Z⟩,⟨Z,Z⟩,⟨Z,Z⟩,tR⟩,⟨gM x0,⟨Z,Z,Z,Z,Z,Z,Z,Z,Z,tR⟩,⟨Z,Z,Z,?_,Z,ah Z,ah Z,Z,Z,tR⟩,⟨?_,tR⟩,tR⟩,Z⟩
    ·show aI (vs _) (vs (iY p c.main x0).1)
     rw[hr];exact Z
    ·show aI (vb _) (vb (iY p c.main x0).2)
     rw[hr];exact Z
   ·exact absurd h (agQ h2)
  have h11:¬x0.kind=11:=agQ h;refine x.cond Z tR (λh=>?_) (λh=>?_)
  ·have h:x0.kind=12:=agP h
   rw[if_pos (.inr h)] at hr;refine x.pure Z tR Z (kX 98 x0.ref hx.ref) ⟨Z,Z,tR⟩ ?_;refine x.back Z tR ⟨(),⟨⟨Z,Z⟩,⟨Z,Z⟩,⟨Z,Z⟩,⟨Z,Z⟩,tR⟩,⟨gM x0,⟨Z,Z,Z,Z,Z,Z,Z,Z,Z,tR⟩,⟨Z,Z,Z,?_,Z,ah Z,ah Z,Z,Z,tR⟩,⟨?_,tR⟩,tR⟩,Z⟩
   ·show aI (vs _) (vs (iY p c.main x0).1)
    rw[hr];exact Z
   ·show aI (vb _) (vb (iY p c.main x0).2)
    rw[hr];exact Z
  ·have h12:¬x0.kind=12:=agQ h
   rw[if_neg (by omega)] at hr
   refine x.back Z tR ⟨(),⟨⟨Z,Z⟩,⟨Z,Z⟩,⟨Z,Z⟩,⟨Z,Z⟩,tR⟩,⟨gM x0,⟨Z,Z,Z,Z,Z,Z,Z,Z,Z,tR⟩,⟨Z,Z,Z,?_,Z,ah Z,ah Z,Z,Z,tR⟩,⟨?_,tR⟩,tR⟩,Z⟩
   ·show aI (vs _) (vs (iY p c.main x0).1)
    rw[hr];exact Z
   ·show aI (vb _) (vb (iY p c.main x0).2)
    rw[hr];exact Z
 clear hr
 change Go C _ ⟨[(5,.ptr 2 0),(6,.ptr 3 0),(8,.ptr 4 0),(9,.ptr 5 0)],[(2,opC x0),(3,.box [.dead,.dead,.dead,.dead,.dead,.dead,.dead,.dead,.dead]),(4,.box [.d (.int .u8 x0.kind),.d (.int .u8 x0.op),vs dS,vs (iY p c.main x0).1,vs .empty,.d (bE (x0.args.map (nmN 118))),.d (bE (x0.frm.map (nmN 98))),vi x0.num,vi x0.at_]),(5,.box [vb (iY p c.main x0).2])],9⟩ _;refine x.cond Z tR (λh=>?_) (λh=>?_)
 ·have h:x0.kind=12:=agP h
  rw[if_pos h];refine x.pure Z tR Z (kX 98 x0.alt hx.alt) ⟨Z,Z,tR⟩ ?_
  refine x.rE [3] [0,1] (mkO [(2,[]),(3,[2])] 3 [])
   ⟨[(6,.ptr 3 0),(7,vb (iY p c.main x0).2)],[(3,.box [.d (.int .u8 x0.kind),.d (.int .u8 x0.op),vs dS,vs (iY p c.main x0).1,vs (nmN 98 x0.alt),.d (bE (x0.args.map (nmN 118))),.d (bE (x0.frm.map (nmN 98))),vi x0.num,vi x0.at_])],9⟩ Z tR ay (by kernel_rfl) Ret.bG Z tR (λC2 x2=>?_) ?_
  ·exact⟨x2.back Z tR ⟨x2.back Z tR (Or.inl ⟨⟨⟨Z,Z⟩,Z,tR⟩,⟨⟨Z,Z,Z,Z,Z,ah Z,ah Z,Z,Z,tR⟩,tR⟩,Z⟩),tR⟩,tR⟩
  exact x.exit Z tR ⟨.inr Z,⟨Z,Z,tR⟩,tR,Z⟩
 ·have h:¬x0.kind=12:=agQ h
  rw[if_neg h]
  refine x.rE [3] [0,1] (mkO [(2,[]),(3,[2])] 3 [])
   ⟨[(6,.ptr 3 0),(7,vb (iY p c.main x0).2)],[(3,.box [.d (.int .u8 x0.kind),.d (.int .u8 x0.op),vs dS,vs (iY p c.main x0).1,vs .empty,.d (bE (x0.args.map (nmN 118))),.d (bE (x0.frm.map (nmN 98))),vi x0.num,vi x0.at_])],9⟩ Z tR ay (by kernel_rfl) Ret.bG Z tR (λC2 x2=>?_) ?_
  ·exact⟨x2.back Z tR ⟨x2.back Z tR (Or.inl ⟨⟨⟨Z,Z⟩,Z,tR⟩,⟨⟨Z,Z,Z,Z,Z,ah Z,ah Z,Z,Z,tR⟩,tR⟩,Z⟩),tR⟩,tR⟩
  exact x.exit Z tR ⟨.inr Z,⟨Z,Z,tR⟩,tR,Z⟩
def rng{α:Type}(n:Nat)(f:Nat->α):List α:=(List.range n).map f
theorem bR{α:Type}(n:Nat)(f:Nat->α):(rng n f).length=n:=by simp [rng]
theorem abk{α:Type}{n:Nat}{f:Nat->α}{i:Nat}(h:i<n):(rng n f)[i]?=some (f i):=by unfold rng;rw[List.getElem?_map,List.getElem?_range h];rfl
theorem kP{α:Type}(n:Nat)(f:Nat->α):rng (n+1) f=rng n f++[f n]:=by unfold rng;rw[List.range_succ,List.map_append];rfl
def yL(p:Pol)(i:Nat)(a:Cel):Arr:=⟨nmN 97 (i:Int),a.1,p.lev.getD a.2.toNat .empty,0⟩
def I7(p:Pol)(main:Int)(k:Nat)(l:List Op9):Blk:=⟨nmN 98 (k:Int),l.map (bg p main),0⟩
def fnN(main:Int)(i:Nat):BY:=if (i:Int)=main then gu else nmN 102 (i:Int)
def Da(n:Int):List BY:=rng n.toNat λk=>nmN 118 (k:Int)
def qI(p:Pol)(main:Int)(i:Nat)(b:Bod):Fun:=⟨fnN main i,Da b.params,rng b.blocks.length λk=>I7 p main k (b.blocks.getD k []),0⟩
def wW(p:Pol)(a:Cel):Bool:=decide (0≤a.2)&&decide (a.2<(p.lev.length:Int))
def Oq(p:Pol)(main:Int)(l:List Op9):Bool:=l.all λx=>(iY p main x).2
def qV(p:Pol)(main:Int)(b:Bod):Bool:=(decide (0≤b.params)&&decide (b.params≤6))&&b.blocks.all (Oq p main)
def gX(p:Pol)(c:Cod):Prg:=⟨rng c.arrays.length λi=>yL p i (c.arrays.getD i bO),rng c.funcs.length λi=>qI p c.main i (c.funcs.getD i aB)⟩
def kC(p:Pol)(c:Cod):Option Prg:=if (c.arrays.all (wW p)&&c.funcs.all (qV p c.main))=true then some (gX p c) else none
abbrev adM:Option Prg->V
 | some q=>.tup [Ns q,vb true]
 | none=>.tup [.agg [.dead,.dead],vb false]
structure Ot(c:Cod):Prop where
 al:c.arrays.length≤1000000
 fl:c.funcs.length≤1000000
 bl:∀b∈c.funcs,b.blocks.length*48≤140737488355328
 ll:∀b∈c.funcs,∀l∈b.blocks,l.length*120≤140737488355328∧∀x∈l,abj x
theorem Bo{α:Type}{P:α->Bool}{l:List α}{i:Nat}{d:α}(h:i<l.length)(hp:P (l.getD i d)=false):l.all P=false:=by
 rw[List.all_eq_false];exact⟨l.getD i d,by rw[agM,agO h];exact List.getElem_mem h,by rw[hp];simp⟩
theorem Lf{α:Type}{P:α->Bool}{l:List α}(d:α)(h:∀i,i<l.length->P (l.getD i d)=true):l.all P=true:=by
 rw[List.all_eq_true];intro a ha;obtain⟨i,hi,rfl⟩:=List.getElem_of_mem ha;have:=h i hi
 rwa [agM,agO hi] at this
theorem getD_in{α:Type}{l:List α}{i:Nat}(d:α)(h:i<l.length):l.getD i d∈l:=by rw[agM,agO h];exact List.getElem_mem h
theorem Q8(p:Pol)(c:Cod)(hz:PolSz p)(hp:p.ins.length≤1000000000∧p.outs.length≤1000000000)(hc:Ot c):Pure PG 22 [Bf p,rO c] (adM (kC p c)) []:=by
 obtain⟨i1,i2,i3,i4⟩:=sP hz;have hal:=hc.al;have hfl:=hc.fl;refine aG.mk (cfg 144) aA [] Tryz.func22 Z (by kernel_rfl) Z Z (by unfold kC;split<;>rfl) ?_
 intro C x;refine x.toLoop Z tR ?_;refine Go.ownB 3 0 78 4 (λi=>CJ (([]:List Arr).getD i dZ)) Z Z ?_
 refine x.loop (α:={i:Nat // i≤c.arrays.length∧∀j,j<i->wW p (c.arrays.getD j bO)=true}) (λy=>⟨[(2,.ptr 0 0),(3,.ptr 1 0),(4,.ptr 2 0),(6,.ptr 3 0),(21,.d (bT c.arrays)),(22,vi (c.arrays.length:Int)),(23,vi (y.1:Int))],[(0,kM p),(1,.box [.d (bT c.arrays),.d (bP c.funcs),vi c.main]),(2,.box [.dead,.dead]),(3,.box [.own 4,.aD]),(4,Nr (rng y.1 λi=>yL p i (c.arrays.getD i bO)))],5⟩) (λy=>c.arrays.length-y.1) ⟨0,Nat.zero_le _,λj hj=>absurd hj (agV _)⟩ Z tR ⟨⟨⟨Z,Z⟩,⟨Z,Z⟩,⟨Z,Z⟩,⟨Z,Z⟩,av Z,Z,Z,tR⟩,⟨bU p,⟨ah Z,ah Z,Z,tR⟩,⟨Z,Z,tR⟩,⟨Z,tR,tR⟩,⟨Z,Z,Z,λ_ h=>absurd h (agV _)⟩,tR⟩,Z⟩ (λy=>?_)
 obtain⟨i,hi,hlo⟩:=y;change Go C _ ⟨[(2,.ptr 0 0),(3,.ptr 1 0),(4,.ptr 2 0),(6,.ptr 3 0),(21,.d (bT c.arrays)),(22,vi (c.arrays.length:Int)),(23,vi (i:Int))],[(0,kM p),(1,.box [.d (bT c.arrays),.d (bP c.funcs),vi c.main]),(2,.box [.dead,.dead]),(3,.box [.own 4,.aD]),(4,Nr (rng i λi=>yL p i (c.arrays.getD i bO)))],5⟩ _
 refine x.cond Z tR (λh1=>?_) (λh1=>?_)
 ·have h1:i<c.arrays.length:=by have:=agP h1;omega
  have hva:(decide ((c.arrays.getD i bO).2<0)||decide ((p.lev.length:Int)≤(c.arrays.getD i bO).2))=!wW p (c.arrays.getD i bO):=by
   unfold wW;rw[Bool.not_and,←decide_not,←decide_not]
   congr 1<;>rw[decide_eq_decide]<;>omega
  cases hl:wW p (c.arrays.getD i bO) with
  | false=>
   have hno:(c.arrays.all (wW p)&&c.funcs.all (qV p c.main))=false:=by rw[Bo h1 hl,Bool.false_and]
   refine x.cond Z (by simp only[ak];omega) (λh2=>?_) (λh2=>?_)
   ·rw[kC,if_neg (by rw[hno];simp)]
    refine x.nu ?_;exact x.exit Z tR ⟨⟨[(4,.ptr 2 0),(5,vb false)],[(2,.box [.dead,.dead])],6⟩,⟨⟨⟨Z,Z⟩,Z,tR⟩,⟨⟨Z,Z,tR⟩,tR⟩,Z⟩,.inr Z,⟨Z,Z,tR⟩,tR,Z⟩
   ·have h2:(decide ((c.arrays.getD i bO).2<0)||decide ((p.lev.length:Int)≤(c.arrays.getD i bO).2))=false:=h2
    rw[hva,hl] at h2;cases h2
  | true=>
   have hlb:0≤(c.arrays.getD i bO).2∧(c.arrays.getD i bO).2<(p.lev.length:Int):=by
    unfold wW at hl;rw[agN,agT,agT] at hl;exact hl
   refine x.cond Z (by simp only[ak];omega) (λh2=>?_) (λh2=>?_)
   ·have h2:(decide ((c.arrays.getD i bO).2<0)||decide ((p.lev.length:Int)≤(c.arrays.getD i bO).2))=true:=h2
    rw[hva,hl] at h2;cases h2
   have hrl:=bR i λi=>yL p i (c.arrays.getD i bO)
   refine x.code Z tR ?_;refine x.perm [0,1,2,3,5,4] Z ?_
   refine x.KO 5 [3,5] [0,2,4,5,6,7,8,9,10,11] (mkO [(1,[]),(3,[]),(12,[3]),(13,[12]),(14,[1,13]),(15,[14]),(16,[15])] 8 [])
    ⟨[(2,.ptr 0 0),(3,.ptr 1 0),(4,.ptr 2 0),(6,.ptr 3 0),(21,.d (bT c.arrays)),(22,vi (c.arrays.length:Int)),(23,vi (i:Int))],[(3,.box [.own 5,.aD]),(5,Nr (rng (i+1) λi=>yL p i (c.arrays.getD i bO)))],6⟩ Z tR ay Z (by kernel_rfl) Ret.bG Z (by simp only[ak,ag1];omega) (λC2 x2=>?_) ?_
   ·repeat' first
     | exact True.intro
     | refine And.intro ?_ ?_
     | refine x2.pure rfl tR rfl (kX 97 (i:Int) (by unfold aj;omega)) ⟨rfl,rfl,tR⟩ (x2.back rfl tR ?_)
     | refine x2.back rfl tR ?_
     | refine x2.back rfl (by simp only[ak,big,hrl];omega) ?_
     | exact Or.inl ⟨⟨⟨rfl,rfl⟩,⟨rfl,rfl⟩,⟨rfl,rfl⟩,⟨rfl,rfl⟩,av rfl,rfl,rfl,tR⟩,⟨⟨rfl,tR,tR⟩,⟨rfl,rfl,by rw[kP];simp,λj hj=>by rw[kP];exact iD CJ 4 (λ_=>rfl) dZ _ (yL p i (c.arrays.getD i bO)) j hj⟩,tR⟩,rfl⟩
   refine x.perm [0,1,2,3,5,4] Z ?_;refine x.back Z (by simp only[ak,aj];omega) ⟨⟨i+1,by omega,λj hj=>?_⟩,by show c.arrays.length-(i+1)<c.arrays.length-i;omega,⟨⟨Z,Z⟩,⟨Z,Z⟩,⟨Z,Z⟩,⟨Z,Z⟩,av Z,Z,(show aI (vi ((i:Int)+1)) (vi ((i+1:Nat):Int)) by rw[agY];rfl),tR⟩,⟨bU p,⟨ah Z,ah Z,Z,tR⟩,⟨Z,Z,tR⟩,⟨Z,tR,tR⟩,⟨Z,Z,Z,λ_ _=>rfl⟩,tR⟩,Z⟩
   by_cases e:j=i
   ·rw[e];exact hl
   ·exact hlo j (by omega)
 have h1:i=c.arrays.length:=by have:=agQ h1;omega
 subst h1;have hla:c.arrays.all (wW p)=true:=Lf bO hlo;refine Sx.Go.freeze 4 ?_;refine x.toLoop Z tR ?_;refine Go.ownB 3 1 82 4 (λi=>CG (([]:List Fun).getD i bM)) Z Z ?_
 refine x.loop (α:={i:Nat // i≤c.funcs.length∧∀j,j<i->qV p c.main (c.funcs.getD j aB)=true}) (λy=>⟨[(2,.ptr 0 0),(3,.ptr 1 0),(4,.ptr 2 0),(6,.ptr 3 0),(58,.d (bP c.funcs)),(59,vi (c.funcs.length:Int)),(60,vi (y.1:Int))],[(0,kM p),(1,.box [.d (bT c.arrays),.d (bP c.funcs),vi c.main]),(2,.box [.dead,.dead]),(3,.box [.d (bX (rng c.arrays.length λi=>yL p i (c.arrays.getD i bO))),.own 5]),(5,vo (rng y.1 λi=>qI p c.main i (c.funcs.getD i aB)))],6⟩) (λy=>c.funcs.length-y.1) ⟨0,Nat.zero_le _,λj hj=>absurd hj (agV _)⟩ Z tR ⟨⟨⟨Z,Z⟩,⟨Z,Z⟩,⟨Z,Z⟩,⟨Z,Z⟩,av Z,Z,Z,tR⟩,⟨bU p,⟨ah Z,ah Z,Z,tR⟩,⟨Z,Z,tR⟩,⟨ah Z,Z,tR⟩,⟨Z,Z,Z,λ_ h=>absurd h (agV _)⟩,tR⟩,Z⟩ (λy=>?_)
 clear hlo
 obtain⟨i,hi,hlo⟩:=y;change Go C _ ⟨[(2,.ptr 0 0),(3,.ptr 1 0),(4,.ptr 2 0),(6,.ptr 3 0),(58,.d (bP c.funcs)),(59,vi (c.funcs.length:Int)),(60,vi (i:Int))],[(0,kM p),(1,.box [.d (bT c.arrays),.d (bP c.funcs),vi c.main]),(2,.box [.dead,.dead]),(3,.box [.d (bX (rng c.arrays.length λi=>yL p i (c.arrays.getD i bO))),.own 5]),(5,vo (rng i λi=>qI p c.main i (c.funcs.getD i aB)))],6⟩ _
 refine x.cond Z tR (λh1=>?_) (λh1=>?_)
 rotate_left
 ·have h1:i=c.funcs.length:=by have:=agQ h1;omega
  subst h1;have hlb:c.funcs.all (qV p c.main)=true:=Lf aB hlo
  rw[kC,if_pos (by rw[hla,hlb];rfl)]
  refine Sx.Go.freeze 5 ?_;exact x.exit Z tR ⟨.inr Z,⟨Z,Z,tR⟩,tR,Z⟩
 have h1:i<c.funcs.length:=by have:=agP h1;omega
 have hin:=getD_in aB h1;have hbl:=hc.bl _ hin;have hll:=hc.ll _ hin;have hfr:=bR i λi=>qI p c.main i (c.funcs.getD i aB)
 refine x.pure Z (by simp only[ak];omega) Z (kX 102 (i:Int) (by unfold aj;omega)) ⟨Z,Z,tR⟩ ?_
 refine x.ite (α:=Unit) (λ_=>⟨[(2,.ptr 0 0),(3,.ptr 1 0),(4,.ptr 2 0),(6,.ptr 3 0),(58,.d (bP c.funcs)),(59,vi (c.funcs.length:Int)),(60,vi (i:Int)),(10,.ptr 6 0),(11,.ptr 7 0)],[(0,kM p),(1,.box [.d (bT c.arrays),.d (bP c.funcs),vi c.main]),(2,.box [.dead,.dead]),(3,.box [.d (bX (rng c.arrays.length λi=>yL p i (c.arrays.getD i bO))),.own 5]),(5,vo (rng i λi=>qI p c.main i (c.funcs.getD i aB))),(6,.box [vi (c.funcs.getD i aB).params,vi (c.funcs.getD i aB).vars,.d (kN (c.funcs.getD i aB).blocks)]),(7,.box [vs (fnN c.main i),.aD,.aD,vi 0])],8⟩) Z tR (λh2=>?_) (λh2=>?_) (λ_=>?_)
 ·have h2:(i:Int)=c.main:=agP h2
  have e:fnN c.main i=gu:=by unfold fnN;rw[if_pos h2]
  rw[e];exact x.back Z tR ⟨(),⟨⟨Z,Z⟩,⟨Z,Z⟩,⟨Z,Z⟩,⟨Z,Z⟩,av Z,Z,Z,⟨Z,Z⟩,⟨Z,Z⟩,tR⟩,⟨bU p,⟨ah Z,ah Z,Z,tR⟩,⟨Z,Z,tR⟩,⟨ah Z,Z,tR⟩,⟨Z,Z,Z,λ_ _=>rfl⟩,⟨Z,Z,ah Z,tR⟩,⟨Z,tR,tR,Z,tR⟩,tR⟩,Z⟩
 ·have h2:¬(i:Int)=c.main:=agQ h2
  have e:fnN c.main i=nmN 102 (i:Int):=by unfold fnN;rw[if_neg h2]
  rw[e];exact x.back Z tR ⟨(),⟨⟨Z,Z⟩,⟨Z,Z⟩,⟨Z,Z⟩,⟨Z,Z⟩,av Z,Z,Z,⟨Z,Z⟩,⟨Z,Z⟩,tR⟩,⟨bU p,⟨ah Z,ah Z,Z,tR⟩,⟨Z,Z,tR⟩,⟨ah Z,Z,tR⟩,⟨Z,Z,Z,λ_ _=>rfl⟩,⟨Z,Z,ah Z,tR⟩,⟨Z,tR,tR,Z,tR⟩,tR⟩,Z⟩
 change Go C _ ⟨[(2,.ptr 0 0),(3,.ptr 1 0),(4,.ptr 2 0),(6,.ptr 3 0),(58,.d (bP c.funcs)),(59,vi (c.funcs.length:Int)),(60,vi (i:Int)),(10,.ptr 6 0),(11,.ptr 7 0)],[(0,kM p),(1,.box [.d (bT c.arrays),.d (bP c.funcs),vi c.main]),(2,.box [.dead,.dead]),(3,.box [.d (bX (rng c.arrays.length λi=>yL p i (c.arrays.getD i bO))),.own 5]),(5,vo (rng i λi=>qI p c.main i (c.funcs.getD i aB))),(6,.box [vi (c.funcs.getD i aB).params,vi (c.funcs.getD i aB).vars,.d (kN (c.funcs.getD i aB).blocks)]),(7,.box [vs (fnN c.main i),.aD,.aD,vi 0])],8⟩ _
 refine x.cond Z tR (λh2=>?_) (λh2=>?_)
 ·have h2:(decide ((c.funcs.getD i aB).params<0)||decide (6<(c.funcs.getD i aB).params))=true:=h2
  have hb:qV p c.main (c.funcs.getD i aB)=false:=by
   unfold qV;rw[Bool.or_eq_true,agT,agT] at h2
   rcases h2 with h2 | h2
   ·rw[decide_eq_false (show ¬0≤(c.funcs.getD i aB).params by omega)];rfl
   ·rw[decide_eq_false (show ¬(c.funcs.getD i aB).params≤6 by omega),Bool.and_false];rfl
  have hno:(c.arrays.all (wW p)&&c.funcs.all (qV p c.main))=false:=by rw[Bo h1 hb,Bool.and_false]
  rw[kC,if_neg (by rw[hno];simp)]
  refine x.nu ?_;exact x.exit Z tR ⟨⟨[(4,.ptr 2 0),(5,vb false)],[(2,.box [.dead,.dead])],8⟩,⟨⟨⟨Z,Z⟩,Z,tR⟩,⟨⟨Z,Z,tR⟩,tR⟩,Z⟩,.inr Z,⟨Z,Z,tR⟩,tR,Z⟩
 have h2:(decide ((c.funcs.getD i aB).params<0)||decide (6<(c.funcs.getD i aB).params))=false:=h2
 rw[ag2,agX,agX] at h2;obtain⟨P,hP⟩:∃P:Nat,(c.funcs.getD i aB).params=(P:Int):=⟨(c.funcs.getD i aB).params.toNat,by omega⟩
 refine x.toLoop Z tR ?_;refine Go.ownB 7 1 9 1 (λi=>[.str (([]:List BY).getD i .empty)]) Z Z ?_
 refine x.loop (α:={k:Nat // k≤P}) (λy=>⟨[(2,.ptr 0 0),(3,.ptr 1 0),(4,.ptr 2 0),(6,.ptr 3 0),(58,.d (bP c.funcs)),(59,vi (c.funcs.length:Int)),(60,vi (i:Int)),(10,.ptr 6 0),(11,.ptr 7 0),(83,vi (c.funcs.getD i aB).params),(84,vi (y.1:Int))],[(0,kM p),(1,.box [.d (bT c.arrays),.d (bP c.funcs),vi c.main]),(2,.box [.dead,.dead]),(3,.box [.d (bX (rng c.arrays.length λi=>yL p i (c.arrays.getD i bO))),.own 5]),(5,vo (rng i λi=>qI p c.main i (c.funcs.getD i aB))),(6,.box [vi (c.funcs.getD i aB).params,vi (c.funcs.getD i aB).vars,.d (kN (c.funcs.getD i aB).blocks)]),(7,.box [vs (fnN c.main i),.own 8,.aD,vi 0]),(8,jh (rng y.1 λk=>nmN 118 (k:Int)))],9⟩) (λy=>P-y.1) ⟨0,Nat.zero_le _⟩ Z tR ⟨⟨⟨Z,Z⟩,⟨Z,Z⟩,⟨Z,Z⟩,⟨Z,Z⟩,av Z,Z,Z,⟨Z,Z⟩,⟨Z,Z⟩,Z,Z,tR⟩,⟨bU p,⟨ah Z,ah Z,Z,tR⟩,⟨Z,Z,tR⟩,⟨ah Z,Z,tR⟩,⟨Z,Z,Z,λ_ _=>rfl⟩,⟨Z,Z,ah Z,tR⟩,⟨Z,Z,tR,Z,tR⟩,⟨Z,Z,Z,λ_ h=>absurd h (agV _)⟩,tR⟩,Z⟩ (λy=>?_)
 obtain⟨k,hk⟩:=y;change Go C _ ⟨[(2,.ptr 0 0),(3,.ptr 1 0),(4,.ptr 2 0),(6,.ptr 3 0),(58,.d (bP c.funcs)),(59,vi (c.funcs.length:Int)),(60,vi (i:Int)),(10,.ptr 6 0),(11,.ptr 7 0),(83,vi (c.funcs.getD i aB).params),(84,vi (k:Int))],[(0,kM p),(1,.box [.d (bT c.arrays),.d (bP c.funcs),vi c.main]),(2,.box [.dead,.dead]),(3,.box [.d (bX (rng c.arrays.length λi=>yL p i (c.arrays.getD i bO))),.own 5]),(5,vo (rng i λi=>qI p c.main i (c.funcs.getD i aB))),(6,.box [vi (c.funcs.getD i aB).params,vi (c.funcs.getD i aB).vars,.d (kN (c.funcs.getD i aB).blocks)]),(7,.box [vs (fnN c.main i),.own 8,.aD,vi 0]),(8,jh (rng k λk=>nmN 118 (k:Int)))],9⟩ _
 refine x.cond Z tR (λh3=>?_) (λh3=>?_)
 ·have h3:(k:Int)<(c.funcs.getD i aB).params:=agP h3
  have hpl:=bR k λk=>nmN 118 (k:Int)
  refine x.KO 7 [7,8] [0,2] (mkO [(1,[]),(3,[]),(4,[3]),(5,[1,4]),(6,[5]),(7,[6])] 7 [])
   ⟨[(2,.ptr 0 0),(3,.ptr 1 0),(4,.ptr 2 0),(6,.ptr 3 0),(58,.d (bP c.funcs)),(59,vi (c.funcs.length:Int)),(60,vi (i:Int)),(10,.ptr 6 0),(11,.ptr 7 0),(83,vi (c.funcs.getD i aB).params),(84,vi (k:Int))],[(7,.box [vs (fnN c.main i),.own 8,.aD,vi 0]),(8,jh (rng (k+1) λk=>nmN 118 (k:Int)))],9⟩ Z tR ay Z (by kernel_rfl) Ret.bG Z tR (λC2 x2=>?_) ?_
  ·repeat' first
    | exact True.intro
    | refine And.intro ?_ ?_
    | refine x2.pure rfl tR rfl (kX 118 (k:Int) (by unfold aj;omega)) ⟨rfl,rfl,tR⟩ (x2.back rfl tR ?_)
    | refine x2.back rfl tR ?_
    | refine x2.back rfl (by simp only[ak,big,hpl];omega) ?_
    | exact Or.inl ⟨⟨⟨rfl,rfl⟩,⟨rfl,rfl⟩,⟨rfl,rfl⟩,⟨rfl,rfl⟩,av rfl,rfl,rfl,⟨rfl,rfl⟩,⟨rfl,rfl⟩,rfl,rfl,tR⟩,⟨⟨rfl,rfl,tR,rfl,tR⟩,⟨rfl,rfl,by rw[kP];simp,λj hj=>by rw[kP];exact ji _ _ j hj⟩,tR⟩,rfl⟩
  exact x.back Z (by simp only[ak,aj];omega) ⟨⟨k+1,by omega⟩,by show P-(k+1)<P-k;omega,⟨⟨Z,Z⟩,⟨Z,Z⟩,⟨Z,Z⟩,⟨Z,Z⟩,av Z,Z,Z,⟨Z,Z⟩,⟨Z,Z⟩,Z,(show aI (vi ((k:Int)+1)) (vi ((k+1:Nat):Int)) by rw[agY];rfl),tR⟩,⟨bU p,⟨ah Z,ah Z,Z,tR⟩,⟨Z,Z,tR⟩,⟨ah Z,Z,tR⟩,⟨Z,Z,Z,λ_ _=>rfl⟩,⟨Z,Z,ah Z,tR⟩,⟨Z,Z,tR,Z,tR⟩,⟨Z,Z,Z,λ_ _=>rfl⟩,tR⟩,Z⟩
 have h3:¬(k:Int)<(c.funcs.getD i aB).params:=agQ h3
 obtain rfl:k=P:=by omega
 have hpar:(rng k λk=>nmN 118 (k:Int))=Da (c.funcs.getD i aB).params:=by unfold Da;rw[hP];rfl
 rw[hpar];refine Sx.Go.freeze 8 ?_;refine x.toLoop Z tR ?_;refine Go.ownB 7 2 85 3 (λi=>Qz (([]:List Blk).getD i bN)) Z Z ?_
 refine x.loop (α:={k:Nat // k≤(c.funcs.getD i aB).blocks.length∧∀j,j<k->Oq p c.main ((c.funcs.getD i aB).blocks.getD j [])=true}) (λy=>⟨[(2,.ptr 0 0),(3,.ptr 1 0),(4,.ptr 2 0),(6,.ptr 3 0),(58,.d (bP c.funcs)),(59,vi (c.funcs.length:Int)),(60,vi (i:Int)),(10,.ptr 6 0),(11,.ptr 7 0),(96,.d (kN (c.funcs.getD i aB).blocks)),(97,vi ((c.funcs.getD i aB).blocks.length:Int)),(98,vi (y.1:Int))],[(0,kM p),(1,.box [.d (bT c.arrays),.d (bP c.funcs),vi c.main]),(2,.box [.dead,.dead]),(3,.box [.d (bX (rng c.arrays.length λi=>yL p i (c.arrays.getD i bO))),.own 5]),(5,vo (rng i λi=>qI p c.main i (c.funcs.getD i aB))),(6,.box [vi (c.funcs.getD i aB).params,vi (c.funcs.getD i aB).vars,.d (kN (c.funcs.getD i aB).blocks)]),(7,.box [vs (fnN c.main i),.d (bE (Da (c.funcs.getD i aB).params)),.own 9,vi 0]),(9,Gy (rng y.1 λk=>I7 p c.main k ((c.funcs.getD i aB).blocks.getD k [])))],10⟩) (λy=>(c.funcs.getD i aB).blocks.length-y.1) ⟨0,Nat.zero_le _,λj hj=>absurd hj (agV _)⟩ Z tR ⟨⟨⟨Z,Z⟩,⟨Z,Z⟩,⟨Z,Z⟩,⟨Z,Z⟩,av Z,Z,Z,⟨Z,Z⟩,⟨Z,Z⟩,av Z,Z,Z,tR⟩,⟨bU p,⟨ah Z,ah Z,Z,tR⟩,⟨Z,Z,tR⟩,⟨ah Z,Z,tR⟩,⟨Z,Z,Z,λ_ _=>rfl⟩,⟨Z,Z,ah Z,tR⟩,⟨Z,ah Z,Z,Z,tR⟩,⟨Z,Z,Z,λ_ h=>absurd h (agV _)⟩,tR⟩,Z⟩ (λy=>?_)
 clear h3 hpar hP hk
 obtain⟨k,hk,hko⟩:=y;change Go C _ ⟨[(2,.ptr 0 0),(3,.ptr 1 0),(4,.ptr 2 0),(6,.ptr 3 0),(58,.d (bP c.funcs)),(59,vi (c.funcs.length:Int)),(60,vi (i:Int)),(10,.ptr 6 0),(11,.ptr 7 0),(96,.d (kN (c.funcs.getD i aB).blocks)),(97,vi ((c.funcs.getD i aB).blocks.length:Int)),(98,vi (k:Int))],[(0,kM p),(1,.box [.d (bT c.arrays),.d (bP c.funcs),vi c.main]),(2,.box [.dead,.dead]),(3,.box [.d (bX (rng c.arrays.length λi=>yL p i (c.arrays.getD i bO))),.own 5]),(5,vo (rng i λi=>qI p c.main i (c.funcs.getD i aB))),(6,.box [vi (c.funcs.getD i aB).params,vi (c.funcs.getD i aB).vars,.d (kN (c.funcs.getD i aB).blocks)]),(7,.box [vs (fnN c.main i),.d (bE (Da (c.funcs.getD i aB).params)),.own 9,vi 0]),(9,Gy (rng k λk=>I7 p c.main k ((c.funcs.getD i aB).blocks.getD k [])))],10⟩ _
 refine x.cond Z tR (λh3=>?_) (λh3=>?_)
 rotate_left
 ·have h3:k=(c.funcs.getD i aB).blocks.length:=by have:=agQ h3;omega
  subst h3
  have hbo:qV p c.main (c.funcs.getD i aB)=true:=by
   unfold qV;rw[decide_eq_true (show 0≤(c.funcs.getD i aB).params by omega),decide_eq_true (show (c.funcs.getD i aB).params≤6 by omega),Lf [] hko];rfl
  refine Sx.Go.freeze 9 ?_;refine x.back rfl (by simp only[ak,aj,big,hfr];omega) ⟨⟨i+1,by omega,λj hj=>?_⟩,by show c.funcs.length-(i+1)<c.funcs.length-i;omega,⟨⟨rfl,rfl⟩,⟨rfl,rfl⟩,⟨rfl,rfl⟩,⟨rfl,rfl⟩,av rfl,rfl,(show aI (vi ((i:Int)+1)) (vi ((i+1:Nat):Int)) by rw[agY];rfl),tR⟩,⟨bU p,⟨ah rfl,ah rfl,rfl,tR⟩,⟨rfl,rfl,tR⟩,⟨ah rfl,rfl,tR⟩,⟨rfl,rfl,?_,λj hj=>?_⟩,tR⟩,rfl⟩
  ·by_cases e:j=i
   ·rw[e];exact hbo
   ·exact hlo j (by omega)
  ·rw[kP];simp
  ·rw[kP];exact iD CG 4 (λ_=>rfl) bM _ (qI p c.main i (c.funcs.getD i aB)) j hj
 have h3:k<(c.funcs.getD i aB).blocks.length:=by have:=agP h3;omega
 obtain⟨hlk,hlx⟩:=hll _ (getD_in [] h3);have hbr:=bR k λk=>I7 p c.main k ((c.funcs.getD i aB).blocks.getD k [])
 refine x.pure Z (by simp only[ak];omega) Z (kX 98 (k:Int) (by unfold aj;omega)) ⟨Z,Z,tR⟩ ?_
 refine x.toLoop Z tR ?_;refine Go.ownB 10 1 87 9 (λi=>Vv (([]:List Ins).getD i (aM 0))) Z Z ?_
 refine x.loop (α:={m:Nat // m≤((c.funcs.getD i aB).blocks.getD k []).length∧∀j,j<m->(iY p c.main (((c.funcs.getD i aB).blocks.getD k []).getD j op0)).2=true}) (λy=>⟨[(2,.ptr 0 0),(3,.ptr 1 0),(4,.ptr 2 0),(6,.ptr 3 0),(58,.d (bP c.funcs)),(59,vi (c.funcs.length:Int)),(60,vi (i:Int)),(10,.ptr 6 0),(11,.ptr 7 0),(96,.d (kN (c.funcs.getD i aB).blocks)),(97,vi ((c.funcs.getD i aB).blocks.length:Int)),(98,vi (k:Int)),(15,.ptr 10 0),(106,.d (um ((c.funcs.getD i aB).blocks.getD k []))),(107,vi (((c.funcs.getD i aB).blocks.getD k []).length:Int)),(108,vi (y.1:Int))],[(0,kM p),(1,.box [.d (bT c.arrays),.d (bP c.funcs),vi c.main]),(2,.box [.dead,.dead]),(3,.box [.d (bX (rng c.arrays.length λi=>yL p i (c.arrays.getD i bO))),.own 5]),(5,vo (rng i λi=>qI p c.main i (c.funcs.getD i aB))),(6,.box [vi (c.funcs.getD i aB).params,vi (c.funcs.getD i aB).vars,.d (kN (c.funcs.getD i aB).blocks)]),(7,.box [vs (fnN c.main i),.d (bE (Da (c.funcs.getD i aB).params)),.own 9,vi 0]),(9,Gy (rng k λk=>I7 p c.main k ((c.funcs.getD i aB).blocks.getD k []))),(10,.box [vs (nmN 98 (k:Int)),.own 11,vi 0]),(11,Np ((((c.funcs.getD i aB).blocks.getD k []).take y.1).map (bg p c.main)))],12⟩) (λy=>((c.funcs.getD i aB).blocks.getD k []).length-y.1) ⟨0,Nat.zero_le _,λj hj=>absurd hj (agV _)⟩ Z tR ⟨⟨⟨Z,Z⟩,⟨Z,Z⟩,⟨Z,Z⟩,⟨Z,Z⟩,av Z,Z,Z,⟨Z,Z⟩,⟨Z,Z⟩,av Z,Z,Z,⟨Z,Z⟩,av Z,Z,Z,tR⟩,⟨bU p,⟨ah Z,ah Z,Z,tR⟩,⟨Z,Z,tR⟩,⟨ah Z,Z,tR⟩,⟨Z,Z,Z,λ_ _=>rfl⟩,⟨Z,Z,ah Z,tR⟩,⟨Z,ah Z,Z,Z,tR⟩,⟨Z,Z,Z,λ_ _=>rfl⟩,⟨Z,Z,Z,tR⟩,⟨Z,Z,Z,λ_ h=>absurd h (agV _)⟩,tR⟩,Z⟩ (λy=>?_)
 obtain⟨m,hm,hmo⟩:=y
 change Go C _ ⟨[(2,.ptr 0 0),(3,.ptr 1 0),(4,.ptr 2 0),(6,.ptr 3 0),(58,.d (bP c.funcs)),(59,vi (c.funcs.length:Int)),(60,vi (i:Int)),(10,.ptr 6 0),(11,.ptr 7 0),(96,.d (kN (c.funcs.getD i aB).blocks)),(97,vi ((c.funcs.getD i aB).blocks.length:Int)),(98,vi (k:Int)),(15,.ptr 10 0),(106,.d (um ((c.funcs.getD i aB).blocks.getD k []))),(107,vi (((c.funcs.getD i aB).blocks.getD k []).length:Int)),(108,vi (m:Int))],[(0,kM p),(1,.box [.d (bT c.arrays),.d (bP c.funcs),vi c.main]),(2,.box [.dead,.dead]),(3,.box [.d (bX (rng c.arrays.length λi=>yL p i (c.arrays.getD i bO))),.own 5]),(5,vo (rng i λi=>qI p c.main i (c.funcs.getD i aB))),(6,.box [vi (c.funcs.getD i aB).params,vi (c.funcs.getD i aB).vars,.d (kN (c.funcs.getD i aB).blocks)]),(7,.box [vs (fnN c.main i),.d (bE (Da (c.funcs.getD i aB).params)),.own 9,vi 0]),(9,Gy (rng k λk=>I7 p c.main k ((c.funcs.getD i aB).blocks.getD k []))),(10,.box [vs (nmN 98 (k:Int)),.own 11,vi 0]),(11,Np ((((c.funcs.getD i aB).blocks.getD k []).take m).map (bg p c.main)))],12⟩ _
 refine x.cond Z tR (λh4=>?_) (λh4=>?_)
 rotate_left
 ·have h4:m=((c.funcs.getD i aB).blocks.getD k []).length:=by have:=agQ h4;omega
  subst h4;have hoo:Oq p c.main ((c.funcs.getD i aB).blocks.getD k [])=true:=Lf op0 hmo
  rw[List.take_length];refine Sx.Go.freeze 11 ?_;refine x.back rfl (by simp only[ak,aj,big,hbr];omega) ⟨⟨k+1,by omega,λj hj=>?_⟩,by show (c.funcs.getD i aB).blocks.length-(k+1)<(c.funcs.getD i aB).blocks.length-k;omega,⟨⟨rfl,rfl⟩,⟨rfl,rfl⟩,⟨rfl,rfl⟩,⟨rfl,rfl⟩,av rfl,rfl,rfl,⟨rfl,rfl⟩,⟨rfl,rfl⟩,av rfl,rfl,(show aI (vi ((k:Int)+1)) (vi ((k+1:Nat):Int)) by rw[agY];rfl),tR⟩,⟨bU p,⟨ah rfl,ah rfl,rfl,tR⟩,⟨rfl,rfl,tR⟩,⟨ah rfl,rfl,tR⟩,⟨rfl,rfl,rfl,λ_ _=>rfl⟩,⟨rfl,rfl,ah rfl,tR⟩,⟨rfl,ah rfl,rfl,rfl,tR⟩,⟨rfl,rfl,?_,λj hj=>?_⟩,tR⟩,rfl⟩
  ·by_cases e:j=k
   ·rw[e];exact hoo
   ·exact hko j (by omega)
  ·rw[kP];simp
  ·rw[kP];exact iD Qz 3 (λ_=>rfl) bN _ (I7 p c.main k ((c.funcs.getD i aB).blocks.getD k [])) j hj
 have h4:m<((c.funcs.getD i aB).blocks.getD k []).length:=by have:=agP h4;omega
 have htl:((((c.funcs.getD i aB).blocks.getD k []).take m).map (bg p c.main)).length=m:=by rw[List.length_map,List.length_take];omega
 have et:(((c.funcs.getD i aB).blocks.getD k []).take (m+1)).map (bg p c.main)=(((c.funcs.getD i aB).blocks.getD k []).take m).map (bg p c.main)++[bg p c.main (((c.funcs.getD i aB).blocks.getD k []).getD m op0)]:=by
  have e:((c.funcs.getD i aB).blocks.getD k [])[m]?=some (((c.funcs.getD i aB).blocks.getD k []).getD m op0):=by rw[agM (l:=((c.funcs.getD i aB).blocks.getD k [])),agO h4];rfl
  rw[take_succ e,List.map_append];rfl
 refine x.pure Z (by simp only[ak];omega) Z (Oo p c (((c.funcs.getD i aB).blocks.getD k []).getD m op0) hz hp (hlx _ (getD_in op0 h4))) ⟨⟨ah Z,ah Z,ah Z,ah Z,Z,tR⟩,⟨ah Z,ah Z,Z,tR⟩,⟨Z,Z,Z,Z,Z,ah Z,ah Z,Z,Z,tR⟩,tR⟩ ?_
 cases hrr:(iY p c.main (((c.funcs.getD i aB).blocks.getD k []).getD m op0)).2 with
 | false=>
  have hb:qV p c.main (c.funcs.getD i aB)=false:=by
   unfold qV;rw[Bo h3 (P:=Oq p c.main) (d:=[]) (Bo h4 (P:=λx=>(iY p c.main x).2) (d:=op0) hrr),Bool.and_false]
  have hno:(c.arrays.all (wW p)&&c.funcs.all (qV p c.main))=false:=by rw[Bo h1 hb,Bool.and_false]
  refine x.cond Z tR (λh5=>?_) (λh5=>?_)
  ·rw[kC,if_neg (by rw[hno];simp)]
   refine x.nu ?_;exact x.exit Z tR ⟨⟨[(4,.ptr 2 0),(5,vb false)],[(2,.box [.dead,.dead])],14⟩,⟨⟨⟨Z,Z⟩,Z,tR⟩,⟨⟨Z,Z,tR⟩,tR⟩,Z⟩,.inr Z,⟨Z,Z,tR⟩,tR,Z⟩
  ·cases (show true=false from h5)
 | true=>
  refine x.cond Z tR (λh5=>?_) (λh5=>?_)
  ·cases (show false=true from h5)
  refine x.back rfl (by simp only[ak,aj,big,htl];omega) ⟨⟨m+1,by omega,λj hj=>?_⟩,by show ((c.funcs.getD i aB).blocks.getD k []).length-(m+1)<((c.funcs.getD i aB).blocks.getD k []).length-m;omega,⟨⟨rfl,rfl⟩,⟨rfl,rfl⟩,⟨rfl,rfl⟩,⟨rfl,rfl⟩,av rfl,rfl,rfl,⟨rfl,rfl⟩,⟨rfl,rfl⟩,av rfl,rfl,rfl,⟨rfl,rfl⟩,av rfl,rfl,(show aI (vi ((m:Int)+1)) (vi ((m+1:Nat):Int)) by rw[agY];rfl),tR⟩,⟨bU p,⟨ah rfl,ah rfl,rfl,tR⟩,⟨rfl,rfl,tR⟩,⟨ah rfl,rfl,tR⟩,⟨rfl,rfl,rfl,λ_ _=>rfl⟩,⟨rfl,rfl,ah rfl,tR⟩,⟨rfl,ah rfl,rfl,rfl,tR⟩,⟨rfl,rfl,rfl,λ_ _=>rfl⟩,⟨rfl,rfl,rfl,tR⟩,⟨rfl,rfl,?_,λj hj=>?_⟩,tR⟩,rfl⟩
  ·by_cases e:j=m
   ·rw[e];exact hrr
   ·exact hmo j (by omega)
  ·rw[et];simp
  ·rw[et];exact iD Vv 9 (λ_=>rfl) (aM 0) _ (bg p c.main (((c.funcs.getD i aB).blocks.getD k []).getD m op0)) j hj
def lU{α:Type}(P:α->α->Bool)(d:α)(a b:List α):Bool:=decide (a.length=b.length)&&qF (λi=>P (a.getD i d) (b.getD i d)) a.length 0
def oo(a b:Op9):Bool:=((((((decide (a.kind=b.kind)&&decide (a.op=b.op))&&decide (a.dst=b.dst))&&decide (a.ref=b.ref))&&decide (a.alt=b.alt))&&decide (a.num=b.num))&&decide (a.args=b.args))&&decide (a.frm=b.frm)
def oO(a b:List Op9):Bool:=lU oo op0 a b
def abl(a b:List (List Op9)):Bool:=lU oO [] a b
def j5(a b:Bod):Bool:=(decide (a.params=b.params)&&decide (a.vars=b.vars))&&abl a.blocks b.blocks
def sV(a b:List Bod):Bool:=lU j5 aB a b
theorem Ou{a b:List Int}(h1:a.length=b.length)(h2:∀j,j<a.length->a.getD j 0=b.getD j 0):a=b:=List.ext_getElem h1 λj hj hj'=>by
 have:=h2 j hj
 rwa [agM,agM,agO hj,agO hj'] at this
theorem Y7{a b:List Cel}(h1:a.length=b.length)(h2:∀j,j<a.length->a.getD j bO=b.getD j bO):a=b:=List.ext_getElem h1 λj hj hj'=>by
 have:=h2 j hj
 rwa [agM,agM,agO hj,agO hj'] at this
theorem Ov(a b:List Int)(ha:a.length*8≤140737488355328):Pure PG 75 [.d (dR a),.d (dR b)] (vb (decide (a=b))) []:=by
 refine aG.mk (cfg 26) aA [] Tryz.func75 Z (by kernel_rfl) Z Z Z ?_
 intro C x;refine x.cond Z tR (λh=>?_) (λh=>?_)
 ·have h:(!decide ((a.length:Int)=(b.length:Int)))=true:=h
  have h:¬(a.length:Int)=b.length:=by simpa using h
  refine x.exit Z tR ⟨.inr Z,?_,tR,Z⟩;rw[decide_eq_false (show ¬a=b from λe=>h (by rw[e]))];exact Z
 have h:(!decide ((a.length:Int)=(b.length:Int)))=false:=h
 have hl:a.length=b.length:=by
  have:(a.length:Int)=b.length:=by simpa using h
  omega
 refine x.loop (α:={i:Nat // i≤a.length∧∀j,j<i->a.getD j 0=b.getD j 0}) (λy=>⟨[(0,.d (dR a)),(1,.d (dR b)),(12,vi (a.length:Int)),(13,vi (y.1:Int))],[],0⟩) (λy=>a.length-y.1) ⟨0,Nat.zero_le _,λj hj=>by omega⟩ Z tR ⟨⟨av Z,av Z,Z,Z,tR⟩,tR,Z⟩ (λy=>?_)
 obtain⟨i,hi,hs⟩:=y;change Go C _ ⟨[(0,.d (dR a)),(1,.d (dR b)),(12,vi (a.length:Int)),(13,vi (i:Int))],[],0⟩ _;refine x.cond Z tR (λh1=>?_) (λh1=>?_)
 ·have h1:i<a.length:=by have:=agP h1;omega
  refine x.quiet Z tR ay (by kernel_rfl) ?_
  refine x.eY Z (by simp only[ak];omega) ?_
  have hv:decide (a.getD i 0=b.getD i 0)=decide (a.getD i 0=b.getD i 0):=by
   rfl
  refine x.cond Z tR (λh2=>?_) (λh2=>?_)
  ·have h2:(!decide (a.getD i 0=b.getD i 0))=true:=h2
   rw[hv] at h2;refine x.exit Z tR ⟨.inr Z,?_,tR,Z⟩;rw[decide_eq_false (show ¬a=b from λe=>by rw[e] at h2;simp at h2)];exact Z
  ·have h2:(!decide (a.getD i 0=b.getD i 0))=false:=h2
   rw[hv] at h2
   have h2:a.getD i 0=b.getD i 0:=by
    rw[Bool.not_eq_false',agT] at h2;exact h2
   refine x.back Z (by simp only[ak,aj];omega) ⟨⟨i+1,by omega,λj hj=>?_⟩,by show a.length-(i+1)<a.length-i;omega,⟨av Z,av Z,Z,(show aI (vi ((i:Int)+1)) (vi ((i+1:Nat):Int)) by rw[agY];rfl),tR⟩,tR,Z⟩
   by_cases e:j=i
   ·rw[e];exact h2
   ·exact hs j (by omega)
 ·have h1:i=a.length:=by have:=agQ h1;omega
  refine x.exit Z tR ⟨.inr Z,?_,tR,Z⟩;rw[decide_eq_true (Ou hl λj hj=>hs j (by omega))];exact Z
theorem Y8(a b:List Cel)(ha:a.length*8≤140737488355328):Pure PG 23 [.d (bT a),.d (bT b)] (vb (decide (a=b))) []:=by
 refine aG.mk (cfg 26) aA [] Tryz.func23 Z (by kernel_rfl) Z Z Z ?_
 intro C x;refine x.cond Z tR (λh=>?_) (λh=>?_)
 ·have h:(!decide ((a.length:Int)=(b.length:Int)))=true:=h
  have h:¬(a.length:Int)=b.length:=by simpa using h
  refine x.exit Z tR ⟨.inr Z,?_,tR,Z⟩;rw[decide_eq_false (show ¬a=b from λe=>h (by rw[e]))];exact Z
 have h:(!decide ((a.length:Int)=(b.length:Int)))=false:=h
 have hl:a.length=b.length:=by
  have:(a.length:Int)=b.length:=by simpa using h
  omega
 refine x.loop (α:={i:Nat // i≤a.length∧∀j,j<i->a.getD j bO=b.getD j bO}) (λy=>⟨[(0,.d (bT a)),(1,.d (bT b)),(12,vi (a.length:Int)),(13,vi (y.1:Int))],[],0⟩) (λy=>a.length-y.1) ⟨0,Nat.zero_le _,λj hj=>by omega⟩ Z tR ⟨⟨av Z,av Z,Z,Z,tR⟩,tR,Z⟩ (λy=>?_)
 obtain⟨i,hi,hs⟩:=y;change Go C _ ⟨[(0,.d (bT a)),(1,.d (bT b)),(12,vi (a.length:Int)),(13,vi (i:Int))],[],0⟩ _;refine x.cond Z tR (λh1=>?_) (λh1=>?_)
 ·have h1:i<a.length:=by have:=agP h1;omega
  refine x.quiet Z tR ay (by kernel_rfl) ?_
  refine x.eY Z (by simp only[ak];omega) ?_
  have hv:(decide ((a.getD i bO).1=(b.getD i bO).1)&&(decide ((a.getD i bO).2=(b.getD i bO).2)&&true))=decide (a.getD i bO=b.getD i bO):=by
   rw[Bool.and_true,←Bool.decide_and,decide_eq_decide,Prod.ext_iff]
  refine x.cond Z tR (λh2=>?_) (λh2=>?_)
  ·have h2:(!(decide ((a.getD i bO).1=(b.getD i bO).1)&&(decide ((a.getD i bO).2=(b.getD i bO).2)&&true)))=true:=h2
   rw[hv] at h2;refine x.exit Z tR ⟨.inr Z,?_,tR,Z⟩;rw[decide_eq_false (show ¬a=b from λe=>by rw[e] at h2;simp at h2)];exact Z
  ·have h2:(!(decide ((a.getD i bO).1=(b.getD i bO).1)&&(decide ((a.getD i bO).2=(b.getD i bO).2)&&true)))=false:=h2
   rw[hv] at h2
   have h2:a.getD i bO=b.getD i bO:=by
    rw[Bool.not_eq_false',agT] at h2;exact h2
   refine x.back Z (by simp only[ak,aj];omega) ⟨⟨i+1,by omega,λj hj=>?_⟩,by show a.length-(i+1)<a.length-i;omega,⟨av Z,av Z,Z,(show aI (vi ((i:Int)+1)) (vi ((i+1:Nat):Int)) by rw[agY];rfl),tR⟩,tR,Z⟩
   by_cases e:j=i
   ·rw[e];exact h2
   ·exact hs j (by omega)
 ·have h1:i=a.length:=by have:=agQ h1;omega
  refine x.exit Z tR ⟨.inr Z,?_,tR,Z⟩;rw[decide_eq_true (Y7 hl λj hj=>hs j (by omega))];exact Z
theorem Ow(a b:Op9)(ha:a.args.length*8≤140737488355328)(hf:a.frm.length*8≤140737488355328):Pure PG 29 [opW a,opW b] (vb (oo a b)) []:=by
 refine aG.mk (cfg 59) aA [] Tryz.func29 Z (by kernel_rfl) Z Z Z ?_
 intro C x;refine x.gG Z tR Z (λ_=>Ov a.args b.args ha) Z ⟨av Z,av Z,tR⟩ ?_
 refine x.gG Z tR Z (λ_=>Ov a.frm b.frm hf) Z ⟨av Z,av Z,tR⟩ ?_
 exact x.exit Z tR ⟨.inr Z,Z,tR,Z⟩
structure OpZ(x:Op9):Prop where
 a:x.args.length*8≤140737488355328
 f:x.frm.length*8≤140737488355328
theorem Q9(a b:List Op9)(ha:a.length*8≤140737488355328)(hz:∀x∈a,OpZ x):Pure PG 28 [.d (um a),.d (um b),.fn 29 []] (vb (lU oo op0 a b)) []:=by
 refine aG.mk (cfg 32) aA [] Tryz.func28 Z (by kernel_rfl) Z Z Z ?_
 intro C x;refine x.cond Z tR (λh=>?_) (λh=>?_)
 ·have h:(!decide ((a.length:Int)=(b.length:Int)))=true:=h
  have h:¬(a.length:Int)=b.length:=by simpa using h
  refine x.exit Z tR ⟨.inr Z,?_,tR,Z⟩;rw[lU,decide_eq_false (show ¬a.length=b.length by omega)];exact Z
 have h:(!decide ((a.length:Int)=(b.length:Int)))=false:=h
 have hl:a.length=b.length:=by
  have:(a.length:Int)=b.length:=by simpa using h
  omega
 have hS:lU oo op0 a b=qF (λi=>oo (a.getD i op0) (b.getD i op0)) a.length 0:=by rw[lU,decide_eq_true hl];rfl
 rw[hS];refine x.loop (α:={i:Nat // i≤a.length∧qF (λi=>oo (a.getD i op0) (b.getD i op0)) (a.length-i) i=qF (λi=>oo (a.getD i op0) (b.getD i op0)) a.length 0}) (λy=>⟨[(1,.d (um b)),(2,.fn 29 []),(15,.d (um a)),(16,vi (a.length:Int)),(17,vi (y.1:Int))],[],0⟩) (λy=>a.length-y.1) ⟨0,Nat.zero_le _,Z⟩ Z tR ⟨⟨av Z,Z,av Z,Z,Z,tR⟩,tR,Z⟩ (λy=>?_)
 obtain⟨i,hi,hs⟩:=y;change Go C _ ⟨[(1,.d (um b)),(2,.fn 29 []),(15,.d (um a)),(16,vi (a.length:Int)),(17,vi (i:Int))],[],0⟩ _;refine x.cond Z tR (λh1=>?_) (λh1=>?_)
 ·have h1:i<a.length:=by have:=agP h1;omega
  rw[sQ h1] at hs;refine x.pure Z (by simp only[ak];omega) Z (Ow (a.getD i op0) (b.getD i op0) (hz _ (getD_in op0 h1)).a (hz _ (getD_in op0 h1)).f) ⟨⟨Z,Z,Z,Z,Z,ah Z,ah Z,Z,Z,tR⟩,⟨Z,Z,Z,Z,Z,ah Z,ah Z,Z,Z,tR⟩,tR⟩ ?_
  cases hp:oo (a.getD i op0) (b.getD i op0) with
  | false=>
   refine x.cond Z tR (λh2=>?_) (λh2=>?_)
   ·refine x.exit Z tR ⟨.inr Z,?_,tR,Z⟩
    rw[←hs,hp];exact Z
   ·cases (show true=false from h2)
  | true=>
   refine x.cond Z tR (λh2=>?_) (λh2=>?_)
   ·cases (show false=true from h2)
   ·rw[hp,Bool.true_and] at hs
    exact x.back Z (by simp only[ak,aj];omega) ⟨⟨i+1,by omega,hs⟩,by show a.length-(i+1)<a.length-i;omega,⟨av Z,Z,av Z,Z,(show aI (vi ((i:Int)+1)) (vi ((i+1:Nat):Int)) by rw[agY];rfl),tR⟩,tR,Z⟩
 ·have h1:i=a.length:=by have:=agQ h1;omega
  refine x.exit Z tR ⟨.inr Z,?_,tR,Z⟩;rw[h1,Nat.sub_self] at hs;rw[←hs];exact Z
theorem Y9(a b:List Op9)(ha:a.length*8≤140737488355328)(hz:∀x∈a,OpZ x):Pure PG 27 [.d (um a),.d (um b)] (vb (oO a b)) []:=by
 refine aG.mk (cfg 8) aA [] Tryz.func27 Z (by kernel_rfl) Z Z Z ?_
 intro C x;refine x.pure Z tR Z (Q9 a b ha hz) ⟨av Z,av Z,Z,tR⟩ ?_;exact x.exit Z tR ⟨.inr Z,Z,tR,Z⟩
theorem Ra(a b:List (List Op9))(ha:a.length*8≤140737488355328)(hz:∀l∈a,l.length*8≤140737488355328∧∀x∈l,OpZ x):Pure PG 26 [.d (kN a),.d (kN b),.fn 27 []] (vb (lU oO ([]:List Op9) a b)) []:=by
 refine aG.mk (cfg 32) aA [] Tryz.func26 Z (by kernel_rfl) Z Z Z ?_
 intro C x;refine x.cond Z tR (λh=>?_) (λh=>?_)
 ·have h:(!decide ((a.length:Int)=(b.length:Int)))=true:=h
  have h:¬(a.length:Int)=b.length:=by simpa using h
  refine x.exit Z tR ⟨.inr Z,?_,tR,Z⟩;rw[lU,decide_eq_false (show ¬a.length=b.length by omega)];exact Z
 have h:(!decide ((a.length:Int)=(b.length:Int)))=false:=h
 have hl:a.length=b.length:=by
  have:(a.length:Int)=b.length:=by simpa using h
  omega
 have hS:lU oO ([]:List Op9) a b=qF (λi=>oO (a.getD i ([]:List Op9)) (b.getD i ([]:List Op9))) a.length 0:=by rw[lU,decide_eq_true hl];rfl
 rw[hS];refine x.loop (α:={i:Nat // i≤a.length∧qF (λi=>oO (a.getD i ([]:List Op9)) (b.getD i ([]:List Op9))) (a.length-i) i=qF (λi=>oO (a.getD i ([]:List Op9)) (b.getD i ([]:List Op9))) a.length 0}) (λy=>⟨[(1,.d (kN b)),(2,.fn 27 []),(15,.d (kN a)),(16,vi (a.length:Int)),(17,vi (y.1:Int))],[],0⟩) (λy=>a.length-y.1) ⟨0,Nat.zero_le _,Z⟩ Z tR ⟨⟨av Z,Z,av Z,Z,Z,tR⟩,tR,Z⟩ (λy=>?_)
 obtain⟨i,hi,hs⟩:=y;change Go C _ ⟨[(1,.d (kN b)),(2,.fn 27 []),(15,.d (kN a)),(16,vi (a.length:Int)),(17,vi (i:Int))],[],0⟩ _;refine x.cond Z tR (λh1=>?_) (λh1=>?_)
 ·have h1:i<a.length:=by have:=agP h1;omega
  rw[sQ h1] at hs;refine x.pure Z (by simp only[ak];omega) Z (Y9 (a.getD i []) (b.getD i []) (hz _ (getD_in [] h1)).1 (hz _ (getD_in [] h1)).2) ⟨av Z,av Z,tR⟩ ?_
  cases hp:oO (a.getD i ([]:List Op9)) (b.getD i ([]:List Op9)) with
  | false=>
   refine x.cond Z tR (λh2=>?_) (λh2=>?_)
   ·refine x.exit Z tR ⟨.inr Z,?_,tR,Z⟩
    rw[←hs,hp];exact Z
   ·cases (show true=false from h2)
  | true=>
   refine x.cond Z tR (λh2=>?_) (λh2=>?_)
   ·cases (show false=true from h2)
   ·rw[hp,Bool.true_and] at hs
    exact x.back Z (by simp only[ak,aj];omega) ⟨⟨i+1,by omega,hs⟩,by show a.length-(i+1)<a.length-i;omega,⟨av Z,Z,av Z,Z,(show aI (vi ((i:Int)+1)) (vi ((i+1:Nat):Int)) by rw[agY];rfl),tR⟩,tR,Z⟩
 ·have h1:i=a.length:=by have:=agQ h1;omega
  refine x.exit Z tR ⟨.inr Z,?_,tR,Z⟩;rw[h1,Nat.sub_self] at hs;rw[←hs];exact Z
structure abm(b:Bod):Prop where
 l:b.blocks.length*8≤140737488355328
 x:∀l∈b.blocks,l.length*8≤140737488355328∧∀x∈l,OpZ x
theorem Rb(a b:Bod)(hz:abm a):Pure PG 25 [.agg [vi a.params,vi a.vars,.d (kN a.blocks)],.agg [vi b.params,vi b.vars,.d (kN b.blocks)]] (vb (j5 a b)) []:=by
 refine aG.mk (cfg 24) aA [] Tryz.func25 Z (by kernel_rfl) Z Z Z ?_
 intro C x;refine x.gG Z tR Z (λ_=>Ra a.blocks b.blocks hz.l hz.x) Z ⟨av Z,av Z,Z,tR⟩ ?_
 exact x.exit Z tR ⟨.inr Z,Z,tR,Z⟩
theorem Ox(a b:List Bod)(ha:a.length*8≤140737488355328)(hz:∀b∈a,abm b):Pure PG 24 [.d (bP a),.d (bP b),.fn 25 []] (vb (lU j5 aB a b)) []:=by
 refine aG.mk (cfg 32) aA [] Tryz.func24 Z (by kernel_rfl) Z Z Z ?_
 intro C x;refine x.cond Z tR (λh=>?_) (λh=>?_)
 ·have h:(!decide ((a.length:Int)=(b.length:Int)))=true:=h
  have h:¬(a.length:Int)=b.length:=by simpa using h
  refine x.exit Z tR ⟨.inr Z,?_,tR,Z⟩;rw[lU,decide_eq_false (show ¬a.length=b.length by omega)];exact Z
 have h:(!decide ((a.length:Int)=(b.length:Int)))=false:=h
 have hl:a.length=b.length:=by
  have:(a.length:Int)=b.length:=by simpa using h
  omega
 have hS:lU j5 aB a b=qF (λi=>j5 (a.getD i aB) (b.getD i aB)) a.length 0:=by rw[lU,decide_eq_true hl];rfl
 rw[hS];refine x.loop (α:={i:Nat // i≤a.length∧qF (λi=>j5 (a.getD i aB) (b.getD i aB)) (a.length-i) i=qF (λi=>j5 (a.getD i aB) (b.getD i aB)) a.length 0}) (λy=>⟨[(1,.d (bP b)),(2,.fn 25 []),(15,.d (bP a)),(16,vi (a.length:Int)),(17,vi (y.1:Int))],[],0⟩) (λy=>a.length-y.1) ⟨0,Nat.zero_le _,Z⟩ Z tR ⟨⟨av Z,Z,av Z,Z,Z,tR⟩,tR,Z⟩ (λy=>?_)
 obtain⟨i,hi,hs⟩:=y;change Go C _ ⟨[(1,.d (bP b)),(2,.fn 25 []),(15,.d (bP a)),(16,vi (a.length:Int)),(17,vi (i:Int))],[],0⟩ _;refine x.cond Z tR (λh1=>?_) (λh1=>?_)
 ·have h1:i<a.length:=by have:=agP h1;omega
  rw[sQ h1] at hs;refine x.pure Z (by simp only[ak];omega) Z (Rb (a.getD i aB) (b.getD i aB) (hz _ (getD_in aB h1))) ⟨⟨Z,Z,ah Z,tR⟩,⟨Z,Z,ah Z,tR⟩,tR⟩ ?_
  cases hp:j5 (a.getD i aB) (b.getD i aB) with
  | false=>
   refine x.cond Z tR (λh2=>?_) (λh2=>?_)
   ·refine x.exit Z tR ⟨.inr Z,?_,tR,Z⟩
    rw[←hs,hp];exact Z
   ·cases (show true=false from h2)
  | true=>
   refine x.cond Z tR (λh2=>?_) (λh2=>?_)
   ·cases (show false=true from h2)
   ·rw[hp,Bool.true_and] at hs
    exact x.back Z (by simp only[ak,aj];omega) ⟨⟨i+1,by omega,hs⟩,by show a.length-(i+1)<a.length-i;omega,⟨av Z,Z,av Z,Z,(show aI (vi ((i:Int)+1)) (vi ((i+1:Nat):Int)) by rw[agY];rfl),tR⟩,tR,Z⟩
 ·have h1:i=a.length:=by have:=agQ h1;omega
  refine x.exit Z tR ⟨.inr Z,?_,tR,Z⟩;rw[h1,Nat.sub_self] at hs;rw[←hs];exact Z
def nE(p:Pol)(c:Cod):Option Prg:=
 if (gW p&&(decide (c.funcs.length≤64)&&decide (c.arrays.length≤16)))=true then
  match kC p c with
  | none=>none
  | some q=>if (decide ((ig p q).2.2=0)&&(decide ((ig p q).1.main=c.main)&&(decide ((ig p q).1.arrays=c.arrays)&&sV (ig p q).1.funcs c.funcs)))=true then some q else none
 else none
abbrev Lg:Option Prg->V
 | some q=>.tup [Ns q,vi 0]
 | none=>.tup [Ns ⟨[],[]⟩,vi 1]
structure RsZ(c:Cod):Prop where
 a:c.arrays.length*8≤140737488355328
 f:c.funcs.length*8≤140737488355328
 b:∀b∈c.funcs,abm b
theorem qW:Lg none=.tup [.agg [.d (bX []),.d (bW [])],vi 1]:=rfl
theorem zS(p:Pol)(c:Cod)(hz:QZ p)(hp:p.ins.length≤1000000000∧p.outs.length≤1000000000)(hc:Ot c)(hq:∀q,kC p c=some q->Oh q)(hr:∀q,kC p c=some q->RsZ (ig p q).1):Pure PG 8 [Bf p,rO c] (Lg (nE p c)) []:=by
 have hal:=hc.al;have hfl:=hc.fl;refine aG.mk (cfg 71) aA [] Tryz.func8 Z (by kernel_rfl) Z Z (by unfold nE;split<;>(first | rfl | (split<;>first | rfl | (split<;>rfl)))) ?_
 intro C x;refine x.pure Z tR Z (Em p hz) ⟨⟨ah Z,ah Z,ah Z,ah Z,Z,tR⟩,tR⟩ ?_
 have hv:((!gW p||decide (64<(c.funcs.length:Int)))||decide (16<(c.arrays.length:Int)))=!(gW p&&(decide (c.funcs.length≤64)&&decide (c.arrays.length≤16))):=by
  rw[show decide (64<(c.funcs.length:Int))=!decide (c.funcs.length≤64) by rw[←decide_not,decide_eq_decide];omega,show decide (16<(c.arrays.length:Int))=!decide (c.arrays.length≤16) by rw[←decide_not,decide_eq_decide];omega]
  cases gW p<;>cases decide (c.funcs.length≤64)<;>cases decide (c.arrays.length≤16)<;>rfl
 refine x.cond Z tR (λh=>?_) (λh=>?_)
 ·have h:((!gW p||decide (64<(c.funcs.length:Int)))||decide (16<(c.arrays.length:Int)))=true:=h
  rw[hv,agZ] at h;rw[nE,if_neg (by rw[h];simp),qW]
  refine x.nu ?_;exact x.exit Z tR ⟨⟨[(4,.ptr 2 0),(5,vi 1)],[(2,.box [.d (bX []),.d (bW [])])],3⟩,⟨⟨⟨Z,Z⟩,Z,tR⟩,⟨⟨Z,Z,tR⟩,tR⟩,Z⟩,.inr Z,⟨Z,Z,tR⟩,tR,Z⟩
 have h:((!gW p||decide (64<(c.funcs.length:Int)))||decide (16<(c.arrays.length:Int)))=false:=h
 rw[hv,Bool.not_eq_false'] at h;rw[nE,if_pos h];have hrs:=Q8 p c hz.toPolSz hp hc;obtain⟨Q,hQ⟩:∃Q,kC p c=Q:=⟨_,Z⟩;rw[hQ] at hrs ⊢;refine x.pure Z tR Z hrs ⟨⟨ah Z,ah Z,ah Z,ah Z,Z,tR⟩,⟨ah Z,ah Z,Z,tR⟩,tR⟩ ?_
 rcases Q with _ | q
 ·rw[qW]
  refine x.cond Z tR (λh2=>?_) (λh2=>?_)
  ·refine x.nu ?_
   exact x.exit Z tR ⟨⟨[(4,.ptr 2 0),(5,vi 1)],[(2,.box [.d (bX []),.d (bW [])])],4⟩,⟨⟨⟨Z,Z⟩,Z,tR⟩,⟨⟨Z,Z,tR⟩,tR⟩,Z⟩,.inr Z,⟨Z,Z,tR⟩,tR,Z⟩
  ·cases (show true=false from h2)
 have hqq:=hq q hQ;have hz9:=hr q hQ;refine x.cond Z tR (λh2=>?_) (λh2=>?_)
 ·cases (show false=true from h2)
 have hres:=mE p q hz hqq;obtain⟨V,hV⟩:∃V,ig p q=V:=⟨_,Z⟩;rw[hV] at hres hz9;obtain⟨c',a',e'⟩:=V;have hV1:(ig p q).1=c':=by rw[hV]
 have hV2:(ig p q).2.2=e':=by rw[hV]
 simp only[hV1,hV2];have hz9:RsZ c':=hz9;refine x.pure Z tR Z hres ⟨⟨ah Z,ah Z,ah Z,ah Z,Z,tR⟩,⟨ah Z,ah Z,tR⟩,tR⟩ ?_;refine x.gG Z tR Z (λ_=>Y8 c'.arrays c.arrays hz9.a) Z ⟨av Z,av Z,tR⟩ ?_
 have hv2:((!decide (e'=0)||!decide (c'.main=c.main))||!decide (c'.arrays=c.arrays))=!(decide (e'=0)&&(decide (c'.main=c.main)&&decide (c'.arrays=c.arrays))):=by
  cases decide (e'=0)<;>cases decide (c'.main=c.main)<;>cases decide (c'.arrays=c.arrays)<;>rfl
 refine x.cond Z tR (λh3=>?_) (λh3=>?_)
 ·have h3:((!decide (e'=0)||!decide (c'.main=c.main))||!decide (c'.arrays=c.arrays))=true:=h3
  rw[hv2,agZ] at h3;rw[if_neg (by revert h3;cases decide (e'=0)<;>cases decide (c'.main=c.main)<;>cases decide (c'.arrays=c.arrays)<;>simp),qW]
  refine x.nu ?_;exact x.exit Z tR ⟨⟨[(4,.ptr 2 0),(5,vi 1)],[(2,.box [.d (bX []),.d (bW [])])],5⟩,⟨⟨⟨Z,Z⟩,Z,tR⟩,⟨⟨Z,Z,tR⟩,tR⟩,Z⟩,.inr Z,⟨Z,Z,tR⟩,tR,Z⟩
 have h3:((!decide (e'=0)||!decide (c'.main=c.main))||!decide (c'.arrays=c.arrays))=false:=h3
 rw[hv2,Bool.not_eq_false'] at h3
 have h4:(decide (e'=0)&&(decide (c'.main=c.main)&&(decide (c'.arrays=c.arrays)&&sV c'.funcs c.funcs)))=sV c'.funcs c.funcs:=by
  simp only[agN] at h3;rw[h3.1,h3.2.1,h3.2.2];rfl
 rw[h4];refine x.pure Z tR Z (Ox c'.funcs c.funcs hz9.f hz9.b) ⟨av Z,av Z,Z,tR⟩ ?_
 have hS:lU j5 aB c'.funcs c.funcs=sV c'.funcs c.funcs:=rfl
 rw[hS]
 cases hs:sV c'.funcs c.funcs with
 | false=>
  rw[if_neg (by simp),qW]
  refine x.cond Z tR (λh5=>?_) (λh5=>?_)
  ·refine x.nu ?_
   exact x.exit Z tR ⟨⟨[(4,.ptr 2 0),(5,vi 1)],[(2,.box [.d (bX []),.d (bW [])])],5⟩,⟨⟨⟨Z,Z⟩,Z,tR⟩,⟨⟨Z,Z,tR⟩,tR⟩,Z⟩,.inr Z,⟨Z,Z,tR⟩,tR,Z⟩
  ·cases (show true=false from h5)
 | true=>
  rw[if_pos rfl];refine x.cond Z tR (λh5=>?_) (λh5=>?_)
  ·cases (show false=true from h5)
  exact x.exit Z tR ⟨.inr Z,⟨Z,Z,tR⟩,tR,Z⟩
theorem Oy(p:Pol)(c:Cod)(hz:QZ p)(hp:p.ins.length≤1000000000∧p.outs.length≤1000000000)(hc:Ot c)(hq:∀q,kC p c=some q->Oh q)(hr:∀q,kC p c=some q->RsZ (ig p q).1):Pure PG 13 [Bf p,rO c] (vb (nE p c).isSome) []:=by
 have hs:=zS p c hz hp hc hq hr;refine aG.mk (cfg 15) aA [] Tryz.func13 Z (by kernel_rfl) Z Z Z ?_
 intro C x;obtain⟨R,hR⟩:∃R,nE p c=R:=⟨_,Z⟩;rw[hR] at hs ⊢;refine x.pure Z tR Z hs ⟨⟨ah Z,ah Z,ah Z,ah Z,Z,tR⟩,⟨ah Z,ah Z,Z,tR⟩,tR⟩ ?_
 rcases R with _ | q
 ·exact x.exit Z tR ⟨.inr Z,Z,tR,Z⟩
 ·exact x.exit Z tR ⟨.inr Z,Z,tR,Z⟩
end Go.Proofs.YtojhdmfkfkfcbaaGreatDoor
