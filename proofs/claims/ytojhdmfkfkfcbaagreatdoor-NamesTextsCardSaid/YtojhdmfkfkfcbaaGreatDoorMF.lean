import Derived.Test.YtojhdmfkfkfcbaaGreatDoorME
import Derived.Test.YtojhdmfkfkfcbaaGreatDoorSxH
namespace Go.Proofs.YtojhdmfkfkfcbaaGreatDoor
open Go.Sx
set_option linter.unusedVariables false
set_option linter.unusedSimpArgs false
set_option maxRecDepth 100000
theorem res1_pan (f1 f2:Nat->List D) (a e:Int):Later PG 50 [.ptr 0 0, .ptr 1 0, .ptr 2 0] [.box [.dead, .dead, .dead], .box [.dead], .box [.dead]] (.pan stopN [(.i64,a),(.i64,e)]) [.box [.d (.sl 2 0 f1), .d (.sl 3 0 f2),vi 0], .box [vi a], .box [vi e]]:=by
 refine Later.mk (cfgF 22 3) tysOK [0,1,2] Tryz.func50 rfl (by kernel_rfl) rfl rfl rfl rfl rfl rfl rfl rfl rfl rfl ?_
 intro C x
 refine x.cond rfl tR (fun h=>?_) (fun h=>?_)
 rotate_left
 ·cases h
 refine x.cond rfl tR (fun h=>?_) (fun h=>?_)
 ·cases h
 refine x.draw [0,1] [] [0,1,2,3,4] [5,6] [7] rfl tR mixedP (by kernel_rfl) (NoPanic.quiet Ret.noPanic) rfl tR (fun C1 x1=>?_)
 refine x1.back rfl tR ?_
 refine x1.back rfl tR ?_
 refine x.exit rfl tR ?_
 exact⟨.inl rfl,tR,⟨⟨rfl,rfl,rfl,tR⟩,⟨rfl,tR⟩,⟨rfl,tR⟩,tR⟩,rfl⟩
theorem res1_back (z1 n1 z2 n2:Nat) (f1 f2:Nat->List D) (k a e:Int):Later PG 50 [.ptr 0 0, .ptr 1 0, .ptr 2 0] [.box [.d (.sl z1 n1 f1), .d (.sl z2 n2 f2),vi k], .box [vi a], .box [vi e]] .back [.box [.d (.sl z1 n1 f1), .d (.sl z2 n2 f2),vi k], .box [vi a], .box [vi e]]:=by
 refine Later.mk (cfgF 22 3) tysOK [0,1,2] Tryz.func50 rfl (by kernel_rfl) rfl rfl rfl rfl rfl rfl rfl rfl rfl rfl ?_
 intro C x
 refine x.cond rfl tR (fun h=>?_) (fun h=>?_)
 ·cases h
 refine x.exit rfl tR ?_
 exact⟨.inl rfl,tR,⟨⟨veq0_d rfl,veq0_d rfl,rfl,tR⟩,⟨rfl,tR⟩,⟨rfl,tR⟩,tR⟩,rfl⟩
theorem sumg_mem {α:Type} {g:α->Nat} {l:List α} {a:α} (h:a∈l):g a≤(l.map g).sum:=by
 induction l with
 | nil=>cases h
 | cons b l ih=>
  simp only[List.map_cons,List.sum_cons]
  rcases List.mem_cons.1 h with rfl | h
  ·omega
  ·have:=ih h;omega
structure PrgSz (q:Prg):Prop where
 al:q.arrays.length≤16
 fl:q.funcs.length≤64
 f:∀f∈q.funcs,f.params.length≤6∧f.blocks.length≤64∧∀b∈f.blocks,b.code.length≤4096∧∀x∈b.code,InsSz x
theorem ins_sz {x:Ins} (h:rightI x=true):InsSz x:=by
 unfold rightI at h
 split at h
 ·cases h
 ·split at h
  ·simp only[Bool.and_eq_true,decide_eq_true_eq] at h
   exact⟨by omega,by omega⟩
  ·split at h
   ·cases h
   ·rw[Bool.and_eq_true,Bool.not_eq_true'] at h
    have h1:=h.1
    simp only[Bool.or_eq_false_iff,decide_eq_false_iff_not] at h1
    exact⟨by omega,by omega⟩
theorem right_sz {q:Prg} (h:rightG q=true):PrgSz q:=by
 unfold rightG at h
 simp only[Bool.and_eq_true,Bool.not_eq_true',Bool.or_eq_false_iff,decide_eq_true_eq,decide_eq_false_iff_not,List.all_eq_true] at h
 obtain⟨⟨⟨⟨h1,h2⟩,h3⟩,h4⟩,h5⟩:=h
 refine⟨by omega,by omega,fun f hf=>?_⟩
 have h6:=h4 f hf
 unfold funOK at h6
 simp only[Bool.and_eq_true,Bool.not_eq_true',Bool.or_eq_false_iff,decide_eq_false_iff_not,List.all_eq_true] at h6
 obtain⟨⟨⟨⟨⟨g1,g2⟩,g3⟩,g4⟩,g5⟩,g6⟩:=h6
 refine⟨by omega,by omega,fun b hb=>?_⟩
 have h7:=g6 b hb
 unfold blkOK at h7
 rw[Bool.and_eq_true,List.all_eq_true] at h7
 refine⟨?_,fun x hx=>ins_sz (h7.2 x hx)⟩
 have e1:=sumg_mem (g:=fun b:Blk=>b.code.length) hb
 have e2:=sumg_mem (g:=fun f:Fun=>(f.blocks.map fun b=>b.code.length).sum) hf
 unfold progN8 at h5
 omega
theorem fun_in {q:Prg} {i:Nat} (h:i<q.funcs.length):q.funcs.getD i fun0∈q.funcs:=by rw[List.getD_eq_getElem?_getD,List.getElem?_eq_getElem h];exact List.getElem_mem h
theorem blk_in {f:Fun} {i:Nat} (h:i<f.blocks.length):f.blocks.getD i blk0∈f.blocks:=by rw[List.getD_eq_getElem?_getD,List.getElem?_eq_getElem h];exact List.getElem_mem h
theorem PrgSz.fn {q:Prg} (h:PrgSz q) {f:Fun} (hf:f∈q.funcs):FunSz f:=by
 obtain⟨h1,h2,h3⟩:=h.f f hf
 exact⟨by omega,by omega,fun b hb=>by have:=(h3 b hb).1;omega⟩
theorem PrgSz.bk {q:Prg} (h:PrgSz q) {f:Fun} (hf:f∈q.funcs) {b:Blk} (hb:b∈f.blocks):BlkSz b:=by
 obtain⟨h1,h2⟩:=(h.f f hf).2.2 b hb
 exact⟨by omega,h2⟩
theorem nmsF_len:∀{L:List (ByteArray×Int)} {acc o:List ByteArray},nmsF acc L=.ok o->o.length=acc.length+L.length
 | [],acc,o,h=>by cases h;rfl
 | (s,a)::r,acc,o,h=>by
  rw[nmsF] at h
  split at h
  ·cases h
  ·have:=nmsF_len h
   simp only[List.length_append,List.length_cons,List.length_nil] at this ⊢
   omega
structure ArW (p:Pol) (q:Prg) (R:Flt (List ByteArray×List Cel)) where
 i:Nat
 acc:List ByteArray
 cs:List Cel
 hi:i≤q.arrays.length
 ha:acc.length=i
 hc:cs.length=i
 same:arrsF p (q.arrays.drop i) acc cs=R
theorem arrs_step {p:Pol} {q:Prg} {i:Nat} (h:i<q.arrays.length) (acc:List ByteArray) (cs:List Cel):arrsF p (q.arrays.drop i) acc cs=if posB acc (q.arrays.getD i arr0).name=true then .error ((q.arrays.getD i arr0).at_,9) else bd (knownV (idxS p.lev (q.arrays.getD i arr0).level) (q.arrays.getD i arr0).at_) fun k=>arrsF p (q.arrays.drop (i+1)) (acc++[(q.arrays.getD i arr0).name]) (cs++[((q.arrays.getD i arr0).size,k)]):=by
 have e:q.arrays[i]=q.arrays.getD i arr0:=by rw[List.getD_eq_getElem?_getD,List.getElem?_eq_getElem h];rfl
 rw[List.drop_eq_getElem_cons h,e,arrsF]
structure ScW (q:Prg) (R:Flt (List Scp)) where
 i:Nat
 acc:List Scp
 hi:i≤q.funcs.length
 ha:acc.length=i
 same:scpsF (q.funcs.drop i) acc=R
theorem scps_step {q:Prg} {i:Nat} (h:i<q.funcs.length) (acc:List Scp):scpsF (q.funcs.drop i) acc=bd (scpV (q.funcs.getD i fun0)) fun s=>scpsF (q.funcs.drop (i+1)) (acc++[s]):=by
 have e:q.funcs[i]=q.funcs.getD i fun0:=by rw[List.getD_eq_getElem?_getD,List.getElem?_eq_getElem h];rfl
 rw[List.drop_eq_getElem_cons h,e,scpsF]
structure BoW (r:Res) (ss:List Scp) (R:Flt (List Bod)) where
 i:Nat
 acc:List Bod
 hi:i≤r.q.funcs.length
 ha:acc.length=i
 same:bodsF r ss (r.q.funcs.drop i) i acc=R
theorem bods_step {r:Res} {ss:List Scp} {i:Nat} (h:i<r.q.funcs.length) (acc:List Bod):bodsF r ss (r.q.funcs.drop i) i acc=bd (bodV r (ss.getD i scp0) (r.q.funcs.getD i fun0)) fun b=>bodsF r ss (r.q.funcs.drop (i+1)) (i+1) (acc++[b]):=by
 have e:r.q.funcs[i]=r.q.funcs.getD i fun0:=by rw[List.getD_eq_getElem?_getD,List.getElem?_eq_getElem h];rfl
 rw[List.drop_eq_getElem_cons h,e,bodsF]
structure BlW (r:Res) (s:Scp) (f:Fun) (R:Flt (List (List Op9))) where
 j:Nat
 acc:List (List Op9)
 hj:j≤f.blocks.length
 ha:acc.length=j
 same:blks9F r s (f.blocks.drop j) acc=R
theorem blks9_step {r:Res} {s:Scp} {f:Fun} {i:Nat} (h:i<f.blocks.length) (acc:List (List Op9)):blks9F r s (f.blocks.drop i) acc=bd (blk9V r s (f.blocks.getD i blk0)) fun y=>blks9F r s (f.blocks.drop (i+1)) (acc++[y]):=by
 have e:f.blocks[i]=f.blocks.getD i blk0:=by rw[List.getD_eq_getElem?_getD,List.getElem?_eq_getElem h];rfl
 rw[List.drop_eq_getElem_cons h,e,blks9F]
abbrev celC (l:List Cel):Ch:=.vec 66 2 l.length fun i=>[.int .i64 (l.getD i cel0).1, .int .i64 (l.getD i cel0).2]
abbrev spC (l:List Scp):Ch:=.vec 133 2 l.length fun i=>[.mp (l.getD i scp0).blks, .mp (l.getD i scp0).vals]
abbrev bksC (l:List (List Op9)):Ch:=.vec 61 1 l.length fun i=>[dOps (l.getD i [])]
abbrev bodC (l:List Bod):Ch:=.vec 60 3 l.length fun i=>dBod (l.getD i bod0)
abbrev dSps (l:List Scp):D:=.sl 2 l.length fun i=>[.mp (l.getD i scp0).blks, .mp (l.getD i scp0).vals]
abbrev resR (R:Cod×Int×Int):V:=.tup [codW R.1,vi R.2.1,vi R.2.2]
set_option maxHeartbeats 16000000 in
theorem resolve_spec (p:Pol) (q:Prg) (hz:PolZ p) (hq:FitP q):Pure PG 17 [vPol p,prgV q] (resR (resV p q)) []:=by
 obtain⟨i1,i2,i3,i4⟩:=polSz_i64 hz.toPolSz
 refine Proc.mkDefer (cfg 182) tysOK [] 2 [4,5,6] Tryz.func17 rfl rfl (by kernel_rfl) rfl rfl rfl ?_
 intro C x
 refine x.pure rfl tR rfl (pright_spec p hz) ⟨⟨veq0_d rfl,veq0_d rfl,veq0_d rfl,veq0_d rfl,rfl,tR⟩,tR⟩ ?_
 refine x.pureG rfl tR rfl (fun _=>rightp_spec q hq) rfl ⟨⟨veq0_d rfl,veq0_d rfl,tR⟩,tR⟩ ?_
 refine x.cond rfl tR (fun h=>?_) (fun h=>?_)
 ·have h:(!rightP p||!rightG q)=true:=h
  rw[resV,if_neg (by revert h;cases rightP p<;>cases rightG q<;>simp)]
  refine x.leExit ?_
  exact x.exit rfl tR ⟨⟨[(4, .ptr 2 0),(5, .ptr 3 0),(6, .ptr 4 0)],[(2, .box [.d (dCels []), .d (dBods []),vi 0]),(3, .box [vi 0]),(4, .box [vi 1])],5⟩,⟨⟨⟨rfl,rfl⟩,⟨rfl,rfl⟩,⟨rfl,rfl⟩,tR⟩,⟨⟨rfl,rfl,rfl,tR⟩,⟨rfl,tR⟩,⟨rfl,tR⟩,tR⟩,rfl⟩, .inr rfl,⟨rfl,rfl,rfl,tR⟩,tR,rfl⟩
 have h:(!rightP p||!rightG q)=false:=h
 have hR:(rightP p&&rightG q)=true:=by revert h;cases rightP p<;>cases rightG q<;>simp
 have hs:=right_sz (Bool.and_eq_true _ _▸hR).2
 rw[resV,if_pos hR]
 refine x.back rfl tR ?_
 refine x.back rfl tR ?_
 refine⟨_,_,5,rfl,rfl,⟨_,Tryz.func50,rfl,by kernel_rfl⟩,fun C1 x1=>?_⟩
 clear x
 obtain⟨AR,hAR⟩:∃AR,arrsF p q.arrays [] []=AR:=⟨_,rfl⟩
 have hcod:codV p q=bd AR fun ac=>bd (nmsF [] (q.funcs.map fun f=>(f.name,f.at_))) fun fn=>if mainB q fn=true then bd (scpsF q.funcs []) fun ss=>bd (bodsF ⟨p,q,ac.1,fn⟩ ss q.funcs 0 []) fun bs=>.ok ⟨ac.2,bs,posN fn mainS⟩ else .error (0,14):=by rw[←hAR];rfl
 obtain⟨CV,hCV⟩:∃CV,codV p q=CV:=⟨_,rfl⟩
 rw[hCV] at hcod ⊢
 have hal:=hs.al
 have hfl:=hs.fl
 refine x1.toLoop rfl tR ?_
 refine Go.ownB 2 0 66 2 (fun i=>[.int .i64 (([]:List Cel).getD i cel0).1, .int .i64 (([]:List Cel).getD i cel0).2]) rfl rfl ?_
 refine x1.loop (α:=ArW p q AR) (fun y=>⟨[(2, .ptr 0 0),(3, .ptr 1 0),(4, .ptr 2 0),(5, .ptr 3 0),(6, .ptr 4 0),(7, .ptr 6 0),(40, .d (dArrs q.arrays)),(41,vi (q.arrays.length:Int)),(42,vi (y.i:Int))],[(0,polB p),(1, .box [.d (dArrs q.arrays), .d (dFuns q.funcs)]),(2, .box [.own 7, .nils,vi 0]),(3, .box [vi 0]),(4, .box [vi 0]),(5, .pos y.acc),(6, .box [vSs p.lev,vU p.up,vChs p.ins,vChs p.outs,vi p.depth, .d (dArrs q.arrays), .d (dFuns q.funcs), .own 5, .dead]),(7,celC y.cs)],8⟩) (fun y=>q.arrays.length-y.i) ⟨0,[],[],Nat.zero_le _,rfl,rfl,hAR⟩ rfl tR ⟨⟨⟨rfl,rfl⟩,⟨rfl,rfl⟩,⟨rfl,rfl⟩,⟨rfl,rfl⟩,⟨rfl,rfl⟩,⟨rfl,rfl⟩,veq_d rfl,rfl,rfl,tR⟩,⟨polB_eq p,⟨veq0_d rfl,veq0_d rfl,tR⟩,⟨rfl,tR,rfl,tR⟩,⟨rfl,tR⟩,⟨rfl,tR⟩,tR,⟨veq0_d rfl,veq0_d rfl,veq0_d rfl,veq0_d rfl,rfl,veq0_d rfl,veq0_d rfl,rfl,rfl,tR⟩,⟨rfl,rfl,rfl,fun _ h=>absurd h (Nat.not_lt_zero _)⟩,tR⟩,rfl⟩ (fun y=>?_)
 obtain⟨i,acc,cs,hi,ha,hc,same⟩:=y
 change Go C1 _ ⟨[(2, .ptr 0 0),(3, .ptr 1 0),(4, .ptr 2 0),(5, .ptr 3 0),(6, .ptr 4 0),(7, .ptr 6 0),(40, .d (dArrs q.arrays)),(41,vi (q.arrays.length:Int)),(42,vi (i:Int))],[(0,polB p),(1, .box [.d (dArrs q.arrays), .d (dFuns q.funcs)]),(2, .box [.own 7, .nils,vi 0]),(3, .box [vi 0]),(4, .box [vi 0]),(5, .pos acc),(6, .box [vSs p.lev,vU p.up,vChs p.ins,vChs p.outs,vi p.depth, .d (dArrs q.arrays), .d (dFuns q.funcs), .own 5, .dead]),(7,celC cs)],8⟩ _
 refine x1.cond rfl tR (fun h1=>?_) (fun h1=>?_)
 ·have h1:i<q.arrays.length:=by have:=of_decide_eq_true h1;omega
  rw[arrs_step h1] at same
  refine x1.quiet rfl (by simp only[AllP];omega) mixedP (by kernel_rfl) ?_
  refine x1.qdone rfl tR ?_
  cases hp:posB acc (q.arrays.getD i arr0).name with
  | true=>
   rw[hp,if_pos rfl] at same
   subst same
   rw[bd] at hcod
   subst hcod
   refine x1.dieP [4,5,6] [] rfl tR rfl (need_die (q.arrays.getD i arr0).at_ 9) ⟨(show VEq0 (vb (!posB acc (q.arrays.getD i arr0).name)) (vb false) by rw[hp];exact rfl),rfl,rfl,tR⟩ rfl tR ?_
   exact⟨.pan stopN [(.i64,_),(.i64,_)],[.ptr 0 0, .ptr 1 0, .ptr 2 0],[2,3,4],_,_,_,rfl,fun _=>rfl,fun _ _ _ _ h=>(((h.dim 2).dim 3).dim 4),res1_pan (fun i=>[.int .i64 (([]:List Cel).getD i cel0).1, .int .i64 (([]:List Cel).getD i cel0).2]) (fun i=>dBod (([]:List Bod).getD i bod0)) _ _,⟨⟨rfl,rfl⟩,⟨rfl,rfl⟩,⟨rfl,rfl⟩,tR⟩,rfl,⟨⟨rfl,rfl,rfl,tR⟩,⟨rfl,tR⟩,⟨rfl,tR⟩,tR⟩, .inr rfl,⟨rfl,rfl,rfl,tR⟩,tR,rfl⟩
  | false=>
   rw[hp,if_neg (by simp)] at same
   refine x1.pure rfl tR rfl (need_ok (q.arrays.getD i arr0).at_ 9) ⟨(show VEq0 (vb (!posB acc (q.arrays.getD i arr0).name)) (vb true) by rw[hp];exact rfl),rfl,rfl,tR⟩ ?_
   refine x1.every3Q 9 [5] [0,1,2,3,4,5,6] (.fork 7 .leaf .no)
    ⟨[(2, .ptr 0 0),(3, .ptr 1 0),(4, .ptr 2 0),(5, .ptr 3 0),(6, .ptr 4 0),(7, .ptr 6 0),(40, .d (dArrs q.arrays)),(41,vi (q.arrays.length:Int)),(42,vi (i:Int)),(9, .ptr 8 0)],[(5, .pos (acc++[(q.arrays.getD i arr0).name]))],9⟩ rfl tR mixedP rfl (by kernel_rfl) (RetLater.quiet (by kernel_rfl)) rfl tR (fun C2 x2=>?_) ?_
   ·exact⟨x2.back rfl (by refine⟨hp,?_⟩;simp only[AllP];omega) (Or.inl ⟨⟨⟨rfl,rfl⟩,⟨rfl,rfl⟩,⟨rfl,rfl⟩,⟨rfl,rfl⟩,⟨rfl,rfl⟩,⟨rfl,rfl⟩,veq_d rfl,rfl,rfl,⟨rfl,rfl⟩,tR⟩,⟨rfl,tR⟩,rfl⟩),tR⟩
   refine x1.pure rfl tR rfl (level_spec p.lev (q.arrays.getD i arr0).level i1) ⟨⟨veq0_d rfl,rfl,rfl,rfl,rfl,tR⟩,rfl,tR⟩ ?_
   refine x1.code rfl tR ?_
   refine x1.perm [0,1,2,3,4,5,6,8,7] rfl ?_
   by_cases hk:0≤idxS p.lev (q.arrays.getD i arr0).level
   rotate_left
   ·rw[knownV,if_neg hk,bd] at same
    subst same
    rw[bd] at hcod
    subst hcod
    refine x1.every3D 8 [2,8] [0,2,3,4,5,6,7] (.fork 1 (.fork 8 (.fork 9 (.fork 10 (.fork 11 (.fork 12 (.fork 13 .leaf .no) .no) .no) .no) .no) .no) (.fork 8 (.fork 1 (.fork 9 (.fork 10 (.fork 11 (.fork 12 (.fork 13 .leaf .no) .no) .no) .no) .no) (.fork 9 (.fork 1 (.fork 10 (.fork 11 (.fork 12 (.fork 13 .leaf .no) .no) .no) .no) (.fork 10 (.fork 1 (.fork 11 (.fork 12 (.fork 13 .leaf .no) .no) .no) .no) .no)) .no)) .no)) rfl tR mixedP rfl (by kernel_rfl) (RetLater.quiet (by kernel_rfl)) rfl tR (fun C2 x2=>?_)
    repeat' first
     | exact True.intro
     | refine And.intro ?_ ?_
     | refine x2.dieP [4,5,6] [] rfl tR rfl (known_die _ (q.arrays.getD i arr0).at_) ⟨rfl,(show VEq0 (vb (decide (0≤idxS p.lev (q.arrays.getD i arr0).level))) (vb false) by rw[decide_eq_false hk];exact rfl),rfl,tR⟩ rfl tR ⟨⟨_,rfl⟩,rfl,?_⟩
     | exact⟨.pan stopN [(.i64,_),(.i64,_)],[.ptr 0 0, .ptr 1 0, .ptr 2 0],[2,3,4],_,_,_,rfl,fun _=>rfl,fun _ _ _ _ h=>(((h.dim 2).dim 3).dim 4),res1_pan (fun i=>[.int .i64 (([]:List Cel).getD i cel0).1, .int .i64 (([]:List Cel).getD i cel0).2]) (fun i=>dBod (([]:List Bod).getD i bod0)) _ _,⟨⟨rfl,rfl⟩,⟨rfl,rfl⟩,⟨rfl,rfl⟩,tR⟩,rfl,⟨⟨rfl,rfl,rfl,tR⟩,⟨rfl,tR⟩,⟨rfl,tR⟩,tR⟩, .inr rfl,⟨rfl,rfl,rfl,tR⟩,tR,rfl⟩
     | refine x2.back rfl tR ?_
   ·rw[knownV,if_pos hk,bd] at same
    refine x1.every3Q 8 [2,8] [0,2,3,4,5,6,7] (.fork 1 (.fork 8 (.fork 9 (.fork 10 (.fork 11 (.fork 12 (.fork 13 .leaf .no) .no) .no) .no) .no) .no) (.fork 8 (.fork 1 (.fork 9 (.fork 10 (.fork 11 (.fork 12 (.fork 13 .leaf .no) .no) .no) .no) .no) (.fork 9 (.fork 1 (.fork 10 (.fork 11 (.fork 12 (.fork 13 .leaf .no) .no) .no) .no) (.fork 10 (.fork 1 (.fork 11 (.fork 12 (.fork 13 .leaf .no) .no) .no) .no) .no)) .no)) .no))
     ⟨[(2, .ptr 0 0),(3, .ptr 1 0),(4, .ptr 2 0),(5, .ptr 3 0),(6, .ptr 4 0),(7, .ptr 6 0),(40, .d (dArrs q.arrays)),(41,vi (q.arrays.length:Int)),(42,vi (i:Int))],[(2, .box [.own 8, .nils,vi 0]),(8,celC (cs++[((q.arrays.getD i arr0).size,idxS p.lev (q.arrays.getD i arr0).level)]))],9⟩ rfl tR mixedP rfl (by kernel_rfl) (RetLater.quiet (by kernel_rfl)) rfl tR (fun C2 x2=>?_) ?_
    ·repeat' first
      | exact True.intro
      | refine And.intro ?_ ?_
      | refine x2.pure rfl tR rfl (known_ok (idxS p.lev (q.arrays.getD i arr0).level) (q.arrays.getD i arr0).at_) ⟨(show VEq0 (vi (if 0 > idxS p.lev (q.arrays.getD i arr0).level then 0 else idxS p.lev (q.arrays.getD i arr0).level)) (vi (idxS p.lev (q.arrays.getD i arr0).level)) by rw[if_neg (by omega)];exact rfl),(show VEq0 (vb (decide (0≤idxS p.lev (q.arrays.getD i arr0).level))) (vb true) by rw[decide_eq_true hk];exact rfl),rfl,tR⟩ (x2.back rfl tR ?_)
      | refine x2.back rfl tR ?_
      | refine x2.back rfl (by simp only[AllP,big];omega) ?_
      | exact Or.inl ⟨⟨⟨rfl,rfl⟩,⟨rfl,rfl⟩,⟨rfl,rfl⟩,⟨rfl,rfl⟩,⟨rfl,rfl⟩,⟨rfl,rfl⟩,veq_d rfl,rfl,rfl,tR⟩,⟨⟨rfl,tR,rfl,tR⟩,⟨rfl,rfl,by simp,fun j hj=>app_gen6 (fun c:Cel=>[D.int .i64 c.1,D.int .i64 c.2]) 2 (fun _=>rfl) cel0 cs ((q.arrays.getD i arr0).size,idxS p.lev (q.arrays.getD i arr0).level) j hj⟩,tR⟩,rfl⟩
    refine x1.perm [0,1,2,3,4,5,6,8,7] rfl ?_
    exact x1.back rfl (by simp only[AllP,inI64];omega) ⟨⟨i+1,acc++[(q.arrays.getD i arr0).name],cs++[((q.arrays.getD i arr0).size,idxS p.lev (q.arrays.getD i arr0).level)],by omega,by simp [ha],by simp [hc],same⟩,by show q.arrays.length-(i+1)<q.arrays.length-i;omega,⟨⟨rfl,rfl⟩,⟨rfl,rfl⟩,⟨rfl,rfl⟩,⟨rfl,rfl⟩,⟨rfl,rfl⟩,⟨rfl,rfl⟩,veq_d rfl,rfl,(show VEq0 (vi ((i:Int)+1)) (vi ((i+1:Nat):Int)) by rw[Int.natCast_add];rfl),tR⟩,⟨polB_eq p,⟨veq0_d rfl,veq0_d rfl,tR⟩,⟨rfl,tR,rfl,tR⟩,⟨rfl,tR⟩,⟨rfl,tR⟩,rfl,⟨veq0_d rfl,veq0_d rfl,veq0_d rfl,veq0_d rfl,rfl,veq0_d rfl,veq0_d rfl,rfl,rfl,tR⟩,⟨rfl,rfl,rfl,fun _ _=>rfl⟩,tR⟩,rfl⟩
 have h1:i=q.arrays.length:=by have:=of_decide_eq_false h1;omega
 rw[List.drop_of_length_le (by omega),arrsF] at same
 subst same
 rw[bd] at hcod
 refine Sx.Go.freeze 5 ?_
 refine Sx.Go.freeze 7 ?_
 have hnf:=numF_spec q.funcs (by omega)
 obtain⟨FN,hFN⟩:∃FN,nmsF [] (q.funcs.map fun f=>(f.name,f.at_))=FN:=⟨_,rfl⟩
 rw[hFN] at hnf hcod
 rcases FN with⟨a,e⟩ | fn
 ·rw[bd] at hcod
  subst hcod
  refine x1.dieP [4,5,6] [] rfl tR rfl hnf ⟨veq_d rfl,rfl,rfl,tR⟩ rfl tR ?_
  exact⟨.pan stopN [(.i64,_),(.i64,_)],[.ptr 0 0, .ptr 1 0, .ptr 2 0],[2,3,4],_,_,_,rfl,fun _=>rfl,fun _ _ _ _ h=>(((h.dim 2).dim 3).dim 4),res1_pan (fun i=>[.int .i64 (([]:List Cel).getD i cel0).1, .int .i64 (([]:List Cel).getD i cel0).2]) (fun i=>dBod (([]:List Bod).getD i bod0)) _ _,⟨⟨rfl,rfl⟩,⟨rfl,rfl⟩,⟨rfl,rfl⟩,tR⟩,rfl,⟨⟨rfl,rfl,rfl,tR⟩,⟨rfl,tR⟩,⟨rfl,tR⟩,tR⟩, .inr rfl,⟨rfl,rfl,rfl,tR⟩,tR,rfl⟩
 rw[bd] at hcod
 have hfn:fn.length=q.funcs.length:=by have:=nmsF_len hFN;simpa using this
 refine x1.call [] rfl tR rfl hnf rfl ⟨veq_d rfl,rfl,rfl,tR⟩ tR ?_
 have hmi:posB fn mainS=true->0≤posN fn mainS∧posN fn mainS<(q.funcs.length:Int):=fun h=>by have:=posN_lt h;omega
 have hmv:(posB fn mainS&&decide (((q.funcs.getD (posN fn mainS).toNat fun0).params.length:Int)=0))=mainB q fn:=rfl
 cases hm:mainB q fn with
 | false=>
  rw[hm,if_neg (by simp)] at hcod
  subst hcod
  refine x1.dieP [4,5,6] [] rfl (by simp only[AllP];exact hmi) rfl (need_die 0 14) ⟨(show VEq0 (vb (posB fn mainS&&decide (((q.funcs.getD (posN fn mainS).toNat fun0).params.length:Int)=0))) (vb false) by rw[hmv,hm];exact rfl),rfl,rfl,tR⟩ rfl tR ?_
  exact⟨.pan stopN [(.i64,_),(.i64,_)],[.ptr 0 0, .ptr 1 0, .ptr 2 0],[2,3,4],_,_,_,rfl,fun _=>rfl,fun _ _ _ _ h=>(((h.dim 2).dim 3).dim 4),res1_pan (fun i=>[.int .i64 (([]:List Cel).getD i cel0).1, .int .i64 (([]:List Cel).getD i cel0).2]) (fun i=>dBod (([]:List Bod).getD i bod0)) _ _,⟨⟨rfl,rfl⟩,⟨rfl,rfl⟩,⟨rfl,rfl⟩,tR⟩,rfl,⟨⟨rfl,rfl,rfl,tR⟩,⟨rfl,tR⟩,⟨rfl,tR⟩,tR⟩, .inr rfl,⟨rfl,rfl,rfl,tR⟩,tR,rfl⟩
 | true=>
  rw[hm,if_pos rfl] at hcod
  refine x1.pure rfl (by simp only[AllP];exact hmi) rfl (need_ok 0 14) ⟨(show VEq0 (vb (posB fn mainS&&decide (((q.funcs.getD (posN fn mainS).toNat fun0).params.length:Int)=0))) (vb true) by rw[hmv,hm];exact rfl),rfl,rfl,tR⟩ ?_
  refine x1.toLoop rfl (by simp only[AllP,big,Int.toNat_natCast];omega) ?_
  refine Sx.Go.freeze 8 ?_
  obtain⟨SR,hSR⟩:∃SR,scpsF q.funcs []=SR:=⟨_,rfl⟩
  rw[hSR] at hcod
  refine x1.loop (α:=ScW q SR) (fun y=>⟨[(2, .ptr 0 0),(3, .ptr 1 0),(4, .ptr 2 0),(5, .ptr 3 0),(6, .ptr 4 0),(7, .ptr 6 0),(16, .own 9),(123, .d (dFuns q.funcs)),(124,vi (q.funcs.length:Int)),(125,vi (y.i:Int))],[(0,polB p),(1, .box [.d (dArrs q.arrays), .d (dFuns q.funcs)]),(2, .box [.d (dCels cs), .nils,vi (posN fn mainS)]),(3, .box [vi 0]),(4, .box [vi 0]),(6,resC ⟨p,q,acc,fn⟩),(9,spC y.acc)],10⟩) (fun y=>q.funcs.length-y.i) ⟨0,[],Nat.zero_le _,rfl,hSR⟩ rfl tR ⟨⟨⟨rfl,rfl⟩,⟨rfl,rfl⟩,⟨rfl,rfl⟩,⟨rfl,rfl⟩,⟨rfl,rfl⟩,⟨rfl,rfl⟩,rfl,veq_d rfl,rfl,rfl,tR⟩,⟨polB_eq p,⟨veq0_d rfl,veq0_d rfl,tR⟩,⟨veq0_d rfl,tR,rfl,tR⟩,⟨rfl,tR⟩,⟨rfl,tR⟩,resC_eq ⟨p,q,acc,fn⟩,⟨rfl,rfl,rfl,fun _ h=>absurd h (Nat.not_lt_zero _)⟩,tR⟩,rfl⟩ (fun y=>?_)
  obtain⟨i2,sacc,hi2,hsa,same⟩:=y
  change Go C1 _ ⟨[(2, .ptr 0 0),(3, .ptr 1 0),(4, .ptr 2 0),(5, .ptr 3 0),(6, .ptr 4 0),(7, .ptr 6 0),(16, .own 9),(123, .d (dFuns q.funcs)),(124,vi (q.funcs.length:Int)),(125,vi (i2:Int))],[(0,polB p),(1, .box [.d (dArrs q.arrays), .d (dFuns q.funcs)]),(2, .box [.d (dCels cs), .nils,vi (posN fn mainS)]),(3, .box [vi 0]),(4, .box [vi 0]),(6,resC ⟨p,q,acc,fn⟩),(9,spC sacc)],10⟩ _
  have hfn0:fn.length=q.funcs.length:=hfn
  refine x1.cond rfl tR (fun h3=>?_) (fun h3=>?_)
  ·have h3:i2<q.funcs.length:=by have:=of_decide_eq_true h3;omega
   rw[scps_step h3] at same
   have hsc:=scope_spec ⟨p,q,acc,fn⟩ (q.funcs.getD i2 fun0) (hs.fn (fun_in h3))
   obtain⟨V,hV⟩:∃V,scpV (q.funcs.getD i2 fun0)=V:=⟨_,rfl⟩
   rw[hV] at hsc same
   rcases V with⟨a,e⟩ | sc
   ·rw[bd] at same
    subst same
    rw[bd] at hcod
    subst hcod
    refine x1.dieP [4,5,6] [6] rfl (by simp only[AllP];omega) rfl hsc ⟨⟨rfl,rfl⟩,⟨rfl,veq0_d rfl,veq0_d rfl,rfl,tR⟩,tR⟩ rfl ⟨resC_eq ⟨p,q,acc,fn⟩,tR⟩ ?_
    exact⟨.pan stopN [(.i64,_),(.i64,_)],[.ptr 0 0, .ptr 1 0, .ptr 2 0],[2,3,4],_,_,_,rfl,fun _=>rfl,fun _ _ _ _ h=>(((h.dim 2).dim 3).dim 4),res1_pan (fun i=>[.int .i64 (([]:List Cel).getD i cel0).1, .int .i64 (([]:List Cel).getD i cel0).2]) (fun i=>dBod (([]:List Bod).getD i bod0)) _ _,⟨⟨rfl,rfl⟩,⟨rfl,rfl⟩,⟨rfl,rfl⟩,tR⟩,rfl,⟨⟨rfl,rfl,rfl,tR⟩,⟨rfl,tR⟩,⟨rfl,tR⟩,tR⟩, .inr rfl,⟨rfl,rfl,rfl,tR⟩,tR,rfl⟩
   ·rw[bd] at same
    refine x1.call [6] rfl (by simp only[AllP];omega) rfl hsc rfl ⟨⟨rfl,rfl⟩,⟨rfl,veq0_d rfl,veq0_d rfl,rfl,tR⟩,tR⟩ ⟨resC_eq ⟨p,q,acc,fn⟩,tR⟩ ?_
    exact x1.back rfl (by simp only[AllP,inI64,big];omega) ⟨⟨i2+1,sacc++[sc],by omega,by simp [hsa],same⟩,by show q.funcs.length-(i2+1)<q.funcs.length-i2;omega,⟨⟨rfl,rfl⟩,⟨rfl,rfl⟩,⟨rfl,rfl⟩,⟨rfl,rfl⟩,⟨rfl,rfl⟩,⟨rfl,rfl⟩,rfl,veq_d rfl,rfl,(show VEq0 (vi ((i2:Int)+1)) (vi ((i2+1:Nat):Int)) by rw[Int.natCast_add];rfl),tR⟩,⟨polB_eq p,⟨veq0_d rfl,veq0_d rfl,tR⟩,⟨veq0_d rfl,tR,rfl,tR⟩,⟨rfl,tR⟩,⟨rfl,tR⟩,resC_eq ⟨p,q,acc,fn⟩,⟨rfl,rfl,by simp,fun j hj=>app_gen6 (fun s:Scp=>[D.mp s.blks,D.mp s.vals]) 2 (fun _=>rfl) scp0 sacc sc j hj⟩,tR⟩,rfl⟩
  have h3:i2=q.funcs.length:=by have:=of_decide_eq_false h3;omega
  rw[List.drop_of_length_le (by omega),scpsF] at same
  subst same
  rw[bd] at hcod
  obtain⟨ss,hss⟩:∃ss,sacc=ss:=⟨_,rfl⟩
  have hsl:sacc.length=q.funcs.length:=by omega
  refine Sx.Go.freeze 9 ?_
  refine x1.toLoop rfl tR ?_
  refine Go.ownB 2 1 60 3 (fun i=>dBod (([]:List Bod).getD i bod0)) rfl rfl ?_
  obtain⟨BR,hBR⟩:∃BR,bodsF ⟨p,q,acc,fn⟩ sacc q.funcs 0 []=BR:=⟨_,rfl⟩
  rw[hBR] at hcod
  refine x1.loop (α:=BoW ⟨p,q,acc,fn⟩ sacc BR) (fun y=>⟨[(2, .ptr 0 0),(3, .ptr 1 0),(4, .ptr 2 0),(5, .ptr 3 0),(6, .ptr 4 0),(7, .ptr 6 0),(16, .d (dSps sacc)),(137, .d (dFuns q.funcs)),(138,vi (q.funcs.length:Int)),(139,vi (y.i:Int))],[(0,polB p),(1, .box [.d (dArrs q.arrays), .d (dFuns q.funcs)]),(2, .box [.d (dCels cs), .own 10,vi (posN fn mainS)]),(3, .box [vi 0]),(4, .box [vi 0]),(6,resC ⟨p,q,acc,fn⟩),(10,bodC y.acc)],11⟩) (fun y=>q.funcs.length-y.i) ⟨0,[],Nat.zero_le _,rfl,hBR⟩ rfl tR ⟨⟨⟨rfl,rfl⟩,⟨rfl,rfl⟩,⟨rfl,rfl⟩,⟨rfl,rfl⟩,⟨rfl,rfl⟩,⟨rfl,rfl⟩,veq_d rfl,veq_d rfl,rfl,rfl,tR⟩,⟨polB_eq p,⟨veq0_d rfl,veq0_d rfl,tR⟩,⟨veq0_d rfl,rfl,rfl,tR⟩,⟨rfl,tR⟩,⟨rfl,tR⟩,resC_eq ⟨p,q,acc,fn⟩,⟨rfl,rfl,rfl,fun _ h=>absurd h (Nat.not_lt_zero _)⟩,tR⟩,rfl⟩ (fun y=>?_)
  obtain⟨i3,bacc,hi3,hba,same⟩:=y
  have hi3:i3≤q.funcs.length:=hi3
  change Go C1 _ ⟨[(2, .ptr 0 0),(3, .ptr 1 0),(4, .ptr 2 0),(5, .ptr 3 0),(6, .ptr 4 0),(7, .ptr 6 0),(16, .d (dSps sacc)),(137, .d (dFuns q.funcs)),(138,vi (q.funcs.length:Int)),(139,vi (i3:Int))],[(0,polB p),(1, .box [.d (dArrs q.arrays), .d (dFuns q.funcs)]),(2, .box [.d (dCels cs), .own 10,vi (posN fn mainS)]),(3, .box [vi 0]),(4, .box [vi 0]),(6,resC ⟨p,q,acc,fn⟩),(10,bodC bacc)],11⟩ _
  refine x1.cond rfl tR (fun h4=>?_) (fun h4=>?_)
  rotate_left
  ·have h4:i3=q.funcs.length:=by have:=of_decide_eq_false h4;omega
   rw[List.drop_of_length_le (by show q.funcs.length≤i3;omega),bodsF] at same
   subst same
   rw[bd] at hcod
   subst hcod
   refine Sx.Go.freeze 10 ?_
   refine x1.exit rfl tR ?_
   exact⟨.back,[.ptr 0 0, .ptr 1 0, .ptr 2 0],[2,3,4],_,_,_, .inr rfl,fun h=>(by obtain⟨_,h⟩:=h;cases h),fun _ _ _ _ h=>h,res1_back 2 cs.length 3 bacc.length (fun i=>[.int .i64 (cs.getD i cel0).1, .int .i64 (cs.getD i cel0).2]) (fun i=>dBod (bacc.getD i bod0)) (posN fn mainS) 0 0,⟨⟨rfl,rfl⟩,⟨rfl,rfl⟩,⟨rfl,rfl⟩,tR⟩,rfl,⟨⟨veq0_d rfl,veq0_d rfl,rfl,tR⟩,⟨rfl,tR⟩,⟨rfl,tR⟩,tR⟩, .inr rfl,⟨rfl,rfl,rfl,tR⟩,tR,rfl⟩
  have h4:i3<q.funcs.length:=by have:=of_decide_eq_true h4;omega
  rw[bods_step (r:=⟨p,q,acc,fn⟩) h4] at same
  have hfs:=hs.fn (fun_in h4)
  obtain⟨q1,q2,q3⟩:=hs.f _ (fun_in h4)
  refine x1.every3Q 12 [] [0,1,2,3,4,5,6,7,8,9] (.fork 10 (.fork 11 .leaf .no) .no)
   ⟨[(2, .ptr 0 0),(3, .ptr 1 0),(4, .ptr 2 0),(5, .ptr 3 0),(6, .ptr 4 0),(7, .ptr 6 0),(16, .d (dSps sacc)),(137, .d (dFuns q.funcs)),(138,vi (q.funcs.length:Int)),(139,vi (i3:Int)),(19,vi (i3:Int)),(20, .ptr 11 0),(21, .ptr 12 0)],[(12, .box [vi ((q.funcs.getD i3 fun0).params.length:Int),vi ((sacc.getD i3 scp0).vals.length:Int), .nils])],13⟩ rfl (by simp only[AllP];omega) mixedP rfl (by kernel_rfl) (RetLater.quiet (by kernel_rfl)) rfl (by simp only[AllP];omega) (fun C2 x2=>?_) ?_
  ·exact⟨x2.back rfl tR ⟨x2.back rfl tR (Or.inl ⟨⟨⟨rfl,rfl⟩,⟨rfl,rfl⟩,⟨rfl,rfl⟩,⟨rfl,rfl⟩,⟨rfl,rfl⟩,⟨rfl,rfl⟩,veq_d rfl,veq_d rfl,rfl,rfl,rfl,⟨rfl,rfl⟩,⟨rfl,rfl⟩,tR⟩,⟨⟨rfl,rfl,tR,tR⟩,tR⟩,rfl⟩),tR⟩,tR⟩
  refine x1.toLoop rfl tR ?_
  refine Go.ownB 12 2 61 1 (fun i=>[dOps (([]:List (List Op9)).getD i [])]) rfl rfl ?_
  obtain⟨LR,hLR⟩:∃LR,blks9F ⟨p,q,acc,fn⟩ (sacc.getD i3 scp0) (q.funcs.getD i3 fun0).blocks []=LR:=⟨_,rfl⟩
  have same:bd (bd LR fun bs=>.ok ⟨((q.funcs.getD i3 fun0).params.length:Int),((sacc.getD i3 scp0).vals.length:Int),bs⟩) (fun b=>bodsF ⟨p,q,acc,fn⟩ sacc (q.funcs.drop (i3+1)) (i3+1) (bacc++[b]))=BR:=by rw[←hLR];exact same
  refine x1.loop (α:=BlW ⟨p,q,acc,fn⟩ (sacc.getD i3 scp0) (q.funcs.getD i3 fun0) LR) (fun z=>⟨[(2, .ptr 0 0),(3, .ptr 1 0),(4, .ptr 2 0),(5, .ptr 3 0),(6, .ptr 4 0),(7, .ptr 6 0),(16, .d (dSps sacc)),(19,vi (i3:Int)),(21, .ptr 12 0),(137, .d (dFuns q.funcs)),(138,vi (q.funcs.length:Int)),(139,vi (i3:Int)),(155, .d (dBlks (q.funcs.getD i3 fun0).blocks)),(156,vi ((q.funcs.getD i3 fun0).blocks.length:Int)),(157,vi (z.j:Int))],[(0,polB p),(1, .box [.d (dArrs q.arrays), .d (dFuns q.funcs)]),(2, .box [.d (dCels cs), .own 10,vi (posN fn mainS)]),(3, .box [vi 0]),(4, .box [vi 0]),(6,resC ⟨p,q,acc,fn⟩),(10,bodC bacc),(12, .box [vi ((q.funcs.getD i3 fun0).params.length:Int),vi ((sacc.getD i3 scp0).vals.length:Int), .own 13]),(13,bksC z.acc)],14⟩) (fun z=>(q.funcs.getD i3 fun0).blocks.length-z.j) ⟨0,[],Nat.zero_le _,rfl,hLR⟩ rfl tR ⟨⟨⟨rfl,rfl⟩,⟨rfl,rfl⟩,⟨rfl,rfl⟩,⟨rfl,rfl⟩,⟨rfl,rfl⟩,⟨rfl,rfl⟩,veq_d rfl,rfl,⟨rfl,rfl⟩,veq_d rfl,rfl,rfl,veq_d rfl,rfl,rfl,tR⟩,⟨polB_eq p,⟨veq0_d rfl,veq0_d rfl,tR⟩,⟨veq0_d rfl,rfl,rfl,tR⟩,⟨rfl,tR⟩,⟨rfl,tR⟩,resC_eq ⟨p,q,acc,fn⟩,⟨rfl,rfl,rfl,fun _ _=>rfl⟩,⟨rfl,rfl,rfl,tR⟩,⟨rfl,rfl,rfl,fun _ h=>absurd h (Nat.not_lt_zero _)⟩,tR⟩,rfl⟩ (fun z=>?_)
  obtain⟨j,lacc,hj,hla,samej⟩:=z
  change Go C1 _ ⟨[(2, .ptr 0 0),(3, .ptr 1 0),(4, .ptr 2 0),(5, .ptr 3 0),(6, .ptr 4 0),(7, .ptr 6 0),(16, .d (dSps sacc)),(19,vi (i3:Int)),(21, .ptr 12 0),(137, .d (dFuns q.funcs)),(138,vi (q.funcs.length:Int)),(139,vi (i3:Int)),(155, .d (dBlks (q.funcs.getD i3 fun0).blocks)),(156,vi ((q.funcs.getD i3 fun0).blocks.length:Int)),(157,vi (j:Int))],[(0,polB p),(1, .box [.d (dArrs q.arrays), .d (dFuns q.funcs)]),(2, .box [.d (dCels cs), .own 10,vi (posN fn mainS)]),(3, .box [vi 0]),(4, .box [vi 0]),(6,resC ⟨p,q,acc,fn⟩),(10,bodC bacc),(12, .box [vi ((q.funcs.getD i3 fun0).params.length:Int),vi ((sacc.getD i3 scp0).vals.length:Int), .own 13]),(13,bksC lacc)],14⟩ _
  refine x1.cond rfl tR (fun h5=>?_) (fun h5=>?_)
  rotate_left
  ·have h5:j=(q.funcs.getD i3 fun0).blocks.length:=by have:=of_decide_eq_false h5;omega
   rw[List.drop_of_length_le (by omega),blks9F] at samej
   subst samej
   rw[bd,bd] at same
   refine Sx.Go.freeze 13 ?_
   exact x1.back rfl (by simp only[AllP,inI64,big];omega) ⟨⟨i3+1,bacc++[(⟨((q.funcs.getD i3 fun0).params.length:Int),((sacc.getD i3 scp0).vals.length:Int),lacc⟩:Bod)],by show i3+1≤q.funcs.length;omega,by simp [hba],same⟩,by show q.funcs.length-(i3+1)<q.funcs.length-i3;omega,⟨⟨rfl,rfl⟩,⟨rfl,rfl⟩,⟨rfl,rfl⟩,⟨rfl,rfl⟩,⟨rfl,rfl⟩,⟨rfl,rfl⟩,veq_d rfl,veq_d rfl,rfl,(show VEq0 (vi ((i3:Int)+1)) (vi ((i3+1:Nat):Int)) by rw[Int.natCast_add];rfl),tR⟩,⟨polB_eq p,⟨veq0_d rfl,veq0_d rfl,tR⟩,⟨veq0_d rfl,rfl,rfl,tR⟩,⟨rfl,tR⟩,⟨rfl,tR⟩,resC_eq ⟨p,q,acc,fn⟩,⟨rfl,rfl,by simp,fun j hj=>app_gen6 dBod 3 (fun _=>rfl) bod0 bacc (⟨((q.funcs.getD i3 fun0).params.length:Int),((sacc.getD i3 scp0).vals.length:Int),lacc⟩:Bod) j hj⟩,tR⟩,rfl⟩
  have h5:j<(q.funcs.getD i3 fun0).blocks.length:=by have:=of_decide_eq_true h5;omega
  rw[blks9_step h5] at samej
  have hbl:=block9_spec ⟨p,q,acc,fn⟩ (sacc.getD i3 scp0) ((q.funcs.getD i3 fun0).blocks.getD j blk0) hz.toPolSz (hs.bk (fun_in h4) (blk_in h5)) hfn0
  obtain⟨V,hV⟩:∃V,blk9V ⟨p,q,acc,fn⟩ (sacc.getD i3 scp0) ((q.funcs.getD i3 fun0).blocks.getD j blk0)=V:=⟨_,rfl⟩
  rw[hV] at hbl samej
  refine x1.code rfl (by simp only[AllP];omega) ?_
  refine x1.perm [0,1,2,3,4,5,6,7,8,9,10,11,12,14,13] rfl ?_
  rcases V with⟨a,e⟩ | y
  ·rw[bd] at samej
   subst samej
   rw[bd,bd] at same
   subst same
   rw[bd] at hcod
   subst hcod
   refine x1.every3D 14 [6,12,14] [0,2,3,4,5,6,7] (.fork 1 (.fork 8 (.fork 9 (.fork 10 (.fork 11 (.fork 12 .leaf .no) .no) .no) .no) .no) (.fork 8 (.fork 1 (.fork 9 (.fork 10 (.fork 11 (.fork 12 .leaf .no) .no) .no) .no) (.fork 9 (.fork 1 (.fork 10 (.fork 11 (.fork 12 .leaf .no) .no) .no) .no) .no)) .no)) rfl tR mixedP rfl (by kernel_rfl) (RetLater.quiet (by kernel_rfl)) rfl (by simp only[AllP];omega) (fun C2 x2=>?_)
   repeat' first
    | exact True.intro
    | refine And.intro ?_ ?_
    | refine x2.dieP [4,5,6] [6] rfl tR rfl hbl ⟨⟨rfl,rfl⟩,⟨rfl,rfl,tR⟩,⟨rfl,veq0_d rfl,rfl,tR⟩,tR⟩ rfl ⟨resC_eq ⟨p,q,acc,fn⟩,tR⟩ ⟨⟨_,rfl⟩,rfl,?_⟩
    | exact⟨.pan stopN [(.i64,_),(.i64,_)],[.ptr 0 0, .ptr 1 0, .ptr 2 0],[2,3,4],_,_,_,rfl,fun _=>rfl,fun _ _ _ _ h=>(((h.dim 2).dim 3).dim 4),res1_pan (fun i=>[.int .i64 (([]:List Cel).getD i cel0).1, .int .i64 (([]:List Cel).getD i cel0).2]) (fun i=>dBod (([]:List Bod).getD i bod0)) _ _,⟨⟨rfl,rfl⟩,⟨rfl,rfl⟩,⟨rfl,rfl⟩,tR⟩,rfl,⟨⟨rfl,rfl,rfl,tR⟩,⟨rfl,tR⟩,⟨rfl,tR⟩,tR⟩, .inr rfl,⟨rfl,rfl,rfl,tR⟩,tR,rfl⟩
    | refine x2.back rfl tR ?_
  ·rw[bd] at samej
   refine x1.every3Q 14 [6,12,14] [0,2,3,4,5,6,7] (.fork 1 (.fork 8 (.fork 9 (.fork 10 (.fork 11 (.fork 12 .leaf .no) .no) .no) .no) .no) (.fork 8 (.fork 1 (.fork 9 (.fork 10 (.fork 11 (.fork 12 .leaf .no) .no) .no) .no) (.fork 9 (.fork 1 (.fork 10 (.fork 11 (.fork 12 .leaf .no) .no) .no) .no) .no)) .no))
    ⟨[(2, .ptr 0 0),(3, .ptr 1 0),(4, .ptr 2 0),(5, .ptr 3 0),(6, .ptr 4 0),(7, .ptr 6 0),(16, .d (dSps sacc)),(19,vi (i3:Int)),(21, .ptr 12 0),(137, .d (dFuns q.funcs)),(138,vi (q.funcs.length:Int)),(139,vi (i3:Int)),(155, .d (dBlks (q.funcs.getD i3 fun0).blocks)),(156,vi ((q.funcs.getD i3 fun0).blocks.length:Int)),(157,vi (j:Int))],[(6,resC ⟨p,q,acc,fn⟩),(12, .box [vi ((q.funcs.getD i3 fun0).params.length:Int),vi ((sacc.getD i3 scp0).vals.length:Int), .own 14]),(14,bksC (lacc++[y]))],15⟩ rfl tR mixedP rfl (by kernel_rfl) (RetLater.quiet (by kernel_rfl)) rfl (by simp only[AllP];omega) (fun C2 x2=>?_) ?_
   ·repeat' first
     | exact True.intro
     | refine And.intro ?_ ?_
     | refine x2.call [6] rfl tR rfl hbl rfl ⟨⟨rfl,rfl⟩,⟨rfl,rfl,tR⟩,⟨rfl,veq0_d rfl,rfl,tR⟩,tR⟩ ⟨resC_eq ⟨p,q,acc,fn⟩,tR⟩ (x2.back rfl tR ?_)
     | refine x2.back rfl tR ?_
     | refine x2.back rfl (by simp only[AllP,big];omega) ?_
     | exact Or.inl ⟨⟨⟨rfl,rfl⟩,⟨rfl,rfl⟩,⟨rfl,rfl⟩,⟨rfl,rfl⟩,⟨rfl,rfl⟩,⟨rfl,rfl⟩,veq_d rfl,rfl,⟨rfl,rfl⟩,veq_d rfl,rfl,rfl,veq_d rfl,rfl,rfl,tR⟩,⟨resC_eq ⟨p,q,acc,fn⟩,⟨rfl,rfl,rfl,tR⟩,⟨rfl,rfl,by simp,fun k hk=>app_gen6 (fun l:List Op9=>[dOps l]) 1 (fun _=>rfl) [] lacc y k hk⟩,tR⟩,rfl⟩
   refine x1.perm [0,1,2,3,4,5,6,7,8,9,10,11,12,14,13] rfl ?_
   exact x1.back rfl (by simp only[AllP,inI64];omega) ⟨⟨j+1,lacc++[y],by omega,by simp [hla],samej⟩,by show (q.funcs.getD i3 fun0).blocks.length-(j+1)<(q.funcs.getD i3 fun0).blocks.length-j;omega,⟨⟨rfl,rfl⟩,⟨rfl,rfl⟩,⟨rfl,rfl⟩,⟨rfl,rfl⟩,⟨rfl,rfl⟩,⟨rfl,rfl⟩,veq_d rfl,rfl,⟨rfl,rfl⟩,veq_d rfl,rfl,rfl,veq_d rfl,rfl,(show VEq0 (vi ((j:Int)+1)) (vi ((j+1:Nat):Int)) by rw[Int.natCast_add];rfl),tR⟩,⟨polB_eq p,⟨veq0_d rfl,veq0_d rfl,tR⟩,⟨veq0_d rfl,rfl,rfl,tR⟩,⟨rfl,tR⟩,⟨rfl,tR⟩,resC_eq ⟨p,q,acc,fn⟩,⟨rfl,rfl,rfl,fun _ _=>rfl⟩,⟨rfl,rfl,rfl,tR⟩,⟨rfl,rfl,rfl,fun _ _=>rfl⟩,tR⟩,rfl⟩
def nmN (c:UInt8) (n:Int):ByteArray:=(⟨#[c]⟩:ByteArray)++showV n
theorem nm_spec (c:UInt8) (n:Int) (h:inI64 n):Pure PG 73 [vs ⟨#[c]⟩,vi n] (vs (nmN c n)) []:=by
 have hs:=show_size h
 refine Proc.mk (cfg 9) tysOK [] Tryz.func73 rfl (by kernel_rfl) rfl rfl rfl ?_
 intro C x
 refine x.pure rfl tR rfl (show_spec n h) ⟨rfl,tR⟩ ?_
 refine x.exit rfl ?_ ⟨.inr rfl,rfl,tR,rfl⟩
 simp only[AllP]
 show (((1+(showV n).size:Nat)):Int)≤9223372036854775807
 omega
def clamp9 (n most:Int):Int:=if (if 0 > most-1 then 0 else most-1)<(if 0 > n then 0 else n) then (if 0 > most-1 then 0 else most-1) else (if 0 > n then 0 else n)
theorem clamp9_in {n most:Int} (h:0≤n) (h2:n<most):clamp9 n most=n:=by
 unfold clamp9
 rw[if_neg (show ¬0 > most-1 by omega),if_neg (show ¬0 > n by omega),if_neg (by omega)]
def inB9 (n:Int) (most:Nat):Bool:=decide (0≤n)&&decide (n<(most:Int))
theorem from_spec (n:Int) (most:Nat) (hm:inI64 (most:Int)):Proc PG 122 1 [vi n,vi (most:Int), .ptr 0 0] [.box [vb true]] (vi (clamp9 n most)) [.box [vb (inB9 n most)]]:=by
 refine Proc.mk (cfgF 22 1) tysOK [0] Tryz.func122 rfl (by kernel_rfl) rfl rfl rfl ?_
 intro C x
 unfold inI64 at hm
 refine x.exit rfl (by simp only[AllP,inI64];omega) ⟨.inr rfl,rfl,⟨⟨?_,tR⟩,tR⟩,rfl⟩
 show VEq0 (vb ((true&&decide (0≤n))&&decide (n<(most:Int)))) (vb (inB9 n most))
 rw[Bool.true_and];exact rfl
theorem chanN_spec (l:List Chan) (hl:l.length≤1000000):Pure PG 124 [vChs l] (vSs (l.map (·.1))) []:=by
 refine Proc.mk (cfg 18) tysOK [] Tryz.func124 rfl (by kernel_rfl) rfl rfl rfl ?_
 intro C x
 refine x.toLoop rfl tR ?_
 refine Go.own 2 9 1 (fun i=>[.str (([]:List ByteArray).getD i .empty)]) rfl ?_
 refine x.loop (α:={i:Nat // i≤l.length}) (fun y=>⟨[(2, .own 0),(5,vChs l),(6,vi (l.length:Int)),(7,vi (y.1:Int))],[(0,strC ((l.take y.1).map (·.1)))],1⟩) (fun y=>l.length-y.1) ⟨0,by omega⟩ rfl tR ⟨⟨rfl,veq_d rfl,rfl,rfl,tR⟩,⟨⟨rfl,rfl,rfl,fun _ h=>absurd h (Nat.not_lt_zero _)⟩,tR⟩,rfl⟩ (fun y=>?_)
 obtain⟨i,hi⟩:=y
 change Go C _ ⟨[(2, .own 0),(5,vChs l),(6,vi (l.length:Int)),(7,vi (i:Int))],[(0,strC ((l.take i).map (·.1)))],1⟩ _
 refine x.cond rfl tR (fun h1=>?_) (fun h1=>?_)
 ·have h1:i<l.length:=by have:=of_decide_eq_true h1;omega
  have htl:((l.take i).map (·.1)).length=i:=by rw[List.length_map,List.length_take];omega
  have e:l[i]?=some (l.getD i chan0):=by rw[List.getD_eq_getElem?_getD,List.getElem?_eq_getElem h1];rfl
  have et:(l.take (i+1)).map (·.1)=(l.take i).map (·.1)++[(l.getD i chan0).1]:=by rw[take_succ e,List.map_append];rfl
  refine x.back rfl (by simp only[AllP,inI64,big,htl];omega) ⟨⟨i+1,by omega⟩,by show l.length-(i+1)<l.length-i;omega,⟨rfl,veq_d rfl,rfl,(show VEq0 (vi ((i:Int)+1)) (vi ((i+1:Nat):Int)) by rw[Int.natCast_add];rfl),tR⟩,⟨⟨rfl,rfl,by rw[et];simp,fun j hj=>?_⟩,tR⟩,rfl⟩
  rw[et]
  exact app_str _ _ j hj
 ·have h1:i=l.length:=by have:=of_decide_eq_false h1;omega
  subst h1
  rw[List.take_length]
  refine Sx.Go.freeze 0 ?_
  exact x.exit rfl tR ⟨.inr rfl,veq_d rfl,tR,rfl⟩
def refN (p:Pol) (main:Int) (x:Op9):ByteArray×Bool:=
 if x.kind=4∨x.kind=5∨x.kind=6 then (nmN 97 x.ref,true)
 else if x.kind=7 then (if x.ref=main then mainS else nmN 102 x.ref,true)
 else if x.kind=8 then (if inB9 x.ref p.ins.length=true then (p.ins.getD x.ref.toNat chan0).1 else .empty,inB9 x.ref p.ins.length)
 else if x.kind=9 then (if inB9 x.ref p.outs.length=true then (p.outs.getD x.ref.toNat chan0).1 else .empty,inB9 x.ref p.outs.length)
 else if x.kind=10 then (if inB9 x.ref p.lev.length=true then p.lev.getD x.ref.toNat .empty else .empty,inB9 x.ref p.lev.length)
 else if x.kind=11∨x.kind=12 then (nmN 98 x.ref,true)
 else (.empty,true)
def raisedV (p:Pol) (main:Int) (x:Op9):Ins:=⟨x.kind,x.op,if 0≤x.dst then nmN 118 x.dst else .empty,(refN p main x).1,if x.kind=12 then nmN 98 x.alt else .empty,x.args.map (nmN 118),x.frm.map (nmN 98),x.num,x.at_⟩
structure OpSz (x:Op9):Prop where
 a:x.args.length*16≤140737488355328
 f:x.frm.length*16≤140737488355328
 ai:∀n∈x.args,inI64 n
 fi:∀n∈x.frm,inI64 n
 dst:inI64 x.dst
 ref:inI64 x.ref
 alt:inI64 x.alt
abbrev opC (x:Op9):Ch:=.box [.d (.int .u8 x.kind), .d (.int .u8 x.op),vi x.dst,vi x.ref,vi x.alt, .d (dNums x.args), .d (dNums x.frm),vi x.num,vi x.at_]
theorem opC_eq (x:Op9):ChEq (opC x) (opC x):=⟨rfl,rfl,rfl,rfl,rfl,veq0_d rfl,veq0_d rfl,rfl,rfl,tR⟩
theorem named_spec (x0:Op9) (d a ar:ByteArray) (az fz:List ByteArray) (l:List ByteArray) (hl:inI64 (l.length:Int)):Proc PG 123 4 [vSs l, .ptr 0 0, .ptr 1 0, .ptr 2 0, .ptr 3 0] [.box [.fn 122 [.ptr 2 0]],opC x0, .box [vb true], .box [.d (.int .u8 x0.kind), .d (.int .u8 x0.op),vs d,vs .empty,vs a, .d (dStrs az), .d (dStrs fz),vi x0.num,vi x0.at_]] (.tup []) [.box [.fn 122 [.ptr 2 0]],opC x0, .box [vb (inB9 x0.ref l.length)], .box [.d (.int .u8 x0.kind), .d (.int .u8 x0.op),vs d,vs (if inB9 x0.ref l.length=true then l.getD x0.ref.toNat .empty else .empty),vs a, .d (dStrs az), .d (dStrs fz),vi x0.num,vi x0.at_]]:=by
 refine Proc.mk (cfgF 19 4) tysOK [0,1,2,3] Tryz.func123 rfl (by kernel_rfl) rfl rfl rfl ?_
 intro C x
 refine x.call [2] rfl tR rfl (from_spec x0.ref l.length hl) rfl ⟨rfl,rfl,⟨rfl,rfl⟩,tR⟩ ⟨⟨rfl,tR⟩,tR⟩ ?_
 refine x.cond rfl tR (fun h=>?_) (fun h=>?_)
 ·have h:inB9 x0.ref l.length=true:=h
  have hb:0≤x0.ref∧x0.ref<(l.length:Int):=by
   unfold inB9 at h
   rw[Bool.and_eq_true,decide_eq_true_eq,decide_eq_true_eq] at h;exact h
  have hcl:=clamp9_in hb.1 hb.2
  refine x.exit rfl (by simp only[AllP,hcl];omega) ⟨.inl rfl,tR,⟨⟨rfl,tR⟩,opC_eq x0,⟨rfl,tR⟩,⟨rfl,rfl,rfl,?_,rfl,veq0_d rfl,veq0_d rfl,rfl,rfl,tR⟩,tR⟩,rfl⟩
  show VEq0 (vs (l.getD (clamp9 x0.ref l.length).toNat .empty)) (vs _)
  rw[hcl,if_pos h];exact rfl
 ·have h:inB9 x0.ref l.length=false:=h
  refine x.exit rfl tR ⟨.inl rfl,tR,⟨⟨rfl,tR⟩,opC_eq x0,⟨rfl,tR⟩,⟨rfl,rfl,rfl,?_,rfl,veq0_d rfl,veq0_d rfl,rfl,rfl,tR⟩,tR⟩,rfl⟩
  show VEq0 (vs .empty) (vs _)
  rw[h,if_neg (by simp)];exact rfl
theorem map_fst_getD (l:List Chan) (i:Nat):(l.map (·.1)).getD i ByteArray.empty=(l.getD i chan0).1:=by
 rw[List.getD_eq_getElem?_getD,List.getD_eq_getElem?_getD,List.getElem?_map]
 cases l[i]?<;>rfl
set_option maxHeartbeats 16000000 in
theorem raised_spec (p:Pol) (c:Cod) (x0:Op9) (hz:PolSz p) (hp:p.ins.length≤1000000∧p.outs.length≤1000000) (hx:OpSz x0):Pure PG 74 [vPol p,codW c,opW x0] (.tup [xD (raisedV p c.main x0),vb (refN p c.main x0).2]) []:=by
 have hxa:=hx.a
 have hxf:=hx.f
 obtain⟨dS,hdS⟩:∃d,(if 0≤x0.dst then nmN 118 x0.dst else .empty)=d:=⟨_,rfl⟩
 unfold raisedV
 rw[hdS]
 obtain⟨i1,i2,i3,i4⟩:=polSz_i64 hz
 refine Proc.mk (cfg 125) tysOK [] Tryz.func74 rfl (by kernel_rfl) rfl rfl rfl ?_
 intro C x
 refine x.ite (α:=Unit) (fun _=>⟨[(3, .ptr 0 0),(4, .ptr 1 0),(5, .ptr 2 0),(6, .ptr 3 0),(8, .ptr 4 0),(9, .ptr 5 0),(10, .ptr 6 0)],[(0,polB p),(1, .box [.d (dCels c.arrays), .d (dBods c.funcs),vi c.main]),(2,opC x0),(3, .box [.dead, .dead, .dead, .dead, .dead, .dead, .dead, .dead, .dead]),(4, .box [.d (.int .u8 x0.kind), .d (.int .u8 x0.op),vs dS,vs .empty,vs .empty, .nils, .nils,vi x0.num,vi x0.at_]),(5, .box [vb true]),(6, .box [.fn 122 [.ptr 5 0]])],7⟩) rfl tR (fun h=>?_) (fun h=>?_) (fun _=>?_)
 ·have h:0≤x0.dst:=of_decide_eq_true h
  rw[if_pos h] at hdS
  subst hdS
  refine x.pure rfl tR rfl (nm_spec 118 x0.dst hx.dst) ⟨rfl,rfl,tR⟩ ?_
  exact x.back rfl tR ⟨(),⟨⟨rfl,rfl⟩,⟨rfl,rfl⟩,⟨rfl,rfl⟩,⟨rfl,rfl⟩,⟨rfl,rfl⟩,⟨rfl,rfl⟩,⟨rfl,rfl⟩,tR⟩,⟨polB_eq p,⟨veq0_d rfl,veq0_d rfl,rfl,tR⟩,opC_eq x0,⟨rfl,rfl,rfl,rfl,rfl,rfl,rfl,rfl,rfl,tR⟩,⟨rfl,rfl,rfl,rfl,rfl,tR,tR,rfl,rfl,tR⟩,⟨rfl,tR⟩,⟨rfl,tR⟩,tR⟩,rfl⟩
 ·have h:¬0≤x0.dst:=of_decide_eq_false h
  rw[if_neg h] at hdS
  subst hdS
  exact x.back rfl tR ⟨(),⟨⟨rfl,rfl⟩,⟨rfl,rfl⟩,⟨rfl,rfl⟩,⟨rfl,rfl⟩,⟨rfl,rfl⟩,⟨rfl,rfl⟩,⟨rfl,rfl⟩,tR⟩,⟨polB_eq p,⟨veq0_d rfl,veq0_d rfl,rfl,tR⟩,opC_eq x0,⟨rfl,rfl,rfl,rfl,rfl,rfl,rfl,rfl,rfl,tR⟩,⟨rfl,rfl,rfl,rfl,rfl,tR,tR,rfl,rfl,tR⟩,⟨rfl,tR⟩,⟨rfl,tR⟩,tR⟩,rfl⟩
 change Go C _ ⟨[(3, .ptr 0 0),(4, .ptr 1 0),(5, .ptr 2 0),(6, .ptr 3 0),(8, .ptr 4 0),(9, .ptr 5 0),(10, .ptr 6 0)],[(0,polB p),(1, .box [.d (dCels c.arrays), .d (dBods c.funcs),vi c.main]),(2,opC x0),(3, .box [.dead, .dead, .dead, .dead, .dead, .dead, .dead, .dead, .dead]),(4, .box [.d (.int .u8 x0.kind), .d (.int .u8 x0.op),vs dS,vs .empty,vs .empty, .nils, .nils,vi x0.num,vi x0.at_]),(5, .box [vb true]),(6, .box [.fn 122 [.ptr 5 0]])],7⟩ _
 refine x.toLoop rfl tR ?_
 refine Go.ownB 4 5 9 1 (fun i=>[.str (([]:List ByteArray).getD i .empty)]) rfl rfl ?_
 refine x.loop (α:={i:Nat // i≤x0.args.length}) (fun y=>⟨[(3, .ptr 0 0),(4, .ptr 1 0),(5, .ptr 2 0),(6, .ptr 3 0),(8, .ptr 4 0),(9, .ptr 5 0),(10, .ptr 6 0),(35, .d (dNums x0.args)),(36,vi (x0.args.length:Int)),(37,vi (y.1:Int))],[(0,polB p),(1, .box [.d (dCels c.arrays), .d (dBods c.funcs),vi c.main]),(2,opC x0),(3, .box [.dead, .dead, .dead, .dead, .dead, .dead, .dead, .dead, .dead]),(4, .box [.d (.int .u8 x0.kind), .d (.int .u8 x0.op),vs dS,vs .empty,vs .empty, .own 7, .nils,vi x0.num,vi x0.at_]),(5, .box [vb true]),(6, .box [.fn 122 [.ptr 5 0]]),(7,strC ((x0.args.take y.1).map (nmN 118)))],8⟩) (fun y=>x0.args.length-y.1) ⟨0,by omega⟩ rfl tR ⟨⟨⟨rfl,rfl⟩,⟨rfl,rfl⟩,⟨rfl,rfl⟩,⟨rfl,rfl⟩,⟨rfl,rfl⟩,⟨rfl,rfl⟩,⟨rfl,rfl⟩,veq_d rfl,rfl,rfl,tR⟩,⟨polB_eq p,⟨veq0_d rfl,veq0_d rfl,rfl,tR⟩,opC_eq x0,⟨rfl,rfl,rfl,rfl,rfl,rfl,rfl,rfl,rfl,tR⟩,⟨rfl,rfl,rfl,rfl,rfl,rfl,tR,rfl,rfl,tR⟩,⟨rfl,tR⟩,⟨rfl,tR⟩,⟨rfl,rfl,rfl,fun _ h=>absurd h (Nat.not_lt_zero _)⟩,tR⟩,rfl⟩ (fun y=>?_)
 obtain⟨i,hi⟩:=y
 change Go C _ ⟨[(3, .ptr 0 0),(4, .ptr 1 0),(5, .ptr 2 0),(6, .ptr 3 0),(8, .ptr 4 0),(9, .ptr 5 0),(10, .ptr 6 0),(35, .d (dNums x0.args)),(36,vi (x0.args.length:Int)),(37,vi (i:Int))],[(0,polB p),(1, .box [.d (dCels c.arrays), .d (dBods c.funcs),vi c.main]),(2,opC x0),(3, .box [.dead, .dead, .dead, .dead, .dead, .dead, .dead, .dead, .dead]),(4, .box [.d (.int .u8 x0.kind), .d (.int .u8 x0.op),vs dS,vs .empty,vs .empty, .own 7, .nils,vi x0.num,vi x0.at_]),(5, .box [vb true]),(6, .box [.fn 122 [.ptr 5 0]]),(7,strC ((x0.args.take i).map (nmN 118)))],8⟩ _
 refine x.cond rfl tR (fun h1=>?_) (fun h1=>?_)
 ·have h1:i<x0.args.length:=by have:=of_decide_eq_true h1;omega
  have htl:((x0.args.take i).map (nmN 118)).length=i:=by rw[List.length_map,List.length_take];omega
  have e:x0.args[i]?=some (x0.args.getD i 0):=by rw[List.getD_eq_getElem?_getD,List.getElem?_eq_getElem h1];rfl
  have et:(x0.args.take (i+1)).map (nmN 118)=(x0.args.take i).map (nmN 118)++[nmN 118 (x0.args.getD i 0)]:=by rw[take_succ e,List.map_append];rfl
  have hin:inI64 (x0.args.getD i 0):=hx.ai _ (by rw[List.getD_eq_getElem?_getD,List.getElem?_eq_getElem h1];exact List.getElem_mem h1)
  refine x.every3 7 [4,7] [0,2] (.fork 1 (.fork 3 (.fork 4 (.fork 5 (.fork 6 (.fork 7 .leaf .no) .no) .no) .no) .no) (.fork 3 (.fork 1 (.fork 4 (.fork 5 (.fork 6 (.fork 7 .leaf .no) .no) .no) .no) (.fork 4 (.fork 1 (.fork 5 (.fork 6 (.fork 7 .leaf .no) .no) .no) .no) .no)) .no))
   ⟨[(3, .ptr 0 0),(4, .ptr 1 0),(5, .ptr 2 0),(6, .ptr 3 0),(8, .ptr 4 0),(9, .ptr 5 0),(10, .ptr 6 0),(35, .d (dNums x0.args)),(36,vi (x0.args.length:Int)),(37,vi (i:Int))],[(4, .box [.d (.int .u8 x0.kind), .d (.int .u8 x0.op),vs dS,vs .empty,vs .empty, .own 7, .nils,vi x0.num,vi x0.at_]),(7,strC ((x0.args.take (i+1)).map (nmN 118)))],8⟩ rfl (by simp only[AllP];omega) mixedP rfl (by kernel_rfl) Ret.noPanic rfl tR (fun C2 x2=>?_) ?_
  ·repeat' first
    | exact True.intro
    | refine And.intro ?_ ?_
    | refine x2.pure rfl tR rfl (nm_spec 118 (x0.args.getD i 0) hin) ⟨rfl,rfl,tR⟩ (x2.back rfl tR ?_)
    | refine x2.back rfl tR ?_
    | refine x2.back rfl (by simp only[AllP,big,htl];omega) ?_
    | exact Or.inl ⟨⟨⟨rfl,rfl⟩,⟨rfl,rfl⟩,⟨rfl,rfl⟩,⟨rfl,rfl⟩,⟨rfl,rfl⟩,⟨rfl,rfl⟩,⟨rfl,rfl⟩,veq_d rfl,rfl,rfl,tR⟩,⟨⟨rfl,rfl,rfl,rfl,rfl,rfl,tR,rfl,rfl,tR⟩,⟨rfl,rfl,by rw[et];simp,fun j hj=>by rw[et];exact app_str _ _ j hj⟩,tR⟩,rfl⟩
  exact x.back rfl (by simp only[AllP,inI64];omega) ⟨⟨i+1,by omega⟩,by show x0.args.length-(i+1)<x0.args.length-i;omega,⟨⟨rfl,rfl⟩,⟨rfl,rfl⟩,⟨rfl,rfl⟩,⟨rfl,rfl⟩,⟨rfl,rfl⟩,⟨rfl,rfl⟩,⟨rfl,rfl⟩,veq_d rfl,rfl,(show VEq0 (vi ((i:Int)+1)) (vi ((i+1:Nat):Int)) by rw[Int.natCast_add];rfl),tR⟩,⟨polB_eq p,⟨veq0_d rfl,veq0_d rfl,rfl,tR⟩,opC_eq x0,⟨rfl,rfl,rfl,rfl,rfl,rfl,rfl,rfl,rfl,tR⟩,⟨rfl,rfl,rfl,rfl,rfl,rfl,tR,rfl,rfl,tR⟩,⟨rfl,tR⟩,⟨rfl,tR⟩,⟨rfl,rfl,rfl,fun _ _=>rfl⟩,tR⟩,rfl⟩
 have h1:i=x0.args.length:=by have:=of_decide_eq_false h1;omega
 subst h1
 rw[List.take_length]
 refine Sx.Go.freeze 7 ?_
 refine x.toLoop rfl tR ?_
 refine Go.ownB 4 6 9 1 (fun i=>[.str (([]:List ByteArray).getD i .empty)]) rfl rfl ?_
 refine x.loop (α:={i:Nat // i≤x0.frm.length}) (fun y=>⟨[(3, .ptr 0 0),(4, .ptr 1 0),(5, .ptr 2 0),(6, .ptr 3 0),(8, .ptr 4 0),(9, .ptr 5 0),(10, .ptr 6 0),(50, .d (dNums x0.frm)),(51,vi (x0.frm.length:Int)),(52,vi (y.1:Int))],[(0,polB p),(1, .box [.d (dCels c.arrays), .d (dBods c.funcs),vi c.main]),(2,opC x0),(3, .box [.dead, .dead, .dead, .dead, .dead, .dead, .dead, .dead, .dead]),(4, .box [.d (.int .u8 x0.kind), .d (.int .u8 x0.op),vs dS,vs .empty,vs .empty, .d (dStrs (x0.args.map (nmN 118))), .own 8,vi x0.num,vi x0.at_]),(5, .box [vb true]),(6, .box [.fn 122 [.ptr 5 0]]),(8,strC ((x0.frm.take y.1).map (nmN 98)))],9⟩) (fun y=>x0.frm.length-y.1) ⟨0,by omega⟩ rfl tR ⟨⟨⟨rfl,rfl⟩,⟨rfl,rfl⟩,⟨rfl,rfl⟩,⟨rfl,rfl⟩,⟨rfl,rfl⟩,⟨rfl,rfl⟩,⟨rfl,rfl⟩,veq_d rfl,rfl,rfl,tR⟩,⟨polB_eq p,⟨veq0_d rfl,veq0_d rfl,rfl,tR⟩,opC_eq x0,⟨rfl,rfl,rfl,rfl,rfl,rfl,rfl,rfl,rfl,tR⟩,⟨rfl,rfl,rfl,rfl,rfl,veq0_d rfl,rfl,rfl,rfl,tR⟩,⟨rfl,tR⟩,⟨rfl,tR⟩,⟨rfl,rfl,rfl,fun _ h=>absurd h (Nat.not_lt_zero _)⟩,tR⟩,rfl⟩ (fun y=>?_)
 obtain⟨i,hi⟩:=y
 change Go C _ ⟨[(3, .ptr 0 0),(4, .ptr 1 0),(5, .ptr 2 0),(6, .ptr 3 0),(8, .ptr 4 0),(9, .ptr 5 0),(10, .ptr 6 0),(50, .d (dNums x0.frm)),(51,vi (x0.frm.length:Int)),(52,vi (i:Int))],[(0,polB p),(1, .box [.d (dCels c.arrays), .d (dBods c.funcs),vi c.main]),(2,opC x0),(3, .box [.dead, .dead, .dead, .dead, .dead, .dead, .dead, .dead, .dead]),(4, .box [.d (.int .u8 x0.kind), .d (.int .u8 x0.op),vs dS,vs .empty,vs .empty, .d (dStrs (x0.args.map (nmN 118))), .own 8,vi x0.num,vi x0.at_]),(5, .box [vb true]),(6, .box [.fn 122 [.ptr 5 0]]),(8,strC ((x0.frm.take i).map (nmN 98)))],9⟩ _
 refine x.cond rfl tR (fun h1=>?_) (fun h1=>?_)
 ·have h1:i<x0.frm.length:=by have:=of_decide_eq_true h1;omega
  have htl:((x0.frm.take i).map (nmN 98)).length=i:=by rw[List.length_map,List.length_take];omega
  have e:x0.frm[i]?=some (x0.frm.getD i 0):=by rw[List.getD_eq_getElem?_getD,List.getElem?_eq_getElem h1];rfl
  have et:(x0.frm.take (i+1)).map (nmN 98)=(x0.frm.take i).map (nmN 98)++[nmN 98 (x0.frm.getD i 0)]:=by rw[take_succ e,List.map_append];rfl
  have hin:inI64 (x0.frm.getD i 0):=hx.fi _ (by rw[List.getD_eq_getElem?_getD,List.getElem?_eq_getElem h1];exact List.getElem_mem h1)
  refine x.every3 7 [4,8] [0,2] (.fork 1 (.fork 3 (.fork 4 (.fork 5 (.fork 6 (.fork 7 .leaf .no) .no) .no) .no) .no) (.fork 3 (.fork 1 (.fork 4 (.fork 5 (.fork 6 (.fork 7 .leaf .no) .no) .no) .no) (.fork 4 (.fork 1 (.fork 5 (.fork 6 (.fork 7 .leaf .no) .no) .no) .no) .no)) .no))
   ⟨[(3, .ptr 0 0),(4, .ptr 1 0),(5, .ptr 2 0),(6, .ptr 3 0),(8, .ptr 4 0),(9, .ptr 5 0),(10, .ptr 6 0),(50, .d (dNums x0.frm)),(51,vi (x0.frm.length:Int)),(52,vi (i:Int))],[(4, .box [.d (.int .u8 x0.kind), .d (.int .u8 x0.op),vs dS,vs .empty,vs .empty, .d (dStrs (x0.args.map (nmN 118))), .own 8,vi x0.num,vi x0.at_]),(8,strC ((x0.frm.take (i+1)).map (nmN 98)))],9⟩ rfl (by simp only[AllP];omega) mixedP rfl (by kernel_rfl) Ret.noPanic rfl tR (fun C2 x2=>?_) ?_
  ·repeat' first
    | exact True.intro
    | refine And.intro ?_ ?_
    | refine x2.pure rfl tR rfl (nm_spec 98 (x0.frm.getD i 0) hin) ⟨rfl,rfl,tR⟩ (x2.back rfl tR ?_)
    | refine x2.back rfl tR ?_
    | refine x2.back rfl (by simp only[AllP,big,htl];omega) ?_
    | exact Or.inl ⟨⟨⟨rfl,rfl⟩,⟨rfl,rfl⟩,⟨rfl,rfl⟩,⟨rfl,rfl⟩,⟨rfl,rfl⟩,⟨rfl,rfl⟩,⟨rfl,rfl⟩,veq_d rfl,rfl,rfl,tR⟩,⟨⟨rfl,rfl,rfl,rfl,rfl,veq0_d rfl,rfl,rfl,rfl,tR⟩,⟨rfl,rfl,by rw[et];simp,fun j hj=>by rw[et];exact app_str _ _ j hj⟩,tR⟩,rfl⟩
  exact x.back rfl (by simp only[AllP,inI64];omega) ⟨⟨i+1,by omega⟩,by show x0.frm.length-(i+1)<x0.frm.length-i;omega,⟨⟨rfl,rfl⟩,⟨rfl,rfl⟩,⟨rfl,rfl⟩,⟨rfl,rfl⟩,⟨rfl,rfl⟩,⟨rfl,rfl⟩,⟨rfl,rfl⟩,veq_d rfl,rfl,(show VEq0 (vi ((i:Int)+1)) (vi ((i+1:Nat):Int)) by rw[Int.natCast_add];rfl),tR⟩,⟨polB_eq p,⟨veq0_d rfl,veq0_d rfl,rfl,tR⟩,opC_eq x0,⟨rfl,rfl,rfl,rfl,rfl,rfl,rfl,rfl,rfl,tR⟩,⟨rfl,rfl,rfl,rfl,rfl,veq0_d rfl,rfl,rfl,rfl,tR⟩,⟨rfl,tR⟩,⟨rfl,tR⟩,⟨rfl,rfl,rfl,fun _ _=>rfl⟩,tR⟩,rfl⟩
 have h1:i=x0.frm.length:=by have:=of_decide_eq_false h1;omega
 subst h1
 rw[List.take_length]
 refine Sx.Go.freeze 8 ?_
 have hr:refN p c.main x0=refN p c.main x0:=rfl
 conv at hr=>rhs;unfold refN
 refine x.ite (α:=Unit) (fun _=>⟨[(5, .ptr 2 0),(6, .ptr 3 0),(8, .ptr 4 0),(9, .ptr 5 0),(10, .ptr 6 0),(3, .ptr 0 0),(4, .ptr 1 0),(15, .fn 123 [.ptr 6 0, .ptr 2 0, .ptr 5 0, .ptr 4 0]),(16, .fn 124 []),(66, .d (.int .u8 x0.kind)),(67,vb (decide (x0.kind=4∨x0.kind=5∨x0.kind=6)))],[(0,polB p),(1, .box [.d (dCels c.arrays), .d (dBods c.funcs),vi c.main]),(2,opC x0),(3, .box [.dead, .dead, .dead, .dead, .dead, .dead, .dead, .dead, .dead]),(4, .box [.d (.int .u8 x0.kind), .d (.int .u8 x0.op),vs dS,vs .empty,vs .empty, .d (dStrs (x0.args.map (nmN 118))), .d (dStrs (x0.frm.map (nmN 98))),vi x0.num,vi x0.at_]),(5, .box [vb true]),(6, .box [.fn 122 [.ptr 5 0]])],9⟩) rfl tR (fun h=>?_) (fun h=>?_) (fun _=>?_)
 ·have h:x0.kind=4:=of_decide_eq_true h
  refine x.back rfl tR ⟨(),⟨⟨rfl,rfl⟩,⟨rfl,rfl⟩,⟨rfl,rfl⟩,⟨rfl,rfl⟩,⟨rfl,rfl⟩,⟨rfl,rfl⟩,⟨rfl,rfl⟩,rfl,rfl,rfl,?_,tR⟩,⟨polB_eq p,⟨veq0_d rfl,veq0_d rfl,rfl,tR⟩,opC_eq x0,⟨rfl,rfl,rfl,rfl,rfl,rfl,rfl,rfl,rfl,tR⟩,⟨rfl,rfl,rfl,rfl,rfl,veq0_d rfl,veq0_d rfl,rfl,rfl,tR⟩,⟨rfl,tR⟩,⟨rfl,tR⟩,tR⟩,rfl⟩
  show VEq0 (vb (decide (x0.kind=4))) (vb _)
  rw[decide_eq_true h,decide_eq_true (.inl h)];exact rfl
 ·have h:¬x0.kind=4:=of_decide_eq_false h
  refine x.cond rfl tR (fun h5=>?_) (fun h5=>?_)
  ·have h5:x0.kind=5:=of_decide_eq_true h5
   refine x.back rfl tR ⟨(),⟨⟨rfl,rfl⟩,⟨rfl,rfl⟩,⟨rfl,rfl⟩,⟨rfl,rfl⟩,⟨rfl,rfl⟩,⟨rfl,rfl⟩,⟨rfl,rfl⟩,rfl,rfl,rfl,?_,tR⟩,⟨polB_eq p,⟨veq0_d rfl,veq0_d rfl,rfl,tR⟩,opC_eq x0,⟨rfl,rfl,rfl,rfl,rfl,rfl,rfl,rfl,rfl,tR⟩,⟨rfl,rfl,rfl,rfl,rfl,veq0_d rfl,veq0_d rfl,rfl,rfl,tR⟩,⟨rfl,tR⟩,⟨rfl,tR⟩,tR⟩,rfl⟩
   show VEq0 (vb (decide (x0.kind=5))) (vb _)
   rw[decide_eq_true h5,decide_eq_true (.inr (.inl h5))];exact rfl
  ·have h5:¬x0.kind=5:=of_decide_eq_false h5
   refine x.back rfl tR ⟨(),⟨⟨rfl,rfl⟩,⟨rfl,rfl⟩,⟨rfl,rfl⟩,⟨rfl,rfl⟩,⟨rfl,rfl⟩,⟨rfl,rfl⟩,⟨rfl,rfl⟩,rfl,rfl,rfl,?_,tR⟩,⟨polB_eq p,⟨veq0_d rfl,veq0_d rfl,rfl,tR⟩,opC_eq x0,⟨rfl,rfl,rfl,rfl,rfl,rfl,rfl,rfl,rfl,tR⟩,⟨rfl,rfl,rfl,rfl,rfl,veq0_d rfl,veq0_d rfl,rfl,rfl,tR⟩,⟨rfl,tR⟩,⟨rfl,tR⟩,tR⟩,rfl⟩
   show VEq0 (vb (decide (x0.kind=6))) (vb _)
   rw[show decide (x0.kind=4∨x0.kind=5∨x0.kind=6)=decide (x0.kind=6) by rw[decide_eq_decide];omega];exact rfl
 change Go C _ ⟨[(5, .ptr 2 0),(6, .ptr 3 0),(8, .ptr 4 0),(9, .ptr 5 0),(10, .ptr 6 0),(3, .ptr 0 0),(4, .ptr 1 0),(15, .fn 123 [.ptr 6 0, .ptr 2 0, .ptr 5 0, .ptr 4 0]),(16, .fn 124 []),(66, .d (.int .u8 x0.kind)),(67,vb (decide (x0.kind=4∨x0.kind=5∨x0.kind=6)))],[(0,polB p),(1, .box [.d (dCels c.arrays), .d (dBods c.funcs),vi c.main]),(2,opC x0),(3, .box [.dead, .dead, .dead, .dead, .dead, .dead, .dead, .dead, .dead]),(4, .box [.d (.int .u8 x0.kind), .d (.int .u8 x0.op),vs dS,vs .empty,vs .empty, .d (dStrs (x0.args.map (nmN 118))), .d (dStrs (x0.frm.map (nmN 98))),vi x0.num,vi x0.at_]),(5, .box [vb true]),(6, .box [.fn 122 [.ptr 5 0]])],9⟩ _
 refine x.ite (α:=Unit) (fun _=>⟨[(5, .ptr 2 0),(6, .ptr 3 0),(8, .ptr 4 0),(9, .ptr 5 0)],[(2,opC x0),(3, .box [.dead, .dead, .dead, .dead, .dead, .dead, .dead, .dead, .dead]),(4, .box [.d (.int .u8 x0.kind), .d (.int .u8 x0.op),vs dS,vs (refN p c.main x0).1,vs .empty, .d (dStrs (x0.args.map (nmN 118))), .d (dStrs (x0.frm.map (nmN 98))),vi x0.num,vi x0.at_]),(5, .box [vb (refN p c.main x0).2])],9⟩) rfl tR (fun h=>?_) (fun h=>?_) (fun _=>?_)
 ·have h:x0.kind=4∨x0.kind=5∨x0.kind=6:=of_decide_eq_true h
  rw[if_pos h] at hr
  refine x.pure rfl tR rfl (nm_spec 97 x0.ref hx.ref) ⟨rfl,rfl,tR⟩ ?_
  refine x.back rfl tR ⟨(),⟨⟨rfl,rfl⟩,⟨rfl,rfl⟩,⟨rfl,rfl⟩,⟨rfl,rfl⟩,tR⟩,⟨opC_eq x0,⟨rfl,rfl,rfl,rfl,rfl,rfl,rfl,rfl,rfl,tR⟩,⟨rfl,rfl,rfl,?_,rfl,veq0_d rfl,veq0_d rfl,rfl,rfl,tR⟩,⟨?_,tR⟩,tR⟩,rfl⟩
  ·show VEq0 (vs _) (vs (refN p c.main x0).1)
   rw[hr];exact rfl
  ·show VEq0 (vb _) (vb (refN p c.main x0).2)
   rw[hr];exact rfl
 ·have h4:¬(x0.kind=4∨x0.kind=5∨x0.kind=6):=of_decide_eq_false h
  rw[if_neg h4] at hr
  refine x.cond rfl tR (fun h=>?_) (fun h=>?_)
  ·have h:x0.kind=7:=of_decide_eq_true h
   rw[if_pos h] at hr
   refine x.pure rfl tR rfl (nm_spec 102 x0.ref hx.ref) ⟨rfl,rfl,tR⟩ ?_
   refine x.cond rfl tR (fun h7=>?_) (fun h7=>?_)
   ·have h7:x0.ref=c.main:=of_decide_eq_true h7
    rw[if_pos h7] at hr
    refine x.back rfl tR ⟨(),⟨⟨rfl,rfl⟩,⟨rfl,rfl⟩,⟨rfl,rfl⟩,⟨rfl,rfl⟩,tR⟩,⟨opC_eq x0,⟨rfl,rfl,rfl,rfl,rfl,rfl,rfl,rfl,rfl,tR⟩,⟨rfl,rfl,rfl,?_,rfl,veq0_d rfl,veq0_d rfl,rfl,rfl,tR⟩,⟨?_,tR⟩,tR⟩,rfl⟩
    ·show VEq0 (vs _) (vs (refN p c.main x0).1)
     rw[hr];exact rfl
    ·show VEq0 (vb _) (vb (refN p c.main x0).2)
     rw[hr];exact rfl
   ·have h7:¬x0.ref=c.main:=of_decide_eq_false h7
    rw[if_neg h7] at hr
    refine x.back rfl tR ⟨(),⟨⟨rfl,rfl⟩,⟨rfl,rfl⟩,⟨rfl,rfl⟩,⟨rfl,rfl⟩,tR⟩,⟨opC_eq x0,⟨rfl,rfl,rfl,rfl,rfl,rfl,rfl,rfl,rfl,tR⟩,⟨rfl,rfl,rfl,?_,rfl,veq0_d rfl,veq0_d rfl,rfl,rfl,tR⟩,⟨?_,tR⟩,tR⟩,rfl⟩
    ·show VEq0 (vs _) (vs (refN p c.main x0).1)
     rw[hr];exact rfl
    ·show VEq0 (vb _) (vb (refN p c.main x0).2)
     rw[hr];exact rfl
  have h7:¬x0.kind=7:=of_decide_eq_false h
  rw[if_neg h7] at hr
  refine x.cond rfl tR (fun h=>?_) (fun h=>?_)
  ·have h:x0.kind=8:=of_decide_eq_true h
   rw[if_pos h] at hr
   refine x.pure rfl tR rfl (chanN_spec p.ins hp.1) ⟨veq_d rfl,tR⟩ ?_
   refine x.call [6,2,5,4] rfl tR rfl (named_spec x0 dS .empty .empty _ _ (p.ins.map (·.1)) (by rw[List.length_map];exact i3)) rfl ⟨veq_d rfl,⟨rfl,rfl⟩,⟨rfl,rfl⟩,⟨rfl,rfl⟩,⟨rfl,rfl⟩,tR⟩ ⟨⟨rfl,tR⟩,opC_eq x0,⟨rfl,tR⟩,⟨rfl,rfl,rfl,rfl,rfl,veq0_d rfl,veq0_d rfl,rfl,rfl,tR⟩,tR⟩ ?_
   have hm:(if inB9 x0.ref (p.ins.map (·.1)).length=true then (p.ins.map (·.1)).getD x0.ref.toNat .empty else ByteArray.empty)=(if inB9 x0.ref p.ins.length=true then (p.ins.getD x0.ref.toNat chan0).1 else .empty):=by rw[List.length_map,map_fst_getD]
   refine x.back rfl tR ⟨(),⟨⟨rfl,rfl⟩,⟨rfl,rfl⟩,⟨rfl,rfl⟩,⟨rfl,rfl⟩,tR⟩,⟨opC_eq x0,⟨rfl,rfl,rfl,rfl,rfl,rfl,rfl,rfl,rfl,tR⟩,⟨rfl,rfl,rfl,?_,rfl,veq0_d rfl,veq0_d rfl,rfl,rfl,tR⟩,⟨?_,tR⟩,tR⟩,rfl⟩
   ·show VEq0 (vs (if inB9 x0.ref (p.ins.map (·.1)).length=true then (p.ins.map (·.1)).getD x0.ref.toNat .empty else ByteArray.empty)) (vs (refN p c.main x0).1)
    rw[hr,hm];exact rfl
   ·show VEq0 (vb (inB9 x0.ref (p.ins.map (·.1)).length)) (vb (refN p c.main x0).2)
    rw[hr,List.length_map];exact rfl
  have h8:¬x0.kind=8:=of_decide_eq_false h
  rw[if_neg h8] at hr
  refine x.cond rfl tR (fun h=>?_) (fun h=>?_)
  ·have h:x0.kind=9:=of_decide_eq_true h
   rw[if_pos h] at hr
   refine x.pure rfl tR rfl (chanN_spec p.outs hp.2) ⟨veq_d rfl,tR⟩ ?_
   refine x.call [6,2,5,4] rfl tR rfl (named_spec x0 dS .empty .empty _ _ (p.outs.map (·.1)) (by rw[List.length_map];exact i4)) rfl ⟨veq_d rfl,⟨rfl,rfl⟩,⟨rfl,rfl⟩,⟨rfl,rfl⟩,⟨rfl,rfl⟩,tR⟩ ⟨⟨rfl,tR⟩,opC_eq x0,⟨rfl,tR⟩,⟨rfl,rfl,rfl,rfl,rfl,veq0_d rfl,veq0_d rfl,rfl,rfl,tR⟩,tR⟩ ?_
   have hm:(if inB9 x0.ref (p.outs.map (·.1)).length=true then (p.outs.map (·.1)).getD x0.ref.toNat .empty else ByteArray.empty)=(if inB9 x0.ref p.outs.length=true then (p.outs.getD x0.ref.toNat chan0).1 else .empty):=by rw[List.length_map,map_fst_getD]
   refine x.back rfl tR ⟨(),⟨⟨rfl,rfl⟩,⟨rfl,rfl⟩,⟨rfl,rfl⟩,⟨rfl,rfl⟩,tR⟩,⟨opC_eq x0,⟨rfl,rfl,rfl,rfl,rfl,rfl,rfl,rfl,rfl,tR⟩,⟨rfl,rfl,rfl,?_,rfl,veq0_d rfl,veq0_d rfl,rfl,rfl,tR⟩,⟨?_,tR⟩,tR⟩,rfl⟩
   ·show VEq0 (vs (if inB9 x0.ref (p.outs.map (·.1)).length=true then (p.outs.map (·.1)).getD x0.ref.toNat .empty else ByteArray.empty)) (vs (refN p c.main x0).1)
    rw[hr,hm];exact rfl
   ·show VEq0 (vb (inB9 x0.ref (p.outs.map (·.1)).length)) (vb (refN p c.main x0).2)
    rw[hr,List.length_map];exact rfl
  have h9:¬x0.kind=9:=of_decide_eq_false h
  rw[if_neg h9] at hr
  refine x.cond rfl tR (fun h=>?_) (fun h=>?_)
  ·have h:x0.kind=10:=of_decide_eq_true h
   rw[if_pos h] at hr
   refine x.call [6,2,5,4] rfl tR rfl (named_spec x0 dS .empty .empty _ _ p.lev i1) rfl ⟨veq_d rfl,⟨rfl,rfl⟩,⟨rfl,rfl⟩,⟨rfl,rfl⟩,⟨rfl,rfl⟩,tR⟩ ⟨⟨rfl,tR⟩,opC_eq x0,⟨rfl,tR⟩,⟨rfl,rfl,rfl,rfl,rfl,veq0_d rfl,veq0_d rfl,rfl,rfl,tR⟩,tR⟩ ?_
   refine x.back rfl tR ⟨(),⟨⟨rfl,rfl⟩,⟨rfl,rfl⟩,⟨rfl,rfl⟩,⟨rfl,rfl⟩,tR⟩,⟨opC_eq x0,⟨rfl,rfl,rfl,rfl,rfl,rfl,rfl,rfl,rfl,tR⟩,⟨rfl,rfl,rfl,?_,rfl,veq0_d rfl,veq0_d rfl,rfl,rfl,tR⟩,⟨?_,tR⟩,tR⟩,rfl⟩
   ·show VEq0 (vs _) (vs (refN p c.main x0).1)
    rw[hr];exact rfl
   ·show VEq0 (vb _) (vb (refN p c.main x0).2)
    rw[hr];exact rfl
  have h10:¬x0.kind=10:=of_decide_eq_false h
  rw[if_neg h10] at hr
  refine x.cond rfl tR (fun h=>?_) (fun h=>?_)
  ·have h:x0.kind=11:=of_decide_eq_true h
   rw[if_pos (.inl h)] at hr
   refine x.cond rfl tR (fun h2=>?_) (fun h2=>?_)
   ·refine x.pure rfl tR rfl (nm_spec 98 x0.ref hx.ref) ⟨rfl,rfl,tR⟩ ?_
    refine x.back rfl tR ⟨(),⟨⟨rfl,rfl⟩,⟨rfl,rfl⟩,⟨rfl,rfl⟩,⟨rfl,rfl⟩,tR⟩,⟨opC_eq x0,⟨rfl,rfl,rfl,rfl,rfl,rfl,rfl,rfl,rfl,tR⟩,⟨rfl,rfl,rfl,?_,rfl,veq0_d rfl,veq0_d rfl,rfl,rfl,tR⟩,⟨?_,tR⟩,tR⟩,rfl⟩
    ·show VEq0 (vs _) (vs (refN p c.main x0).1)
     rw[hr];exact rfl
    ·show VEq0 (vb _) (vb (refN p c.main x0).2)
     rw[hr];exact rfl
   ·exact absurd h (of_decide_eq_false h2)
  have h11:¬x0.kind=11:=of_decide_eq_false h
  refine x.cond rfl tR (fun h=>?_) (fun h=>?_)
  ·have h:x0.kind=12:=of_decide_eq_true h
   rw[if_pos (.inr h)] at hr
   refine x.pure rfl tR rfl (nm_spec 98 x0.ref hx.ref) ⟨rfl,rfl,tR⟩ ?_
   refine x.back rfl tR ⟨(),⟨⟨rfl,rfl⟩,⟨rfl,rfl⟩,⟨rfl,rfl⟩,⟨rfl,rfl⟩,tR⟩,⟨opC_eq x0,⟨rfl,rfl,rfl,rfl,rfl,rfl,rfl,rfl,rfl,tR⟩,⟨rfl,rfl,rfl,?_,rfl,veq0_d rfl,veq0_d rfl,rfl,rfl,tR⟩,⟨?_,tR⟩,tR⟩,rfl⟩
   ·show VEq0 (vs _) (vs (refN p c.main x0).1)
    rw[hr];exact rfl
   ·show VEq0 (vb _) (vb (refN p c.main x0).2)
    rw[hr];exact rfl
  ·have h12:¬x0.kind=12:=of_decide_eq_false h
   rw[if_neg (by omega)] at hr
   refine x.back rfl tR ⟨(),⟨⟨rfl,rfl⟩,⟨rfl,rfl⟩,⟨rfl,rfl⟩,⟨rfl,rfl⟩,tR⟩,⟨opC_eq x0,⟨rfl,rfl,rfl,rfl,rfl,rfl,rfl,rfl,rfl,tR⟩,⟨rfl,rfl,rfl,?_,rfl,veq0_d rfl,veq0_d rfl,rfl,rfl,tR⟩,⟨?_,tR⟩,tR⟩,rfl⟩
   ·show VEq0 (vs _) (vs (refN p c.main x0).1)
    rw[hr];exact rfl
   ·show VEq0 (vb _) (vb (refN p c.main x0).2)
    rw[hr];exact rfl
 clear hr
 change Go C _ ⟨[(5, .ptr 2 0),(6, .ptr 3 0),(8, .ptr 4 0),(9, .ptr 5 0)],[(2,opC x0),(3, .box [.dead, .dead, .dead, .dead, .dead, .dead, .dead, .dead, .dead]),(4, .box [.d (.int .u8 x0.kind), .d (.int .u8 x0.op),vs dS,vs (refN p c.main x0).1,vs .empty, .d (dStrs (x0.args.map (nmN 118))), .d (dStrs (x0.frm.map (nmN 98))),vi x0.num,vi x0.at_]),(5, .box [vb (refN p c.main x0).2])],9⟩ _
 refine x.cond rfl tR (fun h=>?_) (fun h=>?_)
 ·have h:x0.kind=12:=of_decide_eq_true h
  rw[if_pos h]
  refine x.pure rfl tR rfl (nm_spec 98 x0.alt hx.alt) ⟨rfl,rfl,tR⟩ ?_
  refine x.every2 [3] [0,1] (.fork 2 (.fork 3 .leaf .no) .no)
   ⟨[(6, .ptr 3 0),(7,vb (refN p c.main x0).2)],[(3, .box [.d (.int .u8 x0.kind), .d (.int .u8 x0.op),vs dS,vs (refN p c.main x0).1,vs (nmN 98 x0.alt), .d (dStrs (x0.args.map (nmN 118))), .d (dStrs (x0.frm.map (nmN 98))),vi x0.num,vi x0.at_])],9⟩ rfl tR mixedP (by kernel_rfl) Ret.noPanic rfl tR (fun C2 x2=>?_) ?_
  ·exact⟨x2.back rfl tR ⟨x2.back rfl tR (Or.inl ⟨⟨⟨rfl,rfl⟩,rfl,tR⟩,⟨⟨rfl,rfl,rfl,rfl,rfl,veq0_d rfl,veq0_d rfl,rfl,rfl,tR⟩,tR⟩,rfl⟩),tR⟩,tR⟩
  exact x.exit rfl tR ⟨.inr rfl,⟨rfl,rfl,tR⟩,tR,rfl⟩
 ·have h:¬x0.kind=12:=of_decide_eq_false h
  rw[if_neg h]
  refine x.every2 [3] [0,1] (.fork 2 (.fork 3 .leaf .no) .no)
   ⟨[(6, .ptr 3 0),(7,vb (refN p c.main x0).2)],[(3, .box [.d (.int .u8 x0.kind), .d (.int .u8 x0.op),vs dS,vs (refN p c.main x0).1,vs .empty, .d (dStrs (x0.args.map (nmN 118))), .d (dStrs (x0.frm.map (nmN 98))),vi x0.num,vi x0.at_])],9⟩ rfl tR mixedP (by kernel_rfl) Ret.noPanic rfl tR (fun C2 x2=>?_) ?_
  ·exact⟨x2.back rfl tR ⟨x2.back rfl tR (Or.inl ⟨⟨⟨rfl,rfl⟩,rfl,tR⟩,⟨⟨rfl,rfl,rfl,rfl,rfl,veq0_d rfl,veq0_d rfl,rfl,rfl,tR⟩,tR⟩,rfl⟩),tR⟩,tR⟩
  exact x.exit rfl tR ⟨.inr rfl,⟨rfl,rfl,tR⟩,tR,rfl⟩
def rng {α:Type} (n:Nat) (f:Nat->α):List α:=(List.range n).map f
theorem rng_len {α:Type} (n:Nat) (f:Nat->α):(rng n f).length=n:=by simp [rng]
theorem rng_get {α:Type} {n:Nat} {f:Nat->α} {i:Nat} (h:i<n):(rng n f)[i]?=some (f i):=by unfold rng;rw[List.getElem?_map,List.getElem?_range h];rfl
theorem rng_succ {α:Type} (n:Nat) (f:Nat->α):rng (n+1) f=rng n f++[f n]:=by unfold rng;rw[List.range_succ,List.map_append];rfl
def arrN (p:Pol) (i:Nat) (a:Cel):Arr:=⟨nmN 97 (i:Int),a.1,p.lev.getD a.2.toNat .empty,0⟩
def blkN (p:Pol) (main:Int) (k:Nat) (l:List Op9):Blk:=⟨nmN 98 (k:Int),l.map (raisedV p main),0⟩
def fnN (main:Int) (i:Nat):ByteArray:=if (i:Int)=main then mainS else nmN 102 (i:Int)
def parN (n:Int):List ByteArray:=rng n.toNat fun k=>nmN 118 (k:Int)
def fun9 (p:Pol) (main:Int) (i:Nat) (b:Bod):Fun:=⟨fnN main i,parN b.params,rng b.blocks.length fun k=>blkN p main k (b.blocks.getD k []),0⟩
def levOK (p:Pol) (a:Cel):Bool:=decide (0≤a.2)&&decide (a.2<(p.lev.length:Int))
def opsOK (p:Pol) (main:Int) (l:List Op9):Bool:=l.all fun x=>(refN p main x).2
def bodOK (p:Pol) (main:Int) (b:Bod):Bool:=(decide (0≤b.params)&&decide (b.params≤6))&&b.blocks.all (opsOK p main)
def raiseQ (p:Pol) (c:Cod):Prg:=⟨rng c.arrays.length fun i=>arrN p i (c.arrays.getD i cel0),rng c.funcs.length fun i=>fun9 p c.main i (c.funcs.getD i bod0)⟩
def raiseO (p:Pol) (c:Cod):Option Prg:=if (c.arrays.all (levOK p)&&c.funcs.all (bodOK p c.main))=true then some (raiseQ p c) else none
abbrev raiseW:Option Prg->V
 | some q=>.tup [prgV q,vb true]
 | none=>.tup [.agg [.dead, .dead],vb false]
structure CodSz (c:Cod):Prop where
 al:c.arrays.length≤1000000
 fl:c.funcs.length≤1000000
 bl:∀b∈c.funcs,b.blocks.length*48≤140737488355328
 ll:∀b∈c.funcs,∀l∈b.blocks,l.length*120≤140737488355328∧∀x∈l,OpSz x
theorem not_all {α:Type} {P:α->Bool} {l:List α} {i:Nat} {d:α} (h:i<l.length) (hp:P (l.getD i d)=false):l.all P=false:=by
 rw[List.all_eq_false]
 exact⟨l.getD i d,by rw[List.getD_eq_getElem?_getD,List.getElem?_eq_getElem h];exact List.getElem_mem h,by rw[hp];simp⟩
theorem all_of {α:Type} {P:α->Bool} {l:List α} (d:α) (h:∀i,i<l.length->P (l.getD i d)=true):l.all P=true:=by
 rw[List.all_eq_true]
 intro a ha
 obtain⟨i,hi,rfl⟩:=List.getElem_of_mem ha
 have:=h i hi
 rwa [List.getD_eq_getElem?_getD,List.getElem?_eq_getElem hi] at this
theorem getD_in {α:Type} {l:List α} {i:Nat} (d:α) (h:i<l.length):l.getD i d∈l:=by rw[List.getD_eq_getElem?_getD,List.getElem?_eq_getElem h];exact List.getElem_mem h
set_option maxHeartbeats 16000000 in
theorem raise_spec (p:Pol) (c:Cod) (hz:PolSz p) (hp:p.ins.length≤1000000∧p.outs.length≤1000000) (hc:CodSz c):Pure PG 22 [vPol p,codW c] (raiseW (raiseO p c)) []:=by
 obtain⟨i1,i2,i3,i4⟩:=polSz_i64 hz
 have hal:=hc.al
 have hfl:=hc.fl
 refine Proc.mk (cfg 144) tysOK [] Tryz.func22 rfl (by kernel_rfl) rfl rfl (by unfold raiseO;split<;>rfl) ?_
 intro C x
 refine x.toLoop rfl tR ?_
 refine Go.ownB 3 0 78 4 (fun i=>dArr (([]:List Arr).getD i arr0)) rfl rfl ?_
 refine x.loop (α:={i:Nat // i≤c.arrays.length∧∀j,j<i->levOK p (c.arrays.getD j cel0)=true}) (fun y=>⟨[(2, .ptr 0 0),(3, .ptr 1 0),(4, .ptr 2 0),(6, .ptr 3 0),(21, .d (dCels c.arrays)),(22,vi (c.arrays.length:Int)),(23,vi (y.1:Int))],[(0,polB p),(1, .box [.d (dCels c.arrays), .d (dBods c.funcs),vi c.main]),(2, .box [.dead, .dead]),(3, .box [.own 4, .nils]),(4,arrsC (rng y.1 fun i=>arrN p i (c.arrays.getD i cel0)))],5⟩) (fun y=>c.arrays.length-y.1) ⟨0,Nat.zero_le _,fun j hj=>absurd hj (Nat.not_lt_zero _)⟩ rfl tR ⟨⟨⟨rfl,rfl⟩,⟨rfl,rfl⟩,⟨rfl,rfl⟩,⟨rfl,rfl⟩,veq_d rfl,rfl,rfl,tR⟩,⟨polB_eq p,⟨veq0_d rfl,veq0_d rfl,rfl,tR⟩,⟨rfl,rfl,tR⟩,⟨rfl,tR,tR⟩,⟨rfl,rfl,rfl,fun _ h=>absurd h (Nat.not_lt_zero _)⟩,tR⟩,rfl⟩ (fun y=>?_)
 obtain⟨i,hi,hlo⟩:=y
 change Go C _ ⟨[(2, .ptr 0 0),(3, .ptr 1 0),(4, .ptr 2 0),(6, .ptr 3 0),(21, .d (dCels c.arrays)),(22,vi (c.arrays.length:Int)),(23,vi (i:Int))],[(0,polB p),(1, .box [.d (dCels c.arrays), .d (dBods c.funcs),vi c.main]),(2, .box [.dead, .dead]),(3, .box [.own 4, .nils]),(4,arrsC (rng i fun i=>arrN p i (c.arrays.getD i cel0)))],5⟩ _
 refine x.cond rfl tR (fun h1=>?_) (fun h1=>?_)
 ·have h1:i<c.arrays.length:=by have:=of_decide_eq_true h1;omega
  have hva:(decide ((c.arrays.getD i cel0).2<0)||decide ((p.lev.length:Int)≤(c.arrays.getD i cel0).2))=!levOK p (c.arrays.getD i cel0):=by
   unfold levOK
   rw[Bool.not_and,←decide_not,←decide_not]
   congr 1<;>rw[decide_eq_decide]<;>omega
  cases hl:levOK p (c.arrays.getD i cel0) with
  | false=>
   have hno:(c.arrays.all (levOK p)&&c.funcs.all (bodOK p c.main))=false:=by rw[not_all h1 hl,Bool.false_and]
   refine x.cond rfl (by simp only[AllP];omega) (fun h2=>?_) (fun h2=>?_)
   ·rw[raiseO,if_neg (by rw[hno];simp)]
    refine x.leExit ?_
    exact x.exit rfl tR ⟨⟨[(4, .ptr 2 0),(5,vb false)],[(2, .box [.dead, .dead])],6⟩,⟨⟨⟨rfl,rfl⟩,rfl,tR⟩,⟨⟨rfl,rfl,tR⟩,tR⟩,rfl⟩, .inr rfl,⟨rfl,rfl,tR⟩,tR,rfl⟩
   ·have h2:(decide ((c.arrays.getD i cel0).2<0)||decide ((p.lev.length:Int)≤(c.arrays.getD i cel0).2))=false:=h2
    rw[hva,hl] at h2;cases h2
  | true=>
   have hlb:0≤(c.arrays.getD i cel0).2∧(c.arrays.getD i cel0).2<(p.lev.length:Int):=by
    unfold levOK at hl
    rw[Bool.and_eq_true,decide_eq_true_eq,decide_eq_true_eq] at hl;exact hl
   refine x.cond rfl (by simp only[AllP];omega) (fun h2=>?_) (fun h2=>?_)
   ·have h2:(decide ((c.arrays.getD i cel0).2<0)||decide ((p.lev.length:Int)≤(c.arrays.getD i cel0).2))=true:=h2
    rw[hva,hl] at h2;cases h2
   have hrl:=rng_len i fun i=>arrN p i (c.arrays.getD i cel0)
   refine x.code rfl tR ?_
   refine x.perm [0,1,2,3,5,4] rfl ?_
   refine x.every3 5 [3,5] [0,2,4,5,6,7,8,9,10,11] (.fork 1 (.fork 3 (.fork 12 (.fork 13 (.fork 14 (.fork 15 (.fork 16 .leaf .no) .no) .no) .no) .no) .no) (.fork 3 (.fork 1 (.fork 12 (.fork 13 (.fork 14 (.fork 15 (.fork 16 .leaf .no) .no) .no) .no) .no) (.fork 12 (.fork 1 (.fork 13 (.fork 14 (.fork 15 (.fork 16 .leaf .no) .no) .no) .no) (.fork 13 (.fork 1 (.fork 14 (.fork 15 (.fork 16 .leaf .no) .no) .no) .no) .no)) .no)) .no))
    ⟨[(2, .ptr 0 0),(3, .ptr 1 0),(4, .ptr 2 0),(6, .ptr 3 0),(21, .d (dCels c.arrays)),(22,vi (c.arrays.length:Int)),(23,vi (i:Int))],[(3, .box [.own 5, .nils]),(5,arrsC (rng (i+1) fun i=>arrN p i (c.arrays.getD i cel0)))],6⟩ rfl tR mixedP rfl (by kernel_rfl) Ret.noPanic rfl (by simp only[AllP,Int.toNat_natCast];omega) (fun C2 x2=>?_) ?_
   ·repeat' first
     | exact True.intro
     | refine And.intro ?_ ?_
     | refine x2.pure rfl tR rfl (nm_spec 97 (i:Int) (by unfold inI64;omega)) ⟨rfl,rfl,tR⟩ (x2.back rfl tR ?_)
     | refine x2.back rfl tR ?_
     | refine x2.back rfl (by simp only[AllP,big,hrl];omega) ?_
     | exact Or.inl ⟨⟨⟨rfl,rfl⟩,⟨rfl,rfl⟩,⟨rfl,rfl⟩,⟨rfl,rfl⟩,veq_d rfl,rfl,rfl,tR⟩,⟨⟨rfl,tR,tR⟩,⟨rfl,rfl,by rw[rng_succ];simp,fun j hj=>by rw[rng_succ];exact app_gen6 dArr 4 (fun _=>rfl) arr0 _ (arrN p i (c.arrays.getD i cel0)) j hj⟩,tR⟩,rfl⟩
   refine x.perm [0,1,2,3,5,4] rfl ?_
   refine x.back rfl (by simp only[AllP,inI64];omega) ⟨⟨i+1,by omega,fun j hj=>?_⟩,by show c.arrays.length-(i+1)<c.arrays.length-i;omega,⟨⟨rfl,rfl⟩,⟨rfl,rfl⟩,⟨rfl,rfl⟩,⟨rfl,rfl⟩,veq_d rfl,rfl,(show VEq0 (vi ((i:Int)+1)) (vi ((i+1:Nat):Int)) by rw[Int.natCast_add];rfl),tR⟩,⟨polB_eq p,⟨veq0_d rfl,veq0_d rfl,rfl,tR⟩,⟨rfl,rfl,tR⟩,⟨rfl,tR,tR⟩,⟨rfl,rfl,rfl,fun _ _=>rfl⟩,tR⟩,rfl⟩
   by_cases e:j=i
   ·rw[e];exact hl
   ·exact hlo j (by omega)
 have h1:i=c.arrays.length:=by have:=of_decide_eq_false h1;omega
 subst h1
 have hla:c.arrays.all (levOK p)=true:=all_of cel0 hlo
 refine Sx.Go.freeze 4 ?_
 refine x.toLoop rfl tR ?_
 refine Go.ownB 3 1 82 4 (fun i=>dFun (([]:List Fun).getD i fun0)) rfl rfl ?_
 refine x.loop (α:={i:Nat // i≤c.funcs.length∧∀j,j<i->bodOK p c.main (c.funcs.getD j bod0)=true}) (fun y=>⟨[(2, .ptr 0 0),(3, .ptr 1 0),(4, .ptr 2 0),(6, .ptr 3 0),(58, .d (dBods c.funcs)),(59,vi (c.funcs.length:Int)),(60,vi (y.1:Int))],[(0,polB p),(1, .box [.d (dCels c.arrays), .d (dBods c.funcs),vi c.main]),(2, .box [.dead, .dead]),(3, .box [.d (dArrs (rng c.arrays.length fun i=>arrN p i (c.arrays.getD i cel0))), .own 5]),(5,funsC (rng y.1 fun i=>fun9 p c.main i (c.funcs.getD i bod0)))],6⟩) (fun y=>c.funcs.length-y.1) ⟨0,Nat.zero_le _,fun j hj=>absurd hj (Nat.not_lt_zero _)⟩ rfl tR ⟨⟨⟨rfl,rfl⟩,⟨rfl,rfl⟩,⟨rfl,rfl⟩,⟨rfl,rfl⟩,veq_d rfl,rfl,rfl,tR⟩,⟨polB_eq p,⟨veq0_d rfl,veq0_d rfl,rfl,tR⟩,⟨rfl,rfl,tR⟩,⟨veq0_d rfl,rfl,tR⟩,⟨rfl,rfl,rfl,fun _ h=>absurd h (Nat.not_lt_zero _)⟩,tR⟩,rfl⟩ (fun y=>?_)
 clear hlo
 obtain⟨i,hi,hlo⟩:=y
 change Go C _ ⟨[(2, .ptr 0 0),(3, .ptr 1 0),(4, .ptr 2 0),(6, .ptr 3 0),(58, .d (dBods c.funcs)),(59,vi (c.funcs.length:Int)),(60,vi (i:Int))],[(0,polB p),(1, .box [.d (dCels c.arrays), .d (dBods c.funcs),vi c.main]),(2, .box [.dead, .dead]),(3, .box [.d (dArrs (rng c.arrays.length fun i=>arrN p i (c.arrays.getD i cel0))), .own 5]),(5,funsC (rng i fun i=>fun9 p c.main i (c.funcs.getD i bod0)))],6⟩ _
 refine x.cond rfl tR (fun h1=>?_) (fun h1=>?_)
 rotate_left
 ·have h1:i=c.funcs.length:=by have:=of_decide_eq_false h1;omega
  subst h1
  have hlb:c.funcs.all (bodOK p c.main)=true:=all_of bod0 hlo
  rw[raiseO,if_pos (by rw[hla,hlb];rfl)]
  refine Sx.Go.freeze 5 ?_
  exact x.exit rfl tR ⟨.inr rfl,⟨rfl,rfl,tR⟩,tR,rfl⟩
 have h1:i<c.funcs.length:=by have:=of_decide_eq_true h1;omega
 have hin:=getD_in bod0 h1
 have hbl:=hc.bl _ hin
 have hll:=hc.ll _ hin
 have hfr:=rng_len i fun i=>fun9 p c.main i (c.funcs.getD i bod0)
 refine x.pure rfl (by simp only[AllP];omega) rfl (nm_spec 102 (i:Int) (by unfold inI64;omega)) ⟨rfl,rfl,tR⟩ ?_
 refine x.ite (α:=Unit) (fun _=>⟨[(2, .ptr 0 0),(3, .ptr 1 0),(4, .ptr 2 0),(6, .ptr 3 0),(58, .d (dBods c.funcs)),(59,vi (c.funcs.length:Int)),(60,vi (i:Int)),(10, .ptr 6 0),(11, .ptr 7 0)],[(0,polB p),(1, .box [.d (dCels c.arrays), .d (dBods c.funcs),vi c.main]),(2, .box [.dead, .dead]),(3, .box [.d (dArrs (rng c.arrays.length fun i=>arrN p i (c.arrays.getD i cel0))), .own 5]),(5,funsC (rng i fun i=>fun9 p c.main i (c.funcs.getD i bod0))),(6, .box [vi (c.funcs.getD i bod0).params,vi (c.funcs.getD i bod0).vars, .d (dBks (c.funcs.getD i bod0).blocks)]),(7, .box [vs (fnN c.main i), .nils, .nils,vi 0])],8⟩) rfl tR (fun h2=>?_) (fun h2=>?_) (fun _=>?_)
 ·have h2:(i:Int)=c.main:=of_decide_eq_true h2
  have e:fnN c.main i=mainS:=by unfold fnN;rw[if_pos h2]
  rw[e]
  exact x.back rfl tR ⟨(),⟨⟨rfl,rfl⟩,⟨rfl,rfl⟩,⟨rfl,rfl⟩,⟨rfl,rfl⟩,veq_d rfl,rfl,rfl,⟨rfl,rfl⟩,⟨rfl,rfl⟩,tR⟩,⟨polB_eq p,⟨veq0_d rfl,veq0_d rfl,rfl,tR⟩,⟨rfl,rfl,tR⟩,⟨veq0_d rfl,rfl,tR⟩,⟨rfl,rfl,rfl,fun _ _=>rfl⟩,⟨rfl,rfl,veq0_d rfl,tR⟩,⟨rfl,tR,tR,rfl,tR⟩,tR⟩,rfl⟩
 ·have h2:¬(i:Int)=c.main:=of_decide_eq_false h2
  have e:fnN c.main i=nmN 102 (i:Int):=by unfold fnN;rw[if_neg h2]
  rw[e]
  exact x.back rfl tR ⟨(),⟨⟨rfl,rfl⟩,⟨rfl,rfl⟩,⟨rfl,rfl⟩,⟨rfl,rfl⟩,veq_d rfl,rfl,rfl,⟨rfl,rfl⟩,⟨rfl,rfl⟩,tR⟩,⟨polB_eq p,⟨veq0_d rfl,veq0_d rfl,rfl,tR⟩,⟨rfl,rfl,tR⟩,⟨veq0_d rfl,rfl,tR⟩,⟨rfl,rfl,rfl,fun _ _=>rfl⟩,⟨rfl,rfl,veq0_d rfl,tR⟩,⟨rfl,tR,tR,rfl,tR⟩,tR⟩,rfl⟩
 change Go C _ ⟨[(2, .ptr 0 0),(3, .ptr 1 0),(4, .ptr 2 0),(6, .ptr 3 0),(58, .d (dBods c.funcs)),(59,vi (c.funcs.length:Int)),(60,vi (i:Int)),(10, .ptr 6 0),(11, .ptr 7 0)],[(0,polB p),(1, .box [.d (dCels c.arrays), .d (dBods c.funcs),vi c.main]),(2, .box [.dead, .dead]),(3, .box [.d (dArrs (rng c.arrays.length fun i=>arrN p i (c.arrays.getD i cel0))), .own 5]),(5,funsC (rng i fun i=>fun9 p c.main i (c.funcs.getD i bod0))),(6, .box [vi (c.funcs.getD i bod0).params,vi (c.funcs.getD i bod0).vars, .d (dBks (c.funcs.getD i bod0).blocks)]),(7, .box [vs (fnN c.main i), .nils, .nils,vi 0])],8⟩ _
 refine x.cond rfl tR (fun h2=>?_) (fun h2=>?_)
 ·have h2:(decide ((c.funcs.getD i bod0).params<0)||decide (6<(c.funcs.getD i bod0).params))=true:=h2
  have hb:bodOK p c.main (c.funcs.getD i bod0)=false:=by
   unfold bodOK
   rw[Bool.or_eq_true,decide_eq_true_eq,decide_eq_true_eq] at h2
   rcases h2 with h2 | h2
   ·rw[decide_eq_false (show ¬0≤(c.funcs.getD i bod0).params by omega)];rfl
   ·rw[decide_eq_false (show ¬(c.funcs.getD i bod0).params≤6 by omega),Bool.and_false];rfl
  have hno:(c.arrays.all (levOK p)&&c.funcs.all (bodOK p c.main))=false:=by rw[not_all h1 hb,Bool.and_false]
  rw[raiseO,if_neg (by rw[hno];simp)]
  refine x.leExit ?_
  exact x.exit rfl tR ⟨⟨[(4, .ptr 2 0),(5,vb false)],[(2, .box [.dead, .dead])],8⟩,⟨⟨⟨rfl,rfl⟩,rfl,tR⟩,⟨⟨rfl,rfl,tR⟩,tR⟩,rfl⟩, .inr rfl,⟨rfl,rfl,tR⟩,tR,rfl⟩
 have h2:(decide ((c.funcs.getD i bod0).params<0)||decide (6<(c.funcs.getD i bod0).params))=false:=h2
 rw[Bool.or_eq_false_iff,decide_eq_false_iff_not,decide_eq_false_iff_not] at h2
 obtain⟨P,hP⟩:∃P:Nat,(c.funcs.getD i bod0).params=(P:Int):=⟨(c.funcs.getD i bod0).params.toNat,by omega⟩
 refine x.toLoop rfl tR ?_
 refine Go.ownB 7 1 9 1 (fun i=>[.str (([]:List ByteArray).getD i .empty)]) rfl rfl ?_
 refine x.loop (α:={k:Nat // k≤P}) (fun y=>⟨[(2, .ptr 0 0),(3, .ptr 1 0),(4, .ptr 2 0),(6, .ptr 3 0),(58, .d (dBods c.funcs)),(59,vi (c.funcs.length:Int)),(60,vi (i:Int)),(10, .ptr 6 0),(11, .ptr 7 0),(83,vi (c.funcs.getD i bod0).params),(84,vi (y.1:Int))],[(0,polB p),(1, .box [.d (dCels c.arrays), .d (dBods c.funcs),vi c.main]),(2, .box [.dead, .dead]),(3, .box [.d (dArrs (rng c.arrays.length fun i=>arrN p i (c.arrays.getD i cel0))), .own 5]),(5,funsC (rng i fun i=>fun9 p c.main i (c.funcs.getD i bod0))),(6, .box [vi (c.funcs.getD i bod0).params,vi (c.funcs.getD i bod0).vars, .d (dBks (c.funcs.getD i bod0).blocks)]),(7, .box [vs (fnN c.main i), .own 8, .nils,vi 0]),(8,strC (rng y.1 fun k=>nmN 118 (k:Int)))],9⟩) (fun y=>P-y.1) ⟨0,Nat.zero_le _⟩ rfl tR ⟨⟨⟨rfl,rfl⟩,⟨rfl,rfl⟩,⟨rfl,rfl⟩,⟨rfl,rfl⟩,veq_d rfl,rfl,rfl,⟨rfl,rfl⟩,⟨rfl,rfl⟩,rfl,rfl,tR⟩,⟨polB_eq p,⟨veq0_d rfl,veq0_d rfl,rfl,tR⟩,⟨rfl,rfl,tR⟩,⟨veq0_d rfl,rfl,tR⟩,⟨rfl,rfl,rfl,fun _ _=>rfl⟩,⟨rfl,rfl,veq0_d rfl,tR⟩,⟨rfl,rfl,tR,rfl,tR⟩,⟨rfl,rfl,rfl,fun _ h=>absurd h (Nat.not_lt_zero _)⟩,tR⟩,rfl⟩ (fun y=>?_)
 obtain⟨k,hk⟩:=y
 change Go C _ ⟨[(2, .ptr 0 0),(3, .ptr 1 0),(4, .ptr 2 0),(6, .ptr 3 0),(58, .d (dBods c.funcs)),(59,vi (c.funcs.length:Int)),(60,vi (i:Int)),(10, .ptr 6 0),(11, .ptr 7 0),(83,vi (c.funcs.getD i bod0).params),(84,vi (k:Int))],[(0,polB p),(1, .box [.d (dCels c.arrays), .d (dBods c.funcs),vi c.main]),(2, .box [.dead, .dead]),(3, .box [.d (dArrs (rng c.arrays.length fun i=>arrN p i (c.arrays.getD i cel0))), .own 5]),(5,funsC (rng i fun i=>fun9 p c.main i (c.funcs.getD i bod0))),(6, .box [vi (c.funcs.getD i bod0).params,vi (c.funcs.getD i bod0).vars, .d (dBks (c.funcs.getD i bod0).blocks)]),(7, .box [vs (fnN c.main i), .own 8, .nils,vi 0]),(8,strC (rng k fun k=>nmN 118 (k:Int)))],9⟩ _
 refine x.cond rfl tR (fun h3=>?_) (fun h3=>?_)
 ·have h3:(k:Int)<(c.funcs.getD i bod0).params:=of_decide_eq_true h3
  have hpl:=rng_len k fun k=>nmN 118 (k:Int)
  refine x.every3 7 [7,8] [0,2] (.fork 1 (.fork 3 (.fork 4 (.fork 5 (.fork 6 (.fork 7 .leaf .no) .no) .no) .no) .no) (.fork 3 (.fork 1 (.fork 4 (.fork 5 (.fork 6 (.fork 7 .leaf .no) .no) .no) .no) (.fork 4 (.fork 1 (.fork 5 (.fork 6 (.fork 7 .leaf .no) .no) .no) .no) .no)) .no))
   ⟨[(2, .ptr 0 0),(3, .ptr 1 0),(4, .ptr 2 0),(6, .ptr 3 0),(58, .d (dBods c.funcs)),(59,vi (c.funcs.length:Int)),(60,vi (i:Int)),(10, .ptr 6 0),(11, .ptr 7 0),(83,vi (c.funcs.getD i bod0).params),(84,vi (k:Int))],[(7, .box [vs (fnN c.main i), .own 8, .nils,vi 0]),(8,strC (rng (k+1) fun k=>nmN 118 (k:Int)))],9⟩ rfl tR mixedP rfl (by kernel_rfl) Ret.noPanic rfl tR (fun C2 x2=>?_) ?_
  ·repeat' first
    | exact True.intro
    | refine And.intro ?_ ?_
    | refine x2.pure rfl tR rfl (nm_spec 118 (k:Int) (by unfold inI64;omega)) ⟨rfl,rfl,tR⟩ (x2.back rfl tR ?_)
    | refine x2.back rfl tR ?_
    | refine x2.back rfl (by simp only[AllP,big,hpl];omega) ?_
    | exact Or.inl ⟨⟨⟨rfl,rfl⟩,⟨rfl,rfl⟩,⟨rfl,rfl⟩,⟨rfl,rfl⟩,veq_d rfl,rfl,rfl,⟨rfl,rfl⟩,⟨rfl,rfl⟩,rfl,rfl,tR⟩,⟨⟨rfl,rfl,tR,rfl,tR⟩,⟨rfl,rfl,by rw[rng_succ];simp,fun j hj=>by rw[rng_succ];exact app_str _ _ j hj⟩,tR⟩,rfl⟩
  exact x.back rfl (by simp only[AllP,inI64];omega) ⟨⟨k+1,by omega⟩,by show P-(k+1)<P-k;omega,⟨⟨rfl,rfl⟩,⟨rfl,rfl⟩,⟨rfl,rfl⟩,⟨rfl,rfl⟩,veq_d rfl,rfl,rfl,⟨rfl,rfl⟩,⟨rfl,rfl⟩,rfl,(show VEq0 (vi ((k:Int)+1)) (vi ((k+1:Nat):Int)) by rw[Int.natCast_add];rfl),tR⟩,⟨polB_eq p,⟨veq0_d rfl,veq0_d rfl,rfl,tR⟩,⟨rfl,rfl,tR⟩,⟨veq0_d rfl,rfl,tR⟩,⟨rfl,rfl,rfl,fun _ _=>rfl⟩,⟨rfl,rfl,veq0_d rfl,tR⟩,⟨rfl,rfl,tR,rfl,tR⟩,⟨rfl,rfl,rfl,fun _ _=>rfl⟩,tR⟩,rfl⟩
 have h3:¬(k:Int)<(c.funcs.getD i bod0).params:=of_decide_eq_false h3
 obtain rfl:k=P:=by omega
 have hpar:(rng k fun k=>nmN 118 (k:Int))=parN (c.funcs.getD i bod0).params:=by unfold parN;rw[hP];rfl
 rw[hpar]
 refine Sx.Go.freeze 8 ?_
 refine x.toLoop rfl tR ?_
 refine Go.ownB 7 2 85 3 (fun i=>dBlk (([]:List Blk).getD i blk0)) rfl rfl ?_
 refine x.loop (α:={k:Nat // k≤(c.funcs.getD i bod0).blocks.length∧∀j,j<k->opsOK p c.main ((c.funcs.getD i bod0).blocks.getD j [])=true}) (fun y=>⟨[(2, .ptr 0 0),(3, .ptr 1 0),(4, .ptr 2 0),(6, .ptr 3 0),(58, .d (dBods c.funcs)),(59,vi (c.funcs.length:Int)),(60,vi (i:Int)),(10, .ptr 6 0),(11, .ptr 7 0),(96, .d (dBks (c.funcs.getD i bod0).blocks)),(97,vi ((c.funcs.getD i bod0).blocks.length:Int)),(98,vi (y.1:Int))],[(0,polB p),(1, .box [.d (dCels c.arrays), .d (dBods c.funcs),vi c.main]),(2, .box [.dead, .dead]),(3, .box [.d (dArrs (rng c.arrays.length fun i=>arrN p i (c.arrays.getD i cel0))), .own 5]),(5,funsC (rng i fun i=>fun9 p c.main i (c.funcs.getD i bod0))),(6, .box [vi (c.funcs.getD i bod0).params,vi (c.funcs.getD i bod0).vars, .d (dBks (c.funcs.getD i bod0).blocks)]),(7, .box [vs (fnN c.main i), .d (dStrs (parN (c.funcs.getD i bod0).params)), .own 9,vi 0]),(9,blksC (rng y.1 fun k=>blkN p c.main k ((c.funcs.getD i bod0).blocks.getD k [])))],10⟩) (fun y=>(c.funcs.getD i bod0).blocks.length-y.1) ⟨0,Nat.zero_le _,fun j hj=>absurd hj (Nat.not_lt_zero _)⟩ rfl tR ⟨⟨⟨rfl,rfl⟩,⟨rfl,rfl⟩,⟨rfl,rfl⟩,⟨rfl,rfl⟩,veq_d rfl,rfl,rfl,⟨rfl,rfl⟩,⟨rfl,rfl⟩,veq_d rfl,rfl,rfl,tR⟩,⟨polB_eq p,⟨veq0_d rfl,veq0_d rfl,rfl,tR⟩,⟨rfl,rfl,tR⟩,⟨veq0_d rfl,rfl,tR⟩,⟨rfl,rfl,rfl,fun _ _=>rfl⟩,⟨rfl,rfl,veq0_d rfl,tR⟩,⟨rfl,veq0_d rfl,rfl,rfl,tR⟩,⟨rfl,rfl,rfl,fun _ h=>absurd h (Nat.not_lt_zero _)⟩,tR⟩,rfl⟩ (fun y=>?_)
 clear h3 hpar hP hk
 obtain⟨k,hk,hko⟩:=y
 change Go C _ ⟨[(2, .ptr 0 0),(3, .ptr 1 0),(4, .ptr 2 0),(6, .ptr 3 0),(58, .d (dBods c.funcs)),(59,vi (c.funcs.length:Int)),(60,vi (i:Int)),(10, .ptr 6 0),(11, .ptr 7 0),(96, .d (dBks (c.funcs.getD i bod0).blocks)),(97,vi ((c.funcs.getD i bod0).blocks.length:Int)),(98,vi (k:Int))],[(0,polB p),(1, .box [.d (dCels c.arrays), .d (dBods c.funcs),vi c.main]),(2, .box [.dead, .dead]),(3, .box [.d (dArrs (rng c.arrays.length fun i=>arrN p i (c.arrays.getD i cel0))), .own 5]),(5,funsC (rng i fun i=>fun9 p c.main i (c.funcs.getD i bod0))),(6, .box [vi (c.funcs.getD i bod0).params,vi (c.funcs.getD i bod0).vars, .d (dBks (c.funcs.getD i bod0).blocks)]),(7, .box [vs (fnN c.main i), .d (dStrs (parN (c.funcs.getD i bod0).params)), .own 9,vi 0]),(9,blksC (rng k fun k=>blkN p c.main k ((c.funcs.getD i bod0).blocks.getD k [])))],10⟩ _
 refine x.cond rfl tR (fun h3=>?_) (fun h3=>?_)
 rotate_left
 ·have h3:k=(c.funcs.getD i bod0).blocks.length:=by have:=of_decide_eq_false h3;omega
  subst h3
  have hbo:bodOK p c.main (c.funcs.getD i bod0)=true:=by
   unfold bodOK
   rw[decide_eq_true (show 0≤(c.funcs.getD i bod0).params by omega),decide_eq_true (show (c.funcs.getD i bod0).params≤6 by omega),all_of [] hko];rfl
  refine Sx.Go.freeze 9 ?_
  refine x.back rfl (by simp only[AllP,inI64,big,hfr];omega) ⟨⟨i+1,by omega,fun j hj=>?_⟩,by show c.funcs.length-(i+1)<c.funcs.length-i;omega,⟨⟨rfl,rfl⟩,⟨rfl,rfl⟩,⟨rfl,rfl⟩,⟨rfl,rfl⟩,veq_d rfl,rfl,(show VEq0 (vi ((i:Int)+1)) (vi ((i+1:Nat):Int)) by rw[Int.natCast_add];rfl),tR⟩,⟨polB_eq p,⟨veq0_d rfl,veq0_d rfl,rfl,tR⟩,⟨rfl,rfl,tR⟩,⟨veq0_d rfl,rfl,tR⟩,⟨rfl,rfl,?_,fun j hj=>?_⟩,tR⟩,rfl⟩
  ·by_cases e:j=i
   ·rw[e];exact hbo
   ·exact hlo j (by omega)
  ·rw[rng_succ];simp
  ·rw[rng_succ];exact app_gen6 dFun 4 (fun _=>rfl) fun0 _ (fun9 p c.main i (c.funcs.getD i bod0)) j hj
 have h3:k<(c.funcs.getD i bod0).blocks.length:=by have:=of_decide_eq_true h3;omega
 obtain⟨hlk,hlx⟩:=hll _ (getD_in [] h3)
 have hbr:=rng_len k fun k=>blkN p c.main k ((c.funcs.getD i bod0).blocks.getD k [])
 refine x.pure rfl (by simp only[AllP];omega) rfl (nm_spec 98 (k:Int) (by unfold inI64;omega)) ⟨rfl,rfl,tR⟩ ?_
 refine x.toLoop rfl tR ?_
 refine Go.ownB 10 1 87 9 (fun i=>dIns (([]:List Ins).getD i (ins0 0))) rfl rfl ?_
 refine x.loop (α:={m:Nat // m≤((c.funcs.getD i bod0).blocks.getD k []).length∧∀j,j<m->(refN p c.main (((c.funcs.getD i bod0).blocks.getD k []).getD j op0)).2=true}) (fun y=>⟨[(2, .ptr 0 0),(3, .ptr 1 0),(4, .ptr 2 0),(6, .ptr 3 0),(58, .d (dBods c.funcs)),(59,vi (c.funcs.length:Int)),(60,vi (i:Int)),(10, .ptr 6 0),(11, .ptr 7 0),(96, .d (dBks (c.funcs.getD i bod0).blocks)),(97,vi ((c.funcs.getD i bod0).blocks.length:Int)),(98,vi (k:Int)),(15, .ptr 10 0),(106, .d (dOps ((c.funcs.getD i bod0).blocks.getD k []))),(107,vi (((c.funcs.getD i bod0).blocks.getD k []).length:Int)),(108,vi (y.1:Int))],[(0,polB p),(1, .box [.d (dCels c.arrays), .d (dBods c.funcs),vi c.main]),(2, .box [.dead, .dead]),(3, .box [.d (dArrs (rng c.arrays.length fun i=>arrN p i (c.arrays.getD i cel0))), .own 5]),(5,funsC (rng i fun i=>fun9 p c.main i (c.funcs.getD i bod0))),(6, .box [vi (c.funcs.getD i bod0).params,vi (c.funcs.getD i bod0).vars, .d (dBks (c.funcs.getD i bod0).blocks)]),(7, .box [vs (fnN c.main i), .d (dStrs (parN (c.funcs.getD i bod0).params)), .own 9,vi 0]),(9,blksC (rng k fun k=>blkN p c.main k ((c.funcs.getD i bod0).blocks.getD k []))),(10, .box [vs (nmN 98 (k:Int)), .own 11,vi 0]),(11,codeC ((((c.funcs.getD i bod0).blocks.getD k []).take y.1).map (raisedV p c.main)))],12⟩) (fun y=>((c.funcs.getD i bod0).blocks.getD k []).length-y.1) ⟨0,Nat.zero_le _,fun j hj=>absurd hj (Nat.not_lt_zero _)⟩ rfl tR ⟨⟨⟨rfl,rfl⟩,⟨rfl,rfl⟩,⟨rfl,rfl⟩,⟨rfl,rfl⟩,veq_d rfl,rfl,rfl,⟨rfl,rfl⟩,⟨rfl,rfl⟩,veq_d rfl,rfl,rfl,⟨rfl,rfl⟩,veq_d rfl,rfl,rfl,tR⟩,⟨polB_eq p,⟨veq0_d rfl,veq0_d rfl,rfl,tR⟩,⟨rfl,rfl,tR⟩,⟨veq0_d rfl,rfl,tR⟩,⟨rfl,rfl,rfl,fun _ _=>rfl⟩,⟨rfl,rfl,veq0_d rfl,tR⟩,⟨rfl,veq0_d rfl,rfl,rfl,tR⟩,⟨rfl,rfl,rfl,fun _ _=>rfl⟩,⟨rfl,rfl,rfl,tR⟩,⟨rfl,rfl,rfl,fun _ h=>absurd h (Nat.not_lt_zero _)⟩,tR⟩,rfl⟩ (fun y=>?_)
 obtain⟨m,hm,hmo⟩:=y
 change Go C _ ⟨[(2, .ptr 0 0),(3, .ptr 1 0),(4, .ptr 2 0),(6, .ptr 3 0),(58, .d (dBods c.funcs)),(59,vi (c.funcs.length:Int)),(60,vi (i:Int)),(10, .ptr 6 0),(11, .ptr 7 0),(96, .d (dBks (c.funcs.getD i bod0).blocks)),(97,vi ((c.funcs.getD i bod0).blocks.length:Int)),(98,vi (k:Int)),(15, .ptr 10 0),(106, .d (dOps ((c.funcs.getD i bod0).blocks.getD k []))),(107,vi (((c.funcs.getD i bod0).blocks.getD k []).length:Int)),(108,vi (m:Int))],[(0,polB p),(1, .box [.d (dCels c.arrays), .d (dBods c.funcs),vi c.main]),(2, .box [.dead, .dead]),(3, .box [.d (dArrs (rng c.arrays.length fun i=>arrN p i (c.arrays.getD i cel0))), .own 5]),(5,funsC (rng i fun i=>fun9 p c.main i (c.funcs.getD i bod0))),(6, .box [vi (c.funcs.getD i bod0).params,vi (c.funcs.getD i bod0).vars, .d (dBks (c.funcs.getD i bod0).blocks)]),(7, .box [vs (fnN c.main i), .d (dStrs (parN (c.funcs.getD i bod0).params)), .own 9,vi 0]),(9,blksC (rng k fun k=>blkN p c.main k ((c.funcs.getD i bod0).blocks.getD k []))),(10, .box [vs (nmN 98 (k:Int)), .own 11,vi 0]),(11,codeC ((((c.funcs.getD i bod0).blocks.getD k []).take m).map (raisedV p c.main)))],12⟩ _
 refine x.cond rfl tR (fun h4=>?_) (fun h4=>?_)
 rotate_left
 ·have h4:m=((c.funcs.getD i bod0).blocks.getD k []).length:=by have:=of_decide_eq_false h4;omega
  subst h4
  have hoo:opsOK p c.main ((c.funcs.getD i bod0).blocks.getD k [])=true:=all_of op0 hmo
  rw[List.take_length]
  refine Sx.Go.freeze 11 ?_
  refine x.back rfl (by simp only[AllP,inI64,big,hbr];omega) ⟨⟨k+1,by omega,fun j hj=>?_⟩,by show (c.funcs.getD i bod0).blocks.length-(k+1)<(c.funcs.getD i bod0).blocks.length-k;omega,⟨⟨rfl,rfl⟩,⟨rfl,rfl⟩,⟨rfl,rfl⟩,⟨rfl,rfl⟩,veq_d rfl,rfl,rfl,⟨rfl,rfl⟩,⟨rfl,rfl⟩,veq_d rfl,rfl,(show VEq0 (vi ((k:Int)+1)) (vi ((k+1:Nat):Int)) by rw[Int.natCast_add];rfl),tR⟩,⟨polB_eq p,⟨veq0_d rfl,veq0_d rfl,rfl,tR⟩,⟨rfl,rfl,tR⟩,⟨veq0_d rfl,rfl,tR⟩,⟨rfl,rfl,rfl,fun _ _=>rfl⟩,⟨rfl,rfl,veq0_d rfl,tR⟩,⟨rfl,veq0_d rfl,rfl,rfl,tR⟩,⟨rfl,rfl,?_,fun j hj=>?_⟩,tR⟩,rfl⟩
  ·by_cases e:j=k
   ·rw[e];exact hoo
   ·exact hko j (by omega)
  ·rw[rng_succ];simp
  ·rw[rng_succ];exact app_gen6 dBlk 3 (fun _=>rfl) blk0 _ (blkN p c.main k ((c.funcs.getD i bod0).blocks.getD k [])) j hj
 have h4:m<((c.funcs.getD i bod0).blocks.getD k []).length:=by have:=of_decide_eq_true h4;omega
 have htl:((((c.funcs.getD i bod0).blocks.getD k []).take m).map (raisedV p c.main)).length=m:=by rw[List.length_map,List.length_take];omega
 have et:(((c.funcs.getD i bod0).blocks.getD k []).take (m+1)).map (raisedV p c.main)=(((c.funcs.getD i bod0).blocks.getD k []).take m).map (raisedV p c.main)++[raisedV p c.main (((c.funcs.getD i bod0).blocks.getD k []).getD m op0)]:=by
  have e:((c.funcs.getD i bod0).blocks.getD k [])[m]?=some (((c.funcs.getD i bod0).blocks.getD k []).getD m op0):=by rw[List.getD_eq_getElem?_getD (l:=((c.funcs.getD i bod0).blocks.getD k [])),List.getElem?_eq_getElem h4];rfl
  rw[take_succ e,List.map_append];rfl
 refine x.pure rfl (by simp only[AllP];omega) rfl (raised_spec p c (((c.funcs.getD i bod0).blocks.getD k []).getD m op0) hz hp (hlx _ (getD_in op0 h4))) ⟨⟨veq0_d rfl,veq0_d rfl,veq0_d rfl,veq0_d rfl,rfl,tR⟩,⟨veq0_d rfl,veq0_d rfl,rfl,tR⟩,⟨rfl,rfl,rfl,rfl,rfl,veq0_d rfl,veq0_d rfl,rfl,rfl,tR⟩,tR⟩ ?_
 cases hrr:(refN p c.main (((c.funcs.getD i bod0).blocks.getD k []).getD m op0)).2 with
 | false=>
  have hb:bodOK p c.main (c.funcs.getD i bod0)=false:=by
   unfold bodOK
   rw[not_all h3 (P:=opsOK p c.main) (d:=[]) (not_all h4 (P:=fun x=>(refN p c.main x).2) (d:=op0) hrr),Bool.and_false]
  have hno:(c.arrays.all (levOK p)&&c.funcs.all (bodOK p c.main))=false:=by rw[not_all h1 hb,Bool.and_false]
  refine x.cond rfl tR (fun h5=>?_) (fun h5=>?_)
  ·rw[raiseO,if_neg (by rw[hno];simp)]
   refine x.leExit ?_
   exact x.exit rfl tR ⟨⟨[(4, .ptr 2 0),(5,vb false)],[(2, .box [.dead, .dead])],14⟩,⟨⟨⟨rfl,rfl⟩,rfl,tR⟩,⟨⟨rfl,rfl,tR⟩,tR⟩,rfl⟩, .inr rfl,⟨rfl,rfl,tR⟩,tR,rfl⟩
  ·cases (show true=false from h5)
 | true=>
  refine x.cond rfl tR (fun h5=>?_) (fun h5=>?_)
  ·cases (show false=true from h5)
  refine x.back rfl (by simp only[AllP,inI64,big,htl];omega) ⟨⟨m+1,by omega,fun j hj=>?_⟩,by show ((c.funcs.getD i bod0).blocks.getD k []).length-(m+1)<((c.funcs.getD i bod0).blocks.getD k []).length-m;omega,⟨⟨rfl,rfl⟩,⟨rfl,rfl⟩,⟨rfl,rfl⟩,⟨rfl,rfl⟩,veq_d rfl,rfl,rfl,⟨rfl,rfl⟩,⟨rfl,rfl⟩,veq_d rfl,rfl,rfl,⟨rfl,rfl⟩,veq_d rfl,rfl,(show VEq0 (vi ((m:Int)+1)) (vi ((m+1:Nat):Int)) by rw[Int.natCast_add];rfl),tR⟩,⟨polB_eq p,⟨veq0_d rfl,veq0_d rfl,rfl,tR⟩,⟨rfl,rfl,tR⟩,⟨veq0_d rfl,rfl,tR⟩,⟨rfl,rfl,rfl,fun _ _=>rfl⟩,⟨rfl,rfl,veq0_d rfl,tR⟩,⟨rfl,veq0_d rfl,rfl,rfl,tR⟩,⟨rfl,rfl,rfl,fun _ _=>rfl⟩,⟨rfl,rfl,rfl,tR⟩,⟨rfl,rfl,?_,fun j hj=>?_⟩,tR⟩,rfl⟩
  ·by_cases e:j=m
   ·rw[e];exact hrr
   ·exact hmo j (by omega)
  ·rw[et];simp
  ·rw[et];exact app_gen6 dIns 9 (fun _=>rfl) (ins0 0) _ (raisedV p c.main (((c.funcs.getD i bod0).blocks.getD k []).getD m op0)) j hj
def sameL {α:Type} (P:α->α->Bool) (d:α) (a b:List α):Bool:=decide (a.length=b.length)&&allF (fun i=>P (a.getD i d) (b.getD i d)) a.length 0
def sameOp (a b:Op9):Bool:=((((((decide (a.kind=b.kind)&&decide (a.op=b.op))&&decide (a.dst=b.dst))&&decide (a.ref=b.ref))&&decide (a.alt=b.alt))&&decide (a.num=b.num))&&decide (a.args=b.args))&&decide (a.frm=b.frm)
def sameOps (a b:List Op9):Bool:=sameL sameOp op0 a b
def sameBks (a b:List (List Op9)):Bool:=sameL sameOps [] a b
def sameBod (a b:Bod):Bool:=(decide (a.params=b.params)&&decide (a.vars=b.vars))&&sameBks a.blocks b.blocks
def sameBods (a b:List Bod):Bool:=sameL sameBod bod0 a b
theorem nums_ext {a b:List Int} (h1:a.length=b.length) (h2:∀j,j<a.length->a.getD j 0=b.getD j 0):a=b:=List.ext_getElem h1 fun j hj hj'=>by
 have:=h2 j hj
 rwa [List.getD_eq_getElem?_getD,List.getD_eq_getElem?_getD,List.getElem?_eq_getElem hj,List.getElem?_eq_getElem hj'] at this
theorem cels_ext {a b:List Cel} (h1:a.length=b.length) (h2:∀j,j<a.length->a.getD j cel0=b.getD j cel0):a=b:=List.ext_getElem h1 fun j hj hj'=>by
 have:=h2 j hj
 rwa [List.getD_eq_getElem?_getD,List.getD_eq_getElem?_getD,List.getElem?_eq_getElem hj,List.getElem?_eq_getElem hj'] at this
theorem eqn_spec (a b:List Int) (ha:a.length*8≤140737488355328):Pure PG 75 [.d (dNums a), .d (dNums b)] (vb (decide (a=b))) []:=by
 refine Proc.mk (cfg 26) tysOK [] Tryz.func75 rfl (by kernel_rfl) rfl rfl rfl ?_
 intro C x
 refine x.cond rfl tR (fun h=>?_) (fun h=>?_)
 ·have h:(!decide ((a.length:Int)=(b.length:Int)))=true:=h
  have h:¬(a.length:Int)=b.length:=by simpa using h
  refine x.exit rfl tR ⟨.inr rfl,?_,tR,rfl⟩
  rw[decide_eq_false (show ¬a=b from fun e=>h (by rw[e]))];exact rfl
 have h:(!decide ((a.length:Int)=(b.length:Int)))=false:=h
 have hl:a.length=b.length:=by
  have:(a.length:Int)=b.length:=by simpa using h
  omega
 refine x.loop (α:={i:Nat // i≤a.length∧∀j,j<i->a.getD j 0=b.getD j 0}) (fun y=>⟨[(0, .d (dNums a)),(1, .d (dNums b)),(12,vi (a.length:Int)),(13,vi (y.1:Int))],[],0⟩) (fun y=>a.length-y.1) ⟨0,Nat.zero_le _,fun j hj=>by omega⟩ rfl tR ⟨⟨veq_d rfl,veq_d rfl,rfl,rfl,tR⟩,tR,rfl⟩ (fun y=>?_)
 obtain⟨i,hi,hs⟩:=y
 change Go C _ ⟨[(0, .d (dNums a)),(1, .d (dNums b)),(12,vi (a.length:Int)),(13,vi (i:Int))],[],0⟩ _
 refine x.cond rfl tR (fun h1=>?_) (fun h1=>?_)
 ·have h1:i<a.length:=by have:=of_decide_eq_true h1;omega
  refine x.quiet rfl tR mixedP (by kernel_rfl) ?_
  refine x.qdone rfl (by simp only[AllP];omega) ?_
  have hv:decide (a.getD i 0=b.getD i 0)=decide (a.getD i 0=b.getD i 0):=by
   rfl
  refine x.cond rfl tR (fun h2=>?_) (fun h2=>?_)
  ·have h2:(!decide (a.getD i 0=b.getD i 0))=true:=h2
   rw[hv] at h2
   refine x.exit rfl tR ⟨.inr rfl,?_,tR,rfl⟩
   rw[decide_eq_false (show ¬a=b from fun e=>by rw[e] at h2;simp at h2)];exact rfl
  ·have h2:(!decide (a.getD i 0=b.getD i 0))=false:=h2
   rw[hv] at h2
   have h2:a.getD i 0=b.getD i 0:=by
    rw[Bool.not_eq_false',decide_eq_true_eq] at h2;exact h2
   refine x.back rfl (by simp only[AllP,inI64];omega) ⟨⟨i+1,by omega,fun j hj=>?_⟩,by show a.length-(i+1)<a.length-i;omega,⟨veq_d rfl,veq_d rfl,rfl,(show VEq0 (vi ((i:Int)+1)) (vi ((i+1:Nat):Int)) by rw[Int.natCast_add];rfl),tR⟩,tR,rfl⟩
   by_cases e:j=i
   ·rw[e];exact h2
   ·exact hs j (by omega)
 ·have h1:i=a.length:=by have:=of_decide_eq_false h1;omega
  refine x.exit rfl tR ⟨.inr rfl,?_,tR,rfl⟩
  rw[decide_eq_true (nums_ext hl fun j hj=>hs j (by omega))];exact rfl
theorem eqc_spec (a b:List Cel) (ha:a.length*8≤140737488355328):Pure PG 23 [.d (dCels a), .d (dCels b)] (vb (decide (a=b))) []:=by
 refine Proc.mk (cfg 26) tysOK [] Tryz.func23 rfl (by kernel_rfl) rfl rfl rfl ?_
 intro C x
 refine x.cond rfl tR (fun h=>?_) (fun h=>?_)
 ·have h:(!decide ((a.length:Int)=(b.length:Int)))=true:=h
  have h:¬(a.length:Int)=b.length:=by simpa using h
  refine x.exit rfl tR ⟨.inr rfl,?_,tR,rfl⟩
  rw[decide_eq_false (show ¬a=b from fun e=>h (by rw[e]))];exact rfl
 have h:(!decide ((a.length:Int)=(b.length:Int)))=false:=h
 have hl:a.length=b.length:=by
  have:(a.length:Int)=b.length:=by simpa using h
  omega
 refine x.loop (α:={i:Nat // i≤a.length∧∀j,j<i->a.getD j cel0=b.getD j cel0}) (fun y=>⟨[(0, .d (dCels a)),(1, .d (dCels b)),(12,vi (a.length:Int)),(13,vi (y.1:Int))],[],0⟩) (fun y=>a.length-y.1) ⟨0,Nat.zero_le _,fun j hj=>by omega⟩ rfl tR ⟨⟨veq_d rfl,veq_d rfl,rfl,rfl,tR⟩,tR,rfl⟩ (fun y=>?_)
 obtain⟨i,hi,hs⟩:=y
 change Go C _ ⟨[(0, .d (dCels a)),(1, .d (dCels b)),(12,vi (a.length:Int)),(13,vi (i:Int))],[],0⟩ _
 refine x.cond rfl tR (fun h1=>?_) (fun h1=>?_)
 ·have h1:i<a.length:=by have:=of_decide_eq_true h1;omega
  refine x.quiet rfl tR mixedP (by kernel_rfl) ?_
  refine x.qdone rfl (by simp only[AllP];omega) ?_
  have hv:(decide ((a.getD i cel0).1=(b.getD i cel0).1)&&(decide ((a.getD i cel0).2=(b.getD i cel0).2)&&true))=decide (a.getD i cel0=b.getD i cel0):=by
   rw[Bool.and_true,←Bool.decide_and,decide_eq_decide,Prod.ext_iff]
  refine x.cond rfl tR (fun h2=>?_) (fun h2=>?_)
  ·have h2:(!(decide ((a.getD i cel0).1=(b.getD i cel0).1)&&(decide ((a.getD i cel0).2=(b.getD i cel0).2)&&true)))=true:=h2
   rw[hv] at h2
   refine x.exit rfl tR ⟨.inr rfl,?_,tR,rfl⟩
   rw[decide_eq_false (show ¬a=b from fun e=>by rw[e] at h2;simp at h2)];exact rfl
  ·have h2:(!(decide ((a.getD i cel0).1=(b.getD i cel0).1)&&(decide ((a.getD i cel0).2=(b.getD i cel0).2)&&true)))=false:=h2
   rw[hv] at h2
   have h2:a.getD i cel0=b.getD i cel0:=by
    rw[Bool.not_eq_false',decide_eq_true_eq] at h2;exact h2
   refine x.back rfl (by simp only[AllP,inI64];omega) ⟨⟨i+1,by omega,fun j hj=>?_⟩,by show a.length-(i+1)<a.length-i;omega,⟨veq_d rfl,veq_d rfl,rfl,(show VEq0 (vi ((i:Int)+1)) (vi ((i+1:Nat):Int)) by rw[Int.natCast_add];rfl),tR⟩,tR,rfl⟩
   by_cases e:j=i
   ·rw[e];exact h2
   ·exact hs j (by omega)
 ·have h1:i=a.length:=by have:=of_decide_eq_false h1;omega
  refine x.exit rfl tR ⟨.inr rfl,?_,tR,rfl⟩
  rw[decide_eq_true (cels_ext hl fun j hj=>hs j (by omega))];exact rfl
theorem sameop_spec (a b:Op9) (ha:a.args.length*8≤140737488355328) (hf:a.frm.length*8≤140737488355328):Pure PG 29 [opW a,opW b] (vb (sameOp a b)) []:=by
 refine Proc.mk (cfg 59) tysOK [] Tryz.func29 rfl (by kernel_rfl) rfl rfl rfl ?_
 intro C x
 refine x.pureG rfl tR rfl (fun _=>eqn_spec a.args b.args ha) rfl ⟨veq_d rfl,veq_d rfl,tR⟩ ?_
 refine x.pureG rfl tR rfl (fun _=>eqn_spec a.frm b.frm hf) rfl ⟨veq_d rfl,veq_d rfl,tR⟩ ?_
 exact x.exit rfl tR ⟨.inr rfl,rfl,tR,rfl⟩
structure OpZ (x:Op9):Prop where
 a:x.args.length*8≤140737488355328
 f:x.frm.length*8≤140737488355328
theorem eqops_spec (a b:List Op9) (ha:a.length*8≤140737488355328) (hz:∀x∈a,OpZ x):Pure PG 28 [.d (dOps a), .d (dOps b), .fn 29 []] (vb (sameL sameOp op0 a b)) []:=by
 refine Proc.mk (cfg 32) tysOK [] Tryz.func28 rfl (by kernel_rfl) rfl rfl rfl ?_
 intro C x
 refine x.cond rfl tR (fun h=>?_) (fun h=>?_)
 ·have h:(!decide ((a.length:Int)=(b.length:Int)))=true:=h
  have h:¬(a.length:Int)=b.length:=by simpa using h
  refine x.exit rfl tR ⟨.inr rfl,?_,tR,rfl⟩
  rw[sameL,decide_eq_false (show ¬a.length=b.length by omega)];exact rfl
 have h:(!decide ((a.length:Int)=(b.length:Int)))=false:=h
 have hl:a.length=b.length:=by
  have:(a.length:Int)=b.length:=by simpa using h
  omega
 have hS:sameL sameOp op0 a b=allF (fun i=>sameOp (a.getD i op0) (b.getD i op0)) a.length 0:=by rw[sameL,decide_eq_true hl];rfl
 rw[hS]
 refine x.loop (α:={i:Nat // i≤a.length∧allF (fun i=>sameOp (a.getD i op0) (b.getD i op0)) (a.length-i) i=allF (fun i=>sameOp (a.getD i op0) (b.getD i op0)) a.length 0}) (fun y=>⟨[(1, .d (dOps b)),(2, .fn 29 []),(15, .d (dOps a)),(16,vi (a.length:Int)),(17,vi (y.1:Int))],[],0⟩) (fun y=>a.length-y.1) ⟨0,Nat.zero_le _,rfl⟩ rfl tR ⟨⟨veq_d rfl,rfl,veq_d rfl,rfl,rfl,tR⟩,tR,rfl⟩ (fun y=>?_)
 obtain⟨i,hi,hs⟩:=y
 change Go C _ ⟨[(1, .d (dOps b)),(2, .fn 29 []),(15, .d (dOps a)),(16,vi (a.length:Int)),(17,vi (i:Int))],[],0⟩ _
 refine x.cond rfl tR (fun h1=>?_) (fun h1=>?_)
 ·have h1:i<a.length:=by have:=of_decide_eq_true h1;omega
  rw[allF_step h1] at hs
  refine x.pure rfl (by simp only[AllP];omega) rfl (sameop_spec (a.getD i op0) (b.getD i op0) (hz _ (getD_in op0 h1)).a (hz _ (getD_in op0 h1)).f) ⟨⟨rfl,rfl,rfl,rfl,rfl,veq0_d rfl,veq0_d rfl,rfl,rfl,tR⟩,⟨rfl,rfl,rfl,rfl,rfl,veq0_d rfl,veq0_d rfl,rfl,rfl,tR⟩,tR⟩ ?_
  cases hp:sameOp (a.getD i op0) (b.getD i op0) with
  | false=>
   refine x.cond rfl tR (fun h2=>?_) (fun h2=>?_)
   ·refine x.exit rfl tR ⟨.inr rfl,?_,tR,rfl⟩
    rw[←hs,hp];exact rfl
   ·cases (show true=false from h2)
  | true=>
   refine x.cond rfl tR (fun h2=>?_) (fun h2=>?_)
   ·cases (show false=true from h2)
   ·rw[hp,Bool.true_and] at hs
    exact x.back rfl (by simp only[AllP,inI64];omega) ⟨⟨i+1,by omega,hs⟩,by show a.length-(i+1)<a.length-i;omega,⟨veq_d rfl,rfl,veq_d rfl,rfl,(show VEq0 (vi ((i:Int)+1)) (vi ((i+1:Nat):Int)) by rw[Int.natCast_add];rfl),tR⟩,tR,rfl⟩
 ·have h1:i=a.length:=by have:=of_decide_eq_false h1;omega
  refine x.exit rfl tR ⟨.inr rfl,?_,tR,rfl⟩
  rw[h1,Nat.sub_self] at hs
  rw[←hs];exact rfl
theorem eqo_spec (a b:List Op9) (ha:a.length*8≤140737488355328) (hz:∀x∈a,OpZ x):Pure PG 27 [.d (dOps a), .d (dOps b)] (vb (sameOps a b)) []:=by
 refine Proc.mk (cfg 8) tysOK [] Tryz.func27 rfl (by kernel_rfl) rfl rfl rfl ?_
 intro C x
 refine x.pure rfl tR rfl (eqops_spec a b ha hz) ⟨veq_d rfl,veq_d rfl,rfl,tR⟩ ?_
 exact x.exit rfl tR ⟨.inr rfl,rfl,tR,rfl⟩
theorem eqbks_spec (a b:List (List Op9)) (ha:a.length*8≤140737488355328) (hz:∀l∈a,l.length*8≤140737488355328∧∀x∈l,OpZ x):Pure PG 26 [.d (dBks a), .d (dBks b), .fn 27 []] (vb (sameL sameOps ([]:List Op9) a b)) []:=by
 refine Proc.mk (cfg 32) tysOK [] Tryz.func26 rfl (by kernel_rfl) rfl rfl rfl ?_
 intro C x
 refine x.cond rfl tR (fun h=>?_) (fun h=>?_)
 ·have h:(!decide ((a.length:Int)=(b.length:Int)))=true:=h
  have h:¬(a.length:Int)=b.length:=by simpa using h
  refine x.exit rfl tR ⟨.inr rfl,?_,tR,rfl⟩
  rw[sameL,decide_eq_false (show ¬a.length=b.length by omega)];exact rfl
 have h:(!decide ((a.length:Int)=(b.length:Int)))=false:=h
 have hl:a.length=b.length:=by
  have:(a.length:Int)=b.length:=by simpa using h
  omega
 have hS:sameL sameOps ([]:List Op9) a b=allF (fun i=>sameOps (a.getD i ([]:List Op9)) (b.getD i ([]:List Op9))) a.length 0:=by rw[sameL,decide_eq_true hl];rfl
 rw[hS]
 refine x.loop (α:={i:Nat // i≤a.length∧allF (fun i=>sameOps (a.getD i ([]:List Op9)) (b.getD i ([]:List Op9))) (a.length-i) i=allF (fun i=>sameOps (a.getD i ([]:List Op9)) (b.getD i ([]:List Op9))) a.length 0}) (fun y=>⟨[(1, .d (dBks b)),(2, .fn 27 []),(15, .d (dBks a)),(16,vi (a.length:Int)),(17,vi (y.1:Int))],[],0⟩) (fun y=>a.length-y.1) ⟨0,Nat.zero_le _,rfl⟩ rfl tR ⟨⟨veq_d rfl,rfl,veq_d rfl,rfl,rfl,tR⟩,tR,rfl⟩ (fun y=>?_)
 obtain⟨i,hi,hs⟩:=y
 change Go C _ ⟨[(1, .d (dBks b)),(2, .fn 27 []),(15, .d (dBks a)),(16,vi (a.length:Int)),(17,vi (i:Int))],[],0⟩ _
 refine x.cond rfl tR (fun h1=>?_) (fun h1=>?_)
 ·have h1:i<a.length:=by have:=of_decide_eq_true h1;omega
  rw[allF_step h1] at hs
  refine x.pure rfl (by simp only[AllP];omega) rfl (eqo_spec (a.getD i []) (b.getD i []) (hz _ (getD_in [] h1)).1 (hz _ (getD_in [] h1)).2) ⟨veq_d rfl,veq_d rfl,tR⟩ ?_
  cases hp:sameOps (a.getD i ([]:List Op9)) (b.getD i ([]:List Op9)) with
  | false=>
   refine x.cond rfl tR (fun h2=>?_) (fun h2=>?_)
   ·refine x.exit rfl tR ⟨.inr rfl,?_,tR,rfl⟩
    rw[←hs,hp];exact rfl
   ·cases (show true=false from h2)
  | true=>
   refine x.cond rfl tR (fun h2=>?_) (fun h2=>?_)
   ·cases (show false=true from h2)
   ·rw[hp,Bool.true_and] at hs
    exact x.back rfl (by simp only[AllP,inI64];omega) ⟨⟨i+1,by omega,hs⟩,by show a.length-(i+1)<a.length-i;omega,⟨veq_d rfl,rfl,veq_d rfl,rfl,(show VEq0 (vi ((i:Int)+1)) (vi ((i+1:Nat):Int)) by rw[Int.natCast_add];rfl),tR⟩,tR,rfl⟩
 ·have h1:i=a.length:=by have:=of_decide_eq_false h1;omega
  refine x.exit rfl tR ⟨.inr rfl,?_,tR,rfl⟩
  rw[h1,Nat.sub_self] at hs
  rw[←hs];exact rfl
structure BodZ (b:Bod):Prop where
 l:b.blocks.length*8≤140737488355328
 x:∀l∈b.blocks,l.length*8≤140737488355328∧∀x∈l,OpZ x
theorem eqbod_spec (a b:Bod) (hz:BodZ a):Pure PG 25 [.agg [vi a.params,vi a.vars, .d (dBks a.blocks)], .agg [vi b.params,vi b.vars, .d (dBks b.blocks)]] (vb (sameBod a b)) []:=by
 refine Proc.mk (cfg 24) tysOK [] Tryz.func25 rfl (by kernel_rfl) rfl rfl rfl ?_
 intro C x
 refine x.pureG rfl tR rfl (fun _=>eqbks_spec a.blocks b.blocks hz.l hz.x) rfl ⟨veq_d rfl,veq_d rfl,rfl,tR⟩ ?_
 exact x.exit rfl tR ⟨.inr rfl,rfl,tR,rfl⟩
theorem eqbods_spec (a b:List Bod) (ha:a.length*8≤140737488355328) (hz:∀b∈a,BodZ b):Pure PG 24 [.d (dBods a), .d (dBods b), .fn 25 []] (vb (sameL sameBod bod0 a b)) []:=by
 refine Proc.mk (cfg 32) tysOK [] Tryz.func24 rfl (by kernel_rfl) rfl rfl rfl ?_
 intro C x
 refine x.cond rfl tR (fun h=>?_) (fun h=>?_)
 ·have h:(!decide ((a.length:Int)=(b.length:Int)))=true:=h
  have h:¬(a.length:Int)=b.length:=by simpa using h
  refine x.exit rfl tR ⟨.inr rfl,?_,tR,rfl⟩
  rw[sameL,decide_eq_false (show ¬a.length=b.length by omega)];exact rfl
 have h:(!decide ((a.length:Int)=(b.length:Int)))=false:=h
 have hl:a.length=b.length:=by
  have:(a.length:Int)=b.length:=by simpa using h
  omega
 have hS:sameL sameBod bod0 a b=allF (fun i=>sameBod (a.getD i bod0) (b.getD i bod0)) a.length 0:=by rw[sameL,decide_eq_true hl];rfl
 rw[hS]
 refine x.loop (α:={i:Nat // i≤a.length∧allF (fun i=>sameBod (a.getD i bod0) (b.getD i bod0)) (a.length-i) i=allF (fun i=>sameBod (a.getD i bod0) (b.getD i bod0)) a.length 0}) (fun y=>⟨[(1, .d (dBods b)),(2, .fn 25 []),(15, .d (dBods a)),(16,vi (a.length:Int)),(17,vi (y.1:Int))],[],0⟩) (fun y=>a.length-y.1) ⟨0,Nat.zero_le _,rfl⟩ rfl tR ⟨⟨veq_d rfl,rfl,veq_d rfl,rfl,rfl,tR⟩,tR,rfl⟩ (fun y=>?_)
 obtain⟨i,hi,hs⟩:=y
 change Go C _ ⟨[(1, .d (dBods b)),(2, .fn 25 []),(15, .d (dBods a)),(16,vi (a.length:Int)),(17,vi (i:Int))],[],0⟩ _
 refine x.cond rfl tR (fun h1=>?_) (fun h1=>?_)
 ·have h1:i<a.length:=by have:=of_decide_eq_true h1;omega
  rw[allF_step h1] at hs
  refine x.pure rfl (by simp only[AllP];omega) rfl (eqbod_spec (a.getD i bod0) (b.getD i bod0) (hz _ (getD_in bod0 h1))) ⟨⟨rfl,rfl,veq0_d rfl,tR⟩,⟨rfl,rfl,veq0_d rfl,tR⟩,tR⟩ ?_
  cases hp:sameBod (a.getD i bod0) (b.getD i bod0) with
  | false=>
   refine x.cond rfl tR (fun h2=>?_) (fun h2=>?_)
   ·refine x.exit rfl tR ⟨.inr rfl,?_,tR,rfl⟩
    rw[←hs,hp];exact rfl
   ·cases (show true=false from h2)
  | true=>
   refine x.cond rfl tR (fun h2=>?_) (fun h2=>?_)
   ·cases (show false=true from h2)
   ·rw[hp,Bool.true_and] at hs
    exact x.back rfl (by simp only[AllP,inI64];omega) ⟨⟨i+1,by omega,hs⟩,by show a.length-(i+1)<a.length-i;omega,⟨veq_d rfl,rfl,veq_d rfl,rfl,(show VEq0 (vi ((i:Int)+1)) (vi ((i+1:Nat):Int)) by rw[Int.natCast_add];rfl),tR⟩,tR,rfl⟩
 ·have h1:i=a.length:=by have:=of_decide_eq_false h1;omega
  refine x.exit rfl tR ⟨.inr rfl,?_,tR,rfl⟩
  rw[h1,Nat.sub_self] at hs
  rw[←hs];exact rfl
def raiseV (p:Pol) (c:Cod):Option Prg:=
 if (rightP p&&(decide (c.funcs.length≤64)&&decide (c.arrays.length≤16)))=true then
  match raiseO p c with
  | none=>none
  | some q=>if (decide ((resV p q).2.2=0)&&(decide ((resV p q).1.main=c.main)&&(decide ((resV p q).1.arrays=c.arrays)&&sameBods (resV p q).1.funcs c.funcs)))=true then some q else none
 else none
abbrev raiseE:Option Prg->V
 | some q=>.tup [prgV q,vi 0]
 | none=>.tup [prgV ⟨[],[]⟩,vi 1]
structure RsZ (c:Cod):Prop where
 a:c.arrays.length*8≤140737488355328
 f:c.funcs.length*8≤140737488355328
 b:∀b∈c.funcs,BodZ b
theorem raiseE_none:raiseE none=.tup [.agg [.d (dArrs []), .d (dFuns [])],vi 1]:=rfl
set_option maxHeartbeats 8000000 in
theorem Raise_spec (p:Pol) (c:Cod) (hz:PolZ p) (hp:p.ins.length≤1000000∧p.outs.length≤1000000) (hc:CodSz c) (hq:∀q,raiseO p c=some q->FitP q) (hr:∀q,raiseO p c=some q->RsZ (resV p q).1):Pure PG 8 [vPol p,codW c] (raiseE (raiseV p c)) []:=by
 have hal:=hc.al
 have hfl:=hc.fl
 refine Proc.mk (cfg 71) tysOK [] Tryz.func8 rfl (by kernel_rfl) rfl rfl (by unfold raiseV;split<;>(first | rfl | (split<;>first | rfl | (split<;>rfl)))) ?_
 intro C x
 refine x.pure rfl tR rfl (pright_spec p hz) ⟨⟨veq0_d rfl,veq0_d rfl,veq0_d rfl,veq0_d rfl,rfl,tR⟩,tR⟩ ?_
 have hv:((!rightP p||decide (64<(c.funcs.length:Int)))||decide (16<(c.arrays.length:Int)))=!(rightP p&&(decide (c.funcs.length≤64)&&decide (c.arrays.length≤16))):=by
  rw[show decide (64<(c.funcs.length:Int))=!decide (c.funcs.length≤64) by rw[←decide_not,decide_eq_decide];omega,show decide (16<(c.arrays.length:Int))=!decide (c.arrays.length≤16) by rw[←decide_not,decide_eq_decide];omega]
  cases rightP p<;>cases decide (c.funcs.length≤64)<;>cases decide (c.arrays.length≤16)<;>rfl
 refine x.cond rfl tR (fun h=>?_) (fun h=>?_)
 ·have h:((!rightP p||decide (64<(c.funcs.length:Int)))||decide (16<(c.arrays.length:Int)))=true:=h
  rw[hv,Bool.not_eq_true'] at h
  rw[raiseV,if_neg (by rw[h];simp),raiseE_none]
  refine x.leExit ?_
  exact x.exit rfl tR ⟨⟨[(4, .ptr 2 0),(5,vi 1)],[(2, .box [.d (dArrs []), .d (dFuns [])])],3⟩,⟨⟨⟨rfl,rfl⟩,rfl,tR⟩,⟨⟨rfl,rfl,tR⟩,tR⟩,rfl⟩, .inr rfl,⟨rfl,rfl,tR⟩,tR,rfl⟩
 have h:((!rightP p||decide (64<(c.funcs.length:Int)))||decide (16<(c.arrays.length:Int)))=false:=h
 rw[hv,Bool.not_eq_false'] at h
 rw[raiseV,if_pos h]
 have hrs:=raise_spec p c hz.toPolSz hp hc
 obtain⟨Q,hQ⟩:∃Q,raiseO p c=Q:=⟨_,rfl⟩
 rw[hQ] at hrs ⊢
 refine x.pure rfl tR rfl hrs ⟨⟨veq0_d rfl,veq0_d rfl,veq0_d rfl,veq0_d rfl,rfl,tR⟩,⟨veq0_d rfl,veq0_d rfl,rfl,tR⟩,tR⟩ ?_
 rcases Q with _ | q
 ·rw[raiseE_none]
  refine x.cond rfl tR (fun h2=>?_) (fun h2=>?_)
  ·refine x.leExit ?_
   exact x.exit rfl tR ⟨⟨[(4, .ptr 2 0),(5,vi 1)],[(2, .box [.d (dArrs []), .d (dFuns [])])],4⟩,⟨⟨⟨rfl,rfl⟩,rfl,tR⟩,⟨⟨rfl,rfl,tR⟩,tR⟩,rfl⟩, .inr rfl,⟨rfl,rfl,tR⟩,tR,rfl⟩
  ·cases (show true=false from h2)
 have hqq:=hq q hQ
 have hz9:=hr q hQ
 refine x.cond rfl tR (fun h2=>?_) (fun h2=>?_)
 ·cases (show false=true from h2)
 have hres:=resolve_spec p q hz hqq
 obtain⟨V,hV⟩:∃V,resV p q=V:=⟨_,rfl⟩
 rw[hV] at hres hz9
 obtain⟨c',a',e'⟩:=V
 have hV1:(resV p q).1=c':=by rw[hV]
 have hV2:(resV p q).2.2=e':=by rw[hV]
 simp only[hV1,hV2]
 have hz9:RsZ c':=hz9
 refine x.pure rfl tR rfl hres ⟨⟨veq0_d rfl,veq0_d rfl,veq0_d rfl,veq0_d rfl,rfl,tR⟩,⟨veq0_d rfl,veq0_d rfl,tR⟩,tR⟩ ?_
 refine x.pureG rfl tR rfl (fun _=>eqc_spec c'.arrays c.arrays hz9.a) rfl ⟨veq_d rfl,veq_d rfl,tR⟩ ?_
 have hv2:((!decide (e'=0)||!decide (c'.main=c.main))||!decide (c'.arrays=c.arrays))=!(decide (e'=0)&&(decide (c'.main=c.main)&&decide (c'.arrays=c.arrays))):=by
  cases decide (e'=0)<;>cases decide (c'.main=c.main)<;>cases decide (c'.arrays=c.arrays)<;>rfl
 refine x.cond rfl tR (fun h3=>?_) (fun h3=>?_)
 ·have h3:((!decide (e'=0)||!decide (c'.main=c.main))||!decide (c'.arrays=c.arrays))=true:=h3
  rw[hv2,Bool.not_eq_true'] at h3
  rw[if_neg (by revert h3;cases decide (e'=0)<;>cases decide (c'.main=c.main)<;>cases decide (c'.arrays=c.arrays)<;>simp),raiseE_none]
  refine x.leExit ?_
  exact x.exit rfl tR ⟨⟨[(4, .ptr 2 0),(5,vi 1)],[(2, .box [.d (dArrs []), .d (dFuns [])])],5⟩,⟨⟨⟨rfl,rfl⟩,rfl,tR⟩,⟨⟨rfl,rfl,tR⟩,tR⟩,rfl⟩, .inr rfl,⟨rfl,rfl,tR⟩,tR,rfl⟩
 have h3:((!decide (e'=0)||!decide (c'.main=c.main))||!decide (c'.arrays=c.arrays))=false:=h3
 rw[hv2,Bool.not_eq_false'] at h3
 have h4:(decide (e'=0)&&(decide (c'.main=c.main)&&(decide (c'.arrays=c.arrays)&&sameBods c'.funcs c.funcs)))=sameBods c'.funcs c.funcs:=by
  simp only[Bool.and_eq_true] at h3
  rw[h3.1,h3.2.1,h3.2.2];rfl
 rw[h4]
 refine x.pure rfl tR rfl (eqbods_spec c'.funcs c.funcs hz9.f hz9.b) ⟨veq_d rfl,veq_d rfl,rfl,tR⟩ ?_
 have hS:sameL sameBod bod0 c'.funcs c.funcs=sameBods c'.funcs c.funcs:=rfl
 rw[hS]
 cases hs:sameBods c'.funcs c.funcs with
 | false=>
  rw[if_neg (by simp),raiseE_none]
  refine x.cond rfl tR (fun h5=>?_) (fun h5=>?_)
  ·refine x.leExit ?_
   exact x.exit rfl tR ⟨⟨[(4, .ptr 2 0),(5,vi 1)],[(2, .box [.d (dArrs []), .d (dFuns [])])],5⟩,⟨⟨⟨rfl,rfl⟩,rfl,tR⟩,⟨⟨rfl,rfl,tR⟩,tR⟩,rfl⟩, .inr rfl,⟨rfl,rfl,tR⟩,tR,rfl⟩
  ·cases (show true=false from h5)
 | true=>
  rw[if_pos rfl]
  refine x.cond rfl tR (fun h5=>?_) (fun h5=>?_)
  ·cases (show false=true from h5)
  exact x.exit rfl tR ⟨.inr rfl,⟨rfl,rfl,tR⟩,tR,rfl⟩
theorem Right9_spec (p:Pol) (c:Cod) (hz:PolZ p) (hp:p.ins.length≤1000000∧p.outs.length≤1000000) (hc:CodSz c) (hq:∀q,raiseO p c=some q->FitP q) (hr:∀q,raiseO p c=some q->RsZ (resV p q).1):Pure PG 13 [vPol p,codW c] (vb (raiseV p c).isSome) []:=by
 have hs:=Raise_spec p c hz hp hc hq hr
 refine Proc.mk (cfg 15) tysOK [] Tryz.func13 rfl (by kernel_rfl) rfl rfl rfl ?_
 intro C x
 obtain⟨R,hR⟩:∃R,raiseV p c=R:=⟨_,rfl⟩
 rw[hR] at hs ⊢
 refine x.pure rfl tR rfl hs ⟨⟨veq0_d rfl,veq0_d rfl,veq0_d rfl,veq0_d rfl,rfl,tR⟩,⟨veq0_d rfl,veq0_d rfl,rfl,tR⟩,tR⟩ ?_
 rcases R with _ | q
 ·exact x.exit rfl tR ⟨.inr rfl,rfl,tR,rfl⟩
 ·exact x.exit rfl tR ⟨.inr rfl,rfl,tR,rfl⟩
end Go.Proofs.YtojhdmfkfkfcbaaGreatDoor
