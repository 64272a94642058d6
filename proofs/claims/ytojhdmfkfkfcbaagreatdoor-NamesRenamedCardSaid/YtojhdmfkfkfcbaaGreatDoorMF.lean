import Derived.Test.YtojhdmfkfkfcbaaGreatDoorME
import Derived.Test.YtojhdmfkfkfcbaaGreatDoorSxH
namespace Go.Proofs.YtojhdmfkfkfcbaaGreatDoor
open Go.Sx
set_option linter.unusedVariables false
set_option linter.unusedSimpArgs false
set_option maxRecDepth 100000
theorem rA (f1 f2:Nat->List D) (a e:Int):Later PG 50 [.ptr 0 0, .ptr 1 0, .ptr 2 0] [.box [.dead, .dead, .dead], .box [.dead], .box [.dead]] (.pan vG [(.i64,a),(.i64,e)]) [.box [.d (.sl 2 0 f1), .d (.sl 3 0 f2),vi 0], .box [vi a], .box [vi e]]:=by
 refine Later.mk (dG 22 3) av [0,1,2] Tryz.func50 rfl (by kernel_rfl) rfl rfl rfl rfl rfl rfl rfl rfl rfl rfl ?_
 intro C x
 refine x.cond rfl tR (fun h=>?_) (fun h=>?_)
 rotate_left
 ·cases h
 refine x.cond rfl tR (fun h=>?_) (fun h=>?_)
 ·cases h
 refine x.draw [0,1] [] [0,1,2,3,4] [5,6] [7] rfl tR ay (by kernel_rfl) (NoPanic.quiet Ret.bT) rfl tR (fun C1 x1=>?_)
 refine x1.back rfl tR ?_
 refine x1.back rfl tR ?_
 refine x.exit rfl tR ?_
 exact⟨.inl rfl,tR,⟨⟨rfl,rfl,rfl,tR⟩,⟨rfl,tR⟩,⟨rfl,tR⟩,tR⟩,rfl⟩
theorem Tq (z1 n1 z2 n2:Nat) (f1 f2:Nat->List D) (k a e:Int):Later PG 50 [.ptr 0 0, .ptr 1 0, .ptr 2 0] [.box [.d (.sl z1 n1 f1), .d (.sl z2 n2 f2),vi k], .box [vi a], .box [vi e]] .back [.box [.d (.sl z1 n1 f1), .d (.sl z2 n2 f2),vi k], .box [vi a], .box [vi e]]:=by
 refine Later.mk (dG 22 3) av [0,1,2] Tryz.func50 rfl (by kernel_rfl) rfl rfl rfl rfl rfl rfl rfl rfl rfl rfl ?_
 intro C x
 refine x.cond rfl tR (fun h=>?_) (fun h=>?_)
 ·cases h
 refine x.exit rfl tR ?_
 exact⟨.inl rfl,tR,⟨⟨ah rfl,ah rfl,rfl,tR⟩,⟨rfl,tR⟩,⟨rfl,tR⟩,tR⟩,rfl⟩
theorem vI {α:Type} {g:α->Nat} {l:List α} {a:α} (h:a∈l):g a≤(l.map g).sum:=by
 induction l with
 | nil=>cases h
 | cons b l ih=>
  simp only[List.map_cons,List.sum_cons]
  rcases List.mem_cons.1 h with rfl | h
  ·omega
  ·have:=ih h;omega
structure Mx (q:Prg):Prop where
 al:q.arrays.length≤16
 fl:q.funcs.length≤64
 f:∀f∈q.funcs,f.params.length≤6∧f.blocks.length≤64∧∀b∈f.blocks,b.code.length≤4096∧∀x∈b.code,Mr x
theorem aay {x:Ins} (h:bS x=true):Mr x:=by
 unfold bS at h
 split at h
 ·cases h
 ·split at h
  ·simp only[adg,adn] at h
   exact⟨by omega,by omega⟩
  ·split at h
   ·cases h
   ·rw[adg,adt] at h
    have h1:=h.1
    simp only[adw,adr] at h1
    exact⟨by omega,by omega⟩
theorem Wh {q:Prg} (h:rightG q=true):Mx q:=by
 unfold rightG at h
 simp only[adg,adt,adw,adn,adr,List.all_eq_true] at h
 obtain⟨⟨⟨⟨h1,h2⟩,h3⟩,h4⟩,h5⟩:=h
 refine⟨by omega,by omega,fun f hf=>?_⟩
 have h6:=h4 f hf
 unfold kL at h6
 simp only[adg,adt,adw,adr,List.all_eq_true] at h6
 obtain⟨⟨⟨⟨⟨g1,g2⟩,g3⟩,g4⟩,g5⟩,g6⟩:=h6
 refine⟨by omega,by omega,fun b hb=>?_⟩
 have h7:=g6 b hb
 unfold oC at h7
 rw[adg,List.all_eq_true] at h7
 refine⟨?_,fun x hx=>aay (h7.2 x hx)⟩
 have e1:=vI (g:=fun b:Blk=>b.code.length) hb
 have e2:=vI (g:=fun f:Fun=>(f.blocks.map fun b=>b.code.length).sum) hf
 unfold iF at h5
 omega
theorem JM {q:Prg} {i:Nat} (h:i<q.funcs.length):q.funcs.getD i bD∈q.funcs:=by rw[adf,adh h];exact List.getElem_mem h
theorem aaz {f:Fun} {i:Nat} (h:i<f.blocks.length):f.blocks.getD i bH∈f.blocks:=by rw[adf,adh h];exact List.getElem_mem h
theorem Mx.fn {q:Prg} (h:Mx q) {f:Fun} (hf:f∈q.funcs):Qp f:=by
 obtain⟨h1,h2,h3⟩:=h.f f hf
 exact⟨by omega,by omega,fun b hb=>by have:=(h3 b hb).1;omega⟩
theorem Mx.bk {q:Prg} (h:Mx q) {f:Fun} (hf:f∈q.funcs) {b:Blk} (hb:b∈f.blocks):Y7 b:=by
 obtain⟨h1,h2⟩:=(h.f f hf).2.2 b hb
 exact⟨by omega,h2⟩
theorem MB:∀{L:List (ByteArray×Int)} {acc o:List ByteArray},fK acc L=.ok o->o.length=acc.length+L.length
 | [],acc,o,h=>by cases h;rfl
 | (s,a)::r,acc,o,h=>by
  rw[fK] at h
  split at h
  ·cases h
  ·have:=MB h
   simp only[List.length_append,List.length_cons,List.length_nil] at this ⊢
   omega
structure ArW (p:Pol) (q:Prg) (R:Flt (List ByteArray×List Cel)) where
 i:Nat
 acc:List ByteArray
 cs:List Cel
 hi:i≤q.arrays.length
 ha:acc.length=i
 hc:cs.length=i
 same:mM p (q.arrays.drop i) acc cs=R
theorem Tt {p:Pol} {q:Prg} {i:Nat} (h:i<q.arrays.length) (acc:List ByteArray) (cs:List Cel):mM p (q.arrays.drop i) acc cs=if posB acc (q.arrays.getD i dY).name=true then .error ((q.arrays.getD i dY).at_,9) else bd (eu (bE p.lev (q.arrays.getD i dY).level) (q.arrays.getD i dY).at_) fun k=>mM p (q.arrays.drop (i+1)) (acc++[(q.arrays.getD i dY).name]) (cs++[((q.arrays.getD i dY).size,k)]):=by
 have e:q.arrays[i]=q.arrays.getD i dY:=by rw[adf,adh h];rfl
 rw[List.drop_eq_getElem_cons h,e,mM]
structure ScW (q:Prg) (R:Flt (List Scp)) where
 i:Nat
 acc:List Scp
 hi:i≤q.funcs.length
 ha:acc.length=i
 same:mW (q.funcs.drop i) acc=R
theorem Tv {q:Prg} {i:Nat} (h:i<q.funcs.length) (acc:List Scp):mW (q.funcs.drop i) acc=bd (Di (q.funcs.getD i bD)) fun s=>mW (q.funcs.drop (i+1)) (acc++[s]):=by
 have e:q.funcs[i]=q.funcs.getD i bD:=by rw[adf,adh h];rfl
 rw[List.drop_eq_getElem_cons h,e,mW]
structure BoW (r:Res) (ss:List Scp) (R:Flt (List Bod)) where
 i:Nat
 acc:List Bod
 hi:i≤r.q.funcs.length
 ha:acc.length=i
 same:lK r ss (r.q.funcs.drop i) i acc=R
theorem Tw {r:Res} {ss:List Scp} {i:Nat} (h:i<r.q.funcs.length) (acc:List Bod):lK r ss (r.q.funcs.drop i) i acc=bd (JG r (ss.getD i mU) (r.q.funcs.getD i bD)) fun b=>lK r ss (r.q.funcs.drop (i+1)) (i+1) (acc++[b]):=by
 have e:r.q.funcs[i]=r.q.funcs.getD i bD:=by rw[adf,adh h];rfl
 rw[List.drop_eq_getElem_cons h,e,lK]
structure BlW (r:Res) (s:Scp) (f:Fun) (R:Flt (List (List Op9))) where
 j:Nat
 acc:List (List Op9)
 hj:j≤f.blocks.length
 ha:acc.length=j
 same:kg r s (f.blocks.drop j) acc=R
theorem OV {r:Res} {s:Scp} {f:Fun} {i:Nat} (h:i<f.blocks.length) (acc:List (List Op9)):kg r s (f.blocks.drop i) acc=bd (rz r s (f.blocks.getD i bH)) fun y=>kg r s (f.blocks.drop (i+1)) (acc++[y]):=by
 have e:f.blocks[i]=f.blocks.getD i bH:=by rw[adf,adh h];rfl
 rw[List.drop_eq_getElem_cons h,e,kg]
abbrev aaA (l:List Cel):Ch:=.vec 66 2 l.length fun i=>[.int .i64 (l.getD i bK).1, .int .i64 (l.getD i bK).2]
abbrev spC (l:List Scp):Ch:=.vec 133 2 l.length fun i=>[.mp (l.getD i mU).blks, .mp (l.getD i mU).vals]
abbrev aaB (l:List (List Op9)):Ch:=.vec 61 1 l.length fun i=>[wR (l.getD i [])]
abbrev Yd (l:List Bod):Ch:=.vec 60 3 l.length fun i=>Fz (l.getD i aC)
abbrev Tx (l:List Scp):D:=.sl 2 l.length fun i=>[.mp (l.getD i mU).blks, .mp (l.getD i mU).vals]
abbrev resR (R:Cod×Int×Int):V:=.tup [Bn R.1,vi R.2.1,vi R.2.2]
set_option maxHeartbeats 16000000 in
theorem kY (p:Pol) (q:Prg) (hz:Td p) (hq:OU q):Pure PG 17 [Jz p,LB q] (resR (gB p q)) []:=by
 obtain⟨i1,i2,i3,i4⟩:=qZ hz.toPolSz
 refine aI.Qa (cfg 182) av [] 2 [4,5,6] Tryz.func17 rfl rfl (by kernel_rfl) rfl rfl rfl ?_
 intro C x
 refine x.pure rfl tR rfl (CQ p hz) ⟨⟨ah rfl,ah rfl,ah rfl,ah rfl,rfl,tR⟩,tR⟩ ?_
 refine x.gW rfl tR rfl (fun _=>Mw q hq) rfl ⟨⟨ah rfl,ah rfl,tR⟩,tR⟩ ?_
 refine x.cond rfl tR (fun h=>?_) (fun h=>?_)
 ·have h:(!gU p||!rightG q)=true:=h
  rw[gB,if_neg (by revert h;cases gU p<;>cases rightG q<;>simp)]
  refine x.lV ?_
  exact x.exit rfl tR ⟨⟨[(4, .ptr 2 0),(5, .ptr 3 0),(6, .ptr 4 0)],[(2, .box [.d (bL []), .d (bI []),vi 0]),(3, .box [vi 0]),(4, .box [vi 1])],5⟩,⟨⟨⟨rfl,rfl⟩,⟨rfl,rfl⟩,⟨rfl,rfl⟩,tR⟩,⟨⟨rfl,rfl,rfl,tR⟩,⟨rfl,tR⟩,⟨rfl,tR⟩,tR⟩,rfl⟩, .inr rfl,⟨rfl,rfl,rfl,tR⟩,tR,rfl⟩
 have h:(!gU p||!rightG q)=false:=h
 have hR:(gU p&&rightG q)=true:=by revert h;cases gU p<;>cases rightG q<;>simp
 have hs:=Wh (adg _ _▸hR).2
 rw[gB,if_pos hR]
 refine x.back rfl tR ?_
 refine x.back rfl tR ?_
 refine⟨_,_,5,rfl,rfl,⟨_,Tryz.func50,rfl,by kernel_rfl⟩,fun C1 x1=>?_⟩
 clear x
 obtain⟨AR,hAR⟩:∃AR,mM p q.arrays [] []=AR:=⟨_,rfl⟩
 have o8:Dj p q=bd AR fun ac=>bd (fK [] (q.funcs.map fun f=>(f.name,f.at_))) fun fn=>if xH q fn=true then bd (mW q.funcs []) fun ss=>bd (lK ⟨p,q,ac.1,fn⟩ ss q.funcs 0 []) fun bs=>.ok ⟨ac.2,bs,cO fn dK⟩ else .error (0,14):=by rw[←hAR];rfl
 obtain⟨CV,hCV⟩:∃CV,Dj p q=CV:=⟨_,rfl⟩
 rw[hCV] at o8 ⊢
 have hal:=hs.al
 have hfl:=hs.fl
 refine x1.toLoop rfl tR ?_
 refine Go.ownB 2 0 66 2 (fun i=>[.int .i64 (([]:List Cel).getD i bK).1, .int .i64 (([]:List Cel).getD i bK).2]) rfl rfl ?_
 refine x1.loop (α:=ArW p q AR) (fun y=>⟨[(2, .ptr 0 0),(3, .ptr 1 0),(4, .ptr 2 0),(5, .ptr 3 0),(6, .ptr 4 0),(7, .ptr 6 0),(40, .d (dH q.arrays)),(41,vi (q.arrays.length:Int)),(42,vi (y.i:Int))],[(0,jP p),(1, .box [.d (dH q.arrays), .d (dU q.funcs)]),(2, .box [.own 7, .aB,vi 0]),(3, .box [vi 0]),(4, .box [vi 0]),(5, .pos y.acc),(6, .box [vSs p.lev,vU p.up,jC p.ins,jC p.outs,vi p.depth, .d (dH q.arrays), .d (dU q.funcs), .own 5, .dead]),(7,aaA y.cs)],8⟩) (fun y=>q.arrays.length-y.i) ⟨0,[],[],Nat.zero_le _,rfl,rfl,hAR⟩ rfl tR ⟨⟨⟨rfl,rfl⟩,⟨rfl,rfl⟩,⟨rfl,rfl⟩,⟨rfl,rfl⟩,⟨rfl,rfl⟩,⟨rfl,rfl⟩,au rfl,rfl,rfl,tR⟩,⟨bO p,⟨ah rfl,ah rfl,tR⟩,⟨rfl,tR,rfl,tR⟩,⟨rfl,tR⟩,⟨rfl,tR⟩,tR,⟨ah rfl,ah rfl,ah rfl,ah rfl,rfl,ah rfl,ah rfl,rfl,rfl,tR⟩,⟨rfl,rfl,rfl,fun _ h=>absurd h (adp _)⟩,tR⟩,rfl⟩ (fun y=>?_)
 obtain⟨i,acc,cs,hi,ha,hc,same⟩:=y
 change Go C1 _ ⟨[(2, .ptr 0 0),(3, .ptr 1 0),(4, .ptr 2 0),(5, .ptr 3 0),(6, .ptr 4 0),(7, .ptr 6 0),(40, .d (dH q.arrays)),(41,vi (q.arrays.length:Int)),(42,vi (i:Int))],[(0,jP p),(1, .box [.d (dH q.arrays), .d (dU q.funcs)]),(2, .box [.own 7, .aB,vi 0]),(3, .box [vi 0]),(4, .box [vi 0]),(5, .pos acc),(6, .box [vSs p.lev,vU p.up,jC p.ins,jC p.outs,vi p.depth, .d (dH q.arrays), .d (dU q.funcs), .own 5, .dead]),(7,aaA cs)],8⟩ _
 refine x1.cond rfl tR (fun h1=>?_) (fun h1=>?_)
 ·have h1:i<q.arrays.length:=by have:=adi h1;omega
  rw[Tt h1] at same
  refine x1.quiet rfl (by simp only[aj];omega) ay (by kernel_rfl) ?_
  refine x1.dW rfl tR ?_
  cases hp:posB acc (q.arrays.getD i dY).name with
  | true=>
   rw[hp,if_pos rfl] at same
   subst same
   rw[bd] at o8
   subst o8
   refine x1.Da [4,5,6] [] rfl tR rfl (iQ (q.arrays.getD i dY).at_ 9) ⟨(show aG (vb (!posB acc (q.arrays.getD i dY).name)) (vb false) by rw[hp];exact rfl),rfl,rfl,tR⟩ rfl tR ?_
   exact⟨.pan vG [(.i64,_),(.i64,_)],[.ptr 0 0, .ptr 1 0, .ptr 2 0],[2,3,4],_,_,_,rfl,fun _=>rfl,fun _ _ _ _ h=>(((h.dim 2).dim 3).dim 4),rA (fun i=>[.int .i64 (([]:List Cel).getD i bK).1, .int .i64 (([]:List Cel).getD i bK).2]) (fun i=>Fz (([]:List Bod).getD i aC)) _ _,⟨⟨rfl,rfl⟩,⟨rfl,rfl⟩,⟨rfl,rfl⟩,tR⟩,rfl,⟨⟨rfl,rfl,rfl,tR⟩,⟨rfl,tR⟩,⟨rfl,tR⟩,tR⟩, .inr rfl,⟨rfl,rfl,rfl,tR⟩,tR,rfl⟩
  | false=>
   rw[hp,if_neg (by simp)] at same
   refine x1.pure rfl tR rfl (jT (q.arrays.getD i dY).at_ 9) ⟨(show aG (vb (!posB acc (q.arrays.getD i dY).name)) (vb true) by rw[hp];exact rfl),rfl,rfl,tR⟩ ?_
   refine x1.wu 9 [5] [0,1,2,3,4,5,6] (.fork 7 .leaf .no)
    ⟨[(2, .ptr 0 0),(3, .ptr 1 0),(4, .ptr 2 0),(5, .ptr 3 0),(6, .ptr 4 0),(7, .ptr 6 0),(40, .d (dH q.arrays)),(41,vi (q.arrays.length:Int)),(42,vi (i:Int)),(9, .ptr 8 0)],[(5, .pos (acc++[(q.arrays.getD i dY).name]))],9⟩ rfl tR ay rfl (by kernel_rfl) (iD.quiet (by kernel_rfl)) rfl tR (fun C2 x2=>?_) ?_
   ·exact⟨x2.back rfl (by refine⟨hp,?_⟩;simp only[aj];omega) (Or.inl ⟨⟨⟨rfl,rfl⟩,⟨rfl,rfl⟩,⟨rfl,rfl⟩,⟨rfl,rfl⟩,⟨rfl,rfl⟩,⟨rfl,rfl⟩,au rfl,rfl,rfl,⟨rfl,rfl⟩,tR⟩,⟨rfl,tR⟩,rfl⟩),tR⟩
   refine x1.pure rfl tR rfl (jo p.lev (q.arrays.getD i dY).level i1) ⟨⟨ah rfl,rfl,rfl,rfl,rfl,tR⟩,rfl,tR⟩ ?_
   refine x1.code rfl tR ?_
   refine x1.perm [0,1,2,3,4,5,6,8,7] rfl ?_
   by_cases hk:0≤bE p.lev (q.arrays.getD i dY).level
   rotate_left
   ·rw[eu,if_neg hk,bd] at same
    subst same
    rw[bd] at o8
    subst o8
    refine x1.pK 8 [2,8] [0,2,3,4,5,6,7] (.fork 1 (.fork 8 (.fork 9 (.fork 10 (.fork 11 (.fork 12 (.fork 13 .leaf .no) .no) .no) .no) .no) .no) (.fork 8 (.fork 1 (.fork 9 (.fork 10 (.fork 11 (.fork 12 (.fork 13 .leaf .no) .no) .no) .no) .no) (.fork 9 (.fork 1 (.fork 10 (.fork 11 (.fork 12 (.fork 13 .leaf .no) .no) .no) .no) (.fork 10 (.fork 1 (.fork 11 (.fork 12 (.fork 13 .leaf .no) .no) .no) .no) .no)) .no)) .no)) rfl tR ay rfl (by kernel_rfl) (iD.quiet (by kernel_rfl)) rfl tR (fun C2 x2=>?_)
    repeat' first
     | exact True.intro
     | refine And.intro ?_ ?_
     | refine x2.Da [4,5,6] [] rfl tR rfl (wH _ (q.arrays.getD i dY).at_) ⟨rfl,(show aG (vb (decide (0≤bE p.lev (q.arrays.getD i dY).level))) (vb false) by rw[decide_eq_false hk];exact rfl),rfl,tR⟩ rfl tR ⟨⟨_,rfl⟩,rfl,?_⟩
     | exact⟨.pan vG [(.i64,_),(.i64,_)],[.ptr 0 0, .ptr 1 0, .ptr 2 0],[2,3,4],_,_,_,rfl,fun _=>rfl,fun _ _ _ _ h=>(((h.dim 2).dim 3).dim 4),rA (fun i=>[.int .i64 (([]:List Cel).getD i bK).1, .int .i64 (([]:List Cel).getD i bK).2]) (fun i=>Fz (([]:List Bod).getD i aC)) _ _,⟨⟨rfl,rfl⟩,⟨rfl,rfl⟩,⟨rfl,rfl⟩,tR⟩,rfl,⟨⟨rfl,rfl,rfl,tR⟩,⟨rfl,tR⟩,⟨rfl,tR⟩,tR⟩, .inr rfl,⟨rfl,rfl,rfl,tR⟩,tR,rfl⟩
     | refine x2.back rfl tR ?_
   ·rw[eu,if_pos hk,bd] at same
    refine x1.wu 8 [2,8] [0,2,3,4,5,6,7] (.fork 1 (.fork 8 (.fork 9 (.fork 10 (.fork 11 (.fork 12 (.fork 13 .leaf .no) .no) .no) .no) .no) .no) (.fork 8 (.fork 1 (.fork 9 (.fork 10 (.fork 11 (.fork 12 (.fork 13 .leaf .no) .no) .no) .no) .no) (.fork 9 (.fork 1 (.fork 10 (.fork 11 (.fork 12 (.fork 13 .leaf .no) .no) .no) .no) (.fork 10 (.fork 1 (.fork 11 (.fork 12 (.fork 13 .leaf .no) .no) .no) .no) .no)) .no)) .no))
     ⟨[(2, .ptr 0 0),(3, .ptr 1 0),(4, .ptr 2 0),(5, .ptr 3 0),(6, .ptr 4 0),(7, .ptr 6 0),(40, .d (dH q.arrays)),(41,vi (q.arrays.length:Int)),(42,vi (i:Int))],[(2, .box [.own 8, .aB,vi 0]),(8,aaA (cs++[((q.arrays.getD i dY).size,bE p.lev (q.arrays.getD i dY).level)]))],9⟩ rfl tR ay rfl (by kernel_rfl) (iD.quiet (by kernel_rfl)) rfl tR (fun C2 x2=>?_) ?_
    ·repeat' first
      | exact True.intro
      | refine And.intro ?_ ?_
      | refine x2.pure rfl tR rfl (zL (bE p.lev (q.arrays.getD i dY).level) (q.arrays.getD i dY).at_) ⟨(show aG (vi (if 0 > bE p.lev (q.arrays.getD i dY).level then 0 else bE p.lev (q.arrays.getD i dY).level)) (vi (bE p.lev (q.arrays.getD i dY).level)) by rw[if_neg (by omega)];exact rfl),(show aG (vb (decide (0≤bE p.lev (q.arrays.getD i dY).level))) (vb true) by rw[decide_eq_true hk];exact rfl),rfl,tR⟩ (x2.back rfl tR ?_)
      | refine x2.back rfl tR ?_
      | refine x2.back rfl (by simp only[aj,big];omega) ?_
      | exact Or.inl ⟨⟨⟨rfl,rfl⟩,⟨rfl,rfl⟩,⟨rfl,rfl⟩,⟨rfl,rfl⟩,⟨rfl,rfl⟩,⟨rfl,rfl⟩,au rfl,rfl,rfl,tR⟩,⟨⟨rfl,tR,rfl,tR⟩,⟨rfl,rfl,by simp,fun j hj=>gL (fun c:Cel=>[D.int .i64 c.1,D.int .i64 c.2]) 2 (fun _=>rfl) bK cs ((q.arrays.getD i dY).size,bE p.lev (q.arrays.getD i dY).level) j hj⟩,tR⟩,rfl⟩
    refine x1.perm [0,1,2,3,4,5,6,8,7] rfl ?_
    exact x1.back rfl (by simp only[aj,ak];omega) ⟨⟨i+1,acc++[(q.arrays.getD i dY).name],cs++[((q.arrays.getD i dY).size,bE p.lev (q.arrays.getD i dY).level)],by omega,by simp [ha],by simp [hc],same⟩,by show q.arrays.length-(i+1)<q.arrays.length-i;omega,⟨⟨rfl,rfl⟩,⟨rfl,rfl⟩,⟨rfl,rfl⟩,⟨rfl,rfl⟩,⟨rfl,rfl⟩,⟨rfl,rfl⟩,au rfl,rfl,(show aG (vi ((i:Int)+1)) (vi ((i+1:Nat):Int)) by rw[ads];rfl),tR⟩,⟨bO p,⟨ah rfl,ah rfl,tR⟩,⟨rfl,tR,rfl,tR⟩,⟨rfl,tR⟩,⟨rfl,tR⟩,rfl,⟨ah rfl,ah rfl,ah rfl,ah rfl,rfl,ah rfl,ah rfl,rfl,rfl,tR⟩,⟨rfl,rfl,rfl,fun _ _=>rfl⟩,tR⟩,rfl⟩
 have h1:i=q.arrays.length:=by have:=adj h1;omega
 rw[List.drop_of_length_le (by omega),mM] at same
 subst same
 rw[bd] at o8
 refine Sx.Go.freeze 5 ?_
 refine Sx.Go.freeze 7 ?_
 have hnf:=Tg q.funcs (by omega)
 obtain⟨FN,hFN⟩:∃FN,fK [] (q.funcs.map fun f=>(f.name,f.at_))=FN:=⟨_,rfl⟩
 rw[hFN] at hnf o8
 rcases FN with⟨a,e⟩ | fn
 ·rw[bd] at o8
  subst o8
  refine x1.Da [4,5,6] [] rfl tR rfl hnf ⟨au rfl,rfl,rfl,tR⟩ rfl tR ?_
  exact⟨.pan vG [(.i64,_),(.i64,_)],[.ptr 0 0, .ptr 1 0, .ptr 2 0],[2,3,4],_,_,_,rfl,fun _=>rfl,fun _ _ _ _ h=>(((h.dim 2).dim 3).dim 4),rA (fun i=>[.int .i64 (([]:List Cel).getD i bK).1, .int .i64 (([]:List Cel).getD i bK).2]) (fun i=>Fz (([]:List Bod).getD i aC)) _ _,⟨⟨rfl,rfl⟩,⟨rfl,rfl⟩,⟨rfl,rfl⟩,tR⟩,rfl,⟨⟨rfl,rfl,rfl,tR⟩,⟨rfl,tR⟩,⟨rfl,tR⟩,tR⟩, .inr rfl,⟨rfl,rfl,rfl,tR⟩,tR,rfl⟩
 rw[bd] at o8
 have hfn:fn.length=q.funcs.length:=by have:=MB hFN;simpa using this
 refine x1.call [] rfl tR rfl hnf rfl ⟨au rfl,rfl,rfl,tR⟩ tR ?_
 have hmi:posB fn dK=true->0≤cO fn dK∧cO fn dK<(q.funcs.length:Int):=fun h=>by have:=tq h;omega
 have hmv:(posB fn dK&&decide (((q.funcs.getD (cO fn dK).toNat bD).params.length:Int)=0))=xH q fn:=rfl
 cases hm:xH q fn with
 | false=>
  rw[hm,if_neg (by simp)] at o8
  subst o8
  refine x1.Da [4,5,6] [] rfl (by simp only[aj];exact hmi) rfl (iQ 0 14) ⟨(show aG (vb (posB fn dK&&decide (((q.funcs.getD (cO fn dK).toNat bD).params.length:Int)=0))) (vb false) by rw[hmv,hm];exact rfl),rfl,rfl,tR⟩ rfl tR ?_
  exact⟨.pan vG [(.i64,_),(.i64,_)],[.ptr 0 0, .ptr 1 0, .ptr 2 0],[2,3,4],_,_,_,rfl,fun _=>rfl,fun _ _ _ _ h=>(((h.dim 2).dim 3).dim 4),rA (fun i=>[.int .i64 (([]:List Cel).getD i bK).1, .int .i64 (([]:List Cel).getD i bK).2]) (fun i=>Fz (([]:List Bod).getD i aC)) _ _,⟨⟨rfl,rfl⟩,⟨rfl,rfl⟩,⟨rfl,rfl⟩,tR⟩,rfl,⟨⟨rfl,rfl,rfl,tR⟩,⟨rfl,tR⟩,⟨rfl,tR⟩,tR⟩, .inr rfl,⟨rfl,rfl,rfl,tR⟩,tR,rfl⟩
 | true=>
  rw[hm,if_pos rfl] at o8
  refine x1.pure rfl (by simp only[aj];exact hmi) rfl (jT 0 14) ⟨(show aG (vb (posB fn dK&&decide (((q.funcs.getD (cO fn dK).toNat bD).params.length:Int)=0))) (vb true) by rw[hmv,hm];exact rfl),rfl,rfl,tR⟩ ?_
  refine x1.toLoop rfl (by simp only[aj,big,adv];omega) ?_
  refine Sx.Go.freeze 8 ?_
  obtain⟨SR,hSR⟩:∃SR,mW q.funcs []=SR:=⟨_,rfl⟩
  rw[hSR] at o8
  refine x1.loop (α:=ScW q SR) (fun y=>⟨[(2, .ptr 0 0),(3, .ptr 1 0),(4, .ptr 2 0),(5, .ptr 3 0),(6, .ptr 4 0),(7, .ptr 6 0),(16, .own 9),(123, .d (dU q.funcs)),(124,vi (q.funcs.length:Int)),(125,vi (y.i:Int))],[(0,jP p),(1, .box [.d (dH q.arrays), .d (dU q.funcs)]),(2, .box [.d (bL cs), .aB,vi (cO fn dK)]),(3, .box [vi 0]),(4, .box [vi 0]),(6,kr ⟨p,q,acc,fn⟩),(9,spC y.acc)],10⟩) (fun y=>q.funcs.length-y.i) ⟨0,[],Nat.zero_le _,rfl,hSR⟩ rfl tR ⟨⟨⟨rfl,rfl⟩,⟨rfl,rfl⟩,⟨rfl,rfl⟩,⟨rfl,rfl⟩,⟨rfl,rfl⟩,⟨rfl,rfl⟩,rfl,au rfl,rfl,rfl,tR⟩,⟨bO p,⟨ah rfl,ah rfl,tR⟩,⟨ah rfl,tR,rfl,tR⟩,⟨rfl,tR⟩,⟨rfl,tR⟩,aU ⟨p,q,acc,fn⟩,⟨rfl,rfl,rfl,fun _ h=>absurd h (adp _)⟩,tR⟩,rfl⟩ (fun y=>?_)
  obtain⟨i2,mV,hi2,hsa,same⟩:=y
  change Go C1 _ ⟨[(2, .ptr 0 0),(3, .ptr 1 0),(4, .ptr 2 0),(5, .ptr 3 0),(6, .ptr 4 0),(7, .ptr 6 0),(16, .own 9),(123, .d (dU q.funcs)),(124,vi (q.funcs.length:Int)),(125,vi (i2:Int))],[(0,jP p),(1, .box [.d (dH q.arrays), .d (dU q.funcs)]),(2, .box [.d (bL cs), .aB,vi (cO fn dK)]),(3, .box [vi 0]),(4, .box [vi 0]),(6,kr ⟨p,q,acc,fn⟩),(9,spC mV)],10⟩ _
  have hfn0:fn.length=q.funcs.length:=hfn
  refine x1.cond rfl tR (fun h3=>?_) (fun h3=>?_)
  ·have h3:i2<q.funcs.length:=by have:=adi h3;omega
   rw[Tv h3] at same
   have hsc:=OQ ⟨p,q,acc,fn⟩ (q.funcs.getD i2 bD) (hs.fn (JM h3))
   obtain⟨V,hV⟩:∃V,Di (q.funcs.getD i2 bD)=V:=⟨_,rfl⟩
   rw[hV] at hsc same
   rcases V with⟨a,e⟩ | sc
   ·rw[bd] at same
    subst same
    rw[bd] at o8
    subst o8
    refine x1.Da [4,5,6] [6] rfl (by simp only[aj];omega) rfl hsc ⟨⟨rfl,rfl⟩,⟨rfl,ah rfl,ah rfl,rfl,tR⟩,tR⟩ rfl ⟨aU ⟨p,q,acc,fn⟩,tR⟩ ?_
    exact⟨.pan vG [(.i64,_),(.i64,_)],[.ptr 0 0, .ptr 1 0, .ptr 2 0],[2,3,4],_,_,_,rfl,fun _=>rfl,fun _ _ _ _ h=>(((h.dim 2).dim 3).dim 4),rA (fun i=>[.int .i64 (([]:List Cel).getD i bK).1, .int .i64 (([]:List Cel).getD i bK).2]) (fun i=>Fz (([]:List Bod).getD i aC)) _ _,⟨⟨rfl,rfl⟩,⟨rfl,rfl⟩,⟨rfl,rfl⟩,tR⟩,rfl,⟨⟨rfl,rfl,rfl,tR⟩,⟨rfl,tR⟩,⟨rfl,tR⟩,tR⟩, .inr rfl,⟨rfl,rfl,rfl,tR⟩,tR,rfl⟩
   ·rw[bd] at same
    refine x1.call [6] rfl (by simp only[aj];omega) rfl hsc rfl ⟨⟨rfl,rfl⟩,⟨rfl,ah rfl,ah rfl,rfl,tR⟩,tR⟩ ⟨aU ⟨p,q,acc,fn⟩,tR⟩ ?_
    exact x1.back rfl (by simp only[aj,ak,big];omega) ⟨⟨i2+1,mV++[sc],by omega,by simp [hsa],same⟩,by show q.funcs.length-(i2+1)<q.funcs.length-i2;omega,⟨⟨rfl,rfl⟩,⟨rfl,rfl⟩,⟨rfl,rfl⟩,⟨rfl,rfl⟩,⟨rfl,rfl⟩,⟨rfl,rfl⟩,rfl,au rfl,rfl,(show aG (vi ((i2:Int)+1)) (vi ((i2+1:Nat):Int)) by rw[ads];rfl),tR⟩,⟨bO p,⟨ah rfl,ah rfl,tR⟩,⟨ah rfl,tR,rfl,tR⟩,⟨rfl,tR⟩,⟨rfl,tR⟩,aU ⟨p,q,acc,fn⟩,⟨rfl,rfl,by simp,fun j hj=>gL (fun s:Scp=>[D.mp s.blks,D.mp s.vals]) 2 (fun _=>rfl) mU mV sc j hj⟩,tR⟩,rfl⟩
  have h3:i2=q.funcs.length:=by have:=adj h3;omega
  rw[List.drop_of_length_le (by omega),mW] at same
  subst same
  rw[bd] at o8
  obtain⟨ss,hss⟩:∃ss,mV=ss:=⟨_,rfl⟩
  have hsl:mV.length=q.funcs.length:=by omega
  refine Sx.Go.freeze 9 ?_
  refine x1.toLoop rfl tR ?_
  refine Go.ownB 2 1 60 3 (fun i=>Fz (([]:List Bod).getD i aC)) rfl rfl ?_
  obtain⟨BR,hBR⟩:∃BR,lK ⟨p,q,acc,fn⟩ mV q.funcs 0 []=BR:=⟨_,rfl⟩
  rw[hBR] at o8
  refine x1.loop (α:=BoW ⟨p,q,acc,fn⟩ mV BR) (fun y=>⟨[(2, .ptr 0 0),(3, .ptr 1 0),(4, .ptr 2 0),(5, .ptr 3 0),(6, .ptr 4 0),(7, .ptr 6 0),(16, .d (Tx mV)),(137, .d (dU q.funcs)),(138,vi (q.funcs.length:Int)),(139,vi (y.i:Int))],[(0,jP p),(1, .box [.d (dH q.arrays), .d (dU q.funcs)]),(2, .box [.d (bL cs), .own 10,vi (cO fn dK)]),(3, .box [vi 0]),(4, .box [vi 0]),(6,kr ⟨p,q,acc,fn⟩),(10,Yd y.acc)],11⟩) (fun y=>q.funcs.length-y.i) ⟨0,[],Nat.zero_le _,rfl,hBR⟩ rfl tR ⟨⟨⟨rfl,rfl⟩,⟨rfl,rfl⟩,⟨rfl,rfl⟩,⟨rfl,rfl⟩,⟨rfl,rfl⟩,⟨rfl,rfl⟩,au rfl,au rfl,rfl,rfl,tR⟩,⟨bO p,⟨ah rfl,ah rfl,tR⟩,⟨ah rfl,rfl,rfl,tR⟩,⟨rfl,tR⟩,⟨rfl,tR⟩,aU ⟨p,q,acc,fn⟩,⟨rfl,rfl,rfl,fun _ h=>absurd h (adp _)⟩,tR⟩,rfl⟩ (fun y=>?_)
  obtain⟨i3,MC,hi3,hba,same⟩:=y
  have hi3:i3≤q.funcs.length:=hi3
  change Go C1 _ ⟨[(2, .ptr 0 0),(3, .ptr 1 0),(4, .ptr 2 0),(5, .ptr 3 0),(6, .ptr 4 0),(7, .ptr 6 0),(16, .d (Tx mV)),(137, .d (dU q.funcs)),(138,vi (q.funcs.length:Int)),(139,vi (i3:Int))],[(0,jP p),(1, .box [.d (dH q.arrays), .d (dU q.funcs)]),(2, .box [.d (bL cs), .own 10,vi (cO fn dK)]),(3, .box [vi 0]),(4, .box [vi 0]),(6,kr ⟨p,q,acc,fn⟩),(10,Yd MC)],11⟩ _
  refine x1.cond rfl tR (fun h4=>?_) (fun h4=>?_)
  rotate_left
  ·have h4:i3=q.funcs.length:=by have:=adj h4;omega
   rw[List.drop_of_length_le (by show q.funcs.length≤i3;omega),lK] at same
   subst same
   rw[bd] at o8
   subst o8
   refine Sx.Go.freeze 10 ?_
   refine x1.exit rfl tR ?_
   exact⟨.back,[.ptr 0 0, .ptr 1 0, .ptr 2 0],[2,3,4],_,_,_, .inr rfl,fun h=>(by obtain⟨_,h⟩:=h;cases h),fun _ _ _ _ h=>h,Tq 2 cs.length 3 MC.length (fun i=>[.int .i64 (cs.getD i bK).1, .int .i64 (cs.getD i bK).2]) (fun i=>Fz (MC.getD i aC)) (cO fn dK) 0 0,⟨⟨rfl,rfl⟩,⟨rfl,rfl⟩,⟨rfl,rfl⟩,tR⟩,rfl,⟨⟨ah rfl,ah rfl,rfl,tR⟩,⟨rfl,tR⟩,⟨rfl,tR⟩,tR⟩, .inr rfl,⟨rfl,rfl,rfl,tR⟩,tR,rfl⟩
  have h4:i3<q.funcs.length:=by have:=adi h4;omega
  rw[Tw (r:=⟨p,q,acc,fn⟩) h4] at same
  have hfs:=hs.fn (JM h4)
  obtain⟨q1,q2,q3⟩:=hs.f _ (JM h4)
  refine x1.wu 12 [] [0,1,2,3,4,5,6,7,8,9] (.fork 10 (.fork 11 .leaf .no) .no)
   ⟨[(2, .ptr 0 0),(3, .ptr 1 0),(4, .ptr 2 0),(5, .ptr 3 0),(6, .ptr 4 0),(7, .ptr 6 0),(16, .d (Tx mV)),(137, .d (dU q.funcs)),(138,vi (q.funcs.length:Int)),(139,vi (i3:Int)),(19,vi (i3:Int)),(20, .ptr 11 0),(21, .ptr 12 0)],[(12, .box [vi ((q.funcs.getD i3 bD).params.length:Int),vi ((mV.getD i3 mU).vals.length:Int), .aB])],13⟩ rfl (by simp only[aj];omega) ay rfl (by kernel_rfl) (iD.quiet (by kernel_rfl)) rfl (by simp only[aj];omega) (fun C2 x2=>?_) ?_
  ·exact⟨x2.back rfl tR ⟨x2.back rfl tR (Or.inl ⟨⟨⟨rfl,rfl⟩,⟨rfl,rfl⟩,⟨rfl,rfl⟩,⟨rfl,rfl⟩,⟨rfl,rfl⟩,⟨rfl,rfl⟩,au rfl,au rfl,rfl,rfl,rfl,⟨rfl,rfl⟩,⟨rfl,rfl⟩,tR⟩,⟨⟨rfl,rfl,tR,tR⟩,tR⟩,rfl⟩),tR⟩,tR⟩
  refine x1.toLoop rfl tR ?_
  refine Go.ownB 12 2 61 1 (fun i=>[wR (([]:List (List Op9)).getD i [])]) rfl rfl ?_
  obtain⟨LR,hLR⟩:∃LR,kg ⟨p,q,acc,fn⟩ (mV.getD i3 mU) (q.funcs.getD i3 bD).blocks []=LR:=⟨_,rfl⟩
  have same:bd (bd LR fun bs=>.ok ⟨((q.funcs.getD i3 bD).params.length:Int),((mV.getD i3 mU).vals.length:Int),bs⟩) (fun b=>lK ⟨p,q,acc,fn⟩ mV (q.funcs.drop (i3+1)) (i3+1) (MC++[b]))=BR:=by rw[←hLR];exact same
  refine x1.loop (α:=BlW ⟨p,q,acc,fn⟩ (mV.getD i3 mU) (q.funcs.getD i3 bD) LR) (fun z=>⟨[(2, .ptr 0 0),(3, .ptr 1 0),(4, .ptr 2 0),(5, .ptr 3 0),(6, .ptr 4 0),(7, .ptr 6 0),(16, .d (Tx mV)),(19,vi (i3:Int)),(21, .ptr 12 0),(137, .d (dU q.funcs)),(138,vi (q.funcs.length:Int)),(139,vi (i3:Int)),(155, .d (jN (q.funcs.getD i3 bD).blocks)),(156,vi ((q.funcs.getD i3 bD).blocks.length:Int)),(157,vi (z.j:Int))],[(0,jP p),(1, .box [.d (dH q.arrays), .d (dU q.funcs)]),(2, .box [.d (bL cs), .own 10,vi (cO fn dK)]),(3, .box [vi 0]),(4, .box [vi 0]),(6,kr ⟨p,q,acc,fn⟩),(10,Yd MC),(12, .box [vi ((q.funcs.getD i3 bD).params.length:Int),vi ((mV.getD i3 mU).vals.length:Int), .own 13]),(13,aaB z.acc)],14⟩) (fun z=>(q.funcs.getD i3 bD).blocks.length-z.j) ⟨0,[],Nat.zero_le _,rfl,hLR⟩ rfl tR ⟨⟨⟨rfl,rfl⟩,⟨rfl,rfl⟩,⟨rfl,rfl⟩,⟨rfl,rfl⟩,⟨rfl,rfl⟩,⟨rfl,rfl⟩,au rfl,rfl,⟨rfl,rfl⟩,au rfl,rfl,rfl,au rfl,rfl,rfl,tR⟩,⟨bO p,⟨ah rfl,ah rfl,tR⟩,⟨ah rfl,rfl,rfl,tR⟩,⟨rfl,tR⟩,⟨rfl,tR⟩,aU ⟨p,q,acc,fn⟩,⟨rfl,rfl,rfl,fun _ _=>rfl⟩,⟨rfl,rfl,rfl,tR⟩,⟨rfl,rfl,rfl,fun _ h=>absurd h (adp _)⟩,tR⟩,rfl⟩ (fun z=>?_)
  obtain⟨j,Tz,hj,hla,CS⟩:=z
  change Go C1 _ ⟨[(2, .ptr 0 0),(3, .ptr 1 0),(4, .ptr 2 0),(5, .ptr 3 0),(6, .ptr 4 0),(7, .ptr 6 0),(16, .d (Tx mV)),(19,vi (i3:Int)),(21, .ptr 12 0),(137, .d (dU q.funcs)),(138,vi (q.funcs.length:Int)),(139,vi (i3:Int)),(155, .d (jN (q.funcs.getD i3 bD).blocks)),(156,vi ((q.funcs.getD i3 bD).blocks.length:Int)),(157,vi (j:Int))],[(0,jP p),(1, .box [.d (dH q.arrays), .d (dU q.funcs)]),(2, .box [.d (bL cs), .own 10,vi (cO fn dK)]),(3, .box [vi 0]),(4, .box [vi 0]),(6,kr ⟨p,q,acc,fn⟩),(10,Yd MC),(12, .box [vi ((q.funcs.getD i3 bD).params.length:Int),vi ((mV.getD i3 mU).vals.length:Int), .own 13]),(13,aaB Tz)],14⟩ _
  refine x1.cond rfl tR (fun h5=>?_) (fun h5=>?_)
  rotate_left
  ·have h5:j=(q.funcs.getD i3 bD).blocks.length:=by have:=adj h5;omega
   rw[List.drop_of_length_le (by omega),kg] at CS
   subst CS
   rw[bd,bd] at same
   refine Sx.Go.freeze 13 ?_
   exact x1.back rfl (by simp only[aj,ak,big];omega) ⟨⟨i3+1,MC++[(⟨((q.funcs.getD i3 bD).params.length:Int),((mV.getD i3 mU).vals.length:Int),Tz⟩:Bod)],by show i3+1≤q.funcs.length;omega,by simp [hba],same⟩,by show q.funcs.length-(i3+1)<q.funcs.length-i3;omega,⟨⟨rfl,rfl⟩,⟨rfl,rfl⟩,⟨rfl,rfl⟩,⟨rfl,rfl⟩,⟨rfl,rfl⟩,⟨rfl,rfl⟩,au rfl,au rfl,rfl,(show aG (vi ((i3:Int)+1)) (vi ((i3+1:Nat):Int)) by rw[ads];rfl),tR⟩,⟨bO p,⟨ah rfl,ah rfl,tR⟩,⟨ah rfl,rfl,rfl,tR⟩,⟨rfl,tR⟩,⟨rfl,tR⟩,aU ⟨p,q,acc,fn⟩,⟨rfl,rfl,by simp,fun j hj=>gL Fz 3 (fun _=>rfl) aC MC (⟨((q.funcs.getD i3 bD).params.length:Int),((mV.getD i3 mU).vals.length:Int),Tz⟩:Bod) j hj⟩,tR⟩,rfl⟩
  have h5:j<(q.funcs.getD i3 bD).blocks.length:=by have:=adi h5;omega
  rw[OV h5] at CS
  have hbl:=Ms ⟨p,q,acc,fn⟩ (mV.getD i3 mU) ((q.funcs.getD i3 bD).blocks.getD j bH) hz.toPolSz (hs.bk (JM h4) (aaz h5)) hfn0
  obtain⟨V,hV⟩:∃V,rz ⟨p,q,acc,fn⟩ (mV.getD i3 mU) ((q.funcs.getD i3 bD).blocks.getD j bH)=V:=⟨_,rfl⟩
  rw[hV] at hbl CS
  refine x1.code rfl (by simp only[aj];omega) ?_
  refine x1.perm [0,1,2,3,4,5,6,7,8,9,10,11,12,14,13] rfl ?_
  rcases V with⟨a,e⟩ | y
  ·rw[bd] at CS
   subst CS
   rw[bd,bd] at same
   subst same
   rw[bd] at o8
   subst o8
   refine x1.pK 14 [6,12,14] [0,2,3,4,5,6,7] (.fork 1 (.fork 8 (.fork 9 (.fork 10 (.fork 11 (.fork 12 .leaf .no) .no) .no) .no) .no) (.fork 8 (.fork 1 (.fork 9 (.fork 10 (.fork 11 (.fork 12 .leaf .no) .no) .no) .no) (.fork 9 (.fork 1 (.fork 10 (.fork 11 (.fork 12 .leaf .no) .no) .no) .no) .no)) .no)) rfl tR ay rfl (by kernel_rfl) (iD.quiet (by kernel_rfl)) rfl (by simp only[aj];omega) (fun C2 x2=>?_)
   repeat' first
    | exact True.intro
    | refine And.intro ?_ ?_
    | refine x2.Da [4,5,6] [6] rfl tR rfl hbl ⟨⟨rfl,rfl⟩,⟨rfl,rfl,tR⟩,⟨rfl,ah rfl,rfl,tR⟩,tR⟩ rfl ⟨aU ⟨p,q,acc,fn⟩,tR⟩ ⟨⟨_,rfl⟩,rfl,?_⟩
    | exact⟨.pan vG [(.i64,_),(.i64,_)],[.ptr 0 0, .ptr 1 0, .ptr 2 0],[2,3,4],_,_,_,rfl,fun _=>rfl,fun _ _ _ _ h=>(((h.dim 2).dim 3).dim 4),rA (fun i=>[.int .i64 (([]:List Cel).getD i bK).1, .int .i64 (([]:List Cel).getD i bK).2]) (fun i=>Fz (([]:List Bod).getD i aC)) _ _,⟨⟨rfl,rfl⟩,⟨rfl,rfl⟩,⟨rfl,rfl⟩,tR⟩,rfl,⟨⟨rfl,rfl,rfl,tR⟩,⟨rfl,tR⟩,⟨rfl,tR⟩,tR⟩, .inr rfl,⟨rfl,rfl,rfl,tR⟩,tR,rfl⟩
    | refine x2.back rfl tR ?_
  ·rw[bd] at CS
   refine x1.wu 14 [6,12,14] [0,2,3,4,5,6,7] (.fork 1 (.fork 8 (.fork 9 (.fork 10 (.fork 11 (.fork 12 .leaf .no) .no) .no) .no) .no) (.fork 8 (.fork 1 (.fork 9 (.fork 10 (.fork 11 (.fork 12 .leaf .no) .no) .no) .no) (.fork 9 (.fork 1 (.fork 10 (.fork 11 (.fork 12 .leaf .no) .no) .no) .no) .no)) .no))
    ⟨[(2, .ptr 0 0),(3, .ptr 1 0),(4, .ptr 2 0),(5, .ptr 3 0),(6, .ptr 4 0),(7, .ptr 6 0),(16, .d (Tx mV)),(19,vi (i3:Int)),(21, .ptr 12 0),(137, .d (dU q.funcs)),(138,vi (q.funcs.length:Int)),(139,vi (i3:Int)),(155, .d (jN (q.funcs.getD i3 bD).blocks)),(156,vi ((q.funcs.getD i3 bD).blocks.length:Int)),(157,vi (j:Int))],[(6,kr ⟨p,q,acc,fn⟩),(12, .box [vi ((q.funcs.getD i3 bD).params.length:Int),vi ((mV.getD i3 mU).vals.length:Int), .own 14]),(14,aaB (Tz++[y]))],15⟩ rfl tR ay rfl (by kernel_rfl) (iD.quiet (by kernel_rfl)) rfl (by simp only[aj];omega) (fun C2 x2=>?_) ?_
   ·repeat' first
     | exact True.intro
     | refine And.intro ?_ ?_
     | refine x2.call [6] rfl tR rfl hbl rfl ⟨⟨rfl,rfl⟩,⟨rfl,rfl,tR⟩,⟨rfl,ah rfl,rfl,tR⟩,tR⟩ ⟨aU ⟨p,q,acc,fn⟩,tR⟩ (x2.back rfl tR ?_)
     | refine x2.back rfl tR ?_
     | refine x2.back rfl (by simp only[aj,big];omega) ?_
     | exact Or.inl ⟨⟨⟨rfl,rfl⟩,⟨rfl,rfl⟩,⟨rfl,rfl⟩,⟨rfl,rfl⟩,⟨rfl,rfl⟩,⟨rfl,rfl⟩,au rfl,rfl,⟨rfl,rfl⟩,au rfl,rfl,rfl,au rfl,rfl,rfl,tR⟩,⟨aU ⟨p,q,acc,fn⟩,⟨rfl,rfl,rfl,tR⟩,⟨rfl,rfl,by simp,fun k hk=>gL (fun l:List Op9=>[wR l]) 1 (fun _=>rfl) [] Tz y k hk⟩,tR⟩,rfl⟩
   refine x1.perm [0,1,2,3,4,5,6,7,8,9,10,11,12,14,13] rfl ?_
   exact x1.back rfl (by simp only[aj,ak];omega) ⟨⟨j+1,Tz++[y],by omega,by simp [hla],CS⟩,by show (q.funcs.getD i3 bD).blocks.length-(j+1)<(q.funcs.getD i3 bD).blocks.length-j;omega,⟨⟨rfl,rfl⟩,⟨rfl,rfl⟩,⟨rfl,rfl⟩,⟨rfl,rfl⟩,⟨rfl,rfl⟩,⟨rfl,rfl⟩,au rfl,rfl,⟨rfl,rfl⟩,au rfl,rfl,rfl,au rfl,rfl,(show aG (vi ((j:Int)+1)) (vi ((j+1:Nat):Int)) by rw[ads];rfl),tR⟩,⟨bO p,⟨ah rfl,ah rfl,tR⟩,⟨ah rfl,rfl,rfl,tR⟩,⟨rfl,tR⟩,⟨rfl,tR⟩,aU ⟨p,q,acc,fn⟩,⟨rfl,rfl,rfl,fun _ _=>rfl⟩,⟨rfl,rfl,rfl,tR⟩,⟨rfl,rfl,rfl,fun _ _=>rfl⟩,tR⟩,rfl⟩
def nmN (c:UInt8) (n:Int):ByteArray:=(⟨#[c]⟩:ByteArray)++jD n
theorem jW (c:UInt8) (n:Int) (h:ak n):Pure PG 73 [vs ⟨#[c]⟩,vi n] (vs (nmN c n)) []:=by
 have hs:=HZ h
 refine aI.mk (cfg 9) av [] Tryz.func73 rfl (by kernel_rfl) rfl rfl rfl ?_
 intro C x
 refine x.pure rfl tR rfl (Tn n h) ⟨rfl,tR⟩ ?_
 refine x.exit rfl ?_ ⟨.inr rfl,rfl,tR,rfl⟩
 simp only[aj]
 show (((1+(jD n).size:Nat)):Int)≤9223372036854775807
 omega
def JN (n most:Int):Int:=if (if 0 > most-1 then 0 else most-1)<(if 0 > n then 0 else n) then (if 0 > most-1 then 0 else most-1) else (if 0 > n then 0 else n)
theorem TA {n most:Int} (h:0≤n) (h2:n<most):JN n most=n:=by
 unfold JN
 rw[if_neg (show ¬0 > most-1 by omega),if_neg (show ¬0 > n by omega),if_neg (by omega)]
def lY (n:Int) (most:Nat):Bool:=decide (0≤n)&&decide (n<(most:Int))
theorem TB (n:Int) (most:Nat) (hm:ak (most:Int)):aI PG 122 1 [vi n,vi (most:Int), .ptr 0 0] [.box [vb true]] (vi (JN n most)) [.box [vb (lY n most)]]:=by
 refine aI.mk (dG 22 1) av [0] Tryz.func122 rfl (by kernel_rfl) rfl rfl rfl ?_
 intro C x
 unfold ak at hm
 refine x.exit rfl (by simp only[aj,ak];omega) ⟨.inr rfl,rfl,⟨⟨?_,tR⟩,tR⟩,rfl⟩
 show aG (vb ((true&&decide (0≤n))&&decide (n<(most:Int)))) (vb (lY n most))
 rw[Bool.true_and];exact rfl
theorem FE (l:List Chan) (hl:l.length≤1000000):Pure PG 124 [jC l] (vSs (l.map (·.1))) []:=by
 refine aI.mk (cfg 18) av [] Tryz.func124 rfl (by kernel_rfl) rfl rfl rfl ?_
 intro C x
 refine x.toLoop rfl tR ?_
 refine Go.own 2 9 1 (fun i=>[.str (([]:List ByteArray).getD i .empty)]) rfl ?_
 refine x.loop (α:={i:Nat // i≤l.length}) (fun y=>⟨[(2, .own 0),(5,jC l),(6,vi (l.length:Int)),(7,vi (y.1:Int))],[(0,gQ ((l.take y.1).map (·.1)))],1⟩) (fun y=>l.length-y.1) ⟨0,by omega⟩ rfl tR ⟨⟨rfl,au rfl,rfl,rfl,tR⟩,⟨⟨rfl,rfl,rfl,fun _ h=>absurd h (adp _)⟩,tR⟩,rfl⟩ (fun y=>?_)
 obtain⟨i,hi⟩:=y
 change Go C _ ⟨[(2, .own 0),(5,jC l),(6,vi (l.length:Int)),(7,vi (i:Int))],[(0,gQ ((l.take i).map (·.1)))],1⟩ _
 refine x.cond rfl tR (fun h1=>?_) (fun h1=>?_)
 ·have h1:i<l.length:=by have:=adi h1;omega
  have htl:((l.take i).map (·.1)).length=i:=by rw[List.length_map,List.length_take];omega
  have e:l[i]?=some (l.getD i aZ):=by rw[adf,adh h1];rfl
  have et:(l.take (i+1)).map (·.1)=(l.take i).map (·.1)++[(l.getD i aZ).1]:=by rw[take_succ e,List.map_append];rfl
  refine x.back rfl (by simp only[aj,ak,big,htl];omega) ⟨⟨i+1,by omega⟩,by show l.length-(i+1)<l.length-i;omega,⟨rfl,au rfl,rfl,(show aG (vi ((i:Int)+1)) (vi ((i+1:Nat):Int)) by rw[ads];rfl),tR⟩,⟨⟨rfl,rfl,by rw[et];simp,fun j hj=>?_⟩,tR⟩,rfl⟩
  rw[et]
  exact jd _ _ j hj
 ·have h1:i=l.length:=by have:=adj h1;omega
  subst h1
  rw[List.take_length]
  refine Sx.Go.freeze 0 ?_
  exact x.exit rfl tR ⟨.inr rfl,au rfl,tR,rfl⟩
def iR (p:Pol) (main:Int) (x:Op9):ByteArray×Bool:=
 if x.kind=4∨x.kind=5∨x.kind=6 then (nmN 97 x.ref,true)
 else if x.kind=7 then (if x.ref=main then dK else nmN 102 x.ref,true)
 else if x.kind=8 then (if lY x.ref p.ins.length=true then (p.ins.getD x.ref.toNat aZ).1 else .empty,lY x.ref p.ins.length)
 else if x.kind=9 then (if lY x.ref p.outs.length=true then (p.outs.getD x.ref.toNat aZ).1 else .empty,lY x.ref p.outs.length)
 else if x.kind=10 then (if lY x.ref p.lev.length=true then p.lev.getD x.ref.toNat .empty else .empty,lY x.ref p.lev.length)
 else if x.kind=11∨x.kind=12 then (nmN 98 x.ref,true)
 else (.empty,true)
def aY (p:Pol) (main:Int) (x:Op9):Ins:=⟨x.kind,x.op,if 0≤x.dst then nmN 118 x.dst else .empty,(iR p main x).1,if x.kind=12 then nmN 98 x.alt else .empty,x.args.map (nmN 118),x.frm.map (nmN 98),x.num,x.at_⟩
structure aaC (x:Op9):Prop where
 a:x.args.length*16≤140737488355328
 f:x.frm.length*16≤140737488355328
 ai:∀n∈x.args,ak n
 fi:∀n∈x.frm,ak n
 dst:ak x.dst
 ref:ak x.ref
 alt:ak x.alt
abbrev opC (x:Op9):Ch:=.box [.d (.int .u8 x.kind), .d (.int .u8 x.op),vi x.dst,vi x.ref,vi x.alt, .d (dV x.args), .d (dV x.frm),vi x.num,vi x.at_]
theorem fQ (x:Op9):lS (opC x) (opC x):=⟨rfl,rfl,rfl,rfl,rfl,ah rfl,ah rfl,rfl,rfl,tR⟩
theorem yG (x0:Op9) (d a ar:ByteArray) (az fz:List ByteArray) (l:List ByteArray) (hl:ak (l.length:Int)):aI PG 123 4 [vSs l, .ptr 0 0, .ptr 1 0, .ptr 2 0, .ptr 3 0] [.box [.fn 122 [.ptr 2 0]],opC x0, .box [vb true], .box [.d (.int .u8 x0.kind), .d (.int .u8 x0.op),vs d,vs .empty,vs a, .d (bQ az), .d (bQ fz),vi x0.num,vi x0.at_]] (.tup []) [.box [.fn 122 [.ptr 2 0]],opC x0, .box [vb (lY x0.ref l.length)], .box [.d (.int .u8 x0.kind), .d (.int .u8 x0.op),vs d,vs (if lY x0.ref l.length=true then l.getD x0.ref.toNat .empty else .empty),vs a, .d (bQ az), .d (bQ fz),vi x0.num,vi x0.at_]]:=by
 refine aI.mk (dG 19 4) av [0,1,2,3] Tryz.func123 rfl (by kernel_rfl) rfl rfl rfl ?_
 intro C x
 refine x.call [2] rfl tR rfl (TB x0.ref l.length hl) rfl ⟨rfl,rfl,⟨rfl,rfl⟩,tR⟩ ⟨⟨rfl,tR⟩,tR⟩ ?_
 refine x.cond rfl tR (fun h=>?_) (fun h=>?_)
 ·have h:lY x0.ref l.length=true:=h
  have hb:0≤x0.ref∧x0.ref<(l.length:Int):=by
   unfold lY at h
   rw[adg,adn,adn] at h;exact h
  have hcl:=TA hb.1 hb.2
  refine x.exit rfl (by simp only[aj,hcl];omega) ⟨.inl rfl,tR,⟨⟨rfl,tR⟩,fQ x0,⟨rfl,tR⟩,⟨rfl,rfl,rfl,?_,rfl,ah rfl,ah rfl,rfl,rfl,tR⟩,tR⟩,rfl⟩
  show aG (vs (l.getD (JN x0.ref l.length).toNat .empty)) (vs _)
  rw[hcl,if_pos h];exact rfl
 ·have h:lY x0.ref l.length=false:=h
  refine x.exit rfl tR ⟨.inl rfl,tR,⟨⟨rfl,tR⟩,fQ x0,⟨rfl,tR⟩,⟨rfl,rfl,rfl,?_,rfl,ah rfl,ah rfl,rfl,rfl,tR⟩,tR⟩,rfl⟩
  show aG (vs .empty) (vs _)
  rw[h,if_neg (by simp)];exact rfl
theorem zP (l:List Chan) (i:Nat):(l.map (·.1)).getD i ByteArray.empty=(l.getD i aZ).1:=by
 rw[adf,adf,List.getElem?_map]
 cases l[i]?<;>rfl
set_option maxHeartbeats 16000000 in
theorem ME (p:Pol) (c:Cod) (x0:Op9) (hz:PolSz p) (hp:p.ins.length≤1000000∧p.outs.length≤1000000) (hx:aaC x0):Pure PG 74 [Jz p,Bn c,opW x0] (.tup [xD (aY p c.main x0),vb (iR p c.main x0).2]) []:=by
 have hxa:=hx.a
 have hxf:=hx.f
 obtain⟨dS,hdS⟩:∃d,(if 0≤x0.dst then nmN 118 x0.dst else .empty)=d:=⟨_,rfl⟩
 unfold aY
 rw[hdS]
 obtain⟨i1,i2,i3,i4⟩:=qZ hz
 refine aI.mk (cfg 125) av [] Tryz.func74 rfl (by kernel_rfl) rfl rfl rfl ?_
 intro C x
 refine x.ite (α:=Unit) (fun _=>⟨[(3, .ptr 0 0),(4, .ptr 1 0),(5, .ptr 2 0),(6, .ptr 3 0),(8, .ptr 4 0),(9, .ptr 5 0),(10, .ptr 6 0)],[(0,jP p),(1, .box [.d (bL c.arrays), .d (bI c.funcs),vi c.main]),(2,opC x0),(3, .box [.dead, .dead, .dead, .dead, .dead, .dead, .dead, .dead, .dead]),(4, .box [.d (.int .u8 x0.kind), .d (.int .u8 x0.op),vs dS,vs .empty,vs .empty, .aB, .aB,vi x0.num,vi x0.at_]),(5, .box [vb true]),(6, .box [.fn 122 [.ptr 5 0]])],7⟩) rfl tR (fun h=>?_) (fun h=>?_) (fun _=>?_)
 ·have h:0≤x0.dst:=adi h
  rw[if_pos h] at hdS
  subst hdS
  refine x.pure rfl tR rfl (jW 118 x0.dst hx.dst) ⟨rfl,rfl,tR⟩ ?_
  exact x.back rfl tR ⟨(),⟨⟨rfl,rfl⟩,⟨rfl,rfl⟩,⟨rfl,rfl⟩,⟨rfl,rfl⟩,⟨rfl,rfl⟩,⟨rfl,rfl⟩,⟨rfl,rfl⟩,tR⟩,⟨bO p,⟨ah rfl,ah rfl,rfl,tR⟩,fQ x0,⟨rfl,rfl,rfl,rfl,rfl,rfl,rfl,rfl,rfl,tR⟩,⟨rfl,rfl,rfl,rfl,rfl,tR,tR,rfl,rfl,tR⟩,⟨rfl,tR⟩,⟨rfl,tR⟩,tR⟩,rfl⟩
 ·have h:¬0≤x0.dst:=adj h
  rw[if_neg h] at hdS
  subst hdS
  exact x.back rfl tR ⟨(),⟨⟨rfl,rfl⟩,⟨rfl,rfl⟩,⟨rfl,rfl⟩,⟨rfl,rfl⟩,⟨rfl,rfl⟩,⟨rfl,rfl⟩,⟨rfl,rfl⟩,tR⟩,⟨bO p,⟨ah rfl,ah rfl,rfl,tR⟩,fQ x0,⟨rfl,rfl,rfl,rfl,rfl,rfl,rfl,rfl,rfl,tR⟩,⟨rfl,rfl,rfl,rfl,rfl,tR,tR,rfl,rfl,tR⟩,⟨rfl,tR⟩,⟨rfl,tR⟩,tR⟩,rfl⟩
 change Go C _ ⟨[(3, .ptr 0 0),(4, .ptr 1 0),(5, .ptr 2 0),(6, .ptr 3 0),(8, .ptr 4 0),(9, .ptr 5 0),(10, .ptr 6 0)],[(0,jP p),(1, .box [.d (bL c.arrays), .d (bI c.funcs),vi c.main]),(2,opC x0),(3, .box [.dead, .dead, .dead, .dead, .dead, .dead, .dead, .dead, .dead]),(4, .box [.d (.int .u8 x0.kind), .d (.int .u8 x0.op),vs dS,vs .empty,vs .empty, .aB, .aB,vi x0.num,vi x0.at_]),(5, .box [vb true]),(6, .box [.fn 122 [.ptr 5 0]])],7⟩ _
 refine x.toLoop rfl tR ?_
 refine Go.ownB 4 5 9 1 (fun i=>[.str (([]:List ByteArray).getD i .empty)]) rfl rfl ?_
 refine x.loop (α:={i:Nat // i≤x0.args.length}) (fun y=>⟨[(3, .ptr 0 0),(4, .ptr 1 0),(5, .ptr 2 0),(6, .ptr 3 0),(8, .ptr 4 0),(9, .ptr 5 0),(10, .ptr 6 0),(35, .d (dV x0.args)),(36,vi (x0.args.length:Int)),(37,vi (y.1:Int))],[(0,jP p),(1, .box [.d (bL c.arrays), .d (bI c.funcs),vi c.main]),(2,opC x0),(3, .box [.dead, .dead, .dead, .dead, .dead, .dead, .dead, .dead, .dead]),(4, .box [.d (.int .u8 x0.kind), .d (.int .u8 x0.op),vs dS,vs .empty,vs .empty, .own 7, .aB,vi x0.num,vi x0.at_]),(5, .box [vb true]),(6, .box [.fn 122 [.ptr 5 0]]),(7,gQ ((x0.args.take y.1).map (nmN 118)))],8⟩) (fun y=>x0.args.length-y.1) ⟨0,by omega⟩ rfl tR ⟨⟨⟨rfl,rfl⟩,⟨rfl,rfl⟩,⟨rfl,rfl⟩,⟨rfl,rfl⟩,⟨rfl,rfl⟩,⟨rfl,rfl⟩,⟨rfl,rfl⟩,au rfl,rfl,rfl,tR⟩,⟨bO p,⟨ah rfl,ah rfl,rfl,tR⟩,fQ x0,⟨rfl,rfl,rfl,rfl,rfl,rfl,rfl,rfl,rfl,tR⟩,⟨rfl,rfl,rfl,rfl,rfl,rfl,tR,rfl,rfl,tR⟩,⟨rfl,tR⟩,⟨rfl,tR⟩,⟨rfl,rfl,rfl,fun _ h=>absurd h (adp _)⟩,tR⟩,rfl⟩ (fun y=>?_)
 obtain⟨i,hi⟩:=y
 change Go C _ ⟨[(3, .ptr 0 0),(4, .ptr 1 0),(5, .ptr 2 0),(6, .ptr 3 0),(8, .ptr 4 0),(9, .ptr 5 0),(10, .ptr 6 0),(35, .d (dV x0.args)),(36,vi (x0.args.length:Int)),(37,vi (i:Int))],[(0,jP p),(1, .box [.d (bL c.arrays), .d (bI c.funcs),vi c.main]),(2,opC x0),(3, .box [.dead, .dead, .dead, .dead, .dead, .dead, .dead, .dead, .dead]),(4, .box [.d (.int .u8 x0.kind), .d (.int .u8 x0.op),vs dS,vs .empty,vs .empty, .own 7, .aB,vi x0.num,vi x0.at_]),(5, .box [vb true]),(6, .box [.fn 122 [.ptr 5 0]]),(7,gQ ((x0.args.take i).map (nmN 118)))],8⟩ _
 refine x.cond rfl tR (fun h1=>?_) (fun h1=>?_)
 ·have h1:i<x0.args.length:=by have:=adi h1;omega
  have htl:((x0.args.take i).map (nmN 118)).length=i:=by rw[List.length_map,List.length_take];omega
  have e:x0.args[i]?=some (x0.args.getD i 0):=by rw[adf,adh h1];rfl
  have et:(x0.args.take (i+1)).map (nmN 118)=(x0.args.take i).map (nmN 118)++[nmN 118 (x0.args.getD i 0)]:=by rw[take_succ e,List.map_append];rfl
  have hin:ak (x0.args.getD i 0):=hx.ai _ (by rw[adf,adh h1];exact List.getElem_mem h1)
  refine x.EK 7 [4,7] [0,2] (.fork 1 (.fork 3 (.fork 4 (.fork 5 (.fork 6 (.fork 7 .leaf .no) .no) .no) .no) .no) (.fork 3 (.fork 1 (.fork 4 (.fork 5 (.fork 6 (.fork 7 .leaf .no) .no) .no) .no) (.fork 4 (.fork 1 (.fork 5 (.fork 6 (.fork 7 .leaf .no) .no) .no) .no) .no)) .no))
   ⟨[(3, .ptr 0 0),(4, .ptr 1 0),(5, .ptr 2 0),(6, .ptr 3 0),(8, .ptr 4 0),(9, .ptr 5 0),(10, .ptr 6 0),(35, .d (dV x0.args)),(36,vi (x0.args.length:Int)),(37,vi (i:Int))],[(4, .box [.d (.int .u8 x0.kind), .d (.int .u8 x0.op),vs dS,vs .empty,vs .empty, .own 7, .aB,vi x0.num,vi x0.at_]),(7,gQ ((x0.args.take (i+1)).map (nmN 118)))],8⟩ rfl (by simp only[aj];omega) ay rfl (by kernel_rfl) Ret.bT rfl tR (fun C2 x2=>?_) ?_
  ·repeat' first
    | exact True.intro
    | refine And.intro ?_ ?_
    | refine x2.pure rfl tR rfl (jW 118 (x0.args.getD i 0) hin) ⟨rfl,rfl,tR⟩ (x2.back rfl tR ?_)
    | refine x2.back rfl tR ?_
    | refine x2.back rfl (by simp only[aj,big,htl];omega) ?_
    | exact Or.inl ⟨⟨⟨rfl,rfl⟩,⟨rfl,rfl⟩,⟨rfl,rfl⟩,⟨rfl,rfl⟩,⟨rfl,rfl⟩,⟨rfl,rfl⟩,⟨rfl,rfl⟩,au rfl,rfl,rfl,tR⟩,⟨⟨rfl,rfl,rfl,rfl,rfl,rfl,tR,rfl,rfl,tR⟩,⟨rfl,rfl,by rw[et];simp,fun j hj=>by rw[et];exact jd _ _ j hj⟩,tR⟩,rfl⟩
  exact x.back rfl (by simp only[aj,ak];omega) ⟨⟨i+1,by omega⟩,by show x0.args.length-(i+1)<x0.args.length-i;omega,⟨⟨rfl,rfl⟩,⟨rfl,rfl⟩,⟨rfl,rfl⟩,⟨rfl,rfl⟩,⟨rfl,rfl⟩,⟨rfl,rfl⟩,⟨rfl,rfl⟩,au rfl,rfl,(show aG (vi ((i:Int)+1)) (vi ((i+1:Nat):Int)) by rw[ads];rfl),tR⟩,⟨bO p,⟨ah rfl,ah rfl,rfl,tR⟩,fQ x0,⟨rfl,rfl,rfl,rfl,rfl,rfl,rfl,rfl,rfl,tR⟩,⟨rfl,rfl,rfl,rfl,rfl,rfl,tR,rfl,rfl,tR⟩,⟨rfl,tR⟩,⟨rfl,tR⟩,⟨rfl,rfl,rfl,fun _ _=>rfl⟩,tR⟩,rfl⟩
 have h1:i=x0.args.length:=by have:=adj h1;omega
 subst h1
 rw[List.take_length]
 refine Sx.Go.freeze 7 ?_
 refine x.toLoop rfl tR ?_
 refine Go.ownB 4 6 9 1 (fun i=>[.str (([]:List ByteArray).getD i .empty)]) rfl rfl ?_
 refine x.loop (α:={i:Nat // i≤x0.frm.length}) (fun y=>⟨[(3, .ptr 0 0),(4, .ptr 1 0),(5, .ptr 2 0),(6, .ptr 3 0),(8, .ptr 4 0),(9, .ptr 5 0),(10, .ptr 6 0),(50, .d (dV x0.frm)),(51,vi (x0.frm.length:Int)),(52,vi (y.1:Int))],[(0,jP p),(1, .box [.d (bL c.arrays), .d (bI c.funcs),vi c.main]),(2,opC x0),(3, .box [.dead, .dead, .dead, .dead, .dead, .dead, .dead, .dead, .dead]),(4, .box [.d (.int .u8 x0.kind), .d (.int .u8 x0.op),vs dS,vs .empty,vs .empty, .d (bQ (x0.args.map (nmN 118))), .own 8,vi x0.num,vi x0.at_]),(5, .box [vb true]),(6, .box [.fn 122 [.ptr 5 0]]),(8,gQ ((x0.frm.take y.1).map (nmN 98)))],9⟩) (fun y=>x0.frm.length-y.1) ⟨0,by omega⟩ rfl tR ⟨⟨⟨rfl,rfl⟩,⟨rfl,rfl⟩,⟨rfl,rfl⟩,⟨rfl,rfl⟩,⟨rfl,rfl⟩,⟨rfl,rfl⟩,⟨rfl,rfl⟩,au rfl,rfl,rfl,tR⟩,⟨bO p,⟨ah rfl,ah rfl,rfl,tR⟩,fQ x0,⟨rfl,rfl,rfl,rfl,rfl,rfl,rfl,rfl,rfl,tR⟩,⟨rfl,rfl,rfl,rfl,rfl,ah rfl,rfl,rfl,rfl,tR⟩,⟨rfl,tR⟩,⟨rfl,tR⟩,⟨rfl,rfl,rfl,fun _ h=>absurd h (adp _)⟩,tR⟩,rfl⟩ (fun y=>?_)
 obtain⟨i,hi⟩:=y
 change Go C _ ⟨[(3, .ptr 0 0),(4, .ptr 1 0),(5, .ptr 2 0),(6, .ptr 3 0),(8, .ptr 4 0),(9, .ptr 5 0),(10, .ptr 6 0),(50, .d (dV x0.frm)),(51,vi (x0.frm.length:Int)),(52,vi (i:Int))],[(0,jP p),(1, .box [.d (bL c.arrays), .d (bI c.funcs),vi c.main]),(2,opC x0),(3, .box [.dead, .dead, .dead, .dead, .dead, .dead, .dead, .dead, .dead]),(4, .box [.d (.int .u8 x0.kind), .d (.int .u8 x0.op),vs dS,vs .empty,vs .empty, .d (bQ (x0.args.map (nmN 118))), .own 8,vi x0.num,vi x0.at_]),(5, .box [vb true]),(6, .box [.fn 122 [.ptr 5 0]]),(8,gQ ((x0.frm.take i).map (nmN 98)))],9⟩ _
 refine x.cond rfl tR (fun h1=>?_) (fun h1=>?_)
 ·have h1:i<x0.frm.length:=by have:=adi h1;omega
  have htl:((x0.frm.take i).map (nmN 98)).length=i:=by rw[List.length_map,List.length_take];omega
  have e:x0.frm[i]?=some (x0.frm.getD i 0):=by rw[adf,adh h1];rfl
  have et:(x0.frm.take (i+1)).map (nmN 98)=(x0.frm.take i).map (nmN 98)++[nmN 98 (x0.frm.getD i 0)]:=by rw[take_succ e,List.map_append];rfl
  have hin:ak (x0.frm.getD i 0):=hx.fi _ (by rw[adf,adh h1];exact List.getElem_mem h1)
  refine x.EK 7 [4,8] [0,2] (.fork 1 (.fork 3 (.fork 4 (.fork 5 (.fork 6 (.fork 7 .leaf .no) .no) .no) .no) .no) (.fork 3 (.fork 1 (.fork 4 (.fork 5 (.fork 6 (.fork 7 .leaf .no) .no) .no) .no) (.fork 4 (.fork 1 (.fork 5 (.fork 6 (.fork 7 .leaf .no) .no) .no) .no) .no)) .no))
   ⟨[(3, .ptr 0 0),(4, .ptr 1 0),(5, .ptr 2 0),(6, .ptr 3 0),(8, .ptr 4 0),(9, .ptr 5 0),(10, .ptr 6 0),(50, .d (dV x0.frm)),(51,vi (x0.frm.length:Int)),(52,vi (i:Int))],[(4, .box [.d (.int .u8 x0.kind), .d (.int .u8 x0.op),vs dS,vs .empty,vs .empty, .d (bQ (x0.args.map (nmN 118))), .own 8,vi x0.num,vi x0.at_]),(8,gQ ((x0.frm.take (i+1)).map (nmN 98)))],9⟩ rfl (by simp only[aj];omega) ay rfl (by kernel_rfl) Ret.bT rfl tR (fun C2 x2=>?_) ?_
  ·repeat' first
    | exact True.intro
    | refine And.intro ?_ ?_
    | refine x2.pure rfl tR rfl (jW 98 (x0.frm.getD i 0) hin) ⟨rfl,rfl,tR⟩ (x2.back rfl tR ?_)
    | refine x2.back rfl tR ?_
    | refine x2.back rfl (by simp only[aj,big,htl];omega) ?_
    | exact Or.inl ⟨⟨⟨rfl,rfl⟩,⟨rfl,rfl⟩,⟨rfl,rfl⟩,⟨rfl,rfl⟩,⟨rfl,rfl⟩,⟨rfl,rfl⟩,⟨rfl,rfl⟩,au rfl,rfl,rfl,tR⟩,⟨⟨rfl,rfl,rfl,rfl,rfl,ah rfl,rfl,rfl,rfl,tR⟩,⟨rfl,rfl,by rw[et];simp,fun j hj=>by rw[et];exact jd _ _ j hj⟩,tR⟩,rfl⟩
  exact x.back rfl (by simp only[aj,ak];omega) ⟨⟨i+1,by omega⟩,by show x0.frm.length-(i+1)<x0.frm.length-i;omega,⟨⟨rfl,rfl⟩,⟨rfl,rfl⟩,⟨rfl,rfl⟩,⟨rfl,rfl⟩,⟨rfl,rfl⟩,⟨rfl,rfl⟩,⟨rfl,rfl⟩,au rfl,rfl,(show aG (vi ((i:Int)+1)) (vi ((i+1:Nat):Int)) by rw[ads];rfl),tR⟩,⟨bO p,⟨ah rfl,ah rfl,rfl,tR⟩,fQ x0,⟨rfl,rfl,rfl,rfl,rfl,rfl,rfl,rfl,rfl,tR⟩,⟨rfl,rfl,rfl,rfl,rfl,ah rfl,rfl,rfl,rfl,tR⟩,⟨rfl,tR⟩,⟨rfl,tR⟩,⟨rfl,rfl,rfl,fun _ _=>rfl⟩,tR⟩,rfl⟩
 have h1:i=x0.frm.length:=by have:=adj h1;omega
 subst h1
 rw[List.take_length]
 refine Sx.Go.freeze 8 ?_
 have hr:iR p c.main x0=iR p c.main x0:=rfl
 conv at hr=>rhs;unfold iR
 refine x.ite (α:=Unit) (fun _=>⟨[(5, .ptr 2 0),(6, .ptr 3 0),(8, .ptr 4 0),(9, .ptr 5 0),(10, .ptr 6 0),(3, .ptr 0 0),(4, .ptr 1 0),(15, .fn 123 [.ptr 6 0, .ptr 2 0, .ptr 5 0, .ptr 4 0]),(16, .fn 124 []),(66, .d (.int .u8 x0.kind)),(67,vb (decide (x0.kind=4∨x0.kind=5∨x0.kind=6)))],[(0,jP p),(1, .box [.d (bL c.arrays), .d (bI c.funcs),vi c.main]),(2,opC x0),(3, .box [.dead, .dead, .dead, .dead, .dead, .dead, .dead, .dead, .dead]),(4, .box [.d (.int .u8 x0.kind), .d (.int .u8 x0.op),vs dS,vs .empty,vs .empty, .d (bQ (x0.args.map (nmN 118))), .d (bQ (x0.frm.map (nmN 98))),vi x0.num,vi x0.at_]),(5, .box [vb true]),(6, .box [.fn 122 [.ptr 5 0]])],9⟩) rfl tR (fun h=>?_) (fun h=>?_) (fun _=>?_)
 ·have h:x0.kind=4:=adi h
  refine x.back rfl tR ⟨(),⟨⟨rfl,rfl⟩,⟨rfl,rfl⟩,⟨rfl,rfl⟩,⟨rfl,rfl⟩,⟨rfl,rfl⟩,⟨rfl,rfl⟩,⟨rfl,rfl⟩,rfl,rfl,rfl,?_,tR⟩,⟨bO p,⟨ah rfl,ah rfl,rfl,tR⟩,fQ x0,⟨rfl,rfl,rfl,rfl,rfl,rfl,rfl,rfl,rfl,tR⟩,⟨rfl,rfl,rfl,rfl,rfl,ah rfl,ah rfl,rfl,rfl,tR⟩,⟨rfl,tR⟩,⟨rfl,tR⟩,tR⟩,rfl⟩
  show aG (vb (decide (x0.kind=4))) (vb _)
  rw[decide_eq_true h,decide_eq_true (.inl h)];exact rfl
 ·have h:¬x0.kind=4:=adj h
  refine x.cond rfl tR (fun h5=>?_) (fun h5=>?_)
  ·have h5:x0.kind=5:=adi h5
   refine x.back rfl tR ⟨(),⟨⟨rfl,rfl⟩,⟨rfl,rfl⟩,⟨rfl,rfl⟩,⟨rfl,rfl⟩,⟨rfl,rfl⟩,⟨rfl,rfl⟩,⟨rfl,rfl⟩,rfl,rfl,rfl,?_,tR⟩,⟨bO p,⟨ah rfl,ah rfl,rfl,tR⟩,fQ x0,⟨rfl,rfl,rfl,rfl,rfl,rfl,rfl,rfl,rfl,tR⟩,⟨rfl,rfl,rfl,rfl,rfl,ah rfl,ah rfl,rfl,rfl,tR⟩,⟨rfl,tR⟩,⟨rfl,tR⟩,tR⟩,rfl⟩
   show aG (vb (decide (x0.kind=5))) (vb _)
   rw[decide_eq_true h5,decide_eq_true (.inr (.inl h5))];exact rfl
  ·have h5:¬x0.kind=5:=adj h5
   refine x.back rfl tR ⟨(),⟨⟨rfl,rfl⟩,⟨rfl,rfl⟩,⟨rfl,rfl⟩,⟨rfl,rfl⟩,⟨rfl,rfl⟩,⟨rfl,rfl⟩,⟨rfl,rfl⟩,rfl,rfl,rfl,?_,tR⟩,⟨bO p,⟨ah rfl,ah rfl,rfl,tR⟩,fQ x0,⟨rfl,rfl,rfl,rfl,rfl,rfl,rfl,rfl,rfl,tR⟩,⟨rfl,rfl,rfl,rfl,rfl,ah rfl,ah rfl,rfl,rfl,tR⟩,⟨rfl,tR⟩,⟨rfl,tR⟩,tR⟩,rfl⟩
   show aG (vb (decide (x0.kind=6))) (vb _)
   rw[show decide (x0.kind=4∨x0.kind=5∨x0.kind=6)=decide (x0.kind=6) by rw[decide_eq_decide];omega];exact rfl
 change Go C _ ⟨[(5, .ptr 2 0),(6, .ptr 3 0),(8, .ptr 4 0),(9, .ptr 5 0),(10, .ptr 6 0),(3, .ptr 0 0),(4, .ptr 1 0),(15, .fn 123 [.ptr 6 0, .ptr 2 0, .ptr 5 0, .ptr 4 0]),(16, .fn 124 []),(66, .d (.int .u8 x0.kind)),(67,vb (decide (x0.kind=4∨x0.kind=5∨x0.kind=6)))],[(0,jP p),(1, .box [.d (bL c.arrays), .d (bI c.funcs),vi c.main]),(2,opC x0),(3, .box [.dead, .dead, .dead, .dead, .dead, .dead, .dead, .dead, .dead]),(4, .box [.d (.int .u8 x0.kind), .d (.int .u8 x0.op),vs dS,vs .empty,vs .empty, .d (bQ (x0.args.map (nmN 118))), .d (bQ (x0.frm.map (nmN 98))),vi x0.num,vi x0.at_]),(5, .box [vb true]),(6, .box [.fn 122 [.ptr 5 0]])],9⟩ _
 refine x.ite (α:=Unit) (fun _=>⟨[(5, .ptr 2 0),(6, .ptr 3 0),(8, .ptr 4 0),(9, .ptr 5 0)],[(2,opC x0),(3, .box [.dead, .dead, .dead, .dead, .dead, .dead, .dead, .dead, .dead]),(4, .box [.d (.int .u8 x0.kind), .d (.int .u8 x0.op),vs dS,vs (iR p c.main x0).1,vs .empty, .d (bQ (x0.args.map (nmN 118))), .d (bQ (x0.frm.map (nmN 98))),vi x0.num,vi x0.at_]),(5, .box [vb (iR p c.main x0).2])],9⟩) rfl tR (fun h=>?_) (fun h=>?_) (fun _=>?_)
 ·have h:x0.kind=4∨x0.kind=5∨x0.kind=6:=adi h
  rw[if_pos h] at hr
  refine x.pure rfl tR rfl (jW 97 x0.ref hx.ref) ⟨rfl,rfl,tR⟩ ?_
  refine x.back rfl tR ⟨(),⟨⟨rfl,rfl⟩,⟨rfl,rfl⟩,⟨rfl,rfl⟩,⟨rfl,rfl⟩,tR⟩,⟨fQ x0,⟨rfl,rfl,rfl,rfl,rfl,rfl,rfl,rfl,rfl,tR⟩,⟨rfl,rfl,rfl,?_,rfl,ah rfl,ah rfl,rfl,rfl,tR⟩,⟨?_,tR⟩,tR⟩,rfl⟩
  ·show aG (vs _) (vs (iR p c.main x0).1)
   rw[hr];exact rfl
  ·show aG (vb _) (vb (iR p c.main x0).2)
   rw[hr];exact rfl
 ·have h4:¬(x0.kind=4∨x0.kind=5∨x0.kind=6):=adj h
  rw[if_neg h4] at hr
  refine x.cond rfl tR (fun h=>?_) (fun h=>?_)
  ·have h:x0.kind=7:=adi h
   rw[if_pos h] at hr
   refine x.pure rfl tR rfl (jW 102 x0.ref hx.ref) ⟨rfl,rfl,tR⟩ ?_
   refine x.cond rfl tR (fun h7=>?_) (fun h7=>?_)
   ·have h7:x0.ref=c.main:=adi h7
    rw[if_pos h7] at hr
    refine x.back rfl tR ⟨(),⟨⟨rfl,rfl⟩,⟨rfl,rfl⟩,⟨rfl,rfl⟩,⟨rfl,rfl⟩,tR⟩,⟨fQ x0,⟨rfl,rfl,rfl,rfl,rfl,rfl,rfl,rfl,rfl,tR⟩,⟨rfl,rfl,rfl,?_,rfl,ah rfl,ah rfl,rfl,rfl,tR⟩,⟨?_,tR⟩,tR⟩,rfl⟩
    ·show aG (vs _) (vs (iR p c.main x0).1)
     rw[hr];exact rfl
    ·show aG (vb _) (vb (iR p c.main x0).2)
     rw[hr];exact rfl
   ·have h7:¬x0.ref=c.main:=adj h7
    rw[if_neg h7] at hr
    refine x.back rfl tR ⟨(),⟨⟨rfl,rfl⟩,⟨rfl,rfl⟩,⟨rfl,rfl⟩,⟨rfl,rfl⟩,tR⟩,⟨fQ x0,⟨rfl,rfl,rfl,rfl,rfl,rfl,rfl,rfl,rfl,tR⟩,⟨rfl,rfl,rfl,?_,rfl,ah rfl,ah rfl,rfl,rfl,tR⟩,⟨?_,tR⟩,tR⟩,rfl⟩
    ·show aG (vs _) (vs (iR p c.main x0).1)
     rw[hr];exact rfl
    ·show aG (vb _) (vb (iR p c.main x0).2)
     rw[hr];exact rfl
  have h7:¬x0.kind=7:=adj h
  rw[if_neg h7] at hr
  refine x.cond rfl tR (fun h=>?_) (fun h=>?_)
  ·have h:x0.kind=8:=adi h
   rw[if_pos h] at hr
   refine x.pure rfl tR rfl (FE p.ins hp.1) ⟨au rfl,tR⟩ ?_
   refine x.call [6,2,5,4] rfl tR rfl (yG x0 dS .empty .empty _ _ (p.ins.map (·.1)) (by rw[List.length_map];exact i3)) rfl ⟨au rfl,⟨rfl,rfl⟩,⟨rfl,rfl⟩,⟨rfl,rfl⟩,⟨rfl,rfl⟩,tR⟩ ⟨⟨rfl,tR⟩,fQ x0,⟨rfl,tR⟩,⟨rfl,rfl,rfl,rfl,rfl,ah rfl,ah rfl,rfl,rfl,tR⟩,tR⟩ ?_
   have hm:(if lY x0.ref (p.ins.map (·.1)).length=true then (p.ins.map (·.1)).getD x0.ref.toNat .empty else ByteArray.empty)=(if lY x0.ref p.ins.length=true then (p.ins.getD x0.ref.toNat aZ).1 else .empty):=by rw[List.length_map,zP]
   refine x.back rfl tR ⟨(),⟨⟨rfl,rfl⟩,⟨rfl,rfl⟩,⟨rfl,rfl⟩,⟨rfl,rfl⟩,tR⟩,⟨fQ x0,⟨rfl,rfl,rfl,rfl,rfl,rfl,rfl,rfl,rfl,tR⟩,⟨rfl,rfl,rfl,?_,rfl,ah rfl,ah rfl,rfl,rfl,tR⟩,⟨?_,tR⟩,tR⟩,rfl⟩
   ·show aG (vs (if lY x0.ref (p.ins.map (·.1)).length=true then (p.ins.map (·.1)).getD x0.ref.toNat .empty else ByteArray.empty)) (vs (iR p c.main x0).1)
    rw[hr,hm];exact rfl
   ·show aG (vb (lY x0.ref (p.ins.map (·.1)).length)) (vb (iR p c.main x0).2)
    rw[hr,List.length_map];exact rfl
  have h8:¬x0.kind=8:=adj h
  rw[if_neg h8] at hr
  refine x.cond rfl tR (fun h=>?_) (fun h=>?_)
  ·have h:x0.kind=9:=adi h
   rw[if_pos h] at hr
   refine x.pure rfl tR rfl (FE p.outs hp.2) ⟨au rfl,tR⟩ ?_
   refine x.call [6,2,5,4] rfl tR rfl (yG x0 dS .empty .empty _ _ (p.outs.map (·.1)) (by rw[List.length_map];exact i4)) rfl ⟨au rfl,⟨rfl,rfl⟩,⟨rfl,rfl⟩,⟨rfl,rfl⟩,⟨rfl,rfl⟩,tR⟩ ⟨⟨rfl,tR⟩,fQ x0,⟨rfl,tR⟩,⟨rfl,rfl,rfl,rfl,rfl,ah rfl,ah rfl,rfl,rfl,tR⟩,tR⟩ ?_
   have hm:(if lY x0.ref (p.outs.map (·.1)).length=true then (p.outs.map (·.1)).getD x0.ref.toNat .empty else ByteArray.empty)=(if lY x0.ref p.outs.length=true then (p.outs.getD x0.ref.toNat aZ).1 else .empty):=by rw[List.length_map,zP]
   refine x.back rfl tR ⟨(),⟨⟨rfl,rfl⟩,⟨rfl,rfl⟩,⟨rfl,rfl⟩,⟨rfl,rfl⟩,tR⟩,⟨fQ x0,⟨rfl,rfl,rfl,rfl,rfl,rfl,rfl,rfl,rfl,tR⟩,⟨rfl,rfl,rfl,?_,rfl,ah rfl,ah rfl,rfl,rfl,tR⟩,⟨?_,tR⟩,tR⟩,rfl⟩
   ·show aG (vs (if lY x0.ref (p.outs.map (·.1)).length=true then (p.outs.map (·.1)).getD x0.ref.toNat .empty else ByteArray.empty)) (vs (iR p c.main x0).1)
    rw[hr,hm];exact rfl
   ·show aG (vb (lY x0.ref (p.outs.map (·.1)).length)) (vb (iR p c.main x0).2)
    rw[hr,List.length_map];exact rfl
  have h9:¬x0.kind=9:=adj h
  rw[if_neg h9] at hr
  refine x.cond rfl tR (fun h=>?_) (fun h=>?_)
  ·have h:x0.kind=10:=adi h
   rw[if_pos h] at hr
   refine x.call [6,2,5,4] rfl tR rfl (yG x0 dS .empty .empty _ _ p.lev i1) rfl ⟨au rfl,⟨rfl,rfl⟩,⟨rfl,rfl⟩,⟨rfl,rfl⟩,⟨rfl,rfl⟩,tR⟩ ⟨⟨rfl,tR⟩,fQ x0,⟨rfl,tR⟩,⟨rfl,rfl,rfl,rfl,rfl,ah rfl,ah rfl,rfl,rfl,tR⟩,tR⟩ ?_
   refine x.back rfl tR ⟨(),⟨⟨rfl,rfl⟩,⟨rfl,rfl⟩,⟨rfl,rfl⟩,⟨rfl,rfl⟩,tR⟩,⟨fQ x0,⟨rfl,rfl,rfl,rfl,rfl,rfl,rfl,rfl,rfl,tR⟩,⟨rfl,rfl,rfl,?_,rfl,ah rfl,ah rfl,rfl,rfl,tR⟩,⟨?_,tR⟩,tR⟩,rfl⟩
   ·show aG (vs _) (vs (iR p c.main x0).1)
    rw[hr];exact rfl
   ·show aG (vb _) (vb (iR p c.main x0).2)
    rw[hr];exact rfl
  have h10:¬x0.kind=10:=adj h
  rw[if_neg h10] at hr
  refine x.cond rfl tR (fun h=>?_) (fun h=>?_)
  ·have h:x0.kind=11:=adi h
   rw[if_pos (.inl h)] at hr
   refine x.cond rfl tR (fun h2=>?_) (fun h2=>?_)
   ·refine x.pure rfl tR rfl (jW 98 x0.ref hx.ref) ⟨rfl,rfl,tR⟩ ?_
    refine x.back rfl tR ⟨(),⟨⟨rfl,rfl⟩,⟨rfl,rfl⟩,⟨rfl,rfl⟩,⟨rfl,rfl⟩,tR⟩,⟨fQ x0,⟨rfl,rfl,rfl,rfl,rfl,rfl,rfl,rfl,rfl,tR⟩,⟨rfl,rfl,rfl,?_,rfl,ah rfl,ah rfl,rfl,rfl,tR⟩,⟨?_,tR⟩,tR⟩,rfl⟩
    ·show aG (vs _) (vs (iR p c.main x0).1)
     rw[hr];exact rfl
    ·show aG (vb _) (vb (iR p c.main x0).2)
     rw[hr];exact rfl
   ·exact absurd h (adj h2)
  have h11:¬x0.kind=11:=adj h
  refine x.cond rfl tR (fun h=>?_) (fun h=>?_)
  ·have h:x0.kind=12:=adi h
   rw[if_pos (.inr h)] at hr
   refine x.pure rfl tR rfl (jW 98 x0.ref hx.ref) ⟨rfl,rfl,tR⟩ ?_
   refine x.back rfl tR ⟨(),⟨⟨rfl,rfl⟩,⟨rfl,rfl⟩,⟨rfl,rfl⟩,⟨rfl,rfl⟩,tR⟩,⟨fQ x0,⟨rfl,rfl,rfl,rfl,rfl,rfl,rfl,rfl,rfl,tR⟩,⟨rfl,rfl,rfl,?_,rfl,ah rfl,ah rfl,rfl,rfl,tR⟩,⟨?_,tR⟩,tR⟩,rfl⟩
   ·show aG (vs _) (vs (iR p c.main x0).1)
    rw[hr];exact rfl
   ·show aG (vb _) (vb (iR p c.main x0).2)
    rw[hr];exact rfl
  ·have h12:¬x0.kind=12:=adj h
   rw[if_neg (by omega)] at hr
   refine x.back rfl tR ⟨(),⟨⟨rfl,rfl⟩,⟨rfl,rfl⟩,⟨rfl,rfl⟩,⟨rfl,rfl⟩,tR⟩,⟨fQ x0,⟨rfl,rfl,rfl,rfl,rfl,rfl,rfl,rfl,rfl,tR⟩,⟨rfl,rfl,rfl,?_,rfl,ah rfl,ah rfl,rfl,rfl,tR⟩,⟨?_,tR⟩,tR⟩,rfl⟩
   ·show aG (vs _) (vs (iR p c.main x0).1)
    rw[hr];exact rfl
   ·show aG (vb _) (vb (iR p c.main x0).2)
    rw[hr];exact rfl
 clear hr
 change Go C _ ⟨[(5, .ptr 2 0),(6, .ptr 3 0),(8, .ptr 4 0),(9, .ptr 5 0)],[(2,opC x0),(3, .box [.dead, .dead, .dead, .dead, .dead, .dead, .dead, .dead, .dead]),(4, .box [.d (.int .u8 x0.kind), .d (.int .u8 x0.op),vs dS,vs (iR p c.main x0).1,vs .empty, .d (bQ (x0.args.map (nmN 118))), .d (bQ (x0.frm.map (nmN 98))),vi x0.num,vi x0.at_]),(5, .box [vb (iR p c.main x0).2])],9⟩ _
 refine x.cond rfl tR (fun h=>?_) (fun h=>?_)
 ·have h:x0.kind=12:=adi h
  rw[if_pos h]
  refine x.pure rfl tR rfl (jW 98 x0.alt hx.alt) ⟨rfl,rfl,tR⟩ ?_
  refine x.qm [3] [0,1] (.fork 2 (.fork 3 .leaf .no) .no)
   ⟨[(6, .ptr 3 0),(7,vb (iR p c.main x0).2)],[(3, .box [.d (.int .u8 x0.kind), .d (.int .u8 x0.op),vs dS,vs (iR p c.main x0).1,vs (nmN 98 x0.alt), .d (bQ (x0.args.map (nmN 118))), .d (bQ (x0.frm.map (nmN 98))),vi x0.num,vi x0.at_])],9⟩ rfl tR ay (by kernel_rfl) Ret.bT rfl tR (fun C2 x2=>?_) ?_
  ·exact⟨x2.back rfl tR ⟨x2.back rfl tR (Or.inl ⟨⟨⟨rfl,rfl⟩,rfl,tR⟩,⟨⟨rfl,rfl,rfl,rfl,rfl,ah rfl,ah rfl,rfl,rfl,tR⟩,tR⟩,rfl⟩),tR⟩,tR⟩
  exact x.exit rfl tR ⟨.inr rfl,⟨rfl,rfl,tR⟩,tR,rfl⟩
 ·have h:¬x0.kind=12:=adj h
  rw[if_neg h]
  refine x.qm [3] [0,1] (.fork 2 (.fork 3 .leaf .no) .no)
   ⟨[(6, .ptr 3 0),(7,vb (iR p c.main x0).2)],[(3, .box [.d (.int .u8 x0.kind), .d (.int .u8 x0.op),vs dS,vs (iR p c.main x0).1,vs .empty, .d (bQ (x0.args.map (nmN 118))), .d (bQ (x0.frm.map (nmN 98))),vi x0.num,vi x0.at_])],9⟩ rfl tR ay (by kernel_rfl) Ret.bT rfl tR (fun C2 x2=>?_) ?_
  ·exact⟨x2.back rfl tR ⟨x2.back rfl tR (Or.inl ⟨⟨⟨rfl,rfl⟩,rfl,tR⟩,⟨⟨rfl,rfl,rfl,rfl,rfl,ah rfl,ah rfl,rfl,rfl,tR⟩,tR⟩,rfl⟩),tR⟩,tR⟩
  exact x.exit rfl tR ⟨.inr rfl,⟨rfl,rfl,tR⟩,tR,rfl⟩
def rng {α:Type} (n:Nat) (f:Nat->α):List α:=(List.range n).map f
theorem bV {α:Type} (n:Nat) (f:Nat->α):(rng n f).length=n:=by simp [rng]
theorem Ye {α:Type} {n:Nat} {f:Nat->α} {i:Nat} (h:i<n):(rng n f)[i]?=some (f i):=by unfold rng;rw[List.getElem?_map,List.getElem?_range h];rfl
theorem jQ {α:Type} (n:Nat) (f:Nat->α):rng (n+1) f=rng n f++[f n]:=by unfold rng;rw[List.range_succ,List.map_append];rfl
def wX (p:Pol) (i:Nat) (a:Cel):Arr:=⟨nmN 97 (i:Int),a.1,p.lev.getD a.2.toNat .empty,0⟩
def GH (p:Pol) (main:Int) (k:Nat) (l:List Op9):Blk:=⟨nmN 98 (k:Int),l.map (aY p main),0⟩
def fnN (main:Int) (i:Nat):ByteArray:=if (i:Int)=main then dK else nmN 102 (i:Int)
def Br (n:Int):List ByteArray:=rng n.toNat fun k=>nmN 118 (k:Int)
def o9 (p:Pol) (main:Int) (i:Nat) (b:Bod):Fun:=⟨fnN main i,Br b.params,rng b.blocks.length fun k=>GH p main k (b.blocks.getD k []),0⟩
def vJ (p:Pol) (a:Cel):Bool:=decide (0≤a.2)&&decide (a.2<(p.lev.length:Int))
def MF (p:Pol) (main:Int) (l:List Op9):Bool:=l.all fun x=>(iR p main x).2
def rC (p:Pol) (main:Int) (b:Bod):Bool:=(decide (0≤b.params)&&decide (b.params≤6))&&b.blocks.all (MF p main)
def jG (p:Pol) (c:Cod):Prg:=⟨rng c.arrays.length fun i=>wX p i (c.arrays.getD i bK),rng c.funcs.length fun i=>o9 p c.main i (c.funcs.getD i aC)⟩
def kZ (p:Pol) (c:Cod):Option Prg:=if (c.arrays.all (vJ p)&&c.funcs.all (rC p c.main))=true then some (jG p c) else none
abbrev aaD:Option Prg->V
 | some q=>.tup [LB q,vb true]
 | none=>.tup [.agg [.dead, .dead],vb false]
structure Qs (c:Cod):Prop where
 al:c.arrays.length≤1000000
 fl:c.funcs.length≤1000000
 bl:∀b∈c.funcs,b.blocks.length*48≤140737488355328
 ll:∀b∈c.funcs,∀l∈b.blocks,l.length*120≤140737488355328∧∀x∈l,aaC x
theorem zQ {α:Type} {P:α->Bool} {l:List α} {i:Nat} {d:α} (h:i<l.length) (hp:P (l.getD i d)=false):l.all P=false:=by
 rw[List.all_eq_false]
 exact⟨l.getD i d,by rw[adf,adh h];exact List.getElem_mem h,by rw[hp];simp⟩
theorem JO {α:Type} {P:α->Bool} {l:List α} (d:α) (h:∀i,i<l.length->P (l.getD i d)=true):l.all P=true:=by
 rw[List.all_eq_true]
 intro a ha
 obtain⟨i,hi,rfl⟩:=List.getElem_of_mem ha
 have:=h i hi
 rwa [adf,adh hi] at this
theorem getD_in {α:Type} {l:List α} {i:Nat} (d:α) (h:i<l.length):l.getD i d∈l:=by rw[adf,adh h];exact List.getElem_mem h
set_option maxHeartbeats 16000000 in
theorem OX (p:Pol) (c:Cod) (hz:PolSz p) (hp:p.ins.length≤1000000∧p.outs.length≤1000000) (hc:Qs c):Pure PG 22 [Jz p,Bn c] (aaD (kZ p c)) []:=by
 obtain⟨i1,i2,i3,i4⟩:=qZ hz
 have hal:=hc.al
 have hfl:=hc.fl
 refine aI.mk (cfg 144) av [] Tryz.func22 rfl (by kernel_rfl) rfl rfl (by unfold kZ;split<;>rfl) ?_
 intro C x
 refine x.toLoop rfl tR ?_
 refine Go.ownB 3 0 78 4 (fun i=>AY (([]:List Arr).getD i dY)) rfl rfl ?_
 refine x.loop (α:={i:Nat // i≤c.arrays.length∧∀j,j<i->vJ p (c.arrays.getD j bK)=true}) (fun y=>⟨[(2, .ptr 0 0),(3, .ptr 1 0),(4, .ptr 2 0),(6, .ptr 3 0),(21, .d (bL c.arrays)),(22,vi (c.arrays.length:Int)),(23,vi (y.1:Int))],[(0,jP p),(1, .box [.d (bL c.arrays), .d (bI c.funcs),vi c.main]),(2, .box [.dead, .dead]),(3, .box [.own 4, .aB]),(4,LA (rng y.1 fun i=>wX p i (c.arrays.getD i bK)))],5⟩) (fun y=>c.arrays.length-y.1) ⟨0,Nat.zero_le _,fun j hj=>absurd hj (adp _)⟩ rfl tR ⟨⟨⟨rfl,rfl⟩,⟨rfl,rfl⟩,⟨rfl,rfl⟩,⟨rfl,rfl⟩,au rfl,rfl,rfl,tR⟩,⟨bO p,⟨ah rfl,ah rfl,rfl,tR⟩,⟨rfl,rfl,tR⟩,⟨rfl,tR,tR⟩,⟨rfl,rfl,rfl,fun _ h=>absurd h (adp _)⟩,tR⟩,rfl⟩ (fun y=>?_)
 obtain⟨i,hi,hlo⟩:=y
 change Go C _ ⟨[(2, .ptr 0 0),(3, .ptr 1 0),(4, .ptr 2 0),(6, .ptr 3 0),(21, .d (bL c.arrays)),(22,vi (c.arrays.length:Int)),(23,vi (i:Int))],[(0,jP p),(1, .box [.d (bL c.arrays), .d (bI c.funcs),vi c.main]),(2, .box [.dead, .dead]),(3, .box [.own 4, .aB]),(4,LA (rng i fun i=>wX p i (c.arrays.getD i bK)))],5⟩ _
 refine x.cond rfl tR (fun h1=>?_) (fun h1=>?_)
 ·have h1:i<c.arrays.length:=by have:=adi h1;omega
  have hva:(decide ((c.arrays.getD i bK).2<0)||decide ((p.lev.length:Int)≤(c.arrays.getD i bK).2))=!vJ p (c.arrays.getD i bK):=by
   unfold vJ
   rw[Bool.not_and,←decide_not,←decide_not]
   congr 1<;>rw[decide_eq_decide]<;>omega
  cases hl:vJ p (c.arrays.getD i bK) with
  | false=>
   have hno:(c.arrays.all (vJ p)&&c.funcs.all (rC p c.main))=false:=by rw[zQ h1 hl,Bool.false_and]
   refine x.cond rfl (by simp only[aj];omega) (fun h2=>?_) (fun h2=>?_)
   ·rw[kZ,if_neg (by rw[hno];simp)]
    refine x.lV ?_
    exact x.exit rfl tR ⟨⟨[(4, .ptr 2 0),(5,vb false)],[(2, .box [.dead, .dead])],6⟩,⟨⟨⟨rfl,rfl⟩,rfl,tR⟩,⟨⟨rfl,rfl,tR⟩,tR⟩,rfl⟩, .inr rfl,⟨rfl,rfl,tR⟩,tR,rfl⟩
   ·have h2:(decide ((c.arrays.getD i bK).2<0)||decide ((p.lev.length:Int)≤(c.arrays.getD i bK).2))=false:=h2
    rw[hva,hl] at h2;cases h2
  | true=>
   have hlb:0≤(c.arrays.getD i bK).2∧(c.arrays.getD i bK).2<(p.lev.length:Int):=by
    unfold vJ at hl
    rw[adg,adn,adn] at hl;exact hl
   refine x.cond rfl (by simp only[aj];omega) (fun h2=>?_) (fun h2=>?_)
   ·have h2:(decide ((c.arrays.getD i bK).2<0)||decide ((p.lev.length:Int)≤(c.arrays.getD i bK).2))=true:=h2
    rw[hva,hl] at h2;cases h2
   have hrl:=bV i fun i=>wX p i (c.arrays.getD i bK)
   refine x.code rfl tR ?_
   refine x.perm [0,1,2,3,5,4] rfl ?_
   refine x.EK 5 [3,5] [0,2,4,5,6,7,8,9,10,11] (.fork 1 (.fork 3 (.fork 12 (.fork 13 (.fork 14 (.fork 15 (.fork 16 .leaf .no) .no) .no) .no) .no) .no) (.fork 3 (.fork 1 (.fork 12 (.fork 13 (.fork 14 (.fork 15 (.fork 16 .leaf .no) .no) .no) .no) .no) (.fork 12 (.fork 1 (.fork 13 (.fork 14 (.fork 15 (.fork 16 .leaf .no) .no) .no) .no) (.fork 13 (.fork 1 (.fork 14 (.fork 15 (.fork 16 .leaf .no) .no) .no) .no) .no)) .no)) .no))
    ⟨[(2, .ptr 0 0),(3, .ptr 1 0),(4, .ptr 2 0),(6, .ptr 3 0),(21, .d (bL c.arrays)),(22,vi (c.arrays.length:Int)),(23,vi (i:Int))],[(3, .box [.own 5, .aB]),(5,LA (rng (i+1) fun i=>wX p i (c.arrays.getD i bK)))],6⟩ rfl tR ay rfl (by kernel_rfl) Ret.bT rfl (by simp only[aj,adv];omega) (fun C2 x2=>?_) ?_
   ·repeat' first
     | exact True.intro
     | refine And.intro ?_ ?_
     | refine x2.pure rfl tR rfl (jW 97 (i:Int) (by unfold ak;omega)) ⟨rfl,rfl,tR⟩ (x2.back rfl tR ?_)
     | refine x2.back rfl tR ?_
     | refine x2.back rfl (by simp only[aj,big,hrl];omega) ?_
     | exact Or.inl ⟨⟨⟨rfl,rfl⟩,⟨rfl,rfl⟩,⟨rfl,rfl⟩,⟨rfl,rfl⟩,au rfl,rfl,rfl,tR⟩,⟨⟨rfl,tR,tR⟩,⟨rfl,rfl,by rw[jQ];simp,fun j hj=>by rw[jQ];exact gL AY 4 (fun _=>rfl) dY _ (wX p i (c.arrays.getD i bK)) j hj⟩,tR⟩,rfl⟩
   refine x.perm [0,1,2,3,5,4] rfl ?_
   refine x.back rfl (by simp only[aj,ak];omega) ⟨⟨i+1,by omega,fun j hj=>?_⟩,by show c.arrays.length-(i+1)<c.arrays.length-i;omega,⟨⟨rfl,rfl⟩,⟨rfl,rfl⟩,⟨rfl,rfl⟩,⟨rfl,rfl⟩,au rfl,rfl,(show aG (vi ((i:Int)+1)) (vi ((i+1:Nat):Int)) by rw[ads];rfl),tR⟩,⟨bO p,⟨ah rfl,ah rfl,rfl,tR⟩,⟨rfl,rfl,tR⟩,⟨rfl,tR,tR⟩,⟨rfl,rfl,rfl,fun _ _=>rfl⟩,tR⟩,rfl⟩
   by_cases e:j=i
   ·rw[e];exact hl
   ·exact hlo j (by omega)
 have h1:i=c.arrays.length:=by have:=adj h1;omega
 subst h1
 have hla:c.arrays.all (vJ p)=true:=JO bK hlo
 refine Sx.Go.freeze 4 ?_
 refine x.toLoop rfl tR ?_
 refine Go.ownB 3 1 82 4 (fun i=>yt (([]:List Fun).getD i bD)) rfl rfl ?_
 refine x.loop (α:={i:Nat // i≤c.funcs.length∧∀j,j<i->rC p c.main (c.funcs.getD j aC)=true}) (fun y=>⟨[(2, .ptr 0 0),(3, .ptr 1 0),(4, .ptr 2 0),(6, .ptr 3 0),(58, .d (bI c.funcs)),(59,vi (c.funcs.length:Int)),(60,vi (y.1:Int))],[(0,jP p),(1, .box [.d (bL c.arrays), .d (bI c.funcs),vi c.main]),(2, .box [.dead, .dead]),(3, .box [.d (dH (rng c.arrays.length fun i=>wX p i (c.arrays.getD i bK))), .own 5]),(5,qU (rng y.1 fun i=>o9 p c.main i (c.funcs.getD i aC)))],6⟩) (fun y=>c.funcs.length-y.1) ⟨0,Nat.zero_le _,fun j hj=>absurd hj (adp _)⟩ rfl tR ⟨⟨⟨rfl,rfl⟩,⟨rfl,rfl⟩,⟨rfl,rfl⟩,⟨rfl,rfl⟩,au rfl,rfl,rfl,tR⟩,⟨bO p,⟨ah rfl,ah rfl,rfl,tR⟩,⟨rfl,rfl,tR⟩,⟨ah rfl,rfl,tR⟩,⟨rfl,rfl,rfl,fun _ h=>absurd h (adp _)⟩,tR⟩,rfl⟩ (fun y=>?_)
 clear hlo
 obtain⟨i,hi,hlo⟩:=y
 change Go C _ ⟨[(2, .ptr 0 0),(3, .ptr 1 0),(4, .ptr 2 0),(6, .ptr 3 0),(58, .d (bI c.funcs)),(59,vi (c.funcs.length:Int)),(60,vi (i:Int))],[(0,jP p),(1, .box [.d (bL c.arrays), .d (bI c.funcs),vi c.main]),(2, .box [.dead, .dead]),(3, .box [.d (dH (rng c.arrays.length fun i=>wX p i (c.arrays.getD i bK))), .own 5]),(5,qU (rng i fun i=>o9 p c.main i (c.funcs.getD i aC)))],6⟩ _
 refine x.cond rfl tR (fun h1=>?_) (fun h1=>?_)
 rotate_left
 ·have h1:i=c.funcs.length:=by have:=adj h1;omega
  subst h1
  have hlb:c.funcs.all (rC p c.main)=true:=JO aC hlo
  rw[kZ,if_pos (by rw[hla,hlb];rfl)]
  refine Sx.Go.freeze 5 ?_
  exact x.exit rfl tR ⟨.inr rfl,⟨rfl,rfl,tR⟩,tR,rfl⟩
 have h1:i<c.funcs.length:=by have:=adi h1;omega
 have hin:=getD_in aC h1
 have hbl:=hc.bl _ hin
 have hll:=hc.ll _ hin
 have hfr:=bV i fun i=>o9 p c.main i (c.funcs.getD i aC)
 refine x.pure rfl (by simp only[aj];omega) rfl (jW 102 (i:Int) (by unfold ak;omega)) ⟨rfl,rfl,tR⟩ ?_
 refine x.ite (α:=Unit) (fun _=>⟨[(2, .ptr 0 0),(3, .ptr 1 0),(4, .ptr 2 0),(6, .ptr 3 0),(58, .d (bI c.funcs)),(59,vi (c.funcs.length:Int)),(60,vi (i:Int)),(10, .ptr 6 0),(11, .ptr 7 0)],[(0,jP p),(1, .box [.d (bL c.arrays), .d (bI c.funcs),vi c.main]),(2, .box [.dead, .dead]),(3, .box [.d (dH (rng c.arrays.length fun i=>wX p i (c.arrays.getD i bK))), .own 5]),(5,qU (rng i fun i=>o9 p c.main i (c.funcs.getD i aC))),(6, .box [vi (c.funcs.getD i aC).params,vi (c.funcs.getD i aC).vars, .d (ko (c.funcs.getD i aC).blocks)]),(7, .box [vs (fnN c.main i), .aB, .aB,vi 0])],8⟩) rfl tR (fun h2=>?_) (fun h2=>?_) (fun _=>?_)
 ·have h2:(i:Int)=c.main:=adi h2
  have e:fnN c.main i=dK:=by unfold fnN;rw[if_pos h2]
  rw[e]
  exact x.back rfl tR ⟨(),⟨⟨rfl,rfl⟩,⟨rfl,rfl⟩,⟨rfl,rfl⟩,⟨rfl,rfl⟩,au rfl,rfl,rfl,⟨rfl,rfl⟩,⟨rfl,rfl⟩,tR⟩,⟨bO p,⟨ah rfl,ah rfl,rfl,tR⟩,⟨rfl,rfl,tR⟩,⟨ah rfl,rfl,tR⟩,⟨rfl,rfl,rfl,fun _ _=>rfl⟩,⟨rfl,rfl,ah rfl,tR⟩,⟨rfl,tR,tR,rfl,tR⟩,tR⟩,rfl⟩
 ·have h2:¬(i:Int)=c.main:=adj h2
  have e:fnN c.main i=nmN 102 (i:Int):=by unfold fnN;rw[if_neg h2]
  rw[e]
  exact x.back rfl tR ⟨(),⟨⟨rfl,rfl⟩,⟨rfl,rfl⟩,⟨rfl,rfl⟩,⟨rfl,rfl⟩,au rfl,rfl,rfl,⟨rfl,rfl⟩,⟨rfl,rfl⟩,tR⟩,⟨bO p,⟨ah rfl,ah rfl,rfl,tR⟩,⟨rfl,rfl,tR⟩,⟨ah rfl,rfl,tR⟩,⟨rfl,rfl,rfl,fun _ _=>rfl⟩,⟨rfl,rfl,ah rfl,tR⟩,⟨rfl,tR,tR,rfl,tR⟩,tR⟩,rfl⟩
 change Go C _ ⟨[(2, .ptr 0 0),(3, .ptr 1 0),(4, .ptr 2 0),(6, .ptr 3 0),(58, .d (bI c.funcs)),(59,vi (c.funcs.length:Int)),(60,vi (i:Int)),(10, .ptr 6 0),(11, .ptr 7 0)],[(0,jP p),(1, .box [.d (bL c.arrays), .d (bI c.funcs),vi c.main]),(2, .box [.dead, .dead]),(3, .box [.d (dH (rng c.arrays.length fun i=>wX p i (c.arrays.getD i bK))), .own 5]),(5,qU (rng i fun i=>o9 p c.main i (c.funcs.getD i aC))),(6, .box [vi (c.funcs.getD i aC).params,vi (c.funcs.getD i aC).vars, .d (ko (c.funcs.getD i aC).blocks)]),(7, .box [vs (fnN c.main i), .aB, .aB,vi 0])],8⟩ _
 refine x.cond rfl tR (fun h2=>?_) (fun h2=>?_)
 ·have h2:(decide ((c.funcs.getD i aC).params<0)||decide (6<(c.funcs.getD i aC).params))=true:=h2
  have hb:rC p c.main (c.funcs.getD i aC)=false:=by
   unfold rC
   rw[Bool.or_eq_true,adn,adn] at h2
   rcases h2 with h2 | h2
   ·rw[decide_eq_false (show ¬0≤(c.funcs.getD i aC).params by omega)];rfl
   ·rw[decide_eq_false (show ¬(c.funcs.getD i aC).params≤6 by omega),Bool.and_false];rfl
  have hno:(c.arrays.all (vJ p)&&c.funcs.all (rC p c.main))=false:=by rw[zQ h1 hb,Bool.and_false]
  rw[kZ,if_neg (by rw[hno];simp)]
  refine x.lV ?_
  exact x.exit rfl tR ⟨⟨[(4, .ptr 2 0),(5,vb false)],[(2, .box [.dead, .dead])],8⟩,⟨⟨⟨rfl,rfl⟩,rfl,tR⟩,⟨⟨rfl,rfl,tR⟩,tR⟩,rfl⟩, .inr rfl,⟨rfl,rfl,tR⟩,tR,rfl⟩
 have h2:(decide ((c.funcs.getD i aC).params<0)||decide (6<(c.funcs.getD i aC).params))=false:=h2
 rw[adw,adr,adr] at h2
 obtain⟨P,hP⟩:∃P:Nat,(c.funcs.getD i aC).params=(P:Int):=⟨(c.funcs.getD i aC).params.toNat,by omega⟩
 refine x.toLoop rfl tR ?_
 refine Go.ownB 7 1 9 1 (fun i=>[.str (([]:List ByteArray).getD i .empty)]) rfl rfl ?_
 refine x.loop (α:={k:Nat // k≤P}) (fun y=>⟨[(2, .ptr 0 0),(3, .ptr 1 0),(4, .ptr 2 0),(6, .ptr 3 0),(58, .d (bI c.funcs)),(59,vi (c.funcs.length:Int)),(60,vi (i:Int)),(10, .ptr 6 0),(11, .ptr 7 0),(83,vi (c.funcs.getD i aC).params),(84,vi (y.1:Int))],[(0,jP p),(1, .box [.d (bL c.arrays), .d (bI c.funcs),vi c.main]),(2, .box [.dead, .dead]),(3, .box [.d (dH (rng c.arrays.length fun i=>wX p i (c.arrays.getD i bK))), .own 5]),(5,qU (rng i fun i=>o9 p c.main i (c.funcs.getD i aC))),(6, .box [vi (c.funcs.getD i aC).params,vi (c.funcs.getD i aC).vars, .d (ko (c.funcs.getD i aC).blocks)]),(7, .box [vs (fnN c.main i), .own 8, .aB,vi 0]),(8,gQ (rng y.1 fun k=>nmN 118 (k:Int)))],9⟩) (fun y=>P-y.1) ⟨0,Nat.zero_le _⟩ rfl tR ⟨⟨⟨rfl,rfl⟩,⟨rfl,rfl⟩,⟨rfl,rfl⟩,⟨rfl,rfl⟩,au rfl,rfl,rfl,⟨rfl,rfl⟩,⟨rfl,rfl⟩,rfl,rfl,tR⟩,⟨bO p,⟨ah rfl,ah rfl,rfl,tR⟩,⟨rfl,rfl,tR⟩,⟨ah rfl,rfl,tR⟩,⟨rfl,rfl,rfl,fun _ _=>rfl⟩,⟨rfl,rfl,ah rfl,tR⟩,⟨rfl,rfl,tR,rfl,tR⟩,⟨rfl,rfl,rfl,fun _ h=>absurd h (adp _)⟩,tR⟩,rfl⟩ (fun y=>?_)
 obtain⟨k,hk⟩:=y
 change Go C _ ⟨[(2, .ptr 0 0),(3, .ptr 1 0),(4, .ptr 2 0),(6, .ptr 3 0),(58, .d (bI c.funcs)),(59,vi (c.funcs.length:Int)),(60,vi (i:Int)),(10, .ptr 6 0),(11, .ptr 7 0),(83,vi (c.funcs.getD i aC).params),(84,vi (k:Int))],[(0,jP p),(1, .box [.d (bL c.arrays), .d (bI c.funcs),vi c.main]),(2, .box [.dead, .dead]),(3, .box [.d (dH (rng c.arrays.length fun i=>wX p i (c.arrays.getD i bK))), .own 5]),(5,qU (rng i fun i=>o9 p c.main i (c.funcs.getD i aC))),(6, .box [vi (c.funcs.getD i aC).params,vi (c.funcs.getD i aC).vars, .d (ko (c.funcs.getD i aC).blocks)]),(7, .box [vs (fnN c.main i), .own 8, .aB,vi 0]),(8,gQ (rng k fun k=>nmN 118 (k:Int)))],9⟩ _
 refine x.cond rfl tR (fun h3=>?_) (fun h3=>?_)
 ·have h3:(k:Int)<(c.funcs.getD i aC).params:=adi h3
  have hpl:=bV k fun k=>nmN 118 (k:Int)
  refine x.EK 7 [7,8] [0,2] (.fork 1 (.fork 3 (.fork 4 (.fork 5 (.fork 6 (.fork 7 .leaf .no) .no) .no) .no) .no) (.fork 3 (.fork 1 (.fork 4 (.fork 5 (.fork 6 (.fork 7 .leaf .no) .no) .no) .no) (.fork 4 (.fork 1 (.fork 5 (.fork 6 (.fork 7 .leaf .no) .no) .no) .no) .no)) .no))
   ⟨[(2, .ptr 0 0),(3, .ptr 1 0),(4, .ptr 2 0),(6, .ptr 3 0),(58, .d (bI c.funcs)),(59,vi (c.funcs.length:Int)),(60,vi (i:Int)),(10, .ptr 6 0),(11, .ptr 7 0),(83,vi (c.funcs.getD i aC).params),(84,vi (k:Int))],[(7, .box [vs (fnN c.main i), .own 8, .aB,vi 0]),(8,gQ (rng (k+1) fun k=>nmN 118 (k:Int)))],9⟩ rfl tR ay rfl (by kernel_rfl) Ret.bT rfl tR (fun C2 x2=>?_) ?_
  ·repeat' first
    | exact True.intro
    | refine And.intro ?_ ?_
    | refine x2.pure rfl tR rfl (jW 118 (k:Int) (by unfold ak;omega)) ⟨rfl,rfl,tR⟩ (x2.back rfl tR ?_)
    | refine x2.back rfl tR ?_
    | refine x2.back rfl (by simp only[aj,big,hpl];omega) ?_
    | exact Or.inl ⟨⟨⟨rfl,rfl⟩,⟨rfl,rfl⟩,⟨rfl,rfl⟩,⟨rfl,rfl⟩,au rfl,rfl,rfl,⟨rfl,rfl⟩,⟨rfl,rfl⟩,rfl,rfl,tR⟩,⟨⟨rfl,rfl,tR,rfl,tR⟩,⟨rfl,rfl,by rw[jQ];simp,fun j hj=>by rw[jQ];exact jd _ _ j hj⟩,tR⟩,rfl⟩
  exact x.back rfl (by simp only[aj,ak];omega) ⟨⟨k+1,by omega⟩,by show P-(k+1)<P-k;omega,⟨⟨rfl,rfl⟩,⟨rfl,rfl⟩,⟨rfl,rfl⟩,⟨rfl,rfl⟩,au rfl,rfl,rfl,⟨rfl,rfl⟩,⟨rfl,rfl⟩,rfl,(show aG (vi ((k:Int)+1)) (vi ((k+1:Nat):Int)) by rw[ads];rfl),tR⟩,⟨bO p,⟨ah rfl,ah rfl,rfl,tR⟩,⟨rfl,rfl,tR⟩,⟨ah rfl,rfl,tR⟩,⟨rfl,rfl,rfl,fun _ _=>rfl⟩,⟨rfl,rfl,ah rfl,tR⟩,⟨rfl,rfl,tR,rfl,tR⟩,⟨rfl,rfl,rfl,fun _ _=>rfl⟩,tR⟩,rfl⟩
 have h3:¬(k:Int)<(c.funcs.getD i aC).params:=adj h3
 obtain rfl:k=P:=by omega
 have hpar:(rng k fun k=>nmN 118 (k:Int))=Br (c.funcs.getD i aC).params:=by unfold Br;rw[hP];rfl
 rw[hpar]
 refine Sx.Go.freeze 8 ?_
 refine x.toLoop rfl tR ?_
 refine Go.ownB 7 2 85 3 (fun i=>Jp (([]:List Blk).getD i bH)) rfl rfl ?_
 refine x.loop (α:={k:Nat // k≤(c.funcs.getD i aC).blocks.length∧∀j,j<k->MF p c.main ((c.funcs.getD i aC).blocks.getD j [])=true}) (fun y=>⟨[(2, .ptr 0 0),(3, .ptr 1 0),(4, .ptr 2 0),(6, .ptr 3 0),(58, .d (bI c.funcs)),(59,vi (c.funcs.length:Int)),(60,vi (i:Int)),(10, .ptr 6 0),(11, .ptr 7 0),(96, .d (ko (c.funcs.getD i aC).blocks)),(97,vi ((c.funcs.getD i aC).blocks.length:Int)),(98,vi (y.1:Int))],[(0,jP p),(1, .box [.d (bL c.arrays), .d (bI c.funcs),vi c.main]),(2, .box [.dead, .dead]),(3, .box [.d (dH (rng c.arrays.length fun i=>wX p i (c.arrays.getD i bK))), .own 5]),(5,qU (rng i fun i=>o9 p c.main i (c.funcs.getD i aC))),(6, .box [vi (c.funcs.getD i aC).params,vi (c.funcs.getD i aC).vars, .d (ko (c.funcs.getD i aC).blocks)]),(7, .box [vs (fnN c.main i), .d (bQ (Br (c.funcs.getD i aC).params)), .own 9,vi 0]),(9,Cz (rng y.1 fun k=>GH p c.main k ((c.funcs.getD i aC).blocks.getD k [])))],10⟩) (fun y=>(c.funcs.getD i aC).blocks.length-y.1) ⟨0,Nat.zero_le _,fun j hj=>absurd hj (adp _)⟩ rfl tR ⟨⟨⟨rfl,rfl⟩,⟨rfl,rfl⟩,⟨rfl,rfl⟩,⟨rfl,rfl⟩,au rfl,rfl,rfl,⟨rfl,rfl⟩,⟨rfl,rfl⟩,au rfl,rfl,rfl,tR⟩,⟨bO p,⟨ah rfl,ah rfl,rfl,tR⟩,⟨rfl,rfl,tR⟩,⟨ah rfl,rfl,tR⟩,⟨rfl,rfl,rfl,fun _ _=>rfl⟩,⟨rfl,rfl,ah rfl,tR⟩,⟨rfl,ah rfl,rfl,rfl,tR⟩,⟨rfl,rfl,rfl,fun _ h=>absurd h (adp _)⟩,tR⟩,rfl⟩ (fun y=>?_)
 clear h3 hpar hP hk
 obtain⟨k,hk,hko⟩:=y
 change Go C _ ⟨[(2, .ptr 0 0),(3, .ptr 1 0),(4, .ptr 2 0),(6, .ptr 3 0),(58, .d (bI c.funcs)),(59,vi (c.funcs.length:Int)),(60,vi (i:Int)),(10, .ptr 6 0),(11, .ptr 7 0),(96, .d (ko (c.funcs.getD i aC).blocks)),(97,vi ((c.funcs.getD i aC).blocks.length:Int)),(98,vi (k:Int))],[(0,jP p),(1, .box [.d (bL c.arrays), .d (bI c.funcs),vi c.main]),(2, .box [.dead, .dead]),(3, .box [.d (dH (rng c.arrays.length fun i=>wX p i (c.arrays.getD i bK))), .own 5]),(5,qU (rng i fun i=>o9 p c.main i (c.funcs.getD i aC))),(6, .box [vi (c.funcs.getD i aC).params,vi (c.funcs.getD i aC).vars, .d (ko (c.funcs.getD i aC).blocks)]),(7, .box [vs (fnN c.main i), .d (bQ (Br (c.funcs.getD i aC).params)), .own 9,vi 0]),(9,Cz (rng k fun k=>GH p c.main k ((c.funcs.getD i aC).blocks.getD k [])))],10⟩ _
 refine x.cond rfl tR (fun h3=>?_) (fun h3=>?_)
 rotate_left
 ·have h3:k=(c.funcs.getD i aC).blocks.length:=by have:=adj h3;omega
  subst h3
  have hbo:rC p c.main (c.funcs.getD i aC)=true:=by
   unfold rC
   rw[decide_eq_true (show 0≤(c.funcs.getD i aC).params by omega),decide_eq_true (show (c.funcs.getD i aC).params≤6 by omega),JO [] hko];rfl
  refine Sx.Go.freeze 9 ?_
  refine x.back rfl (by simp only[aj,ak,big,hfr];omega) ⟨⟨i+1,by omega,fun j hj=>?_⟩,by show c.funcs.length-(i+1)<c.funcs.length-i;omega,⟨⟨rfl,rfl⟩,⟨rfl,rfl⟩,⟨rfl,rfl⟩,⟨rfl,rfl⟩,au rfl,rfl,(show aG (vi ((i:Int)+1)) (vi ((i+1:Nat):Int)) by rw[ads];rfl),tR⟩,⟨bO p,⟨ah rfl,ah rfl,rfl,tR⟩,⟨rfl,rfl,tR⟩,⟨ah rfl,rfl,tR⟩,⟨rfl,rfl,?_,fun j hj=>?_⟩,tR⟩,rfl⟩
  ·by_cases e:j=i
   ·rw[e];exact hbo
   ·exact hlo j (by omega)
  ·rw[jQ];simp
  ·rw[jQ];exact gL yt 4 (fun _=>rfl) bD _ (o9 p c.main i (c.funcs.getD i aC)) j hj
 have h3:k<(c.funcs.getD i aC).blocks.length:=by have:=adi h3;omega
 obtain⟨hlk,hlx⟩:=hll _ (getD_in [] h3)
 have hbr:=bV k fun k=>GH p c.main k ((c.funcs.getD i aC).blocks.getD k [])
 refine x.pure rfl (by simp only[aj];omega) rfl (jW 98 (k:Int) (by unfold ak;omega)) ⟨rfl,rfl,tR⟩ ?_
 refine x.toLoop rfl tR ?_
 refine Go.ownB 10 1 87 9 (fun i=>Lv (([]:List Ins).getD i (aN 0))) rfl rfl ?_
 refine x.loop (α:={m:Nat // m≤((c.funcs.getD i aC).blocks.getD k []).length∧∀j,j<m->(iR p c.main (((c.funcs.getD i aC).blocks.getD k []).getD j op0)).2=true}) (fun y=>⟨[(2, .ptr 0 0),(3, .ptr 1 0),(4, .ptr 2 0),(6, .ptr 3 0),(58, .d (bI c.funcs)),(59,vi (c.funcs.length:Int)),(60,vi (i:Int)),(10, .ptr 6 0),(11, .ptr 7 0),(96, .d (ko (c.funcs.getD i aC).blocks)),(97,vi ((c.funcs.getD i aC).blocks.length:Int)),(98,vi (k:Int)),(15, .ptr 10 0),(106, .d (wR ((c.funcs.getD i aC).blocks.getD k []))),(107,vi (((c.funcs.getD i aC).blocks.getD k []).length:Int)),(108,vi (y.1:Int))],[(0,jP p),(1, .box [.d (bL c.arrays), .d (bI c.funcs),vi c.main]),(2, .box [.dead, .dead]),(3, .box [.d (dH (rng c.arrays.length fun i=>wX p i (c.arrays.getD i bK))), .own 5]),(5,qU (rng i fun i=>o9 p c.main i (c.funcs.getD i aC))),(6, .box [vi (c.funcs.getD i aC).params,vi (c.funcs.getD i aC).vars, .d (ko (c.funcs.getD i aC).blocks)]),(7, .box [vs (fnN c.main i), .d (bQ (Br (c.funcs.getD i aC).params)), .own 9,vi 0]),(9,Cz (rng k fun k=>GH p c.main k ((c.funcs.getD i aC).blocks.getD k []))),(10, .box [vs (nmN 98 (k:Int)), .own 11,vi 0]),(11,HV ((((c.funcs.getD i aC).blocks.getD k []).take y.1).map (aY p c.main)))],12⟩) (fun y=>((c.funcs.getD i aC).blocks.getD k []).length-y.1) ⟨0,Nat.zero_le _,fun j hj=>absurd hj (adp _)⟩ rfl tR ⟨⟨⟨rfl,rfl⟩,⟨rfl,rfl⟩,⟨rfl,rfl⟩,⟨rfl,rfl⟩,au rfl,rfl,rfl,⟨rfl,rfl⟩,⟨rfl,rfl⟩,au rfl,rfl,rfl,⟨rfl,rfl⟩,au rfl,rfl,rfl,tR⟩,⟨bO p,⟨ah rfl,ah rfl,rfl,tR⟩,⟨rfl,rfl,tR⟩,⟨ah rfl,rfl,tR⟩,⟨rfl,rfl,rfl,fun _ _=>rfl⟩,⟨rfl,rfl,ah rfl,tR⟩,⟨rfl,ah rfl,rfl,rfl,tR⟩,⟨rfl,rfl,rfl,fun _ _=>rfl⟩,⟨rfl,rfl,rfl,tR⟩,⟨rfl,rfl,rfl,fun _ h=>absurd h (adp _)⟩,tR⟩,rfl⟩ (fun y=>?_)
 obtain⟨m,hm,hmo⟩:=y
 change Go C _ ⟨[(2, .ptr 0 0),(3, .ptr 1 0),(4, .ptr 2 0),(6, .ptr 3 0),(58, .d (bI c.funcs)),(59,vi (c.funcs.length:Int)),(60,vi (i:Int)),(10, .ptr 6 0),(11, .ptr 7 0),(96, .d (ko (c.funcs.getD i aC).blocks)),(97,vi ((c.funcs.getD i aC).blocks.length:Int)),(98,vi (k:Int)),(15, .ptr 10 0),(106, .d (wR ((c.funcs.getD i aC).blocks.getD k []))),(107,vi (((c.funcs.getD i aC).blocks.getD k []).length:Int)),(108,vi (m:Int))],[(0,jP p),(1, .box [.d (bL c.arrays), .d (bI c.funcs),vi c.main]),(2, .box [.dead, .dead]),(3, .box [.d (dH (rng c.arrays.length fun i=>wX p i (c.arrays.getD i bK))), .own 5]),(5,qU (rng i fun i=>o9 p c.main i (c.funcs.getD i aC))),(6, .box [vi (c.funcs.getD i aC).params,vi (c.funcs.getD i aC).vars, .d (ko (c.funcs.getD i aC).blocks)]),(7, .box [vs (fnN c.main i), .d (bQ (Br (c.funcs.getD i aC).params)), .own 9,vi 0]),(9,Cz (rng k fun k=>GH p c.main k ((c.funcs.getD i aC).blocks.getD k []))),(10, .box [vs (nmN 98 (k:Int)), .own 11,vi 0]),(11,HV ((((c.funcs.getD i aC).blocks.getD k []).take m).map (aY p c.main)))],12⟩ _
 refine x.cond rfl tR (fun h4=>?_) (fun h4=>?_)
 rotate_left
 ·have h4:m=((c.funcs.getD i aC).blocks.getD k []).length:=by have:=adj h4;omega
  subst h4
  have hoo:MF p c.main ((c.funcs.getD i aC).blocks.getD k [])=true:=JO op0 hmo
  rw[List.take_length]
  refine Sx.Go.freeze 11 ?_
  refine x.back rfl (by simp only[aj,ak,big,hbr];omega) ⟨⟨k+1,by omega,fun j hj=>?_⟩,by show (c.funcs.getD i aC).blocks.length-(k+1)<(c.funcs.getD i aC).blocks.length-k;omega,⟨⟨rfl,rfl⟩,⟨rfl,rfl⟩,⟨rfl,rfl⟩,⟨rfl,rfl⟩,au rfl,rfl,rfl,⟨rfl,rfl⟩,⟨rfl,rfl⟩,au rfl,rfl,(show aG (vi ((k:Int)+1)) (vi ((k+1:Nat):Int)) by rw[ads];rfl),tR⟩,⟨bO p,⟨ah rfl,ah rfl,rfl,tR⟩,⟨rfl,rfl,tR⟩,⟨ah rfl,rfl,tR⟩,⟨rfl,rfl,rfl,fun _ _=>rfl⟩,⟨rfl,rfl,ah rfl,tR⟩,⟨rfl,ah rfl,rfl,rfl,tR⟩,⟨rfl,rfl,?_,fun j hj=>?_⟩,tR⟩,rfl⟩
  ·by_cases e:j=k
   ·rw[e];exact hoo
   ·exact hko j (by omega)
  ·rw[jQ];simp
  ·rw[jQ];exact gL Jp 3 (fun _=>rfl) bH _ (GH p c.main k ((c.funcs.getD i aC).blocks.getD k [])) j hj
 have h4:m<((c.funcs.getD i aC).blocks.getD k []).length:=by have:=adi h4;omega
 have htl:((((c.funcs.getD i aC).blocks.getD k []).take m).map (aY p c.main)).length=m:=by rw[List.length_map,List.length_take];omega
 have et:(((c.funcs.getD i aC).blocks.getD k []).take (m+1)).map (aY p c.main)=(((c.funcs.getD i aC).blocks.getD k []).take m).map (aY p c.main)++[aY p c.main (((c.funcs.getD i aC).blocks.getD k []).getD m op0)]:=by
  have e:((c.funcs.getD i aC).blocks.getD k [])[m]?=some (((c.funcs.getD i aC).blocks.getD k []).getD m op0):=by rw[adf (l:=((c.funcs.getD i aC).blocks.getD k [])),adh h4];rfl
  rw[take_succ e,List.map_append];rfl
 refine x.pure rfl (by simp only[aj];omega) rfl (ME p c (((c.funcs.getD i aC).blocks.getD k []).getD m op0) hz hp (hlx _ (getD_in op0 h4))) ⟨⟨ah rfl,ah rfl,ah rfl,ah rfl,rfl,tR⟩,⟨ah rfl,ah rfl,rfl,tR⟩,⟨rfl,rfl,rfl,rfl,rfl,ah rfl,ah rfl,rfl,rfl,tR⟩,tR⟩ ?_
 cases hrr:(iR p c.main (((c.funcs.getD i aC).blocks.getD k []).getD m op0)).2 with
 | false=>
  have hb:rC p c.main (c.funcs.getD i aC)=false:=by
   unfold rC
   rw[zQ h3 (P:=MF p c.main) (d:=[]) (zQ h4 (P:=fun x=>(iR p c.main x).2) (d:=op0) hrr),Bool.and_false]
  have hno:(c.arrays.all (vJ p)&&c.funcs.all (rC p c.main))=false:=by rw[zQ h1 hb,Bool.and_false]
  refine x.cond rfl tR (fun h5=>?_) (fun h5=>?_)
  ·rw[kZ,if_neg (by rw[hno];simp)]
   refine x.lV ?_
   exact x.exit rfl tR ⟨⟨[(4, .ptr 2 0),(5,vb false)],[(2, .box [.dead, .dead])],14⟩,⟨⟨⟨rfl,rfl⟩,rfl,tR⟩,⟨⟨rfl,rfl,tR⟩,tR⟩,rfl⟩, .inr rfl,⟨rfl,rfl,tR⟩,tR,rfl⟩
  ·cases (show true=false from h5)
 | true=>
  refine x.cond rfl tR (fun h5=>?_) (fun h5=>?_)
  ·cases (show false=true from h5)
  refine x.back rfl (by simp only[aj,ak,big,htl];omega) ⟨⟨m+1,by omega,fun j hj=>?_⟩,by show ((c.funcs.getD i aC).blocks.getD k []).length-(m+1)<((c.funcs.getD i aC).blocks.getD k []).length-m;omega,⟨⟨rfl,rfl⟩,⟨rfl,rfl⟩,⟨rfl,rfl⟩,⟨rfl,rfl⟩,au rfl,rfl,rfl,⟨rfl,rfl⟩,⟨rfl,rfl⟩,au rfl,rfl,rfl,⟨rfl,rfl⟩,au rfl,rfl,(show aG (vi ((m:Int)+1)) (vi ((m+1:Nat):Int)) by rw[ads];rfl),tR⟩,⟨bO p,⟨ah rfl,ah rfl,rfl,tR⟩,⟨rfl,rfl,tR⟩,⟨ah rfl,rfl,tR⟩,⟨rfl,rfl,rfl,fun _ _=>rfl⟩,⟨rfl,rfl,ah rfl,tR⟩,⟨rfl,ah rfl,rfl,rfl,tR⟩,⟨rfl,rfl,rfl,fun _ _=>rfl⟩,⟨rfl,rfl,rfl,tR⟩,⟨rfl,rfl,?_,fun j hj=>?_⟩,tR⟩,rfl⟩
  ·by_cases e:j=m
   ·rw[e];exact hrr
   ·exact hmo j (by omega)
  ·rw[et];simp
  ·rw[et];exact gL Lv 9 (fun _=>rfl) (aN 0) _ (aY p c.main (((c.funcs.getD i aC).blocks.getD k []).getD m op0)) j hj
def lM {α:Type} (P:α->α->Bool) (d:α) (a b:List α):Bool:=decide (a.length=b.length)&&o7 (fun i=>P (a.getD i d) (b.getD i d)) a.length 0
def tu (a b:Op9):Bool:=((((((decide (a.kind=b.kind)&&decide (a.op=b.op))&&decide (a.dst=b.dst))&&decide (a.ref=b.ref))&&decide (a.alt=b.alt))&&decide (a.num=b.num))&&decide (a.args=b.args))&&decide (a.frm=b.frm)
def pY (a b:List Op9):Bool:=lM tu op0 a b
def Yf (a b:List (List Op9)):Bool:=lM pY [] a b
def l9 (a b:Bod):Bool:=(decide (a.params=b.params)&&decide (a.vars=b.vars))&&Yf a.blocks b.blocks
def rD (a b:List Bod):Bool:=lM l9 aC a b
theorem MG {a b:List Int} (h1:a.length=b.length) (h2:∀j,j<a.length->a.getD j 0=b.getD j 0):a=b:=List.ext_getElem h1 fun j hj hj'=>by
 have:=h2 j hj
 rwa [adf,adf,adh hj,adh hj'] at this
theorem Wi {a b:List Cel} (h1:a.length=b.length) (h2:∀j,j<a.length->a.getD j bK=b.getD j bK):a=b:=List.ext_getElem h1 fun j hj hj'=>by
 have:=h2 j hj
 rwa [adf,adf,adh hj,adh hj'] at this
theorem MH (a b:List Int) (ha:a.length*8≤140737488355328):Pure PG 75 [.d (dV a), .d (dV b)] (vb (decide (a=b))) []:=by
 refine aI.mk (cfg 26) av [] Tryz.func75 rfl (by kernel_rfl) rfl rfl rfl ?_
 intro C x
 refine x.cond rfl tR (fun h=>?_) (fun h=>?_)
 ·have h:(!decide ((a.length:Int)=(b.length:Int)))=true:=h
  have h:¬(a.length:Int)=b.length:=by simpa using h
  refine x.exit rfl tR ⟨.inr rfl,?_,tR,rfl⟩
  rw[decide_eq_false (show ¬a=b from fun e=>h (by rw[e]))];exact rfl
 have h:(!decide ((a.length:Int)=(b.length:Int)))=false:=h
 have hl:a.length=b.length:=by
  have:(a.length:Int)=b.length:=by simpa using h
  omega
 refine x.loop (α:={i:Nat // i≤a.length∧∀j,j<i->a.getD j 0=b.getD j 0}) (fun y=>⟨[(0, .d (dV a)),(1, .d (dV b)),(12,vi (a.length:Int)),(13,vi (y.1:Int))],[],0⟩) (fun y=>a.length-y.1) ⟨0,Nat.zero_le _,fun j hj=>by omega⟩ rfl tR ⟨⟨au rfl,au rfl,rfl,rfl,tR⟩,tR,rfl⟩ (fun y=>?_)
 obtain⟨i,hi,hs⟩:=y
 change Go C _ ⟨[(0, .d (dV a)),(1, .d (dV b)),(12,vi (a.length:Int)),(13,vi (i:Int))],[],0⟩ _
 refine x.cond rfl tR (fun h1=>?_) (fun h1=>?_)
 ·have h1:i<a.length:=by have:=adi h1;omega
  refine x.quiet rfl tR ay (by kernel_rfl) ?_
  refine x.dW rfl (by simp only[aj];omega) ?_
  have hv:decide (a.getD i 0=b.getD i 0)=decide (a.getD i 0=b.getD i 0):=by
   rfl
  refine x.cond rfl tR (fun h2=>?_) (fun h2=>?_)
  ·have h2:(!decide (a.getD i 0=b.getD i 0))=true:=h2
   rw[hv] at h2
   refine x.exit rfl tR ⟨.inr rfl,?_,tR,rfl⟩
   rw[decide_eq_false (show ¬a=b from fun e=>by rw[e] at h2;simp at h2)];exact rfl
  ·have h2:(!decide (a.getD i 0=b.getD i 0))=false:=h2
   rw[hv] at h2
   have h2:a.getD i 0=b.getD i 0:=by
    rw[Bool.not_eq_false',adn] at h2;exact h2
   refine x.back rfl (by simp only[aj,ak];omega) ⟨⟨i+1,by omega,fun j hj=>?_⟩,by show a.length-(i+1)<a.length-i;omega,⟨au rfl,au rfl,rfl,(show aG (vi ((i:Int)+1)) (vi ((i+1:Nat):Int)) by rw[ads];rfl),tR⟩,tR,rfl⟩
   by_cases e:j=i
   ·rw[e];exact h2
   ·exact hs j (by omega)
 ·have h1:i=a.length:=by have:=adj h1;omega
  refine x.exit rfl tR ⟨.inr rfl,?_,tR,rfl⟩
  rw[decide_eq_true (MG hl fun j hj=>hs j (by omega))];exact rfl
theorem Wj (a b:List Cel) (ha:a.length*8≤140737488355328):Pure PG 23 [.d (bL a), .d (bL b)] (vb (decide (a=b))) []:=by
 refine aI.mk (cfg 26) av [] Tryz.func23 rfl (by kernel_rfl) rfl rfl rfl ?_
 intro C x
 refine x.cond rfl tR (fun h=>?_) (fun h=>?_)
 ·have h:(!decide ((a.length:Int)=(b.length:Int)))=true:=h
  have h:¬(a.length:Int)=b.length:=by simpa using h
  refine x.exit rfl tR ⟨.inr rfl,?_,tR,rfl⟩
  rw[decide_eq_false (show ¬a=b from fun e=>h (by rw[e]))];exact rfl
 have h:(!decide ((a.length:Int)=(b.length:Int)))=false:=h
 have hl:a.length=b.length:=by
  have:(a.length:Int)=b.length:=by simpa using h
  omega
 refine x.loop (α:={i:Nat // i≤a.length∧∀j,j<i->a.getD j bK=b.getD j bK}) (fun y=>⟨[(0, .d (bL a)),(1, .d (bL b)),(12,vi (a.length:Int)),(13,vi (y.1:Int))],[],0⟩) (fun y=>a.length-y.1) ⟨0,Nat.zero_le _,fun j hj=>by omega⟩ rfl tR ⟨⟨au rfl,au rfl,rfl,rfl,tR⟩,tR,rfl⟩ (fun y=>?_)
 obtain⟨i,hi,hs⟩:=y
 change Go C _ ⟨[(0, .d (bL a)),(1, .d (bL b)),(12,vi (a.length:Int)),(13,vi (i:Int))],[],0⟩ _
 refine x.cond rfl tR (fun h1=>?_) (fun h1=>?_)
 ·have h1:i<a.length:=by have:=adi h1;omega
  refine x.quiet rfl tR ay (by kernel_rfl) ?_
  refine x.dW rfl (by simp only[aj];omega) ?_
  have hv:(decide ((a.getD i bK).1=(b.getD i bK).1)&&(decide ((a.getD i bK).2=(b.getD i bK).2)&&true))=decide (a.getD i bK=b.getD i bK):=by
   rw[Bool.and_true,←Bool.decide_and,decide_eq_decide,Prod.ext_iff]
  refine x.cond rfl tR (fun h2=>?_) (fun h2=>?_)
  ·have h2:(!(decide ((a.getD i bK).1=(b.getD i bK).1)&&(decide ((a.getD i bK).2=(b.getD i bK).2)&&true)))=true:=h2
   rw[hv] at h2
   refine x.exit rfl tR ⟨.inr rfl,?_,tR,rfl⟩
   rw[decide_eq_false (show ¬a=b from fun e=>by rw[e] at h2;simp at h2)];exact rfl
  ·have h2:(!(decide ((a.getD i bK).1=(b.getD i bK).1)&&(decide ((a.getD i bK).2=(b.getD i bK).2)&&true)))=false:=h2
   rw[hv] at h2
   have h2:a.getD i bK=b.getD i bK:=by
    rw[Bool.not_eq_false',adn] at h2;exact h2
   refine x.back rfl (by simp only[aj,ak];omega) ⟨⟨i+1,by omega,fun j hj=>?_⟩,by show a.length-(i+1)<a.length-i;omega,⟨au rfl,au rfl,rfl,(show aG (vi ((i:Int)+1)) (vi ((i+1:Nat):Int)) by rw[ads];rfl),tR⟩,tR,rfl⟩
   by_cases e:j=i
   ·rw[e];exact h2
   ·exact hs j (by omega)
 ·have h1:i=a.length:=by have:=adj h1;omega
  refine x.exit rfl tR ⟨.inr rfl,?_,tR,rfl⟩
  rw[decide_eq_true (Wi hl fun j hj=>hs j (by omega))];exact rfl
theorem MI (a b:Op9) (ha:a.args.length*8≤140737488355328) (hf:a.frm.length*8≤140737488355328):Pure PG 29 [opW a,opW b] (vb (tu a b)) []:=by
 refine aI.mk (cfg 59) av [] Tryz.func29 rfl (by kernel_rfl) rfl rfl rfl ?_
 intro C x
 refine x.gW rfl tR rfl (fun _=>MH a.args b.args ha) rfl ⟨au rfl,au rfl,tR⟩ ?_
 refine x.gW rfl tR rfl (fun _=>MH a.frm b.frm hf) rfl ⟨au rfl,au rfl,tR⟩ ?_
 exact x.exit rfl tR ⟨.inr rfl,rfl,tR,rfl⟩
structure OpZ (x:Op9):Prop where
 a:x.args.length*8≤140737488355328
 f:x.frm.length*8≤140737488355328
theorem OY (a b:List Op9) (ha:a.length*8≤140737488355328) (hz:∀x∈a,OpZ x):Pure PG 28 [.d (wR a), .d (wR b), .fn 29 []] (vb (lM tu op0 a b)) []:=by
 refine aI.mk (cfg 32) av [] Tryz.func28 rfl (by kernel_rfl) rfl rfl rfl ?_
 intro C x
 refine x.cond rfl tR (fun h=>?_) (fun h=>?_)
 ·have h:(!decide ((a.length:Int)=(b.length:Int)))=true:=h
  have h:¬(a.length:Int)=b.length:=by simpa using h
  refine x.exit rfl tR ⟨.inr rfl,?_,tR,rfl⟩
  rw[lM,decide_eq_false (show ¬a.length=b.length by omega)];exact rfl
 have h:(!decide ((a.length:Int)=(b.length:Int)))=false:=h
 have hl:a.length=b.length:=by
  have:(a.length:Int)=b.length:=by simpa using h
  omega
 have hS:lM tu op0 a b=o7 (fun i=>tu (a.getD i op0) (b.getD i op0)) a.length 0:=by rw[lM,decide_eq_true hl];rfl
 rw[hS]
 refine x.loop (α:={i:Nat // i≤a.length∧o7 (fun i=>tu (a.getD i op0) (b.getD i op0)) (a.length-i) i=o7 (fun i=>tu (a.getD i op0) (b.getD i op0)) a.length 0}) (fun y=>⟨[(1, .d (wR b)),(2, .fn 29 []),(15, .d (wR a)),(16,vi (a.length:Int)),(17,vi (y.1:Int))],[],0⟩) (fun y=>a.length-y.1) ⟨0,Nat.zero_le _,rfl⟩ rfl tR ⟨⟨au rfl,rfl,au rfl,rfl,rfl,tR⟩,tR,rfl⟩ (fun y=>?_)
 obtain⟨i,hi,hs⟩:=y
 change Go C _ ⟨[(1, .d (wR b)),(2, .fn 29 []),(15, .d (wR a)),(16,vi (a.length:Int)),(17,vi (i:Int))],[],0⟩ _
 refine x.cond rfl tR (fun h1=>?_) (fun h1=>?_)
 ·have h1:i<a.length:=by have:=adi h1;omega
  rw[ru h1] at hs
  refine x.pure rfl (by simp only[aj];omega) rfl (MI (a.getD i op0) (b.getD i op0) (hz _ (getD_in op0 h1)).a (hz _ (getD_in op0 h1)).f) ⟨⟨rfl,rfl,rfl,rfl,rfl,ah rfl,ah rfl,rfl,rfl,tR⟩,⟨rfl,rfl,rfl,rfl,rfl,ah rfl,ah rfl,rfl,rfl,tR⟩,tR⟩ ?_
  cases hp:tu (a.getD i op0) (b.getD i op0) with
  | false=>
   refine x.cond rfl tR (fun h2=>?_) (fun h2=>?_)
   ·refine x.exit rfl tR ⟨.inr rfl,?_,tR,rfl⟩
    rw[←hs,hp];exact rfl
   ·cases (show true=false from h2)
  | true=>
   refine x.cond rfl tR (fun h2=>?_) (fun h2=>?_)
   ·cases (show false=true from h2)
   ·rw[hp,Bool.true_and] at hs
    exact x.back rfl (by simp only[aj,ak];omega) ⟨⟨i+1,by omega,hs⟩,by show a.length-(i+1)<a.length-i;omega,⟨au rfl,rfl,au rfl,rfl,(show aG (vi ((i:Int)+1)) (vi ((i+1:Nat):Int)) by rw[ads];rfl),tR⟩,tR,rfl⟩
 ·have h1:i=a.length:=by have:=adj h1;omega
  refine x.exit rfl tR ⟨.inr rfl,?_,tR,rfl⟩
  rw[h1,Nat.sub_self] at hs
  rw[←hs];exact rfl
theorem Wl (a b:List Op9) (ha:a.length*8≤140737488355328) (hz:∀x∈a,OpZ x):Pure PG 27 [.d (wR a), .d (wR b)] (vb (pY a b)) []:=by
 refine aI.mk (cfg 8) av [] Tryz.func27 rfl (by kernel_rfl) rfl rfl rfl ?_
 intro C x
 refine x.pure rfl tR rfl (OY a b ha hz) ⟨au rfl,au rfl,rfl,tR⟩ ?_
 exact x.exit rfl tR ⟨.inr rfl,rfl,tR,rfl⟩
theorem OZ (a b:List (List Op9)) (ha:a.length*8≤140737488355328) (hz:∀l∈a,l.length*8≤140737488355328∧∀x∈l,OpZ x):Pure PG 26 [.d (ko a), .d (ko b), .fn 27 []] (vb (lM pY ([]:List Op9) a b)) []:=by
 refine aI.mk (cfg 32) av [] Tryz.func26 rfl (by kernel_rfl) rfl rfl rfl ?_
 intro C x
 refine x.cond rfl tR (fun h=>?_) (fun h=>?_)
 ·have h:(!decide ((a.length:Int)=(b.length:Int)))=true:=h
  have h:¬(a.length:Int)=b.length:=by simpa using h
  refine x.exit rfl tR ⟨.inr rfl,?_,tR,rfl⟩
  rw[lM,decide_eq_false (show ¬a.length=b.length by omega)];exact rfl
 have h:(!decide ((a.length:Int)=(b.length:Int)))=false:=h
 have hl:a.length=b.length:=by
  have:(a.length:Int)=b.length:=by simpa using h
  omega
 have hS:lM pY ([]:List Op9) a b=o7 (fun i=>pY (a.getD i ([]:List Op9)) (b.getD i ([]:List Op9))) a.length 0:=by rw[lM,decide_eq_true hl];rfl
 rw[hS]
 refine x.loop (α:={i:Nat // i≤a.length∧o7 (fun i=>pY (a.getD i ([]:List Op9)) (b.getD i ([]:List Op9))) (a.length-i) i=o7 (fun i=>pY (a.getD i ([]:List Op9)) (b.getD i ([]:List Op9))) a.length 0}) (fun y=>⟨[(1, .d (ko b)),(2, .fn 27 []),(15, .d (ko a)),(16,vi (a.length:Int)),(17,vi (y.1:Int))],[],0⟩) (fun y=>a.length-y.1) ⟨0,Nat.zero_le _,rfl⟩ rfl tR ⟨⟨au rfl,rfl,au rfl,rfl,rfl,tR⟩,tR,rfl⟩ (fun y=>?_)
 obtain⟨i,hi,hs⟩:=y
 change Go C _ ⟨[(1, .d (ko b)),(2, .fn 27 []),(15, .d (ko a)),(16,vi (a.length:Int)),(17,vi (i:Int))],[],0⟩ _
 refine x.cond rfl tR (fun h1=>?_) (fun h1=>?_)
 ·have h1:i<a.length:=by have:=adi h1;omega
  rw[ru h1] at hs
  refine x.pure rfl (by simp only[aj];omega) rfl (Wl (a.getD i []) (b.getD i []) (hz _ (getD_in [] h1)).1 (hz _ (getD_in [] h1)).2) ⟨au rfl,au rfl,tR⟩ ?_
  cases hp:pY (a.getD i ([]:List Op9)) (b.getD i ([]:List Op9)) with
  | false=>
   refine x.cond rfl tR (fun h2=>?_) (fun h2=>?_)
   ·refine x.exit rfl tR ⟨.inr rfl,?_,tR,rfl⟩
    rw[←hs,hp];exact rfl
   ·cases (show true=false from h2)
  | true=>
   refine x.cond rfl tR (fun h2=>?_) (fun h2=>?_)
   ·cases (show false=true from h2)
   ·rw[hp,Bool.true_and] at hs
    exact x.back rfl (by simp only[aj,ak];omega) ⟨⟨i+1,by omega,hs⟩,by show a.length-(i+1)<a.length-i;omega,⟨au rfl,rfl,au rfl,rfl,(show aG (vi ((i:Int)+1)) (vi ((i+1:Nat):Int)) by rw[ads];rfl),tR⟩,tR,rfl⟩
 ·have h1:i=a.length:=by have:=adj h1;omega
  refine x.exit rfl tR ⟨.inr rfl,?_,tR,rfl⟩
  rw[h1,Nat.sub_self] at hs
  rw[←hs];exact rfl
structure Yg (b:Bod):Prop where
 l:b.blocks.length*8≤140737488355328
 x:∀l∈b.blocks,l.length*8≤140737488355328∧∀x∈l,OpZ x
theorem O0 (a b:Bod) (hz:Yg a):Pure PG 25 [.agg [vi a.params,vi a.vars, .d (ko a.blocks)], .agg [vi b.params,vi b.vars, .d (ko b.blocks)]] (vb (l9 a b)) []:=by
 refine aI.mk (cfg 24) av [] Tryz.func25 rfl (by kernel_rfl) rfl rfl rfl ?_
 intro C x
 refine x.gW rfl tR rfl (fun _=>OZ a.blocks b.blocks hz.l hz.x) rfl ⟨au rfl,au rfl,rfl,tR⟩ ?_
 exact x.exit rfl tR ⟨.inr rfl,rfl,tR,rfl⟩
theorem MJ (a b:List Bod) (ha:a.length*8≤140737488355328) (hz:∀b∈a,Yg b):Pure PG 24 [.d (bI a), .d (bI b), .fn 25 []] (vb (lM l9 aC a b)) []:=by
 refine aI.mk (cfg 32) av [] Tryz.func24 rfl (by kernel_rfl) rfl rfl rfl ?_
 intro C x
 refine x.cond rfl tR (fun h=>?_) (fun h=>?_)
 ·have h:(!decide ((a.length:Int)=(b.length:Int)))=true:=h
  have h:¬(a.length:Int)=b.length:=by simpa using h
  refine x.exit rfl tR ⟨.inr rfl,?_,tR,rfl⟩
  rw[lM,decide_eq_false (show ¬a.length=b.length by omega)];exact rfl
 have h:(!decide ((a.length:Int)=(b.length:Int)))=false:=h
 have hl:a.length=b.length:=by
  have:(a.length:Int)=b.length:=by simpa using h
  omega
 have hS:lM l9 aC a b=o7 (fun i=>l9 (a.getD i aC) (b.getD i aC)) a.length 0:=by rw[lM,decide_eq_true hl];rfl
 rw[hS]
 refine x.loop (α:={i:Nat // i≤a.length∧o7 (fun i=>l9 (a.getD i aC) (b.getD i aC)) (a.length-i) i=o7 (fun i=>l9 (a.getD i aC) (b.getD i aC)) a.length 0}) (fun y=>⟨[(1, .d (bI b)),(2, .fn 25 []),(15, .d (bI a)),(16,vi (a.length:Int)),(17,vi (y.1:Int))],[],0⟩) (fun y=>a.length-y.1) ⟨0,Nat.zero_le _,rfl⟩ rfl tR ⟨⟨au rfl,rfl,au rfl,rfl,rfl,tR⟩,tR,rfl⟩ (fun y=>?_)
 obtain⟨i,hi,hs⟩:=y
 change Go C _ ⟨[(1, .d (bI b)),(2, .fn 25 []),(15, .d (bI a)),(16,vi (a.length:Int)),(17,vi (i:Int))],[],0⟩ _
 refine x.cond rfl tR (fun h1=>?_) (fun h1=>?_)
 ·have h1:i<a.length:=by have:=adi h1;omega
  rw[ru h1] at hs
  refine x.pure rfl (by simp only[aj];omega) rfl (O0 (a.getD i aC) (b.getD i aC) (hz _ (getD_in aC h1))) ⟨⟨rfl,rfl,ah rfl,tR⟩,⟨rfl,rfl,ah rfl,tR⟩,tR⟩ ?_
  cases hp:l9 (a.getD i aC) (b.getD i aC) with
  | false=>
   refine x.cond rfl tR (fun h2=>?_) (fun h2=>?_)
   ·refine x.exit rfl tR ⟨.inr rfl,?_,tR,rfl⟩
    rw[←hs,hp];exact rfl
   ·cases (show true=false from h2)
  | true=>
   refine x.cond rfl tR (fun h2=>?_) (fun h2=>?_)
   ·cases (show false=true from h2)
   ·rw[hp,Bool.true_and] at hs
    exact x.back rfl (by simp only[aj,ak];omega) ⟨⟨i+1,by omega,hs⟩,by show a.length-(i+1)<a.length-i;omega,⟨au rfl,rfl,au rfl,rfl,(show aG (vi ((i:Int)+1)) (vi ((i+1:Nat):Int)) by rw[ads];rfl),tR⟩,tR,rfl⟩
 ·have h1:i=a.length:=by have:=adj h1;omega
  refine x.exit rfl tR ⟨.inr rfl,?_,tR,rfl⟩
  rw[h1,Nat.sub_self] at hs
  rw[←hs];exact rfl
def vK (p:Pol) (c:Cod):Option Prg:=
 if (gU p&&(decide (c.funcs.length≤64)&&decide (c.arrays.length≤16)))=true then
  match kZ p c with
  | none=>none
  | some q=>if (decide ((gB p q).2.2=0)&&(decide ((gB p q).1.main=c.main)&&(decide ((gB p q).1.arrays=c.arrays)&&rD (gB p q).1.funcs c.funcs)))=true then some q else none
 else none
abbrev O1:Option Prg->V
 | some q=>.tup [LB q,vi 0]
 | none=>.tup [LB ⟨[],[]⟩,vi 1]
structure RsZ (c:Cod):Prop where
 a:c.arrays.length*8≤140737488355328
 f:c.funcs.length*8≤140737488355328
 b:∀b∈c.funcs,Yg b
theorem p8:O1 none=.tup [.agg [.d (dH []), .d (dU [])],vi 1]:=rfl
set_option maxHeartbeats 8000000 in
theorem FH (p:Pol) (c:Cod) (hz:Td p) (hp:p.ins.length≤1000000∧p.outs.length≤1000000) (hc:Qs c) (hq:∀q,kZ p c=some q->OU q) (hr:∀q,kZ p c=some q->RsZ (gB p q).1):Pure PG 8 [Jz p,Bn c] (O1 (vK p c)) []:=by
 have hal:=hc.al
 have hfl:=hc.fl
 refine aI.mk (cfg 71) av [] Tryz.func8 rfl (by kernel_rfl) rfl rfl (by unfold vK;split<;>(first | rfl | (split<;>first | rfl | (split<;>rfl)))) ?_
 intro C x
 refine x.pure rfl tR rfl (CQ p hz) ⟨⟨ah rfl,ah rfl,ah rfl,ah rfl,rfl,tR⟩,tR⟩ ?_
 have hv:((!gU p||decide (64<(c.funcs.length:Int)))||decide (16<(c.arrays.length:Int)))=!(gU p&&(decide (c.funcs.length≤64)&&decide (c.arrays.length≤16))):=by
  rw[show decide (64<(c.funcs.length:Int))=!decide (c.funcs.length≤64) by rw[←decide_not,decide_eq_decide];omega,show decide (16<(c.arrays.length:Int))=!decide (c.arrays.length≤16) by rw[←decide_not,decide_eq_decide];omega]
  cases gU p<;>cases decide (c.funcs.length≤64)<;>cases decide (c.arrays.length≤16)<;>rfl
 refine x.cond rfl tR (fun h=>?_) (fun h=>?_)
 ·have h:((!gU p||decide (64<(c.funcs.length:Int)))||decide (16<(c.arrays.length:Int)))=true:=h
  rw[hv,adt] at h
  rw[vK,if_neg (by rw[h];simp),p8]
  refine x.lV ?_
  exact x.exit rfl tR ⟨⟨[(4, .ptr 2 0),(5,vi 1)],[(2, .box [.d (dH []), .d (dU [])])],3⟩,⟨⟨⟨rfl,rfl⟩,rfl,tR⟩,⟨⟨rfl,rfl,tR⟩,tR⟩,rfl⟩, .inr rfl,⟨rfl,rfl,tR⟩,tR,rfl⟩
 have h:((!gU p||decide (64<(c.funcs.length:Int)))||decide (16<(c.arrays.length:Int)))=false:=h
 rw[hv,Bool.not_eq_false'] at h
 rw[vK,if_pos h]
 have hrs:=OX p c hz.toPolSz hp hc
 obtain⟨Q,hQ⟩:∃Q,kZ p c=Q:=⟨_,rfl⟩
 rw[hQ] at hrs ⊢
 refine x.pure rfl tR rfl hrs ⟨⟨ah rfl,ah rfl,ah rfl,ah rfl,rfl,tR⟩,⟨ah rfl,ah rfl,rfl,tR⟩,tR⟩ ?_
 rcases Q with _ | q
 ·rw[p8]
  refine x.cond rfl tR (fun h2=>?_) (fun h2=>?_)
  ·refine x.lV ?_
   exact x.exit rfl tR ⟨⟨[(4, .ptr 2 0),(5,vi 1)],[(2, .box [.d (dH []), .d (dU [])])],4⟩,⟨⟨⟨rfl,rfl⟩,rfl,tR⟩,⟨⟨rfl,rfl,tR⟩,tR⟩,rfl⟩, .inr rfl,⟨rfl,rfl,tR⟩,tR,rfl⟩
  ·cases (show true=false from h2)
 have hqq:=hq q hQ
 have hz9:=hr q hQ
 refine x.cond rfl tR (fun h2=>?_) (fun h2=>?_)
 ·cases (show false=true from h2)
 have hres:=kY p q hz hqq
 obtain⟨V,hV⟩:∃V,gB p q=V:=⟨_,rfl⟩
 rw[hV] at hres hz9
 obtain⟨c',a',e'⟩:=V
 have hV1:(gB p q).1=c':=by rw[hV]
 have hV2:(gB p q).2.2=e':=by rw[hV]
 simp only[hV1,hV2]
 have hz9:RsZ c':=hz9
 refine x.pure rfl tR rfl hres ⟨⟨ah rfl,ah rfl,ah rfl,ah rfl,rfl,tR⟩,⟨ah rfl,ah rfl,tR⟩,tR⟩ ?_
 refine x.gW rfl tR rfl (fun _=>Wj c'.arrays c.arrays hz9.a) rfl ⟨au rfl,au rfl,tR⟩ ?_
 have hv2:((!decide (e'=0)||!decide (c'.main=c.main))||!decide (c'.arrays=c.arrays))=!(decide (e'=0)&&(decide (c'.main=c.main)&&decide (c'.arrays=c.arrays))):=by
  cases decide (e'=0)<;>cases decide (c'.main=c.main)<;>cases decide (c'.arrays=c.arrays)<;>rfl
 refine x.cond rfl tR (fun h3=>?_) (fun h3=>?_)
 ·have h3:((!decide (e'=0)||!decide (c'.main=c.main))||!decide (c'.arrays=c.arrays))=true:=h3
  rw[hv2,adt] at h3
  rw[if_neg (by revert h3;cases decide (e'=0)<;>cases decide (c'.main=c.main)<;>cases decide (c'.arrays=c.arrays)<;>simp),p8]
  refine x.lV ?_
  exact x.exit rfl tR ⟨⟨[(4, .ptr 2 0),(5,vi 1)],[(2, .box [.d (dH []), .d (dU [])])],5⟩,⟨⟨⟨rfl,rfl⟩,rfl,tR⟩,⟨⟨rfl,rfl,tR⟩,tR⟩,rfl⟩, .inr rfl,⟨rfl,rfl,tR⟩,tR,rfl⟩
 have h3:((!decide (e'=0)||!decide (c'.main=c.main))||!decide (c'.arrays=c.arrays))=false:=h3
 rw[hv2,Bool.not_eq_false'] at h3
 have h4:(decide (e'=0)&&(decide (c'.main=c.main)&&(decide (c'.arrays=c.arrays)&&rD c'.funcs c.funcs)))=rD c'.funcs c.funcs:=by
  simp only[adg] at h3
  rw[h3.1,h3.2.1,h3.2.2];rfl
 rw[h4]
 refine x.pure rfl tR rfl (MJ c'.funcs c.funcs hz9.f hz9.b) ⟨au rfl,au rfl,rfl,tR⟩ ?_
 have hS:lM l9 aC c'.funcs c.funcs=rD c'.funcs c.funcs:=rfl
 rw[hS]
 cases hs:rD c'.funcs c.funcs with
 | false=>
  rw[if_neg (by simp),p8]
  refine x.cond rfl tR (fun h5=>?_) (fun h5=>?_)
  ·refine x.lV ?_
   exact x.exit rfl tR ⟨⟨[(4, .ptr 2 0),(5,vi 1)],[(2, .box [.d (dH []), .d (dU [])])],5⟩,⟨⟨⟨rfl,rfl⟩,rfl,tR⟩,⟨⟨rfl,rfl,tR⟩,tR⟩,rfl⟩, .inr rfl,⟨rfl,rfl,tR⟩,tR,rfl⟩
  ·cases (show true=false from h5)
 | true=>
  rw[if_pos rfl]
  refine x.cond rfl tR (fun h5=>?_) (fun h5=>?_)
  ·cases (show false=true from h5)
  exact x.exit rfl tR ⟨.inr rfl,⟨rfl,rfl,tR⟩,tR,rfl⟩
theorem MK (p:Pol) (c:Cod) (hz:Td p) (hp:p.ins.length≤1000000∧p.outs.length≤1000000) (hc:Qs c) (hq:∀q,kZ p c=some q->OU q) (hr:∀q,kZ p c=some q->RsZ (gB p q).1):Pure PG 13 [Jz p,Bn c] (vb (vK p c).isSome) []:=by
 have hs:=FH p c hz hp hc hq hr
 refine aI.mk (cfg 15) av [] Tryz.func13 rfl (by kernel_rfl) rfl rfl rfl ?_
 intro C x
 obtain⟨R,hR⟩:∃R,vK p c=R:=⟨_,rfl⟩
 rw[hR] at hs ⊢
 refine x.pure rfl tR rfl hs ⟨⟨ah rfl,ah rfl,ah rfl,ah rfl,rfl,tR⟩,⟨ah rfl,ah rfl,rfl,tR⟩,tR⟩ ?_
 rcases R with _ | q
 ·exact x.exit rfl tR ⟨.inr rfl,rfl,tR,rfl⟩
 ·exact x.exit rfl tR ⟨.inr rfl,rfl,tR,rfl⟩
end Go.Proofs.YtojhdmfkfkfcbaaGreatDoor
