import Derived.Test.YtojhdmfkfkfcbaaGreatDoorMH
import Derived.Test.YtojhdmfkfkfcbaaGreatDoorSxH
namespace Go.Proofs.YtojhdmfkfkfcbaaGreatDoor
open Go.Sx
set_option linter.unusedVariables false
set_option linter.unusedSimpArgs false
set_option maxRecDepth 100000
structure RL9 (s:ByteArray) where
 n:Nat
 p:Nat
 c:Int
 fuel:s.size≤p+n
 same:mQ s n p c=mQ s s.size 0 0
 hp:p≤s.size+4
 hc:0≤c∧c≤p
theorem Nj (s:ByteArray) (hs:s.size≤okL):Pure PG 61 [vs s] (.tup [vs (rnS s),vb (fZ s)]) []:=by
 unfold okL at hs
 refine aI.mk (cfg 22) av [] Tryz.func61 rfl (by kernel_rfl) rfl rfl rfl ?_
 intro C x
 refine x.loop (α:=RL9 s) (fun y=>⟨[(0,vs s),(4,vi y.c),(6, .ptr 0 0)],[(0, .iter s y.p)],1⟩) (fun y=>s.size+4-y.p) ⟨s.size,0,0,by omega,rfl,by omega,by omega⟩ rfl tR ?_ (fun y=>?_)
 ·exact⟨⟨rfl,rfl,⟨rfl,rfl⟩,tR⟩,⟨⟨rfl,rfl⟩,tR⟩,rfl⟩
 obtain⟨n,p,c,fuel,same,hp,hc⟩:=y
 change Go C _ ⟨[(0,vs s),(4,vi c),(6, .ptr 0 0)],[(0, .iter s p)],1⟩ _
 obtain⟨d1,d2,d3⟩:=bB s p
 refine x.next rfl tR rfl rfl rfl (fun h=>?_) (fun h=>?_)
 ·have h:p<s.size:=h
  refine x.cond rfl tR (fun _=>?_) (fun h1=>by cases h1)
  cases n with
  | zero=>omega
  | succ n=>
   rw[mQ,if_pos (by omega),EM h] at same
   refine x.back rfl (show ak (c+1) by unfold ak;omega) ⟨⟨n,p+(Utf8.decode s p).2,c+1,by omega,same,by omega,by omega⟩,by show s.size+4-(p+(Utf8.decode s p).2)<s.size+4-p;omega,⟨rfl,rfl,⟨rfl,rfl⟩,tR⟩,⟨⟨rfl,rfl⟩,tR⟩,rfl⟩
 ·have h:¬p<s.size:=h
  refine x.cond rfl tR (fun h1=>by cases h1) (fun _=>?_)
  have hc2:c=mQ s s.size 0 0:=by rw[←same,Od (by omega)]
  refine x.cond rfl tR (fun h=>?_) (fun h=>?_)
  ·have h:lgS s=true:=h
   refine x.exit rfl tR ⟨.inr rfl,⟨?_,?_,tR⟩,tR,rfl⟩
   ·show aG (vs s) (vs (rnS s));rw[rnS,if_pos h];exact rfl
   ·show aG (vb true) (vb (fZ s));rw[fZ,h];exact rfl
  ·have h:lgS s=false:=h
   have e:s.size+2=(s++qS).size:=by rw[bF];rfl
   refine x.exit rfl (show (((s.size+2:Nat)):Int)≤9223372036854775807 by omega) ⟨.inr rfl,⟨?_,?_,tR⟩,tR,rfl⟩
   ·show aG (vs (s++qS)) (vs (rnS s));rw[rnS,if_neg (by rw[h];simp)];exact rfl
   ·show aG (vb (decide (c≤20))) (vb (fZ s));rw[fZ,h,hc2];exact rfl
theorem kM (s:ByteArray) (a:Bool) (hs:s.size≤okL):aI PG 60 1 [vs s, .ptr 0 0] [.box [vb a]] (vs (rnS s)) [.box [vb (a&&fZ s)]]:=by
 refine aI.mk (dG 16 1) av [0] Tryz.func60 rfl (by kernel_rfl) rfl rfl rfl ?_
 intro C x
 refine x.pure rfl tR rfl (Nj s hs) ⟨rfl,tR⟩ ?_
 exact x.exit rfl tR ⟨.inr rfl,rfl,⟨⟨rfl,tR⟩,tR⟩,rfl⟩
theorem IL {α β:Type} (g:α->β) {l:List α} {i:Nat} (h:i<l.length) (d:α):(l.take (i+1)).map g=(l.take i).map g++[g (l.getD i d)]:=by
 rw[List.take_succ_eq_append_getElem h,List.map_append,adf,adh h];rfl
theorem takeA {α:Type} (p:α->Bool) {l:List α} {i:Nat} (h:i<l.length) (d:α):(l.take (i+1)).all p=((l.take i).all p&&p (l.getD i d)):=by
 rw[List.take_succ_eq_append_getElem h,List.all_append,adf,adh h];simp
theorem Xr {α β:Type} (g:α->β) {l:List α} {i:Nat} (h:i≤l.length):((l.take i).map g).length=i:=by rw[List.length_map,List.length_take];omega
theorem Ue {α:Type} (e:TypeId) (N:Nat) (d:α->List D) (hd:∀a,(d a).length=N) (x0:α) {l:List α} {a:α} {l':List α} (h:l'=l++[a]):lS (.vec e N (l.length+1) (app l.length (fun i=>d (l.getD i x0)) fun _=>d a)) (.vec e N l'.length fun i=>d (l'.getD i x0)):=by
 subst h
 exact⟨rfl,rfl,by simp,fun j hj=>wC d N hd x0 l a j hj⟩
theorem app0 (z:List D) (f:Nat->List D) (i:Nat):app 0 (tab (List.replicate 0 z)) f i=f i:=by
 show (if i<0 then [] else f (i-0))=_
 rw[if_neg (by omega)];rfl
theorem oI2 {i n j m:Nat} (h:i<n) (h2:j<m):aj [0≤(i:Int)∧(i:Int)<(n:Int),0≤(j:Int)∧(j:Int)<(m:Int)]:=by simp only[aj];omega
theorem oI {i n:Nat} (h:i<n):aj [0≤(i:Int)∧(i:Int)<(n:Int)]:=by simp only[aj];omega
section
variable (q:Prg) (i k j:Nat)
abbrev fq:Fun:=q.funcs.getD i bD
abbrev bq:Blk:=(fq q i).blocks.getD k bH
abbrev xq:Ins:=(bq q i k).code.getD j (aN 0)
def k1:Bool:=(q.funcs.take i).all QT
def k2 (m:Nat):Bool:=k1 q i&&fZ (fq q i).name&&((fq q i).params.take m).all fZ
def k3:Bool:=k1 q i&&fZ (fq q i).name&&(fq q i).params.all fZ&&((fq q i).blocks.take k).all II
def k4:Bool:=k3 q i k&&fZ (bq q i k).name&&((bq q i k).code.take j).all IG
def kA:Bool:=k4 q i k j&&fZ (xq q i k j).dst
def kB:Bool:=kA q i k j&&(!nG (xq q i k j).kind||fZ (xq q i k j).ref)
def kD (m:Nat):Bool:=kB q i k j&&fZ (xq q i k j).alt&&((xq q i k j).args.take m).all fZ
def kE (m:Nat):Bool:=kB q i k j&&fZ (xq q i k j).alt&&(xq q i k j).args.all fZ&&((xq q i k j).frm.take m).all fZ
theorem k1s (h:i<q.funcs.length):k3 q i (fq q i).blocks.length=k1 q (i+1):=by
 unfold k3 k1;rw[takeA _ h bD,List.take_length]
 rw[show QT (q.funcs.getD i bD)=(fZ (fq q i).name&&(fq q i).params.all fZ&&(fq q i).blocks.all II) from rfl]
 simp only[Bool.and_assoc]
theorem k2s {m:Nat} (h:m<(fq q i).params.length):(k2 q i m&&fZ ((fq q i).params.getD m .empty))=k2 q i (m+1):=by
 unfold k2;rw[takeA _ h .empty,Bool.and_assoc]
theorem k23:k2 q i (fq q i).params.length=k3 q i 0:=by unfold k2 k3;rw[List.take_length];simp
theorem k3s (h:k<(fq q i).blocks.length):k4 q i k (bq q i k).code.length=k3 q i (k+1):=by
 unfold k4 k3;rw[takeA _ h bH,List.take_length]
 rw[show II ((fq q i).blocks.getD k bH)=(fZ (bq q i k).name&&(bq q i k).code.all IG) from rfl]
 simp only[Bool.and_assoc]
theorem k4s (h:j<(bq q i k).code.length):kE q i k j (xq q i k j).frm.length=k4 q i k (j+1):=by
 unfold kE kB kA k4;rw[takeA _ h (aN 0),List.take_length]
 rw[show IG ((bq q i k).code.getD j (aN 0))=(fZ (xq q i k j).dst&&(!nG (xq q i k j).kind||fZ (xq q i k j).ref)&&fZ (xq q i k j).alt&&(xq q i k j).args.all fZ&&(xq q i k j).frm.all fZ) from rfl]
 simp only[Bool.and_assoc]
theorem kDs {m:Nat} (h:m<(xq q i k j).args.length):(kD q i k j m&&fZ ((xq q i k j).args.getD m .empty))=kD q i k j (m+1):=by
 unfold kD;rw[takeA _ h .empty,Bool.and_assoc]
theorem kDE:kD q i k j (xq q i k j).args.length=kE q i k j 0:=by unfold kD kE;rw[List.take_length];simp
theorem kEs {m:Nat} (h:m<(xq q i k j).frm.length):(kE q i k j m&&fZ ((xq q i k j).frm.getD m .empty))=kE q i k j (m+1):=by
 unfold kE;rw[takeA _ h .empty,Bool.and_assoc]
end
structure ada (q:Prg):Prop where
 p:∀f,f∈q.funcs->f.params.length≤64
 a:∀f,f∈q.funcs->∀b,b∈f.blocks->∀x,x∈b.code->x.args.length≤64∧x.frm.length≤64
theorem Uf {q:Prg} (h:rightG q=true):ada q:=by
 have h:=lZ.1 h
 refine⟨fun f hf=>by have:=(h.fn f hf).pl;omega,fun f hf b hb x hx=>?_⟩
 rcases jr (((h.fn f hf).blk b hb).2 x hx) with⟨_,hp⟩ | ⟨n,d,r,a,_,_,hi,_⟩
 ·have:=hp.len;omega
 ·have:=hi.yw.2
  rw[hi.frm]
  exact⟨by omega,Nat.zero_le _⟩
set_option maxHeartbeats 8000000 in
theorem J8 (q:Prg) (hq:OU q) (hw:ada q):Pure PG 19 [LB q] (.tup [LB (rnQ q),vb (IJ q)]) []:=by
 refine aI.mk (cfg 223) av [] Tryz.func19 rfl (by kernel_rfl) rfl rfl rfl ?_
 intro C x
 have ha:=hq.yw
 have hf:=hq.zC
 unfold ug at ha hf
 refine x.toLoop rfl (by simp only[aj,big];omega) ?_
 refine Sx.Go.freeze 2 ?_
 refine Go.ownB 3 1 82 4 (fun i=>yt (([]:List Fun).getD i bD)) rfl rfl ?_
 refine x.for q.funcs.length (fun s i=>s.at [1,2,4,5,6] [(7,vi i)] [(3, .box [.d (dH q.arrays), .own 5]),(4, .box [vb (k1 q i)]),(5,qU ((q.funcs.take i).map rnF))]) rfl tR (.ex [7] [3,4,5] ⟨rfl,tR⟩ ⟨⟨⟨Nat.zero_add _,fun _=>rfl,fun i _=>app0 _ _ i⟩,rfl,tR⟩,⟨rfl,tR⟩,⟨rfl,rfl,rfl,fun _ h=>absurd h (adp _)⟩,tR⟩) (fun i=>rfl) (fun _=>trivial) (fun i hi=>?_) ?_
 ·have hF:=hq.funcs _ (dB (d:=bD) hi)
  refine x.ev2 [4] [0,1,2,3,4,5,6,8,9,10,11,12,13] (.fork 7 (.fork 14 (.fork 15 (.fork 16 .leaf .no) .no) (.fork 15 (.fork 14 (.fork 16 .leaf .no) .no) .no)) (.fork 15 (.fork 7 (.fork 14 (.fork 16 .leaf .no) .no) .no) .no)) (fun s=>s.on [1,2,4,5,6,7] [(8, .ptr 6 0)] [(4, .box [vb (k1 q i&&fZ (fq q i).name)]),(6, .box [vs (rnS (fq q i).name), .aB, .aB,vi (fq q i).at_])] 7) rfl tR ay (by kernel_rfl) Ret.bT rfl ?_ (fun C1 x1=>?_) ?_
  ·simp only[aj];omega
  ·repeat' first
    | exact True.intro
    | refine And.intro ?_ ?_
    | refine x1.call [4] rfl tR rfl (kM (fq q i).name (k1 q i) hF.name) rfl ⟨rfl,⟨rfl,rfl⟩,tR⟩ ⟨⟨rfl,tR⟩,tR⟩ (x1.back rfl tR ?_)
    | refine x1.back rfl tR ?_
    | exact Or.inl .is
  refine x.toLoop rfl tR ?_
  refine Go.ownB 6 1 9 1 (fun i=>[.str (([]:List ByteArray).getD i .empty)]) rfl rfl ?_
  have hpl:=hw.p _ (dB (d:=bD) hi)
  refine x.for (fq q i).params.length (fun s m=>s.at [1,2,4,5,6,7,8] [(9,vi m)] [(4, .box [vb (k2 q i m)]),(7,gQ (((fq q i).params.take m).map rnS))]) rfl tR (.ex [9] [4,7] ⟨rfl,tR⟩ ⟨⟨?_,tR⟩,⟨rfl,rfl,rfl,fun _ h=>absurd h (adp _)⟩,tR⟩) (fun i=>rfl) (fun _=>oI hi) (fun m hm=>?_) ?_
  ·exact vbE (by unfold k2;simp)
  ·have hm':=hm
   simp only[fq] at hm'
   refine x.ev3 6 [4,6,7] [0,2,3,4,5,6,7,8,9,10,11] (.fork 1 (.fork 12 (.fork 13 (.fork 14 (.fork 15 (.fork 16 .leaf .no) .no) .no) .no) .no) (.fork 12 (.fork 1 (.fork 13 (.fork 14 (.fork 15 (.fork 16 .leaf .no) .no) .no) .no) (.fork 13 (.fork 1 (.fork 14 (.fork 15 (.fork 16 .leaf .no) .no) .no) .no) .no)) .no)) (fun s=>s.on [1,2,4,5,6,7,8,9] [] [(4, .box [vb (k2 q i m&&fZ ((fq q i).params.getD m .empty))]),(6, .box [vs (rnS (fq q i).name), .own 7, .aB,vi (fq q i).at_]),(7,gQ (((fq q i).params.take (m+1)).map rnS))] 8) rfl tR ay rfl (by kernel_rfl) Ret.bT rfl ?_ (fun C1 x1=>?_) ?_
   ·simp only[aj,fq,adv];omega
   ·repeat' first
     | exact True.intro
     | refine And.intro ?_ ?_
     | refine x1.call [4] rfl tR rfl (kM ((fq q i).params.getD m .empty) (k2 q i m) (hF.params _ (dB hm))) rfl ⟨rfl,⟨rfl,rfl⟩,tR⟩ ⟨⟨rfl,tR⟩,tR⟩ (x1.back rfl tR ?_)
     | refine x1.back rfl tR ?_
     | refine x1.back rfl (by simp only[aj,fq,big,adv,List.length_map,List.length_take];omega) ?_
     | exact Or.inl (.ex [] [7] tR ⟨Ue _ 1 (fun t=>[D.str t]) (fun _=>rfl) .empty (IL rnS hm .empty),tR⟩)
   exact x.back rfl (by simp only[aj,ak];omega) (upN hm (.ex [9] [4] ⟨rfl,tR⟩ ⟨⟨vbE (k2s q i hm),tR⟩,tR⟩))
  ·refine Sx.Go.freeze 7 ?_
   refine x.toLoop rfl tR ?_
   refine Go.ownB 6 2 85 3 (fun i=>Jp (([]:List Blk).getD i bH)) rfl rfl ?_
   have hbl:=hF.Yb
   unfold ug at hbl
   refine x.for (fq q i).blocks.length (fun s k=>s.at [1,2,4,5,6,7,8] [(10,vi k)] [(4, .box [vb (k3 q i k)]),(6, .box [vs (rnS (fq q i).name), .d (bQ ((fq q i).params.map rnS)), .own 8,vi (fq q i).at_]),(8,Cz (((fq q i).blocks.take k).map rnB))]) rfl tR (.ex [10] [4,6,8] ⟨rfl,tR⟩ ⟨⟨vbE (k23 q i),tR⟩,⟨rfl,ah (by rw[List.take_length]),rfl,rfl,tR⟩,⟨rfl,rfl,rfl,fun _ h=>absurd h (adp _)⟩,tR⟩) (fun i=>rfl) (fun _=>oI hi) (fun k hk=>?_) ?_
   ·have hk':=hk
    simp only[fq] at hk'
    have hB:=hF.blocks _ (dB (d:=bH) hk)
    refine x.ev2 [4] [0,1,2,3,4,5,6,7,8,9,10,12,13,14,15,16,17,18,19,20,21] (.fork 11 (.fork 22 (.fork 23 (.fork 24 .leaf .no) .no) (.fork 23 (.fork 22 (.fork 24 .leaf .no) .no) .no)) (.fork 23 (.fork 11 (.fork 22 (.fork 24 .leaf .no) .no) .no) .no)) (fun s=>s.on [1,2,4,5,6,7,8,10] [(11, .ptr 9 0)] [(4, .box [vb (k3 q i k&&fZ (bq q i k).name)]),(9, .box [vs (rnS (bq q i k).name), .aB,vi (bq q i k).at_])] 10) rfl tR ay (by kernel_rfl) Ret.bT rfl ?_ (fun C1 x1=>?_) ?_
    ·simp only[aj,adv];omega
    ·repeat' first
      | exact True.intro
      | refine And.intro ?_ ?_
      | refine x1.call [4] rfl tR rfl (kM (bq q i k).name (k3 q i k) hB.name) rfl ⟨rfl,⟨rfl,rfl⟩,tR⟩ ⟨⟨rfl,tR⟩,tR⟩ (x1.back rfl tR ?_)
      | refine x1.back rfl tR ?_
      | exact Or.inl .is
    refine x.toLoop rfl tR ?_
    refine Go.ownB 9 1 87 9 (fun i=>Lv (([]:List Ins).getD i (aN 0))) rfl rfl ?_
    have hcl:=hB.len
    unfold ug at hcl
    refine x.for (bq q i k).code.length (fun s j=>s.at [1,2,4,5,6,7,8,10,11] [(12,vi j)] [(4, .box [vb (k4 q i k j)]),(10,HV (((bq q i k).code.take j).map rnI))]) rfl tR (.ex [12] [4,10] ⟨rfl,tR⟩ ⟨⟨vbE (by unfold k4;simp),tR⟩,⟨rfl,rfl,rfl,fun _ h=>absurd h (adp _)⟩,tR⟩) (fun i=>rfl) (fun _=>oI2 hi hk) (fun j hj=>?_) ?_
    ·have hj':=hj
     simp only[fq,bq] at hj'
     have hX:=hB.code _ (dB (d:=aN 0) hj)
     obtain⟨hal,hfl⟩:=hw.a _ (dB (d:=bD) hi) _ (dB (d:=bH) hk) _ (dB (d:=aN 0) hj)
     refine x.call [4] rfl ?_ rfl (kM (xq q i k j).dst (k4 q i k j) hX.dst) rfl ⟨rfl,⟨rfl,rfl⟩,tR⟩ ⟨⟨rfl,tR⟩,tR⟩ ?_
     ·simp only[aj,adv];omega
     refine x.join (fun s=>s.at [1,2,4,5,6,7,8,10,11,12,13,14] [] [(4, .box [vb (kB q i k j)]),(12, .box [.d (.int .u8 (xq q i k j).kind), .d (.int .u8 (xq q i k j).op),vs (rnS (xq q i k j).dst),vs (rnI (xq q i k j)).ref,vs (xq q i k j).alt, .aB, .aB,vi (xq q i k j).num,vi (xq q i k j).at_])]) rfl tR (fun h=>?_) (fun h=>?_) ?_
     ·have h:nG (xq q i k j).kind=true:=h
      refine x.call [4] rfl tR rfl (kM (xq q i k j).ref (kA q i k j) hX.ref) rfl ⟨rfl,⟨rfl,rfl⟩,tR⟩ ⟨⟨rfl,tR⟩,tR⟩ ?_
      refine x.back rfl tR ⟨(), .ex [] [4,12] tR ⟨⟨vbE ?_,tR⟩,⟨rfl,rfl,rfl,?_,rfl,tR,tR,rfl,rfl,tR⟩,tR⟩⟩
      ·unfold kB;rw[h];rfl
      ·show aG (vs _) (vs (if nG (xq q i k j).kind=true then _ else _));rw[if_pos h];exact rfl
     ·have h:nG (xq q i k j).kind=false:=h
      refine x.back rfl tR ⟨(), .ex [] [4,12] tR ⟨⟨vbE ?_,tR⟩,⟨rfl,rfl,rfl,?_,rfl,tR,tR,rfl,rfl,tR⟩,tR⟩⟩
      ·unfold kB;rw[h];exact (Bool.and_true _).symm
      ·show aG (vs _) (vs (if nG (xq q i k j).kind=true then _ else _));rw[if_neg (by rw[h];simp)];exact rfl
     refine x.call [4] rfl tR rfl (kM (xq q i k j).alt (kB q i k j) hX.alt) rfl ⟨rfl,⟨rfl,rfl⟩,tR⟩ ⟨⟨rfl,tR⟩,tR⟩ ?_
     refine x.toLoop rfl tR ?_
     refine Go.ownB 12 5 9 1 (fun i=>[.str (([]:List ByteArray).getD i .empty)]) rfl rfl ?_
     refine x.for (xq q i k j).args.length (fun s m=>s.at [1,2,4,5,6,7,8,10,11,12,13,14] [(15,vi m)] [(4, .box [vb (kD q i k j m)]),(13,gQ (((xq q i k j).args.take m).map rnS))]) rfl tR (.ex [15] [4,13] ⟨rfl,tR⟩ ⟨⟨vbE (by unfold kD;simp),tR⟩,⟨rfl,rfl,rfl,fun _ h=>absurd h (adp _)⟩,tR⟩) (fun i=>rfl) (fun _=>trivial) (fun m hm=>?_) ?_
     ·have hm':=hm
      simp only[fq,bq,xq] at hm'
      refine x.ev3 12 [4,12,13] [0,2,3,4,5,6,7] (.fork 1 (.fork 8 (.fork 9 (.fork 10 (.fork 11 (.fork 12 .leaf .no) .no) .no) .no) .no) (.fork 8 (.fork 1 (.fork 9 (.fork 10 (.fork 11 (.fork 12 .leaf .no) .no) .no) .no) (.fork 9 (.fork 1 (.fork 10 (.fork 11 (.fork 12 .leaf .no) .no) .no) .no) .no)) .no)) (fun s=>s.on [1,2,4,5,6,7,8,10,11,12,13,14,15] [] [(4, .box [vb (kD q i k j m&&fZ ((xq q i k j).args.getD m .empty))]),(12,s.ch 12),(13,gQ (((xq q i k j).args.take (m+1)).map rnS))] 14) rfl tR ay rfl (by kernel_rfl) Ret.bT rfl ?_ (fun C1 x1=>?_) ?_
      ·simp only[aj,adv];omega
      ·repeat' first
       | exact True.intro
       | refine And.intro ?_ ?_
       | refine x1.call [4] rfl tR rfl (kM ((xq q i k j).args.getD m .empty) (kD q i k j m) (hX.args _ (dB hm))) rfl ⟨rfl,⟨rfl,rfl⟩,tR⟩ ⟨⟨rfl,tR⟩,tR⟩ (x1.back rfl tR ?_)
       | refine x1.back rfl tR ?_
       | refine x1.back rfl (by simp only[aj,fq,bq,xq,big,ak,adv,List.length_map,List.length_take];omega) ?_
       | exact Or.inl (.ex [] [13] tR ⟨Ue _ 1 (fun t=>[D.str t]) (fun _=>rfl) .empty (IL rnS hm .empty),tR⟩)
      exact x.back rfl (by simp only[aj,ak];omega) (upN hm (.ex [15] [4] ⟨rfl,tR⟩ ⟨⟨vbE (kDs q i k j hm),tR⟩,tR⟩))
     refine Sx.Go.freeze 13 ?_
     refine x.toLoop rfl tR ?_
     refine Go.ownB 12 6 9 1 (fun i=>[.str (([]:List ByteArray).getD i .empty)]) rfl rfl ?_
     refine x.for (xq q i k j).frm.length (fun s m=>s.at [1,2,4,5,6,7,8,10,11,12,13,14] [(16,vi m)] [(4, .box [vb (kE q i k j m)]),(14,gQ (((xq q i k j).frm.take m).map rnS))]) rfl tR (.ex [16] [4,14] ⟨rfl,tR⟩ ⟨⟨vbE (kDE q i k j),tR⟩,⟨rfl,rfl,rfl,fun _ h=>absurd h (adp _)⟩,tR⟩) (fun i=>rfl) (fun _=>trivial) (fun m hm=>?_) ?_
     ·have hm':=hm
      simp only[fq,bq,xq] at hm'
      refine x.ev3 12 [4,12,14] [0,2,3,4,5,6,7] (.fork 1 (.fork 8 (.fork 9 (.fork 10 (.fork 11 (.fork 12 .leaf .no) .no) .no) .no) .no) (.fork 8 (.fork 1 (.fork 9 (.fork 10 (.fork 11 (.fork 12 .leaf .no) .no) .no) .no) (.fork 9 (.fork 1 (.fork 10 (.fork 11 (.fork 12 .leaf .no) .no) .no) .no) .no)) .no)) (fun s=>s.on [1,2,4,5,6,7,8,10,11,12,13,14,16] [] [(4, .box [vb (kE q i k j m&&fZ ((xq q i k j).frm.getD m .empty))]),(12,s.ch 12),(14,gQ (((xq q i k j).frm.take (m+1)).map rnS))] 15) rfl tR ay rfl (by kernel_rfl) Ret.bT rfl ?_ (fun C1 x1=>?_) ?_
      ·simp only[aj,adv];omega
      ·repeat' first
       | exact True.intro
       | refine And.intro ?_ ?_
       | refine x1.call [4] rfl tR rfl (kM ((xq q i k j).frm.getD m .empty) (kE q i k j m) (hX.frm _ (dB hm))) rfl ⟨rfl,⟨rfl,rfl⟩,tR⟩ ⟨⟨rfl,tR⟩,tR⟩ (x1.back rfl tR ?_)
       | refine x1.back rfl tR ?_
       | refine x1.back rfl (by simp only[aj,fq,bq,xq,big,ak,adv,List.length_map,List.length_take];omega) ?_
       | exact Or.inl (.ex [] [14] tR ⟨Ue _ 1 (fun t=>[D.str t]) (fun _=>rfl) .empty (IL rnS hm .empty),tR⟩)
      exact x.back rfl (by simp only[aj,ak];omega) (upN hm (.ex [16] [4] ⟨rfl,tR⟩ ⟨⟨vbE (kEs q i k j hm),tR⟩,tR⟩))
     refine Sx.Go.freeze 14 ?_
     have eX:rnI (xq q i k j)=⟨(xq q i k j).kind,(xq q i k j).op,rnS (xq q i k j).dst,(rnI (xq q i k j)).ref,rnS (xq q i k j).alt,((xq q i k j).args.take (xq q i k j).args.length).map rnS,((xq q i k j).frm.take (xq q i k j).frm.length).map rnS,(xq q i k j).num,(xq q i k j).at_⟩:=by rw[List.take_length,List.take_length];rfl
     refine x.back rfl (by simp only[aj,fq,bq,xq,big,ak,adv,List.length_map,List.length_take];omega) (upN hj (.ex [12] [4,10] ⟨rfl,tR⟩ ⟨⟨vbE (k4s q i k j hj),tR⟩,?_,tR⟩))
     exact Ue _ 9 Lv (fun _=>rfl) (aN 0) ((IL rnI hj (aN 0)).trans (congrArg (fun y=>_++[y]) eX))
    refine Sx.Go.freeze 10 ?_
    have eB:rnB (bq q i k)=⟨rnS (bq q i k).name,((bq q i k).code.take (bq q i k).code.length).map rnI,(bq q i k).at_⟩:=by rw[List.take_length];rfl
    refine x.back rfl (by simp only[aj,fq,bq,xq,big,ak,adv,List.length_map,List.length_take];omega) (upN hk (.ex [10] [4,8] ⟨rfl,tR⟩ ⟨⟨vbE (k3s q i k hk),tR⟩,?_,tR⟩))
    exact Ue _ 3 Jp (fun _=>rfl) bH ((IL rnB hk bH).trans (congrArg (fun y=>_++[y]) eB))
   refine Sx.Go.freeze 8 ?_
   have eF:rnF (fq q i)=⟨rnS (fq q i).name,(fq q i).params.map rnS,((fq q i).blocks.take (fq q i).blocks.length).map rnB,(fq q i).at_⟩:=by rw[List.take_length];rfl
   refine x.back rfl (by simp only[aj,fq,bq,xq,big,ak,adv,List.length_map,List.length_take];omega) (upN hi (.ex [7] [4,5] ⟨rfl,tR⟩ ⟨⟨vbE (k1s q i hi),tR⟩,?_,tR⟩))
   exact Ue _ 4 yt (fun _=>rfl) bD ((IL rnF hi bD).trans (congrArg (fun y=>_++[y]) eF))
 ·refine Sx.Go.freeze 5 ?_
  refine x.ev2 [1] [0,1] (.fork 2 (.fork 3 .leaf .no) .no) (fun s=>s.on [2] [(3,vb (k1 q q.funcs.length))] [(1, .box [.d (dH q.arrays), .d (dU (rnQ q).funcs)])] 6) rfl tR ay (by kernel_rfl) Ret.bT rfl tR (fun C2 x2=>?_) ?_
  ·exact⟨x2.back rfl tR ⟨x2.back rfl tR (Or.inl (.ex [] [1] tR ⟨⟨ah rfl,ah (by rw[List.take_length];rfl),tR⟩,tR⟩)),tR⟩,tR⟩
  exact x.exit rfl tR ⟨.inr rfl,⟨rfl,vbE (by unfold k1;rw[List.take_length];rfl),tR⟩,tR,rfl⟩
theorem Xd {p:Pol} {q:Prg} (h:(gB p q).2.2≠0):(gB p q).1=aas:=by
 unfold gB at h ⊢
 split at h
 ·rename_i hr
  rw[if_pos hr]
  rcases hV:Dj p q with⟨a,e⟩ | c
  ·rfl
  ·rw[hV] at h
   exact absurd rfl h
 ·rename_i hr
  rw[if_neg hr]
theorem YF {q:Prg} (hn:∀f,f∈q.funcs->∀b,b∈f.blocks->∀x,x∈b.code->ak x.num):∀f,f∈(rnQ q).funcs->∀b,b∈f.blocks->∀x,x∈b.code->ak x.num:=by
 intro f hf b hb x hx
 obtain⟨f,h1,rfl⟩:=List.mem_map.1 hf
 obtain⟨b,h2,rfl⟩:=List.mem_map.1 hb
 obtain⟨x,h3,rfl⟩:=List.mem_map.1 hx
 exact hn f h1 b h2 x h3
set_option maxHeartbeats 8000000 in
theorem GJ (s t:ByteArray):Pure PG 5 [vs s,vs t] (vb true) []:=by
 refine aI.mk (cfg 79) av [] Tryz.func5 rfl (by kernel_rfl) rfl rfl rfl ?_
 intro C x
 refine x.cond rfl tR (fun h=>?_) (fun h=>?_)
 ·exact x.exit rfl tR ⟨.inr rfl,rfl,tR,rfl⟩
 have h:(decide (4000<(s.size:Int))||decide (4000<(t.size:Int)))=false:=h
 rw[adw,adr,adr] at h
 obtain⟨hs,ht⟩:=h
 have hp0:=CX (s:=s)
 have hg0:=tK (s:=t)
 have ha0:=Nc (s:=t)
 refine x.pure rfl tR rfl (CO s (by omega)) ⟨rfl,tR⟩ ?_
 refine x.pure rfl tR rfl (vg t (by omega)) ⟨rfl,tR⟩ ?_
 generalize dw s=P at *
 generalize bX t=Q at *
 obtain⟨P,u1,u2⟩:=P
 obtain⟨Q,u3,u4⟩:=Q
 refine x.cond rfl tR (fun h=>?_) (fun h=>?_)
 ·refine x.pure rfl tR rfl vP tR ?_
  exact x.exit rfl tR ⟨.inr rfl,rfl,tR,rfl⟩
 have h:(!decide (u2=0)||!decide (u4=0))=false:=h
 rw[adw,Bool.not_eq_false',Bool.not_eq_false',adn,adn] at h
 obtain⟨rfl,rfl⟩:=h
 have hP:MU P:=hp0 rfl
 obtain⟨hG,hN⟩:=hg0 rfl
 have hA:AtQ (inT t.size) Q:=ha0 rfl
 clear hp0 hg0 ha0
 have hm:(0:Int)≤(t.size:Int):=Int.natCast_nonneg _
 refine x.pure rfl tR rfl (J8 Q (nO hG hN) (Uf hG)) ⟨⟨ah rfl,ah rfl,tR⟩,tR⟩ ?_
 refine x.cond rfl tR (fun h=>?_) (fun h=>?_)
 ·refine x.pure rfl tR rfl vP tR ?_
  exact x.exit rfl tR ⟨.inr rfl,rfl,tR,rfl⟩
 have hq:IJ Q=true:=by simpa using (show (!IJ Q)=false from h)
 have hok:=WY hm hA hP hG hN
 have hno:=Xd (p:=P) (q:=Q)
 have r1:=kY P Q hP.z (nO hG hN)
 have r2:=kY P (rnQ Q) hP.z (nO (IK hG hq) (YF hN))
 rw[aa5 hG hq] at r2
 generalize rnQ Q=Q2 at r2 ⊢
 generalize gB P Q=R at *
 obtain⟨c,a,e⟩:=R
 simp only at hok hno
 have hS:Pure PG 18 [Bn c,Bn c,vb true] (vb true) []:=by
  by_cases he:e=0
  ·exact Pv (hok he).1 true
  ·rw[hno he]
   exact Gb [] [] [] 0 true (by decide) (by decide) (fun b hb=>by cases hb) (Af.self true _)
 refine x.pure rfl tR rfl r1 ⟨⟨ah rfl,ah rfl,ah rfl,ah rfl,rfl,tR⟩,⟨ah rfl,ah rfl,tR⟩,tR⟩ ?_
 refine x.pure rfl tR rfl r2 ⟨⟨ah rfl,ah rfl,ah rfl,ah rfl,rfl,tR⟩,⟨ah rfl,ah rfl,tR⟩,tR⟩ ?_
 refine x.gW rfl tR rfl (fun _=>hS) rfl ⟨⟨ah rfl,ah rfl,rfl,tR⟩,⟨ah rfl,ah rfl,rfl,tR⟩,rfl,tR⟩ ?_
 refine x.gW rfl tR rfl (fun _=>vP) rfl tR ?_
 refine x.exit rfl tR ⟨.inr rfl,(show aG (vb _) (vb true) from ?_),tR,rfl⟩
 show aG (vb ((decide (e=e)&&true)&&true)) (vb true)
 rw[decide_eq_true rfl]
 exact rfl
end Go.Proofs.YtojhdmfkfkfcbaaGreatDoor
