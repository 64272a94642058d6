import Derived.Test.YtojhdmfkfkfcbaaGreatDoorMC
import Derived.Test.YtojhdmfkfkfcbaaGreatDoorMD
import Derived.Test.YtojhdmfkfkfcbaaGreatDoorSxH
import Derived.Test.YtojhdmfkfkfcbaaGreatDoorSxG
import Derived.Test.YtojhdmfkfkfcbaaGreatDoorMA
import Derived.Test.YtojhdmfkfkfcbaaGreatDoorMB
import Derived.Test.YtojhdmfkfkfcbaaGreatDoorSxF
import Derived.Test.YtojhdmfkfkfcbaaGreatDoorShelf
namespace Go.Proofs.YtojhdmfkfkfcbaaGreatDoor
open Go.Sx
set_option linter.unusedVariables false
set_option linter.unusedSimpArgs false
set_option maxRecDepth 100000
structure Op9 where
 kind:Int
 op:Int
 dst:Int
 ref:Int
 alt:Int
 args:List Int
 frm:List Int
 num:Int
 at_:Int
structure Bod where
 params:Int
 vars:Int
 blocks:List (List Op9)
abbrev Cel:=Int×Int
structure Cod where
 arrays:List Cel
 funcs:List Bod
 main:Int
def op0:Op9:=⟨0,0,0,0,0,[],[],0,0⟩
def bod0:Bod:=⟨0,0,[]⟩
def cel0:Cel:=(0,0)
def cod0:Cod:=⟨[],[],0⟩
abbrev Flt (α:Type):=Except (Int×Int) α
def bd {α β:Type} (r:Flt α) (k:α->Flt β):Flt β:=
 match r with
 | .error e=>.error e
 | .ok a=>k a
theorem bd_ok {α β:Type} {r:Flt α} {k:α->Flt β} {b:β} (h:bd r k=.ok b):∃a,r=.ok a∧k a=.ok b:=by
 cases r with
 | error e=>cases h
 | ok a=>exact⟨a,rfl,h⟩
def nmsF (acc:List ByteArray):List (ByteArray×Int)->Flt (List ByteArray)
 | []=>.ok acc
 | (s,a)::r=>if posB acc s=true then .error (a,9) else nmsF (acc++[s]) r
def lookV (l:List ByteArray) (s:ByteArray) (a:Int):Flt Int:=if posB l s=true then .ok (posN l s) else .error (a,10)
def knownV (n a:Int):Flt Int:=if 0≤n then .ok n else .error (a,10)
structure Res where
 p:Pol
 q:Prg
 arrs:List ByteArray
 fns:List ByteArray
structure Scp where
 blks:List ByteArray
 vals:List ByteArray
def scp0:Scp:=⟨[],[]⟩
def isEnd (k:Int):Bool:=decide (11≤k)
def refsV (r:Res) (s:Scp) (x:Ins):Flt (Int×Int):=
 if x.kind=4∨x.kind=5∨x.kind=6 then bd (lookV r.arrs x.ref x.at_) fun n=>.ok (n,0)
 else if x.kind=7 then bd (lookV r.fns x.ref x.at_) fun n=>.ok (n,0)
 else if x.kind=8 then bd (knownV (idxC r.p.ins x.ref) x.at_) fun n=>.ok (n,0)
 else if x.kind=9 then bd (knownV (idxC r.p.outs x.ref) x.at_) fun n=>.ok (n,0)
 else if x.kind=10 then bd (knownV (idxS r.p.lev x.ref) x.at_) fun n=>.ok (n,0)
 else if x.kind=11 then bd (lookV s.blks x.ref x.at_) fun n=>.ok (n,0)
 else if x.kind=12 then bd (lookV s.blks x.ref x.at_) fun n=>bd (lookV s.blks x.alt x.at_) fun m=>.ok (n,m)
 else .ok (0,0)
def looksF (l:List ByteArray) (a:Int):List ByteArray->List Int->Flt (List Int)
 | [],acc=>.ok acc
 | s::r,acc=>bd (lookV l s a) fun n=>looksF l a r (acc++[n])
def parsN (q:Prg) (n:Int):Nat:=(q.funcs.getD n.toNat fun0).params.length
def op9V (r:Res) (s:Scp) (x:Ins):Flt Op9:=
 bd (refsV r s x) fun ra=>bd (looksF s.vals x.at_ x.args []) fun az=>bd (looksF s.blks x.at_ x.frm []) fun fs=>
  if x.kind=7∧x.args.length≠parsN r.q ra.1 then .error (x.at_,13)
  else .ok ⟨x.kind,x.op,if x.dst.data.toList=[] then -1 else posN s.vals x.dst,ra.1,ra.2,az,fs,x.num,x.at_⟩
def insV9 (r:Res) (s:Scp) (code:List Ins) (i:Nat):Flt Op9:=
 if isEnd (code.getD i (ins0 0)).kind=true∧i+1≠code.length then .error ((code.getD i (ins0 0)).at_,15)
 else if (code.getD i (ins0 0)).kind=3∧i≠0∧(code.getD (i-1) (ins0 0)).kind≠3 then .error ((code.getD i (ins0 0)).at_,18)
 else op9V r s (code.getD i (ins0 0))
def opsF (r:Res) (s:Scp) (code:List Ins):Nat->Nat->List Op9->Flt (List Op9)
 | 0,_,acc=>.ok acc
 | f+1,i,acc=>bd (insV9 r s code i) fun y=>opsF r s code f (i+1) (acc++[y])
def endOK (b:Blk):Bool:=decide (1≤b.code.length)&&isEnd (b.code.getD (b.code.length-1) (ins0 0)).kind
def blk9V (r:Res) (s:Scp) (b:Blk):Flt (List Op9):=
 if endOK b=true then opsF r s b.code b.code.length 0 [] else .error (b.at_,15)
def dstL (l:List Ins):List (ByteArray×Int):=l.filterMap fun x=>if x.dst.data.toList=[] then none else some (x.dst,x.at_)
def dsts (bs:List Blk):List (ByteArray×Int):=bs.flatMap fun b=>dstL b.code
def scpV (f:Fun):Flt Scp:=
 bd (nmsF [] (f.params.map fun s=>(s,f.at_))) fun vs=>bd (nmsF [] (f.blocks.map fun b=>(b.name,b.at_))) fun bs=>bd (nmsF vs (dsts f.blocks)) fun vs'=>.ok ⟨bs,vs'⟩
def arrsF (p:Pol):List Arr->List ByteArray->List Cel->Flt (List ByteArray×List Cel)
 | [],acc,cs=>.ok (acc,cs)
 | a::r,acc,cs=>if posB acc a.name=true then .error (a.at_,9) else bd (knownV (idxS p.lev a.level) a.at_) fun k=>arrsF p r (acc++[a.name]) (cs++[(a.size,k)])
def scpsF:List Fun->List Scp->Flt (List Scp)
 | [],acc=>.ok acc
 | f::r,acc=>bd (scpV f) fun s=>scpsF r (acc++[s])
def blks9F (r:Res) (s:Scp):List Blk->List (List Op9)->Flt (List (List Op9))
 | [],acc=>.ok acc
 | b::l,acc=>bd (blk9V r s b) fun y=>blks9F r s l (acc++[y])
def bodV (r:Res) (s:Scp) (f:Fun):Flt Bod:=bd (blks9F r s f.blocks []) fun bs=>.ok ⟨(f.params.length:Int),(s.vals.length:Int),bs⟩
def bodsF (r:Res) (ss:List Scp):List Fun->Nat->List Bod->Flt (List Bod)
 | [],_,acc=>.ok acc
 | f::l,i,acc=>bd (bodV r (ss.getD i scp0) f) fun b=>bodsF r ss l (i+1) (acc++[b])
abbrev mainS:ByteArray:=⟨#[109,97,105,110]⟩
def mainB (q:Prg) (fn:List ByteArray):Bool:=posB fn mainS&&decide ((parsN q (posN fn mainS):Int)=0)
def codV (p:Pol) (q:Prg):Flt Cod:=
 bd (arrsF p q.arrays [] []) fun ac=>bd (nmsF [] (q.funcs.map fun f=>(f.name,f.at_))) fun fn=>
  if mainB q fn=true then bd (scpsF q.funcs []) fun ss=>bd (bodsF ⟨p,q,ac.1,fn⟩ ss q.funcs 0 []) fun bs=>.ok ⟨ac.2,bs,posN fn mainS⟩ else .error (0,14)
def codO:Flt Cod->Cod×Int×Int
 | .ok c=>(c,0,0)
 | .error (a,e)=>(cod0,a,e)
def resV (p:Pol) (q:Prg):Cod×Int×Int:=if (rightP p&&rightG q)=true then codO (codV p q) else (cod0,0,1)
abbrev dNums (l:List Int):D:=.sl 1 l.length fun i=>[.int .i64 (l.getD i 0)]
abbrev dOp (y:Op9):List D:=[.int .u8 y.kind, .int .u8 y.op, .int .i64 y.dst, .int .i64 y.ref, .int .i64 y.alt,dNums y.args,dNums y.frm, .int .i64 y.num, .int .i64 y.at_]
abbrev opW (y:Op9):V:=.agg [.d (.int .u8 y.kind), .d (.int .u8 y.op),vi y.dst,vi y.ref,vi y.alt, .d (dNums y.args), .d (dNums y.frm),vi y.num,vi y.at_]
abbrev dOps (l:List Op9):D:=.sl 9 l.length fun i=>dOp (l.getD i op0)
abbrev dBks (l:List (List Op9)):D:=.sl 1 l.length fun i=>[dOps (l.getD i [])]
abbrev dBod (b:Bod):List D:=[.int .i64 b.params, .int .i64 b.vars,dBks b.blocks]
abbrev dBods (l:List Bod):D:=.sl 3 l.length fun i=>dBod (l.getD i bod0)
abbrev dCels (l:List Cel):D:=.sl 2 l.length fun i=>[.int .i64 (l.getD i cel0).1, .int .i64 (l.getD i cel0).2]
abbrev codW (c:Cod):V:=.agg [.d (dCels c.arrays), .d (dBods c.funcs),vi c.main]
abbrev stopN:Nat:=118
abbrev dieN (at_ e:Int):Out:=.die stopN [(.i64,at_),(.i64,e)]
theorem need_ok (a e:Int):Pure PG 51 [vb true,vi a,vi e] (.tup []) []:=by
 refine Proc.mk (cfg 12) tysOK [] Tryz.func51 rfl (by kernel_rfl) rfl rfl rfl ?_
 intro C x
 refine x.cond rfl tR (fun h=>?_) (fun h=>?_)
 ·cases (show false=true from h)
 ·exact x.exit rfl tR ⟨.inl rfl,tR,tR,rfl⟩
theorem need_die (a e:Int):Dies PG 51 [vb false,vi a,vi e] [] stopN [(.i64,a),(.i64,e)]:=by
 refine ProcO.mk (out:=dieN a e) (cfg 12) tysOK [] Tryz.func51 rfl (by kernel_rfl) rfl rfl rfl ?_
 intro C x
 refine x.cond rfl tR (fun h=>?_) (fun h=>?_)
 ·exact x.raise rfl tR rfl rfl rfl ⟨rfl,rfl⟩
 ·cases (show true=false from h)
theorem look_ok {l:List ByteArray} {s:ByteArray} (h:posB l s=true) (a:Int):Pure PG 158 [.d (.mp l),vs s,vi a] (vi (posN l s)) []:=by
 refine Proc.mk (cfg 19) tysOK [] Tryz.func158 rfl (by kernel_rfl) rfl rfl rfl ?_
 intro C x
 refine x.pure rfl tR rfl (need_ok a 10) ⟨(show VEq0 (vb (posB l s)) (vb true) by rw[h];exact rfl),rfl,rfl,tR⟩ ?_
 exact x.exit rfl tR ⟨.inr rfl,rfl,tR,rfl⟩
theorem look_die {l:List ByteArray} {s:ByteArray} (h:posB l s=false) (a:Int):Dies PG 158 [.d (.mp l),vs s,vi a] [] stopN [(.i64,a),(.i64,10)]:=by
 refine ProcO.mk (out:=dieN a 10) (cfg 19) tysOK [] Tryz.func158 rfl (by kernel_rfl) rfl rfl rfl ?_
 intro C x
 exact x.die [] rfl tR rfl (need_die a 10) ⟨(show VEq0 (vb (posB l s)) (vb false) by rw[h];exact rfl),rfl,rfl,tR⟩ rfl tR ⟨rfl,rfl⟩
theorem known_ok (n a:Int):Pure PG 53 [vi n,vb true,vi a] (vi n) []:=by
 refine Proc.mk (cfg 11) tysOK [] Tryz.func53 rfl (by kernel_rfl) rfl rfl rfl ?_
 intro C x
 refine x.pure rfl tR rfl (need_ok a 10) ⟨rfl,rfl,rfl,tR⟩ ?_
 exact x.exit rfl tR ⟨.inr rfl,rfl,tR,rfl⟩
theorem known_die (n a:Int):Dies PG 53 [vi n,vb false,vi a] [] stopN [(.i64,a),(.i64,10)]:=by
 refine ProcO.mk (out:=dieN a 10) (cfg 11) tysOK [] Tryz.func53 rfl (by kernel_rfl) rfl rfl rfl ?_
 intro C x
 exact x.die [] rfl tR rfl (need_die a 10) ⟨rfl,rfl,rfl,tR⟩ rfl tR ⟨rfl,rfl⟩
theorem ends_spec (k:Int):Pure PG 108 [.d (.int .u8 k)] (vb (isEnd k)) []:=by
 refine Proc.mk (cfg 5) tysOK [] Tryz.func108 rfl (by kernel_rfl) rfl rfl rfl ?_
 intro C x
 exact x.exit rfl tR ⟨.inr rfl,rfl,tR,rfl⟩
theorem id_spec (s:ByteArray):Pure PG 103 [vs s] (vs s) []:=by
 refine Proc.mk (cfg 4) tysOK [] Tryz.func103 rfl (by kernel_rfl) rfl rfl rfl ?_
 intro C x
 exact x.exit rfl tR ⟨.inr rfl,rfl,tR,rfl⟩
abbrev fnC (f:Fun):Ch:=.box [vs f.name, .d (dStrs f.params), .d (dBlks f.blocks),vi f.at_]
theorem fnC_eq (f:Fun):ChEq (fnC f) (fnC f):=⟨rfl,veq0_d rfl,veq0_d rfl,rfl,tR⟩
theorem at2_spec (f:Fun) (s:ByteArray):Proc PG 104 1 [vs s, .ptr 0 0] [fnC f] (vi f.at_) [fnC f]:=by
 refine Proc.mk (cfgF 6 1) tysOK [0] Tryz.func104 rfl (by kernel_rfl) rfl rfl rfl ?_
 intro C x
 exact x.exit rfl tR ⟨.inr rfl,rfl,⟨fnC_eq f,tR⟩,rfl⟩
abbrev blkW (b:Blk):V:=.agg [vs b.name, .d (dCode b.code),vi b.at_]
theorem nm3_spec (b:Blk):Pure PG 106 [blkW b] (vs b.name) []:=by
 refine Proc.mk (cfg 5) tysOK [] Tryz.func106 rfl (by kernel_rfl) rfl rfl rfl ?_
 intro C x
 exact x.exit rfl tR ⟨.inr rfl,rfl,tR,rfl⟩
theorem at4_spec (b:Blk):Pure PG 107 [blkW b] (vi b.at_) []:=by
 refine Proc.mk (cfg 5) tysOK [] Tryz.func107 rfl (by kernel_rfl) rfl rfl rfl ?_
 intro C x
 exact x.exit rfl tR ⟨.inr rfl,rfl,tR,rfl⟩
theorem nmf_spec (f:Fun):Pure PG 55 [fnV f] (vs f.name) []:=by
 refine Proc.mk (cfg 5) tysOK [] Tryz.func55 rfl (by kernel_rfl) rfl rfl rfl ?_
 intro C x
 exact x.exit rfl tR ⟨.inr rfl,rfl,tR,rfl⟩
theorem atf_spec (f:Fun):Pure PG 56 [fnV f] (vi f.at_) []:=by
 refine Proc.mk (cfg 5) tysOK [] Tryz.func56 rfl (by kernel_rfl) rfl rfl rfl ?_
 intro C x
 exact x.exit rfl tR ⟨.inr rfl,rfl,tR,rfl⟩
structure NmW (L:List (ByteArray×Int)) (R:Flt (List ByteArray)) where
 i:Nat
 acc:List ByteArray
 hi:i≤L.length
 ha:acc.length=i
 same:nmsF acc (L.drop i)=R
theorem nms_step {L:List (ByteArray×Int)} {acc:List ByteArray} {i:Nat} (h:i<L.length) {s:ByteArray} {a:Int} (e:L[i]?=some (s,a)):nmsF acc (L.drop i)=if posB acc s=true then .error (a,9) else nmsF (acc++[s]) (L.drop (i+1)):=by
 rw[List.drop_eq_getElem_cons h]
 rw[List.getElem?_eq_getElem h] at e
 rw[Option.some.inj e,nmsF]
abbrev nmO (H:List Ch) (r:V):Flt (List ByteArray)->Out
 | .ok o=>.ret r (H++[.pos o])
 | .error (a,e)=>dieN a e
theorem numS_spec (f:Fun) (hl:f.params.length*16≤140737488355328):ProcO PG 102 1 [.d (dStrs f.params), .fn 103 [], .fn 104 [.ptr 0 0]] [fnC f] (nmO [fnC f] (.own 1) (nmsF [] (f.params.map fun s=>(s,f.at_)))):=by
 obtain⟨L,hL⟩:∃L,f.params.map (fun s=>(s,f.at_))=L:=⟨_,rfl⟩
 have hLl:L.length=f.params.length:=by rw[←hL];simp
 have hLi:∀i,i<f.params.length->L[i]?=some (f.params.getD i .empty,f.at_):=fun i hi=>by rw[←hL,List.getElem?_map,List.getD_eq_getElem?_getD,List.getElem?_eq_getElem hi];rfl
 rw[hL]
 obtain⟨R,hR⟩:∃R,nmsF [] L=R:=⟨_,rfl⟩
 rw[hR]
 refine ProcO.mk (cfgF 41 1) tysOK [0,1] Tryz.func102 rfl (by kernel_rfl) rfl rfl (by rcases R with⟨a,e⟩ | o<;>rfl) ?_
 intro C x
 refine x.loop (α:=NmW L R) (fun y=>⟨[(1, .fn 103 []),(2, .fn 104 [.ptr 0 0]),(7, .own 1),(13, .d (dStrs f.params)),(14,vi (f.params.length:Int)),(15,vi (y.i:Int))],[(0,fnC f),(1, .pos y.acc)],2⟩) (fun y=>f.params.length-y.i) ⟨0,[],Nat.zero_le _,rfl,hR⟩ rfl tR ⟨⟨rfl,rfl,rfl,veq_d rfl,rfl,rfl,tR⟩,⟨fnC_eq f,tR,tR⟩,rfl⟩ (fun y=>?_)
 obtain⟨i,acc,hi,ha,same⟩:=y
 change Go C _ ⟨[(1, .fn 103 []),(2, .fn 104 [.ptr 0 0]),(7, .own 1),(13, .d (dStrs f.params)),(14,vi (f.params.length:Int)),(15,vi (i:Int))],[(0,fnC f),(1, .pos acc)],2⟩ _
 refine x.cond rfl tR (fun h1=>?_) (fun h1=>?_)
 rotate_left
 ·have h1:i=f.params.length:=by have:=of_decide_eq_false h1;omega
  rw[List.drop_of_length_le (by omega),nmsF] at same
  subst same
  exact x.exit rfl tR ⟨.inr rfl,rfl,⟨fnC_eq f,rfl,tR⟩,rfl⟩
 have h1:i<f.params.length:=by have:=of_decide_eq_true h1;omega
 rw[nms_step (by omega) (hLi i h1)] at same
 refine x.pure rfl (by simp only[AllP];omega) rfl (id_spec (f.params.getD i .empty)) ⟨rfl,tR⟩ ?_
 refine x.call [0] rfl tR rfl (at2_spec f (f.params.getD i .empty)) rfl ⟨rfl,⟨rfl,rfl⟩,tR⟩ ⟨fnC_eq f,tR⟩ ?_
 cases hp:posB acc (f.params.getD i .empty) with
 | true=>
  rw[hp,if_pos rfl] at same
  subst same
  exact x.die [] rfl tR rfl (need_die f.at_ 9) ⟨rfl,rfl,rfl,tR⟩ rfl tR ⟨rfl,rfl⟩
 | false=>
  rw[hp,if_neg (by simp)] at same
  refine x.pure rfl tR rfl (need_ok f.at_ 9) ⟨rfl,rfl,rfl,tR⟩ ?_
  refine x.pure rfl tR rfl (id_spec (f.params.getD i .empty)) ⟨rfl,tR⟩ ?_
  refine x.back rfl (by refine⟨hp,by rw[ha],?_⟩;simp only[AllP,inI64];omega) ⟨⟨i+1,acc++[f.params.getD i .empty],by omega,by simp [ha],same⟩,by show f.params.length-(i+1)<f.params.length-i;omega,⟨rfl,rfl,rfl,veq_d rfl,rfl,(show VEq0 (vi ((i:Int)+1)) (vi ((i+1:Nat):Int)) by rw[Int.natCast_add];rfl),tR⟩,⟨fnC_eq f,rfl,tR⟩,rfl⟩
theorem numB_spec (bs:List Blk) (hl:bs.length*48≤140737488355328):ProcO PG 105 0 [.d (dBlks bs), .fn 106 [], .fn 107 []] [] (nmO [] (.own 0) (nmsF [] (bs.map fun b=>(b.name,b.at_)))):=by
 obtain⟨L,hL⟩:∃L,bs.map (fun b=>(b.name,b.at_))=L:=⟨_,rfl⟩
 have hLl:L.length=bs.length:=by rw[←hL];simp
 have hLi:∀i,i<bs.length->L[i]?=some ((bs.getD i blk0).name,(bs.getD i blk0).at_):=fun i hi=>by rw[←hL,List.getElem?_map,List.getD_eq_getElem?_getD,List.getElem?_eq_getElem hi];rfl
 rw[hL]
 obtain⟨R,hR⟩:∃R,nmsF [] L=R:=⟨_,rfl⟩
 rw[hR]
 refine ProcO.mk (cfg 41) tysOK [0] Tryz.func105 rfl (by kernel_rfl) rfl rfl (by rcases R with⟨a,e⟩ | o<;>rfl) ?_
 intro C x
 refine x.loop (α:=NmW L R) (fun y=>⟨[(1, .fn 106 []),(2, .fn 107 []),(7, .own 0),(13, .d (dBlks bs)),(14,vi (bs.length:Int)),(15,vi (y.i:Int))],[(0, .pos y.acc)],1⟩) (fun y=>bs.length-y.i) ⟨0,[],Nat.zero_le _,rfl,hR⟩ rfl tR ⟨⟨rfl,rfl,rfl,veq_d rfl,rfl,rfl,tR⟩,⟨tR,tR⟩,rfl⟩ (fun y=>?_)
 obtain⟨i,acc,hi,ha,same⟩:=y
 change Go C _ ⟨[(1, .fn 106 []),(2, .fn 107 []),(7, .own 0),(13, .d (dBlks bs)),(14,vi (bs.length:Int)),(15,vi (i:Int))],[(0, .pos acc)],1⟩ _
 refine x.cond rfl tR (fun h1=>?_) (fun h1=>?_)
 rotate_left
 ·have h1:i=bs.length:=by have:=of_decide_eq_false h1;omega
  rw[List.drop_of_length_le (by omega),nmsF] at same
  subst same
  exact x.exit rfl tR ⟨.inr rfl,rfl,⟨rfl,tR⟩,rfl⟩
 have h1:i<bs.length:=by have:=of_decide_eq_true h1;omega
 rw[nms_step (by omega) (hLi i h1)] at same
 refine x.pure rfl (by simp only[AllP];omega) rfl (nm3_spec (bs.getD i blk0)) ⟨⟨rfl,veq0_d rfl,rfl,tR⟩,tR⟩ ?_
 refine x.pure rfl tR rfl (at4_spec (bs.getD i blk0)) ⟨⟨rfl,veq0_d rfl,rfl,tR⟩,tR⟩ ?_
 cases hp:posB acc (bs.getD i blk0).name with
 | true=>
  rw[hp,if_pos rfl] at same
  subst same
  exact x.die [] rfl tR rfl (need_die (bs.getD i blk0).at_ 9) ⟨rfl,rfl,rfl,tR⟩ rfl tR ⟨rfl,rfl⟩
 | false=>
  rw[hp,if_neg (by simp)] at same
  refine x.pure rfl tR rfl (need_ok (bs.getD i blk0).at_ 9) ⟨rfl,rfl,rfl,tR⟩ ?_
  refine x.pure rfl tR rfl (nm3_spec (bs.getD i blk0)) ⟨⟨rfl,veq0_d rfl,rfl,tR⟩,tR⟩ ?_
  refine x.back rfl (by refine⟨hp,by rw[ha],?_⟩;simp only[AllP,inI64];omega) ⟨⟨i+1,acc++[(bs.getD i blk0).name],by omega,by simp [ha],same⟩,by show bs.length-(i+1)<bs.length-i;omega,⟨rfl,rfl,rfl,veq_d rfl,rfl,(show VEq0 (vi ((i:Int)+1)) (vi ((i+1:Nat):Int)) by rw[Int.natCast_add];rfl),tR⟩,⟨rfl,tR⟩,rfl⟩
theorem numF_spec (bs:List Fun) (hl:bs.length*72≤140737488355328):ProcO PG 54 0 [.d (dFuns bs), .fn 55 [], .fn 56 []] [] (nmO [] (.own 0) (nmsF [] (bs.map fun b=>(b.name,b.at_)))):=by
 obtain⟨L,hL⟩:∃L,bs.map (fun b=>(b.name,b.at_))=L:=⟨_,rfl⟩
 have hLl:L.length=bs.length:=by rw[←hL];simp
 have hLi:∀i,i<bs.length->L[i]?=some ((bs.getD i fun0).name,(bs.getD i fun0).at_):=fun i hi=>by rw[←hL,List.getElem?_map,List.getD_eq_getElem?_getD,List.getElem?_eq_getElem hi];rfl
 rw[hL]
 obtain⟨R,hR⟩:∃R,nmsF [] L=R:=⟨_,rfl⟩
 rw[hR]
 refine ProcO.mk (cfg 41) tysOK [0] Tryz.func54 rfl (by kernel_rfl) rfl rfl (by rcases R with⟨a,e⟩ | o<;>rfl) ?_
 intro C x
 refine x.loop (α:=NmW L R) (fun y=>⟨[(1, .fn 55 []),(2, .fn 56 []),(7, .own 0),(13, .d (dFuns bs)),(14,vi (bs.length:Int)),(15,vi (y.i:Int))],[(0, .pos y.acc)],1⟩) (fun y=>bs.length-y.i) ⟨0,[],Nat.zero_le _,rfl,hR⟩ rfl tR ⟨⟨rfl,rfl,rfl,veq_d rfl,rfl,rfl,tR⟩,⟨tR,tR⟩,rfl⟩ (fun y=>?_)
 obtain⟨i,acc,hi,ha,same⟩:=y
 change Go C _ ⟨[(1, .fn 55 []),(2, .fn 56 []),(7, .own 0),(13, .d (dFuns bs)),(14,vi (bs.length:Int)),(15,vi (i:Int))],[(0, .pos acc)],1⟩ _
 refine x.cond rfl tR (fun h1=>?_) (fun h1=>?_)
 rotate_left
 ·have h1:i=bs.length:=by have:=of_decide_eq_false h1;omega
  rw[List.drop_of_length_le (by omega),nmsF] at same
  subst same
  exact x.exit rfl tR ⟨.inr rfl,rfl,⟨rfl,tR⟩,rfl⟩
 have h1:i<bs.length:=by have:=of_decide_eq_true h1;omega
 rw[nms_step (by omega) (hLi i h1)] at same
 refine x.pure rfl (by simp only[AllP];omega) rfl (nmf_spec (bs.getD i fun0)) ⟨⟨rfl,veq0_d rfl,veq0_d rfl,rfl,tR⟩,tR⟩ ?_
 refine x.pure rfl tR rfl (atf_spec (bs.getD i fun0)) ⟨⟨rfl,veq0_d rfl,veq0_d rfl,rfl,tR⟩,tR⟩ ?_
 cases hp:posB acc (bs.getD i fun0).name with
 | true=>
  rw[hp,if_pos rfl] at same
  subst same
  exact x.die [] rfl tR rfl (need_die (bs.getD i fun0).at_ 9) ⟨rfl,rfl,rfl,tR⟩ rfl tR ⟨rfl,rfl⟩
 | false=>
  rw[hp,if_neg (by simp)] at same
  refine x.pure rfl tR rfl (need_ok (bs.getD i fun0).at_ 9) ⟨rfl,rfl,rfl,tR⟩ ?_
  refine x.pure rfl tR rfl (nmf_spec (bs.getD i fun0)) ⟨⟨rfl,veq0_d rfl,veq0_d rfl,rfl,tR⟩,tR⟩ ?_
  refine x.back rfl (by refine⟨hp,by rw[ha],?_⟩;simp only[AllP,inI64];omega) ⟨⟨i+1,acc++[(bs.getD i fun0).name],by omega,by simp [ha],same⟩,by show bs.length-(i+1)<bs.length-i;omega,⟨rfl,rfl,rfl,veq_d rfl,rfl,(show VEq0 (vi ((i:Int)+1)) (vi ((i+1:Nat):Int)) by rw[Int.natCast_add];rfl),tR⟩,⟨rfl,tR⟩,rfl⟩
abbrev resC (r:Res):Ch:=.box [vSs r.p.lev,vU r.p.up,vChs r.p.ins,vChs r.p.outs,vi r.p.depth, .d (dArrs r.q.arrays), .d (dFuns r.q.funcs), .d (.mp r.arrs), .d (.mp r.fns)]
theorem resC_eq (r:Res):ChEq (resC r) (resC r):=⟨veq0_d rfl,veq0_d rfl,veq0_d rfl,veq0_d rfl,rfl,veq0_d rfl,veq0_d rfl,rfl,rfl,tR⟩
abbrev scW (s:Scp):V:=.agg [.d (.mp s.blks), .d (.mp s.vals)]
theorem dst_step {b:List Ins} {j:Nat} (h:j<b.length):dstL (b.drop j)=(if (b.getD j (ins0 0)).dst.data.toList=[] then [] else [((b.getD j (ins0 0)).dst,(b.getD j (ins0 0)).at_)])++dstL (b.drop (j+1)):=by
 have e:b[j]=b.getD j (ins0 0):=by rw[List.getD_eq_getElem?_getD,List.getElem?_eq_getElem h];rfl
 rw[List.drop_eq_getElem_cons h,e,dstL,List.filterMap_cons]
 split<;>rename_i h1
 ·split at h1
  ·rename_i h2;rw[if_pos h2];rfl
  ·cases h1
 ·split at h1
  ·cases h1
  ·rename_i h2;rw[if_neg h2,←Option.some.inj h1];rfl
theorem dsts_step {bs:List Blk} {i:Nat} (h:i<bs.length):dsts (bs.drop i)=dstL (bs.getD i blk0).code++dsts (bs.drop (i+1)):=by
 have e:bs[i]=bs.getD i blk0:=by rw[List.getD_eq_getElem?_getD,List.getElem?_eq_getElem h];rfl
 rw[List.drop_eq_getElem_cons h,e];rfl
structure SpW (bs:List Blk) (R:Flt (List ByteArray)) where
 i:Nat
 acc:List ByteArray
 hi:i≤bs.length
 same:nmsF acc (dsts (bs.drop i))=R
structure SpI (code:List Ins) (L:List (ByteArray×Int)) (R:Flt (List ByteArray)) where
 j:Nat
 acc:List ByteArray
 hj:j≤code.length
 same:nmsF acc (dstL (code.drop j)++L)=R
abbrev spO (r:Res):Flt Scp->Out
 | .ok s=>.ret (scW s) [resC r]
 | .error (a,e)=>dieN a e
structure FunSz (f:Fun):Prop where
 p:f.params.length*16≤140737488355328
 b:f.blocks.length*48≤140737488355328
 c:∀b∈f.blocks,b.code.length*120≤140737488355328
theorem FunSz.at {f:Fun} (h:FunSz f) (i:Nat):(f.blocks.getD i blk0).code.length*120≤140737488355328:=by
 by_cases hi:i<f.blocks.length
 ·rw[List.getD_eq_getElem?_getD,List.getElem?_eq_getElem hi];exact h.c _ (List.getElem_mem hi)
 ·rw[List.getD_eq_getElem?_getD,List.getElem?_eq_none (by omega)];exact Nat.zero_le _
set_option maxHeartbeats 4000000 in
theorem scope_spec (r:Res) (f:Fun) (hf:FunSz f):ProcO PG 57 1 [.ptr 0 0,fnV f] [resC r] (spO r (scpV f)):=by
 have h1:=numS_spec f hf.p
 have h2:=numB_spec f.blocks hf.b
 obtain⟨P,hP⟩:∃P,nmsF [] (f.params.map fun s=>(s,f.at_))=P:=⟨_,rfl⟩
 obtain⟨B,hB⟩:∃B,nmsF [] (f.blocks.map fun b=>(b.name,b.at_))=B:=⟨_,rfl⟩
 rw[scpV,hP,hB]
 rw[hP] at h1
 rw[hB] at h2
 refine ProcO.mk (cfgF 62 1) tysOK [0] Tryz.func57 rfl (by kernel_rfl) rfl rfl (by
  rcases P with⟨a,e⟩ | vs
  ·rfl
  rcases B with⟨a,e⟩ | bs
  ·rfl
  show okOut _ _ _ (spO r (bd (nmsF vs (dsts f.blocks)) _))=true
  rcases nmsF vs (dsts f.blocks) with⟨a,e⟩ | vs'<;>rfl) ?_
 intro C x
 rcases P with⟨a,e⟩ | vs
 ·exact x.die [1] rfl tR rfl h1 ⟨veq_d rfl,rfl,rfl,tR⟩ rfl ⟨fnC_eq f,tR⟩ ⟨rfl,rfl⟩
 refine x.call [1] rfl tR rfl h1 rfl ⟨veq_d rfl,rfl,rfl,tR⟩ ⟨fnC_eq f,tR⟩ ?_
 rcases B with⟨a,e⟩ | bs
 ·exact x.die [] rfl tR rfl h2 ⟨veq_d rfl,rfl,rfl,tR⟩ rfl tR ⟨rfl,rfl⟩
 refine x.call [] rfl tR rfl h2 rfl ⟨veq_d rfl,rfl,rfl,tR⟩ tR ?_
 refine x.toLoop rfl tR ?_
 refine Sx.Go.freeze 4 ?_
 obtain⟨R,hR⟩:∃R,nmsF vs (dsts f.blocks)=R:=⟨_,rfl⟩
 change Go C _ _ (RetO _ _ _ (spO r (bd (nmsF vs (dsts f.blocks)) fun vs'=>.ok ⟨bs,vs'⟩)))
 rw[hR]
 have hfb:=hf.b
 refine x.loop (α:=SpW f.blocks R) (fun y=>⟨[(4, .ptr 2 0),(6, .ptr 5 0),(23, .d (dBlks f.blocks)),(24,vi (f.blocks.length:Int)),(25,vi (y.i:Int))],[(0,resC r),(2, .box [.dead, .dead]),(3, .pos y.acc),(5, .box [.d (.mp bs), .own 3])],6⟩) (fun y=>f.blocks.length-y.i) ⟨0,vs,Nat.zero_le _,hR⟩ rfl tR ⟨⟨⟨rfl,rfl⟩,⟨rfl,rfl⟩,veq_d rfl,rfl,rfl,tR⟩,⟨resC_eq r,⟨rfl,rfl,tR⟩,rfl,⟨rfl,rfl,tR⟩,tR⟩,rfl⟩ (fun y=>?_)
 obtain⟨i,acc,hi,same⟩:=y
 change Go C _ ⟨[(4, .ptr 2 0),(6, .ptr 5 0),(23, .d (dBlks f.blocks)),(24,vi (f.blocks.length:Int)),(25,vi (i:Int))],[(0,resC r),(2, .box [.dead, .dead]),(3, .pos acc),(5, .box [.d (.mp bs), .own 3])],6⟩ _
 refine x.cond rfl tR (fun h3=>?_) (fun h3=>?_)
 rotate_left
 ·have h3:i=f.blocks.length:=by have:=of_decide_eq_false h3;omega
  rw[List.drop_of_length_le (by omega),show dsts []=[] from rfl,nmsF] at same
  subst same
  refine Sx.Go.freeze 3 ?_
  exact x.exit rfl tR ⟨.inr rfl,⟨rfl,rfl,tR⟩,⟨resC_eq r,tR⟩,rfl⟩
 have h3:i<f.blocks.length:=by have:=of_decide_eq_true h3;omega
 rw[dsts_step h3] at same
 have hfc:=hf.at i
 refine x.loop (α:=SpI (f.blocks.getD i blk0).code (dsts (f.blocks.drop (i+1))) R) (fun z=>⟨[(4, .ptr 2 0),(6, .ptr 5 0),(23, .d (dBlks f.blocks)),(24,vi (f.blocks.length:Int)),(25,vi (i:Int)),(30, .d (dCode (f.blocks.getD i blk0).code)),(31,vi ((f.blocks.getD i blk0).code.length:Int)),(32,vi (z.j:Int))],[(0,resC r),(2, .box [.dead, .dead]),(3, .pos z.acc),(5, .box [.d (.mp bs), .own 3])],6⟩) (fun z=>(f.blocks.getD i blk0).code.length-z.j) ⟨0,acc,Nat.zero_le _,by rw[List.drop_zero];exact same⟩ rfl (by simp only[AllP];omega) ⟨⟨⟨rfl,rfl⟩,⟨rfl,rfl⟩,veq_d rfl,rfl,rfl,veq_d rfl,rfl,rfl,tR⟩,⟨resC_eq r,⟨rfl,rfl,tR⟩,rfl,⟨rfl,rfl,tR⟩,tR⟩,rfl⟩ (fun z=>?_)
 clear same
 obtain⟨j,acc,hj,same⟩:=z
 change Go C _ ⟨[(4, .ptr 2 0),(6, .ptr 5 0),(23, .d (dBlks f.blocks)),(24,vi (f.blocks.length:Int)),(25,vi (i:Int)),(30, .d (dCode (f.blocks.getD i blk0).code)),(31,vi ((f.blocks.getD i blk0).code.length:Int)),(32,vi (j:Int))],[(0,resC r),(2, .box [.dead, .dead]),(3, .pos acc),(5, .box [.d (.mp bs), .own 3])],6⟩ _
 refine x.cond rfl tR (fun h4=>?_) (fun h4=>?_)
 rotate_left
 ·have h4:j=(f.blocks.getD i blk0).code.length:=by have:=of_decide_eq_false h4;omega
  rw[List.drop_of_length_le (by omega)] at same
  exact x.back rfl (by simp only[AllP,inI64];omega) ⟨⟨i+1,acc,by omega,same⟩,by show f.blocks.length-(i+1)<f.blocks.length-i;omega,⟨⟨rfl,rfl⟩,⟨rfl,rfl⟩,veq_d rfl,rfl,(show VEq0 (vi ((i:Int)+1)) (vi ((i+1:Nat):Int)) by rw[Int.natCast_add];rfl),tR⟩,⟨resC_eq r,⟨rfl,rfl,tR⟩,rfl,⟨rfl,rfl,tR⟩,tR⟩,rfl⟩
 have h4:j<(f.blocks.getD i blk0).code.length:=by have:=of_decide_eq_true h4;omega
 rw[dst_step h4] at same
 refine x.cond rfl (by simp only[AllP];omega) (fun h5=>?_) (fun h5=>?_)
 ·have h5:((f.blocks.getD i blk0).code.getD j (ins0 0)).dst.data.toList=[]:=of_decide_eq_true h5
  rw[if_pos h5,List.nil_append] at same
  exact x.back rfl (by simp only[AllP,inI64];omega) ⟨⟨j+1,acc,by omega,same⟩,by show (f.blocks.getD i blk0).code.length-(j+1)<(f.blocks.getD i blk0).code.length-j;omega,⟨⟨rfl,rfl⟩,⟨rfl,rfl⟩,veq_d rfl,rfl,rfl,veq_d rfl,rfl,(show VEq0 (vi ((j:Int)+1)) (vi ((j+1:Nat):Int)) by rw[Int.natCast_add];rfl),tR⟩,⟨resC_eq r,⟨rfl,rfl,tR⟩,rfl,⟨rfl,rfl,tR⟩,tR⟩,rfl⟩
 have h5:¬((f.blocks.getD i blk0).code.getD j (ins0 0)).dst.data.toList=[]:=of_decide_eq_false h5
 rw[if_neg h5] at same
 have same:nmsF acc ((((f.blocks.getD i blk0).code.getD j (ins0 0)).dst,((f.blocks.getD i blk0).code.getD j (ins0 0)).at_)::(dstL ((f.blocks.getD i blk0).code.drop (j+1))++dsts (f.blocks.drop (i+1))))=R:=same
 rw[nmsF] at same
 cases hp:posB acc ((f.blocks.getD i blk0).code.getD j (ins0 0)).dst with
 | true=>
  rw[hp,if_pos rfl] at same
  subst same
  exact x.die [] rfl tR rfl (need_die ((f.blocks.getD i blk0).code.getD j (ins0 0)).at_ 9) ⟨(show VEq0 (vb (!posB acc ((f.blocks.getD i blk0).code.getD j (ins0 0)).dst)) (vb false) by rw[hp];exact rfl),rfl,rfl,tR⟩ rfl tR ⟨rfl,rfl⟩
 | false=>
  rw[hp,if_neg (by simp)] at same
  refine x.pure rfl tR rfl (need_ok ((f.blocks.getD i blk0).code.getD j (ins0 0)).at_ 9) ⟨(show VEq0 (vb (!posB acc ((f.blocks.getD i blk0).code.getD j (ins0 0)).dst)) (vb true) by rw[hp];exact rfl),rfl,rfl,tR⟩ ?_
  exact x.back rfl (by refine⟨hp,rfl,?_⟩;simp only[AllP,inI64];omega) ⟨⟨j+1,acc++[((f.blocks.getD i blk0).code.getD j (ins0 0)).dst],by omega,same⟩,by show (f.blocks.getD i blk0).code.length-(j+1)<(f.blocks.getD i blk0).code.length-j;omega,⟨⟨rfl,rfl⟩,⟨rfl,rfl⟩,veq_d rfl,rfl,rfl,veq_d rfl,rfl,(show VEq0 (vi ((j:Int)+1)) (vi ((j+1:Nat):Int)) by rw[Int.natCast_add];rfl),tR⟩,⟨resC_eq r,⟨rfl,rfl,tR⟩,rfl,⟨rfl,rfl,tR⟩,tR⟩,rfl⟩
abbrev rfO (r:Res):Flt (Int×Int)->Out
 | .ok n=>.ret (.tup [vi n.1,vi n.2]) [resC r]
 | .error (a,e)=>dieN a e
theorem lookV_ok {l:List ByteArray} {s:ByteArray} (h:posB l s=true) (a:Int):lookV l s a=.ok (posN l s):=by rw[lookV,if_pos h]
theorem lookV_no {l:List ByteArray} {s:ByteArray} (h:posB l s=false) (a:Int):lookV l s a=.error (a,10):=by rw[lookV,if_neg (by rw[h];simp)]
abbrev insC (x:Ins):Ch:=.box [.d (.int .u8 x.kind), .d (.int .u8 x.op),vs x.dst,vs x.ref,vs x.alt, .d (dStrs x.args), .d (dStrs x.frm),vi x.num,vi x.at_]
theorem insC_eq (x:Ins):ChEq (insC x) (insC x):=⟨rfl,rfl,rfl,rfl,rfl,veq0_d rfl,veq0_d rfl,rfl,rfl,tR⟩
abbrev scC (s:Scp):Ch:=.box [.d (.mp s.blks), .d (.mp s.vals)]
theorem scC_eq (s:Scp):ChEq (scC s) (scC s):=⟨rfl,rfl,tR⟩
set_option maxHeartbeats 8000000 in
theorem refs_spec (r:Res) (s:Scp) (x0:Ins) (hz:PolSz r.p):ProcO PG 157 1 [.ptr 0 0,scW s,xD x0] [resC r] (rfO r (refsV r s x0)):=by
 obtain⟨i1,i2,i3,i4⟩:=polSz_i64 hz
 obtain⟨R,hR⟩:∃R,refsV r s x0=R:=⟨_,rfl⟩
 rw[hR]
 unfold refsV at hR
 refine ProcO.mk (cfgF 118 1) tysOK [0] Tryz.func157 rfl (by kernel_rfl) rfl rfl (by rcases R with⟨a,e⟩ | o<;>rfl) ?_
 intro C x
 refine x.ite (α:=Unit) (fun _=>⟨[(0, .ptr 0 0),(4, .ptr 1 0),(5, .ptr 2 0),(6,vi 0),(7,vi 0),(15, .d (.int .u8 x0.kind)),(16,vb (decide (x0.kind=4∨x0.kind=5∨x0.kind=6)))],[(0,resC r),(1,scC s),(2,insC x0)],3⟩) rfl tR (fun h=>?_) (fun h=>?_) (fun _=>?_)
 ·have h:x0.kind=4:=of_decide_eq_true h
  refine x.back rfl tR ⟨(),⟨⟨rfl,rfl⟩,⟨rfl,rfl⟩,⟨rfl,rfl⟩,rfl,rfl,rfl,?_,tR⟩,⟨resC_eq r,scC_eq s,insC_eq x0,tR⟩,rfl⟩
  show VEq0 (vb (decide (x0.kind=4))) (vb _)
  rw[decide_eq_true h,decide_eq_true (.inl h)];exact rfl
 ·have h:¬x0.kind=4:=of_decide_eq_false h
  refine x.cond rfl tR (fun h5=>?_) (fun h5=>?_)
  ·have h5:x0.kind=5:=of_decide_eq_true h5
   refine x.back rfl tR ⟨(),⟨⟨rfl,rfl⟩,⟨rfl,rfl⟩,⟨rfl,rfl⟩,rfl,rfl,rfl,?_,tR⟩,⟨resC_eq r,scC_eq s,insC_eq x0,tR⟩,rfl⟩
   show VEq0 (vb (decide (x0.kind=5))) (vb _)
   rw[decide_eq_true h5,decide_eq_true (.inr (.inl h5))];exact rfl
  ·have h5:¬x0.kind=5:=of_decide_eq_false h5
   refine x.back rfl tR ⟨(),⟨⟨rfl,rfl⟩,⟨rfl,rfl⟩,⟨rfl,rfl⟩,rfl,rfl,rfl,?_,tR⟩,⟨resC_eq r,scC_eq s,insC_eq x0,tR⟩,rfl⟩
   show VEq0 (vb (decide (x0.kind=6))) (vb _)
   rw[show decide (x0.kind=4∨x0.kind=5∨x0.kind=6)=decide (x0.kind=6) by rw[decide_eq_decide];omega];exact rfl
 change Go C _ ⟨[(0, .ptr 0 0),(4, .ptr 1 0),(5, .ptr 2 0),(6,vi 0),(7,vi 0),(15, .d (.int .u8 x0.kind)),(16,vb (decide (x0.kind=4∨x0.kind=5∨x0.kind=6)))],[(0,resC r),(1,scC s),(2,insC x0)],3⟩ _
 refine x.cond rfl tR (fun h=>?_) (fun h=>?_)
 ·have h:x0.kind=4∨x0.kind=5∨x0.kind=6:=of_decide_eq_true h
  rw[if_pos h] at hR
  cases hp:posB r.arrs x0.ref with
  | false=>
   rw[lookV_no hp,bd] at hR
   subst hR
   refine x.draw [] [] [0,1,2,3,4,5,6,7] [8] [9] rfl tR mixedP (by kernel_rfl) RetO.quiet rfl tR (fun C1 x1=>?_)
   exact x1.die [] rfl tR rfl (look_die hp x0.at_) ⟨rfl,rfl,rfl,tR⟩ rfl tR ⟨⟨_,rfl⟩,rfl,rfl,rfl⟩
  | true=>
   rw[lookV_ok hp,bd] at hR
   subst hR
   refine x.draw [] [] [0,1,2,3,4,5,6,7] [8] [9] rfl tR mixedP (by kernel_rfl) RetO.quiet rfl tR (fun C1 x1=>?_)
   refine x1.pure rfl tR rfl (look_ok hp x0.at_) ⟨rfl,rfl,rfl,tR⟩ ?_
   refine x1.back rfl tR ?_
   exact x.exit rfl tR ⟨.inr rfl,⟨rfl,rfl,tR⟩,⟨resC_eq r,tR⟩,rfl⟩
 have h4:¬(x0.kind=4∨x0.kind=5∨x0.kind=6):=of_decide_eq_false h
 rw[if_neg h4] at hR
 refine x.cond rfl tR (fun h=>?_) (fun h=>?_)
 ·have h:x0.kind=7:=of_decide_eq_true h
  rw[if_pos h] at hR
  cases hp:posB r.fns x0.ref with
  | false=>
   rw[lookV_no hp,bd] at hR
   subst hR
   refine x.draw [] [] [0,1,2,3,4,5,6,7] [8] [9] rfl tR mixedP (by kernel_rfl) RetO.quiet rfl tR (fun C1 x1=>?_)
   exact x1.die [] rfl tR rfl (look_die hp x0.at_) ⟨rfl,rfl,rfl,tR⟩ rfl tR ⟨⟨_,rfl⟩,rfl,rfl,rfl⟩
  | true=>
   rw[lookV_ok hp,bd] at hR
   subst hR
   refine x.draw [] [] [0,1,2,3,4,5,6,7] [8] [9] rfl tR mixedP (by kernel_rfl) RetO.quiet rfl tR (fun C1 x1=>?_)
   refine x1.pure rfl tR rfl (look_ok hp x0.at_) ⟨rfl,rfl,rfl,tR⟩ ?_
   refine x1.back rfl tR ?_
   exact x.exit rfl tR ⟨.inr rfl,⟨rfl,rfl,tR⟩,⟨resC_eq r,tR⟩,rfl⟩
 have h7:¬x0.kind=7:=of_decide_eq_false h
 rw[if_neg h7] at hR
 refine x.cond rfl tR (fun h=>?_) (fun h=>?_)
 ·have h:x0.kind=8:=of_decide_eq_true h
  rw[if_pos h] at hR
  refine x.quiet rfl tR mixedP (by kernel_rfl) ?_
  refine x.qcall rfl tR rfl (input_spec r.p.ins x0.ref i3) rfl rfl ⟨⟨rfl,rfl,veq0_d rfl,rfl,rfl,tR⟩,rfl,tR⟩ ?_
  refine x.qdone rfl tR ?_
  by_cases hp:0≤idxC r.p.ins x0.ref
  ·rw[knownV,if_pos hp,bd] at hR
   subst hR
   refine x.pure rfl tR rfl (known_ok (idxC r.p.ins x0.ref) x0.at_) ⟨(show VEq0 (vi (if 0 > idxC r.p.ins x0.ref then 0 else idxC r.p.ins x0.ref)) (vi (idxC r.p.ins x0.ref)) by rw[if_neg (by omega)];exact rfl),(show VEq0 (vb (decide (0≤idxC r.p.ins x0.ref))) (vb true) by rw[decide_eq_true hp];exact rfl),rfl,tR⟩ ?_
   exact x.exit rfl tR ⟨.inr rfl,⟨rfl,rfl,tR⟩,⟨resC_eq r,tR⟩,rfl⟩
  ·rw[knownV,if_neg hp,bd] at hR
   subst hR
   exact x.die [] rfl tR rfl (known_die _ x0.at_) ⟨rfl,(show VEq0 (vb (decide (0≤idxC r.p.ins x0.ref))) (vb false) by rw[decide_eq_false hp];exact rfl),rfl,tR⟩ rfl tR ⟨rfl,rfl⟩
 have h8:¬x0.kind=8:=of_decide_eq_false h
 rw[if_neg h8] at hR
 refine x.cond rfl tR (fun h=>?_) (fun h=>?_)
 ·have h:x0.kind=9:=of_decide_eq_true h
  rw[if_pos h] at hR
  refine x.quiet rfl tR mixedP (by kernel_rfl) ?_
  refine x.qcall rfl tR rfl (output_spec r.p.outs x0.ref i4) rfl rfl ⟨⟨rfl,rfl,rfl,veq0_d rfl,rfl,tR⟩,rfl,tR⟩ ?_
  refine x.qdone rfl tR ?_
  by_cases hp:0≤idxC r.p.outs x0.ref
  ·rw[knownV,if_pos hp,bd] at hR
   subst hR
   refine x.pure rfl tR rfl (known_ok (idxC r.p.outs x0.ref) x0.at_) ⟨(show VEq0 (vi (if 0 > idxC r.p.outs x0.ref then 0 else idxC r.p.outs x0.ref)) (vi (idxC r.p.outs x0.ref)) by rw[if_neg (by omega)];exact rfl),(show VEq0 (vb (decide (0≤idxC r.p.outs x0.ref))) (vb true) by rw[decide_eq_true hp];exact rfl),rfl,tR⟩ ?_
   exact x.exit rfl tR ⟨.inr rfl,⟨rfl,rfl,tR⟩,⟨resC_eq r,tR⟩,rfl⟩
  ·rw[knownV,if_neg hp,bd] at hR
   subst hR
   exact x.die [] rfl tR rfl (known_die _ x0.at_) ⟨rfl,(show VEq0 (vb (decide (0≤idxC r.p.outs x0.ref))) (vb false) by rw[decide_eq_false hp];exact rfl),rfl,tR⟩ rfl tR ⟨rfl,rfl⟩
 have h9:¬x0.kind=9:=of_decide_eq_false h
 rw[if_neg h9] at hR
 refine x.cond rfl tR (fun h=>?_) (fun h=>?_)
 ·have h:x0.kind=10:=of_decide_eq_true h
  rw[if_pos h] at hR
  refine x.quiet rfl tR mixedP (by kernel_rfl) ?_
  refine x.qcall rfl tR rfl (level_spec r.p.lev x0.ref i1) rfl rfl ⟨⟨veq0_d rfl,rfl,rfl,rfl,rfl,tR⟩,rfl,tR⟩ ?_
  refine x.qdone rfl tR ?_
  by_cases hp:0≤idxS r.p.lev x0.ref
  ·rw[knownV,if_pos hp,bd] at hR
   subst hR
   refine x.pure rfl tR rfl (known_ok (idxS r.p.lev x0.ref) x0.at_) ⟨(show VEq0 (vi (if 0 > idxS r.p.lev x0.ref then 0 else idxS r.p.lev x0.ref)) (vi (idxS r.p.lev x0.ref)) by rw[if_neg (by omega)];exact rfl),(show VEq0 (vb (decide (0≤idxS r.p.lev x0.ref))) (vb true) by rw[decide_eq_true hp];exact rfl),rfl,tR⟩ ?_
   exact x.exit rfl tR ⟨.inr rfl,⟨rfl,rfl,tR⟩,⟨resC_eq r,tR⟩,rfl⟩
  ·rw[knownV,if_neg hp,bd] at hR
   subst hR
   exact x.die [] rfl tR rfl (known_die _ x0.at_) ⟨rfl,(show VEq0 (vb (decide (0≤idxS r.p.lev x0.ref))) (vb false) by rw[decide_eq_false hp];exact rfl),rfl,tR⟩ rfl tR ⟨rfl,rfl⟩
 have h10:¬x0.kind=10:=of_decide_eq_false h
 rw[if_neg h10] at hR
 refine x.cond rfl tR (fun h=>?_) (fun h=>?_)
 ·have h:x0.kind=11:=of_decide_eq_true h
  rw[if_pos h] at hR
  cases hp:posB s.blks x0.ref with
  | false=>
   rw[lookV_no hp,bd] at hR
   subst hR
   exact x.die [] rfl tR rfl (look_die hp x0.at_) ⟨rfl,rfl,rfl,tR⟩ rfl tR ⟨rfl,rfl⟩
  | true=>
   rw[lookV_ok hp,bd] at hR
   subst hR
   refine x.pure rfl tR rfl (look_ok hp x0.at_) ⟨rfl,rfl,rfl,tR⟩ ?_
   exact x.exit rfl tR ⟨.inr rfl,⟨rfl,rfl,tR⟩,⟨resC_eq r,tR⟩,rfl⟩
 have h11:¬x0.kind=11:=of_decide_eq_false h
 rw[if_neg h11] at hR
 refine x.cond rfl tR (fun h=>?_) (fun h=>?_)
 ·have h:x0.kind=12:=of_decide_eq_true h
  rw[if_pos h] at hR
  cases hp:posB s.blks x0.ref with
  | false=>
   rw[lookV_no hp,bd] at hR
   subst hR
   refine x.draw [] [] [0,1,2,3,4,5,7,8,9,10,11,12] [6] [13,14,15] rfl tR mixedP (by kernel_rfl) RetO.quiet rfl tR (fun C1 x1=>?_)
   exact x1.die [] rfl tR rfl (look_die hp x0.at_) ⟨rfl,rfl,rfl,tR⟩ rfl tR ⟨⟨_,rfl⟩,rfl,rfl,rfl⟩
  | true=>
   rw[lookV_ok hp,bd] at hR
   cases hp2:posB s.blks x0.alt with
   | false=>
    rw[lookV_no hp2,bd] at hR
    subst hR
    refine x.draw [] [] [0,1,2,3,4,5,7,8,9,10,11,12] [6,13] [14,15] rfl tR mixedP (by kernel_rfl) RetO.quiet rfl tR (fun C1 x1=>?_)
    refine x1.pure rfl tR rfl (look_ok hp x0.at_) ⟨rfl,rfl,rfl,tR⟩ ?_
    refine x1.back rfl tR ?_
    exact x1.die [] rfl tR rfl (look_die hp2 x0.at_) ⟨rfl,rfl,rfl,tR⟩ rfl tR ⟨⟨_,rfl⟩,rfl,rfl,rfl⟩
   | true=>
    rw[lookV_ok hp2,bd] at hR
    subst hR
    refine x.draw [] [] [0,1,2,3,4,5,7,8,9,10,11,12] [6,13] [14,15] rfl tR mixedP (by kernel_rfl) RetO.quiet rfl tR (fun C1 x1=>?_)
    refine x1.pure rfl tR rfl (look_ok hp x0.at_) ⟨rfl,rfl,rfl,tR⟩ ?_
    refine x1.back rfl tR ?_
    refine x1.pure rfl tR rfl (look_ok hp2 x0.at_) ⟨rfl,rfl,rfl,tR⟩ ?_
    refine x1.back rfl tR ?_
    exact x.exit rfl tR ⟨.inr rfl,⟨rfl,rfl,tR⟩,⟨resC_eq r,tR⟩,rfl⟩
 have h12:¬x0.kind=12:=of_decide_eq_false h
 rw[if_neg h12] at hR
 subst hR
 exact x.exit rfl tR ⟨.inr rfl,⟨rfl,rfl,tR⟩,⟨resC_eq r,tR⟩,rfl⟩
theorem posO_lt (s:ByteArray):∀(i:Nat) (l:List ByteArray) (n:Nat),posO i l s=some n->i≤n∧n<i+l.length
 | _,[],_,h=>by cases h
 | i,a::l,n,h=>by
  unfold posO at h
  split at h
  ·cases h;simp
  ·have:=posO_lt s (i+1) l n h
   simp only[List.length_cons];omega
theorem posN_lt {l:List ByteArray} {s:ByteArray} (h:posB l s=true):0≤posN l s∧posN l s<(l.length:Int):=by
 unfold posB at h
 unfold posN
 cases hp:posO 0 l s with
 | none=>rw[hp] at h;cases h
 | some n=>
  have:=posO_lt s 0 l n hp
  show (0:Int)≤(n:Int)∧(n:Int)<_
  omega
abbrev vecNum (l:List Int):Ch:=.vec 3 1 l.length fun i=>[.int .i64 (l.getD i 0)]
structure LkW (l:List ByteArray) (a:Int) (L:List ByteArray) (R:Flt (List Int)) where
 i:Nat
 acc:List Int
 hi:i≤L.length
 ha:acc.length=i
 same:looksF l a (L.drop i) acc=R
theorem looks_step {l:List ByteArray} {a:Int} {L:List ByteArray} {i:Nat} (h:i<L.length) (acc:List Int):looksF l a (L.drop i) acc=bd (lookV l (L.getD i .empty) a) fun n=>looksF l a (L.drop (i+1)) (acc++[n]):=by
 have e:L[i]=L.getD i .empty:=by rw[List.getD_eq_getElem?_getD,List.getElem?_eq_getElem h];rfl
 rw[List.drop_eq_getElem_cons h,e,looksF]
theorem app_num (o:List Int) (n:Int) (j:Nat) (hj:j<o.length+1):app o.length (fun i=>[D.int .i64 (o.getD i 0)]) (fun _=>[D.int .i64 n]) j=[D.int .i64 ((o++[n]).getD j 0)]:=app_gen6 (fun n:Int=>[D.int .i64 n]) 1 (fun _=>rfl) 0 o n j hj
structure InsSz (x:Ins):Prop where
 a:x.args.length*16≤140737488355328
 f:x.frm.length*16≤140737488355328
abbrev opO (r:Res):Flt Op9->Out
 | .ok y=>.ret (opW y) [resC r]
 | .error (a,e)=>dieN a e
set_option maxHeartbeats 16000000 in
theorem op9_spec (r:Res) (s:Scp) (x0:Ins) (hz:PolSz r.p) (hx:InsSz x0) (hfn:r.fns.length=r.q.funcs.length):ProcO PG 109 1 [.ptr 0 0,scW s,xD x0] [resC r] (opO r (op9V r s x0)):=by
 have hrefs:=refs_spec r s x0 hz
 have hxa:=hx.a
 have hxf:=hx.f
 obtain⟨Q,hQ⟩:∃Q,op9V r s x0=Q:=⟨_,rfl⟩
 rw[hQ]
 unfold op9V at hQ
 have hk7:∀ra,refsV r s x0=.ok ra->x0.kind=7->0≤ra.1∧ra.1<(r.q.funcs.length:Int):=fun ra h k=>by
  unfold refsV at h
  rw[if_neg (by omega),if_pos k] at h
  obtain⟨n,h1,h2⟩:=bd_ok h
  cases h2
  unfold lookV at h1
  split at h1
  ·rename_i hp
   cases h1
   have:=posN_lt hp
   rw[←hfn];exact this
  ·cases h1
 obtain⟨RA,hRA⟩:∃RA,refsV r s x0=RA:=⟨_,rfl⟩
 rw[hRA] at hrefs hQ hk7
 refine ProcO.mk (cfgF 99 1) tysOK [0] Tryz.func109 rfl (by kernel_rfl) rfl rfl (by rcases Q with⟨a,e⟩ | o<;>rfl) ?_
 intro C x
 rcases RA with⟨a,e⟩ | ra
 ·rw[bd] at hQ
  subst hQ
  exact x.die [0] rfl tR rfl hrefs ⟨⟨rfl,rfl⟩,⟨rfl,rfl,tR⟩,⟨rfl,rfl,rfl,rfl,rfl,veq0_d rfl,veq0_d rfl,rfl,rfl,tR⟩,tR⟩ rfl ⟨resC_eq r,tR⟩ ⟨rfl,rfl⟩
 rw[bd] at hQ
 have hk7:=hk7 ra rfl
 refine x.call [0] rfl tR rfl hrefs rfl ⟨⟨rfl,rfl⟩,⟨rfl,rfl,tR⟩,⟨rfl,rfl,rfl,rfl,rfl,veq0_d rfl,veq0_d rfl,rfl,rfl,tR⟩,tR⟩ ⟨resC_eq r,tR⟩ ?_
 obtain⟨AZ,hAZ⟩:∃AZ,looksF s.vals x0.at_ x0.args []=AZ:=⟨_,rfl⟩
 rw[hAZ] at hQ
 refine x.toLoop rfl tR ?_
 refine Go.ownB 4 5 3 1 (fun i=>[.int .i64 (([]:List Int).getD i 0)]) rfl rfl ?_
 refine x.loop (α:=LkW s.vals x0.at_ x0.args AZ) (fun y=>⟨[(0, .ptr 0 0),(4, .ptr 1 0),(5, .ptr 2 0),(6, .ptr 3 0),(7, .ptr 4 0),(31, .d (dStrs x0.args)),(32,vi (x0.args.length:Int)),(33,vi (y.i:Int))],[(0,resC r),(1,scC s),(2,insC x0),(3, .box [.dead, .dead, .dead, .dead, .dead, .dead, .dead, .dead, .dead]),(4, .box [.d (.int .u8 x0.kind), .d (.int .u8 x0.op),vi (-1),vi ra.1,vi ra.2, .own 5, .nils,vi x0.num,vi x0.at_]),(5,vecNum y.acc)],6⟩) (fun y=>x0.args.length-y.i) ⟨0,[],Nat.zero_le _,rfl,hAZ⟩ rfl tR ⟨⟨⟨rfl,rfl⟩,⟨rfl,rfl⟩,⟨rfl,rfl⟩,⟨rfl,rfl⟩,⟨rfl,rfl⟩,veq_d rfl,rfl,rfl,tR⟩,⟨resC_eq r,scC_eq s,insC_eq x0,⟨rfl,rfl,rfl,rfl,rfl,rfl,rfl,rfl,rfl,tR⟩,⟨rfl,rfl,rfl,rfl,rfl,rfl,tR,rfl,rfl,tR⟩,⟨rfl,rfl,rfl,fun _ h=>absurd h (Nat.not_lt_zero _)⟩,tR⟩,rfl⟩ (fun y=>?_)
 obtain⟨i,az,hi,ha,same⟩:=y
 change Go C _ ⟨[(0, .ptr 0 0),(4, .ptr 1 0),(5, .ptr 2 0),(6, .ptr 3 0),(7, .ptr 4 0),(31, .d (dStrs x0.args)),(32,vi (x0.args.length:Int)),(33,vi (i:Int))],[(0,resC r),(1,scC s),(2,insC x0),(3, .box [.dead, .dead, .dead, .dead, .dead, .dead, .dead, .dead, .dead]),(4, .box [.d (.int .u8 x0.kind), .d (.int .u8 x0.op),vi (-1),vi ra.1,vi ra.2, .own 5, .nils,vi x0.num,vi x0.at_]),(5,vecNum az)],6⟩ _
 refine x.cond rfl tR (fun h1=>?_) (fun h1=>?_)
 ·have h1:i<x0.args.length:=by have:=of_decide_eq_true h1;omega
  rw[looks_step h1] at same
  cases hp:posB s.vals (x0.args.getD i .empty) with
  | false=>
   rw[lookV_no hp,bd] at same
   subst same
   rw[bd] at hQ
   subst hQ
   refine x.every3D 4 [4,5] [0,2,3,4,5,6] (.fork 1 (.fork 7 (.fork 8 (.fork 9 (.fork 10 (.fork 11 .leaf .no) .no) .no) .no) .no) (.fork 7 (.fork 1 (.fork 8 (.fork 9 (.fork 10 (.fork 11 .leaf .no) .no) .no) .no) (.fork 8 (.fork 1 (.fork 9 (.fork 10 (.fork 11 .leaf .no) .no) .no) .no) .no)) .no)) rfl (by simp only[AllP];omega) mixedP rfl (by kernel_rfl) RetO.quiet rfl tR (fun C2 x2=>?_)
   repeat' first
    | exact True.intro
    | refine And.intro ?_ ?_
    | exact x2.die [] rfl tR rfl (look_die hp x0.at_) ⟨rfl,rfl,rfl,tR⟩ rfl tR ⟨⟨_,rfl⟩,rfl,rfl,rfl⟩
    | refine x2.back rfl tR ?_
  | true=>
   rw[lookV_ok hp,bd] at same
   refine x.every3Q 4 [4,5] [0,2,3,4,5,6] (.fork 1 (.fork 7 (.fork 8 (.fork 9 (.fork 10 (.fork 11 .leaf .no) .no) .no) .no) .no) (.fork 7 (.fork 1 (.fork 8 (.fork 9 (.fork 10 (.fork 11 .leaf .no) .no) .no) .no) (.fork 8 (.fork 1 (.fork 9 (.fork 10 (.fork 11 .leaf .no) .no) .no) .no) .no)) .no))
    ⟨[(0, .ptr 0 0),(4, .ptr 1 0),(5, .ptr 2 0),(6, .ptr 3 0),(7, .ptr 4 0),(31, .d (dStrs x0.args)),(32,vi (x0.args.length:Int)),(33,vi (i:Int))],[(4, .box [.d (.int .u8 x0.kind), .d (.int .u8 x0.op),vi (-1),vi ra.1,vi ra.2, .own 5, .nils,vi x0.num,vi x0.at_]),(5,vecNum (az++[posN s.vals (x0.args.getD i .empty)]))],6⟩ rfl (by simp only[AllP];omega) mixedP rfl (by kernel_rfl) RetO.quiet rfl tR (fun C2 x2=>?_) ?_
   ·repeat' first
     | exact True.intro
     | refine And.intro ?_ ?_
     | refine x2.pure rfl tR rfl (look_ok hp x0.at_) ⟨rfl,rfl,rfl,tR⟩ (x2.back rfl tR ?_)
     | refine x2.back rfl tR ?_
     | refine x2.back rfl (by simp only[AllP,big];omega) ?_
     | exact Or.inl ⟨⟨⟨rfl,rfl⟩,⟨rfl,rfl⟩,⟨rfl,rfl⟩,⟨rfl,rfl⟩,⟨rfl,rfl⟩,veq_d rfl,rfl,rfl,tR⟩,⟨⟨rfl,rfl,rfl,rfl,rfl,rfl,tR,rfl,rfl,tR⟩,⟨rfl,rfl,by simp,app_num az _⟩,tR⟩,rfl⟩
   exact x.back rfl (by simp only[AllP,inI64];omega) ⟨⟨i+1,az++[posN s.vals (x0.args.getD i .empty)],by omega,by simp [ha],same⟩,by show x0.args.length-(i+1)<x0.args.length-i;omega,⟨⟨rfl,rfl⟩,⟨rfl,rfl⟩,⟨rfl,rfl⟩,⟨rfl,rfl⟩,⟨rfl,rfl⟩,veq_d rfl,rfl,(show VEq0 (vi ((i:Int)+1)) (vi ((i+1:Nat):Int)) by rw[Int.natCast_add];rfl),tR⟩,⟨resC_eq r,scC_eq s,insC_eq x0,⟨rfl,rfl,rfl,rfl,rfl,rfl,rfl,rfl,rfl,tR⟩,⟨rfl,rfl,rfl,rfl,rfl,rfl,tR,rfl,rfl,tR⟩,⟨rfl,rfl,rfl,fun _ _=>rfl⟩,tR⟩,rfl⟩
 have h1:i=x0.args.length:=by have:=of_decide_eq_false h1;omega
 rw[List.drop_of_length_le (by omega),looksF] at same
 subst same
 rw[bd] at hQ
 obtain⟨FZ,hFZ⟩:∃FZ,looksF s.blks x0.at_ x0.frm []=FZ:=⟨_,rfl⟩
 rw[hFZ] at hQ
 refine Sx.Go.freeze 5 ?_
 refine x.toLoop rfl tR ?_
 refine Go.ownB 4 6 3 1 (fun i=>[.int .i64 (([]:List Int).getD i 0)]) rfl rfl ?_
 refine x.loop (α:=LkW s.blks x0.at_ x0.frm FZ) (fun y=>⟨[(0, .ptr 0 0),(4, .ptr 1 0),(5, .ptr 2 0),(6, .ptr 3 0),(7, .ptr 4 0),(50, .d (dStrs x0.frm)),(51,vi (x0.frm.length:Int)),(52,vi (y.i:Int))],[(0,resC r),(1,scC s),(2,insC x0),(3, .box [.dead, .dead, .dead, .dead, .dead, .dead, .dead, .dead, .dead]),(4, .box [.d (.int .u8 x0.kind), .d (.int .u8 x0.op),vi (-1),vi ra.1,vi ra.2, .d (dNums az), .own 6,vi x0.num,vi x0.at_]),(6,vecNum y.acc)],7⟩) (fun y=>x0.frm.length-y.i) ⟨0,[],Nat.zero_le _,rfl,hFZ⟩ rfl tR ⟨⟨⟨rfl,rfl⟩,⟨rfl,rfl⟩,⟨rfl,rfl⟩,⟨rfl,rfl⟩,⟨rfl,rfl⟩,veq_d rfl,rfl,rfl,tR⟩,⟨resC_eq r,scC_eq s,insC_eq x0,⟨rfl,rfl,rfl,rfl,rfl,rfl,rfl,rfl,rfl,tR⟩,⟨rfl,rfl,rfl,rfl,rfl,veq0_d rfl,rfl,rfl,rfl,tR⟩,⟨rfl,rfl,rfl,fun _ h=>absurd h (Nat.not_lt_zero _)⟩,tR⟩,rfl⟩ (fun y=>?_)
 obtain⟨i,acc,hi,ha,same⟩:=y
 change Go C _ ⟨[(0, .ptr 0 0),(4, .ptr 1 0),(5, .ptr 2 0),(6, .ptr 3 0),(7, .ptr 4 0),(50, .d (dStrs x0.frm)),(51,vi (x0.frm.length:Int)),(52,vi (i:Int))],[(0,resC r),(1,scC s),(2,insC x0),(3, .box [.dead, .dead, .dead, .dead, .dead, .dead, .dead, .dead, .dead]),(4, .box [.d (.int .u8 x0.kind), .d (.int .u8 x0.op),vi (-1),vi ra.1,vi ra.2, .d (dNums az), .own 6,vi x0.num,vi x0.at_]),(6,vecNum acc)],7⟩ _
 refine x.cond rfl tR (fun h1=>?_) (fun h1=>?_)
 ·have h1:i<x0.frm.length:=by have:=of_decide_eq_true h1;omega
  rw[looks_step h1] at same
  cases hp:posB s.blks (x0.frm.getD i .empty) with
  | false=>
   rw[lookV_no hp,bd] at same
   subst same
   rw[bd] at hQ
   subst hQ
   refine x.every3D 4 [4,6] [0,2,3,4,5,6] (.fork 1 (.fork 7 (.fork 8 (.fork 9 (.fork 10 (.fork 11 .leaf .no) .no) .no) .no) .no) (.fork 7 (.fork 1 (.fork 8 (.fork 9 (.fork 10 (.fork 11 .leaf .no) .no) .no) .no) (.fork 8 (.fork 1 (.fork 9 (.fork 10 (.fork 11 .leaf .no) .no) .no) .no) .no)) .no)) rfl (by simp only[AllP];omega) mixedP rfl (by kernel_rfl) RetO.quiet rfl tR (fun C2 x2=>?_)
   repeat' first
    | exact True.intro
    | refine And.intro ?_ ?_
    | exact x2.die [] rfl tR rfl (look_die hp x0.at_) ⟨rfl,rfl,rfl,tR⟩ rfl tR ⟨⟨_,rfl⟩,rfl,rfl,rfl⟩
    | refine x2.back rfl tR ?_
  | true=>
   rw[lookV_ok hp,bd] at same
   refine x.every3Q 4 [4,6] [0,2,3,4,5,6] (.fork 1 (.fork 7 (.fork 8 (.fork 9 (.fork 10 (.fork 11 .leaf .no) .no) .no) .no) .no) (.fork 7 (.fork 1 (.fork 8 (.fork 9 (.fork 10 (.fork 11 .leaf .no) .no) .no) .no) (.fork 8 (.fork 1 (.fork 9 (.fork 10 (.fork 11 .leaf .no) .no) .no) .no) .no)) .no))
    ⟨[(0, .ptr 0 0),(4, .ptr 1 0),(5, .ptr 2 0),(6, .ptr 3 0),(7, .ptr 4 0),(50, .d (dStrs x0.frm)),(51,vi (x0.frm.length:Int)),(52,vi (i:Int))],[(4, .box [.d (.int .u8 x0.kind), .d (.int .u8 x0.op),vi (-1),vi ra.1,vi ra.2, .d (dNums az), .own 6,vi x0.num,vi x0.at_]),(6,vecNum (acc++[posN s.blks (x0.frm.getD i .empty)]))],7⟩ rfl (by simp only[AllP];omega) mixedP rfl (by kernel_rfl) RetO.quiet rfl tR (fun C2 x2=>?_) ?_
   ·repeat' first
     | exact True.intro
     | refine And.intro ?_ ?_
     | refine x2.pure rfl tR rfl (look_ok hp x0.at_) ⟨rfl,rfl,rfl,tR⟩ (x2.back rfl tR ?_)
     | refine x2.back rfl tR ?_
     | refine x2.back rfl (by simp only[AllP,big];omega) ?_
     | exact Or.inl ⟨⟨⟨rfl,rfl⟩,⟨rfl,rfl⟩,⟨rfl,rfl⟩,⟨rfl,rfl⟩,⟨rfl,rfl⟩,veq_d rfl,rfl,rfl,tR⟩,⟨⟨rfl,rfl,rfl,rfl,rfl,veq0_d rfl,rfl,rfl,rfl,tR⟩,⟨rfl,rfl,by simp,app_num acc _⟩,tR⟩,rfl⟩
   exact x.back rfl (by simp only[AllP,inI64];omega) ⟨⟨i+1,acc++[posN s.blks (x0.frm.getD i .empty)],by omega,by simp [ha],same⟩,by show x0.frm.length-(i+1)<x0.frm.length-i;omega,⟨⟨rfl,rfl⟩,⟨rfl,rfl⟩,⟨rfl,rfl⟩,⟨rfl,rfl⟩,⟨rfl,rfl⟩,veq_d rfl,rfl,(show VEq0 (vi ((i:Int)+1)) (vi ((i+1:Nat):Int)) by rw[Int.natCast_add];rfl),tR⟩,⟨resC_eq r,scC_eq s,insC_eq x0,⟨rfl,rfl,rfl,rfl,rfl,rfl,rfl,rfl,rfl,tR⟩,⟨rfl,rfl,rfl,rfl,rfl,veq0_d rfl,rfl,rfl,rfl,tR⟩,⟨rfl,rfl,rfl,fun _ _=>rfl⟩,tR⟩,rfl⟩
 have h1:i=x0.frm.length:=by have:=of_decide_eq_false h1;omega
 rw[List.drop_of_length_le (by omega),looksF] at same
 subst same
 rw[bd] at hQ
 refine Sx.Go.freeze 6 ?_
 have hpl:(parsN r.q ra.1:Int)=((r.q.funcs.getD ra.1.toNat fun0).params.length:Int):=rfl
 refine x.ite (α:=PLift (¬(x0.kind=7∧x0.args.length≠parsN r.q ra.1))) (fun _=>⟨[(0, .ptr 0 0),(4, .ptr 1 0),(5, .ptr 2 0),(6, .ptr 3 0),(7, .ptr 4 0)],[(0,resC r),(1,scC s),(2,insC x0),(3, .box [.dead, .dead, .dead, .dead, .dead, .dead, .dead, .dead, .dead]),(4, .box [.d (.int .u8 x0.kind), .d (.int .u8 x0.op),vi (-1),vi ra.1,vi ra.2, .d (dNums az), .d (dNums acc),vi x0.num,vi x0.at_])],7⟩) rfl tR (fun h=>?_) (fun h=>?_) (fun y=>?_)
 ·have h:x0.kind=7:=of_decide_eq_true h
  have hk:=hk7 h
  by_cases hn:x0.args.length=parsN r.q ra.1
  ·refine x.quiet rfl tR mixedP (by kernel_rfl) ?_
   refine x.qcall rfl (by simp only[AllP];omega) rfl (need_ok x0.at_ 13) rfl rfl ⟨(show VEq0 (vb (decide ((x0.args.length:Int)=(parsN r.q ra.1:Int)))) (vb true) by rw[hn,decide_eq_true rfl];exact rfl),rfl,rfl,tR⟩ ?_
   refine x.qdone rfl tR ?_
   exact x.back rfl tR ⟨⟨fun hh=>hh.2 hn⟩,⟨⟨rfl,rfl⟩,⟨rfl,rfl⟩,⟨rfl,rfl⟩,⟨rfl,rfl⟩,⟨rfl,rfl⟩,tR⟩,⟨resC_eq r,scC_eq s,insC_eq x0,⟨rfl,rfl,rfl,rfl,rfl,rfl,rfl,rfl,rfl,tR⟩,⟨rfl,rfl,rfl,rfl,rfl,veq0_d rfl,veq0_d rfl,rfl,rfl,tR⟩,tR⟩,rfl⟩
  ·rw[if_pos ⟨h,hn⟩] at hQ
   subst hQ
   refine x.every3D 7 [] [0,1,2,3,4,5,6,7,8,9,10,11,12,13,14,15,16] (.fork 17 .leaf .no) rfl tR mixedP rfl (by kernel_rfl) RetO.quiet rfl (by simp only[AllP];omega) (fun C1 x1=>?_)
   exact⟨x1.die [] rfl tR rfl (need_die x0.at_ 13) ⟨(show VEq0 (vb (decide ((x0.args.length:Int)=(parsN r.q ra.1:Int)))) (vb false) by rw[decide_eq_false (by omega)];exact rfl),rfl,rfl,tR⟩ rfl tR ⟨⟨_,rfl⟩,rfl,rfl,rfl⟩,tR⟩
 ·have h:¬x0.kind=7:=of_decide_eq_false h
  exact x.back rfl tR ⟨⟨fun hh=>h hh.1⟩,⟨⟨rfl,rfl⟩,⟨rfl,rfl⟩,⟨rfl,rfl⟩,⟨rfl,rfl⟩,⟨rfl,rfl⟩,tR⟩,⟨resC_eq r,scC_eq s,insC_eq x0,⟨rfl,rfl,rfl,rfl,rfl,rfl,rfl,rfl,rfl,tR⟩,⟨rfl,rfl,rfl,rfl,rfl,veq0_d rfl,veq0_d rfl,rfl,rfl,tR⟩,tR⟩,rfl⟩
 rw[if_neg y.down] at hQ
 subst hQ
 change Go C _ ⟨[(0, .ptr 0 0),(4, .ptr 1 0),(5, .ptr 2 0),(6, .ptr 3 0),(7, .ptr 4 0)],[(0,resC r),(1,scC s),(2,insC x0),(3, .box [.dead, .dead, .dead, .dead, .dead, .dead, .dead, .dead, .dead]),(4, .box [.d (.int .u8 x0.kind), .d (.int .u8 x0.op),vi (-1),vi ra.1,vi ra.2, .d (dNums az), .d (dNums acc),vi x0.num,vi x0.at_])],7⟩ _
 refine x.cond rfl tR (fun h=>?_) (fun h=>?_)
 ·have h:(!decide (x0.dst.data.toList=[]))=true:=h
  have h:¬x0.dst.data.toList=[]:=by simpa using h
  rw[if_neg h]
  exact x.exit rfl tR ⟨.inr rfl,⟨rfl,rfl,rfl,rfl,rfl,veq0_d rfl,veq0_d rfl,rfl,rfl,tR⟩,⟨resC_eq r,tR⟩,rfl⟩
 ·have h:(!decide (x0.dst.data.toList=[]))=false:=h
  have h:x0.dst.data.toList=[]:=by simpa using h
  rw[if_pos h]
  exact x.exit rfl tR ⟨.inr rfl,⟨rfl,rfl,rfl,rfl,rfl,veq0_d rfl,veq0_d rfl,rfl,rfl,tR⟩,⟨resC_eq r,tR⟩,rfl⟩
abbrev bkC (b:Blk):Ch:=.box [vs b.name, .d (dCode b.code),vi b.at_]
theorem bkC_eq (b:Blk):ChEq (bkC b) (bkC b):=⟨rfl,veq0_d rfl,rfl,tR⟩
abbrev vecOp (l:List Op9):Ch:=.vec 72 9 l.length fun i=>dOp (l.getD i op0)
structure BlkSz (b:Blk):Prop where
 c:b.code.length*120≤140737488355328
 x:∀x∈b.code,InsSz x
abbrev bkO (r:Res):Flt (List Op9)->Out
 | .ok l=>.ret (.d (dOps l)) [resC r]
 | .error (a,e)=>dieN a e
structure BkW (r:Res) (s:Scp) (code:List Ins) (R:Flt (List Op9)) where
 i:Nat
 acc:List Op9
 hi:i≤code.length
 ha:acc.length=i
 same:opsF r s code (code.length-i) i acc=R
set_option maxHeartbeats 16000000 in
theorem block9_spec (r:Res) (s:Scp) (b:Blk) (hz:PolSz r.p) (hb:BlkSz b) (hfn:r.fns.length=r.q.funcs.length):ProcO PG 58 1 [.ptr 0 0,scW s,blkW b] [resC r] (bkO r (blk9V r s b)):=by
 have hbc:=hb.c
 obtain⟨Q,hQ⟩:∃Q,blk9V r s b=Q:=⟨_,rfl⟩
 rw[hQ]
 unfold blk9V at hQ
 refine ProcO.mk (cfgF 79 1) tysOK [0] Tryz.func58 rfl (by kernel_rfl) rfl rfl (by rcases Q with⟨a,e⟩ | o<;>rfl) ?_
 intro C x
 have hval:(decide (0≤(b.code.length:Int)-1)&&isEnd (b.code.getD (if (0:Int) > (b.code.length:Int)-1 then 0 else (b.code.length:Int)-1).toNat (ins0 0)).kind)=endOK b:=by
  unfold endOK
  by_cases h:1≤b.code.length
  ·rw[if_neg (by omega),show ((b.code.length:Int)-1).toNat=b.code.length-1 by omega,decide_eq_true (by omega),decide_eq_true h]
  ·rw[decide_eq_false (by omega),decide_eq_false h];rfl
 cases he:endOK b with
 | false=>
  rw[he,if_neg (by simp)] at hQ
  subst hQ
  refine x.every3D 3 [] [0,1,2,3,4,5,6,7,8,9,12,13] (.fork 10 (.fork 11 (.fork 14 .leaf .no) .no) .no) rfl (by simp only[AllP,inI64];omega) mixedP rfl (by kernel_rfl) RetO.quiet rfl ?_ (fun C1 x1=>?_)
  ·simp only[AllP]
   intro h
   have h:=of_decide_eq_true h
   rw[if_neg (by omega)]
   omega
  ·refine⟨x1.pureG rfl tR rfl (fun _=>ends_spec (b.code.getD (if (0:Int) > (b.code.length:Int)-1 then 0 else (b.code.length:Int)-1).toNat (ins0 0)).kind) rfl ⟨rfl,tR⟩ (x1.back rfl tR ⟨x1.back rfl tR ⟨?_,tR⟩,tR⟩),tR⟩
   exact x1.die [] rfl tR rfl (need_die b.at_ 15) ⟨(show VEq0 (vb (decide (0≤(b.code.length:Int)-1)&&isEnd (b.code.getD (if (0:Int) > (b.code.length:Int)-1 then 0 else (b.code.length:Int)-1).toNat (ins0 0)).kind)) (vb false) by rw[hval,he];exact rfl),rfl,rfl,tR⟩ rfl tR ⟨⟨_,rfl⟩,rfl,rfl,rfl⟩
 | true=>
  rw[he,if_pos rfl] at hQ
  refine x.quiet rfl (by simp only[AllP,inI64];omega) mixedP (by kernel_rfl) ?_
  refine x.qcallG rfl ?_ rfl (fun _=>ends_spec (b.code.getD (if (0:Int) > (b.code.length:Int)-1 then 0 else (b.code.length:Int)-1).toNat (ins0 0)).kind) rfl rfl ⟨rfl,tR⟩ ?_
  ·simp only[AllP]
   intro h
   have h:=of_decide_eq_true h
   rw[if_neg (by omega)]
   omega
  refine x.qcall rfl tR rfl (need_ok b.at_ 15) rfl rfl ⟨(show VEq0 (vb (decide (0≤(b.code.length:Int)-1)&&isEnd (b.code.getD (if (0:Int) > (b.code.length:Int)-1 then 0 else (b.code.length:Int)-1).toNat (ins0 0)).kind)) (vb true) by rw[hval,he];exact rfl),rfl,rfl,tR⟩ ?_
  refine x.qdone rfl tR ?_
  refine x.toLoop rfl tR ?_
  refine Go.own 8 72 9 (fun i=>dOp (([]:List Op9).getD i op0)) rfl ?_
  refine x.loop (α:=BkW r s b.code Q) (fun y=>⟨[(0, .ptr 0 0),(4, .ptr 1 0),(5, .ptr 2 0),(7,vi ((b.code.length:Int)-1)),(8, .own 3),(31, .d (dCode b.code)),(32,vi (b.code.length:Int)),(33,vi (y.i:Int))],[(0,resC r),(1,scC s),(2,bkC b),(3,vecOp y.acc)],4⟩) (fun y=>b.code.length-y.i) ⟨0,[],Nat.zero_le _,rfl,hQ⟩ rfl tR ⟨⟨⟨rfl,rfl⟩,⟨rfl,rfl⟩,⟨rfl,rfl⟩,rfl,rfl,veq_d rfl,rfl,rfl,tR⟩,⟨resC_eq r,scC_eq s,bkC_eq b,⟨rfl,rfl,rfl,fun _ h=>absurd h (Nat.not_lt_zero _)⟩,tR⟩,rfl⟩ (fun y=>?_)
  obtain⟨i,acc,hi,ha,same⟩:=y
  change Go C _ ⟨[(0, .ptr 0 0),(4, .ptr 1 0),(5, .ptr 2 0),(7,vi ((b.code.length:Int)-1)),(8, .own 3),(31, .d (dCode b.code)),(32,vi (b.code.length:Int)),(33,vi (i:Int))],[(0,resC r),(1,scC s),(2,bkC b),(3,vecOp acc)],4⟩ _
  refine x.cond rfl tR (fun h1=>?_) (fun h1=>?_)
  rotate_left
  ·have h1:i=b.code.length:=by have:=of_decide_eq_false h1;omega
   rw[h1,Nat.sub_self,opsF] at same
   subst same
   refine Sx.Go.freeze 3 ?_
   exact x.exit rfl tR ⟨.inr rfl,veq_d rfl,⟨resC_eq r,tR⟩,rfl⟩
  have h1:i<b.code.length:=by have:=of_decide_eq_true h1;omega
  rw[show b.code.length-i=(b.code.length-(i+1))+1 by omega,opsF] at same
  have hxs:InsSz (b.code.getD i (ins0 0)):=hb.x _ (by rw[List.getD_eq_getElem?_getD,List.getElem?_eq_getElem h1];exact List.getElem_mem h1)
  have hop:=op9_spec r s (b.code.getD i (ins0 0)) hz hxs hfn
  have v1:((!isEnd (b.code.getD i (ins0 0)).kind)||decide ((i:Int)=(b.code.length:Int)-1))=!decide (isEnd (b.code.getD i (ins0 0)).kind=true∧i+1≠b.code.length):=by
   rw[show decide ((i:Int)=(b.code.length:Int)-1)=!decide (i+1≠b.code.length) by rw[←decide_not,decide_eq_decide];omega]
   cases isEnd (b.code.getD i (ins0 0)).kind<;>cases hd:decide (i+1≠b.code.length)<;>simp_all
  have v2:(((!decide ((b.code.getD i (ins0 0)).kind=3))||decide ((i:Int)=0))||decide ((b.code.getD ((i:Int)-1).toNat (ins0 0)).kind=3))=!decide ((b.code.getD i (ins0 0)).kind=3∧i≠0∧(b.code.getD (i-1) (ins0 0)).kind≠3):=by
   rw[show ((i:Int)-1).toNat=i-1 by omega,show decide ((i:Int)=0)=!decide (i≠0) by rw[←decide_not,decide_eq_decide];omega]
   by_cases c1:(b.code.getD i (ins0 0)).kind=3<;>by_cases c2:i≠0<;>by_cases c3:(b.code.getD (i-1) (ins0 0)).kind=3<;>simp [c1,c2,c3]
  have hidx:((!decide ((b.code.getD i (ins0 0)).kind=3))||decide ((i:Int)=0))=false->0≤(i:Int)-1∧(i:Int)-1<(b.code.length:Int):=fun h=>by
   rw[Bool.or_eq_false_iff] at h
   have:=of_decide_eq_false h.2
   omega
  by_cases c1:isEnd (b.code.getD i (ins0 0)).kind=true∧i+1≠b.code.length
  ·rw[insV9,if_pos c1,bd] at same
   subst same
   refine x.every3D 5 [] [0,1,9,10] (.fork 2 (.fork 3 (.fork 4 (.fork 5 (.fork 6 (.fork 7 (.fork 8 (.fork 11 .leaf .no) .no) .no) .no) (.fork 6 (.fork 5 (.fork 7 (.fork 8 (.fork 11 .leaf .no) .no) .no) .no) .no)) .no) .no) .no) rfl (by simp only[AllP];omega) mixedP rfl (by kernel_rfl) RetO.quiet rfl tR (fun C1 x1=>?_)
   repeat' first
    | exact True.intro
    | refine And.intro ?_ ?_
    | refine x1.pure rfl tR rfl (ends_spec (b.code.getD i (ins0 0)).kind) ⟨rfl,tR⟩ (x1.back rfl tR ?_)
    | exact x1.die [] rfl tR rfl (need_die (b.code.getD i (ins0 0)).at_ 15) ⟨(show VEq0 (vb ((!isEnd (b.code.getD i (ins0 0)).kind)||decide ((i:Int)=(b.code.length:Int)-1))) (vb false) by rw[v1,decide_eq_true c1];exact rfl),rfl,rfl,tR⟩ rfl tR ⟨⟨_,rfl⟩,rfl,rfl,rfl⟩
    | refine x1.back rfl tR ?_
  refine x.quiet rfl (by simp only[AllP];omega) mixedP (by kernel_rfl) ?_
  refine x.qcall rfl tR rfl (ends_spec (b.code.getD i (ins0 0)).kind) rfl rfl ⟨rfl,tR⟩ ?_
  refine x.qcall rfl tR rfl (need_ok (b.code.getD i (ins0 0)).at_ 15) rfl rfl ⟨(show VEq0 (vb ((!isEnd (b.code.getD i (ins0 0)).kind)||decide ((i:Int)=(b.code.length:Int)-1))) (vb true) by rw[v1,decide_eq_false c1];exact rfl),rfl,rfl,tR⟩ ?_
  refine x.qdone rfl tR ?_
  by_cases c2:(b.code.getD i (ins0 0)).kind=3∧i≠0∧(b.code.getD (i-1) (ins0 0)).kind≠3
  ·rw[insV9,if_neg c1,if_pos c2,bd] at same
   subst same
   refine x.every3D 5 [] [0,1,2,3,4,5,6,7,8,9,10,11,12,13,14,15,16,17,18] (.fork 19 .leaf .no) rfl tR mixedP rfl (by kernel_rfl) RetO.quiet rfl ?_ (fun C1 x1=>?_)
   ·simp only[AllP,inI64]
    refine⟨fun h=>?_,fun h=>?_⟩
    all_goals (have:=hidx h;omega)
   ·exact⟨x1.die [] rfl tR rfl (need_die (b.code.getD i (ins0 0)).at_ 18) ⟨(show VEq0 (vb (((!decide ((b.code.getD i (ins0 0)).kind=3))||decide ((i:Int)=0))||decide ((b.code.getD ((i:Int)-1).toNat (ins0 0)).kind=3))) (vb false) by rw[v2,decide_eq_true c2];exact rfl),rfl,rfl,tR⟩ rfl tR ⟨⟨_,rfl⟩,rfl,rfl,rfl⟩,tR⟩
  refine x.quiet rfl tR mixedP (by kernel_rfl) ?_
  refine x.qcall rfl ?_ rfl (need_ok (b.code.getD i (ins0 0)).at_ 18) rfl rfl ⟨(show VEq0 (vb (((!decide ((b.code.getD i (ins0 0)).kind=3))||decide ((i:Int)=0))||decide ((b.code.getD ((i:Int)-1).toNat (ins0 0)).kind=3))) (vb true) by rw[v2,decide_eq_false c2];exact rfl),rfl,rfl,tR⟩ ?_
  ·simp only[AllP,inI64]
   refine⟨fun h=>?_,fun h=>?_⟩
   all_goals (have:=hidx h;omega)
  refine x.qdone rfl tR ?_
  rw[insV9,if_neg c1,if_neg c2] at same
  obtain⟨Y,hY⟩:∃Y,op9V r s (b.code.getD i (ins0 0))=Y:=⟨_,rfl⟩
  rw[hY] at hop same
  rcases Y with⟨a,e⟩ | y
  ·rw[bd] at same
   subst same
   exact x.die [0] rfl tR rfl hop ⟨⟨rfl,rfl⟩,⟨rfl,rfl,tR⟩,⟨rfl,rfl,rfl,rfl,rfl,veq0_d rfl,veq0_d rfl,rfl,rfl,tR⟩,tR⟩ rfl ⟨resC_eq r,tR⟩ ⟨rfl,rfl⟩
  ·rw[bd] at same
   refine x.call [0] rfl tR rfl hop rfl ⟨⟨rfl,rfl⟩,⟨rfl,rfl,tR⟩,⟨rfl,rfl,rfl,rfl,rfl,veq0_d rfl,veq0_d rfl,rfl,rfl,tR⟩,tR⟩ ⟨resC_eq r,tR⟩ ?_
   exact x.back rfl (by simp only[AllP,inI64,big];omega) ⟨⟨i+1,acc++[y],by omega,by simp [ha],same⟩,by show b.code.length-(i+1)<b.code.length-i;omega,⟨⟨rfl,rfl⟩,⟨rfl,rfl⟩,⟨rfl,rfl⟩,rfl,rfl,veq_d rfl,rfl,(show VEq0 (vi ((i:Int)+1)) (vi ((i+1:Nat):Int)) by rw[Int.natCast_add];rfl),tR⟩,⟨resC_eq r,scC_eq s,bkC_eq b,⟨rfl,rfl,by simp,fun j hj=>app_gen6 dOp 9 (fun _=>rfl) op0 acc y j hj⟩,tR⟩,rfl⟩
abbrev okL:Nat:=140737488355328
abbrev bigN:Nat:=10000000000000
theorem pname_spec (s:ByteArray) (hs:s.size≤okL):Pure PG 98 [vs s] (vb (okN s)) []:=by
 refine Proc.mk (cfg 10) tysOK [] Tryz.func98 rfl (by kernel_rfl) rfl rfl rfl ?_
 intro C x
 refine x.pure rfl tR rfl (name_spec s (by unfold okL at hs;omega)) ⟨rfl,tR⟩ ?_
 refine x.pureG rfl tR rfl (fun _=>word_spec s) rfl ⟨rfl,tR⟩ ?_
 refine x.exit rfl tR ?_
 refine⟨.inr rfl,?_,tR,rfl⟩
 rfl
theorem allN_F (l:List ByteArray):allF7 (fun i=>okN (l.getD i .empty)) l.length 0=allN l:=by
 rw[Bool.eq_iff_iff,allF7_iff]
 unfold allN
 rw[List.all_eq_true]
 constructor
 ·intro h x hx
  obtain⟨i,hi,rfl⟩:=List.getElem_of_mem hx
  have:=h i (Nat.zero_le _) (by omega)
  rwa [List.getD_eq_getElem?_getD,List.getElem?_eq_getElem hi] at this
 ·intro h j _ hj
  exact h _ (getD_mem (by omega))
theorem pnames_spec (l:List ByteArray) (hl:l.length≤bigN) (hs:∀a,a∈l->a.size≤okL):Pure PG 153 [.d (dStrs l)] (vb (allN l)) []:=by
 refine Proc.mk (cfg 15) tysOK [] Tryz.func153 rfl (by kernel_rfl) rfl rfl rfl ?_
 intro C x
 unfold bigN at hl
 obtain⟨R,hR⟩:∃R,allN l=R:=⟨_,rfl⟩
 have hR2:allF7 (fun i=>okN (l.getD i .empty)) l.length 0=R:=by rw[allN_F];exact hR
 rw[hR]
 refine x.loop (α:=AW (fun i=>okN (l.getD i .empty)) l.length R) (fun y=>⟨[(5, .d (dStrs l)),(6,vi l.length),(7,vi (y.i:Int))],[],0⟩) (fun y=>l.length-y.i) ⟨0,Nat.zero_le _,hR2⟩ rfl tR ⟨⟨veq_d rfl,rfl,rfl,tR⟩,tR,rfl⟩ (fun y=>?_)
 obtain⟨i,hi,same⟩:=y
 change Go C _ ⟨[(5, .d (dStrs l)),(6,vi l.length),(7,vi (i:Int))],[],0⟩ _
 refine x.cond rfl tR (fun h2=>?_) (fun h2=>?_)
 ·have h2:(i:Int)<(l.length:Int):=of_decide_eq_true h2
  have h2:i<l.length:=by omega
  refine x.pure rfl (by simp only[AllP];omega) rfl (pname_spec (l.getD ((i:Int).toNat) .empty) (hs _ (by rw[Int.toNat_natCast];exact getD_mem h2))) ⟨rfl,tR⟩ ?_
  rw[Int.toNat_natCast]
  refine x.cond rfl tR (fun h3=>?_) (fun h3=>?_)
  ·have h3:(!okN (l.getD i .empty))=true:=h3
   refine x.exit rfl tR ?_
   rw[AW.stop h2 same (by simpa using h3)]
   exact⟨.inr rfl,rfl,tR,rfl⟩
  ·have h3:(!okN (l.getD i .empty))=false:=h3
   refine x.back rfl (by simp only[AllP,inI64];omega) ⟨⟨i+1,by omega,AW.step h2 same (by simpa using h3)⟩,by show l.length-(i+1)<l.length-i;omega,⟨veq_d rfl,rfl,?_,tR⟩,tR,rfl⟩
   show VEq0 (vi ((i:Int)+1)) (vi ((i+1:Nat):Int));rw[Int.natCast_add];rfl
 ·have h2:¬(i:Int)<(l.length:Int):=of_decide_eq_false h2
  refine x.exit rfl tR ?_
  rw[AW.fin (by omega) hi same]
  exact⟨.inr rfl,rfl,tR,rfl⟩
theorem fits_spec (s:ByteArray) (b:Bool) (hs:s.size≤okL):Pure PG 183 [vs s,vb b] (vb (fitsV s b)) []:=by
 refine Proc.mk (cfg 18) tysOK [] Tryz.func183 rfl (by kernel_rfl) rfl rfl rfl ?_
 intro C x
 refine x.pureG rfl tR rfl (fun _=>pname_spec s hs) rfl ⟨rfl,tR⟩ ?_
 refine x.exit rfl tR ?_
 refine⟨.inr rfl,?_,tR,rfl⟩
 unfold fitsV
 cases b
 ·rfl
 ·cases okN s<;>rfl
theorem opname_spec (o:Int) (h0:0≤o) (h1:o<256):Pure PG 161 [.d (.int .u8 o)] (vs (opName o)) []:=by
 refine Proc.mk (cfg 9) tysOK [] Tryz.func161 rfl (by kernel_rfl) rfl rfl rfl ?_
 intro C x
 refine x.cond rfl (by simp only[AllP,inI64];omega) (fun h=>?_) (fun h=>?_)
 ·have h:13≤o:=of_decide_eq_true h
  refine x.exit rfl tR ?_
  unfold opName
  rw[if_pos h]
  exact⟨.inr rfl,rfl,tR,rfl⟩
 ·have h:¬13≤o:=of_decide_eq_false h
  refine x.glob (fun j=>.str (opAt j)) rfl tR rfl names_at ⟨h0,by omega⟩ ?_
  refine x.exit rfl tR ?_
  unfold opName
  rw[if_neg h]
  exact⟨.inr rfl,rfl,tR,rfl⟩
def shapesT:List (Key×V):=[(.inr 1, .agg [vi 0,vb true,vb false,vb false]),(.inr 2, .agg [vi 2,vb true,vb false,vb false]),(.inr 4, .agg [vi 1,vb true,vb true,vb false]),(.inr 5, .agg [vi 1,vb true,vb true,vb false]),(.inr 6, .agg [vi 2,vb false,vb true,vb false]),(.inr 7, .agg [vi (-1),vb true,vb true,vb false]),(.inr 8, .agg [vi 0,vb true,vb true,vb false]),(.inr 9, .agg [vi 1,vb false,vb true,vb false]),(.inr 10, .agg [vi 1,vb true,vb true,vb false]),(.inr 11, .agg [vi 0,vb false,vb true,vb false]),(.inr 12, .agg [vi 1,vb false,vb true,vb true]),(.inr 13, .agg [vi 1,vb false,vb false,vb false])]
theorem shapes_spec:Pure PG 182 [] (.own 0) [.tbl shapesT]:=by
 refine Proc.mk (cfg 15) tysOK [0] Tryz.func182 rfl (by kernel_rfl) rfl rfl rfl ?_
 intro C x
 refine x.exit rfl ?_ ?_
 ·simp only[AllP,newKey,keyEq]
  simp
 ·exact⟨.inr rfl,rfl,⟨⟨rfl,rfl,rfl,rfl,rfl,rfl,rfl,rfl,rfl,rfl,rfl,rfl,rfl,rfl,rfl,rfl,rfl,rfl,rfl,rfl,rfl,rfl,rfl,rfl,tR⟩,tR⟩,rfl⟩
theorem lkGoals_of {k:Key} {G:V->Bool->Prop} {z:V}:∀{es:List (Key×V)},G ((tblAt k es).getD z) (tblAt k es).isSome->lkGoals k G z es
 | [],h=>h
 | (a,v)::r,h=>by
  unfold tblAt at h
  refine⟨fun hk=>?_,fun hk=>?_⟩
  ·rw[if_pos hk] at h;exact h
  ·rw[if_neg hk] at h;exact lkGoals_of h
theorem tbl_pos {k n:Int} {v:V} {r:List (Key×V)} (e:k=n):tblAt (.inr k) ((.inr n,v)::r)=some v:=by
 unfold tblAt
 exact if_pos e
theorem tbl_neg {k n:Int} {v:V} {r:List (Key×V)} (e:¬k=n):tblAt (.inr k) ((.inr n,v)::r)=tblAt (.inr k) r:=by
 conv=>lhs;unfold tblAt
 exact if_neg e
def shV (p:Int×Bool×Bool×Bool):V:=.agg [vi p.1,vb p.2.1,vb p.2.2.1,vb p.2.2.2]
theorem shapes_at (k:Int):tblAt (.inr k) shapesT=(shapeV k).map shV:=by
 unfold shapesT shapeV
 by_cases e1:k=1
 ·rw[tbl_pos e1,if_pos e1];rfl
 rw[tbl_neg e1,if_neg e1]
 by_cases e2:k=2
 ·rw[tbl_pos e2,if_pos e2];rfl
 rw[tbl_neg e2,if_neg e2]
 by_cases e4:k=4
 ·rw[tbl_pos e4,if_pos e4];rfl
 rw[tbl_neg e4,if_neg e4]
 by_cases e5:k=5
 ·rw[tbl_pos e5,if_pos e5];rfl
 rw[tbl_neg e5,if_neg e5]
 by_cases e6:k=6
 ·rw[tbl_pos e6,if_pos e6];rfl
 rw[tbl_neg e6,if_neg e6]
 by_cases e7:k=7
 ·rw[tbl_pos e7,if_pos e7];rfl
 rw[tbl_neg e7,if_neg e7]
 by_cases e8:k=8
 ·rw[tbl_pos e8,if_pos e8];rfl
 rw[tbl_neg e8,if_neg e8]
 by_cases e9:k=9
 ·rw[tbl_pos e9,if_pos e9];rfl
 rw[tbl_neg e9,if_neg e9]
 by_cases e10:k=10
 ·rw[tbl_pos e10,if_pos e10];rfl
 rw[tbl_neg e10,if_neg e10]
 by_cases e11:k=11
 ·rw[tbl_pos e11,if_pos e11];rfl
 rw[tbl_neg e11,if_neg e11]
 by_cases e12:k=12
 ·rw[tbl_pos e12,if_pos e12];rfl
 rw[tbl_neg e12,if_neg e12]
 by_cases e13:k=13
 ·rw[tbl_pos e13,if_pos e13];rfl
 rw[tbl_neg e13,if_neg e13]
 rfl
theorem lk_some {k:Int} {G:V->Bool->Prop} {z:V} {q:Int×Bool×Bool×Bool} (h:shapeV k=some q) (g:G (shV q) true):lkGoals (.inr k) G z shapesT:=
 lkGoals_of (by rw[shapes_at,h];exact g)
theorem lk_none {k:Int} {G:V->Bool->Prop} {z:V} (h:shapeV k=none) (g:G z false):lkGoals (.inr k) G z shapesT:=
 lkGoals_of (by rw[shapes_at,h];exact g)
end Go.Proofs.YtojhdmfkfkfcbaaGreatDoor
namespace Go.Proofs.YtojhdmfkfkfcbaaGreatDoor
open Go.Sx
set_option linter.unusedVariables false
set_option linter.unusedSimpArgs false
abbrev insV (x:Ins):V:=.agg [.d (.int .u8 x.kind), .d (.int .u8 x.op),vs x.dst,vs x.ref,vs x.alt, .d (dStrs x.args), .d (dStrs x.frm),vi x.num,vi x.at_]
end Go.Proofs.YtojhdmfkfkfcbaaGreatDoor
namespace Go.Proofs.YtojhdmfkfkfcbaaGreatDoor
open Go.Sx
set_option linter.unusedVariables false
set_option linter.unusedSimpArgs false
set_option maxRecDepth 100000
structure FitI (x:Ins):Prop where
 kind:0≤x.kind∧x.kind<256
 op:0≤x.op∧x.op<256
 dst:x.dst.size≤okL
 ref:x.ref.size≤okL
 alt:x.alt.size≤okL
 alen:x.args.length≤bigN
 flen:x.frm.length≤bigN
 args:∀a,a∈x.args->a.size≤okL
 frm:∀a,a∈x.frm->a.size≤okL
 num:inI64 x.num
set_option maxHeartbeats 8000000 in
theorem right_spec (x0:Ins) (hx:FitI x0):Pure PG 154 [insV x0] (vb (rightI x0)) []:=by
 refine Proc.mk (cfg 135) tysOK [] Tryz.func154 rfl (by kernel_rfl) rfl rfl rfl ?_
 intro C x
 have ha:=hx.alen;have hf:=hx.flen
 unfold bigN at ha hf
 refine x.pureG rfl tR rfl (fun _ _=>opname_spec x0.op hx.op.1 hx.op.2) rfl ⟨rfl,tR⟩ ?_
 refine x.pureG rfl tR rfl (fun _=>pnames_spec x0.args hx.alen hx.args) rfl ⟨veq_d rfl,tR⟩ ?_
 refine x.pureG rfl tR rfl (fun _=>pnames_spec x0.frm hx.flen hx.frm) rfl ⟨veq_d rfl,tR⟩ ?_
 refine x.cond rfl tR (fun h=>?_) (fun h=>?_)
 ·have h:(!((!decide (x0.op=0)) == decide (x0.kind=2))||(!decide (x0.op=0)&&decide ((opName x0.op).data.toList=[]))||(!decide (x0.num=0)&&!decide (x0.kind=1))||!allN x0.args||!allN x0.frm)=true:=h
  refine x.exit rfl tR ?_
  refine⟨.inr rfl,?_,tR,rfl⟩
  show false=rightI x0
  unfold rightI
  rw[if_pos (by simpa only[ne_eq,decide_not,bne] using h)]
 have h:(!((!decide (x0.op=0)) == decide (x0.kind=2))||(!decide (x0.op=0)&&decide ((opName x0.op).data.toList=[]))||(!decide (x0.num=0)&&!decide (x0.kind=1))||!allN x0.args||!allN x0.frm)=false:=h
 have hA:((decide (x0.op≠0) != decide (x0.kind=2))||(decide (x0.op≠0)&&decide ((opName x0.op).data.toList=[]))||(decide (x0.num≠0)&&decide (x0.kind≠1))||!allN x0.args||!allN x0.frm)=false:=by simpa only[ne_eq,decide_not,bne] using h
 clear h
 unfold rightI
 rw[if_neg (by rw[hA];decide)]
 refine x.cond rfl tR (fun h2=>?_) (fun h2=>?_)
 ·have h2:x0.kind=3:=of_decide_eq_true h2
  rw[if_pos h2]
  refine x.pure rfl tR rfl (pname_spec x0.dst hx.dst) ⟨rfl,tR⟩ ?_
  refine x.exit rfl tR ?_
  refine⟨.inr rfl,?_,tR,rfl⟩
  show (okN x0.dst&&decide (x0.ref.data.toList=[])&&decide (x0.alt.data.toList=[])&&decide ((x0.frm.length:Int)=x0.args.length)&&decide (1≤(x0.frm.length:Int))&&decide ((x0.frm.length:Int)≤64))=_
  rw[show decide ((x0.frm.length:Int)=x0.args.length)=decide (x0.frm.length=x0.args.length) by rw[decide_eq_decide];omega,show decide (1≤(x0.frm.length:Int))=decide (1≤x0.frm.length) by rw[decide_eq_decide];omega,show decide ((x0.frm.length:Int)≤64)=decide (x0.frm.length≤64) by rw[decide_eq_decide];omega]
 have h2:¬x0.kind=3:=of_decide_eq_false h2
 rw[if_neg h2]
 cases hsh:shapeV x0.kind with
 | none=>
  refine x.every2 [] [1,2] (.fork 0 (.fork 3 (.fork 4 (.fork 5 (.fork 6 (.fork 7 (.fork 8 (.fork 9 .leaf .no) .no) .no) (.fork 7 (.fork 6 (.fork 8 (.fork 9 .leaf .no) .no) (.fork 8 (.fork 6 (.fork 9 .leaf .no) .no) .no)) .no)) (.fork 6 (.fork 5 (.fork 7 (.fork 8 (.fork 9 .leaf .no) .no) .no) (.fork 7 (.fork 5 (.fork 8 (.fork 9 .leaf .no) .no) .no) .no)) (.fork 7 (.fork 5 (.fork 6 (.fork 8 (.fork 9 .leaf .no) .no) (.fork 8 (.fork 6 (.fork 9 .leaf .no) .no) .no)) (.fork 6 (.fork 5 (.fork 8 (.fork 9 .leaf .no) .no) .no) .no)) .no))) (.fork 7 (.fork 4 (.fork 5 (.fork 6 (.fork 8 (.fork 9 .leaf .no) .no) (.fork 8 (.fork 6 (.fork 9 .leaf .no) .no) .no)) (.fork 6 (.fork 5 (.fork 8 (.fork 9 .leaf .no) .no) .no) .no)) .no) .no)) (.fork 7 (.fork 3 (.fork 4 (.fork 5 (.fork 6 (.fork 8 (.fork 9 .leaf .no) .no) (.fork 8 (.fork 6 (.fork 9 .leaf .no) .no) .no)) (.fork 6 (.fork 5 (.fork 8 (.fork 9 .leaf .no) .no) .no) .no)) .no) .no) .no)) (.fork 7 (.fork 0 (.fork 3 (.fork 4 (.fork 5 (.fork 6 (.fork 8 (.fork 9 .leaf .no) .no) (.fork 8 (.fork 6 (.fork 9 .leaf .no) .no) .no)) (.fork 6 (.fork 5 (.fork 8 (.fork 9 .leaf .no) .no) .no) .no)) .no) .no) .no) .no))
   ⟨[(1, .ptr 0 0),(3, .ptr 2 0),(4,vb false)],[(2, .box [vi 0,vb false,vb false,vb false])],3⟩
   rfl tR mixedP (by kernel_rfl) Ret.noPanic rfl tR (fun C2 x2=>?_) ?_
  ·repeat' first
    | exact True.intro
    | refine And.intro ?_ ?_
    | refine x2.back rfl tR ?_
    | refine x2.call [] rfl tR rfl shapes_spec rfl tR tR (x2.back rfl tR ?_)
    | refine x2.look rfl tR rfl (lk_none hsh ?_)
    | exact .inl ⟨⟨⟨rfl,rfl⟩,⟨rfl,rfl⟩,rfl,tR⟩,⟨⟨rfl,rfl,rfl,rfl,tR⟩,tR⟩,rfl⟩
    | exact .inr ⟨[0,2,1],rfl,⟨⟨rfl,rfl⟩,⟨rfl,rfl⟩,rfl,tR⟩,⟨⟨rfl,rfl,rfl,rfl,tR⟩,tR⟩,rfl⟩
  refine x.cond rfl tR (fun h3=>?_) (fun h3=>?_)
  ·refine x.exit rfl tR ?_
   exact⟨.inr rfl,rfl,tR,rfl⟩
  ·have h3:((!false||decide ((0:Int)<x0.frm.length))||(decide ((0:Int)≤0)&&!decide ((x0.args.length:Int)=0))||decide ((6:Int)<x0.args.length))=false:=h3
   simp at h3
 | some q=>
  obtain⟨n,d,r,b⟩:=q
  refine x.every2 [] [1,2] (.fork 0 (.fork 3 (.fork 4 (.fork 5 (.fork 6 (.fork 7 (.fork 8 (.fork 9 .leaf .no) .no) .no) (.fork 7 (.fork 6 (.fork 8 (.fork 9 .leaf .no) .no) (.fork 8 (.fork 6 (.fork 9 .leaf .no) .no) .no)) .no)) (.fork 6 (.fork 5 (.fork 7 (.fork 8 (.fork 9 .leaf .no) .no) .no) (.fork 7 (.fork 5 (.fork 8 (.fork 9 .leaf .no) .no) .no) .no)) (.fork 7 (.fork 5 (.fork 6 (.fork 8 (.fork 9 .leaf .no) .no) (.fork 8 (.fork 6 (.fork 9 .leaf .no) .no) .no)) (.fork 6 (.fork 5 (.fork 8 (.fork 9 .leaf .no) .no) .no) .no)) .no))) (.fork 7 (.fork 4 (.fork 5 (.fork 6 (.fork 8 (.fork 9 .leaf .no) .no) (.fork 8 (.fork 6 (.fork 9 .leaf .no) .no) .no)) (.fork 6 (.fork 5 (.fork 8 (.fork 9 .leaf .no) .no) .no) .no)) .no) .no)) (.fork 7 (.fork 3 (.fork 4 (.fork 5 (.fork 6 (.fork 8 (.fork 9 .leaf .no) .no) (.fork 8 (.fork 6 (.fork 9 .leaf .no) .no) .no)) (.fork 6 (.fork 5 (.fork 8 (.fork 9 .leaf .no) .no) .no) .no)) .no) .no) .no)) (.fork 7 (.fork 0 (.fork 3 (.fork 4 (.fork 5 (.fork 6 (.fork 8 (.fork 9 .leaf .no) .no) (.fork 8 (.fork 6 (.fork 9 .leaf .no) .no) .no)) (.fork 6 (.fork 5 (.fork 8 (.fork 9 .leaf .no) .no) .no) .no)) .no) .no) .no) .no))
   ⟨[(1, .ptr 0 0),(3, .ptr 2 0),(4,vb true)],[(2, .box [vi n,vb d,vb r,vb b])],3⟩
   rfl tR mixedP (by kernel_rfl) Ret.noPanic rfl tR (fun C2 x2=>?_) ?_
  ·repeat' first
    | exact True.intro
    | refine And.intro ?_ ?_
    | refine x2.back rfl tR ?_
    | refine x2.call [] rfl tR rfl shapes_spec rfl tR tR (x2.back rfl tR ?_)
    | refine x2.look rfl tR rfl (lk_some hsh ?_)
    | exact .inl ⟨⟨⟨rfl,rfl⟩,⟨rfl,rfl⟩,rfl,tR⟩,⟨⟨rfl,rfl,rfl,rfl,tR⟩,tR⟩,rfl⟩
    | exact .inr ⟨[0,2,1],rfl,⟨⟨rfl,rfl⟩,⟨rfl,rfl⟩,rfl,tR⟩,⟨⟨rfl,rfl,rfl,rfl,tR⟩,tR⟩,rfl⟩
  have eb:(decide (0<x0.frm.length)||(decide (0≤n)&&decide ((x0.args.length:Int)≠n))||decide (6<x0.args.length))=(((!true||decide ((0:Int)<x0.frm.length))||(decide (0≤n)&&!decide ((x0.args.length:Int)=n)))||decide ((6:Int)<x0.args.length)):=by
   rw[show decide ((0:Int)<x0.frm.length)=decide (0<x0.frm.length) by rw[decide_eq_decide];omega,show decide ((6:Int)<x0.args.length)=decide (6<x0.args.length) by rw[decide_eq_decide];omega]
   simp only[ne_eq,decide_not,Bool.not_true,Bool.false_or]
  refine x.cond rfl tR (fun h3=>?_) (fun h3=>?_)
  ·have h3:(((!true||decide ((0:Int)<x0.frm.length))||(decide (0≤n)&&!decide ((x0.args.length:Int)=n)))||decide ((6:Int)<x0.args.length))=true:=h3
   refine x.exit rfl tR ?_
   refine⟨.inr rfl,?_,tR,rfl⟩
   show false=(!(_||_||_)&&_)
   rw[eb,h3]
   rfl
  ·have h3:(((!true||decide ((0:Int)<x0.frm.length))||(decide (0≤n)&&!decide ((x0.args.length:Int)=n)))||decide ((6:Int)<x0.args.length))=false:=h3
   refine x.pure rfl tR rfl (fits_spec x0.dst d hx.dst) ⟨rfl,rfl,tR⟩ ?_
   refine x.pureG rfl tR rfl (fun _=>fits_spec x0.ref r hx.ref) rfl ⟨rfl,rfl,tR⟩ ?_
   refine x.pureG rfl tR rfl (fun _=>fits_spec x0.alt b hx.alt) rfl ⟨rfl,rfl,tR⟩ ?_
   refine x.exit rfl tR ?_
   refine⟨.inr rfl,?_,tR,rfl⟩
   show (fitsV x0.dst d&&fitsV x0.ref r&&fitsV x0.alt b)=(!(_||_||_)&&_)
   rw[eb,h3]
   rfl
theorem fits_on {s:ByteArray} (h:fitsV s true=true):okN s=true:=by unfold fitsV at h;simpa using h
theorem fits_off {s:ByteArray} (h:fitsV s false=true):s=.empty:=joinB_one.ba_inj8 (by unfold fitsV at h;simpa using h)
structure RIn (x:Ins) (n:Int) (d r a:Bool):Prop where
 args:allN x.args=true
 frm:x.frm=[]
 alen:(0≤n->(x.args.length:Int)=n)∧x.args.length≤6
 dst:fitsV x.dst d=true
 ref:fitsV x.ref r=true
 alt:fitsV x.alt a=true
 op:x.op≠0↔x.kind=2
 num:x.num≠0->x.kind=1
structure RPhi (x:Ins):Prop where
 args:allN x.args=true
 frm:allN x.frm=true
 dst:okN x.dst=true
 ref:x.ref=.empty
 alt:x.alt=.empty
 len:x.frm.length=x.args.length∧1≤x.frm.length∧x.frm.length≤64
 op:x.op=0
 num:x.num=0
theorem right_cases {x:Ins} (h:rightI x=true):(x.kind=3∧RPhi x)∨∃n d r a,shapeV x.kind=some (n,d,r,a)∧x.kind≠3∧RIn x n d r a∧(x.kind=2->(opName x.op).data.toList≠[]):=by
 unfold rightI at h
 split at h
 ·cases h
 rename_i h0
 simp only[Bool.or_eq_true,not_or,Bool.not_eq_true,Bool.not_eq_false'] at h0
 obtain⟨⟨⟨⟨ho,hop⟩,hnum⟩,ha⟩,hf⟩:=h0
 have ho:x.op≠0↔x.kind=2:=by
  by_cases c1:x.op=0<;>by_cases c2:x.kind=2<;>simp [c1,c2] at ho ⊢
 have hnum:x.num≠0->x.kind=1:=fun h=>by
  by_cases c2:x.kind=1
  ·exact c2
  ·simp [h,c2] at hnum
 have hop:x.op≠0->(opName x.op).data.toList≠[]:=fun h h2=>by simp [h,h2] at hop
 split at h
 ·rename_i hk
  simp only[Bool.and_eq_true,decide_eq_true_eq] at h
  obtain⟨⟨⟨⟨⟨h1,h2⟩,h3⟩,h4⟩,h5⟩,h6⟩:=h
  refine .inl ⟨hk,ha,hf,h1,joinB_one.ba_inj8 h2,joinB_one.ba_inj8 h3,⟨h4,h5,h6⟩,?_,?_⟩
  ·exact Classical.byContradiction fun hne=>by have:=ho.1 hne;omega
  ·exact Classical.byContradiction fun hne=>by have:=hnum hne;omega
 ·rename_i hk
  split at h
  ·cases h
  ·rename_i n d r a hs
   simp only[Bool.and_eq_true,Bool.not_eq_true',Bool.or_eq_false_iff,decide_eq_false_iff_not] at h
   obtain⟨⟨⟨h1,h2⟩,h3⟩,⟨h4,h5⟩,h6⟩:=h
   have hlen:0≤n->(x.args.length:Int)=n:=fun hn=>by
    by_cases c:(x.args.length:Int)=n
    ·exact c
    ·simp [hn,c] at h2
   exact .inr ⟨n,d,r,a,hs,hk,⟨ha,List.eq_nil_of_length_eq_zero (by omega),⟨hlen,by omega⟩,h4,h5,h6,ho,hnum⟩,fun hk2=>hop (ho.2 hk2)⟩
def revF (n i:Nat) (b:Nat->Int):Nat->Int:=fun k=>if k<i∨n≤k+i then b (n-1-k) else b k
theorem reverse_spec (n:Nat) (b:Nat->Int) (hn:n≤big):Proc PG 111 1 [.own 0] [.vec 5 1 n fun k=>[.int .u8 (b k)]] (.tup []) [.vec 5 1 n fun k=>[.int .u8 (b (n-1-k))]]:=by
 refine Proc.mk (cfg1 28) tysOK [0] Tryz.func111 rfl (by kernel_rfl) rfl rfl rfl ?_
 intro C x
 unfold big at hn
 refine x.loop (α:={i:Nat // 2*i≤n+1}) (fun y=>⟨[(0, .own 0),(2,vi (y.1:Int)),(3,vi ((n:Int)-1-(y.1:Int)))],[(0, .vec 5 1 n fun k=>[.int .u8 (revF n y.1 b k)])],1⟩) (fun y=>n-y.1) ⟨0,by omega⟩ rfl (show inI64 ((n:Int)-1) by unfold inI64;omega) ?_ (fun y=>?_)
 ·refine⟨⟨rfl,rfl,?_,tR⟩,⟨⟨rfl,rfl,rfl,fun i hi=>?_⟩,tR⟩,rfl⟩
  ·show (n:Int)-1=(n:Int)-1-0;omega
  ·show [D.int .u8 (b i)]=[D.int .u8 (revF n 0 b i)]
   rw[revF,if_neg (by omega)]
 obtain⟨i,hi⟩:=y
 change Go C _ ⟨[(0, .own 0),(2,vi (i:Int)),(3,vi ((n:Int)-1-(i:Int)))],[(0, .vec 5 1 n fun k=>[.int .u8 (revF n i b k)])],1⟩ _
 refine x.cond rfl tR (fun h=>?_) (fun h=>?_)
 ·have h':(i:Int)<(n:Int)-1-i:=by simpa using h
  refine x.plan [0,1,2,3,4,5,8,9] [6,7,10,11,12] [13,14,15] rfl tR mixedP (by kernel_rfl) Ret.noPanic ?_
  refine x.qdone rfl ?_ ?_
  ·simp only[AllP];omega
  refine x.back rfl ?_ ?_
  ·simp only[AllP,List.length,inI64];omega
  refine⟨⟨i+1,by omega⟩,by show n-(i+1)<n-i;omega,⟨rfl,?_,?_,tR⟩,⟨⟨rfl,rfl,rfl,fun k hk=>?_⟩,tR⟩,rfl⟩
  ·show (i:Int)+1=((i+1:Nat):Int);omega
  ·show (n:Int)-1-i-1=(n:Int)-1-((i+1:Nat):Int);omega
  ·rw[put2_int,put2_int]
   show [D.int .u8 (if k=((n:Int)-1-i).toNat then revF n i b (i:Int).toNat else if k=(i:Int).toNat then revF n i b ((n:Int)-1-i).toNat else revF n i b k)]=[D.int .u8 (revF n (i+1) b k)]
   congr 2
   rw[show ((n:Int)-1-i).toNat=n-1-i by omega,show (i:Int).toNat=i by omega]
   have e1:revF n i b i=b i:=by rw[revF,if_neg (by omega)]
   have e2:revF n i b (n-1-i)=b (n-1-i):=by rw[revF,if_neg (by omega)]
   rw[e1,e2]
   by_cases h1:k=n-1-i
   ·rw[if_pos h1,revF,if_pos (by omega),h1,show n-1-(n-1-i)=i by omega]
   ·rw[if_neg h1]
    by_cases h2:k=i
    ·rw[if_pos h2,revF,if_pos (by omega),h2]
    ·rw[if_neg h2,revF,revF]
     by_cases h3:k<i∨n≤k+i
     ·rw[if_pos h3,if_pos (by omega)]
     ·rw[if_neg h3,if_neg (by omega)]
 ·have h':¬(i:Int)<(n:Int)-1-i:=by simpa using h
  refine x.exit rfl tR ?_
  refine⟨.inl rfl,tR,⟨⟨rfl,rfl,rfl,fun k hk=>?_⟩,tR⟩,rfl⟩
  show [D.int .u8 (revF n i b k)]=[D.int .u8 (b (n-1-k))]
  rw[revF]
  split
  ·rfl
  ·rw[show n-1-k=k by omega]
structure SI (u0:Nat) where
 u:Nat
 l:List Int
 lo:∀x∈l,48≤x∧x≤57
 same:digs0 u++(l.map fun x=>UInt8.ofNat x.toNat).reverse=if l=[] then digs0 u0 else digs u0
 first:l=[]->u=u0
 len:l.length≤20∧u<10 ^ (20-l.length)
theorem turn_list (l:List Int):(List.range l.length).map (fun i=>UInt8.ofNat (l.getD (l.length-1-i) 0).toNat)=(l.map fun x=>UInt8.ofNat x.toNat).reverse:=by
 apply List.ext_getElem
 ·simp
 ·intro i h1 h2
  simp at h1
  have:l.length-1-i<l.length:=by omega
  simp [this]
theorem show_spec (n:Int) (hn:inI64 n):Pure PG 65 [vi n] (vs (showV n)) []:=by
 refine Proc.mk ⟨34,0,false,tys⟩ tysOK [] Tryz.func65 rfl (by kernel_rfl) rfl rfl rfl ?_
 intro C x
 unfold inI64 at hn
 refine x.ite (α:=Unit) (fun _=>⟨[(3, .d (.int .u64 (n.natAbs:Int))),(4,vs (ba (sgV n)))],[],0⟩) rfl tR (fun h=>?_) (fun h=>?_) (fun _=>?_)
 ·refine x.back rfl tR ⟨(),⟨?_,?_,tR⟩,tR,rfl⟩
  ·show IntKind.u64.wrap (0-IntKind.u64.wrap n)=n.natAbs
   have:n<0:=by simpa using h
   rw[IntKind.wrap_u64,IntKind.wrap_u64]
   omega
  ·show _=ba (sgV n)
   rw[sgV,if_pos (by simpa using h)]
   rfl
 ·refine x.back rfl tR ⟨(),⟨?_,?_,tR⟩,tR,rfl⟩
  ·show IntKind.u64.wrap n=n.natAbs
   have:¬n<0:=by simpa using h
   rw[IntKind.wrap_u64]
   omega
  ·show _=ba (sgV n)
   rw[sgV,if_neg (by simpa using h)]
   rfl
 refine x.toLoop rfl tR ?_
 refine Go.own 5 5 1 (fun _=>[]) rfl ?_
 refine x.loop (α:=SI n.natAbs) (fun y=>⟨[(3, .d (.int .u64 (y.u:Int))),(4,vs (ba (sgV n))),(5, .own 0)],[(0, .vec 5 1 y.l.length fun i=>[.int .u8 (y.l.getD i 0)])],1⟩) (fun y=>21-y.l.length)
  ⟨n.natAbs,[],by simp,by simp,fun _=>rfl,by simp,by show n.natAbs<100000000000000000000;omega⟩ rfl tR ?_ (fun y=>?_)
 ·exact⟨⟨rfl,rfl,rfl,tR⟩,⟨⟨rfl,rfl,rfl,fun i hi=>absurd hi (Nat.not_lt_zero _)⟩,tR⟩,rfl⟩
 obtain⟨u,l,lo,same,first,len⟩:=y
 change Go C _ ⟨[(3, .d (.int .u64 (u:Int))),(4,vs (ba (sgV n))),(5, .own 0)],[(0, .vec 5 1 l.length fun i=>[.int .u8 (l.getD i 0)])],1⟩ _
 refine x.cond rfl tR (fun h=>?_) (fun h=>?_)
 ·have h':0<u∨l=[]:=by
   simp only[Bool.or_eq_true,decide_eq_true_eq] at h
   rcases h with h | h
   ·exact .inl (by omega)
   ·exact .inr (List.length_eq_zero_iff.1 (by omega))
  have hl:l.length≤19:=by
   rcases h' with h' | rfl
   ·refine Classical.byContradiction fun hh=>?_
    have:l.length=20:=by omega
    rw[this] at len
    simp at len
    omega
   ·simp
  refine x.back rfl ?_ ?_
  ·simp only[AllP,big];omega
  have hd:IntKind.u8.wrap (IntKind.u64.wrap (48+(u:Int).tmod 10))=48+((u%10:Nat):Int):=by
   rw[IntKind.wrap_u64,IntKind.wrap_u8,Int.tmod_eq_emod_of_nonneg (by omega)]
   omega
  have hq:IntKind.u64.wrap ((u:Int).tdiv 10)=((u/10:Nat):Int):=by
   have h1:u<10 ^ 20:=Nat.lt_of_lt_of_le len.2 (Nat.pow_le_pow_right (by omega) (by omega))
   have h2:u/10<10000000000000000000:=by omega
   rw[Int.tdiv_eq_ediv_of_nonneg (by omega),IntKind.wrap_u64]
   omega
  refine⟨⟨u/10,l++[48+((u%10:Nat):Int)],?_,?_,?_,?_⟩,?_,⟨?_,rfl,rfl,tR⟩,⟨⟨rfl,rfl,?_,?_⟩,tR⟩,rfl⟩
  ·intro y hy
   rcases List.mem_append.1 hy with hy | hy
   ·exact lo y hy
   ·rw[List.mem_singleton.1 hy];omega
  ·rw[if_neg (by simp)]
   simp only[List.map_append,List.map_cons,List.map_nil,List.reverse_append,List.reverse_cons,List.reverse_nil,List.nil_append,List.singleton_append]
   rw[show (48+((u%10:Nat):Int)).toNat=48+u%10 by omega]
   rw[show digs0 (u/10)++UInt8.ofNat (48+u%10)::(l.map fun x=>UInt8.ofNat x.toNat).reverse=(digs0 (u/10)++[UInt8.ofNat (48+u%10)])++(l.map fun x=>UInt8.ofNat x.toNat).reverse by simp]
   rw[digs0_app]
   rcases h' with h' | rfl
   ·by_cases hl0:l=[]
    ·rw[hl0,first hl0];simp
    ·rw[if_neg hl0,digs0,if_neg (by omega)] at same
     exact same
   ·rw[first rfl];simp
  ·intro h;simp at h
  ·refine⟨by simp;omega,?_⟩
   have h1:20-l.length=(19-l.length)+1:=by omega
   rw[h1,Nat.pow_succ] at len
   rw[List.length_append,List.length_singleton,show 20-(l.length+1)=19-l.length by omega]
   omega
  ·show 21-(l++[_]).length<21-l.length
   simp;omega
  ·exact hq
  ·show l.length+1=(l++[_]).length
   simp
  ·intro i hi
   have:=app_list .u8 l (48+((u%10:Nat):Int)) i hi
   refine Eq.trans ?_ this
   show app l.length _ (fun _=>[D.int .u8 (IntKind.u8.wrap (IntKind.u64.wrap (48+(u:Int).tmod 10)))]) i=_
   rw[hd]
 ·have h':u=0∧l≠[]:=by
   simp only[Bool.or_eq_false_iff,decide_eq_false_iff_not] at h
   exact⟨by omega,fun e=>h.2 (by rw[e];rfl)⟩
  obtain⟨rfl,hne⟩:=h'
  rw[if_neg hne,digs0,if_pos rfl,List.nil_append] at same
  refine x.call [0] rfl tR rfl (reverse_spec l.length (fun k=>l.getD k 0) (by unfold big;omega)) rfl ⟨rfl,tR⟩ ⟨⟨rfl,rfl,rfl,fun _ _=>rfl⟩,tR⟩ ?_
  refine x.exit rfl ?_ ?_
  ·refine⟨fun i hi=>trivial,?_⟩
   show (((ba (sgV n)).size+(bytesOf l.length fun k=>[D.int .u8 (l.getD (l.length-1-k) 0)]).size:Nat):Int)≤9223372036854775807
   rw[bytesOf_ba,ba_size,ba_size]
   have:(sgV n).length≤1:=by unfold sgV;split<;>simp
   simp only[List.length_map,List.length_range]
   omega
  refine⟨.inr rfl,?_,tR,rfl⟩
  show ba (sgV n)++bytesOf l.length (fun k=>[D.int .u8 (l.getD (l.length-1-k) 0)])=showV n
  rw[bytesOf_ba,turn_list,same,ba_app]
  rfl
theorem all_allF {α:Type} (l:List α) (p:α->Bool) (d:α):allF7 (fun i=>p (l.getD i d)) l.length 0=l.all p:=by
 rw[Bool.eq_iff_iff,allF7_iff,List.all_eq_true]
 constructor
 ·intro h x hx
  obtain⟨i,hi,rfl⟩:=List.getElem_of_mem hx
  have:=h i (Nat.zero_le _) (by omega)
  rwa [List.getD_eq_getElem?_getD,List.getElem?_eq_getElem hi] at this
 ·intro h j _ hj
  exact h _ (getD_mem (by omega))
theorem sum_mem {l:List Nat} {a:Nat} (h:a∈l):a≤l.sum:=by
 induction l with
 | nil=>cases h
 | cons b r ih=>
  rw[List.sum_cons]
  rcases List.mem_cons.1 h with rfl | h
  ·omega
  ·have:=ih h;omega
def sumC (bs:List Blk) (i:Nat):Nat:=((bs.take i).map fun b=>b.code.length).sum
theorem sumC_succ {bs:List Blk} {i:Nat} (h:i<bs.length):sumC bs (i+1)=sumC bs i+(bs.getD i blk0).code.length:=by
 unfold sumC
 rw[List.take_succ_eq_append_getElem h,List.map_append,List.sum_append,List.getD_eq_getElem?_getD,List.getElem?_eq_getElem h]
 simp
theorem sumC_le {bs:List Blk} {k:Nat} (h:∀b,b∈bs->b.code.length≤k):∀i,i≤bs.length->sumC bs i≤i*k
 | 0,_=>by simp [sumC]
 | i+1,hi=>by
  have:=sumC_le h i (by omega)
  have h2:=h _ (getD_mem (d:=blk0) (show i<bs.length by omega))
  rw[sumC_succ (by omega),Nat.succ_mul]
  omega
structure FitB (b:Blk):Prop where
 name:b.name.size≤okL
 len:b.code.length≤bigL
 code:∀x,x∈b.code->FitI x
structure FitF (f:Fun):Prop where
 name:f.name.size≤okL
 plen:f.params.length≤bigN
 params:∀a,a∈f.params->a.size≤okL
 blen:f.blocks.length≤bigL
 blocks:∀b,b∈f.blocks->FitB b
structure FitA (a:Arr):Prop where
 name:a.name.size≤okL
 level:a.level.size≤okL
 size:inI64 a.size
structure FitP (p:Prg):Prop where
 alen:p.arrays.length≤bigL
 arrays:∀a,a∈p.arrays->FitA a
 flen:p.funcs.length≤bigL
 funcs:∀f,f∈p.funcs->FitF f
def fN (f:Fun):Nat:=(f.blocks.map fun b=>b.code.length).sum
theorem sumC_all (f:Fun):sumC f.blocks f.blocks.length=fN f:=by unfold sumC fN;rw[List.take_length]
def funR (f:Fun):Int×Bool:=if funOK f=true then ((fN f:Int),true) else (0,false)
set_option maxHeartbeats 4000000 in
theorem function_spec (f:Fun) (hf:FitF f):Pure PG 99 [fnV f] (.tup [vi (funR f).1,vb (funR f).2]) []:=by
 refine Proc.mk (cfg 66) tysOK [] Tryz.func99 rfl (by kernel_rfl) rfl rfl rfl ?_
 intro C x
 obtain⟨f1,f2,f3,f4,f5⟩:=hf
 have f4':=f4
 unfold bigL at f4'
 refine x.pure rfl tR rfl (pname_spec f.name f1) ⟨rfl,tR⟩ ?_
 refine x.pureG rfl tR rfl (fun _=>pnames_spec f.params f2 f3) rfl ⟨veq_d rfl,tR⟩ ?_
 have ec:(!okN f.name||!allN f.params||decide (6<f.params.length)||decide (f.blocks.length<1)||decide (64<f.blocks.length))=(((((!okN f.name||!allN f.params)||decide ((6:Int)<f.params.length))||decide ((f.blocks.length:Int)<1)))||decide ((64:Int)<f.blocks.length)):=by
  rw[show decide ((6:Int)<f.params.length)=decide (6<f.params.length) by rw[decide_eq_decide];omega,show decide ((f.blocks.length:Int)<1)=decide (f.blocks.length<1) by rw[decide_eq_decide];omega,show decide ((64:Int)<f.blocks.length)=decide (64<f.blocks.length) by rw[decide_eq_decide];omega]
 refine x.cond rfl tR (fun h=>?_) (fun h=>?_)
 ·have h:(((((!okN f.name||!allN f.params)||decide ((6:Int)<f.params.length))||decide ((f.blocks.length:Int)<1)))||decide ((64:Int)<f.blocks.length))=true:=h
  have hF:funOK f=false:=by unfold funOK;rw[ec,h];rfl
  refine x.exit rfl tR ?_
  unfold funR
  rw[hF]
  exact⟨.inr rfl,⟨rfl,rfl,tR⟩,tR,rfl⟩
 have h:(((((!okN f.name||!allN f.params)||decide ((6:Int)<f.params.length))||decide ((f.blocks.length:Int)<1)))||decide ((64:Int)<f.blocks.length))=false:=h
 have h64:f.blocks.length≤64:=by
  simp only[Bool.or_eq_false_iff,decide_eq_false_iff_not] at h
  omega
 obtain⟨R,hR⟩:∃R,f.blocks.all blkOK=R:=⟨_,rfl⟩
 have hF:funOK f=R:=by unfold funOK;rw[ec,h,hR];simp
 have hR2:allF7 (fun i=>blkOK (f.blocks.getD i blk0)) f.blocks.length 0=R:=by rw[all_allF];exact hR
 have bad:R=false->funR f=(0,false):=fun e=>by unfold funR;rw[hF,e];rfl
 have good:R=true->funR f=((fN f:Int),true):=fun e=>by unfold funR;rw[hF,e];rfl
 clear h ec
 have hsum:=sumC_le (k:=bigL) (fun b hb=>(f5 b hb).len)
 unfold bigL at hsum
 refine x.loop (α:=AW (fun i=>blkOK (f.blocks.getD i blk0)) f.blocks.length R) (fun y=>⟨[(1, .ptr 0 0),(4,vi (sumC f.blocks y.i)),(38, .d (dBlks f.blocks)),(39,vi f.blocks.length),(40,vi (y.i:Int))],[(0, .box [vs f.name, .d (dStrs f.params), .d (dBlks f.blocks),vi f.at_])],1⟩) (fun y=>f.blocks.length-y.i) ⟨0,Nat.zero_le _,hR2⟩ rfl tR ⟨⟨⟨rfl,rfl⟩,rfl,veq_d rfl,rfl,rfl,tR⟩,⟨⟨rfl,veq0_d rfl,veq0_d rfl,rfl,tR⟩,tR⟩,rfl⟩ (fun y=>?_)
 obtain⟨i,hi,same⟩:=y
 change Go C _ ⟨[(1, .ptr 0 0),(4,vi (sumC f.blocks i)),(38, .d (dBlks f.blocks)),(39,vi f.blocks.length),(40,vi (i:Int))],[(0, .box [vs f.name, .d (dStrs f.params), .d (dBlks f.blocks),vi f.at_])],1⟩ _
 refine x.cond rfl tR (fun h2=>?_) (fun h2=>?_)
 rotate_left
 ·have h2:¬(i:Int)<(f.blocks.length:Int):=of_decide_eq_false h2
  refine x.exit rfl tR ?_
  rw[good (AW.fin (by omega) hi same)]
  obtain rfl:i=f.blocks.length:=by omega
  rw[←sumC_all]
  exact⟨.inr rfl,⟨rfl,rfl,tR⟩,tR,rfl⟩
 have h2:(i:Int)<(f.blocks.length:Int):=of_decide_eq_true h2
 have h2:i<f.blocks.length:=by omega
 have hb:=f5 _ (getD_mem (d:=blk0) h2)
 have hs2:=sumC_succ h2
 have hs3:=hsum i hi
 have hs4:i*1000000000000≤64*1000000000000:=Nat.mul_le_mul_right _ (by omega)
 have hfi:∀v,blkOK (f.blocks.getD i blk0)=v->(fun i=>blkOK (f.blocks.getD i blk0)) i=v:=fun v h=>h
 have ei:((i:Int).toNat)=i:=Int.toNat_natCast i
 obtain⟨b,hbe⟩:∃b,f.blocks.getD i blk0=b:=⟨_,rfl⟩
 have hbe2:f.blocks.getD ((i:Int).toNat) blk0=b:=by rw[ei];exact hbe
 rw[hbe] at hb hs2 hfi
 obtain⟨b1,b2,b3⟩:=hb
 unfold bigL at b2
 refine x.pure rfl (by simp only[AllP];omega) rfl (show Pure PG _ [vs (f.blocks.getD ((i:Int).toNat) blk0).name] _ [] from by rw[hbe2];exact pname_spec b.name b1) ⟨rfl,tR⟩ ?_
 refine x.cond rfl tR (fun h3=>?_) (fun h3=>?_)
 ·have h3:(!okN b.name)=true:=h3
  have hv:blkOK b=false:=by unfold blkOK;rw[show okN b.name=false by simpa using h3];rfl
  refine x.exit rfl tR ?_
  rw[bad (AW.stop h2 same (hfi _ hv))]
  exact⟨.inr rfl,⟨rfl,rfl,tR⟩,tR,rfl⟩
 have h3:(!okN b.name)=false:=h3
 obtain⟨Q,hQ⟩:∃Q,b.code.all rightI=Q:=⟨_,rfl⟩
 have hv:blkOK b=Q:=by unfold blkOK;rw[show okN b.name=true by simpa using h3,hQ];rfl
 have hQ2:allF7 (fun i=>rightI (b.code.getD i (ins0 0))) b.code.length 0=Q:=by rw[all_allF];exact hQ
 rw[hv] at hfi
 rw[hbe2]
 refine x.loop (α:=AW (fun i=>rightI (b.code.getD i (ins0 0))) b.code.length Q) (fun y=>⟨[(1, .ptr 0 0),(4,vi (sumC f.blocks i)),(38, .d (dBlks f.blocks)),(39,vi f.blocks.length),(40,vi (i:Int)),(6, .ptr 1 0),(49, .d (dCode b.code)),(50,vi b.code.length),(51,vi (y.i:Int))],[(0, .box [vs f.name, .d (dStrs f.params), .d (dBlks f.blocks),vi f.at_]),(1, .box [vs b.name, .d (dCode b.code),vi b.at_])],2⟩) (fun y=>b.code.length-y.i) ⟨0,Nat.zero_le _,hQ2⟩ rfl tR ⟨⟨⟨rfl,rfl⟩,rfl,veq_d rfl,rfl,rfl,⟨rfl,rfl⟩,veq_d rfl,rfl,rfl,tR⟩,⟨⟨rfl,veq0_d rfl,veq0_d rfl,rfl,tR⟩,⟨rfl,veq0_d rfl,rfl,tR⟩,tR⟩,rfl⟩ (fun y=>?_)
 obtain⟨k,hk,same2⟩:=y
 change Go C _ ⟨[(1, .ptr 0 0),(4,vi (sumC f.blocks i)),(38, .d (dBlks f.blocks)),(39,vi f.blocks.length),(40,vi (i:Int)),(6, .ptr 1 0),(49, .d (dCode b.code)),(50,vi b.code.length),(51,vi (k:Int))],[(0, .box [vs f.name, .d (dStrs f.params), .d (dBlks f.blocks),vi f.at_]),(1, .box [vs b.name, .d (dCode b.code),vi b.at_])],2⟩ _
 refine x.cond rfl tR (fun h4=>?_) (fun h4=>?_)
 rotate_left
 ·have h4:¬(k:Int)<(b.code.length:Int):=of_decide_eq_false h4
  have hv:=AW.fin (by omega) hk same2
  refine x.back rfl (by simp only[AllP,inI64];omega) ⟨⟨i+1,by omega,AW.step h2 same (hfi _ hv)⟩,by show f.blocks.length-(i+1)<f.blocks.length-i;omega,⟨⟨rfl,rfl⟩,?_,veq_d rfl,rfl,?_,tR⟩,⟨⟨rfl,veq0_d rfl,veq0_d rfl,rfl,tR⟩,tR⟩,rfl⟩
  ·show VEq0 (vi ((sumC f.blocks i:Int)+b.code.length)) (vi (sumC f.blocks (i+1):Int))
   rw[hs2,Int.natCast_add];rfl
  ·show VEq0 (vi ((i:Int)+1)) (vi ((i+1:Nat):Int));rw[Int.natCast_add];rfl
 have h4:(k:Int)<(b.code.length:Int):=of_decide_eq_true h4
 have h4:k<b.code.length:=by omega
 refine x.pure rfl (by simp only[AllP];omega) rfl (right_spec (b.code.getD ((k:Int).toNat) (ins0 0)) (by rw[Int.toNat_natCast];exact b3 _ (getD_mem h4))) ⟨⟨rfl,rfl,rfl,rfl,rfl,veq0_d rfl,veq0_d rfl,rfl,rfl,tR⟩,tR⟩ ?_
 rw[Int.toNat_natCast]
 refine x.cond rfl tR (fun h5=>?_) (fun h5=>?_)
 ·have h5:(!rightI (b.code.getD k (ins0 0)))=true:=h5
  refine x.exit rfl tR ?_
  rw[bad (AW.stop h2 same (hfi _ (AW.stop h4 same2 (by simpa using h5))))]
  exact⟨.inr rfl,⟨rfl,rfl,tR⟩,tR,rfl⟩
 ·have h5:(!rightI (b.code.getD k (ins0 0)))=false:=h5
  refine x.back rfl (by simp only[AllP,inI64];omega) ⟨⟨k+1,by omega,AW.step h4 same2 (by simpa using h5)⟩,by show b.code.length-(k+1)<b.code.length-k;omega,⟨⟨rfl,rfl⟩,rfl,veq_d rfl,rfl,rfl,⟨rfl,rfl⟩,veq_d rfl,rfl,?_,tR⟩,⟨⟨rfl,veq0_d rfl,veq0_d rfl,rfl,tR⟩,⟨rfl,veq0_d rfl,rfl,tR⟩,tR⟩,rfl⟩
  show VEq0 (vi ((k:Int)+1)) (vi ((k+1:Nat):Int));rw[Int.natCast_add];rfl
def sumF (fs:List Fun) (i:Nat):Nat:=((fs.take i).map fN).sum
theorem sumF_succ {fs:List Fun} {i:Nat} (h:i<fs.length):sumF fs (i+1)=sumF fs i+fN (fs.getD i fun0):=by
 unfold sumF
 rw[List.take_succ_eq_append_getElem h,List.map_append,List.sum_append,List.getD_eq_getElem?_getD,List.getElem?_eq_getElem h]
 simp
theorem sumF_le (fs:List Fun) (i:Nat):sumF fs i≤progN8 fs:=by
 have h:progN8 fs=((fs.take i++fs.drop i).map fN).sum:=by rw[List.take_append_drop];rfl
 rw[h,List.map_append,List.sum_append]
 exact Nat.le_add_right _ _
theorem sumF_all (fs:List Fun):sumF fs fs.length=progN8 fs:=by unfold sumF;rw[List.take_length];rfl
structure RW (fs:List Fun) where
 i:Nat
 hi:i≤fs.length
 ok:∀j,j<i->funOK (fs.getD j fun0)=true
 few:sumF fs i≤4096
theorem fN_le {f:Fun} (hf:FitF f) (h:funOK f=true):fN f≤64*1000000000000:=by
 have h64:f.blocks.length≤64:=by
  unfold funOK at h
  simp only[Bool.and_eq_true,Bool.not_eq_true',Bool.or_eq_false_iff,decide_eq_false_iff_not] at h
  omega
 have:=sumC_le (k:=bigL) (fun b hb=>(hf.blocks b hb).len) f.blocks.length (Nat.le_refl _)
 rw[sumC_all] at this
 unfold bigL at this
 exact Nat.le_trans this (Nat.mul_le_mul_right _ h64)
set_option maxHeartbeats 4000000 in
theorem rightp_spec (p:Prg) (hp:FitP p):Pure PG 49 [prgV p] (vb (rightG p)) []:=by
 refine Proc.mk (cfg 70) tysOK [] Tryz.func49 rfl (by kernel_rfl) rfl rfl rfl ?_
 intro C x
 obtain⟨p1,p2,p3,p4⟩:=hp
 unfold bigL at p1 p3
 have ec:(decide (16<p.arrays.length)||decide (64<p.funcs.length))=(decide ((16:Int)<p.arrays.length)||decide ((64:Int)<p.funcs.length)):=by
  rw[show decide ((16:Int)<p.arrays.length)=decide (16<p.arrays.length) by rw[decide_eq_decide];omega,show decide ((64:Int)<p.funcs.length)=decide (64<p.funcs.length) by rw[decide_eq_decide];omega]
 refine x.cond rfl tR (fun h=>?_) (fun h=>?_)
 ·have h:(decide ((16:Int)<p.arrays.length)||decide ((64:Int)<p.funcs.length))=true:=h
  refine x.exit rfl tR ?_
  refine⟨.inr rfl,?_,tR,rfl⟩
  show false=rightG p
  unfold rightG
  rw[ec,h];rfl
 have h:(decide ((16:Int)<p.arrays.length)||decide ((64:Int)<p.funcs.length))=false:=h
 obtain⟨R,hR⟩:∃R,p.arrays.all arrOK=R:=⟨_,rfl⟩
 have hF:rightG p=(R&&p.funcs.all funOK&&decide (progN8 p.funcs≤4096)):=by unfold rightG;rw[ec,h,hR];rfl
 have hR2:allF7 (fun i=>arrOK (p.arrays.getD i arr0)) p.arrays.length 0=R:=by rw[all_allF];exact hR
 rw[hF]
 have h64:p.funcs.length≤64:=by
  simp only[Bool.or_eq_false_iff,decide_eq_false_iff_not] at h
  omega
 clear h ec hF
 refine x.loop (α:=AW (fun i=>arrOK (p.arrays.getD i arr0)) p.arrays.length R) (fun y=>⟨[(1, .ptr 0 0),(21, .d (dArrs p.arrays)),(22,vi p.arrays.length),(23,vi (y.i:Int))],[(0, .box [.d (dArrs p.arrays), .d (dFuns p.funcs)])],1⟩) (fun y=>p.arrays.length-y.i) ⟨0,Nat.zero_le _,hR2⟩ rfl tR ⟨⟨⟨rfl,rfl⟩,veq_d rfl,rfl,rfl,tR⟩,⟨⟨veq0_d rfl,veq0_d rfl,tR⟩,tR⟩,rfl⟩ (fun y=>?_)
 obtain⟨i,hi,same⟩:=y
 change Go C _ ⟨[(1, .ptr 0 0),(21, .d (dArrs p.arrays)),(22,vi p.arrays.length),(23,vi (i:Int))],[(0, .box [.d (dArrs p.arrays), .d (dFuns p.funcs)])],1⟩ _
 refine x.cond rfl tR (fun h2=>?_) (fun h2=>?_)
 ·have h2:(i:Int)<(p.arrays.length:Int):=of_decide_eq_true h2
  have h2:i<p.arrays.length:=by omega
  have ei:((i:Int).toNat)=i:=Int.toNat_natCast i
  have ha:=p2 _ (getD_mem (d:=arr0) h2)
  have hfi:∀v,arrOK (p.arrays.getD i arr0)=v->(fun i=>arrOK (p.arrays.getD i arr0)) i=v:=fun v h=>h
  obtain⟨a,hae⟩:∃a,p.arrays.getD i arr0=a:=⟨_,rfl⟩
  have hae2:p.arrays.getD ((i:Int).toNat) arr0=a:=by rw[ei];exact hae
  rw[hae] at ha hfi
  refine x.pure rfl (by simp only[AllP];omega) rfl (show Pure PG _ [vs (p.arrays.getD ((i:Int).toNat) arr0).name] _ [] from by rw[hae2];exact pname_spec a.name ha.name) ⟨rfl,tR⟩ ?_
  rw[hae2]
  refine x.pureG rfl tR rfl (fun _=>pname_spec a.level ha.level) rfl ⟨rfl,tR⟩ ?_
  refine x.cond rfl tR (fun h3=>?_) (fun h3=>?_)
  ·have h3:(((!okN a.name||!okN a.level)||decide (a.size<1))||decide (256<a.size))=true:=h3
   have hv:arrOK a=false:=by unfold arrOK;rw[h3];rfl
   refine x.exit rfl tR ?_
   rw[AW.stop h2 same (hfi _ hv)]
   exact⟨.inr rfl,rfl,tR,rfl⟩
  ·have h3:(((!okN a.name||!okN a.level)||decide (a.size<1))||decide (256<a.size))=false:=h3
   have hv:arrOK a=true:=by unfold arrOK;rw[h3];rfl
   refine x.back rfl (by simp only[AllP,inI64];omega) ⟨⟨i+1,by omega,AW.step h2 same (hfi _ hv)⟩,by show p.arrays.length-(i+1)<p.arrays.length-i;omega,⟨⟨rfl,rfl⟩,veq_d rfl,rfl,?_,tR⟩,⟨⟨veq0_d rfl,veq0_d rfl,tR⟩,tR⟩,rfl⟩
   show VEq0 (vi ((i:Int)+1)) (vi ((i+1:Nat):Int));rw[Int.natCast_add];rfl
 have h2:¬(i:Int)<(p.arrays.length:Int):=of_decide_eq_false h2
 have eR:=AW.fin (by omega) hi same
 subst eR
 refine x.loop (α:=RW p.funcs) (fun y=>⟨[(1, .ptr 0 0),(5,vi (sumF p.funcs y.i)),(49, .d (dFuns p.funcs)),(50,vi p.funcs.length),(51,vi (y.i:Int))],[(0, .box [.d (dArrs p.arrays), .d (dFuns p.funcs)])],1⟩) (fun y=>p.funcs.length-y.i) ⟨0,Nat.zero_le _,fun j hj=>by omega,by simp [sumF]⟩ rfl tR ⟨⟨⟨rfl,rfl⟩,rfl,veq_d rfl,rfl,rfl,tR⟩,⟨⟨veq0_d rfl,veq0_d rfl,tR⟩,tR⟩,rfl⟩ (fun y=>?_)
 obtain⟨k,hk,ok,few⟩:=y
 change Go C _ ⟨[(1, .ptr 0 0),(5,vi (sumF p.funcs k)),(49, .d (dFuns p.funcs)),(50,vi p.funcs.length),(51,vi (k:Int))],[(0, .box [.d (dArrs p.arrays), .d (dFuns p.funcs)])],1⟩ _
 refine x.cond rfl tR (fun h3=>?_) (fun h3=>?_)
 rotate_left
 ·have h3:¬(k:Int)<(p.funcs.length:Int):=of_decide_eq_false h3
  obtain rfl:k=p.funcs.length:=by omega
  refine x.exit rfl tR ?_
  have e1:p.funcs.all funOK=true:=by
   rw[←all_allF p.funcs funOK fun0,allF7_iff]
   exact fun j _ hj=>ok j (by omega)
  rw[sumF_all] at few
  rw[e1,decide_eq_true few]
  exact⟨.inr rfl,rfl,tR,rfl⟩
 have h3:(k:Int)<(p.funcs.length:Int):=of_decide_eq_true h3
 have h3:k<p.funcs.length:=by omega
 have hff:=p4 _ (getD_mem (d:=fun0) h3)
 have hs:=sumF_succ h3
 obtain⟨f,hfe⟩:∃f,p.funcs.getD k fun0=f:=⟨_,rfl⟩
 have hfe2:p.funcs.getD ((k:Int).toNat) fun0=f:=by rw[Int.toNat_natCast];exact hfe
 rw[hfe] at hff hs
 refine x.pure rfl (by simp only[AllP];omega) rfl (show Pure PG _ [fnV (p.funcs.getD ((k:Int).toNat) fun0)] _ [] from by rw[hfe2];exact function_spec f hff) ⟨⟨rfl,veq0_d rfl,veq0_d rfl,rfl,tR⟩,tR⟩ ?_
 rw[hfe2]
 have hin:f∈p.funcs:=by rw[←hfe];exact getD_mem h3
 cases hok:funOK f with
 | false=>
  have eR:funR f=(0,false):=by unfold funR;rw[hok];rfl
  have e1:p.funcs.all funOK=false:=by
   rw[Bool.eq_false_iff,Ne,List.all_eq_true]
   intro h;rw[h f hin] at hok;cases hok
  rw[eR,e1]
  refine x.cond rfl (by simp only[AllP,inI64];omega) (fun h4=>?_) (fun h4=>?_)
  ·refine x.exit rfl tR ?_
   exact⟨.inr rfl,rfl,tR,rfl⟩
  ·have h4:(!false||_)=false:=h4
   simp at h4
 | true=>
  have eR:funR f=((fN f:Int),true):=by unfold funR;rw[hok];rfl
  have hN:=fN_le hff hok
  rw[eR]
  refine x.cond rfl (by simp only[AllP,inI64];omega) (fun h4=>?_) (fun h4=>?_)
  ·have h4:(!true||decide ((4096:Int)<(sumF p.funcs k:Int)+(fN f:Int)))=true:=h4
   have h4:(4096:Int)<(sumF p.funcs k:Int)+(fN f:Int):=by simpa using h4
   have hle:=sumF_le p.funcs (k+1)
   refine x.exit rfl tR ?_
   rw[decide_eq_false (show ¬progN8 p.funcs≤4096 by omega),Bool.and_false]
   exact⟨.inr rfl,rfl,tR,rfl⟩
  ·have h4:(!true||decide ((4096:Int)<(sumF p.funcs k:Int)+(fN f:Int)))=false:=h4
   have h4:¬(4096:Int)<(sumF p.funcs k:Int)+(fN f:Int):=by simpa using h4
   refine x.back rfl (by simp only[AllP,inI64];omega) ⟨⟨k+1,by omega,fun j hj=>?_,by omega⟩,by show p.funcs.length-(k+1)<p.funcs.length-k;omega,⟨⟨rfl,rfl⟩,?_,veq_d rfl,rfl,?_,tR⟩,⟨⟨veq0_d rfl,veq0_d rfl,tR⟩,tR⟩,rfl⟩
   ·by_cases e:j=k
    ·rw[e,hfe];exact hok
    ·exact ok j (by omega)
   ·show VEq0 (vi ((sumF p.funcs k:Int)+(fN f:Int))) (vi (sumF p.funcs (k+1):Int))
    rw[hs,Int.natCast_add];rfl
   ·show VEq0 (vi ((k:Int)+1)) (vi ((k+1:Nat):Int));rw[Int.natCast_add];rfl
end Go.Proofs.YtojhdmfkfkfcbaaGreatDoor
