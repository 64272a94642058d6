import Derived.Test.YtojhdmfkfkfcbaaGreatDoorMC
import Derived.Test.YtojhdmfkfkfcbaaGreatDoorMD
import Derived.Test.YtojhdmfkfkfcbaaGreatDoorSxH
import Derived.Test.YtojhdmfkfkfcbaaGreatDoorSxG
import Derived.Test.YtojhdmfkfkfcbaaGreatDoorMA
import Derived.Test.YtojhdmfkfkfcbaaGreatDoorMB
import Derived.Test.YtojhdmfkfkfcbaaGreatDoorSxF
import Derived.Test.YtojhdmfkfkfcbaaGreatDoorShelf
namespace Go.Proofs.YtojhdmfkfkfcbaaGreatDoor
open Go.Sx
set_option linter.unusedVariables false
set_option linter.unusedSimpArgs false
set_option maxRecDepth 100000
structure Op9 where
 kind:Int
 op:Int
 dst:Int
 ref:Int
 alt:Int
 args:List Int
 frm:List Int
 num:Int
 at_:Int
structure Bod where
 params:Int
 vars:Int
 blocks:List (List Op9)
abbrev Cel:=Int×Int
structure Cod where
 arrays:List Cel
 funcs:List Bod
 main:Int
def op0:Op9:=⟨0,0,0,0,0,[],[],0,0⟩
def aC:Bod:=⟨0,0,[]⟩
def bK:Cel:=(0,0)
def aas:Cod:=⟨[],[],0⟩
abbrev Flt (α:Type):=Except (Int×Int) α
def bd {α β:Type} (r:Flt α) (k:α->Flt β):Flt β:=
 match r with
 | .error e=>.error e
 | .ok a=>k a
theorem lH {α β:Type} {r:Flt α} {k:α->Flt β} {b:β} (h:bd r k=.ok b):∃a,r=.ok a∧k a=.ok b:=by
 cases r with
 | error e=>cases h
 | ok a=>exact⟨a,rfl,h⟩
def fK (acc:List ByteArray):List (ByteArray×Int)->Flt (List ByteArray)
 | []=>.ok acc
 | (s,a)::r=>if posB acc s=true then .error (a,9) else fK (acc++[s]) r
def fM (l:List ByteArray) (s:ByteArray) (a:Int):Flt Int:=if posB l s=true then .ok (cO l s) else .error (a,10)
def eu (n a:Int):Flt Int:=if 0≤n then .ok n else .error (a,10)
structure Res where
 p:Pol
 q:Prg
 Dh:List ByteArray
 fns:List ByteArray
structure Scp where
 blks:List ByteArray
 vals:List ByteArray
def mU:Scp:=⟨[],[]⟩
def lI (k:Int):Bool:=decide (11≤k)
def mK (r:Res) (s:Scp) (x:Ins):Flt (Int×Int):=
 if x.kind=4∨x.kind=5∨x.kind=6 then bd (fM r.Dh x.ref x.at_) fun n=>.ok (n,0)
 else if x.kind=7 then bd (fM r.fns x.ref x.at_) fun n=>.ok (n,0)
 else if x.kind=8 then bd (eu (fV r.p.ins x.ref) x.at_) fun n=>.ok (n,0)
 else if x.kind=9 then bd (eu (fV r.p.outs x.ref) x.at_) fun n=>.ok (n,0)
 else if x.kind=10 then bd (eu (bE r.p.lev x.ref) x.at_) fun n=>.ok (n,0)
 else if x.kind=11 then bd (fM s.blks x.ref x.at_) fun n=>.ok (n,0)
 else if x.kind=12 then bd (fM s.blks x.ref x.at_) fun n=>bd (fM s.blks x.alt x.at_) fun m=>.ok (n,m)
 else .ok (0,0)
def dN (l:List ByteArray) (a:Int):List ByteArray->List Int->Flt (List Int)
 | [],acc=>.ok acc
 | s::r,acc=>bd (fM l s a) fun n=>dN l a r (acc++[n])
def lJ (q:Prg) (n:Int):Nat:=(q.funcs.getD n.toNat bD).params.length
def wU (r:Res) (s:Scp) (x:Ins):Flt Op9:=
 bd (mK r s x) fun ra=>bd (dN s.vals x.at_ x.args []) fun az=>bd (dN s.blks x.at_ x.frm []) fun fs=>
  if x.kind=7∧x.args.length≠lJ r.q ra.1 then .error (x.at_,13)
  else .ok ⟨x.kind,x.op,if x.dst.data.toList=[] then -1 else cO s.vals x.dst,ra.1,ra.2,az,fs,x.num,x.at_⟩
def tY (r:Res) (s:Scp) (code:List Ins) (i:Nat):Flt Op9:=
 if lI (code.getD i (aN 0)).kind=true∧i+1≠code.length then .error ((code.getD i (aN 0)).at_,15)
 else if (code.getD i (aN 0)).kind=3∧i≠0∧(code.getD (i-1) (aN 0)).kind≠3 then .error ((code.getD i (aN 0)).at_,18)
 else wU r s (code.getD i (aN 0))
def zK (r:Res) (s:Scp) (code:List Ins):Nat->Nat->List Op9->Flt (List Op9)
 | 0,_,acc=>.ok acc
 | f+1,i,acc=>bd (tY r s code i) fun y=>zK r s code f (i+1) (acc++[y])
def vF (b:Blk):Bool:=decide (1≤b.code.length)&&lI (b.code.getD (b.code.length-1) (aN 0)).kind
def rz (r:Res) (s:Scp) (b:Blk):Flt (List Op9):=
 if vF b=true then zK r s b.code b.code.length 0 [] else .error (b.at_,15)
def wV (l:List Ins):List (ByteArray×Int):=l.filterMap fun x=>if x.dst.data.toList=[] then none else some (x.dst,x.at_)
def lu (bs:List Blk):List (ByteArray×Int):=bs.flatMap fun b=>wV b.code
def Di (f:Fun):Flt Scp:=
 bd (fK [] (f.params.map fun s=>(s,f.at_))) fun vs=>bd (fK [] (f.blocks.map fun b=>(b.name,b.at_))) fun bs=>bd (fK vs (lu f.blocks)) fun vs'=>.ok ⟨bs,vs'⟩
def mM (p:Pol):List Arr->List ByteArray->List Cel->Flt (List ByteArray×List Cel)
 | [],acc,cs=>.ok (acc,cs)
 | a::r,acc,cs=>if posB acc a.name=true then .error (a.at_,9) else bd (eu (bE p.lev a.level) a.at_) fun k=>mM p r (acc++[a.name]) (cs++[(a.size,k)])
def mW:List Fun->List Scp->Flt (List Scp)
 | [],acc=>.ok acc
 | f::r,acc=>bd (Di f) fun s=>mW r (acc++[s])
def kg (r:Res) (s:Scp):List Blk->List (List Op9)->Flt (List (List Op9))
 | [],acc=>.ok acc
 | b::l,acc=>bd (rz r s b) fun y=>kg r s l (acc++[y])
def JG (r:Res) (s:Scp) (f:Fun):Flt Bod:=bd (kg r s f.blocks []) fun bs=>.ok ⟨(f.params.length:Int),(s.vals.length:Int),bs⟩
def lK (r:Res) (ss:List Scp):List Fun->Nat->List Bod->Flt (List Bod)
 | [],_,acc=>.ok acc
 | f::l,i,acc=>bd (JG r (ss.getD i mU) f) fun b=>lK r ss l (i+1) (acc++[b])
abbrev dK:ByteArray:=⟨#[109,97,105,110]⟩
def xH (q:Prg) (fn:List ByteArray):Bool:=posB fn dK&&decide ((lJ q (cO fn dK):Int)=0)
def Dj (p:Pol) (q:Prg):Flt Cod:=
 bd (mM p q.arrays [] []) fun ac=>bd (fK [] (q.funcs.map fun f=>(f.name,f.at_))) fun fn=>
  if xH q fn=true then bd (mW q.funcs []) fun ss=>bd (lK ⟨p,q,ac.1,fn⟩ ss q.funcs 0 []) fun bs=>.ok ⟨ac.2,bs,cO fn dK⟩ else .error (0,14)
def codO:Flt Cod->Cod×Int×Int
 | .ok c=>(c,0,0)
 | .error (a,e)=>(aas,a,e)
def gB (p:Pol) (q:Prg):Cod×Int×Int:=if (gU p&&rightG q)=true then codO (Dj p q) else (aas,0,1)
abbrev dV (l:List Int):D:=.sl 1 l.length fun i=>[.int .i64 (l.getD i 0)]
abbrev dOp (y:Op9):List D:=[.int .u8 y.kind, .int .u8 y.op, .int .i64 y.dst, .int .i64 y.ref, .int .i64 y.alt,dV y.args,dV y.frm, .int .i64 y.num, .int .i64 y.at_]
abbrev opW (y:Op9):V:=.agg [.d (.int .u8 y.kind), .d (.int .u8 y.op),vi y.dst,vi y.ref,vi y.alt, .d (dV y.args), .d (dV y.frm),vi y.num,vi y.at_]
abbrev wR (l:List Op9):D:=.sl 9 l.length fun i=>dOp (l.getD i op0)
abbrev ko (l:List (List Op9)):D:=.sl 1 l.length fun i=>[wR (l.getD i [])]
abbrev Fz (b:Bod):List D:=[.int .i64 b.params, .int .i64 b.vars,ko b.blocks]
abbrev bI (l:List Bod):D:=.sl 3 l.length fun i=>Fz (l.getD i aC)
abbrev bL (l:List Cel):D:=.sl 2 l.length fun i=>[.int .i64 (l.getD i bK).1, .int .i64 (l.getD i bK).2]
abbrev Bn (c:Cod):V:=.agg [.d (bL c.arrays), .d (bI c.funcs),vi c.main]
abbrev vG:Nat:=118
abbrev Mk (at_ e:Int):Out:=.die vG [(.i64,at_),(.i64,e)]
theorem jT (a e:Int):Pure PG 51 [vb true,vi a,vi e] (.tup []) []:=by
 refine aI.mk (cfg 12) av [] Tryz.func51 rfl (by kernel_rfl) rfl rfl rfl ?_
 intro C x
 refine x.cond rfl tR (fun h=>?_) (fun h=>?_)
 ·cases (show false=true from h)
 ·exact x.exit rfl tR ⟨.inl rfl,tR,tR,rfl⟩
theorem iQ (a e:Int):Gs PG 51 [vb false,vi a,vi e] [] vG [(.i64,a),(.i64,e)]:=by
 refine aW.mk (out:=Mk a e) (cfg 12) av [] Tryz.func51 rfl (by kernel_rfl) rfl rfl rfl ?_
 intro C x
 refine x.cond rfl tR (fun h=>?_) (fun h=>?_)
 ·exact x.raise rfl tR rfl rfl rfl ⟨rfl,rfl⟩
 ·cases (show true=false from h)
theorem look_ok {l:List ByteArray} {s:ByteArray} (h:posB l s=true) (a:Int):Pure PG 158 [.d (.mp l),vs s,vi a] (vi (cO l s)) []:=by
 refine aI.mk (cfg 19) av [] Tryz.func158 rfl (by kernel_rfl) rfl rfl rfl ?_
 intro C x
 refine x.pure rfl tR rfl (jT a 10) ⟨(show aG (vb (posB l s)) (vb true) by rw[h];exact rfl),rfl,rfl,tR⟩ ?_
 exact x.exit rfl tR ⟨.inr rfl,rfl,tR,rfl⟩
theorem oH {l:List ByteArray} {s:ByteArray} (h:posB l s=false) (a:Int):Gs PG 158 [.d (.mp l),vs s,vi a] [] vG [(.i64,a),(.i64,10)]:=by
 refine aW.mk (out:=Mk a 10) (cfg 19) av [] Tryz.func158 rfl (by kernel_rfl) rfl rfl rfl ?_
 intro C x
 exact x.die [] rfl tR rfl (iQ a 10) ⟨(show aG (vb (posB l s)) (vb false) by rw[h];exact rfl),rfl,rfl,tR⟩ rfl tR ⟨rfl,rfl⟩
theorem zL (n a:Int):Pure PG 53 [vi n,vb true,vi a] (vi n) []:=by
 refine aI.mk (cfg 11) av [] Tryz.func53 rfl (by kernel_rfl) rfl rfl rfl ?_
 intro C x
 refine x.pure rfl tR rfl (jT a 10) ⟨rfl,rfl,rfl,tR⟩ ?_
 exact x.exit rfl tR ⟨.inr rfl,rfl,tR,rfl⟩
theorem wH (n a:Int):Gs PG 53 [vi n,vb false,vi a] [] vG [(.i64,a),(.i64,10)]:=by
 refine aW.mk (out:=Mk a 10) (cfg 11) av [] Tryz.func53 rfl (by kernel_rfl) rfl rfl rfl ?_
 intro C x
 exact x.die [] rfl tR rfl (iQ a 10) ⟨rfl,rfl,rfl,tR⟩ rfl tR ⟨rfl,rfl⟩
theorem wI (k:Int):Pure PG 108 [.d (.int .u8 k)] (vb (lI k)) []:=by
 refine aI.mk (cfg 5) av [] Tryz.func108 rfl (by kernel_rfl) rfl rfl rfl ?_
 intro C x
 exact x.exit rfl tR ⟨.inr rfl,rfl,tR,rfl⟩
theorem Qo (s:ByteArray):Pure PG 103 [vs s] (vs s) []:=by
 refine aI.mk (cfg 4) av [] Tryz.func103 rfl (by kernel_rfl) rfl rfl rfl ?_
 intro C x
 exact x.exit rfl tR ⟨.inr rfl,rfl,tR,rfl⟩
abbrev fnC (f:Fun):Ch:=.box [vs f.name, .d (bQ f.params), .d (jN f.blocks),vi f.at_]
theorem yE (f:Fun):lS (fnC f) (fnC f):=⟨rfl,ah rfl,ah rfl,rfl,tR⟩
theorem V3 (f:Fun) (s:ByteArray):aI PG 104 1 [vs s, .ptr 0 0] [fnC f] (vi f.at_) [fnC f]:=by
 refine aI.mk (dG 6 1) av [0] Tryz.func104 rfl (by kernel_rfl) rfl rfl rfl ?_
 intro C x
 exact x.exit rfl tR ⟨.inr rfl,rfl,⟨yE f,tR⟩,rfl⟩
abbrev aat (b:Blk):V:=.agg [vs b.name, .d (uZ b.code),vi b.at_]
theorem Ml (b:Blk):Pure PG 106 [aat b] (vs b.name) []:=by
 refine aI.mk (cfg 5) av [] Tryz.func106 rfl (by kernel_rfl) rfl rfl rfl ?_
 intro C x
 exact x.exit rfl tR ⟨.inr rfl,rfl,tR,rfl⟩
theorem V4 (b:Blk):Pure PG 107 [aat b] (vi b.at_) []:=by
 refine aI.mk (cfg 5) av [] Tryz.func107 rfl (by kernel_rfl) rfl rfl rfl ?_
 intro C x
 exact x.exit rfl tR ⟨.inr rfl,rfl,tR,rfl⟩
theorem Mq (f:Fun):Pure PG 55 [fnV f] (vs f.name) []:=by
 refine aI.mk (cfg 5) av [] Tryz.func55 rfl (by kernel_rfl) rfl rfl rfl ?_
 intro C x
 exact x.exit rfl tR ⟨.inr rfl,rfl,tR,rfl⟩
theorem V5 (f:Fun):Pure PG 56 [fnV f] (vi f.at_) []:=by
 refine aI.mk (cfg 5) av [] Tryz.func56 rfl (by kernel_rfl) rfl rfl rfl ?_
 intro C x
 exact x.exit rfl tR ⟨.inr rfl,rfl,tR,rfl⟩
structure NmW (L:List (ByteArray×Int)) (R:Flt (List ByteArray)) where
 i:Nat
 acc:List ByteArray
 hi:i≤L.length
 ha:acc.length=i
 same:fK acc (L.drop i)=R
theorem FB {L:List (ByteArray×Int)} {acc:List ByteArray} {i:Nat} (h:i<L.length) {s:ByteArray} {a:Int} (e:L[i]?=some (s,a)):fK acc (L.drop i)=if posB acc s=true then .error (a,9) else fK (acc++[s]) (L.drop (i+1)):=by
 rw[List.drop_eq_getElem_cons h]
 rw[adh h] at e
 rw[adl e,fK]
abbrev nmO (H:List Ch) (r:V):Flt (List ByteArray)->Out
 | .ok o=>.ret r (H++[.pos o])
 | .error (a,e)=>Mk a e
theorem Te (f:Fun) (hl:f.params.length*16≤140737488355328):aW PG 102 1 [.d (bQ f.params), .fn 103 [], .fn 104 [.ptr 0 0]] [fnC f] (nmO [fnC f] (.own 1) (fK [] (f.params.map fun s=>(s,f.at_)))):=by
 obtain⟨L,hL⟩:∃L,f.params.map (fun s=>(s,f.at_))=L:=⟨_,rfl⟩
 have hLl:L.length=f.params.length:=by rw[←hL];simp
 have hLi:∀i,i<f.params.length->L[i]?=some (f.params.getD i .empty,f.at_):=fun i hi=>by rw[←hL,List.getElem?_map,adf,adh hi];rfl
 rw[hL]
 obtain⟨R,hR⟩:∃R,fK [] L=R:=⟨_,rfl⟩
 rw[hR]
 refine aW.mk (dG 41 1) av [0,1] Tryz.func102 rfl (by kernel_rfl) rfl rfl (by rcases R with⟨a,e⟩ | o<;>rfl) ?_
 intro C x
 refine x.loop (α:=NmW L R) (fun y=>⟨[(1, .fn 103 []),(2, .fn 104 [.ptr 0 0]),(7, .own 1),(13, .d (bQ f.params)),(14,vi (f.params.length:Int)),(15,vi (y.i:Int))],[(0,fnC f),(1, .pos y.acc)],2⟩) (fun y=>f.params.length-y.i) ⟨0,[],Nat.zero_le _,rfl,hR⟩ rfl tR ⟨⟨rfl,rfl,rfl,au rfl,rfl,rfl,tR⟩,⟨yE f,tR,tR⟩,rfl⟩ (fun y=>?_)
 obtain⟨i,acc,hi,ha,same⟩:=y
 change Go C _ ⟨[(1, .fn 103 []),(2, .fn 104 [.ptr 0 0]),(7, .own 1),(13, .d (bQ f.params)),(14,vi (f.params.length:Int)),(15,vi (i:Int))],[(0,fnC f),(1, .pos acc)],2⟩ _
 refine x.cond rfl tR (fun h1=>?_) (fun h1=>?_)
 rotate_left
 ·have h1:i=f.params.length:=by have:=adj h1;omega
  rw[List.drop_of_length_le (by omega),fK] at same
  subst same
  exact x.exit rfl tR ⟨.inr rfl,rfl,⟨yE f,rfl,tR⟩,rfl⟩
 have h1:i<f.params.length:=by have:=adi h1;omega
 rw[FB (by omega) (hLi i h1)] at same
 refine x.pure rfl (by simp only[aj];omega) rfl (Qo (f.params.getD i .empty)) ⟨rfl,tR⟩ ?_
 refine x.call [0] rfl tR rfl (V3 f (f.params.getD i .empty)) rfl ⟨rfl,⟨rfl,rfl⟩,tR⟩ ⟨yE f,tR⟩ ?_
 cases hp:posB acc (f.params.getD i .empty) with
 | true=>
  rw[hp,if_pos rfl] at same
  subst same
  exact x.die [] rfl tR rfl (iQ f.at_ 9) ⟨rfl,rfl,rfl,tR⟩ rfl tR ⟨rfl,rfl⟩
 | false=>
  rw[hp,if_neg (by simp)] at same
  refine x.pure rfl tR rfl (jT f.at_ 9) ⟨rfl,rfl,rfl,tR⟩ ?_
  refine x.pure rfl tR rfl (Qo (f.params.getD i .empty)) ⟨rfl,tR⟩ ?_
  refine x.back rfl (by refine⟨hp,by rw[ha],?_⟩;simp only[aj,ak];omega) ⟨⟨i+1,acc++[f.params.getD i .empty],by omega,by simp [ha],same⟩,by show f.params.length-(i+1)<f.params.length-i;omega,⟨rfl,rfl,rfl,au rfl,rfl,(show aG (vi ((i:Int)+1)) (vi ((i+1:Nat):Int)) by rw[ads];rfl),tR⟩,⟨yE f,rfl,tR⟩,rfl⟩
theorem Tf (bs:List Blk) (hl:bs.length*48≤140737488355328):aW PG 105 0 [.d (jN bs), .fn 106 [], .fn 107 []] [] (nmO [] (.own 0) (fK [] (bs.map fun b=>(b.name,b.at_)))):=by
 obtain⟨L,hL⟩:∃L,bs.map (fun b=>(b.name,b.at_))=L:=⟨_,rfl⟩
 have hLl:L.length=bs.length:=by rw[←hL];simp
 have hLi:∀i,i<bs.length->L[i]?=some ((bs.getD i bH).name,(bs.getD i bH).at_):=fun i hi=>by rw[←hL,List.getElem?_map,adf,adh hi];rfl
 rw[hL]
 obtain⟨R,hR⟩:∃R,fK [] L=R:=⟨_,rfl⟩
 rw[hR]
 refine aW.mk (cfg 41) av [0] Tryz.func105 rfl (by kernel_rfl) rfl rfl (by rcases R with⟨a,e⟩ | o<;>rfl) ?_
 intro C x
 refine x.loop (α:=NmW L R) (fun y=>⟨[(1, .fn 106 []),(2, .fn 107 []),(7, .own 0),(13, .d (jN bs)),(14,vi (bs.length:Int)),(15,vi (y.i:Int))],[(0, .pos y.acc)],1⟩) (fun y=>bs.length-y.i) ⟨0,[],Nat.zero_le _,rfl,hR⟩ rfl tR ⟨⟨rfl,rfl,rfl,au rfl,rfl,rfl,tR⟩,⟨tR,tR⟩,rfl⟩ (fun y=>?_)
 obtain⟨i,acc,hi,ha,same⟩:=y
 change Go C _ ⟨[(1, .fn 106 []),(2, .fn 107 []),(7, .own 0),(13, .d (jN bs)),(14,vi (bs.length:Int)),(15,vi (i:Int))],[(0, .pos acc)],1⟩ _
 refine x.cond rfl tR (fun h1=>?_) (fun h1=>?_)
 rotate_left
 ·have h1:i=bs.length:=by have:=adj h1;omega
  rw[List.drop_of_length_le (by omega),fK] at same
  subst same
  exact x.exit rfl tR ⟨.inr rfl,rfl,⟨rfl,tR⟩,rfl⟩
 have h1:i<bs.length:=by have:=adi h1;omega
 rw[FB (by omega) (hLi i h1)] at same
 refine x.pure rfl (by simp only[aj];omega) rfl (Ml (bs.getD i bH)) ⟨⟨rfl,ah rfl,rfl,tR⟩,tR⟩ ?_
 refine x.pure rfl tR rfl (V4 (bs.getD i bH)) ⟨⟨rfl,ah rfl,rfl,tR⟩,tR⟩ ?_
 cases hp:posB acc (bs.getD i bH).name with
 | true=>
  rw[hp,if_pos rfl] at same
  subst same
  exact x.die [] rfl tR rfl (iQ (bs.getD i bH).at_ 9) ⟨rfl,rfl,rfl,tR⟩ rfl tR ⟨rfl,rfl⟩
 | false=>
  rw[hp,if_neg (by simp)] at same
  refine x.pure rfl tR rfl (jT (bs.getD i bH).at_ 9) ⟨rfl,rfl,rfl,tR⟩ ?_
  refine x.pure rfl tR rfl (Ml (bs.getD i bH)) ⟨⟨rfl,ah rfl,rfl,tR⟩,tR⟩ ?_
  refine x.back rfl (by refine⟨hp,by rw[ha],?_⟩;simp only[aj,ak];omega) ⟨⟨i+1,acc++[(bs.getD i bH).name],by omega,by simp [ha],same⟩,by show bs.length-(i+1)<bs.length-i;omega,⟨rfl,rfl,rfl,au rfl,rfl,(show aG (vi ((i:Int)+1)) (vi ((i+1:Nat):Int)) by rw[ads];rfl),tR⟩,⟨rfl,tR⟩,rfl⟩
theorem Tg (bs:List Fun) (hl:bs.length*72≤140737488355328):aW PG 54 0 [.d (dU bs), .fn 55 [], .fn 56 []] [] (nmO [] (.own 0) (fK [] (bs.map fun b=>(b.name,b.at_)))):=by
 obtain⟨L,hL⟩:∃L,bs.map (fun b=>(b.name,b.at_))=L:=⟨_,rfl⟩
 have hLl:L.length=bs.length:=by rw[←hL];simp
 have hLi:∀i,i<bs.length->L[i]?=some ((bs.getD i bD).name,(bs.getD i bD).at_):=fun i hi=>by rw[←hL,List.getElem?_map,adf,adh hi];rfl
 rw[hL]
 obtain⟨R,hR⟩:∃R,fK [] L=R:=⟨_,rfl⟩
 rw[hR]
 refine aW.mk (cfg 41) av [0] Tryz.func54 rfl (by kernel_rfl) rfl rfl (by rcases R with⟨a,e⟩ | o<;>rfl) ?_
 intro C x
 refine x.loop (α:=NmW L R) (fun y=>⟨[(1, .fn 55 []),(2, .fn 56 []),(7, .own 0),(13, .d (dU bs)),(14,vi (bs.length:Int)),(15,vi (y.i:Int))],[(0, .pos y.acc)],1⟩) (fun y=>bs.length-y.i) ⟨0,[],Nat.zero_le _,rfl,hR⟩ rfl tR ⟨⟨rfl,rfl,rfl,au rfl,rfl,rfl,tR⟩,⟨tR,tR⟩,rfl⟩ (fun y=>?_)
 obtain⟨i,acc,hi,ha,same⟩:=y
 change Go C _ ⟨[(1, .fn 55 []),(2, .fn 56 []),(7, .own 0),(13, .d (dU bs)),(14,vi (bs.length:Int)),(15,vi (i:Int))],[(0, .pos acc)],1⟩ _
 refine x.cond rfl tR (fun h1=>?_) (fun h1=>?_)
 rotate_left
 ·have h1:i=bs.length:=by have:=adj h1;omega
  rw[List.drop_of_length_le (by omega),fK] at same
  subst same
  exact x.exit rfl tR ⟨.inr rfl,rfl,⟨rfl,tR⟩,rfl⟩
 have h1:i<bs.length:=by have:=adi h1;omega
 rw[FB (by omega) (hLi i h1)] at same
 refine x.pure rfl (by simp only[aj];omega) rfl (Mq (bs.getD i bD)) ⟨⟨rfl,ah rfl,ah rfl,rfl,tR⟩,tR⟩ ?_
 refine x.pure rfl tR rfl (V5 (bs.getD i bD)) ⟨⟨rfl,ah rfl,ah rfl,rfl,tR⟩,tR⟩ ?_
 cases hp:posB acc (bs.getD i bD).name with
 | true=>
  rw[hp,if_pos rfl] at same
  subst same
  exact x.die [] rfl tR rfl (iQ (bs.getD i bD).at_ 9) ⟨rfl,rfl,rfl,tR⟩ rfl tR ⟨rfl,rfl⟩
 | false=>
  rw[hp,if_neg (by simp)] at same
  refine x.pure rfl tR rfl (jT (bs.getD i bD).at_ 9) ⟨rfl,rfl,rfl,tR⟩ ?_
  refine x.pure rfl tR rfl (Mq (bs.getD i bD)) ⟨⟨rfl,ah rfl,ah rfl,rfl,tR⟩,tR⟩ ?_
  refine x.back rfl (by refine⟨hp,by rw[ha],?_⟩;simp only[aj,ak];omega) ⟨⟨i+1,acc++[(bs.getD i bD).name],by omega,by simp [ha],same⟩,by show bs.length-(i+1)<bs.length-i;omega,⟨rfl,rfl,rfl,au rfl,rfl,(show aG (vi ((i:Int)+1)) (vi ((i+1:Nat):Int)) by rw[ads];rfl),tR⟩,⟨rfl,tR⟩,rfl⟩
abbrev kr (r:Res):Ch:=.box [vSs r.p.lev,vU r.p.up,jC r.p.ins,jC r.p.outs,vi r.p.depth, .d (dH r.q.arrays), .d (dU r.q.funcs), .d (.mp r.Dh), .d (.mp r.fns)]
theorem aU (r:Res):lS (kr r) (kr r):=⟨ah rfl,ah rfl,ah rfl,ah rfl,rfl,ah rfl,ah rfl,rfl,rfl,tR⟩
abbrev scW (s:Scp):V:=.agg [.d (.mp s.blks), .d (.mp s.vals)]
theorem V6 {b:List Ins} {j:Nat} (h:j<b.length):wV (b.drop j)=(if (b.getD j (aN 0)).dst.data.toList=[] then [] else [((b.getD j (aN 0)).dst,(b.getD j (aN 0)).at_)])++wV (b.drop (j+1)):=by
 have e:b[j]=b.getD j (aN 0):=by rw[adf,adh h];rfl
 rw[List.drop_eq_getElem_cons h,e,wV,List.filterMap_cons]
 split<;>rename_i h1
 ·split at h1
  ·rename_i h2;rw[if_pos h2];rfl
  ·cases h1
 ·split at h1
  ·cases h1
  ·rename_i h2;rw[if_neg h2,←adl h1];rfl
theorem Ti {bs:List Blk} {i:Nat} (h:i<bs.length):lu (bs.drop i)=wV (bs.getD i bH).code++lu (bs.drop (i+1)):=by
 have e:bs[i]=bs.getD i bH:=by rw[adf,adh h];rfl
 rw[List.drop_eq_getElem_cons h,e];rfl
structure SpW (bs:List Blk) (R:Flt (List ByteArray)) where
 i:Nat
 acc:List ByteArray
 hi:i≤bs.length
 same:fK acc (lu (bs.drop i))=R
structure SpI (code:List Ins) (L:List (ByteArray×Int)) (R:Flt (List ByteArray)) where
 j:Nat
 acc:List ByteArray
 hj:j≤code.length
 same:fK acc (wV (code.drop j)++L)=R
abbrev spO (r:Res):Flt Scp->Out
 | .ok s=>.ret (scW s) [kr r]
 | .error (a,e)=>Mk a e
structure Qp (f:Fun):Prop where
 p:f.params.length*16≤140737488355328
 b:f.blocks.length*48≤140737488355328
 c:∀b∈f.blocks,b.code.length*120≤140737488355328
theorem Qp.at {f:Fun} (h:Qp f) (i:Nat):(f.blocks.getD i bH).code.length*120≤140737488355328:=by
 by_cases hi:i<f.blocks.length
 ·rw[adf,adh hi];exact h.c _ (List.getElem_mem hi)
 ·rw[adf,List.getElem?_eq_none (by omega)];exact Nat.zero_le _
set_option maxHeartbeats 4000000 in
theorem OQ (r:Res) (f:Fun) (hf:Qp f):aW PG 57 1 [.ptr 0 0,fnV f] [kr r] (spO r (Di f)):=by
 have h1:=Te f hf.p
 have h2:=Tf f.blocks hf.b
 obtain⟨P,hP⟩:∃P,fK [] (f.params.map fun s=>(s,f.at_))=P:=⟨_,rfl⟩
 obtain⟨B,hB⟩:∃B,fK [] (f.blocks.map fun b=>(b.name,b.at_))=B:=⟨_,rfl⟩
 rw[Di,hP,hB]
 rw[hP] at h1
 rw[hB] at h2
 refine aW.mk (dG 62 1) av [0] Tryz.func57 rfl (by kernel_rfl) rfl rfl (by
  rcases P with⟨a,e⟩ | vs
  ·rfl
  rcases B with⟨a,e⟩ | bs
  ·rfl
  show P6 _ _ _ (spO r (bd (fK vs (lu f.blocks)) _))=true
  rcases fK vs (lu f.blocks) with⟨a,e⟩ | vs'<;>rfl) ?_
 intro C x
 rcases P with⟨a,e⟩ | vs
 ·exact x.die [1] rfl tR rfl h1 ⟨au rfl,rfl,rfl,tR⟩ rfl ⟨yE f,tR⟩ ⟨rfl,rfl⟩
 refine x.call [1] rfl tR rfl h1 rfl ⟨au rfl,rfl,rfl,tR⟩ ⟨yE f,tR⟩ ?_
 rcases B with⟨a,e⟩ | bs
 ·exact x.die [] rfl tR rfl h2 ⟨au rfl,rfl,rfl,tR⟩ rfl tR ⟨rfl,rfl⟩
 refine x.call [] rfl tR rfl h2 rfl ⟨au rfl,rfl,rfl,tR⟩ tR ?_
 refine x.toLoop rfl tR ?_
 refine Sx.Go.freeze 4 ?_
 obtain⟨R,hR⟩:∃R,fK vs (lu f.blocks)=R:=⟨_,rfl⟩
 change Go C _ _ (fU _ _ _ (spO r (bd (fK vs (lu f.blocks)) fun vs'=>.ok ⟨bs,vs'⟩)))
 rw[hR]
 have hfb:=hf.b
 refine x.loop (α:=SpW f.blocks R) (fun y=>⟨[(4, .ptr 2 0),(6, .ptr 5 0),(23, .d (jN f.blocks)),(24,vi (f.blocks.length:Int)),(25,vi (y.i:Int))],[(0,kr r),(2, .box [.dead, .dead]),(3, .pos y.acc),(5, .box [.d (.mp bs), .own 3])],6⟩) (fun y=>f.blocks.length-y.i) ⟨0,vs,Nat.zero_le _,hR⟩ rfl tR ⟨⟨⟨rfl,rfl⟩,⟨rfl,rfl⟩,au rfl,rfl,rfl,tR⟩,⟨aU r,⟨rfl,rfl,tR⟩,rfl,⟨rfl,rfl,tR⟩,tR⟩,rfl⟩ (fun y=>?_)
 obtain⟨i,acc,hi,same⟩:=y
 change Go C _ ⟨[(4, .ptr 2 0),(6, .ptr 5 0),(23, .d (jN f.blocks)),(24,vi (f.blocks.length:Int)),(25,vi (i:Int))],[(0,kr r),(2, .box [.dead, .dead]),(3, .pos acc),(5, .box [.d (.mp bs), .own 3])],6⟩ _
 refine x.cond rfl tR (fun h3=>?_) (fun h3=>?_)
 rotate_left
 ·have h3:i=f.blocks.length:=by have:=adj h3;omega
  rw[List.drop_of_length_le (by omega),show lu []=[] from rfl,fK] at same
  subst same
  refine Sx.Go.freeze 3 ?_
  exact x.exit rfl tR ⟨.inr rfl,⟨rfl,rfl,tR⟩,⟨aU r,tR⟩,rfl⟩
 have h3:i<f.blocks.length:=by have:=adi h3;omega
 rw[Ti h3] at same
 have hfc:=hf.at i
 refine x.loop (α:=SpI (f.blocks.getD i bH).code (lu (f.blocks.drop (i+1))) R) (fun z=>⟨[(4, .ptr 2 0),(6, .ptr 5 0),(23, .d (jN f.blocks)),(24,vi (f.blocks.length:Int)),(25,vi (i:Int)),(30, .d (uZ (f.blocks.getD i bH).code)),(31,vi ((f.blocks.getD i bH).code.length:Int)),(32,vi (z.j:Int))],[(0,kr r),(2, .box [.dead, .dead]),(3, .pos z.acc),(5, .box [.d (.mp bs), .own 3])],6⟩) (fun z=>(f.blocks.getD i bH).code.length-z.j) ⟨0,acc,Nat.zero_le _,by rw[List.drop_zero];exact same⟩ rfl (by simp only[aj];omega) ⟨⟨⟨rfl,rfl⟩,⟨rfl,rfl⟩,au rfl,rfl,rfl,au rfl,rfl,rfl,tR⟩,⟨aU r,⟨rfl,rfl,tR⟩,rfl,⟨rfl,rfl,tR⟩,tR⟩,rfl⟩ (fun z=>?_)
 clear same
 obtain⟨j,acc,hj,same⟩:=z
 change Go C _ ⟨[(4, .ptr 2 0),(6, .ptr 5 0),(23, .d (jN f.blocks)),(24,vi (f.blocks.length:Int)),(25,vi (i:Int)),(30, .d (uZ (f.blocks.getD i bH).code)),(31,vi ((f.blocks.getD i bH).code.length:Int)),(32,vi (j:Int))],[(0,kr r),(2, .box [.dead, .dead]),(3, .pos acc),(5, .box [.d (.mp bs), .own 3])],6⟩ _
 refine x.cond rfl tR (fun h4=>?_) (fun h4=>?_)
 rotate_left
 ·have h4:j=(f.blocks.getD i bH).code.length:=by have:=adj h4;omega
  rw[List.drop_of_length_le (by omega)] at same
  exact x.back rfl (by simp only[aj,ak];omega) ⟨⟨i+1,acc,by omega,same⟩,by show f.blocks.length-(i+1)<f.blocks.length-i;omega,⟨⟨rfl,rfl⟩,⟨rfl,rfl⟩,au rfl,rfl,(show aG (vi ((i:Int)+1)) (vi ((i+1:Nat):Int)) by rw[ads];rfl),tR⟩,⟨aU r,⟨rfl,rfl,tR⟩,rfl,⟨rfl,rfl,tR⟩,tR⟩,rfl⟩
 have h4:j<(f.blocks.getD i bH).code.length:=by have:=adi h4;omega
 rw[V6 h4] at same
 refine x.cond rfl (by simp only[aj];omega) (fun h5=>?_) (fun h5=>?_)
 ·have h5:((f.blocks.getD i bH).code.getD j (aN 0)).dst.data.toList=[]:=adi h5
  rw[if_pos h5,List.nil_append] at same
  exact x.back rfl (by simp only[aj,ak];omega) ⟨⟨j+1,acc,by omega,same⟩,by show (f.blocks.getD i bH).code.length-(j+1)<(f.blocks.getD i bH).code.length-j;omega,⟨⟨rfl,rfl⟩,⟨rfl,rfl⟩,au rfl,rfl,rfl,au rfl,rfl,(show aG (vi ((j:Int)+1)) (vi ((j+1:Nat):Int)) by rw[ads];rfl),tR⟩,⟨aU r,⟨rfl,rfl,tR⟩,rfl,⟨rfl,rfl,tR⟩,tR⟩,rfl⟩
 have h5:¬((f.blocks.getD i bH).code.getD j (aN 0)).dst.data.toList=[]:=adj h5
 rw[if_neg h5] at same
 have same:fK acc ((((f.blocks.getD i bH).code.getD j (aN 0)).dst,((f.blocks.getD i bH).code.getD j (aN 0)).at_)::(wV ((f.blocks.getD i bH).code.drop (j+1))++lu (f.blocks.drop (i+1))))=R:=same
 rw[fK] at same
 cases hp:posB acc ((f.blocks.getD i bH).code.getD j (aN 0)).dst with
 | true=>
  rw[hp,if_pos rfl] at same
  subst same
  exact x.die [] rfl tR rfl (iQ ((f.blocks.getD i bH).code.getD j (aN 0)).at_ 9) ⟨(show aG (vb (!posB acc ((f.blocks.getD i bH).code.getD j (aN 0)).dst)) (vb false) by rw[hp];exact rfl),rfl,rfl,tR⟩ rfl tR ⟨rfl,rfl⟩
 | false=>
  rw[hp,if_neg (by simp)] at same
  refine x.pure rfl tR rfl (jT ((f.blocks.getD i bH).code.getD j (aN 0)).at_ 9) ⟨(show aG (vb (!posB acc ((f.blocks.getD i bH).code.getD j (aN 0)).dst)) (vb true) by rw[hp];exact rfl),rfl,rfl,tR⟩ ?_
  exact x.back rfl (by refine⟨hp,rfl,?_⟩;simp only[aj,ak];omega) ⟨⟨j+1,acc++[((f.blocks.getD i bH).code.getD j (aN 0)).dst],by omega,same⟩,by show (f.blocks.getD i bH).code.length-(j+1)<(f.blocks.getD i bH).code.length-j;omega,⟨⟨rfl,rfl⟩,⟨rfl,rfl⟩,au rfl,rfl,rfl,au rfl,rfl,(show aG (vi ((j:Int)+1)) (vi ((j+1:Nat):Int)) by rw[ads];rfl),tR⟩,⟨aU r,⟨rfl,rfl,tR⟩,rfl,⟨rfl,rfl,tR⟩,tR⟩,rfl⟩
abbrev rfO (r:Res):Flt (Int×Int)->Out
 | .ok n=>.ret (.tup [vi n.1,vi n.2]) [kr r]
 | .error (a,e)=>Mk a e
theorem oJ {l:List ByteArray} {s:ByteArray} (h:posB l s=true) (a:Int):fM l s a=.ok (cO l s):=by rw[fM,if_pos h]
theorem oK {l:List ByteArray} {s:ByteArray} (h:posB l s=false) (a:Int):fM l s a=.error (a,10):=by rw[fM,if_neg (by rw[h];simp)]
abbrev GA (x:Ins):Ch:=.box [.d (.int .u8 x.kind), .d (.int .u8 x.op),vs x.dst,vs x.ref,vs x.alt, .d (bQ x.args), .d (bQ x.frm),vi x.num,vi x.at_]
theorem nD (x:Ins):lS (GA x) (GA x):=⟨rfl,rfl,rfl,rfl,rfl,ah rfl,ah rfl,rfl,rfl,tR⟩
abbrev scC (s:Scp):Ch:=.box [.d (.mp s.blks), .d (.mp s.vals)]
theorem oL (s:Scp):lS (scC s) (scC s):=⟨rfl,rfl,tR⟩
set_option maxHeartbeats 8000000 in
theorem Tj (r:Res) (s:Scp) (x0:Ins) (hz:PolSz r.p):aW PG 157 1 [.ptr 0 0,scW s,xD x0] [kr r] (rfO r (mK r s x0)):=by
 obtain⟨i1,i2,i3,i4⟩:=qZ hz
 obtain⟨R,hR⟩:∃R,mK r s x0=R:=⟨_,rfl⟩
 rw[hR]
 unfold mK at hR
 refine aW.mk (dG 118 1) av [0] Tryz.func157 rfl (by kernel_rfl) rfl rfl (by rcases R with⟨a,e⟩ | o<;>rfl) ?_
 intro C x
 refine x.ite (α:=Unit) (fun _=>⟨[(0, .ptr 0 0),(4, .ptr 1 0),(5, .ptr 2 0),(6,vi 0),(7,vi 0),(15, .d (.int .u8 x0.kind)),(16,vb (decide (x0.kind=4∨x0.kind=5∨x0.kind=6)))],[(0,kr r),(1,scC s),(2,GA x0)],3⟩) rfl tR (fun h=>?_) (fun h=>?_) (fun _=>?_)
 ·have h:x0.kind=4:=adi h
  refine x.back rfl tR ⟨(),⟨⟨rfl,rfl⟩,⟨rfl,rfl⟩,⟨rfl,rfl⟩,rfl,rfl,rfl,?_,tR⟩,⟨aU r,oL s,nD x0,tR⟩,rfl⟩
  show aG (vb (decide (x0.kind=4))) (vb _)
  rw[decide_eq_true h,decide_eq_true (.inl h)];exact rfl
 ·have h:¬x0.kind=4:=adj h
  refine x.cond rfl tR (fun h5=>?_) (fun h5=>?_)
  ·have h5:x0.kind=5:=adi h5
   refine x.back rfl tR ⟨(),⟨⟨rfl,rfl⟩,⟨rfl,rfl⟩,⟨rfl,rfl⟩,rfl,rfl,rfl,?_,tR⟩,⟨aU r,oL s,nD x0,tR⟩,rfl⟩
   show aG (vb (decide (x0.kind=5))) (vb _)
   rw[decide_eq_true h5,decide_eq_true (.inr (.inl h5))];exact rfl
  ·have h5:¬x0.kind=5:=adj h5
   refine x.back rfl tR ⟨(),⟨⟨rfl,rfl⟩,⟨rfl,rfl⟩,⟨rfl,rfl⟩,rfl,rfl,rfl,?_,tR⟩,⟨aU r,oL s,nD x0,tR⟩,rfl⟩
   show aG (vb (decide (x0.kind=6))) (vb _)
   rw[show decide (x0.kind=4∨x0.kind=5∨x0.kind=6)=decide (x0.kind=6) by rw[decide_eq_decide];omega];exact rfl
 change Go C _ ⟨[(0, .ptr 0 0),(4, .ptr 1 0),(5, .ptr 2 0),(6,vi 0),(7,vi 0),(15, .d (.int .u8 x0.kind)),(16,vb (decide (x0.kind=4∨x0.kind=5∨x0.kind=6)))],[(0,kr r),(1,scC s),(2,GA x0)],3⟩ _
 refine x.cond rfl tR (fun h=>?_) (fun h=>?_)
 ·have h:x0.kind=4∨x0.kind=5∨x0.kind=6:=adi h
  rw[if_pos h] at hR
  cases hp:posB r.Dh x0.ref with
  | false=>
   rw[oK hp,bd] at hR
   subst hR
   refine x.draw [] [] [0,1,2,3,4,5,6,7] [8] [9] rfl tR ay (by kernel_rfl) fU.quiet rfl tR (fun C1 x1=>?_)
   exact x1.die [] rfl tR rfl (oH hp x0.at_) ⟨rfl,rfl,rfl,tR⟩ rfl tR ⟨⟨_,rfl⟩,rfl,rfl,rfl⟩
  | true=>
   rw[oJ hp,bd] at hR
   subst hR
   refine x.draw [] [] [0,1,2,3,4,5,6,7] [8] [9] rfl tR ay (by kernel_rfl) fU.quiet rfl tR (fun C1 x1=>?_)
   refine x1.pure rfl tR rfl (look_ok hp x0.at_) ⟨rfl,rfl,rfl,tR⟩ ?_
   refine x1.back rfl tR ?_
   exact x.exit rfl tR ⟨.inr rfl,⟨rfl,rfl,tR⟩,⟨aU r,tR⟩,rfl⟩
 have h4:¬(x0.kind=4∨x0.kind=5∨x0.kind=6):=adj h
 rw[if_neg h4] at hR
 refine x.cond rfl tR (fun h=>?_) (fun h=>?_)
 ·have h:x0.kind=7:=adi h
  rw[if_pos h] at hR
  cases hp:posB r.fns x0.ref with
  | false=>
   rw[oK hp,bd] at hR
   subst hR
   refine x.draw [] [] [0,1,2,3,4,5,6,7] [8] [9] rfl tR ay (by kernel_rfl) fU.quiet rfl tR (fun C1 x1=>?_)
   exact x1.die [] rfl tR rfl (oH hp x0.at_) ⟨rfl,rfl,rfl,tR⟩ rfl tR ⟨⟨_,rfl⟩,rfl,rfl,rfl⟩
  | true=>
   rw[oJ hp,bd] at hR
   subst hR
   refine x.draw [] [] [0,1,2,3,4,5,6,7] [8] [9] rfl tR ay (by kernel_rfl) fU.quiet rfl tR (fun C1 x1=>?_)
   refine x1.pure rfl tR rfl (look_ok hp x0.at_) ⟨rfl,rfl,rfl,tR⟩ ?_
   refine x1.back rfl tR ?_
   exact x.exit rfl tR ⟨.inr rfl,⟨rfl,rfl,tR⟩,⟨aU r,tR⟩,rfl⟩
 have h7:¬x0.kind=7:=adj h
 rw[if_neg h7] at hR
 refine x.cond rfl tR (fun h=>?_) (fun h=>?_)
 ·have h:x0.kind=8:=adi h
  rw[if_pos h] at hR
  refine x.quiet rfl tR ay (by kernel_rfl) ?_
  refine x.qL rfl tR rfl (Ou r.p.ins x0.ref i3) rfl rfl ⟨⟨rfl,rfl,ah rfl,rfl,rfl,tR⟩,rfl,tR⟩ ?_
  refine x.dW rfl tR ?_
  by_cases hp:0≤fV r.p.ins x0.ref
  ·rw[eu,if_pos hp,bd] at hR
   subst hR
   refine x.pure rfl tR rfl (zL (fV r.p.ins x0.ref) x0.at_) ⟨(show aG (vi (if 0 > fV r.p.ins x0.ref then 0 else fV r.p.ins x0.ref)) (vi (fV r.p.ins x0.ref)) by rw[if_neg (by omega)];exact rfl),(show aG (vb (decide (0≤fV r.p.ins x0.ref))) (vb true) by rw[decide_eq_true hp];exact rfl),rfl,tR⟩ ?_
   exact x.exit rfl tR ⟨.inr rfl,⟨rfl,rfl,tR⟩,⟨aU r,tR⟩,rfl⟩
  ·rw[eu,if_neg hp,bd] at hR
   subst hR
   exact x.die [] rfl tR rfl (wH _ x0.at_) ⟨rfl,(show aG (vb (decide (0≤fV r.p.ins x0.ref))) (vb false) by rw[decide_eq_false hp];exact rfl),rfl,tR⟩ rfl tR ⟨rfl,rfl⟩
 have h8:¬x0.kind=8:=adj h
 rw[if_neg h8] at hR
 refine x.cond rfl tR (fun h=>?_) (fun h=>?_)
 ·have h:x0.kind=9:=adi h
  rw[if_pos h] at hR
  refine x.quiet rfl tR ay (by kernel_rfl) ?_
  refine x.qL rfl tR rfl (LM r.p.outs x0.ref i4) rfl rfl ⟨⟨rfl,rfl,rfl,ah rfl,rfl,tR⟩,rfl,tR⟩ ?_
  refine x.dW rfl tR ?_
  by_cases hp:0≤fV r.p.outs x0.ref
  ·rw[eu,if_pos hp,bd] at hR
   subst hR
   refine x.pure rfl tR rfl (zL (fV r.p.outs x0.ref) x0.at_) ⟨(show aG (vi (if 0 > fV r.p.outs x0.ref then 0 else fV r.p.outs x0.ref)) (vi (fV r.p.outs x0.ref)) by rw[if_neg (by omega)];exact rfl),(show aG (vb (decide (0≤fV r.p.outs x0.ref))) (vb true) by rw[decide_eq_true hp];exact rfl),rfl,tR⟩ ?_
   exact x.exit rfl tR ⟨.inr rfl,⟨rfl,rfl,tR⟩,⟨aU r,tR⟩,rfl⟩
  ·rw[eu,if_neg hp,bd] at hR
   subst hR
   exact x.die [] rfl tR rfl (wH _ x0.at_) ⟨rfl,(show aG (vb (decide (0≤fV r.p.outs x0.ref))) (vb false) by rw[decide_eq_false hp];exact rfl),rfl,tR⟩ rfl tR ⟨rfl,rfl⟩
 have h9:¬x0.kind=9:=adj h
 rw[if_neg h9] at hR
 refine x.cond rfl tR (fun h=>?_) (fun h=>?_)
 ·have h:x0.kind=10:=adi h
  rw[if_pos h] at hR
  refine x.quiet rfl tR ay (by kernel_rfl) ?_
  refine x.qL rfl tR rfl (jo r.p.lev x0.ref i1) rfl rfl ⟨⟨ah rfl,rfl,rfl,rfl,rfl,tR⟩,rfl,tR⟩ ?_
  refine x.dW rfl tR ?_
  by_cases hp:0≤bE r.p.lev x0.ref
  ·rw[eu,if_pos hp,bd] at hR
   subst hR
   refine x.pure rfl tR rfl (zL (bE r.p.lev x0.ref) x0.at_) ⟨(show aG (vi (if 0 > bE r.p.lev x0.ref then 0 else bE r.p.lev x0.ref)) (vi (bE r.p.lev x0.ref)) by rw[if_neg (by omega)];exact rfl),(show aG (vb (decide (0≤bE r.p.lev x0.ref))) (vb true) by rw[decide_eq_true hp];exact rfl),rfl,tR⟩ ?_
   exact x.exit rfl tR ⟨.inr rfl,⟨rfl,rfl,tR⟩,⟨aU r,tR⟩,rfl⟩
  ·rw[eu,if_neg hp,bd] at hR
   subst hR
   exact x.die [] rfl tR rfl (wH _ x0.at_) ⟨rfl,(show aG (vb (decide (0≤bE r.p.lev x0.ref))) (vb false) by rw[decide_eq_false hp];exact rfl),rfl,tR⟩ rfl tR ⟨rfl,rfl⟩
 have h10:¬x0.kind=10:=adj h
 rw[if_neg h10] at hR
 refine x.cond rfl tR (fun h=>?_) (fun h=>?_)
 ·have h:x0.kind=11:=adi h
  rw[if_pos h] at hR
  cases hp:posB s.blks x0.ref with
  | false=>
   rw[oK hp,bd] at hR
   subst hR
   exact x.die [] rfl tR rfl (oH hp x0.at_) ⟨rfl,rfl,rfl,tR⟩ rfl tR ⟨rfl,rfl⟩
  | true=>
   rw[oJ hp,bd] at hR
   subst hR
   refine x.pure rfl tR rfl (look_ok hp x0.at_) ⟨rfl,rfl,rfl,tR⟩ ?_
   exact x.exit rfl tR ⟨.inr rfl,⟨rfl,rfl,tR⟩,⟨aU r,tR⟩,rfl⟩
 have h11:¬x0.kind=11:=adj h
 rw[if_neg h11] at hR
 refine x.cond rfl tR (fun h=>?_) (fun h=>?_)
 ·have h:x0.kind=12:=adi h
  rw[if_pos h] at hR
  cases hp:posB s.blks x0.ref with
  | false=>
   rw[oK hp,bd] at hR
   subst hR
   refine x.draw [] [] [0,1,2,3,4,5,7,8,9,10,11,12] [6] [13,14,15] rfl tR ay (by kernel_rfl) fU.quiet rfl tR (fun C1 x1=>?_)
   exact x1.die [] rfl tR rfl (oH hp x0.at_) ⟨rfl,rfl,rfl,tR⟩ rfl tR ⟨⟨_,rfl⟩,rfl,rfl,rfl⟩
  | true=>
   rw[oJ hp,bd] at hR
   cases hp2:posB s.blks x0.alt with
   | false=>
    rw[oK hp2,bd] at hR
    subst hR
    refine x.draw [] [] [0,1,2,3,4,5,7,8,9,10,11,12] [6,13] [14,15] rfl tR ay (by kernel_rfl) fU.quiet rfl tR (fun C1 x1=>?_)
    refine x1.pure rfl tR rfl (look_ok hp x0.at_) ⟨rfl,rfl,rfl,tR⟩ ?_
    refine x1.back rfl tR ?_
    exact x1.die [] rfl tR rfl (oH hp2 x0.at_) ⟨rfl,rfl,rfl,tR⟩ rfl tR ⟨⟨_,rfl⟩,rfl,rfl,rfl⟩
   | true=>
    rw[oJ hp2,bd] at hR
    subst hR
    refine x.draw [] [] [0,1,2,3,4,5,7,8,9,10,11,12] [6,13] [14,15] rfl tR ay (by kernel_rfl) fU.quiet rfl tR (fun C1 x1=>?_)
    refine x1.pure rfl tR rfl (look_ok hp x0.at_) ⟨rfl,rfl,rfl,tR⟩ ?_
    refine x1.back rfl tR ?_
    refine x1.pure rfl tR rfl (look_ok hp2 x0.at_) ⟨rfl,rfl,rfl,tR⟩ ?_
    refine x1.back rfl tR ?_
    exact x.exit rfl tR ⟨.inr rfl,⟨rfl,rfl,tR⟩,⟨aU r,tR⟩,rfl⟩
 have h12:¬x0.kind=12:=adj h
 rw[if_neg h12] at hR
 subst hR
 exact x.exit rfl tR ⟨.inr rfl,⟨rfl,rfl,tR⟩,⟨aU r,tR⟩,rfl⟩
theorem JH (s:ByteArray):∀(i:Nat) (l:List ByteArray) (n:Nat),oP i l s=some n->i≤n∧n<i+l.length
 | _,[],_,h=>by cases h
 | i,a::l,n,h=>by
  unfold oP at h
  split at h
  ·cases h;simp
  ·have:=JH s (i+1) l n h
   simp only[List.length_cons];omega
theorem tq {l:List ByteArray} {s:ByteArray} (h:posB l s=true):0≤cO l s∧cO l s<(l.length:Int):=by
 unfold posB at h
 unfold cO
 cases hp:oP 0 l s with
 | none=>rw[hp] at h;cases h
 | some n=>
  have:=JH s 0 l n hp
  show (0:Int)≤(n:Int)∧(n:Int)<_
  omega
abbrev Bo (l:List Int):Ch:=.vec 3 1 l.length fun i=>[.int .i64 (l.getD i 0)]
structure LkW (l:List ByteArray) (a:Int) (L:List ByteArray) (R:Flt (List Int)) where
 i:Nat
 acc:List Int
 hi:i≤L.length
 ha:acc.length=i
 same:dN l a (L.drop i) acc=R
theorem FC {l:List ByteArray} {a:Int} {L:List ByteArray} {i:Nat} (h:i<L.length) (acc:List Int):dN l a (L.drop i) acc=bd (fM l (L.getD i .empty) a) fun n=>dN l a (L.drop (i+1)) (acc++[n]):=by
 have e:L[i]=L.getD i .empty:=by rw[adf,adh h];rfl
 rw[List.drop_eq_getElem_cons h,e,dN]
theorem Qq (o:List Int) (n:Int) (j:Nat) (hj:j<o.length+1):app o.length (fun i=>[D.int .i64 (o.getD i 0)]) (fun _=>[D.int .i64 n]) j=[D.int .i64 ((o++[n]).getD j 0)]:=gL (fun n:Int=>[D.int .i64 n]) 1 (fun _=>rfl) 0 o n j hj
structure Mr (x:Ins):Prop where
 a:x.args.length*16≤140737488355328
 f:x.frm.length*16≤140737488355328
abbrev opO (r:Res):Flt Op9->Out
 | .ok y=>.ret (opW y) [kr r]
 | .error (a,e)=>Mk a e
set_option maxHeartbeats 16000000 in
theorem V7 (r:Res) (s:Scp) (x0:Ins) (hz:PolSz r.p) (hx:Mr x0) (hfn:r.fns.length=r.q.funcs.length):aW PG 109 1 [.ptr 0 0,scW s,xD x0] [kr r] (opO r (wU r s x0)):=by
 have hrefs:=Tj r s x0 hz
 have hxa:=hx.a
 have hxf:=hx.f
 obtain⟨Q,hQ⟩:∃Q,wU r s x0=Q:=⟨_,rfl⟩
 rw[hQ]
 unfold wU at hQ
 have hk7:∀ra,mK r s x0=.ok ra->x0.kind=7->0≤ra.1∧ra.1<(r.q.funcs.length:Int):=fun ra h k=>by
  unfold mK at h
  rw[if_neg (by omega),if_pos k] at h
  obtain⟨n,h1,h2⟩:=lH h
  cases h2
  unfold fM at h1
  split at h1
  ·rename_i hp
   cases h1
   have:=tq hp
   rw[←hfn];exact this
  ·cases h1
 obtain⟨RA,hRA⟩:∃RA,mK r s x0=RA:=⟨_,rfl⟩
 rw[hRA] at hrefs hQ hk7
 refine aW.mk (dG 99 1) av [0] Tryz.func109 rfl (by kernel_rfl) rfl rfl (by rcases Q with⟨a,e⟩ | o<;>rfl) ?_
 intro C x
 rcases RA with⟨a,e⟩ | ra
 ·rw[bd] at hQ
  subst hQ
  exact x.die [0] rfl tR rfl hrefs ⟨⟨rfl,rfl⟩,⟨rfl,rfl,tR⟩,⟨rfl,rfl,rfl,rfl,rfl,ah rfl,ah rfl,rfl,rfl,tR⟩,tR⟩ rfl ⟨aU r,tR⟩ ⟨rfl,rfl⟩
 rw[bd] at hQ
 have hk7:=hk7 ra rfl
 refine x.call [0] rfl tR rfl hrefs rfl ⟨⟨rfl,rfl⟩,⟨rfl,rfl,tR⟩,⟨rfl,rfl,rfl,rfl,rfl,ah rfl,ah rfl,rfl,rfl,tR⟩,tR⟩ ⟨aU r,tR⟩ ?_
 obtain⟨AZ,hAZ⟩:∃AZ,dN s.vals x0.at_ x0.args []=AZ:=⟨_,rfl⟩
 rw[hAZ] at hQ
 refine x.toLoop rfl tR ?_
 refine Go.ownB 4 5 3 1 (fun i=>[.int .i64 (([]:List Int).getD i 0)]) rfl rfl ?_
 refine x.loop (α:=LkW s.vals x0.at_ x0.args AZ) (fun y=>⟨[(0, .ptr 0 0),(4, .ptr 1 0),(5, .ptr 2 0),(6, .ptr 3 0),(7, .ptr 4 0),(31, .d (bQ x0.args)),(32,vi (x0.args.length:Int)),(33,vi (y.i:Int))],[(0,kr r),(1,scC s),(2,GA x0),(3, .box [.dead, .dead, .dead, .dead, .dead, .dead, .dead, .dead, .dead]),(4, .box [.d (.int .u8 x0.kind), .d (.int .u8 x0.op),vi (-1),vi ra.1,vi ra.2, .own 5, .aB,vi x0.num,vi x0.at_]),(5,Bo y.acc)],6⟩) (fun y=>x0.args.length-y.i) ⟨0,[],Nat.zero_le _,rfl,hAZ⟩ rfl tR ⟨⟨⟨rfl,rfl⟩,⟨rfl,rfl⟩,⟨rfl,rfl⟩,⟨rfl,rfl⟩,⟨rfl,rfl⟩,au rfl,rfl,rfl,tR⟩,⟨aU r,oL s,nD x0,⟨rfl,rfl,rfl,rfl,rfl,rfl,rfl,rfl,rfl,tR⟩,⟨rfl,rfl,rfl,rfl,rfl,rfl,tR,rfl,rfl,tR⟩,⟨rfl,rfl,rfl,fun _ h=>absurd h (adp _)⟩,tR⟩,rfl⟩ (fun y=>?_)
 obtain⟨i,az,hi,ha,same⟩:=y
 change Go C _ ⟨[(0, .ptr 0 0),(4, .ptr 1 0),(5, .ptr 2 0),(6, .ptr 3 0),(7, .ptr 4 0),(31, .d (bQ x0.args)),(32,vi (x0.args.length:Int)),(33,vi (i:Int))],[(0,kr r),(1,scC s),(2,GA x0),(3, .box [.dead, .dead, .dead, .dead, .dead, .dead, .dead, .dead, .dead]),(4, .box [.d (.int .u8 x0.kind), .d (.int .u8 x0.op),vi (-1),vi ra.1,vi ra.2, .own 5, .aB,vi x0.num,vi x0.at_]),(5,Bo az)],6⟩ _
 refine x.cond rfl tR (fun h1=>?_) (fun h1=>?_)
 ·have h1:i<x0.args.length:=by have:=adi h1;omega
  rw[FC h1] at same
  cases hp:posB s.vals (x0.args.getD i .empty) with
  | false=>
   rw[oK hp,bd] at same
   subst same
   rw[bd] at hQ
   subst hQ
   refine x.pK 4 [4,5] [0,2,3,4,5,6] (.fork 1 (.fork 7 (.fork 8 (.fork 9 (.fork 10 (.fork 11 .leaf .no) .no) .no) .no) .no) (.fork 7 (.fork 1 (.fork 8 (.fork 9 (.fork 10 (.fork 11 .leaf .no) .no) .no) .no) (.fork 8 (.fork 1 (.fork 9 (.fork 10 (.fork 11 .leaf .no) .no) .no) .no) .no)) .no)) rfl (by simp only[aj];omega) ay rfl (by kernel_rfl) fU.quiet rfl tR (fun C2 x2=>?_)
   repeat' first
    | exact True.intro
    | refine And.intro ?_ ?_
    | exact x2.die [] rfl tR rfl (oH hp x0.at_) ⟨rfl,rfl,rfl,tR⟩ rfl tR ⟨⟨_,rfl⟩,rfl,rfl,rfl⟩
    | refine x2.back rfl tR ?_
  | true=>
   rw[oJ hp,bd] at same
   refine x.wu 4 [4,5] [0,2,3,4,5,6] (.fork 1 (.fork 7 (.fork 8 (.fork 9 (.fork 10 (.fork 11 .leaf .no) .no) .no) .no) .no) (.fork 7 (.fork 1 (.fork 8 (.fork 9 (.fork 10 (.fork 11 .leaf .no) .no) .no) .no) (.fork 8 (.fork 1 (.fork 9 (.fork 10 (.fork 11 .leaf .no) .no) .no) .no) .no)) .no))
    ⟨[(0, .ptr 0 0),(4, .ptr 1 0),(5, .ptr 2 0),(6, .ptr 3 0),(7, .ptr 4 0),(31, .d (bQ x0.args)),(32,vi (x0.args.length:Int)),(33,vi (i:Int))],[(4, .box [.d (.int .u8 x0.kind), .d (.int .u8 x0.op),vi (-1),vi ra.1,vi ra.2, .own 5, .aB,vi x0.num,vi x0.at_]),(5,Bo (az++[cO s.vals (x0.args.getD i .empty)]))],6⟩ rfl (by simp only[aj];omega) ay rfl (by kernel_rfl) fU.quiet rfl tR (fun C2 x2=>?_) ?_
   ·repeat' first
     | exact True.intro
     | refine And.intro ?_ ?_
     | refine x2.pure rfl tR rfl (look_ok hp x0.at_) ⟨rfl,rfl,rfl,tR⟩ (x2.back rfl tR ?_)
     | refine x2.back rfl tR ?_
     | refine x2.back rfl (by simp only[aj,big];omega) ?_
     | exact Or.inl ⟨⟨⟨rfl,rfl⟩,⟨rfl,rfl⟩,⟨rfl,rfl⟩,⟨rfl,rfl⟩,⟨rfl,rfl⟩,au rfl,rfl,rfl,tR⟩,⟨⟨rfl,rfl,rfl,rfl,rfl,rfl,tR,rfl,rfl,tR⟩,⟨rfl,rfl,by simp,Qq az _⟩,tR⟩,rfl⟩
   exact x.back rfl (by simp only[aj,ak];omega) ⟨⟨i+1,az++[cO s.vals (x0.args.getD i .empty)],by omega,by simp [ha],same⟩,by show x0.args.length-(i+1)<x0.args.length-i;omega,⟨⟨rfl,rfl⟩,⟨rfl,rfl⟩,⟨rfl,rfl⟩,⟨rfl,rfl⟩,⟨rfl,rfl⟩,au rfl,rfl,(show aG (vi ((i:Int)+1)) (vi ((i+1:Nat):Int)) by rw[ads];rfl),tR⟩,⟨aU r,oL s,nD x0,⟨rfl,rfl,rfl,rfl,rfl,rfl,rfl,rfl,rfl,tR⟩,⟨rfl,rfl,rfl,rfl,rfl,rfl,tR,rfl,rfl,tR⟩,⟨rfl,rfl,rfl,fun _ _=>rfl⟩,tR⟩,rfl⟩
 have h1:i=x0.args.length:=by have:=adj h1;omega
 rw[List.drop_of_length_le (by omega),dN] at same
 subst same
 rw[bd] at hQ
 obtain⟨FZ,hFZ⟩:∃FZ,dN s.blks x0.at_ x0.frm []=FZ:=⟨_,rfl⟩
 rw[hFZ] at hQ
 refine Sx.Go.freeze 5 ?_
 refine x.toLoop rfl tR ?_
 refine Go.ownB 4 6 3 1 (fun i=>[.int .i64 (([]:List Int).getD i 0)]) rfl rfl ?_
 refine x.loop (α:=LkW s.blks x0.at_ x0.frm FZ) (fun y=>⟨[(0, .ptr 0 0),(4, .ptr 1 0),(5, .ptr 2 0),(6, .ptr 3 0),(7, .ptr 4 0),(50, .d (bQ x0.frm)),(51,vi (x0.frm.length:Int)),(52,vi (y.i:Int))],[(0,kr r),(1,scC s),(2,GA x0),(3, .box [.dead, .dead, .dead, .dead, .dead, .dead, .dead, .dead, .dead]),(4, .box [.d (.int .u8 x0.kind), .d (.int .u8 x0.op),vi (-1),vi ra.1,vi ra.2, .d (dV az), .own 6,vi x0.num,vi x0.at_]),(6,Bo y.acc)],7⟩) (fun y=>x0.frm.length-y.i) ⟨0,[],Nat.zero_le _,rfl,hFZ⟩ rfl tR ⟨⟨⟨rfl,rfl⟩,⟨rfl,rfl⟩,⟨rfl,rfl⟩,⟨rfl,rfl⟩,⟨rfl,rfl⟩,au rfl,rfl,rfl,tR⟩,⟨aU r,oL s,nD x0,⟨rfl,rfl,rfl,rfl,rfl,rfl,rfl,rfl,rfl,tR⟩,⟨rfl,rfl,rfl,rfl,rfl,ah rfl,rfl,rfl,rfl,tR⟩,⟨rfl,rfl,rfl,fun _ h=>absurd h (adp _)⟩,tR⟩,rfl⟩ (fun y=>?_)
 obtain⟨i,acc,hi,ha,same⟩:=y
 change Go C _ ⟨[(0, .ptr 0 0),(4, .ptr 1 0),(5, .ptr 2 0),(6, .ptr 3 0),(7, .ptr 4 0),(50, .d (bQ x0.frm)),(51,vi (x0.frm.length:Int)),(52,vi (i:Int))],[(0,kr r),(1,scC s),(2,GA x0),(3, .box [.dead, .dead, .dead, .dead, .dead, .dead, .dead, .dead, .dead]),(4, .box [.d (.int .u8 x0.kind), .d (.int .u8 x0.op),vi (-1),vi ra.1,vi ra.2, .d (dV az), .own 6,vi x0.num,vi x0.at_]),(6,Bo acc)],7⟩ _
 refine x.cond rfl tR (fun h1=>?_) (fun h1=>?_)
 ·have h1:i<x0.frm.length:=by have:=adi h1;omega
  rw[FC h1] at same
  cases hp:posB s.blks (x0.frm.getD i .empty) with
  | false=>
   rw[oK hp,bd] at same
   subst same
   rw[bd] at hQ
   subst hQ
   refine x.pK 4 [4,6] [0,2,3,4,5,6] (.fork 1 (.fork 7 (.fork 8 (.fork 9 (.fork 10 (.fork 11 .leaf .no) .no) .no) .no) .no) (.fork 7 (.fork 1 (.fork 8 (.fork 9 (.fork 10 (.fork 11 .leaf .no) .no) .no) .no) (.fork 8 (.fork 1 (.fork 9 (.fork 10 (.fork 11 .leaf .no) .no) .no) .no) .no)) .no)) rfl (by simp only[aj];omega) ay rfl (by kernel_rfl) fU.quiet rfl tR (fun C2 x2=>?_)
   repeat' first
    | exact True.intro
    | refine And.intro ?_ ?_
    | exact x2.die [] rfl tR rfl (oH hp x0.at_) ⟨rfl,rfl,rfl,tR⟩ rfl tR ⟨⟨_,rfl⟩,rfl,rfl,rfl⟩
    | refine x2.back rfl tR ?_
  | true=>
   rw[oJ hp,bd] at same
   refine x.wu 4 [4,6] [0,2,3,4,5,6] (.fork 1 (.fork 7 (.fork 8 (.fork 9 (.fork 10 (.fork 11 .leaf .no) .no) .no) .no) .no) (.fork 7 (.fork 1 (.fork 8 (.fork 9 (.fork 10 (.fork 11 .leaf .no) .no) .no) .no) (.fork 8 (.fork 1 (.fork 9 (.fork 10 (.fork 11 .leaf .no) .no) .no) .no) .no)) .no))
    ⟨[(0, .ptr 0 0),(4, .ptr 1 0),(5, .ptr 2 0),(6, .ptr 3 0),(7, .ptr 4 0),(50, .d (bQ x0.frm)),(51,vi (x0.frm.length:Int)),(52,vi (i:Int))],[(4, .box [.d (.int .u8 x0.kind), .d (.int .u8 x0.op),vi (-1),vi ra.1,vi ra.2, .d (dV az), .own 6,vi x0.num,vi x0.at_]),(6,Bo (acc++[cO s.blks (x0.frm.getD i .empty)]))],7⟩ rfl (by simp only[aj];omega) ay rfl (by kernel_rfl) fU.quiet rfl tR (fun C2 x2=>?_) ?_
   ·repeat' first
     | exact True.intro
     | refine And.intro ?_ ?_
     | refine x2.pure rfl tR rfl (look_ok hp x0.at_) ⟨rfl,rfl,rfl,tR⟩ (x2.back rfl tR ?_)
     | refine x2.back rfl tR ?_
     | refine x2.back rfl (by simp only[aj,big];omega) ?_
     | exact Or.inl ⟨⟨⟨rfl,rfl⟩,⟨rfl,rfl⟩,⟨rfl,rfl⟩,⟨rfl,rfl⟩,⟨rfl,rfl⟩,au rfl,rfl,rfl,tR⟩,⟨⟨rfl,rfl,rfl,rfl,rfl,ah rfl,rfl,rfl,rfl,tR⟩,⟨rfl,rfl,by simp,Qq acc _⟩,tR⟩,rfl⟩
   exact x.back rfl (by simp only[aj,ak];omega) ⟨⟨i+1,acc++[cO s.blks (x0.frm.getD i .empty)],by omega,by simp [ha],same⟩,by show x0.frm.length-(i+1)<x0.frm.length-i;omega,⟨⟨rfl,rfl⟩,⟨rfl,rfl⟩,⟨rfl,rfl⟩,⟨rfl,rfl⟩,⟨rfl,rfl⟩,au rfl,rfl,(show aG (vi ((i:Int)+1)) (vi ((i+1:Nat):Int)) by rw[ads];rfl),tR⟩,⟨aU r,oL s,nD x0,⟨rfl,rfl,rfl,rfl,rfl,rfl,rfl,rfl,rfl,tR⟩,⟨rfl,rfl,rfl,rfl,rfl,ah rfl,rfl,rfl,rfl,tR⟩,⟨rfl,rfl,rfl,fun _ _=>rfl⟩,tR⟩,rfl⟩
 have h1:i=x0.frm.length:=by have:=adj h1;omega
 rw[List.drop_of_length_le (by omega),dN] at same
 subst same
 rw[bd] at hQ
 refine Sx.Go.freeze 6 ?_
 have hpl:(lJ r.q ra.1:Int)=((r.q.funcs.getD ra.1.toNat bD).params.length:Int):=rfl
 refine x.ite (α:=PLift (¬(x0.kind=7∧x0.args.length≠lJ r.q ra.1))) (fun _=>⟨[(0, .ptr 0 0),(4, .ptr 1 0),(5, .ptr 2 0),(6, .ptr 3 0),(7, .ptr 4 0)],[(0,kr r),(1,scC s),(2,GA x0),(3, .box [.dead, .dead, .dead, .dead, .dead, .dead, .dead, .dead, .dead]),(4, .box [.d (.int .u8 x0.kind), .d (.int .u8 x0.op),vi (-1),vi ra.1,vi ra.2, .d (dV az), .d (dV acc),vi x0.num,vi x0.at_])],7⟩) rfl tR (fun h=>?_) (fun h=>?_) (fun y=>?_)
 ·have h:x0.kind=7:=adi h
  have hk:=hk7 h
  by_cases hn:x0.args.length=lJ r.q ra.1
  ·refine x.quiet rfl tR ay (by kernel_rfl) ?_
   refine x.qL rfl (by simp only[aj];omega) rfl (jT x0.at_ 13) rfl rfl ⟨(show aG (vb (decide ((x0.args.length:Int)=(lJ r.q ra.1:Int)))) (vb true) by rw[hn,decide_eq_true rfl];exact rfl),rfl,rfl,tR⟩ ?_
   refine x.dW rfl tR ?_
   exact x.back rfl tR ⟨⟨fun hh=>hh.2 hn⟩,⟨⟨rfl,rfl⟩,⟨rfl,rfl⟩,⟨rfl,rfl⟩,⟨rfl,rfl⟩,⟨rfl,rfl⟩,tR⟩,⟨aU r,oL s,nD x0,⟨rfl,rfl,rfl,rfl,rfl,rfl,rfl,rfl,rfl,tR⟩,⟨rfl,rfl,rfl,rfl,rfl,ah rfl,ah rfl,rfl,rfl,tR⟩,tR⟩,rfl⟩
  ·rw[if_pos ⟨h,hn⟩] at hQ
   subst hQ
   refine x.pK 7 [] [0,1,2,3,4,5,6,7,8,9,10,11,12,13,14,15,16] (.fork 17 .leaf .no) rfl tR ay rfl (by kernel_rfl) fU.quiet rfl (by simp only[aj];omega) (fun C1 x1=>?_)
   exact⟨x1.die [] rfl tR rfl (iQ x0.at_ 13) ⟨(show aG (vb (decide ((x0.args.length:Int)=(lJ r.q ra.1:Int)))) (vb false) by rw[decide_eq_false (by omega)];exact rfl),rfl,rfl,tR⟩ rfl tR ⟨⟨_,rfl⟩,rfl,rfl,rfl⟩,tR⟩
 ·have h:¬x0.kind=7:=adj h
  exact x.back rfl tR ⟨⟨fun hh=>h hh.1⟩,⟨⟨rfl,rfl⟩,⟨rfl,rfl⟩,⟨rfl,rfl⟩,⟨rfl,rfl⟩,⟨rfl,rfl⟩,tR⟩,⟨aU r,oL s,nD x0,⟨rfl,rfl,rfl,rfl,rfl,rfl,rfl,rfl,rfl,tR⟩,⟨rfl,rfl,rfl,rfl,rfl,ah rfl,ah rfl,rfl,rfl,tR⟩,tR⟩,rfl⟩
 rw[if_neg y.down] at hQ
 subst hQ
 change Go C _ ⟨[(0, .ptr 0 0),(4, .ptr 1 0),(5, .ptr 2 0),(6, .ptr 3 0),(7, .ptr 4 0)],[(0,kr r),(1,scC s),(2,GA x0),(3, .box [.dead, .dead, .dead, .dead, .dead, .dead, .dead, .dead, .dead]),(4, .box [.d (.int .u8 x0.kind), .d (.int .u8 x0.op),vi (-1),vi ra.1,vi ra.2, .d (dV az), .d (dV acc),vi x0.num,vi x0.at_])],7⟩ _
 refine x.cond rfl tR (fun h=>?_) (fun h=>?_)
 ·have h:(!decide (x0.dst.data.toList=[]))=true:=h
  have h:¬x0.dst.data.toList=[]:=by simpa using h
  rw[if_neg h]
  exact x.exit rfl tR ⟨.inr rfl,⟨rfl,rfl,rfl,rfl,rfl,ah rfl,ah rfl,rfl,rfl,tR⟩,⟨aU r,tR⟩,rfl⟩
 ·have h:(!decide (x0.dst.data.toList=[]))=false:=h
  have h:x0.dst.data.toList=[]:=by simpa using h
  rw[if_pos h]
  exact x.exit rfl tR ⟨.inr rfl,⟨rfl,rfl,rfl,rfl,rfl,ah rfl,ah rfl,rfl,rfl,tR⟩,⟨aU r,tR⟩,rfl⟩
abbrev bkC (b:Blk):Ch:=.box [vs b.name, .d (uZ b.code),vi b.at_]
theorem V8 (b:Blk):lS (bkC b) (bkC b):=⟨rfl,ah rfl,rfl,tR⟩
abbrev Y6 (l:List Op9):Ch:=.vec 72 9 l.length fun i=>dOp (l.getD i op0)
structure Y7 (b:Blk):Prop where
 c:b.code.length*120≤140737488355328
 x:∀x∈b.code,Mr x
abbrev bkO (r:Res):Flt (List Op9)->Out
 | .ok l=>.ret (.d (wR l)) [kr r]
 | .error (a,e)=>Mk a e
structure BkW (r:Res) (s:Scp) (code:List Ins) (R:Flt (List Op9)) where
 i:Nat
 acc:List Op9
 hi:i≤code.length
 ha:acc.length=i
 same:zK r s code (code.length-i) i acc=R
set_option maxHeartbeats 16000000 in
theorem Ms (r:Res) (s:Scp) (b:Blk) (hz:PolSz r.p) (hb:Y7 b) (hfn:r.fns.length=r.q.funcs.length):aW PG 58 1 [.ptr 0 0,scW s,aat b] [kr r] (bkO r (rz r s b)):=by
 have hbc:=hb.c
 obtain⟨Q,hQ⟩:∃Q,rz r s b=Q:=⟨_,rfl⟩
 rw[hQ]
 unfold rz at hQ
 refine aW.mk (dG 79 1) av [0] Tryz.func58 rfl (by kernel_rfl) rfl rfl (by rcases Q with⟨a,e⟩ | o<;>rfl) ?_
 intro C x
 have hval:(decide (0≤(b.code.length:Int)-1)&&lI (b.code.getD (if (0:Int) > (b.code.length:Int)-1 then 0 else (b.code.length:Int)-1).toNat (aN 0)).kind)=vF b:=by
  unfold vF
  by_cases h:1≤b.code.length
  ·rw[if_neg (by omega),show ((b.code.length:Int)-1).toNat=b.code.length-1 by omega,decide_eq_true (by omega),decide_eq_true h]
  ·rw[decide_eq_false (by omega),decide_eq_false h];rfl
 cases he:vF b with
 | false=>
  rw[he,if_neg (by simp)] at hQ
  subst hQ
  refine x.pK 3 [] [0,1,2,3,4,5,6,7,8,9,12,13] (.fork 10 (.fork 11 (.fork 14 .leaf .no) .no) .no) rfl (by simp only[aj,ak];omega) ay rfl (by kernel_rfl) fU.quiet rfl ?_ (fun C1 x1=>?_)
  ·simp only[aj]
   intro h
   have h:=adi h
   rw[if_neg (by omega)]
   omega
  ·refine⟨x1.gW rfl tR rfl (fun _=>wI (b.code.getD (if (0:Int) > (b.code.length:Int)-1 then 0 else (b.code.length:Int)-1).toNat (aN 0)).kind) rfl ⟨rfl,tR⟩ (x1.back rfl tR ⟨x1.back rfl tR ⟨?_,tR⟩,tR⟩),tR⟩
   exact x1.die [] rfl tR rfl (iQ b.at_ 15) ⟨(show aG (vb (decide (0≤(b.code.length:Int)-1)&&lI (b.code.getD (if (0:Int) > (b.code.length:Int)-1 then 0 else (b.code.length:Int)-1).toNat (aN 0)).kind)) (vb false) by rw[hval,he];exact rfl),rfl,rfl,tR⟩ rfl tR ⟨⟨_,rfl⟩,rfl,rfl,rfl⟩
 | true=>
  rw[he,if_pos rfl] at hQ
  refine x.quiet rfl (by simp only[aj,ak];omega) ay (by kernel_rfl) ?_
  refine x.U6 rfl ?_ rfl (fun _=>wI (b.code.getD (if (0:Int) > (b.code.length:Int)-1 then 0 else (b.code.length:Int)-1).toNat (aN 0)).kind) rfl rfl ⟨rfl,tR⟩ ?_
  ·simp only[aj]
   intro h
   have h:=adi h
   rw[if_neg (by omega)]
   omega
  refine x.qL rfl tR rfl (jT b.at_ 15) rfl rfl ⟨(show aG (vb (decide (0≤(b.code.length:Int)-1)&&lI (b.code.getD (if (0:Int) > (b.code.length:Int)-1 then 0 else (b.code.length:Int)-1).toNat (aN 0)).kind)) (vb true) by rw[hval,he];exact rfl),rfl,rfl,tR⟩ ?_
  refine x.dW rfl tR ?_
  refine x.toLoop rfl tR ?_
  refine Go.own 8 72 9 (fun i=>dOp (([]:List Op9).getD i op0)) rfl ?_
  refine x.loop (α:=BkW r s b.code Q) (fun y=>⟨[(0, .ptr 0 0),(4, .ptr 1 0),(5, .ptr 2 0),(7,vi ((b.code.length:Int)-1)),(8, .own 3),(31, .d (uZ b.code)),(32,vi (b.code.length:Int)),(33,vi (y.i:Int))],[(0,kr r),(1,scC s),(2,bkC b),(3,Y6 y.acc)],4⟩) (fun y=>b.code.length-y.i) ⟨0,[],Nat.zero_le _,rfl,hQ⟩ rfl tR ⟨⟨⟨rfl,rfl⟩,⟨rfl,rfl⟩,⟨rfl,rfl⟩,rfl,rfl,au rfl,rfl,rfl,tR⟩,⟨aU r,oL s,V8 b,⟨rfl,rfl,rfl,fun _ h=>absurd h (adp _)⟩,tR⟩,rfl⟩ (fun y=>?_)
  obtain⟨i,acc,hi,ha,same⟩:=y
  change Go C _ ⟨[(0, .ptr 0 0),(4, .ptr 1 0),(5, .ptr 2 0),(7,vi ((b.code.length:Int)-1)),(8, .own 3),(31, .d (uZ b.code)),(32,vi (b.code.length:Int)),(33,vi (i:Int))],[(0,kr r),(1,scC s),(2,bkC b),(3,Y6 acc)],4⟩ _
  refine x.cond rfl tR (fun h1=>?_) (fun h1=>?_)
  rotate_left
  ·have h1:i=b.code.length:=by have:=adj h1;omega
   rw[h1,Nat.sub_self,zK] at same
   subst same
   refine Sx.Go.freeze 3 ?_
   exact x.exit rfl tR ⟨.inr rfl,au rfl,⟨aU r,tR⟩,rfl⟩
  have h1:i<b.code.length:=by have:=adi h1;omega
  rw[show b.code.length-i=(b.code.length-(i+1))+1 by omega,zK] at same
  have hxs:Mr (b.code.getD i (aN 0)):=hb.x _ (by rw[adf,adh h1];exact List.getElem_mem h1)
  have hop:=V7 r s (b.code.getD i (aN 0)) hz hxs hfn
  have v1:((!lI (b.code.getD i (aN 0)).kind)||decide ((i:Int)=(b.code.length:Int)-1))=!decide (lI (b.code.getD i (aN 0)).kind=true∧i+1≠b.code.length):=by
   rw[show decide ((i:Int)=(b.code.length:Int)-1)=!decide (i+1≠b.code.length) by rw[←decide_not,decide_eq_decide];omega]
   cases lI (b.code.getD i (aN 0)).kind<;>cases hd:decide (i+1≠b.code.length)<;>simp_all
  have v2:(((!decide ((b.code.getD i (aN 0)).kind=3))||decide ((i:Int)=0))||decide ((b.code.getD ((i:Int)-1).toNat (aN 0)).kind=3))=!decide ((b.code.getD i (aN 0)).kind=3∧i≠0∧(b.code.getD (i-1) (aN 0)).kind≠3):=by
   rw[show ((i:Int)-1).toNat=i-1 by omega,show decide ((i:Int)=0)=!decide (i≠0) by rw[←decide_not,decide_eq_decide];omega]
   by_cases c1:(b.code.getD i (aN 0)).kind=3<;>by_cases c2:i≠0<;>by_cases c3:(b.code.getD (i-1) (aN 0)).kind=3<;>simp [c1,c2,c3]
  have hidx:((!decide ((b.code.getD i (aN 0)).kind=3))||decide ((i:Int)=0))=false->0≤(i:Int)-1∧(i:Int)-1<(b.code.length:Int):=fun h=>by
   rw[adw] at h
   have:=adj h.2
   omega
  by_cases c1:lI (b.code.getD i (aN 0)).kind=true∧i+1≠b.code.length
  ·rw[tY,if_pos c1,bd] at same
   subst same
   refine x.pK 5 [] [0,1,9,10] (.fork 2 (.fork 3 (.fork 4 (.fork 5 (.fork 6 (.fork 7 (.fork 8 (.fork 11 .leaf .no) .no) .no) .no) (.fork 6 (.fork 5 (.fork 7 (.fork 8 (.fork 11 .leaf .no) .no) .no) .no) .no)) .no) .no) .no) rfl (by simp only[aj];omega) ay rfl (by kernel_rfl) fU.quiet rfl tR (fun C1 x1=>?_)
   repeat' first
    | exact True.intro
    | refine And.intro ?_ ?_
    | refine x1.pure rfl tR rfl (wI (b.code.getD i (aN 0)).kind) ⟨rfl,tR⟩ (x1.back rfl tR ?_)
    | exact x1.die [] rfl tR rfl (iQ (b.code.getD i (aN 0)).at_ 15) ⟨(show aG (vb ((!lI (b.code.getD i (aN 0)).kind)||decide ((i:Int)=(b.code.length:Int)-1))) (vb false) by rw[v1,decide_eq_true c1];exact rfl),rfl,rfl,tR⟩ rfl tR ⟨⟨_,rfl⟩,rfl,rfl,rfl⟩
    | refine x1.back rfl tR ?_
  refine x.quiet rfl (by simp only[aj];omega) ay (by kernel_rfl) ?_
  refine x.qL rfl tR rfl (wI (b.code.getD i (aN 0)).kind) rfl rfl ⟨rfl,tR⟩ ?_
  refine x.qL rfl tR rfl (jT (b.code.getD i (aN 0)).at_ 15) rfl rfl ⟨(show aG (vb ((!lI (b.code.getD i (aN 0)).kind)||decide ((i:Int)=(b.code.length:Int)-1))) (vb true) by rw[v1,decide_eq_false c1];exact rfl),rfl,rfl,tR⟩ ?_
  refine x.dW rfl tR ?_
  by_cases c2:(b.code.getD i (aN 0)).kind=3∧i≠0∧(b.code.getD (i-1) (aN 0)).kind≠3
  ·rw[tY,if_neg c1,if_pos c2,bd] at same
   subst same
   refine x.pK 5 [] [0,1,2,3,4,5,6,7,8,9,10,11,12,13,14,15,16,17,18] (.fork 19 .leaf .no) rfl tR ay rfl (by kernel_rfl) fU.quiet rfl ?_ (fun C1 x1=>?_)
   ·simp only[aj,ak]
    refine⟨fun h=>?_,fun h=>?_⟩
    all_goals (have:=hidx h;omega)
   ·exact⟨x1.die [] rfl tR rfl (iQ (b.code.getD i (aN 0)).at_ 18) ⟨(show aG (vb (((!decide ((b.code.getD i (aN 0)).kind=3))||decide ((i:Int)=0))||decide ((b.code.getD ((i:Int)-1).toNat (aN 0)).kind=3))) (vb false) by rw[v2,decide_eq_true c2];exact rfl),rfl,rfl,tR⟩ rfl tR ⟨⟨_,rfl⟩,rfl,rfl,rfl⟩,tR⟩
  refine x.quiet rfl tR ay (by kernel_rfl) ?_
  refine x.qL rfl ?_ rfl (jT (b.code.getD i (aN 0)).at_ 18) rfl rfl ⟨(show aG (vb (((!decide ((b.code.getD i (aN 0)).kind=3))||decide ((i:Int)=0))||decide ((b.code.getD ((i:Int)-1).toNat (aN 0)).kind=3))) (vb true) by rw[v2,decide_eq_false c2];exact rfl),rfl,rfl,tR⟩ ?_
  ·simp only[aj,ak]
   refine⟨fun h=>?_,fun h=>?_⟩
   all_goals (have:=hidx h;omega)
  refine x.dW rfl tR ?_
  rw[tY,if_neg c1,if_neg c2] at same
  obtain⟨Y,hY⟩:∃Y,wU r s (b.code.getD i (aN 0))=Y:=⟨_,rfl⟩
  rw[hY] at hop same
  rcases Y with⟨a,e⟩ | y
  ·rw[bd] at same
   subst same
   exact x.die [0] rfl tR rfl hop ⟨⟨rfl,rfl⟩,⟨rfl,rfl,tR⟩,⟨rfl,rfl,rfl,rfl,rfl,ah rfl,ah rfl,rfl,rfl,tR⟩,tR⟩ rfl ⟨aU r,tR⟩ ⟨rfl,rfl⟩
  ·rw[bd] at same
   refine x.call [0] rfl tR rfl hop rfl ⟨⟨rfl,rfl⟩,⟨rfl,rfl,tR⟩,⟨rfl,rfl,rfl,rfl,rfl,ah rfl,ah rfl,rfl,rfl,tR⟩,tR⟩ ⟨aU r,tR⟩ ?_
   exact x.back rfl (by simp only[aj,ak,big];omega) ⟨⟨i+1,acc++[y],by omega,by simp [ha],same⟩,by show b.code.length-(i+1)<b.code.length-i;omega,⟨⟨rfl,rfl⟩,⟨rfl,rfl⟩,⟨rfl,rfl⟩,rfl,rfl,au rfl,rfl,(show aG (vi ((i:Int)+1)) (vi ((i+1:Nat):Int)) by rw[ads];rfl),tR⟩,⟨aU r,oL s,V8 b,⟨rfl,rfl,by simp,fun j hj=>gL dOp 9 (fun _=>rfl) op0 acc y j hj⟩,tR⟩,rfl⟩
abbrev okL:Nat:=140737488355328
abbrev JI:Nat:=10000000000000
theorem ku (s:ByteArray) (hs:s.size≤okL):Pure PG 98 [vs s] (vb (okN s)) []:=by
 refine aI.mk (cfg 10) av [] Tryz.func98 rfl (by kernel_rfl) rfl rfl rfl ?_
 intro C x
 refine x.pure rfl tR rfl (AB s (by unfold okL at hs;omega)) ⟨rfl,tR⟩ ?_
 refine x.gW rfl tR rfl (fun _=>AJ s) rfl ⟨rfl,tR⟩ ?_
 refine x.exit rfl tR ?_
 refine⟨.inr rfl,?_,tR,rfl⟩
 rfl
theorem aau (l:List ByteArray):lG (fun i=>okN (l.getD i .empty)) l.length 0=dZ l:=by
 rw[Bool.eq_iff_iff,wD]
 unfold dZ
 rw[List.all_eq_true]
 constructor
 ·intro h x hx
  obtain⟨i,hi,rfl⟩:=List.getElem_of_mem hx
  have:=h i (Nat.zero_le _) (by omega)
  rwa [adf,adh hi] at this
 ·intro h j _ hj
  exact h _ (dB (by omega))
theorem vH (l:List ByteArray) (hl:l.length≤JI) (hs:∀a,a∈l->a.size≤okL):Pure PG 153 [.d (bQ l)] (vb (dZ l)) []:=by
 refine aI.mk (cfg 15) av [] Tryz.func153 rfl (by kernel_rfl) rfl rfl rfl ?_
 intro C x
 unfold JI at hl
 obtain⟨R,hR⟩:∃R,dZ l=R:=⟨_,rfl⟩
 have hR2:lG (fun i=>okN (l.getD i .empty)) l.length 0=R:=by rw[aau];exact hR
 rw[hR]
 refine x.loop (α:=AW (fun i=>okN (l.getD i .empty)) l.length R) (fun y=>⟨[(5, .d (bQ l)),(6,vi l.length),(7,vi (y.i:Int))],[],0⟩) (fun y=>l.length-y.i) ⟨0,Nat.zero_le _,hR2⟩ rfl tR ⟨⟨au rfl,rfl,rfl,tR⟩,tR,rfl⟩ (fun y=>?_)
 obtain⟨i,hi,same⟩:=y
 change Go C _ ⟨[(5, .d (bQ l)),(6,vi l.length),(7,vi (i:Int))],[],0⟩ _
 refine x.cond rfl tR (fun h2=>?_) (fun h2=>?_)
 ·have h2:(i:Int)<(l.length:Int):=adi h2
  have h2:i<l.length:=by omega
  refine x.pure rfl (by simp only[aj];omega) rfl (ku (l.getD ((i:Int).toNat) .empty) (hs _ (by rw[adv];exact dB h2))) ⟨rfl,tR⟩ ?_
  rw[adv]
  refine x.cond rfl tR (fun h3=>?_) (fun h3=>?_)
  ·have h3:(!okN (l.getD i .empty))=true:=h3
   refine x.exit rfl tR ?_
   rw[AW.stop h2 same (by simpa using h3)]
   exact⟨.inr rfl,rfl,tR,rfl⟩
  ·have h3:(!okN (l.getD i .empty))=false:=h3
   refine x.back rfl (by simp only[aj,ak];omega) ⟨⟨i+1,by omega,AW.step h2 same (by simpa using h3)⟩,by show l.length-(i+1)<l.length-i;omega,⟨au rfl,rfl,?_,tR⟩,tR,rfl⟩
   show aG (vi ((i:Int)+1)) (vi ((i+1:Nat):Int));rw[ads];rfl
 ·have h2:¬(i:Int)<(l.length:Int):=adj h2
  refine x.exit rfl tR ?_
  rw[AW.fin (by omega) hi same]
  exact⟨.inr rfl,rfl,tR,rfl⟩
theorem Bp (s:ByteArray) (b:Bool) (hs:s.size≤okL):Pure PG 183 [vs s,vb b] (vb (cZ s b)) []:=by
 refine aI.mk (cfg 18) av [] Tryz.func183 rfl (by kernel_rfl) rfl rfl rfl ?_
 intro C x
 refine x.gW rfl tR rfl (fun _=>ku s hs) rfl ⟨rfl,tR⟩ ?_
 refine x.exit rfl tR ?_
 refine⟨.inr rfl,?_,tR,rfl⟩
 unfold cZ
 cases b
 ·rfl
 ·cases okN s<;>rfl
theorem Mt (o:Int) (h0:0≤o) (h1:o<256):Pure PG 161 [.d (.int .u8 o)] (vs (opName o)) []:=by
 refine aI.mk (cfg 9) av [] Tryz.func161 rfl (by kernel_rfl) rfl rfl rfl ?_
 intro C x
 refine x.cond rfl (by simp only[aj,ak];omega) (fun h=>?_) (fun h=>?_)
 ·have h:13≤o:=adi h
  refine x.exit rfl tR ?_
  unfold opName
  rw[if_pos h]
  exact⟨.inr rfl,rfl,tR,rfl⟩
 ·have h:¬13≤o:=adj h
  refine x.abp (fun j=>.str (opAt j)) rfl tR rfl Lj ⟨h0,by omega⟩ ?_
  refine x.exit rfl tR ?_
  unfold opName
  rw[if_neg h]
  exact⟨.inr rfl,rfl,tR,rfl⟩
def zM:List (Key×V):=[(.inr 1, .agg [vi 0,vb true,vb false,vb false]),(.inr 2, .agg [vi 2,vb true,vb false,vb false]),(.inr 4, .agg [vi 1,vb true,vb true,vb false]),(.inr 5, .agg [vi 1,vb true,vb true,vb false]),(.inr 6, .agg [vi 2,vb false,vb true,vb false]),(.inr 7, .agg [vi (-1),vb true,vb true,vb false]),(.inr 8, .agg [vi 0,vb true,vb true,vb false]),(.inr 9, .agg [vi 1,vb false,vb true,vb false]),(.inr 10, .agg [vi 1,vb true,vb true,vb false]),(.inr 11, .agg [vi 0,vb false,vb true,vb false]),(.inr 12, .agg [vi 1,vb false,vb true,vb true]),(.inr 13, .agg [vi 1,vb false,vb false,vb false])]
theorem CR:Pure PG 182 [] (.own 0) [.tbl zM]:=by
 refine aI.mk (cfg 15) av [0] Tryz.func182 rfl (by kernel_rfl) rfl rfl rfl ?_
 intro C x
 refine x.exit rfl ?_ ?_
 ·simp only[aj,rO,pz]
  simp
 ·exact⟨.inr rfl,rfl,⟨⟨rfl,rfl,rfl,rfl,rfl,rfl,rfl,rfl,rfl,rfl,rfl,rfl,rfl,rfl,rfl,rfl,rfl,rfl,rfl,rfl,rfl,rfl,rfl,rfl,tR⟩,tR⟩,rfl⟩
theorem yF {k:Key} {G:V->Bool->Prop} {z:V}:∀{es:List (Key×V)},G ((dI k es).getD z) (dI k es).isSome->nu k G z es
 | [],h=>h
 | (a,v)::r,h=>by
  unfold dI at h
  refine⟨fun hk=>?_,fun hk=>?_⟩
  ·rw[if_pos hk] at h;exact h
  ·rw[if_neg hk] at h;exact yF h
theorem jU {k n:Int} {v:V} {r:List (Key×V)} (e:k=n):dI (.inr k) ((.inr n,v)::r)=some v:=by
 unfold dI
 exact if_pos e
theorem jV {k n:Int} {v:V} {r:List (Key×V)} (e:¬k=n):dI (.inr k) ((.inr n,v)::r)=dI (.inr k) r:=by
 conv=>lhs;unfold dI
 exact if_neg e
def shV (p:Int×Bool×Bool×Bool):V:=.agg [vi p.1,vb p.2.1,vb p.2.2.1,vb p.2.2.2]
theorem Ii (k:Int):dI (.inr k) zM=(jm k).map shV:=by
 unfold zM jm
 by_cases e1:k=1
 ·rw[jU e1,if_pos e1];rfl
 rw[jV e1,if_neg e1]
 by_cases e2:k=2
 ·rw[jU e2,if_pos e2];rfl
 rw[jV e2,if_neg e2]
 by_cases e4:k=4
 ·rw[jU e4,if_pos e4];rfl
 rw[jV e4,if_neg e4]
 by_cases e5:k=5
 ·rw[jU e5,if_pos e5];rfl
 rw[jV e5,if_neg e5]
 by_cases e6:k=6
 ·rw[jU e6,if_pos e6];rfl
 rw[jV e6,if_neg e6]
 by_cases e7:k=7
 ·rw[jU e7,if_pos e7];rfl
 rw[jV e7,if_neg e7]
 by_cases e8:k=8
 ·rw[jU e8,if_pos e8];rfl
 rw[jV e8,if_neg e8]
 by_cases e9:k=9
 ·rw[jU e9,if_pos e9];rfl
 rw[jV e9,if_neg e9]
 by_cases e10:k=10
 ·rw[jU e10,if_pos e10];rfl
 rw[jV e10,if_neg e10]
 by_cases e11:k=11
 ·rw[jU e11,if_pos e11];rfl
 rw[jV e11,if_neg e11]
 by_cases e12:k=12
 ·rw[jU e12,if_pos e12];rfl
 rw[jV e12,if_neg e12]
 by_cases e13:k=13
 ·rw[jU e13,if_pos e13];rfl
 rw[jV e13,if_neg e13]
 rfl
theorem X8 {k:Int} {G:V->Bool->Prop} {z:V} {q:Int×Bool×Bool×Bool} (h:jm k=some q) (g:G (shV q) true):nu (.inr k) G z zM:=
 yF (by rw[Ii,h];exact g)
theorem X9 {k:Int} {G:V->Bool->Prop} {z:V} (h:jm k=none) (g:G z false):nu (.inr k) G z zM:=
 yF (by rw[Ii,h];exact g)
end Go.Proofs.YtojhdmfkfkfcbaaGreatDoor
namespace Go.Proofs.YtojhdmfkfkfcbaaGreatDoor
open Go.Sx
set_option linter.unusedVariables false
set_option linter.unusedSimpArgs false
abbrev insV (x:Ins):V:=.agg [.d (.int .u8 x.kind), .d (.int .u8 x.op),vs x.dst,vs x.ref,vs x.alt, .d (bQ x.args), .d (bQ x.frm),vi x.num,vi x.at_]
end Go.Proofs.YtojhdmfkfkfcbaaGreatDoor
namespace Go.Proofs.YtojhdmfkfkfcbaaGreatDoor
open Go.Sx
set_option linter.unusedVariables false
set_option linter.unusedSimpArgs false
set_option maxRecDepth 100000
structure aav (x:Ins):Prop where
 kind:0≤x.kind∧x.kind<256
 op:0≤x.op∧x.op<256
 dst:x.dst.size≤okL
 ref:x.ref.size≤okL
 alt:x.alt.size≤okL
 yw:x.args.length≤JI
 zC:x.frm.length≤JI
 args:∀a,a∈x.args->a.size≤okL
 frm:∀a,a∈x.frm->a.size≤okL
 num:ak x.num
set_option maxHeartbeats 8000000 in
theorem OT (x0:Ins) (hx:aav x0):Pure PG 154 [insV x0] (vb (bS x0)) []:=by
 refine aI.mk (cfg 135) av [] Tryz.func154 rfl (by kernel_rfl) rfl rfl rfl ?_
 intro C x
 have ha:=hx.yw;have hf:=hx.zC
 unfold JI at ha hf
 refine x.gW rfl tR rfl (fun _ _=>Mt x0.op hx.op.1 hx.op.2) rfl ⟨rfl,tR⟩ ?_
 refine x.gW rfl tR rfl (fun _=>vH x0.args hx.yw hx.args) rfl ⟨au rfl,tR⟩ ?_
 refine x.gW rfl tR rfl (fun _=>vH x0.frm hx.zC hx.frm) rfl ⟨au rfl,tR⟩ ?_
 refine x.cond rfl tR (fun h=>?_) (fun h=>?_)
 ·have h:(!((!decide (x0.op=0)) == decide (x0.kind=2))||(!decide (x0.op=0)&&decide ((opName x0.op).data.toList=[]))||(!decide (x0.num=0)&&!decide (x0.kind=1))||!dZ x0.args||!dZ x0.frm)=true:=h
  refine x.exit rfl tR ?_
  refine⟨.inr rfl,?_,tR,rfl⟩
  show false=bS x0
  unfold bS
  rw[if_pos (by simpa only[ne_eq,decide_not,bne] using h)]
 have h:(!((!decide (x0.op=0)) == decide (x0.kind=2))||(!decide (x0.op=0)&&decide ((opName x0.op).data.toList=[]))||(!decide (x0.num=0)&&!decide (x0.kind=1))||!dZ x0.args||!dZ x0.frm)=false:=h
 have hA:((decide (x0.op≠0) != decide (x0.kind=2))||(decide (x0.op≠0)&&decide ((opName x0.op).data.toList=[]))||(decide (x0.num≠0)&&decide (x0.kind≠1))||!dZ x0.args||!dZ x0.frm)=false:=by simpa only[ne_eq,decide_not,bne] using h
 clear h
 unfold bS
 rw[if_neg (by rw[hA];decide)]
 refine x.cond rfl tR (fun h2=>?_) (fun h2=>?_)
 ·have h2:x0.kind=3:=adi h2
  rw[if_pos h2]
  refine x.pure rfl tR rfl (ku x0.dst hx.dst) ⟨rfl,tR⟩ ?_
  refine x.exit rfl tR ?_
  refine⟨.inr rfl,?_,tR,rfl⟩
  show (okN x0.dst&&decide (x0.ref.data.toList=[])&&decide (x0.alt.data.toList=[])&&decide ((x0.frm.length:Int)=x0.args.length)&&decide (1≤(x0.frm.length:Int))&&decide ((x0.frm.length:Int)≤64))=_
  rw[show decide ((x0.frm.length:Int)=x0.args.length)=decide (x0.frm.length=x0.args.length) by rw[decide_eq_decide];omega,show decide (1≤(x0.frm.length:Int))=decide (1≤x0.frm.length) by rw[decide_eq_decide];omega,show decide ((x0.frm.length:Int)≤64)=decide (x0.frm.length≤64) by rw[decide_eq_decide];omega]
 have h2:¬x0.kind=3:=adj h2
 rw[if_neg h2]
 cases hsh:jm x0.kind with
 | none=>
  refine x.qm [] [1,2] (.fork 0 (.fork 3 (.fork 4 (.fork 5 (.fork 6 (.fork 7 (.fork 8 (.fork 9 .leaf .no) .no) .no) (.fork 7 (.fork 6 (.fork 8 (.fork 9 .leaf .no) .no) (.fork 8 (.fork 6 (.fork 9 .leaf .no) .no) .no)) .no)) (.fork 6 (.fork 5 (.fork 7 (.fork 8 (.fork 9 .leaf .no) .no) .no) (.fork 7 (.fork 5 (.fork 8 (.fork 9 .leaf .no) .no) .no) .no)) (.fork 7 (.fork 5 (.fork 6 (.fork 8 (.fork 9 .leaf .no) .no) (.fork 8 (.fork 6 (.fork 9 .leaf .no) .no) .no)) (.fork 6 (.fork 5 (.fork 8 (.fork 9 .leaf .no) .no) .no) .no)) .no))) (.fork 7 (.fork 4 (.fork 5 (.fork 6 (.fork 8 (.fork 9 .leaf .no) .no) (.fork 8 (.fork 6 (.fork 9 .leaf .no) .no) .no)) (.fork 6 (.fork 5 (.fork 8 (.fork 9 .leaf .no) .no) .no) .no)) .no) .no)) (.fork 7 (.fork 3 (.fork 4 (.fork 5 (.fork 6 (.fork 8 (.fork 9 .leaf .no) .no) (.fork 8 (.fork 6 (.fork 9 .leaf .no) .no) .no)) (.fork 6 (.fork 5 (.fork 8 (.fork 9 .leaf .no) .no) .no) .no)) .no) .no) .no)) (.fork 7 (.fork 0 (.fork 3 (.fork 4 (.fork 5 (.fork 6 (.fork 8 (.fork 9 .leaf .no) .no) (.fork 8 (.fork 6 (.fork 9 .leaf .no) .no) .no)) (.fork 6 (.fork 5 (.fork 8 (.fork 9 .leaf .no) .no) .no) .no)) .no) .no) .no) .no))
   ⟨[(1, .ptr 0 0),(3, .ptr 2 0),(4,vb false)],[(2, .box [vi 0,vb false,vb false,vb false])],3⟩
   rfl tR ay (by kernel_rfl) Ret.bT rfl tR (fun C2 x2=>?_) ?_
  ·repeat' first
    | exact True.intro
    | refine And.intro ?_ ?_
    | refine x2.back rfl tR ?_
    | refine x2.call [] rfl tR rfl CR rfl tR tR (x2.back rfl tR ?_)
    | refine x2.look rfl tR rfl (X9 hsh ?_)
    | exact .inl ⟨⟨⟨rfl,rfl⟩,⟨rfl,rfl⟩,rfl,tR⟩,⟨⟨rfl,rfl,rfl,rfl,tR⟩,tR⟩,rfl⟩
    | exact .inr ⟨[0,2,1],rfl,⟨⟨rfl,rfl⟩,⟨rfl,rfl⟩,rfl,tR⟩,⟨⟨rfl,rfl,rfl,rfl,tR⟩,tR⟩,rfl⟩
  refine x.cond rfl tR (fun h3=>?_) (fun h3=>?_)
  ·refine x.exit rfl tR ?_
   exact⟨.inr rfl,rfl,tR,rfl⟩
  ·have h3:((!false||decide ((0:Int)<x0.frm.length))||(decide ((0:Int)≤0)&&!decide ((x0.args.length:Int)=0))||decide ((6:Int)<x0.args.length))=false:=h3
   simp at h3
 | some q=>
  obtain⟨n,d,r,b⟩:=q
  refine x.qm [] [1,2] (.fork 0 (.fork 3 (.fork 4 (.fork 5 (.fork 6 (.fork 7 (.fork 8 (.fork 9 .leaf .no) .no) .no) (.fork 7 (.fork 6 (.fork 8 (.fork 9 .leaf .no) .no) (.fork 8 (.fork 6 (.fork 9 .leaf .no) .no) .no)) .no)) (.fork 6 (.fork 5 (.fork 7 (.fork 8 (.fork 9 .leaf .no) .no) .no) (.fork 7 (.fork 5 (.fork 8 (.fork 9 .leaf .no) .no) .no) .no)) (.fork 7 (.fork 5 (.fork 6 (.fork 8 (.fork 9 .leaf .no) .no) (.fork 8 (.fork 6 (.fork 9 .leaf .no) .no) .no)) (.fork 6 (.fork 5 (.fork 8 (.fork 9 .leaf .no) .no) .no) .no)) .no))) (.fork 7 (.fork 4 (.fork 5 (.fork 6 (.fork 8 (.fork 9 .leaf .no) .no) (.fork 8 (.fork 6 (.fork 9 .leaf .no) .no) .no)) (.fork 6 (.fork 5 (.fork 8 (.fork 9 .leaf .no) .no) .no) .no)) .no) .no)) (.fork 7 (.fork 3 (.fork 4 (.fork 5 (.fork 6 (.fork 8 (.fork 9 .leaf .no) .no) (.fork 8 (.fork 6 (.fork 9 .leaf .no) .no) .no)) (.fork 6 (.fork 5 (.fork 8 (.fork 9 .leaf .no) .no) .no) .no)) .no) .no) .no)) (.fork 7 (.fork 0 (.fork 3 (.fork 4 (.fork 5 (.fork 6 (.fork 8 (.fork 9 .leaf .no) .no) (.fork 8 (.fork 6 (.fork 9 .leaf .no) .no) .no)) (.fork 6 (.fork 5 (.fork 8 (.fork 9 .leaf .no) .no) .no) .no)) .no) .no) .no) .no))
   ⟨[(1, .ptr 0 0),(3, .ptr 2 0),(4,vb true)],[(2, .box [vi n,vb d,vb r,vb b])],3⟩
   rfl tR ay (by kernel_rfl) Ret.bT rfl tR (fun C2 x2=>?_) ?_
  ·repeat' first
    | exact True.intro
    | refine And.intro ?_ ?_
    | refine x2.back rfl tR ?_
    | refine x2.call [] rfl tR rfl CR rfl tR tR (x2.back rfl tR ?_)
    | refine x2.look rfl tR rfl (X8 hsh ?_)
    | exact .inl ⟨⟨⟨rfl,rfl⟩,⟨rfl,rfl⟩,rfl,tR⟩,⟨⟨rfl,rfl,rfl,rfl,tR⟩,tR⟩,rfl⟩
    | exact .inr ⟨[0,2,1],rfl,⟨⟨rfl,rfl⟩,⟨rfl,rfl⟩,rfl,tR⟩,⟨⟨rfl,rfl,rfl,rfl,tR⟩,tR⟩,rfl⟩
  have eb:(decide (0<x0.frm.length)||(decide (0≤n)&&decide ((x0.args.length:Int)≠n))||decide (6<x0.args.length))=(((!true||decide ((0:Int)<x0.frm.length))||(decide (0≤n)&&!decide ((x0.args.length:Int)=n)))||decide ((6:Int)<x0.args.length)):=by
   rw[show decide ((0:Int)<x0.frm.length)=decide (0<x0.frm.length) by rw[decide_eq_decide];omega,show decide ((6:Int)<x0.args.length)=decide (6<x0.args.length) by rw[decide_eq_decide];omega]
   simp only[ne_eq,decide_not,Bool.not_true,Bool.false_or]
  refine x.cond rfl tR (fun h3=>?_) (fun h3=>?_)
  ·have h3:(((!true||decide ((0:Int)<x0.frm.length))||(decide (0≤n)&&!decide ((x0.args.length:Int)=n)))||decide ((6:Int)<x0.args.length))=true:=h3
   refine x.exit rfl tR ?_
   refine⟨.inr rfl,?_,tR,rfl⟩
   show false=(!(_||_||_)&&_)
   rw[eb,h3]
   rfl
  ·have h3:(((!true||decide ((0:Int)<x0.frm.length))||(decide (0≤n)&&!decide ((x0.args.length:Int)=n)))||decide ((6:Int)<x0.args.length))=false:=h3
   refine x.pure rfl tR rfl (Bp x0.dst d hx.dst) ⟨rfl,rfl,tR⟩ ?_
   refine x.gW rfl tR rfl (fun _=>Bp x0.ref r hx.ref) rfl ⟨rfl,rfl,tR⟩ ?_
   refine x.gW rfl tR rfl (fun _=>Bp x0.alt b hx.alt) rfl ⟨rfl,rfl,tR⟩ ?_
   refine x.exit rfl tR ?_
   refine⟨.inr rfl,?_,tR,rfl⟩
   show (cZ x0.dst d&&cZ x0.ref r&&cZ x0.alt b)=(!(_||_||_)&&_)
   rw[eb,h3]
   rfl
theorem JJ {s:ByteArray} (h:cZ s true=true):okN s=true:=by unfold cZ at h;simpa using h
theorem zN {s:ByteArray} (h:cZ s false=true):s=.empty:=nN.wE (by unfold cZ at h;simpa using h)
structure RIn (x:Ins) (n:Int) (d r a:Bool):Prop where
 args:dZ x.args=true
 frm:x.frm=[]
 yw:(0≤n->(x.args.length:Int)=n)∧x.args.length≤6
 dst:cZ x.dst d=true
 ref:cZ x.ref r=true
 alt:cZ x.alt a=true
 op:x.op≠0↔x.kind=2
 num:x.num≠0->x.kind=1
structure acW (x:Ins):Prop where
 args:dZ x.args=true
 frm:dZ x.frm=true
 dst:okN x.dst=true
 ref:x.ref=.empty
 alt:x.alt=.empty
 len:x.frm.length=x.args.length∧1≤x.frm.length∧x.frm.length≤64
 op:x.op=0
 num:x.num=0
theorem jr {x:Ins} (h:bS x=true):(x.kind=3∧acW x)∨∃n d r a,jm x.kind=some (n,d,r,a)∧x.kind≠3∧RIn x n d r a∧(x.kind=2->(opName x.op).data.toList≠[]):=by
 unfold bS at h
 split at h
 ·cases h
 rename_i h0
 simp only[Bool.or_eq_true,not_or,Bool.not_eq_true,Bool.not_eq_false'] at h0
 obtain⟨⟨⟨⟨ho,hop⟩,Ya⟩,ha⟩,hf⟩:=h0
 have ho:x.op≠0↔x.kind=2:=by
  by_cases c1:x.op=0<;>by_cases c2:x.kind=2<;>simp [c1,c2] at ho ⊢
 have Ya:x.num≠0->x.kind=1:=fun h=>by
  by_cases c2:x.kind=1
  ·exact c2
  ·simp [h,c2] at Ya
 have hop:x.op≠0->(opName x.op).data.toList≠[]:=fun h h2=>by simp [h,h2] at hop
 split at h
 ·rename_i hk
  simp only[adg,adn] at h
  obtain⟨⟨⟨⟨⟨h1,h2⟩,h3⟩,h4⟩,h5⟩,h6⟩:=h
  refine .inl ⟨hk,ha,hf,h1,nN.wE h2,nN.wE h3,⟨h4,h5,h6⟩,?_,?_⟩
  ·exact Classical.byContradiction fun hne=>by have:=ho.1 hne;omega
  ·exact Classical.byContradiction fun hne=>by have:=Ya hne;omega
 ·rename_i hk
  split at h
  ·cases h
  ·rename_i n d r a hs
   simp only[adg,adt,adw,adr] at h
   obtain⟨⟨⟨h1,h2⟩,h3⟩,⟨h4,h5⟩,h6⟩:=h
   have hlen:0≤n->(x.args.length:Int)=n:=fun hn=>by
    by_cases c:(x.args.length:Int)=n
    ·exact c
    ·simp [hn,c] at h2
   exact .inr ⟨n,d,r,a,hs,hk,⟨ha,List.eq_nil_of_length_eq_zero (by omega),⟨hlen,by omega⟩,h4,h5,h6,ho,Ya⟩,fun hk2=>hop (ho.2 hk2)⟩
def uh (n i:Nat) (b:Nat->Int):Nat->Int:=fun k=>if k<i∨n≤k+i then b (n-1-k) else b k
theorem JK (n:Nat) (b:Nat->Int) (hn:n≤big):aI PG 111 1 [.own 0] [.vec 5 1 n fun k=>[.int .u8 (b k)]] (.tup []) [.vec 5 1 n fun k=>[.int .u8 (b (n-1-k))]]:=by
 refine aI.mk (acH 28) av [0] Tryz.func111 rfl (by kernel_rfl) rfl rfl rfl ?_
 intro C x
 unfold big at hn
 refine x.loop (α:={i:Nat // 2*i≤n+1}) (fun y=>⟨[(0, .own 0),(2,vi (y.1:Int)),(3,vi ((n:Int)-1-(y.1:Int)))],[(0, .vec 5 1 n fun k=>[.int .u8 (uh n y.1 b k)])],1⟩) (fun y=>n-y.1) ⟨0,by omega⟩ rfl (show ak ((n:Int)-1) by unfold ak;omega) ?_ (fun y=>?_)
 ·refine⟨⟨rfl,rfl,?_,tR⟩,⟨⟨rfl,rfl,rfl,fun i hi=>?_⟩,tR⟩,rfl⟩
  ·show (n:Int)-1=(n:Int)-1-0;omega
  ·show [D.int .u8 (b i)]=[D.int .u8 (uh n 0 b i)]
   rw[uh,if_neg (by omega)]
 obtain⟨i,hi⟩:=y
 change Go C _ ⟨[(0, .own 0),(2,vi (i:Int)),(3,vi ((n:Int)-1-(i:Int)))],[(0, .vec 5 1 n fun k=>[.int .u8 (uh n i b k)])],1⟩ _
 refine x.cond rfl tR (fun h=>?_) (fun h=>?_)
 ·have h':(i:Int)<(n:Int)-1-i:=by simpa using h
  refine x.plan [0,1,2,3,4,5,8,9] [6,7,10,11,12] [13,14,15] rfl tR ay (by kernel_rfl) Ret.bT ?_
  refine x.dW rfl ?_ ?_
  ·simp only[aj];omega
  refine x.back rfl ?_ ?_
  ·simp only[aj,List.length,ak];omega
  refine⟨⟨i+1,by omega⟩,by show n-(i+1)<n-i;omega,⟨rfl,?_,?_,tR⟩,⟨⟨rfl,rfl,rfl,fun k hk=>?_⟩,tR⟩,rfl⟩
  ·show (i:Int)+1=((i+1:Nat):Int);omega
  ·show (n:Int)-1-i-1=(n:Int)-1-((i+1:Nat):Int);omega
  ·rw[qM,qM]
   show [D.int .u8 (if k=((n:Int)-1-i).toNat then uh n i b (i:Int).toNat else if k=(i:Int).toNat then uh n i b ((n:Int)-1-i).toNat else uh n i b k)]=[D.int .u8 (uh n (i+1) b k)]
   congr 2
   rw[show ((n:Int)-1-i).toNat=n-1-i by omega,show (i:Int).toNat=i by omega]
   have e1:uh n i b i=b i:=by rw[uh,if_neg (by omega)]
   have e2:uh n i b (n-1-i)=b (n-1-i):=by rw[uh,if_neg (by omega)]
   rw[e1,e2]
   by_cases h1:k=n-1-i
   ·rw[if_pos h1,uh,if_pos (by omega),h1,show n-1-(n-1-i)=i by omega]
   ·rw[if_neg h1]
    by_cases h2:k=i
    ·rw[if_pos h2,uh,if_pos (by omega),h2]
    ·rw[if_neg h2,uh,uh]
     by_cases h3:k<i∨n≤k+i
     ·rw[if_pos h3,if_pos (by omega)]
     ·rw[if_neg h3,if_neg (by omega)]
 ·have h':¬(i:Int)<(n:Int)-1-i:=by simpa using h
  refine x.exit rfl tR ?_
  refine⟨.inl rfl,tR,⟨⟨rfl,rfl,rfl,fun k hk=>?_⟩,tR⟩,rfl⟩
  show [D.int .u8 (uh n i b k)]=[D.int .u8 (b (n-1-k))]
  rw[uh]
  split
  ·rfl
  ·rw[show n-1-k=k by omega]
structure SI (u0:Nat) where
 u:Nat
 l:List Int
 lo:∀x∈l,48≤x∧x≤57
 same:zw u++(l.map fun x=>UInt8.ofNat x.toNat).reverse=if l=[] then zw u0 else om u0
 first:l=[]->u=u0
 len:l.length≤20∧u<10 ^ (20-l.length)
theorem Tk (l:List Int):(List.range l.length).map (fun i=>UInt8.ofNat (l.getD (l.length-1-i) 0).toNat)=(l.map fun x=>UInt8.ofNat x.toNat).reverse:=by
 apply List.ext_getElem
 ·simp
 ·intro i h1 h2
  simp at h1
  have:l.length-1-i<l.length:=by omega
  simp [this]
theorem Tn (n:Int) (hn:ak n):Pure PG 65 [vi n] (vs (jD n)) []:=by
 refine aI.mk ⟨34,0,false,tys⟩ av [] Tryz.func65 rfl (by kernel_rfl) rfl rfl rfl ?_
 intro C x
 unfold ak at hn
 refine x.ite (α:=Unit) (fun _=>⟨[(3, .d (.int .u64 (n.natAbs:Int))),(4,vs (ba (sgV n)))],[],0⟩) rfl tR (fun h=>?_) (fun h=>?_) (fun _=>?_)
 ·refine x.back rfl tR ⟨(),⟨?_,?_,tR⟩,tR,rfl⟩
  ·show IntKind.u64.wrap (0-IntKind.u64.wrap n)=n.natAbs
   have:n<0:=by simpa using h
   rw[IntKind.wrap_u64,IntKind.wrap_u64]
   omega
  ·show _=ba (sgV n)
   rw[sgV,if_pos (by simpa using h)]
   rfl
 ·refine x.back rfl tR ⟨(),⟨?_,?_,tR⟩,tR,rfl⟩
  ·show IntKind.u64.wrap n=n.natAbs
   have:¬n<0:=by simpa using h
   rw[IntKind.wrap_u64]
   omega
  ·show _=ba (sgV n)
   rw[sgV,if_neg (by simpa using h)]
   rfl
 refine x.toLoop rfl tR ?_
 refine Go.own 5 5 1 (fun _=>[]) rfl ?_
 refine x.loop (α:=SI n.natAbs) (fun y=>⟨[(3, .d (.int .u64 (y.u:Int))),(4,vs (ba (sgV n))),(5, .own 0)],[(0, .vec 5 1 y.l.length fun i=>[.int .u8 (y.l.getD i 0)])],1⟩) (fun y=>21-y.l.length)
  ⟨n.natAbs,[],by simp,by simp,fun _=>rfl,by simp,by show n.natAbs<100000000000000000000;omega⟩ rfl tR ?_ (fun y=>?_)
 ·exact⟨⟨rfl,rfl,rfl,tR⟩,⟨⟨rfl,rfl,rfl,fun i hi=>absurd hi (adp _)⟩,tR⟩,rfl⟩
 obtain⟨u,l,lo,same,first,len⟩:=y
 change Go C _ ⟨[(3, .d (.int .u64 (u:Int))),(4,vs (ba (sgV n))),(5, .own 0)],[(0, .vec 5 1 l.length fun i=>[.int .u8 (l.getD i 0)])],1⟩ _
 refine x.cond rfl tR (fun h=>?_) (fun h=>?_)
 ·have h':0<u∨l=[]:=by
   simp only[Bool.or_eq_true,adn] at h
   rcases h with h | h
   ·exact .inl (by omega)
   ·exact .inr (List.length_eq_zero_iff.1 (by omega))
  have hl:l.length≤19:=by
   rcases h' with h' | rfl
   ·refine Classical.byContradiction fun hh=>?_
    have:l.length=20:=by omega
    rw[this] at len
    simp at len
    omega
   ·simp
  refine x.back rfl ?_ ?_
  ·simp only[aj,big];omega
  have hd:IntKind.u8.wrap (IntKind.u64.wrap (48+(u:Int).tmod 10))=48+((u%10:Nat):Int):=by
   rw[IntKind.wrap_u64,IntKind.wrap_u8,Int.tmod_eq_emod_of_nonneg (by omega)]
   omega
  have hq:IntKind.u64.wrap ((u:Int).tdiv 10)=((u/10:Nat):Int):=by
   have h1:u<10 ^ 20:=Nat.lt_of_lt_of_le len.2 (Nat.pow_le_pow_right (by omega) (by omega))
   have h2:u/10<10000000000000000000:=by omega
   rw[Int.tdiv_eq_ediv_of_nonneg (by omega),IntKind.wrap_u64]
   omega
  refine⟨⟨u/10,l++[48+((u%10:Nat):Int)],?_,?_,?_,?_⟩,?_,⟨?_,rfl,rfl,tR⟩,⟨⟨rfl,rfl,?_,?_⟩,tR⟩,rfl⟩
  ·intro y hy
   rcases List.mem_append.1 hy with hy | hy
   ·exact lo y hy
   ·rw[List.mem_singleton.1 hy];omega
  ·rw[if_neg (by simp)]
   simp only[List.map_append,List.map_cons,List.map_nil,List.reverse_append,List.reverse_cons,List.reverse_nil,List.nil_append,List.singleton_append]
   rw[show (48+((u%10:Nat):Int)).toNat=48+u%10 by omega]
   rw[show zw (u/10)++UInt8.ofNat (48+u%10)::(l.map fun x=>UInt8.ofNat x.toNat).reverse=(zw (u/10)++[UInt8.ofNat (48+u%10)])++(l.map fun x=>UInt8.ofNat x.toNat).reverse by simp]
   rw[R4]
   rcases h' with h' | rfl
   ·by_cases hl0:l=[]
    ·rw[hl0,first hl0];simp
    ·rw[if_neg hl0,zw,if_neg (by omega)] at same
     exact same
   ·rw[first rfl];simp
  ·intro h;simp at h
  ·refine⟨by simp;omega,?_⟩
   have h1:20-l.length=(19-l.length)+1:=by omega
   rw[h1,Nat.pow_succ] at len
   rw[List.length_append,List.length_singleton,show 20-(l.length+1)=19-l.length by omega]
   omega
  ·show 21-(l++[_]).length<21-l.length
   simp;omega
  ·exact hq
  ·show l.length+1=(l++[_]).length
   simp
  ·intro i hi
   have:=U7 .u8 l (48+((u%10:Nat):Int)) i hi
   refine Eq.trans ?_ this
   show app l.length _ (fun _=>[D.int .u8 (IntKind.u8.wrap (IntKind.u64.wrap (48+(u:Int).tmod 10)))]) i=_
   rw[hd]
 ·have h':u=0∧l≠[]:=by
   simp only[adw,adr] at h
   exact⟨by omega,fun e=>h.2 (by rw[e];rfl)⟩
  obtain⟨rfl,hne⟩:=h'
  rw[if_neg hne,zw,if_pos rfl,List.nil_append] at same
  refine x.call [0] rfl tR rfl (JK l.length (fun k=>l.getD k 0) (by unfold big;omega)) rfl ⟨rfl,tR⟩ ⟨⟨rfl,rfl,rfl,fun _ _=>rfl⟩,tR⟩ ?_
  refine x.exit rfl ?_ ?_
  ·refine⟨fun i hi=>trivial,?_⟩
   show (((ba (sgV n)).size+(bytesOf l.length fun k=>[D.int .u8 (l.getD (l.length-1-k) 0)]).size:Nat):Int)≤9223372036854775807
   rw[Es,za,za]
   have:(sgV n).length≤1:=by unfold sgV;split<;>simp
   simp only[List.length_map,List.length_range]
   omega
  refine⟨.inr rfl,?_,tR,rfl⟩
  show ba (sgV n)++bytesOf l.length (fun k=>[D.int .u8 (l.getD (l.length-1-k) 0)])=jD n
  rw[Es,Tk,same,ZL]
  rfl
theorem zO {α:Type} (l:List α) (p:α->Bool) (d:α):lG (fun i=>p (l.getD i d)) l.length 0=l.all p:=by
 rw[Bool.eq_iff_iff,wD,List.all_eq_true]
 constructor
 ·intro h x hx
  obtain⟨i,hi,rfl⟩:=List.getElem_of_mem hx
  have:=h i (Nat.zero_le _) (by omega)
  rwa [adf,adh hi] at this
 ·intro h j _ hj
  exact h _ (dB (by omega))
theorem Qr {l:List Nat} {a:Nat} (h:a∈l):a≤l.sum:=by
 induction l with
 | nil=>cases h
 | cons b r ih=>
  rw[List.sum_cons]
  rcases List.mem_cons.1 h with rfl | h
  ·omega
  ·have:=ih h;omega
def Bq (bs:List Blk) (i:Nat):Nat:=((bs.take i).map fun b=>b.code.length).sum
theorem Ij {bs:List Blk} {i:Nat} (h:i<bs.length):Bq bs (i+1)=Bq bs i+(bs.getD i bH).code.length:=by
 unfold Bq
 rw[List.take_succ_eq_append_getElem h,List.map_append,List.sum_append,adf,adh h]
 simp
theorem JL {bs:List Blk} {k:Nat} (h:∀b,b∈bs->b.code.length≤k):∀i,i≤bs.length->Bq bs i≤i*k
 | 0,_=>by simp [Bq]
 | i+1,hi=>by
  have:=JL h i (by omega)
  have h2:=h _ (dB (d:=bH) (show i<bs.length by omega))
  rw[Ij (by omega),Nat.succ_mul]
  omega
structure FitB (b:Blk):Prop where
 name:b.name.size≤okL
 len:b.code.length≤ug
 code:∀x,x∈b.code->aav x
structure aaw (f:Fun):Prop where
 name:f.name.size≤okL
 aax:f.params.length≤JI
 params:∀a,a∈f.params->a.size≤okL
 Yb:f.blocks.length≤ug
 blocks:∀b,b∈f.blocks->FitB b
structure FitA (a:Arr):Prop where
 name:a.name.size≤okL
 level:a.level.size≤okL
 size:ak a.size
structure OU (p:Prg):Prop where
 yw:p.arrays.length≤ug
 arrays:∀a,a∈p.arrays->FitA a
 zC:p.funcs.length≤ug
 funcs:∀f,f∈p.funcs->aaw f
def fN (f:Fun):Nat:=(f.blocks.map fun b=>b.code.length).sum
theorem Mv (f:Fun):Bq f.blocks f.blocks.length=fN f:=by unfold Bq fN;rw[List.take_length]
def FD (f:Fun):Int×Bool:=if kL f=true then ((fN f:Int),true) else (0,false)
set_option maxHeartbeats 4000000 in
theorem GD (f:Fun) (hf:aaw f):Pure PG 99 [fnV f] (.tup [vi (FD f).1,vb (FD f).2]) []:=by
 refine aI.mk (cfg 66) av [] Tryz.func99 rfl (by kernel_rfl) rfl rfl rfl ?_
 intro C x
 obtain⟨f1,f2,f3,f4,f5⟩:=hf
 have f4':=f4
 unfold ug at f4'
 refine x.pure rfl tR rfl (ku f.name f1) ⟨rfl,tR⟩ ?_
 refine x.gW rfl tR rfl (fun _=>vH f.params f2 f3) rfl ⟨au rfl,tR⟩ ?_
 have ec:(!okN f.name||!dZ f.params||decide (6<f.params.length)||decide (f.blocks.length<1)||decide (64<f.blocks.length))=(((((!okN f.name||!dZ f.params)||decide ((6:Int)<f.params.length))||decide ((f.blocks.length:Int)<1)))||decide ((64:Int)<f.blocks.length)):=by
  rw[show decide ((6:Int)<f.params.length)=decide (6<f.params.length) by rw[decide_eq_decide];omega,show decide ((f.blocks.length:Int)<1)=decide (f.blocks.length<1) by rw[decide_eq_decide];omega,show decide ((64:Int)<f.blocks.length)=decide (64<f.blocks.length) by rw[decide_eq_decide];omega]
 refine x.cond rfl tR (fun h=>?_) (fun h=>?_)
 ·have h:(((((!okN f.name||!dZ f.params)||decide ((6:Int)<f.params.length))||decide ((f.blocks.length:Int)<1)))||decide ((64:Int)<f.blocks.length))=true:=h
  have hF:kL f=false:=by unfold kL;rw[ec,h];rfl
  refine x.exit rfl tR ?_
  unfold FD
  rw[hF]
  exact⟨.inr rfl,⟨rfl,rfl,tR⟩,tR,rfl⟩
 have h:(((((!okN f.name||!dZ f.params)||decide ((6:Int)<f.params.length))||decide ((f.blocks.length:Int)<1)))||decide ((64:Int)<f.blocks.length))=false:=h
 have h64:f.blocks.length≤64:=by
  simp only[adw,adr] at h
  omega
 obtain⟨R,hR⟩:∃R,f.blocks.all oC=R:=⟨_,rfl⟩
 have hF:kL f=R:=by unfold kL;rw[ec,h,hR];simp
 have hR2:lG (fun i=>oC (f.blocks.getD i bH)) f.blocks.length 0=R:=by rw[zO];exact hR
 have bad:R=false->FD f=(0,false):=fun e=>by unfold FD;rw[hF,e];rfl
 have good:R=true->FD f=((fN f:Int),true):=fun e=>by unfold FD;rw[hF,e];rfl
 clear h ec
 have hsum:=JL (k:=ug) (fun b hb=>(f5 b hb).len)
 unfold ug at hsum
 refine x.loop (α:=AW (fun i=>oC (f.blocks.getD i bH)) f.blocks.length R) (fun y=>⟨[(1, .ptr 0 0),(4,vi (Bq f.blocks y.i)),(38, .d (jN f.blocks)),(39,vi f.blocks.length),(40,vi (y.i:Int))],[(0, .box [vs f.name, .d (bQ f.params), .d (jN f.blocks),vi f.at_])],1⟩) (fun y=>f.blocks.length-y.i) ⟨0,Nat.zero_le _,hR2⟩ rfl tR ⟨⟨⟨rfl,rfl⟩,rfl,au rfl,rfl,rfl,tR⟩,⟨⟨rfl,ah rfl,ah rfl,rfl,tR⟩,tR⟩,rfl⟩ (fun y=>?_)
 obtain⟨i,hi,same⟩:=y
 change Go C _ ⟨[(1, .ptr 0 0),(4,vi (Bq f.blocks i)),(38, .d (jN f.blocks)),(39,vi f.blocks.length),(40,vi (i:Int))],[(0, .box [vs f.name, .d (bQ f.params), .d (jN f.blocks),vi f.at_])],1⟩ _
 refine x.cond rfl tR (fun h2=>?_) (fun h2=>?_)
 rotate_left
 ·have h2:¬(i:Int)<(f.blocks.length:Int):=adj h2
  refine x.exit rfl tR ?_
  rw[good (AW.fin (by omega) hi same)]
  obtain rfl:i=f.blocks.length:=by omega
  rw[←Mv]
  exact⟨.inr rfl,⟨rfl,rfl,tR⟩,tR,rfl⟩
 have h2:(i:Int)<(f.blocks.length:Int):=adi h2
 have h2:i<f.blocks.length:=by omega
 have hb:=f5 _ (dB (d:=bH) h2)
 have hs2:=Ij h2
 have hs3:=hsum i hi
 have hs4:i*1000000000000≤64*1000000000000:=Nat.mul_le_mul_right _ (by omega)
 have hfi:∀v,oC (f.blocks.getD i bH)=v->(fun i=>oC (f.blocks.getD i bH)) i=v:=fun v h=>h
 have ei:((i:Int).toNat)=i:=adv i
 obtain⟨b,hbe⟩:∃b,f.blocks.getD i bH=b:=⟨_,rfl⟩
 have acX:f.blocks.getD ((i:Int).toNat) bH=b:=by rw[ei];exact hbe
 rw[hbe] at hb hs2 hfi
 obtain⟨b1,b2,b3⟩:=hb
 unfold ug at b2
 refine x.pure rfl (by simp only[aj];omega) rfl (show Pure PG _ [vs (f.blocks.getD ((i:Int).toNat) bH).name] _ [] from by rw[acX];exact ku b.name b1) ⟨rfl,tR⟩ ?_
 refine x.cond rfl tR (fun h3=>?_) (fun h3=>?_)
 ·have h3:(!okN b.name)=true:=h3
  have hv:oC b=false:=by unfold oC;rw[show okN b.name=false by simpa using h3];rfl
  refine x.exit rfl tR ?_
  rw[bad (AW.stop h2 same (hfi _ hv))]
  exact⟨.inr rfl,⟨rfl,rfl,tR⟩,tR,rfl⟩
 have h3:(!okN b.name)=false:=h3
 obtain⟨Q,hQ⟩:∃Q,b.code.all bS=Q:=⟨_,rfl⟩
 have hv:oC b=Q:=by unfold oC;rw[show okN b.name=true by simpa using h3,hQ];rfl
 have hQ2:lG (fun i=>bS (b.code.getD i (aN 0))) b.code.length 0=Q:=by rw[zO];exact hQ
 rw[hv] at hfi
 rw[acX]
 refine x.loop (α:=AW (fun i=>bS (b.code.getD i (aN 0))) b.code.length Q) (fun y=>⟨[(1, .ptr 0 0),(4,vi (Bq f.blocks i)),(38, .d (jN f.blocks)),(39,vi f.blocks.length),(40,vi (i:Int)),(6, .ptr 1 0),(49, .d (uZ b.code)),(50,vi b.code.length),(51,vi (y.i:Int))],[(0, .box [vs f.name, .d (bQ f.params), .d (jN f.blocks),vi f.at_]),(1, .box [vs b.name, .d (uZ b.code),vi b.at_])],2⟩) (fun y=>b.code.length-y.i) ⟨0,Nat.zero_le _,hQ2⟩ rfl tR ⟨⟨⟨rfl,rfl⟩,rfl,au rfl,rfl,rfl,⟨rfl,rfl⟩,au rfl,rfl,rfl,tR⟩,⟨⟨rfl,ah rfl,ah rfl,rfl,tR⟩,⟨rfl,ah rfl,rfl,tR⟩,tR⟩,rfl⟩ (fun y=>?_)
 obtain⟨k,hk,V9⟩:=y
 change Go C _ ⟨[(1, .ptr 0 0),(4,vi (Bq f.blocks i)),(38, .d (jN f.blocks)),(39,vi f.blocks.length),(40,vi (i:Int)),(6, .ptr 1 0),(49, .d (uZ b.code)),(50,vi b.code.length),(51,vi (k:Int))],[(0, .box [vs f.name, .d (bQ f.params), .d (jN f.blocks),vi f.at_]),(1, .box [vs b.name, .d (uZ b.code),vi b.at_])],2⟩ _
 refine x.cond rfl tR (fun h4=>?_) (fun h4=>?_)
 rotate_left
 ·have h4:¬(k:Int)<(b.code.length:Int):=adj h4
  have hv:=AW.fin (by omega) hk V9
  refine x.back rfl (by simp only[aj,ak];omega) ⟨⟨i+1,by omega,AW.step h2 same (hfi _ hv)⟩,by show f.blocks.length-(i+1)<f.blocks.length-i;omega,⟨⟨rfl,rfl⟩,?_,au rfl,rfl,?_,tR⟩,⟨⟨rfl,ah rfl,ah rfl,rfl,tR⟩,tR⟩,rfl⟩
  ·show aG (vi ((Bq f.blocks i:Int)+b.code.length)) (vi (Bq f.blocks (i+1):Int))
   rw[hs2,ads];rfl
  ·show aG (vi ((i:Int)+1)) (vi ((i+1:Nat):Int));rw[ads];rfl
 have h4:(k:Int)<(b.code.length:Int):=adi h4
 have h4:k<b.code.length:=by omega
 refine x.pure rfl (by simp only[aj];omega) rfl (OT (b.code.getD ((k:Int).toNat) (aN 0)) (by rw[adv];exact b3 _ (dB h4))) ⟨⟨rfl,rfl,rfl,rfl,rfl,ah rfl,ah rfl,rfl,rfl,tR⟩,tR⟩ ?_
 rw[adv]
 refine x.cond rfl tR (fun h5=>?_) (fun h5=>?_)
 ·have h5:(!bS (b.code.getD k (aN 0)))=true:=h5
  refine x.exit rfl tR ?_
  rw[bad (AW.stop h2 same (hfi _ (AW.stop h4 V9 (by simpa using h5))))]
  exact⟨.inr rfl,⟨rfl,rfl,tR⟩,tR,rfl⟩
 ·have h5:(!bS (b.code.getD k (aN 0)))=false:=h5
  refine x.back rfl (by simp only[aj,ak];omega) ⟨⟨k+1,by omega,AW.step h4 V9 (by simpa using h5)⟩,by show b.code.length-(k+1)<b.code.length-k;omega,⟨⟨rfl,rfl⟩,rfl,au rfl,rfl,rfl,⟨rfl,rfl⟩,au rfl,rfl,?_,tR⟩,⟨⟨rfl,ah rfl,ah rfl,rfl,tR⟩,⟨rfl,ah rfl,rfl,tR⟩,tR⟩,rfl⟩
  show aG (vi ((k:Int)+1)) (vi ((k+1:Nat):Int));rw[ads];rfl
def wW (fs:List Fun) (i:Nat):Nat:=((fs.take i).map fN).sum
theorem Tp {fs:List Fun} {i:Nat} (h:i<fs.length):wW fs (i+1)=wW fs i+fN (fs.getD i bD):=by
 unfold wW
 rw[List.take_succ_eq_append_getElem h,List.map_append,List.sum_append,adf,adh h]
 simp
theorem Yc (fs:List Fun) (i:Nat):wW fs i≤iF fs:=by
 have h:iF fs=((fs.take i++fs.drop i).map fN).sum:=by rw[List.take_append_drop];rfl
 rw[h,List.map_append,List.sum_append]
 exact Nat.le_add_right _ _
theorem Wd (fs:List Fun):wW fs fs.length=iF fs:=by unfold wW;rw[List.take_length];rfl
structure RW (fs:List Fun) where
 i:Nat
 hi:i≤fs.length
 ok:∀j,j<i->kL (fs.getD j bD)=true
 few:wW fs i≤4096
theorem acY {f:Fun} (hf:aaw f) (h:kL f=true):fN f≤64*1000000000000:=by
 have h64:f.blocks.length≤64:=by
  unfold kL at h
  simp only[adg,adt,adw,adr] at h
  omega
 have:=JL (k:=ug) (fun b hb=>(hf.blocks b hb).len) f.blocks.length (Nat.le_refl _)
 rw[Mv] at this
 unfold ug at this
 exact Nat.le_trans this (Nat.mul_le_mul_right _ h64)
set_option maxHeartbeats 4000000 in
theorem Mw (p:Prg) (hp:OU p):Pure PG 49 [LB p] (vb (rightG p)) []:=by
 refine aI.mk (cfg 70) av [] Tryz.func49 rfl (by kernel_rfl) rfl rfl rfl ?_
 intro C x
 obtain⟨p1,p2,p3,p4⟩:=hp
 unfold ug at p1 p3
 have ec:(decide (16<p.arrays.length)||decide (64<p.funcs.length))=(decide ((16:Int)<p.arrays.length)||decide ((64:Int)<p.funcs.length)):=by
  rw[show decide ((16:Int)<p.arrays.length)=decide (16<p.arrays.length) by rw[decide_eq_decide];omega,show decide ((64:Int)<p.funcs.length)=decide (64<p.funcs.length) by rw[decide_eq_decide];omega]
 refine x.cond rfl tR (fun h=>?_) (fun h=>?_)
 ·have h:(decide ((16:Int)<p.arrays.length)||decide ((64:Int)<p.funcs.length))=true:=h
  refine x.exit rfl tR ?_
  refine⟨.inr rfl,?_,tR,rfl⟩
  show false=rightG p
  unfold rightG
  rw[ec,h];rfl
 have h:(decide ((16:Int)<p.arrays.length)||decide ((64:Int)<p.funcs.length))=false:=h
 obtain⟨R,hR⟩:∃R,p.arrays.all kK=R:=⟨_,rfl⟩
 have hF:rightG p=(R&&p.funcs.all kL&&decide (iF p.funcs≤4096)):=by unfold rightG;rw[ec,h,hR];rfl
 have hR2:lG (fun i=>kK (p.arrays.getD i dY)) p.arrays.length 0=R:=by rw[zO];exact hR
 rw[hF]
 have h64:p.funcs.length≤64:=by
  simp only[adw,adr] at h
  omega
 clear h ec hF
 refine x.loop (α:=AW (fun i=>kK (p.arrays.getD i dY)) p.arrays.length R) (fun y=>⟨[(1, .ptr 0 0),(21, .d (dH p.arrays)),(22,vi p.arrays.length),(23,vi (y.i:Int))],[(0, .box [.d (dH p.arrays), .d (dU p.funcs)])],1⟩) (fun y=>p.arrays.length-y.i) ⟨0,Nat.zero_le _,hR2⟩ rfl tR ⟨⟨⟨rfl,rfl⟩,au rfl,rfl,rfl,tR⟩,⟨⟨ah rfl,ah rfl,tR⟩,tR⟩,rfl⟩ (fun y=>?_)
 obtain⟨i,hi,same⟩:=y
 change Go C _ ⟨[(1, .ptr 0 0),(21, .d (dH p.arrays)),(22,vi p.arrays.length),(23,vi (i:Int))],[(0, .box [.d (dH p.arrays), .d (dU p.funcs)])],1⟩ _
 refine x.cond rfl tR (fun h2=>?_) (fun h2=>?_)
 ·have h2:(i:Int)<(p.arrays.length:Int):=adi h2
  have h2:i<p.arrays.length:=by omega
  have ei:((i:Int).toNat)=i:=adv i
  have ha:=p2 _ (dB (d:=dY) h2)
  have hfi:∀v,kK (p.arrays.getD i dY)=v->(fun i=>kK (p.arrays.getD i dY)) i=v:=fun v h=>h
  obtain⟨a,hae⟩:∃a,p.arrays.getD i dY=a:=⟨_,rfl⟩
  have acZ:p.arrays.getD ((i:Int).toNat) dY=a:=by rw[ei];exact hae
  rw[hae] at ha hfi
  refine x.pure rfl (by simp only[aj];omega) rfl (show Pure PG _ [vs (p.arrays.getD ((i:Int).toNat) dY).name] _ [] from by rw[acZ];exact ku a.name ha.name) ⟨rfl,tR⟩ ?_
  rw[acZ]
  refine x.gW rfl tR rfl (fun _=>ku a.level ha.level) rfl ⟨rfl,tR⟩ ?_
  refine x.cond rfl tR (fun h3=>?_) (fun h3=>?_)
  ·have h3:(((!okN a.name||!okN a.level)||decide (a.size<1))||decide (256<a.size))=true:=h3
   have hv:kK a=false:=by unfold kK;rw[h3];rfl
   refine x.exit rfl tR ?_
   rw[AW.stop h2 same (hfi _ hv)]
   exact⟨.inr rfl,rfl,tR,rfl⟩
  ·have h3:(((!okN a.name||!okN a.level)||decide (a.size<1))||decide (256<a.size))=false:=h3
   have hv:kK a=true:=by unfold kK;rw[h3];rfl
   refine x.back rfl (by simp only[aj,ak];omega) ⟨⟨i+1,by omega,AW.step h2 same (hfi _ hv)⟩,by show p.arrays.length-(i+1)<p.arrays.length-i;omega,⟨⟨rfl,rfl⟩,au rfl,rfl,?_,tR⟩,⟨⟨ah rfl,ah rfl,tR⟩,tR⟩,rfl⟩
   show aG (vi ((i:Int)+1)) (vi ((i+1:Nat):Int));rw[ads];rfl
 have h2:¬(i:Int)<(p.arrays.length:Int):=adj h2
 have eR:=AW.fin (by omega) hi same
 subst eR
 refine x.loop (α:=RW p.funcs) (fun y=>⟨[(1, .ptr 0 0),(5,vi (wW p.funcs y.i)),(49, .d (dU p.funcs)),(50,vi p.funcs.length),(51,vi (y.i:Int))],[(0, .box [.d (dH p.arrays), .d (dU p.funcs)])],1⟩) (fun y=>p.funcs.length-y.i) ⟨0,Nat.zero_le _,fun j hj=>by omega,by simp [wW]⟩ rfl tR ⟨⟨⟨rfl,rfl⟩,rfl,au rfl,rfl,rfl,tR⟩,⟨⟨ah rfl,ah rfl,tR⟩,tR⟩,rfl⟩ (fun y=>?_)
 obtain⟨k,hk,ok,few⟩:=y
 change Go C _ ⟨[(1, .ptr 0 0),(5,vi (wW p.funcs k)),(49, .d (dU p.funcs)),(50,vi p.funcs.length),(51,vi (k:Int))],[(0, .box [.d (dH p.arrays), .d (dU p.funcs)])],1⟩ _
 refine x.cond rfl tR (fun h3=>?_) (fun h3=>?_)
 rotate_left
 ·have h3:¬(k:Int)<(p.funcs.length:Int):=adj h3
  obtain rfl:k=p.funcs.length:=by omega
  refine x.exit rfl tR ?_
  have e1:p.funcs.all kL=true:=by
   rw[←zO p.funcs kL bD,wD]
   exact fun j _ hj=>ok j (by omega)
  rw[Wd] at few
  rw[e1,decide_eq_true few]
  exact⟨.inr rfl,rfl,tR,rfl⟩
 have h3:(k:Int)<(p.funcs.length:Int):=adi h3
 have h3:k<p.funcs.length:=by omega
 have hff:=p4 _ (dB (d:=bD) h3)
 have hs:=Tp h3
 obtain⟨f,hfe⟩:∃f,p.funcs.getD k bD=f:=⟨_,rfl⟩
 have ac0:p.funcs.getD ((k:Int).toNat) bD=f:=by rw[adv];exact hfe
 rw[hfe] at hff hs
 refine x.pure rfl (by simp only[aj];omega) rfl (show Pure PG _ [fnV (p.funcs.getD ((k:Int).toNat) bD)] _ [] from by rw[ac0];exact GD f hff) ⟨⟨rfl,ah rfl,ah rfl,rfl,tR⟩,tR⟩ ?_
 rw[ac0]
 have hin:f∈p.funcs:=by rw[←hfe];exact dB h3
 cases hok:kL f with
 | false=>
  have eR:FD f=(0,false):=by unfold FD;rw[hok];rfl
  have e1:p.funcs.all kL=false:=by
   rw[Bool.eq_false_iff,Ne,List.all_eq_true]
   intro h;rw[h f hin] at hok;cases hok
  rw[eR,e1]
  refine x.cond rfl (by simp only[aj,ak];omega) (fun h4=>?_) (fun h4=>?_)
  ·refine x.exit rfl tR ?_
   exact⟨.inr rfl,rfl,tR,rfl⟩
  ·have h4:(!false||_)=false:=h4
   simp at h4
 | true=>
  have eR:FD f=((fN f:Int),true):=by unfold FD;rw[hok];rfl
  have hN:=acY hff hok
  rw[eR]
  refine x.cond rfl (by simp only[aj,ak];omega) (fun h4=>?_) (fun h4=>?_)
  ·have h4:(!true||decide ((4096:Int)<(wW p.funcs k:Int)+(fN f:Int)))=true:=h4
   have h4:(4096:Int)<(wW p.funcs k:Int)+(fN f:Int):=by simpa using h4
   have hle:=Yc p.funcs (k+1)
   refine x.exit rfl tR ?_
   rw[decide_eq_false (show ¬iF p.funcs≤4096 by omega),Bool.and_false]
   exact⟨.inr rfl,rfl,tR,rfl⟩
  ·have h4:(!true||decide ((4096:Int)<(wW p.funcs k:Int)+(fN f:Int)))=false:=h4
   have h4:¬(4096:Int)<(wW p.funcs k:Int)+(fN f:Int):=by simpa using h4
   refine x.back rfl (by simp only[aj,ak];omega) ⟨⟨k+1,by omega,fun j hj=>?_,by omega⟩,by show p.funcs.length-(k+1)<p.funcs.length-k;omega,⟨⟨rfl,rfl⟩,?_,au rfl,rfl,?_,tR⟩,⟨⟨ah rfl,ah rfl,tR⟩,tR⟩,rfl⟩
   ·by_cases e:j=k
    ·rw[e,hfe];exact hok
    ·exact ok j (by omega)
   ·show aG (vi ((wW p.funcs k:Int)+(fN f:Int))) (vi (wW p.funcs (k+1):Int))
    rw[hs,ads];rfl
   ·show aG (vi ((k:Int)+1)) (vi ((k+1:Nat):Int));rw[ads];rfl
end Go.Proofs.YtojhdmfkfkfcbaaGreatDoor
