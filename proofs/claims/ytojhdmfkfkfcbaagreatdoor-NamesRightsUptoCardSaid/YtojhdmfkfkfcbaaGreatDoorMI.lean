import Derived.Test.YtojhdmfkfkfcbaaGreatDoorMH
import Derived.Test.YtojhdmfkfkfcbaaGreatDoorMG
import Derived.Test.YtojhdmfkfkfcbaaGreatDoorMB
import Derived.Test.YtojhdmfkfkfcbaaGreatDoorME
import Derived.Test.YtojhdmfkfkfcbaaGreatDoorSxH
import Derived.Test.YtojhdmfkfkfcbaaGreatDoorMA
import Derived.Test.YtojhdmfkfkfcbaaGreatDoorSxG
import Derived.Test.YtojhdmfkfkfcbaaGreatDoorRows
import Derived.ProofKit
import Derived.Test.YtojhdmfkfkfcbaaGreatDoorSxA
set_option maxHeartbeats 1000000000
set_option linter.unusedSimpArgs false
set_option linter.unusedVariables false
namespace Go.Proofs.YtojhdmfkfkfcbaaGreatDoor
open Go.Sx
set_option maxRecDepth 100000
def bQ(k:Int):Int×Bool×Bool×Bool×Bool:=
 if k=1 then (0,true,false,false,true) else
 if k=2 then (2,true,false,false,true) else
 if k=3 then (8,true,false,false,true) else
 if k=4 then (1,true,true,false,true) else
 if k=5 then (1,true,true,false,true) else
 if k=6 then (2,false,true,false,true) else
 if k=7 then (9,true,true,false,true) else
 if k=8 then (0,true,true,false,true) else
 if k=9 then (1,false,true,false,true) else
 if k=10 then (1,true,true,false,true) else
 if k=11 then (0,false,true,false,true) else
 if k=12 then (1,false,true,true,true) else
 if k=13 then (1,false,false,false,true) else
 (0,false,false,false,false)
theorem QY(k:Int):Pure PG 173 [.d (.int .u8 k)] (.tup [vi (bQ k).1,vb (bQ k).2.1,vb (bQ k).2.2.1,vb (bQ k).2.2.2.1,vb (bQ k).2.2.2.2]) []:=by
 refine aD.mk (cfg 33) av [] Tryz.func173 Z (by kernel_rfl) Z Z Z ?_
 intro C x
 refine x.cond Z tR (λh=>?_) (λh=>?_)
 ·have h:k=1:=afH h
  have e:bQ k=(0,true,false,false,true):=by unfold bQ;rw[if_pos h]
  refine x.exit Z tR ?_
  rw[e]
  exact⟨.inr Z,⟨Z,Z,Z,Z,Z,tR⟩,tR,Z⟩
 have h1:¬k=1:=afI h
 refine x.cond Z tR (λh=>?_) (λh=>?_)
 ·have h:k=2:=afH h
  have e:bQ k=(2,true,false,false,true):=by unfold bQ;rw[if_neg h1,if_pos h]
  refine x.exit Z tR ?_
  rw[e]
  exact⟨.inr Z,⟨Z,Z,Z,Z,Z,tR⟩,tR,Z⟩
 have h2:¬k=2:=afI h
 refine x.cond Z tR (λh=>?_) (λh=>?_)
 ·have h:k=3:=afH h
  have e:bQ k=(8,true,false,false,true):=by unfold bQ;rw[if_neg h1,if_neg h2,if_pos h]
  refine x.exit Z tR ?_
  rw[e]
  exact⟨.inr Z,⟨Z,Z,Z,Z,Z,tR⟩,tR,Z⟩
 have h3:¬k=3:=afI h
 refine x.cond Z tR (λh=>?_) (λh=>?_)
 ·have h:k=4:=afH h
  have e:bQ k=(1,true,true,false,true):=by unfold bQ;rw[if_neg h1,if_neg h2,if_neg h3,if_pos h]
  refine x.cond Z tR (λ_=>?_) (λh2=>absurd h (afI h2))
  refine x.exit Z tR ?_
  rw[e]
  exact⟨.inr Z,⟨Z,Z,Z,Z,Z,tR⟩,tR,Z⟩
 have h4:¬k=4:=afI h
 refine x.cond Z tR (λh=>?_) (λh=>?_)
 ·have h:k=5:=afH h
  have e:bQ k=(1,true,true,false,true):=by unfold bQ;rw[if_neg h1,if_neg h2,if_neg h3,if_neg h4,if_pos h]
  refine x.exit Z tR ?_
  rw[e]
  exact⟨.inr Z,⟨Z,Z,Z,Z,Z,tR⟩,tR,Z⟩
 have h5:¬k=5:=afI h
 refine x.cond Z tR (λh=>?_) (λh=>?_)
 ·have h:k=6:=afH h
  have e:bQ k=(2,false,true,false,true):=by unfold bQ;rw[if_neg h1,if_neg h2,if_neg h3,if_neg h4,if_neg h5,if_pos h]
  refine x.exit Z tR ?_
  rw[e]
  exact⟨.inr Z,⟨Z,Z,Z,Z,Z,tR⟩,tR,Z⟩
 have h6:¬k=6:=afI h
 refine x.cond Z tR (λh=>?_) (λh=>?_)
 ·have h:k=7:=afH h
  have e:bQ k=(9,true,true,false,true):=by unfold bQ;rw[if_neg h1,if_neg h2,if_neg h3,if_neg h4,if_neg h5,if_neg h6,if_pos h]
  refine x.exit Z tR ?_
  rw[e]
  exact⟨.inr Z,⟨Z,Z,Z,Z,Z,tR⟩,tR,Z⟩
 have h7:¬k=7:=afI h
 refine x.cond Z tR (λh=>?_) (λh=>?_)
 ·have h:k=8:=afH h
  have e:bQ k=(0,true,true,false,true):=by unfold bQ;rw[if_neg h1,if_neg h2,if_neg h3,if_neg h4,if_neg h5,if_neg h6,if_neg h7,if_pos h]
  refine x.exit Z tR ?_
  rw[e]
  exact⟨.inr Z,⟨Z,Z,Z,Z,Z,tR⟩,tR,Z⟩
 have h8:¬k=8:=afI h
 refine x.cond Z tR (λh=>?_) (λh=>?_)
 ·have h:k=9:=afH h
  have e:bQ k=(1,false,true,false,true):=by unfold bQ;rw[if_neg h1,if_neg h2,if_neg h3,if_neg h4,if_neg h5,if_neg h6,if_neg h7,if_neg h8,if_pos h]
  refine x.exit Z tR ?_
  rw[e]
  exact⟨.inr Z,⟨Z,Z,Z,Z,Z,tR⟩,tR,Z⟩
 have h9:¬k=9:=afI h
 refine x.cond Z tR (λh=>?_) (λh=>?_)
 ·have h:k=10:=afH h
  have e:bQ k=(1,true,true,false,true):=by unfold bQ;rw[if_neg h1,if_neg h2,if_neg h3,if_neg h4,if_neg h5,if_neg h6,if_neg h7,if_neg h8,if_neg h9,if_pos h]
  refine x.exit Z tR ?_
  rw[e]
  exact⟨.inr Z,⟨Z,Z,Z,Z,Z,tR⟩,tR,Z⟩
 have h10:¬k=10:=afI h
 refine x.cond Z tR (λh=>?_) (λh=>?_)
 ·have h:k=11:=afH h
  have e:bQ k=(0,false,true,false,true):=by unfold bQ;rw[if_neg h1,if_neg h2,if_neg h3,if_neg h4,if_neg h5,if_neg h6,if_neg h7,if_neg h8,if_neg h9,if_neg h10,if_pos h]
  refine x.exit Z tR ?_
  rw[e]
  exact⟨.inr Z,⟨Z,Z,Z,Z,Z,tR⟩,tR,Z⟩
 have h11:¬k=11:=afI h
 refine x.cond Z tR (λh=>?_) (λh=>?_)
 ·have h:k=12:=afH h
  have e:bQ k=(1,false,true,true,true):=by unfold bQ;rw[if_neg h1,if_neg h2,if_neg h3,if_neg h4,if_neg h5,if_neg h6,if_neg h7,if_neg h8,if_neg h9,if_neg h10,if_neg h11,if_pos h]
  refine x.exit Z tR ?_
  rw[e]
  exact⟨.inr Z,⟨Z,Z,Z,Z,Z,tR⟩,tR,Z⟩
 have h12:¬k=12:=afI h
 refine x.cond Z tR (λh=>?_) (λh=>?_)
 ·have h:k=13:=afH h
  have e:bQ k=(1,false,false,false,true):=by unfold bQ;rw[if_neg h1,if_neg h2,if_neg h3,if_neg h4,if_neg h5,if_neg h6,if_neg h7,if_neg h8,if_neg h9,if_neg h10,if_neg h11,if_neg h12,if_pos h]
  refine x.exit Z tR ?_
  rw[e]
  exact⟨.inr Z,⟨Z,Z,Z,Z,Z,tR⟩,tR,Z⟩
 have h13:¬k=13:=afI h
 have e:bQ k=(0,false,false,false,false):=by unfold bQ;rw[if_neg h1,if_neg h2,if_neg h3,if_neg h4,if_neg h5,if_neg h6,if_neg h7,if_neg h8,if_neg h9,if_neg h10,if_neg h11,if_neg h12,if_neg h13]
 refine x.exit Z tR ?_
 rw[e]
 exact⟨.inr Z,⟨Z,Z,Z,Z,Z,tR⟩,tR,Z⟩
def OpR(p:Pol)(c:Cod)(b:Bod)(x:Op9)(next:Int):Prop:=∃n d r a,ROp p c b x n d r a∧(d=true->x.dst=next)
structure OpP(p:Pol)(c:Cod)(b:Bod)(x:Op9)(next n:Int)(d r a is:Bool):Prop where
 is:is=true
 d1:d=true->x.dst=next
 d0:d=false->x.dst=-1
 r0:r=false->x.ref=0
 a0:a=false->x.alt=0
 num:x.kind≠1->x.num=0
 op0:x.kind≠2->x.op=0
 op1:x.kind=2->1≤x.op∧x.op≤12
 r1:r=true->0≤x.ref∧x.ref<uU p c.arrays.length c.funcs.length b.blocks.length x.kind
 a1:a=true->0≤x.alt∧x.alt<(b.blocks.length:Int)
 phi:x.kind=3->x.frm.length=x.args.length∧1≤x.frm.length∧x.frm.length≤64
 KP:x.kind≠3->x.frm=[]∧(x.args.length:Int)=if x.kind=7 then (c.funcs.getD x.ref.toNat aA).params else n
 args:∀k∈x.args,0≤k∧k<b.vars
 frm:∀k∈x.frm,0≤k∧k<(b.blocks.length:Int)
theorem JG{k n:Int}{d r a is:Bool}(h:bQ k=(n,d,r,a,is)):(is=true->∃n',shp k=some (n',d,r,a)∧(k≠3->k≠7->n'=n))∧(is=false->shp k=none)∧(is=true->k=7->r=true)∧(is=true->d=lM k):=by
 unfold bQ at h
 unfold lM shp jL
 by_cases g1:k=1
 ·subst g1;cases h;simp
 by_cases g2:k=2
 ·subst g2;cases h;simp
 by_cases g3:k=3
 ·subst g3;cases h;simp
 by_cases g4:k=4
 ·subst g4;cases h;simp
 by_cases g5:k=5
 ·subst g5;cases h;simp
 by_cases g6:k=6
 ·subst g6;cases h;simp
 by_cases g7:k=7
 ·subst g7;cases h;simp
 by_cases g8:k=8
 ·subst g8;cases h;simp
 by_cases g9:k=9
 ·subst g9;cases h;simp
 by_cases g10:k=10
 ·subst g10;cases h;simp
 by_cases g11:k=11
 ·subst g11;cases h;simp
 by_cases g12:k=12
 ·subst g12;cases h;simp
 by_cases g13:k=13
 ·subst g13;cases h;simp
 simp only[g1,g2,g3,g4,g5,g6,g7,g8,g9,g10,g11,g12,g13,if_false] at h ⊢
 cases h;simp
theorem aaP{p:Pol}{c:Cod}{b:Bod}{x:Op9}{next n:Int}{d r a is:Bool}(hs:bQ x.kind=(n,d,r,a,is)):OpR p c b x next↔OpP p c b x next n d r a is:=by
 obtain⟨s1,s2,s3,s4⟩:=JG hs
 constructor
 ·rintro ⟨n',d',r',a',h,hd⟩
  have hsh:=h.sh
  cases is with
  | false=>rw[s2 rfl] at hsh;cases hsh
  | true=>
   obtain⟨n2,e,hn⟩:=s1 Z
   rw[e] at hsh
   cases hsh
   exact⟨Z,hd,h.d0,h.r0,h.a0,h.num,h.op0,h.op1,h.r1,h.a1,h.phi,λg=>by
    obtain⟨h1,h2⟩:=h.KP g
    refine⟨h1,?_⟩
    by_cases g7:x.kind=7
    ·rw[if_pos g7] at h2 ⊢;exact h2
    ·rw[if_neg g7] at h2 ⊢;rw[h2,hn g g7],h.args,h.frm⟩
 ·intro h
  obtain⟨n2,e,hn⟩:=s1 h.is
  exact⟨n2,d,r,a,⟨e,h.d0,h.r0,h.a0,h.num,h.op0,h.op1,h.r1,h.a1,h.phi,λg=>by
   obtain⟨h1,h2⟩:=h.KP g
   refine⟨h1,?_⟩
   by_cases g7:x.kind=7
   ·rw[if_pos g7] at h2 ⊢;exact h2
   ·rw[if_neg g7] at h2 ⊢;rw[h2,hn g g7],h.args,h.frm⟩,h.d1⟩
def aaQ(x:Op9)(next:Int)(d r a is:Bool):Bool:=((((((!is||(d&&!decide (x.dst=next)))||(!d&&!decide (x.dst=-1)))||(!r&&!decide (x.ref=0)))||(!a&&!decide (x.alt=0)))||(!decide (x.kind=1)&&!decide (x.num=0)))||(!decide (x.kind=2)&&!decide (x.op=0)))||(decide (x.kind=2)&&(decide (x.op<1)||decide (12<x.op)))
theorem Ox{x:Op9}{next:Int}{d r a is:Bool}:aaQ x next d r a is=false↔is=true∧(d=true->x.dst=next)∧(d=false->x.dst=-1)∧(r=false->x.ref=0)∧(a=false->x.alt=0)∧(x.kind≠1->x.num=0)∧(x.kind≠2->x.op=0)∧(x.kind=2->1≤x.op∧x.op≤12):=by
 unfold aaQ
 simp only[afU,Bool.and_eq_false_iff,Bool.not_eq_false',afL,afP,Int.not_lt]
 constructor
 ·rintro ⟨⟨⟨⟨⟨⟨⟨h1,h2⟩,h3⟩,h4⟩,h5⟩,h6⟩,h7⟩,h8⟩
  refine⟨h1,λg=>?_,λg=>?_,λg=>?_,λg=>?_,λg=>h6.resolve_left g,λg=>h7.resolve_left g,λg=>?_⟩
  ·rw[g] at h2;simpa using h2
  ·rw[g] at h3;simpa using h3
  ·rw[g] at h4;simpa using h4
  ·rw[g] at h5;simpa using h5
  ·rcases h8 with h8 | h8
   ·exact absurd g h8
   ·exact h8
 ·rintro ⟨h1,h2,h3,h4,h5,h6,h7,h8⟩
  refine⟨⟨⟨⟨⟨⟨⟨h1,?_⟩,?_⟩,?_⟩,?_⟩,?_⟩,?_⟩,?_⟩
  ·cases d with
   | true=>exact .inr (h2 rfl)
   | false=>exact .inl rfl
  ·cases d with
   | true=>exact .inl rfl
   | false=>exact .inr (h3 rfl)
  ·cases r with
   | true=>exact .inl rfl
   | false=>exact .inr (h4 rfl)
  ·cases a with
   | true=>exact .inl rfl
   | false=>exact .inr (h5 rfl)
  ·by_cases g:x.kind=1
   ·exact .inl g
   ·exact .inr (h6 g)
  ·by_cases g:x.kind=2
   ·exact .inl g
   ·exact .inr (h7 g)
  ·by_cases g:x.kind=2
   ·exact .inr (h8 g)
   ·exact .inl g
def aaR(x:Op9)(r a:Bool)(most nb:Int):Bool:=(r&&(decide (x.ref<0)||decide (most≤x.ref)))||(a&&(decide (x.alt<0)||decide (nb≤x.alt)))
theorem Oy{x:Op9}{r a:Bool}{most nb:Int}:aaR x r a most nb=false↔(r=true->0≤x.ref∧x.ref<most)∧(a=true->0≤x.alt∧x.alt<nb):=by
 unfold aaR
 simp only[afU,Bool.and_eq_false_iff,afP,Int.not_lt,Int.not_le]
 cases r<;>cases a<;>simp
theorem Y9{P:Int->Prop}{l:List Int}:(∀k∈l,P k)↔∀j,j<l.length->P (l.getD j 0):=
 ⟨λh j hj=>h _ (getD_in 0 hj),λh k hk=>by
  obtain⟨j,hj,rfl⟩:=List.getElem_of_mem hk
  have:=h j hj
  rwa [afE,afG hj] at this⟩
open Classical in
noncomputable def Ir (p:Pol) (c:Cod) (b:Bod) (x:Op9) (next:Int):Int×Bool:=if OpR p c b x next then (if lM x.kind=true then next+1 else next,true) else (next,false)
theorem SN{p:Pol}{c:Cod}{b:Bod}{x:Op9}{next:Int}(h:¬OpR p c b x next):Ir p c b x next=(next,false):=if_neg h
theorem KZ{p:Pol}{c:Cod}{b:Bod}{x:Op9}{next:Int}(h:OpR p c b x next):Ir p c b x next=(if lM x.kind=true then next+1 else next,true):=if_pos h
structure OpsR(p:Pol)(c:Cod)(b:Bod)(l:List Op9)(next:Int)(n:Nat):Prop where
 op:∀k,k<n->OpR p c b (l.getD k op0) (next+(eG (l.take k)).length)
 e:∀k,k<n->(j5 (l.getD k op0).kind=true↔k+1=l.length)
 ph:∀k,k<n->(l.getD k op0).kind=3->k≠0->(l.getD (k-1) op0).kind=3
structure QZ(p:Pol)(c:Cod)(b:Bod)(n:Nat):Prop where
 ops:∀i,i<n->(1≤(b.blocks.getD i []).length∧(b.blocks.getD i []).length≤4096)∧OpsR p c b (b.blocks.getD i []) (b.params+(dw (b.blocks.take i)).length) (b.blocks.getD i []).length
theorem take_at{α:Type}{l:List α}{k:Nat}(h:k<l.length)(d:α):l.take (k+1)=l.take k++[l.getD k d]:=by
 rw[List.take_succ_eq_append_getElem h,afE,afG h];rfl
theorem Oz(l m:List Op9):eG (l++m)=eG l++eG m:=List.filterMap_append ..
theorem JH(l m:List (List Op9)):dw (l++m)=dw l++dw m:=List.flatMap_append ..
theorem K3:∀(l:List Op9) (next:Int),(∀k,k<l.length->lM (l.getD k op0).kind=true->(l.getD k op0).dst=next+(eG (l.take k)).length)↔∀i,i<(eG l).length->(eG l).getD i 0=next+i
 | [],next=>⟨λ_ i hi=>absurd hi (afN _),λ_ k hk=>absurd hk (afN _)⟩
 | x::l,next=>by
  by_cases h:lM x.kind=true
  ·have e:∀m,eG (x::m)=x.dst::eG m:=λm=>by unfold eG;rw[List.filterMap_cons,if_pos h]
   have ih:=K3 l (next+1)
   constructor
   ·intro hA i hi
    rw[e] at hi ⊢
    cases i with
    | zero=>exact hA 0 (Nat.zero_lt_succ _) h
    | succ i=>
     have h1:=ih.1 (λk hk hd=>by
      have h2:=hA (k+1) (Nat.succ_lt_succ hk) hd
      rw[List.take_succ_cons,e,List.length_cons] at h2
      have h2:(l.getD k op0).dst=next+((eG (l.take k)).length+1:Nat):=h2
      omega) i (by simpa using hi)
     rw[List.getD_cons_succ,h1];omega
   ·intro hB k hk hd
    cases k with
    | zero=>
     have h1:=hB 0 (by rw[e];exact Nat.zero_lt_succ _)
     rw[e] at h1
     exact h1
    | succ k=>
     have h1:=ih.2 (λi hi=>by
      have h2:=hB (i+1) (by rw[e,List.length_cons];omega)
      rw[e,List.getD_cons_succ] at h2
      rw[h2];omega) k (by simpa using hk) hd
     rw[List.take_succ_cons,e,List.length_cons]
     show (l.getD k op0).dst=_
     rw[h1];omega
  ·have e:∀m,eG (x::m)=eG m:=λm=>by unfold eG;rw[List.filterMap_cons,if_neg h]
   have ih:=K3 l next
   rw[e,←ih]
   constructor
   ·intro hA k hk hd
    have h2:=hA (k+1) (Nat.succ_lt_succ hk) hd
    rw[List.take_succ_cons,e] at h2
    exact h2
   ·intro hA k hk hd
    cases k with
    | zero=>exact absurd hd h
    | succ k=>
     rw[List.take_succ_cons,e]
     exact hA k (by simpa using hk) hd
theorem OA:∀(bs:List (List Op9)) (next:Int),(∀i,i<bs.length->∀k,k<(bs.getD i []).length->lM ((bs.getD i []).getD k op0).kind=true->((bs.getD i []).getD k op0).dst=next+(dw (bs.take i)).length+(eG ((bs.getD i []).take k)).length)↔∀i,i<(dw bs).length->(dw bs).getD i 0=next+i
 | [],next=>⟨λ_ i hi=>absurd hi (afN _),λ_ k hk=>absurd hk (afN _)⟩
 | l::bs,next=>by
  have e:∀m,dw (l::m)=eG l++dw m:=λm=>List.flatMap_cons ..
  have ih:=OA bs (next+(eG l).length)
  have h0:=K3 l next
  constructor
  ·intro hA i hi
   rw[e] at hi ⊢
   rw[List.length_append] at hi
   rw[afE]
   by_cases hl:i<(eG l).length
   ·rw[List.getElem?_append_left hl,←afE]
    exact h0.1 (λk hk hd=>by
     have h2:(l.getD k op0).dst=next+(0:Nat)+(eG (l.take k)).length:=hA 0 (Nat.zero_lt_succ _) k hk hd
     omega) i hl
   ·rw[List.getElem?_append_right (by omega),←afE]
    rw[ih.1 (λj hj k hk hd=>by
     have h2:=hA (j+1) (Nat.succ_lt_succ hj) k hk hd
     rw[List.take_succ_cons,e,List.length_append] at h2
     have h2:((bs.getD j []).getD k op0).dst=next+((eG l).length+(dw (bs.take j)).length:Nat)+(eG ((bs.getD j []).take k)).length:=h2
     omega) (i-(eG l).length) (by omega)]
    omega
  ·intro hB i hi k hk hd
   cases i with
   | zero=>
    have h1:=h0.2 (λj hj=>by
     have h2:=hB j (by rw[e,List.length_append];omega)
     rw[e,afE,List.getElem?_append_left hj,←afE] at h2
     exact h2) k hk hd
    have h1:(l.getD k op0).dst=next+(eG (l.take k)).length:=h1
    show (l.getD k op0).dst=next+(0:Nat)+(eG (l.take k)).length
    omega
   | succ i=>
    have h1:=ih.2 (λj hj=>by
     have h2:=hB ((eG l).length+j) (by rw[e,List.length_append];omega)
     rw[e,afE,List.getElem?_append_right (by omega),←afE,Nat.add_sub_cancel_left] at h2
     rw[h2];omega) i (by simpa using hi) k hk hd
    rw[List.take_succ_cons,e,List.length_append]
    show ((bs.getD i []).getD k op0).dst=_
    rw[h1]
    show _=next+((eG l).length+(dw (bs.take i)).length:Nat)+((eG ((bs.getD i []).take k)).length:Int)
    omega
theorem zA{α:Type}{P:α->Prop}{l:List α}(d:α):(∀x∈l,P x)↔∀j,j<l.length->P (l.getD j d):=
 ⟨λh j hj=>h _ (getD_in d hj),λh k hk=>by
  obtain⟨j,hj,rfl⟩:=List.getElem_of_mem hk
  have:=h j hj
  rwa [afE,afG hj] at this⟩
theorem Za{p:Pol}{c:Cod}{b:Bod}:((0≤b.params∧b.params≤6)∧(1≤b.blocks.length∧b.blocks.length≤64)∧QZ p c b b.blocks.length∧b.params+(dw b.blocks).length=b.vars)↔Ij p c b∧∀l∈b.blocks,l.length≤4096:=by
 have hsq:=OA b.blocks b.params
 constructor
 ·rintro ⟨h1,h2,⟨h3⟩,h4⟩
  refine⟨⟨h1,h2,h4.symm,hsq.1 λi hi k hk hd=>?_,(zA []).2 λi hi=>?_⟩,(zA []).2 λi hi=>(h3 i hi).1.2⟩
  ·obtain⟨n,d,r,a,h,hn⟩:=(h3 i hi).2.op k hk
   have hD:d=true:=by
    unfold lM at hd;rw[h.sh] at hd;exact hd
   exact hn hD
  ·obtain⟨⟨g1,g2⟩,g3⟩:=h3 i hi
   exact⟨g1,λk hk=>by obtain⟨n,d,r,a,h,_⟩:=g3.op k hk;exact⟨n,d,r,a,h⟩,g3.e,g3.ph⟩
 ·rintro ⟨h,h5⟩
  refine⟨h.p0,h.len,⟨λi hi=>?_⟩,h.vars.symm⟩
  have hl:=h.ops _ (getD_in [] hi)
  refine⟨⟨hl.len,h5 _ (getD_in [] hi)⟩,λk hk=>?_,hl.e,hl.ph⟩
  obtain⟨n,d,r,a,ho⟩:=hl.op k hk
  refine⟨n,d,r,a,ho,λhd=>hsq.2 h.seq i hi k hk ?_⟩
  unfold lM;rw[ho.sh];exact hd
theorem DY(s:BY)(hs:s.size≤9223372036854775807):Pure PG 126 [vs s] (vb (gF s)) []:=by
 refine aD.mk (cfg 10) av [] Tryz.func126 Z (by kernel_rfl) Z Z Z ?_
 intro C x
 refine x.pure Z tR Z (HZ s hs) ⟨Z,tR⟩ ?_
 refine x.bK Z tR Z (λ_=>Kh s) Z ⟨Z,tR⟩ ?_
 refine x.exit Z tR ⟨.inr Z,?_,tR,Z⟩
 show aB (vb (pG s&&!mJ s)) (vb (gF s))
 rw[gF,ZX];exact Z
theorem adh(a b:Nat):decide ((a:Int)=(b:Int))=decide (a=b):=by rw[decide_eq_decide];omega
theorem DZ(lev:List BY)(l:List Chan)(aal:aj (lev.length:Int))(hl:aj (l.length:Int))(hz:∀c∈l,c.1.size≤9223372036854775807) :
  Pure PG 128 [.agg [vSs lev,.dead,.dead,.dead,.dead],iT l] (vb (ku lev.length l)) []:=by
 refine aD.mk (cfg 52) av [] Tryz.func128 Z (by kernel_rfl) Z Z Z ?_
 intro C x
 have hl0:=hl
 unfold aj at hl
 refine x.cond Z tR (λh=>?_) (λh=>?_)
 ·have h:(32:Int)<l.length:=afH h
  refine x.exit Z tR ⟨.inr Z,?_,tR,Z⟩
  rw[ku,decide_eq_false (show ¬l.length≤32 by omega)];exact Z
 have h:¬(32:Int)<l.length:=afI h
 have hle:l.length≤32:=by omega
 refine x.loop (α:={i:Nat // i≤l.length∧fK (y8 lev.length l) (l.length-i) i=fK (y8 lev.length l) l.length 0}) (λy=>⟨[(1,iT l),(2,.ptr 0 0),(5,vi (y.1:Int))],[(0,.box [vSs lev,.dead,.dead,.dead,.dead])],1⟩) (λy=>l.length-y.1) ⟨0,by omega,Z⟩ Z tR ⟨⟨au Z,⟨Z,Z⟩,Z,tR⟩,⟨⟨ah Z,Z,Z,Z,Z,tR⟩,tR⟩,Z⟩ (λy=>?_)
 obtain⟨i,hi,hsame⟩:=y
 change Go C _ ⟨[(1,iT l),(2,.ptr 0 0),(5,vi (i:Int))],[(0,.box [vSs lev,.dead,.dead,.dead,.dead])],1⟩ _
 refine x.cond Z tR (λh1=>?_) (λh1=>?_)
 ·have h1:i<l.length:=by have:=afH h1;omega
  have hsz:(l.getD i aL).1.size≤9223372036854775807:=hz _ (by rw[afE,afG h1];exact List.getElem_mem h1)
  rw[mZ h1] at hsame
  refine x.quiet Z tR ay (by kernel_rfl) ?_
  refine x.lS Z (by simp only[ak];omega) Z (DY (l.getD i aL).1 hsz) Z Z ⟨Z,tR⟩ ?_
  refine x.E9 Z (by simp only[ak];intros;omega) Z (λ_=>U3 l (l.getD i aL).1 hl0) Z Z ⟨au Z,Z,tR⟩ ?_
  refine x.bS Z (by simp only[ak];refine⟨λ_=>by omega,λ_=>by omega⟩) ?_
  refine x.cond Z tR (λh2=>?_) (λh2=>?_)
  ·have h2:(((!gF (l.getD i aL).1||!decide (eY l (l.getD i aL).1=(i:Int)))||decide ((l.getD i aL).2<0))||decide ((lev.length:Int)≤(l.getD i aL).2))=true:=h2
   have e:y8 lev.length l i=false:=by
    rw[←KE h2]
    unfold y8
    rw[Bool.not_not,show (!decide ((l.getD i aL).2<0))=decide (0≤(l.getD i aL).2) by rw[←decide_not,decide_eq_decide];omega,show (!decide ((lev.length:Int)≤(l.getD i aL).2))=decide ((l.getD i aL).2<(lev.length:Int)) by rw[←decide_not,decide_eq_decide];omega]
   refine x.exit Z tR ⟨.inr Z,?_,tR,Z⟩
   rw[e,Bool.false_and] at hsame
   rw[ku,←hsame,Bool.and_false];exact Z
  ·have h2:(((!gF (l.getD i aL).1||!decide (eY l (l.getD i aL).1=(i:Int)))||decide ((l.getD i aL).2<0))||decide ((lev.length:Int)≤(l.getD i aL).2))=false:=h2
   simp only[afU,Bool.not_eq_false',afP,afL] at h2
   obtain⟨⟨⟨e1,e2⟩,e3⟩,e4⟩:=h2
   have e:y8 lev.length l i=true:=by
    unfold y8
    rw[e1,decide_eq_true e2,decide_eq_true (show 0≤(l.getD i aL).2 by omega),decide_eq_true (show (l.getD i aL).2<(lev.length:Int) by omega)];rfl
   rw[e,Bool.true_and] at hsame
   refine x.back Z ?_ ⟨⟨i+1,by omega,hsame⟩,by show l.length-(i+1)<l.length-i;omega,⟨au Z,⟨Z,Z⟩,(show aB (vi ((i:Int)+1)) (vi ((i+1:Nat):Int)) by rw[afQ];rfl),tR⟩,⟨⟨ah Z,Z,Z,Z,Z,tR⟩,tR⟩,Z⟩
   simp only[ak,aj];omega
 ·have h1:i=l.length:=by have:=afI h1;omega
  refine x.exit Z tR ⟨.inr Z,?_,tR,Z⟩
  rw[h1,Nat.sub_self] at hsame
  rw[ku,←hsame,decide_eq_true hle];exact Z
theorem K4(p:Pol)(h:Ie p):Pure PG 76 [qB p] (vb (dQ p)) []:=by
 obtain⟨i1,i2,i3,i4⟩:=oO h.toPolSz
 refine aD.mk (cfg 62) av [] Tryz.func76 Z (by kernel_rfl) Z Z Z ?_
 intro C x
 refine x.bK Z tR Z (λ_=>Nt p.up i2) Z ⟨au Z,tR⟩ ?_
 rw[right_eq]
 refine x.cond Z tR (λh1=>?_) (λh1=>?_)
 ·have h1:(((!decide ((p.lev.length:Int)=(p.up.length:Int))||!dW p.up)||decide (p.depth<1))||decide (64<p.depth))=true:=h1
  refine x.exit Z tR ⟨.inr Z,?_,tR,Z⟩
  rw[adh] at h1
  have e:=KE h1
  rw[Bool.not_not,show (!decide (p.depth<1))=decide (1≤p.depth) by rw[←decide_not,decide_eq_decide];omega,show (!decide (64<p.depth))=decide (p.depth≤64) by rw[←decide_not,decide_eq_decide];omega] at e
  rw[dQ,DI,e];exact Z
 have h1:(((!decide ((p.lev.length:Int)=(p.up.length:Int))||!dW p.up)||decide (p.depth<1))||decide (64<p.depth))=false:=h1
 simp only[afU,Bool.not_eq_false',afP,afL] at h1
 obtain⟨⟨⟨e1,e2⟩,e3⟩,e4⟩:=h1
 have eh:DI p=true:=by
  unfold DI
  rw[e2,decide_eq_true (show p.lev.length=p.up.length by omega),decide_eq_true (show 1≤p.depth by omega),decide_eq_true (show p.depth≤64 by omega)];rfl
 have hl:=i1
 unfold aj at hl
 refine x.loop (α:={i:Nat // i≤p.lev.length∧fK (y9 p.lev) (p.lev.length-i) i=fK (y9 p.lev) p.lev.length 0}) (λy=>⟨[(1,.ptr 0 0),(3,vi (y.1:Int))],[(0,j3 p)],1⟩) (λy=>p.lev.length-y.1) ⟨0,by omega,Z⟩ Z tR ⟨⟨⟨Z,Z⟩,Z,tR⟩,⟨bL p,tR⟩,Z⟩ (λy=>?_)
 obtain⟨i,hi,hsame⟩:=y
 change Go C _ ⟨[(1,.ptr 0 0),(3,vi (i:Int))],[(0,j3 p)],1⟩ _
 refine x.cond Z tR (λh1=>?_) (λh1=>?_)
 ·have h1:i<p.lev.length:=by have:=afH h1;omega
  have hsz:(p.lev.getD i .empty).size≤9223372036854775807:=h.ae9 _ (by rw[afE,afG h1];exact List.getElem_mem h1)
  rw[mZ h1] at hsame
  refine x.quiet Z tR ay (by kernel_rfl) ?_
  refine x.lS Z (by simp only[ak];omega) Z (DY (p.lev.getD i .empty) hsz) Z Z ⟨Z,tR⟩ ?_
  refine x.E9 Z (by simp only[ak];intros;omega) Z (λ_=>U2 p.lev (p.lev.getD i .empty) i1) Z Z ⟨⟨ah Z,Z,Z,Z,Z,tR⟩,Z,tR⟩ ?_
  refine x.bS Z tR ?_
  refine x.cond Z tR (λh2=>?_) (λh2=>?_)
  ·have h2:(!gF (p.lev.getD i .empty)||!decide (bE p.lev (p.lev.getD i .empty)=(i:Int)))=true:=h2
   have e:y9 p.lev i=false:=by
    unfold y9
    rw[←Bool.not_and,afR] at h2
    exact h2
   refine x.exit Z tR ⟨.inr Z,?_,tR,Z⟩
   rw[e,Bool.false_and] at hsame
   rw[dQ,←hsame,Bool.and_false];exact Z
  ·have h2:(!gF (p.lev.getD i .empty)||!decide (bE p.lev (p.lev.getD i .empty)=(i:Int)))=false:=h2
   have e:y9 p.lev i=true:=by
    unfold y9
    rw[←Bool.not_and,Bool.not_eq_false'] at h2
    exact h2
   rw[e,Bool.true_and] at hsame
   refine x.back Z ?_ ⟨⟨i+1,by omega,hsame⟩,by show p.lev.length-(i+1)<p.lev.length-i;omega,⟨⟨Z,Z⟩,(show aB (vi ((i:Int)+1)) (vi ((i+1:Nat):Int)) by rw[afQ];rfl),tR⟩,⟨bL p,tR⟩,Z⟩
   simp only[ak,aj];omega
 ·have h1:i=p.lev.length:=by have:=afI h1;omega
  rw[h1,Nat.sub_self] at hsame
  have e:dQ p=(ku p.lev.length p.ins&&ku p.lev.length p.outs):=by rw[dQ,←hsame,eh];rfl
  refine x.pure Z tR Z (DZ p.lev p.ins i1 i3 h.afa) ⟨⟨ah Z,Z,Z,Z,Z,tR⟩,au Z,tR⟩ ?_
  refine x.bK Z tR Z (λ_=>DZ p.lev p.outs i1 i4 h.abn) Z ⟨⟨ah Z,Z,Z,Z,Z,tR⟩,au Z,tR⟩ ?_
  refine x.exit Z tR ⟨.inr Z,?_,tR,Z⟩
  rw[e];exact Z
abbrev afp(b:Bod):V:=.agg [vi b.params,vi b.vars,.d (p9 b.blocks)]
theorem Q0(p:Pol)(c:Cod)(b:Bod)(k:Int):uU p c.arrays.length c.funcs.length b.blocks.length k=if k=4∨k=5∨k=6 then (c.arrays.length:Int) else if k=7 then (c.funcs.length:Int) else if k=8 then (p.ins.length:Int) else if k=9 then (p.outs.length:Int) else if k=10 then (p.lev.length:Int) else (b.blocks.length:Int):=rfl
structure OpL(x:Op9):Prop where
 a:x.args.length≤2000000000
 f:x.frm.length≤2000000000
theorem VR(p:Pol)(c:Cod)(b:Bod)(x0:Op9)(next:Int)(hn:aj (next+1))(hl:OpL x0):Pure PG 129 [qB p,rM c,afp b,opW x0,vi next] (.tup [vi (Ir p c b x0 next).1,vb (Ir p c b x0 next).2]) []:=by
 have ha:=hl.a
 have hf:=hl.f
 obtain⟨q,hq⟩:∃q,bQ x0.kind=q:=⟨_,Z⟩
 have hsh:=QY x0.kind
 rw[hq] at hsh
 obtain⟨n,d,r,a,is⟩:=q
 have hiff:=aaP (p:=p) (c:=c) (b:=b) (next:=next) hq
 obtain⟨s1,s2,s3,s4⟩:=JG hq
 have no:∀{u:Bool},u=true->¬OpR p c b x0 next->zN [vi next,vb false] [vi (Ir p c b x0 next).1,vb (Ir p c b x0 next).2]:=λ_ h=>by rw[SN h];exact⟨Z,Z,tR⟩
 refine aD.mk (cfg 262) av [] Tryz.func129 Z (by kernel_rfl) Z Z Z ?_
 intro C x
 refine x.pure Z tR Z hsh ⟨Z,tR⟩ ?_
 refine x.cond Z tR (λh=>?_) (λh=>?_)
 ·have h:aaQ x0 next d r a is=true:=h
  refine x.exit Z tR ⟨.inr Z,no h λg=>?_,tR,Z⟩
  have g:=hiff.1 g
  rw[Ox.2 ⟨g.is,g.d1,g.d0,g.r0,g.a0,g.num,g.op0,g.op1⟩] at h
  cases h
 have h:aaQ x0 next d r a is=false:=h
 obtain⟨b1,b2,b3,b4,b5,b6,b7,b8⟩:=Ox.1 h
 clear h
 have hm:=Q0 p c b x0.kind
 obtain⟨m,hm2⟩:∃m,uU p c.arrays.length c.funcs.length b.blocks.length x0.kind=m:=⟨_,Z⟩
 rw[hm2] at hm
 refine x.join (λs=>s.at [4,5,6,7,8,12,13,14,15,17,107] [(108,vb (decide (x0.kind=4∨x0.kind=5∨x0.kind=6)))] []) Z tR (λh=>?_) (λh=>?_) ?_
 ·have h:x0.kind=4:=afH h
  exact x.back Z tR ⟨(),.ex [108] [] ⟨vbE (by simp [h]),tR⟩ tR⟩
 ·have h:¬x0.kind=4:=afI h
  refine x.cond Z tR (λh5=>?_) (λh5=>?_)
  ·have h5:x0.kind=5:=afH h5
   exact x.back Z tR ⟨(),.ex [108] [] ⟨vbE (by simp [h5]),tR⟩ tR⟩
  ·have h5:¬x0.kind=5:=afI h5
   exact x.back Z tR ⟨(),.ex [108] [] ⟨vbE (by simp [h,h5]),tR⟩ tR⟩
 refine x.join (λs=>s.at [4,5,6,7,8,12,13,14,15] [(17,vi m)] []) Z tR (λh=>?_) (λh=>?_) ?_
 ·have h:x0.kind=4∨x0.kind=5∨x0.kind=6:=afH h
  rw[if_pos h] at hm
  exact x.back Z tR ⟨(),.ex [17] [] ⟨viE hm.symm,tR⟩ tR⟩
 ·have h:¬(x0.kind=4∨x0.kind=5∨x0.kind=6):=afI h
  rw[if_neg h] at hm
  refine x.dec Z tR (λh:x0.kind=7=>?_) (λh:¬x0.kind=7=>?_)
  ·rw[if_pos h] at hm
   exact x.back Z tR ⟨(),.ex [17] [] ⟨viE hm.symm,tR⟩ tR⟩
  rw[if_neg h] at hm
  refine x.dec Z tR (λh:x0.kind=8=>?_) (λh:¬x0.kind=8=>?_)
  ·rw[if_pos h] at hm
   exact x.back Z tR ⟨(),.ex [17] [] ⟨viE hm.symm,tR⟩ tR⟩
  rw[if_neg h] at hm
  refine x.dec Z tR (λh:x0.kind=9=>?_) (λh:¬x0.kind=9=>?_)
  ·rw[if_pos h] at hm
   exact x.back Z tR ⟨(),.ex [17] [] ⟨viE hm.symm,tR⟩ tR⟩
  rw[if_neg h] at hm
  refine x.dec Z tR (λh:x0.kind=10=>?_) (λh:¬x0.kind=10=>?_)
  ·rw[if_pos h] at hm
   exact x.back Z tR ⟨(),.ex [17] [] ⟨viE hm.symm,tR⟩ tR⟩
  rw[if_neg h] at hm
  exact x.back Z tR ⟨(),.ex [17] [] ⟨viE hm.symm,tR⟩ tR⟩
 subst hm2
 refine x.cond Z tR (λh=>?_) (λh=>?_)
 ·have h:aaR x0 r a (uU p c.arrays.length c.funcs.length b.blocks.length x0.kind) b.blocks.length=true:=h
  refine x.exit Z tR ⟨.inr Z,no h λg=>?_,tR,Z⟩
  have g:=hiff.1 g
  rw[Oy.2 ⟨g.r1,g.a1⟩] at h
  cases h
 have h:aaR x0 r a (uU p c.arrays.length c.funcs.length b.blocks.length x0.kind) b.blocks.length=false:=h
 obtain⟨c1,c2⟩:=Oy.1 h
 clear h
 have c7:x0.kind=7->0≤x0.ref∧x0.ref<(c.funcs.length:Int):=λh=>by
  have:=c1 (s3 b1 h)
  rw[h] at this;exact this
 refine x.join (λs=>s.at [4,5,6,7,8,13] [(12,vi (if x0.kind=7 then (c.funcs.getD x0.ref.toNat aA).params else n))] []) Z tR (λh=>?_) (λh=>?_) ?_
 ·have h:x0.kind=7:=afH h
  exact x.back Z (by simp only[ak];exact c7 h) ⟨(),.ex [12] [] ⟨viE (by rw[if_pos h]),tR⟩ tR⟩
 ·have h:¬x0.kind=7:=afI h
  exact x.back Z tR ⟨(),.ex [12] [] ⟨viE (by rw[if_neg h]),tR⟩ tR⟩
 refine x.adI ((x0.kind=3->x0.frm.length=x0.args.length∧1≤x0.frm.length∧x0.frm.length≤64)∧(x0.kind≠3->x0.frm=[]∧(x0.args.length:Int)=if x0.kind=7 then (c.funcs.getD x0.ref.toNat aA).params else n)) (λs=>s.at [4,5,6,7,8,13] [] []) Z tR (λh3=>?_) (λh3=>?_) (λhp=>?_)
 ·have h3:x0.kind=3:=afH h3
  refine x.cond Z tR (λh=>?_) (λh=>?_)
  ·have h:((!decide ((x0.frm.length:Int)=x0.args.length)||decide ((x0.frm.length:Int)<1))||decide (64<(x0.frm.length:Int)))=true:=h
   refine x.exit Z tR ⟨.inr Z,no h λg=>?_,tR,Z⟩
   have g:=(hiff.1 g).phi h3
   rw[decide_eq_true (by omega),decide_eq_false (by omega),decide_eq_false (by omega)] at h
   cases h
  ·have h:((!decide ((x0.frm.length:Int)=x0.args.length)||decide ((x0.frm.length:Int)<1))||decide (64<(x0.frm.length:Int)))=false:=h
   simp only[afU,Bool.not_eq_false',afL,afP] at h
   exact x.back Z tR ⟨⟨λ_=>by omega,λg=>absurd h3 g⟩,.is⟩
 ·have h3:¬x0.kind=3:=afI h3
  refine x.cond Z tR (λh=>?_) (λh=>?_)
  ·have h:(!decide ((x0.frm.length:Int)=0)||!decide ((x0.args.length:Int)=if x0.kind=7 then (c.funcs.getD x0.ref.toNat aA).params else n))=true:=h
   refine x.exit Z tR ⟨.inr Z,no h λg=>?_,tR,Z⟩
   obtain⟨g1,g2⟩:=(hiff.1 g).KP h3
   rw[g1,decide_eq_true g2] at h
   cases h
  ·have h:(!decide ((x0.frm.length:Int)=0)||!decide ((x0.args.length:Int)=if x0.kind=7 then (c.funcs.getD x0.ref.toNat aA).params else n))=false:=h
   simp only[afU,Bool.not_eq_false',afL] at h
   exact x.back Z tR ⟨⟨λg=>absurd g h3,λ_=>⟨List.eq_nil_of_length_eq_zero (by omega),h.2⟩⟩,.is⟩
 refine x.Mi x0.args.length (λi=>∀j,j<i->0≤x0.args.getD j 0∧x0.args.getD j 0<b.vars) (λs i=>s.at [4,5,6,7,8,13] [(18,vi i)] []) Z tR (λj hj=>absurd hj (afN _)) (.ex [18] [] ⟨Z,tR⟩ tR) (λi=>rfl) (λ_=>trivial) (λi hi hQ=>?_) (λhA=>?_)
 ·refine x.quiet Z tR ay (by kernel_rfl) ?_
  refine x.bS Z (by simp only[ak];omega) ?_
  refine x.cond Z tR (λh=>?_) (λh=>?_)
  ·have h:(decide (x0.args.getD i 0<0)||decide (b.vars≤x0.args.getD i 0))=true:=h
   refine x.exit Z tR ⟨.inr Z,no h λg=>?_,tR,Z⟩
   have g:=(hiff.1 g).args _ (getD_in 0 hi)
   rw[decide_eq_false (by omega),decide_eq_false (by omega)] at h
   cases h
  ·have h:(decide (x0.args.getD i 0<0)||decide (b.vars≤x0.args.getD i 0))=false:=h
   simp only[afU,afP] at h
   refine x.back Z (by simp only[ak,aj];omega) (upQ hi (λj hj=>?_) (.ex [18] [] ⟨Z,tR⟩ tR))
   by_cases e:j=i
   ·subst e;omega
   ·exact hQ j (by omega)
 refine x.Mi x0.frm.length (λi=>∀j,j<i->0≤x0.frm.getD j 0∧x0.frm.getD j 0<(b.blocks.length:Int)) (λs i=>s.at [4,5,6,7,8,13] [(19,vi i)] []) Z tR (λj hj=>absurd hj (afN _)) (.ex [19] [] ⟨Z,tR⟩ tR) (λi=>rfl) (λ_=>trivial) (λi hi hQ=>?_) (λhF=>?_)
 ·refine x.quiet Z tR ay (by kernel_rfl) ?_
  refine x.bS Z (by simp only[ak];omega) ?_
  refine x.cond Z tR (λh=>?_) (λh=>?_)
  ·have h:(decide (x0.frm.getD i 0<0)||decide ((b.blocks.length:Int)≤x0.frm.getD i 0))=true:=h
   refine x.exit Z tR ⟨.inr Z,no h λg=>?_,tR,Z⟩
   have g:=(hiff.1 g).frm _ (getD_in 0 hi)
   rw[decide_eq_false (by omega),decide_eq_false (by omega)] at h
   cases h
  ·have h:(decide (x0.frm.getD i 0<0)||decide ((b.blocks.length:Int)≤x0.frm.getD i 0))=false:=h
   simp only[afU,afP] at h
   refine x.back Z (by simp only[ak,aj];omega) (upQ hi (λj hj=>?_) (.ex [19] [] ⟨Z,tR⟩ tR))
   by_cases e:j=i
   ·subst e;omega
   ·exact hQ j (by omega)
 have ok:OpR p c b x0 next:=hiff.2 ⟨b1,b2,b3,b4,b5,b6,b7,b8,c1,c2,hp.1,hp.2,Y9.2 hA,Y9.2 hF⟩
 rw[KZ ok,←s4 b1]
 refine x.cond Z tR (λh=>?_) (λh=>?_)
 ·have h:d=true:=h
  exact x.exit Z (by simp only[ak];exact hn) ⟨.inr Z,⟨viE (by rw[if_pos h]),Z,tR⟩,tR,Z⟩
 ·have h:d=false:=h
  exact x.exit Z tR ⟨.inr Z,⟨viE (by rw[h];rfl),Z,tR⟩,tR,Z⟩
def lgS(s:BY):Bool:=decide (s.data.toList=eH.data.toList)||decide (s.data.toList=[])
def Iu(s:BY):Bool:=lgS s||decide (fB s s.size 0 0≤20)
abbrev refK(k:Int):Bool:=decide (k=7)||decide (k=11)||decide (k=12)
def afq(x:Ins):Bool:=Iu x.dst&&(!refK x.kind||Iu x.ref)&&Iu x.alt&&x.args.all Iu&&x.frm.all Iu
def afr(b:Blk):Bool:=Iu b.name&&b.code.all afq
def afs(f:Fun):Bool:=Iu f.name&&f.params.all Iu&&f.blocks.all afr
theorem Zb{α β:Type}(g:α->β){l:List α}{i:Nat}(h:i<l.length)(d:α):(l.take (i+1)).map g=(l.take i).map g++[g (l.getD i d)]:=by
 rw[List.take_succ_eq_append_getElem h,List.map_append,afE,afG h];rfl
theorem ZE{α β:Type}(g:α->β){l:List α}{i:Nat}(h:i≤l.length):((l.take i).map g).length=i:=by rw[List.length_map,List.length_take];omega
theorem VT{α:Type}(e:TypeId)(N:Nat)(d:α->List D)(hd:∀a,(d a).length=N)(x0:α){l:List α}{a:α}{l':List α}(h:l'=l++[a]):mE (.vec e N (l.length+1) (app l.length (λi=>d (l.getD i x0)) λ_=>d a)) (.vec e N l'.length λi=>d (l'.getD i x0)):=by
 subst h
 exact⟨Z,Z,by simp,λj hj=>wZ d N hd x0 l a j hj⟩
theorem app0(z:List D)(f:Nat->List D)(i:Nat):app 0 (tab (List.replicate 0 z)) f i=f i:=by
 show (if i<0 then [] else f (i-0))=_
 rw[if_neg (by omega)];rfl
theorem oI2{i n j m:Nat}(h:i<n)(h2:j<m):ak [0≤(i:Int)∧(i:Int)<(n:Int),0≤(j:Int)∧(j:Int)<(m:Int)]:=by simp only[ak];omega
theorem oI{i n:Nat}(h:i<n):ak [0≤(i:Int)∧(i:Int)<(n:Int)]:=by simp only[ak];omega
section
variable(q:Prg)(i k j:Nat)
abbrev fq:Fun:=q.funcs.getD i bG
def k1:Bool:=(q.funcs.take i).all afs
def k2(m:Nat):Bool:=k1 q i&&Iu (fq q i).name&&((fq q i).params.take m).all Iu
end
structure FewN(q:Prg):Prop where
 p:∀f,f∈q.funcs->f.params.length≤64
 a:∀f,f∈q.funcs->∀b,b∈f.blocks->∀x,x∈b.code->x.args.length≤64∧x.frm.length≤64
theorem JI{q:Prg}(h:rightG q=true):FewN q:=by
 have h:=kZ.1 h
 refine⟨λf hf=>by have:=(h.fn f hf).pl;omega,λf hf b hb x hx=>?_⟩
 rcases jP (((h.fn f hf).blk b hb).2 x hx) with⟨_,hp⟩ | ⟨n,d,r,a,_,_,hi,_⟩
 ·have:=hp.len;omega
 ·have:=hi.yT.2
  rw[hi.frm]
  exact⟨by omega,Nat.zero_le _⟩
def aaS(k:Int):Bool:=decide (11≤k)&&decide (k≤13)
theorem VU(k:Int):Pure PG 130 [.d (.int .u8 k)] (vb (aaS k)) []:=by
 refine aD.mk (cfg 9) av [] Tryz.func130 Z (by kernel_rfl) Z Z Z ?_
 intro C x
 exact x.exit Z tR ⟨.inr Z,Z,tR,Z⟩
theorem adi{k n:Int}{d r a:Bool}(h:shp k=some (n,d,r,a)):k≤13:=by
 rcases sN h with⟨h,_⟩ | ⟨_,h⟩
 ·omega
 ·rcases nk h with g | g | g | g | g | g | g | g | g | g | g | g<;>omega
theorem adj{p:Pol}{c:Cod}{b:Bod}{x:Op9}{next:Int}(h:OpR p c b x next):aaS x.kind=j5 x.kind:=by
 obtain⟨n,d,r,a,h,_⟩:=h
 have:=adi h.sh
 unfold aaS j5
 rw[decide_eq_true this,Bool.and_true]
def adk(p:Pol)(c:Cod)(b:Bod)(l:List Op9)(next:Int)(k:Nat):Prop:=OpR p c b (l.getD k op0) next∧(j5 (l.getD k op0).kind=true↔k+1=l.length)∧((l.getD k op0).kind=3->k≠0->(l.getD (k-1) op0).kind=3)
def Zc(l:List Op9)(k:Nat)(ok:Bool):Bool:=(!ok||!(aaS (l.getD k op0).kind == decide ((k:Int)=(l.length:Int)-1)))||((decide ((l.getD k op0).kind=3)&&decide (0<(k:Int)))&&!decide ((l.getD ((k:Int)-1).toNat op0).kind=3))
theorem SQ{p:Pol}{c:Cod}{b:Bod}{l:List Op9}{next:Int}{k:Nat}:Zc l k (Ir p c b (l.getD k op0) next).2=false↔adk p c b l next k:=by
 by_cases h:OpR p c b (l.getD k op0) next
 ·rw[KZ h]
  unfold Zc adk
  rw[adj h,show ((k:Int)-1).toNat=k-1 by omega]
  simp only[h,Bool.not_true,Bool.false_or,true_and,afU,Bool.not_eq_false',Bool.and_eq_false_iff,afP,afL,beq_iff_eq]
  constructor
  ·rintro ⟨h1,h2⟩
   refine⟨by rw[h1,afL];omega,λh3 h4=>?_⟩
   rcases h2 with (h2 | h2) | h2
   ·exact absurd h3 h2
   ·omega
   ·exact h2
  ·rintro ⟨h1,h2⟩
   refine⟨?_,?_⟩
   ·cases e:j5 (l.getD k op0).kind with
    | true=>rw[decide_eq_true];have:=h1.1 e;omega
    | false=>rw[decide_eq_false];intro g;rw[h1.2 (by omega)] at e;cases e
   ·by_cases h3:(l.getD k op0).kind=3
    ·by_cases h4:k=0
     ·exact .inl (.inr (by omega))
     ·exact .inr (h2 h3 h4)
    ·exact .inl (.inl h3)
 ·rw[SN h]
  exact⟨λg=>by unfold Zc at g;simp at g,λg=>absurd g.1 h⟩
theorem OB(l:List Op9):dw [l]=eG l:=by unfold dw;simp
theorem Zd(x:Op9)(next:Int):next+(eG [x]).length=if lM x.kind=true then next+1 else next:=by
 unfold eG
 by_cases h:lM x.kind=true
 ·rw[List.filterMap_cons,if_pos h,if_pos h];rfl
 ·rw[List.filterMap_cons,if_neg h,if_neg h];simp
abbrev bl9(b:Bod)(i:Nat):List Op9:=b.blocks.getD i []
structure aft(b:Bod):Prop where
 bl:b.blocks.length≤1000000
 ll:∀l∈b.blocks,l.length≤1000000000∧∀x∈l,OpL x
 p:aj b.params
def qm(bs:List (List Op9)):Nat:=(bs.map λl=>l.length).sum
open Classical in
noncomputable def mD (p:Pol) (c:Cod) (b:Bod):Int×Bool:=if ((0≤b.params∧b.params≤6)∧(1≤b.blocks.length∧b.blocks.length≤64)∧QZ p c b b.blocks.length) then ((qm b.blocks:Int),decide (b.params+(dw b.blocks).length=b.vars)) else (0,false)
theorem Q5(p:Pol)(c:Cod)(b:Bod)(hb:aft b):Pure PG 77 [qB p,rM c,afp b] (.tup [vi (mD p c b).1,vb (mD p c b).2]) []:=by
 have hbl:=hb.bl
 refine aD.mk (cfg 120) av [] Tryz.func77 Z (by kernel_rfl) Z Z Z ?_
 intro C x
 have no:∀{u:Bool},u=true->¬((0≤b.params∧b.params≤6)∧(1≤b.blocks.length∧b.blocks.length≤64)∧QZ p c b b.blocks.length)->zN [vi 0,vb false] [vi (mD p c b).1,vb (mD p c b).2]:=λ_ h=>by
  rw[show mD p c b=(0,false) from if_neg h];exact⟨Z,Z,tR⟩
 refine x.cond Z tR (λh=>?_) (λh=>?_)
 ·have h:(((decide (b.params<0)||decide (6<b.params))||decide ((b.blocks.length:Int)<1))||decide (64<(b.blocks.length:Int)))=true:=h
  refine x.exit Z tR ⟨.inr Z,no h λg=>?_,tR,Z⟩
  rw[decide_eq_false (by omega),decide_eq_false (by omega),decide_eq_false (by omega),decide_eq_false (by omega)] at h
  cases h
 have h:(((decide (b.params<0)||decide (6<b.params))||decide ((b.blocks.length:Int)<1))||decide (64<(b.blocks.length:Int)))=false:=h
 simp only[afU,afP] at h
 obtain⟨⟨⟨h1,h2⟩,h3⟩,h4⟩:=h
 refine x.Mi b.blocks.length (λi=>QZ p c b i∧(dw (b.blocks.take i)).length≤i*4096∧qm (b.blocks.take i)≤i*4096) (λs i=>s.at [3,4,5] [(8,vi (b.params+(dw (b.blocks.take i)).length)),(9,vi (qm (b.blocks.take i))),(10,vi i)] []) Z tR ⟨⟨λi hi=>absurd hi (afN _)⟩,by simp [dw],by simp [qm]⟩ (.ex [8,9,10] [] ⟨viE (by simp [dw]),Z,Z,tR⟩ tR) (λi=>rfl) (λ_=>trivial) (λi hi hQ=>?_) (λhE=>?_)
 ·obtain⟨⟨q1⟩,q2,q3⟩:=hQ
  have hll:=hb.ll _ (getD_in [] hi)
  obtain⟨l1,l2⟩:=hll
  have et:=take_at hi []
  refine x.cond Z (oI hi) (λh=>?_) (λh=>?_)
  ·have h:(decide (((bl9 b i).length:Int)=0)||decide (4096<((bl9 b i).length:Int)))=true:=h
   refine x.exit Z tR ⟨.inr Z,no h λg=>?_,tR,Z⟩
   have g:1≤(bl9 b i).length∧(bl9 b i).length≤4096:=(g.2.2.ops i hi).1
   rw[decide_eq_false (by omega),decide_eq_false (by omega)] at h
   cases h
  have h:(decide (((bl9 b i).length:Int)=0)||decide (4096<((bl9 b i).length:Int)))=false:=h
  simp only[afU,afP] at h
  obtain⟨N,hN⟩:∃N,b.params+(dw (b.blocks.take i)).length=N:=⟨_,Z⟩
  obtain⟨M,hM⟩:∃M,qm (b.blocks.take i)=M:=⟨_,Z⟩
  have hbp:=hb.p
  unfold aj at hbp
  have hN1:0≤N∧N≤5000000:=by omega
  refine x.Mi (bl9 b i).length (λk=>(∀j,j<k->adk p c b (bl9 b i) (N+(eG ((bl9 b i).take j)).length) j)∧(eG ((bl9 b i).take k)).length≤k) (λs k=>s.at [3,4,5,10,11] [(8,vi (N+(eG ((bl9 b i).take k)).length)),(9,vi (M+k:Nat)),(12,vi k)] []) Z tR ⟨λj hj=>absurd hj (afN _),Nat.le_refl _⟩ (.ex [8,9,12] [] ⟨viE (by rw[←hN];simp [eG]),viE (by rw[hM];rfl),Z,tR⟩ tR) (λi=>rfl) (λ_=>trivial) (λk hk hQ=>?_) (λhE=>?_)
  ·obtain⟨g1,g2⟩:=hQ
   refine x.quiet Z tR ay (by kernel_rfl) ?_
   have hx:=l2 _ (getD_in op0 hk)
   refine x.lS Z (oI hk) Z (VR p c b ((bl9 b i).getD k op0) (N+(eG ((bl9 b i).take k)).length) (by unfold aj;omega) hx) Z Z ⟨⟨ah Z,ah Z,ah Z,ah Z,Z,tR⟩,⟨ah Z,ah Z,Z,tR⟩,⟨Z,Z,ah Z,tR⟩,⟨Z,Z,Z,Z,Z,ah Z,ah Z,Z,Z,tR⟩,Z,tR⟩ ?_
   refine x.bS Z tR ?_
   refine x.bK Z (λ_=>oI hk) Z (λ_=>VU ((bl9 b i).getD k op0).kind) Z ⟨Z,tR⟩ ?_
   have afu:aj (((bl9 b i).length:Int)-1)∧aj ((k:Int)-1):=by unfold aj;omega
   refine x.cond Z ⟨λ_=>afu.1,λ_=>?_,λ_ _=>afu.2,λ_ hh=>?_⟩ (λh=>?_) (λh=>?_)
   ·exact oI hk
   ·rw[afF,afL,afL] at hh
    show 0≤(k:Int)-1∧(k:Int)-1<((bl9 b i).length:Int)
    omega
   ·have h:Zc (bl9 b i) k (Ir p c b ((bl9 b i).getD k op0) (N+(eG ((bl9 b i).take k)).length)).2=true:=h
    refine x.exit Z tR ⟨.inr Z,no h λg=>?_,tR,Z⟩
    have g:=(g.2.2.ops i hi).2
    rw[hN] at g
    rw[SQ.2 ⟨g.op k hk,g.e k hk,g.ph k hk⟩] at h
    cases h
   have h:Zc (bl9 b i) k (Ir p c b ((bl9 b i).getD k op0) (N+(eG ((bl9 b i).take k)).length)).2=false:=h
   have hS:=SQ.1 h
   have ek:=take_at hk op0
   have en:N+(eG ((bl9 b i).take (k+1))).length=(Ir p c b ((bl9 b i).getD k op0) (N+(eG ((bl9 b i).take k)).length)).1:=by
    rw[KZ hS.1,ek,Oz,List.length_append,←Zd];omega
   have el:(eG ((bl9 b i).take (k+1))).length≤k+1:=by
    have:(eG [(bl9 b i).getD k op0]).length≤1:=List.length_filterMap_le _ _
    rw[ek,Oz,List.length_append];omega
   refine x.back Z ?_ (upQ hk ⟨λj hj=>?_,el⟩ (.ex [8,9,12] [] ⟨viE en.symm,viE Z,Z,tR⟩ tR))
   ·simp only[ak,aj];omega
   ·by_cases e:j=k
    ·subst e;exact hS
    ·exact g1 j (by omega)
  ·refine x.back Z ?_ (upQ hi ⟨⟨λj hj=>?_⟩,?_,?_⟩ (.ex [8,9,10] [] ⟨viE ?_,viE ?_,Z,tR⟩ tR))
   ·simp only[ak,aj];omega
   ·by_cases e:j=i
    ·subst e
     rw[hN]
     exact⟨⟨show 1≤(bl9 b j).length by omega,show (bl9 b j).length≤4096 by omega⟩,λk hk=>(hE.1 k hk).1,λk hk=>(hE.1 k hk).2.1,λk hk=>(hE.1 k hk).2.2⟩
    ·exact q1 j (by omega)
   ·rw[et,JH,OB,List.length_append]
    have:=hE.2
    rw[List.take_length] at this
    show (dw (b.blocks.take i)).length+(eG (bl9 b i)).length≤_
    omega
   ·rw[et]
    unfold qm at q3 ⊢
    rw[List.map_append,List.sum_append]
    show (List.map (λl=>l.length) (b.blocks.take i)).sum+((bl9 b i).length+0)≤_
    omega
   ·rw[et,JH,OB,List.length_append,List.take_length,←hN]
    show _=b.params+((dw (b.blocks.take i)).length+(eG (bl9 b i)).length:Nat)
    omega
   ·rw[et,←hM]
    unfold qm
    rw[List.map_append,List.sum_append];rfl
 ·have hk:(0≤b.params∧b.params≤6)∧(1≤b.blocks.length∧b.blocks.length≤64)∧QZ p c b b.blocks.length:=⟨by omega,by omega,hE.1⟩
  rw[show mD p c b=_ from if_pos hk]
  refine x.quiet Z tR ay (by kernel_rfl) ?_
  refine x.bS Z tR ?_
  exact x.exit Z tR ⟨.inr Z,⟨viE (by rw[List.take_length]),vbE (by rw[List.take_length]),tR⟩,tR,Z⟩
theorem Ze{α:Type}(f:α->Nat)(K:Nat):∀{l:List α},(∀x∈l,f x≤K)->(l.map f).sum≤l.length*K
 | [],_=>Nat.zero_le _
 | x::l,h=>by
  have:=Ze f K λy hy=>h y (.tail _ hy)
  have:=h x (.head _)
  rw[List.map_cons,List.sum_cons,List.length_cons,Nat.add_mul];omega
theorem OC{α:Type}(f:α->Nat)(l:List α)(i:Nat):((l.take i).map f).sum≤(l.map f).sum:=by
 have:=congrArg (λm=>(m.map f).sum) (List.take_append_drop i l)
 simp only[List.map_append,List.sum_append] at this
 omega
theorem JJ{p:Pol}{c:Cod}{b:Bod}:(mD p c b).2=true↔Ij p c b∧∀l∈b.blocks,l.length≤4096:=by
 rw[←Za]
 by_cases h:(0≤b.params∧b.params≤6)∧(1≤b.blocks.length∧b.blocks.length≤64)∧QZ p c b b.blocks.length
 ·rw[show mD p c b=_ from if_pos h]
  show decide _=true↔_
  rw[afL]
  exact⟨λg=>⟨h.1,h.2.1,h.2.2,g⟩,λg=>g.2.2.2⟩
 ·rw[show mD p c b=(0,false) from if_neg h]
  exact⟨λg=>(by cases g),λg=>absurd ⟨g.1,g.2.1,g.2.2.1⟩ h⟩
theorem VW{p:Pol}{c:Cod}{b:Bod}:((mD p c b).2=true->(mD p c b).1=qm b.blocks)∧0≤(mD p c b).1∧(mD p c b).1≤262144:=by
 by_cases h:(0≤b.params∧b.params≤6)∧(1≤b.blocks.length∧b.blocks.length≤64)∧QZ p c b b.blocks.length
 ·rw[show mD p c b=_ from if_pos h]
  have h1:qm b.blocks≤b.blocks.length*4096:=Ze _ 4096 ((zA []).2 λi hi=>(h.2.2.ops i hi).1.2)
  refine⟨λ_=>rfl,?_,?_⟩
  ·show (0:Int)≤(qm b.blocks:Int);omega
  ·show (qm b.blocks:Int)≤262144;omega
 ·rw[show mD p c b=(0,false) from if_neg h]
  exact⟨λg=>(by cases g),(by decide),(by decide)⟩
structure aaT(c:Cod):Prop where
 al:c.arrays.length≤1000000
 fl:c.funcs.length≤1000000
 b:∀b∈c.funcs,aft b
def xO(fs:List Bod):Nat:=(fs.map λb=>qm b.blocks).sum
open Classical in
noncomputable def rcB (p:Pol) (c:Cod):Bool:=decide (kL p c)
open Classical in
theorem Zf{p:Pol}{c:Cod}(h:¬kL p c):rcB p c=false:=decide_eq_false h
open Classical in
theorem Zg{p:Pol}{c:Cod}(h:kL p c):rcB p c=true:=decide_eq_true h
def aaU(p:Pol)(c:Cod):Bool:=((((!dQ p||decide (16<(c.arrays.length:Int)))||decide (64<(c.funcs.length:Int)))||decide (c.main<0))||decide ((c.funcs.length:Int)≤c.main))||!decide ((c.funcs.getD c.main.toNat aA).params=0)
theorem OD{p:Pol}{c:Cod}:aaU p c=false↔dQ p=true∧c.arrays.length≤16∧c.funcs.length≤64∧(0≤c.main∧c.main<(c.funcs.length:Int))∧(c.funcs.getD c.main.toNat aA).params=0:=by
 unfold aaU
 simp only[afU,Bool.not_eq_false',afP,afL]
 constructor
 ·rintro ⟨⟨⟨⟨⟨h1,h2⟩,h3⟩,h4⟩,h5⟩,h6⟩;exact⟨h1,by omega,by omega,by omega,h6⟩
 ·rintro ⟨h1,h2,h3,h4,h6⟩;exact⟨⟨⟨⟨⟨h1,by omega⟩,by omega⟩,by omega⟩,by omega⟩,h6⟩
theorem AV(p:Pol)(c:Cod)(hz:Ie p)(hc:aaT c):Pure PG 30 [qB p,rM c] (vb (rcB p c)) []:=by
 have hal:=hc.al
 have hfl:=hc.fl
 refine aD.mk (cfg 109) av [] Tryz.func30 Z (by kernel_rfl) Z Z Z ?_
 intro C x
 have no:∀{u:Bool},u=true->¬kL p c->aB (vb false) (vb (rcB p c)):=λ_ h=>vbE (Zf h).symm
 refine x.pure Z tR Z (K4 p hz) ⟨⟨ah Z,ah Z,ah Z,ah Z,Z,tR⟩,tR⟩ ?_
 refine x.cond Z ?_ (λh=>?_) (λh=>?_)
 ·intro h
  simp only[afU,afP] at h
  omega
 ·have h:aaU p c=true:=h
  refine x.exit Z tR ⟨.inr Z,no h λg=>?_,tR,Z⟩
  rw[OD.2 ⟨g.pol,g.al,g.fl,g.m,g.mp⟩] at h
  cases h
 have h:aaU p c=false:=h
 obtain⟨h1,h2,h3,h4,h5⟩:=OD.1 h
 clear h
 refine x.Mi c.arrays.length (λi=>∀j,j<i->(1≤(c.arrays.getD j bB).1∧(c.arrays.getD j bB).1≤256)∧0≤(c.arrays.getD j bB).2∧(c.arrays.getD j bB).2<(p.lev.length:Int)) (λs i=>s.at [2,3] [(5,vi i)] []) Z tR (λj hj=>absurd hj (afN _)) (.ex [5] [] ⟨Z,tR⟩ tR) (λi=>rfl) (λ_=>trivial) (λi hi hQ=>?_) (λhA=>?_)
 ·refine x.cond Z (oI hi) (λh=>?_) (λh=>?_)
  ·have h:(((decide ((c.arrays.getD i bB).1<1)||decide (256<(c.arrays.getD i bB).1))||decide ((c.arrays.getD i bB).2<0))||decide ((p.lev.length:Int)≤(c.arrays.getD i bB).2))=true:=h
   refine x.exit Z tR ⟨.inr Z,no h λg=>?_,tR,Z⟩
   have g:=g.arr _ (getD_in bB hi)
   rw[decide_eq_false (by omega),decide_eq_false (by omega),decide_eq_false (by omega),decide_eq_false (by omega)] at h
   cases h
  ·have h:(((decide ((c.arrays.getD i bB).1<1)||decide (256<(c.arrays.getD i bB).1))||decide ((c.arrays.getD i bB).2<0))||decide ((p.lev.length:Int)≤(c.arrays.getD i bB).2))=false:=h
   simp only[afU,afP] at h
   refine x.back Z (by simp only[ak,aj];omega) (upQ hi (λj hj=>?_) (.ex [5] [] ⟨Z,tR⟩ tR))
   by_cases e:j=i
   ·subst e;omega
   ·exact hQ j (by omega)
 refine x.Mi c.funcs.length (λi=>(∀j,j<i->Ij p c (c.funcs.getD j aA))∧xO (c.funcs.take i)≤4096) (λs i=>s.at [2,3] [(7,vi (xO (c.funcs.take i))),(8,vi i)] []) Z tR ⟨λj hj=>absurd hj (afN _),Nat.zero_le _⟩ (.ex [7,8] [] ⟨Z,Z,tR⟩ tR) (λi=>rfl) (λ_=>trivial) (λi hi hQ=>?_) (λhF=>?_)
 ·refine x.quiet Z tR ay (by kernel_rfl) ?_
  refine x.lS Z (oI hi) Z (Q5 p c (c.funcs.getD i aA) (hc.b _ (getD_in aA hi))) Z Z ⟨⟨ah Z,ah Z,ah Z,ah Z,Z,tR⟩,⟨ah Z,ah Z,Z,tR⟩,⟨Z,Z,ah Z,tR⟩,tR⟩ ?_
  refine x.bS Z tR ?_
  obtain⟨c1,c2,c3⟩:=VW (p:=p) (c:=c) (b:=c.funcs.getD i aA)
  have ef:=take_at hi aA
  have et:xO (c.funcs.take (i+1))=xO (c.funcs.take i)+qm (c.funcs.getD i aA).blocks:=by
   unfold xO;rw[ef,List.map_append,List.sum_append];simp
  have hq2:=hQ.2
  refine x.cond Z (by simp only[ak,aj];omega) (λh=>?_) (λh=>?_)
  ·have h:(!(mD p c (c.funcs.getD i aA)).2||decide (4096<(xO (c.funcs.take i):Int)+(mD p c (c.funcs.getD i aA)).1))=true:=h
   refine x.exit Z tR ⟨.inr Z,no h λg=>?_,tR,Z⟩
   have hm:=getD_in aA hi
   have g1:=JJ.2 ⟨g.bod _ hm,λl hl=>KY g hm hl⟩
   have g2:xO (c.funcs.take (i+1))≤4096:=Nat.le_trans (OC _ _ _) g.all
   rw[c1 g1,g1,decide_eq_false (by omega)] at h
   cases h
  ·have h:(!(mD p c (c.funcs.getD i aA)).2||decide (4096<(xO (c.funcs.take i):Int)+(mD p c (c.funcs.getD i aA)).1))=false:=h
   simp only[afU,Bool.not_eq_false',afP] at h
   rw[c1 h.1] at h
   refine x.back Z (by simp only[ak,aj];omega) (upQ hi ⟨λj hj=>?_,by omega⟩ (.ex [7,8] [] ⟨viE (by rw[c1 h.1,et];rfl),Z,tR⟩ tR))
   by_cases e:j=i
   ·subst e;exact (JJ.1 h.1).1
   ·exact hQ.1 j (by omega)
 ·have ok:kL p c:=⟨h1,h2,h3,h4,h5,(zA bB).2 hA,(zA aA).2 hF.1,by have:=hF.2;rw[List.take_length] at this;exact this⟩
  exact x.exit Z tR ⟨.inr Z,vbE (Zg ok).symm,tR,Z⟩
theorem iR(c:UInt8)(n:Int)(h:aj n):Pure PG 31 [vs ⟨#[c]⟩,vi n] (vs (nmN c n)) []:=by
 have hs:=xg h
 refine aD.mk (cfg 9) av [] Tryz.func31 Z (by kernel_rfl) Z Z Z ?_
 intro C x
 refine x.pure Z tR Z (H6 n h) ⟨Z,tR⟩ ?_
 refine x.exit Z ?_ ⟨.inr Z,Z,tR,Z⟩
 simp only[ak]
 show (((1+(gM n).size:Nat)):Int)≤9223372036854775807
 omega
def fnI(main i:Int):BY:=if i=main then eH else nmN 102 i
theorem Hg(c:Cod)(i:Int)(h:aj i):Pure PG 32 [rM c,vi i] (vs (fnI c.main i)) []:=by
 refine aD.mk (cfg 11) av [] Tryz.func32 Z (by kernel_rfl) Z Z Z ?_
 intro C x
 refine x.dec Z tR (λh1:i=c.main=>?_) (λh1:¬i=c.main=>?_)
 ·exact x.exit Z tR ⟨.inr Z,(by unfold fnI;rw[if_pos h1];exact Z),tR,Z⟩
 ·refine x.pure Z tR Z (iR 102 i h) ⟨Z,Z,tR⟩ ?_
  exact x.exit Z tR ⟨.inr Z,(by unfold fnI;rw[if_neg h1];exact Z),tR,Z⟩
theorem vsE{a b:BY}(h:a=b):aB (vs a) (vs b):=by subst h;exact rfl
theorem OE(p:Pol)(c:Cod)(x0:Op9)(hx:Yv x0)(h8:x0.kind=8->0≤x0.ref∧x0.ref<(p.ins.length:Int))(h9:x0.kind=9->0≤x0.ref∧x0.ref<(p.outs.length:Int))(h10:x0.kind=10->0≤x0.ref∧x0.ref<(p.lev.length:Int)):Pure PG 33 [qB p,rM c,opW x0] (xD (aN p c.main x0)) []:=by
 have hxa:=hx.a
 have hxf:=hx.f
 refine aD.mk (cfg 123) av [] Tryz.func33 Z (by kernel_rfl) Z Z Z ?_
 intro C x
 refine x.join (λs=>s.at [3,4,5,6,7] [] [(4,.box [.d (.int .u8 x0.kind),.d (.int .u8 x0.op),vs (aN p c.main x0).dst,vs .empty,vs .empty,.aF,.aF,vi x0.num,vi x0.at_])]) Z tR (λh=>?_) (λh=>?_) ?_
 ·have h:0≤x0.dst:=afH h
  refine x.pure Z tR Z (iR 118 x0.dst hx.dst) ⟨Z,Z,tR⟩ ?_
  exact x.back Z tR ⟨(),.ex [] [4] tR ⟨⟨Z,Z,vsE (if_pos h).symm,Z,Z,tR,tR,Z,Z,tR⟩,tR⟩⟩
 ·have h:¬0≤x0.dst:=afI h
  exact x.back Z tR ⟨(),.ex [] [4] tR ⟨⟨Z,Z,vsE (if_neg h).symm,Z,Z,tR,tR,Z,Z,tR⟩,tR⟩⟩
 refine x.toLoop Z tR ?_
 refine Go.ownB 4 5 9 1 (λi=>[.str (([]:List BY).getD i .empty)]) Z Z ?_
 refine x.for x0.args.length (λs i=>s.at [3,4,5,6,7] [(8,vi i)] [(5,iw ((x0.args.take i).map (nmN 118)))]) Z tR (.ex [8] [5] ⟨Z,tR⟩ ⟨⟨Z,Z,Z,λ_ h=>absurd h (afN _)⟩,tR⟩) (λi=>rfl) (λ_=>trivial) (λi hi=>?_) ?_
 ·have hin:aj (x0.args.getD i 0):=hx.ai _ (getD_in 0 hi)
  refine x.ev3 5 [4,5] [0,2,3,4,5,6] (mkO [(1,[]),(7,[]),(8,[7]),(9,[1,8]),(10,[9]),(11,[10])] 7 []) (λs=>s.on [3,4,5,6,7,8] [] [(4,s.ch 4),(5,iw ((x0.args.take (i+1)).map (nmN 118)))] 6) Z tR ay Z (by kernel_rfl) Ret.bP Z (oI hi) (λC1 x1=>?_) ?_
  ·repeat' first
    | exact True.intro
    | refine And.intro ?_ ?_
    | refine x1.pure rfl tR rfl (iR 118 (x0.args.getD i 0) hin) ⟨rfl,rfl,tR⟩ (x1.back rfl tR ?_)
    | refine x1.back rfl tR ?_
    | refine x1.back rfl (by simp only[ak,big,aj,afT,List.length_map,List.length_take];omega) ?_
    | exact Or.inl (.ex [] [5] tR ⟨VT _ 1 (λt=>[D.str t]) (λ_=>rfl) .empty (Zb (nmN 118) hi 0),tR⟩)
  exact x.back Z (by simp only[ak,aj];omega) (upN hi (.ex [8] [] ⟨Z,tR⟩ tR))
 refine Sx.Go.freeze 5 ?_
 refine x.toLoop Z tR ?_
 refine Go.ownB 4 6 9 1 (λi=>[.str (([]:List BY).getD i .empty)]) Z Z ?_
 refine x.for x0.frm.length (λs i=>s.at [3,4,5,6,7] [(9,vi i)] [(4,.box [.d (.int .u8 x0.kind),.d (.int .u8 x0.op),vs (aN p c.main x0).dst,vs .empty,vs .empty,.d (aZ (x0.args.map (nmN 118))),.own 6,vi x0.num,vi x0.at_]),(6,iw ((x0.frm.take i).map (nmN 98)))]) Z tR (.ex [9] [4,6] ⟨Z,tR⟩ ⟨⟨Z,Z,Z,Z,Z,ah (by rw[List.take_length]),Z,Z,Z,tR⟩,⟨Z,Z,Z,λ_ h=>absurd h (afN _)⟩,tR⟩) (λi=>rfl) (λ_=>trivial) (λi hi=>?_) ?_
 ·have hin:aj (x0.frm.getD i 0):=hx.fi _ (getD_in 0 hi)
  refine x.ev3 5 [4,6] [0,2,3,4,5,6] (mkO [(1,[]),(7,[]),(8,[7]),(9,[1,8]),(10,[9]),(11,[10])] 7 []) (λs=>s.on [3,4,5,6,7,9] [] [(4,s.ch 4),(6,iw ((x0.frm.take (i+1)).map (nmN 98)))] 7) Z tR ay Z (by kernel_rfl) Ret.bP Z (oI hi) (λC1 x1=>?_) ?_
  ·repeat' first
    | exact True.intro
    | refine And.intro ?_ ?_
    | refine x1.pure rfl tR rfl (iR 98 (x0.frm.getD i 0) hin) ⟨rfl,rfl,tR⟩ (x1.back rfl tR ?_)
    | refine x1.back rfl tR ?_
    | refine x1.back rfl (by simp only[ak,big,aj,afT,List.length_map,List.length_take];omega) ?_
    | exact Or.inl (.ex [] [6] tR ⟨VT _ 1 (λt=>[D.str t]) (λ_=>rfl) .empty (Zb (nmN 98) hi 0),tR⟩)
  exact x.back Z (by simp only[ak,aj];omega) (upN hi (.ex [9] [] ⟨Z,tR⟩ tR))
 refine Sx.Go.freeze 6 ?_
 obtain⟨R,hR⟩:∃R,(iE p c.main x0).1=R:=⟨_,Z⟩
 have hr:(iE p c.main x0).1=R:=hR
 unfold iE at hr
 refine x.join (λs=>s.at [3,4,5,6,7,63] [(64,vb (decide (x0.kind=4∨x0.kind=5∨x0.kind=6)))] [(4,.box [.d (.int .u8 x0.kind),.d (.int .u8 x0.op),vs (aN p c.main x0).dst,vs .empty,vs .empty,.d (aZ (x0.args.map (nmN 118))),.d (aZ (x0.frm.map (nmN 98))),vi x0.num,vi x0.at_])]) Z tR (λh=>?_) (λh=>?_) ?_
 ·have h:x0.kind=4:=afH h
  exact x.back Z tR ⟨(),.ex [64] [4] ⟨vbE (by simp [h]),tR⟩ ⟨⟨Z,Z,Z,Z,Z,ah Z,ah (by rw[List.take_length]),Z,Z,tR⟩,tR⟩⟩
 ·have h:¬x0.kind=4:=afI h
  refine x.dec Z tR (λh5:x0.kind=5=>?_) (λh5:¬x0.kind=5=>?_)
  ·exact x.back Z tR ⟨(),.ex [64] [4] ⟨vbE (by simp [h5]),tR⟩ ⟨⟨Z,Z,Z,Z,Z,ah Z,ah (by rw[List.take_length]),Z,Z,tR⟩,tR⟩⟩
  ·exact x.back Z tR ⟨(),.ex [64] [4] ⟨vbE (by simp [h,h5]),tR⟩ ⟨⟨Z,Z,Z,Z,Z,ah Z,ah (by rw[List.take_length]),Z,Z,tR⟩,tR⟩⟩
 refine x.join (λs=>s.at [3,4,5,6,7] [] [(4,.box [.d (.int .u8 x0.kind),.d (.int .u8 x0.op),vs (aN p c.main x0).dst,vs R,vs .empty,.d (aZ (x0.args.map (nmN 118))),.d (aZ (x0.frm.map (nmN 98))),vi x0.num,vi x0.at_])]) Z tR (λh=>?_) (λh=>?_) ?_
 ·have h:x0.kind=4∨x0.kind=5∨x0.kind=6:=afH h
  rw[if_pos h] at hr
  refine x.pure Z tR Z (iR 97 x0.ref hx.ref) ⟨Z,Z,tR⟩ ?_
  exact x.back Z tR ⟨(),.ex [] [4] tR ⟨⟨Z,Z,Z,vsE hr,Z,ah Z,ah Z,Z,Z,tR⟩,tR⟩⟩
 ·have h:¬(x0.kind=4∨x0.kind=5∨x0.kind=6):=afI h
  rw[if_neg h] at hr
  refine x.dec Z tR (λh:x0.kind=7=>?_) (λh:¬x0.kind=7=>?_)
  ·rw[if_pos h] at hr
   refine x.pure Z tR Z (Hg c x0.ref hx.ref) ⟨⟨ah Z,ah Z,Z,tR⟩,Z,tR⟩ ?_
   exact x.back Z tR ⟨(),.ex [] [4] tR ⟨⟨Z,Z,Z,vsE hr,Z,ah Z,ah Z,Z,Z,tR⟩,tR⟩⟩
  rw[if_neg h] at hr
  refine x.dec Z tR (λh:x0.kind=8=>?_) (λh:¬x0.kind=8=>?_)
  ·have hb:=h8 h
   rw[if_pos h,if_pos (by unfold lK;rw[decide_eq_true hb.1,decide_eq_true hb.2];rfl)] at hr
   exact x.back Z hb ⟨(),.ex [] [4] tR ⟨⟨Z,Z,Z,vsE hr,Z,ah Z,ah Z,Z,Z,tR⟩,tR⟩⟩
  rw[if_neg h] at hr
  refine x.dec Z tR (λh:x0.kind=9=>?_) (λh:¬x0.kind=9=>?_)
  ·have hb:=h9 h
   rw[if_pos h,if_pos (by unfold lK;rw[decide_eq_true hb.1,decide_eq_true hb.2];rfl)] at hr
   exact x.back Z hb ⟨(),.ex [] [4] tR ⟨⟨Z,Z,Z,vsE hr,Z,ah Z,ah Z,Z,Z,tR⟩,tR⟩⟩
  rw[if_neg h] at hr
  refine x.dec Z tR (λh:x0.kind=10=>?_) (λh:¬x0.kind=10=>?_)
  ·have hb:=h10 h
   rw[if_pos h,if_pos (by unfold lK;rw[decide_eq_true hb.1,decide_eq_true hb.2];rfl)] at hr
   exact x.back Z hb ⟨(),.ex [] [4] tR ⟨⟨Z,Z,Z,vsE hr,Z,ah Z,ah Z,Z,Z,tR⟩,tR⟩⟩
  rw[if_neg h] at hr
  refine x.dec Z tR (λh:x0.kind=11=>?_) (λh:¬x0.kind=11=>?_)
  ·rw[if_pos (.inl h)] at hr
   refine x.cond Z tR (λ_=>?_) (λh2=>absurd h (afI h2))
   refine x.pure Z tR Z (iR 98 x0.ref hx.ref) ⟨Z,Z,tR⟩ ?_
   exact x.back Z tR ⟨(),.ex [] [4] tR ⟨⟨Z,Z,Z,vsE hr,Z,ah Z,ah Z,Z,Z,tR⟩,tR⟩⟩
  refine x.dec Z tR (λh2:x0.kind=12=>?_) (λh2:¬x0.kind=12=>?_)
  ·rw[if_pos (.inr h2)] at hr
   refine x.pure Z tR Z (iR 98 x0.ref hx.ref) ⟨Z,Z,tR⟩ ?_
   exact x.back Z tR ⟨(),.ex [] [4] tR ⟨⟨Z,Z,Z,vsE hr,Z,ah Z,ah Z,Z,Z,tR⟩,tR⟩⟩
  ·rw[if_neg (by omega)] at hr
   exact x.back Z tR ⟨(),.ex [] [4] tR ⟨⟨Z,Z,Z,vsE hr,Z,ah Z,ah Z,Z,Z,tR⟩,tR⟩⟩
 have hv:aN p c.main x0=⟨x0.kind,x0.op,(aN p c.main x0).dst,R,if x0.kind=12 then nmN 98 x0.alt else .empty,x0.args.map (nmN 118),x0.frm.map (nmN 98),x0.num,x0.at_⟩:=by rw[←hR];rfl
 refine x.dec Z tR (λh:x0.kind=12=>?_) (λh:¬x0.kind=12=>?_)
 ·rw[if_pos h] at hv
  refine x.pure Z tR Z (iR 98 x0.alt hx.alt) ⟨Z,Z,tR⟩ ?_
  refine x.exit Z tR ⟨.inr Z,?_,tR,Z⟩
  rw[hv];exact⟨Z,Z,Z,Z,Z,ah Z,ah Z,Z,Z,tR⟩
 ·rw[if_neg h] at hv
  refine x.exit Z tR ⟨.inr Z,?_,tR,Z⟩
  rw[hv];exact⟨Z,Z,Z,Z,Z,ah Z,ah Z,Z,Z,tR⟩
theorem Zh{p:Pol}{c:Cod}{b:Bod}{x:Op9}{n:Int}{d r a:Bool}(h:ROp p c b x n d r a):(x.kind=8->0≤x.ref∧x.ref<(p.ins.length:Int))∧(x.kind=9->0≤x.ref∧x.ref<(p.outs.length:Int))∧(x.kind=10->0≤x.ref∧x.ref<(p.lev.length:Int)):=by
 have hs:=h.sh
 refine⟨λg=>?_,λg=>?_,λg=>?_⟩<;>(
  have h1:=h.r1
  rw[g] at hs h1
  have hs2:some _=some (n,d,r,a):=hs
  cases hs2
  exact h1 Z)
theorem aaV{α:Type}(e:TypeId)(N:Nat)(d:α->List D)(hd:∀a,(d a).length=N)(x0:α){f:Nat->α}{i:Nat}{a:α}(h:f i=a):mE (.vec e N ((rng i f).length+1) (app (rng i f).length (λj=>d ((rng i f).getD j x0)) λ_=>d a)) (.vec e N (rng (i+1) f).length λj=>d ((rng (i+1) f).getD j x0)):=
 VT e N d hd x0 (by rw[jQ,h])
abbrev fb9(c:Cod)(i:Nat):Bod:=c.funcs.getD i aA
abbrev lb9(c:Cod)(i k:Nat):List Op9:=(fb9 c i).blocks.getD k []
theorem VX(p:Pol)(c:Cod)(hc:kL p c)(hl:aaT c):Pure PG 11 [qB p,rM c] (Ck (some (jl p c))) []:=by
 have hal:=hc.al
 have hfl:=hc.fl
 have hP:=(lJ p).1 hc.pol
 refine aD.mk (cfg 139) av [] Tryz.func11 Z (by kernel_rfl) Z Z Z ?_
 intro C x
 refine x.pure Z tR Z (AV p c hP.z hl) ⟨⟨ah Z,ah Z,ah Z,ah Z,Z,tR⟩,⟨ah Z,ah Z,Z,tR⟩,tR⟩ ?_
 refine x.cond Z tR (λh=>?_) (λ_=>?_)
 ·have h:(!rcB p c)=true:=h
  rw[Zg hc] at h;cases h
 refine x.toLoop Z tR ?_
 refine Go.ownB 3 0 78 4 (λi=>yQ (([]:List Arr).getD i bR)) Z Z ?_
 refine x.for c.arrays.length (λs i=>s.at [2,3,4,5,6] [(7,vi i)] [(4,Ga (rng i λi=>uX p i (c.arrays.getD i bB)))]) Z tR (.ex [7] [4] ⟨Z,tR⟩ ⟨⟨Z,Z,Z,λ_ h=>absurd h (afN _)⟩,tR⟩) (λi=>rfl) (λ_=>trivial) (λi hi=>?_) ?_
 ·obtain⟨g1,g2,g3⟩:=hc.arr _ (getD_in bB hi)
  refine x.ev3 4 [3,4] [0,2,4,5,6,7,8,9,10,11,12,13,14,15,16,17,18,19] (mkO [(1,[]),(3,[]),(20,[3]),(21,[20]),(22,[1,21]),(23,[22]),(24,[23])] 8 []) (λs=>s.on [2,3,4,5,6,7] [] [(3,s.ch 3),(4,Ga (rng (i+1) λi=>uX p i (c.arrays.getD i bB)))] 5) Z tR ay Z (by kernel_rfl) Ret.bP Z ?_ (λC1 x1=>?_) ?_
  ·simp only[ak,afT];omega
  ·repeat' first
    | exact True.intro
    | refine And.intro ?_ ?_
    | refine x1.pure rfl tR rfl (iR 97 i (by unfold aj;omega)) ⟨rfl,rfl,tR⟩ (x1.back rfl tR ?_)
    | refine x1.back rfl tR ?_
    | refine x1.back rfl (by simp only[ak,big,aj,afT,List.length_map,List.length_take,bD];omega) ?_
    | exact Or.inl (.ex [] [4] tR ⟨aaV _ 4 yQ (λ_=>rfl) bR rfl,tR⟩)
  exact x.back Z (by simp only[ak,aj];omega) (upN hi (.ex [7] [] ⟨Z,tR⟩ tR))
 refine Sx.Go.freeze 4 ?_
 refine x.toLoop Z tR ?_
 refine Go.ownB 3 1 82 4 (λi=>yP (([]:List Fun).getD i bG)) Z Z ?_
 refine x.for c.funcs.length (λs i=>s.at [2,3,4,5,6] [(8,vi i)] [(5,sw (rng i λi=>oz p c.main i (fb9 c i)))]) Z tR (.ex [8] [5] ⟨Z,tR⟩ ⟨⟨Z,Z,Z,λ_ h=>absurd h (afN _)⟩,tR⟩) (λi=>rfl) (λ_=>trivial) (λi hi=>?_) ?_
 ·have hmf:=getD_in aA hi
  have hB:=hc.bod _ hmf
  have hb0:0≤(fb9 c i).params∧(fb9 c i).params≤6:=hB.p0
  have hbl:1≤(fb9 c i).blocks.length∧(fb9 c i).blocks.length≤64:=hB.len
  refine x.pure Z tR Z (Hg c i (by unfold aj;omega)) ⟨⟨ah Z,ah Z,Z,tR⟩,Z,tR⟩ ?_
  refine x.toLoop Z tR ?_
  refine Go.ownB 6 1 9 1 (λi=>[.str (([]:List BY).getD i .empty)]) Z Z ?_
  refine x.adH (fb9 c i).params.toNat (λs m=>s.at [2,3,4,5,6,8,9] [(10,vi m)] [(7,iw (rng m λk=>nmN 118 (k:Int)))]) Z tR (.ex [10] [7] ⟨Z,tR⟩ ⟨⟨Z,Z,Z,λ_ h=>absurd h (afN _)⟩,tR⟩) (λm hm=>?_)
  refine x.dec Z (oI hi) (λh:(m:Int)<(fb9 c i).params=>?_) (λh:¬(m:Int)<(fb9 c i).params=>?_)
  ·have hm':m<(fb9 c i).params.toNat:=by omega
   refine x.ev3 6 [6,7] [0,2] (mkO [(1,[]),(3,[]),(4,[3]),(5,[1,4]),(6,[5]),(7,[6])] 7 []) (λs=>s.on [2,3,4,5,6,8,9,10] [] [(6,s.ch 6),(7,iw (rng (m+1) λk=>nmN 118 (k:Int)))] 8) Z tR ay Z (by kernel_rfl) Ret.bP Z tR (λC1 x1=>?_) ?_
   ·repeat' first
     | exact True.intro
     | refine And.intro ?_ ?_
     | refine x1.pure rfl tR rfl (iR 118 m (by unfold aj;omega)) ⟨rfl,rfl,tR⟩ (x1.back rfl tR ?_)
     | refine x1.back rfl tR ?_
     | refine x1.back rfl (by simp only[ak,big,aj,afT,List.length_map,List.length_take,bD];omega) ?_
     | exact Or.inl (.ex [] [7] tR ⟨aaV _ 1 (λt=>[D.str t]) (λ_=>rfl) .empty rfl,tR⟩)
   exact x.back Z (by simp only[ak,aj];omega) (upN hm' (.ex [10] [] ⟨Z,tR⟩ tR))
  obtain rfl:m=(fb9 c i).params.toNat:=by omega
  refine Sx.Go.freeze 7 ?_
  refine x.toLoop Z tR ?_
  refine Go.ownB 6 2 85 3 (λi=>Kn (([]:List Blk).getD i bq)) Z Z ?_
  refine x.for (fb9 c i).blocks.length (λs k=>s.at [2,3,4,5,6,8,9] [(11,vi k)] [(8,Dv (rng k λk=>GI p c.main k (lb9 c i k)))]) Z tR (.ex [11] [8] ⟨Z,tR⟩ ⟨⟨Z,Z,Z,λ_ h=>absurd h (afN _)⟩,tR⟩) (λi=>rfl) (λ_=>oI hi) (λk hk=>?_) ?_
  ·have hk':=hk
   simp only[fb9] at hk'
   have hlm:=getD_in [] hk'
   have hll:(lb9 c i k).length≤4096:=KY hc hmf hlm
   refine x.pure Z tR Z (iR 98 k (by unfold aj;omega)) ⟨Z,Z,tR⟩ ?_
   refine x.toLoop Z tR ?_
   refine Go.ownB 9 1 87 9 (λi=>MS (([]:List Ins).getD i (aP 0))) Z Z ?_
   refine x.for (lb9 c i k).length (λs j=>s.at [2,3,4,5,6,8,9,11,12] [(13,vi j)] [(10,F8 (((lb9 c i k).take j).map (aN p c.main)))]) Z tR (.ex [13] [10] ⟨Z,tR⟩ ⟨⟨Z,Z,Z,λ_ h=>absurd h (afN _)⟩,tR⟩) (λi=>rfl) (λ_=>oI2 hi hk) (λj hj=>?_) ?_
   ·have hj':=hj
    simp only[lb9,fb9] at hj'
    have hxm:=getD_in op0 hj'
    obtain⟨n,d,r,a,ho⟩:=Jy hB hlm hxm
    obtain⟨o1,o2,o3⟩:=Zh ho
    refine x.ev3 9 [9,10] [0,2,3,4,5,6,7,8,9,10,11,12,13,14,15] (mkO [(1,[]),(16,[]),(17,[16]),(18,[1,17]),(19,[18]),(20,[19])] 7 []) (λs=>s.on [2,3,4,5,6,8,9,11,12,13] [] [(9,s.ch 9),(10,F8 (((lb9 c i k).take (j+1)).map (aN p c.main)))] 11) Z tR ay Z (by kernel_rfl) Ret.bP Z ?_ (λC1 x1=>?_) ?_
    ·simp only[ak,afT];omega
    ·repeat' first
      | exact True.intro
      | refine And.intro ?_ ?_
      | refine x1.pure rfl tR rfl (OE p c ((lb9 c i k).getD j op0) (Y4 hc hmf hlm hxm) o1 o2 o3) ⟨⟨ah rfl,ah rfl,ah rfl,ah rfl,rfl,tR⟩,⟨ah rfl,ah rfl,rfl,tR⟩,⟨rfl,rfl,rfl,rfl,rfl,ah rfl,ah rfl,rfl,rfl,tR⟩,tR⟩ (x1.back rfl tR ?_)
      | refine x1.back rfl tR ?_
      | refine x1.back rfl (by simp only[ak,big,aj,afT,List.length_map,List.length_take,bD];omega) ?_
      | exact Or.inl (.ex [] [10] tR ⟨VT _ 9 MS (λ_=>rfl) (aP 0) (Zb (aN p c.main) hj op0),tR⟩)
    exact x.back Z (by simp only[ak,aj];omega) (upN hj (.ex [13] [] ⟨Z,tR⟩ tR))
   refine Sx.Go.freeze 10 ?_
   refine x.back Z (by simp only[ak,big,aj,afT,List.length_map,List.length_take,bD];omega) (upN hk (.ex [11] [8] ⟨Z,tR⟩ ⟨aaV (a:=(⟨nmN 98 (k:Int),((lb9 c i k).take (lb9 c i k).length).map (aN p c.main),0⟩:Blk)) _ 3 Kn (λ_=>rfl) bq (by rw[List.take_length];rfl),tR⟩))
  refine Sx.Go.freeze 8 ?_
  refine x.back Z (by simp only[ak,big,aj,afT,List.length_map,List.length_take,bD];omega) (upN hi (.ex [8] [5] ⟨Z,tR⟩ ⟨aaV (a:=oz p c.main i (fb9 c i)) _ 4 yP (λ_=>rfl) bG Z,tR⟩))
 ·refine Sx.Go.freeze 5 ?_
  exact x.exit Z tR ⟨.inr Z,⟨Z,Z,tR⟩,tR,Z⟩
theorem SS{f:Nat->List D}{i o:Nat}{ds:List D}(h:qw (f i) o ds=some (f i))(hl:∀k l,qw (f k) o ds=some l->l.length=(f k).length)(k:Nat):Bg f i o ds k=f k:=by
 unfold Bg
 by_cases e:k=i
 ·subst e
  rw[h]
  exact jy Z _ _ Z
 ·cases hs:qw (f k) o ds with
  | none=>rfl
  | some l=>exact jA e _ _ (hl k l hs)
theorem SV{n:Nat}{f:Nat->List D}(l:List Int)(hn:n=l.length)(h:∀i,i<l.length->f i=[.int .i64 (l.getD i 0)]):DQ (.sl 1 n f) (gY l):=by
 subst hn
 exact .sl _ _ _ _ (λi hi=>by rw[h i hi]) (λi j d d' hi h1 h2=>by
  rw[h i hi] at h1
  have:=h1.symm.trans h2
  cases this;exact .refl _)
abbrev opsC(l:List Op9):Ch:=.vec 72 9 l.length λi=>dOp (l.getD i op0)
abbrev afv(l:List Bod):Ch:=.vec 60 3 l.length λi=>za (l.getD i aA)
structure afw(c:Cod):Prop where
 al:c.arrays.length≤1000000
 fl:c.funcs.length≤1000000
 bl:∀b∈c.funcs,b.blocks.length≤1000000
 ll:∀b∈c.funcs,∀l∈b.blocks,l.length≤1000000∧∀x∈l,x.args.length≤2000000000∧x.frm.length≤2000000000
theorem Q6(c:Cod)(hc:afw c):Pure PG 10 [rM c] (rM c) []:=by
 have hal:=hc.al
 have hfl:=hc.fl
 refine aD.mk (cfg 86) av [] Tryz.func10 Z (by kernel_rfl) Z Z Z ?_
 intro C x
 refine x.toLoop Z (by simp only[ak,big];omega) ?_
 refine Sx.Go.freeze 3 ?_
 refine Go.ownB 2 1 60 3 (λi=>za (([]:List Bod).getD i aA)) Z Z ?_
 refine x.for c.funcs.length (λs i=>s.at [1,2,3] [(4,vi i)] [(4,afv (c.funcs.take i))]) rfl tR (.ex [4] [4] ⟨rfl,tR⟩ ⟨⟨rfl,rfl,rfl,λ_ h=>absurd h (afN _)⟩,tR⟩) (λi=>rfl) (λ_=>trivial) (λi hi=>?_) ?_
 ·have hmf:=getD_in aA hi
  have hbl:(fb9 c i).blocks.length≤1000000:=hc.bl _ hmf
  refine x.toLoop Z (oI hi) ?_
  refine Go.own 6 61 1 (λi=>[tY (([]:List (List Op9)).getD i [])]) Z ?_
  refine x.for (fb9 c i).blocks.length (λs k=>s.at [1,2,3,4,5,6] [(7,vi k)] [(6,aas ((fb9 c i).blocks.take k))]) Z tR (.ex [7] [6] ⟨Z,tR⟩ ⟨⟨Z,Z,Z,λ_ h=>absurd h (afN _)⟩,tR⟩) (λi=>rfl) (λ_=>trivial) (λk hk=>?_) ?_
  ·have hk':=hk
   simp only[fb9] at hk'
   have hlm:=getD_in [] hk'
   obtain⟨hl1,hl2⟩:=hc.ll _ hmf _ hlm
   refine x.for (lb9 c i k).length (λs j=>s.at [1,2,3,4,5,6,7,8] [(9,vi j)] [(7,opsC (lb9 c i k))]) Z ?_ (.ex [9] [7] ⟨Z,tR⟩ ⟨⟨Z,Z,Nat.zero_add _,λj _=>app0 _ _ j⟩,tR⟩) (λi=>rfl) (λ_=>trivial) (λj hj=>?_) ?_
   ·simp only[ak,big,afT];omega
   ·have hj':=hj
    simp only[lb9,fb9] at hj'
    have hxm:=getD_in op0 hj'
    obtain⟨hx1,hx2⟩:=hl2 _ hxm
    have hx1:((lb9 c i k).getD j op0).args.length≤2000000000:=hx1
    have hx2:((lb9 c i k).getD j op0).frm.length≤2000000000:=hx2
    refine x.op Z ?_ ?_
    ·simp only[ak,big,afT];omega
    refine Sx.Go.freeze 8 ?_
    refine Sx.Go.dq 59 (gY ((lb9 c i k).getD j op0).args) Z (SV _ (Nat.zero_add _) λz hz=>app0 _ _ z) ?_
    refine x.op Z ?_ ?_
    ·rw[if_pos rfl]
     simp only[ak,big,afT,List.length_cons,List.length_nil];omega
    refine Sx.Go.freeze 9 ?_
    refine Sx.Go.dq 70 (gY ((lb9 c i k).getD j op0).frm) Z (SV _ (by rw[if_pos rfl];exact Nat.zero_add _) λz hz=>by rw[if_pos rfl];exact app0 _ _ z) ?_
    refine x.back Z (by simp only[ak,aj,List.length_cons,List.length_nil];omega) (upN hj (.ex [9] [7] ⟨Z,tR⟩ ⟨⟨Z,Z,Z,λz hz=>?_⟩,tR⟩))
    rw[afT]
    have e1:Bg (λi_1=>dOp ((lb9 c i k).getD i_1 op0)) j (0+5) [gY ((lb9 c i k).getD j op0).args]=λi_1=>dOp ((lb9 c i k).getD i_1 op0):=funext λz=>SS (f:=λi_1=>dOp ((lb9 c i k).getD i_1 op0)) rfl (λ_ _ hs=>by cases hs;rfl) z
    rw[e1]
    exact SS (f:=λi_1=>dOp ((lb9 c i k).getD i_1 op0)) rfl (λ_ _ hs=>by cases hs;rfl) z
   ·refine Sx.Go.freeze 7 ?_
    refine x.back Z ?_ (upN hk (.ex [7] [6] ⟨Z,tR⟩ ⟨VT (a:=lb9 c i k) _ 1 (λl=>[tY l]) (λ_=>rfl) [] (take_at hk []),tR⟩))
    simp only[ak,big,aj,List.length_take];omega
  ·refine Sx.Go.freeze 6 ?_
   refine x.back Z ?_ (upN hi (.ex [4] [4] ⟨Z,tR⟩ ⟨VT (a:=(⟨(fb9 c i).params,(fb9 c i).vars,(fb9 c i).blocks.take (fb9 c i).blocks.length⟩:Bod)) _ 3 za (λ_=>rfl) aA (by rw[List.take_length];exact take_at hi aA),tR⟩))
   simp only[ak,big,aj,List.length_take];omega
 ·refine Sx.Go.freeze 4 ?_
  exact x.exit Z tR ⟨.inr Z,⟨ah Z,ah (by rw[List.take_length]),Z,tR⟩,tR,Z⟩
structure Q7(c:Cod):Prop where
 f:c.funcs.length≤100
 a:c.arrays.length≤100
 b:∀b∈c.funcs,b.blocks.length≤100∧∀l∈b.blocks,l.length≤300
 n:xO c.funcs≤300
open Classical in
noncomputable def Zi (c:Cod):Bool:=decide (Q7 c)
open Classical in
theorem SX{c:Cod}(h:¬Q7 c):Zi c=false:=decide_eq_false h
open Classical in
theorem aaW{c:Cod}(h:Q7 c):Zi c=true:=decide_eq_true h
theorem Q8(c:Cod)(hf:c.funcs.length≤1000000000000)(hc:∀b∈c.funcs,b.blocks.length≤1000000000000):Pure PG 7 [rM c,vi 300] (vb (Zi c)) []:=by
 refine aD.mk (cfg 71) av [] Tryz.func7 Z (by kernel_rfl) Z Z Z ?_
 intro C x
 have no:∀{u:Bool},u=true->¬Q7 c->aB (vb false) (vb (Zi c)):=λ_ h=>vbE (SX h).symm
 refine x.cond Z tR (λh=>?_) (λh=>?_)
 ·have h:(decide (100<(c.funcs.length:Int))||decide (100<(c.arrays.length:Int)))=true:=h
  refine x.exit Z tR ⟨.inr Z,no h λg=>?_,tR,Z⟩
  have:=g.f
  have:=g.a
  rw[decide_eq_false (by omega),decide_eq_false (by omega)] at h
  cases h
 have h:(decide (100<(c.funcs.length:Int))||decide (100<(c.arrays.length:Int)))=false:=h
 simp only[afU,afP] at h
 refine x.Mi c.funcs.length (λi=>(∀j,j<i->(c.funcs.getD j aA).blocks.length≤100∧∀l∈(c.funcs.getD j aA).blocks,l.length≤300)∧xO (c.funcs.take i)≤300) (λs i=>s.at [1,2] [(5,vi (xO (c.funcs.take i))),(6,vi i)] []) Z tR ⟨λj hj=>absurd hj (afN _),Nat.zero_le _⟩ (.ex [5,6] [] ⟨Z,Z,tR⟩ tR) (λi=>rfl) (λ_=>trivial) (λi hi hQ=>?_) (λhE=>?_)
 ·obtain⟨q1,q2⟩:=hQ
  have hmf:=getD_in aA hi
  have ef:=take_at hi aA
  have et:xO (c.funcs.take (i+1))=xO (c.funcs.take i)+qm (fb9 c i).blocks:=by
   unfold xO;rw[ef,List.map_append,List.sum_append];simp
  refine x.dec Z (oI hi) (λh:100<((fb9 c i).blocks.length:Int)=>?_) (λh:¬100<((fb9 c i).blocks.length:Int)=>?_)
  ·refine x.exit Z tR ⟨.inr Z,no Z λg=>?_,tR,Z⟩
   have:(fb9 c i).blocks.length≤100:=(g.b _ hmf).1
   omega
  have afx:(fb9 c i).blocks.length≤100:=by omega
  obtain⟨T,hT⟩:∃T,xO (c.funcs.take i)=T:=⟨_,Z⟩
  rw[hT] at q2 et
  refine x.Mi (fb9 c i).blocks.length (λk=>(∀j,j<k->((fb9 c i).blocks.getD j []).length≤300)∧qm ((fb9 c i).blocks.take k)≤k*300) (λs k=>s.at [1,2,6] [(5,vi (T+qm ((fb9 c i).blocks.take k):Nat)),(7,vi k)] []) Z tR ⟨λj hj=>absurd hj (afN _),Nat.zero_le _⟩ (.ex [5,7] [] ⟨viE (by rw[hT];rfl),Z,tR⟩ tR) (λi=>rfl) (λ_=>oI hi) (λk hk hQ=>?_) (λhE=>?_)
  ·obtain⟨p1,p2⟩:=hQ
   have ek:=take_at hk []
   have ec:qm ((fb9 c i).blocks.take (k+1))=qm ((fb9 c i).blocks.take k)+(lb9 c i k).length:=by
    unfold qm;rw[ek,List.map_append,List.sum_append];rfl
   refine x.dec Z (oI2 hi hk) (λh:300<((lb9 c i k).length:Int)=>?_) (λh:¬300<((lb9 c i k).length:Int)=>?_)
   ·refine x.exit Z tR ⟨.inr Z,no Z λg=>?_,tR,Z⟩
    have:(lb9 c i k).length≤300:=(g.b _ hmf).2 _ (getD_in [] hk)
    omega
   ·refine x.back Z ?_ (upQ hk ⟨λj hj=>?_,by omega⟩ (.ex [5,7] [] ⟨viE (by rw[ec,←Nat.add_assoc];rfl),Z,tR⟩ tR))
    ·have h1:(lb9 c i k).length≤300:=by omega
     simp only[ak,aj,afT]
     simp only[lb9,fb9] at h1 hk p2 afx ⊢
     omega
    ·by_cases e:j=k
     ·subst e;exact (show (lb9 c i j).length≤300 by omega)
     ·exact p1 j (by omega)
  ·have e1:qm ((fb9 c i).blocks.take (fb9 c i).blocks.length)=qm (fb9 c i).blocks:=by rw[List.take_length]
   refine x.dec Z tR (λh2:300<((T+qm ((fb9 c i).blocks.take (fb9 c i).blocks.length):Nat):Int)=>?_) (λh2:¬300<((T+qm ((fb9 c i).blocks.take (fb9 c i).blocks.length):Nat):Int)=>?_)
   ·refine x.exit Z tR ⟨.inr Z,no Z λg=>?_,tR,Z⟩
    have g2:xO (c.funcs.take (i+1))≤300:=Nat.le_trans (OC _ _ _) g.n
    omega
   ·refine x.back Z (by simp only[ak,aj];omega) (upQ hi ⟨λj hj=>?_,by omega⟩ (.ex [5,6] [] ⟨viE (by rw[et,e1]),Z,tR⟩ tR))
    by_cases e:j=i
    ·subst e;exact⟨(show (fb9 c j).blocks.length≤100 by omega),(zA []).2 hE.1⟩
    ·exact q1 j (by omega)
 ·have ok:Q7 c:=⟨by omega,by omega,(zA aA).2 hE.1,by have:=hE.2;rw[List.take_length] at this;exact this⟩
  exact x.exit Z tR ⟨.inr Z,vbE (aaW ok).symm,tR,Z⟩
theorem VY(p:Pol)(c:Cod)(hz:Ie p)(hc:¬kL p c)(hl:aaT c):Pure PG 11 [qB p,rM c] (Ck none) []:=by
 refine aD.mk (cfg 139) av [] Tryz.func11 Z (by kernel_rfl) Z Z Z ?_
 intro C x
 refine x.pure Z tR Z (AV p c hz hl) ⟨⟨ah Z,ah Z,ah Z,ah Z,Z,tR⟩,⟨ah Z,ah Z,Z,tR⟩,tR⟩ ?_
 refine x.cond Z tR (λ_=>?_) (λh=>?_)
 ·rw[nP]
  refine x.lU ?_
  exact x.exit Z tR ⟨⟨[(4,.ptr 2 0),(5,vi 1)],[(2,.box [.d (bV []),.d (dn [])])],3⟩,⟨⟨⟨Z,Z⟩,Z,tR⟩,⟨⟨Z,Z,tR⟩,tR⟩,Z⟩,.inr Z,⟨Z,Z,tR⟩,tR,Z⟩
 ·have h:(!rcB p c)=false:=h
  rw[Zf hc] at h;cases h
theorem JK{p:Pol}{c:Cod}{q:Prg}:RsZ (iG p q).1:=by
 unfold iG
 split
 ·rename_i hg
  rw[afF] at hg
  rcases hV:Gx p q with⟨a,e⟩ | c2
  ·exact⟨(show 0*8≤140737488355328 by decide),(show 0*8≤140737488355328 by decide),λb hb=>by cases hb⟩
  ·exact QV (Cq hg.1 (kZ.1 hg.2) (Em.1 hV))
 ·exact⟨(show 0*8≤140737488355328 by decide),(show 0*8≤140737488355328 by decide),λb hb=>by cases hb⟩
theorem VZ{q:Prg}(h:NJ q)(h2:rightG q=true):Kt q:=⟨h.yT,h.Ku,λf hf=>⟨by have:=(JI h2).p f hf;unfold jY;omega,(h.funcs f hf).aaq,λb hb=>⟨((h.funcs f hf).blocks b hb).len,λx hx=>by
 have:=(JI h2).a f hf b hb x hx
 unfold Ko jY;omega⟩⟩⟩
variable{W:Nat}
theorem wf_u8{n:Int}(h:(Lit.int .u8 n).wf=true):0≤n∧n<256:=by
 simp only[Lit.wf,afF,afL] at h
 obtain⟨h1,h2⟩:=h
 have h1:0≤n:=h1
 have h2:n≤255:=h2
 omega
structure OG(W:Nat)(x:Op9):Prop where
 kind:0≤x.kind∧x.kind<256
 op:0≤x.op∧x.op<256
 dst:aj x.dst
 ref:aj x.ref
 alt:aj x.alt
 num:aj x.num
 args:x.args.length*8≤W∧∀n∈x.args,aj n
 frm:x.frm.length*8≤W∧∀n∈x.frm,aj n
structure aby(W:Nat)(b:Bod):Prop where
 p:aj b.params
 v:aj b.vars
 bl:b.blocks.length*24≤W
 ll:∀l∈b.blocks,l.length*96≤W∧∀x∈l,OG W x
structure Zj(W:Nat)(c:Cod):Prop where
 al:c.arrays.length*16≤W
 a:∀a∈c.arrays,aj a.1∧aj a.2
 fl:c.funcs.length*40≤W
 b:∀b∈c.funcs,aby W b
 m:aj c.main
abbrev Zk:List DTy:=[.int .u8,.int .u8,.int .i64,.int .i64,.int .i64,.sl 8 [.int .i64],.sl 8 [.int .i64],.int .i64,.int .i64]
abbrev adl:List DTy:=[.int .i64,.int .i64,.sl 24 [.sl 96 Zk]]
abbrev Zl:List DTy:=[.sl 16 [.int .i64,.int .i64],.sl 40 adl,.int .i64]
theorem Zm{ds:List D}(h:mR W Zk ds):∃x:Op9,OG W x∧ds.length=(dOp x).length∧∀(j:Nat) (u u':D),ds[j]?=some u->(dOp x)[j]?=some u'->DQ u u':=by
 obtain⟨hl,hc⟩:=h
 match ds,hl with
 | [d0,d1,d2,d3,d4,d5,d6,d7,d8],_=>
  obtain⟨n0,rfl,w0⟩:=eU (hc 0 _ _ Z Z)
  obtain⟨n1,rfl,w1⟩:=eU (hc 1 _ _ Z Z)
  obtain⟨n2,rfl,w2⟩:=eU (hc 2 _ _ Z Z)
  obtain⟨n3,rfl,w3⟩:=eU (hc 3 _ _ Z Z)
  obtain⟨n4,rfl,w4⟩:=eU (hc 4 _ _ Z Z)
  obtain⟨l5,q5,w5,z5⟩:=IQ (hc 5 _ _ Z Z)
  obtain⟨l6,q6,w6,z6⟩:=IQ (hc 6 _ _ Z Z)
  obtain⟨n7,rfl,w7⟩:=eU (hc 7 _ _ Z Z)
  obtain⟨n8,rfl,w8⟩:=eU (hc 8 _ _ Z Z)
  refine⟨⟨n0,n1,n2,n3,n4,l5,l6,n7,n8⟩,⟨wf_u8 w0,wf_u8 w1,wf_i64 w2,wf_i64 w3,wf_i64 w4,wf_i64 w7,⟨w5.2,λn hn=>wf_i64 (z5 n hn)⟩,⟨w6.2,λn hn=>wf_i64 (z6 n hn)⟩⟩,Z,λj d d' hd hd'=>?_⟩
  match j with
  | 0=>simp at hd hd';subst hd hd';exact .refl _
  | 1=>simp at hd hd';subst hd hd';exact .refl _
  | 2=>simp at hd hd';subst hd hd';exact .refl _
  | 3=>simp at hd hd';subst hd hd';exact .refl _
  | 4=>simp at hd hd';subst hd hd';exact .refl _
  | 5=>simp at hd hd';subst hd hd';exact q5
  | 6=>simp at hd hd';subst hd hd';exact q6
  | 7=>simp at hd hd';subst hd hd';exact .refl _
  | 8=>simp at hd hd';subst hd hd';exact .refl _
  | j+9=>simp at hd
theorem V3{z:Nat}{x:D}(h:mI W (.sl z [.sl 96 Zk]) x):∃l:List (List Op9),DQ x (p9 l)∧(l.length≤maxLen∧l.length*z≤W)∧∀a∈l,a.length*96≤W∧∀x∈a,OG W x:=
 ql (λl=>[tY l]) (λa=>a.length*96≤W∧∀x∈a,OG W x) [] (λds ⟨hl,hc⟩=>by
  match ds,hl with
  | [d0],_=>
   obtain⟨l,q,w,z⟩:=ql dOp (OG W) op0 (λds hd=>Zm hd) (hc 0 _ _ Z Z)
   refine⟨l,⟨w.2,z⟩,Z,λj u u' hd hd'=>?_⟩
   match j with
   | 0=>simp at hd hd';subst hd hd';exact q
   | j+1=>simp at hd) h
theorem V4{F:Nat->Prop}{w:World}{ρ:Nat->Value}{ds:List D}{cs:List Value}(h:mR W Zl ds)(hr:aH (RD F w) ds cs):∃x:Cod,Zj W x∧R3 ρ F w (rM x) (.agg cs.toArray):=by
 obtain⟨hl,hc⟩:=h
 match ds,hl,cs,hr with
 | [d0,d1,d2],_,[c0,c1,c2],⟨r0,r1,r2,_⟩=>
  obtain⟨l0,q0,w0,z0⟩:=ql (λc:Cel=>[D.int .i64 c.1,D.int .i64 c.2]) (λa:Cel=>aj a.1∧aj a.2) bB (λds ⟨hl,hc⟩=>by
   match ds,hl with
   | [d0,d1],_=>
    obtain⟨n0,rfl,w0⟩:=eU (hc 0 _ _ Z Z)
    obtain⟨n1,rfl,w1⟩:=eU (hc 1 _ _ Z Z)
    refine⟨(n0,n1),⟨wf_i64 w0,wf_i64 w1⟩,Z,λj u u' hd hd'=>?_⟩
    match j with
    | 0=>simp at hd hd';subst hd hd';exact .refl _
    | 1=>simp at hd hd';subst hd hd';exact .refl _
    | j+2=>simp at hd) (hc 0 _ _ rfl rfl)
  obtain⟨l1,q1,w1,z1⟩:=ql za (aby W) aA (λds ⟨hl,hc⟩=>by
   match ds,hl with
   | [d0,d1,d2],_=>
    obtain⟨n0,rfl,w0⟩:=eU (hc 0 _ _ Z Z)
    obtain⟨n1,rfl,w1⟩:=eU (hc 1 _ _ Z Z)
    obtain⟨l2,q2,w2,z2⟩:=V3 (hc 2 _ _ Z Z)
    refine⟨⟨n0,n1,l2⟩,⟨wf_i64 w0,wf_i64 w1,w2.2,z2⟩,Z,λj u u' hd hd'=>?_⟩
    match j with
    | 0=>simp at hd hd';subst hd hd';exact .refl _
    | 1=>simp at hd hd';subst hd hd';exact .refl _
    | 2=>simp at hd hd';subst hd hd';exact q2
    | j+3=>simp at hd) (hc 1 _ _ rfl rfl)
  obtain⟨n2,rfl,w2⟩:=eU (hc 2 _ _ Z Z)
  exact⟨⟨l0,l1,n2⟩,⟨w0.2,z0,w1.2,z1,wf_i64 w2⟩,⟨_,Z,q0.sound r0,q1.sound r1,r2,tR⟩⟩
structure LawZ(p:Pol)(c:Cod):Prop where
 z:Ie p
 pl:p.ins.length≤1000000000∧p.outs.length≤1000000000
 sz:NT c
 cz:afw c
 l:aaT c
 n:JF c
 q:∀q,kC p c=some q->NJ q
def wz:Nat:=8589934592
structure afy(p:Pol)(c:Cod):Prop where
 pz:JD p
 pl:p.ins.length≤1000000000∧p.outs.length≤1000000000
 c:Zj wz c
theorem afz{x:Op9}(h:OG wz x):Yv x:=⟨by have:=h.args.1;unfold wz at this;omega,by have:=h.frm.1;unfold wz at this;omega,h.args.2,h.frm.2,h.dst,h.ref,h.alt⟩
theorem uM{c:UInt8}{n:Int}(h:aj n):(nmN c n).size≤okL:=by have:=Yu (c:=c) h;unfold okL;omega
theorem V5{p:Pol}{m:Int}{x:Op9}(hp:JD p)(hx:OG wz x):(iE p m x).1.size≤okL:=by
 have hl:∀k,(p.lev.getD k .empty).size≤okL:=λk=>by
  by_cases hk:k<p.lev.length
  ·exact hp.lev _ (getD_in _ hk)
  ·rw[afE,List.getElem?_eq_none (by omega)];exact Nat.zero_le _
 have hc:∀(l:List Chan),(∀c∈l,Ip c.1∧aj c.2)->∀k,(l.getD k aL).1.size≤okL:=λl hl k=>by
  by_cases hk:k<l.length
  ·exact (hl _ (getD_in _ hk)).1
  ·rw[afE,List.getElem?_eq_none (by omega)];exact Nat.zero_le _
 unfold iE
 repeat' split
 all_goals first
  | exact uM hx.ref
  | exact Nat.zero_le _
  | exact hl _
  | exact hc _ hp.ins _
  | exact hc _ hp.outs _
  | (show eH.size≤okL;decide)
theorem afA{p:Pol}{c:Cod}(hz:afy p c)(hs:Q7 c):LawZ p c:=by
 have hc:=hz.c
 have hx:∀b∈c.funcs,∀l∈b.blocks,∀x∈l,OG wz x:=λb hb l hl x hx=>((hc.b b hb).ll l hl).2 x hx
 have hf:=hs.f
 have ha:=hs.a
 refine⟨hz.pz.z,hz.pl,⟨by omega,by omega,λb hb=>by have:=(hs.b b hb).1;omega,λb hb l hl=>⟨by have:=(hs.b b hb).2 l hl;omega,λx h=>afz (hx b hb l hl x h)⟩⟩,⟨by omega,by omega,λb hb=>by have:=(hs.b b hb).1;omega,λb hb l hl=>⟨by have:=(hs.b b hb).2 l hl;omega,λx h=>?_⟩⟩,⟨by omega,by omega,λb hb=>⟨by have:=(hs.b b hb).1;omega,λl hl=>⟨by have:=(hs.b b hb).2 l hl;omega,λx h=>?_⟩,(hc.b b hb).p⟩⟩,λb hb l hl x h=>(hx b hb l hl x h).num,λq hq=>?_⟩
 ·have h1:=(hx b hb l hl x h).args.1
  have h2:=(hx b hb l hl x h).frm.1
  unfold wz at h1 h2;omega
 ·have h1:=(hx b hb l hl x h).args.1
  have h2:=(hx b hb l hl x h).frm.1
  unfold wz at h1 h2
  exact⟨by omega,by omega⟩
 ·unfold kC at hq
  split at hq
  ·rename_i hk
   cases hq
   rw[afF,List.all_eq_true,List.all_eq_true] at hk
   have i64:∀{i:Nat},i<1000->aj (i:Int):=λh=>by unfold aj;omega
   refine⟨by show (rng _ _).length≤_;rw[bD];unfold jY;omega,λa h=>?_,by show (rng _ _).length≤_;rw[bD];unfold jY;omega,λf h=>?_⟩
   ·obtain⟨i,hi,rfl⟩:=kT.1 h
    refine⟨uM (i64 (by omega)),?_,(hc.a _ (getD_in bB hi)).1⟩
    show (p.lev.getD _ .empty).size≤okL
    by_cases hk:(c.arrays.getD i bB).2.toNat<p.lev.length
    ·exact hz.pz.lev _ (getD_in _ hk)
    ·rw[afE,List.getElem?_eq_none (by omega)];exact Nat.zero_le _
   ·obtain⟨i,hi,rfl⟩:=kT.1 h
    have hm:=getD_in aA hi
    have hb1:=(hs.b _ hm).1
    have hkk:=hk.2 _ hm
    unfold qU at hkk
    rw[afF,afF,afL,afL] at hkk
    obtain⟨⟨k1,k2⟩,_⟩:=hkk
    refine⟨?_,?_,λa h=>?_,?_,λb h=>?_⟩
    ·show (fnN c.main i).size≤okL
     unfold fnN
     split
     ·decide
     ·exact uM (i64 (by omega))
    ·show (rng _ _).length≤_
     rw[bD];unfold Eb;omega
    ·obtain⟨k,hk,rfl⟩:=kT.1 h
     exact uM (i64 (by omega))
    ·show (rng _ _).length≤_
     rw[bD];unfold jY;omega
    ·obtain⟨k,hk,rfl⟩:=kT.1 h
     have hl:=getD_in [] hk
     have hl3:=(hs.b _ hm).2 _ hl
     refine⟨uM (i64 (by omega)),?_,λx h=>?_⟩
     ·show (List.map _ _).length≤_
      rw[List.length_map];unfold jY;omega
     ·obtain⟨y,hy,rfl⟩:=List.mem_map.1 h
      have hY:=hx _ hm _ hl y hy
      have h1:=hY.args.1
      have h2:=hY.frm.1
      unfold wz at h1 h2
      refine⟨hY.kind,hY.op,?_,V5 hz.pz hY,?_,?_,?_,λa h=>?_,λa h=>?_,hY.num⟩
      ·show (if _ then _ else _:BY).size≤okL
       split
       ·exact uM hY.dst
       ·exact Nat.zero_le _
      ·show (if _ then _ else _:BY).size≤okL
       split
       ·exact uM hY.alt
       ·exact Nat.zero_le _
      ·show (List.map _ _).length≤_
       rw[List.length_map];unfold Eb;omega
      ·show (List.map _ _).length≤_
       rw[List.length_map];unfold Eb;omega
      ·obtain⟨n,hn,rfl⟩:=List.mem_map.1 h
       exact uM (hY.args.2 n hn)
      ·obtain⟨n,hn,rfl⟩:=List.mem_map.1 h
       exact uM (hY.frm.2 n hn)
  ·cases hq
def ex9:BY:=⟨#[102,110,32,109,97,105,110,40,41,32,123,32,97,58,32,120,32,61,32,99,111,110,115,116,32,55,32,114,101,116,117,114,110,32,120,32,125]⟩
def OH:BY:=⟨#[102,110,32,109,97,105,110,40,41,32,123,32,97,58,32,114,101,116,117,114,110,32,120,32,125]⟩
theorem Zn:(bY ex9).2.2=0:=by decide +kernel
theorem Zo:(bY OH).2.2=0:=by decide +kernel
theorem abz:(iG (dI exP).1 (bY ex9).1).2.2=0∧(iG (dI exP).1 (bY ex9).1).1.funcs.length=1∧((iG (dI exP).1 (bY ex9).1).1.funcs.getD 0 aA).vars=1∧((iG (dI exP).1 (bY ex9).1).1.funcs.getD 0 aA).blocks.length=1∧(((iG (dI exP).1 (bY ex9).1).1.funcs.getD 0 aA).blocks.getD 0 []).length=2∧((((iG (dI exP).1 (bY ex9).1).1.funcs.getD 0 aA).blocks.getD 0 []).getD 0 op0).dst=0∧((((iG (dI exP).1 (bY ex9).1).1.funcs.getD 0 aA).blocks.getD 0 []).getD 1 op0).dst=-1∧((((iG (dI exP).1 (bY ex9).1).1.funcs.getD 0 aA).blocks.getD 0 []).getD 1 op0).args.length=1:=by decide +kernel
theorem adn:(iG (dI exP).1 (bY OH).1).2.1=15∧(iG (dI exP).1 (bY OH).1).2.2=10:=by decide +kernel
theorem OJ:Pure PG 14 [] (vb true) []:=by
 refine aD.mk (cfg 128) av [] Tryz.func14 Z (by kernel_rfl) Z Z Z ?_
 intro C x
 have s1:exP.size≤9223372036854775807:=by show (72:Nat)≤_;decide
 have s2:ex9.size≤4611686018427387904:=by show (37:Nat)≤_;decide
 have s3:OH.size≤4611686018427387904:=by show (25:Nat)≤_;decide
 have hP:=Oc abm.1
 have eP:=abm.1
 have hG:=AP Zn
 have hB:=AP Zo
 have hc:=adg (Int.natCast_nonneg _) (Y2 Zn) hP hG.1 hG.2 abz.1
 have hr:=abz
 have hb:=adn
 have r1:=uG (dI exP).1 (bY ex9).1 hP.z (Cv hG.1 hG.2)
 have r2:=uG (dI exP).1 (bY OH).1 hP.z (Cv hB.1 hB.2)
 have e1:=Zn
 have e2:=Zo
 have px:=Np exP s1
 have pa:=Dw ex9 s2
 have pb:=Dw OH s3
 clear hG hB s1 s2 s3
 obtain⟨c,hcc⟩:∃c,iG (dI exP).1 (bY ex9).1=c:=⟨_,Z⟩
 obtain⟨d,hdd⟩:∃c,iG (dI exP).1 (bY OH).1=c:=⟨_,Z⟩
 rw[hcc] at hc hr r1
 rw[hdd] at hb r2
 clear hcc hdd
 obtain⟨P,hPP⟩:∃c,dI exP=c:=⟨_,Z⟩
 obtain⟨Q,hQQ⟩:∃c,bY ex9=c:=⟨_,Z⟩
 obtain⟨B,hBB⟩:∃c,bY OH=c:=⟨_,Z⟩
 rw[hPP] at hP eP hc r1 r2 px
 rw[hQQ] at e1 pa r1
 rw[hBB] at e2 pb r2
 clear hPP hQQ hBB
 obtain⟨P,u1,u2⟩:=P
 obtain⟨Q,u3,u4⟩:=Q
 obtain⟨B,u5,u6⟩:=B
 obtain⟨c,u7,u8⟩:=c
 obtain⟨d,u9,u10⟩:=d
 simp only at hP eP hc r1 r2 px e1 pa e2 pb hr hb
 obtain⟨h0,h1,h2,h3,h4,h5,h6,h7⟩:=hr
 obtain⟨b1,b2⟩:=hb
 subst eP e1 e2 h0 b1 b2
 refine x.pure Z tR Z px ⟨Z,tR⟩ ?_
 refine x.pure Z tR Z pa ⟨Z,tR⟩ ?_
 refine x.pure Z tR Z r1 ⟨⟨ah Z,ah Z,ah Z,ah Z,Z,tR⟩,⟨ah Z,ah Z,tR⟩,tR⟩ ?_
 refine x.pure Z tR Z pb ⟨Z,tR⟩ ?_
 refine x.pure Z tR Z r2 ⟨⟨ah Z,ah Z,ah Z,ah Z,Z,tR⟩,⟨ah Z,ah Z,tR⟩,tR⟩ ?_
 have n1:((c.funcs.length:Nat):Int)=1:=by rw[h1];rfl
 have n3:(((c.funcs.getD 0 aA).blocks.length:Nat):Int)=1:=by rw[h3];rfl
 refine x.cond Z (by simp only[ak,Int.toNat_zero];omega) (λh=>?_) (λh=>?_)
 ·exfalso
  simp only[Int.toNat_zero,n1,h2,n3] at h
  revert h
  simp
 refine x.bK Z (by simp only[ak,Int.toNat_zero];omega) Z (λ_=>VO hc.1 hc.2) Z ⟨⟨ah Z,ah Z,ah Z,ah Z,Z,tR⟩,⟨ah Z,ah Z,Z,tR⟩,tR⟩ ?_
 refine x.exit Z ?_ ⟨.inr Z,?_,tR,Z⟩
 ·exact tR
 refine (show aB (vb _) (vb true) from ?_)
 simp only[Int.toNat_zero,show Int.toNat 1=1 from rfl,h4,h5,h6,h7]
 exact Z
theorem K5(p:Pol)(c:Cod)(hz:afy p c):Pure PG 3 [qB p,rM c] (vb true) []:=by
 have hS:=Q8 c (by have:=hz.c.fl;unfold wz at this;omega) (λb hb=>by have:=(hz.c.b b hb).bl;unfold wz at this;omega)
 refine aD.mk (cfg 47) av [] Tryz.func3 Z (by kernel_rfl) Z Z Z ?_
 intro C x
 refine x.pure Z tR Z hS ⟨⟨ah Z,ah Z,Z,tR⟩,Z,tR⟩ ?_
 refine x.cond Z tR (λh=>?_) (λh=>?_)
 ·exact x.exit Z tR ⟨.inr Z,Z,tR,Z⟩
 have h:(!Zi c)=false:=h
 have hsm:Q7 c:=Classical.byContradiction λg=>by rw[SX g] at h;cases h
 have hz:=afA hz hsm
 have hC6:=Qm p hz.z.toPolSz
 have hC9:=Q6 c hz.cz
 have hR:=zm p c hz.z hz.pl hz.sz hz.q (λq _=>JK (c:=c))
 have hG:=DN p c hz.z hz.pl hz.sz hz.q (λq _=>JK (c:=c))
 obtain⟨Q,n,b,hV,hA,hSm,hF,hN⟩:∃(Q:Prg) (n:Int) (b:Bool),Ck (mo p c)=.tup [H8 Q,vi n]∧Pure PG 11 [qB p,rM c] (.tup [H8 Q,vi n]) []∧Kt Q∧(mo p c).isSome=b∧decide (n=0)=b:=by
  by_cases hc:kL p c
  ·have e:=He hc
   refine⟨jl p c,0,true,by rw[e],VX p c hc hz.l,?_,by rw[e];rfl,Z⟩
   exact VZ (Cz hc hz.n) (kZ.2 (zq hc))
  ·have e:mo p c=none:=by
    cases g:mo p c with
    | none=>rfl
    | some q=>exact absurd (VQ g) hc
   exact⟨⟨[],[]⟩,1,false,by rw[e],VY p c hz.z hc hz.l,⟨Nat.zero_le _,Nat.zero_le _,λf hf=>by cases hf⟩,by rw[e];rfl,rfl⟩
 rw[hV] at hR
 rw[hF] at hG
 have hSa:=UG Q Q true hSm hSm
 rw[QG] at hSa
 refine x.ev2 [] [0,2] (mkO [(1,[]),(3,[1]),(4,[3]),(5,[4]),(6,[5]),(7,[5]),(8,[]),(9,[6,8]),(10,[7,9])] 10 []) (λs=>s.on [2,3] [(5,.ptr 2 0),(6,vi n)] [(2,.box [.d (bV Q.arrays),.d (dn Q.funcs)])] 3) Z tR ay (by kernel_rfl) Ret.bP Z tR (λC1 x1=>?_) ?_
 ·repeat' first
   | exact True.intro
   | refine And.intro ?_ ?_
   | refine x1.pure rfl tR rfl hC6 ⟨⟨ah rfl,ah rfl,ah rfl,ah rfl,rfl,tR⟩,tR⟩ (x1.back rfl tR ?_)
   | refine x1.pure rfl tR rfl hC9 ⟨⟨ah rfl,ah rfl,rfl,tR⟩,tR⟩ (x1.back rfl tR ?_)
   | refine x1.pure rfl tR rfl hR ⟨⟨ah rfl,ah rfl,ah rfl,ah rfl,rfl,tR⟩,⟨ah rfl,ah rfl,rfl,tR⟩,tR⟩ (x1.back rfl tR ?_)
   | refine x1.back rfl tR ?_
   | exact Or.inl .is
 refine x.pure Z tR Z hA ⟨⟨ah Z,ah Z,ah Z,ah Z,Z,tR⟩,⟨ah Z,ah Z,Z,tR⟩,tR⟩ ?_
 refine x.ev2 [0,1] [0,1,2,3,4,5] (mkO [(6,[]),(7,[6]),(8,[7]),(9,[8]),(10,[9]),(11,[8]),(12,[10,11]),(13,[12]),(14,[8]),(15,[14]),(16,[13,15]),(17,[16]),(18,[17]),(19,[18]),(20,[19]),(21,[20])] 17 []) (λs=>s.on [] [(4,vb true)] [] 4) Z tR ay (by kernel_rfl) Ret.bP Z tR (λC1 x1=>?_) ?_
 ·repeat' first
   | exact True.intro
   | refine And.intro ?_ ?_
   | refine x1.bK rfl tR rfl (λ_=>hSa) rfl ⟨⟨ah rfl,ah rfl,tR⟩,⟨ah rfl,ah rfl,tR⟩,rfl,tR⟩ (x1.back rfl tR ?_)
   | refine x1.bK rfl tR rfl (λ_=>hC6) rfl ⟨⟨ah rfl,ah rfl,ah rfl,ah rfl,rfl,tR⟩,tR⟩ (x1.back rfl tR ?_)
   | refine x1.bK rfl tR rfl (λ_=>hC9) rfl ⟨⟨ah rfl,ah rfl,rfl,tR⟩,tR⟩ (x1.back rfl tR ?_)
   | refine x1.bK rfl tR rfl (λ_=>hG) rfl ⟨⟨ah rfl,ah rfl,ah rfl,ah rfl,rfl,tR⟩,⟨ah rfl,ah rfl,rfl,tR⟩,tR⟩ (x1.back rfl tR ?_)
   | refine x1.bK rfl tR rfl (λ_=>OJ) rfl tR (x1.back rfl tR ?_)
   | refine x1.back rfl tR ?_
   | exact Or.inl (.ex [4] [] ⟨vbE (by rw[hN];simp),tR⟩ tR)
 exact x.exit Z tR ⟨.inr Z,Z,tR,Z⟩
theorem OL(p:Pol)(c:Cod)(h:JD p∧p.ins.length*24≤wz∧p.outs.length*24≤wz)(h2:Zj wz c):Pure PG 3 [qB p,rM c] (vb true) []:=
 K5 p c ⟨h.1,by obtain⟨_,h3,h4⟩:=h;unfold wz at h3 h4;omega,h2⟩
end Go.Proofs.YtojhdmfkfkfcbaaGreatDoor
namespace Go.Proofs.YtojhdmfkfkfcbaaGreatDoor
open Go.Sx
theorem Hl{H:Type}(d:DataW H):1≤Rows.uptoBulk d:=by
 cases d with
 | lit l=>cases l<;>simp [Rows.uptoBulk]
 | nil=>simp [Rows.uptoBulk]
 | ptr d=>simp [Rows.uptoBulk]
 | slice elems spare=>simp [Rows.uptoBulk]
 | agg parts=>simp [Rows.uptoBulk]
 | iface t d=>simp [Rows.uptoBulk]
 | map entries=>simp [Rows.uptoBulk]
 | held h=>simp [Rows.uptoBulk]
theorem Ho{H:Type}:∀l:List (DataW H),l.length≤Rows.uptoBulkAll l
 | []=>Nat.zero_le _
 | x::r=>by have:=Ho r;have:=Hl x;simp only[Rows.uptoBulkAll,List.length_cons];omega
def clB(P:Program)(B N:Nat):Bool:=(List.range N).all λt=>match P.underlying t with
 | some (.pointer e)=>decide (e<N)
 | some (.slice e)=>decide (e<N)&&decide (P.bytesOf e≤B)
 | some (.struct fs)=>fs.toList.all λf=>decide (f.type<N)
 | some (.array _ e)=>decide (e<N)
 | some (.map k e)=>decide (e<N)&&(decide (P.bytesOf k≤B)&&decide (P.bytesOf e≤B))
 | _=>true
section
variable{H:Type}{P:Program}{B N:Nat}
def aaX(H:Type)(P:Program)(B N k:Nat):Prop:=∀(d:DataW H) (t:TypeId),t<N->Rows.uptoBulk d≤k->∀n∈DataW.weights P t d,n≤Rows.uptoBulk d*(2*B)
theorem iZ{a b c n:Nat}(h:n≤a*c)(hab:a≤b):n≤b*c:=Nat.le_trans h (Nat.mul_le_mul_right _ hab)
theorem K6{k:Nat}(ih:aaX H P B N k)(e:TypeId)(he:e<N):∀(l:List (DataW H)),Rows.uptoBulkAll l≤k->∀n∈DataW.weightsAll P e l,n≤Rows.uptoBulkAll l*(2*B)
 | [],_,n,hn=>by simp [DataW.weightsAll] at hn
 | d::r,h,n,hn=>by
  simp only[Rows.uptoBulkAll] at h ⊢
  simp only[DataW.weightsAll,List.mem_append] at hn
  rcases hn with hn | hn
  ·exact iZ (ih d e he (by omega) n hn) (by omega)
  ·exact iZ (K6 ih e he r (by omega) n hn) (by omega)
theorem SY{k:Nat}(ih:aaX H P B N k):∀(ts:List TypeId) (l:List (DataW H)),(∀t∈ts,t<N)->Rows.uptoBulkAll l≤k->∀n∈DataW.weightsEach P ts l,n≤Rows.uptoBulkAll l*(2*B)
 | [],l,_,_,n,hn=>by cases l<;>simp [DataW.weightsEach] at hn
 | t::ts,[],_,_,n,hn=>by simp [DataW.weightsEach] at hn
 | t::ts,d::r,ht,h,n,hn=>by
  simp only[Rows.uptoBulkAll] at h ⊢
  simp only[DataW.weightsEach,List.mem_append] at hn
  rcases hn with hn | hn
  ·exact iZ (ih d t (ht t (.head _)) (by omega) n hn) (by omega)
  ·exact iZ (SY ih ts r (λt h=>ht t (.tail _ h)) (by omega) n hn) (by omega)
theorem S9(hB:1≤B){k:Nat}(ih:aaX H P B N k)(e:TypeId)(he:e<N):∀(l:List (Lit×DataW H)),Rows.uptoBulkEntries l≤k->l.length≤Rows.uptoBulkEntries l∧∀n∈DataW.weightsEntries P e l,n≤Rows.uptoBulkEntries l*(2*B)
 | [],_=>⟨Nat.zero_le _,λn hn=>by simp [DataW.weightsEntries] at hn⟩
 | (l,d)::r,h=>by
  simp only[Rows.uptoBulkEntries] at h ⊢
  obtain⟨h1,h2⟩:=S9 hB ih e he r (by omega)
  have hx:Rows.uptoBulk d+1≤Rows.uptoBulkEntry (l,d)∧∀n∈DataW.weightsEntry P e (l,d),n≤Rows.uptoBulkEntry (l,d)*(2*B):=by
   cases l with
   | string bytes=>
    simp only[Rows.uptoBulkEntry,DataW.weightsEntry,List.mem_cons] at h ⊢
    refine⟨by omega,λn hn=>?_⟩
    rcases hn with rfl | hn
    ·refine Nat.le_trans (Nat.le_mul_of_pos_right _ (show 0<2*B by omega)) (Nat.mul_le_mul_right _ (by omega))
    ·exact iZ (ih d e he (by omega) n hn) (by omega)
   | _=>
    simp only[Rows.uptoBulkEntry,DataW.weightsEntry] at h ⊢
    exact⟨Nat.le_refl _,λn hn=>iZ (ih d e he (by omega) n hn) (by omega)⟩
  refine⟨by simp only[List.length_cons];have:=Hl d;omega,λn hn=>?_⟩
  simp only[DataW.weightsEntries,List.mem_append] at hn
  rcases hn with hn | hn
  ·exact iZ (hx.2 n hn) (by omega)
  ·exact iZ (h2 n hn) (by omega)
theorem abA(hB:1≤B)(hb:clB P B N=true):∀k,aaX H P B N k
 | 0=>λd t _ h=>by have:=Hl d;omega
 | k+1=>λd t ht h n hn=>by
  have ih:=abA hB hb k
  have hc:=List.all_eq_true.1 hb t (List.mem_range.2 ht)
  cases d with
  | lit l=>
   cases l with
   | string bytes=>
    simp only[DataW.weights,List.mem_singleton] at hn
    subst hn
    simp only[Rows.uptoBulk]
    exact Nat.le_trans (Nat.le_mul_of_pos_right _ (show 0<2*B by omega)) (Nat.mul_le_mul_right _ (by omega))
   | _=>simp [DataW.weights] at hn
  | nil=>simp [DataW.weights] at hn
  | ptr d=>
   simp only[Rows.uptoBulk] at h ⊢
   simp only[DataW.weights] at hn
   split at hn
   ·rename_i e he
    rw[he] at hc
    exact iZ (ih d _ (afH hc) (by omega) n hn) (by omega)
   ·simp at hn
  | slice elems spare=>
   simp only[Rows.uptoBulk] at h ⊢
   simp only[DataW.weights] at hn
   have h1:=Ho elems
   have h2:=Ho spare
   split at hn
   ·rename_i e he
    rw[he] at hc
    simp only[afF,afL] at hc
    rcases List.mem_cons.1 hn with rfl | hn
    ·refine Nat.le_trans (Nat.mul_le_mul_left _ hc.2) ?_
     exact Nat.mul_le_mul (by omega) (by omega)
    ·rcases List.mem_append.1 hn with hn | hn
     ·exact iZ (K6 ih _ hc.1 elems (by omega) n hn) (by omega)
     ·exact iZ (K6 ih _ hc.1 spare (by omega) n hn) (by omega)
   ·simp at hn
  | agg parts=>
   simp only[Rows.uptoBulk] at h ⊢
   simp only[DataW.weights] at hn
   split at hn
   ·rename_i fs he
    rw[he] at hc
    refine iZ (SY ih _ parts (λu hu=>?_) (by omega) n hn) (by omega)
    obtain⟨f,hf,rfl⟩:=List.mem_map.1 hu
    exact afH (List.all_eq_true.1 hc f hf)
   ·rename_i m e he
    rw[he] at hc
    exact iZ (K6 ih _ (afH hc) parts (by omega) n hn) (by omega)
   ·simp at hn
  | iface s d=>simp [DataW.weights] at hn
  | map es=>
   simp only[Rows.uptoBulk] at h ⊢
   simp only[DataW.weights] at hn
   split at hn
   ·rename_i kk e he
    rw[he] at hc
    simp only[afF,afL] at hc
    obtain⟨h1,h2⟩:=S9 hB ih e hc.1 es (by omega)
    rcases List.mem_cons.1 hn with rfl | hn
    ·have:=hc.2.1
     have:=hc.2.2
     exact Nat.mul_le_mul (by omega) (by omega)
    ·exact iZ (h2 n hn) (by omega)
   ·simp at hn
  | held h=>simp [DataW.weights] at hn
theorem AX(hB:1≤B)(hb:clB P B N=true){d:DataW H}{t:TypeId}(ht:t<N){K:Nat}(h:Rows.uptoBulk d≤K):∀n∈DataW.weights P t d,n≤K*(2*B):=λn hn=>iZ (abA hB hb _ d t ht (Nat.le_refl _) n hn) h
end
end Go.Proofs.YtojhdmfkfkfcbaaGreatDoor
